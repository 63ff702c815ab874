/- Maps keyed by strings: what a block holds, as a list of pairs in the order of laying; looking up, storing, counting. No program in sight. -/
import Derived.Test.YtnifkpcjpjgkeaaGreatDoorB00
import Derived.Maps.OwnSet
namespace Go.Proofs.YtnifkpcjpjgkeaaGreatDoor
open Go.RowKit

/-- The element at a key. -/
def mget {α : Type} : List (ByteArray × α) → ByteArray → Option α
  | [], _ => none
  | p :: r, s => if p.1 = s then some p.2 else mget r s

/-- A store. -/
def mput {α : Type} : List (ByteArray × α) → ByteArray → α → List (ByteArray × α)
  | [], s, v => [(s, v)]
  | p :: r, s, v => if p.1 = s then (s, v) :: r else p :: mput r s v

theorem mget_mput_same {α : Type} (m : List (ByteArray × α)) (s : ByteArray) (v : α) : mget (mput m s v) s = some v := by
  induction m with
  | nil => simp [mput, mget]
  | cons p r ih =>
    unfold mput
    split
    · simp [mget]
    · rename_i h; simp [mget, h, ih]
theorem mget_mput_other {α : Type} (m : List (ByteArray × α)) (s t : ByteArray) (v : α) (h : t ≠ s) : mget (mput m s v) t = mget m t := by
  induction m with
  | nil => simp [mput, mget, Ne.symm h]
  | cons p r ih =>
    unfold mput
    split
    · rename_i e; simp [mget, Ne.symm h, e]
    · simp [mget, ih]
theorem mget_none {α : Type} {m : List (ByteArray × α)} {s : ByteArray} : mget m s = none ↔ s ∉ m.map (·.1) := by
  induction m with
  | nil => simp [mget]
  | cons p r ih =>
    unfold mget
    split
    · rename_i e; simp [e]
    · rename_i e; simp [ih]; exact fun _ h => e h.symm
theorem mput_keys {α : Type} (m : List (ByteArray × α)) (s : ByteArray) (v : α) : (mput m s v).map (·.1) = if (mget m s).isSome then m.map (·.1) else m.map (·.1) ++ [s] := by
  induction m with
  | nil => simp [mput, mget]
  | cons p r ih =>
    unfold mput mget
    by_cases e : p.1 = s
    · simp [e]
    · rw [if_neg e, if_neg e, List.map_cons, ih, List.map_cons]
      cases (mget r s).isSome <;> simp
theorem mput_nodup {α : Type} {m : List (ByteArray × α)} (h : (m.map (·.1)).Nodup) (s : ByteArray) (v : α) : ((mput m s v).map (·.1)).Nodup := by
  rw [mput_keys]
  split
  · exact h
  · rename_i hs
    have hn : mget m s = none := by simpa using hs
    exact List.nodup_append.2 ⟨h, by simp, fun a ha b hb => by simp at hb; subst hb; exact fun e => (mget_none.1 hn) (e ▸ ha)⟩
theorem mput_length {α : Type} (m : List (ByteArray × α)) (s : ByteArray) (v : α) : (mput m s v).length = if (mget m s).isSome then m.length else m.length + 1 := by
  have := congrArg List.length (mput_keys m s v)
  simp only [List.length_map] at this
  rw [this]
  cases (mget m s).isSome <;> simp

/-- Block b is a map with these entries, keys apart. -/
def SMap (w : World) (b : Nat) (m : List (ByteArray × Value)) : Prop :=
  ∃ es clock, w.heap[b]? = some (.map es clock) ∧ MapKept.Stamped es clock ∧ es.toList.map (fun e => (e.key, e.val)) = m.map (fun p => (Value.string p.1, p.2))

theorem SMap.lt {w : World} {b : Nat} {m : List (ByteArray × Value)} (h : SMap w b m) : b < w.heap.size := by
  obtain ⟨es, clock, hb, _⟩ := h
  exact (Array.getElem?_eq_some_iff.1 hb).1
theorem SMap.keep {w w' : World} {b : Nat} {m : List (ByteArray × Value)} (h : SMap w b m) (hk : w'.heap[b]? = w.heap[b]?) : SMap w' b m := by
  obtain ⟨es, clock, hb, r⟩ := h
  exact ⟨es, clock, hk.trans hb, r⟩
theorem SMap.nodup {w : World} {b : Nat} {m : List (ByteArray × Value)} (h : SMap w b m) : (m.map (·.1)).Nodup := by
  obtain ⟨es, clock, hb, hs, he⟩ := h
  have e1 : es.toList.map (·.key) = (m.map (·.1)).map Value.string := by
    have := congrArg (List.map Prod.fst) he
    simpa [List.map_map, Function.comp_def] using this
  have := hs.2.2
  rw [e1] at this
  exact (List.pairwise_map.1 this).imp (fun {a b} hne e => hne (by rw [e]))
theorem SMap.made (w : World) : SMap (w.alloc (.map #[] 0)) w.heap.size [] :=
  ⟨#[], 0, (MapKept.heap_alloc w _).1, MapKept.stamped_empty 0, rfl⟩

theorem SMap.isKey {es : Array MapEntry} {m : List (ByteArray × Value)} (he : es.toList.map (fun e => (e.key, e.val)) = m.map (fun p => (Value.string p.1, p.2))) : ∀ x ∈ es.toList, MapKept.IsKey .string x.key := by
  intro x hx
  have : (x.key, x.val) ∈ es.toList.map (fun e => (e.key, e.val)) := List.mem_map.2 ⟨x, hx, rfl⟩
  rw [he] at this
  obtain ⟨p, _, e⟩ := List.mem_map.1 this
  have e1 : x.key = .string p.1 := (Prod.mk.inj e).1.symm
  rw [e1]
  trivial

theorem find_get : ∀ (l : List MapEntry) (m : List (ByteArray × Value)) (s : ByteArray) (i : Nat), l.map (fun e => (e.key, e.val)) = m.map (fun p => (Value.string p.1, p.2)) →
    (Instr.findNow .string (.string s) l i = some none ∧ mget m s = none ∧ (∀ x ∈ l, x.key ≠ .string s)) ∨ ∃ j e, Instr.findNow .string (.string s) l i = some (some (i + j, e.val)) ∧ l[j]? = some e ∧ e.key = .string s ∧ mget m s = some e.val ∧
      ∀ v, (l.set j { e with key := .string s, val := v }).map (fun e => (e.key, e.val)) = (mput m s v).map (fun p => (Value.string p.1, p.2))
  | [], m, s, i, he => by
    cases m with
    | nil => exact .inl ⟨rfl, rfl, by simp⟩
    | cons p r => simp at he
  | x :: l, m, s, i, he => by
    cases m with
    | nil => simp at he
    | cons p r =>
      simp only [List.map_cons, List.cons.injEq, Prod.mk.injEq] at he
      obtain ⟨⟨h1, h2⟩, h3⟩ := he
      by_cases e : s = p.1
      · subst e
        exact .inr ⟨0, x, by simp [Instr.findNow, h1, Instr.sameNow, (MapKept.bytes_beq _ _).2], rfl, h1, by simp [mget, h2], fun v => by simp [mput, h3]⟩
      · have hb : (s == p.1) = false := by
          cases hh : (s == p.1) with
          | false => rfl
          | true => exact absurd ((MapKept.bytes_beq _ _).1 hh) e
        have hne : x.key ≠ .string s := fun q => e (by rw [h1] at q; cases q; rfl)
        rcases find_get l r s (i + 1) h3 with ⟨f1, f2, f3⟩ | ⟨j, e0, f1, f2, f3, f4, f5⟩
        · exact .inl ⟨by simp [Instr.findNow, h1, Instr.sameNow, hb, f1], by simp [mget, Ne.symm e, f2], fun y hy => by
            cases hy with
            | head => exact hne
            | tail _ hy => exact f3 y hy⟩
        · exact .inr ⟨j + 1, e0, by simp [Instr.findNow, h1, Instr.sameNow, hb, f1]; omega, by simpa using f2, f3, by simp [mget, Ne.symm e, f4], fun v => by
            simp only [List.set_cons_succ, List.map_cons, mput, if_neg (Ne.symm e), f5 v, h1, h2]⟩

section
variable {P : Program} {t k e : TypeId} {w : World} {b : Nat} {m : List (ByteArray × Value)}

theorem SMap.look (h : SMap w b m) (ht : P.underlying t = some (.map k e)) (hk : P.underlying k = some .string) {z : Value} (hz : (zeroValue e).run P w = .ok z w) (s : ByteArray) :
    (Instr.lookup t (.map (some b)) (.string s) false).run P w = .ok ((mget m s).getD z) w := by
  obtain ⟨es, clock, hb, hs, he⟩ := h
  rcases find_get es.toList m s 0 he with ⟨f1, f2, f3⟩ | ⟨j, e0, f1, f2, f3, f4, f5⟩
  · simp [Instr.lookup, run_underlying ht, MapKept.run_getObj_map hb, MapKept.run_checkKey (d := .string) (k := .string s) hk trivial, MapKept.run_findKey hk f1, hz, Result.andThen, f2]
  · simp [Instr.lookup, run_underlying ht, MapKept.run_getObj_map hb, MapKept.run_checkKey (d := .string) (k := .string s) hk trivial, MapKept.run_findKey hk f1, Result.andThen, f4]
theorem SMap.look2 (h : SMap w b m) (ht : P.underlying t = some (.map k e)) (hk : P.underlying k = some .string) {z : Value} (hz : (zeroValue e).run P w = .ok z w) (s : ByteArray) :
    (Instr.lookup t (.map (some b)) (.string s) true).run P w = .ok (.tuple #[(mget m s).getD z, .bool (mget m s).isSome]) w := by
  obtain ⟨es, clock, hb, hs, he⟩ := h
  rcases find_get es.toList m s 0 he with ⟨f1, f2, f3⟩ | ⟨j, e0, f1, f2, f3, f4, f5⟩
  · simp [Instr.lookup, run_underlying ht, MapKept.run_getObj_map hb, MapKept.run_checkKey (d := .string) (k := .string s) hk trivial, MapKept.run_findKey hk f1, hz, Result.andThen, f2]
  · simp [Instr.lookup, run_underlying ht, MapKept.run_getObj_map hb, MapKept.run_checkKey (d := .string) (k := .string s) hk trivial, MapKept.run_findKey hk f1, Result.andThen, f4]
theorem SMap.len (h : SMap w b m) (ht : P.underlying t = some (.map k e)) (ty : TypeId) : (Builtin.len_ #[t] ty #[.map (some b)]).run P w = .ok (.int .i64 m.length) w := by
  obtain ⟨es, clock, hb, hs, he⟩ := h
  have e1 : es.size = m.length := by simpa using congrArg List.length he
  simp [Builtin.len_, run_underlying ht, MapKept.run_getObj_map hb, goInt, Result.andThen, e1]
/-- The world behind a store: the map's block alone is another. -/
theorem SMap.put (h : SMap w b m) (ht : P.underlying t = some (.map k e)) (hk : P.underlying k = some .string) (s : ByteArray) (v : Value) :
    ∃ w', (Instr.mapUpdate t (.map (some b)) (.string s) v).run P w = .ok () w' ∧ SMap w' b (mput m s v) ∧ w.grownBy w' (some b) := by
  obtain ⟨es, clock, hb, hs, he⟩ := h
  have grow : ∀ o, w.grownBy (ChangeMaps.setBlock w b o) (some b) := fun o => ⟨rfl, rfl, rfl, by simp [ChangeMaps.setBlock], fun i _ hi => (MapKept.heap_set hb).2 i (fun q => hi (by rw [q]))⟩
  rcases find_get es.toList m s 0 he with ⟨f1, f2, f3⟩ | ⟨j, e0, f1, f2, f3, f4, f5⟩
  · refine ⟨ChangeMaps.setBlock w b (.map (es.push ⟨.string s, v, clock⟩) (clock + 1)), ?_, ⟨_, _, (MapKept.heap_set hb).1, MapKept.stamped_push hs f3, ?_⟩, grow _⟩
    · simp [Instr.mapUpdate, run_underlying ht, MapKept.run_getObj_map hb, MapKept.run_checkKey (d := .string) (k := .string s) hk trivial, MapKept.run_findKey hk f1, MapKept.run_setObj_map _ hb, Result.andThen, ChangeMaps.setBlock]
    · have : ∀ (l : List (ByteArray × Value)), mget l s = none → mput l s v = l ++ [(s, v)] := by
        intro l
        induction l with
        | nil => intro _; rfl
        | cons p r ih =>
          intro hl
          unfold mget at hl
          split at hl
          · cases hl
          · rename_i q; simp [mput, q, ih hl]
      rw [this m f2]
      simp [he]
  · have hj : es[j]? = some e0 := by simpa using f2
    refine ⟨ChangeMaps.setBlock w b (.map (es.modify j (fun e' => { e' with key := .string s, val := v })) clock), ?_, ⟨_, _, (MapKept.heap_set hb).1, MapKept.stamped_modify hs _ _ (fun _ _ => rfl) (fun e' _ he' => by rw [hj] at he'; cases he'; exact f3.symm), ?_⟩, grow _⟩
    · have hst : (Instr.keyThatStays (.string s) (.string s)).run P w = .ok (.string s) w := by
        simp [Instr.keyThatStays, Instr.sameBits, (MapKept.bytes_beq _ _).2]
      simp [Instr.mapUpdate, run_underlying ht, MapKept.run_getObj_map hb, MapKept.run_checkKey (d := .string) (k := .string s) hk trivial, MapKept.run_findKey hk f1, hj, f3, hst, MapKept.run_setObj_map _ hb, Result.andThen, ChangeMaps.setBlock]
    · rw [← f5 v, Array.toList_modify, ChangeMaps.modify_eq_set _ _ _ _ f2]
end

section
variable {P : Program} (w : World) {ops : Array Oper} {rest : List Oper} {o : Oper} {a : Act} {Q : Exit → Act → World → Prop}
/-- 'm[k]' at the operation. -/
theorem wpList_look (hg : o.guard = none) (m x : Operand) (t : TypeId) (hop : o.op = Op.lookup t m x false) (k e : TypeId) (ht : P.underlying t = some (.map k e)) (hk : P.underlying k = some .string)
    {z : Value} (hz : (zeroValue e).run P w = .ok z w) (b : Nat) (M : List (ByteArray × Value)) (hm : a.eval m = .map (some b)) (h : SMap w b M) (s : ByteArray) (hx : a.eval x = .string s)
    (hK : wpList P ops Q rest (a.put o.dst ((mget M s).getD z)) w) : wpList P ops Q (o :: rest) a w := by
  refine wpList_plain hg fun K' hK' => ?_
  unfold Oper.wp
  simp [execOp, hop, hm, hx, h.look ht hk hz, Result.andThen]
  exact hK' _ _ hK
/-- 'v, ok := m[k]' at the operation. -/
theorem wpList_look2 (hg : o.guard = none) (m x : Operand) (t : TypeId) (hop : o.op = Op.lookup t m x true) (k e : TypeId) (ht : P.underlying t = some (.map k e)) (hk : P.underlying k = some .string)
    {z : Value} (hz : (zeroValue e).run P w = .ok z w) (b : Nat) (M : List (ByteArray × Value)) (hm : a.eval m = .map (some b)) (h : SMap w b M) (s : ByteArray) (hx : a.eval x = .string s)
    (hK : wpList P ops Q rest (a.put o.dst (.tuple #[(mget M s).getD z, .bool (mget M s).isSome])) w) : wpList P ops Q (o :: rest) a w := by
  refine wpList_plain hg fun K' hK' => ?_
  unfold Oper.wp
  simp [execOp, hop, hm, hx, h.look2 ht hk hz, Result.andThen]
  exact hK' _ _ hK
/-- 'm[k] = v' at the operation. -/
theorem wpList_put (hg : o.guard = none) (m x v : Operand) (t : TypeId) (hop : o.op = Op.mapUpdate t m x v) (k e : TypeId) (ht : P.underlying t = some (.map k e)) (hk : P.underlying k = some .string)
    (b : Nat) (M : List (ByteArray × Value)) (hm : a.eval m = .map (some b)) (h : SMap w b M) (s : ByteArray) (hx : a.eval x = .string s) (val : Value) (hv : a.eval v = val)
    (hK : ∀ w', SMap w' b (mput M s val) → w.grownBy w' (some b) → wpList P ops Q rest (a.put o.dst undef) w') : wpList P ops Q (o :: rest) a w := by
  refine wpList_plain hg fun K' hK' => ?_
  obtain ⟨w', hrun, r1, r2⟩ := h.put ht hk s val
  unfold Oper.wp
  simp [execOp, hop, hm, hx, hv, hrun, Result.andThen]
  exact hK' _ _ (hK w' r1 r2)
end
end Go.Proofs.YtnifkpcjpjgkeaaGreatDoor
