/- Maps keyed by texts, by what their elements say; slices of the call's own that begin anywhere in their row. No program in sight. -/
import Derived.Test.YtnifkpcjpjgkeaaGreatDoorB07
namespace Go.Proofs.YtnifkpcjpjgkeaaGreatDoor
open Go.RowKit

/-- Block b is a map that reads as M. -/
def XMap {α : Type} (f : α → Value) (w : World) (b : Nat) (M : List (ByteArray × α)) : Prop := SMap w b (M.map fun p => (p.1, f p.2))

theorem mget_map {α β : Type} (f : α → β) (M : List (ByteArray × α)) (s : ByteArray) : mget (M.map fun p => (p.1, f p.2)) s = (mget M s).map f := by
  induction M with
  | nil => rfl
  | cons p r ih =>
    simp only [List.map_cons, mget]
    split
    · rfl
    · exact ih
theorem mput_map {α β : Type} (f : α → β) (M : List (ByteArray × α)) (s : ByteArray) (v : α) : mput (M.map fun p => (p.1, f p.2)) s (f v) = (mput M s v).map fun p => (p.1, f p.2) := by
  induction M with
  | nil => rfl
  | cons p r ih =>
    simp only [List.map_cons, mput]
    split
    · rfl
    · simp [ih]

theorem XMap.lt {α : Type} {f : α → Value} {w : World} {b : Nat} {M : List (ByteArray × α)} (h : XMap f w b M) : b < w.heap.size := SMap.lt h
theorem XMap.keep {α : Type} {f : α → Value} {w w' : World} {b : Nat} {M : List (ByteArray × α)} (h : XMap f w b M) (hk : w'.heap[b]? = w.heap[b]?) : XMap f w' b M := SMap.keep h hk
theorem XMap.below {α : Type} {f : α → Value} {w w' : World} {b : Nat} {M : List (ByteArray × α)} (h : XMap f w b M) (hk : Below w.heap.size w w') : XMap f w' b M := h.keep (hk.block b h.lt)
theorem XMap.made {α : Type} (f : α → Value) (w : World) : XMap f (w.alloc (.map #[] 0)) w.heap.size [] := SMap.made w
theorem XMap.nodup {α : Type} {f : α → Value} {w : World} {b : Nat} {M : List (ByteArray × α)} (h : XMap f w b M) : (M.map (·.1)).Nodup := by
  have := SMap.nodup h
  simpa [List.map_map, Function.comp_def] using this

section
variable {P : Program} (w : World) {ops : Array Oper} {rest : List Oper} {o : Oper} {a : Act'} {Q : Exit → Act' → World → Prop} {α : Type}
theorem wpList_xlook (hg : o.guard = none) (m x : Operand) (t : TypeId) (hop : o.op = Op.lookup t m x false) (k e : TypeId) (ht : P.underlying t = some (.map k e)) (hk : P.underlying k = some .string)
    (f : α → Value) (d : α) (hz : (zeroValue e).run P w = .ok (f d) w) (b : Nat) (M : List (ByteArray × α)) (hm : a.eval m = .map (some b)) (h : XMap f w b M) (s : ByteArray) (hx : a.eval x = .string s)
    (hK : wpList P ops Q rest (a.put o.dst (f ((mget M s).getD d))) w) : wpList P ops Q (o :: rest) a w := by
  refine wpList_look w hg m x t hop k e ht hk hz b _ hm h s hx ?_
  rw [mget_map]
  have : ((mget M s).map f).getD (f d) = f ((mget M s).getD d) := by cases mget M s <;> rfl
  rw [this]
  exact hK
theorem wpList_xlook2 (hg : o.guard = none) (m x : Operand) (t : TypeId) (hop : o.op = Op.lookup t m x true) (k e : TypeId) (ht : P.underlying t = some (.map k e)) (hk : P.underlying k = some .string)
    (f : α → Value) (d : α) (hz : (zeroValue e).run P w = .ok (f d) w) (b : Nat) (M : List (ByteArray × α)) (hm : a.eval m = .map (some b)) (h : XMap f w b M) (s : ByteArray) (hx : a.eval x = .string s)
    (hK : wpList P ops Q rest (a.put o.dst (.tuple #[f ((mget M s).getD d), .bool (mget M s).isSome])) w) : wpList P ops Q (o :: rest) a w := by
  refine wpList_look2 w hg m x t hop k e ht hk hz b _ hm h s hx ?_
  rw [mget_map]
  have : ((mget M s).map f).getD (f d) = f ((mget M s).getD d) := by cases mget M s <;> rfl
  rw [this]
  have : ((mget M s).map f).isSome = (mget M s).isSome := by cases mget M s <;> rfl
  rw [this]
  exact hK
theorem wpList_xput (hg : o.guard = none) (m x v : Operand) (t : TypeId) (hop : o.op = Op.mapUpdate t m x v) (k e : TypeId) (ht : P.underlying t = some (.map k e)) (hk : P.underlying k = some .string)
    (f : α → Value) (b : Nat) (M : List (ByteArray × α)) (hm : a.eval m = .map (some b)) (h : XMap f w b M) (s : ByteArray) (hx : a.eval x = .string s) (val : α) (hv : a.eval v = f val)
    (hK : ∀ w', XMap f w' b (mput M s val) → w.grownBy w' (some b) → wpList P ops Q rest (a.put o.dst undef) w') : wpList P ops Q (o :: rest) a w :=
  wpList_put w hg m x v t hop k e ht hk b _ hm h s hx (f val) hv (fun w' h1 h2 => hK w' (by unfold XMap; rw [← mput_map]; exact h1) h2)
end
theorem XMap.run_len {P : Program} {t k e : TypeId} {w : World} {b : Nat} {α : Type} {f : α → Value} {M : List (ByteArray × α)} (h : XMap f w b M) (ht : P.underlying t = some (.map k e)) (ty : TypeId) : (Builtin.len_ #[t] ty #[.map (some b)]).run P w = .ok (.int .i64 M.length) w := by
  have := SMap.len h ht ty
  simpa using this
theorem XMap.run_look {P : Program} {t k e : TypeId} {w : World} {b : Nat} {α : Type} {f : α → Value} {M : List (ByteArray × α)} (h : XMap f w b M) (ht : P.underlying t = some (.map k e)) (hk : P.underlying k = some .string) (d : α) (hz : (zeroValue e).run P w = .ok (f d) w) (s : ByteArray) :
    (Instr.lookup t (.map (some b)) (.string s) false).run P w = .ok (f ((mget M s).getD d)) w := by
  have := SMap.look h ht hk hz s
  rw [mget_map] at this
  rw [this]
  cases mget M s <;> rfl
/-- A store as one step of a region that draws its order. -/
theorem step_xput {P : Program} {ops : Array Oper} {o : Oper} {a : Act'} {w : World} {K : Act' → World → Prop} {Q : Exit → Act' → World → Prop} {E : Prop} {α : Type}
    (hg : o.guard = none) (m x v : Operand) (t : TypeId) (hop : o.op = Op.mapUpdate t m x v) (k e : TypeId) (ht : P.underlying t = some (.map k e)) (hk : P.underlying k = some .string)
    (f : α → Value) (b : Nat) (M : List (ByteArray × α)) (hm : a.eval m = .map (some b)) (h : XMap f w b M) (s : ByteArray) (hx : a.eval x = .string s) (val : α) (hv : a.eval v = f val)
    (hK : ∀ w', XMap f w' b (mput M s val) → w.grownBy w' (some b) → K (a.put o.dst undef) w') :
    if Region.wanted o (yielded ops a.tmps) = true then Oper.wp P o a w K Q else E := by
  have hw : Region.wanted o (yielded ops a.tmps) = true := by simp [Region.wanted, hg]
  rw [if_pos hw]
  obtain ⟨w', hrun, r1, r2⟩ := SMap.put h ht hk s (f val)
  unfold Oper.wp
  simp [execOp, hop, hm, hx, hv, hrun, Result.andThen]
  exact hK w' (by unfold XMap; rw [← mput_map]; exact r1) r2

/-- v is a slice of n elements (size cells each) of the call's own, anywhere in a row from block base on; its cells are xs; what lies behind it up to the capacity is there and can be written. -/
def OwnS (base : Nat) (size : Nat) (w : World) (v : Value) (n : Nat) (xs : List Value) : Prop :=
  xs.length = n * size ∧ ((v = .slice none 0 0 ∧ n = 0) ∨ ∃ g off cap, v = .slice (some ⟨g, off, none⟩) n cap ∧ base ≤ g ∧ g < w.heap.size ∧ n ≤ cap ∧ (∀ j, j < n * size → w.cell? ⟨g, off + j, none⟩ = xs[j]?) ∧
    ∀ j, j < cap * size → (w.cell? ⟨g, off + j, none⟩).isSome = true ∧ w.frozen? ⟨g, off + j, none⟩ = false)

theorem OwnS.of_row {w : World} {base e size n : Nat} {v : Value} {xs : List Value} (h : w.ownsRow base e size v n xs) : OwnS base size w v n xs := by
  refine ⟨h.1, ?_⟩
  rcases h.2 with h2 | ⟨g, cap, cur, rfl, hg, hh, hn, hm, hs, hx⟩
  · exact .inl h2
  · refine .inr ⟨g, 0, cap, rfl, hg, (Array.getElem?_eq_some_iff.1 hh).1, hn, fun j hj => by rw [Nat.zero_add]; exact h.cellAt j hj, fun j hj => ⟨?_, ?_⟩⟩
    · simp [World.cell?, hh, hs, hj]
    · simp [World.frozen?, hh]
theorem OwnS.keep {w w' : World} {base size n : Nat} {v : Value} {xs : List Value} (h : OwnS base size w v n xs) (hz : w.heap.size ≤ w'.heap.size) (hk : ∀ g, base ≤ g → g < w.heap.size → v.ownBlock = some g → w'.heap[g]? = w.heap[g]?) : OwnS base size w' v n xs := by
  refine ⟨h.1, ?_⟩
  rcases h.2 with h2 | ⟨g, off, cap, rfl, hg, hlt, hn, hc, hr⟩
  · exact .inl h2
  · have e := hk g hg hlt rfl
    exact .inr ⟨g, off, cap, rfl, hg, by omega, hn, fun j hj => (World.cell?_of_block (w := w) (a := ⟨g, off + j, none⟩) e).trans (hc j hj), fun j hj => ⟨by rw [World.cell?_of_block (w := w) (a := ⟨g, off + j, none⟩) e]; exact (hr j hj).1, by rw [World.frozen?_of_block (w := w) (a := ⟨g, off + j, none⟩) e]; exact (hr j hj).2⟩⟩
theorem OwnS.below {w w' : World} {base size n : Nat} {v : Value} {xs : List Value} (h : OwnS base size w v n xs) (hb : Below w.heap.size w w') : OwnS base size w' v n xs := h.keep hb.size (fun g _ hlt _ => hb.block g hlt)
theorem OwnS.cell {w : World} {base size n : Nat} {v : Value} {xs : List Value} (h : OwnS base size w v n xs) (h0 : n ≠ 0) :
    ∃ g off cap, v = .slice (some ⟨g, off, none⟩) n cap ∧ n ≤ cap ∧ base ≤ g ∧ g < w.heap.size ∧ ∀ j, j < n * size → w.cell? ⟨g, off + j, none⟩ = xs[j]? := by
  rcases h.2 with ⟨_, h2⟩ | ⟨g, off, cap, rfl, hg, hlt, hn, hc, _⟩
  · exact absurd h2 h0
  · exact ⟨g, off, cap, rfl, hn, hg, hlt, hc⟩
theorem OwnS.block {w : World} {base size n : Nat} {v : Value} {xs : List Value} (h : OwnS base size w v n xs) : ∀ g, v.ownBlock = some g → base ≤ g ∧ g < w.heap.size := by
  intro g hg
  rcases h.2 with ⟨rfl, _⟩ | ⟨g', off, cap, rfl, hg', hlt, _⟩
  · simp [Value.ownBlock] at hg
  · simp [Value.ownBlock] at hg; omega
theorem OwnS.form {w : World} {base size n : Nat} {v : Value} {xs : List Value} (h : OwnS base size w v n xs) : ∃ a cap, v = .slice a n cap ∧ n ≤ cap := by
  rcases h.2 with ⟨rfl, rfl⟩ | ⟨g, off, cap, rfl, _, _, hn, _⟩
  · exact ⟨none, 0, rfl, Nat.le_refl _⟩
  · exact ⟨_, _, rfl, hn⟩

theorem size_setCells (b : Nat) : ∀ (vs : List Value) (o : Nat) (w : World), (w.setCells b o vs).heap.size = w.heap.size
  | [], _, _ => rfl
  | v :: r, o, w => by rw [World.setCells, size_setCells b r]; simp
theorem heap_setCells (b : Nat) : ∀ (vs : List Value) (o : Nat) (w : World) (k : Nat), k ≠ b → (w.setCells b o vs).heap[k]? = w.heap[k]?
  | [], _, _, _, _ => rfl
  | v :: r, o, w, k, h => by rw [World.setCells, heap_setCells b r _ _ k h, Below.heap_setCell _ _ _ _ h]
theorem tape_setCells (b : Nat) : ∀ (vs : List Value) (o : Nat) (w : World), (w.setCells b o vs).tape = w.tape ∧ (w.setCells b o vs).os = w.os ∧ (w.setCells b o vs).output = w.output
  | [], _, _ => ⟨rfl, rfl, rfl⟩
  | v :: r, o, w => by rw [World.setCells]; have := tape_setCells b r (o + 1) (w.setCell ⟨b, o, none⟩ v); exact this

section
variable {P : Program} {w : World}
/-- append of whatever slice that is read, onto a slice of the call's own. -/
theorem run_append_S (t ty e : TypeId) (i : TypeInfo) (z : Value) (size bytes : Nat) (ht : P.underlying t = some (.slice e)) (hi : P.info? e = some i) (hz : i.zero = some z)
    (hsize : i.size = size) (hby : i.bytes = bytes) (hzs : z.cells.size = size) (hsz : 0 < size)
    (base : Nat) (v : Value) (n : Nat) (xs : List Value) (h : OwnS base size w v n xs) (a : Option Addr) (m c : Nat) (news : List Value) (hl : news.length = m * size)
    (hnews : m = 0 ∨ ∃ ad, a = some ad ∧ ∀ j u, news[j]? = some u → w.cell? (ad.add j) = some u) (h1 : ∀ u ∈ news, u.oneCell' = true) (h63 : n + m ≤ maxLen) (hbytes : (n + m) * bytes ≤ 140737488355328) (hbase : base ≤ w.heap.size) :
    ∃ v' w', (Builtin.append_ #[t, t] ty #[v, .slice a m c]).run P w = .ok v' w' ∧ OwnS base size w' v' (n + m) (xs ++ news) ∧ w.grownBy w' v.ownBlock := by
  rcases hnews with rfl | ⟨ad, rfl, hnews⟩
  · have e0 : news = [] := List.eq_nil_of_length_eq_zero (by simpa using hl)
    subst e0
    refine ⟨v, w, ?_, by simpa using h, World.grownBy.refl _ _⟩
    obtain ⟨b, cap, rfl, hn⟩ := h.form
    cases a <;> cases b <;> simp [Builtin.append_, run_underlying ht, sizeOf, typeInfo, hi, Builtin.lenOf, Builtin.firstCells, hn, storeCells, loadCells, loadCellsFrom]
  · rcases h.2 with ⟨rfl, rfl⟩ | ⟨g, off, cap, rfl, hg, hlt, hn, hc, hr⟩
    · have e0 : xs = [] := List.eq_nil_of_length_eq_zero (by simpa using h.1)
      subst e0
      obtain ⟨v', w', r1, r2, r3, _⟩ := run_append_own (P := P) w base t ty e i z size bytes ht hi hz hsize hby hzs hsz (.slice none 0 0) 0 [] (World.ownsRow_nil w _ e size) ad m c news hl hnews h1 h63 hbytes hbase
      exact ⟨v', w', r1, OwnS.of_row r2, r3⟩
    · by_cases hroom : n + m ≤ cap
      · subst hsize
        have hsp : ∀ j, j < news.length → (w.cell? ⟨g, off + n * i.size + j, none⟩).isSome = true ∧ w.frozen? ⟨g, off + n * i.size + j, none⟩ = false := fun j hj => by
          have hle : n * i.size + j < cap * i.size := by
            have : (n + m) * i.size ≤ cap * i.size := Nat.mul_le_mul_right _ hroom
            rw [Nat.add_mul] at this
            omega
          have := hr (n * i.size + j) hle
          rwa [← Nat.add_assoc] at this
        have hrun := run_append_room_cells (P := P) w t ty e i ht hi g off n cap ad m c news hl hnews h1 hroom (fun j hj => (hsp j hj).1) (fun j hj => (hsp j hj).2)
        refine ⟨_, _, hrun, ⟨by rw [List.length_append, h.1, hl, Nat.add_mul], .inr ⟨g, off, cap, rfl, hg, by rw [size_setCells]; exact hlt, hroom, fun j hj => ?_, fun j hj => ⟨?_, ?_⟩⟩⟩, ?_⟩
        · by_cases hjn : j < n * i.size
          · rw [World.cell?_setCells_out g news _ w ⟨g, off + j, none⟩ (fun _ _ => .inl (by show off + j < _; omega)), hc j hjn, List.getElem?_append_left (by rw [h.1]; exact hjn)]
          · have hj2 : j - n * i.size < news.length := by rw [hl]; rw [Nat.add_mul] at hj; omega
            have := World.cell?_setCells_in g news (off + n * i.size) w (fun j hj => (hsp j hj).1) (j - n * i.size) hj2
            rw [show off + n * i.size + (j - n * i.size) = off + j by omega] at this
            rw [this, List.getElem?_append_right (by rw [h.1]; omega), h.1, List.getElem?_eq_getElem hj2]
        · by_cases hjn : off + j < off + n * i.size ∨ off + n * i.size + news.length ≤ off + j
          · rw [World.cell?_setCells_out g news _ w ⟨g, off + j, none⟩ (fun _ _ => hjn)]; exact (hr j hj).1
          · have hj2 : j - n * i.size < news.length := by omega
            have := World.cell?_setCells_in g news (off + n * i.size) w (fun j hj => (hsp j hj).1) (j - n * i.size) hj2
            rw [show off + n * i.size + (j - n * i.size) = off + j by omega] at this
            rw [this]; rfl
        · rw [World.frozen?_setCells]; exact (hr j hj).2
        · have ht3 := tape_setCells g news (off + n * i.size) w
          exact ⟨ht3.2.1, ht3.1, ht3.2.2, by rw [size_setCells]; exact Nat.le_refl _, fun k _ hk => heap_setCells g news _ w k (fun e => hk (by simp [Value.ownBlock, e]))⟩
      · obtain ⟨v', w', r1, r2, r3⟩ := run_append_arg_grows (P := P) w t ty e i z size bytes ht hi hz hsize hby hzs hsz ⟨g, off, none⟩ n cap xs h.1 (fun j u hj => by
          have hjl : j < n * size := by rw [← h.1]; exact (List.getElem?_eq_some_iff.1 hj).1
          rw [Addr.add_lit, hc j hjl]; exact hj) ad m c news hl hnews (by omega) h63 hbytes
        refine ⟨v', w', r1, ?_, ⟨r3.os, r3.tape, r3.output, r3.size, fun k hk _ => r3.block k hk (by simp)⟩⟩
        have := OwnS.of_row r2
        refine ⟨this.1, ?_⟩
        rcases this.2 with h2 | ⟨g', off', cap', h2, hg', rest⟩
        · exact .inl h2
        · exact .inr ⟨g', off', cap', h2, by omega, rest⟩
/-- 'x[1:]' of a slice of the call's own that holds something. -/
theorem run_tail_S (t e : TypeId) (i : TypeInfo) (ht : P.underlying t = some (.slice e)) (hi : P.info? e = some i) (base : Nat) (v : Value) (n : Nat) (xs : List Value) (h : OwnS base i.size w v (n + 1) xs) :
    ∃ v', (Instr.slice t v (some (.int .i64 1)) none none).run P w = .ok v' w ∧ OwnS base i.size w v' n (xs.drop i.size) ∧ v'.ownBlock = v.ownBlock := by
  rcases h.2 with ⟨_, h2⟩ | ⟨g, off, cap, rfl, hg, hlt, hn, hc, hr⟩
  · cases h2
  · have hx : (xs.drop i.size).length = n * i.size := by rw [List.length_drop, h.1, Nat.add_mul]; omega
    have e1 : (1 : Int) ≤ ((n + 1 : Nat) : Int) := by omega
    have e2 : (1 : Int) ≤ (n : Int) + 1 := by omega
    by_cases hcap : cap = 1
    · subst hcap
      have hn0 : n = 0 := by omega
      subst hn0
      refine ⟨.slice (some ⟨g, off, none⟩) 0 0, ?_, ⟨hx, .inr ⟨g, off, 0, rfl, hg, hlt, Nat.le_refl _, by simp, by simp⟩⟩, rfl⟩
      simp [Instr.slice, run_underlying ht, Instr.sliceBounds, Instr.sliceBound, asIntOf, sizeOf, typeInfo, hi, Result.andThen]
    · refine ⟨.slice (some ⟨g, off + i.size, none⟩) n (cap - 1), ?_, ⟨hx, .inr ⟨g, off + i.size, cap - 1, rfl, hg, hlt, by omega, fun j hj => ?_, fun j hj => ?_⟩⟩, rfl⟩
      · have hlit : (⟨g, off, none⟩ : Addr).add i.size = ⟨g, off + i.size, none⟩ := Addr.add_lit _ _ _
        simp [Instr.slice, run_underlying ht, Instr.sliceBounds, Instr.sliceBound, asIntOf, sizeOf, typeInfo, hi, Result.andThen, hcap, hlit]
        rw [if_pos e2]
        simp [hcap, hlit]
        try omega
      · have h2 := hc (i.size + j) (by rw [Nat.add_mul]; omega)
        rw [← Nat.add_assoc] at h2
        rw [h2, List.getElem?_drop]
      · have h2 := hr (i.size + j) (by have : cap * i.size = (cap - 1) * i.size + i.size := by rw [Nat.sub_mul]; have : 1 * i.size ≤ cap * i.size := Nat.mul_le_mul_right _ (by omega); omega
                                       omega)
        rwa [← Nat.add_assoc] at h2
end
end Go.Proofs.YtnifkpcjpjgkeaaGreatDoor
