/- trellis: on what an action stands: the plain words, a copy of a list, an append to what begins anywhere. -/
import Derived.Test.YtnifkpcjpjgkeaaGreatDoorC11
import Derived.Test.YtnifkpcjpjgkeaaGreatDoorShelf
namespace Go.Proofs.YtnifkpcjpjgkeaaGreatDoor
open Go.RowKit Go.Shelf

/-- A name on which these names stand. -/
def Stands (g : Gr) (ins : List ByteArray) (s : ByteArray) : Prop := ∀ P : ByteArray → Prop, (∀ t ∈ ins, P t) → (∀ a ∈ g.actions, P a.name → ∀ t ∈ a.inputs, P t) → P s
theorem Stands.one {g : Gr} {ins : List ByteArray} {s : ByteArray} (h : s ∈ ins) : Stands g ins s := fun _ h1 _ => h1 s h
theorem Stands.step {g : Gr} {ins : List ByteArray} {a : Act} {t : ByteArray} (ha : a ∈ g.actions) (h : Stands g ins a.name) (ht : t ∈ a.inputs) : Stands g ins t := fun P h1 h2 => h2 a ha (h P h1 h2) t ht

theorem atS_get (l : List ByteArray) (s : ByteArray) (v : Int) : ∀ k, mget (atS l k) s = some v → v = -1
  | 0, h => by simp [atS, mget] at h
  | k + 1, h => by
    unfold atS at h
    by_cases e : s = l.getD k ByteArray.empty
    · subst e; rw [mget_mput_same] at h; cases h; rfl
    · rw [mget_mput_other _ _ _ _ e] at h; exact atS_get l s v k h
theorem atA_get (M : List (ByteArray × Int)) (l : List Act) (s : ByteArray) (v : Int) : ∀ k, mget (atA M l k) s = some v → mget M s = some v ∨ ∃ j, j < k ∧ v = (j : Int) ∧ (l.getD j default).name = s
  | 0, h => .inl h
  | k + 1, h => by
    unfold atA at h
    by_cases e : s = (l.getD k default).name
    · subst e; rw [mget_mput_same] at h; cases h; exact .inr ⟨k, by omega, rfl, rfl⟩
    · rw [mget_mput_other _ _ _ _ e] at h
      rcases atA_get M l s v k h with h1 | ⟨j, h1, h2, h3⟩
      · exact .inl h1
      · exact .inr ⟨j, by omega, h2, h3⟩
theorem atG_get {g : Gr} {s : ByteArray} {v : Int} (h : mget (atG g) s = some v) (h0 : 0 ≤ v) : ∃ j, j < g.actions.length ∧ v = (j : Int) ∧ (g.actions.getD j default).name = s := by
  rcases atA_get _ _ _ _ _ h with h1 | h1
  · have := atS_get _ _ _ _ h1; omega
  · exact h1
theorem getD_mem {α : Type} {l : List α} {j : Nat} (d : α) (h : j < l.length) : l.getD j d ∈ l := by
  rw [List.getD_eq_getElem?_getD, List.getElem?_eq_getElem h]; exact List.getElem_mem h
theorem mget_isSome {α : Type} {M : List (ByteArray × α)} {s : ByteArray} : (mget M s).isSome = true ↔ s ∈ M.map (·.1) := by
  cases h : mget M s
  · simp only [Option.isSome_none, Bool.false_eq_true, false_iff]; exact mget_none.1 h
  · simp only [Option.isSome_some, true_iff]
    exact Classical.byContradiction fun hn => by rw [mget_none.2 hn] at h; cases h
theorem mget_mem {α : Type} {M : List (ByteArray × α)} {s : ByteArray} {v : α} (h : mget M s = some v) : (s, v) ∈ M := by
  induction M with
  | nil => simp [mget] at h
  | cons p r ih =>
    unfold mget at h
    split at h
    · rename_i e; cases h; subst e; exact .head _
    · exact .tail _ (ih h)
theorem mput_mem {α : Type} {M : List (ByteArray × α)} {s : ByteArray} {v : α} {p : ByteArray × α} (h : p ∈ mput M s v) : p = (s, v) ∨ p ∈ M := by
  induction M with
  | nil => simpa [mput] using h
  | cons q r ih =>
    unfold mput at h
    split at h
    · cases h with
      | head => exact .inl rfl
      | tail _ h => exact .inr (.tail _ h)
    · cases h with
      | head => exact .inr (.head _)
      | tail _ h => exact (ih h).imp id (.tail _)
theorem nodup_le {α : Type} [DecidableEq α] : ∀ {l m : List α}, l.Nodup → (∀ x ∈ l, x ∈ m) → l.length ≤ m.length
  | [], _, _, _ => Nat.zero_le _
  | x :: r, m, h, hs => by
    have hx : x ∈ m := hs x (.head _)
    have h2 := List.nodup_cons.1 h
    have : r.length ≤ (m.erase x).length := nodup_le h2.2 (fun y hy => (List.mem_erase_of_ne (show y ≠ x from fun e => h2.1 (by rw [← e]; exact hy))).2 (hs y (.tail _ hy)))
    rw [List.length_erase_of_mem hx] at this
    have : 0 < m.length := List.length_pos_of_mem hx
    simp only [List.length_cons]; omega

/-- What is under way: the names that were come to, and those to which to come. -/
def NeedL (g : Gr) (ins : List ByteArray) (N : List (ByteArray × Bool)) (l : List ByteArray) : Prop :=
  (∀ p ∈ N, p.2 = true ∧ Stands g ins p.1 ∧ (mget (atG g) p.1).isSome = true) ∧ ∀ t ∈ l, Stands g ins t ∧ (mget (atG g) t).isSome = true
theorem NeedL.start {g : Gr} {a : Act} (h : allIn (atG g) g.actions = true) (ha : a ∈ g.actions) : NeedL g a.inputs [] a.inputs :=
  ⟨by simp, fun t ht => ⟨.one ht, List.all_eq_true.1 (List.all_eq_true.1 h a ha) t ht⟩⟩
theorem NeedL.skip {g : Gr} {ins : List ByteArray} {N : List (ByteArray × Bool)} {s : ByteArray} {l : List ByteArray} (h : NeedL g ins N (s :: l)) : NeedL g ins N l := ⟨h.1, fun t ht => h.2 t (.tail _ ht)⟩
theorem NeedL.put {g : Gr} {ins : List ByteArray} {N : List (ByteArray × Bool)} {s : ByteArray} {l : List ByteArray} (h : NeedL g ins N (s :: l)) : NeedL g ins (mput N s true) l :=
  ⟨fun p hp => by
    rcases mput_mem hp with rfl | hp
    · exact ⟨rfl, h.2 s (.head _)⟩
    · exact h.1 p hp, fun t ht => h.2 t (.tail _ ht)⟩
theorem NeedL.more {g : Gr} {ins : List ByteArray} {N : List (ByteArray × Bool)} {l : List ByteArray} {a : Act} (h : NeedL g ins N l) (hall : allIn (atG g) g.actions = true) (ha : a ∈ g.actions) (hs : Stands g ins a.name) : NeedL g ins N (l ++ a.inputs) :=
  ⟨h.1, fun t ht => by
    rcases List.mem_append.1 ht with ht | ht
    · exact h.2 t ht
    · exact ⟨.step ha hs ht, List.all_eq_true.1 (List.all_eq_true.1 hall a ha) t ht⟩⟩
theorem NeedL.count {g : Gr} {ins : List ByteArray} {N : List (ByteArray × Bool)} {l : List ByteArray} (h : NeedL g ins N l) (hn : (N.map (·.1)).Nodup) : N.length ≤ (atG g).length := by
  have := nodup_le (m := (atG g).map (·.1)) hn (fun x hx => by
    obtain ⟨p, hp, rfl⟩ := List.mem_map.1 hx
    exact mget_isSome.1 (h.1 p hp).2.2)
  simpa using this
theorem NeedL.fresh {g : Gr} {ins : List ByteArray} {N : List (ByteArray × Bool)} {s : ByteArray} {l : List ByteArray} (h : NeedL g ins N l) (hs : (mget N s).getD false = false) : mget N s = none := by
  cases hh : mget N s
  · rfl
  · rename_i v
    have := (h.1 _ (mget_mem hh)).1
    rw [hh] at hs
    simp at this hs
    rw [hs] at this; cases this

section
variable {P : Program} {w : World} {ops : Array Oper} {rest : List Oper} {o : Oper} {a : Act'} {Q : Exit → Act' → World → Prop}
/-- append of a slice that is read, onto a slice of the call's own that begins anywhere. -/
theorem wpList_append_S (hgd : o.guard = none) (s x : Operand) (t : TypeId)
    (ho : o.op = .call { callee := .builtin .append, args := #[s, x], argTypes := #[t, t] })
    (base : Nat) (e : TypeId) (i : TypeInfo) (z : Value) (size bytes : Nat) (ht : P.underlying t = some (.slice e)) (hi : P.info? e = some i) (hz : i.zero = some z)
    (hsize : i.size = size) (hby : i.bytes = bytes) (hzs : z.cells.size = size) (hsz : 0 < size)
    (v : Value) (n : Nat) (xs : List Value) (hs : a.eval s = v) (hown : OwnS base size w v n xs)
    (ad : Option Addr) (m c : Nat) (news : List Value) (hx : a.eval x = .slice ad m c) (hl : news.length = m * size) (hnews : m = 0 ∨ ∃ a', ad = some a' ∧ ∀ j u, news[j]? = some u → w.cell? (a'.add j) = some u) (h1 : ∀ u ∈ news, u.oneCell' = true)
    (h63 : n + m ≤ maxLen) (hbytes : (n + m) * bytes ≤ 140737488355328) (hbase : base ≤ w.heap.size)
    (h : ∀ v' w', OwnS base size w' v' (n + m) (xs ++ news) → w.grownBy w' v.ownBlock → wpList P ops Q rest (a.put o.dst v') w') : wpList P ops Q (o :: rest) a w := by
  refine wpList_plain hgd fun _ hK => ?_
  obtain ⟨v', w', hr, h2, h3⟩ := run_append_S (P := P) (w := w) t o.type e i z size bytes ht hi hz hsize hby hzs hsz base v n xs hown ad m c news hl hnews h1 h63 hbytes hbase
  unfold Oper.wp execOp
  simp only [ho, resolve, invoke, builtin, Sem.run_bind, Sem.run_pure, Result.andThen_ok, List.map_toArray, List.map_cons, List.map_nil, hs, hx, hr]
  exact hK _ _ (h v' w' h2 h3)
end

/-- slices.Clone of texts. -/
def ClonePost (l : List ByteArray) (w : World) (e : Ending) (w' : World) : Prop := ∃ v, e = .returned v ∧ OwnS w.heap.size 1 w' v l.length (l.map Value.string) ∧ Below w.heap.size w w'
theorem Clone_any {F : Nat → Prop} (l : List ByteArray) (v : Value) (w : World) (h : Strs F w v l) (hl : l.length ≤ 1000) : Calls Tryz.prog 15 #[v] w (ClonePost l w) := by
  obtain ⟨a, cap, rfl, -, -, -, h5⟩ := h
  by_cases h0 : l = []
  · subst h0
    cases a with
    | none =>
      refine (Tryz.slices_Clone_string_nil _ _ _).mono ?_
      rintro e w' ⟨rfl, rfl⟩
      exact ⟨_, rfl, ⟨rfl, .inl ⟨rfl, rfl⟩⟩, Below.refl _ _⟩
    | some ad =>
      refine (Tryz.slices_Clone_string_zero _ _ _).mono ?_
      rintro e w' ⟨v, rfl, ho, -, hb⟩
      exact ⟨_, rfl, .of_row ho, hb⟩
  · obtain ⟨b, off, rfl, -, -, hc⟩ := h5.resolve_left h0
    refine (Tryz.slices_Clone_string b off l.length cap l w (Nat.le_refl _) (by omega) hc).mono ?_
    rintro e w' ⟨v, rfl, ho, -, hb⟩
    rw [List.take_length] at ho
    exact ⟨_, rfl, .of_row ho, hb⟩
end Go.Proofs.YtnifkpcjpjgkeaaGreatDoor
