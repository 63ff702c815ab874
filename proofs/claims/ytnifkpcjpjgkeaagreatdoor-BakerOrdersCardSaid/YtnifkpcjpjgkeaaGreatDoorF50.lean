/- The plain law of a build under way: what follows from the order of the actions, from the sources and from the results that are given. No program in sight. -/
import Derived.Test.YtnifkpcjpjgkeaaGreatDoorC14
namespace Go.Proofs.YtnifkpcjpjgkeaaGreatDoor
open Go.RowKit

abbrev TMap := List (ByteArray × Res)
def dRes : Res := ⟨0, ByteArray.empty⟩
def failedB (T : TMap) (s : ByteArray) : Bool := ((mget T s).getD dRes).code != 0
def hasB (T : TMap) (s : ByteArray) : Bool := (mget T s).isSome
def settle1 (l : List Act) (T : TMap) (i : Nat) : TMap := if (l.getD i default).inputs.any (failedB T) then mput T (l.getD i default).name ⟨34, ByteArray.empty⟩ else T
def settleF (l : List Act) (ord : List Nat) (T : TMap) : TMap := ord.foldl (settle1 l) T
/-- Whether an action can be the next one. -/
def okB (l : List Act) (T : TMap) (i : Nat) : Bool := !(hasB T (l.getD i default).name) && !((l.getD i default).inputs.any fun s => !hasB T s)
def nextP (l : List Act) (T : TMap) (ord : List Nat) : Option Nat := ord.find? (okB l T)
/-- What is there of a build. -/
def builtF (l : List Act) (T : TMap) : List (ByteArray × Res) := l.filterMap fun a => (mget T a.name).map fun r => (a.name, r)
def srcF (l : List Src) : TMap := l.foldl (fun T s => mput T s.name ⟨0, s.blob⟩) []

structure Topo (l : List Act) (ord : List Nat) : Prop where
  lt : ∀ i ∈ ord, i < l.length
  all : ∀ i, i < l.length → i ∈ ord
  nodup : ord.Nodup
  before : ∀ p i r, ord = p ++ i :: r → ∀ s ∈ (l.getD i default).inputs, ∀ j, j < l.length → (l.getD j default).name = s → j ∈ p
structure Apart (g : Gr) : Prop where
  acts : ∀ i j, i < g.actions.length → j < g.actions.length → (g.actions.getD i default).name = (g.actions.getD j default).name → i = j
  src : ∀ s ∈ g.sources, ∀ a ∈ g.actions, a.name ≠ s
  nodupS : g.sources.Nodup
  nodupA : (g.actions.map (·.name)).Nodup
structure Inv (g : Gr) (T : TMap) : Prop where
  src : ∀ s ∈ g.sources, ∃ r, mget T s = some r ∧ r.code = 0
  key : ∀ s, (mget T s).isSome = true → s ∈ g.sources ∨ ∃ a ∈ g.actions, a.name = s
  ok : ∀ a ∈ g.actions, ∀ r, mget T a.name = some r → r.code = 0 → ∀ s ∈ a.inputs, ∃ q, mget T s = some q ∧ q.code = 0
  nodup : (T.map (·.1)).Nodup
def Settled (g : Gr) (T : TMap) : Prop := ∀ a ∈ g.actions, a.inputs.any (failedB T) = true → hasB T a.name = true

theorem mem_getD {α : Type} {l : List α} {a : α} (d : α) (h : a ∈ l) : ∃ i, i < l.length ∧ l.getD i d = a := by
  obtain ⟨i, hi, e⟩ := List.getElem_of_mem h
  exact ⟨i, hi, by rw [List.getD_eq_getElem?_getD, List.getElem?_eq_getElem hi]; exact e⟩
theorem pigeon {α : Type} [DecidableEq α] {l m : List α} (h : l.Nodup) (hs : ∀ x ∈ l, x ∈ m) (hl : m.length ≤ l.length) : ∀ x ∈ m, x ∈ l := by
  intro x hx
  refine Classical.byContradiction fun hn => ?_
  have := nodup_le (l := x :: l) (m := m) (List.nodup_cons.2 ⟨hn, h⟩) (fun y hy => by
    cases hy with
    | head => exact hx
    | tail _ hy => exact hs y hy)
  simp at this; omega
theorem nodup_of_len {α : Type} [DecidableEq α] : ∀ {m l : List α}, l.Nodup → (∀ x ∈ l, x ∈ m) → m.length ≤ l.length → m.Nodup
  | [], _, _, _, _ => List.nodup_nil
  | x :: r, l, h, hs, hl => by
    have hx : x ∉ r := fun hr => by
      have := nodup_le (l := l) (m := r) h (fun y hy => by
        cases hs y hy with
        | head => exact hr
        | tail _ hy => exact hy)
      simp at hl; omega
    have hxl : x ∈ l := pigeon h hs hl x (.head _)
    refine List.nodup_cons.2 ⟨hx, nodup_of_len (l := l.erase x) (h.erase x) (fun y hy => ?_) ?_⟩
    · have h1 := h.mem_erase_iff.1 hy
      cases hs y h1.2 with
      | head => exact absurd rfl h1.1
      | tail _ hy => exact hy
    · rw [List.length_erase_of_mem hxl]; simp at hl; omega

theorem atS_nodup (l : List ByteArray) : ∀ k, ((atS l k).map (·.1)).Nodup
  | 0 => List.nodup_nil
  | k + 1 => mput_nodup (atS_nodup l k) _ _
theorem atA_nodup (M : List (ByteArray × Int)) (h : (M.map (·.1)).Nodup) (l : List Act) : ∀ k, ((atA M l k).map (·.1)).Nodup
  | 0 => h
  | k + 1 => mput_nodup (atA_nodup M h l k) _ _
theorem atA_hit (M : List (ByteArray × Int)) (l : List Act) (j : Nat) : ∀ k, j < k → ∃ v : Int, 0 ≤ v ∧ mget (atA M l k) (l.getD j default).name = some v
  | 0, h => by omega
  | k + 1, h => by
    unfold atA
    by_cases e : (l.getD j default).name = (l.getD k default).name
    · exact ⟨k, by omega, by rw [e, mget_mput_same]⟩
    · rw [mget_mput_other _ _ _ _ e]
      exact atA_hit M l j k (by
        rcases Nat.lt_or_ge j k with h1 | h1
        · exact h1
        · have : j = k := by omega
          exact absurd (by rw [this]) e)
theorem wovenE_len {g : Gr} (h : wovenE g = 0) : (atG g).length = g.sources.length + g.actions.length := by
  unfold wovenE at h
  split at h
  · cases h
  · split at h
    · cases h
    · rename_i h1; simpa using h1
theorem apart_of {g : Gr} (h : wovenE g = 0) : Apart g := by
  have hn : (g.sources ++ g.actions.map (·.name)).Nodup := by
    refine nodup_of_len (l := (atG g).map (·.1)) (atA_nodup _ (atS_nodup _ _) _ _) (fun x hx => ?_) ?_
    · rcases atG_key (mget_isSome.2 hx) with h1 | ⟨a, ha, rfl⟩
      · exact List.mem_append.2 (.inl h1)
      · exact List.mem_append.2 (.inr (List.mem_map.2 ⟨a, ha, rfl⟩))
    · have := wovenE_len h
      simp; omega
  obtain ⟨h1, h2, h3⟩ := List.nodup_append.1 hn
  refine ⟨fun i j hi hj e => ?_, fun s hs a ha e => h3 s hs a.name (List.mem_map.2 ⟨a, ha, rfl⟩) e.symm, h1, h2⟩
  have hp := List.pairwise_iff_getElem.1 h2
  have hq : ∀ a b (ha : a < g.actions.length) (hb : b < g.actions.length), a < b → (g.actions.getD a default).name ≠ (g.actions.getD b default).name := fun a b ha hb hab => by
    have h := hp a b (by simpa using ha) (by simpa using hb) hab
    simpa [List.getD_eq_getElem?_getD, List.getElem?_eq_getElem ha, List.getElem?_eq_getElem hb] using h
  rcases Nat.lt_trichotomy i j with h | h | h
  · exact absurd e (hq i j hi hj h)
  · exact h
  · exact absurd e.symm (hq j i hj hi h)

structure OrdI (M : List (ByteArray × Int)) (l : List Act) (D : List (ByteArray × Bool)) (acc : List Nat) : Prop where
  done : ∀ s, (mget D s).getD false = true ↔ ∃ i ∈ acc, (l.getD i default).name = s
  lt : ∀ i ∈ acc, i < l.length
  nodup : acc.Nodup
  before : ∀ p i r, acc = p ++ i :: r → ∀ s ∈ (l.getD i default).inputs, 0 ≤ (mget M s).getD 0 → ∃ q ∈ p, (l.getD q default).name = s
theorem OrdI.step {M : List (ByteArray × Int)} {l : List Act} {D : List (ByteArray × Bool)} {acc : List Nat} (h : OrdI M l D acc) {j : Nat} (hj : j < l.length) (hr : readyB M D (l.getD j default) = true) :
    OrdI M l (mput D (l.getD j default).name true) (acc ++ [j]) := by
  unfold readyB at hr
  rw [Bool.and_eq_true, Bool.not_eq_true', Bool.not_eq_true'] at hr
  refine ⟨fun s => ?_, fun i hi => ?_, ?_, fun p i r he s hs hm => ?_⟩
  · by_cases e : s = (l.getD j default).name
    · subst e
      rw [mget_mput_same]
      exact ⟨fun _ => ⟨j, List.mem_append.2 (.inr (.head _)), rfl⟩, fun _ => rfl⟩
    · rw [mget_mput_other _ _ _ _ e, h.done]
      constructor
      · rintro ⟨i, hi, he⟩; exact ⟨i, List.mem_append.2 (.inl hi), he⟩
      · rintro ⟨i, hi, he⟩
        rcases List.mem_append.1 hi with hi | hi
        · exact ⟨i, hi, he⟩
        · rw [List.mem_singleton.1 hi] at he; exact absurd he.symm e
  · rcases List.mem_append.1 hi with hi | hi
    · exact h.lt i hi
    · rw [List.mem_singleton.1 hi]; exact hj
  · refine List.nodup_append.2 ⟨h.nodup, by simp, fun a ha b hb e => ?_⟩
    rw [List.mem_singleton.1 hb] at e
    have := (h.done (l.getD j default).name).2 ⟨a, ha, by rw [e]⟩
    rw [hr.1] at this; cases this
  · rcases List.eq_nil_or_concat r with rfl | ⟨r', x, rfl⟩
    · have he' : acc ++ [j] = p ++ [i] := he
      obtain ⟨e1, e2⟩ := List.append_inj' he' rfl
      injection e2 with e2
      subst e1; subst e2
      have h2 := List.any_eq_false.1 hr.2 s hs
      unfold waitsB at h2
      have h3 : (mget D s).getD false = true := by
        cases hd : (mget D s).getD false
        · rw [hd] at h2; simp [hm] at h2
        · rfl
      exact (h.done s).1 h3
    · have he' : acc ++ [j] = (p ++ i :: r') ++ [x] := by rw [he]; simp
      obtain ⟨e1, -⟩ := List.append_inj' he' rfl
      exact h.before p i r' e1 s hs hm
theorem ordF_inv (M : List (ByteArray × Int)) (l : List Act) : ∀ n D acc, OrdI M l D acc → ∃ D', OrdI M l D' (ordF M l n D acc)
  | 0, D, acc, h => ⟨D, h⟩
  | n + 1, D, acc, h => by
    unfold ordF
    rcases idx_spec (readyB M D) default l 0 with h1 | ⟨j, h1, h2, h3⟩
    · rw [if_pos h1]; exact ⟨D, h⟩
    · rw [if_neg (by omega)]
      rw [Nat.zero_add] at h1
      rw [h1, Int.toNat_natCast]
      exact ordF_inv M l n _ _ (h.step h2 h3)
theorem topo_of {g : Gr} (h : checkedE g = 0) : Topo g.actions (ordG g) := by
  have ha := apart_of (checkedE_woven h)
  obtain ⟨D, hI⟩ := ordF_inv (atG g) g.actions (g.actions.length + 1) [] [] ⟨fun s => by simp [mget], by simp, List.nodup_nil, fun p i r e => by simp at e⟩
  change OrdI _ _ _ (ordG g) at hI
  have hl := checkedE_order h
  refine ⟨hI.lt, fun i hi => ?_, hI.nodup, fun p i r he s hs j hj hn => ?_⟩
  · exact pigeon (m := List.range g.actions.length) hI.nodup (fun x hx => List.mem_range.2 (hI.lt x hx)) (by rw [List.length_range]; omega) i (List.mem_range.2 hi)
  · obtain ⟨v, hv, hm⟩ := atA_hit (atS g.sources g.sources.length) g.actions j g.actions.length hj
    have hm' : mget (atG g) s = some v := by rw [← hn]; exact hm
    obtain ⟨q, hq, hqn⟩ := hI.before p i r he s hs (by rw [hm']; exact hv)
    have hql : q < g.actions.length := hI.lt q (by rw [he]; exact List.mem_append.2 (.inl hq))
    exact ha.acts q j hql hj (hqn.trans hn.symm) ▸ hq

theorem mput_isSome {α : Type} {T : List (ByteArray × α)} {s t : ByteArray} {v : α} (h : (mget T t).isSome = true) : (mget (mput T s v) t).isSome = true := by
  by_cases e : t = s
  · subst e; rw [mget_mput_same]; rfl
  · rw [mget_mput_other _ _ _ _ e]; exact h
theorem Inv.settle1 {g : Gr} {T : TMap} (h : Inv g T) (ha : Apart g) {i : Nat} (hi : i < g.actions.length) : Inv g (settle1 g.actions T i) := by
  unfold Go.Proofs.YtnifkpcjpjgkeaaGreatDoor.settle1
  by_cases hf : (g.actions.getD i default).inputs.any (failedB T) = true
  · rw [if_pos hf]
    have hm := getD_mem (default : Act) hi
    refine ⟨fun s hs => ?_, fun s hs => ?_, fun a hA r hr h0 s hs => ?_, mput_nodup h.nodup _ _⟩
    · rw [mget_mput_other _ _ _ _ (fun e => ha.src s hs _ hm e.symm)]; exact h.src s hs
    · by_cases e : s = (g.actions.getD i default).name
      · exact .inr ⟨_, hm, e.symm⟩
      · rw [mget_mput_other _ _ _ _ e] at hs; exact h.key s hs
    · by_cases e : a.name = (g.actions.getD i default).name
      · rw [e, mget_mput_same] at hr
        injection hr with hr
        rw [← hr] at h0
        cases h0
      · rw [mget_mput_other _ _ _ _ e] at hr
        obtain ⟨q, hq, hq0⟩ := h.ok a hA r hr h0 s hs
        by_cases e2 : s = (g.actions.getD i default).name
        · subst e2
          obtain ⟨t, ht, hft⟩ := List.any_eq_true.1 hf
          obtain ⟨q2, hq2, hq20⟩ := h.ok _ hm q hq hq0 t ht
          unfold failedB at hft
          rw [hq2] at hft
          simp [hq20] at hft
        · rw [mget_mput_other _ _ _ _ e2]; exact ⟨q, hq, hq0⟩
  · rw [if_neg hf]; exact h
theorem settle1_has {l : List Act} {T : TMap} {i : Nat} {s : ByteArray} (h : hasB T s = true) : hasB (settle1 l T i) s = true := by
  unfold settle1
  split
  · exact mput_isSome h
  · exact h
theorem settleF_has {l : List Act} {s : ByteArray} : ∀ (ord : List Nat) (T : TMap), hasB T s = true → hasB (settleF l ord T) s = true
  | [], _, h => h
  | i :: r, T, h => settleF_has r _ (settle1_has h)
theorem settle_fold {g : Gr} (ha : Apart g) {ord : List Nat} (ht : Topo g.actions ord) : ∀ (r p : List Nat) (T : TMap), ord = p ++ r → Inv g T → (∀ i ∈ p, (g.actions.getD i default).inputs.any (failedB T) = true → hasB T (g.actions.getD i default).name = true) →
    Inv g (settleF g.actions r T) ∧ ∀ i ∈ ord, (g.actions.getD i default).inputs.any (failedB (settleF g.actions r T)) = true → hasB (settleF g.actions r T) (g.actions.getD i default).name = true
  | [], p, T, e, hI, hJ => by
    have e' : ord = p := by rw [e, List.append_nil]
    rw [e']
    exact ⟨hI, hJ⟩
  | i :: r, p, T, e, hI, hJ => by
    have hi := ht.lt i (by rw [e]; exact List.mem_append.2 (.inr (.head _)))
    refine settle_fold ha ht r (p ++ [i]) _ (by rw [e]; simp) (hI.settle1 ha hi) (fun k hk hf => ?_)
    rcases List.mem_append.1 hk with hk | hk
    · have hold : hasB T (g.actions.getD k default).name = true := by
        obtain ⟨s, hs, hfs⟩ := List.any_eq_true.1 hf
        have hne : s ≠ (g.actions.getD i default).name := fun es => by
          obtain ⟨p1, p2, rfl⟩ := List.append_of_mem hk
          have hb := ht.before p1 k (p2 ++ i :: r) (by rw [e]; simp) s hs i hi es.symm
          have hn := ht.nodup
          rw [e] at hn
          exact (List.nodup_append.1 hn).2.2 i (List.mem_append.2 (.inl hb)) i (.head _) rfl
        refine hJ k hk (List.any_eq_true.2 ⟨s, hs, ?_⟩)
        unfold settle1 at hfs
        split at hfs
        · unfold failedB at hfs ⊢; rwa [mget_mput_other _ _ _ _ hne] at hfs
        · exact hfs
      exact settle1_has hold
    · obtain rfl := List.mem_singleton.1 hk
      unfold settle1 at hf ⊢
      split
      · unfold hasB; rw [mget_mput_same]; rfl
      · rename_i h1
        rw [if_neg h1] at hf
        exact absurd hf h1
/-- What settling leaves. -/
theorem settled_of {g : Gr} {T : TMap} (ha : Apart g) {ord : List Nat} (ht : Topo g.actions ord) (h : Inv g T) : Inv g (settleF g.actions ord T) ∧ Settled g (settleF g.actions ord T) := by
  obtain ⟨h1, h2⟩ := settle_fold ha ht ord [] T rfl h (by simp)
  refine ⟨h1, fun a hA hf => ?_⟩
  obtain ⟨i, hi, rfl⟩ := mem_getD (default : Act) hA
  exact h2 i (ht.all i hi) hf
/-- An action that can be next stands on what is there and none of it failed. -/
theorem ready_ok {g : Gr} {T : TMap} (hI : Inv g T) (hS : Settled g T) {j : Nat} (hj : j < g.actions.length) (hk : okB g.actions T j = true) : hasB T (g.actions.getD j default).name = false ∧ ∀ s ∈ (g.actions.getD j default).inputs, ∃ q, mget T s = some q ∧ q.code = 0 := by
  unfold okB at hk
  rw [Bool.and_eq_true, Bool.not_eq_true', Bool.not_eq_true'] at hk
  refine ⟨hk.1, fun s hs => ?_⟩
  have h1 := List.any_eq_false.1 hk.2 s hs
  have h2 : hasB T s = true := by simpa using h1
  obtain ⟨q, hq⟩ := Option.isSome_iff_exists.1 h2
  refine ⟨q, hq, Classical.byContradiction fun hn => ?_⟩
  have hf : (g.actions.getD j default).inputs.any (failedB T) = true := List.any_eq_true.2 ⟨s, hs, by unfold failedB; rw [hq]; simpa using hn⟩
  have := hS _ (getD_mem default hj) hf
  rw [hk.1] at this; cases this
theorem Inv.give {g : Gr} {T : TMap} (h : Inv g T) (ha : Apart g) (hS : Settled g T) {j : Nat} (hj : j < g.actions.length) (hk : okB g.actions T j = true) (r : Res) : Inv g (mput T (g.actions.getD j default).name r) := by
  obtain ⟨hn, hi⟩ := ready_ok h hS hj hk
  have hm := getD_mem (default : Act) hj
  have hn' : ∀ s q, mget T s = some q → s ≠ (g.actions.getD j default).name := fun s q hq e => by
    unfold hasB at hn; rw [← e, hq] at hn; cases hn
  refine ⟨fun s hs => ?_, fun s hs => ?_, fun a hA q hq h0 s hs => ?_, mput_nodup h.nodup _ _⟩
  · rw [mget_mput_other _ _ _ _ (fun e => ha.src s hs _ hm e.symm)]; exact h.src s hs
  · by_cases e : s = (g.actions.getD j default).name
    · exact .inr ⟨_, hm, e.symm⟩
    · rw [mget_mput_other _ _ _ _ e] at hs; exact h.key s hs
  · have hin : ∃ q, mget T s = some q ∧ q.code = 0 := by
      by_cases e : a.name = (g.actions.getD j default).name
      · obtain ⟨i, hil, rfl⟩ := mem_getD (default : Act) hA
        have := ha.acts i j hil hj e
        subst this
        exact hi s hs
      · rw [mget_mput_other _ _ _ _ e] at hq
        exact h.ok a hA q hq h0 s hs
    obtain ⟨q, hq, hq0⟩ := hin
    exact ⟨q, by rw [mget_mput_other _ _ _ _ (hn' s q hq)]; exact hq, hq0⟩
/-- All on which the next action stands is there, and none of it failed. -/
theorem needs_there {g : Gr} {T : TMap} (hI : Inv g T) (ha : Apart g) (hS : Settled g T) {j : Nat} (hj : j < g.actions.length) (hk : okB g.actions T j = true) {s : ByteArray}
    (h : ∃ a ∈ g.actions, a.name = (g.actions.getD j default).name ∧ Stands g a.inputs s) : s ∈ g.sources ∨ ∃ q, (s, q) ∈ builtF g.actions T ∧ q.code = 0 := by
  obtain ⟨a, hA, hn, hst⟩ := h
  obtain ⟨i, hil, rfl⟩ := mem_getD (default : Act) hA
  have := ha.acts i j hil hj hn
  subst this
  obtain ⟨q, hq, hq0⟩ := hst (fun s => ∃ q, mget T s = some q ∧ q.code = 0) (fun t ht => (ready_ok hI hS hj hk).2 t ht) (fun b hb ⟨q, hq, hq0⟩ t ht => hI.ok b hb q hq hq0 t ht)
  rcases hI.key s (by rw [hq]; rfl) with h1 | ⟨b, hb, rfl⟩
  · exact .inl h1
  · exact .inr ⟨q, List.mem_filterMap.2 ⟨b, hb, by rw [hq]; rfl⟩, hq0⟩
theorem builtF_len (l : List Act) (T : TMap) : (builtF l T).length = (l.filter fun a => hasB T a.name).length := by
  unfold builtF hasB
  induction l with
  | nil => rfl
  | cons a r ih =>
    rw [List.filterMap_cons, List.filter_cons]
    cases h : mget T a.name <;> simp [ih]
theorem filter_le {α : Type} {p q : α → Bool} (h : ∀ x, p x = true → q x = true) : ∀ l : List α, (l.filter p).length ≤ (l.filter q).length
  | [] => Nat.le_refl _
  | x :: r => by
    have := filter_le h r
    rw [List.filter_cons, List.filter_cons]
    cases hp : p x
    · cases hq : q x
      · simpa using this
      · simp; omega
    · rw [h x hp]; simpa using this
theorem filter_lt {α : Type} {p q : α → Bool} (h : ∀ x, p x = true → q x = true) {a : α} : ∀ {l : List α}, a ∈ l → p a = false → q a = true → (l.filter p).length < (l.filter q).length
  | x :: r, hm, h1, h2 => by
    have h3 := filter_le h r
    rw [List.filter_cons, List.filter_cons]
    cases hm with
    | head => rw [h1, h2]; simp; omega
    | tail _ hm =>
      have h4 := filter_lt h hm h1 h2
      cases hp : p x
      · cases hq : q x
        · simpa using h4
        · simp; omega
      · rw [h x hp]; simpa using h4
theorem built_grows {g : Gr} {T : TMap} {ord : List Nat} {j : Nat} (hj : j < g.actions.length) (hk : okB g.actions T j = true) (r : Res) :
    (builtF g.actions T).length < (builtF g.actions (settleF g.actions ord (mput T (g.actions.getD j default).name r))).length := by
  rw [builtF_len, builtF_len]
  refine filter_lt (a := g.actions.getD j default) (fun x hx => settleF_has _ _ (mput_isSome hx)) (getD_mem default hj) ?_ (settleF_has _ _ ?_)
  · unfold okB at hk
    rw [Bool.and_eq_true, Bool.not_eq_true'] at hk
    exact hk.1
  · unfold hasB; rw [mget_mput_same]; rfl
/-- All is there, or not all results are. -/
theorem Inv.count {g : Gr} {T : TMap} (h : Inv g T) (ha : Apart g) : T.length = g.sources.length + (builtF g.actions T).length := by
  have hK : (g.sources ++ (g.actions.filter fun a => hasB T a.name).map (·.name)).Nodup := by
    refine List.nodup_append.2 ⟨ha.nodupS, ha.nodupA.sublist ((List.filter_sublist).map _), fun a hA b hb e => ?_⟩
    obtain ⟨x, hx, rfl⟩ := List.mem_map.1 hb
    exact ha.src a hA x (List.mem_filter.1 hx).1 e.symm
  have h1 := nodup_le hK (m := T.map (·.1)) (fun x hx => by
    rcases List.mem_append.1 hx with hx | hx
    · obtain ⟨r, hr, -⟩ := h.src x hx
      exact mget_isSome.1 (by rw [hr]; rfl)
    · obtain ⟨y, hy, rfl⟩ := List.mem_map.1 hx
      exact mget_isSome.1 (List.mem_filter.1 hy).2)
  have h2 := nodup_le h.nodup (m := g.sources ++ (g.actions.filter fun a => hasB T a.name).map (·.name)) (fun x hx => by
    have hx' := mget_isSome.2 hx
    rcases h.key x hx' with h1 | ⟨b, hb, rfl⟩
    · exact List.mem_append.2 (.inl h1)
    · exact List.mem_append.2 (.inr (List.mem_map.2 ⟨b, List.mem_filter.2 ⟨hb, hx'⟩, rfl⟩)))
  rw [builtF_len]
  simp only [List.length_append, List.length_map] at h1 h2
  omega

theorem srcF_snoc (l : List Src) (k : Nat) (h : k < l.length) : srcF (l.take (k + 1)) = mput (srcF (l.take k)) (l.getD k default).name ⟨0, (l.getD k default).blob⟩ := by
  unfold srcF
  rw [List.take_succ_eq_append_getElem h, List.foldl_append]
  simp [List.getD_eq_getElem?_getD, List.getElem?_eq_getElem h]
theorem srcF_zero (l : List Src) (s : ByteArray) (r : Res) : ∀ k, k ≤ l.length → mget (srcF (l.take k)) s = some r → r.code = 0
  | 0, _, h => by simp [srcF, mget] at h
  | k + 1, hk, h => by
    rw [srcF_snoc l k (by omega)] at h
    by_cases e : s = (l.getD k default).name
    · subst e; rw [mget_mput_same] at h; injection h with h; rw [← h]
    · rw [mget_mput_other _ _ _ _ e] at h; exact srcF_zero l s r k (by omega) h
theorem srcF_nodup (l : List Src) : ∀ k, k ≤ l.length → ((srcF (l.take k)).map (·.1)).Nodup
  | 0, _ => List.nodup_nil
  | k + 1, hk => by rw [srcF_snoc l k (by omega)]; exact mput_nodup (srcF_nodup l k (by omega)) _ _
/-- What a build's sources fit. -/
structure SrcFit (g : Gr) (l : List Src) : Prop where
  apart : (srcF l).length = l.length
  there : ∀ s ∈ g.sources, hasB (srcF l) s = true
  len : l.length = g.sources.length
  small : ∀ s ∈ l, s.blob.size ≤ 512
theorem Inv.start {g : Gr} {l : List Src} (ha : Apart g) (h : SrcFit g l) : Inv g (srcF l) := by
  have hz := fun s r => srcF_zero l s r l.length (Nat.le_refl _)
  have hn := srcF_nodup l l.length (Nat.le_refl _)
  rw [List.take_length] at hz hn
  have hk : ∀ s, (mget (srcF l) s).isSome = true → s ∈ g.sources := fun s hs =>
    pigeon (m := (srcF l).map (·.1)) ha.nodupS (fun x hx => mget_isSome.1 (h.there x hx)) (by rw [List.length_map, h.apart, h.len]; exact Nat.le_refl _) s (mget_isSome.1 hs)
  refine ⟨fun s hs => ?_, fun s hs => .inl (hk s hs), fun a hA r hr => absurd (hk a.name (by rw [hr]; rfl)) (fun hs => ha.src _ hs a hA rfl), hn⟩
  obtain ⟨r, hr⟩ := Option.isSome_iff_exists.1 (h.there s hs)
  exact ⟨r, hr, hz s r hr⟩
end Go.Proofs.YtnifkpcjpjgkeaaGreatDoor
