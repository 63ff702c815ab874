/- trellis.Needs: no name is told on which the action doesn't stand. -/
import Derived.Test.YtnifkpcjpjgkeaaGreatDoorC13
namespace Go.Proofs.YtnifkpcjpjgkeaaGreatDoor
open Go.RowKit Go.Shelf

theorem atS_key (l : List ByteArray) (s : ByteArray) : ∀ k, k ≤ l.length → (mget (atS l k) s).isSome = true → s ∈ l
  | 0, _, h => by simp [atS, mget] at h
  | k + 1, hk, h => by
    unfold atS at h
    by_cases e : s = l.getD k ByteArray.empty
    · rw [e]; exact getD_mem _ hk
    · rw [mget_mput_other _ _ _ _ e] at h; exact atS_key l s k (by omega) h
theorem atA_key (M : List (ByteArray × Int)) (l : List Act) (s : ByteArray) : ∀ k, k ≤ l.length → (mget (atA M l k) s).isSome = true → (mget M s).isSome = true ∨ ∃ a ∈ l, a.name = s
  | 0, _, h => .inl h
  | k + 1, hk, h => by
    unfold atA at h
    by_cases e : s = (l.getD k default).name
    · exact .inr ⟨_, getD_mem _ hk, e.symm⟩
    · rw [mget_mput_other _ _ _ _ e] at h; exact atA_key M l s k (by omega) h
theorem atG_key {g : Gr} {s : ByteArray} (h : (mget (atG g) s).isSome = true) : s ∈ g.sources ∨ ∃ a ∈ g.actions, a.name = s := by
  rcases atA_key _ _ _ _ (Nat.le_refl _) h with h1 | h1
  · exact .inl (atS_key _ _ _ (Nat.le_refl _) h1)
  · exact .inr h1
theorem atG_size {g : Gr} (hg : graphB g = true) {s : ByteArray} (h : (mget (atG g) s).isSome = true) : s.size ≤ 8 := by
  rcases atG_key h with h1 | ⟨a, ha, rfl⟩
  · exact nameB_size (graphB_sources hg s h1)
  · exact nameB_size (actB_parts (graphB_acts hg a ha)).1
theorem wovenE_all {g : Gr} (h : wovenE g = 0) : allIn (atG g) g.actions = true := by
  unfold wovenE at h
  split at h
  · cases h
  · split at h
    · cases h
    · split at h
      · cases h
      · rename_i h1; simpa using h1

theorem XMap.own {H : Type} {w : World} {b : Nat} {N : List (ByteArray × Bool)} (h : XMap boolV w b N) (hs : ∀ p ∈ N, p.1.size ≤ 8) (hl : N.length ≤ 20) :
    ∃ D : DataW H, w.ownsMap Tryz.prog 9 (plainElem Tryz.prog 4) b N.length D ∧ Maps.size D = N.length ∧ ∀ x ∈ strKeys D, (⟨x.toArray⟩ : ByteArray) ∈ N.map (·.1) := by
  obtain ⟨es, clock, hb, hst, he⟩ := h
  have hsz : es.size = N.length := by simpa using congrArg List.length he
  have hrd : ∀ x ∈ es.toList, ∃ p ∈ N, x.key = .string p.1 ∧ x.val = .bool p.2 := by
    intro x hx
    have : (x.key, x.val) ∈ es.toList.map (fun e => (e.key, e.val)) := List.mem_map.2 ⟨x, hx, rfl⟩
    rw [he] at this
    obtain ⟨q, hq, e⟩ := List.mem_map.1 this
    obtain ⟨p, hp, rfl⟩ := List.mem_map.1 hq
    exact ⟨p, hp, (Prod.mk.inj e).1.symm, (Prod.mk.inj e).2.symm⟩
  have hok : ∀ x ∈ es.toList, ∃ p ∈ N, Go.WideElems.rd (H := H) Tryz.prog 9 (plainElem Tryz.prog 4) x = some (.string p.1.data.toList, .lit (.bool p.2)) := by
    intro x hx
    obtain ⟨p, hp, h1, h2⟩ := hrd x hx
    have h3 : keyOf Tryz.prog 9 (.string p.1) = some (.string p.1.data.toList) := by
      have := hs p hp
      simp [keyOf, Tryz.underlying9, mapKey]
      unfold maxLen; omega
    refine ⟨p, hp, ?_⟩
    obtain ⟨xk, xv, xb⟩ := x
    simp only at h1 h2
    subst h1 h2
    exact Go.WideElems.rd_mk h3 (plainElem_bool Tryz.underlying4 p.2)
  have hmem : ∀ (l : List (Lit × DataW H)) (y : Lit × DataW H), y ∈ l.foldr DataW.insert [] → y ∈ l := by
    intro l y
    induction l with
    | nil => exact id
    | cons z r ih =>
      intro hy
      rcases Go.ChangeMaps.mem_insert_iff.1 hy with rfl | hy
      · exact .head _
      · exact .tail _ (ih hy)
  have hlen1 : ∀ (x : Lit × DataW H) (l : List (Lit × DataW H)), (DataW.insert x l).length = l.length + 1 := by
    intro x l
    induction l with
    | nil => rfl
    | cons z r ih => unfold DataW.insert; split <;> simp [ih]
  have hlen : ∀ (l : List (Lit × DataW H)), (l.foldr DataW.insert []).length = l.length := by
    intro l
    induction l with
    | nil => rfl
    | cons z r ih => rw [List.foldr_cons, hlen1, ih]; rfl
  refine ⟨_, ⟨es, clock, hb, ⟨by unfold maxLen; omega, hst, fun x hx => ?_⟩, by omega, rfl⟩, ?_, ?_⟩
  · obtain ⟨p, _, e⟩ := hok x hx
    exact ⟨_, e⟩
  · show ((es.toList.map _).foldr DataW.insert []).length = _
    rw [hlen]; simpa using hsz
  · intro x hx
    obtain ⟨y, hy, rfl⟩ := List.mem_map.1 hx
    obtain ⟨z, hz, rfl⟩ := List.mem_map.1 (hmem _ _ hy)
    obtain ⟨p, hp, e⟩ := hok z hz
    rw [Go.WideElems.rg_of e]
    exact List.mem_map.2 ⟨p, hp, rfl⟩

def NeedPost (g : Gr) (name : ByteArray) (w : World) (e : Ending) (w' : World) : Prop :=
  ∃ v l, e = .returned v ∧ Strs (fun b => w.heap.size ≤ b) w' v l ∧ (∀ s ∈ l, ∃ a ∈ g.actions, a.name = name ∧ Stands g a.inputs s) ∧ Below w.heap.size w w'
theorem Strs.nil (F : Nat → Prop) (w : World) : Strs F w (.slice none 0 0) [] := ⟨none, 0, rfl, Nat.le_refl _, by simp, by simp, .inl rfl⟩

/-- The map's keys, sorted. -/
theorem sorted_any (b : Nat) (N : List (ByteArray × Bool)) (w : World) (h : XMap boolV w b N) (hs : ∀ p ∈ N, p.1.size ≤ 8) (hl : N.length ≤ 20) :
    Calls Tryz.prog 23 #[.func (.func 38) #[] #[.pointer (some ⟨w.heap.size, 0, none⟩)]] (w.alloc (.cells #[.map (some b)] 83)) fun e w' => ∃ v l, e = .returned v ∧ Strs (fun b => w.heap.size ≤ b) w' v l ∧ (∀ s ∈ l, s ∈ N.map (·.1)) ∧ Below w.heap.size w w' := by
  obtain ⟨D, h1, h2, h3⟩ := h.own (H := Nat) hs hl
  refine (callsIn_wide.1 (Tryz.slices_Sorted_keys_23_24 b N.length D _ w h1 (by unfold maxLen; omega) (by omega))).mono ?_
  rintro e w' ⟨v, ss, rfl, hp, ho, -, hb⟩
  have hm : ∀ x ∈ ss.mergeSort (fun x y => decide (x ≤ y)), (⟨x.toArray⟩ : ByteArray) ∈ N.map (·.1) := fun x hx => h3 x (hp.mem_iff.1 (List.mem_mergeSort.1 hx))
  refine ⟨v, (ss.mergeSort (fun x y => decide (x ≤ y))).map (fun x => ⟨x.toArray⟩), rfl, ?_, ?_, ((Below.refl _ _).alloc (Nat.le_refl _) _).trans (hb.mono (by simp))⟩
  · have hlen : ss.length ≤ 20 := by rw [hp.length_eq]; have : (strKeys D).length = Maps.size D := by cases D <;> simp [strKeys, Maps.size]
                                     omega
    have hl2 : ((ss.mergeSort (fun x y => decide (x ≤ y))).map (fun x => (⟨x.toArray⟩ : ByteArray))).length = ss.length := by simp
    refine (ownsRow_strs (base := (w.alloc (.cells #[.map (some b)] 83)).heap.size) (e := 9) ?_ (by rw [hl2]; omega) ?_).keep (fun b hb => ?_) ⟨Nat.le_refl _, fun _ _ _ => rfl⟩
    · rw [hl2, List.map_map]
      exact ho
    · intro s hs'
      obtain ⟨x, hx, rfl⟩ := List.mem_map.1 hs'
      obtain ⟨p, hp', e⟩ := List.mem_map.1 (hm x hx)
      have := hs p hp'
      show ByteArray.size _ ≤ _
      rw [← e]; omega
    · have : w.heap.size + 1 ≤ b := by simpa using hb
      show w.heap.size ≤ b
      omega
  · intro s hs
    obtain ⟨x, hx, rfl⟩ := List.mem_map.1 hs
    exact hm x hx

set_option maxHeartbeats 1000000 in
set_option maxRecDepth 20000 in
theorem Needs_any {F : Nat → Prop} (g : Gr) (gs ga : Value) (name : ByteArray) (w : World) (hs : Strs F w gs g.sources) (ha : Acts F w ga g.actions) :
    Calls Tryz.prog 10 #[.agg #[gs, ga], .string name] w (NeedPost g name w) := by
  have HC := Lib.hid (fun (w0 : World) (hb : Below w.heap.size w w0) => checked_any g gs ga w0 (hs.below hb) (ha.below hb))
  obtain ⟨a, cap, rfl, -⟩ := hs
  obtain ⟨a', cap', rfl, -⟩ := ha
  go_enter Tryz.func10, Tryz.ntmps10
  go_wp2_with fail
  refine (HC.out _ ((Below.refl w.heap.size w).alloc (Nat.le_refl _) _)).mono ?_
  rintro e w1 ⟨p, rfl, hw, hpp, hb1⟩
  have HB1 := Lib.hid (((Below.refl w.heap.size w).alloc (Nat.le_refl _) _).trans (hb1.mono (by simp))); clear hb1
  by_cases hE : checkedE g = 0
  · have hw1 := hw hE
    have hgB := wovenE_zero (checkedE_woven hE)
    have HAll := Lib.hid (wovenE_all (checkedE_woven hE))
    have HGB := Lib.hid hgB
    have HW1 := Lib.hid hw1
    have H4 := Lib.hid (fun (a : Act) (ha : a ∈ g.actions) => (actB_parts (graphB_acts hgB a ha)).2.2.1)
    have HK := Lib.hid (show (atG g).length ≤ 20 by have h1 := @atG_length g; have h2 := graphB_8 hgB; have h3 := graphB_12 hgB; omega)
    obtain ⟨bw, bm, gs, ga, rfl, kw, -, hga, hxm⟩ := hw1
    have c2 : w1.cell? ⟨bw, 2, none⟩ = some (.map (some bm)) := by rw [Lib.cell_of_heap kw]; rfl
    have hlk := hxm
    have HX := Lib.hid hxm
    rw [hE]
    clear hE hw hpp hgB kw hga hxm hlk
    have HKey := Lib.hid (fun (v : Int) (hv : mget (atG g) name = some v) (h0 : 0 ≤ v) => atG_get hv h0)
    cases hv : mget (atG g) name with
    | none =>
      go_wp2_with (at_lookup; refine wpList_xlook2 _ rfl _ _ _ rfl 9 3 Tryz.underlying76 Tryz.underlying9 intV 0 (zeroInt _) bm (atG g) rfl HX.out name rfl ?_; rw [hv]; simp only [intV, Option.getD_some, Option.getD_none, Option.isSome_some, Option.isSome_none])
      go_ret
      exact ⟨_, [], rfl, Strs.nil _ _, by simp, HB1.out⟩
    | some v =>
      rcases Int.lt_or_le v 0 with hv0 | hv0
      · have hge : decide (v < 0) = true := by simp; omega
        go_wp2_with (at_lookup; refine wpList_xlook2 _ rfl _ _ _ rfl 9 3 Tryz.underlying76 Tryz.underlying9 intV 0 (zeroInt _) bm (atG g) rfl HX.out name rfl ?_; rw [hv]; simp only [intV, Option.getD_some, Option.getD_none, Option.isSome_some, Option.isSome_none])
        go_ret
        exact ⟨_, [], rfl, Strs.nil _ _, by simp, HB1.out⟩
      · have hge : decide (v < 0) = false := by simp; omega
        go_wp2_with (at_lookup; refine wpList_xlook2 _ rfl _ _ _ rfl 9 3 Tryz.underlying76 Tryz.underlying9 intV 0 (zeroInt _) bm (atG g) rfl HX.out name rfl ?_; rw [hv]; simp only [intV, Option.getD_some, Option.getD_none, Option.isSome_some, Option.isSome_none])
        obtain ⟨k, hk, rfl, hnm⟩ := HKey.out v hv hv0
        refine (needs_any g bw k _ HW1.out hk H4.out HK.out HAll.out).mono ?_
        rintro e w2 ⟨b, N, rfl, hN, hL, hb2⟩
        have HN := Lib.hid hN
        have HL := Lib.hid hL
        have HB2 := Lib.hid (HB1.out.trans (hb2.mono HB1.out.size))
        clear hN hL hb2
        go_wp2_with fail
        refine (callsIn_wide.1 (Tryz.maps_Keys_24 (some b) w2)).mono ?_
        rintro e w3 ⟨rfl, rfl⟩
        go_wp2_with fail
        refine (sorted_any b N w2 HN.out (fun p hp => atG_size HGB.out (HL.out.1 p hp).2.2) (Nat.le_trans (HL.out.count HN.out.nodup) HK.out)).mono ?_
        rintro e w4 ⟨v, l, rfl, hS, hm, hb4⟩
        have HS := Lib.hid hS
        have HB4 := Lib.hid (HB2.out.trans (hb4.mono HB2.out.size))
        have HM := Lib.hid hm
        obtain ⟨av, cv, rfl, -⟩ := hS
        clear hb4 hm
        go_wp2_with fail
        go_ret
        refine ⟨_, l, rfl, HS.out.keep (fun b hb => Nat.le_trans HB2.out.size hb) ⟨Nat.le_refl _, fun _ _ _ => rfl⟩, fun s hs => ?_, HB4.out⟩
        obtain ⟨p, hp, rfl⟩ := List.mem_map.1 (HM.out s hs)
        exact ⟨_, getD_mem default hk, hnm, (HL.out.1 p hp).2.1⟩
  · have hb : (checkedE g != 0) = true := by rw [bne_iff_ne]; exact hE
    clear hw hE
    generalize checkedE g = x at hb ⊢
    rcases hpp with rfl | ⟨b, rfl⟩
    all_goals
      go_wp2_with fail
      go_ret
      exact ⟨_, [], rfl, Strs.nil _ _, by simp, HB1.out⟩
end Go.Proofs.YtnifkpcjpjgkeaaGreatDoor
