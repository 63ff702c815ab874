/- mill.step: case l. -/
/- mill.step: case i (an input is loaded); a byte that does nothing but take one. -/
import Derived.Test.YtnifkpcjpjgkeaaGreatDoorME44
/- E47. -/
namespace Go.Proofs.YtnifkpcjpjgkeaaGreatDoor
open Go.RowKit Go.Shelf

set_option maxHeartbeats 2000000 in
set_option maxRecDepth 20000 in
theorem step_l (B M : Nat) (G : Nat → Prop) (code : ByteArray) (iv : Value) (l : List ByteArray) (k : Nat) (s : ByteArray) (w : World) (h1 : 0 < s.size) (hs : s.size ≤ 1000) (hm : MachAt B M G code iv l k w) (hk : k + s.size ≤ 1000) (hG : ¬ G M) (hB : B ≤ w.heap.size) (hGl : ∀ k, G k → k < w.heap.size)
    (hb : s[0]'h1 = 108) (hle : 1 ≤ l.length) (hL : LaidB B w) : Calls Tryz.prog 76 #[.pointer (some ⟨M, 0, none⟩), .string s] w (StepPost B M G code iv w) := by
  have HM := Lib.hid hm
  have HGl := Lib.hid hGl
  have HSz := Lib.hid hm.1.2.2.2.1
  have hp' : ((s[0]'h1).toNat : Int) = 108 := by rw [hb]; rfl
  have HT : Hid (∀ w0 : World, Calls Tryz.prog 94 #[.int .u8 108] w0 (fun e w' => e = .returned (.int .i64 1) ∧ w' = w0)) := Lib.hid (takes_any 108)
  have HP := Lib.hid (fun (w0 : World) (hb : Below w.heap.size w w0) => pop_ok B M G l 1 w0 (hm.1.alloc hb) (by omega) hG (Nat.le_trans hB hb.size) hle)
  have hMl := hm.1.lt
  have x3 := hm.2.2.2.1
  have hd : (l.drop (l.length - 1)).length = 1 := by simp; omega
  have HL := Lib.hid hL
  clear hb hm hGl hL
  go_enter Tryz.func76, Tryz.ntmps76
  go_wp2_with fail
  refine (number_any s _ hs).mono ?_
  rintro e w1 ⟨⟨n, rfl, hn⟩, hw⟩
  obtain rfl := hw.symm
  go_wp2_with fail
  go_region_with (first
    | (go_at_call 94; refine (HT.out _).mono ?_; rintro e w1 ⟨rfl, rfl⟩)
    | (go_at_call 91; refine (HP.out _ ((Below.refl _ _).drew)).mono ?_; rintro e w1 ⟨v, rfl, hv, hst, hs1⟩; obtain ⟨av, cv, hv0, -, -, hvf, hv5⟩ := hv; rw [hd] at hv0; subst hv0))
  all_goals
    replace hs1 : Step1 B M G w w1 := ((Step1.refl B M G w).drew).trans hs1
    have hM1 := hst.lt
    have y3 := (hs1.2.2 3 (by omega)).1.trans x3
    have g3 := (hs1.2.2 3 (by omega)).2.trans HM.out.2.2.2.2
    have H1 := Lib.hid hs1
    have HSt := Lib.hid hst
    have HMp := Lib.hid (HM.out.popped hst (show Step1 B M G w w1 from hs1) (k + s.size))
    obtain ⟨bb, off, rfl, hbF, hbb, hc⟩ := hv5.resolve_left (fun e => by rw [e] at hd; simp at hd)
    have hbM : bb ≠ M := by have h : w.heap.size ≤ bb := hbF; omega
    have c0 := hc 0 (by omega)
    have z0 := HSz.out _ (List.mem_of_mem_drop (getD_mem ByteArray.empty (show 0 < (l.drop (l.length - 1)).length by omega)))
    generalize (l.drop (l.length - 1)).getD 0 ByteArray.empty = x0 at c0 z0
    rw [Nat.add_zero] at c0
    have BW := Lib.hid (show Below B w (w1.setCell ⟨M, 3, none⟩ (.int .i64 ((k : Int) + s.size))) from hs1.1.setCell (p := ⟨M, 3, none⟩) (HM.out.1.2.2.2.2) _)
    have GW := Lib.hid (show ∀ k', G k' → k' < w.heap.size → (w1.setCell ⟨M, 3, none⟩ (.int .i64 ((k : Int) + s.size))).heap[k']? = w.heap[k']? from fun k' hk' hl' => (Below.heap_setCell _ _ _ _ (fun e => hG (by have : k' = M := e; exact this ▸ hk'))).trans (hs1.2.1 k' hk' hl'))
    rw [Int.natCast_add] at HMp
    have d0 : (w1.setCell ⟨M, 3, none⟩ (.int .i64 ((k : Int) + s.size))).cell? ⟨bb, off, none⟩ = some (.string x0) := (World.cell?_setCell_other _ _ _ _ (fun e => hbM (by cases e; rfl))).trans c0
    clear hst hs1 x3 hc hv5 hd HP hvf
    go_wp2_with fail
    generalize w1.setCell ⟨M, 3, none⟩ (.int .i64 ((k : Int) + s.size)) = w2 at HMp BW GW d0 ⊢
    clear c0 y3 g3 hbb
    go_region_with (first | (go_at_call 97; refine (Itoa_any x0.size _ (by omega) ((HL.out.below (BW.out.drew)).here).2.2.2).mono ?_; rintro e w3 ⟨t, rfl, ht, hb3⟩; have HM3 := Lib.hid (HMp.out.below (((Below.refl _ _).drew).trans hb3)); have BW3 := Lib.hid (BW.out.trans ((((Below.refl _ _).drew).trans hb3).mono (Nat.le_trans hB BW.out.size))); have GW3 := Lib.hid (fun k' (hk' : G k') (hl' : k' < w.heap.size) => ((((Below.refl _ _).drew).trans hb3).block k' (Nat.lt_of_lt_of_le hl' BW.out.size)).trans (GW.out k' hk' hl')); clear hb3) | (go_at_call 95; refine (push_new0 B M G _ [t] 1 9 _ HM3.out.1 rfl (by simp) (by simp; omega) hG (by have := BW3.out.size; omega) (fun k' hk' => Nat.lt_of_lt_of_le (HGl.out k' hk') BW3.out.size)).mono ?_; rintro e w4 hpp; have HPP := Lib.hid (step_push_end0 (w := w) (w2 := w3) (k2 := k + s.size) HM3.out hk BW3.out GW3.out (Nat.le_trans hB BW3.out.size) hpp); obtain ⟨cc, l', rfl, -⟩ := hpp))
    all_goals
      go_wp2_with fail
      go_ret
      exact HPP.out
end Go.Proofs.YtnifkpcjpjgkeaaGreatDoor
/- E49. -/
namespace Go.Proofs.YtnifkpcjpjgkeaaGreatDoor
open Go.RowKit Go.Shelf

set_option maxHeartbeats 2000000 in
set_option maxRecDepth 20000 in
theorem step_i (B M : Nat) (G : Nat → Prop) (code : ByteArray) (iv : Value) (l li : List ByteArray) (k : Nat) (s : ByteArray) (w : World) (h1 : 0 < s.size) (hs : s.size ≤ 1000) (hm : MachAt B M G code iv l k w) (hk : k + s.size ≤ 1000) (hG : ¬ G M) (hB : B ≤ w.heap.size) (hGl : ∀ k, G k → k < w.heap.size)
    (hb : s[0]'h1 = 105) (hiv : Strs G w iv li) (hli : ∀ x ∈ li, x.size ≤ 2000) : Calls Tryz.prog 76 #[.pointer (some ⟨M, 0, none⟩), .string s] w (StepPost B M G code iv w) := by
  have HM := Lib.hid hm
  have HGl := Lib.hid hGl
  have hp' : ((s[0]'h1).toNat : Int) = 105 := by rw [hb]; rfl
  have HT : Hid (∀ w0 : World, Calls Tryz.prog 94 #[.int .u8 105] w0 (fun e w' => e = .returned (.int .i64 0) ∧ w' = w0)) := Lib.hid (takes_any 105)
  have HP := Lib.hid (fun (w0 : World) (hb : Below w.heap.size w w0) => pop_ok B M G l 0 w0 (hm.1.alloc hb) (by omega) hG (Nat.le_trans hB hb.size) (Nat.zero_le _))
  have hMl := hm.1.lt
  have x3 := hm.2.2.2.1
  have x2 := hm.2.2.1
  have hd : (l.drop (l.length - 0)).length = 0 := by simp
  obtain ⟨ai, ci, rfl, hi2, hi3, -, hi5⟩ := hiv
  have HI5 := Lib.hid hi5
  have HLi := Lib.hid hli
  clear hb hm hGl hi5 hli
  go_enter Tryz.func76, Tryz.ntmps76
  go_wp2_with fail
  refine (number_any s _ hs).mono ?_
  rintro e w1 ⟨⟨n, rfl, hn⟩, hw⟩
  obtain rfl := hw.symm
  by_cases hlt : n < li.length
  · obtain ⟨ib, ioff, rfl, hGb, hbs, hic⟩ := HI5.out.resolve_left (fun e => by rw [e] at hlt; simp at hlt)
    have ic := hic n hlt
    have z0 := HLi.out _ (getD_mem ByteArray.empty hlt)
    generalize li.getD n ByteArray.empty = x0 at ic z0
    have q1 : (0 : Int) ≤ (n : Int) := by omega
    have q2 : (n : Int) < (li.length : Int) := by omega
    have hibM : ib ≠ M := fun e => hG (e ▸ hGb)
    clear hic HI5
    go_wp2_with fail
    go_region_with (first
      | (go_at_call 94; refine (HT.out _).mono ?_; rintro e w1 ⟨rfl, rfl⟩)
      | (go_at_call 91; refine (HP.out _ ((Below.refl _ _).drew)).mono ?_; rintro e w1 ⟨v, rfl, hv, hst, hs1⟩; obtain ⟨av, cv, hv0, -, -, hvf, hv5⟩ := hv; rw [hd] at hv0; subst hv0))
    all_goals
      replace hs1 : Step1 B M G w w1 := ((Step1.refl B M G w).drew).trans hs1
      have hM1 := hst.lt
      have y3 := (hs1.2.2 3 (by omega)).1.trans x3
      have g3 := (hs1.2.2 3 (by omega)).2.trans HM.out.2.2.2.2
      have H1 := Lib.hid hs1
      have HSt := Lib.hid hst
      have HMp := Lib.hid (HM.out.popped hst (show Step1 B M G w w1 from hs1) (k + s.size))
      have BW := Lib.hid (show Below B w (w1.setCell ⟨M, 3, none⟩ (.int .i64 ((k : Int) + s.size))) from hs1.1.setCell (p := ⟨M, 3, none⟩) (HM.out.1.2.2.2.2) _)
      have GW := Lib.hid (show ∀ k', G k' → k' < w.heap.size → (w1.setCell ⟨M, 3, none⟩ (.int .i64 ((k : Int) + s.size))).heap[k']? = w.heap[k']? from fun k' hk' hl' => (Below.heap_setCell _ _ _ _ (fun e => hG (by have : k' = M := e; exact this ▸ hk'))).trans (hs1.2.1 k' hk' hl'))
      rw [Int.natCast_add] at HMp
      have d0 := (World.cell?_of_block (w := w) (a := ⟨ib, ioff + n, none⟩) (GW.out ib hGb hbs)).trans ic
      have y2 := HMp.out.2.2.1
      clear hst hs1 x3 x2 hv5 hd HP hvf ic
      go_wp2_with fail
      generalize w1.setCell ⟨M, 3, none⟩ (.int .i64 ((k : Int) + s.size)) = w2 at HMp BW GW d0 y2 ⊢
      clear y3 g3
      go_region_with (first | (go_at_call 95; refine (push_new B M G _ [x0] 1 9 _ HMp.out.1 rfl (by simp) (by simp; omega) hG (by have := BW.out.size; simp; omega) (fun k' hk' => Nat.lt_of_lt_of_le (HGl.out k' hk') BW.out.size)).mono ?_; rintro e w3 hpp; have HPP := Lib.hid (step_push_end (w := w) (w2 := w2) (k2 := k + s.size) HMp.out hk BW.out GW.out (Nat.le_trans hB BW.out.size) hpp); obtain ⟨cc, l', rfl, -⟩ := hpp))
      all_goals
        go_wp2_with fail
        go_ret
        exact HPP.out
  · have q2 : ¬ (n : Int) < (li.length : Int) := by omega
    go_wp2_with fail
    go_ret
    exact ⟨32, l, k, rfl, HM.out, by omega, Below.refl _ _, fun _ _ _ => rfl⟩

theorem u8_ne {b c : UInt8} {z : Int} (h : b ≠ c) (hz : (c.toNat : Int) = z) : ((b.toNat : Int) == z) = false := by
  rw [beq_eq_false_iff_ne]; exact fun e => h (UInt8.toNat_inj.1 (by omega))

set_option maxHeartbeats 2000000 in
set_option maxRecDepth 20000 in
theorem step_other (B M : Nat) (G : Nat → Prop) (code : ByteArray) (iv : Value) (l : List ByteArray) (k : Nat) (s : ByteArray) (w : World) (h1 : 0 < s.size) (hs : s.size ≤ 1000) (hm : MachAt B M G code iv l k w) (hk : k + s.size ≤ 1000) (hG : ¬ G M) (hB : B ≤ w.heap.size) (hGl : ∀ k, G k → k < w.heap.size)
    (hb : s[0]'h1 ∉ ([105, 112, 99, 100, 115, 114, 104, 108, 116, 107, 61, 106, 103] : List UInt8)) (hle : 1 ≤ l.length) : Calls Tryz.prog 76 #[.pointer (some ⟨M, 0, none⟩), .string s] w (StepPost B M G code iv w) := by
  have HM := Lib.hid hm
  have HGl := Lib.hid hGl
  simp only [List.mem_cons, List.not_mem_nil, or_false, not_or] at hb
  obtain ⟨n1, n2, n3, n4, n5, n6, n7, n8, n9, n10, n11, n12, n13⟩ := hb
  have ht : takesB (s[0]'h1) = 1 := by
    unfold takesB
    rw [if_neg (by simp [n3, n5, n11]), if_neg (by simp [n1, n2, n13])]
  have HT : Hid (∀ w0 : World, Calls Tryz.prog 94 #[.int .u8 ((s[0]'h1).toNat : Int)] w0 (fun e w' => e = .returned (.int .i64 1) ∧ w' = w0)) := Lib.hid (fun w0 => by have h := takes_any (s[0]'h1) w0; rw [ht] at h; exact h)
  replace n1 := u8_ne (z := 105) n1 rfl
  replace n2 := u8_ne (z := 112) n2 rfl
  replace n3 := u8_ne (z := 99) n3 rfl
  replace n4 := u8_ne (z := 100) n4 rfl
  replace n5 := u8_ne (z := 115) n5 rfl
  replace n6 := u8_ne (z := 114) n6 rfl
  replace n7 := u8_ne (z := 104) n7 rfl
  replace n8 := u8_ne (z := 108) n8 rfl
  replace n9 := u8_ne (z := 116) n9 rfl
  replace n10 := u8_ne (z := 107) n10 rfl
  replace n11 := u8_ne (z := 61) n11 rfl
  replace n12 := u8_ne (z := 106) n12 rfl
  replace n13 := u8_ne (z := 103) n13 rfl
  have HP := Lib.hid (fun (w0 : World) (hb : Below w.heap.size w w0) => pop_ok B M G l 1 w0 (hm.1.alloc hb) (by omega) hG (Nat.le_trans hB hb.size) hle)
  have hMl := hm.1.lt
  have x3 := hm.2.2.2.1
  have hd : (l.drop (l.length - 1)).length = 1 := by simp; omega
  clear hm hGl ht
  go_enter Tryz.func76, Tryz.ntmps76
  go_wp2_with fail
  refine (number_any s _ hs).mono ?_
  rintro e w1 ⟨⟨n, rfl, hn⟩, hw⟩
  obtain rfl := hw.symm
  go_wp2_with fail
  go_region_with (first
    | (go_at_call 94; refine (HT.out _).mono ?_; rintro e w1 ⟨rfl, rfl⟩)
    | (go_at_call 91; refine (HP.out _ ((Below.refl _ _).drew)).mono ?_; rintro e w1 ⟨v, rfl, hv, hst, hs1⟩; obtain ⟨av, cv, hv0, -, -, hvf, hv5⟩ := hv; rw [hd] at hv0; subst hv0))
  all_goals
    replace hs1 : Step1 B M G w w1 := ((Step1.refl B M G w).drew).trans hs1
    have hM1 := hst.lt
    have y3 := (hs1.2.2 3 (by omega)).1.trans x3
    have g3 := (hs1.2.2 3 (by omega)).2.trans HM.out.2.2.2.2
    have H1 := Lib.hid hs1
    have HSt := Lib.hid hst
    have HMp := Lib.hid (HM.out.popped hst (show Step1 B M G w w1 from hs1) (k + s.size))
    have BW := Lib.hid (show Below B w (w1.setCell ⟨M, 3, none⟩ (.int .i64 ((k : Int) + s.size))) from hs1.1.setCell (p := ⟨M, 3, none⟩) (HM.out.1.2.2.2.2) _)
    have GW := Lib.hid (show ∀ k', G k' → k' < w.heap.size → (w1.setCell ⟨M, 3, none⟩ (.int .i64 ((k : Int) + s.size))).heap[k']? = w.heap[k']? from fun k' hk' hl' => (Below.heap_setCell _ _ _ _ (fun e => hG (by have : k' = M := e; exact this ▸ hk'))).trans (hs1.2.1 k' hk' hl'))
    rw [Int.natCast_add] at HMp
    clear hst hs1 x3 hv5 hd HP hvf
    go_wp2_with fail
    go_ret
    exact ⟨0, _, k + s.size, rfl, HMp.out, hk, BW.out, GW.out⟩
end Go.Proofs.YtnifkpcjpjgkeaaGreatDoor
