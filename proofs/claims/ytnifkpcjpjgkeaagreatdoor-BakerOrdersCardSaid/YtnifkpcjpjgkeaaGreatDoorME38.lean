/- mill.step: case same. -/
/- mill.step: case j. -/
/- mill.step: case g. -/
/- mill.step: case p. -/
import Derived.Test.YtnifkpcjpjgkeaaGreatDoorME32
/- E38. -/
namespace Go.Proofs.YtnifkpcjpjgkeaaGreatDoor
open Go.RowKit Go.Shelf

set_option maxHeartbeats 2000000 in
set_option maxRecDepth 20000 in
theorem step_same (B M : Nat) (G : Nat → Prop) (code : ByteArray) (iv : Value) (l : List ByteArray) (k : Nat) (s : ByteArray) (w : World) (h1 : 0 < s.size) (hs : s.size ≤ 1000) (hm : MachAt B M G code iv l k w) (hk : k + s.size ≤ 1000) (hG : ¬ G M) (hB : B ≤ w.heap.size) (hGl : ∀ k, G k → k < w.heap.size)
    (hb : s[0]'h1 = 61) (hle : 2 ≤ l.length) : Calls Tryz.prog 76 #[.pointer (some ⟨M, 0, none⟩), .string s] w (StepPost B M G code iv w) := by
  have HM := Lib.hid hm
  have HGl := Lib.hid hGl
  have HSz := Lib.hid hm.1.2.2.2.1
  have hp' : ((s[0]'h1).toNat : Int) = 61 := by rw [hb]; rfl
  have HT : Hid (∀ w0 : World, Calls Tryz.prog 94 #[.int .u8 61] w0 (fun e w' => e = .returned (.int .i64 2) ∧ w' = w0)) := Lib.hid (takes_any 61)
  have HP := Lib.hid (fun (w0 : World) (hb : Below w.heap.size w w0) => pop_ok B M G l 2 w0 (hm.1.alloc hb) (by omega) hG (Nat.le_trans hB hb.size) hle)
  have hMl := hm.1.lt
  have x3 := hm.2.2.2.1
  have hd : (l.drop (l.length - 2)).length = 2 := by simp; omega
  clear hb hm hGl
  go_enter Tryz.func76, Tryz.ntmps76
  go_wp2_with fail
  refine (number_any s _ hs).mono ?_
  rintro e w1 ⟨⟨n, rfl, hn⟩, hw⟩
  obtain rfl := hw.symm
  go_wp2_with fail
  go_region_with (first
    | (go_at_call 94; refine (HT.out _).mono ?_; rintro e w1 ⟨rfl, rfl⟩)
    | (go_at_call 91; refine (HP.out _ ((Below.refl _ _).drew)).mono ?_; rintro e w1 ⟨v, rfl, hv, hst, hs1⟩; obtain ⟨av, cv, hv0, -, -, hvf, hv5⟩ := hv; rw [hd] at hv0; subst hv0))
  all_goals
    replace hs1 : Step1 B M G w w1 := ((Step1.refl B M G w).drew).trans hs1
    have hM1 := hst.lt
    have y3 := (hs1.2.2 3 (by omega)).1.trans x3
    have g3 := (hs1.2.2 3 (by omega)).2.trans HM.out.2.2.2.2
    have H1 := Lib.hid hs1
    have HSt := Lib.hid hst
    have HMp := Lib.hid (HM.out.popped hst (show Step1 B M G w w1 from hs1) (k + s.size))
    obtain ⟨bb, off, rfl, hbF, hbb, hc⟩ := hv5.resolve_left (fun e => by rw [e] at hd; simp at hd)
    have hbM : bb ≠ M := by have h : w.heap.size ≤ bb := hbF; omega
    have c0 := hc 0 (by omega)
    have z0 := HSz.out _ (List.mem_of_mem_drop (getD_mem ByteArray.empty (show 0 < (l.drop (l.length - 2)).length by omega)))
    generalize (l.drop (l.length - 2)).getD 0 ByteArray.empty = x0 at c0 z0
    rw [Nat.add_zero] at c0
    have c1 := hc 1 (by omega)
    have z1 := HSz.out _ (List.mem_of_mem_drop (getD_mem ByteArray.empty (show 1 < (l.drop (l.length - 2)).length by omega)))
    generalize (l.drop (l.length - 2)).getD 1 ByteArray.empty = x1 at c1 z1
    have BW := Lib.hid (show Below B w (w1.setCell ⟨M, 3, none⟩ (.int .i64 ((k : Int) + s.size))) from hs1.1.setCell (p := ⟨M, 3, none⟩) (HM.out.1.2.2.2.2) _)
    have GW := Lib.hid (show ∀ k', G k' → k' < w.heap.size → (w1.setCell ⟨M, 3, none⟩ (.int .i64 ((k : Int) + s.size))).heap[k']? = w.heap[k']? from fun k' hk' hl' => (Below.heap_setCell _ _ _ _ (fun e => hG (by have : k' = M := e; exact this ▸ hk'))).trans (hs1.2.1 k' hk' hl'))
    rw [Int.natCast_add] at HMp
    have d0 : (w1.setCell ⟨M, 3, none⟩ (.int .i64 ((k : Int) + s.size))).cell? ⟨bb, off, none⟩ = some (.string x0) := (World.cell?_setCell_other _ _ _ _ (fun e => hbM (by cases e; rfl))).trans c0
    have d1 : (w1.setCell ⟨M, 3, none⟩ (.int .i64 ((k : Int) + s.size))).cell? ⟨bb, off + 1, none⟩ = some (.string x1) := (World.cell?_setCell_other _ _ _ _ (fun e => hbM (by cases e; rfl))).trans c1
    clear hst hs1 x3 hc hv5 hd HP hvf
    go_wp2_with fail
    generalize w1.setCell ⟨M, 3, none⟩ (.int .i64 ((k : Int) + s.size)) = w2 at HMp BW GW d0 d1 ⊢
    clear c0 y3 g3 hbb
    go_region_with (first | (go_at_call 98; refine (same_any _ _ _).mono ?_; rintro e w3 ⟨⟨t, rfl, ht⟩, rfl⟩) | (go_at_call 95; refine (push_new B M G _ [t] 1 9 _ HMp.out.1 rfl (by simp) (by simp; omega) hG (by have := BW.out.size; simp; omega) (fun k' hk' => Nat.lt_of_lt_of_le (HGl.out k' hk') BW.out.size)).mono ?_; rintro e w3 hpp; have HPP := Lib.hid (step_push_end (w := w) (w2 := w2) (k2 := k + s.size) HMp.out hk BW.out GW.out (Nat.le_trans hB BW.out.size) hpp); obtain ⟨cc, l', rfl, -⟩ := hpp))
    all_goals
      go_wp2_with fail
      go_ret
      exact HPP.out
end Go.Proofs.YtnifkpcjpjgkeaaGreatDoor
/- E41. -/
namespace Go.Proofs.YtnifkpcjpjgkeaaGreatDoor
open Go.RowKit Go.Shelf

set_option maxHeartbeats 2000000 in
set_option maxRecDepth 20000 in
theorem step_j (B M : Nat) (G : Nat → Prop) (code : ByteArray) (iv : Value) (l : List ByteArray) (k : Nat) (s : ByteArray) (w : World) (h1 : 0 < s.size) (hs : s.size ≤ 1000) (hm : MachAt B M G code iv l k w) (hk : k + s.size ≤ 1000) (hG : ¬ G M) (hB : B ≤ w.heap.size) (hGl : ∀ k, G k → k < w.heap.size)
    (hb : s[0]'h1 = 106) (hle : 1 ≤ l.length) : Calls Tryz.prog 76 #[.pointer (some ⟨M, 0, none⟩), .string s] w (StepPost B M G code iv w) := by
  have HM := Lib.hid hm
  have HGl := Lib.hid hGl
  have HSz := Lib.hid hm.1.2.2.2.1
  have hp' : ((s[0]'h1).toNat : Int) = 106 := by rw [hb]; rfl
  have HT : Hid (∀ w0 : World, Calls Tryz.prog 94 #[.int .u8 106] w0 (fun e w' => e = .returned (.int .i64 1) ∧ w' = w0)) := Lib.hid (takes_any 106)
  have HP := Lib.hid (fun (w0 : World) (hb : Below w.heap.size w w0) => pop_ok B M G l 1 w0 (hm.1.alloc hb) (by omega) hG (Nat.le_trans hB hb.size) hle)
  have hMl := hm.1.lt
  have x3 := hm.2.2.2.1
  have hd : (l.drop (l.length - 1)).length = 1 := by simp; omega
  clear hb hm hGl
  go_enter Tryz.func76, Tryz.ntmps76
  go_wp2_with fail
  refine (number_any s _ hs).mono ?_
  rintro e w1 ⟨⟨n, rfl, hn⟩, hw⟩
  obtain rfl := hw.symm
  go_wp2_with fail
  go_region_with (first
    | (go_at_call 94; refine (HT.out _).mono ?_; rintro e w1 ⟨rfl, rfl⟩)
    | (go_at_call 91; refine (HP.out _ ((Below.refl _ _).drew)).mono ?_; rintro e w1 ⟨v, rfl, hv, hst, hs1⟩; obtain ⟨av, cv, hv0, -, -, hvf, hv5⟩ := hv; rw [hd] at hv0; subst hv0))
  all_goals
    replace hs1 : Step1 B M G w w1 := ((Step1.refl B M G w).drew).trans hs1
    have hM1 := hst.lt
    have y3 := (hs1.2.2 3 (by omega)).1.trans x3
    have g3 := (hs1.2.2 3 (by omega)).2.trans HM.out.2.2.2.2
    have H1 := Lib.hid hs1
    have HSt := Lib.hid hst
    have HMp := Lib.hid (HM.out.popped hst (show Step1 B M G w w1 from hs1) (k + s.size))
    obtain ⟨bb, off, rfl, hbF, hbb, hc⟩ := hv5.resolve_left (fun e => by rw [e] at hd; simp at hd)
    have hbM : bb ≠ M := by have h : w.heap.size ≤ bb := hbF; omega
    have c0 := hc 0 (by omega)
    have z0 := HSz.out _ (List.mem_of_mem_drop (getD_mem ByteArray.empty (show 0 < (l.drop (l.length - 1)).length by omega)))
    generalize (l.drop (l.length - 1)).getD 0 ByteArray.empty = x0 at c0 z0
    rw [Nat.add_zero] at c0
    have BW := Lib.hid (show Below B w (w1.setCell ⟨M, 3, none⟩ (.int .i64 ((k : Int) + s.size))) from hs1.1.setCell (p := ⟨M, 3, none⟩) (HM.out.1.2.2.2.2) _)
    have GW := Lib.hid (show ∀ k', G k' → k' < w.heap.size → (w1.setCell ⟨M, 3, none⟩ (.int .i64 ((k : Int) + s.size))).heap[k']? = w.heap[k']? from fun k' hk' hl' => (Below.heap_setCell _ _ _ _ (fun e => hG (by have : k' = M := e; exact this ▸ hk'))).trans (hs1.2.1 k' hk' hl'))
    rw [Int.natCast_add] at HMp
    have d0 : (w1.setCell ⟨M, 3, none⟩ (.int .i64 ((k : Int) + s.size))).cell? ⟨bb, off, none⟩ = some (.string x0) := (World.cell?_setCell_other _ _ _ _ (fun e => hbM (by cases e; rfl))).trans c0
    clear hst hs1 x3 hc hv5 hd HP hvf
    have HM2 := Lib.hid (HMp.out.set3 n)
    have BW2 := Lib.hid (BW.out.setCell (p := ⟨M, 3, none⟩) (HM.out.1.2.2.2.2) (.int .i64 (n : Int)))
    have GW2 := Lib.hid (fun k' (hk' : G k') (hl' : k' < w.heap.size) => (Below.heap_setCell (w1.setCell ⟨M, 3, none⟩ (.int .i64 ((k : Int) + s.size))) ⟨M, 3, none⟩ (.int .i64 (n : Int)) k' (fun e => hG (by have : k' = M := e; exact this ▸ hk'))).trans (GW.out k' hk' hl'))
    clear c0 hbb
    go_wp2_with fail
    all_goals
      go_ret
      first
        | exact ⟨0, _, k + s.size, rfl, HMp.out, hk, BW.out, GW.out⟩
        | exact ⟨0, _, n, rfl, HM2.out, by omega, BW2.out, GW2.out⟩
end Go.Proofs.YtnifkpcjpjgkeaaGreatDoor
/- E42. -/
namespace Go.Proofs.YtnifkpcjpjgkeaaGreatDoor
open Go.RowKit Go.Shelf

set_option maxHeartbeats 2000000 in
set_option maxRecDepth 20000 in
theorem step_g (B M : Nat) (G : Nat → Prop) (code : ByteArray) (iv : Value) (l : List ByteArray) (k : Nat) (s : ByteArray) (w : World) (h1 : 0 < s.size) (hs : s.size ≤ 1000) (hm : MachAt B M G code iv l k w) (hk : k + s.size ≤ 1000) (hG : ¬ G M) (hB : B ≤ w.heap.size) (hGl : ∀ k, G k → k < w.heap.size)
    (hb : s[0]'h1 = 103) (hle : 0 ≤ l.length) : Calls Tryz.prog 76 #[.pointer (some ⟨M, 0, none⟩), .string s] w (StepPost B M G code iv w) := by
  have HM := Lib.hid hm
  have HGl := Lib.hid hGl
  have HSz := Lib.hid hm.1.2.2.2.1
  have hp' : ((s[0]'h1).toNat : Int) = 103 := by rw [hb]; rfl
  have HT : Hid (∀ w0 : World, Calls Tryz.prog 94 #[.int .u8 103] w0 (fun e w' => e = .returned (.int .i64 0) ∧ w' = w0)) := Lib.hid (takes_any 103)
  have HP := Lib.hid (fun (w0 : World) (hb : Below w.heap.size w w0) => pop_ok B M G l 0 w0 (hm.1.alloc hb) (by omega) hG (Nat.le_trans hB hb.size) hle)
  have hMl := hm.1.lt
  have x3 := hm.2.2.2.1
  have hd : (l.drop (l.length - 0)).length = 0 := by simp
  clear hb hm hGl
  go_enter Tryz.func76, Tryz.ntmps76
  go_wp2_with fail
  refine (number_any s _ hs).mono ?_
  rintro e w1 ⟨⟨n, rfl, hn⟩, hw⟩
  obtain rfl := hw.symm
  go_wp2_with fail
  go_region_with (first
    | (go_at_call 94; refine (HT.out _).mono ?_; rintro e w1 ⟨rfl, rfl⟩)
    | (go_at_call 91; refine (HP.out _ ((Below.refl _ _).drew)).mono ?_; rintro e w1 ⟨v, rfl, hv, hst, hs1⟩; obtain ⟨av, cv, hv0, -, -, hvf, hv5⟩ := hv; rw [hd] at hv0; subst hv0))
  all_goals
    replace hs1 : Step1 B M G w w1 := ((Step1.refl B M G w).drew).trans hs1
    have hM1 := hst.lt
    have y3 := (hs1.2.2 3 (by omega)).1.trans x3
    have g3 := (hs1.2.2 3 (by omega)).2.trans HM.out.2.2.2.2
    have H1 := Lib.hid hs1
    have HSt := Lib.hid hst
    have HMp := Lib.hid (HM.out.popped hst (show Step1 B M G w w1 from hs1) (k + s.size))
    have BW := Lib.hid (show Below B w (w1.setCell ⟨M, 3, none⟩ (.int .i64 ((k : Int) + s.size))) from hs1.1.setCell (p := ⟨M, 3, none⟩) (HM.out.1.2.2.2.2) _)
    have GW := Lib.hid (show ∀ k', G k' → k' < w.heap.size → (w1.setCell ⟨M, 3, none⟩ (.int .i64 ((k : Int) + s.size))).heap[k']? = w.heap[k']? from fun k' hk' hl' => (Below.heap_setCell _ _ _ _ (fun e => hG (by have : k' = M := e; exact this ▸ hk'))).trans (hs1.2.1 k' hk' hl'))
    rw [Int.natCast_add] at HMp
    clear hst hs1 x3 hv5 hd HP hvf
    have HM2 := Lib.hid (HMp.out.set3 n)
    have BW2 := Lib.hid (BW.out.setCell (p := ⟨M, 3, none⟩) (HM.out.1.2.2.2.2) (.int .i64 (n : Int)))
    have GW2 := Lib.hid (fun k' (hk' : G k') (hl' : k' < w.heap.size) => (Below.heap_setCell (w1.setCell ⟨M, 3, none⟩ (.int .i64 ((k : Int) + s.size))) ⟨M, 3, none⟩ (.int .i64 (n : Int)) k' (fun e => hG (by have : k' = M := e; exact this ▸ hk'))).trans (GW.out k' hk' hl'))
    go_wp2_with fail
    all_goals
      go_ret
      first
        | exact ⟨0, _, k + s.size, rfl, HMp.out, hk, BW.out, GW.out⟩
        | exact ⟨0, _, n, rfl, HM2.out, by omega, BW2.out, GW2.out⟩
end Go.Proofs.YtnifkpcjpjgkeaaGreatDoor
/- E43. -/
namespace Go.Proofs.YtnifkpcjpjgkeaaGreatDoor
open Go.RowKit Go.Shelf

set_option maxHeartbeats 2000000 in
set_option maxRecDepth 20000 in
theorem step_p (B M : Nat) (G : Nat → Prop) (code : ByteArray) (iv : Value) (l : List ByteArray) (k : Nat) (s : ByteArray) (w : World) (h1 : 0 < s.size) (hs : s.size ≤ 1000) (hm : MachAt B M G code iv l k w) (hk : k + s.size ≤ 1000) (hG : ¬ G M) (hB : B ≤ w.heap.size) (hGl : ∀ k, G k → k < w.heap.size)
    (hb : s[0]'h1 = 112) (hle : 0 ≤ l.length) (hs2 : 2 ≤ s.size) : Calls Tryz.prog 76 #[.pointer (some ⟨M, 0, none⟩), .string s] w (StepPost B M G code iv w) := by
  have HM := Lib.hid hm
  have HGl := Lib.hid hGl
  have HSz := Lib.hid hm.1.2.2.2.1
  have hp' : ((s[0]'h1).toNat : Int) = 112 := by rw [hb]; rfl
  have HT : Hid (∀ w0 : World, Calls Tryz.prog 94 #[.int .u8 112] w0 (fun e w' => e = .returned (.int .i64 0) ∧ w' = w0)) := Lib.hid (takes_any 112)
  have HP := Lib.hid (fun (w0 : World) (hb : Below w.heap.size w w0) => pop_ok B M G l 0 w0 (hm.1.alloc hb) (by omega) hG (Nat.le_trans hB hb.size) hle)
  have hMl := hm.1.lt
  have x3 := hm.2.2.2.1
  have hd : (l.drop (l.length - 0)).length = 0 := by simp
  clear hb hm hGl
  go_enter Tryz.func76, Tryz.ntmps76
  go_wp2_with fail
  refine (number_any s _ hs).mono ?_
  rintro e w1 ⟨⟨n, rfl, hn⟩, hw⟩
  obtain rfl := hw.symm
  go_wp2_with fail
  go_region_with (first
    | (go_at_call 94; refine (HT.out _).mono ?_; rintro e w1 ⟨rfl, rfl⟩)
    | (go_at_call 91; refine (HP.out _ ((Below.refl _ _).drew)).mono ?_; rintro e w1 ⟨v, rfl, hv, hst, hs1⟩; obtain ⟨av, cv, hv0, -, -, hvf, hv5⟩ := hv; rw [hd] at hv0; subst hv0))
  all_goals
    replace hs1 : Step1 B M G w w1 := ((Step1.refl B M G w).drew).trans hs1
    have hM1 := hst.lt
    have y3 := (hs1.2.2 3 (by omega)).1.trans x3
    have g3 := (hs1.2.2 3 (by omega)).2.trans HM.out.2.2.2.2
    have H1 := Lib.hid hs1
    have HSt := Lib.hid hst
    have HMp := Lib.hid (HM.out.popped hst (show Step1 B M G w w1 from hs1) (k + s.size))
    have BW := Lib.hid (show Below B w (w1.setCell ⟨M, 3, none⟩ (.int .i64 ((k : Int) + s.size))) from hs1.1.setCell (p := ⟨M, 3, none⟩) (HM.out.1.2.2.2.2) _)
    have GW := Lib.hid (show ∀ k', G k' → k' < w.heap.size → (w1.setCell ⟨M, 3, none⟩ (.int .i64 ((k : Int) + s.size))).heap[k']? = w.heap[k']? from fun k' hk' hl' => (Below.heap_setCell _ _ _ _ (fun e => hG (by have : k' = M := e; exact this ▸ hk'))).trans (hs1.2.1 k' hk' hl'))
    rw [Int.natCast_add] at HMp
    clear hst hs1 x3 hv5 hd HP hvf
    go_wp2_with fail
    generalize w1.setCell ⟨M, 3, none⟩ (.int .i64 ((k : Int) + s.size)) = w2 at HMp BW GW ⊢
    clear y3 g3
    go_region_with (first | (go_at_call 95; refine (push_new B M G _ [s.extract 2 s.size] 1 9 _ HMp.out.1 rfl (by simp) (by simp [ByteArray.size_extract]; omega) hG (by have := BW.out.size; simp; omega) (fun k' hk' => Nat.lt_of_lt_of_le (HGl.out k' hk') BW.out.size)).mono ?_; rintro e w3 hpp; have HPP := Lib.hid (step_push_end (w := w) (w2 := w2) (k2 := k + s.size) HMp.out hk BW.out GW.out (Nat.le_trans hB BW.out.size) hpp); obtain ⟨cc, l', rfl, -⟩ := hpp))
    all_goals
      go_wp2_with fail
      go_ret
      exact HPP.out
end Go.Proofs.YtnifkpcjpjgkeaaGreatDoor
