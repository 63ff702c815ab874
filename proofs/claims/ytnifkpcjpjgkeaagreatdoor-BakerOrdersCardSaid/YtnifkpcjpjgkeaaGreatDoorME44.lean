/- mill.step: laws for the steps that call what makes memory; what the library's table and stamp's words need. -/
/- mill.step: case r. -/
/- mill.step: case h. -/
import Derived.Test.YtnifkpcjpjgkeaaGreatDoorME32
import Derived.Test.YtnifkpcjpjgkeaaGreatDoorMD23
import Derived.Lib.ItoaLen
/- E44. -/
namespace Go.Proofs.YtnifkpcjpjgkeaaGreatDoor
open Go.RowKit Go.Shelf

/-- The tables that are read lie below B, so they stay. -/
def LaidB (B : Nat) (w : World) : Prop := WordsAt w ∧ 0 < B ∧ B ≤ w.heap.size ∧ ∀ w', Below B w w' → Lib.TabIs Tryz.prog w' "internal/strconv.uint64pow10" .u64 Lib.pow10Tab
theorem LaidB.below {B : Nat} {w w' : World} (h : LaidB B w) (hb : Below B w w') : LaidB B w' :=
  ⟨fun j hj => by obtain ⟨z, hz⟩ := h.1 j hj; exact ⟨z, (hb.cell (p := ⟨0, j, none⟩) h.2.1).trans hz⟩, h.2.1, Nat.le_trans h.2.2.1 hb.size, fun w1 h1 => h.2.2.2 w1 (hb.trans h1)⟩
theorem LaidB.up {B B' : Nat} {w : World} (h : LaidB B w) (h1 : B ≤ B') (h2 : B' ≤ w.heap.size) : LaidB B' w :=
  ⟨h.1, Nat.lt_of_lt_of_le h.2.1 h1, h2, fun w' hb => h.2.2.2 w' (hb.mono h1)⟩
theorem LaidB.here {B : Nat} {w : World} (h : LaidB B w) : LaidB w.heap.size w := h.up h.2.2.1 (Nat.le_refl _)

theorem MachAt.below {B M k : Nat} {G : Nat → Prop} {code : ByteArray} {iv : Value} {l : List ByteArray} {w w' : World} (h : MachAt B M G code iv l k w) (hb : Below w.heap.size w w') : MachAt B M G code iv l k w' := by
  have hM := h.1.lt
  exact ⟨h.1.alloc hb, (hb.cell (p := ⟨M, 1, none⟩) hM).trans h.2.1, (hb.cell (p := ⟨M, 2, none⟩) hM).trans h.2.2.1, (hb.cell (p := ⟨M, 3, none⟩) hM).trans h.2.2.2.1, (hb.frozen (p := ⟨M, 3, none⟩) hM).trans h.2.2.2.2⟩

/-- push of texts that lie in the block laid last. -/
theorem push_new0 (B M : Nat) (G : Nat → Prop) (l xs : List ByteArray) (n : Nat) (T : TypeId) (w : World) (hs : StkAt B M G l w) (hn : xs.length = n) (h2 : n ≤ 2) (hm : ∀ s ∈ xs, s.size ≤ 2000) (hG : ¬ G M) (hB : B ≤ w.heap.size) (hGl : ∀ k, G k → k < w.heap.size) :
    Calls Tryz.prog 95 #[.pointer (some ⟨M, 0, none⟩), .slice (some ⟨w.heap.size, 0, none⟩) n n] (w.alloc (.cells (xs.map Value.string).toArray T)) (PushPost B M (fun k => G k ∨ k = w.heap.size) (w.alloc (.cells (xs.map Value.string).toArray T))) := by
  subst hn
  have hM := hs.lt
  refine push_any B M _ l xs _ _ (hs.more.alloc ((Below.refl _ _).alloc (Nat.le_refl _) _)) ?_ h2 hm (fun h => h.elim hG (fun e => by omega)) (by simp; omega) (fun k h => by
    rcases h with h | h
    · have := hGl k h; simp; omega
    · simp; omega)
  refine ⟨_, _, rfl, Nat.le_refl _, by omega, fun s hs => by have := hm s hs; unfold Fits; omega, .inr ⟨_, _, rfl, .inr rfl, by simp, fun i hi => ?_⟩⟩
  rw [Nat.zero_add, Lib.cell_of_heap (MapKept.heap_alloc w _).1]
  simp [List.getD_eq_getElem?_getD, List.getElem?_eq_getElem hi]
theorem step_push_end0 {B M k2 : Nat} {G : Nat → Prop} {code : ByteArray} {iv : Value} {l2 : List ByteArray} {w w2 w' : World} {o : Obj} {e : Ending} (hm2 : MachAt B M G code iv l2 k2 w2) (hk2 : k2 ≤ 1000) (hb : Below B w w2)
    (hg : ∀ k, G k → k < w.heap.size → w2.heap[k]? = w.heap[k]?) (hB : B ≤ w2.heap.size) (hp : PushPost B M (fun k => G k ∨ k = w2.heap.size) (w2.alloc o) e w') : StepPost B M G code iv w e w' := by
  obtain ⟨c, l', rfl, hst, h1, h2, h3⟩ := hp
  have hM := hm2.1.lt
  have kc : ∀ j, 1 ≤ j → w'.cell? ⟨M, j, none⟩ = w2.cell? ⟨M, j, none⟩ := fun j hj => (h3 j hj).1.trans (World.cell?_alloc_lt w2 o ⟨M, j, none⟩ hM)
  have kf : w'.frozen? ⟨M, 3, none⟩ = w2.frozen? ⟨M, 3, none⟩ := (h3 3 (by omega)).2.trans (World.frozen?_of_block (w := w2) (a := ⟨M, 3, none⟩) (Below.heap_alloc _ _ _ hM))
  refine ⟨c, l', k2, rfl, ⟨hst.less (fun k h => .inl h), (kc 1 (by omega)).trans hm2.2.1, (kc 2 (by omega)).trans hm2.2.2.1, (kc 3 (by omega)).trans hm2.2.2.2.1, kf.trans hm2.2.2.2.2⟩, hk2, (hb.alloc hB o).trans h1, fun k hGk hl => ?_⟩
  have hl2 : k < w2.heap.size := Nat.lt_of_lt_of_le hl hb.size
  exact (h2 k (.inl hGk) (by simp; omega)).trans ((Below.heap_alloc _ _ _ hl2).trans (hg k hGk hl))
theorem Itoa_any (n : Nat) (w : World) (hn : n ≤ 100000) (ht : ∀ w', Below w.heap.size w w' → Lib.TabIs Tryz.prog w' "internal/strconv.uint64pow10" .u64 Lib.pow10Tab) :
    Calls Tryz.prog 97 #[.int .i64 (n : Int)] w fun e w' => ∃ t : ByteArray, e = .returned (.string t) ∧ t.size ≤ 21 ∧ Below w.heap.size w w' := by
  refine (Tryz.strconv_Itoa (n : Int) (by omega) (by omega) w (ht w (Below.refl _ _))).mono ?_
  rintro e w' ⟨rfl, k, os, rfl⟩
  refine ⟨_, rfl, ?_, ⟨rfl, rfl, rfl, ?_, fun j hj => ?_⟩⟩
  · have := Lib.itoa_length_le (n : Int) (by omega) (by omega)
    simpa [ByteArray.size] using this
  · show w.heap.size ≤ (w.heap ++ os).size
    rw [Array.size_append]; omega
  · show (w.heap ++ os)[j]? = w.heap[j]?
    rw [Array.getElem?_append_left hj]
end Go.Proofs.YtnifkpcjpjgkeaaGreatDoor
/- E45. -/
namespace Go.Proofs.YtnifkpcjpjgkeaaGreatDoor
open Go.RowKit Go.Shelf

set_option maxHeartbeats 2000000 in
set_option maxRecDepth 20000 in
theorem step_r (B M : Nat) (G : Nat → Prop) (code : ByteArray) (iv : Value) (l : List ByteArray) (k : Nat) (s : ByteArray) (w : World) (h1 : 0 < s.size) (hs : s.size ≤ 1000) (hm : MachAt B M G code iv l k w) (hk : k + s.size ≤ 1000) (hG : ¬ G M) (hB : B ≤ w.heap.size) (hGl : ∀ k, G k → k < w.heap.size)
    (hb : s[0]'h1 = 114) (hle : 1 ≤ l.length) : Calls Tryz.prog 76 #[.pointer (some ⟨M, 0, none⟩), .string s] w (StepPost B M G code iv w) := by
  have HM := Lib.hid hm
  have HGl := Lib.hid hGl
  have HSz := Lib.hid hm.1.2.2.2.1
  have hp' : ((s[0]'h1).toNat : Int) = 114 := by rw [hb]; rfl
  have HT : Hid (∀ w0 : World, Calls Tryz.prog 94 #[.int .u8 114] w0 (fun e w' => e = .returned (.int .i64 1) ∧ w' = w0)) := Lib.hid (takes_any 114)
  have HP := Lib.hid (fun (w0 : World) (hb : Below w.heap.size w w0) => pop_ok B M G l 1 w0 (hm.1.alloc hb) (by omega) hG (Nat.le_trans hB hb.size) hle)
  have hMl := hm.1.lt
  have x3 := hm.2.2.2.1
  have hd : (l.drop (l.length - 1)).length = 1 := by simp; omega
  clear hb hm hGl
  go_enter Tryz.func76, Tryz.ntmps76
  go_wp2_with fail
  refine (number_any s _ hs).mono ?_
  rintro e w1 ⟨⟨n, rfl, hn⟩, hw⟩
  obtain rfl := hw.symm
  go_wp2_with fail
  go_region_with (first
    | (go_at_call 94; refine (HT.out _).mono ?_; rintro e w1 ⟨rfl, rfl⟩)
    | (go_at_call 91; refine (HP.out _ ((Below.refl _ _).drew)).mono ?_; rintro e w1 ⟨v, rfl, hv, hst, hs1⟩; obtain ⟨av, cv, hv0, -, -, hvf, hv5⟩ := hv; rw [hd] at hv0; subst hv0))
  all_goals
    replace hs1 : Step1 B M G w w1 := ((Step1.refl B M G w).drew).trans hs1
    have hM1 := hst.lt
    have y3 := (hs1.2.2 3 (by omega)).1.trans x3
    have g3 := (hs1.2.2 3 (by omega)).2.trans HM.out.2.2.2.2
    have H1 := Lib.hid hs1
    have HSt := Lib.hid hst
    have HMp := Lib.hid (HM.out.popped hst (show Step1 B M G w w1 from hs1) (k + s.size))
    obtain ⟨bb, off, rfl, hbF, hbb, hc⟩ := hv5.resolve_left (fun e => by rw [e] at hd; simp at hd)
    have hbM : bb ≠ M := by have h : w.heap.size ≤ bb := hbF; omega
    have c0 := hc 0 (by omega)
    have z0 := HSz.out _ (List.mem_of_mem_drop (getD_mem ByteArray.empty (show 0 < (l.drop (l.length - 1)).length by omega)))
    generalize (l.drop (l.length - 1)).getD 0 ByteArray.empty = x0 at c0 z0
    rw [Nat.add_zero] at c0
    have BW := Lib.hid (show Below B w (w1.setCell ⟨M, 3, none⟩ (.int .i64 ((k : Int) + s.size))) from hs1.1.setCell (p := ⟨M, 3, none⟩) (HM.out.1.2.2.2.2) _)
    have GW := Lib.hid (show ∀ k', G k' → k' < w.heap.size → (w1.setCell ⟨M, 3, none⟩ (.int .i64 ((k : Int) + s.size))).heap[k']? = w.heap[k']? from fun k' hk' hl' => (Below.heap_setCell _ _ _ _ (fun e => hG (by have : k' = M := e; exact this ▸ hk'))).trans (hs1.2.1 k' hk' hl'))
    rw [Int.natCast_add] at HMp
    have d0 : (w1.setCell ⟨M, 3, none⟩ (.int .i64 ((k : Int) + s.size))).cell? ⟨bb, off, none⟩ = some (.string x0) := (World.cell?_setCell_other _ _ _ _ (fun e => hbM (by cases e; rfl))).trans c0
    clear hst hs1 x3 hc hv5 hd HP hvf
    go_wp2_with fail
    generalize w1.setCell ⟨M, 3, none⟩ (.int .i64 ((k : Int) + s.size)) = w2 at HMp BW GW d0 ⊢
    clear c0 y3 g3 hbb
    go_region_with (first | (go_at_call 96; refine (millTurned_any x0 _ (by omega)).mono ?_; rintro e w3 ⟨⟨t, rfl, ht⟩, hb3⟩; have HM3 := Lib.hid (HMp.out.below (((Below.refl _ _).drew).trans hb3)); have BW3 := Lib.hid (BW.out.trans ((((Below.refl _ _).drew).trans hb3).mono (Nat.le_trans hB BW.out.size))); have GW3 := Lib.hid (fun k' (hk' : G k') (hl' : k' < w.heap.size) => ((((Below.refl _ _).drew).trans hb3).block k' (Nat.lt_of_lt_of_le hl' BW.out.size)).trans (GW.out k' hk' hl')); clear hb3) | (go_at_call 95; refine (push_new0 B M G _ [t] 1 9 _ HM3.out.1 rfl (by simp) (by simp; omega) hG (by have := BW3.out.size; omega) (fun k' hk' => Nat.lt_of_lt_of_le (HGl.out k' hk') BW3.out.size)).mono ?_; rintro e w4 hpp; have HPP := Lib.hid (step_push_end0 (w := w) (w2 := w3) (k2 := k + s.size) HM3.out hk BW3.out GW3.out (Nat.le_trans hB BW3.out.size) hpp); obtain ⟨cc, l', rfl, -⟩ := hpp))
    all_goals
      go_wp2_with fail
      go_ret
      exact HPP.out
end Go.Proofs.YtnifkpcjpjgkeaaGreatDoor
/- E46. -/
namespace Go.Proofs.YtnifkpcjpjgkeaaGreatDoor
open Go.RowKit Go.Shelf

set_option maxHeartbeats 2000000 in
set_option maxRecDepth 20000 in
theorem step_h (B M : Nat) (G : Nat → Prop) (code : ByteArray) (iv : Value) (l : List ByteArray) (k : Nat) (s : ByteArray) (w : World) (h1 : 0 < s.size) (hs : s.size ≤ 1000) (hm : MachAt B M G code iv l k w) (hk : k + s.size ≤ 1000) (hG : ¬ G M) (hB : B ≤ w.heap.size) (hGl : ∀ k, G k → k < w.heap.size)
    (hb : s[0]'h1 = 104) (hle : 1 ≤ l.length) (hL : LaidB B w) : Calls Tryz.prog 76 #[.pointer (some ⟨M, 0, none⟩), .string s] w (StepPost B M G code iv w) := by
  have HM := Lib.hid hm
  have HGl := Lib.hid hGl
  have HSz := Lib.hid hm.1.2.2.2.1
  have hp' : ((s[0]'h1).toNat : Int) = 104 := by rw [hb]; rfl
  have HT : Hid (∀ w0 : World, Calls Tryz.prog 94 #[.int .u8 104] w0 (fun e w' => e = .returned (.int .i64 1) ∧ w' = w0)) := Lib.hid (takes_any 104)
  have HP := Lib.hid (fun (w0 : World) (hb : Below w.heap.size w w0) => pop_ok B M G l 1 w0 (hm.1.alloc hb) (by omega) hG (Nat.le_trans hB hb.size) hle)
  have hMl := hm.1.lt
  have x3 := hm.2.2.2.1
  have hd : (l.drop (l.length - 1)).length = 1 := by simp; omega
  have HL := Lib.hid hL
  clear hb hm hGl hL
  go_enter Tryz.func76, Tryz.ntmps76
  go_wp2_with fail
  refine (number_any s _ hs).mono ?_
  rintro e w1 ⟨⟨n, rfl, hn⟩, hw⟩
  obtain rfl := hw.symm
  go_wp2_with fail
  go_region_with (first
    | (go_at_call 94; refine (HT.out _).mono ?_; rintro e w1 ⟨rfl, rfl⟩)
    | (go_at_call 91; refine (HP.out _ ((Below.refl _ _).drew)).mono ?_; rintro e w1 ⟨v, rfl, hv, hst, hs1⟩; obtain ⟨av, cv, hv0, -, -, hvf, hv5⟩ := hv; rw [hd] at hv0; subst hv0))
  all_goals
    replace hs1 : Step1 B M G w w1 := ((Step1.refl B M G w).drew).trans hs1
    have hM1 := hst.lt
    have y3 := (hs1.2.2 3 (by omega)).1.trans x3
    have g3 := (hs1.2.2 3 (by omega)).2.trans HM.out.2.2.2.2
    have H1 := Lib.hid hs1
    have HSt := Lib.hid hst
    have HMp := Lib.hid (HM.out.popped hst (show Step1 B M G w w1 from hs1) (k + s.size))
    obtain ⟨bb, off, rfl, hbF, hbb, hc⟩ := hv5.resolve_left (fun e => by rw [e] at hd; simp at hd)
    have hbM : bb ≠ M := by have h : w.heap.size ≤ bb := hbF; omega
    have c0 := hc 0 (by omega)
    have z0 := HSz.out _ (List.mem_of_mem_drop (getD_mem ByteArray.empty (show 0 < (l.drop (l.length - 1)).length by omega)))
    generalize (l.drop (l.length - 1)).getD 0 ByteArray.empty = x0 at c0 z0
    rw [Nat.add_zero] at c0
    have BW := Lib.hid (show Below B w (w1.setCell ⟨M, 3, none⟩ (.int .i64 ((k : Int) + s.size))) from hs1.1.setCell (p := ⟨M, 3, none⟩) (HM.out.1.2.2.2.2) _)
    have GW := Lib.hid (show ∀ k', G k' → k' < w.heap.size → (w1.setCell ⟨M, 3, none⟩ (.int .i64 ((k : Int) + s.size))).heap[k']? = w.heap[k']? from fun k' hk' hl' => (Below.heap_setCell _ _ _ _ (fun e => hG (by have : k' = M := e; exact this ▸ hk'))).trans (hs1.2.1 k' hk' hl'))
    rw [Int.natCast_add] at HMp
    have d0 : (w1.setCell ⟨M, 3, none⟩ (.int .i64 ((k : Int) + s.size))).cell? ⟨bb, off, none⟩ = some (.string x0) := (World.cell?_setCell_other _ _ _ _ (fun e => hbM (by cases e; rfl))).trans c0
    clear hst hs1 x3 hc hv5 hd HP hvf
    go_wp2_with fail
    generalize hw2 : w1.setCell ⟨M, 3, none⟩ (.int .i64 ((k : Int) + s.size)) = w2 at HMp BW GW d0 ⊢
    have hz2 : w1.heap.size = w2.heap.size := by rw [← hw2]; simp
    rw [hz2]
    clear c0 y3 g3 hbb hw2 hz2
    refine (Of_any [x0] _ _ (strs_one_new w2 x0 9 (by unfold Fits; omega)) (by simp; omega) ((HL.out.below BW.out).below ((Below.refl _ _).alloc (Nat.le_trans hB BW.out.size) _)).1).mono ?_
    rintro e w3 ⟨ds, rfl, hdl, hdu, hb3⟩
    have hb3' : Below w2.heap.size w2 w3 := ((Below.refl _ _).alloc (Nat.le_refl _) _).trans (hb3.mono (by simp))
    have HB3 := Lib.hid hb3'
    have hsz : (Tryz.prog.info? 39).map (·.size) = some ds.length := by rw [hdl]; kernel_rfl
    clear hb3 hb3' d0
    go_wp2_with (refine wpList_store_mid rfl 39 _ _ rfl w3.heap.size 0 ds.toArray rfl rfl ?ht ?hi ?h1 ?_)
    case ht =>
      have e1 : ds.toArray.size = 32 := by simpa using hdl
      rw [e1]
      exact (bw_new w3 _ _ 32 (by kernel_rfl)).there
    case hi => simpa using hsz
    case h1 => exact all_oneCell_toArray (fun v hv => by obtain ⟨z, rfl⟩ := hdu v hv; rfl)
    refine code_gen (fun wq => Go.Proofs.YtnifkpcjpjgkeaaGreatDoor.BW wq w3.heap.size 32 ∧ Below w3.heap.size w3 wq) ⟨fun j hj => ⟨?_, ?_⟩, below_setCells (Nat.le_refl _) _ _ ((Below.refl _ _).alloc (Nat.le_refl _) _)⟩ (fun wq hq => ?_)
    · have hj' : j < ds.length := by omega
      obtain ⟨z, hz⟩ := hdu _ (List.getElem_mem hj')
      refine ⟨z, ?_⟩
      have h2 : ds[j]? = some (.int .u8 z) := by rw [List.getElem?_eq_getElem hj', hz]
      have h3 : (⟨w3.heap.size, j, none⟩ : Addr) = ⟨w3.heap.size, 0 + j, none⟩ := by rw [Nat.zero_add]
      rw [h3]
      exact World.rangeAt_setCells_same _ w3.heap.size 0 ds (by rw [hdl]; exact (bw_new w3 _ _ 32 (by kernel_rfl)).there) j _ h2
    · rw [World.frozen?_setCells]
      exact ((bw_new w3 _ 39 32 (by kernel_rfl)) j hj).2
    have HM3 := Lib.hid (HMp.out.below (HB3.out.trans (hq.2.mono HB3.out.size)))
    have BW3 := Lib.hid (BW.out.trans ((HB3.out.trans (hq.2.mono HB3.out.size)).mono (Nat.le_trans hB BW.out.size)))
    have GW3 := Lib.hid (fun k' (hk' : G k') (hl' : k' < w.heap.size) => ((HB3.out.trans (hq.2.mono HB3.out.size)).block k' (Nat.lt_of_lt_of_le hl' BW.out.size)).trans (GW.out k' hk' hl'))
    obtain ⟨t, ht, hcv⟩ := run_b2s_some (P := Tryz.prog) wq.drew 95 9 5 Tryz.underlying95 Tryz.underlying9 Tryz.underlying5 w3.heap.size 0 32 32 (fun j hj => by rw [Nat.zero_add]; exact (hq.1 j hj).1)
    clear hq hdu hdl hsz HMp BW GW HB3
    go_region_with (first | (go_at_call 95; refine (push_new B M G _ [t] 1 9 _ HM3.out.1 rfl (by simp) (by simp; omega) hG (by have := BW3.out.size; omega) (fun k' hk' => Nat.lt_of_lt_of_le (HGl.out k' hk') BW3.out.size)).mono ?_; rintro e w4 hpp; have HPP := Lib.hid (step_push_end (w := w) (w2 := wq) (k2 := k + s.size) HM3.out hk BW3.out GW3.out (Nat.le_trans hB BW3.out.size) hpp); obtain ⟨cc, l', rfl, -⟩ := hpp))
    all_goals
      go_wp2_with fail
      go_ret
      exact HPP.out
end Go.Proofs.YtnifkpcjpjgkeaaGreatDoor
