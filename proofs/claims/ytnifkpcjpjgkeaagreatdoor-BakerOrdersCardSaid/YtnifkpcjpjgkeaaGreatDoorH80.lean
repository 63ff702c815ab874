/- The law's awake: true. -/
import Derived.Test.YtnifkpcjpjgkeaaGreatDoorMH78
namespace Go.Proofs.YtnifkpcjpjgkeaaGreatDoor
open Go.RowKit Go.Shelf

theorem strs1 {w : World} {b : Nat} {s : ByteArray} (h : w.cell? ⟨b, 0, none⟩ = some (.string s)) (hs : Fits s) : Strs (fun k => k < w.heap.size) w (.slice (some ⟨b, 0, none⟩) 1 1) [s] :=
  ⟨_, _, rfl, Nat.le_refl _, by simp, by simpa using hs, .inr ⟨b, 0, rfl, World.block_lt_of_cell? _ _ h, World.block_lt_of_cell? _ _ h, fun i hi => by
    obtain rfl : i = 0 := by simpa using hi
    exact h⟩⟩
theorem acts2 {w : World} {c : Nat} {a1 a2 : Act} {v1 v2 : Value} (h1 : w.cell? ⟨c, 0, none⟩ = some (.string a1.name)) (h2 : w.cell? ⟨c, 1, none⟩ = some v1) (h3 : w.cell? ⟨c, 2, none⟩ = some (.string a1.code)) (h4 : w.cell? ⟨c, 3, none⟩ = some (.string a2.name)) (h5 : w.cell? ⟨c, 4, none⟩ = some v2) (h6 : w.cell? ⟨c, 5, none⟩ = some (.string a2.code))
    (s1 : Strs (fun k => k < w.heap.size) w v1 a1.inputs) (s2 : Strs (fun k => k < w.heap.size) w v2 a2.inputs) (f : ∀ s ∈ [a1, a2], Fits s.name ∧ Fits s.code) : Acts (fun k => k < w.heap.size) w (.slice (some ⟨c, 0, none⟩) 2 2) [a1, a2] :=
  ⟨_, _, rfl, Nat.le_refl _, by simp, f, .inr ⟨c, 0, rfl, World.block_lt_of_cell? _ _ h1, World.block_lt_of_cell? _ _ h1, fun i hi => by
    match i, hi with
    | 0, _ => exact ⟨v1, s1, h1, h2, h3⟩
    | 1, _ => exact ⟨v2, s2, h4, h5, h6⟩⟩⟩
theorem srcs1 (w : World) (s : Src) (T : TypeId) (hs : Fits s.name ∧ Fits s.blob) : Srcs (fun k => w.heap.size ≤ k) (w.alloc (.cells #[.string s.name, .string s.blob] T)) (.slice (some ⟨w.heap.size, 0, none⟩) 1 1) [s] := by
  have hh := (MapKept.heap_alloc w (.cells #[.string s.name, .string s.blob] T)).1
  refine ⟨_, _, rfl, Nat.le_refl _, by simp, by simpa using hs, .inr ⟨_, 0, rfl, Nat.le_refl _, by simp, fun i hi => ?_⟩⟩
  obtain rfl : i = 0 := by simpa using hi
  exact ⟨by rw [Lib.cell_of_heap hh]; rfl, by rw [Lib.cell_of_heap hh]; rfl⟩

set_option maxHeartbeats 4000000 in
set_option maxRecDepth 100000 in
theorem awake_any (w : World) (hL : LaidB w.heap.size w) : Calls Tryz.prog 4 #[] w (fun e w' => e = .returned (.bool true) ∧ Below w.heap.size w w') := by
  have HL := Lib.hid hL
  clear hL
  have HB0 := Lib.hid (((Below.refl w.heap.size w).alloc (Nat.le_refl _) (.cells #[.string sA] 9)).alloc (by simp) (.cells #[.string sX] 9))
  have a1 := MapKept.heap_alloc w (.cells #[.string sA] 9)
  have a2 := MapKept.heap_alloc (w.alloc (.cells #[.string sA] 9)) (.cells #[.string sX] 9)
  have s1 : (w.alloc (.cells #[.string sA] 9)).heap.size = w.heap.size + 1 := by simp
  rw [s1] at a2
  have H1 := Lib.hid ((a2.2 w.heap.size (by omega)).trans a1.1)
  have H2 := Lib.hid a2.1
  clear a1 a2 s1
  go_enter Tryz.func4, Tryz.ntmps4
  go_wp2_with fail
  refine (action_any ⟨#[121]⟩ ⟨#[105, 0]⟩ _ _ _ _).mono ?_
  rintro e w1 ⟨rfl, hb1⟩
  have HB1 := Lib.hid (HB0.out.trans (hb1.mono (by simp; omega)))
  have K1 := Lib.hid ((hb1.block w.heap.size (by simp; omega)).trans H1.out)
  have K2 := Lib.hid ((hb1.block (w.heap.size + 1) (by simp)).trans H2.out)
  clear hb1 HB0 H1 H2
  go_wp2_with fail
  refine (action_any ⟨#[120]⟩ ⟨#[105, 0, 114]⟩ _ _ _ _).mono ?_
  rintro e w2 ⟨rfl, hb2⟩
  have HB2 := Lib.hid (HB1.out.trans (((Below.refl _ _).alloc (Nat.le_refl _) (.cells #[.string sA] 9)).trans (hb2.mono (by simp)) |>.mono HB1.out.size))
  have hz1 : w.heap.size + 1 < w1.heap.size := (Array.getElem?_eq_some_iff.1 K2.out).1
  have L1 := Lib.hid ((hb2.block w.heap.size (by simp; omega)).trans ((Below.heap_alloc w1 (.cells #[.string sA] 9) w.heap.size (by omega)).trans K1.out))
  have L2 := Lib.hid ((hb2.block (w.heap.size + 1) (by simp; omega)).trans ((Below.heap_alloc w1 (.cells #[.string sA] 9) (w.heap.size + 1) (by omega)).trans K2.out))
  have L3 := Lib.hid ((hb2.block w1.heap.size (by simp)).trans (MapKept.heap_alloc w1 (.cells #[.string sA] 9)).1)
  clear hb2 HB1 K1 K2
  go_wp2_with fail
  have HW := Lib.hid (show Below w.heap.size w ((w2.alloc (.cells #[.string sY, .slice (some ⟨w.heap.size + 1, 0, none⟩) 1 1, .string ⟨#[105, 0]⟩, .string sX, .slice (some ⟨w1.heap.size, 0, none⟩) 1 1, .string ⟨#[105, 0, 114]⟩] 55)).alloc (.cells #[.slice (some ⟨w.heap.size, 0, none⟩) 1 1, .slice (some ⟨w2.heap.size, 0, none⟩) 2 2] 25)) from (HB2.out.alloc HB2.out.size _).alloc (by have := HB2.out.size; simp; omega) _)
  have hz2 : w1.heap.size < w2.heap.size := (Array.getElem?_eq_some_iff.1 L3.out).1
  have a3 := MapKept.heap_alloc w2 (.cells #[.string sY, .slice (some ⟨w.heap.size + 1, 0, none⟩) 1 1, .string ⟨#[105, 0]⟩, .string sX, .slice (some ⟨w1.heap.size, 0, none⟩) 1 1, .string ⟨#[105, 0, 114]⟩] 55)
  have a4 := MapKept.heap_alloc (w2.alloc (.cells #[.string sY, .slice (some ⟨w.heap.size + 1, 0, none⟩) 1 1, .string ⟨#[105, 0]⟩, .string sX, .slice (some ⟨w1.heap.size, 0, none⟩) 1 1, .string ⟨#[105, 0, 114]⟩] 55)) (.cells #[.slice (some ⟨w.heap.size, 0, none⟩) 1 1, .slice (some ⟨w2.heap.size, 0, none⟩) 2 2] 25)
  have s3 : (w2.alloc (.cells #[.string sY, .slice (some ⟨w.heap.size + 1, 0, none⟩) 1 1, .string ⟨#[105, 0]⟩, .string sX, .slice (some ⟨w1.heap.size, 0, none⟩) 1 1, .string ⟨#[105, 0, 114]⟩] 55)).heap.size = w2.heap.size + 1 := by simp
  rw [s3] at a4
  have M1 := Lib.hid ((a4.2 w.heap.size (by omega)).trans ((a3.2 w.heap.size (by omega)).trans L1.out))
  have M2 := Lib.hid ((a4.2 (w.heap.size + 1) (by omega)).trans ((a3.2 (w.heap.size + 1) (by omega)).trans L2.out))
  have M3 := Lib.hid ((a4.2 w1.heap.size (by omega)).trans ((a3.2 w1.heap.size (by omega)).trans L3.out))
  have M4 := Lib.hid ((a4.2 w2.heap.size (by omega)).trans a3.1)
  have M5 := Lib.hid a4.1
  have hzW : ((w2.alloc (.cells #[.string sY, .slice (some ⟨w.heap.size + 1, 0, none⟩) 1 1, .string ⟨#[105, 0]⟩, .string sX, .slice (some ⟨w1.heap.size, 0, none⟩) 1 1, .string ⟨#[105, 0, 114]⟩] 55)).alloc (.cells #[.slice (some ⟨w.heap.size, 0, none⟩) 1 1, .slice (some ⟨w2.heap.size, 0, none⟩) 2 2] 25)).heap.size = w2.heap.size + 1 + 1 := by simp
  have HzW := Lib.hid hzW
  clear a3 a4 s3 hzW L1 L2 L3
  refine (New_any _).mono ?_
  change ∀ e w', BakNewPost ((w2.alloc (.cells #[.string sY, .slice (some ⟨w.heap.size + 1, 0, none⟩) 1 1, .string ⟨#[105, 0]⟩, .string sX, .slice (some ⟨w1.heap.size, 0, none⟩) 1 1, .string ⟨#[105, 0, 114]⟩] 55)).alloc (.cells #[.slice (some ⟨w.heap.size, 0, none⟩) 1 1, .slice (some ⟨w2.heap.size, 0, none⟩) 2 2] 25)) e w' → _
  generalize (w2.alloc (.cells #[.string sY, .slice (some ⟨w.heap.size + 1, 0, none⟩) 1 1, .string ⟨#[105, 0]⟩, .string sX, .slice (some ⟨w1.heap.size, 0, none⟩) 1 1, .string ⟨#[105, 0, 114]⟩] 55)).alloc (.cells #[.slice (some ⟨w.heap.size, 0, none⟩) 1 1, .slice (some ⟨w2.heap.size, 0, none⟩) 2 2] 25) = W at HW M1 M2 M3 M4 M5 HzW ⊢
  have HSs := Lib.hid (strs1 (s := sA) ((Lib.cell_of_heap M1.out 0).trans rfl) (by unfold Fits; decide))
  have HAs := Lib.hid (show Acts (fun k => k < W.heap.size) W (.slice (some ⟨w2.heap.size, 0, none⟩) 2 2) gA.actions from acts2 (a1 := ⟨sY, [sX], ⟨#[105, 0]⟩⟩) (a2 := ⟨sX, [sA], ⟨#[105, 0, 114]⟩⟩) ((Lib.cell_of_heap M4.out 0).trans rfl) ((Lib.cell_of_heap M4.out 1).trans rfl) ((Lib.cell_of_heap M4.out 2).trans rfl) ((Lib.cell_of_heap M4.out 3).trans rfl) ((Lib.cell_of_heap M4.out 4).trans rfl) ((Lib.cell_of_heap M4.out 5).trans rfl)
    (strs1 (s := sX) ((Lib.cell_of_heap M2.out 0).trans rfl) (by unfold Fits; decide)) (strs1 (s := sA) ((Lib.cell_of_heap M3.out 0).trans rfl) (by unfold Fits; decide)) (fun s hs => by
      rcases List.mem_cons.1 hs with rfl | hs
      · unfold Fits; decide
      · rw [List.mem_singleton.1 hs]; unfold Fits; decide))
  clear M1 M2 M3 M4
  rintro e w3 ⟨rfl, hb3, hl3, ht3⟩
  have HB3 := Lib.hid hb3
  have HT3 := Lib.hid ht3
  have G3 := Lib.hid ((hb3.block (w2.heap.size + 1) (by have := HzW.out; omega)).trans M5.out)
  have g0 := (Lib.cell_of_heap G3.out 0).trans (show _ = some (Value.slice (some ⟨w.heap.size, 0, none⟩) 1 1) from rfl)
  have g1 := (Lib.cell_of_heap G3.out 1).trans (show _ = some (Value.slice (some ⟨w2.heap.size, 0, none⟩) 2 2) from rfl)
  clear hb3 ht3 M5
  generalize hbb : W.heap.size + 1 = b at HT3 hl3 ⊢
  have hWb : W.heap.size < b := by omega
  clear hbb
  have H4 := Lib.hid (HB3.out.alloc HB3.out.size (.cells #[.string sA, .string sGo] 58))
  have HW4 := Lib.hid (HW.out.trans (H4.out.mono HW.out.size))
  have HSt := Lib.hid (Start_any (F := fun k => k < W.heap.size) (F' := fun k => w3.heap.size ≤ k) w.heap.size b gA lA (.slice (some ⟨w.heap.size, 0, none⟩) 1 1) (.slice (some ⟨w2.heap.size, 0, none⟩) 2 2) (.slice (some ⟨w3.heap.size, 0, none⟩) 1 1) (w3.alloc (.cells #[.string sA, .string sGo] 58)) (by simp; omega)
    (fun j hj => by
      obtain ⟨p1, p2⟩ := HT3.out j hj
      exact ⟨by rw [World.cell?_alloc_lt w3 _ ⟨b, 0 + j, none⟩ hl3]; exact p1, (World.frozen?_of_block (a := ⟨b, 0 + j, none⟩) (Below.heap_alloc w3 _ b hl3)).trans p2⟩)
    (fun k hk => by have hk' : k < W.heap.size := hk; omega) (fun k hk => by have hk' : w3.heap.size ≤ k := hk; omega) (HSs.out.below H4.out) (HAs.out.below H4.out) (srcs1 w3 ⟨sA, sGo⟩ 58 (by unfold Fits; decide)) (by decide) (by have := HW.out.size; omega) (HL.out.below HW4.out))
  go_wp2_with fail
  refine HSt.out.mono ?_
  rintro e w5 ⟨c, rfl, ht5, hc5, hb5⟩
  by_cases hc : c = 0
  · obtain ⟨-, -, m, hm5, hbk5⟩ := hc5 hc
    rw [done_A0] at hbk5
    subst hc
    have HBk5 := Lib.hid hbk5
    have HW5 := Lib.hid (show Below w.heap.size w w5 from HW4.out.trans (ht5.below HW4.out.size (fun k hk e => by have e' : k = b := e; have := HW.out.size; omega)))
    have HRun := Lib.hid (Run.start gA_ok lA_fit)
    have HWd := Lib.hid (HL.out.below HW5.out).1
    clear ht5 hc5 hb5 hbk5 HSt HT3 HB3 G3 g0 g1 HSs HAs H4
    go_wp2_with fail
    refine (Next_any b m gA (ordG gA) 1 (startT gA lA) w5 HBk5.out (topo_of gA_ok).lt (by have := HRun.out.ol; omega) HRun.out.act HRun.out.small HRun.out.zero HWd.out).mono ?_
    rintro e w6 ⟨hb6, vs, h36, hcase⟩
    rcases hcase with ⟨-, i', hi', rfl, hj⟩ | ⟨hno, -⟩
    · rw [next_A] at hi'
      injection hi' with hi'
      subst hi'
      obtain ⟨hj0, hj1, iv, hj3, hjr⟩ := hj
      have hrs : resOf (startT gA lA) (gA.actions.getD 1 default).inputs = [⟨0, sGo⟩] := res_A
      rw [hrs] at hjr
      obtain ⟨ja, jc, rfl, -, -, -, hj5⟩ := hjr
      obtain ⟨ib, io, rfl, hib, hibl, hic⟩ := hj5.resolve_left (by simp)
      obtain ⟨hi0, hi1⟩ := hic 0 (by decide)
      rw [Nat.zero_mul, Nat.add_zero] at hi0 hi1
      have HVs := Lib.hid h36
      have HJ0 := Lib.hid hj0
      have HJ1 := Lib.hid hj1
      have HJ3 := Lib.hid hj3
      have HB6 := Lib.hid hb6
      have HI1 := Lib.hid (show w6.cell? ⟨ib, io + 1, none⟩ = some (.string sGo) from hi1)
      clear hrs hj5 hic hi0 hi1 h36 hj0 hj1 hj3 hb6
      go_wp2_with (refine wpList_store_new rfl 41 _ _ rfl w6 _ _ 36 (by kernel_rfl) rfl vs rfl HVs.out.1 (all_oneCell_toArray HVs.out.2) infoJob ?_; intro w7 hr7 ht7 hb7 hl7)
      have hbl5 := HBk5.out.lt
      have hml5 : m < w5.heap.size := by obtain ⟨_, _, _, -, -, -, -, -, -, -, -, -, -, hx⟩ := HBk5.out; exact hx.lt
      have hz6 := HB6.out.size
      have k0 : Hid (w7.cell? ⟨w6.heap.size, 0, none⟩ = some (.string ⟨#[120]⟩)) := Lib.hid (by have := hr7 0 _ HJ0.out; rw [Nat.zero_add] at this; exact this)
      have k1 : Hid (w7.cell? ⟨w6.heap.size, 1, none⟩ = some (.int .i64 1)) := Lib.hid (by have := hr7 1 _ HJ1.out; rw [Nat.zero_add] at this; exact this)
      have k3 : Hid (w7.cell? ⟨w6.heap.size, 3, none⟩ = some (.slice (some ⟨ib, io, none⟩) 1 jc)) := Lib.hid (by have := hr7 3 _ HJ3.out; rw [Nat.zero_add] at this; exact this)
      have I7 : Hid (w7.cell? ⟨ib, io + 1, none⟩ = some (.string ⟨#[103, 111]⟩)) := Lib.hid ((hb7.cell (p := ⟨ib, io + 1, none⟩) hibl).trans HI1.out)
      have HB7 := Lib.hid (HB6.out.trans (hb7.mono HB6.out.size))
      have hib7 : ib < w7.heap.size := Nat.lt_of_lt_of_le hibl hb7.size
      clear hr7 ht7 hb7 HI1 HJ0 HJ1 HJ3 HVs
      have hibF : w5.heap.size ≤ ib := hib
      refine (Give_not b m gA (ordG gA) (startT gA lA) 1 0 ⟨0, ⟨#[]⟩⟩ w7 (HBk5.out.below HB7.out) (HRun.out.pre next_A (HL.out.below (HW5.out.trans (HB7.out.mono HW5.out.size))).1) (by decide)).mono ?_
      rintro e w8 ⟨rfl, hb8⟩
      have HB8 := Lib.hid (HB7.out.trans (hb8.mono HB7.out.size))
      have k0' := Lib.hid ((hb8.cell (p := ⟨w6.heap.size, 0, none⟩) hl7).trans k0.out)
      have k1' := Lib.hid ((hb8.cell (p := ⟨w6.heap.size, 1, none⟩) hl7).trans k1.out)
      have k3' := Lib.hid ((hb8.cell (p := ⟨w6.heap.size, 3, none⟩) hl7).trans k3.out)
      have I8 := Lib.hid ((hb8.cell (p := ⟨ib, io + 1, none⟩) hib7).trans I7.out)
      have hl8 : w6.heap.size < w8.heap.size := Nat.lt_of_lt_of_le hl7 hb8.size
      have hib8 : ib < w8.heap.size := Nat.lt_of_lt_of_le hib7 hb8.size
      clear hb8 k0 k1 k3 I7
      go_wp2_with fail
      have HGv := Lib.hid (Give_ok b m gA (ordG gA) (startT gA lA) 1 ⟨30, ⟨#[]⟩⟩ w8 (HBk5.out.below HB8.out) (HRun.out.pre next_A (HL.out.below (HW5.out.trans (HB8.out.mono HW5.out.size))).1) (by decide) (.inr rfl))
      refine HGv.out.mono ?_
      rintro e w9 ⟨rfl, hbk9, ht9⟩
      have hbk9' : BakAt w9 b m gA (ordG gA) 2 tA := by
        have h := hbk9
        change BakAt w9 b m gA (ordG gA) (doneSt gA tA 1) tA at h
        rw [done_A] at h
        exact h
      have HBk9 := Lib.hid hbk9'
      have HT9 := Lib.hid ht9
      have c0 := Lib.hid ((World.cell?_of_block (a := ⟨w6.heap.size, 0, none⟩) (HT9.out.block w6.heap.size hl8 (fun e => e.elim (fun e => by omega) (fun e => by omega)))).trans k0'.out)
      have c1 := Lib.hid ((World.cell?_of_block (a := ⟨w6.heap.size, 1, none⟩) (HT9.out.block w6.heap.size hl8 (fun e => e.elim (fun e => by omega) (fun e => by omega)))).trans k1'.out)
      have c3 := Lib.hid ((World.cell?_of_block (a := ⟨w6.heap.size, 3, none⟩) (HT9.out.block w6.heap.size hl8 (fun e => e.elim (fun e => by omega) (fun e => by omega)))).trans k3'.out)
      have I9 := Lib.hid ((World.cell?_of_block (a := ⟨ib, io + 1, none⟩) (HT9.out.block ib hib8 (fun e => e.elim (fun e => by omega) (fun e => by omega)))).trans I8.out)
      have HW9 := Lib.hid (show Below w.heap.size w w9 from (HW5.out.trans (HB8.out.mono HW5.out.size)).trans (HT9.out.below (by have := HW5.out.size; have := HB8.out.size; omega) (fun q hq e => e.elim (fun e => by have := HW.out.size; omega) (fun e => by have := HW4.out.size; omega))))
      have hl9 : w6.heap.size < w9.heap.size := Nat.lt_of_lt_of_le hl8 HT9.out.size
      have hib9 : ib < w9.heap.size := Nat.lt_of_lt_of_le hib8 HT9.out.size
      clear hbk9 hbk9' ht9 HGv k0' k1' k3' I8
      go_wp2_with fail
      refine (Results_any b m gA (ordG gA) 2 tA w9 HBk9.out (by decide)).mono ?_
      rintro e w10 ⟨rv, rfl, hblt, hb10⟩
      rw [built_A] at hblt
      obtain ⟨ra, rc, rfl, hrc, hr5⟩ := hblt
      obtain ⟨rb, ro, rfl, -, hrb, hrcell⟩ := hr5.resolve_left (by simp)
      obtain ⟨-, hr34, -⟩ := hrcell 0 (by decide)
      rw [Nat.zero_mul, Nat.add_zero] at hr34
      have hr34' : w10.cell? ⟨rb, ro + 1, none⟩ = some (.int .i64 34) := hr34
      have f0 := (hb10.cell (p := ⟨w6.heap.size, 0, none⟩) hl9).trans c0.out
      have f1 := (hb10.cell (p := ⟨w6.heap.size, 1, none⟩) hl9).trans c1.out
      have f3 := (hb10.cell (p := ⟨w6.heap.size, 3, none⟩) hl9).trans c3.out
      have fI := (hb10.cell (p := ⟨ib, io + 1, none⟩) hib9).trans I9.out
      have HBk10 := Lib.hid (HBk9.out.below hb10)
      have HW10 := Lib.hid (HW9.out.trans (hb10.mono HW9.out.size))
      clear hrcell hr34 hr5 hb10 c0 c1 c3 I9
      go_wp2_with (go_at_call 12; refine (State_any b m gA (ordG gA) 2 tA _ HBk10.out).mono ?_; rintro e w11 ⟨rfl, rfl⟩)
      go_ret
      exact ⟨rfl, HW10.out⟩
    · exact (hno.elim (fun h => h rfl) (fun h => by rw [next_A] at h; cases h)).elim
  · exact ((hb5 hc).elim (fun h => h gA_ok) (fun h => h lA_fit)).elim
end Go.Proofs.YtnifkpcjpjgkeaaGreatDoor
