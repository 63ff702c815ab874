/- baker: Start. -/
import Derived.Test.YtnifkpcjpjgkeaaGreatDoorH76
import Derived.Test.YtnifkpcjpjgkeaaGreatDoorMH74
namespace Go.Proofs.YtnifkpcjpjgkeaaGreatDoor
open Go.RowKit Go.Shelf

/-- What a build that begins has, ahead of its actions. -/
def StB (w : World) (b : Nat) (g : Gr) (v0 v3 bxv : Value) (wq : World) : Prop :=
  Strs (fun q => q ≠ b ∧ q ≠ w.heap.size + 1) wq v0 g.sources ∧ Ints (fun q => q ≠ b ∧ q ≠ w.heap.size + 1) wq v3 (ordG g) ∧ wq.heap[w.heap.size]? = some (.cells bxv.cells 25)
theorem StB.turn {w wq wr : World} {b : Nat} {g : Gr} {v0 v3 bxv : Value} (h : StB w b g v0 v3 bxv wq) (ht : Turn (fun q => q = b ∨ q = w.heap.size + 1) wq wr) (hb : b < w.heap.size) : StB w b g v0 v3 bxv wr :=
  ⟨h.1.keep (fun _ h => h) (Kept.of_turn ht (fun q hq e => e.elim hq.1 hq.2)), h.2.1.keep (fun _ h => h) (Kept.of_turn ht (fun q hq e => e.elim hq.1 hq.2)), (ht.block _ (Array.getElem?_eq_some_iff.1 h.2.2).1 (fun e => by omega)).trans h.2.2⟩
theorem turnB {b m : Nat} {a w : World} (h : Turn (isB b) a w) : Turn (fun q => q = b ∨ q = m) a w := h.mono (fun _ e => .inl e)

theorem StA.other {w wr : World} {b m k j : Nat} {v0 v1 v3 : Value} {st : Int} {T : TMap} (h : StA w b m v0 v1 v3 st T wr) (hb : k ≠ b) (hm : k ≠ m) (hk : w.heap.size ≤ k) (x : Value) : StA w b m v0 v1 v3 st T (wr.setCell ⟨k, j, none⟩ x) := by
  obtain ⟨h1, h2, h3, h4, h5, h6, h7, h8, h9, h10, h11⟩ := h
  have he : (wr.setCell ⟨k, j, none⟩ x).heap[b]? = wr.heap[b]? := Below.heap_setCell _ _ _ _ (fun e => hb e.symm)
  have kc : ∀ i, (wr.setCell ⟨k, j, none⟩ x).cell? ⟨b, i, none⟩ = wr.cell? ⟨b, i, none⟩ := fun i => World.cell?_of_block (a := ⟨b, i, none⟩) he
  exact ⟨h1.setCell (p := ⟨k, j, none⟩) (.inr hk) _, by simpa using h2, there_setCell h3 _ _, (kc 0).trans h4, (kc 1).trans h5, (kc 2).trans h6, (kc 3).trans h7, (kc 4).trans h8, h9.keep (Below.heap_setCell _ _ _ _ (fun e => hm e.symm)), h10, h11⟩

def startT (g : Gr) (l : List Src) : TMap := settleF g.actions (ordG g) (srcF l)
def StartPost (b : Nat) (g : Gr) (l : List Src) (w : World) (e : Ending) (w' : World) : Prop :=
  ∃ c : Int, e = .returned (.int .i64 c) ∧ Turn (isB b) w w' ∧ (c = 0 → checkedE g = 0 ∧ SrcFit g l ∧ ∃ m, w.heap.size ≤ m ∧ BakAt w' b m g (ordG g) (doneSt g (startT g l) 1) (startT g l)) ∧ (c ≠ 0 → checkedE g ≠ 0 ∨ ¬ SrcFit g l)

set_option maxHeartbeats 4000000 in
set_option maxRecDepth 100000 in
theorem Start_any {F F' : Nat → Prop} (B b : Nat) (g : Gr) (l : List Src) (gs ga lv : Value) (w : World) (hb : b < w.heap.size) (hth : w.there b 0 5) (hF : ∀ k, F k → k ≠ b) (hF' : ∀ k, F' k → k ≠ b) (hs : Strs F w gs g.sources) (ha : Acts F w ga g.actions) (hl : Srcs F' w lv l) (h30 : l.length ≤ 30) (hB : B ≤ b) (hL : LaidB B w) :
    Calls Tryz.prog 7 #[.pointer (some ⟨b, 0, none⟩), .agg #[gs, ga], lv] w (StartPost b g l w) := by
  obtain ⟨i0, hi, hz0, hz1, hz2⟩ := info_parts infoAct
  have HTh := Lib.hid hth
  have HL := Lib.hid hL
  have HS := Lib.hid (fun (w0 : World) (ht : Turn (isB b) w w0) => hs.keep (F' := F) (fun _ h => h) (Kept.of_turn ht (fun k hk => hF k hk)))
  have HA := Lib.hid (fun (w0 : World) (ht : Turn (isB b) w w0) => ha.keep (F' := F) (fun _ h => h) (Kept.of_turn ht (fun k hk => hF k hk)))
  have HSr := Lib.hid (fun (w0 : World) (ht : Turn (isB b) w w0) => hl.keep (F' := F') (fun _ h => h) (Kept.of_turn ht (fun k hk => hF' k hk)))
  obtain ⟨a, cap, rfl, -⟩ := hs
  obtain ⟨a', cap', rfl, h2', h3', hfa, -⟩ := ha
  obtain ⟨a'', cap'', rfl, -⟩ := hl
  have HFa := Lib.hid hfa
  clear hth hL hF hF' hfa
  have hmm := @run_makeMap Tryz.prog
  have HBx := Lib.hid (MapKept.heap_alloc w (.cells #[.slice a g.sources.length cap, .slice a' g.actions.length cap'] 25)).1
  have HB0 := Lib.hid ((Below.refl w.heap.size w).alloc (Nat.le_refl _) (.cells #[.slice a g.sources.length cap, .slice a' g.actions.length cap'] 25))
  have hs0 : (w.alloc (.cells #[.slice a g.sources.length cap, .slice a' g.actions.length cap'] 25)).heap.size = w.heap.size + 1 := by simp
  have HS0 := Lib.hid hs0
  have HThW := Lib.hid (show (((w.alloc (.cells #[.slice a g.sources.length cap, .slice a' g.actions.length cap'] 25)).alloc (.map #[] 0))).there b 0 5 from fun j hj => by
    obtain ⟨a1, a2⟩ := HTh.out j hj
    have hW := ((Below.refl w.heap.size w).alloc (Nat.le_refl _) (.cells #[.slice a g.sources.length cap, .slice a' g.actions.length cap'] 25)).alloc (by simp) (.map #[] 0)
    exact ⟨by rw [hW.cell (p := ⟨b, 0 + j, none⟩) hb]; exact a1, (hW.frozen (p := ⟨b, 0 + j, none⟩) hb).trans a2⟩)
  clear hs0
  go_enter Tryz.func7, Tryz.ntmps7
  go_wp2_with (refine wpList_store_midN rfl 62 _ _ rfl b 0 [.slice none 0 0, .slice none 0 0, .int .i64 4, .slice none 0 0, .map (some (w.heap.size + 1))] rfl rfl HThW.out infoBaker (by simp [Value.oneCell']) ?_; intro w2 hw2; have SA := Lib.hid (StA.start (((Below.refl w.heap.size w).alloc (Nat.le_refl _) (.cells #[.slice a g.sources.length cap, .slice a' g.actions.length cap'] 25)).alloc (by simp) (.map #[] 0)) hb HTh.out (by have h := XMap.made Res.v (w.alloc (.cells #[.slice a g.sources.length cap, .slice a' g.actions.length cap'] 25)); rw [HS0.out] at h; exact h) (by omega) hw2); have HBx2 : Hid (w2.heap[w.heap.size]? = some (.cells #[.slice a g.sources.length cap, .slice a' g.actions.length cap'] 25)) := Lib.hid (by rw [hw2.out]; exact (heap_setCells b _ 0 _ w.heap.size (by omega)).trans ((Below.heap_alloc _ _ _ (by simp)).trans HBx.out)); have q0 := (Lib.cell_of_heap HBx2.out 0).trans (show _ = some (Value.slice a g.sources.length cap) from rfl); have q1 := (Lib.cell_of_heap HBx2.out 1).trans (show _ = some (Value.slice a' g.actions.length cap') from rfl))
  clear hmm hw2 HBx HB0
  refine (Keys_any g l _ _ _ w2 (HS.out _ SA.out.1) (HA.out _ SA.out.1) (HSr.out _ SA.out.1) h30 ((HL.out.below (SA.out.1.below HL.out.2.2.1 (fun k hk e => by have : k = b := e; omega))).here)).mono ?_
  rintro e w3 ⟨kv, c, rfl, hb3, hc0, hc1⟩
  have SA3 := Lib.hid (SA.out.below hb3)
  have HBx3 := Lib.hid ((hb3.block w.heap.size (Array.getElem?_eq_some_iff.1 HBx2.out).1).trans HBx2.out)
  clear hb3 q0 q1 SA HBx2
  by_cases hc : c = 0
  · obtain ⟨hE, hFit⟩ := hc0 hc
    subst hc
    have HE := Lib.hid hE
    have HFit := Lib.hid hFit
    have HG := Lib.hid (wovenE_zero (checkedE_woven hE))
    have h8 := graphB_8 HG.out
    have h12 := graphB_12 HG.out
    clear hc0 hc1 hE hFit
    have q0 := (Lib.cell_of_heap HBx3.out 0).trans (show _ = some (Value.slice a g.sources.length cap) from rfl)
    have q1 := (Lib.cell_of_heap HBx3.out 1).trans (show _ = some (Value.slice a' g.actions.length cap') from rfl)
    have HCl := Lib.hid (fun (w0 : World) (hb0 : Below w3.heap.size w3 w0) => Clone_any g.sources (.slice a g.sources.length cap) w0 ((HS.out _ SA3.out.1).below hb0) (by omega))
    have HOr := Lib.hid (fun (w0 : World) (hb0 : Below w3.heap.size w3 w0) => Order_any g (.slice a g.sources.length cap) (.slice a' g.actions.length cap') w0 ((HS.out _ SA3.out.1).below hb0) ((HA.out _ SA3.out.1).below hb0))
    go_wp2_with fail
    have hne : b ≠ w.heap.size := by omega
    have b0 := SA3.out.2.2.2.1
    have b2 := SA3.out.2.2.2.2.2.1
    have b3 := SA3.out.2.2.2.2.2.2.1
    have KQ := Lib.hid (fun (W : World) (hW : W.heap[w.heap.size]? = w3.heap[w.heap.size]?) => show W.cell? ⟨w.heap.size, 0, none⟩ = some (.slice a g.sources.length cap) ∧ W.cell? ⟨w.heap.size, 1, none⟩ = some (.slice a' g.actions.length cap') from ⟨(World.cell?_of_block (a := ⟨w.heap.size, 0, none⟩) hW).trans q0, (World.cell?_of_block (a := ⟨w.heap.size, 1, none⟩) hW).trans q1⟩)
    have hne' : w.heap.size ≠ b := by omega
    go_region_held3 (fun W => W.cell? ⟨w.heap.size, 0, none⟩ = some (.slice a g.sources.length cap) ∧ W.cell? ⟨w.heap.size, 1, none⟩ = some (.slice a' g.actions.length cap'))
      (first | exact KQ.out _ rfl | exact KQ.out _ HQ4.out | exact KQ.out _ HQ5.out | exact KQ.out _ ((Below.heap_setCell _ _ _ _ hne').trans HQ5.out) | exact KQ.out _ ((Below.heap_setCell _ _ _ _ hne').trans ((Below.heap_setCell _ _ _ _ hne').trans HQ5.out)) | exact KQ.out _ ((Below.heap_setCell _ _ _ _ hne').trans ((Below.heap_setCell _ _ _ _ hne').trans ((Below.heap_setCell _ _ _ _ hne').trans HQ5.out))))
      (first
        | (go_at_call 15; refine (HCl.out _ ((Below.refl _ _).drew)).mono ?_; rintro e w4 ⟨cv, rfl, hco, hb4⟩; have HB4 := Lib.hid (((Below.refl w3.heap.size w3).drew).trans hb4); have HCo := Lib.hid (show OwnS w3.heap.size 1 w4 cv g.sources.length (g.sources.map Value.string) from hco); obtain ⟨ac4, cc4, rfl, -⟩ := hco.form; have HQ4 := Lib.hid (HB4.out.block w.heap.size (Array.getElem?_eq_some_iff.1 HBx3.out).1); clear hco hb4)
        | (go_at_call 16; refine (HOr.out _ HB4.out).mono ?_; rintro e w5 ⟨ov, rfl, hoi, hb5⟩; rw [if_pos HE.out] at hoi; have HB5 := Lib.hid (HB4.out.trans (hb5.mono HB4.out.size)); have HCo5 := Lib.hid (HCo.out.below hb5); have HOi := Lib.hid (show Ints (fun q => w3.heap.size ≤ q) w5 ov (ordG g) from hoi.keep (fun q hq => Nat.le_trans HB4.out.size hq) ⟨Nat.le_refl _, fun _ _ _ => rfl⟩); obtain ⟨oa, oc, rfl, -⟩ := hoi; have HQ5 := Lib.hid (HB5.out.block w.heap.size (Array.getElem?_eq_some_iff.1 HBx3.out).1); have SA5 := Lib.hid (SA3.out.below HB5.out); have d0 := SA5.out.2.2.2.1; have d2 := SA5.out.2.2.2.2.2.1; have d3 := SA5.out.2.2.2.2.2.2.1; have e0 := (SA5.out.2.2.1 0 (by omega)).2; have e2 := (SA5.out.2.2.1 2 (by omega)).2; have e3 := (SA5.out.2.2.1 3 (by omega)).2; rw [Nat.zero_add] at e0 e2 e3; clear hb5))
    refine then_gen (fun wq => StA w b (w.heap.size + 1) (.slice ac4 g.sources.length cc4) (.slice none 0 0) (.slice oa (ordG g).length oc) 1 [] wq ∧ StB w b g (.slice ac4 g.sources.length cc4) (.slice oa (ordG g).length oc) (.agg #[.slice a g.sources.length cap, .slice a' g.actions.length cap']) wq) ⟨((SA5.out.set0 _).set3 _).set2 1, ?_⟩ (fun wq hq => ?_)
    · have hml := SA3.out.2.2.2.2.2.2.2.2.1.lt
      have hks : ∀ q, q ≠ b → ((((w5.setCell ⟨b, 0, none⟩ (.slice ac4 g.sources.length cc4)).setCell ⟨b, 3, none⟩ (.slice oa (ordG g).length oc)).setCell ⟨b, 2, none⟩ (.int .i64 1))).heap[q]? = w5.heap[q]? := fun q hq => (Below.heap_setCell _ _ _ _ hq).trans ((Below.heap_setCell _ _ _ _ hq).trans (Below.heap_setCell _ _ _ _ hq))
      have hsz : w5.heap.size ≤ ((((w5.setCell ⟨b, 0, none⟩ (.slice ac4 g.sources.length cc4)).setCell ⟨b, 3, none⟩ (.slice oa (ordG g).length oc)).setCell ⟨b, 2, none⟩ (.int .i64 1))).heap.size := by simp
      have hw3 : w.heap.size ≤ w3.heap.size := SA3.out.1.size
      have hF0 : ∀ q, w3.heap.size ≤ q → q ≠ b ∧ q ≠ w.heap.size + 1 := fun q hq => ⟨by omega, by omega⟩
      exact ⟨(HCo5.out.strs (by omega) (fun s hs => by have := nameB_size (graphB_sources HG.out s hs); unfold Fits; omega)).keep (fun q hq => hF0 q hq) ⟨hsz, fun q hq _ => hks q (hF0 q hq).1⟩,
        HOi.out.keep (fun q hq => hF0 q hq) ⟨hsz, fun q hq _ => hks q (hF0 q hq).1⟩, (hks _ hne').trans (HQ5.out.trans HBx3.out)⟩
    have SA6 := Lib.hid hq.1
    have hwq : w.heap.size ≤ wq.heap.size := hq.1.1.size
    have hmq : w.heap.size + 1 < wq.heap.size := hq.1.2.2.2.2.2.2.2.2.1.lt
    have SB6 := Lib.hid hq.2
    clear hq SA5 SA3 HCo HCo5 HOi HB4 HB5 HQ4 HQ5 HBx3 d0 d2 d3 e0 e2 e3 b0 b2 b3 q0 q1 KQ HCl HOr
    have q1 := (Lib.cell_of_heap SB6.out.2.2 1).trans (show _ = some (Value.slice a' g.actions.length cap') from rfl)
    go_wp2_with fail
    go_loopw [46] (fun i wr => ∃ (k : Nat) (v1 : Value) (P : List (Act × Value)), k ≤ g.actions.length ∧ i = .int .i64 (k : Int) ∧ P.map (·.1) = g.actions.take k ∧ StA w b (w.heap.size + 1) (.slice ac4 g.sources.length cc4) v1 (.slice oa (ordG g).length oc) 1 [] wr ∧ ActsOwn wq.heap.size v1 P wr ∧ Turn (isB b) wq wr) (fun i _ => g.actions.length - (intOf i).toNat)
    case atStart => exact ⟨0, _, [], Nat.zero_le _, rfl, rfl, SA6.out, ⟨⟨rfl, .inl ⟨rfl, rfl⟩⟩, by simp⟩, Turn.refl _ _⟩
    case round =>
      obtain ⟨k, v1, P, hk, rfl, hP, hS, hAO, hTq⟩ := hrel
      clear SA6
      have SA := Lib.hid hS
      have AO := Lib.hid hAO
      have TQ := Lib.hid hTq
      have HP := Lib.hid hP
      have hPl : P.length = k := by have := congrArg List.length hP; simp at this; omega
      have HPl := Lib.hid hPl
      clear hS hAO hTq hP hPl q1
      by_cases hlt : k < g.actions.length
      · obtain ⟨aa, ca, he, -, -, -, a5⟩ := HA.out wr SA.out.1
        cases he
        obtain ⟨ab, ao, rfl, hfa, hba, hca⟩ := a5.resolve_left (fun e => by rw [e] at hlt; simp at hlt)
        obtain ⟨iv, hiv, d0, d1, d2⟩ := hca k hlt
        have hmem := getD_mem (default : Act) hlt
        have hin := (actB_parts (graphB_acts HG.out _ hmem)).2.2.1
        have hnm := (actB_parts (graphB_acts HG.out _ hmem)).2.1
        have htk : g.actions.take (k + 1) = g.actions.take k ++ [g.actions.getD k default] := by
          rw [List.take_succ_eq_append_getElem hlt]; simp [List.getD_eq_getElem?_getD, List.getElem?_eq_getElem hlt]
        generalize g.actions.getD k default = ac at d0 d1 d2 hiv hin hnm htk
        have HTk := Lib.hid htk
        have HNm := Lib.hid hnm
        have HCl := Lib.hid (fun (w0 : World) (hb0 : Below wr.heap.size wr w0) => Clone_any ac.inputs iv w0 (hiv.below hb0) (by omega))
        obtain ⟨ai, capi, rfl, -⟩ := hiv
        clear hca a5 hfa hmem htk hnm
        go_wp2_with fail
        refine (HCl.out _ ((Below.refl _ _).alloc (Nat.le_refl _) _)).mono ?_
        rintro e w7 ⟨iv2, rfl, ho7, hb7⟩
        have hbxl : SA.out.2.1 = SA.out.2.1 := rfl
        clear hbxl
        have hsz7 := hb7.size
        simp only [World.size_alloc] at hsz7
        have HBx := Lib.hid ((hb7.block wr.heap.size (by simp)).trans (MapKept.heap_alloc wr _).1)
        have HB7 := Lib.hid (((Below.refl _ _).alloc (Nat.le_refl _) (.cells #[.string ac.name, .slice ai ac.inputs.length capi, .string ac.code] 55)).trans (hb7.mono (by simp)))
        have SA7 := Lib.hid (SA.out.below HB7.out)
        have hbs : b < wr.heap.size := SA.out.2.1
        have hms : w.heap.size + 1 < wr.heap.size := SA.out.2.2.2.2.2.2.2.2.1.lt
        have hqs : wq.heap.size ≤ wr.heap.size := TQ.out.size
        have hbw : b < w.heap.size := SA.out.2.2.2.2.2.2.2.2.2.2
        obtain ⟨ai2, ci2, rfl, -⟩ := ho7.form
        have n0 := (Lib.cell_of_heap HBx.out 0).trans (show _ = some (Value.string ac.name) from rfl)
        have n1 := (Lib.cell_of_heap HBx.out 1).trans (show _ = some (Value.slice ai ac.inputs.length capi) from rfl)
        have n2 := (Lib.cell_of_heap HBx.out 2).trans (show _ = some (Value.string ac.code) from rfl)
        have nf := Lib.frozen_of_heap HBx.out 1
        have HO7 := Lib.hid ho7
        clear ho7 hb7 d0 d1 d2 HCl
        go_wp2_with fail
        have SA8 := Lib.hid (SA7.out.other (k := wr.heap.size) (j := 1) (by omega) (by omega) (by omega) (.slice ai2 ac.inputs.length ci2))
        have hk8 : ∀ q, q ≠ wr.heap.size → (w7.setCell ⟨wr.heap.size, 1, none⟩ (.slice ai2 ac.inputs.length ci2)).heap[q]? = w7.heap[q]? := fun q hq => Below.heap_setCell _ _ _ _ hq
        have AO8 := Lib.hid (show ActsOwn wq.heap.size v1 P (w7.setCell ⟨wr.heap.size, 1, none⟩ (.slice ai2 ac.inputs.length ci2)) from AO.out.keep (by simp; omega) (fun q _ hq => (hk8 q (by omega)).trans (HB7.out.block q hq)))
        have TQ8 := Lib.hid ((TQ.out.trans (Turn.of_below HB7.out)).setCell (p := ⟨wr.heap.size, 1, none⟩) (.inr hqs) (.slice ai2 ac.inputs.length ci2))
        have HIv8 := Lib.hid (show Strs (fun q => wq.heap.size ≤ q ∧ v1.ownBlock ≠ some q) (w7.setCell ⟨wr.heap.size, 1, none⟩ (.slice ai2 ac.inputs.length ci2)) (.slice ai2 ac.inputs.length ci2) ac.inputs from
          (HO7.out.strs (by omega) (fun s hs => by have := nameB_size (HNm.out s hs); unfold Fits; omega)).keep (fun q hq => (show q ≠ wr.heap.size ∧ _ from (by
            have hq' : wr.heap.size + 1 ≤ q := (by simpa using hq)
            exact ⟨by omega, by omega, fun e => by have := (AO.out.1.block q e).2; omega⟩)).2) ⟨by simp, fun q hq _ => hk8 q (by have hq' : wr.heap.size + 1 ≤ q := (by simpa using hq); omega)⟩)
        have n0' : (w7.setCell ⟨wr.heap.size, 1, none⟩ (.slice ai2 ac.inputs.length ci2)).cell? ⟨wr.heap.size, 0, none⟩ = some (.string ac.name) := (World.cell?_setCell_other _ _ _ _ (fun e => by cases e)).trans n0
        have n1' : (w7.setCell ⟨wr.heap.size, 1, none⟩ (.slice ai2 ac.inputs.length ci2)).cell? ⟨wr.heap.size, 1, none⟩ = some (.slice ai2 ac.inputs.length ci2) := World.cell?_setCell_same _ _ _ n1
        have n2' : (w7.setCell ⟨wr.heap.size, 1, none⟩ (.slice ai2 ac.inputs.length ci2)).cell? ⟨wr.heap.size, 2, none⟩ = some (.string ac.code) := (World.cell?_setCell_other _ _ _ _ (fun e => by cases e)).trans n2
        have hs8 : wr.heap.size < (w7.setCell ⟨wr.heap.size, 1, none⟩ (.slice ai2 ac.inputs.length ci2)).heap.size := by simp; omega
        clear n0 n1 n2 nf SA7 HBx hk8 HO7 HB7 AO TQ SA
        generalize w7.setCell ⟨wr.heap.size, 1, none⟩ (.slice ai2 ac.inputs.length ci2) = w8 at SA8 AO8 TQ8 HIv8 n0' n1' n2' hs8 ⊢
        generalize wr.heap.size = bx at n0' n1' n2' hs8 hbs hms hqs ⊢
        have b1 := SA8.out.2.2.2.2.1
        have bf := (SA8.out.2.2.1 1 (by omega)).2
        rw [Nat.zero_add] at bf
        have hb8 : b < w8.heap.size := SA8.out.2.1
        go_region_law (refine step_append_S2 rfl (.tmp 59) (.tmp 61) 23 rfl wq.heap.size 55 i0 (.agg #[.string ByteArray.empty, .slice none 0 0, .string ByteArray.empty]) 3 56 Tryz.underlying23 hi hz0 hz1 hz2 rfl (by decide) v1 P.length (prCells P) rfl (by exact (AO8.out.1.below ((Below.refl _ _).alloc (Nat.le_refl _) _)).drew) ⟨w8.heap.size, 0, none⟩ 1 1 [.string ac.name, .slice ai2 ac.inputs.length ci2, .string ac.code] rfl rfl (by exact cell_three _ _ _ _ _ _ rfl) (by simp [Value.oneCell']) (by have := HPl.out; unfold maxLen; omega) (by have := HPl.out; omega) (by simp; omega) ?_; intro v2 w9 ho2 hg2 hp2; have hk3 := hg2.block b (by simp; omega) (fun e => by have := (AO8.out.1.block _ e.symm).1; have := SA8.out.2.2.2.2.2.2.2.2.2.2; omega); have b1' : w9.cell? ⟨b, 1, none⟩ = some v1 := (World.cell?_of_block (a := ⟨b, 1, none⟩) hk3).trans ((World.cell?_alloc_lt w8 _ ⟨b, 1, none⟩ hb8).trans b1); have bf' : w9.frozen? ⟨b, 1, none⟩ = false := (World.frozen?_of_block (a := ⟨b, 1, none⟩) hk3).trans ((World.frozen?_of_block (a := ⟨b, 1, none⟩) (Below.heap_alloc w8 _ b hb8)).trans bf); obtain ⟨av2, cv2, rfl, -⟩ := ho2.form; have HO2 := Lib.hid ho2; have HG2 := Lib.hid hg2; have HP2 := Lib.hid hp2; clear ho2 hg2 hp2 hk3)
        all_goals
          have SA9 := Lib.hid ((((SA8.out.below ((Below.refl _ _).alloc (Nat.le_refl _) (.cells #[.string ac.name, .slice ai2 ac.inputs.length ci2, .string ac.code] 55))).drew).grown HG2.out (fun q hq => by have := (AO8.out.1.block q hq).1; exact ⟨by omega, by omega, by omega⟩)).set1 (.slice av2 (P.length + 1) cv2))
          have AO9 := Lib.hid (show ActsOwn wq.heap.size (.slice av2 (P.length + 1) cv2) (P ++ [(ac, .slice ai2 ac.inputs.length ci2)]) (w9.setCell ⟨b, 1, none⟩ (.slice av2 (P.length + 1) cv2)) from
            (ActsOwn.snoc (AO8.out.below (((Below.refl _ _).alloc (Nat.le_refl _) (.cells #[.string ac.name, .slice ai2 ac.inputs.length ci2, .string ac.code] 55)).drew)) (ac, .slice ai2 ac.inputs.length ci2) (HIv8.out.below (((Below.refl _ _).alloc (Nat.le_refl _) _).drew)) HO2.out HG2.out HP2.out).keep (by simp) (fun q hq _ => Below.heap_setCell _ _ _ _ (fun e => by have e' : q = b := e; omega)))
          have TQ9 := Lib.hid ((((TQ8.out.alloc (.cells #[.string ac.name, .slice ai2 ac.inputs.length ci2, .string ac.code] 55)).drew).grown HG2.out (fun q hq => .inr (AO8.out.1.block q hq).1)).setCell (p := ⟨b, 1, none⟩) (.inl rfl) (.slice av2 (P.length + 1) cv2))
          have HP9 := Lib.hid (show (P ++ [(ac, Value.slice ai2 ac.inputs.length ci2)]).map (·.1) = g.actions.take (k + 1) by rw [List.map_append, HP.out, HTk.out]; rfl)
          clear HO2 HG2 HP2 SA8 AO8 TQ8 HIv8 n0' n1' n2' hs8 b1 bf hb8 b1' bf'
          go_wp2_with fail
          first
            | exact ⟨⟨k + 1, _, _, by omega, by go_num, HP9.out, SA9.out, AO9.out, TQ9.out⟩, by simp [intOf]; omega⟩
            | (go_roundw
               case rel => exact ⟨k + 1, _, _, by omega, by go_num, HP9.out, SA9.out, AO9.out, TQ9.out⟩
               case measure => simp [intOf]; omega)
      · obtain rfl : k = g.actions.length := by omega
        have hP2 := HP.out
        rw [List.take_length] at hP2
        have HAc := Lib.hid (show Acts (fun q => q ≠ b ∧ q ≠ w.heap.size + 1) wr v1 g.actions from AO.out.acts hP2 (fun q hq => ⟨by omega, by omega⟩) (by omega) HFa.out)
        have SBr := Lib.hid (SB6.out.turn (turnB TQ.out) hb)
        clear hP2 AO TQ HP HPl SB6
        go_wp2_with fail
        obtain ⟨wo, rfl⟩ : ∃ wo : World, wo = wr := ⟨_, rfl⟩
        have SA0 := Lib.hid (show StA w b (w.heap.size + 1) (.slice ac4 g.sources.length cc4) v1 (.slice oa (ordG g).length oc) 1 (srcF (l.take 0)) wo from SA.out)
        clear SA
        go_loopw [69] (fun i wr => ∃ k : Nat, k ≤ l.length ∧ i = .int .i64 (k : Int) ∧ StA w b (w.heap.size + 1) (.slice ac4 g.sources.length cc4) v1 (.slice oa (ordG g).length oc) 1 (srcF (l.take k)) wr ∧ Turn (fun q => q = b ∨ q = w.heap.size + 1) wo wr) (fun i _ => l.length - (intOf i).toNat)
        case atStart => exact ⟨0, Nat.zero_le _, rfl, SA0.out, Turn.refl _ _⟩
        case round =>
          obtain ⟨k, hk, rfl, hS, hT⟩ := hrel
          clear SA0
          have SA := Lib.hid hS
          have TQ := Lib.hid hT
          clear hS hT
          by_cases hlt : k < l.length
          · obtain ⟨sa, sc', he, -, -, -, s5⟩ := HSr.out wr SA.out.1
            cases he
            obtain ⟨sb, so, rfl, hfs, hbs, hcs⟩ := s5.resolve_left (fun e => by rw [e] at hlt; simp at hlt)
            obtain ⟨d0, d1⟩ := hcs k hlt
            have hst := srcF_snoc l k hlt
            generalize l.getD k default = sc at d0 d1 hst
            have HST := Lib.hid hst
            clear hst hcs hfs s5
            go_wp2_with fail
            have SA8 := Lib.hid (SA.out.below ((Below.refl _ _).alloc (Nat.le_refl _) (.cells #[.string sc.name, .string sc.blob] 58)))
            have TQ8 := Lib.hid (TQ.out.alloc (.cells #[.string sc.name, .string sc.blob] 58))
            have cn0 : (wr.alloc (.cells #[.string sc.name, .string sc.blob] 58)).cell? ⟨wr.heap.size, 0, none⟩ = some (.string sc.name) := World.cell?_alloc_new _ _ _ _
            have cn1 : (wr.alloc (.cells #[.string sc.name, .string sc.blob] 58)).cell? ⟨wr.heap.size, 1, none⟩ = some (.string sc.blob) := World.cell?_alloc_new _ _ _ _
            generalize wr.alloc (.cells #[.string sc.name, .string sc.blob] 58) = w8 at SA8 TQ8 cn0 cn1 ⊢
            have c4 := SA8.out.2.2.2.2.2.2.2.1
            have HX := Lib.hid SA8.out.2.2.2.2.2.2.2.2.1
            clear d0 d1 SA TQ
            go_still_tail 10, (by kernel_rfl)
            change wpList _ _ _ _ _ (World.drew _)
            go_wp2_with (at_mapUpdate; refine wpList_xput _ rfl _ _ _ 59 rfl 9 48 Tryz.underlying59 Tryz.underlying9 Res.v (w.heap.size + 1) (srcF (l.take k)) rfl (show XMap Res.v w8.drew (w.heap.size + 1) (srcF (l.take k)) from HX.out) sc.name rfl ⟨0, sc.blob⟩ rfl ?_; intro w9 hx9 hg9; have HX9 := Lib.hid hx9; have HG9 := Lib.hid hg9; clear hx9 hg9 cn0 cn1 c4)
            have SA9 := Lib.hid (SA8.out.drew.put HX9.out HG9.out)
            have TQ9 := Lib.hid (TQ8.out.drew.grown HG9.out (fun q hq => by injection hq with hq; exact .inl (.inr hq.symm)))
            clear HX9 HG9 HX SA8 TQ8
            first
              | exact ⟨⟨k + 1, by omega, by go_num, by rw [HST.out]; exact SA9.out, TQ9.out⟩, by simp [intOf]; omega⟩
              | (go_roundw
                 case rel => exact ⟨k + 1, by omega, by go_num, by rw [HST.out]; exact SA9.out, TQ9.out⟩
                 case measure => simp [intOf]; omega)
          · obtain rfl : k = l.length := by omega
            have hS2 := SA.out
            rw [List.take_length] at hS2
            have SA2 := Lib.hid hS2
            have SBr2 := Lib.hid (SBr.out.turn TQ.out hb)
            have HAc2 := Lib.hid (HAc.out.keep (w' := wr) (F' := fun q => q ≠ b ∧ q ≠ w.heap.size + 1) (fun _ h => h) (Kept.of_turn TQ.out (fun q hq e => e.elim hq.1 hq.2)))
            have HBk := Lib.hid (SA2.out.bak SBr2.out.1 HAc2.out SBr2.out.2.1)
            have hol : (ordG g).length ≤ 100 := by have := @ordG_length g; omega
            clear hS2 SA
            go_wp2_with fail
            refine (settle_any b (w.heap.size + 1) g (ordG g) 1 (srcF l) wr HBk.out (topo_of HE.out).lt ⟨by omega, by omega, hol⟩).mono ?_
            rintro e w6 ⟨rfl, hbk6, ht6⟩
            have HBk6 := Lib.hid hbk6
            have HT6 := Lib.hid ht6
            clear hbk6 ht6
            go_wp2_with fail
            go_ret
            refine ⟨0, rfl, ?_, fun _ => ⟨HE.out, HFit.out, w.heap.size + 1, by omega, HBk6.out⟩, fun h => absurd rfl h⟩
            have h1 := SA2.out.1
            exact ⟨HT6.out.os.trans h1.os, HT6.out.tape.trans h1.tape, HT6.out.output.trans h1.output, Nat.le_trans h1.size HT6.out.size, fun q hq hs => (HT6.out.block q (Nat.lt_of_lt_of_le hq h1.size) (fun e => e.elim hs (fun e => by omega))).trans (h1.block q hq hs)⟩
  · have hb : (c != 0) = true := by rw [bne_iff_ne]; exact hc
    have HC := Lib.hid hc
    have HBad := Lib.hid (hc1 hc)
    clear hc hc0 hc1
    go_wp2_with fail
    go_ret
    exact ⟨c, rfl, SA3.out.1, fun h => absurd h HC.out, fun _ => HBad.out⟩
end Go.Proofs.YtnifkpcjpjgkeaaGreatDoor
