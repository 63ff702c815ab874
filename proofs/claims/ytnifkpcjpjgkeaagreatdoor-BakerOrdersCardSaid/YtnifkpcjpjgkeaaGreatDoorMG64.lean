/- oven: a kitchen's making. -/
/- oven.Keys: no error says that the build can be and its sources fit. -/
import Derived.Test.YtnifkpcjpjgkeaaGreatDoorMG61
/- G64. -/
namespace Go.Proofs.YtnifkpcjpjgkeaaGreatDoor
open Go.RowKit Go.Shelf

def MadeR (w0 w1 : World) (bk bm bd n : Nat) (gs ga : Value) (wr : World) : Prop := (∃ T, KitR w0 bk bm bd gs ga n T wr ∧ SmallT T) ∧ Turn (fun b => b = bm ∨ b = bd) w1 wr

theorem KitR.grown {w wr w' : World} {bk bm bd n : Nat} {gs ga : Value} {T : TMap} {row : Option Nat} (h : KitR w bk bm bd gs ga n T wr) (hg : wr.grownBy w' row) (hr : ∀ k, row = some k → w.heap.size ≤ k ∧ k ≠ bk ∧ k ≠ bm ∧ k ≠ bd) : KitR w bk bm bd gs ga n T w' := by
  obtain ⟨h1, h2, h3, h4, h5, h6, h7, h8, h9, h10, h11⟩ := h
  exact ⟨h1.grown hg h1.size (fun k hk => (hr k hk).1), h2, h3, h4, h5, h6, h7, Nat.lt_of_lt_of_le h8 hg.size, (hg.block bk (Array.getElem?_eq_some_iff.1 h9).1 (fun e => (hr bk e.symm).2.1 rfl)).trans h9, h10.keep (hg.block bm h10.lt (fun e => (hr bm e.symm).2.2.1 rfl)), h11.keep (hg.block bd h8 (fun e => (hr bd e.symm).2.2.2 rfl))⟩
/-- While an action's inputs' results are laid: its box in block bx. -/
def InR (w0 w1 : World) (bk bm bd n bx : Nat) (gs ga : Value) (T : TMap) (ac : Act) (iv v : Value) (j : Nat) (wr : World) : Prop :=
  KitR w0 bk bm bd gs ga n T wr ∧ Turn (fun b => b = bm ∨ b = bd) w1 wr ∧ wr.heap[bx]? = some (.cells #[.string ac.name, iv, .string ac.code] 55) ∧ OwnS (bx + 1) 2 wr v j (resCells (resOf T (ac.inputs.take j)))

set_option maxHeartbeats 3000000 in
set_option maxRecDepth 20000 in
theorem make_any {F : Nat → Prop} (g : Gr) (w0 wk : World) (bk bm bd : Nat) (gs ga : Value) (T : TMap) (hs : Strs F w0 gs g.sources) (ha : Acts F w0 ga g.actions) (hK : KitR w0 bk bm bd gs ga g.actions.length T wk) (hE : checkedE g = 0) (hT : SmallT T) (hL : LaidB w0.heap.size w0) :
    Calls Tryz.prog 28 #[.pointer (some ⟨bk, 0, none⟩)] wk (fun e w' => e = .returned (.tuple #[]) ∧ ∃ T', KitR w0 bk bm bd gs ga g.actions.length T' w' ∧ SmallT T') := by
  obtain ⟨i0, hi, hz0, hz1, hz2⟩ := info_parts infoRes3
  have HO := Lib.hid (Order_any g gs ga wk (hs.below hK.1) (ha.below hK.1))
  have HL := Lib.hid hL
  have HT := Lib.hid hT
  have HK := Lib.hid hK
  have HG := Lib.hid (wovenE_zero (checkedE_woven hE))
  have HTop := Lib.hid (topo_of hE)
  have HE := Lib.hid hE
  have k0 := hK.srcs
  have k1 := hK.acts
  obtain ⟨a, cap, rfl, -⟩ := hs
  obtain ⟨a', cap', rfl, h2', h3', -, h5'⟩ := ha
  have H5 := Lib.hid h5'
  have h12 := graphB_12 HG.out
  clear hL hT hK hE h5'
  go_enter Tryz.func28, Tryz.ntmps28
  go_wp2_with fail
  refine HO.out.mono ?_
  rintro e w1 ⟨ov, rfl, hI, hb1⟩
  rw [if_pos HE.out] at hI
  have HKs := Lib.hid (HK.out.2.2.2.2.2.2.2.1)
  have RM := Lib.hid (show MadeR w0 w1 bk bm bd g.actions.length (.slice a g.sources.length cap) (.slice a' g.actions.length cap') w1 from ⟨⟨T, HK.out.below hb1, HT.out⟩, Turn.refl _ _⟩)
  have HB1 := Lib.hid hb1
  obtain ⟨oa, oc, rfl, ho2, ho3, ho5⟩ := hI
  have HO5 := Lib.hid ho5
  have hol : (ordG g).length ≤ 13 := by have := @ordG_length g; omega
  clear ho5 hb1 k0 k1 HO
  go_wp2_with fail
  go_loopw [15] (fun i wr => ∃ k : Nat, k ≤ (ordG g).length ∧ i = .int .i64 (k : Int) ∧ MadeR w0 w1 bk bm bd g.actions.length (.slice a g.sources.length cap) (.slice a' g.actions.length cap') wr) (fun i _ => (ordG g).length - (intOf i).toNat)
  case atStart => exact ⟨0, Nat.zero_le _, rfl, RM.out⟩
  case round =>
    obtain ⟨k, hk, rfl, hR⟩ := hrel
    clear RM
    have HTu := Lib.hid hR.2
    obtain ⟨⟨T1, hR1, hT1⟩, -⟩ := hR
    have RK := Lib.hid hR1
    have HT1 := Lib.hid hT1
    clear hR1 hT1
    by_cases hlt : k < (ordG g).length
    · obtain ⟨ob, oo, rfl, hfo, hbo, hco⟩ := HO5.out.resolve_left (fun e => by rw [e] at hlt; simp at hlt)
      have d0 := (World.cell?_of_block (a := ⟨ob, oo + k, none⟩) (HTu.out.block ob hbo (by have := HK.out.2.2.2.2.2.2.2.1; have := HK.out.xm.lt; have : wk.heap.size ≤ ob := hfo; omega))).trans (hco k hlt)
      have hil := HTop.out.lt _ (getD_mem 0 hlt)
      generalize (ordG g).getD k 0 = i at d0 hil
      obtain ⟨b, off, rfl, hfb, hbs, hc⟩ := H5.out.resolve_left (fun e => by rw [e] at hil; simp at hil)
      obtain ⟨iv, hiv, hc0, hc1, hc2⟩ := hc i hil
      have e0 := RK.out.old hbs hc0
      have e1 := RK.out.old hbs hc1
      have e2 := RK.out.old hbs hc2
      have k1 := RK.out.acts
      have hact := graphB_acts HG.out _ (getD_mem (default : Act) hil)
      have h4 := (actB_parts hact).2.2.1
      have h64 := (actB_parts hact).2.2.2
      generalize g.actions.getD i default = ac at e0 e1 e2 hiv h4 h64
      obtain ⟨ai, capi, rfl, hi2, hi3, -, hi5⟩ := hiv
      have HI5 := Lib.hid hi5
      have q1 : (0 : Int) ≤ (i : Int) := by omega
      have q2 : (i : Int) < (g.actions.length : Int) := by omega
      clear hco hc hc0 hc1 hc2 hfo hfb hi5 hact
      go_wp2_with fail
      have RI := Lib.hid (show InR w0 w1 bk bm bd g.actions.length wr.heap.size (.slice a g.sources.length cap) (.slice (some ⟨b, off, none⟩) g.actions.length cap') T1 ac (.slice ai ac.inputs.length capi) (.slice none 0 0) 0 (wr.alloc (.cells #[.string ac.name, .slice ai ac.inputs.length capi, .string ac.code] 55)) from
        ⟨RK.out.below ((Below.refl _ _).alloc (Nat.le_refl _) _), HTu.out.alloc _, (MapKept.heap_alloc wr _).1, rfl, .inl ⟨rfl, rfl⟩⟩)
      generalize wr.alloc (.cells #[.string ac.name, .slice ai ac.inputs.length capi, .string ac.code] 55) = wq at RI ⊢
      have hbx : bk < wr.heap.size ∧ bm < wr.heap.size ∧ bd < wr.heap.size ∧ w0.heap.size ≤ wr.heap.size ∧ w1.heap.size ≤ wr.heap.size := ⟨(Array.getElem?_eq_some_iff.1 RK.out.2.2.2.2.2.2.2.2.1).1, RK.out.xm.lt, RK.out.2.2.2.2.2.2.2.1, RK.out.1.size, HTu.out.size⟩
      generalize wr.heap.size = bx at RI hbx ⊢
      clear d0 e0 e1 e2 k1 RK HTu
      go_loopw [5, 30] (fun v i wr => ∃ j : Nat, j ≤ ac.inputs.length ∧ i = .int .i64 (j : Int) ∧ InR w0 w1 bk bm bd g.actions.length bx (.slice a g.sources.length cap) (.slice (some ⟨b, off, none⟩) g.actions.length cap') T1 ac (.slice ai ac.inputs.length capi) v j wr) (fun _ i _ => ac.inputs.length - (intOf i).toNat)
      case atStart => exact ⟨0, Nat.zero_le _, rfl, RI.out⟩
      case round =>
        obtain ⟨j, hj, rfl, hR⟩ := hrel
        clear RI
        have RI := Lib.hid hR
        clear hR
        have cm := RI.out.1.map
        by_cases hlt2 : j < ac.inputs.length
        · obtain ⟨bi, oi, rfl, hfi, hbi, hci⟩ := HI5.out.resolve_left (fun e => by rw [e] at hlt2; simp at hlt2)
          have d1 := RI.out.1.old hbi (hci j hlt2)
          have hst := resOf_snoc T1 ac.inputs j hlt2
          generalize ac.inputs.getD j ByteArray.empty = s at d1 hst
          obtain ⟨r, hr⟩ : ∃ r, r = (mget T1 s).getD dRes := ⟨_, rfl⟩
          rw [← hr] at hst
          have HST := Lib.hid hst
          have HRr := Lib.hid hr
          have HOw := Lib.hid RI.out.2.2.2
          clear hst hr hci hfi
          go_wp2_with (first
            | (at_lookup; refine wpList_xlook _ rfl _ _ 59 rfl 9 48 Tryz.underlying59 Tryz.underlying9 Res.v dRes (zeroRes _) bm T1 rfl RI.out.1.xm s rfl ?_; rw [← HRr.out]; simp only [Res.v])
            | (at_builtin; refine wpList_append_S rfl (.tmp 34) (.tmp 41) 29 rfl (bx + 1) 48 i0 (.agg #[.int .i64 0, .string ByteArray.empty]) 2 24 Tryz.underlying29 hi hz0 hz1 hz2 rfl (by decide) _ _ _ rfl (HOw.out.below ((Below.refl _ _).alloc (Nat.le_refl _) _)) (some ⟨wr.heap.size, 0, none⟩) 1 1 [.int .i64 r.code, .string r.blob] rfl rfl (.inr ⟨_, rfl, cell_two _ _ _ _ _ rfl⟩) (by simp [Value.oneCell']) (by unfold maxLen; omega) (by omega) (by have := (Array.getElem?_eq_some_iff.1 RI.out.2.2.1).1; simp; omega) ?_; intro v2 w2 ho2 hg2; have HO2 := Lib.hid ho2; have HG2 := Lib.hid hg2; clear ho2 hg2))
          have RI2 := Lib.hid (show InR w0 w1 bk bm bd g.actions.length bx (.slice a g.sources.length cap) (.slice (some ⟨b, off, none⟩) g.actions.length cap') T1 ac (.slice (some ⟨bi, oi, none⟩) ac.inputs.length capi) v2 (j + 1) w2 from
            ⟨(RI.out.1.below ((Below.refl _ _).alloc (Nat.le_refl _) _)).grown HG2.out (fun k hk => by have := (HOw.out.block k hk).1; omega), (RI.out.2.1.alloc _).grown HG2.out (fun k hk => by have := (HOw.out.block k hk).1; right; omega),
              (HG2.out.block bx (by have := (Array.getElem?_eq_some_iff.1 RI.out.2.2.1).1; simp; omega) (fun e => by have := (HOw.out.block _ e.symm).1; omega)).trans ((Below.heap_alloc _ _ _ (Array.getElem?_eq_some_iff.1 RI.out.2.2.1).1).trans RI.out.2.2.1),
              by rw [HST.out, resCells_app]; exact HO2.out⟩)
          clear HO2 HG2 HOw RI cm d1
          first
            | exact ⟨⟨j + 1, by omega, by go_num, RI2.out⟩, by simp [intOf]; omega⟩
            | (go_roundw
               case rel => exact ⟨j + 1, by omega, by go_num, RI2.out⟩
               case measure => simp [intOf]; omega)
        · obtain rfl : j = ac.inputs.length := by omega
          have hrl := resOf_len T1 ac.inputs
          have HRs := Lib.hid (show Ress (fun b => bx + 1 ≤ b) wr u5 (resOf T1 ac.inputs) from OwnS.ress (by have h := RI.out.2.2.2; rw [List.take_length] at h; rw [hrl]; exact h) (by rw [hrl]; omega) (fun s hs => by obtain ⟨t, -, rfl⟩ := List.mem_map.1 hs; have := HT1.out.get t; unfold Fits; omega))
          have HRl := Lib.hid hrl
          have b2 := (Lib.cell_of_heap RI.out.2.2.1 2).trans (show _ = some (Value.string ac.code) from rfl)
          clear hrl
          go_wp2_with fail
          refine (Make_any ac.code (resOf T1 ac.inputs) _ wr HRs.out (by rw [HRl.out]; omega) ((HL.out.below RI.out.1.1).here)).mono ?_
          rintro e w2 ⟨r, rfl, hok, hz, hb2⟩
          have HZ := Lib.hid hz
          have HOk := Lib.hid hok
          have RK2 := Lib.hid (RI.out.1.below hb2)
          have HTu2 := Lib.hid (RI.out.2.1.trans (Turn.of_below hb2))
          have HBx := Lib.hid ((hb2.block bx (Array.getElem?_eq_some_iff.1 RI.out.2.2.1).1).trans RI.out.2.2.1)
          have HRs2 := Lib.hid (HRs.out.below hb2)
          clear hz hok hb2 b2 RI cm HRs
          go_wp2_with fail
          have hh8 := (MapKept.heap_alloc w2 (.cells #[.int .i64 r.code, .string r.blob] 48)).1
          have hlt8 : bx < w2.heap.size := (Array.getElem?_eq_some_iff.1 HBx.out).1
          have hne8 : w2.heap.size ≠ bm := by omega
          have HBx3 := Lib.hid ((Below.heap_alloc w2 (.cells #[.int .i64 r.code, .string r.blob] 48) bx hlt8).trans HBx.out)
          have RK3 := Lib.hid (RK2.out.below ((Below.refl _ _).alloc (Nat.le_refl _) (.cells #[.int .i64 r.code, .string r.blob] 48)))
          have HTu3 := Lib.hid (HTu2.out.alloc (.cells #[.int .i64 r.code, .string r.blob] 48))
          have HRs3 := Lib.hid (HRs2.out.below ((Below.refl _ _).alloc (Nat.le_refl _) (.cells #[.int .i64 r.code, .string r.blob] 48)))
          have H8 := Lib.hid hh8
          clear hh8 HBx RK2 HTu2 HRs2
          generalize w2.alloc (.cells #[.int .i64 r.code, .string r.blob] 48) = w3 at HBx3 RK3 HTu3 HRs3 H8 ⊢
          generalize w2.heap.size = b8 at H8 hlt8 hne8 ⊢
          have t0 := (Lib.cell_of_heap H8.out 0).trans (show _ = some (Value.int .i64 r.code) from rfl)
          have t1 := (Lib.cell_of_heap H8.out 1).trans (show _ = some (Value.string r.blob) from rfl)
          have c2 := RK3.out.map
          have n0 := (Lib.cell_of_heap HBx3.out 0).trans (show _ = some (Value.string ac.name) from rfl)
          by_cases h34 : r.code = 34
          · have hb34 : (r.code != 34) = false := by simp [bne, h34]
            clear h34
            go_still_tail 8, (by kernel_rfl)
            change wpList _ _ _ _ _ (World.drew _)
            go_wp2_with (at_mapUpdate; refine wpList_xput _ rfl _ _ _ 59 rfl 9 48 Tryz.underlying59 Tryz.underlying9 Res.v bm T1 rfl RK3.out.drew.xm ac.name rfl r rfl ?_; intro w4 hx4 hg4; have HX4 := Lib.hid hx4; have HG4 := Lib.hid hg4; clear hx4 hg4; have t0' := (World.cell?_of_block (a := ⟨b8, 0, none⟩) (HG4.out.block b8 (Array.getElem?_eq_some_iff.1 H8.out).1 (fun e => by injection e with e; exact hne8 e))).trans t0; clear t0 t1 c2 n0)
            have RK4 := Lib.hid (RK3.out.drew.put HX4.out HG4.out)
            have HTu4 := Lib.hid (HTu3.out.drew.grown HG4.out (fun k hk => by injection hk with hk; exact .inl (.inl hk.symm)))
            have HBx4 := Lib.hid ((HG4.out.block bx (Array.getElem?_eq_some_iff.1 HBx3.out).1 (fun e => by injection e with e; omega)).trans HBx3.out)
            have HRs4 := Lib.hid (HRs3.out.keep (w' := w4) (F' := fun b => bx + 1 ≤ b) (fun _ h => h) ⟨HG4.out.size, fun b hb hb2 => HG4.out.block b hb2 (fun e => by injection e with e; have : bx + 1 ≤ b := hb; omega)⟩)
            have HT4 := Lib.hid (HT1.out.put ac.name r HOk.out.1)
            clear HX4 HG4 HBx3 RK3 HTu3 HRs3 H8
            first
              | exact ⟨⟨k + 1, by omega, by go_num, ⟨_, RK4.out, HT4.out⟩, HTu4.out⟩, by simp [intOf]; omega⟩
              | (go_roundw
                 case rel => exact ⟨k + 1, by omega, by go_num, ⟨_, RK4.out, HT4.out⟩, HTu4.out⟩
                 case measure => simp [intOf]; omega)
          · have hb34 : (r.code != 34) = true := by rw [bne_iff_ne]; exact h34
            have HZ2 := Lib.hid (HZ.out h34)
            clear h34
            go_still_tail 8, (by kernel_rfl)
            change wpList _ _ _ _ _ (World.drew _)
            go_wp2_with (at_mapUpdate; refine wpList_xput _ rfl _ _ _ 59 rfl 9 48 Tryz.underlying59 Tryz.underlying9 Res.v bm T1 rfl RK3.out.drew.xm ac.name rfl r rfl ?_; intro w4 hx4 hg4; have HX4 := Lib.hid hx4; have HG4 := Lib.hid hg4; clear hx4 hg4; have t0' := (World.cell?_of_block (a := ⟨b8, 0, none⟩) (HG4.out.block b8 (Array.getElem?_eq_some_iff.1 H8.out).1 (fun e => by injection e with e; exact hne8 e))).trans t0; clear t0 t1 c2 n0)
            have RK4 := Lib.hid (RK3.out.drew.put HX4.out HG4.out)
            have HTu4 := Lib.hid (HTu3.out.drew.grown HG4.out (fun k hk => by injection hk with hk; exact .inl (.inl hk.symm)))
            have HBx4 := Lib.hid ((HG4.out.block bx (Array.getElem?_eq_some_iff.1 HBx3.out).1 (fun e => by injection e with e; omega)).trans HBx3.out)
            have HRs4 := Lib.hid (HRs3.out.keep (w' := w4) (F' := fun b => bx + 1 ≤ b) (fun _ h => h) ⟨HG4.out.size, fun b hb hb2 => HG4.out.block b hb2 (fun e => by injection e with e; have : bx + 1 ≤ b := hb; omega)⟩)
            have HT4 := Lib.hid (HT1.out.put ac.name r HOk.out.1)
            clear HX4 HG4 HBx3 RK3 HTu3 HRs3 H8
            have k3 := RK4.out.keys
            have b2 := (Lib.cell_of_heap HBx4.out 2).trans (show _ = some (Value.string ac.code) from rfl)
            have th := RK4.out.there i hil
            have HKey := Lib.hid (Key_any ac.code (resOf T1 ac.inputs) u5 w4.drew HRs4.out (by rw [HRl.out]; omega) HZ2.out (fun x hx => by obtain ⟨t, -, rfl⟩ := List.mem_map.1 hx; have := HT1.out.get t; omega) (by omega) (HL.out.below RK4.out.drew.1).1)
            have hu := Tryz.underlying39
            have hsz : (Tryz.prog.info? 39).map (·.size) = some 32 := by kernel_rfl
            clear t0'
            go_region_held3 (fun w' => w'.cell? ⟨bk, 3, none⟩ = some (.slice (some ⟨bd, 0, none⟩) g.actions.length g.actions.length) ∧ w'.cell? ⟨bx, 2, none⟩ = some (.string ac.code) ∧ w'.there bd (i * 32) 32)
              (first | exact ⟨k3, b2, th⟩ | exact ⟨RK5.out.keys, (Lib.cell_of_heap HBx5.out 2).trans rfl, RK5.out.there i hil⟩ | exact ⟨(RK5.out.store (i * 32) ds HDu.out (by omega)).keys, (Lib.cell_of_heap ((heap_setCells bd ds (i * 32) w5 bx (by omega)).trans HBx5.out) 2).trans rfl, (RK5.out.store (i * 32) ds HDu.out (by omega)).there i hil⟩ | go_keep_ranges)
              ((go_at_call 21; refine HKey.out.mono ?_; rintro e w5 ⟨ds, rfl, hdl, hdu, hb5⟩; have RK5 := Lib.hid (RK4.out.drew.below hb5); have HBx5 := Lib.hid ((hb5.block bx (Array.getElem?_eq_some_iff.1 HBx4.out).1).trans HBx4.out); have HTu5 := Lib.hid (HTu4.out.drew.trans (Turn.of_below hb5)); have hone : ∀ v ∈ ds, v.oneCell' = true := (fun v hv => by obtain ⟨z, rfl⟩ := hdu v hv; rfl); have HDu := Lib.hid hdu; clear hdu hb5))
            all_goals
              have RK6 := Lib.hid (RK5.out.store (i * 32) ds HDu.out (by omega))
              have HTu6 := Lib.hid (HTu5.out.setCells (b := bd) (.inl (.inr rfl)) (i * 32) ds)
              generalize w5.setCells bd (i * 32) ds = w6 at RK6 HTu6 ⊢
              clear RK5 HBx5 HTu5 hone HDu hdl hu hsz k3 b2 th RK4 HTu4 HBx4 HRs4
              go_wp2_with fail
              first
                | exact ⟨⟨k + 1, by omega, by go_num, ⟨_, RK6.out, HT4.out⟩, HTu6.out⟩, by simp [intOf]; omega⟩
                | (go_roundw
                   case rel => exact ⟨k + 1, by omega, by go_num, ⟨_, RK6.out, HT4.out⟩, HTu6.out⟩
                   case measure => simp [intOf]; omega)
    · go_wp2_with fail
      go_end0
      exact ⟨rfl, _, RK.out, HT1.out⟩
end Go.Proofs.YtnifkpcjpjgkeaaGreatDoor
/- G65. -/
namespace Go.Proofs.YtnifkpcjpjgkeaaGreatDoor
open Go.RowKit Go.Shelf

def KeysPost (g : Gr) (l : List Src) (w : World) (e : Ending) (w' : World) : Prop :=
  ∃ (v : Value) (c : Int), e = .returned (.tuple #[v, .int .i64 c]) ∧ Below w.heap.size w w' ∧ (c = 0 → checkedE g = 0 ∧ SrcFit g l) ∧ (c ≠ 0 → checkedE g ≠ 0 ∨ ¬ SrcFit g l)

set_option maxHeartbeats 2000000 in
set_option maxRecDepth 20000 in
theorem Keys_any {F F' : Nat → Prop} (g : Gr) (l : List Src) (gs ga lv : Value) (w : World) (hs : Strs F w gs g.sources) (ha : Acts F w ga g.actions) (hl : Srcs F' w lv l) (h30 : l.length ≤ 30) (hL : LaidB w.heap.size w) :
    Calls Tryz.prog 14 #[.agg #[gs, ga], lv] w (KeysPost g l w) := by
  have HLd := Lib.hid (fun (w0 : World) (hb : Below w.heap.size w w0) => laid_any g l gs ga lv w0 (hs.below hb) (ha.below hb) (hl.below hb) h30)
  have HM := Lib.hid (fun (w0 wk : World) (hb : Below w.heap.size w w0) (bk bm bd : Nat) (T : TMap) (hK : KitR w0 bk bm bd gs ga g.actions.length T wk) (hE : checkedE g = 0) (hT : SmallT T) => make_any g w0 wk bk bm bd gs ga T (hs.below hb) (ha.below hb) hK hE hT ((hL.below hb).here))
  obtain ⟨a, cap, rfl, -⟩ := hs
  obtain ⟨a', cap', rfl, -⟩ := ha
  obtain ⟨a'', cap'', rfl, -⟩ := hl
  clear hL
  go_enter Tryz.func14, Tryz.ntmps14
  go_wp2_with fail
  refine (HLd.out _ ((Below.refl _ _).alloc (Nat.le_refl _) _)).mono ?_
  rintro e w1 ⟨p, c, rfl, hb1, h0, h1⟩
  have HB1 := Lib.hid (((Below.refl w.heap.size w).alloc (Nat.le_refl _) (.cells #[.slice a g.sources.length cap, .slice a' g.actions.length cap'] 25)).trans (hb1.mono (by simp)))
  by_cases hc : c = 0
  · obtain ⟨hE, hF, bk, bm, bd, rfl, hK⟩ := h0 hc
    subst hc
    have HE := Lib.hid hE
    have HF := Lib.hid hF
    have HK := Lib.hid hK
    clear hE hF hK h0 h1 hb1
    go_wp2_with fail
    refine (HM.out _ _ ((Below.refl _ _).alloc (Nat.le_refl _) _) bk bm bd _ HK.out HE.out (SmallT.src HF.out.small)).mono ?_
    rintro e w2 ⟨rfl, T', hK2, -⟩
    have k3 := hK2.keys
    have HB2 := Lib.hid (((Below.refl w.heap.size w).alloc (Nat.le_refl _) (.cells #[.slice a g.sources.length cap, .slice a' g.actions.length cap'] 25)).trans (hK2.1.mono (by simp)))
    clear hK2
    go_wp2_with fail
    go_ret2
    exact ⟨_, 0, rfl, HB2.out, fun _ => ⟨HE.out, HF.out⟩, fun h => absurd rfl h⟩
  · have hb : (c != 0) = true := by rw [bne_iff_ne]; exact hc
    have HC := Lib.hid hc
    obtain ⟨rfl, hbad⟩ := h1 hc
    have HBad := Lib.hid hbad
    clear hbad
    clear hc h0 h1 hb1
    go_wp2_with fail
    go_ret2
    exact ⟨_, c, rfl, HB1.out, fun h => absurd h HC.out, fun _ => HBad.out⟩
end Go.Proofs.YtnifkpcjpjgkeaaGreatDoor
