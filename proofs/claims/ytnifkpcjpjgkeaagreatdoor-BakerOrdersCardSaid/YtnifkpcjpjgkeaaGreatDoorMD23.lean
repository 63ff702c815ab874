/- stamp.Sum: what is needed for it. -/
/- stamp.Sum. -/
/- stamp.Of, stamp.Row. -/
import Derived.Test.YtnifkpcjpjgkeaaGreatDoorMD20
/- D23. -/
namespace Go.Proofs.YtnifkpcjpjgkeaaGreatDoor
open Go.RowKit Go.Shelf

theorem bytes_own (w : World) (e : TypeId) (s : ByteArray) : OwnS w.heap.size 1 (Lib.bytesWorld w e s) (.slice (some ⟨w.heap.size, 0, none⟩) s.size (Lib.bytesCells w e s).size) s.size (bytesV s.data.toList) := by
  have hh := Lib.bytesWorld_at_new w e s
  have hle : s.size ≤ (Lib.bytesCells w e s).size := by simp [Lib.bytesCells]
  refine ⟨by simp [bytesV], .inr ⟨_, 0, _, rfl, Nat.le_refl _, by rw [Lib.bytesWorld_size]; omega, hle, fun j hj => ?_, fun j hj => ?_⟩⟩
  · rw [Nat.zero_add, Lib.bytesWorld_cell w e s j (by omega)]
    have hj' : j < s.data.toList.length := by simp; omega
    simp [bytesV, List.getD_eq_getElem?_getD, List.getElem?_eq_getElem hj']
  · rw [Nat.zero_add]
    have hj : j < (Lib.bytesCells w e s).size := by omega
    refine ⟨?_, ?_⟩
    · rw [Lib.cell_of_heap hh, Array.getElem?_eq_getElem hj]; rfl
    · simp [World.frozen?, hh]; omega
theorem bytesCells_size (w : World) (e : TypeId) (s : ByteArray) : (Lib.bytesCells w e s).size = grownCap w s.size 0 e := by
  have := grownCap_ge w s.size 0 e
  simp [Lib.bytesCells]
  omega
section
variable {P : Program} (w : World) {ops : Array Oper} {rest : List Oper} {o : Oper} {a : Act'} {Q : Exit → Act' → World → Prop}
/-- '[]byte(s)' at the operation: a slice of the call's own. -/
theorem wpList_s2b_own (hg : o.guard = none) (x : Operand) (src dst e : TypeId) (hop : o.op = Op.convert src dst x) {u : TypeDesc}
    (hs : P.underlying src = some u) (hd : P.underlying dst = some (.slice e)) (he : P.underlying e = some (.int .u8)) (s : ByteArray) (hx : a.eval x = .string s)
    (hK : ∀ v w1, Below w.heap.size w w1 → w.heap.size < w1.heap.size → OwnS w.heap.size 1 w1 v s.size (bytesV s.data.toList) → wpList P ops Q rest (a.put o.dst v) w1) : wpList P ops Q (o :: rest) a w := by
  refine wpList_plain hg fun K' hK' => ?_
  unfold Oper.wp
  simp [execOp, hop, hx, Lib.run_convert_string_bytes w src dst e s hs hd he, Result.andThen]
  refine hK' _ _ (hK _ _ ⟨rfl, rfl, rfl, by rw [Lib.bytesWorld_size]; omega, fun k hk => Lib.bytesWorld_at_old w e s k hk⟩ (by rw [Lib.bytesWorld_size]; omega) ?_)
  rw [← bytesCells_size w e s]
  exact bytes_own w e s
end
/-- 'string(b)' of what reads as bytes: some text of that size. -/
theorem run_b2s_some {P : Program} (w : World) (src dst e : TypeId) (hs : P.underlying src = some (.slice e)) (hd : P.underlying dst = some .string) (he : P.underlying e = some (.int .u8)) (b off n cap : Nat)
    (hc : ∀ j, j < n → ∃ z : Int, w.cell? ⟨b, off + j, none⟩ = some (.int .u8 z)) : ∃ s : ByteArray, s.size = n ∧ (convert src dst (.slice (some ⟨b, off, none⟩) n cap)).run P w = .ok (.string s) w := by
  let num : Nat → Int := fun j => match w.cell? ⟨b, off + j, none⟩ with | some (.int _ z) => z | _ => 0
  refine ⟨_, ?_, run_convert_bytes_arg (P := P) w src e hs he b off n cap ((List.range n).map num) (by simp) (fun i hi => ?_) dst hd⟩
  · show (List.length _) = n
    simp
  · obtain ⟨z, hz⟩ := hc i hi
    have : num i = z := by simp only [num, hz]
    rw [hz]; simp [hi, this]
theorem wpList_b2s_some {P : Program} {w : World} {ops : Array Oper} {rest : List Oper} {o : Oper} {a : Act'} {Q : Exit → Act' → World → Prop} (hg : o.guard = none) (x : Operand) (src dst e : TypeId) (hop : o.op = Op.convert src dst x)
    (hs : P.underlying src = some (.slice e)) (hd : P.underlying dst = some .string) (he : P.underlying e = some (.int .u8)) (b off n cap : Nat) (hx : a.eval x = .slice (some ⟨b, off, none⟩) n cap)
    (hc : ∀ j, j < n → ∃ z : Int, w.cell? ⟨b, off + j, none⟩ = some (.int .u8 z)) (hK : ∀ s : ByteArray, s.size = n → wpList P ops Q rest (a.put o.dst (.string s)) w) : wpList P ops Q (o :: rest) a w := by
  refine wpList_plain hg fun K' hK' => ?_
  obtain ⟨s, h1, h2⟩ := run_b2s_some (P := P) w src dst e hs hd he b off n cap hc
  unfold Oper.wp
  simp [execOp, hop, hx, h2, Result.andThen]
  exact hK' _ _ (hK s h1)
/-- All are bytes. -/
def U8s (xs : List Value) : Prop := ∀ v ∈ xs, ∃ z : Int, v = .int .u8 z
theorem U8s.snoc {xs : List Value} (h : U8s xs) (z : Int) : U8s (xs ++ [.int .u8 z]) := fun v hv => by
  rcases List.mem_append.1 hv with hv | hv
  · exact h v hv
  · exact ⟨z, by simpa using hv⟩
theorem u8s_bytesV (l : List UInt8) : U8s (bytesV l) := fun v hv => by
  obtain ⟨b, _, rfl⟩ := List.mem_map.1 hv
  exact ⟨_, rfl⟩
theorem ByR.grown {w wr w' : World} {n : Nat} {row : Option Nat} (h : ByR w w.heap.size n wr) (hg : wr.grownBy w' row) (hr : ∀ k, row = some k → w.heap.size + 1 ≤ k) : ByR w w.heap.size n w' :=
  ⟨h.1.keep (hg.block _ h.2.2.2 (fun e => by have := hr _ e.symm; omega)), h.2.1.grown hg h.2.1.size (fun k hk => by have := hr k hk; omega), h.2.2.1, Nat.lt_of_lt_of_le h.2.2.2 hg.size⟩
theorem ByR.drew {w wr : World} {b n : Nat} (h : ByR w b n wr) : ByR w b n wr.drew := ⟨h.1, h.2.1.drew, h.2.2⟩
/-- How many bytes are lacking up to 56 of a block's 64. -/
def lack (m : Nat) : Nat := (120 - m % 64) % 64
theorem lack_step {m : Nat} (h : m % 64 ≠ 56) : lack (m + 1) + 1 = lack m := by unfold lack; omega
theorem lack_lt (m : Nat) : lack m < 64 := by unfold lack; omega
theorem OwnS.base {w : World} {B C size n : Nat} {v : Value} {xs : List Value} (h : OwnS B size w v n xs) (hC : C ≤ B) : OwnS C size w v n xs := by
  refine ⟨h.1, ?_⟩
  rcases h.2 with h2 | ⟨g, off, cap, rfl, hg, r⟩
  · exact .inl h2
  · exact .inr ⟨g, off, cap, rfl, by omega, r⟩
/-- 'x[64:]' of bytes of the call's own. -/
theorem OwnS.skip_cases {w : World} {base : Nat} {gb off n cap : Nat} {xs : List Value} (h : OwnS base 1 w (.slice (some ⟨gb, off, none⟩) (n + 64) cap) (n + 64) xs) :
    ∃ A C, OwnS base 1 w (.slice A n C) n (xs.drop 64) ∧ ((cap = 64 ∧ A = some ⟨gb, off, none⟩ ∧ C = 0 ∧ n = 0) ∨ (cap ≠ 64 ∧ A = some ⟨gb, off + 64, none⟩ ∧ C = cap - 64)) := by
  rcases h.2 with ⟨e, _⟩ | ⟨g', off', cap', e, hg, hlt, hn, hc, hr⟩
  · cases e
  · cases e
    have hl := h.1
    by_cases hcap : cap = 64
    · subst hcap
      obtain rfl : n = 0 := by omega
      exact ⟨_, _, ⟨by simp; omega, .inr ⟨gb, off, 0, rfl, hg, hlt, Nat.le_refl _, by simp, by simp⟩⟩, .inl ⟨rfl, rfl, rfl, rfl⟩⟩
    · refine ⟨_, _, ⟨by simp; omega, .inr ⟨gb, off + 64, cap - 64, rfl, hg, hlt, by omega, fun j hj => ?_, fun j hj => ?_⟩⟩, .inr ⟨hcap, rfl, rfl⟩⟩
      · have h2 := hc (64 + j) (by omega)
        rw [← Nat.add_assoc] at h2
        rw [h2, List.getElem?_drop]
      · have h2 := hr (64 + j) (by omega)
        rwa [← Nat.add_assoc] at h2
end Go.Proofs.YtnifkpcjpjgkeaaGreatDoor
/- D24. -/
namespace Go.Proofs.YtnifkpcjpjgkeaaGreatDoor
open Go.RowKit Go.Shelf

/-- While the last block is laid: the bytes so far. -/
def EndR (w : World) (v : Value) (m : Nat) (wr : World) : Prop := ByR w w.heap.size 32 wr ∧ ∃ xs, OwnS (w.heap.size + 1) 1 wr v m xs ∧ U8s xs
/-- While blocks are mixed into the state of block V. -/
def LastR (w : World) (V : Nat) (v : Value) (m : Nat) (wr : World) : Prop := EndR w v m wr ∧ WRow wr V 8 ∧ V < wr.heap.size ∧ w.heap.size < V ∧ ∀ g, v.ownBlock = some g → g ≠ V
theorem LastR.mixed {w wr w' : World} {V m : Nat} {v : Value} {e : Ending} (h : LastR w V v m wr) (hm : MixPost V wr e w') : LastR w V v m w' := by
  obtain ⟨⟨hb, xs, ho, hu⟩, h2, h3, h4, h5⟩ := h
  refine ⟨⟨⟨hb.1.keep (hm.2.1.block _ hb.2.2.2 (by omega)), hb.2.1.trans (hm.2.1.below hb.2.1.size (fun k hk => by omega)), hb.2.2.1, Nat.lt_of_lt_of_le hb.2.2.2 hm.2.1.size⟩, xs, ho.keep hm.2.1.size (fun g _ hlt hv => hm.2.1.block g hlt (h5 g hv)), hu⟩, hm.2.2.1, Nat.lt_of_lt_of_le h3 hm.2.1.size, h4, h5⟩
theorem LastR.drew {w wr : World} {V m : Nat} {v : Value} (h : LastR w V v m wr) : LastR w V v m wr.drew := ⟨⟨h.1.1.drew, h.1.2⟩, h.2⟩
theorem EndR.drew {w wr : World} {v : Value} {m : Nat} (h : EndR w v m wr) : EndR w v m wr.drew := ⟨h.1.drew, h.2⟩
theorem EndR.below {w wr w' : World} {v : Value} {m : Nat} (h : EndR w v m wr) (hb : Below wr.heap.size wr w') : EndR w v m w' := by
  obtain ⟨h1, xs, h2, h3⟩ := h
  exact ⟨h1.below hb, xs, h2.below hb, h3⟩
theorem EndR.app {w wr w' : World} {v v' : Value} {m : Nat} {xs : List Value} {z : Int} (h1 : ByR w w.heap.size 32 wr) (h2 : OwnS (w.heap.size + 1) 1 wr v m xs) (h3 : U8s xs) (ho : OwnS (w.heap.size + 1) 1 w' v' (m + 1) (xs ++ [.int .u8 z])) (hg : wr.grownBy w' v.ownBlock) : EndR w v' (m + 1) w' :=
  ⟨h1.grown hg (fun k hk => (h2.block k hk).1), _, ho, h3.snoc z⟩

set_option maxHeartbeats 2000000 in
set_option maxRecDepth 20000 in
theorem Sum_any (b : Nat) (r : ByteArray) (n : Int) (w : World) (hp : PressAt w b r n) (hr : r.size < 64) (hW : WordsAt w) : Calls Tryz.prog 46 #[.pointer (some ⟨b, 0, none⟩)] w (DigPost w) := by
  obtain ⟨i0, hi, hz0, hz1, hz2⟩ := info_parts infoByte
  have HW := Lib.hid hW
  have HP := Lib.hid hp
  have HR := Lib.hid hr
  have hblt := hp.lt
  clear hW hp hr
  go_enter Tryz.func46, Tryz.ntmps46
  have p8 := HP.out.2.1.1
  have hbn : b ≠ w.heap.size := by omega
  go_wp2_with (first
    | (refine wpList_s2b_own _ rfl (.tmp 12) 9 95 5 rfl Tryz.underlying9 Tryz.underlying95 Tryz.underlying5 _ rfl ?_; intro v1 w1 hb1 hlt1 hown; have RQ := ByR.below (w := w) (by exact ByR.new w _ _ 32 (by kernel_rfl)) hb1; replace hown := OwnS.base (C := w.heap.size + 1) hown (by simp))
    | (at_builtin; refine wpList_append_S rfl (.tmp 13) (.tmp 14) 95 rfl (w.heap.size + 1) 5 i0 (.int .u8 0) 1 1 Tryz.underlying95 hi hz0 hz1 hz2 rfl (by decide) _ _ _ rfl (hown.below ((Below.refl _ _).alloc (Nat.le_refl _) _)) (some ⟨w1.heap.size, 0, none⟩) 1 1 [.int .u8 128] rfl rfl (.inr ⟨_, rfl, cell_one _ _ _ _ rfl⟩) (by simp [Value.oneCell']) (by have := HR.out; unfold maxLen; omega) (by have := HR.out; omega) (by have := RQ.2.2.2; simp; omega) ?_; intro v2 w2 ho2 hg2; have RE := EndR.app (RQ.below ((Below.refl _ _).alloc (Nat.le_refl _) _)) (hown.below ((Below.refl _ _).alloc (Nat.le_refl _) _)) (u8s_bytesV _) ho2 hg2; clear ho2 hg2 hown RQ hb1 hlt1; obtain ⟨av, cv, rfl, hcv⟩ := RE.2.choose_spec.1.form; have RE := Lib.hid RE))
  clear hcv
  go_loopg [3] 65 (fun gk v wr => ∃ m, EndR w v m wr ∧ lack m < gk ∧ m + gk ≤ 130)
  case atStart => exact ⟨r.size + 1, RE.out, Nat.lt_succ_of_lt (lack_lt _), by have := HR.out; omega⟩
  case round =>
    obtain ⟨m, hE, hlk, hmg⟩ := hrel
    clear RE
    have RE := Lib.hid hE
    have HM := Lib.hid (show m ≤ 130 by omega)
    have HG := Lib.hid (And.intro hlk hmg)
    clear hlk hmg
    obtain ⟨RQ, xs, hown, hxu⟩ := hE
    obtain ⟨av, cv, rfl, hcv⟩ := hown.form
    clear hcv
    by_cases h56 : m % 64 = 56
    · have h56' : (m : Int) % 64 = 56 := by omega
      clear hown hxu
      go_wp2_with fail
      have H56 := Lib.hid h56
      clear h56 h56' HG
      go_loopw [3, 23] (fun v i wr => ∃ k : Nat, k ≤ 8 ∧ i = .int .i64 (k : Int) ∧ EndR w v (m + k) wr) (fun _ i _ => 8 - (intOf i).toNat)
      case atStart => exact ⟨0, by omega, rfl, RE.out⟩
      case round =>
        obtain ⟨k, hk, rfl, hE⟩ := hrel
        clear RE RQ
        have RE := Lib.hid hE
        obtain ⟨RQ, xs, hown, hxu⟩ := hE
        obtain ⟨av, cv, rfl, hcv⟩ := hown.form
        clear hcv
        by_cases hlt : k < 8
        · have p9 := (RQ.2.1.cell (p := ⟨b, 9, none⟩) hblt).trans HP.out.2.2.1
          have hk1 : (0 : Int) ≤ 7 - (k : Int) := by omega
          go_wp2_with (at_builtin; refine wpList_append_S rfl (.tmp 26) (.tmp 38) 95 rfl (w.heap.size + 1) 5 i0 (.int .u8 0) 1 1 Tryz.underlying95 hi hz0 hz1 hz2 rfl (by decide) _ _ _ rfl (hown.below ((Below.refl _ _).alloc (Nat.le_refl _) _)) (some ⟨wr.heap.size, 0, none⟩) 1 1 [.int .u8 _] rfl rfl (.inr ⟨_, rfl, cell_one _ _ _ _ rfl⟩) (by simp [Value.oneCell']) (by have := HM.out; unfold maxLen; omega) (by have := HM.out; omega) (by have := RQ.2.2.2; simp; omega) ?_; intro v2 w2 ho2 hg2; have RE2 := EndR.app (RQ.below ((Below.refl _ _).alloc (Nat.le_refl _) _)) (hown.below ((Below.refl _ _).alloc (Nat.le_refl _) _)) hxu ho2 hg2; clear ho2 hg2 hown RQ; obtain ⟨av2, cv2, rfl, hcv2⟩ := RE2.2.choose_spec.1.form; have RE2 := Lib.hid RE2)
          first
            | exact ⟨⟨k + 1, by omega, by go_num, RE2.out⟩, by simp [intOf]; omega⟩
            | (go_roundw
               case rel => exact ⟨k + 1, by omega, by go_num, RE2.out⟩
               case measure => simp [intOf]; omega)
        · obtain rfl : k = 8 := by omega
          obtain ⟨cs, hcl, hca, hcu⟩ := (HP.out.1.keep (RQ.2.1.block b hblt)).cells
          have hca' : (wr.alloc (.cells #[.int .u32 0, .int .u32 0, .int .u32 0, .int .u32 0, .int .u32 0, .int .u32 0, .int .u32 0, .int .u32 0] 117)).rangeAt b 0 cs := fun j v hj => (World.cell?_alloc_lt wr _ ⟨b, 0 + j, none⟩ (Nat.lt_of_lt_of_le hblt RQ.2.1.size)).trans (hca j v hj)
          have hsz : (Tryz.prog.info? 117).map (·.size) = some cs.length := by rw [hcl]; exact info8
          have hcu' := all_oneCell_toArray (cs := cs) (fun v hv => by obtain ⟨z, rfl⟩ := hcu v hv; rfl)
          have W0 := wrow_new wr #[.int .u32 0, .int .u32 0, .int .u32 0, .int .u32 0, .int .u32 0, .int .u32 0, .int .u32 0, .int .u32 0] 117 8 (by kernel_rfl)
          have hth : (wr.alloc (.cells #[.int .u32 0, .int .u32 0, .int .u32 0, .int .u32 0, .int .u32 0, .int .u32 0, .int .u32 0, .int .u32 0] 117)).there wr.heap.size 0 cs.toArray.size := by simpa [hcl] using W0.there
          have hsz2 : (Tryz.prog.info? 117).map (·.size) = some cs.toArray.size := by simpa using hsz
          have hcu2 : ∀ v ∈ cs.toArray.toList, ∃ z : Int, v = .int .u32 z := by simpa using hcu
          have RL : LastR w wr.heap.size (.slice av (m + 8) cv) (m + 8) ((wr.alloc (.cells #[.int .u32 0, .int .u32 0, .int .u32 0, .int .u32 0, .int .u32 0, .int .u32 0, .int .u32 0, .int .u32 0] 117)).setCells wr.heap.size 0 cs.toArray.toList) := by
            have hb2 : Below wr.heap.size wr ((wr.alloc (.cells #[.int .u32 0, .int .u32 0, .int .u32 0, .int .u32 0, .int .u32 0, .int .u32 0, .int .u32 0, .int .u32 0] 117)).setCells wr.heap.size 0 cs.toArray.toList) := below_setCells (Nat.le_refl _) _ _ ((Below.refl _ _).alloc (Nat.le_refl _) _)
            exact ⟨⟨RQ.below hb2, xs, hown.below hb2, hxu⟩, W0.setCells _ _ _ hcu2, by rw [size_setCells]; simp, RQ.2.2.2, fun g hg => by have := (hown.block g hg).2; omega⟩
          have RL := Lib.hid RL
          clear hown hxu RQ W0 RE
          have hbw : b ≠ wr.heap.size := fun e => by have h1 := RL.out.2.2.2.1; omega
          go_wp2_with (first | (refine wpList_load_mid rfl 117 _ rfl b 0 rfl cs _ hca Tryz.underlying117 rfl hsz ?_) | (refine wpList_load_mid rfl 117 _ rfl b 0 rfl cs _ hca' Tryz.underlying117 rfl hsz ?_) | (refine wpList_store_mid rfl 117 _ _ rfl wr.heap.size 0 cs.toArray rfl rfl hth hsz2 hcu' ?_))
          have HV0 := Lib.hid (show (m + 8) % 64 = 0 by have := H56.out; omega)
          have HM8 := Lib.hid (show m + 8 < 200 by have := HM.out; omega)
          clear hca hca' hcl hcu hsz hcu' hth hsz2 hcu2
          generalize wr.heap.size = V at RL ⊢
          refine code_gen (fun wq => LastR w V (.slice av (m + 8) cv) (m + 8) wq) (by simpa using RL.out) (fun wq hq => ?_)
          have RL := Lib.hid hq
          clear hq
          go_loopg [3] 200 (fun gk v wr => ∃ m, LastR w V v m wr ∧ m % 64 = 0 ∧ m < gk)
          case atStart => exact ⟨m + 8, RL.out, HV0.out, HM8.out⟩
          case round =>
            obtain ⟨j, hL, hj64, hjg⟩ := hrel
            clear RL HV0 HM8 HM H56
            have RL := Lib.hid hL
            obtain ⟨⟨hBy, xs2, ho2, hu2⟩, hL2⟩ := hL
            by_cases hj0 : j = 0
            · subst hj0
              obtain ⟨av3, cv3, rfl, -⟩ := ho2.form
              clear ho2 hu2 hL2 hBy
              go_wp2_with fail
              refine (digest_any V _ RL.out.2.1).mono ?_
              rintro e w3 ⟨ds, rfl, hdl, hdu, hb3⟩
              have RB := Lib.hid (RL.out.1.1.below hb3)
              clear hb3
              have hth := RB.out.1.there
              rw [← hdl] at hth
              have hsz : (Tryz.prog.info? 39).map (·.size) = some ds.length := by rw [hdl]; kernel_rfl
              go_wp2_with (refine wpList_store_mid rfl 39 _ _ rfl w.heap.size 0 ds.toArray rfl rfl (by simpa using hth) (by simpa using hsz) (all_oneCell_toArray (fun v hv => by obtain ⟨z, rfl⟩ := hdu v hv; rfl)) ?_)
              refine bodyPost_ret (v := .agg ds.toArray) (results_cell_mid (P := Tryz.prog) (fn := Tryz.f46) rfl _ _ w.heap.size 0 ds _ rfl (by simpa using World.rangeAt_setCells_same w3 w.heap.size 0 ds hth) Tryz.underlying39 rfl hsz) rfl ⟨ds, rfl, hdl, hdu, ?_⟩
              exact below_setCells (Nat.le_refl _) _ _ RB.out.2.1
            · obtain ⟨i, rfl⟩ : ∃ i, j = i + 64 := ⟨j - 64, by omega⟩
              obtain ⟨gb, off, cap, rfl, hcp, -, -, hcl⟩ := ho2.cell (by omega)
              have hby : ∀ t, t < 64 → ∃ z : Int, wr.cell? ⟨gb, off + t, none⟩ = some (.int .u8 z) := fun t ht => by
                have h1 := hcl t (by omega)
                have h2 : t < xs2.length := by rw [ho2.1]; omega
                obtain ⟨z, hz⟩ := hu2 _ (List.getElem_mem h2)
                exact ⟨z, by rw [h1, List.getElem?_eq_getElem h2, hz]⟩
              have HL2 := Lib.hid hL2
              have HJ := Lib.hid (And.intro hj64 hjg)
              clear ho2 hu2 hBy hL2 hcl hj64 hjg hj0
              go_wp2_with (refine wpList_b2s_some rfl (.tmp 51) 95 9 5 rfl Tryz.underlying95 Tryz.underlying9 Tryz.underlying5 gb off 64 cap rfl hby ?_; intro q hq)
              refine (mix_any V q _ hq RL.out.2.1 (HW.out.below RL.out.1.1.2.1)).mono ?_
              rintro e w3 hmx
              have RM := RL.out.mixed hmx
              obtain ⟨rfl, -⟩ := hmx
              obtain ⟨⟨hBy3, xs3, ho3, hu3⟩, hR1, hR2, hR3, hR4⟩ := RM
              obtain ⟨A, C, hT, hAC⟩ := ho3.skip_cases
              have RN := Lib.hid (show LastR w V (.slice A i C) i w3 from ⟨⟨hBy3, _, hT, fun v hv => hu3 v (List.mem_of_mem_drop hv)⟩, hR1, hR2, hR3, fun g hg => by
                rcases hAC with ⟨-, rfl, -, -⟩ | ⟨-, rfl, -⟩
                · exact hR4 g hg
                · exact hR4 g hg⟩)
              clear hT hBy3 ho3 hu3 hR1 hR2 hR3 hR4 RL hby hq
              obtain ⟨M, hM⟩ : ∃ M, M = i + 64 := ⟨_, rfl⟩
              have HMe := Lib.hid hM
              clear hM
              rcases hAC with ⟨rfl, rfl, rfl, rfl⟩ | ⟨hca, rfl, rfl⟩
              all_goals
                go_wp2_with fail
                go_roundg M
                case measure => have h1 := HJ.out.2; have h2 := HMe.out; omega
                case rel => exact ⟨_, RN.out, by have := HJ.out.1; omega, by have := HMe.out; omega⟩
    · have h56' : (m : Int) % 64 ≠ 56 := by omega
      have hls := Lib.hid (lack_step h56)
      clear h56
      go_wp2_with (at_builtin; refine wpList_append_S rfl (.tmp 20) (.tmp 21) 95 rfl (w.heap.size + 1) 5 i0 (.int .u8 0) 1 1 Tryz.underlying95 hi hz0 hz1 hz2 rfl (by decide) _ _ _ rfl (hown.below ((Below.refl _ _).alloc (Nat.le_refl _) _)) (some ⟨wr.heap.size, 0, none⟩) 1 1 [.int .u8 0] rfl rfl (.inr ⟨_, rfl, cell_one _ _ _ _ rfl⟩) (by simp [Value.oneCell']) (by have := HM.out; unfold maxLen; omega) (by have := HM.out; omega) (by have := RQ.2.2.2; simp; omega) ?_; intro v2 w2 ho2 hg2; have RE2 := EndR.app (RQ.below ((Below.refl _ _).alloc (Nat.le_refl _) _)) (hown.below ((Below.refl _ _).alloc (Nat.le_refl _) _)) hxu ho2 hg2; clear ho2 hg2 hown RQ; obtain ⟨av2, cv2, rfl, hcv2⟩ := RE2.2.choose_spec.1.form; have RE2 := Lib.hid RE2)
      go_roundg (lack m)
      case measure => exact HG.out.1
      case rel => exact ⟨m + 1, RE2.out, by have := hls.out; omega, by have := HG.out; omega⟩
end Go.Proofs.YtnifkpcjpjgkeaaGreatDoor
/- D25. -/
namespace Go.Proofs.YtnifkpcjpjgkeaaGreatDoor
open Go.RowKit Go.Shelf

theorem Strs.lt {F : Nat → Prop} {w : World} {v : Value} {l : List ByteArray} (h : Strs F w v l) : Strs (fun k => k < w.heap.size) w v l := by
  obtain ⟨a, cap, h1, h2, h3, h4, h5⟩ := h
  exact ⟨a, cap, h1, h2, h3, h4, h5.imp id (fun ⟨b, off, e, _, hb, hc⟩ => ⟨b, off, e, hb, hb, hc⟩)⟩

set_option maxHeartbeats 1000000 in
set_option maxRecDepth 20000 in
theorem Of_any {F : Nat → Prop} (l : List ByteArray) (v : Value) (w : World) (hv : Strs F w v l) (hm : ∀ s ∈ l, s.size ≤ 1000000) (hW : WordsAt w) : Calls Tryz.prog 33 #[v] w (DigPost w) := by
  have HW := Lib.hid hW
  have HV := Lib.hid hv.lt
  have HM := Lib.hid hm
  have h0 := hW.lt
  obtain ⟨a, cap, rfl, -⟩ := hv
  clear hm hW
  go_enter Tryz.func33, Tryz.ntmps33
  go_wp2_with fail
  refine (stampNew_any _).mono ?_
  rintro e w1 ⟨b, rfl, hp, hle, hb1⟩
  have RB := Lib.hid (ByR.below (w := w) (by exact ByR.new w _ _ 32 (by kernel_rfl)) hb1)
  have HP := Lib.hid hp
  have hlb : w.heap.size < b := by simp at hle; omega
  clear hb1 hp hle
  go_wp2_with fail
  refine (Add_any b ByteArray.empty 0 l _ _ HP.out (by decide) (HV.out.keep (fun _ h => h) (.of_below RB.out.2.1)) (fun k hk => Nat.ne_of_lt (Nat.lt_trans hk hlb)) (by omega) HM.out (HW.out.below RB.out.2.1)).mono ?_
  rintro e w2 ⟨r, rfl, ⟨⟨n, hp⟩, ht⟩, hr⟩
  have HP2 := Lib.hid hp
  have RB2 := Lib.hid (show ByR w w.heap.size 32 w2 from ⟨RB.out.1.keep (ht.block _ RB.out.2.2.2 (by omega)), RB.out.2.1.trans (ht.below RB.out.2.1.size (fun k hk => by omega)), RB.out.2.2.1, Nat.lt_of_lt_of_le RB.out.2.2.2 ht.size⟩)
  clear hp ht RB HP
  go_wp2_with fail
  refine (Sum_any b r n _ HP2.out hr (HW.out.below RB2.out.2.1)).mono ?_
  rintro e w3 ⟨ds, rfl, hdl, hdu, hb3⟩
  have RB := Lib.hid (RB2.out.below hb3)
  clear hb3
  have hth := RB.out.1.there
  rw [← hdl] at hth
  have hsz : (Tryz.prog.info? 39).map (·.size) = some ds.length := by rw [hdl]; kernel_rfl
  go_wp2_with (refine wpList_store_mid rfl 39 _ _ rfl w.heap.size 0 ds.toArray rfl rfl (by simpa using hth) (by simpa using hsz) (all_oneCell_toArray (fun v hv => by obtain ⟨z, rfl⟩ := hdu v hv; rfl)) ?_)
  refine bodyPost_ret (v := .agg ds.toArray) (results_cell_mid (P := Tryz.prog) (fn := Tryz.f33) rfl _ _ w.heap.size 0 ds _ rfl (by simpa using World.rangeAt_setCells_same w3 w.heap.size 0 ds hth) Tryz.underlying39 rfl hsz) rfl ⟨ds, rfl, hdl, hdu, ?_⟩
  exact below_setCells (Nat.le_refl _) _ _ RB.out.2.1

theorem strs_one_new (w : World) (s : ByteArray) (T : TypeId) (hs : Fits s) : Strs anyBlk (w.alloc (.cells #[.string s] T)) (.slice (some ⟨w.heap.size, 0, none⟩) 1 1) [s] := by
  refine ⟨_, _, rfl, Nat.le_refl _, by simp, by simpa using hs, .inr ⟨_, _, rfl, trivial, by simp, fun i hi => ?_⟩⟩
  obtain rfl : i = 0 := by simpa using hi
  rw [Nat.zero_add, Lib.cell_of_heap (MapKept.heap_alloc w _).1]
  rfl

set_option maxHeartbeats 1000000 in
set_option maxRecDepth 20000 in
theorem stampRow_any {F : Nat → Prop} (l : List ByteArray) (v : Value) (w : World) (hv : Strs F w v l) (hl : l.length ≤ 64) (hm : ∀ s ∈ l, s.size ≤ 4096) (hW : WordsAt w) : Calls Tryz.prog 34 #[v] w (DigPost w) := by
  have HW := Lib.hid hW
  have HV := Lib.hid (fun (w0 : World) (hb : Below w.heap.size w w0) => Row_any l v w0 (hv.below hb) hl hm)
  obtain ⟨a, cap, rfl, -⟩ := hv
  clear hm hW
  go_enter Tryz.func34, Tryz.ntmps34
  go_wp2_with fail
  refine (HV.out _ ((Below.refl _ _).alloc (Nat.le_refl _) _)).mono ?_
  rintro e w1 ⟨s, rfl, hs, hb1⟩
  have RB := Lib.hid (ByR.below (w := w) (by exact ByR.new w _ _ 32 (by kernel_rfl)) hb1)
  have HS := Lib.hid hs
  clear hb1 hs
  go_wp2_with fail
  refine (Of_any [s] _ _ (strs_one_new w1 s 9 (by have := HS.out; unfold Fits; omega)) (by have := HS.out; simp; omega) (HW.out.below (RB.out.2.1.alloc RB.out.2.1.size _))).mono ?_
  rintro e w3 ⟨ds, rfl, hdl, hdu, hb3⟩
  have RB := Lib.hid ((RB.out.below ((Below.refl _ _).alloc (Nat.le_refl _) _)).below hb3)
  clear hb3
  have hth := RB.out.1.there
  rw [← hdl] at hth
  have hsz : (Tryz.prog.info? 39).map (·.size) = some ds.length := by rw [hdl]; kernel_rfl
  go_wp2_with (refine wpList_store_mid rfl 39 _ _ rfl w.heap.size 0 ds.toArray rfl rfl (by simpa using hth) (by simpa using hsz) (all_oneCell_toArray (fun v hv => by obtain ⟨z, rfl⟩ := hdu v hv; rfl)) ?_)
  refine bodyPost_ret (v := .agg ds.toArray) (results_cell_mid (P := Tryz.prog) (fn := Tryz.f34) rfl _ _ w.heap.size 0 ds _ rfl (by simpa using World.rangeAt_setCells_same w3 w.heap.size 0 ds hth) Tryz.underlying39 rfl hsz) rfl ⟨ds, rfl, hdl, hdu, ?_⟩
  exact below_setCells (Nat.le_refl _) _ _ RB.out.2.1
end Go.Proofs.YtnifkpcjpjgkeaaGreatDoor
