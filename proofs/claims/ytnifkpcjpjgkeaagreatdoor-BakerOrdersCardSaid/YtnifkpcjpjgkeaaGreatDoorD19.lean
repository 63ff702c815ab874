/- stamp: the state behind a block. -/
import Derived.Test.YtnifkpcjpjgkeaaGreatDoorD18
namespace Go.Proofs.YtnifkpcjpjgkeaaGreatDoor
open Go.RowKit Go.Shelf

theorem WRow.setCells {b n : Nat} : ∀ (vs : List Value) (o : Nat) (w : World), WRow w b n → (∀ v ∈ vs, ∃ z : Int, v = .int .u32 z) → WRow (w.setCells b o vs) b n
  | [], _, _, h, _ => h
  | v :: r, o, w, h, hv => by
    obtain ⟨z, rfl⟩ := hv v (.head _)
    exact WRow.setCells r (o + 1) _ (h.set b o z) (fun v hv' => hv v (.tail _ hv'))
theorem SchR.setCells {w wr : World} {b n : Nat} (h : SchR w b n wr) (o : Nat) (vs : List Value) (hv : ∀ v ∈ vs, ∃ z : Int, v = .int .u32 z) : SchR w b n (wr.setCells b o vs) :=
  ⟨h.1.setCells vs o _ hv, below_setCells h.2.2.1 o vs h.2.1, h.2.2.1, by rw [size_setCells]; exact h.2.2.2⟩
/-- The rounds' words lie there. -/
def WordsAt (w : World) : Prop := ∀ j, j < 64 → ∃ z : Int, w.cell? ⟨0, j, none⟩ = some (.int .u32 z)
theorem WordsAt.lt {w : World} (h : WordsAt w) : 0 < w.heap.size := by
  obtain ⟨z, hz⟩ := h 0 (by omega)
  exact World.block_lt_of_cell? _ _ hz
theorem WordsAt.below {w w' : World} (h : WordsAt w) (hb : Below w.heap.size w w') : WordsAt w' := fun j hj => by
  obtain ⟨z, hz⟩ := h j hj
  exact ⟨z, (hb.cell (p := ⟨0, j, none⟩) h.lt).trans hz⟩

theorem infoW : (Tryz.prog.info? 115).map (fun i => (i.zero, i.size, i.bytes)) = some (some (.int .u32 0), 1, 4) := by kernel_rfl
theorem index_word (w : World) (cs : Array Value) (k : Nat) (z : Int) (hk : k < 64) (h : cs[k]? = some (.int .u32 z)) : (Instr.index 152 (.agg cs) (.int .i64 (k : Int))).run Tryz.prog w = .ok (.int .u32 z) w := by
  obtain ⟨i0, hi, hz0, hz1, hz2⟩ := info_parts infoW
  have h2 : (0 : Int) ≤ (k : Int) ∧ (k : Int) < (64 : Nat) := by omega
  simp [Instr.index, run_underlying Tryz.underlying152, asIntOf, sizeOf, typeInfo, hi, hz1, Result.andThen, part, h]
  omega
theorem SchR.drewN {w wr : World} {b n : Nat} (k : Nat) (h : SchR w b n wr) : SchR w b n (wr.drewN k) := ⟨h.1, below_drewN h.2.1, h.2.2⟩
theorem SchR.up {w wr : World} {b n : Nat} {o : Obj} (h : SchR w b n wr) : SchR w b n (wr.alloc o).drew := (h.below ((Below.refl _ _).alloc (Nat.le_refl _) o)).drew

theorem WRow.mono {w : World} {b n m : Nat} (h : WRow w b n) (hm : m ≤ n) : WRow w b m := fun j hj => h j (by omega)
/-- copy among cells that are there. -/
theorem wpList_copy_S {P : Program} {w : World} {ops : Array Oper} {rest : List Oper} {o : Oper} {a : Go.Act} {Q : Exit → Go.Act → World → Prop} (hgd : o.guard = none) (d s : Operand) (dT sT : TypeId)
    (ho : o.op = .call { callee := .builtin .copy, args := #[d, s], argTypes := #[dT, sT] }) (elem : TypeId) (hu : P.underlying dT = some (.slice elem)) (hsz : (P.info? elem).map (·.size) = some 1)
    (b off dLen dCap : Nat) (ad : Addr) (sLen sCap : Nat) (hd : a.eval d = .slice (some ⟨b, off, none⟩) dLen dCap) (hs : a.eval s = .slice (some ad) sLen sCap)
    (cs : List Value) (hn : cs.length = Nat.min sLen dLen) (hsrc : ∀ j v, cs[j]? = some v → w.cell? (ad.add j) = some v) (hc : ∀ j, j < cs.length → (w.cell? ⟨b, off + j, none⟩).isSome = true) (hf : ∀ j, j < cs.length → w.frozen? ⟨b, off + j, none⟩ = false) (h1 : ∀ v ∈ cs, v.oneCell' = true)
    (h : wpList P ops Q rest (a.put o.dst (goInt cs.length)) (w.setCells b off cs)) : wpList P ops Q (o :: rest) a w := by
  refine wpList_plain hgd fun K hK => ?_
  have hrun := run_copy_cells (P := P) w dT sT o.type elem b off dLen dCap ad sLen sCap cs hu hsz hn hsrc hc hf h1
  unfold Oper.wp
  simp [execOp, ho, resolve, invoke, builtin, hd, hs, hrun, Result.andThen]
  exact hK _ _ h

theorem Turn.of_below' {S : Nat → Prop} {a b : World} (h : Below a.heap.size a b) : Turn S a b := .of_below h
/-- While the state is summed up. -/
def SumR (b : Nat) (w wr : World) : Prop := Turn (fun k => k = b) w wr ∧ WRow wr b 8 ∧ (∀ j, 8 ≤ j → wr.cell? ⟨b, j, none⟩ = w.cell? ⟨b, j, none⟩ ∧ wr.frozen? ⟨b, j, none⟩ = w.frozen? ⟨b, j, none⟩) ∧ WRow wr w.heap.size 8 ∧ w.heap.size < wr.heap.size
theorem SumR.set {b : Nat} {w wr : World} (h : SumR b w wr) (j : Nat) (hj : j < 8) (x : Int) : SumR b w (wr.setCell ⟨b, j, none⟩ (.int .u32 x)) :=
  ⟨h.1.setCell (p := ⟨b, j, none⟩) (.inl rfl) _, h.2.1.set b j x, fun i hi => ⟨(World.cell?_setCell_other _ _ _ _ (fun e => by cases e; omega)).trans (h.2.2.1 i hi).1, by simpa using (h.2.2.1 i hi).2⟩, h.2.2.2.1.set b j x, by simpa [World.setCell] using h.2.2.2.2⟩
theorem SumR.drew {b : Nat} {w wr : World} (h : SumR b w wr) : SumR b w wr.drew := ⟨h.1.drew, h.2⟩

def MixPost (b : Nat) (w : World) (e : Ending) (w' : World) : Prop := e = .returned (.tuple #[]) ∧ Turn (fun k => k = b) w w' ∧ WRow w' b 8 ∧ ∀ j, 8 ≤ j → w'.cell? ⟨b, j, none⟩ = w.cell? ⟨b, j, none⟩ ∧ w'.frozen? ⟨b, j, none⟩ = w.frozen? ⟨b, j, none⟩

theorem info8 : (Tryz.prog.info? 117).map (·.size) = some 8 := by kernel_rfl

set_option maxHeartbeats 2000000 in
set_option maxRecDepth 20000 in
theorem mix_any (b : Nat) (s : ByteArray) (w : World) (hs : s.size = 64) (hw : WRow w b 8) (hW : WordsAt w) : Calls Tryz.prog 54 #[.pointer (some ⟨b, 0, none⟩), .string s] w (MixPost b w) := by
  have HW := Lib.hid hW
  have HB := Lib.hid hw
  obtain ⟨cs, hcl, hca, hcu⟩ := hw.cells
  have hblt : b < w.heap.size := by obtain ⟨⟨z, hz⟩, -⟩ := hw 0 (by omega); exact World.block_lt_of_cell? _ _ hz
  have hsz : (Tryz.prog.info? 117).map (·.size) = some cs.length := by rw [hcl]; exact info8
  have hcu' := all_oneCell_toArray (cs := cs) (fun v hv => by obtain ⟨z, rfl⟩ := hcu v hv; rfl)
  have R0 : SchR w w.heap.size 8 (w.alloc (.cells #[.int .u32 0, .int .u32 0, .int .u32 0, .int .u32 0, .int .u32 0, .int .u32 0, .int .u32 0, .int .u32 0] 117)) := ⟨wrow_new w #[.int .u32 0, .int .u32 0, .int .u32 0, .int .u32 0, .int .u32 0, .int .u32 0, .int .u32 0, .int .u32 0] _ 8 (by kernel_rfl), (Below.refl _ _).alloc (Nat.le_refl _) _, Nat.le_refl _, by simp⟩
  have hth : (w.alloc (.cells #[.int .u32 0, .int .u32 0, .int .u32 0, .int .u32 0, .int .u32 0, .int .u32 0, .int .u32 0, .int .u32 0] 117)).there w.heap.size 0 cs.toArray.size := by simpa [hcl] using R0.1.there
  have hsz2 : (Tryz.prog.info? 117).map (·.size) = some cs.toArray.size := by simpa using hsz
  have hcu2 : ∀ v ∈ cs.toArray.toList, ∃ z : Int, v = .int .u32 z := by simpa using hcu
  have R1 := Lib.hid (R0.setCells 0 cs.toArray.toList hcu2)
  have HS := Lib.hid hs
  clear R0
  go_enter Tryz.func54, Tryz.ntmps54
  go_wp2_with (first | (refine wpList_load_mid rfl 117 _ rfl b 0 rfl cs _ hca Tryz.underlying117 rfl hsz ?_) | (refine wpList_store_mid rfl 117 _ _ rfl w.heap.size 0 cs.toArray rfl rfl hth hsz2 hcu' ?_))
  refine (schedule_any s _ hs).mono ?_
  rintro e w1 ⟨vs, rfl, hvl, hvu, hb1⟩
  have R2 := Lib.hid (R1.out.below hb1)
  have HV := Lib.hid (And.intro hvl hvu)
  clear hca hcl hcu hsz hcu' hth hsz2 hcu2 R1 hb1 hw hW
  go_wp2_with fail
  go_loopw [17] (fun i wr => ∃ k : Nat, k ≤ 64 ∧ i = .int .i64 (k : Int) ∧ SchR w w.heap.size 8 wr) (fun i _ => 64 - (intOf i).toNat)
  case atStart => exact ⟨0, by omega, rfl, R2.out⟩
  case round =>
    obtain ⟨k, hk, rfl, hR⟩ := hrel
    clear R2
    have RQ := Lib.hid hR
    clear hR
    by_cases hlt : k < 64
    · have hvk : ∃ z : Int, vs.toArray[k]? = some (.int .u32 z) := by
        have h1 : k < vs.length := by rw [hvl]; exact hlt
        obtain ⟨z, hz⟩ := hvu _ (List.getElem_mem h1)
        exact ⟨z, by rw [List.getElem?_toArray, List.getElem?_eq_getElem h1, hz]⟩
      obtain ⟨zk, hzk⟩ := hvk
      have hvs : vs.toArray.size = 64 := by simpa using hvl
      clear hvl hvu
      have hix := index_word wr _ k zk hlt hzk
      obtain ⟨⟨y0, d0⟩, -⟩ := RQ.out.1 0 (by omega)
      obtain ⟨⟨y4, d4⟩, -⟩ := RQ.out.1 4 (by omega)
      go_wp2_with fail
      go_quiet (fail)
      go_wp2_with fail
      have RN := RQ.out.drewN nq
      generalize wr.drewN nq = wa at RN ⊢
      have RQ := Lib.hid RN
      clear RN d0 d4 hix
      obtain ⟨⟨y7, d7⟩, -⟩ := RQ.out.1 7 (by omega)
      obtain ⟨⟨y5, d5⟩, -⟩ := RQ.out.1 5 (by omega)
      obtain ⟨⟨y6, d6⟩, -⟩ := RQ.out.1 6 (by omega)
      obtain ⟨gk, dg⟩ := HW.out.below RQ.out.2.1 k hlt
      go_region_held3 (fun w' => w'.cell? ⟨w.heap.size, 7, none⟩ = some (.int .u32 y7) ∧ w'.cell? ⟨w.heap.size, 5, none⟩ = some (.int .u32 y5) ∧ w'.cell? ⟨w.heap.size, 6, none⟩ = some (.int .u32 y6) ∧ w'.cell? ⟨0, k, none⟩ = some (.int .u32 gk))
        (first | go_keep)
        (first | (go_at_call 78; refine (turned_any (F := anyBlk) _ _ [6, 11, 25] _ (ints_lit _ [6, 11, 25] 3 _ rfl (by decide)).drew).mono ?_; rintro e w2 ⟨z, rfl, rfl⟩))
      go_wp2_with fail
      have RN := RQ.out.up (o := .cells #[.int .i64 6, .int .i64 11, .int .i64 25] 3)
      generalize (wa.alloc (.cells #[.int .i64 6, .int .i64 11, .int .i64 25] 3)).drew = wb at RN ⊢
      have RQ := Lib.hid RN
      clear RN d7 d5 d6 dg
      obtain ⟨⟨y1, d1⟩, -⟩ := RQ.out.1 1 (by omega)
      obtain ⟨⟨y2, d2⟩, -⟩ := RQ.out.1 2 (by omega)
      go_region_held3 (fun w' => w'.cell? ⟨w.heap.size, 1, none⟩ = some (.int .u32 y1) ∧ w'.cell? ⟨w.heap.size, 2, none⟩ = some (.int .u32 y2))
        (first | go_keep)
        (first | (go_at_call 78; refine (turned_any (F := anyBlk) _ _ [2, 13, 22] _ (ints_lit _ [2, 13, 22] 3 _ rfl (by decide)).drew).mono ?_; rintro e w2 ⟨z, rfl, rfl⟩))
      go_wp2_with fail
      have RN := RQ.out.up (o := .cells #[.int .i64 2, .int .i64 13, .int .i64 22] 3)
      generalize (wb.alloc (.cells #[.int .i64 2, .int .i64 13, .int .i64 22] 3)).drew = wc at RN ⊢
      have RQ := Lib.hid RN
      clear RN d1 d2
      go_still_tail 2, (by kernel_rfl)
      change wpList _ _ _ _ _ (World.drew _)
      obtain ⟨c7, l7, r7, u7⟩ := (RQ.out.1.mono (m := 7) (by omega)).cells
      refine wpList_copy_S rfl (.tmp 67) (.tmp 68) 155 155 rfl 115 Tryz.underlying155 (by kernel_rfl) w.heap.size 1 7 7 ⟨w.heap.size, 0, none⟩ 7 8 rfl rfl c7 (by rw [l7]; rfl) (fun j v hj => by rw [Addr.add_lit]; exact r7 j v hj) (fun j hj => by obtain ⟨⟨z, hz⟩, -⟩ := RQ.out.1 (1 + j) (by omega); exact Option.isSome_iff_exists.2 ⟨_, hz⟩) (fun j hj => (RQ.out.1 (1 + j) (by omega)).2) (fun v hv => by obtain ⟨z, rfl⟩ := u7 v hv; rfl) ?_
      have RC := RQ.out.drew.setCells 1 c7 u7
      generalize wc.drew.setCells w.heap.size 1 c7 = wd at RC ⊢
      have RQ := Lib.hid RC
      clear RC r7 u7 l7
      obtain ⟨⟨x0, d0⟩, f0⟩ := RQ.out.1 0 (by omega)
      obtain ⟨⟨x4, d4⟩, f4⟩ := RQ.out.1 4 (by omega)
      go_wp2_with fail
      clear hvs hzk
      first
        | exact ⟨⟨k + 1, by omega, by go_num, (RQ.out.set 0 _).set 4 _⟩, by simp [intOf]; omega⟩
        | (go_roundw
           case rel => exact ⟨k + 1, by omega, by go_num, (RQ.out.set 0 _).set 4 _⟩
           case measure => simp [intOf]; omega)
    · clear hvl hvu
      go_wp2_with fail
      have bV : b ≠ w.heap.size := by omega
      have hbn : b < w.heap.size := hblt
      have RV := Lib.hid (show SumR b w wr from ⟨Turn.of_below' RQ.out.2.1, HB.out.keep (RQ.out.2.1.block b hblt), fun j hj => ⟨RQ.out.2.1.cell (p := ⟨b, j, none⟩) hblt, RQ.out.2.1.frozen (p := ⟨b, j, none⟩) hblt⟩, RQ.out.1, RQ.out.2.2.2⟩)
      go_loopw [80] (fun i wi => ∃ k : Nat, k ≤ 8 ∧ i = .int .i64 (k : Int) ∧ SumR b w wi) (fun i _ => 8 - (intOf i).toNat)
      case atStart => exact ⟨0, by omega, rfl, RV.out⟩
      case round =>
        obtain ⟨k, hk, rfl, hR⟩ := hrel
        clear RV RQ
        have RV := Lib.hid hR
        clear hR
        by_cases hlt : k < 8
        · obtain ⟨⟨x, hx⟩, hf⟩ := RV.out.2.1 k hlt
          obtain ⟨⟨y, hy⟩, -⟩ := RV.out.2.2.2.1 k hlt
          have hlt' : (k : Int) < 8 := by omega
          go_wp2_with fail
          go_region_law (fail)
          all_goals
            go_wp2_with fail
            first
              | exact ⟨⟨k + 1, by omega, by go_num, (RV.out.set k hlt _).drew⟩, by simp [intOf]; omega⟩
              | (go_roundw
                 case rel => exact ⟨k + 1, by omega, by go_num, (RV.out.set k hlt _).drew⟩
                 case measure => simp [intOf]; omega)
        · go_wp2_with fail
          go_end0
          exact ⟨rfl, RV.out.1, RV.out.2.1, RV.out.2.2.1⟩
end Go.Proofs.YtnifkpcjpjgkeaaGreatDoor
