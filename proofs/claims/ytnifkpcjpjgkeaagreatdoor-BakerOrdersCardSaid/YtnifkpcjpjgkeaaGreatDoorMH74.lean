/- baker: Results. -/
/- baker: Give. -/
import Derived.Test.YtnifkpcjpjgkeaaGreatDoorMH70
import Derived.Test.YtnifkpcjpjgkeaaGreatDoorH73
/- H74. -/
namespace Go.Proofs.YtnifkpcjpjgkeaaGreatDoor
open Go.RowKit Go.Shelf

abbrev Blt := ByteArray × Res
instance : Inhabited Blt := ⟨(ByteArray.empty, dRes)⟩
/-- v is a slice of these results by names; its block lies in F. -/
def Blts (F : Nat → Prop) (w : World) (v : Value) (l : List Blt) : Prop :=
  ∃ a cap, v = .slice a l.length cap ∧ l.length ≤ cap ∧
    (l = [] ∨ ∃ b off, a = some ⟨b, off, none⟩ ∧ F b ∧ b < w.heap.size ∧ ∀ i, i < l.length →
      w.cell? ⟨b, off + i * 3, none⟩ = some (.string (l.getD i default).1) ∧ w.cell? ⟨b, off + i * 3 + 1, none⟩ = some (.int .i64 (l.getD i default).2.code) ∧ w.cell? ⟨b, off + i * 3 + 2, none⟩ = some (.string (l.getD i default).2.blob))
theorem Blts.keep {F F' : Nat → Prop} {w w' : World} {v : Value} {l : List Blt} (h : Blts F w v l) (hF : ∀ b, F b → F' b) (hk : Kept F w w') : Blts F' w' v l := by
  obtain ⟨a, cap, h1, h2, h5⟩ := h
  refine ⟨a, cap, h1, h2, ?_⟩
  rcases h5 with h5 | ⟨b, off, e, hf, hb, hc⟩
  · exact .inl h5
  · refine .inr ⟨b, off, e, hF b hf, Nat.lt_of_lt_of_le hb hk.size, fun j hj => ?_⟩
    obtain ⟨h7, h8, h9⟩ := hc j hj
    exact ⟨(World.cell?_of_block (w := w) (hk.block b hf hb)).trans h7, (World.cell?_of_block (w := w) (hk.block b hf hb)).trans h8, (World.cell?_of_block (w := w) (hk.block b hf hb)).trans h9⟩
def bltCells : List Blt → List Value
  | [] => []
  | r :: l => .string r.1 :: .int .i64 r.2.code :: .string r.2.blob :: bltCells l
theorem bltCells_app : ∀ (l : List Blt) (r : Blt), bltCells (l ++ [r]) = bltCells l ++ [.string r.1, .int .i64 r.2.code, .string r.2.blob]
  | [], r => rfl
  | x :: l, r => by simp [bltCells, bltCells_app l r]
theorem bltCells_at : ∀ (l : List Blt) (i : Nat), i < l.length → (bltCells l)[i * 3]? = some (.string (l.getD i default).1) ∧ (bltCells l)[i * 3 + 1]? = some (.int .i64 (l.getD i default).2.code) ∧ (bltCells l)[i * 3 + 2]? = some (.string (l.getD i default).2.blob)
  | [], i, h => by simp at h
  | x :: l, 0, h => by simp [bltCells]
  | x :: l, i + 1, h => by
    have := bltCells_at l i (by simpa using h)
    rw [show (i + 1) * 3 = i * 3 + 1 + 1 + 1 by omega, show i * 3 + 1 + 1 + 1 + 1 = (i * 3 + 1) + 1 + 1 + 1 by omega, show i * 3 + 1 + 1 + 1 + 2 = (i * 3 + 2) + 1 + 1 + 1 by omega]
    simpa [bltCells] using this
theorem OwnS.blts {base : Nat} {w : World} {v : Value} {l : List Blt} (h : OwnS base 3 w v l.length (bltCells l)) : Blts (fun b => base ≤ b) w v l := by
  rcases h.2 with ⟨rfl, h0⟩ | ⟨g, off, cap, rfl, hg, hlt, hn, hc, _⟩
  · have e := List.eq_nil_of_length_eq_zero h0
    subst e
    exact ⟨none, 0, rfl, Nat.le_refl _, .inl rfl⟩
  · refine ⟨_, _, rfl, hn, .inr ⟨g, off, rfl, hg, hlt, fun i hi => ?_⟩⟩
    obtain ⟨h1, h2, h3⟩ := bltCells_at l i hi
    exact ⟨(hc (i * 3) (by omega)).trans h1, by rw [Nat.add_assoc]; exact (hc (i * 3 + 1) (by omega)).trans h2, by rw [Nat.add_assoc]; exact (hc (i * 3 + 2) (by omega)).trans h3⟩
theorem infoBlt : (Tryz.prog.info? 50).map (fun i => (i.zero, i.size, i.bytes)) = some (some (.agg #[.string ByteArray.empty, .int .i64 0, .string ByteArray.empty]), 3, 40) := by kernel_rfl
theorem builtF_snoc (l : List Act) (T : TMap) (k : Nat) (h : k < l.length) : builtF (l.take (k + 1)) T = builtF (l.take k) T ++ (match mget T (l.getD k default).name with | some r => [((l.getD k default).name, r)] | none => []) := by
  unfold builtF
  rw [List.take_succ_eq_append_getElem h, List.filterMap_append]
  simp only [List.filterMap_cons, List.filterMap_nil, List.getD_eq_getElem?_getD, List.getElem?_eq_getElem h, Option.getD_some]
  cases mget T l[k].name <;> rfl
theorem builtF_le (l : List Act) (T : TMap) (k : Nat) : (builtF (l.take k) T).length ≤ l.length := by
  unfold builtF
  exact Nat.le_trans (List.length_filterMap_le _ _) (List.length_take_le' _ _)

theorem cell_three (w : World) (x y z : Value) (t : TypeId) (g : Nat) (hg : w.heap.size = g) (j : Nat) (u : Value) (h : [x, y, z][j]? = some u) : (w.alloc (.cells #[x, y, z] t)).cell? ((⟨g, 0, none⟩ : Addr).add j) = some u := by
  subst hg
  have e : (⟨w.heap.size, 0, none⟩ : Addr).add j = ⟨w.heap.size, j, none⟩ := by unfold Addr.add; split <;> simp_all
  rw [e]
  simp only [World.cell?, (MapKept.heap_alloc w _).1]
  match j, h with
  | 0, h => simpa using h
  | 1, h => simpa using h
  | 2, h => simpa using h

def ResultsPost (g : Gr) (T : TMap) (w : World) (e : Ending) (w' : World) : Prop := ∃ v, e = .returned v ∧ Blts (fun q => w.heap.size ≤ q) w' v (builtF g.actions T) ∧ Below w.heap.size w w'

set_option maxHeartbeats 3000000 in
set_option maxRecDepth 20000 in
theorem Results_any (b m : Nat) (g : Gr) (ord : List Nat) (st : Int) (T : TMap) (w : World) (h : BakAt w b m g ord st T) (hl : g.actions.length ≤ 100) :
    Calls Tryz.prog 9 #[.pointer (some ⟨b, 0, none⟩)] w (ResultsPost g T w) := by
  obtain ⟨i0, hi, hz0, hz1, hz2⟩ := info_parts infoBlt
  have HBk := Lib.hid h
  have hbl := h.lt
  obtain ⟨gs, ga, ov, -, h1, -, -, -, -, -, -, h8, -⟩ := h
  obtain ⟨aa, ca, rfl, h2', h3', -, h5'⟩ := h8
  have H5 := Lib.hid h5'
  clear h5'
  go_enter Tryz.func9, Tryz.ntmps9
  go_wp2_with fail
  go_loopw [2, 15] (fun v i wr => ∃ k : Nat, k ≤ g.actions.length ∧ i = .int .i64 (k : Int) ∧ Below w.heap.size w wr ∧ OwnS w.heap.size 3 wr v (builtF (g.actions.take k) T).length (bltCells (builtF (g.actions.take k) T))) (fun _ i _ => g.actions.length - (intOf i).toNat)
  case atStart => exact ⟨0, Nat.zero_le _, rfl, Below.refl _ _, rfl, .inl ⟨rfl, rfl⟩⟩
  case round =>
    obtain ⟨k, hk, rfl, hB, hO⟩ := hrel
    have HB := Lib.hid hB
    have HOw := Lib.hid hO
    clear hB hO
    by_cases hlt : k < g.actions.length
    · obtain ⟨ab, ao, rfl, hfa, hba, hca⟩ := H5.out.resolve_left (fun e => by rw [e] at hlt; simp at hlt)
      obtain ⟨iv, hiv, hc0, hc1, hc2⟩ := hca k hlt
      have hst := builtF_snoc g.actions T k hlt
      have hle := builtF_le g.actions T k
      generalize g.actions.getD k default = ac at hc0 hc1 hc2 hiv hst
      obtain ⟨ai, capi, rfl, -⟩ := hiv
      have d0 := (HB.out.cell (p := ⟨ab, ao + k * 3, none⟩) hba).trans hc0
      have d1 := (HB.out.cell (p := ⟨ab, ao + k * 3 + 1, none⟩) hba).trans hc1
      have d2 := (HB.out.cell (p := ⟨ab, ao + k * 3 + 2, none⟩) hba).trans hc2
      have HST := Lib.hid hst
      clear hst hc0 hc1 hc2 hfa hca
      go_wp2_with fail
      have HBq := Lib.hid (HB.out.alloc HB.out.size (.cells #[.string ac.name, .slice ai ac.inputs.length capi, .string ac.code] 55))
      have HBx := Lib.hid (MapKept.heap_alloc wr (.cells #[.string ac.name, .slice ai ac.inputs.length capi, .string ac.code] 55)).1
      have HOq := Lib.hid (HOw.out.below ((Below.refl _ _).alloc (Nat.le_refl _) (.cells #[.string ac.name, .slice ai ac.inputs.length capi, .string ac.code] 55)))
      have hbx := HB.out.size
      clear d0 d1 d2 HB HOw
      generalize wr.alloc (.cells #[.string ac.name, .slice ai ac.inputs.length capi, .string ac.code] 55) = wq at HBq HBx HOq ⊢
      generalize wr.heap.size = bx at HBx hbx ⊢
      obtain ⟨gs2, ga2, ov2, -, -, -, -, c4, -, -, -, -, -, c10⟩ := HBk.out.below HBq.out
      have n0 := (Lib.cell_of_heap HBx.out 0).trans (show _ = some (Value.string ac.name) from rfl)
      obtain ⟨rv, hrv⟩ : ∃ rv, rv = (mget T ac.name).getD dRes := ⟨_, rfl⟩
      obtain ⟨ib, hib⟩ : ∃ ib, ib = (mget T ac.name).isSome := ⟨_, rfl⟩
      have KS := Lib.hid (fun (W : World) (hW : Below wq.heap.size wq W) => show W.cell? ⟨b, 4, none⟩ = some (.map (some m)) ∧ W.cell? ⟨bx, 0, none⟩ = some (.string ac.name) ∧ (Instr.lookup 59 (.map (some m)) (.string ac.name) true).run Tryz.prog W = .ok (.tuple #[.agg #[.int .i64 rv.code, .string rv.blob], .bool ib]) W from
        ⟨(hW.cell (p := ⟨b, 4, none⟩) (World.block_lt_of_cell? _ _ c4)).trans c4, (hW.cell (p := ⟨bx, 0, none⟩) (World.block_lt_of_cell? _ _ n0)).trans n0, by
          have h := SMap.look2 (P := Tryz.prog) (show SMap W m _ from (c10.below hW)) Tryz.underlying59 Tryz.underlying9 (zeroRes _) ac.name
          rw [mget_map] at h
          rw [h, hrv, hib]
          cases mget T ac.name <;> rfl⟩)
      have HRv := Lib.hid hrv
      have HIb := Lib.hid hib
      have hwn := World.new_ne wq ⟨b, 4, none⟩ c4
      clear hrv hib c10
      go_region_held3 (fun W => W.cell? ⟨b, 4, none⟩ = some (.map (some m)) ∧ W.cell? ⟨bx, 0, none⟩ = some (.string ac.name) ∧ (Instr.lookup 59 (.map (some m)) (.string ac.name) true).run Tryz.prog W = .ok (.tuple #[.agg #[.int .i64 rv.code, .string rv.blob], .bool ib]) W)
        (first | exact KS.out _ (Below.refl _ _) | exact KS.out _ (Below.refl _ _).drew | exact KS.out _ ((Below.refl _ _).alloc (Nat.le_refl _) _) | exact KS.out _ ((Below.refl _ _).alloc (Nat.le_refl _) _).drew) (fail)
      all_goals
        have HB3 := Lib.hid ((HBq.out.alloc HBq.out.size (.cells #[.int .i64 rv.code, .string rv.blob] 48)).drew)
        have HBx3 := Lib.hid ((Below.heap_alloc wq (.cells #[.int .i64 rv.code, .string rv.blob] 48) bx (Array.getElem?_eq_some_iff.1 HBx.out).1).trans HBx.out)
        have HR3 := Lib.hid (MapKept.heap_alloc wq (.cells #[.int .i64 rv.code, .string rv.blob] 48)).1
        have HO3 := Lib.hid ((HOq.out.below ((Below.refl _ _).alloc (Nat.le_refl _) (.cells #[.int .i64 rv.code, .string rv.blob] 48))).drew)
        clear KS HBq HBx HOq c4 n0 hwn
        change Hid ((wq.alloc (.cells #[.int .i64 rv.code, .string rv.blob] 48)).drew.heap[bx]? = _) at HBx3
        change Hid ((wq.alloc (.cells #[.int .i64 rv.code, .string rv.blob] 48)).drew.heap[wq.heap.size]? = _) at HR3
        generalize (wq.alloc (.cells #[.int .i64 rv.code, .string rv.blob] 48)).drew = w3 at HB3 HBx3 HR3 HO3 ⊢
        have n0 := (Lib.cell_of_heap HBx3.out 0).trans (show _ = some (Value.string ac.name) from rfl)
        have r0 := (Lib.cell_of_heap HR3.out 0).trans (show _ = some (Value.int .i64 rv.code) from rfl)
        have r1 := (Lib.cell_of_heap HR3.out 1).trans (show _ = some (Value.string rv.blob) from rfl)
        cases hib2 : ib
        · have hsn := Lib.hid (show builtF (g.actions.take (k + 1)) T = builtF (g.actions.take k) T by
            have h1 := HIb.out
            rw [hib2] at h1
            rw [HST.out]
            cases hm : mget T ac.name
            · simp
            · rw [hm] at h1; cases h1)
          clear hib2
          go_wp2_with fail
          first
            | exact ⟨⟨k + 1, by omega, by go_num, HB3.out, by rw [hsn.out]; exact HO3.out⟩, by simp [intOf]; omega⟩
            | (go_roundw
               case rel => exact ⟨k + 1, by omega, by go_num, HB3.out, by rw [hsn.out]; exact HO3.out⟩
               case measure => simp [intOf]; omega)
        · have hsn := Lib.hid (show builtF (g.actions.take (k + 1)) T = builtF (g.actions.take k) T ++ [(ac.name, rv)] by
            have h1 := HIb.out
            have h2 := HRv.out
            rw [hib2] at h1
            rw [HST.out]
            cases hm : mget T ac.name
            · rw [hm] at h1; cases h1
            · rw [hm] at h2; simp at h2; rw [h2])
          clear hib2
          go_wp2_with (at_builtin; refine wpList_append_S rfl (.tmp 31) (.tmp 36) 44 rfl w.heap.size 50 i0 (.agg #[.string ByteArray.empty, .int .i64 0, .string ByteArray.empty]) 3 40 Tryz.underlying44 hi hz0 hz1 hz2 rfl (by decide) _ _ _ rfl (HO3.out.below ((Below.refl _ _).alloc (Nat.le_refl _) _)) (some ⟨w3.heap.size, 0, none⟩) 1 1 [.string ac.name, .int .i64 rv.code, .string rv.blob] rfl rfl (.inr ⟨_, rfl, cell_three _ _ _ _ _ _ rfl⟩) (by simp [Value.oneCell']) (by unfold maxLen; omega) (by omega) (by have := HB3.out.size; simp; omega) ?_; intro v2 w4 ho2 hg2; have HO4 := Lib.hid ho2; have HG4 := Lib.hid hg2; clear ho2 hg2)
          have HB4 := Lib.hid ((HB3.out.alloc HB3.out.size _).grown HG4.out (by have := HB3.out.size; simp; omega) (fun q hq => (HO3.out.block q hq).1))
          have HO5 := Lib.hid (show OwnS w.heap.size 3 w4 v2 (builtF (g.actions.take (k + 1)) T).length (bltCells (builtF (g.actions.take (k + 1)) T)) by rw [hsn.out, bltCells_app, List.length_append]; exact HO4.out)
          clear HO4 HG4 HO3 n0 r0 r1
          first
            | exact ⟨⟨k + 1, by omega, by go_num, HB4.out, HO5.out⟩, by simp [intOf]; omega⟩
            | (go_roundw
               case rel => exact ⟨k + 1, by omega, by go_num, HB4.out, HO5.out⟩
               case measure => simp [intOf]; omega)
    · obtain rfl : k = g.actions.length := by omega
      have HO2 := HOw.out
      rw [List.take_length] at HO2
      go_wp2_with fail
      go_ret
      exact ⟨_, rfl, HO2.blts, HB.out⟩
end Go.Proofs.YtnifkpcjpjgkeaaGreatDoor
/- H75. -/
namespace Go.Proofs.YtnifkpcjpjgkeaaGreatDoor
open Go.RowKit Go.Shelf

structure GivePre (g : Gr) (ord : List Nat) (T : TMap) (w : World) (i : Nat) : Prop where
  inb : ∀ i ∈ ord, i < g.actions.length
  ol : ord.length ≤ 100
  sl : g.sources.length ≤ 100
  al : g.actions.length ≤ 100
  act : ∀ a ∈ g.actions, a.inputs.length ≤ 4 ∧ a.code.size ≤ 64
  small : SmallT T
  zero : ∀ i ∈ ord, okB g.actions T i = true → ∀ s ∈ (g.actions.getD i default).inputs, ((mget T s).getD dRes).code = 0
  words : WordsAt w
  next : nextP g.actions T ord = some i
theorem WordsAt.low {w w' : World} {B : Nat} (h : WordsAt w) (hB : 0 < B) (hb : Below B w w') : WordsAt w' := fun j hj => by
  obtain ⟨z, hz⟩ := h j hj
  exact ⟨z, (hb.cell (p := ⟨0, j, none⟩) hB).trans hz⟩
def GivePost (b m : Nat) (g : Gr) (ord : List Nat) (T : TMap) (i : Nat) (r : Res) (w : World) (e : Ending) (w' : World) : Prop :=
  e = .returned (.int .i64 0) ∧ BakAt w' b m g ord (doneSt g (settleF g.actions ord (mput T (g.actions.getD i default).name r)) 1) (settleF g.actions ord (mput T (g.actions.getD i default).name r)) ∧ Turn (bmB b m) w w'

set_option maxHeartbeats 3000000 in
set_option maxRecDepth 100000 in
theorem Give_ok (b m : Nat) (g : Gr) (ord : List Nat) (T : TMap) (i : Nat) (r : Res) (w : World) (h : BakAt w b m g ord 1 T) (hp : GivePre g ord T w i) (hr : r.blob.size ≤ 512) (hr0 : r.code = 0 ∨ r.blob.size = 0) :
    Calls Tryz.prog 11 #[.pointer (some ⟨b, 0, none⟩), .int .i64 (i : Int), .agg #[.int .i64 r.code, .string r.blob]] w (GivePost b m g ord T i r w) := by
  have HBk := Lib.hid h
  have HP := Lib.hid hp
  have HR := Lib.hid (fun w0 => isResult_any r w0 hr hr0)
  clear hr hr0 hp h
  have HBx0 := Lib.hid (MapKept.heap_alloc w (.cells #[.int .i64 r.code, .string r.blob] 48)).1
  have HB0 := Lib.hid ((Below.refl w.heap.size w).alloc (Nat.le_refl _) (.cells #[.int .i64 r.code, .string r.blob] 48))
  have HN := Lib.hid (fun (w0 : World) (hb : Below w.heap.size w w0) => Next_any b m g ord 1 T w0 (HBk.out.below hb) HP.out.inb HP.out.ol HP.out.act HP.out.small HP.out.zero (HP.out.words.low (HP.out.words.lt) hb))
  go_enter Tryz.func11, Tryz.ntmps11
  go_wp2_with fail
  refine (HN.out _ HB0.out).mono ?_
  rintro e w1 ⟨hb1, vs, h36, hcase⟩
  rcases hcase with ⟨-, i', hi', rfl, hj⟩ | ⟨hno, -⟩
  · have hii : i' = i := by have h1 := HP.out.next; rw [h1] at hi'; injection hi' with hi'; exact hi'.symm
    subst hii
    have HBx1 := Lib.hid ((hb1.block w.heap.size (by simp)).trans HBx0.out)
    have HB1 := Lib.hid (HB0.out.trans (hb1.mono (by simp)))
    have HJ := Lib.hid hj
    have H36 := Lib.hid h36
    clear hb1 HBx0 HB0 hj h36 hi' HN
    go_wp2_with (refine wpList_store_new rfl 41 _ _ rfl w1 _ _ 36 (by kernel_rfl) rfl vs rfl H36.out.1 (all_oneCell_toArray H36.out.2) infoJob ?_; intro w3 hr3 ht3 hb3 hl3; have j0 : w3.cell? ⟨w1.heap.size, 0, none⟩ = some (.string (g.actions.getD i' default).name) := (by have := hr3 0 _ HJ.out.1; simpa using this); have j1 : w3.cell? ⟨w1.heap.size, 1, none⟩ = some (.int .i64 (i' : Int)) := (by have := hr3 1 _ HJ.out.2.1; simpa using this); have HBx3 := Lib.hid ((hb3.block w.heap.size (Array.getElem?_eq_some_iff.1 HBx1.out).1).trans HBx1.out); have HB3 := Lib.hid (HB1.out.trans (hb3.mono HB1.out.size)); have r0 := (Lib.cell_of_heap HBx3.out 0).trans (show _ = some (Value.int .i64 r.code) from rfl); have r1 := (Lib.cell_of_heap HBx3.out 1).trans (show _ = some (Value.string r.blob) from rfl); clear hr3 ht3 hb3)
    refine (HR.out _).mono ?_
    rintro e w4 ⟨rfl, hb4⟩
    have HB4 := Lib.hid (HB3.out.trans (hb4.mono HB3.out.size))
    have r0' := (hb4.cell (p := ⟨w.heap.size, 0, none⟩) (World.block_lt_of_cell? _ _ r0)).trans r0
    have r1' := (hb4.cell (p := ⟨w.heap.size, 1, none⟩) (World.block_lt_of_cell? _ _ r1)).trans r1
    have j0' := (hb4.cell (p := ⟨w1.heap.size, 0, none⟩) (World.block_lt_of_cell? _ _ j0)).trans j0
    clear hb4 r0 r1 j0 j1 HBx1 HBx3
    have HBk4 := Lib.hid (HBk.out.below HB4.out)
    obtain ⟨gs2, ga2, ov2, -, -, -, -, c4, -, -, -, -, -, c10⟩ := HBk4.out
    have HX := Lib.hid c10
    clear c10
    generalize hnm : (g.actions.getD i' default).name = nm at j0'
    have HNm := Lib.hid hnm
    clear hnm
    go_wp2_with fail
    go_still_tail 8, (by kernel_rfl)
    change wpList _ _ _ _ _ (World.drew _)
    go_wp2_with (at_mapUpdate; refine wpList_xput _ rfl _ _ _ 59 rfl 9 48 Tryz.underlying59 Tryz.underlying9 Res.v m T rfl (show XMap Res.v w4.drew m T from HX.out) nm rfl r rfl ?_; intro w5 hx5 hg5; have HX5 := Lib.hid hx5; have HG5 := Lib.hid hg5; clear hx5 hg5 c4 j0' r0' r1')
    have HBk5 := Lib.hid (HBk4.out.drew.put HX5.out HG5.out)
    have HT5 := Lib.hid (((Turn.of_below (S := bmB b m) HB4.out).drew).grown HG5.out (fun q hq => by injection hq with hq; exact .inl (.inr hq.symm)))
    refine (settle_any b m g ord 1 _ w5 HBk5.out HP.out.inb ⟨HP.out.sl, HP.out.al, HP.out.ol⟩).mono ?_
    rintro e w6 ⟨rfl, hbk6, ht6⟩
    have HBk6 := Lib.hid hbk6
    have HT6 := Lib.hid (HT5.out.trans ht6)
    clear hbk6 ht6 HBk5 HT5 HX5 HG5
    go_wp2_with fail
    go_ret
    exact ⟨rfl, by rw [HNm.out]; exact HBk6.out, HT6.out⟩
  · exact (hno.elim (fun h => h rfl) (fun h => by have h1 := HP.out.next; rw [h1] at h; cases h)).elim

set_option maxHeartbeats 3000000 in
set_option maxRecDepth 100000 in
theorem Give_not (b m : Nat) (g : Gr) (ord : List Nat) (T : TMap) (i : Nat) (p : Int) (r : Res) (w : World) (h : BakAt w b m g ord 1 T) (hp : GivePre g ord T w i) (hne : (i : Int) ≠ p) :
    Calls Tryz.prog 11 #[.pointer (some ⟨b, 0, none⟩), .int .i64 p, .agg #[.int .i64 r.code, .string r.blob]] w (fun e w' => e = .returned (.int .i64 12) ∧ Below w.heap.size w w') := by
  have HBk := Lib.hid h
  have HP := Lib.hid hp
  have hb : ((i : Int) != p) = true := by rw [bne_iff_ne]; exact hne
  clear hp h hne
  have HB0 := Lib.hid ((Below.refl w.heap.size w).alloc (Nat.le_refl _) (.cells #[.int .i64 r.code, .string r.blob] 48))
  have HN := Lib.hid (fun (w0 : World) (hb : Below w.heap.size w w0) => Next_any b m g ord 1 T w0 (HBk.out.below hb) HP.out.inb HP.out.ol HP.out.act HP.out.small HP.out.zero (HP.out.words.low (HP.out.words.lt) hb))
  go_enter Tryz.func11, Tryz.ntmps11
  go_wp2_with fail
  refine (HN.out _ HB0.out).mono ?_
  rintro e w1 ⟨hb1, vs, h36, hcase⟩
  rcases hcase with ⟨-, i', hi', rfl, hj⟩ | ⟨hno, -⟩
  · have hii : i' = i := by have h1 := HP.out.next; rw [h1] at hi'; injection hi' with hi'; exact hi'.symm
    subst hii
    have HB1 := Lib.hid (HB0.out.trans (hb1.mono (by simp)))
    have HJ := Lib.hid hj
    have H36 := Lib.hid h36
    clear hb1 HB0 hj h36 hi' HN
    go_wp2_with (refine wpList_store_new rfl 41 _ _ rfl w1 _ _ 36 (by kernel_rfl) rfl vs rfl H36.out.1 (all_oneCell_toArray H36.out.2) infoJob ?_; intro w3 hr3 ht3 hb3 hl3; have j1 : w3.cell? ⟨w1.heap.size, 1, none⟩ = some (.int .i64 (i' : Int)) := (by have := hr3 1 _ HJ.out.2.1; simpa using this); have HB3 := Lib.hid (HB1.out.trans (hb3.mono HB1.out.size)); clear hr3 ht3 hb3)
    go_ret
    exact ⟨rfl, HB3.out⟩
  · exact (hno.elim (fun h => h rfl) (fun h => by have h1 := HP.out.next; rw [h1] at h; cases h)).elim
end Go.Proofs.YtnifkpcjpjgkeaaGreatDoor
