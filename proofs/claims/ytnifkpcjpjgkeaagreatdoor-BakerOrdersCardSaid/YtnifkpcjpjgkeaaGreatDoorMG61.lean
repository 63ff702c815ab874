/- oven.Make. -/
/- oven.Key: it ends, where no input failed. -/
/- oven: laws for a kitchen's making: results in a row of the call's own; a digest stored among the keys. -/
import Derived.Test.YtnifkpcjpjgkeaaGreatDoorE51
import Derived.Test.YtnifkpcjpjgkeaaGreatDoorG60
/- G61. -/
namespace Go.Proofs.YtnifkpcjpjgkeaaGreatDoor
open Go.RowKit Go.Shelf

def MakePost (l : List Res) (w : World) (e : Ending) (w' : World) : Prop := ∃ r : Res, e = .returned (.agg #[.int .i64 r.code, .string r.blob]) ∧ ResOk r.code r.blob ∧ (r.code ≠ 34 → ∀ x ∈ l, x.code = 0) ∧ Below w.heap.size w w'
def blobs (l : List Res) : List ByteArray := l.map (·.blob)
theorem blobs_snoc (l : List Res) (k : Nat) (h : k < l.length) : blobs (l.take (k + 1)) = blobs (l.take k) ++ [(l.getD k default).blob] := by
  unfold blobs
  rw [List.take_succ_eq_append_getElem h, List.map_append]
  simp only [List.map_cons, List.map_nil, List.getD_eq_getElem?_getD, List.getElem?_eq_getElem h, Option.getD_some]
theorem make_end {l : List Res} {w wr : World} {R : Nat} {c : Int} {s : ByteArray} {o : Obj} {tmps : Array Value} (hR : w.heap.size ≤ R) (hRl : R < wr.heap.size) (hb : Below w.heap.size w wr) (x0 : ∃ v, wr.cell? ⟨R, 0, none⟩ = some v) (x1 : ∃ v, wr.cell? ⟨R, 1, none⟩ = some v) (hok : ResOk c s) (hl : c ≠ 34 → ∀ x ∈ l, x.code = 0) (hp : tmps.getD 4 undef = .pointer (some ⟨R, 0, none⟩)) :
    bodyPost Tryz.prog Tryz.f40 (MakePost l w) Exit.ret { tmps := tmps, defers := [] } (((wr.setCell ⟨R, 0, none⟩ (.int .i64 c)).setCell ⟨R, 1, none⟩ (.string s)).alloc o) := by
  obtain ⟨v0, x0⟩ := x0
  obtain ⟨v1, x1⟩ := x1
  have z1 : ((wr.setCell ⟨R, 0, none⟩ (.int .i64 c)).setCell ⟨R, 1, none⟩ (.string s)).cell? ⟨R, 1, none⟩ = some (.string s) :=
    World.cell?_setCell_same _ _ _ ((World.cell?_setCell_other _ _ _ _ (fun e => by cases e)).trans x1)
  have z0 : ((wr.setCell ⟨R, 0, none⟩ (.int .i64 c)).setCell ⟨R, 1, none⟩ (.string s)).cell? ⟨R, 0, none⟩ = some (.int .i64 c) :=
    (World.cell?_setCell_other _ _ _ _ (fun e => by cases e)).trans (World.cell?_setCell_same _ _ _ x0)
  refine bodyPost_ret (v := .agg #[.int .i64 c, .string s]) (results_cell_mid (P := Tryz.prog) (fn := Tryz.f40) rfl tmps _ R 0 [.int .i64 c, .string s] _ hp (fun j v hj => ?_) Tryz.underlying48 rfl infoRes) rfl ⟨⟨c, s⟩, rfl, hok, hl, ((hb.setCell (p := ⟨R, 0, none⟩) hR _).setCell (p := ⟨R, 1, none⟩) hR _).alloc (by simp; omega) _⟩
  match j, hj with
  | 0, hj => cases hj; exact (World.cell?_alloc_lt _ _ ⟨R, 0, none⟩ (by simp; omega)).trans z0
  | 1, hj => cases hj; exact (World.cell?_alloc_lt _ _ ⟨R, 1, none⟩ (by simp; omega)).trans z1

set_option maxHeartbeats 2000000 in
set_option maxRecDepth 20000 in
theorem Make_any {F : Nat → Prop} (code : ByteArray) (l : List Res) (v : Value) (w : World) (hv : Ress F w v l) (hl : l.length ≤ 100) (hL : LaidB w.heap.size w) : Calls Tryz.prog 40 #[.string code, v] w (MakePost l w) := by
  obtain ⟨i0, hi, hz0, hz1, hz2⟩ := info_parts infoStr
  have HL := Lib.hid hL
  obtain ⟨a, cap, rfl, hcap, -, hfit, h5⟩ := hv
  have H5 := Lib.hid h5
  have HF := Lib.hid hfit
  clear hL h5 hfit
  have hw0 := MapKept.heap_alloc w (.cells #[.int .i64 0, .string ⟨#[]⟩] 48)
  have HB0 := Lib.hid ((Below.refl w.heap.size w).alloc (Nat.le_refl _) (.cells #[.int .i64 0, .string ⟨#[]⟩] 48))
  have HH0 := Lib.hid hw0.1
  clear hw0
  go_enter Tryz.func40, Tryz.ntmps40
  go_wp2_with fail
  generalize w.alloc (.cells #[.int .i64 0, .string ⟨#[]⟩] 48) = w0 at HB0 HH0 ⊢
  go_loopw [5, 12] (fun b i wr => ∃ k : Nat, k ≤ l.length ∧ i = .int .i64 (k : Int) ∧ wr.ownsRow (w.heap.size + 1) 9 1 b k ((blobs (l.take k)).map Value.string) ∧ Below w.heap.size w wr ∧ wr.heap[w.heap.size]? = some (.cells #[.int .i64 0, .string ⟨#[]⟩] 48) ∧ ∀ x ∈ l.take k, x.code = 0) (fun _ i _ => l.length - (intOf i).toNat)
  case atStart => exact ⟨0, Nat.zero_le _, rfl, World.ownsRow_nil _ _ _ _, HB0.out, HH0.out, by simp⟩
  case round =>
    obtain ⟨k, hk, rfl, hO, hB, hh, hz⟩ := hrel
    clear HB0 HH0
    have HO := Lib.hid hO
    have HB := Lib.hid hB
    have HH := Lib.hid hh
    have HZ := Lib.hid hz
    clear hO hB hh hz
    have hR1 : w.heap.size < wr.heap.size := (Array.getElem?_eq_some_iff.1 HH.out).1
    have x0 := (Lib.cell_of_heap HH.out 0).trans (show _ = some (Value.int .i64 0) from rfl)
    have x1 := (Lib.cell_of_heap HH.out 1).trans (show _ = some (Value.string ⟨#[]⟩) from rfl)
    have f0 := Lib.frozen_of_heap HH.out 0
    have f1 := Lib.frozen_of_heap HH.out 1
    by_cases hlt : k < l.length
    · obtain ⟨b, off, rfl, hfb, hbs, hc⟩ := H5.out.resolve_left (fun e => by rw [e] at hlt; simp at hlt)
      obtain ⟨hc0, hc1⟩ := hc k hlt
      have d0 := (HB.out.cell (p := ⟨b, off + k * 2, none⟩) hbs).trans hc0
      have d1 := (HB.out.cell (p := ⟨b, off + k * 2 + 1, none⟩) hbs).trans hc1
      have hst := blobs_snoc l k hlt
      have hmem := getD_mem (default : Res) hlt
      have htk : ∀ x ∈ l.take (k + 1), x ∈ l.take k ∨ x = l.getD k default := fun x hx => by
        rw [List.take_succ_eq_append_getElem hlt] at hx
        rcases List.mem_append.1 hx with h | h
        · exact .inl h
        · rw [List.mem_singleton.1 h]; exact .inr (by simp [List.getD_eq_getElem?_getD, List.getElem?_eq_getElem hlt])
      generalize l.getD k default = x at d0 d1 hst hmem htk
      have HST := Lib.hid hst
      have HMem := Lib.hid hmem
      have HTk := Lib.hid htk
      clear hst hmem htk hc hc0 hc1 hfb
      by_cases hx0 : x.code = 0
      · have hb : (x.code != 0) = false := by simp [bne, hx0]
        have HX0 := Lib.hid hx0
        clear hx0
        have HO2 := Lib.hid ((HO.out.alloc (.cells #[.int .i64 x.code, .string x.blob] 48)).alloc (.cells #[.string x.blob] 9))
        go_wp2_with (at_builtin; refine wpList_append_own _ rfl (.tmp 20) (.tmp 23) 22 rfl (w.heap.size + 1) 9 i0 (.string ByteArray.empty) 1 16 Tryz.underlying22 hi hz0 hz1 hz2 rfl (by decide) _ _ _ rfl HO2.out ⟨_, 0, none⟩ 1 1 [.string x.blob] rfl rfl (by exact cell_one _ _ _ _ (by simp)) (by simp [Value.oneCell']) ?c3 ?c4 ?c5 ?_)
        case c3 => unfold maxLen; omega
        case c4 => omega
        case c5 => simp; omega
        intro v2 w2 hown2 hgrow2 _
        have HB2 := Lib.hid (((HB.out.alloc (by omega) _).alloc (by simp; omega) _).grown hgrow2 (by simp; omega) (fun k hk => by have := (HO2.out.lt k hk).1; omega))
        have HH2 := Lib.hid ((hgrow2.block w.heap.size (by simp; omega) (fun e => by have := (HO2.out.lt _ e.symm).1; omega)).trans ((Below.heap_alloc _ _ _ (by simp; omega)).trans ((Below.heap_alloc _ _ _ hR1).trans HH.out)))
        have HO3 := Lib.hid (show w2.ownsRow (w.heap.size + 1) 9 1 v2 (k + 1) ((blobs (l.take (k + 1))).map Value.string) by rw [HST.out]; simpa using hown2)
        have HZ2 := Lib.hid (show ∀ y ∈ l.take (k + 1), y.code = 0 from fun y hy => (HTk.out y hy).elim (HZ.out y) (fun e => by rw [e]; exact HX0.out))
        clear hown2 hgrow2 HO2 HO HB HH HZ x0 x1 f0 f1 d0 d1
        go_wp2_with fail
        first
          | exact ⟨⟨k + 1, by omega, by go_num, HO3.out, HB2.out, HH2.out, HZ2.out⟩, by simp [intOf]; omega⟩
          | (go_roundw
             case rel => exact ⟨k + 1, by omega, by go_num, HO3.out, HB2.out, HH2.out, HZ2.out⟩
             case measure => simp [intOf]; omega)
      · have hb : (x.code != 0) = true := by rw [bne_iff_ne]; exact hx0
        clear hx0
        go_wp2_with fail
        exact make_end (Nat.le_refl _) hR1 HB.out ⟨_, x0⟩ ⟨_, x1⟩ ⟨by decide, .inr rfl⟩ (fun h => absurd rfl h) rfl
    · obtain rfl : k = l.length := by omega
      have hbl : (blobs l).length = l.length := by simp [blobs]
      have HS := Lib.hid (show Strs (fun b => w.heap.size + 1 ≤ b) wr u5 (blobs l) from ownsRow_strs (e := 9) (by have h := HO.out; rw [List.take_length] at h; rw [hbl]; exact h) (by rw [hbl]; omega) (fun s hs => by obtain ⟨x, hx, rfl⟩ := List.mem_map.1 hs; exact HF.out x hx))
      have HZ1 := Lib.hid (show ∀ x ∈ l, x.code = 0 from fun x hx => HZ.out x (by rw [List.take_length]; exact hx))
      clear hbl
      go_wp2_with fail
      refine (Run_any code (blobs l) _ wr HS.out ((HL.out.below HB.out).here)).mono ?_
      rintro e w2 ⟨c, s, n, rfl, hok, hb2⟩
      have hhr := (hb2.block w.heap.size hR1).trans HH.out
      have HB2 := Lib.hid (HB.out.trans (hb2.mono (by omega)))
      clear x0 x1 f0 f1
      have x0 := (Lib.cell_of_heap hhr 0).trans (show _ = some (Value.int .i64 0) from rfl)
      have x1 := (Lib.cell_of_heap hhr 1).trans (show _ = some (Value.string ⟨#[]⟩) from rfl)
      have f0 := Lib.frozen_of_heap hhr 0
      have f1 := Lib.frozen_of_heap hhr 1
      have hR2 : w.heap.size < w2.heap.size := (Array.getElem?_eq_some_iff.1 hhr).1
      clear hhr hb2
      go_wp2_with fail
      exact make_end (Nat.le_refl _) hR2 HB2.out ⟨_, x0⟩ ⟨_, x1⟩ hok (fun _ => HZ1.out) rfl
end Go.Proofs.YtnifkpcjpjgkeaaGreatDoor
/- G62. -/
namespace Go.Proofs.YtnifkpcjpjgkeaaGreatDoor
open Go.RowKit Go.Shelf

theorem OwnS.lit (w : World) (vs : List Value) (n : Nat) (T : TypeId) (h : vs.length = n) : OwnS w.heap.size 1 (w.alloc (.cells vs.toArray T)) (.slice (some ⟨w.heap.size, 0, none⟩) n n) n vs := by
  have hh := (MapKept.heap_alloc w (.cells vs.toArray T)).1
  refine ⟨by omega, .inr ⟨_, 0, n, rfl, Nat.le_refl _, by simp, Nat.le_refl _, fun j hj => ?_, fun j hj => ⟨?_, Lib.frozen_of_heap hh _⟩⟩⟩
  · rw [Nat.zero_add, Lib.cell_of_heap hh]; simp
  · rw [Nat.zero_add, Lib.cell_of_heap hh]
    have : j < vs.length := by omega
    simp [this]
/-- While a key's row is laid. -/
def KeyR (w : World) (v : Value) (n : Nat) (wr : World) : Prop := ByR w w.heap.size 32 wr ∧ ∃ row : List ByteArray, row.length = n ∧ (∀ s ∈ row, s.size ≤ 4096) ∧ OwnS (w.heap.size + 1) 1 wr v n (row.map Value.string)
theorem KeyR.below {w wr w' : World} {v : Value} {n : Nat} (h : KeyR w v n wr) (hb : Below wr.heap.size wr w') : KeyR w v n w' := by
  obtain ⟨h1, row, h2, h3, h4⟩ := h
  exact ⟨h1.below hb, row, h2, h3, h4.below hb⟩
/-- A digest stored into a variable that was just laid: the world behind it under a name. -/
theorem wpList_store_dig {P : Program} {ops : Array Oper} {rest : List Oper} {op : Oper} {a : Act'} {Q : Exit → Act' → World → Prop} (hgd : op.guard = none) (ty : TypeId) (x y : Operand) (ho : op.op = .store ty x y)
    (w3 : World) (cs : Array Value) (T : TypeId) (hcs : cs = Array.replicate 32 (.int .u8 0)) (hx : a.eval x = .pointer (some ⟨w3.heap.size, 0, none⟩)) (ds : List Value) (hy : a.eval y = .agg ds.toArray) (hdl : ds.length = 32) (hdu : ∀ v ∈ ds, ∃ z : Int, v = .int .u8 z)
    (hi : (P.info? ty).map (·.size) = some ds.length) (h : ∀ w', BW w' w3.heap.size 32 → Below w3.heap.size w3 w' → w3.heap.size < w'.heap.size → wpList P ops Q rest (a.put op.dst undef) w') : wpList P ops Q (op :: rest) a (w3.alloc (.cells cs T)) := by
  have hbw := bw_new w3 cs T 32 hcs
  refine wpList_store_mid hgd ty x y ho w3.heap.size 0 ds.toArray hx hy ?_ (by simpa using hi) (all_oneCell_toArray (fun v hv => by obtain ⟨z, rfl⟩ := hdu v hv; rfl)) (h _ (fun j hj => ⟨?_, ?_⟩) (below_setCells (Nat.le_refl _) _ _ ((Below.refl _ _).alloc (Nat.le_refl _) _)) (by rw [size_setCells]; simp))
  · have e1 : ds.toArray.size = 32 := by simpa using hdl
    rw [e1]; exact hbw.there
  · have hj' : j < ds.length := by omega
    obtain ⟨z, hz⟩ := hdu _ (List.getElem_mem hj')
    refine ⟨z, ?_⟩
    have h2 : ds[j]? = some (.int .u8 z) := by rw [List.getElem?_eq_getElem hj', hz]
    have h3 : (⟨w3.heap.size, j, none⟩ : Addr) = ⟨w3.heap.size, 0 + j, none⟩ := by rw [Nat.zero_add]
    rw [h3]
    exact World.rangeAt_setCells_same _ w3.heap.size 0 ds (by rw [hdl]; exact hbw.there) j _ h2
  · rw [World.frozen?_setCells]
    exact (hbw j hj).2
theorem KeyR.start (w : World) (code : ByteArray) (hc : code.size ≤ 4096) (cs : Array Value) (h : cs = Array.replicate 32 (.int .u8 0)) :
    KeyR w (.slice (some ⟨w.heap.size + 1, 0, none⟩) 2 2) 2 ((w.alloc (.cells cs 39)).alloc (.cells #[.string ⟨#[97, 99, 116, 105, 111, 110]⟩, .string code] 9)) := by
  refine ⟨(ByR.new w cs _ 32 h).below ((Below.refl _ _).alloc (Nat.le_refl _) _), [⟨#[97, 99, 116, 105, 111, 110]⟩, code], rfl, ?_, ?_⟩
  · intro s hs
    rcases List.mem_cons.1 hs with rfl | hs
    · decide
    · rw [List.mem_singleton.1 hs]; exact hc
  · have h := OwnS.lit (w.alloc (.cells cs 39)) [.string ⟨#[97, 99, 116, 105, 111, 110]⟩, .string code] 2 9 rfl
    simpa using h

set_option maxHeartbeats 2000000 in
set_option maxRecDepth 20000 in
theorem Key_any {F : Nat → Prop} (code : ByteArray) (l : List Res) (v : Value) (w : World) (hv : Ress F w v l) (hl : l.length ≤ 20) (hz : ∀ x ∈ l, x.code = 0) (hbl : ∀ x ∈ l, x.blob.size ≤ 1000000) (hc : code.size ≤ 4096) (hW : WordsAt w) :
    Calls Tryz.prog 21 #[.string code, v] w (DigPost w) := by
  obtain ⟨i0, hi, hz0, hz1, hz2⟩ := info_parts infoStr
  have HW := Lib.hid hW
  have HN : Hid (∀ w : World, Calls Tryz.prog 32 #[.int .i64 0] w (TextPost 9 w)) := Lib.hid (fun w => Num_any 0 w (by decide))
  obtain ⟨a, cap, rfl, hcap, -, hfit, h5⟩ := hv
  have H5 := Lib.hid h5
  have HZ := Lib.hid hz
  have HBl := Lib.hid hbl
  clear hW h5 hfit hz hbl
  have RB0 := Lib.hid (fun (cs : Array Value) (h : cs = Array.replicate 32 (.int .u8 0)) => ByR.new w cs 39 32 h)
  go_enter Tryz.func21, Tryz.ntmps21
  go_wp2_with fail
  have HStart := Lib.hid (fun (cs : Array Value) (h : cs = Array.replicate 32 (.int .u8 0)) => KeyR.start w code hc cs h)
  go_loopw [5, 14] (fun b i wr => ∃ k : Nat, k ≤ l.length ∧ i = .int .i64 (k : Int) ∧ KeyR w b (k + 2) wr) (fun _ i _ => l.length - (intOf i).toNat)
  case atStart => exact ⟨0, Nat.zero_le _, rfl, HStart.out _ (by kernel_rfl)⟩
  case round =>
    obtain ⟨k, hk, rfl, hR⟩ := hrel
    clear HStart
    have RK := Lib.hid hR
    clear hR
    by_cases hlt : k < l.length
    · obtain ⟨b, off, rfl, hfb, hbs, hc⟩ := H5.out.resolve_left (fun e => by rw [e] at hlt; simp at hlt)
      obtain ⟨hc0, hc1⟩ := hc k hlt
      have hmem := getD_mem (default : Res) hlt
      have hx0 := HZ.out _ hmem
      have hxb := HBl.out _ hmem
      generalize l.getD k default = x at hc0 hc1 hx0 hxb
      rw [hx0] at hc0
      have d0 := (RK.out.1.2.1.cell (p := ⟨b, off + k * 2, none⟩) hbs).trans hc0
      have d1 := (RK.out.1.2.1.cell (p := ⟨b, off + k * 2 + 1, none⟩) hbs).trans hc1
      clear hmem hx0 hc hc0 hc1 hfb
      go_wp2_with fail
      refine (HN.out _).mono ?_
      rintro e w1 ⟨t, rfl, ht, hb1⟩
      have RK0 := RK.out.below (((Below.refl _ _).alloc (Nat.le_refl _) (.cells #[.int .i64 0, .string x.blob] 48)).trans (hb1.mono (by simp)))
      have hh := (hb1.block wr.heap.size (by simp)).trans (MapKept.heap_alloc wr _).1
      have e0 := (Lib.cell_of_heap hh 0).trans (show _ = some (Value.int .i64 0) from rfl)
      have e1 := (Lib.cell_of_heap hh 1).trans (show _ = some (Value.string x.blob) from rfl)
      have hcat : ¬ (9223372036854775807 < 1 + t.size) := by omega
      clear hh hb1 RK d0 d1
      have RK := Lib.hid RK0
      clear RK0
      go_wp2_with fail
      refine (Of_any [x.blob] _ _ (strs_one_new w1 x.blob 9 (by unfold Fits; omega)) (by simp; omega) (HW.out.below (RK.out.1.2.1.alloc RK.out.1.2.1.size _))).mono ?_
      rintro e w3 ⟨ds, rfl, hdl, hdu, hb3⟩
      have RK3 := Lib.hid (RK.out.below (((Below.refl _ _).alloc (Nat.le_refl _) (.cells #[.string x.blob] 9)).trans (hb3.mono (by simp))))
      have hsz : (Tryz.prog.info? 39).map (·.size) = some ds.length := by rw [hdl]; kernel_rfl
      clear hb3 e0 e1 hcat RK
      go_wp2_with (first
        | (refine wpList_store_dig rfl 39 _ _ rfl w3 _ _ (by kernel_rfl) rfl ds rfl hdl hdu hsz ?_; intro wq hq1 hq2 hq3; have RK4 := Lib.hid (RK3.out.below hq2); have HQ := Lib.hid hq1; obtain ⟨row, hrl, hrs, hro⟩ := RK4.out.2; have HRl := Lib.hid hrl; have HRs := Lib.hid hrs; have HRo := Lib.hid hro; clear hdu hdl hsz hq1 hq2 hrl hrs hro)
        | (refine wpList_b2s_some rfl (.tmp 29) 95 9 5 rfl Tryz.underlying95 Tryz.underlying9 Tryz.underlying5 w3.heap.size 0 32 32 rfl (fun j hj => by rw [Nat.zero_add]; exact (HQ.out j hj).1) ?_; intro q hq; have hcat : ¬ (9223372036854775807 < 1 + q.size) := by omega)
        | (at_builtin; refine wpList_append_S rfl (.tmp 32) (.tmp 34) 22 rfl (w.heap.size + 1) 9 i0 (.string ByteArray.empty) 1 16 Tryz.underlying22 hi hz0 hz1 hz2 rfl (by decide) _ _ _ rfl (HRo.out.below ((Below.refl _ _).alloc (Nat.le_refl _) _)) (some ⟨wq.heap.size, 0, none⟩) 1 1 [.string (⟨#[100]⟩ ++ q)] rfl rfl (.inr ⟨_, rfl, cell_one _ _ _ _ rfl⟩) (by simp [Value.oneCell']) (by unfold maxLen; omega) (by omega) (by have := RK4.out.1.2.2.2; simp; omega) ?_; intro v2 w2 ho2 hg2; have HO2 := Lib.hid ho2; have HG2 := Lib.hid hg2; clear ho2 hg2))
      have RK5 := Lib.hid (show KeyR w v2 (k + 1 + 2) w2 from ⟨(RK4.out.1.below ((Below.refl _ _).alloc (Nat.le_refl _) _)).grown HG2.out (fun k hk => (HRo.out.block k hk).1), row ++ [⟨#[100]⟩ ++ q], by have := HRl.out; simp; omega, fun s hs => by
        rcases List.mem_append.1 hs with h | h
        · exact HRs.out s h
        · rw [List.mem_singleton.1 h, ByteArray.size_append]; show 1 + q.size ≤ 4096; omega, by have h := HO2.out; simpa using h⟩)
      clear HO2 HG2 RK4 RK3 HRo
      first
        | exact ⟨⟨k + 1, by omega, by go_num, RK5.out⟩, by simp [intOf]; omega⟩
        | (go_roundw
           case rel => exact ⟨k + 1, by omega, by go_num, RK5.out⟩
           case measure => simp [intOf]; omega)
    · obtain rfl : k = l.length := by omega
      have HRow := RK.out.2
      obtain ⟨row, hrl, hrs, hro⟩ := HRow
      have HS := Lib.hid (show Strs (fun b => w.heap.size + 1 ≤ b) wr u5 row from OwnS.strs (by rw [hrl]; exact hro) (by omega) (fun s hs => by have := hrs s hs; unfold Fits; omega))
      have HRs := Lib.hid hrs
      have HRl := Lib.hid hrl
      clear hrl hrs hro
      go_wp2_with fail
      refine (stampRow_any row _ wr HS.out (by have := HRl.out; omega) HRs.out (HW.out.below RK.out.1.2.1)).mono ?_
      rintro e w3 ⟨ds, rfl, hdl, hdu, hb3⟩
      have RB := Lib.hid (RK.out.1.below hb3)
      clear hb3
      have hth := RB.out.1.there
      rw [← hdl] at hth
      have hsz : (Tryz.prog.info? 39).map (·.size) = some ds.length := by rw [hdl]; kernel_rfl
      go_wp2_with (refine wpList_store_mid rfl 39 _ _ rfl w.heap.size 0 ds.toArray rfl rfl (by simpa using hth) (by simpa using hsz) (all_oneCell_toArray (fun v hv => by obtain ⟨z, rfl⟩ := hdu v hv; rfl)) ?_)
      refine bodyPost_ret (v := .agg ds.toArray) (results_cell_mid (P := Tryz.prog) (fn := Tryz.f21) rfl _ _ w.heap.size 0 ds _ rfl (by simpa using World.rangeAt_setCells_same w3 w.heap.size 0 ds hth) Tryz.underlying39 rfl hsz) rfl ⟨ds, rfl, hdl, hdu, ?_⟩
      exact below_setCells (Nat.le_refl _) _ _ RB.out.2.1
end Go.Proofs.YtnifkpcjpjgkeaaGreatDoor
/- G63. -/
namespace Go.Proofs.YtnifkpcjpjgkeaaGreatDoor
open Go.RowKit Go.Shelf

def SmallT (T : TMap) : Prop := ∀ p ∈ T, p.2.blob.size ≤ 512
theorem SmallT.get {T : TMap} (h : SmallT T) (s : ByteArray) : ((mget T s).getD dRes).blob.size ≤ 512 := by
  cases hm : mget T s
  · decide
  · exact h _ (mget_mem hm)
theorem SmallT.put {T : TMap} (h : SmallT T) (s : ByteArray) (r : Res) (hr : r.blob.size ≤ 512) : SmallT (mput T s r) := by
  intro p hp
  rcases mput_mem hp with rfl | hp
  · exact hr
  · exact h p hp
theorem SmallT.src {l : List Src} (h : ∀ s ∈ l, s.blob.size ≤ 512) : SmallT (srcF l) := by
  have : ∀ k, k ≤ l.length → SmallT (srcF (l.take k)) := by
    intro k
    induction k with
    | zero => intro _ p hp; cases hp
    | succ k ih =>
      intro hk
      rw [srcF_snoc l k (by omega)]
      exact (ih (by omega)).put _ _ (h _ (getD_mem _ (by omega)))
  have h2 := this l.length (Nat.le_refl _)
  rwa [List.take_length] at h2

def resCells : List Res → List Value
  | [] => []
  | r :: l => .int .i64 r.code :: .string r.blob :: resCells l
theorem resCells_len : ∀ l : List Res, (resCells l).length = l.length * 2
  | [] => rfl
  | r :: l => by simp [resCells, resCells_len l]; omega
theorem resCells_app : ∀ (l : List Res) (r : Res), resCells (l ++ [r]) = resCells l ++ [.int .i64 r.code, .string r.blob]
  | [], r => rfl
  | x :: l, r => by simp [resCells, resCells_app l r]
theorem resCells_at : ∀ (l : List Res) (i : Nat), i < l.length → (resCells l)[i * 2]? = some (.int .i64 (l.getD i default).code) ∧ (resCells l)[i * 2 + 1]? = some (.string (l.getD i default).blob)
  | [], i, h => by simp at h
  | x :: l, 0, h => by simp [resCells]
  | x :: l, i + 1, h => by
    have := resCells_at l i (by simpa using h)
    rw [show (i + 1) * 2 = i * 2 + 1 + 1 by omega, show i * 2 + 1 + 1 + 1 = (i * 2 + 1) + 1 + 1 by omega]
    simpa [resCells] using this
theorem OwnS.ress {base : Nat} {w : World} {v : Value} {l : List Res} (h : OwnS base 2 w v l.length (resCells l)) (hl : l.length ≤ 140737488355328) (hf : ∀ s ∈ l, Fits s.blob) : Ress (fun b => base ≤ b) w v l := by
  rcases h.2 with ⟨rfl, h0⟩ | ⟨g, off, cap, rfl, hg, hlt, hn, hc, _⟩
  · have e := List.eq_nil_of_length_eq_zero h0
    subst e
    exact ⟨none, 0, rfl, Nat.le_refl _, by simp, by simp, .inl rfl⟩
  · refine ⟨_, _, rfl, hn, hl, hf, .inr ⟨g, off, rfl, hg, hlt, fun i hi => ?_⟩⟩
    obtain ⟨h1, h2⟩ := resCells_at l i hi
    exact ⟨(hc (i * 2) (by omega)).trans h1, by rw [Nat.add_assoc]; exact (hc (i * 2 + 1) (by omega)).trans h2⟩
theorem infoRes3 : (Tryz.prog.info? 48).map (fun i => (i.zero, i.size, i.bytes)) = some (some (.agg #[.int .i64 0, .string ByteArray.empty]), 2, 24) := by kernel_rfl
/-- The results at names. -/
def resOf (T : TMap) (l : List ByteArray) : List Res := l.map fun s => (mget T s).getD dRes
theorem resOf_snoc (T : TMap) (l : List ByteArray) (k : Nat) (h : k < l.length) : resOf T (l.take (k + 1)) = resOf T (l.take k) ++ [(mget T (l.getD k ByteArray.empty)).getD dRes] := by
  unfold resOf
  rw [List.take_succ_eq_append_getElem h, List.map_append]
  simp only [List.map_cons, List.map_nil, List.getD_eq_getElem?_getD, List.getElem?_eq_getElem h, Option.getD_some]
theorem resOf_len (T : TMap) (l : List ByteArray) : (resOf T l).length = l.length := by simp [resOf]

theorem BW.setCells {w : World} {b n : Nat} (h : BW w b n) (o : Nat) (ds : List Value) (hd : ∀ v ∈ ds, ∃ z : Int, v = .int .u8 z) (hn : o + ds.length ≤ n) : BW (w.setCells b o ds) b n := by
  intro j hj
  refine ⟨?_, by rw [World.frozen?_setCells]; exact (h j hj).2⟩
  by_cases hin : o ≤ j ∧ j < o + ds.length
  · have hi : j - o < ds.length := by omega
    obtain ⟨z, hz⟩ := hd _ (List.getElem_mem hi)
    have h1 := World.cell?_setCells_in b ds o w (fun i hi => by obtain ⟨z, hz⟩ := (h (o + i) (by omega)).1; rw [hz]; rfl) (j - o) hi
    rw [show o + (j - o) = j by omega, hz] at h1
    exact ⟨z, h1⟩
  · rw [World.cell?_setCells_out b ds o w ⟨b, j, none⟩ (fun _ _ => by show j < o ∨ o + ds.length ≤ j; omega)]
    exact (h j hj).1
theorem KitR.store {w wr : World} {bk bm bd n : Nat} {gs ga : Value} {T : TMap} (h : KitR w bk bm bd gs ga n T wr) (o : Nat) (ds : List Value) (hd : ∀ v ∈ ds, ∃ z : Int, v = .int .u8 z) (hn : o + ds.length ≤ n * 32) : KitR w bk bm bd gs ga n T (wr.setCells bd o ds) := by
  obtain ⟨h1, h2, h3, h4, h5, h6, h7, h8, h9, h10, h11⟩ := h
  exact ⟨below_setCells h4 _ _ h1, h2, h3, h4, h5, h6, h7, by rw [size_setCells]; exact h8, (heap_setCells bd ds o wr bk h6).trans h9, h10.keep (heap_setCells bd ds o wr bm h7), h11.setCells o ds hd hn⟩
theorem KitR.there {w wr : World} {bk bm bd n : Nat} {gs ga : Value} {T : TMap} (h : KitR w bk bm bd gs ga n T wr) (i : Nat) (hi : i < n) : wr.there bd (i * 32) 32 := fun j hj => by
  obtain ⟨⟨z, hz⟩, hf⟩ := h.2.2.2.2.2.2.2.2.2.2 (i * 32 + j) (by omega)
  exact ⟨by rw [hz]; rfl, hf⟩
theorem Turn.setCells {S : Nat → Prop} {a w : World} (h : Turn S a w) {b : Nat} (hb : S b ∨ a.heap.size ≤ b) (o : Nat) (ds : List Value) : Turn S a (w.setCells b o ds) := by
  have h1 := tape_setCells b ds o w
  exact ⟨h1.2.1.trans h.os, h1.1.trans h.tape, h1.2.2.trans h.output, by rw [size_setCells]; exact h.size, fun k hk hs => (heap_setCells b ds o w k (fun e => by subst e; rcases hb with hb | hb; exact hs hb; omega)).trans (h.block k hk hs)⟩
end Go.Proofs.YtnifkpcjpjgkeaaGreatDoor
