/- stamp: the state's bytes; a digest under way. -/
/- stamp: a digest that begins. -/
/- stamp: texts come behind. -/
import Derived.Test.YtnifkpcjpjgkeaaGreatDoorD19
/- D20. -/
namespace Go.Proofs.YtnifkpcjpjgkeaaGreatDoor
open Go.RowKit Go.Shelf

/-- Block b begins with n bytes, which can be written. -/
def BW (w : World) (b n : Nat) : Prop := ∀ j, j < n → (∃ z : Int, w.cell? ⟨b, j, none⟩ = some (.int .u8 z)) ∧ w.frozen? ⟨b, j, none⟩ = false
theorem BW.keep {w w' : World} {b n : Nat} (h : BW w b n) (hk : w'.heap[b]? = w.heap[b]?) : BW w' b n := fun j hj => by
  obtain ⟨⟨z, hz⟩, hf⟩ := h j hj
  exact ⟨⟨z, (World.cell?_of_block (w := w) (a := ⟨b, j, none⟩) hk).trans hz⟩, (World.frozen?_of_block (w := w) (a := ⟨b, j, none⟩) hk).trans hf⟩
theorem BW.set {w : World} {b n : Nat} (h : BW w b n) (j : Nat) (x : Int) : BW (w.setCell ⟨b, j, none⟩ (.int .u8 x)) b n := by
  intro k hk
  obtain ⟨⟨z, hz⟩, hf⟩ := h k hk
  by_cases e : (⟨b, j, none⟩ : Addr) = ⟨b, k, none⟩
  · cases e
    exact ⟨⟨x, World.cell?_setCell_same _ _ _ hz⟩, by simpa using hf⟩
  · exact ⟨⟨z, by rw [World.cell?_setCell_other w ⟨b, j, none⟩ ⟨b, k, none⟩ _ e, hz]⟩, by simpa using hf⟩
theorem BW.cells {w : World} {b n : Nat} (h : BW w b n) : ∃ cs : List Value, cs.length = n ∧ w.rangeAt b 0 cs ∧ ∀ v ∈ cs, ∃ z : Int, v = .int .u8 z := by
  refine ⟨(List.range n).map fun j => (w.cell? ⟨b, j, none⟩).getD undef, by simp, fun j v hv => ?_, fun v hv => ?_⟩
  · simp only [List.getElem?_map, Option.map_eq_some_iff] at hv
    obtain ⟨a, h1, rfl⟩ := hv
    obtain ⟨hj, h2⟩ := List.getElem?_eq_some_iff.1 h1
    simp only [List.getElem_range] at h2
    subst h2
    have hj : j < n := by simpa using hj
    obtain ⟨⟨z, hz⟩, -⟩ := h j hj
    rw [Nat.zero_add, hz]; rfl
  · obtain ⟨j, hj, rfl⟩ := List.mem_map.1 hv
    obtain ⟨⟨z, hz⟩, -⟩ := h j (List.mem_range.1 hj)
    exact ⟨z, by rw [hz]; rfl⟩
theorem BW.there {w : World} {b n : Nat} (h : BW w b n) : w.there b 0 n := fun j hj => by
  obtain ⟨⟨z, hz⟩, hf⟩ := h j hj
  rw [Nat.zero_add]
  exact ⟨by rw [hz]; rfl, hf⟩
theorem bw_new (w : World) (cs : Array Value) (T n : Nat) (h : cs = Array.replicate n (.int .u8 0)) : BW (w.alloc (.cells cs T)) w.heap.size n := by
  intro j hj
  have hh := (MapKept.heap_alloc w (.cells cs T)).1
  exact ⟨⟨0, by rw [Lib.cell_of_heap hh, h]; simp [hj]⟩, Lib.frozen_of_heap hh j⟩
/-- While bytes are written: block b is the call's own. -/
def ByR (w : World) (b n : Nat) (wr : World) : Prop := BW wr b n ∧ Below w.heap.size w wr ∧ w.heap.size ≤ b ∧ b < wr.heap.size
theorem ByR.below {w wr w' : World} {b n : Nat} (h : ByR w b n wr) (hb : Below wr.heap.size wr w') : ByR w b n w' :=
  ⟨h.1.keep (hb.block b h.2.2.2), h.2.1.trans (hb.mono h.2.1.size), h.2.2.1, Nat.lt_of_lt_of_le h.2.2.2 hb.size⟩
theorem ByR.set {w wr : World} {b n : Nat} (h : ByR w b n wr) (j : Nat) (x : Int) : ByR w b n (wr.setCell ⟨b, j, none⟩ (.int .u8 x)) :=
  ⟨h.1.set j x, h.2.1.setCell (p := ⟨b, j, none⟩) h.2.2.1 _, h.2.2.1, by simpa [World.setCell] using h.2.2.2⟩
theorem ByR.new (w : World) (cs : Array Value) (T n : Nat) (h : cs = Array.replicate n (.int .u8 0)) : ByR w w.heap.size n (w.alloc (.cells cs T)) :=
  ⟨bw_new w cs T n h, (Below.refl _ _).alloc (Nat.le_refl _) _, Nat.le_refl _, by simp⟩

/-- Some digest comes back. -/
def DigPost (w : World) (e : Ending) (w' : World) : Prop := ∃ vs : List Value, e = .returned (.agg vs.toArray) ∧ vs.length = 32 ∧ (∀ v ∈ vs, ∃ z : Int, v = .int .u8 z) ∧ Below w.heap.size w w'

set_option maxHeartbeats 1000000 in
set_option maxRecDepth 20000 in
theorem digest_any (b : Nat) (w : World) (hw : WRow w b 8) : Calls Tryz.prog 55 #[.pointer (some ⟨b, 0, none⟩)] w (DigPost w) := by
  have HB := Lib.hid hw
  have hblt : b < w.heap.size := by obtain ⟨⟨z, hz⟩, -⟩ := hw 0 (by omega); exact World.block_lt_of_cell? _ _ hz
  go_enter Tryz.func55, Tryz.ntmps55
  go_wp2_with fail
  refine code_gen (fun wq => ByR w w.heap.size 32 wq) (ByR.new w _ _ _ (by kernel_rfl)) (fun wq hq => ?_)
  have RQ := Lib.hid hq
  clear hq
  go_loopw [4] (fun i wr => ∃ k : Nat, k ≤ 32 ∧ i = .int .i64 (k : Int) ∧ ByR w w.heap.size 32 wr) (fun i _ => 32 - (intOf i).toNat)
  case atStart => exact ⟨0, by omega, rfl, RQ.out⟩
  case round =>
    obtain ⟨k, hk, rfl, hR⟩ := hrel
    clear RQ
    have RQ := Lib.hid hR
    clear hR
    by_cases hlt : k < 32
    · obtain ⟨⟨z, hz⟩, hf⟩ := RQ.out.1 k hlt
      obtain ⟨⟨x, hx⟩, -⟩ := (HB.out.keep (RQ.out.2.1.block b hblt)) (k / 4) (by omega)
      go_wp2_with fail
      first
        | exact ⟨⟨k + 1, by omega, by go_num, RQ.out.set k _⟩, by simp [intOf]; omega⟩
        | (go_roundw
           case rel => exact ⟨k + 1, by omega, by go_num, RQ.out.set k _⟩
           case measure => simp [intOf]; omega)
    · obtain ⟨cs, hcl, hca, hcu⟩ := RQ.out.1.cells
      have hth := RQ.out.1.there
      rw [← hcl] at hth
      have hsz : (Tryz.prog.info? 39).map (·.size) = some cs.length := by rw [hcl]; kernel_rfl
      go_wp2_with (first | (refine wpList_load_mid rfl 39 _ rfl w.heap.size 0 rfl cs _ hca Tryz.underlying39 rfl hsz ?_) | (refine wpList_store_mid rfl 39 _ _ rfl w.heap.size 0 cs.toArray rfl rfl (by simpa using hth) (by simpa using hsz) (all_oneCell_toArray (fun v hv => by obtain ⟨z, rfl⟩ := hcu v hv; rfl)) ?_))
      refine bodyPost_ret (v := .agg cs.toArray) (results_cell_mid (P := Tryz.prog) (fn := Tryz.f55) rfl _ _ w.heap.size 0 cs _ rfl (by simpa using World.rangeAt_setCells_same wr w.heap.size 0 cs hth) Tryz.underlying39 rfl hsz) rfl ⟨cs, rfl, hcl, hcu, ?_⟩
      exact below_setCells (Nat.le_refl _) _ _ RQ.out.2.1
end Go.Proofs.YtnifkpcjpjgkeaaGreatDoor
/- D21. -/
namespace Go.Proofs.YtnifkpcjpjgkeaaGreatDoor
open Go.RowKit Go.Shelf

def begunV : Value := .agg #[.int .u32 0x6a09e667, .int .u32 0xbb67ae85, .int .u32 0x3c6ef372, .int .u32 0xa54ff53a, .int .u32 0x510e527f, .int .u32 0x9b05688c, .int .u32 0x1f83d9ab, .int .u32 0x5be0cd19]
def ValPost (v : Value) (w : World) (e : Ending) (w' : World) : Prop := e = .returned v ∧ Below w.heap.size w w'

set_option maxHeartbeats 1000000 in
set_option maxRecDepth 20000 in
theorem begun_any (w : World) : Calls Tryz.prog 53 #[] w (ValPost begunV w) := by
  go_enter Tryz.func53, Tryz.ntmps53
  go_wp2_with fail
  refine bodyPost_ret (v := begunV) (results_cell_mid (P := Tryz.prog) (fn := Tryz.f53) rfl _ _ w.heap.size 0 [.int .u32 0x6a09e667, .int .u32 0xbb67ae85, .int .u32 0x3c6ef372, .int .u32 0xa54ff53a, .int .u32 0x510e527f, .int .u32 0x9b05688c, .int .u32 0x1f83d9ab, .int .u32 0x5be0cd19] _ rfl (fun j v hj => ?_) Tryz.underlying117 rfl info8) rfl ⟨rfl, (Below.refl _ _).alloc (Nat.le_refl _) _⟩
  rw [Nat.zero_add, Lib.cell_of_heap (MapKept.heap_alloc w _).1]
  simpa using hj

/-- A digest under way: the state, what fills no block yet, how many bytes there were. -/
def PressAt (w : World) (b : Nat) (rest : ByteArray) (n : Int) : Prop := WRow w b 8 ∧ (w.cell? ⟨b, 8, none⟩ = some (.string rest) ∧ w.frozen? ⟨b, 8, none⟩ = false) ∧ w.cell? ⟨b, 9, none⟩ = some (.int .i64 n) ∧ w.frozen? ⟨b, 9, none⟩ = false

def NewPost (w : World) (e : Ending) (w' : World) : Prop := ∃ b, e = .returned (.pointer (some ⟨b, 0, none⟩)) ∧ PressAt w' b ByteArray.empty 0 ∧ w.heap.size ≤ b ∧ Below w.heap.size w w'
set_option maxHeartbeats 1000000 in
set_option maxRecDepth 20000 in
theorem stampNew_any (w : World) : Calls Tryz.prog 44 #[] w (NewPost w) := by
  go_enter Tryz.func44, Tryz.ntmps44
  go_wp2_with fail
  refine (begun_any _).mono ?_
  rintro e w1 ⟨rfl, hb⟩
  have HB := Lib.hid hb
  clear hb
  unfold begunV
  go_wp2_with fail
  go_ret
  have hh := (MapKept.heap_alloc w1 (.cells #[.int .u32 0x6a09e667, .int .u32 0xbb67ae85, .int .u32 0x3c6ef372, .int .u32 0xa54ff53a, .int .u32 0x510e527f, .int .u32 0x9b05688c, .int .u32 0x1f83d9ab, .int .u32 0x5be0cd19, .string ⟨#[]⟩, .int .i64 0] 120)).1
  refine ⟨_, rfl, ⟨fun j hj => ⟨?_, Lib.frozen_of_heap hh j⟩, ⟨(Lib.cell_of_heap hh 8).trans rfl, Lib.frozen_of_heap hh 8⟩, (Lib.cell_of_heap hh 9).trans rfl, Lib.frozen_of_heap hh 9⟩, HB.out.size, HB.out.alloc HB.out.size _⟩
  rw [Lib.cell_of_heap hh j]
  match j, hj with
  | 0, _ => exact ⟨_, rfl⟩
  | 1, _ => exact ⟨_, rfl⟩
  | 2, _ => exact ⟨_, rfl⟩
  | 3, _ => exact ⟨_, rfl⟩
  | 4, _ => exact ⟨_, rfl⟩
  | 5, _ => exact ⟨_, rfl⟩
  | 6, _ => exact ⟨_, rfl⟩
  | 7, _ => exact ⟨_, rfl⟩
end Go.Proofs.YtnifkpcjpjgkeaaGreatDoor
/- D22. -/
namespace Go.Proofs.YtnifkpcjpjgkeaaGreatDoor
open Go.RowKit Go.Shelf

theorem PressAt.setRest {w : World} {b : Nat} {r : ByteArray} {n : Int} (h : PressAt w b r n) (r' : ByteArray) : PressAt (w.setCell ⟨b, 8, none⟩ (.string r')) b r' n :=
  ⟨fun j hj => ⟨by
    obtain ⟨⟨z, hz⟩, _⟩ := h.1 j hj
    exact ⟨z, (World.cell?_setCell_other _ _ _ _ (fun e => by cases e; omega)).trans hz⟩, by simpa using (h.1 j hj).2⟩,
    ⟨World.cell?_setCell_same _ _ _ h.2.1.1, by simpa using h.2.1.2⟩, (World.cell?_setCell_other _ _ _ _ (fun e => by cases e)).trans h.2.2.1, by simpa using h.2.2.2⟩
theorem PressAt.setN {w : World} {b : Nat} {r : ByteArray} {n : Int} (h : PressAt w b r n) (n' : Int) : PressAt (w.setCell ⟨b, 9, none⟩ (.int .i64 n')) b r n' :=
  ⟨fun j hj => ⟨by
    obtain ⟨⟨z, hz⟩, _⟩ := h.1 j hj
    exact ⟨z, (World.cell?_setCell_other _ _ _ _ (fun e => by cases e; omega)).trans hz⟩, by simpa using (h.1 j hj).2⟩,
    ⟨(World.cell?_setCell_other _ _ _ _ (fun e => by cases e)).trans h.2.1.1, by simpa using h.2.1.2⟩, World.cell?_setCell_same _ _ _ h.2.2.1, by simpa using h.2.2.2⟩
theorem PressAt.drew {w : World} {b : Nat} {r : ByteArray} {n : Int} (h : PressAt w b r n) : PressAt w.drew b r n := h
theorem PressAt.mixed {w w' : World} {b : Nat} {r : ByteArray} {n : Int} {e : Ending} (h : PressAt w b r n) (hm : MixPost b w e w') : PressAt w' b r n :=
  ⟨hm.2.2.1, ⟨(hm.2.2.2 8 (by omega)).1.trans h.2.1.1, (hm.2.2.2 8 (by omega)).2.trans h.2.1.2⟩, (hm.2.2.2 9 (by omega)).1.trans h.2.2.1, (hm.2.2.2 9 (by omega)).2.trans h.2.2.2⟩
theorem PressAt.lt {w : World} {b : Nat} {r : ByteArray} {n : Int} (h : PressAt w b r n) : b < w.heap.size := World.block_lt_of_cell? _ _ h.2.2.1
theorem WordsAt.turn {w w' : World} {S : Nat → Prop} (h : WordsAt w) (hb : Turn S w w') (h0 : ¬ S 0) : WordsAt w' := fun j hj => by
  obtain ⟨z, hz⟩ := h j hj
  exact ⟨z, (World.cell?_of_block (w := w) (a := ⟨0, j, none⟩) (hb.block 0 h.lt h0)).trans hz⟩

def AddR (b : Nat) (w wr : World) (r : ByteArray) : Prop := (∃ n, PressAt wr b r n) ∧ Turn (fun k => k = b) w wr
theorem AddR.drew {b : Nat} {w wr : World} {r : ByteArray} (h : AddR b w wr r) : AddR b w wr.drew r := ⟨h.1, h.2.drew⟩
theorem AddR.mixed {b : Nat} {w wr w' : World} {r : ByteArray} {e : Ending} (h : AddR b w wr r) (hm : MixPost b wr e w') : AddR b w w' r := by
  obtain ⟨⟨n, h1⟩, h2⟩ := h
  exact ⟨⟨n, h1.mixed hm⟩, h2.trans hm.2.1⟩
theorem AddR.setRest {b : Nat} {w wr : World} {r : ByteArray} (h : AddR b w wr r) (r' : ByteArray) : AddR b w (wr.setCell ⟨b, 8, none⟩ (.string r')) r' := by
  obtain ⟨⟨n, h1⟩, h2⟩ := h
  exact ⟨⟨n, h1.setRest r'⟩, h2.setCell (p := ⟨b, 8, none⟩) (.inl rfl) _⟩
theorem AddR.setN {b : Nat} {w wr : World} {r : ByteArray} (h : AddR b w wr r) (n' : Int) : AddR b w (wr.setCell ⟨b, 9, none⟩ (.int .i64 n')) r := by
  obtain ⟨⟨n, h1⟩, h2⟩ := h
  exact ⟨⟨n', h1.setN n'⟩, h2.setCell (p := ⟨b, 9, none⟩) (.inl rfl) _⟩

def AddPost (b : Nat) (w : World) (e : Ending) (w' : World) : Prop := ∃ r : ByteArray, e = .returned (.pointer (some ⟨b, 0, none⟩)) ∧ AddR b w w' r ∧ r.size < 64

set_option maxHeartbeats 2000000 in
set_option maxRecDepth 20000 in
theorem Add_any {F : Nat → Prop} (b : Nat) (r : ByteArray) (n : Int) (l : List ByteArray) (v : Value) (w : World) (hp : PressAt w b r n) (hr : r.size < 64) (hv : Strs F w v l) (hF : ∀ k, F k → k ≠ b) (h0 : b ≠ 0) (hm : ∀ s ∈ l, s.size ≤ 1000000) (hW : WordsAt w) :
    Calls Tryz.prog 45 #[.pointer (some ⟨b, 0, none⟩), v] w (AddPost b w) := by
  have HW := Lib.hid hW
  have HM := Lib.hid hm
  obtain ⟨a, cap, rfl, h2, h3, -, h5⟩ := hv
  have H5 := Lib.hid h5
  have R0 := Lib.hid (show AddR b w w r from ⟨⟨n, hp⟩, Turn.refl _ _⟩)
  clear hm h5 hp hW
  have h0' : ¬ (0 = b) := fun e => h0 e.symm
  go_enter Tryz.func45, Tryz.ntmps45
  go_wp2_with fail
  go_loopw [11] (fun i wr => ∃ (k : Nat) (r : ByteArray), k ≤ l.length ∧ i = .int .i64 (k : Int) ∧ AddR b w wr r ∧ r.size < 64) (fun i _ => l.length - (intOf i).toNat)
  case atStart => exact ⟨0, r, Nat.zero_le _, rfl, R0.out, hr⟩
  case round =>
    obtain ⟨k, r1, hk, rfl, hR, hr1⟩ := hrel
    clear R0 hr
    have RQ := Lib.hid hR
    clear hR
    by_cases hlt : k < l.length
    · obtain ⟨bb, off, rfl, hf, hbs, hc⟩ := H5.out.resolve_left (fun e => by rw [e] at hlt; simp at hlt)
      have c0 := (World.cell?_of_block (w := w) (a := ⟨bb, off + k, none⟩) (RQ.out.2.block bb hbs (hF bb hf))).trans (hc k hlt)
      have hsz := HM.out _ (getD_mem ByteArray.empty hlt)
      generalize l.getD k ByteArray.empty = s at c0 hsz
      clear hc
      obtain ⟨n1, -, ⟨p8, f8⟩, p9, f9⟩ := RQ.out.1
      have hcat : ¬ (9223372036854775807 < r1.size + s.size) := by omega
      have hb9 : bb ≠ b := hF bb hf
      go_wp2_with fail
      refine code_gen (fun wq => AddR b w wq (r1 ++ s)) ((RQ.out.setN _).setRest _) (fun wi hi => ?_)
      have hsz2 : (r1 ++ s).size < 2000000 := by simp [ByteArray.size_append]; omega
      have RI := Lib.hid hi
      have HSZ := Lib.hid hsz2
      clear hi p8 f8 p9 f9 c0 hcat hsz hsz2 hr1 RQ
      generalize r1 ++ s = r2 at RI HSZ
      go_loopg [] 2000000 (fun gk wi => ∃ r : ByteArray, AddR b w wi r ∧ r.size < gk)
      case atStart => exact ⟨r2, RI.out, HSZ.out⟩
      case round =>
        obtain ⟨r3, hR, hg⟩ := hrel
        clear RI HSZ
        have RI := Lib.hid hR
        clear hR
        obtain ⟨n3, q0, ⟨p8, f8⟩, p9, f9⟩ := RI.out.1
        by_cases h64 : 64 ≤ r3.size
        · have h64' : (64 : Int) ≤ (r3.size : Int) := by omega
          have hsz64 : (r3.extract 0 64).size = 64 := by simp [ByteArray.size_extract]; omega
          have hsr : (r3.extract 64 r3.size).size + 64 = r3.size := by simp [ByteArray.size_extract]; omega
          go_wp2_with fail
          go_still_tail 8, (by kernel_rfl)
          change wpList _ _ _ _ _ (World.drew _)
          have RD := Lib.hid RI.out.drew
          generalize wr.drew = wd at RD ⊢
          clear q0 p8 f8 p9 f9 RI
          go_wp2_with fail
          obtain ⟨n4, q0, -⟩ := RD.out.1
          refine (mix_any b _ _ hsz64 q0 (HW.out.turn RD.out.2 h0')).mono ?_
          rintro e w3 hmx
          have RM := Lib.hid (RD.out.mixed hmx)
          obtain ⟨rfl, -⟩ := hmx
          obtain ⟨n5, -, ⟨p8, f8⟩, -⟩ := RM.out.1
          have HSR := Lib.hid hsr
          clear q0 RD hsz64 hsr
          go_wp2_with fail
          go_roundg r3.size
          case measure => exact hg
          case rel => exact ⟨_, RM.out.setRest _, by have := HSR.out; omega⟩
        · have H64 := Lib.hid (show r3.size < 64 by omega)
          have HLT := Lib.hid (show k + 1 ≤ l.length from hlt)
          go_wp2_with fail
          first
            | exact ⟨⟨k + 1, r3, HLT.out, by go_num, RI.out, H64.out⟩, by have := HLT.out; simp [intOf]; omega⟩
            | (go_roundw
               case rel => exact ⟨k + 1, r3, HLT.out, by go_num, RI.out, H64.out⟩
               case measure => have := HLT.out; simp [intOf]; omega)
    · go_wp2_with fail
      go_ret
      exact ⟨r1, rfl, RQ.out, hr1⟩
end Go.Proofs.YtnifkpcjpjgkeaaGreatDoor
