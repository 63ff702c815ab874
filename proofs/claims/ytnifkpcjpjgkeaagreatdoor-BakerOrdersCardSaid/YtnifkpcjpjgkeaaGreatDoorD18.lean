/- stamp: the words of a block's rounds. -/
import Derived.Test.YtnifkpcjpjgkeaaGreatDoorD17
import Derived.IntWalk
import Derived.Deep.MidRow
namespace Go.Proofs.YtnifkpcjpjgkeaaGreatDoor
open Go.RowKit Go.Shelf

/-- Block b begins with n words, which can be written. -/
def WRow (w : World) (b n : Nat) : Prop := ∀ j, j < n → (∃ z : Int, w.cell? ⟨b, j, none⟩ = some (.int .u32 z)) ∧ w.frozen? ⟨b, j, none⟩ = false
theorem WRow.keep {w w' : World} {b n : Nat} (h : WRow w b n) (hk : w'.heap[b]? = w.heap[b]?) : WRow w' b n := fun j hj => by
  obtain ⟨⟨z, hz⟩, hf⟩ := h j hj
  exact ⟨⟨z, (World.cell?_of_block (w := w) (a := ⟨b, j, none⟩) hk).trans hz⟩, (World.frozen?_of_block (w := w) (a := ⟨b, j, none⟩) hk).trans hf⟩
theorem WRow.below {w w' : World} {b n : Nat} (h : WRow w b n) (hb : Below w.heap.size w w') (hlt : b < w.heap.size) : WRow w' b n := h.keep (hb.block b hlt)
theorem WRow.set {w : World} {b n : Nat} (h : WRow w b n) (b' j : Nat) (x : Int) : WRow (w.setCell ⟨b', j, none⟩ (.int .u32 x)) b n := by
  intro k hk
  obtain ⟨⟨z, hz⟩, hf⟩ := h k hk
  by_cases e : (⟨b', j, none⟩ : Addr) = ⟨b, k, none⟩
  · cases e
    exact ⟨⟨x, World.cell?_setCell_same _ _ _ hz⟩, by simpa using hf⟩
  · exact ⟨⟨z, by rw [World.cell?_setCell_other w ⟨b', j, none⟩ ⟨b, k, none⟩ _ e, hz]⟩, by simpa using hf⟩
theorem ints_lit (w : World) (cs : List Nat) (T : TypeId) (n : Nat) (hn : cs.length = n) (h5 : n ≤ 9) : Ints anyBlk (w.alloc (.cells (cs.map fun (n : Nat) => Value.int .i64 (n : Int)).toArray T)) (.slice (some ⟨w.heap.size, 0, none⟩) n n) cs := by
  subst hn
  refine ⟨_, _, rfl, Nat.le_refl _, by omega, .inr ⟨_, _, rfl, trivial, by simp, fun i hi => ?_⟩⟩
  rw [Nat.zero_add, Lib.cell_of_heap (MapKept.heap_alloc w _).1]
  simp [List.getD_eq_getElem?_getD, List.getElem?_eq_getElem hi]

theorem code_gen {P : Program} {c : Code} {Q : Exit → Go.Act → World → Prop} {a : Go.Act} {w0 : World} (C : World → Prop) (h0 : C w0) (h : ∀ w, C w → Code.wp P c Q a w) : Code.wp P c Q a w0 := h _ h0
theorem wrow_new (w : World) (cs : Array Value) (T n : Nat) (h : cs = Array.replicate n (.int .u32 0)) : WRow (w.alloc (.cells cs T)) w.heap.size n := by
  intro j hj
  have hh := (MapKept.heap_alloc w (.cells cs T)).1
  exact ⟨⟨0, by rw [Lib.cell_of_heap hh, h]; simp [hj]⟩, Lib.frozen_of_heap hh j⟩
/-- While words are written: block b is the call's own. -/
def SchR (w : World) (b n : Nat) (wr : World) : Prop := WRow wr b n ∧ Below w.heap.size w wr ∧ w.heap.size ≤ b ∧ b < wr.heap.size
theorem SchR.below {w wr w' : World} {b n : Nat} (h : SchR w b n wr) (hb : Below wr.heap.size wr w') : SchR w b n w' :=
  ⟨h.1.below hb h.2.2.2, h.2.1.trans (hb.mono h.2.1.size), h.2.2.1, Nat.lt_of_lt_of_le h.2.2.2 hb.size⟩
theorem SchR.set {w wr : World} {b n : Nat} (h : SchR w b n wr) (j : Nat) (x : Int) : SchR w b n (wr.setCell ⟨b, j, none⟩ (.int .u32 x)) :=
  ⟨h.1.set b j x, h.2.1.setCell (p := ⟨b, j, none⟩) h.2.2.1 _, h.2.2.1, by simpa [World.setCell] using h.2.2.2⟩
theorem SchR.drew {w wr : World} {b n : Nat} (h : SchR w b n wr) : SchR w b n wr.drew := ⟨h.1, h.2.1.drew, h.2.2⟩

theorem WRow.cells {w : World} {b n : Nat} (h : WRow w b n) : ∃ cs : List Value, cs.length = n ∧ w.rangeAt b 0 cs ∧ ∀ v ∈ cs, ∃ z : Int, v = .int .u32 z := by
  refine ⟨(List.range n).map fun j => (w.cell? ⟨b, j, none⟩).getD undef, by simp, fun j v hv => ?_, fun v hv => ?_⟩
  · simp only [List.getElem?_map, Option.map_eq_some_iff] at hv
    obtain ⟨a, h1, rfl⟩ := hv
    obtain ⟨hj, h2⟩ := List.getElem?_eq_some_iff.1 h1
    simp only [List.getElem_range] at h2
    subst h2
    have hj : j < n := by simpa using hj
    obtain ⟨⟨z, hz⟩, -⟩ := h j hj
    rw [Nat.zero_add, hz]; rfl
  · obtain ⟨j, hj, rfl⟩ := List.mem_map.1 hv
    obtain ⟨⟨z, hz⟩, -⟩ := h j (List.mem_range.1 hj)
    exact ⟨z, by rw [hz]; rfl⟩
theorem WRow.there {w : World} {b n : Nat} (h : WRow w b n) : w.there b 0 n := fun j hj => by
  obtain ⟨⟨z, hz⟩, hf⟩ := h j hj
  rw [Nat.zero_add]
  exact ⟨by rw [hz]; rfl, hf⟩
theorem results_cell_mid {P : Program} {fn : Func} {p : Tmp} {ty : TypeId} (h : fn.results = #[.cell p ty]) (tmps : Array Value) (w : World) (b o : Nat) (cs : List Value) (d : TypeDesc)
    (hp : tmps.getD p undef = .pointer (some ⟨b, o, none⟩)) (hc : w.rangeAt b o cs) (hu : P.underlying ty = some d) (hd : d.isRow = true) (hi : (P.info? ty).map (·.size) = some cs.length) :
    (results fn tmps).run P w = .ok (.agg cs.toArray) w := by
  have hp' : tmps[p]?.getD undef = .pointer (some ⟨b, o, none⟩) := by simpa using hp
  simp [results, h, hp', asAddr, run_loadVar_mid w b o ty cs d hc hu hd hi]
theorem below_setCells {B b : Nat} (hB : B ≤ b) (o : Nat) (vs : List Value) {a w : World} (h : Below B a w) : Below B a (w.setCells b o vs) := by
  have h1 := tape_setCells b vs o w
  exact ⟨h1.2.1.trans h.os, h1.1.trans h.tape, h1.2.2.trans h.output, by rw [size_setCells]; exact h.size, fun k hk => (heap_setCells b vs o w k (by omega)).trans (h.block k hk)⟩

theorem ints_g (w : World) (g : Nat) (cs : List Nat) (T : TypeId) (n : Nat) (hn : cs.length = n) (h5 : n ≤ 9) (hg : w.heap.size = g) : Ints anyBlk (w.alloc (.cells (cs.map fun (n : Nat) => Value.int .i64 (n : Int)).toArray T)) (.slice (some ⟨g, 0, none⟩) n n) cs := by
  subst hg
  exact ints_lit w cs T n hn h5
theorem ints_l1 (w : World) (o : Obj) (cs : List Nat) (T : TypeId) (n : Nat) (hn : cs.length = n) (h5 : n ≤ 9) : Ints anyBlk ((w.alloc o).alloc (.cells (cs.map fun (n : Nat) => Value.int .i64 (n : Int)).toArray T)) (.slice (some ⟨w.heap.size + 1, 0, none⟩) n n) cs :=
  ints_g _ _ cs T n hn h5 (by simp)
theorem cell_set_ne {w : World} {b j k : Nat} {v x : Value} (h : w.cell? ⟨b, j, none⟩ = some v) (hne : k ≠ j) : (w.setCell ⟨b, k, none⟩ x).cell? ⟨b, j, none⟩ = some v :=
  (World.cell?_setCell_other w ⟨b, k, none⟩ ⟨b, j, none⟩ x (fun e => hne (by cases e; rfl))).trans h
theorem cell_up2 {w : World} {b j : Nat} {v : Value} {A B : Obj} (h : w.cell? ⟨b, j, none⟩ = some v) (hb : b < w.heap.size) : ((w.alloc A).alloc B).drew.cell? ⟨b, j, none⟩ = some v :=
  ((World.cell?_alloc_lt (w.alloc A) B ⟨b, j, none⟩ (by simp; omega)).trans (World.cell?_alloc_lt w A ⟨b, j, none⟩ hb)).trans h
theorem Ints.drew {F : Nat → Prop} {w : World} {v : Value} {l : List Nat} (h : Ints F w v l) : Ints F w.drew v l := h
theorem Ints.up {F : Nat → Prop} {w : World} {v : Value} {l : List Nat} {o : Obj} (h : Ints F w v l) : Ints F (w.alloc o) v l := h.below ((Below.refl _ _).alloc (Nat.le_refl _) _)

def SchedPost (w : World) (e : Ending) (w' : World) : Prop := ∃ vs : List Value, e = .returned (.agg vs.toArray) ∧ vs.length = 64 ∧ (∀ v ∈ vs, ∃ z : Int, v = .int .u32 z) ∧ Below w.heap.size w w'

set_option maxHeartbeats 2000000 in
set_option maxRecDepth 20000 in
theorem schedule_any (s : ByteArray) (w : World) (hs : s.size = 64) : Calls Tryz.prog 77 #[.string s] w (SchedPost w) := by
  go_enter Tryz.func77, Tryz.ntmps77
  go_wp2_with fail
  refine code_gen (fun wq => SchR w w.heap.size 64 wq) ⟨wrow_new w _ _ _ (by kernel_rfl), (Below.refl _ _).alloc (Nat.le_refl _) _, Nat.le_refl _, by simp⟩ (fun wq hq => ?_)
  have RQ := Lib.hid hq
  clear hq
  go_loopw [7] (fun i wr => ∃ k : Nat, k ≤ 16 ∧ i = .int .i64 (k : Int) ∧ SchR w w.heap.size 64 wr) (fun i _ => 16 - (intOf i).toNat)
  case atStart => exact ⟨0, by omega, rfl, RQ.out⟩
  case round =>
    obtain ⟨k, hk, rfl, hR⟩ := hrel
    clear RQ
    have RQ := Lib.hid hR
    clear hR
    by_cases hlt : k < 16
    · have hl4 : (4 * (k : Int) + 4) ≤ s.size := by omega
      have hsz : (s.extract (4 * k) (4 * k + 4)).size = 4 := by simp [ByteArray.size_extract, hs]; omega
      go_wp2_with (refine wpList_s2b _ rfl (.tmp 16) 9 95 5 rfl Tryz.underlying9 Tryz.underlying95 Tryz.underlying5 _ rfl ?_; intro c w1 hb1 hlt1 hc1 hcell hfr)
      generalize s.extract (4 * k) (4 * k + 4) = q at hsz hcell ⊢
      rw [hsz] at hcell
      try rw [hsz]
      have R1 := Lib.hid (RQ.out.below hb1)
      have hne := RQ.out.2.2.2
      have HC := Lib.hid (fun (j : Nat) (hj : j < 4) => show ∃ x : Int, w1.cell? ⟨wr.heap.size, j, none⟩ = some (.int .u8 x) from ⟨_, hcell j hj⟩)
      generalize wr.heap.size = g at *
      clear hb1 hlt1 hc1 hcell hfr RQ
      go_loopw [19] (fun i wi => ∃ j : Nat, j ≤ 4 ∧ i = .int .i64 (j : Int) ∧ SchR w w.heap.size 64 wi ∧ ∀ j, j < 4 → ∃ x : Int, wi.cell? ⟨g, j, none⟩ = some (.int .u8 x)) (fun i _ => 4 - (intOf i).toNat)
      case atStart => exact ⟨0, by omega, rfl, R1.out, HC.out⟩
      case round =>
        obtain ⟨j, hj, rfl, hR, hC⟩ := hrel
        clear R1 HC
        have R1 := Lib.hid hR
        have HC := Lib.hid hC
        clear hR hC
        by_cases hlt4 : j < 4
        · obtain ⟨x, hx⟩ := HC.out j hlt4
          obtain ⟨⟨z, hz⟩, hf⟩ := R1.out.1 k (by omega)
          go_wp2_with fail
          exact ⟨⟨j + 1, by omega, by go_num, R1.out.set k _, fun i hi => by
            obtain ⟨y, hy⟩ := HC.out i hi
            exact ⟨y, (World.cell?_setCell_other _ _ _ _ (fun e => by cases e; exact absurd hne (Nat.lt_irrefl _))).trans hy⟩⟩, by simp [intOf]; omega⟩
        · go_wp2_with fail
          go_roundw
          case rel => exact ⟨k + 1, by omega, by go_num, R1.out⟩
          case measure => simp [intOf]; omega
    · obtain rfl : k = 16 := by omega
      rw [show ((16 : Nat) : Int) = (16 : Int) from rfl]
      go_wp2_with fail
      obtain ⟨wo, rfl⟩ : ∃ wo : World, wo = wr := ⟨_, rfl⟩
      go_loopw [6] (fun i wr => ∃ k : Nat, 16 ≤ k ∧ k ≤ 64 ∧ i = .int .i64 (k : Int) ∧ SchR w w.heap.size 64 wr) (fun i _ => 64 - (intOf i).toNat)
      case atStart => exact ⟨16, by omega, by omega, rfl, RQ.out⟩
      case round =>
        obtain ⟨k, hk1, hk, rfl, hR⟩ := hrel
        clear RQ
        have RQ := Lib.hid hR
        clear hR
        by_cases hlt : k < 64
        · obtain ⟨k2, hk2⟩ : ∃ j : Nat, (k : Int) - 2 = j := ⟨k - 2, by omega⟩
          obtain ⟨k7, hk7⟩ : ∃ j : Nat, (k : Int) - 7 = j := ⟨k - 7, by omega⟩
          obtain ⟨k15, hk15⟩ : ∃ j : Nat, (k : Int) - 15 = j := ⟨k - 15, by omega⟩
          obtain ⟨k16, hk16⟩ : ∃ j : Nat, (k : Int) - 16 = j := ⟨k - 16, by omega⟩
          obtain ⟨⟨z2, h2⟩, -⟩ := RQ.out.1 k2 (by omega)
          obtain ⟨⟨z7, h7⟩, -⟩ := RQ.out.1 k7 (by omega)
          obtain ⟨⟨z15, h15⟩, -⟩ := RQ.out.1 k15 (by omega)
          obtain ⟨⟨z16, h16⟩, -⟩ := RQ.out.1 k16 (by omega)
          obtain ⟨⟨z0, h0⟩, f0⟩ := RQ.out.1 k (by omega)
          have hz := RQ.out.2.2.2
          have hn : (k : Int) < 64 := by omega
          have c2 : (k2 : Int) < 64 := by omega
          have c7 : (k7 : Int) < 64 := by omega
          have c15 : (k15 : Int) < 64 := by omega
          have c16 : (k16 : Int) < 64 := by omega
          have e2 : IntKind.i64.wrap ((k : Int) - 2) = k2 := (IntWalk.i64_in _ (by omega)).trans hk2
          have e7 : IntKind.i64.wrap ((k : Int) - 7) = k7 := (IntWalk.i64_in _ (by omega)).trans hk7
          have e15 : IntKind.i64.wrap ((k : Int) - 15) = k15 := (IntWalk.i64_in _ (by omega)).trans hk15
          have e16 : IntKind.i64.wrap ((k : Int) - 16) = k16 := (IntWalk.i64_in _ (by omega)).trans hk16
          have HKK := Lib.hid (And.intro hk1 hk)
          have n2 : k ≠ k2 := by omega
          have n7 : k ≠ k7 := by omega
          have n15 : k ≠ k15 := by omega
          have n16 : k ≠ k16 := by omega
          clear hk2 hk7 hk15 hk16 hk1 hk
          go_wp2_with fail
          go_region_held3 (fun w' => w'.cell? ⟨w.heap.size, k2, none⟩ = some (.int .u32 z2) ∧ w'.cell? ⟨w.heap.size, k7, none⟩ = some (.int .u32 z7) ∧ w'.cell? ⟨w.heap.size, k15, none⟩ = some (.int .u32 z15) ∧ w'.cell? ⟨w.heap.size, k16, none⟩ = some (.int .u32 z16))
            (first
              | exact ⟨cell_up2 (cell_set_ne h2 n2) (by simpa [World.setCell] using hz), cell_up2 (cell_set_ne h7 n7) (by simpa [World.setCell] using hz), cell_up2 (cell_set_ne h15 n15) (by simpa [World.setCell] using hz), cell_up2 (cell_set_ne h16 n16) (by simpa [World.setCell] using hz)⟩
              | go_keep)
            (first | (go_at_call 78; refine (turned_any (F := anyBlk) _ _ [17, 19] _ (by first | exact (ints_lit _ [17, 19] 3 _ rfl (by decide)).drew | exact (ints_lit _ [17, 19] 3 _ rfl (by decide)).up.drew | exact (ints_l1 _ _ [17, 19] 3 _ rfl (by decide)).drew)).mono ?_; rintro e w2 ⟨z, rfl, rfl⟩) | (go_at_call 78; refine (turned_any (F := anyBlk) _ _ [7, 18] _ (by first | exact (ints_lit _ [7, 18] 3 _ rfl (by decide)).drew | exact (ints_lit _ [7, 18] 3 _ rfl (by decide)).up.drew | exact (ints_l1 _ _ [7, 18] 3 _ rfl (by decide)).drew)).mono ?_; rintro e w2 ⟨z, rfl, rfl⟩))
          all_goals
            clear e2 e7 e15 e16 c2 c7 c15 c16 n2 n7 n15 n16 h2 h7 h15 h16
            go_wp2_with fail
            first
              | exact ⟨⟨k + 1, by have := HKK.out.1; omega, by omega, by go_num, (((RQ.out.set k _).below ((Below.refl _ _).alloc (Nat.le_refl _) _)).below ((Below.refl _ _).alloc (Nat.le_refl _) _)).drew⟩, by simp [intOf]; omega⟩
              | (go_roundw
                 case rel => exact ⟨k + 1, by have := HKK.out.1; omega, by omega, by go_num, (((RQ.out.set k _).below ((Below.refl _ _).alloc (Nat.le_refl _) _)).below ((Below.refl _ _).alloc (Nat.le_refl _) _)).drew⟩
                 case measure => simp [intOf]; omega)
        · obtain rfl : k = 64 := by omega
          obtain ⟨cs, hcl, hca, hcu⟩ := RQ.out.1.cells
          have hth := RQ.out.1.there
          rw [← hcl] at hth
          have hsz : (Tryz.prog.info? 152).map (·.size) = some cs.length := by rw [hcl]; kernel_rfl
          go_wp2_with (first | (refine wpList_load_mid rfl 152 _ rfl w.heap.size 0 rfl cs _ hca Tryz.underlying152 rfl hsz ?_) | (refine wpList_store_mid rfl 152 _ _ rfl w.heap.size 0 cs.toArray rfl rfl (by simpa using hth) (by simpa using hsz) (all_oneCell_toArray (fun v hv => by obtain ⟨z, rfl⟩ := hcu v hv; rfl)) ?_))
          refine bodyPost_ret (v := .agg cs.toArray) (results_cell_mid (P := Tryz.prog) (fn := Tryz.f77) rfl _ _ w.heap.size 0 cs _ rfl (by simpa using World.rangeAt_setCells_same wr w.heap.size 0 cs hth) Tryz.underlying152 rfl hsz) rfl ⟨cs, rfl, hcl, hcu, ?_⟩
          exact below_setCells (Nat.le_refl _) _ _ RQ.out.2.1
end Go.Proofs.YtnifkpcjpjgkeaaGreatDoor
