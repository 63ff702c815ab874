/- baker: Next. -/
import Derived.Test.YtnifkpcjpjgkeaaGreatDoorMH70
namespace Go.Proofs.YtnifkpcjpjgkeaaGreatDoor
open Go.RowKit Go.Shelf

/-- While Next looks: the box with the build's pointer, the job that is handed back. -/
def NxB (w : World) (b : Nat) (wr : World) : Prop := Below w.heap.size w wr ∧ wr.heap[w.heap.size]? = some (.cells #[.pointer (some ⟨b, 0, none⟩)] 32) ∧ ∃ zs : Array Value, wr.heap[w.heap.size + 1]? = some (.cells zs 41) ∧ Cells36 zs.toList
theorem NxB.below {w wr w' : World} {b : Nat} (h : NxB w b wr) (hb : Below wr.heap.size wr w') : NxB w b w' := by
  obtain ⟨h1, h2, zs, h3, h4⟩ := h
  exact ⟨h1.trans (hb.mono h1.size), (hb.block _ (Array.getElem?_eq_some_iff.1 h2).1).trans h2, zs, (hb.block _ (Array.getElem?_eq_some_iff.1 h3).1).trans h3, h4⟩
theorem NxB.new (w : World) (b : Nat) (zs : Array Value) (hz : Cells36 zs.toList) : NxB w b ((w.alloc (.cells #[.pointer (some ⟨b, 0, none⟩)] 32)).alloc (.cells zs 41)) := by
  have a1 := MapKept.heap_alloc w (.cells #[.pointer (some ⟨b, 0, none⟩)] 32)
  have a2 := MapKept.heap_alloc (w.alloc (.cells #[.pointer (some ⟨b, 0, none⟩)] 32)) (.cells zs 41)
  have s1 : (w.alloc (.cells #[.pointer (some ⟨b, 0, none⟩)] 32)).heap.size = w.heap.size + 1 := by simp
  rw [s1] at a2
  exact ⟨((Below.refl _ _).alloc (Nat.le_refl _) _).alloc (by omega) _, (a2.2 _ (by omega)).trans a1.1, zs, a2.1, hz⟩
theorem NxB.lt {w wr : World} {b : Nat} (h : NxB w b wr) : w.heap.size + 1 < wr.heap.size := by
  obtain ⟨h1, h2, zs, h3, h4⟩ := h
  exact (Array.getElem?_eq_some_iff.1 h3).1
theorem NxB.box {w wr : World} {b : Nat} (h : NxB w b wr) : wr.cell? ⟨w.heap.size, 0, none⟩ = some (.pointer (some ⟨b, 0, none⟩)) := by
  rw [Lib.cell_of_heap h.2.1]; rfl
theorem NxB.there {w wr : World} {b : Nat} (h : NxB w b wr) : wr.there (w.heap.size + 1) 0 36 := by
  obtain ⟨h1, h2, zs, h3, h4, -⟩ := h
  intro j hj
  rw [Nat.zero_add, Lib.cell_of_heap h3]
  have h5 : j < zs.size := by simpa using (by omega : j < zs.toList.length)
  exact ⟨by simp [h5], Lib.frozen_of_heap h3 j⟩
/-- A struct stored into a variable that was just laid: the world behind it under a name. -/
theorem wpList_store_new {P : Program} {ops : Array Oper} {rest : List Oper} {op : Oper} {a : Act'} {Q : Exit → Act' → World → Prop} (hgd : op.guard = none) (ty : TypeId) (x y : Operand) (ho : op.op = .store ty x y)
    (w3 : World) (cs : Array Value) (T : TypeId) (n : Nat) (hcs : cs.size = n) (hx : a.eval x = .pointer (some ⟨w3.heap.size, 0, none⟩)) (vs : List Value) (hy : a.eval y = .agg vs.toArray) (hvl : vs.length = n) (hvu : vs.toArray.all (·.oneCell') = true)
    (hi : (P.info? ty).map (·.size) = some n) (h : ∀ w', w'.rangeAt w3.heap.size 0 vs → w'.there w3.heap.size 0 n → Below w3.heap.size w3 w' → w3.heap.size < w'.heap.size → wpList P ops Q rest (a.put op.dst undef) w') : wpList P ops Q (op :: rest) a (w3.alloc (.cells cs T)) := by
  have hh := (MapKept.heap_alloc w3 (.cells cs T)).1
  have hth : (w3.alloc (.cells cs T)).there w3.heap.size 0 n := fun j hj => by
    rw [Nat.zero_add, Lib.cell_of_heap hh]
    exact ⟨by simp; omega, Lib.frozen_of_heap hh j⟩
  have e1 : vs.toArray.size = n := by simpa using hvl
  refine wpList_store_mid hgd ty x y ho w3.heap.size 0 vs.toArray hx hy (by rw [e1]; exact hth) (by rw [e1]; exact hi) hvu (h _ (World.rangeAt_setCells_same _ _ _ _ (by rw [hvl]; exact hth)) (fun j hj => ?_) (below_setCells (Nat.le_refl _) _ _ ((Below.refl _ _).alloc (Nat.le_refl _) _)) (by rw [size_setCells]; simp))
  rw [World.frozen?_setCells]
  refine ⟨?_, (hth j hj).2⟩
  have hj' : j < vs.length := by omega
  have := World.rangeAt_setCells_same (w3.alloc (.cells cs T)) w3.heap.size 0 vs (by rw [hvl]; exact hth) j _ (List.getElem?_eq_getElem hj')
  rw [this]; rfl
/-- While a job's inputs are laid: its cells in block bj, which was laid at world w4's end. -/
def JobR (w4 : World) (bj : Nat) (nm code : ByteArray) (i : Nat) (v : Value) (wr : World) : Prop :=
  Below bj w4 wr ∧ bj < wr.heap.size ∧ wr.there bj 0 36 ∧ wr.cell? ⟨bj, 0, none⟩ = some (.string nm) ∧ wr.cell? ⟨bj, 1, none⟩ = some (.int .i64 (i : Int)) ∧ wr.cell? ⟨bj, 2, none⟩ = some (.string code) ∧ wr.cell? ⟨bj, 3, none⟩ = some v
theorem JobR.put {w4 wr w' : World} {bj i : Nat} {nm code : ByteArray} {v v2 : Value} {row : Option Nat} (h : JobR w4 bj nm code i v wr) (hg : wr.grownBy w' row) (hr : ∀ k, row = some k → bj < k) : JobR w4 bj nm code i v2 (w'.setCell ⟨bj, 3, none⟩ v2) := by
  obtain ⟨h1, h2, h3, h4, h5, h6, h7⟩ := h
  have e := hg.block bj h2 (fun e => Nat.lt_irrefl _ (hr _ e.symm))
  have kc : ∀ j, w'.cell? ⟨bj, j, none⟩ = wr.cell? ⟨bj, j, none⟩ := fun j => World.cell?_of_block (a := ⟨bj, j, none⟩) e
  have ks : ∀ j v, j ≠ 3 → wr.cell? ⟨bj, j, none⟩ = some v → (w'.setCell ⟨bj, 3, none⟩ v2).cell? ⟨bj, j, none⟩ = some v := fun j v hj h => (World.cell?_setCell_other _ _ _ _ (fun e => hj (by cases e; rfl))).trans ((kc j).trans h)
  have k3 : (w'.setCell ⟨bj, 3, none⟩ v2).cell? ⟨bj, 3, none⟩ = some v2 := World.cell?_setCell_same _ _ _ ((kc 3).trans h7)
  refine ⟨(h1.grown hg (by omega) (fun k hk => by have := hr k hk; omega)).setCell (p := ⟨bj, 3, none⟩) (Nat.le_refl _) _, by simp; exact Nat.lt_of_lt_of_le h2 hg.size, fun j hj => ?_, ks 0 _ (by decide) h4, ks 1 _ (by decide) h5, ks 2 _ (by decide) h6, k3⟩
  obtain ⟨a1, a2⟩ := h3 j hj
  rw [Nat.zero_add] at a1 a2 ⊢
  refine ⟨?_, by rw [← a2]; simpa using World.frozen?_of_block (a := ⟨bj, j, none⟩) e⟩
  by_cases hj3 : j = 3
  · subst hj3; rw [k3]; rfl
  · obtain ⟨v, hv⟩ := Option.isSome_iff_exists.1 a1
    rw [ks j v hj3 hv]; rfl
/-- A row stored in the midst of a block: the world behind it under a name. -/
theorem wpList_store_midN {P : Program} {ops : Array Oper} {rest : List Oper} {op : Oper} {a : Act'} {w : World} {Q : Exit → Act' → World → Prop} (hgd : op.guard = none) (ty : TypeId) (x y : Operand) (ho : op.op = .store ty x y)
    (b o : Nat) (vs : List Value) (hx : a.eval x = .pointer (some ⟨b, o, none⟩)) (hy : a.eval y = .agg vs.toArray) (ht : w.there b o vs.length) (hi : (P.info? ty).map (·.size) = some vs.length) (h1 : ∀ v ∈ vs, v.oneCell' = true)
    (h : ∀ w', Hid (w' = w.setCells b o vs) → wpList P ops Q rest (a.put op.dst undef) w') : wpList P ops Q (op :: rest) a w :=
  wpList_store_mid hgd ty x y ho b o vs.toArray hx hy (by simpa using ht) (by simpa using hi) (all_oneCell_toArray h1) (by simpa using h _ (Lib.hid rfl))
theorem NxB.set {w wr : World} {b k : Nat} (h : NxB w b wr) (h1 : w.heap.size + 1 < k) (o : Nat) (vs : List Value) : NxB w b (wr.setCells k o vs) := by
  obtain ⟨h2, h3, zs, h4, h5⟩ := h
  exact ⟨below_setCells (by omega) _ _ h2, (heap_setCells k vs o wr _ (by omega)).trans h3, zs, (heap_setCells k vs o wr _ (by omega)).trans h4, h5⟩
/-- The job's cells behind the store of its key. -/
theorem job_range {w6 : World} {bj : Nat} {v0 v1 v2 v3 : Value} {ds : List Value} (h0 : w6.cell? ⟨bj, 0, none⟩ = some v0) (h1 : w6.cell? ⟨bj, 1, none⟩ = some v1) (h2 : w6.cell? ⟨bj, 2, none⟩ = some v2) (h3 : w6.cell? ⟨bj, 3, none⟩ = some v3) (ht : w6.there bj 4 ds.length) :
    (w6.setCells bj 4 ds).rangeAt bj 0 (v0 :: v1 :: v2 :: v3 :: ds) := by
  have ho : ∀ j, j < 4 → (w6.setCells bj 4 ds).cell? ⟨bj, j, none⟩ = w6.cell? ⟨bj, j, none⟩ := fun j hj => World.cell?_setCells_out bj ds 4 w6 ⟨bj, j, none⟩ (fun _ _ => .inl hj)
  intro j u hu
  rw [Nat.zero_add]
  match j, hu with
  | 0, hu => rw [ho 0 (by omega), h0]; exact hu
  | 1, hu => rw [ho 1 (by omega), h1]; exact hu
  | 2, hu => rw [ho 2 (by omega), h2]; exact hu
  | 3, hu => rw [ho 3 (by omega), h3]; exact hu
  | j + 4, hu =>
    have := World.rangeAt_setCells_same w6 bj 4 ds ht j u (by simpa using hu)
    rwa [Nat.add_comm 4 j] at this
theorem infoJob : (Tryz.prog.info? 41).map (·.size) = some 36 := by kernel_rfl
theorem next_end {b m : Nat} {g : Gr} {ord : List Nat} {st : Int} {T : TMap} {w wr : World} {tmps : Array Value} {ok : Bool} {vs : List Value} (hR : NxB w b wr) (h36 : vs.length = 36)
    (hpost : NextPost b m g ord st T w (.returned (.tuple #[.agg vs.toArray, .bool ok])) (wr.setCells (w.heap.size + 1) 0 vs)) (hp : tmps.getD 2 undef = .pointer (some ⟨w.heap.size + 1, 0, none⟩)) (hq : tmps.getD 3 undef = .bool ok) :
    bodyPost Tryz.prog Tryz.f8 (NextPost b m g ord st T w) Exit.ret { tmps := tmps, defers := [] } (wr.setCells (w.heap.size + 1) 0 vs) :=
  bodyPost_ret (v := .tuple #[.agg vs.toArray, .bool ok]) (results_cell_slot (P := Tryz.prog) (fn := Tryz.f8) rfl tmps _ (w.heap.size + 1) 0 vs _ (.bool ok) hp (World.rangeAt_setCells_same _ _ _ _ (by rw [h36]; exact hR.there)) Tryz.underlying41 rfl (by rw [h36]; exact infoJob) hq) rfl hpost

set_option maxHeartbeats 3000000 in
set_option maxRecDepth 100000 in
theorem Next_any (b m : Nat) (g : Gr) (ord : List Nat) (st : Int) (T : TMap) (w : World) (h : BakAt w b m g ord st T) (hord : ∀ i ∈ ord, i < g.actions.length) (hl : ord.length ≤ 100) (hact : ∀ a ∈ g.actions, a.inputs.length ≤ 4 ∧ a.code.size ≤ 64) (hT : SmallT T)
    (hz : ∀ i ∈ ord, okB g.actions T i = true → ∀ s ∈ (g.actions.getD i default).inputs, ((mget T s).getD dRes).code = 0) (hW : WordsAt w) :
    Calls Tryz.prog 8 #[.pointer (some ⟨b, 0, none⟩)] w (NextPost b m g ord st T w) := by
  have HBk := Lib.hid h
  have HOrd := Lib.hid hord
  have HAct := Lib.hid hact
  have HT := Lib.hid hT
  have HZ := Lib.hid hz
  have HW := Lib.hid hW
  obtain ⟨i0, hi, hz0, hz1, hz2⟩ := info_parts infoRes3
  have hbl := h.lt
  obtain ⟨gs, ga, ov, -, -, -, h3, -, -, -, -, -, h9, -⟩ := h
  obtain ⟨oa, oc, rfl, ho2, ho3, ho5⟩ := h9
  have HO5 := Lib.hid ho5
  clear ho5 hord hact hT hz hW
  go_enter Tryz.func8, Tryz.ntmps8
  go_wp2_with fail
  refine (State_any b m g ord st T _ (HBk.out.below (((Below.refl _ _).alloc (Nat.le_refl _) _).alloc (by simp) _))).mono ?_
  rintro e w1 ⟨rfl, hw1⟩
  have RN := Lib.hid (show NxB w b w1 by rw [hw1]; exact NxB.new w b _ ⟨rfl, List.all_eq_true.1 (by kernel_rfl)⟩)
  clear hw1
  by_cases hst : st = 1
  · have hb : (st != 1) = false := by simp [bne, hst]
    have HSt := Lib.hid hst
    clear hst
    have x0 := RN.out.box
    obtain ⟨gs1, ga1, ov1, -, -, -, c3, -⟩ := HBk.out.below RN.out.1
    have c3' := (RN.out.1.cell (p := ⟨b, 3, none⟩) hbl).trans h3
    clear c3
    go_wp2_with fail
    have HN0 := Lib.hid (show nextP g.actions T ord = nextP g.actions T (ord.drop 0) from rfl)
    clear x0 c3'
    go_loopw [21] (fun i wr => ∃ k : Nat, k ≤ ord.length ∧ i = .int .i64 (k : Int) ∧ NxB w b wr ∧ nextP g.actions T ord = nextP g.actions T (ord.drop k)) (fun i _ => ord.length - (intOf i).toNat)
    case atStart => exact ⟨0, Nat.zero_le _, rfl, RN.out, HN0.out⟩
    case round =>
      obtain ⟨k, hk, rfl, hR, hN⟩ := hrel
      clear RN HN0
      have RN := Lib.hid hR
      have HN := Lib.hid hN
      clear hR hN
      have x0 := RN.out.box
      by_cases hlt : k < ord.length
      · obtain ⟨ob, oo, rfl, hfo, hbo, hco⟩ := HO5.out.resolve_left (fun e => by rw [e] at hlt; simp at hlt)
        have d0 := (RN.out.1.cell (p := ⟨ob, oo + k, none⟩) hbo).trans (hco k hlt)
        have hnd := nextP_drop g.actions T ord k hlt
        have hmem := getD_mem 0 hlt
        generalize ord.getD k 0 = i at d0 hnd hmem
        have HND := Lib.hid hnd
        have HMem := Lib.hid hmem
        have hil := HOrd.out i hmem
        have hok : okB g.actions T i = (!(hasB T (g.actions.getD i default).name) && !((g.actions.getD i default).inputs.any fun s => !hasB T s)) := rfl
        have HOk := Lib.hid hok
        obtain ⟨gs1, ga1, ov1, -, c1, -, -, -, -, -, -, c8, -, -⟩ := HBk.out.below RN.out.1
        obtain ⟨aa, ca, rfl, -, -, -, a5⟩ := c8
        obtain ⟨ab, ao, rfl, hfa, hba, hca⟩ := a5.resolve_left (fun e => by rw [e] at hil; simp at hil)
        obtain ⟨iv, hiv, hc0, hc1, hc2⟩ := hca i hil
        obtain ⟨h4, h64⟩ := HAct.out _ (getD_mem (default : Act) hil)
        generalize hac : g.actions.getD i default = ac at hc0 hc1 hc2 hiv HOk h4 h64
        have HAc := Lib.hid hac
        have q1 : (0 : Int) ≤ (i : Int) := by omega
        have q2 : (i : Int) < (g.actions.length : Int) := by omega
        have HIv := Lib.hid hiv
        obtain ⟨ai, capi, rfl, -, -, -, hi5⟩ := hiv
        have HI5 := Lib.hid hi5
        have hbxl := RN.out.lt
        have hbx1 : w.heap.size < wr.heap.size := by omega
        clear hnd hmem hok hac hco hca a5 hfo hfa hi5
        go_wp2_with fail
        have RN1 := Lib.hid (RN.out.below ((Below.refl _ _).alloc (Nat.le_refl _) (.cells #[.string ac.name, .slice ai ac.inputs.length capi, .string ac.code] 55)))
        have hbx := (MapKept.heap_alloc wr (.cells #[.string ac.name, .slice ai ac.inputs.length capi, .string ac.code] 55)).1
        have HIv1 := Lib.hid (HIv.out.below ((Below.refl _ _).alloc (Nat.le_refl _) (.cells #[.string ac.name, .slice ai ac.inputs.length capi, .string ac.code] 55)))
        have HBx := Lib.hid hbx
        clear hbx d0 c1 hc0 hc1 hc2 HIv x0 RN
        generalize wr.alloc (.cells #[.string ac.name, .slice ai ac.inputs.length capi, .string ac.code] 55) = w2 at RN1 HBx HIv1 ⊢
        generalize wr.heap.size = bx at HBx hbxl hbx1 ⊢
        refine (has_any ac.name b m g ord st T w2 (HBk.out.below RN1.out.1)).mono ?_
        rintro e w3 ⟨rfl, hb3⟩
        have RN3 := Lib.hid (RN1.out.below hb3)
        have HBx3 := Lib.hid ((hb3.block bx (Array.getElem?_eq_some_iff.1 HBx.out).1).trans HBx.out)
        have HIv3 := Lib.hid (HIv1.out.below hb3)
        clear hb3 HBx HIv1 RN1
        have x0 := RN3.out.box
        have b1 := (Lib.cell_of_heap HBx3.out 1).trans (show _ = some (Value.slice ai ac.inputs.length capi) from rfl)
        cases hh : hasB T ac.name
        · have HCf := Lib.hid (ContainsFunc_str ac.inputs (.slice ai ac.inputs.length capi) 18 #[] #[.pointer (some ⟨w.heap.size, 0, none⟩)] (fun s => !hasB T s) w3 HIv3.out (enters_of Tryz.func18 (by kernel_rfl) rfl)
            (fun s _ w1 hb1 => (lacks_any s w.heap.size b m g ord st T w1 ((HBk.out.below RN3.out.1).below hb1) ((RN3.out.below hb1).box)).mono fun e w' h => ⟨h.1, hb1.trans (h.2.mono hb1.size)⟩))
          have HH := Lib.hid hh
          clear hh
          go_wp2_with fail
          refine HCf.out.mono ?_
          rintro e w4 ⟨rfl, hb4⟩
          have RN4 := Lib.hid (RN3.out.below hb4)
          have HBx4 := Lib.hid ((hb4.block bx (Array.getElem?_eq_some_iff.1 HBx3.out).1).trans HBx3.out)
          have HIv4 := Lib.hid (HIv3.out.below hb4)
          clear hb4 HBx3 HIv3 RN3 HCf x0 b1
          cases ha : (ac.inputs.any fun s => !hasB T s)
          · have HOk2 := Lib.hid (show okB g.actions T i = true by rw [HOk.out, HH.out, ha]; rfl)
            clear ha
            have b0 := (Lib.cell_of_heap HBx4.out 0).trans (show _ = some (Value.string ac.name) from rfl)
            have b1 := (Lib.cell_of_heap HBx4.out 1).trans (show _ = some (Value.slice ai ac.inputs.length capi) from rfl)
            have b2 := (Lib.cell_of_heap HBx4.out 2).trans (show _ = some (Value.string ac.code) from rfl)
            have hbx4 : bx < w4.heap.size := (Array.getElem?_eq_some_iff.1 HBx4.out).1
            have hbw4 : w.heap.size < w4.heap.size := by have := RN4.out.lt; omega
            go_wp2_with (refine wpList_store_new rfl 41 _ _ rfl w4 _ _ 36 (by kernel_rfl) rfl _ rfl (by kernel_rfl) (by kernel_rfl) infoJob ?_; intro w5 hr5 ht5 hb5 hl5; have n5 := hr5 3 _ rfl; have HR5 := Lib.hid hr5; have HT5 := Lib.hid ht5; have b1' := (hb5.cell (p := ⟨bx, 1, none⟩) hbx4).trans b1; have RJ0 := Lib.hid (show JobR w4 w4.heap.size ac.name ac.code i (.slice none 0 0) w5 from ⟨hb5, hl5, ht5, hr5 0 _ rfl, hr5 1 _ rfl, hr5 2 _ rfl, n5⟩); clear hr5 ht5 HR5 HT5)
            have hz4 := RN4.out.lt
            generalize hbj : w4.heap.size = bj at RJ0 hbx4 hbw4 hz4 ⊢
            have HBj := Lib.hid hbj
            clear hbj b0 b1 b2 n5 b1' hb5 hl5
            go_loopw [53] (fun q wr => ∃ (j : Nat) (v : Value), j ≤ ac.inputs.length ∧ q = .int .i64 (j : Int) ∧ JobR w4 bj ac.name ac.code i v wr ∧ OwnS (bj + 1) 2 wr v j (resCells (resOf T (ac.inputs.take j)))) (fun q _ => ac.inputs.length - (intOf q).toNat)
            case atStart => exact ⟨0, _, Nat.zero_le _, rfl, RJ0.out, ⟨rfl, .inl ⟨rfl, rfl⟩⟩⟩
            case round =>
              obtain ⟨j, v, hj, rfl, hR, hO⟩ := hrel
              clear RJ0
              have RJ := Lib.hid hR
              have HOw := Lib.hid hO
              clear hR hO
              have x3 := RJ.out.2.2.2.2.2.2
              by_cases hlt2 : j < ac.inputs.length
              · obtain ⟨bi, oi, rfl, hfi, hbi, hci⟩ := HI5.out.resolve_left (fun e => by rw [e] at hlt2; simp at hlt2)
                have RNr := Lib.hid (RN4.out.below (HBj.out ▸ RJ.out.1))
                have HIr := Lib.hid (HIv4.out.below (HBj.out ▸ RJ.out.1))
                obtain ⟨a0, cp0, he0, -, -, -, hs5⟩ := HIr.out
                obtain ⟨bi2, oi2, he1, -, hbi2, hci2⟩ := hs5.resolve_left (fun e => by rw [e] at hlt2; simp at hlt2)
                subst he1
                injection he0 with he0 he00 he01
                injection he0 with he0
                injection he0 with he02 he03
                subst he02; subst he03
                have d1 := hci2 j hlt2
                have x0 := RNr.out.box
                obtain ⟨gs2, ga2, ov2, -, -, -, -, c4, -, -, -, -, -, c10⟩ := HBk.out.below RNr.out.1
                have hst := resOf_snoc T ac.inputs j hlt2
                generalize ac.inputs.getD j ByteArray.empty = s at d1 hst
                have hlk : (Instr.lookup 59 (.map (some m)) (.string s) false).run Tryz.prog wr.drew = .ok (Res.v ((mget T s).getD dRes)) wr.drew := (show XMap Res.v wr.drew m T from c10).run_look Tryz.underlying59 Tryz.underlying9 dRes (zeroRes _) s
                generalize (mget T s).getD dRes = r at hst hlk
                unfold Res.v at hlk
                have HST := Lib.hid hst
                have hbjl := RJ.out.2.1
                have hjf := (RJ.out.2.2.1 3 (by omega)).2
                rw [Nat.zero_add] at hjf
                clear hst hci hci2 hs5 hfi c10 he01
                go_wp2_with fail
                go_region_law (refine step_append_S rfl (.tmp 58) (.tmp 65) 29 rfl (bj + 1) 48 i0 (.agg #[.int .i64 0, .string ByteArray.empty]) 2 24 Tryz.underlying29 hi hz0 hz1 hz2 rfl (by decide) v j (resCells (resOf T (ac.inputs.take j))) rfl (by exact (HOw.out.below ((Below.refl _ _).alloc (Nat.le_refl _) _)).drew) (some ⟨wr.heap.size, 0, none⟩) 1 1 [.int .i64 r.code, .string r.blob] rfl rfl (.inr ⟨_, rfl, (by exact cell_two _ _ _ _ _ rfl)⟩) (by simp [Value.oneCell']) (by unfold maxLen; omega) (by omega) (by simp; omega) ?_; intro v2 w2 ho2 hg2; have hk3 := hg2.block bj (by simp; omega) (fun e => by have := (HOw.out.block _ e.symm).1; omega); have x3' : w2.cell? ⟨bj, 3, none⟩ = some v := (World.cell?_of_block (a := ⟨bj, 3, none⟩) hk3).trans ((World.cell?_alloc_lt wr _ ⟨bj, 3, none⟩ hbjl).trans x3); have hjf' : w2.frozen? ⟨bj, 3, none⟩ = false := (World.frozen?_of_block (a := ⟨bj, 3, none⟩) hk3).trans ((World.frozen?_of_block (a := ⟨bj, 3, none⟩) (Below.heap_alloc wr _ bj hbjl)).trans hjf); obtain ⟨av2, cv2, rfl, -⟩ := ho2.form; have HO2 := Lib.hid ho2; have HG2 := Lib.hid hg2; clear ho2 hg2 hk3)
                all_goals
                  have RJ2 := Lib.hid (show JobR w4 bj ac.name ac.code i (.slice av2 (j + 1) cv2) (w2.setCell ⟨bj, 3, none⟩ (.slice av2 (j + 1) cv2)) from JobR.put (wr := (wr.alloc (.cells #[.int .i64 r.code, .string r.blob] 48)).drew) (v := v)
                    ⟨(RJ.out.1.alloc (by omega) _).drew, by simp; omega, fun q hq => by
                      have := RJ.out.2.2.1 q hq
                      rw [Nat.zero_add] at this ⊢
                      exact ⟨by rw [show ((wr.alloc (.cells #[.int .i64 r.code, .string r.blob] 48)).drew.cell? ⟨bj, q, none⟩) = wr.cell? ⟨bj, q, none⟩ from World.cell?_alloc_lt wr _ ⟨bj, q, none⟩ hbjl]; exact this.1, (World.frozen?_of_block (a := ⟨bj, q, none⟩) (Below.heap_alloc wr _ bj hbjl)).trans this.2⟩,
                      (World.cell?_alloc_lt wr _ ⟨bj, 0, none⟩ hbjl).trans RJ.out.2.2.2.1, (World.cell?_alloc_lt wr _ ⟨bj, 1, none⟩ hbjl).trans RJ.out.2.2.2.2.1, (World.cell?_alloc_lt wr _ ⟨bj, 2, none⟩ hbjl).trans RJ.out.2.2.2.2.2.1, (World.cell?_alloc_lt wr _ ⟨bj, 3, none⟩ hbjl).trans x3⟩ HG2.out (fun k hk => by have := (HOw.out.block k hk).1; omega))
                  have HO3 := Lib.hid (show OwnS (bj + 1) 2 (w2.setCell ⟨bj, 3, none⟩ (.slice av2 (j + 1) cv2)) (.slice av2 (j + 1) cv2) (j + 1) (resCells (resOf T (ac.inputs.take (j + 1)))) from by
                    rw [HST.out, resCells_app]
                    exact HO2.out.keep (by simp [World.setCell]) (fun q hq _ _ => Below.heap_setCell _ _ _ _ (fun e => by have : q = bj := e; omega)))
                  clear HO2 HG2 HOw RJ x3 x3' hjf hjf' hbjl hlk c4 x0 d1
                  go_wp2_with fail
                  first
                    | exact ⟨⟨j + 1, _, by omega, by go_num, RJ2.out, HO3.out⟩, by simp [intOf]; omega⟩
                    | (go_roundw
                       case rel => exact ⟨j + 1, _, by omega, by go_num, RJ2.out, HO3.out⟩
                       case measure => simp [intOf]; omega)
              · obtain rfl : j = ac.inputs.length := by omega
                have hrl := resOf_len T ac.inputs
                have HRl := Lib.hid hrl
                have HRs := Lib.hid (show Ress (fun q => bj + 1 ≤ q) wr v (resOf T ac.inputs) from OwnS.ress (by have h := HOw.out; rw [List.take_length] at h; rw [hrl]; exact h) (by rw [hrl]; omega) (fun s hs => by obtain ⟨t, -, rfl⟩ := List.mem_map.1 hs; have := HT.out.get t; unfold Fits; omega))
                have HBr := Lib.hid (show Below w.heap.size w wr from RN4.out.1.trans (RJ.out.1.mono (by omega)))
                have RNr := Lib.hid (show NxB w b wr from RN4.out.below (by rw [HBj.out]; exact RJ.out.1))
                have HKey := Lib.hid (Key_any ac.code (resOf T ac.inputs) v wr HRs.out (by rw [hrl]; omega) (fun x hx => by obtain ⟨t, ht, rfl⟩ := List.mem_map.1 hx; exact HZ.out i HMem.out HOk2.out t (by rw [HAc.out]; exact ht)) (fun x hx => by obtain ⟨t, -, rfl⟩ := List.mem_map.1 hx; have := HT.out.get t; omega) (by omega) (fun j hj => by obtain ⟨z, hz⟩ := HW.out j hj; exact ⟨z, (HBr.out.cell (p := ⟨0, j, none⟩) (HW.out.lt)).trans hz⟩))
                have x2 := RJ.out.2.2.2.2.2.1
                have hv1 := Lib.hid (show v.oneCell' = true by obtain ⟨a1, c1, e1, -⟩ := HOw.out.form; rw [e1]; rfl)
                clear hrl HOw
                go_wp2_with fail
                refine HKey.out.mono ?_
                rintro e w6 ⟨ds, rfl, hdl, hdu, hb6⟩
                have RN6 := Lib.hid (RNr.out.below hb6)
                have HRs6 := Lib.hid (HRs.out.below hb6)
                have hbl6 := RJ.out.2.1
                have kc := fun j => hb6.cell (p := ⟨bj, j, none⟩) hbl6
                have j0 := Lib.hid ((kc 0).trans RJ.out.2.2.2.1)
                have j1 := Lib.hid ((kc 1).trans RJ.out.2.2.2.2.1)
                have j2 := Lib.hid ((kc 2).trans RJ.out.2.2.2.2.2.1)
                have j3 := Lib.hid ((kc 3).trans RJ.out.2.2.2.2.2.2)
                have hth : w6.there bj 4 ds.length := fun q hq => by
                  have := RJ.out.2.2.1 (4 + q) (by omega)
                  rw [Nat.zero_add] at this
                  exact ⟨by rw [kc (4 + q)]; exact this.1, (hb6.frozen (p := ⟨bj, 4 + q, none⟩) hbl6).trans this.2⟩
                have HTh := Lib.hid hth
                have HDu := Lib.hid hdu
                have hsz : (Tryz.prog.info? 39).map (·.size) = some ds.length := by rw [hdl]; kernel_rfl
                have hszj : (Tryz.prog.info? 41).map (·.size) = some (.string ac.name :: .int .i64 (i : Int) :: .string ac.code :: v :: ds).length := by simp only [List.length_cons]; rw [hdl]; kernel_rfl
                have HDl := Lib.hid hdl
                have HSz := Lib.hid hsz
                have HSzj := Lib.hid hszj
                clear x2 x3 hb6 kc hth hdu hsz hszj hdl HKey HRs RNr RJ
                go_wp2_with (first
                  | (refine wpList_store_midN rfl 39 _ _ rfl bj 4 ds rfl rfl HTh.out HSz.out (fun v hv => by obtain ⟨z, rfl⟩ := HDu.out v hv; rfl) ?_; intro w7 hw7)
                  | (refine wpList_load_mid rfl 41 _ rfl bj 0 rfl (.string ac.name :: .int .i64 (i : Int) :: .string ac.code :: v :: ds) _ (by rw [hw7.out]; exact job_range j0.out j1.out j2.out j3.out HTh.out) Tryz.underlying41 rfl HSzj.out ?_)
                  | (refine wpList_store_midN rfl 41 _ _ rfl (w.heap.size + 1) 0 (.string ac.name :: .int .i64 (i : Int) :: .string ac.code :: v :: ds) rfl rfl (by rw [hw7.out, show (Value.string ac.name :: .int .i64 (i : Int) :: .string ac.code :: v :: ds).length = 36 by simp [HDl.out]]; exact (RN6.out.set (by omega) _ _).there) HSzj.out (fun u hu => by
                      rcases List.mem_cons.1 hu with rfl | hu
                      · rfl
                      rcases List.mem_cons.1 hu with rfl | hu
                      · rfl
                      rcases List.mem_cons.1 hu with rfl | hu
                      · rfl
                      rcases List.mem_cons.1 hu with rfl | hu
                      · exact hv1.out
                      · obtain ⟨z, rfl⟩ := HDu.out u hu; rfl) ?_; intro w8 hw8))
                rw [hw8.out, hw7.out]
                have RN7 := RN6.out.set (k := bj) (by omega) 4 ds
                refine next_end RN7 (by simp [HDl.out]) ⟨below_setCells (by omega) _ _ RN7.1, _, ⟨by simp [HDl.out], fun u hu => by
                      rcases List.mem_cons.1 hu with rfl | hu
                      · rfl
                      rcases List.mem_cons.1 hu with rfl | hu
                      · rfl
                      rcases List.mem_cons.1 hu with rfl | hu
                      · rfl
                      rcases List.mem_cons.1 hu with rfl | hu
                      · exact hv1.out
                      · obtain ⟨z, rfl⟩ := HDu.out u hu; rfl⟩, .inl ⟨HSt.out, i, by rw [HN.out, HND.out, HOk2.out]; rfl, rfl, by rw [HAc.out]; rfl, rfl, v, rfl, ?_⟩⟩ rfl rfl
                rw [HAc.out]
                exact (HRs6.out.keep (w' := (w6.setCells bj 4 ds).setCells (w.heap.size + 1) 0 _) (F' := fun q => w.heap.size ≤ q) (fun q hq => by have : bj + 1 ≤ q := hq; show w.heap.size ≤ q; omega)
                  ⟨by rw [size_setCells, size_setCells]; exact Nat.le_refl _, fun q hq _ => by
                    have : bj + 1 ≤ q := hq
                    rw [heap_setCells _ _ _ _ _ (by omega), heap_setCells _ _ _ _ _ (by omega)]⟩)
          · have HN2 := Lib.hid (show nextP g.actions T ord = nextP g.actions T (ord.drop (k + 1)) by rw [HN.out, HND.out, HOk.out, HH.out, ha]; rfl)
            clear ha
            go_wp2_with fail
            first
              | exact ⟨⟨k + 1, by omega, by go_num, RN4.out, HN2.out⟩, by simp [intOf]; omega⟩
              | (go_roundw
                 case rel => exact ⟨k + 1, by omega, by go_num, RN4.out, HN2.out⟩
                 case measure => simp [intOf]; omega)
        · have HN2 := Lib.hid (show nextP g.actions T ord = nextP g.actions T (ord.drop (k + 1)) by rw [HN.out, HND.out, HOk.out, hh]; rfl)
          clear hh
          go_wp2_with fail
          first
            | exact ⟨⟨k + 1, by omega, by go_num, RN3.out, HN2.out⟩, by simp [intOf]; omega⟩
            | (go_roundw
               case rel => exact ⟨k + 1, by omega, by go_num, RN3.out, HN2.out⟩
               case measure => simp [intOf]; omega)
      · have HN2 := Lib.hid (show nextP g.actions T ord = none by rw [HN.out, List.drop_eq_nil_of_le (by omega)]; rfl)
        go_wp2_with (refine wpList_store_mid rfl 41 _ _ rfl (w.heap.size + 1) 0 _ rfl rfl ?ht2 ?hi2 ?h12 ?_)
        case ht2 => exact RN.out.there
        case hi2 => exact infoJob
        case h12 => kernel_rfl
        refine next_end RN.out (by kernel_rfl) ⟨below_setCells (by omega) _ _ RN.out.1, _, ⟨by kernel_rfl, List.all_eq_true.1 (by kernel_rfl)⟩, .inr ⟨.inr HN2.out, rfl⟩⟩ rfl rfl
  · have hb : (st != 1) = true := by rw [bne_iff_ne]; exact hst
    have HSt := Lib.hid hst
    clear hst
    go_wp2_with (refine wpList_store_mid rfl 41 _ _ rfl (w.heap.size + 1) 0 _ rfl rfl ?ht ?hi ?h1 ?_)
    case ht => exact RN.out.there
    case hi => exact infoJob
    case h1 => kernel_rfl
    refine next_end RN.out (by kernel_rfl) ⟨below_setCells (by omega) _ _ RN.out.1, _, ⟨by kernel_rfl, List.all_eq_true.1 (by kernel_rfl)⟩, .inr ⟨.inl HSt.out, rfl⟩⟩ rfl rfl
end Go.Proofs.YtnifkpcjpjgkeaaGreatDoor
