/- oven: what a build under way holds; laid, its beginning. -/
import Derived.Test.YtnifkpcjpjgkeaaGreatDoorF50
import Derived.Test.YtnifkpcjpjgkeaaGreatDoorMD23
import Derived.Deep.RegionHeld3
namespace Go.Proofs.YtnifkpcjpjgkeaaGreatDoor
open Go.RowKit Go.Shelf

theorem infoDig : (Tryz.prog.info? 39).map (fun i => (i.zero, i.size, i.bytes)) = some (some (.agg (Array.replicate 32 (.int .u8 0))), 32, 32) := by kernel_rfl
theorem zeroRes (w : World) : (zeroValue 48).run Tryz.prog w = .ok (Res.v dRes) w := by kernel_rfl

/-- While a kitchen is filled: its cells in block bk, the map in bm, the keys in bd. -/
def KitR (w : World) (bk bm bd : Nat) (gs ga : Value) (n : Nat) (T : TMap) (wr : World) : Prop :=
  Below w.heap.size w wr ∧ w.heap.size ≤ bk ∧ w.heap.size ≤ bm ∧ w.heap.size ≤ bd ∧ bk ≠ bm ∧ bk ≠ bd ∧ bm ≠ bd ∧ bd < wr.heap.size ∧
    wr.heap[bk]? = some (.cells #[gs, ga, .map (some bm), .slice (some ⟨bd, 0, none⟩) n n] 90) ∧ XMap Res.v wr bm T ∧ BW wr bd (n * 32)
theorem KitR.below {w wr w' : World} {bk bm bd n : Nat} {gs ga : Value} {T : TMap} (h : KitR w bk bm bd gs ga n T wr) (hb : Below wr.heap.size wr w') : KitR w bk bm bd gs ga n T w' := by
  obtain ⟨h1, h2, h3, h4, h5, h6, h7, h8, h9, h10, h11⟩ := h
  exact ⟨h1.trans (hb.mono h1.size), h2, h3, h4, h5, h6, h7, Nat.lt_of_lt_of_le h8 hb.size, (hb.block bk (Array.getElem?_eq_some_iff.1 h9).1).trans h9, h10.below hb, h11.keep (hb.block bd h8)⟩
theorem KitR.drew {w wr : World} {bk bm bd n : Nat} {gs ga : Value} {T : TMap} (h : KitR w bk bm bd gs ga n T wr) : KitR w bk bm bd gs ga n T wr.drew := ⟨h.1.drew, h.2⟩
theorem KitR.drewN {w wr : World} {bk bm bd n : Nat} {gs ga : Value} {T : TMap} (h : KitR w bk bm bd gs ga n T wr) (k : Nat) : KitR w bk bm bd gs ga n T (wr.drewN k) := ⟨below_drewN h.1, h.2⟩
theorem KitR.put {w wr w' : World} {bk bm bd n : Nat} {gs ga : Value} {T T' : TMap} (h : KitR w bk bm bd gs ga n T wr) (hx : XMap Res.v w' bm T') (hg : wr.grownBy w' (some bm)) : KitR w bk bm bd gs ga n T' w' := by
  obtain ⟨h1, h2, h3, h4, h5, h6, h7, h8, h9, h10, h11⟩ := h
  exact ⟨h1.grown hg h1.size (fun k hk => by injection hk with hk; omega), h2, h3, h4, h5, h6, h7, Nat.lt_of_lt_of_le h8 hg.size, (hg.block bk (Array.getElem?_eq_some_iff.1 h9).1 (fun e => by injection e with e; exact h5 e)).trans h9, hx, h11.keep (hg.block bd h8 (fun e => by injection e with e; exact h7 e.symm))⟩
theorem KitR.old {w wr : World} {bk bm bd n : Nat} {gs ga : Value} {T : TMap} (h : KitR w bk bm bd gs ga n T wr) {b o : Nat} {v : Value} (hb : b < w.heap.size) (hc : w.cell? ⟨b, o, none⟩ = some v) : wr.cell? ⟨b, o, none⟩ = some v :=
  (h.1.cell (p := ⟨b, o, none⟩) hb).trans hc
theorem KitR.map {w wr : World} {bk bm bd n : Nat} {gs ga : Value} {T : TMap} (h : KitR w bk bm bd gs ga n T wr) : wr.cell? ⟨bk, 2, none⟩ = some (.map (some bm)) := by
  rw [Lib.cell_of_heap h.2.2.2.2.2.2.2.2.1]; rfl
theorem KitR.acts {w wr : World} {bk bm bd n : Nat} {gs ga : Value} {T : TMap} (h : KitR w bk bm bd gs ga n T wr) : wr.cell? ⟨bk, 1, none⟩ = some ga := by
  rw [Lib.cell_of_heap h.2.2.2.2.2.2.2.2.1]; rfl
theorem KitR.srcs {w wr : World} {bk bm bd n : Nat} {gs ga : Value} {T : TMap} (h : KitR w bk bm bd gs ga n T wr) : wr.cell? ⟨bk, 0, none⟩ = some gs := by
  rw [Lib.cell_of_heap h.2.2.2.2.2.2.2.2.1]; rfl
theorem KitR.keys {w wr : World} {bk bm bd n : Nat} {gs ga : Value} {T : TMap} (h : KitR w bk bm bd gs ga n T wr) : wr.cell? ⟨bk, 3, none⟩ = some (.slice (some ⟨bd, 0, none⟩) n n) := by
  rw [Lib.cell_of_heap h.2.2.2.2.2.2.2.2.1]; rfl

theorem KitR.xm {w wr : World} {bk bm bd n : Nat} {gs ga : Value} {T : TMap} (h : KitR w bk bm bd gs ga n T wr) : XMap Res.v wr bm T := h.2.2.2.2.2.2.2.2.2.1
theorem KitR.lower {w w1 wr : World} {bk bm bd n : Nat} {gs ga : Value} {T : TMap} (h : KitR w1 bk bm bd gs ga n T wr) (hb : Below w.heap.size w w1) : KitR w bk bm bd gs ga n T wr := by
  obtain ⟨h1, h2, h3, h4, r⟩ := h
  have := hb.size
  exact ⟨hb.trans (h1.mono this), by omega, by omega, by omega, r⟩
theorem then_gen {n : Go.Act → World → Prop} {Q : Exit → Go.Act → World → Prop} {x : Exit} {a : Go.Act} {w0 : World} (C : World → Prop) (h0 : C w0) (h : ∀ w, C w → Exit.then n Q x a w) : Exit.then n Q x a w0 := h _ h0
theorem made_u8 (m j : Nat) (h : j < m) : (madeCells (Value.cells (.agg (Array.replicate 32 (.int .u8 0)))) m)[j]? = some (.int .u8 0) := by
  have e : Value.cells (.agg (Array.replicate 32 (.int .u8 0))) = Array.replicate 32 (.int .u8 0) := by kernel_rfl
  rw [e]
  have hj : j % 32 < (Array.replicate 32 (Value.int .u8 0)).size := by simp; omega
  simp only [madeCells, Array.getElem?_map, Array.getElem?_range, h, Array.size_replicate]
  simp
  rw [getElem!_pos (Array.replicate 32 (Value.int .u8 0)) (j % 32) hj]
  simp
/-- A map, a row of zero digests, a kitchen: laid in either order. -/
theorem kit_new {w w1 : World} {gs ga : Value} {n : Nat} {mc : Array Value} {A B : Obj} {bm bd : Nat} {C : TypeId} (hb : Below w.heap.size w w1) (hm : ∀ j, j < n * 32 → mc[j]? = some (.int .u8 0))
    (h : (A = .map #[] 0 ∧ B = .cells mc C ∧ bm = w1.heap.size ∧ bd = w1.heap.size + 1) ∨ (A = .cells mc C ∧ B = .map #[] 0 ∧ bd = w1.heap.size ∧ bm = w1.heap.size + 1)) :
    ∃ bm' bd', KitR w (w1.heap.size + 1 + 1) bm' bd' gs ga n [] (((w1.alloc A).alloc B).alloc (.cells #[gs, ga, .map (some bm), .slice (some ⟨bd, 0, none⟩) n n] 90)).drew := by
  refine ⟨bm, bd, ?_⟩
  have hB := (((hb.alloc hb.size A).alloc (by have := hb.size; simp; omega) B).alloc (by have := hb.size; simp; omega) (.cells #[gs, ga, .map (some bm), .slice (some ⟨bd, 0, none⟩) n n] 90)).drew
  have hz := hb.size
  have a1 := MapKept.heap_alloc w1 A
  have a2 := MapKept.heap_alloc (w1.alloc A) B
  have a3 := MapKept.heap_alloc ((w1.alloc A).alloc B) (.cells #[gs, ga, .map (some bm), .slice (some ⟨bd, 0, none⟩) n n] 90)
  have s1 : (w1.alloc A).heap.size = w1.heap.size + 1 := by simp
  have s2 : ((w1.alloc A).alloc B).heap.size = w1.heap.size + 1 + 1 := by simp
  rw [s1] at a2
  rw [s2] at a3
  have p0 := (a3.2 w1.heap.size (by omega)).trans ((a2.2 w1.heap.size (by omega)).trans a1.1)
  have p1 := (a3.2 (w1.heap.size + 1) (by omega)).trans a2.1
  rcases h with ⟨rfl, rfl, rfl, rfl⟩ | ⟨rfl, rfl, rfl, rfl⟩
  · refine ⟨hB, by omega, by omega, by omega, by omega, by omega, by omega, by simp, a3.1, (XMap.made Res.v w1).keep (p0.trans a1.1.symm), fun j hj => ?_⟩
    exact ⟨⟨0, (Lib.cell_of_heap p1 j).trans (hm j hj)⟩, Lib.frozen_of_heap p1 j⟩
  · refine ⟨hB, by omega, by omega, by omega, by omega, by omega, by omega, by simp; omega, a3.1, ?_, fun j hj => ?_⟩
    · have := XMap.made Res.v (w1.alloc (.cells mc C))
      rw [s1] at this
      exact this.keep (p1.trans a2.1.symm)
    · exact ⟨⟨0, (Lib.cell_of_heap p0 j).trans (hm j hj)⟩, Lib.frozen_of_heap p0 j⟩

def LaidPost (g : Gr) (l : List Src) (gs ga : Value) (w : World) (e : Ending) (w' : World) : Prop :=
  ∃ (p : Value) (c : Int), e = .returned (.tuple #[p, .int .i64 c]) ∧ Below w.heap.size w w' ∧ (c = 0 → checkedE g = 0 ∧ SrcFit g l ∧ ∃ bk bm bd, p = .pointer (some ⟨bk, 0, none⟩) ∧ KitR w bk bm bd gs ga g.actions.length (srcF l) w') ∧ (c ≠ 0 → p = .pointer none ∧ (checkedE g ≠ 0 ∨ ¬ SrcFit g l))
/-- An error. -/
theorem LaidPost.err {g : Gr} {l : List Src} {gs ga : Value} {w w' : World} (c : Int) (h0 : c ≠ 0) (hb : Below w.heap.size w w') (hbad : checkedE g ≠ 0 ∨ ¬ SrcFit g l) : LaidPost g l gs ga w (.returned (.tuple #[.pointer none, .int .i64 c])) w' :=
  ⟨_, c, rfl, hb, fun h => absurd h h0, fun _ => ⟨rfl, hbad⟩⟩

set_option maxHeartbeats 3000000 in
set_option maxRecDepth 20000 in
theorem laid_any {F F' : Nat → Prop} (g : Gr) (l : List Src) (gs ga lv : Value) (w : World) (hs : Strs F w gs g.sources) (ha : Acts F w ga g.actions) (hl : Srcs F' w lv l) (h30 : l.length ≤ 30) :
    Calls Tryz.prog 27 #[.agg #[gs, ga], lv] w (LaidPost g l gs ga w) := by
  obtain ⟨i0, hi, hz0, hz1, hz2⟩ := info_parts infoDig
  have HC := Lib.hid (fun (w0 : World) (hb : Below w.heap.size w w0) => Check_any g gs ga w0 (hs.below hb) (ha.below hb))
  obtain ⟨a, cap, rfl, h2, h3, h4, h5⟩ := hs
  obtain ⟨a', cap', rfl, h2', h3', h4', h5'⟩ := ha
  obtain ⟨a'', cap'', rfl, h2'', h3'', h4'', h5''⟩ := hl
  have H5 := Lib.hid h5
  have H5'' := Lib.hid h5''
  clear h4 h4' h4'' h5 h5' h5''
  by_cases hE : checkedE g = 0
  · have h8 := graphB_8 (wovenE_zero (checkedE_woven hE))
    have h12 := graphB_12 (wovenE_zero (checkedE_woven hE))
    have HE := Lib.hid hE
    have hmk : ∀ w0 : World, (Instr.makeSlice 63 (.int .i64 (g.actions.length : Int)) (.int .i64 (g.actions.length : Int))).run Tryz.prog w0 = .ok (.slice (some ⟨w0.heap.size, 0, none⟩) g.actions.length g.actions.length) (w0.alloc (.cells (madeCells (Value.cells (.agg (Array.replicate 32 (.int .u8 0)))) (g.actions.length * 32)) 39)) := fun w0 => by
      have h := run_makeSlice (P := Tryz.prog) w0 63 39 i0 _ Tryz.underlying63 hi hz0 .i64 .i64 (g.actions.length : Int) (g.actions.length : Int) (by omega) (by omega) (by rw [hz1]; omega) (by rw [hz2]; omega) (by omega)
      rw [hz1] at h
      simpa using h
    have HMc := Lib.hid (fun j (hj : j < g.actions.length * 32) => made_u8 (g.actions.length * 32) j hj)
    generalize madeCells (Value.cells (.agg (Array.replicate 32 (.int .u8 0)))) (g.actions.length * 32) = mc at hmk HMc
    go_enter Tryz.func27, Tryz.ntmps27
    go_wp2_with fail
    refine (HC.out _ ((Below.refl w.heap.size w).alloc (Nat.le_refl _) _)).mono ?_
    rintro e w1 ⟨rfl, hb1⟩
    obtain ⟨c1, f1⟩ := bcell hb1
    have HB1 := Lib.hid (((Below.refl w.heap.size w).alloc (Nat.le_refl _) _).trans (hb1.mono (by simp)))
    have q0 := (c1 w.heap.size 0 (by simp)).trans (show _ = some (.slice a g.sources.length cap) from World.cell?_alloc_new _ _ _ _)
    have q1 := (c1 w.heap.size 1 (by simp)).trans (show _ = some (.slice a' g.actions.length cap') from World.cell?_alloc_new _ _ _ _)
    have z1 : w.heap.size < w1.heap.size := by have := hb1.size; simp at this; omega
    clear hb1 c1 f1
    rw [hE]
    clear hE
    have hmm := @run_makeMap Tryz.prog
    go_wp2_with fail
    go_region_held3 (fun w' => w'.cell? ⟨w.heap.size, 0, none⟩ = some (.slice a g.sources.length cap) ∧ w'.cell? ⟨w.heap.size, 1, none⟩ = some (.slice a' g.actions.length cap')) (first | exact ⟨(cell_under3 _ _ _ _ _ _ z1).trans q0, (cell_under3 _ _ _ _ _ _ z1).trans q1⟩ | go_keep) (fail)
    all_goals
      clear hmm hmk
      refine then_gen (fun wq => ∃ bm bd, KitR w1 (w1.heap.size + 1 + 1) bm bd (.slice a g.sources.length cap) (.slice a' g.actions.length cap') g.actions.length [] wq) (by
        first
          | exact kit_new (C := 39) (Below.refl _ _) HMc.out (.inl ⟨rfl, rfl, rfl, rfl⟩)
          | exact kit_new (C := 39) (Below.refl _ _) HMc.out (.inr ⟨rfl, rfl, rfl, rfl⟩)) (fun wq hq => ?_)
      clear q1 HMc
      obtain ⟨bm, bd, hq⟩ := hq
      have RK := Lib.hid hq
      clear hq
      obtain ⟨bk, hbk⟩ : ∃ bk, bk = w1.heap.size + 1 + 1 := ⟨_, rfl⟩
      rw [← hbk] at RK ⊢
      clear hbk
      go_wp2_with fail
      go_loopw [31] (fun i wr => ∃ k : Nat, k ≤ l.length ∧ i = .int .i64 k ∧ KitR w1 bk bm bd (.slice a g.sources.length cap) (.slice a' g.actions.length cap') g.actions.length (srcF (l.take k)) wr) (fun i _ => l.length - (intOf i).toNat)
      case atStart => exact ⟨0, Nat.zero_le _, rfl, RK.out⟩
      case round =>
        obtain ⟨k, hk, rfl, hR⟩ := hrel
        clear RK
        have RK := Lib.hid hR
        clear hR
        have cm := RK.out.map
        by_cases hlt : k < l.length
        · obtain ⟨b, off, rfl, hfb, hbs, hc⟩ := H5''.out.resolve_left (fun e => by rw [e] at hlt; simp at hlt)
          obtain ⟨hc0, hc1⟩ := hc k hlt
          have d0 := RK.out.old (Nat.lt_trans hbs z1) ((HB1.out.cell (p := ⟨b, off + k * 2, none⟩) hbs).trans hc0)
          have d1 := RK.out.old (Nat.lt_trans hbs z1) ((HB1.out.cell (p := ⟨b, off + k * 2 + 1, none⟩) hbs).trans hc1)
          have hst := srcF_snoc l k hlt
          generalize l.getD k default = sc at d0 d1 hst
          have HST := Lib.hid hst
          clear hst hc hc0 hc1 hfb q0
          go_wp2_with fail
          have RK1 := RK.out.below ((Below.refl _ _).alloc (Nat.le_refl _) (.cells #[.string sc.name, .string sc.blob] 58))
          have cq := RK1.map
          have cn0 : (wr.alloc (.cells #[.string sc.name, .string sc.blob] 58)).cell? ⟨wr.heap.size, 0, none⟩ = some (.string sc.name) := World.cell?_alloc_new _ _ _ _
          have cn1 : (wr.alloc (.cells #[.string sc.name, .string sc.blob] 58)).cell? ⟨wr.heap.size, 1, none⟩ = some (.string sc.blob) := World.cell?_alloc_new _ _ _ _
          generalize wr.alloc (.cells #[.string sc.name, .string sc.blob] 58) = w8 at RK1 cq cn0 cn1 ⊢
          have RQ := Lib.hid RK1.drew; clear RK1
          go_still_tail 10, (by kernel_rfl)
          change wpList _ _ _ _ _ (World.drew _)
          go_wp2_with (at_mapUpdate; refine wpList_xput _ rfl _ _ _ 59 rfl 9 48 Tryz.underlying59 Tryz.underlying9 Res.v bm (srcF (l.take k)) rfl RQ.out.xm sc.name rfl ⟨0, sc.blob⟩ rfl ?_; intro w2 hx2 hg2)
          have RK2 := Lib.hid (RQ.out.put hx2 hg2)
          clear hx2 hg2 cm RK d0 d1
          go_wp2_with fail
          first
            | exact ⟨⟨k + 1, by omega, by go_num, by rw [HST.out]; exact RK2.out⟩, by simp [intOf]; omega⟩
            | (go_roundw
               case rel => exact ⟨k + 1, by omega, by go_num, by rw [HST.out]; exact RK2.out⟩
               case measure => simp [intOf]; omega)
        · obtain rfl : k = l.length := by omega
          have RK1 := RK.out
          rw [List.take_length] at RK1
          have q0r := RK.out.old z1 q0
          have hl := RK1.xm.run_len (P := Tryz.prog) Tryz.underlying59 3
          have HApart : (srcF l).length = l.length → Hid ((srcF l).length = l.length) := fun h => Lib.hid h
          clear RK
          have RK := Lib.hid RK1
          clear RK1
          by_cases hlen : (srcF l).length = l.length
          · have HLen := Lib.hid hlen
            rw [hlen] at hl
            clear hlen HApart
            go_wp2_with fail
            obtain ⟨wo, rfl⟩ : ∃ wo : World, wo = wr := ⟨_, rfl⟩
            clear hl cm q0r
            go_loopw [57] (fun i wr => ∃ k : Nat, k ≤ g.sources.length ∧ i = .int .i64 k ∧ KitR w1 bk bm bd (.slice a g.sources.length cap) (.slice a' g.actions.length cap') g.actions.length (srcF l) wr ∧ (g.sources.take k).all (hasB (srcF l)) = true) (fun i _ => g.sources.length - (intOf i).toNat)
            case atStart => exact ⟨0, Nat.zero_le _, rfl, RK.out, rfl⟩
            case round =>
              obtain ⟨k, hk, rfl, hR, hA⟩ := hrel
              clear RK
              have RK := Lib.hid hR
              have HA := Lib.hid hA
              clear hR hA
              have cm := RK.out.map
              by_cases hlt : k < g.sources.length
              · obtain ⟨b, off, rfl, hfb, hbs, hc⟩ := H5.out.resolve_left (fun e => by rw [e] at hlt; simp at hlt)
                have d0 := RK.out.old (Nat.lt_trans hbs z1) ((HB1.out.cell (p := ⟨b, off + k, none⟩) hbs).trans (hc k hlt))
                have hst := all_take (hasB (srcF l)) ByteArray.empty g.sources k hlt
                have hsm := getD_mem ByteArray.empty hlt
                generalize g.sources.getD k ByteArray.empty = s at d0 hst hsm
                have HSm := Lib.hid hsm
                clear hsm
                have HST := Lib.hid hst
                clear hst hc hfb
                have hxx : hasB (srcF l) s = (mget (srcF l) s).isSome := rfl
                rw [hxx] at HST
                clear hxx
                have RK1 := Lib.hid (fun (o : Obj) => RK.out.below ((Below.refl _ _).alloc (Nat.le_refl _) o))
                cases hh : (mget (srcF l) s).isSome
                · have HH := Lib.hid hh
                  have HBad := Lib.hid (show checkedE g ≠ 0 ∨ ¬ SrcFit g l from .inr fun h => by have h2 := h.there s HSm.out; unfold hasB at h2; rw [hh] at h2; cases h2)
                  clear hh
                  go_wp2_with (at_lookup; refine wpList_xlook2 _ rfl _ _ 59 rfl 9 48 Tryz.underlying59 Tryz.underlying9 Res.v dRes (zeroRes _) bm (srcF l) rfl RK.out.xm s rfl ?_; rw [HH.out]; simp only [Res.v])
                  go_ret2
                  exact LaidPost.err 22 (by decide) (HB1.out.trans ((RK1.out _).1.mono HB1.out.size)) HBad.out
                · have HH := Lib.hid hh
                  clear hh
                  have HY := Lib.hid (show (g.sources.take (k + 1)).all (hasB (srcF l)) = true by rw [HST.out, HA.out, HH.out]; rfl)
                  go_wp2_with (at_lookup; refine wpList_xlook2 _ rfl _ _ 59 rfl 9 48 Tryz.underlying59 Tryz.underlying9 Res.v dRes (zeroRes _) bm (srcF l) rfl RK.out.xm s rfl ?_; rw [HH.out]; simp only [Res.v])
                  first
                    | exact ⟨⟨k + 1, by omega, by go_num, RK1.out _, HY.out⟩, by simp [intOf]; omega⟩
                    | (go_roundw
                       case rel => exact ⟨k + 1, by omega, by go_num, RK1.out _, HY.out⟩
                       case measure => simp [intOf]; omega)
              · obtain rfl : k = g.sources.length := by omega
                have HA1 := HA.out
                rw [List.take_length] at HA1
                have HA2 := Lib.hid HA1
                have q0r := RK.out.old z1 q0
                clear HA1 HA
                by_cases hll : l.length = g.sources.length
                · have HLL := Lib.hid hll
                  have hb : ((l.length : Int) != (g.sources.length : Int)) = false := by simp [bne, hll]
                  clear hll
                  go_wp2_with fail
                  obtain ⟨wo, rfl⟩ : ∃ wo : World, wo = wr := ⟨_, rfl⟩
                  clear cm q0r hb
                  go_loopw [81] (fun i wr => ∃ k : Nat, k ≤ l.length ∧ i = .int .i64 k ∧ KitR w1 bk bm bd (.slice a g.sources.length cap) (.slice a' g.actions.length cap') g.actions.length (srcF l) wr ∧ (l.take k).all (fun s => decide (s.blob.size ≤ 512)) = true) (fun i _ => l.length - (intOf i).toNat)
                  case atStart => exact ⟨0, Nat.zero_le _, rfl, RK.out, rfl⟩
                  case round =>
                    obtain ⟨k, hk, rfl, hR, hA⟩ := hrel
                    clear RK
                    have RK := Lib.hid hR
                    have HA := Lib.hid hA
                    clear hR hA
                    by_cases hlt : k < l.length
                    · obtain ⟨b, off, rfl, hfb, hbs, hc⟩ := H5''.out.resolve_left (fun e => by rw [e] at hlt; simp at hlt)
                      obtain ⟨hc0, hc1⟩ := hc k hlt
                      have d0 := RK.out.old (Nat.lt_trans hbs z1) ((HB1.out.cell (p := ⟨b, off + k * 2, none⟩) hbs).trans hc0)
                      have d1 := RK.out.old (Nat.lt_trans hbs z1) ((HB1.out.cell (p := ⟨b, off + k * 2 + 1, none⟩) hbs).trans hc1)
                      have hst := all_take (fun s : Src => decide (s.blob.size ≤ 512)) default l k hlt
                      have hsm := getD_mem (default : Src) hlt
                      generalize l.getD k default = sc at d0 d1 hst hsm
                      have HST := Lib.hid hst
                      have HSm := Lib.hid hsm
                      clear hst hc hc0 hc1 hfb q0 hsm
                      have RK1 := Lib.hid (RK.out.below ((Below.refl _ _).alloc (Nat.le_refl _) (.cells #[.string sc.name, .string sc.blob] 58)))
                      by_cases hz : sc.blob.size ≤ 512
                      · have HZ := Lib.hid (show (l.take (k + 1)).all (fun s => decide (s.blob.size ≤ 512)) = true by rw [HST.out, HA.out, decide_eq_true hz]; rfl)
                        go_wp2_with fail
                        first
                          | exact ⟨⟨k + 1, by omega, by go_num, RK1.out, HZ.out⟩, by simp [intOf]; omega⟩
                          | (go_roundw
                             case rel => exact ⟨k + 1, by omega, by go_num, RK1.out, HZ.out⟩
                             case measure => simp [intOf]; omega)
                      · have HBad := Lib.hid (show checkedE g ≠ 0 ∨ ¬ SrcFit g l from .inr fun h => hz (h.small sc HSm.out))
                        go_wp2_with fail
                        go_ret2
                        exact LaidPost.err 33 (by decide) (HB1.out.trans (RK1.out.1.mono HB1.out.size)) HBad.out
                    · obtain rfl : k = l.length := by omega
                      have HA1 := HA.out
                      rw [List.take_length] at HA1
                      have HA3 := Lib.hid HA1
                      clear HA1
                      go_wp2_with fail
                      go_ret2
                      exact ⟨_, 0, rfl, HB1.out.trans (RK.out.1.mono HB1.out.size), fun _ => ⟨HE.out, ⟨HLen.out, fun s hs => List.all_eq_true.1 HA2.out s hs, HLL.out, fun s hs => by simpa using List.all_eq_true.1 HA3.out s hs⟩, bk, bm, bd, rfl, RK.out.lower HB1.out⟩, fun h => absurd rfl h⟩
                · have hb : ((l.length : Int) != (g.sources.length : Int)) = true := by rw [bne_iff_ne]; omega
                  have HBad := Lib.hid (show checkedE g ≠ 0 ∨ ¬ SrcFit g l from .inr fun h => hll h.len)
                  clear hll
                  go_wp2_with fail
                  go_ret2
                  exact LaidPost.err 22 (by decide) (HB1.out.trans (RK.out.1.mono HB1.out.size)) HBad.out
          · have hb : (((srcF l).length : Int) != (l.length : Int)) = true := by rw [bne_iff_ne]; omega
            have HBad := Lib.hid (show checkedE g ≠ 0 ∨ ¬ SrcFit g l from .inr fun h => hlen h.apart)
            clear HApart hlen
            generalize (srcF l).length = sl at hl hb
            go_wp2_with fail
            go_ret2
            exact LaidPost.err 21 (by decide) (HB1.out.trans (RK.out.1.mono HB1.out.size)) HBad.out
  · have hb : (checkedE g != 0) = true := by rw [bne_iff_ne]; exact hE
    have HE := Lib.hid hE
    have HBad := Lib.hid (show checkedE g ≠ 0 ∨ ¬ SrcFit g l from .inl hE)
    clear hE
    go_enter Tryz.func27, Tryz.ntmps27
    go_wp2_with fail
    refine (HC.out _ ((Below.refl w.heap.size w).alloc (Nat.le_refl _) _)).mono ?_
    rintro e w1 ⟨rfl, hb1⟩
    have HB1 := Lib.hid (((Below.refl w.heap.size w).alloc (Nat.le_refl _) _).trans (hb1.mono (by simp)))
    clear hb1
    generalize checkedE g = x at hb HE ⊢
    go_wp2_with fail
    go_ret2
    exact LaidPost.err x HE.out HB1.out HBad.out
end Go.Proofs.YtnifkpcjpjgkeaaGreatDoor
