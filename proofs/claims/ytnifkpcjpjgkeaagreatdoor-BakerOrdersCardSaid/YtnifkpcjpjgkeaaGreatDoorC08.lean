/- trellis: a build by its names. -/
import Derived.Test.YtnifkpcjpjgkeaaGreatDoorC07
import Derived.Test.YtnifkpcjpjgkeaaGreatDoorB08
import Derived.StillTailTactics
import Derived.BigQuiet
import Derived.Deep.QuietTactic
import Derived.Deep.LoopGhost
namespace Go.Proofs.YtnifkpcjpjgkeaaGreatDoor
open Go.RowKit Go.Shelf

def intV (n : Int) : Value := .int .i64 n
def boolV (b : Bool) : Value := .bool b

/-- The places of a build's names. -/
def atS (l : List ByteArray) : Nat → List (ByteArray × Int)
  | 0 => []
  | k + 1 => mput (atS l k) (l.getD k ByteArray.empty) (-1)
def atA (M : List (ByteArray × Int)) (l : List Act) : Nat → List (ByteArray × Int)
  | 0 => M
  | k + 1 => mput (atA M l k) (l.getD k default).name (k : Int)
def atG (g : Gr) : List (ByteArray × Int) := atA (atS g.sources g.sources.length) g.actions g.actions.length
/-- Whether all inputs are there. -/
def allIn (M : List (ByteArray × Int)) (l : List Act) : Bool := l.all fun a => a.inputs.all fun s => (mget M s).isSome
def wovenE (g : Gr) : Int := if !graphB g then 1 else if (atG g).length ≠ g.sources.length + g.actions.length then 21 else if !allIn (atG g) g.actions then 22 else 0

def anyBlk : Nat → Prop := fun _ => True
theorem Strs.any {F : Nat → Prop} {w : World} {v : Value} {l : List ByteArray} (h : Strs F w v l) : Strs anyBlk w v l := h.keep (fun _ _ => trivial) ⟨Nat.le_refl _, fun _ _ _ => rfl⟩
theorem Acts.any {F : Nat → Prop} {w : World} {v : Value} {l : List Act} (h : Acts F w v l) : Acts anyBlk w v l := h.keep (fun _ _ => trivial) ⟨Nat.le_refl _, fun _ _ _ => rfl⟩

/-- p points to a build by its names. -/
def WebAt (w : World) (p : Value) (g : Gr) : Prop := ∃ bw bm gs ga, p = .pointer (some ⟨bw, 0, none⟩) ∧ w.heap[bw]? = some (.cells #[gs, ga, .map (some bm)] 78) ∧ Strs anyBlk w gs g.sources ∧ Acts anyBlk w ga g.actions ∧ XMap intV w bm (atG g)
theorem WebAt.below {w w' : World} {p : Value} {g : Gr} (h : WebAt w p g) (hb : Below w.heap.size w w') : WebAt w' p g := by
  obtain ⟨bw, bm, gs, ga, h1, h2, h3, h4, h5⟩ := h
  exact ⟨bw, bm, gs, ga, h1, (hb.block bw (Array.getElem?_eq_some_iff.1 h2).1).trans h2, h3.below hb, h4.below hb, h5.below hb⟩

/-- While a build is woven: the blocks of the map and of the web behind w1's. -/
def WovR (w1 : World) (gs ga : Value) (M : List (ByteArray × Int)) (wr : World) : Prop :=
  Below w1.heap.size w1 wr ∧ w1.heap.size + 1 < wr.heap.size ∧ wr.heap[w1.heap.size + 1]? = some (.cells #[gs, ga, .map (some w1.heap.size)] 78) ∧ XMap intV wr w1.heap.size M
theorem WovR.below {w1 wr w' : World} {gs ga : Value} {M : List (ByteArray × Int)} (h : WovR w1 gs ga M wr) (hb : Below wr.heap.size wr w') : WovR w1 gs ga M w' :=
  ⟨h.1.trans (hb.mono h.1.size), Nat.lt_of_lt_of_le h.2.1 hb.size, (hb.block _ h.2.1).trans h.2.2.1, h.2.2.2.below hb⟩
theorem WovR.put {w1 wr w' : World} {gs ga : Value} {M M' : List (ByteArray × Int)} (h : WovR w1 gs ga M wr) (hx : XMap intV w' w1.heap.size M') (hg : wr.grownBy w' (some w1.heap.size)) : WovR w1 gs ga M' w' :=
  ⟨h.1.grown hg h.1.size (fun k hk => by cases hk; exact Nat.le_refl _), Nat.lt_of_lt_of_le h.2.1 hg.size, (hg.block _ h.2.1 (by simp)).trans h.2.2.1, hx⟩
theorem WovR.drew {w1 wr : World} {gs ga : Value} {M : List (ByteArray × Int)} (h : WovR w1 gs ga M wr) : WovR w1 gs ga M wr.drew := ⟨h.1.drew, h.2⟩
theorem WovR.drewN {w1 wr : World} {gs ga : Value} {M : List (ByteArray × Int)} (h : WovR w1 gs ga M wr) (n : Nat) : WovR w1 gs ga M (wr.drewN n) := ⟨below_drewN h.1, h.2⟩
theorem WovR.map {w1 wr : World} {gs ga : Value} {M : List (ByteArray × Int)} (h : WovR w1 gs ga M wr) : wr.cell? ⟨w1.heap.size + 1, 2, none⟩ = some (.map (some w1.heap.size)) := by
  rw [Lib.cell_of_heap h.2.2.1]; rfl
theorem WovR.old {w1 wr : World} {gs ga : Value} {M : List (ByteArray × Int)} (h : WovR w1 gs ga M wr) {b o : Nat} {v : Value} (hb : b < w1.heap.size) (hc : w1.cell? ⟨b, o, none⟩ = some v) : wr.cell? ⟨b, o, none⟩ = some v :=
  (h.1.cell (p := ⟨b, o, none⟩) hb).trans hc
theorem zeroInt (w : World) : (zeroValue 3).run Tryz.prog w = .ok (intV 0) w := by kernel_rfl

theorem all_take {α : Type} (p : α → Bool) (d : α) (l : List α) (k : Nat) (h : k < l.length) : (l.take (k + 1)).all p = ((l.take k).all p && p (l.getD k d)) := by
  rw [List.take_succ_eq_append_getElem h, List.all_append]
  simp [List.getD_eq_getElem?_getD, List.getElem?_eq_getElem h]
theorem all_false {α : Type} {p : α → Bool} {l : List α} {x : α} (h : x ∈ l) (hp : p x = false) : l.all p = false := by
  cases hh : l.all p
  · rfl
  · rw [List.all_eq_true] at hh
    rw [hh x h] at hp
    cases hp

def WovenPost (g : Gr) (w : World) (e : Ending) (w' : World) : Prop := ∃ p, e = .returned (.tuple #[p, .int .i64 (wovenE g)]) ∧ (wovenE g = 0 → WebAt w' p g) ∧ (wovenE g ≠ 0 → p = .pointer none) ∧ Below w.heap.size w w'

set_option maxHeartbeats 3000000 in
set_option maxRecDepth 20000 in
theorem woven_any {F : Nat → Prop} (g : Gr) (gs ga : Value) (w : World) (hs : Strs F w gs g.sources) (ha : Acts F w ga g.actions) :
    Calls Tryz.prog 35 #[.agg #[gs, ga]] w (WovenPost g w) := by
  have HG := Lib.hid (fun (w0 : World) (hb : Below w.heap.size w w0) => Print_any g gs ga w0 (hs.below hb) (ha.below hb))
  have HSt := Lib.hid hs
  have HAc := Lib.hid ha
  obtain ⟨a, cap, rfl, h2, h3, h4, h5⟩ := hs
  obtain ⟨a', cap', rfl, h2', h3', h4', h5'⟩ := ha
  clear h4 h4'
  cases hg : graphB g
  · clear h5 h5'
    have hE : wovenE g = 1 := by simp [wovenE, hg]
    have HE := Lib.hid hE; clear hE
    go_enter Tryz.func35, Tryz.ntmps35
    go_wp2_with fail
    refine (HG.out _ ((Below.refl w.heap.size w).alloc (Nat.le_refl _) _)).mono ?_
    rintro e w1 ⟨s, he, hb1⟩
    rw [hg] at he
    subst he
    have HB1 := Lib.hid (((Below.refl w.heap.size w).alloc (Nat.le_refl _) _).trans (hb1.mono (by simp))); clear hb1
    go_wp2_with fail
    go_ret2
    exact ⟨.pointer none, by rw [HE.out]; rfl, (fun h => absurd (HE.out.symm.trans h) (by decide)), fun _ => rfl, HB1.out⟩
  · go_enter Tryz.func35, Tryz.ntmps35
    go_wp2_with fail
    refine (HG.out _ ((Below.refl w.heap.size w).alloc (Nat.le_refl _) _)).mono ?_
    rintro e w1 ⟨s, he, hb1⟩
    rw [hg] at he
    subst he
    obtain ⟨c1, f1⟩ := bcell hb1
    have hz1 : w.heap.size < w1.heap.size := by have := hb1.size; simp at this; omega
    have HB1 := Lib.hid (((Below.refl w.heap.size w).alloc (Nat.le_refl _) _).trans (hb1.mono (by simp))); clear hb1
    have hk8 := graphB_8 hg
    have hk12 := graphB_12 hg
    have hmm := @run_makeMap Tryz.prog
    go_wp2_with fail
    clear hmm
    have xW := (XMap.made intV w1).below ((Below.refl (w1.alloc (.map #[] 0)).heap.size _).alloc (Nat.le_refl _) (.cells #[.slice a g.sources.length cap, .slice a' g.actions.length cap', .map (some w1.heap.size)] 78))
    have bW : Below w1.heap.size w1 ((w1.alloc (.map #[] 0)).alloc (.cells #[.slice a g.sources.length cap, .slice a' g.actions.length cap', .map (some w1.heap.size)] 78)) := ((Below.refl _ _).alloc (Nat.le_refl _) _).alloc (by simp) _
    have zW : w1.heap.size + 1 < ((w1.alloc (.map #[] 0)).alloc (.cells #[.slice a g.sources.length cap, .slice a' g.actions.length cap', .map (some w1.heap.size)] 78)).heap.size := by simp
    have kW : ((w1.alloc (.map #[] 0)).alloc (.cells #[.slice a g.sources.length cap, .slice a' g.actions.length cap', .map (some w1.heap.size)] 78)).heap[w1.heap.size + 1]? = some (.cells #[.slice a g.sources.length cap, .slice a' g.actions.length cap', .map (some w1.heap.size)] 78) := by
      have := (MapKept.heap_alloc (w1.alloc (.map #[] 0)) (.cells #[.slice a g.sources.length cap, .slice a' g.actions.length cap', .map (some w1.heap.size)] 78)).1
      simpa using this
    have cw0 : w1.cell? ⟨w.heap.size, 0, none⟩ = some (.slice a g.sources.length cap) := (c1 w.heap.size 0 (by simp)).trans (World.cell?_alloc_new _ _ _ _)
    have cw1 : w1.cell? ⟨w.heap.size, 1, none⟩ = some (.slice a' g.actions.length cap') := (c1 w.heap.size 1 (by simp)).trans (World.cell?_alloc_new _ _ _ _)
    have RW := Lib.hid (show WovR w1 (.slice a g.sources.length cap) (.slice a' g.actions.length cap') (atS g.sources 0) _ from ⟨bW, zW, kW, xW⟩)
    generalize (w1.alloc (.map #[] 0)).alloc (.cells #[.slice a g.sources.length cap, .slice a' g.actions.length cap', .map (some w1.heap.size)] 78) = wW at *
    clear xW bW kW c1 f1 zW
    go_loopw [31] (fun i wr => ∃ k : Nat, k ≤ g.sources.length ∧ i = .int .i64 k ∧ WovR w1 (.slice a g.sources.length cap) (.slice a' g.actions.length cap') (atS g.sources k) wr) (fun i _ => g.sources.length - (intOf i).toNat)
    case atStart => exact ⟨0, Nat.zero_le _, rfl, RW.out⟩
    case round =>
      obtain ⟨k, hk, rfl, hR⟩ := hrel
      clear RW
      have RW := Lib.hid hR; clear hR
      have cm := RW.out.map
      by_cases hlt : k < g.sources.length
      · obtain ⟨b, off, rfl, hfb, hbs, hc⟩ := h5.resolve_left (fun e => by rw [e] at hlt; simp at hlt)
        have hcell := RW.out.old (Nat.lt_trans hbs hz1) ((HB1.out.cell (p := ⟨b, off + k, none⟩) hbs).trans (hc k hlt))
        have hst : atS g.sources (k + 1) = mput (atS g.sources k) (g.sources.getD k ByteArray.empty) (-1) := rfl
        generalize g.sources.getD k ByteArray.empty = s' at hcell hst
        have HST := Lib.hid hst; clear hst
        clear hc h5 h5' hfb cw0 cw1
        go_wp2_with (at_mapUpdate; refine wpList_xput _ rfl _ _ _ 76 rfl 9 3 Tryz.underlying76 Tryz.underlying9 intV w1.heap.size (atS g.sources k) rfl RW.out.2.2.2 s' rfl (-1) rfl ?_; intro w2 hx2 hg2)
        have RW2 := Lib.hid (RW.out.put hx2 hg2)
        clear hx2 hg2 cm RW
        go_wp2_with fail
        go_roundw
        case rel => exact ⟨k + 1, by omega, by go_num, by rw [HST.out]; exact RW2.out⟩
        case measure => simp [intOf]; omega
      · obtain rfl : k = g.sources.length := by omega
        have cwr0 := RW.out.old hz1 cw0
        have cwr1 := RW.out.old hz1 cw1
        clear h5
        go_wp2_with fail
        obtain ⟨wo, rfl⟩ : ∃ wo : World, wo = wr := ⟨_, rfl⟩
        go_loopw [44] (fun i wr => ∃ k : Nat, k ≤ g.actions.length ∧ i = .int .i64 k ∧ WovR w1 (.slice a g.sources.length cap) (.slice a' g.actions.length cap') (atA (atS g.sources g.sources.length) g.actions k) wr) (fun i _ => g.actions.length - (intOf i).toNat)
        case atStart => exact ⟨0, Nat.zero_le _, rfl, RW.out⟩
        case round =>
          obtain ⟨k, hk, rfl, hR⟩ := hrel
          have HwR := Lib.hid (RW.out.1)
          clear RW cm
          have RW := Lib.hid hR; clear hR
          have cm := RW.out.map
          by_cases hlt : k < g.actions.length
          · obtain ⟨b, off, rfl, hfb, hbs, hc⟩ := h5'.resolve_left (fun e => by rw [e] at hlt; simp at hlt)
            obtain ⟨iv, hiv, hc0, hc1, hc2⟩ := hc k hlt
            have kc : ∀ o v, w.cell? ⟨b, o, none⟩ = some v → wr.cell? ⟨b, o, none⟩ = some v := fun o v h => RW.out.old (Nat.lt_trans hbs hz1) ((HB1.out.cell (p := ⟨b, o, none⟩) hbs).trans h)
            have d0 := kc _ _ hc0
            have d1 := kc _ _ hc1
            have d2 := kc _ _ hc2
            have hst : atA (atS g.sources g.sources.length) g.actions (k + 1) = mput (atA (atS g.sources g.sources.length) g.actions k) (g.actions.getD k default).name (k : Int) := rfl
            generalize g.actions.getD k default = ac at d0 d1 d2 hiv hst
            have HST := Lib.hid hst; clear hst
            obtain ⟨ai, capi, rfl, -⟩ := hiv
            clear hc h5' hfb kc hc0 hc1 hc2 cwr0 cwr1 cw0 cw1
            go_wp2_with fail
            have RWq := RW.out.below ((Below.refl _ _).alloc (Nat.le_refl _) (.cells #[.string ac.name, .slice ai ac.inputs.length capi, .string ac.code] 55))
            have cq := RWq.map
            have cn : (wr.alloc (.cells #[.string ac.name, .slice ai ac.inputs.length capi, .string ac.code] 55)).cell? ⟨wr.heap.size, 0, none⟩ = some (.string ac.name) := World.cell?_alloc_new _ _ _ _
            generalize wr.alloc (.cells #[.string ac.name, .slice ai ac.inputs.length capi, .string ac.code] 55) = wq at RWq cq cn ⊢
            have RQ := Lib.hid RWq.drew; clear RWq
            go_still_tail 8, (by kernel_rfl)
            change wpList _ _ _ _ _ (World.drew _)
            go_wp2_with (at_mapUpdate; refine wpList_xput _ rfl _ _ _ 76 rfl 9 3 Tryz.underlying76 Tryz.underlying9 intV w1.heap.size (atA (atS g.sources g.sources.length) g.actions k) rfl RQ.out.2.2.2 ac.name rfl (k : Int) rfl ?_; intro w2 hx2 hg2)
            have RW2 := Lib.hid (RQ.out.put hx2 hg2)
            clear hx2 hg2 cm RW d0 d1 d2
            go_wp2_with fail
            go_roundw
            case rel => exact ⟨k + 1, by omega, by go_num, by rw [HST.out]; exact RW2.out⟩
            case measure => simp [intOf]; omega
          · obtain rfl : k = g.actions.length := by omega
            have cr0 := RW.out.old hz1 cw0
            have cr1 := RW.out.old hz1 cw1
            have hE1 : (atG g).length ≠ g.sources.length + g.actions.length → wovenE g = 21 := fun h => by simp [wovenE, hg, h]
            have hE2 : (atG g).length = g.sources.length + g.actions.length → allIn (atG g) g.actions = false → wovenE g = 22 := fun h h' => by simp [wovenE, hg, h, h']
            have hE3 : (atG g).length = g.sources.length + g.actions.length → allIn (atG g) g.actions = true → wovenE g = 0 := fun h h' => by simp [wovenE, hg, h, h']
            have RG := Lib.hid (show WovR w1 (.slice a g.sources.length cap) (.slice a' g.actions.length cap') (atG g) wr from RW.out)
            have hX : ∀ w', XMap intV w' w1.heap.size (atG g) → XMap intV w' w1.heap.size (atG g) := fun _ h => h
            have HX := Lib.hid hX
            clear RW hX
            have hM : ∃ M, M = atG g := ⟨_, rfl⟩
            obtain ⟨M, hM⟩ := hM
            rw [← hM] at RG hE1 hE2 hE3
            have HM := Lib.hid hM
            have HE1 := Lib.hid hE1
            have HE2 := Lib.hid hE2
            have HE3 := Lib.hid hE3
            clear hM hE1 hE2 hE3
            have hl := fun nq => (RG.out.drewN nq).2.2.2.run_len (P := Tryz.prog) Tryz.underlying76 3
            clear cwr0 cwr1 cw0 cw1
            have hcap : (g.sources.length : Int) + g.actions.length ≤ 100 := by omega
            go_wp2_with fail
            go_quiet (fail)
            have RG' := Lib.hid (RG.out.drewN nq)
            by_cases hlen : M.length = g.sources.length + g.actions.length
            · have hb : ((M.length : Int) != (g.sources.length : Int) + g.actions.length) = false := by simp [bne, hlen]
              have HLen := Lib.hid hlen; clear hlen
              clear hl
              rw [hb]
              clear hb
              go_wp2_with fail
              obtain ⟨wp, hwp⟩ : ∃ wp : World, wp = wr.drewN nq := ⟨_, rfl⟩
              rw [← hwp] at RG' ⊢
              clear hwp
              go_loopw [74] (fun i wr => ∃ k : Nat, k ≤ g.actions.length ∧ i = .int .i64 k ∧ WovR w1 (.slice a g.sources.length cap) (.slice a' g.actions.length cap') M wr ∧ allIn M (g.actions.take k) = true) (fun i _ => g.actions.length - (intOf i).toNat)
              case atStart => exact ⟨0, Nat.zero_le _, rfl, RG'.out, rfl⟩
              case round =>
                obtain ⟨k, hk, rfl, hR, hall⟩ := hrel
                have RW := Lib.hid hR
                have HAll := Lib.hid hall
                clear hR hall cm cr0 cr1 RG RG' HX
                by_cases hlt : k < g.actions.length
                · obtain ⟨b, off, rfl, hfb, hbs, hc⟩ := h5'.resolve_left (fun e => by rw [e] at hlt; simp at hlt)
                  obtain ⟨iv, hiv, hc0, hc1, hc2⟩ := hc k hlt
                  have kc : ∀ o v, w.cell? ⟨b, o, none⟩ = some v → wr.cell? ⟨b, o, none⟩ = some v := fun o v h => RW.out.old (Nat.lt_trans hbs hz1) ((HB1.out.cell (p := ⟨b, o, none⟩) hbs).trans h)
                  have d0 := kc _ _ hc0
                  have d1 := kc _ _ hc1
                  have d2 := kc _ _ hc2
                  have hmem : g.actions.getD k default ∈ g.actions := by rw [List.getD_eq_getElem?_getD, List.getElem?_eq_getElem hlt]; exact List.getElem_mem hlt
                  have hst := all_take (fun a : Act => a.inputs.all fun s => (mget M s).isSome) default g.actions k hlt
                  have hin4 := (actB_parts (graphB_acts hg _ hmem)).2.2.1
                  generalize g.actions.getD k default = ac at d0 d1 d2 hiv hst hmem hin4
                  have HST := Lib.hid hst
                  have HMem := Lib.hid hmem
                  obtain ⟨ai, capi, rfl, hi2, hi3, -, hi5⟩ := hiv
                  clear hst hmem hc h5' hfb kc hc0 hc1 hc2
                  go_wp2_with fail
                  have RW1 := Lib.hid (RW.out.below ((Below.refl _ _).alloc (Nat.le_refl _) (.cells #[.string ac.name, .slice ai ac.inputs.length capi, .string ac.code] 55)))
                  generalize wr.alloc (.cells #[.string ac.name, .slice ai ac.inputs.length capi, .string ac.code] 55) = wq at RW1 ⊢
                  go_loopw [81] (fun i wr => ∃ j : Nat, j ≤ ac.inputs.length ∧ i = .int .i64 j ∧ WovR w1 (.slice a g.sources.length cap) (.slice (some ⟨b, off, none⟩) g.actions.length cap') M wr ∧ ((ac.inputs.take j).all fun s => (mget M s).isSome) = true) (fun i _ => ac.inputs.length - (intOf i).toNat)
                  case atStart => exact ⟨0, Nat.zero_le _, rfl, RW1.out, rfl⟩
                  case round =>
                    obtain ⟨j, hj, rfl, hR, hall⟩ := hrel
                    have RW2 := Lib.hid hR
                    have HAll2 := Lib.hid hall
                    clear hR hall RW1
                    have cm := RW2.out.map
                    by_cases hlt2 : j < ac.inputs.length
                    · obtain ⟨bi, oi, rfl, hfi, hbi, hci⟩ := hi5.resolve_left (fun e => by rw [e] at hlt2; simp at hlt2)
                      have hcell := RW2.out.old (Nat.lt_trans hbi hz1) ((HB1.out.cell (p := ⟨bi, oi + j, none⟩) hbi).trans (hci j hlt2))
                      have hst2 := all_take (fun s => (mget M s).isSome) ByteArray.empty ac.inputs j hlt2
                      have hmem2 : ac.inputs.getD j ByteArray.empty ∈ ac.inputs := by rw [List.getD_eq_getElem?_getD, List.getElem?_eq_getElem hlt2]; exact List.getElem_mem hlt2
                      generalize ac.inputs.getD j ByteArray.empty = s2 at hcell hst2 hmem2
                      have HST2 := Lib.hid hst2
                      have HMem2 := Lib.hid hmem2
                      clear hst2 hmem2 hci hi5 hfi d0 d1 d2
                      go_wp2_with (at_lookup; refine wpList_xlook2 _ rfl _ _ 76 rfl 9 3 Tryz.underlying76 Tryz.underlying9 intV 0 (zeroInt _) w1.heap.size M rfl RW2.out.2.2.2 s2 rfl ?_)
                      · have hno : (mget M s2).isSome = false := by
                          have h : (mget M s2).isNone = true := by assumption
                          cases hh : mget M s2 <;> simp_all
                        have HE := Lib.hid (HE2.out HLen.out (all_false HMem.out (all_false HMem2.out hno)))
                        go_ret2
                        exact ⟨.pointer none, by rw [HE.out]; rfl, (fun h => absurd (HE.out.symm.trans h) (by decide)), fun _ => rfl, HB1.out.trans (RW2.out.1.mono HB1.out.size)⟩
                      · have hyes : (mget M s2).isSome = true := by
                          have h : (mget M s2).isNone = false := by assumption
                          cases hh : mget M s2 <;> simp_all
                        have HY := Lib.hid (show ((ac.inputs.take (j + 1)).all fun s => (mget M s).isSome) = true by rw [HST2.out, HAll2.out, hyes]; rfl)
                        go_roundw
                        case rel => exact ⟨j + 1, by omega, by go_num, RW2.out, HY.out⟩
                        case measure => simp [intOf]; omega
                    · have HY := Lib.hid (show allIn M (g.actions.take (k + 1)) = true by
                        have h1 := HST.out
                        have h2 := HAll2.out
                        have h3 := HAll.out
                        rw [List.take_of_length_le (by omega)] at h2
                        unfold allIn at h3 ⊢
                        rw [h1, h3, h2]; rfl)
                      go_wp2_with fail
                      go_roundw
                      case rel => exact ⟨k + 1, by omega, by go_num, RW2.out, HY.out⟩
                      case measure => simp [intOf]; omega
                · go_wp2_with fail
                  go_ret2
                  have hz : wovenE g = 0 := HE3.out HLen.out (by have := HAll.out; rwa [List.take_of_length_le (by omega)] at this)
                  refine ⟨.pointer (some ⟨w1.heap.size + 1, 0, none⟩), by rw [hz]; rfl, fun _ => ?_, fun h => absurd hz h, HB1.out.trans (RW.out.1.mono HB1.out.size)⟩
                  refine ⟨w1.heap.size + 1, w1.heap.size, _, _, rfl, RW.out.2.2.1, ?_, ?_, by rw [← HM.out]; exact RW.out.2.2.2⟩
                  · exact (HSt.out.below (HB1.out.trans (RW.out.1.mono HB1.out.size))).any
                  · exact (HAc.out.below (HB1.out.trans (RW.out.1.mono HB1.out.size))).any
            · have hb : ((M.length : Int) != (g.sources.length : Int) + g.actions.length) = true := by rw [bne_iff_ne]; omega
              have HE := Lib.hid (HE1.out hlen); clear hlen
              clear hl
              go_wp2_with fail
              go_ret2
              exact ⟨.pointer none, by rw [HE.out]; rfl, (fun h => absurd (HE.out.symm.trans h) (by decide)), fun _ => rfl, HB1.out.trans (RG'.out.1.mono HB1.out.size)⟩
end Go.Proofs.YtnifkpcjpjgkeaaGreatDoor
