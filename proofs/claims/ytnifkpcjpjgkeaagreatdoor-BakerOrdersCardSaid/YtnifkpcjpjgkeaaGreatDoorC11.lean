/- trellis: what is asked of a build, its order, what an action needs. -/
import Derived.Test.YtnifkpcjpjgkeaaGreatDoorC10
import Derived.Deep.RegionWith
namespace Go.Proofs.YtnifkpcjpjgkeaaGreatDoor
open Go.RowKit Go.Shelf

def checkedE (g : Gr) : Int := if wovenE g ≠ 0 then wovenE g else if (ordG g).length ≠ g.actions.length then 23 else 0
def CheckedPost (g : Gr) (w : World) (e : Ending) (w' : World) : Prop := ∃ p, e = .returned (.tuple #[p, .int .i64 (checkedE g)]) ∧ (checkedE g = 0 → WebAt w' p g) ∧ (p = .pointer none ∨ ∃ b, p = .pointer (some ⟨b, 0, none⟩)) ∧ Below w.heap.size w w'

theorem ordG_length (g : Gr) : (ordG g).length ≤ g.actions.length + 1 := by
  have := ordF_length (atG g) g.actions (g.actions.length + 1) [] []
  simpa [ordG] using this
theorem wovenE_zero {g : Gr} (h : wovenE g = 0) : graphB g = true := by
  unfold wovenE at h
  cases hg : graphB g
  · simp [hg] at h
  · rfl

set_option maxHeartbeats 1000000 in
set_option maxRecDepth 20000 in
theorem checked_any {F : Nat → Prop} (g : Gr) (gs ga : Value) (w : World) (hs : Strs F w gs g.sources) (ha : Acts F w ga g.actions) :
    Calls Tryz.prog 22 #[.agg #[gs, ga]] w (CheckedPost g w) := by
  have HW := Lib.hid (fun (w0 : World) (hb : Below w.heap.size w w0) => woven_any g gs ga w0 (hs.below hb) (ha.below hb))
  obtain ⟨a, cap, rfl, -⟩ := hs
  obtain ⟨a', cap', rfl, h2', h3', -⟩ := ha
  go_enter Tryz.func22, Tryz.ntmps22
  go_wp2_with fail
  refine (HW.out _ ((Below.refl w.heap.size w).alloc (Nat.le_refl _) _)).mono ?_
  rintro e w1 ⟨p, rfl, hp0, hp1, hb1⟩
  obtain ⟨c1, f1⟩ := bcell hb1
  have hz1 : w.heap.size < w1.heap.size := by have := hb1.size; simp at this; omega
  have cg : w1.cell? ⟨w.heap.size, 1, none⟩ = some (.slice a' g.actions.length cap') := (c1 w.heap.size 1 (by simp)).trans (World.cell?_alloc_new _ _ _ _)
  have HB1 := Lib.hid (((Below.refl w.heap.size w).alloc (Nat.le_refl _) _).trans (hb1.mono (by simp))); clear hb1 c1 f1
  by_cases hE : wovenE g = 0
  · have hE1 : (ordG g).length ≠ g.actions.length → checkedE g = 23 := fun h => by simp [checkedE, hE, h]
    have hE2 : (ordG g).length = g.actions.length → checkedE g = 0 := fun h => by simp [checkedE, hE, h]
    have h12 := graphB_12 (wovenE_zero hE)
    have hw := hp0 hE
    have hol := ordG_length g
    have HE1 := Lib.hid hE1
    have HE2 := Lib.hid hE2
    have HW1 := Lib.hid hw
    obtain ⟨bw, bm, gs, ga, rfl, -⟩ := hw
    rw [hE]
    clear hE hE1 hE2 hp0 hp1
    have HO := Lib.hid (fun (w0 : World) (hb : Below w1.heap.size w1 w0) => order_any g bw w0 (HW1.out.below hb) h12)
    go_wp2_with fail
    go_region_with (go_at_call 29; refine (HO.out _ ((Below.refl _ _).drew)).mono ?_; rintro e w2 ⟨v, rfl, hI, hb2⟩; obtain ⟨ao, co, rfl, ho2, ho3, ho4⟩ := hI; have cg2 := (hb2.cell (p := ⟨w.heap.size, 1, none⟩) hz1).trans cg)
    all_goals
      have HB2 := Lib.hid (show Below w1.heap.size w1 w2 from ((Below.refl w1.heap.size w1).drew).trans hb2)
      clear hb2 ho4
      by_cases hl : (ordG g).length = g.actions.length
      · have hb3 : (((ordG g).length : Int) != (g.actions.length : Int)) = false := by simp [bne, hl]
        have HE := Lib.hid (HE2.out hl)
        clear hl
        go_wp2_with fail
        go_ret2
        exact ⟨.pointer (some ⟨bw, 0, none⟩), by rw [HE.out]; rfl, fun _ => HW1.out.below HB2.out, .inr ⟨bw, rfl⟩, HB1.out.trans (HB2.out.mono HB1.out.size)⟩
      · have hb3 : (((ordG g).length : Int) != (g.actions.length : Int)) = true := by rw [bne_iff_ne]; omega
        have HE := Lib.hid (HE1.out hl)
        clear hl
        go_wp2_with fail
        go_ret2
        exact ⟨.pointer none, by rw [HE.out]; rfl, (fun h => absurd (HE.out.symm.trans h) (by decide)), .inl rfl, HB1.out.trans (HB2.out.mono HB1.out.size)⟩
  · have hE1 : checkedE g = wovenE g := by simp [checkedE, hE]
    have HE1 := Lib.hid hE1
    obtain rfl := hp1 hE
    have hb : (wovenE g == 0) = false := by rw [beq_eq_false_iff_ne]; exact hE
    have HE := Lib.hid hE
    clear hE hE1 hp0 hp1
    generalize hx : wovenE g = x at hb ⊢
    have HX := Lib.hid hx
    clear hx
    go_wp2_with fail
    go_quiet (fail)
    go_wp2_with fail
    go_ret2
    exact ⟨.pointer none, by rw [HE1.out, HX.out]; rfl, (fun h => absurd (HE1.out.symm.trans h) HE.out), .inl rfl, below_drewN HB1.out⟩

def CodePost (c : Int) (w : World) (e : Ending) (w' : World) : Prop := e = .returned (.int .i64 c) ∧ Below w.heap.size w w'
set_option maxHeartbeats 400000 in
theorem Check_any {F : Nat → Prop} (g : Gr) (gs ga : Value) (w : World) (hs : Strs F w gs g.sources) (ha : Acts F w ga g.actions) :
    Calls Tryz.prog 39 #[.agg #[gs, ga]] w (CodePost (checkedE g) w) := by
  have HC := Lib.hid (fun (w0 : World) (hb : Below w.heap.size w w0) => checked_any g gs ga w0 (hs.below hb) (ha.below hb))
  obtain ⟨a, cap, rfl, -⟩ := hs
  obtain ⟨a', cap', rfl, -⟩ := ha
  go_enter Tryz.func39, Tryz.ntmps39
  go_wp2_with fail
  refine (HC.out _ ((Below.refl w.heap.size w).alloc (Nat.le_refl _) _)).mono ?_
  rintro e w1 ⟨p, rfl, -, hpp, hb1⟩
  have HB1 := Lib.hid (((Below.refl w.heap.size w).alloc (Nat.le_refl _) _).trans (hb1.mono (by simp))); clear hb1
  generalize hx : checkedE g = x
  have HX := Lib.hid hx
  clear hx
  rcases hpp with rfl | ⟨b, rfl⟩
  all_goals
    go_wp2_with fail
    go_ret
    exact ⟨by rw [HX.out]; rfl, HB1.out⟩

def OrderedPost (g : Gr) (w : World) (e : Ending) (w' : World) : Prop := ∃ v, e = .returned v ∧ Ints (fun b => w.heap.size ≤ b) w' v (if checkedE g = 0 then ordG g else []) ∧ Below w.heap.size w w'
theorem Ints.nil (F : Nat → Prop) (w : World) : Ints F w (.slice none 0 0) [] := ⟨none, 0, rfl, Nat.le_refl _, by simp, .inl rfl⟩
theorem checkedE_woven {g : Gr} (h : checkedE g = 0) : wovenE g = 0 := by
  unfold checkedE at h
  split at h
  · rename_i h1; exact absurd h h1
  · rename_i h1; simpa using h1
theorem checkedE_order {g : Gr} (h : checkedE g = 0) : (ordG g).length = g.actions.length := by
  have hw := checkedE_woven h
  unfold checkedE at h
  rw [if_neg (by simpa using hw)] at h
  split at h
  · cases h
  · rename_i h1; simpa using h1
set_option maxHeartbeats 400000 in
theorem Order_any {F : Nat → Prop} (g : Gr) (gs ga : Value) (w : World) (hs : Strs F w gs g.sources) (ha : Acts F w ga g.actions) :
    Calls Tryz.prog 16 #[.agg #[gs, ga]] w (OrderedPost g w) := by
  have HC := Lib.hid (fun (w0 : World) (hb : Below w.heap.size w w0) => checked_any g gs ga w0 (hs.below hb) (ha.below hb))
  obtain ⟨a, cap, rfl, -⟩ := hs
  obtain ⟨a', cap', rfl, -⟩ := ha
  go_enter Tryz.func16, Tryz.ntmps16
  go_wp2_with fail
  refine (HC.out _ ((Below.refl w.heap.size w).alloc (Nat.le_refl _) _)).mono ?_
  rintro e w1 ⟨p, rfl, hw, hpp, hb1⟩
  have HB1 := Lib.hid (((Below.refl w.heap.size w).alloc (Nat.le_refl _) _).trans (hb1.mono (by simp))); clear hb1
  by_cases hE : checkedE g = 0
  · have hw1 := hw hE
    have h12 := graphB_12 (wovenE_zero (checkedE_woven hE))
    have HW1 := Lib.hid hw1
    obtain ⟨bw, bm, gs, ga, rfl, -⟩ := hw1
    have HE := Lib.hid hE
    rw [hE]
    clear hE hw hpp
    go_wp2_with fail
    refine (order_any g bw _ HW1.out h12).mono ?_
    rintro e w2 ⟨v, rfl, hI, hb2⟩
    have HI := Lib.hid hI
    have HB2 := Lib.hid hb2
    obtain ⟨ao, co, rfl, -⟩ := hI
    clear hb2
    go_wp2_with fail
    go_ret
    exact ⟨_, rfl, by rw [if_pos HE.out]; exact HI.out.keep (fun b hb => Nat.le_trans HB1.out.size hb) ⟨Nat.le_refl _, fun _ _ _ => rfl⟩, HB1.out.trans (HB2.out.mono HB1.out.size)⟩
  · have hb : (checkedE g != 0) = true := by rw [bne_iff_ne]; exact hE
    have HE := Lib.hid hE
    clear hw hE
    generalize hx : checkedE g = x at hb ⊢
    have HX := Lib.hid hx
    clear hx
    rcases hpp with rfl | ⟨b, rfl⟩
    all_goals
      go_wp2_with fail
      go_ret
      exact ⟨_, rfl, by rw [if_neg HE.out]; exact Ints.nil _ _, HB1.out⟩
end Go.Proofs.YtnifkpcjpjgkeaaGreatDoor
