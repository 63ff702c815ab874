/- recipe: what can be a name, an action, a build. -/
import Derived.Test.YtnifkpcjpjgkeaaGreatDoorB05
namespace Go.Proofs.YtnifkpcjpjgkeaaGreatDoor
open Go.RowKit Go.Shelf

def letters : List UInt8 := [97, 98, 99, 100, 101, 102, 103, 104, 105, 106, 107, 108, 109, 110, 111, 112, 113, 114, 115, 116, 117, 118, 119, 120, 121, 122, 48, 49, 50, 51, 52, 53, 54, 55, 56, 57]
def trimmed (s : ByteArray) : ByteArray := ⟨(Lib.trimS s.data.toList letters).toArray⟩
def nameB (s : ByteArray) : Bool := !s.toList.isEmpty && decide (s.size ≤ 8) && (trimmed s).toList.isEmpty
def namesB (l : List ByteArray) : Bool := !(l.any (fun s => !nameB s))
def actB (a : Act) : Bool := nameB a.name && namesB a.inputs && decide (a.inputs.length ≤ 4) && decide (a.code.size ≤ 64)
def graphB (g : Gr) : Bool := decide (g.sources.length ≤ 8) && decide (g.actions.length ≤ 12) && namesB g.sources && !(g.actions.any (fun a => !actB a))

theorem Trim_letters (s : ByteArray) (hs : Fits s) (w : World) :
    Calls Tryz.prog 108 #[.string s, .string ⟨#[97, 98, 99, 100, 101, 102, 103, 104, 105, 106, 107, 108, 109, 110, 111, 112, 113, 114, 115, 116, 117, 118, 119, 120, 121, 122, 48, 49, 50, 51, 52, 53, 54, 55, 56, 57]⟩] w fun e w' => e = .returned (.string (trimmed s)) ∧ Below w.heap.size w w' :=
  Any.strings_Trim_laid Tryz.lays160 (by kernel_rfl) s ⟨#[97, 98, 99, 100, 101, 102, 103, 104, 105, 106, 107, 108, 109, 110, 111, 112, 113, 114, 115, 116, 117, 118, 119, 120, 121, 122, 48, 49, 50, 51, 52, 53, 54, 55, 56, 57]⟩ w (by unfold Fits at hs; omega) (by decide) (ascii_of_all (by decide))

set_option maxHeartbeats 400000 in
set_option maxRecDepth 20000 in
theorem IsName_any (s : ByteArray) (w : World) (hs : Fits s) :
    Calls Tryz.prog 101 #[.string s] w fun e w' => e = .returned (.bool (nameB s)) ∧ Below w.heap.size w w' := by
  have ht := Trim_letters s hs
  unfold Fits at hs
  have HT := Lib.hid ht; clear ht
  cases h1 : s.toList.isEmpty
  · have h0 : ¬ s.toList = [] := by simpa using h1
    by_cases h2 : s.size ≤ 8
    · have e1 : nameB s = (trimmed s).toList.isEmpty := by
        simp [nameB, h1, h2]
      have E1 := Lib.hid e1; clear e1
      go_enter Tryz.func101, Tryz.ntmps101
      go_wp2_with fail
      refine (HT.out _).mono ?_
      rintro e w1 ⟨rfl, hb1⟩
      go_wp2_with fail
      go_ret
      exact ⟨by rw [E1.out]; rfl, hb1⟩
    · have e1 : nameB s = false := by simp [nameB, h2]
      have E1 := Lib.hid e1; clear e1
      go_enter Tryz.func101, Tryz.ntmps101
      go_wp2_with fail
      go_ret
      exact ⟨by rw [E1.out]; rfl, Below.refl _ _⟩
  · have e1 : nameB s = false := by simp [nameB, h1]
    have E1 := Lib.hid e1; clear e1
    go_enter Tryz.func101, Tryz.ntmps101
    go_wp2_with fail
    go_ret
    exact ⟨by rw [E1.out]; rfl, Below.refl _ _⟩

set_option maxHeartbeats 400000 in
theorem areNames1_any (s : ByteArray) (w : World) (hs : Fits s) :
    Calls Tryz.prog 102 #[.string s] w fun e w' => e = .returned (.bool (!nameB s)) ∧ Below w.heap.size w w' := by
  have HI := Lib.hid (IsName_any s w hs)
  go_enter Tryz.func102, Tryz.ntmps102
  go_wp2_with fail
  refine HI.out.mono ?_
  rintro e w1 ⟨rfl, hb1⟩
  go_wp2_with fail
  go_ret
  exact ⟨rfl, hb1⟩

theorem Strs.fits {F : Nat → Prop} {w : World} {v : Value} {l : List ByteArray} (h : Strs F w v l) : ∀ s ∈ l, Fits s := by
  obtain ⟨_, _, _, _, _, h, _⟩ := h; exact h

set_option maxHeartbeats 400000 in
theorem areNames_any {F : Nat → Prop} (l : List ByteArray) (v : Value) (w : World) (hs : Strs F w v l) :
    Calls Tryz.prog 82 #[v] w fun e w' => e = .returned (.bool (namesB l)) ∧ Below w.heap.size w w' := by
  have HI := Lib.hid (ContainsFunc_str l v 102 #[] #[] (fun s => !nameB s) w hs (enters_of Tryz.func102 (by kernel_rfl) rfl)
    (fun s hm w0 hb => (areNames1_any s w0 (hs.fits s hm)).mono fun e w' h => ⟨h.1, hb.trans (h.2.mono hb.size)⟩))
  clear hs
  have e1 : namesB l = !(l.any (fun s => !nameB s)) := rfl
  have E1 := Lib.hid e1; clear e1
  go_enter Tryz.func82, Tryz.ntmps82
  go_wp2_with fail
  refine HI.out.mono ?_
  rintro e w1 ⟨rfl, hb1⟩
  generalize l.any (fun s => !nameB s) = r at *
  go_wp2_with fail
  go_ret
  exact ⟨by rw [E1.out]; rfl, hb1⟩

set_option maxHeartbeats 400000 in
set_option maxRecDepth 20000 in
theorem isAction_any {F : Nat → Prop} (a : Act) (iv : Value) (w : World) (hs : Strs F w iv a.inputs) (hn : Fits a.name) (hc : Fits a.code) :
    Calls Tryz.prog 81 #[.agg #[.string a.name, iv, .string a.code]] w fun e w' => e = .returned (.bool (actB a)) ∧ Below w.heap.size w w' := by
  have HN := Lib.hid (fun w => IsName_any a.name w hn)
  have HS := Lib.hid (fun (w0 : World) (hb : Below w.heap.size w w0) => areNames_any a.inputs iv w0 (hs.below hb))
  obtain ⟨ad, cap, rfl, h2, h3, h4, h5⟩ := hs
  clear h4 h5 hn
  unfold Fits at hc
  have e1 : actB a = (nameB a.name && namesB a.inputs && decide (a.inputs.length ≤ 4) && decide (a.code.size ≤ 64)) := rfl
  have E1 := Lib.hid e1; clear e1
  go_enter Tryz.func81, Tryz.ntmps81
  go_wp2_with fail
  refine (HN.out _).mono ?_
  rintro e w1 ⟨rfl, hb1⟩
  obtain ⟨c1, f1⟩ := bcell hb1
  have hz1 : w.heap.size < w1.heap.size := by have := hb1.size; simp at this; omega
  have HB1 := Lib.hid (((Below.refl w.heap.size w).alloc (Nat.le_refl _) _).trans (hb1.mono (by simp))); clear hb1
  cases hn : nameB a.name
  · have e2 : actB a = false := by rw [E1.out, hn]; rfl
    have E2 := Lib.hid e2; clear e2
    go_wp2_with fail
    go_ret
    exact ⟨by rw [E2.out]; rfl, HB1.out⟩
  · go_wp2_with fail
    refine (HS.out _ HB1.out).mono ?_
    rintro e w2 ⟨rfl, hb2⟩
    obtain ⟨c2, f2⟩ := bcell hb2
    have hz2 : w.heap.size < w2.heap.size := by have := hb2.size; omega
    have HB2 := Lib.hid (HB1.out.trans (hb2.mono HB1.out.size)); clear hb2
    cases hn2 : namesB a.inputs
    · have e2 : actB a = false := by rw [E1.out, hn2]; simp
      have E2 := Lib.hid e2; clear e2
      go_wp2_with fail
      go_ret
      exact ⟨by rw [E2.out]; rfl, HB2.out⟩
    · by_cases h4 : a.inputs.length ≤ 4
      · by_cases h5 : a.code.size ≤ 64
        · have e2 : actB a = true := by rw [E1.out, hn, hn2]; simp [h4, h5]
          have E2 := Lib.hid e2; clear e2
          go_wp2_with fail
          go_ret
          exact ⟨by rw [E2.out]; exact ret_bool (by simp; omega), HB2.out⟩
        · have e2 : actB a = false := by rw [E1.out, hn, hn2]; simp [h5]
          have E2 := Lib.hid e2; clear e2
          go_wp2_with fail
          go_ret
          exact ⟨by rw [E2.out]; exact ret_bool (by simp; omega), HB2.out⟩
      · have e2 : actB a = false := by rw [E1.out, hn, hn2]; simp [h4]
        have E2 := Lib.hid e2; clear e2
        go_wp2_with fail
        go_ret
        exact ⟨by rw [E2.out]; rfl, HB2.out⟩

theorem Acts.fits {F : Nat → Prop} {w : World} {v : Value} {l : List Act} (h : Acts F w v l) : ∀ s ∈ l, Fits s.name ∧ Fits s.code := by
  obtain ⟨_, _, _, _, _, h, _⟩ := h; exact h

set_option maxHeartbeats 400000 in
theorem isGraph1_any {F : Nat → Prop} (a : Act) (iv : Value) (w : World) (hs : Strs F w iv a.inputs) (hn : Fits a.name) (hc : Fits a.code) :
    Calls Tryz.prog 80 #[.agg #[.string a.name, iv, .string a.code]] w fun e w' => e = .returned (.bool (!actB a)) ∧ Below w.heap.size w w' := by
  have HA := Lib.hid (fun (w0 : World) (hb : Below w.heap.size w w0) => isAction_any a iv w0 (hs.below hb) hn hc)
  clear hs hn hc
  go_enter Tryz.func80, Tryz.ntmps80
  go_wp2_with fail
  refine (HA.out _ ((Below.refl w.heap.size w).alloc (Nat.le_refl _) _)).mono ?_
  rintro e w1 ⟨rfl, hb1⟩
  have HB1 := Lib.hid (((Below.refl w.heap.size w).alloc (Nat.le_refl _) _).trans (hb1.mono (by simp))); clear hb1
  go_wp2_with fail
  go_ret
  exact ⟨rfl, HB1.out⟩

set_option maxHeartbeats 400000 in
set_option maxRecDepth 20000 in
theorem isGraph_any {F : Nat → Prop} (g : Gr) (gs ga : Value) (w : World) (hs : Strs F w gs g.sources) (ha : Acts F w ga g.actions) :
    Calls Tryz.prog 59 #[.agg #[gs, ga]] w fun e w' => e = .returned (.bool (graphB g)) ∧ Below w.heap.size w w' := by
  have HN := Lib.hid (fun (w0 : World) (hb : Below w.heap.size w w0) => areNames_any g.sources gs w0 (hs.below hb))
  have HA := Lib.hid (fun (w0 : World) (hb : Below w.heap.size w w0) => ContainsFunc_act g.actions ga 80 #[] #[] (fun a => !actB a) w0 (ha.below hb) (enters_of Tryz.func80 (by kernel_rfl) rfl)
    (fun a hm iv w1 hiv hb1 => (isGraph1_any a iv w1 (hiv.below hb1) (ha.fits a hm).1 (ha.fits a hm).2).mono fun e w' h => ⟨h.1, hb1.trans (h.2.mono hb1.size)⟩))
  obtain ⟨ad, cap, rfl, h2, h3, h4, h5⟩ := hs
  obtain ⟨ad', cap', rfl, h2', h3', h4', h5'⟩ := ha
  clear h4 h5 h4' h5'
  have e1 : graphB g = (decide (g.sources.length ≤ 8) && decide (g.actions.length ≤ 12) && namesB g.sources && !(g.actions.any (fun a => !actB a))) := rfl
  have E1 := Lib.hid e1; clear e1
  generalize g.actions.any (fun a => !actB a) = r at HA E1
  by_cases h5 : g.sources.length ≤ 8
  · by_cases h6 : g.actions.length ≤ 12
    · go_enter Tryz.func59, Tryz.ntmps59
      go_wp2_with fail
      refine (HN.out _ ((Below.refl w.heap.size w).alloc (Nat.le_refl _) _)).mono ?_
      rintro e w1 ⟨rfl, hb1⟩
      obtain ⟨c1, f1⟩ := bcell hb1
      have hz1 : w.heap.size < w1.heap.size := by have := hb1.size; simp at this; omega
      have HB1 := Lib.hid (((Below.refl w.heap.size w).alloc (Nat.le_refl _) _).trans (hb1.mono (by simp))); clear hb1
      cases hn : namesB g.sources
      · have e2 : graphB g = false := by rw [E1.out, hn]; simp
        have E2 := Lib.hid e2; clear e2
        go_wp2_with fail
        go_ret
        exact ⟨by rw [E2.out]; rfl, HB1.out⟩
      · go_wp2_with fail
        refine (HA.out _ HB1.out).mono ?_
        rintro e w2 ⟨rfl, hb2⟩
        have HB2 := Lib.hid (HB1.out.trans (hb2.mono HB1.out.size)); clear hb2
        have e2 : graphB g = !r := by rw [E1.out, hn]; simp [h5, h6]
        have E2 := Lib.hid e2; clear e2
        go_wp2_with fail
        go_ret
        exact ⟨by rw [E2.out]; rfl, HB2.out⟩
    · have e2 : graphB g = false := by rw [E1.out]; simp [h6]
      have E2 := Lib.hid e2; clear e2
      go_enter Tryz.func59, Tryz.ntmps59
      go_wp2_with fail
      go_ret
      exact ⟨by rw [E2.out]; rfl, (Below.refl _ _).alloc (Nat.le_refl _) _⟩
  · have e2 : graphB g = false := by rw [E1.out]; simp [h5]
    have E2 := Lib.hid e2; clear e2
    go_enter Tryz.func59, Tryz.ntmps59
    go_wp2_with fail
    go_ret
    exact ⟨by rw [E2.out]; rfl, (Below.refl _ _).alloc (Nat.le_refl _) _⟩
end Go.Proofs.YtnifkpcjpjgkeaaGreatDoor
