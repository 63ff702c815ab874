/- recipe: words, lines, the text of a build. -/
import Derived.Test.YtnifkpcjpjgkeaaGreatDoorC06
import Derived.Test.YtnifkpcjpjgkeaaGreatDoorB06
import Derived.Test.YtnifkpcjpjgkeaaGreatDoorB07
import Derived.Deep.DeepCutAuto
import Derived.Deep.CutRange
namespace Go.Proofs.YtnifkpcjpjgkeaaGreatDoor
open Go.RowKit Go.Shelf

def SomeText (n : Nat) (w : World) (e : Ending) (w' : World) : Prop := ∃ s : ByteArray, s.size ≤ n ∧ e = .returned (.string s) ∧ Below w.heap.size w w'

set_option maxHeartbeats 400000 in
set_option maxRecDepth 20000 in
theorem word_any (s : ByteArray) (w : World) (hs : s.size ≤ 1000) :
    Calls Tryz.prog 61 #[.string s] w (SomeText (2 * s.size + 1) w) := by
  obtain ⟨i0, hi, hz0, hz1, hz2⟩ := info_parts infoByte
  cases h1 : s.toList.isEmpty
  · have h0 : ¬ s.toList = [] := by simpa using h1
    go_enter Tryz.func61, Tryz.ntmps61
    go_wp2_with (refine wpList_s2b _ rfl (.tmp 8) 9 95 5 rfl Tryz.underlying9 Tryz.underlying95 Tryz.underlying5 s rfl ?_)
    intro c w1 hb1 hz1' hsc hc hf
    go_wp2_with fail
    go_loopw [3, 5, 11] (fun v _ i wr => ∃ k : Nat, k ≤ s.size ∧ i = .int .i64 k ∧ Below w1.heap.size w1 wr ∧ ∃ l : List UInt8, l.length = 2 * k ∧ wr.ownsRow w1.heap.size 5 1 v (2 * k) (bytesV l)) (fun _ _ i _ => s.size - (intOf i).toNat)
    case atStart => exact ⟨0, Nat.zero_le _, rfl, Below.refl _ _, [], rfl, World.ownsRow_nil _ _ _ _⟩
    case round =>
      obtain ⟨k, hk, rfl, hb, l, hl, hown⟩ := hrel
      have HB := Lib.hid hb; clear hb
      have HL := Lib.hid hl; clear hl
      have HO := Lib.hid hown; clear hown
      by_cases hlt : k < s.size
      · have hcell := (HB.out.cell (p := ⟨w.heap.size, k, none⟩) (by show w.heap.size < _; omega)).trans (hc k hlt)
        clear hc hf
        generalize byteAt s k = x at hcell
        have hx1 : (x.toNat : Int) < 256 := by have := x.toNat_lt; omega
        go_wp2_with fail
        have hx2 : (0 : Int) ≤ (x.toNat : Int) / 16 := by omega
        have hx3 : (x.toNat : Int) / 16 < 16 := by omega
        have hx5 : (0 : Int) ≤ (x.toNat : Int) % 16 := by omega
        have hx6 : (x.toNat : Int) % 16 < 16 := by omega
        have hx4 := u8_and15 (x := (x.toNat : Int)) (by omega) hx1
        have hzr : w1.heap.size ≤ wr.heap.size := HB.out.size
        go_region_law (refine step_append_own rfl (.tmp 15) (.tmp 22) 95 rfl w1.heap.size 5 i0 (.int .u8 0) 1 1 Tryz.underlying95 hi hz0 hz1 hz2 rfl (by decide) _ (2 * k) (bytesV l) rfl (by exact HO.out.drew.alloc _) ⟨_, 0, none⟩ 2 2 [_, _] rfl rfl (by exact cell_two _ _ _ _ _ rfl) (by simp [Value.oneCell']) (by unfold maxLen; omega) (by omega) (by simp; omega) ?_; intro v2 w2 hown2 hgrow2)
        all_goals
          have HB2 := Lib.hid ((((HB.out.drew).alloc (by simpa using hzr) _).grown hgrow2 (by simp; omega) (fun k hk => (HO.out.lt k hk).1)))
          obtain ⟨l2, hl2, hown3⟩ : ∃ l2 : List UInt8, l2.length = 2 * (k + 1) ∧ w2.ownsRow w1.heap.size 5 1 v2 (2 * (k + 1)) (bytesV l2) := ⟨l ++ [_, _], by have := HL.out; simp; omega, by simpa [bytesV, Nat.mul_add] using hown2⟩
          have HO2 := Lib.hid hown3
          have HL2 := Lib.hid hl2
          clear hown2 hgrow2 hown3 hl2
          go_wp2_with fail
          go_roundw
          case rel => exact ⟨k + 1, by omega, by go_num, HB2.out, l2, HL2.out, HO2.out⟩
          case measure => simp [intOf]; omega
      · clear hc hf
        go_wp2_with (refine wpList_b2s_own _ rfl (.tmp 25) 95 9 5 rfl Tryz.underlying95 Tryz.underlying9 Tryz.underlying5 w1.heap.size (2 * k) _ l rfl HO.out ?_)
        go_ret
        exact ⟨⟨l.toArray⟩, by have := HL.out; show l.toArray.size ≤ _; simp; omega, rfl, (hb1.trans (HB.out.mono hb1.size))⟩
  · have h0 : s.toList = [] := by simpa using h1
    go_enter Tryz.func61, Tryz.ntmps61
    go_wp2_with fail
    go_ret
    exact ⟨⟨#[45]⟩, by show 1 ≤ _; omega, rfl, Below.refl _ _⟩

/-- The lengths of texts, together. -/
def totS : List ByteArray → Nat
  | [] => 0
  | s :: r => s.size + totS r
theorem totS_lens (l : List ByteArray) : Lib.lens (l.map (·.data.toList)) = totS l := by
  induction l with
  | nil => rfl
  | cons s r ih => simp only [List.map_cons, Lib.lens, totS, List.sum_cons] at *; rw [← ih]; rfl
theorem join_le (l : List ByteArray) : (Lib.join (l.map (·.data.toList)) [32]).length ≤ totS l + l.length := by
  cases l with
  | nil => simp [Lib.join_nil]
  | cons s r =>
    have := Lib.join_length s.data.toList (r.map (·.data.toList)) [32]
    have h2 := totS_lens (s :: r)
    simp only [List.map_cons] at h2 ⊢
    rw [this, h2]
    simp
    omega

def lineB (l : List ByteArray) : ByteArray := ⟨(Lib.join (l.map (·.data.toList)) [32]).toArray⟩
theorem lineB_size (l : List ByteArray) : (lineB l).size ≤ totS l + l.length := by
  have := join_le l
  show (Lib.join (l.map (·.data.toList)) [32]).toArray.size ≤ _
  simpa using this

theorem Join_any {F : Nat → Prop} (l : List ByteArray) (v : Value) (w : World) (hs : Strs F w v l) (ht : totS l + l.length ≤ 140737488355328) :
    Calls Tryz.prog 84 #[v, .string ⟨#[32]⟩] w fun e w' => e = .returned (.string (lineB l)) ∧ Below w.heap.size w w' := by
  obtain ⟨a, cap, rfl, h2, h3, h4, h5⟩ := hs
  rcases h5 with rfl | ⟨b, off, rfl, hf, hb, hc⟩
  · refine (Tryz.strings_Join_none a cap ⟨#[32]⟩ w).mono ?_
    rintro e w' ⟨rfl, rfl⟩
    exact ⟨rfl, Below.refl _ _⟩
  · refine (Tryz.strings_Join b off cap l ⟨#[32]⟩ w (fun j x hj => ?_) hb h3 h2 (by have := join_le l; exact Nat.le_trans this ht)).mono ?_
    · obtain ⟨hj1, hj2⟩ := List.getElem?_eq_some_iff.1 hj
      rw [hc j hj1]
      simp [List.getD_eq_getElem?_getD, hj]
    · rintro e w' ⟨rfl, hb'⟩
      exact ⟨rfl, hb'⟩

set_option maxHeartbeats 400000 in
set_option maxRecDepth 20000 in
theorem line_any {F : Nat → Prop} (l : List ByteArray) (v : Value) (w : World) (hs : Strs F w v l) (ht : totS l + l.length ≤ 1000000) :
    Calls Tryz.prog 60 #[v] w (SomeText (totS l + l.length + 1) w) := by
  have HJ := Lib.hid (Join_any l v w hs (by omega))
  have hl := lineB_size l
  clear hs
  go_enter Tryz.func60, Tryz.ntmps60
  go_wp2_with fail
  refine HJ.out.mono ?_
  rintro e w1 ⟨rfl, hb1⟩
  generalize lineB l = s at hl
  have HB := Lib.hid hb1; clear hb1
  have hl2 : s.size + 1 ≤ 9223372036854775807 := by omega
  go_wp2_with fail
  go_ret
  exact ⟨s ++ ⟨#[10]⟩, by rw [ByteArray.size_append]; show s.size + 1 ≤ _; omega, rfl, HB.out⟩

theorem strs_one (w : World) (x : ByteArray) (t : TypeId) (hx : Fits x) : Strs (fun b => w.heap.size ≤ b) (w.alloc (.cells #[.string x] t)) (.slice (some ⟨w.heap.size, 0, none⟩) 1 1) [x] := by
  refine ⟨_, 1, rfl, Nat.le_refl _, by simp, by simpa using hx, .inr ⟨_, 0, rfl, Nat.le_refl _, by simp, fun i hi => ?_⟩⟩
  simp only [World.cell?, (MapKept.heap_alloc w _).1]
  match i, hi with
  | 0, _ => rfl
theorem strs_two (w : World) (x y : ByteArray) (t : TypeId) (hx : Fits x) (hy : Fits y) : Strs (fun b => w.heap.size ≤ b) (w.alloc (.cells #[.string x, .string y] t)) (.slice (some ⟨w.heap.size, 0, none⟩) 2 2) [x, y] := by
  refine ⟨_, 2, rfl, Nat.le_refl _, by simp, ?_, .inr ⟨_, 0, rfl, Nat.le_refl _, by simp, fun i hi => ?_⟩⟩
  · intro s hs
    simp at hs
    rcases hs with rfl | rfl <;> assumption
  · simp only [World.cell?, (MapKept.heap_alloc w _).1]
    match i, hi with
    | 0, _ => rfl
    | 1, _ => rfl

/-- What a build's text comes to: a text, and whether there is one. -/
def SomePrint (g : Gr) (w : World) (e : Ending) (w' : World) : Prop := ∃ s : ByteArray, e = .returned (.tuple #[.string s, .int .i64 (if graphB g then 0 else 1)]) ∧ Below w.heap.size w w'

theorem nameB_size {s : ByteArray} (h : nameB s = true) : s.size ≤ 8 := by
  unfold nameB at h
  simp at h
  exact h.1.2
theorem namesB_all {l : List ByteArray} (h : namesB l = true) : ∀ s ∈ l, nameB s = true := by
  unfold namesB at h
  simpa using h

theorem infoStr : (Tryz.prog.info? 9).map (fun i => (i.zero, i.size, i.bytes)) = some (some (.string ByteArray.empty), 1, 16) := by kernel_rfl

theorem mem_totS : ∀ (l : List ByteArray), ∀ s ∈ l, s.size ≤ totS l
  | [], _, h => by cases h
  | x :: r, s, h => by
    cases h with
    | head => simp only [totS]; omega
    | tail _ h => have := mem_totS r s h; simp only [totS]; omega
theorem totS_append (a b : List ByteArray) : totS (a ++ b) = totS a + totS b := by
  induction a with
  | nil => simp [totS]
  | cons x r ih => simp only [List.cons_append, totS, ih]; omega
theorem totS_small : ∀ (l : List ByteArray), (∀ s ∈ l, nameB s = true) → totS l ≤ 8 * l.length
  | [], _ => by simp [totS]
  | s :: r, h => by
    have h1 := nameB_size (h s (.head _))
    have h2 := totS_small r (fun x hx => h x (.tail _ hx))
    simp only [totS, List.length_cons]
    omega
theorem graphB_parts {g : Gr} (h : graphB g = true) : g.sources.length ≤ 8 ∧ g.actions.length ≤ 12 ∧ (∀ s ∈ g.sources, nameB s = true) ∧ ∀ a ∈ g.actions, actB a = true := by
  unfold graphB at h
  simp at h
  obtain ⟨⟨⟨h1, h2⟩, h3⟩, h4⟩ := h
  exact ⟨h1, h2, namesB_all h3, h4⟩
theorem graphB_8 {g : Gr} (h : graphB g = true) : g.sources.length ≤ 8 := (graphB_parts h).1
theorem graphB_12 {g : Gr} (h : graphB g = true) : g.actions.length ≤ 12 := (graphB_parts h).2.1
theorem graphB_sources {g : Gr} (h : graphB g = true) : ∀ s ∈ g.sources, nameB s = true := (graphB_parts h).2.2.1
theorem graphB_acts {g : Gr} (h : graphB g = true) : ∀ a ∈ g.actions, actB a = true := (graphB_parts h).2.2.2
theorem actB_parts {a : Act} (h : actB a = true) : nameB a.name = true ∧ (∀ s ∈ a.inputs, nameB s = true) ∧ a.inputs.length ≤ 4 ∧ a.code.size ≤ 64 := by
  unfold actB at h
  simp at h
  obtain ⟨⟨⟨h1, h2⟩, h3⟩, h4⟩ := h
  exact ⟨h1, namesB_all h2, h3, h4⟩

set_option maxHeartbeats 3000000 in
set_option maxRecDepth 20000 in
theorem Print_any {F : Nat → Prop} (g : Gr) (gs ga : Value) (w : World) (hs : Strs F w gs g.sources) (ha : Acts F w ga g.actions) :
    Calls Tryz.prog 48 #[.agg #[gs, ga]] w (SomePrint g w) := by
  obtain ⟨i0, hi, hz0, hz1', hz2⟩ := info_parts infoStr
  have HG := Lib.hid (fun (w0 : World) (hb : Below w.heap.size w w0) => isGraph_any g gs ga w0 (hs.below hb) (ha.below hb))
  cases hg : graphB g
  · clear hs ha
    go_enter Tryz.func48, Tryz.ntmps48
    go_wp2_with fail
    refine (HG.out _ ((Below.refl w.heap.size w).alloc (Nat.le_refl _) _)).mono ?_
    rw [hg]
    rintro e w1 ⟨rfl, hb1⟩
    have HB1 := Lib.hid (((Below.refl w.heap.size w).alloc (Nat.le_refl _) _).trans (hb1.mono (by simp))); clear hb1
    go_wp2_with fail
    go_ret2
    exact ⟨_, by rw [hg]; rfl, HB1.out⟩
  · obtain ⟨a, cap, rfl, h2, h3, h4, h5⟩ := hs
    obtain ⟨a', cap', rfl, h2', h3', h4', h5'⟩ := ha
    have H4 := Lib.hid h4; clear h4
    have H4' := Lib.hid h4'; clear h4'
    go_enter Tryz.func48, Tryz.ntmps48
    go_wp2_with fail
    refine (HG.out _ ((Below.refl w.heap.size w).alloc (Nat.le_refl _) _)).mono ?_
    rw [hg]
    rintro e w1 ⟨rfl, hb1⟩
    obtain ⟨c1, f1⟩ := bcell hb1
    have hz1 : w.heap.size < w1.heap.size := by have := hb1.size; simp at this; omega
    have HB1 := Lib.hid (((Below.refl w.heap.size w).alloc (Nat.le_refl _) _).trans (hb1.mono (by simp))); clear hb1
    go_wp2_with fail
    have hB0 := Bld.new w1
    have hwB : Below w.heap.size w (w1.alloc (.cells #[.pointer none, .slice none 0 0] 125)) := HB1.out.alloc HB1.out.size _
    have hsz : w1.heap.size < (w1.alloc (.cells #[.pointer none, .slice none 0 0] 125)).heap.size := by simp
    have cB1 : (w1.alloc (.cells #[.pointer none, .slice none 0 0] 125)).cell? ⟨w.heap.size, 1, none⟩ = some (.slice a' g.actions.length cap') := by
      exact (World.cell?_alloc_lt _ _ _ hz1).trans ((c1 _ _ (by simp)).trans (World.cell?_alloc_new _ _ _ _))
    generalize w1.alloc (.cells #[.pointer none, .slice none 0 0] 125) = wB at *
    have HwB := Lib.hid hwB
    have HB0 := Lib.hid hB0
    clear hwB hB0 c1 f1 HB1
    go_loopw [16] (fun i wr => ∃ k : Nat, k ≤ g.sources.length ∧ i = .int .i64 k ∧ Below w1.heap.size wB wr ∧ ∃ l : List UInt8, l.length ≤ 1000 * k ∧ Bld w1.heap.size w1.heap.size l wr) (fun i _ => g.sources.length - (intOf i).toNat)
    case atStart => exact ⟨0, Nat.zero_le _, rfl, Below.refl _ _, [], by simp, HB0.out⟩
    case round =>
      obtain ⟨k, hk, rfl, hb, l, hl, hbl⟩ := hrel
      have HB := Lib.hid hb; clear hb
      have HL := Lib.hid hl; clear hl
      have HD := Lib.hid hbl; clear hbl
      have hk8 := graphB_8 hg
      have hk12 := graphB_12 hg
      by_cases hlt : k < g.sources.length
      · obtain ⟨b, off, rfl, hfb, hbs, hc⟩ := h5.resolve_left (fun e => by rw [e] at hlt; simp at hlt)
        have hcell : wr.cell? ⟨b, off + k, none⟩ = some (.string (g.sources.getD k ByteArray.empty)) := (HB.out.cell (p := ⟨b, off + k, none⟩) (show b < w1.heap.size by omega)).trans ((HwB.out.cell (p := ⟨b, off + k, none⟩) hbs).trans (hc k hlt))
        have hmem : g.sources.getD k ByteArray.empty ∈ g.sources := by rw [List.getD_eq_getElem?_getD, List.getElem?_eq_getElem hlt]; exact List.getElem_mem hlt
        have hfit := H4.out _ hmem
        have hsz8 := nameB_size (graphB_sources hg _ hmem)
        generalize g.sources.getD k ByteArray.empty = s at hcell hmem hfit hsz8
        clear hc h5 h5' hfb hmem
        have hwr : w1.heap.size < wr.heap.size := Nat.lt_of_lt_of_le hsz HB.out.size
        have HF := Lib.hid hfit; clear hfit
        go_wp2_with fail
        refine (line_any [⟨#[115, 111, 117, 114, 99, 101]⟩, s] _ _ (strs_two _ _ _ _ (by unfold Fits; decide) HF.out) (by simp only [totS, List.length]; show 6 + (s.size + 0) + 2 ≤ _; omega)).mono ?_
        rintro e w2 ⟨t, ht, rfl, hb2⟩
        have ht' : t.size ≤ 100 := by have : t.size ≤ 6 + (s.size + 0) + 2 + 1 := ht; omega
        clear ht
        have hz2 : wr.heap.size < w2.heap.size := by have := hb2.size; simp at this; omega
        have HD2 := Lib.hid ((HD.out.below ((Below.refl _ _).alloc (Nat.le_refl _) _)).below hb2)
        have HB2 := Lib.hid ((HB.out.alloc (Nat.le_of_lt hwr) _).trans (hb2.mono (by simp; omega)))
        clear hb2
        go_wp2_with fail
        refine (HD2.out.write t (by have := HL.out; omega) (by omega)).mono ?_
        rintro e w3 ⟨rfl, hd3, hb3⟩
        have HD3 := Lib.hid hd3
        have HB3 := Lib.hid (HB2.out.trans hb3)
        clear hd3 hb3
        go_wp2_with fail
        go_roundw
        case rel => exact ⟨k + 1, by omega, by go_num, HB3.out, _, by have := HL.out; simp; show _ + t.size ≤ _; omega, HD3.out⟩
        case measure => simp [intOf]; omega
      · obtain rfl : k = g.sources.length := by omega
        have HL' := Lib.hid (show l.length ≤ 8000 by have := HL.out; omega); clear HL
        have hwr : w1.heap.size < wr.heap.size := Nat.lt_of_lt_of_le hsz HB.out.size
        have cB : wr.cell? ⟨w.heap.size, 1, none⟩ = some (.slice a' g.actions.length cap') := (HB.out.cell (p := ⟨w.heap.size, 1, none⟩) hz1).trans cB1
        have HwR := Lib.hid (HwB.out.trans (HB.out.mono (Nat.le_of_lt hz1)))
        clear cB1 h5 HB HB0
        go_wp2_with fail
        obtain ⟨wo, rfl⟩ : ∃ wo : World, wo = wr := ⟨_, rfl⟩
        go_loopw [28] (fun i wr => ∃ k : Nat, k ≤ g.actions.length ∧ i = .int .i64 k ∧ Below w1.heap.size wo wr ∧ ∃ l : List UInt8, l.length ≤ 8000 + 1000 * k ∧ Bld w1.heap.size w1.heap.size l wr) (fun i _ => g.actions.length - (intOf i).toNat)
        case atStart => exact ⟨0, Nat.zero_le _, rfl, Below.refl _ _, _, by have := HL'.out; omega, HD.out⟩
        case round =>
          obtain ⟨k, hk, rfl, hb, l2, hl, hbl⟩ := hrel
          have HB := Lib.hid hb; clear hb
          have HL := Lib.hid hl; clear hl
          clear HD
          have HD := Lib.hid hbl; clear hbl
          have hwr2 : w1.heap.size < wr.heap.size := Nat.lt_of_lt_of_le hwr HB.out.size
          by_cases hlt : k < g.actions.length
          · obtain ⟨b, off, rfl, hfb, hbs, hc⟩ := h5'.resolve_left (fun e => by rw [e] at hlt; simp at hlt)
            obtain ⟨iv, hiv, hc0, hc1, hc2⟩ := hc k hlt
            have kc : ∀ o v, w.cell? ⟨b, o, none⟩ = some v → wr.cell? ⟨b, o, none⟩ = some v := fun o v h => (HB.out.cell (p := ⟨b, o, none⟩) (show b < w1.heap.size by omega)).trans ((HwR.out.cell (p := ⟨b, o, none⟩) hbs).trans h)
            have d0 := kc _ _ hc0
            have d1 := kc _ _ hc1
            have d2 := kc _ _ hc2
            have hmem : g.actions.getD k default ∈ g.actions := by rw [List.getD_eq_getElem?_getD, List.getElem?_eq_getElem hlt]; exact List.getElem_mem hlt
            have hfit := (H4'.out _ hmem).1
            obtain ⟨hp1, hp2, hp3, hp4⟩ := actB_parts (graphB_acts hg _ hmem)
            have hp1 := nameB_size hp1
            generalize g.actions.getD k default = ac at d0 d1 d2 hiv hfit hp1 hp2 hp3 hp4
            clear hc h5' hfb hmem kc hc0 hc1 hc2 cB
            have HF := Lib.hid hfit; clear hfit
            have HP2 := Lib.hid hp2; clear hp2
            have HIV := Lib.hid (hiv.below (HwR.out.trans (HB.out.mono (Nat.le_of_lt hz1)))); clear hiv
            obtain ⟨ai, capi, rfl, hi2, hi3, -, hi5⟩ := HIV.out
            go_upto_if 39 with (fail)
            go_cut [9] (fun v wx => ∃ L : List ByteArray, wx.ownsRow (wr.heap.size + 1) 9 1 v L.length (L.map .string) ∧ L.length ≤ 7 ∧ totS L ≤ 100 ∧ Below wr.heap.size wr wx ∧ wr.heap.size < wx.heap.size ∧ wx.cell? ⟨wr.heap.size, 2, none⟩ = some (.string ac.code))
            case first =>
              have hO := World.ownsRow_lit (base := wr.heap.size + 1) (e := 9) (size := 1) (wr.alloc (.cells #[.string ac.name, .slice ai ac.inputs.length capi, .string ac.code] 55)) #[.string ⟨#[109, 97, 107, 101]⟩, .string ac.name] 2 (by simp) (by unfold maxLen; omega) (by rfl)
              have hO2 : ∀ o, (((wr.alloc (.cells #[.string ac.name, .slice ai ac.inputs.length capi, .string ac.code] 55)).alloc (.cells #[.string ⟨#[109, 97, 107, 101]⟩, .string ac.name] 9)).alloc o).drew.ownsRow (wr.heap.size + 1) 9 1 (.slice (some ⟨wr.heap.size + 1, 0, none⟩) 2 2) 2 [.string ⟨#[109, 97, 107, 101]⟩, .string ac.name] := fun o => by
                have := (hO.alloc o).drew
                simpa using this
              have HO := Lib.hid hO; clear hO
              have HO2 := Lib.hid hO2; clear hO2
              by_cases h0 : ac.inputs.length ≤ 0
              · go_wp2_with fail
                go_meet
                refine ⟨[⟨#[109, 97, 107, 101]⟩, ac.name], by simpa using HO.out, by simp, ?_, ((Below.refl _ _).alloc (Nat.le_refl _) _).alloc (by simp) _, by simp; omega, ?_⟩
                · simp only [totS]; show 4 + _ ≤ _; omega
                · simp
              · obtain ⟨bi, oi, rfl, hfi, hbi, hci⟩ := hi5.resolve_left (fun e => by rw [e] at h0; simp at h0)
                have HCI := Lib.hid hci; clear hci
                go_wp2_with fail
                go_region_law? (first | (refine step_append_own rfl (.tmp 40) (.tmp 41) 22 rfl (wr.heap.size + 1) 9 i0 (.string ByteArray.empty) 1 16 Tryz.underlying22 hi hz0 hz1' hz2 rfl (by decide) (.slice (some ⟨wr.heap.size + 1, 0, none⟩) 2 2) 2 _ rfl (HO2.out _) ⟨_, 0, none⟩ 1 1 [_] rfl rfl (by exact cell_one _ _ _ _ (by simp)) (by simp [Value.oneCell']) (by unfold maxLen; omega) (by omega) (by simp only [World.size_drew, World.size_alloc]; omega) ?_; intro v2 w2 hown2 hgrow2; have cw2 : w2.cell? ⟨wr.heap.size, 1, none⟩ = some (.slice (some ⟨bi, oi, none⟩) ac.inputs.length capi) := (World.cell?_of_block (hgrow2.block wr.heap.size (by simp only [World.size_drew, World.size_alloc]; omega) (by simp [Value.ownBlock]))).trans ((cell_under2 wr _ _ _ 1).trans (World.cell?_alloc_new _ _ _ _))) | (refine step_append_own rfl (.tmp 42) (.tmp 44) 22 rfl (wr.heap.size + 1) 9 i0 (.string ByteArray.empty) 1 16 Tryz.underlying22 hi hz0 hz1' hz2 rfl (by decide) _ 3 _ rfl hown2 ⟨bi, oi, none⟩ ac.inputs.length capi (ac.inputs.map .string) rfl (by simp) (by exact strs_news (fun i hlt => (World.cell?_of_block (hgrow2.block bi (by simp; omega) (by simp [Value.ownBlock]; omega))).trans ((cell_under3 wr _ _ _ bi (oi + i) hbi).trans (HCI.out i hlt)))) (strs_one' _) (by unfold maxLen; omega) (by omega) (by have := hgrow2.size; simp at this; omega) ?_; intro v3 w3 hown3 hgrow3))
                all_goals
                  have hb3 := ((((((Below.refl wr.heap.size wr).alloc (Nat.le_refl _) (.cells #[.string ac.name, .slice (some ⟨bi, oi, none⟩) ac.inputs.length capi, .string ac.code] 55)).alloc (by simp) (.cells #[.string ⟨#[109, 97, 107, 101]⟩, .string ac.name] 9)).alloc (by simp; omega) (.cells #[.string ⟨#[102, 114, 111, 109]⟩] 9)).drew).grown hgrow2 (by simp; omega) (fun k hk => by simp [Value.ownBlock] at hk; omega))
                  have hb4 := hb3.grown hgrow3 hb3.size (fun k hk => by have := (hown2.lt k hk).1; omega)
                  have hz4 : wr.heap.size + 2 < w3.heap.size := by have h1 := hgrow2.size; have h2 := hgrow3.size; simp at h1; omega
                  have c4 : w3.cell? ⟨wr.heap.size, 2, none⟩ = some (.string ac.code) := (World.cell?_of_block (hgrow3.block wr.heap.size (by have h1 := hgrow2.size; simp at h1; omega) (fun e => by have := (hown2.lt _ e.symm).1; omega))).trans ((World.cell?_of_block (hgrow2.block wr.heap.size (by simp only [World.size_drew, World.size_alloc]; omega) (by simp [Value.ownBlock]))).trans ((cell_under2 wr _ _ _ 2).trans (World.cell?_alloc_new _ _ _ _)))
                  have o4 : w3.ownsRow (wr.heap.size + 1) 9 1 v3 (⟨#[109, 97, 107, 101]⟩ :: ac.name :: ⟨#[102, 114, 111, 109]⟩ :: ac.inputs).length ((⟨#[109, 97, 107, 101]⟩ :: ac.name :: ⟨#[102, 114, 111, 109]⟩ :: ac.inputs).map .string) := by
                    have e3 : (⟨#[109, 97, 107, 101]⟩ :: ac.name :: ⟨#[102, 114, 111, 109]⟩ :: ac.inputs : List ByteArray).length = 3 + ac.inputs.length := by simp only [List.length_cons]; omega
                    rw [e3]
                    simpa using hown3
                  have HB4 := Lib.hid hb4
                  have HC4 := Lib.hid c4
                  have HO4 := Lib.hid o4
                  clear hb3 hb4 c4 o4 hown2 hgrow2 hown3 hgrow3
                  go_wp2_with fail
                  go_meet
                  exact ⟨_, HO4.out, by simp only [List.length_cons]; omega, by have := totS_small ac.inputs HP2.out; simp only [totS]; show 4 + (_ + (4 + _)) ≤ _; omega, HB4.out, by omega, HC4.out⟩
            case rest =>
              obtain ⟨L, hown, hl7, ht, hb, hz, hc⟩ := hcut
              have HO := Lib.hid hown; clear hown
              have HBc := Lib.hid hb; clear hb
              clear hi5 d0 d1 d2
              go_wp2_with fail
              refine (word_any ac.code _ (by omega)).mono ?_
              rintro e w4 ⟨t, ht4, rfl, hb4⟩
              have ht4' : t.size ≤ 129 := by omega
              clear ht4
              have HB4 := Lib.hid hb4
              have hz4 : wr.heap.size < w4.heap.size := by have := hb4.size; omega
              have HO4 := Lib.hid ((HO.out.kept (grownBy_of_below hb4 none) (by cases u9.ownBlock <;> simp)).alloc (.cells #[.string ⟨#[98, 121]⟩, .string t] 9))
              clear hb4 hc
              go_wp2_with (at_builtin; refine wpList_append_own _ rfl (.tmp 46) (.tmp 50) 22 rfl (wr.heap.size + 1) 9 i0 (.string ByteArray.empty) 1 16 Tryz.underlying22 hi hz0 hz1' hz2 rfl (by decide) _ _ _ rfl HO4.out ⟨_, 0, none⟩ 2 2 [.string ⟨#[98, 121]⟩, .string t] rfl rfl (by exact cell_two _ _ _ _ _ rfl) (by simp [Value.oneCell']) ?c3 ?c4 ?c5 ?_)
              case c3 => unfold maxLen; omega
              case c4 => omega
              case c5 => simp; omega
              intro v5 w5 hown5 hgrow5 _
              have o5 : w5.ownsRow (wr.heap.size + 1) 9 1 v5 (L ++ [⟨#[98, 121]⟩, t]).length ((L ++ [⟨#[98, 121]⟩, t]).map .string) := by simpa using hown5
              have t5 : totS (L ++ [⟨#[98, 121]⟩, t]) ≤ 300 := by rw [totS_append]; simp only [totS]; have : (⟨#[98, 121]⟩ : ByteArray).size = 2 := rfl; omega
              have l5 : (L ++ [⟨#[98, 121]⟩, t]).length ≤ 9 := by simp; omega
              have hs5 := ownsRow_strs o5 (by omega) (fun s hs => by have := mem_totS _ s hs; unfold Fits; omega)
              have hzw5 : wr.heap.size < w5.heap.size := by have := hgrow5.size; simp at this; omega
              have hb5 : Below wr.heap.size wr w5 := ((HBc.out.trans (HB4.out.mono (by omega))).alloc (by omega) _).grown hgrow5 (by simp; omega) (fun k hk => by have := (HO4.out.lt k hk).1; omega)
              generalize L ++ [⟨#[98, 121]⟩, t] = L5 at t5 l5 hs5
              have HS5 := Lib.hid hs5
              have HB5 := Lib.hid hb5
              clear hs5 hb5 o5 hown5 hgrow5
              obtain ⟨ao, n', cap5, rfl⟩ : ∃ ao n' cap, v5 = .slice ao n' cap := by
                obtain ⟨ao, cap, h, _⟩ := HS5.out
                exact ⟨_, _, _, h⟩
              go_wp2_with fail
              refine (line_any L5 _ _ HS5.out (by omega)).mono ?_
              rintro e w6 ⟨t6, ht6, rfl, hb6⟩
              have HB6 := Lib.hid (HB.out.trans ((HB5.out.trans (hb6.mono (by omega))).mono (Nat.le_of_lt hwr2)))
              have HD6 := Lib.hid ((HD.out.below HB5.out).below hb6)
              have hz6 : wr.heap.size < w6.heap.size := by have := hb6.size; omega
              clear hb6
              go_wp2_with fail
              refine (HD6.out.write t6 (by have := HL.out; omega) (by omega)).mono ?_
              rintro e w7 ⟨rfl, hd7, hb7⟩
              have HD7 := Lib.hid hd7
              have HB7 := Lib.hid (HB6.out.trans hb7)
              clear hd7 hb7
              go_wp2_with fail
              go_roundw
              case rel => exact ⟨k + 1, by omega, by go_num, HB7.out, _, by have := HL.out; simp; show _ + t6.size ≤ _; omega, HD7.out⟩
              case measure => simp [intOf]; omega
          · go_wp2_with fail
            refine (HD.out.string (Nat.le_of_lt hwr2)).mono ?_
            rintro e w3 ⟨rfl, hb3⟩
            go_wp2_with fail
            go_ret2
            exact ⟨_, by rw [hg]; rfl, HwR.out.trans ((HB.out.trans hb3).mono (Nat.le_of_lt hz1))⟩
end Go.Proofs.YtnifkpcjpjgkeaaGreatDoor
