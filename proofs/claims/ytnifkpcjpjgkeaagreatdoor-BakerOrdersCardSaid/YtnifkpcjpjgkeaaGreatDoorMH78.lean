/- The law's small functions: action, great. -/
/- What Give asks, out of what holds of a build under way; the example that awake asks for. -/
import Derived.Test.YtnifkpcjpjgkeaaGreatDoorH77
/- H78. -/
namespace Go.Proofs.YtnifkpcjpjgkeaaGreatDoor
open Go.RowKit Go.Shelf

theorem action_any (nm code : ByteArray) (a : Option Addr) (n c : Nat) (w : World) : Calls Tryz.prog 13 #[.string nm, .string code, .slice a n c] w (fun e w' => e = .returned (.agg #[.string nm, .slice a n c, .string code]) ∧ Below w.heap.size w w') := by
  go_enter Tryz.func13, Tryz.ntmps13
  go_wp2_with fail
  exact bodyPost_ret (v := .agg #[.string nm, .slice a n c, .string code]) (by simp [results, Tryz.results13, go_sem]) rfl ⟨rfl, (Below.refl _ _).alloc (Nat.le_refl _) _⟩

def GreatPost (l : List Src) (w : World) (e : Ending) (w' : World) : Prop := ∃ r : Bool, e = .returned (.bool r) ∧ Below w.heap.size w w' ∧ (r = false → l.length ≤ 30)

set_option maxHeartbeats 3000000 in
set_option maxRecDepth 20000 in
theorem great_any {F F' : Nat → Prop} (g : Gr) (l : List Src) (gs ga lv : Value) (w : World) (hs : Strs F w gs g.sources) (ha : Acts F w ga g.actions) (hl : Srcs F' w lv l) :
    Calls Tryz.prog 5 #[.agg #[gs, ga, lv]] w (GreatPost l w) := by
  obtain ⟨a, cap, rfl, h2, h3, h4, h5⟩ := hs
  obtain ⟨a', cap', rfl, h2', h3', h4', h5'⟩ := ha
  obtain ⟨a'', cap'', rfl, h2'', h3'', h4'', h5''⟩ := hl
  have H4 := Lib.hid h4
  have H4' := Lib.hid h4'
  have H4'' := Lib.hid h4''
  have H5 := Lib.hid h5
  have H5' := Lib.hid h5'
  have H5'' := Lib.hid h5''
  have HBx := Lib.hid (MapKept.heap_alloc w (.cells #[.slice a g.sources.length cap, .slice a' g.actions.length cap', .slice a'' l.length cap''] 28)).1
  have HB0 := Lib.hid ((Below.refl w.heap.size w).alloc (Nat.le_refl _) (.cells #[.slice a g.sources.length cap, .slice a' g.actions.length cap', .slice a'' l.length cap''] 28))
  clear h4 h4' h4'' h5 h5' h5''
  by_cases s1 : 30 < g.sources.length
  · go_enter Tryz.func5, Tryz.ntmps5
    go_wp2_with fail
    go_ret
    exact ⟨true, rfl, HB0.out, fun h => by cases h⟩
  by_cases s2 : 30 < g.actions.length
  · go_enter Tryz.func5, Tryz.ntmps5
    go_wp2_with fail
    go_ret
    exact ⟨true, rfl, HB0.out, fun h => by cases h⟩
  by_cases s3 : 30 < l.length
  · go_enter Tryz.func5, Tryz.ntmps5
    go_wp2_with fail
    go_ret
    exact ⟨true, rfl, HB0.out, fun h => by cases h⟩
  have hl30 : l.length ≤ 30 := by omega
  go_enter Tryz.func5, Tryz.ntmps5
  go_wp2_with fail
  generalize w.alloc (.cells #[.slice a g.sources.length cap, .slice a' g.actions.length cap', .slice a'' l.length cap''] 28) = w0 at HBx HB0 ⊢
  have x0 := (Lib.cell_of_heap HBx.out 0).trans (show _ = some (Value.slice a g.sources.length cap) from rfl)
  have x1 := (Lib.cell_of_heap HBx.out 1).trans (show _ = some (Value.slice a' g.actions.length cap') from rfl)
  have x2 := (Lib.cell_of_heap HBx.out 2).trans (show _ = some (Value.slice a'' l.length cap'') from rfl)
  go_loop [3] (fun i => ∃ k : Nat, k ≤ g.sources.length ∧ i = .int .i64 (k : Int)) (fun i => g.sources.length - (intOf i).toNat)
  case atStart => exact ⟨0, Nat.zero_le _, rfl⟩
  case round =>
    obtain ⟨k, hk, rfl⟩ := hrel
    by_cases hlt : k < g.sources.length
    · obtain ⟨b, off, rfl, hfb, hbs, hc⟩ := H5.out.resolve_left (fun e => by rw [e] at hlt; simp at hlt)
      have d0 := (HB0.out.cell (p := ⟨b, off + k, none⟩) hbs).trans (hc k hlt)
      generalize g.sources.getD k ByteArray.empty = s at d0
      clear hc hfb
      go_wp2_with fail
      · go_ret
        exact ⟨true, rfl, HB0.out, fun h => by cases h⟩
      · first
          | exact ⟨⟨k + 1, by omega, by go_num⟩, by simp [intOf]; omega⟩
          | (go_round
             case rel => exact ⟨k + 1, by omega, by go_num⟩
             case measure => simp [intOf]; omega)
    · go_wp2_with fail
      go_loop [4] (fun i => ∃ k : Nat, k ≤ l.length ∧ i = .int .i64 (k : Int)) (fun i => l.length - (intOf i).toNat)
      case atStart => exact ⟨0, Nat.zero_le _, rfl⟩
      case round =>
        obtain ⟨k, hk, rfl⟩ := hrel
        by_cases hlt : k < l.length
        · obtain ⟨b, off, rfl, hfb, hbs, hc⟩ := H5''.out.resolve_left (fun e => by rw [e] at hlt; simp at hlt)
          obtain ⟨hc0, hc1⟩ := hc k hlt
          have d0 := (HB0.out.cell (p := ⟨b, off + k * 2, none⟩) hbs).trans hc0
          have d1 := (HB0.out.cell (p := ⟨b, off + k * 2 + 1, none⟩) hbs).trans hc1
          generalize l.getD k default = s at d0 d1
          clear hc hfb hc0 hc1
          by_cases z1 : 200 < s.name.size
          · go_wp2_with fail
            go_ret
            exact ⟨true, rfl, HB0.out, fun h => by cases h⟩
          · by_cases z2 : 1000 < s.blob.size
            · go_wp2_with fail
              go_ret
              exact ⟨true, rfl, HB0.out, fun h => by cases h⟩
            · go_wp2_with fail
              first
                | exact ⟨⟨k + 1, by omega, by go_num⟩, by simp [intOf]; omega⟩
                | (go_round
                   case rel => exact ⟨k + 1, by omega, by go_num⟩
                   case measure => simp [intOf]; omega)
        · go_wp2_with fail
          have HBw := Lib.hid (Below.refl w0.heap.size w0)
          go_loopw [5] (fun i wr => ∃ k : Nat, k ≤ g.actions.length ∧ i = .int .i64 (k : Int) ∧ Below w0.heap.size w0 wr) (fun i _ => g.actions.length - (intOf i).toNat)
          case atStart => exact ⟨0, Nat.zero_le _, rfl, HBw.out⟩
          case round =>
            obtain ⟨k, hk, rfl, hB⟩ := hrel
            clear HBw
            have HB := Lib.hid hB
            clear hB
            have hbl := (Array.getElem?_eq_some_iff.1 HBx.out).1
            have y1 := (HB.out.cell (p := ⟨w.heap.size, 1, none⟩) hbl).trans x1
            clear x0 x1 x2
            have HBe := Lib.hid (HB0.out.trans (HB.out.mono HB0.out.size))
            by_cases hlt : k < g.actions.length
            · obtain ⟨b, off, rfl, hfb, hbs, hc⟩ := H5'.out.resolve_left (fun e => by rw [e] at hlt; simp at hlt)
              obtain ⟨iv, hiv, hc0, hc1, hc2⟩ := hc k hlt
              have hbs0 : b < w0.heap.size := Nat.lt_of_lt_of_le hbs HB0.out.size
              have d0 := (HB.out.cell (p := ⟨b, off + k * 3, none⟩) hbs0).trans ((HB0.out.cell (p := ⟨b, off + k * 3, none⟩) hbs).trans hc0)
              have d1 := (HB.out.cell (p := ⟨b, off + k * 3 + 1, none⟩) hbs0).trans ((HB0.out.cell (p := ⟨b, off + k * 3 + 1, none⟩) hbs).trans hc1)
              have d2 := (HB.out.cell (p := ⟨b, off + k * 3 + 2, none⟩) hbs0).trans ((HB0.out.cell (p := ⟨b, off + k * 3 + 2, none⟩) hbs).trans hc2)
              generalize g.actions.getD k default = ac at d0 d1 d2 hiv
              obtain ⟨ai, capi, rfl, hi2, hi3, -, hi5⟩ := hiv
              have HI5 := Lib.hid hi5
              have HBe2 := Lib.hid (HBe.out.alloc HBe.out.size (.cells #[.string ac.name, .slice ai ac.inputs.length capi, .string ac.code] 55))
              clear hc hfb hc0 hc1 hc2 hi5
              by_cases z1 : 200 < ac.name.size
              · go_wp2_with fail
                go_ret
                exact ⟨true, rfl, HBe2.out, fun h => by cases h⟩
              by_cases z2 : 200 < ac.code.size
              · go_wp2_with fail
                go_ret
                exact ⟨true, rfl, HBe2.out, fun h => by cases h⟩
              by_cases z3 : 10 < ac.inputs.length
              · go_wp2_with fail
                go_ret
                exact ⟨true, rfl, HBe2.out, fun h => by cases h⟩
              go_wp2_with fail
              have HB2 := Lib.hid (HB.out.alloc HB.out.size (.cells #[.string ac.name, .slice ai ac.inputs.length capi, .string ac.code] 55))
              have n1 : (wr.alloc (.cells #[.string ac.name, .slice ai ac.inputs.length capi, .string ac.code] 55)).cell? ⟨wr.heap.size, 1, none⟩ = some (.slice ai ac.inputs.length capi) := World.cell?_alloc_new _ _ _ _
              clear d0 d1 d2 y1
              generalize wr.alloc (.cells #[.string ac.name, .slice ai ac.inputs.length capi, .string ac.code] 55) = wq at HB2 HBe2 n1 ⊢
              go_loop [7] (fun i => ∃ j : Nat, j ≤ ac.inputs.length ∧ i = .int .i64 (j : Int)) (fun i => ac.inputs.length - (intOf i).toNat)
              case atStart => exact ⟨0, Nat.zero_le _, rfl⟩
              case round =>
                obtain ⟨j, hj, rfl⟩ := hrel
                by_cases hlt2 : j < ac.inputs.length
                · obtain ⟨bi, oi, rfl, hfi, hbi, hci⟩ := HI5.out.resolve_left (fun e => by rw [e] at hlt2; simp at hlt2)
                  have e0 := (HBe2.out.cell (p := ⟨bi, oi + j, none⟩) hbi).trans (hci j hlt2)
                  generalize ac.inputs.getD j ByteArray.empty = s at e0
                  clear hci hfi
                  by_cases z4 : 200 < s.size
                  · go_wp2_with fail
                    go_ret
                    exact ⟨true, rfl, HBe2.out, fun h => by cases h⟩
                  · go_wp2_with fail
                    first
                      | exact ⟨⟨j + 1, by omega, by go_num⟩, by simp [intOf]; omega⟩
                      | (go_round
                         case rel => exact ⟨j + 1, by omega, by go_num⟩
                         case measure => simp [intOf]; omega)
                · go_wp2_with fail
                  first
                    | exact ⟨⟨k + 1, by omega, by go_num, HB2.out⟩, by simp [intOf]; omega⟩
                    | (go_roundw
                       case rel => exact ⟨k + 1, by omega, by go_num, HB2.out⟩
                       case measure => simp [intOf]; omega)
            · go_wp2_with fail
              go_ret
              exact ⟨false, rfl, HBe.out, fun _ => hl30⟩
end Go.Proofs.YtnifkpcjpjgkeaaGreatDoor
/- H79. -/
namespace Go.Proofs.YtnifkpcjpjgkeaaGreatDoor
open Go.RowKit Go.Shelf

/-- What holds of a build under way. -/
structure Run (g : Gr) (T : TMap) : Prop where
  good : checkedE g = 0
  inv : Inv g T
  set : Settled g T
  small : SmallT T
theorem SmallT.settle {l : List Act} {T : TMap} (h : SmallT T) : ∀ ord : List Nat, SmallT (settleF l ord T) := by
  intro ord
  induction ord generalizing T with
  | nil => exact h
  | cons i r ih =>
    refine ih (T := settle1 l T i) ?_
    unfold settle1
    split
    · exact h.put _ _ (by decide)
    · exact h
theorem Run.start {g : Gr} {l : List Src} (hE : checkedE g = 0) (hF : SrcFit g l) : Run g (startT g l) := by
  have ha := apart_of (checkedE_woven hE)
  obtain ⟨h1, h2⟩ := settled_of ha (topo_of hE) (Inv.start ha hF)
  exact ⟨hE, h1, h2, (SmallT.src hF.small).settle _⟩
theorem Run.next {g : Gr} {T : TMap} (h : Run g T) {i : Nat} (hn : nextP g.actions T (ordG g) = some i) : i < g.actions.length ∧ okB g.actions T i = true :=
  ⟨(topo_of h.good).lt i (nextP_mem hn).1, (nextP_mem hn).2⟩
theorem Run.give {g : Gr} {T : TMap} (h : Run g T) {i : Nat} (hn : nextP g.actions T (ordG g) = some i) (r : Res) (hr : r.blob.size ≤ 512) : Run g (settleF g.actions (ordG g) (mput T (g.actions.getD i default).name r)) := by
  have ha := apart_of (checkedE_woven h.good)
  obtain ⟨hi, hk⟩ := h.next hn
  obtain ⟨h1, h2⟩ := settled_of ha (topo_of h.good) (h.inv.give ha h.set hi hk r)
  exact ⟨h.good, h1, h2, (h.small.put _ _ hr).settle _⟩
theorem Run.zero {g : Gr} {T : TMap} (h : Run g T) : ∀ i ∈ ordG g, okB g.actions T i = true → ∀ s ∈ (g.actions.getD i default).inputs, ((mget T s).getD dRes).code = 0 := fun i hi hk s hs => by
  obtain ⟨q, hq, hq0⟩ := (ready_ok h.inv h.set ((topo_of h.good).lt i hi) hk).2 s hs
  rw [hq]; exact hq0
theorem Run.act {g : Gr} {T : TMap} (h : Run g T) : ∀ a ∈ g.actions, a.inputs.length ≤ 4 ∧ a.code.size ≤ 64 := fun a ha =>
  (actB_parts (graphB_acts (wovenE_zero (checkedE_woven h.good)) a ha)).2.2
theorem Run.sl {g : Gr} {T : TMap} (h : Run g T) : g.sources.length ≤ 8 := graphB_8 (wovenE_zero (checkedE_woven h.good))
theorem Run.al {g : Gr} {T : TMap} (h : Run g T) : g.actions.length ≤ 12 := graphB_12 (wovenE_zero (checkedE_woven h.good))
theorem Run.ol {g : Gr} {T : TMap} (h : Run g T) : (ordG g).length ≤ 13 := by have := @ordG_length g; have := h.al; omega
theorem Run.pre {g : Gr} {T : TMap} (h : Run g T) {i : Nat} (hn : nextP g.actions T (ordG g) = some i) {w : World} (hW : WordsAt w) : GivePre g (ordG g) T w i :=
  ⟨(topo_of h.good).lt, by have := h.ol; omega, by have := h.sl; omega, by have := h.al; omega, h.act, h.small, h.zero, hW, hn⟩
/-- Done, just where all results are there. -/
theorem Run.done {g : Gr} {T : TMap} (h : Run g T) : (doneSt g T 1 = 2 ∧ (builtF g.actions T).length = g.actions.length) ∨ (doneSt g T 1 = 1 ∧ (builtF g.actions T).length ≠ g.actions.length) := by
  have hc := h.inv.count (apart_of (checkedE_woven h.good))
  unfold doneSt
  by_cases he : T.length = g.sources.length + g.actions.length
  · rw [if_pos he]; exact .inl ⟨rfl, by omega⟩
  · rw [if_neg he]; exact .inr ⟨rfl, by omega⟩

def sA : ByteArray := ⟨#[97]⟩
def sX : ByteArray := ⟨#[120]⟩
def sY : ByteArray := ⟨#[121]⟩
def sGo : ByteArray := ⟨#[103, 111]⟩
def gA : Gr := ⟨[sA], [⟨sY, [sX], ⟨#[105, 0]⟩⟩, ⟨sX, [sA], ⟨#[105, 0, 114]⟩⟩]⟩
def lA : List Src := [⟨sA, sGo⟩]
theorem gA_ok : checkedE gA = 0 := by decide +kernel
theorem lA_fit : SrcFit gA lA := ⟨by decide +kernel, fun s hs => by rw [List.mem_singleton.1 hs]; decide +kernel, rfl, fun s hs => by rw [List.mem_singleton.1 hs]; decide +kernel⟩
theorem next_A : nextP gA.actions (startT gA lA) (ordG gA) = some 1 := by decide +kernel
theorem done_A0 : doneSt gA (startT gA lA) 1 = 1 := by decide +kernel
theorem res_A : resOf (startT gA lA) [sA] = [⟨0, sGo⟩] := by kernel_rfl
def tA : TMap := settleF gA.actions (ordG gA) (mput (startT gA lA) sX ⟨30, ⟨#[]⟩⟩)
theorem done_A : doneSt gA tA 1 = 2 := by decide +kernel
theorem built_A : builtF gA.actions tA = [(sY, ⟨34, ByteArray.empty⟩), (sX, ⟨30, ⟨#[]⟩⟩)] := by kernel_rfl
end Go.Proofs.YtnifkpcjpjgkeaaGreatDoor
