/- mill.Run. -/
import Derived.Test.YtnifkpcjpjgkeaaGreatDoorE50
import Derived.Test.YtnifkpcjpjgkeaaGreatDoorG59
import Derived.IntWalk
import Derived.Deep.RegionHeld3
namespace Go.Proofs.YtnifkpcjpjgkeaaGreatDoor
open Go.RowKit Go.Shelf

def RunPost (w : World) (e : Ending) (w' : World) : Prop := ∃ (c : Int) (s : ByteArray) (n : Int), e = .returned (.tuple #[.agg #[.int .i64 c, .string s], .int .i64 n]) ∧ ResOk c s ∧ Below w.heap.size w w'

/-- What Run's loop keeps: the result's cells in block R, the machine. -/
def RunR (w : World) (M : Nat) (code : ByteArray) (iv : Value) (wr : World) : Prop :=
  Below M w wr ∧ ∃ l k, MachAt M M (fun b => b < M) code iv l k wr ∧ k ≤ 1000
theorem any_false_le {l : List ByteArray} (h : (l.any fun s => decide (s.size > 512)) = false) : ∀ s ∈ l, s.size ≤ 512 := by
  intro s hs
  have := List.any_eq_false.1 h s hs
  simpa using this
/-- The result's two cells, written in block R, and the number of steps: what Run hands back. -/
theorem run_end {w wr : World} {R : Nat} {c n : Int} {s : ByteArray} {tmps : Array Value} (hR : w.heap.size ≤ R) (hb : Below w.heap.size w wr) (x0 : ∃ v, wr.cell? ⟨R, 0, none⟩ = some v) (x1 : ∃ v, wr.cell? ⟨R, 1, none⟩ = some v) (hok : ResOk c s) (hp : tmps.getD 4 undef = .pointer (some ⟨R, 0, none⟩)) (hq : tmps.getD 5 undef = .int .i64 n) :
    bodyPost Tryz.prog Tryz.f52 (RunPost w) Exit.ret { tmps := tmps, defers := [] } ((wr.setCell ⟨R, 0, none⟩ (.int .i64 c)).setCell ⟨R, 1, none⟩ (.string s)) := by
  obtain ⟨v0, x0⟩ := x0
  obtain ⟨v1, x1⟩ := x1
  have z1 : ((wr.setCell ⟨R, 0, none⟩ (.int .i64 c)).setCell ⟨R, 1, none⟩ (.string s)).cell? ⟨R, 1, none⟩ = some (.string s) :=
    World.cell?_setCell_same _ _ _ ((World.cell?_setCell_other _ _ _ _ (fun e => by cases e)).trans x1)
  have z0 : ((wr.setCell ⟨R, 0, none⟩ (.int .i64 c)).setCell ⟨R, 1, none⟩ (.string s)).cell? ⟨R, 0, none⟩ = some (.int .i64 c) :=
    (World.cell?_setCell_other _ _ _ _ (fun e => by cases e)).trans (World.cell?_setCell_same _ _ _ x0)
  refine bodyPost_ret (v := .tuple #[.agg #[.int .i64 c, .string s], .int .i64 n]) (results_cell_slot (P := Tryz.prog) (fn := Tryz.f52) rfl tmps _ R 0 [.int .i64 c, .string s] _ (.int .i64 n) hp (fun j v hj => ?_) Tryz.underlying48 rfl infoRes hq) rfl ⟨c, s, n, rfl, hok, (hb.setCell (p := ⟨R, 0, none⟩) hR _).setCell (p := ⟨R, 1, none⟩) hR _⟩
  match j, hj with
  | 0, hj => cases hj; exact z0
  | 1, hj => cases hj; exact z1
theorem byte_ext (code : ByteArray) (k n : Nat) (h : k + n ≤ code.size) (h0 : 0 < n) (h1 : 0 < (code.extract k (k + n)).size) : (code.extract k (k + n))[0]'h1 = code[k]'(by omega) := by
  have := ByteArray.getElem_extract (h := h1)
  simpa using this
/-- A machine laid anew. -/
theorem mach_new (w : World) (code : ByteArray) (iv : Value) (T : TypeId) : RunR w w.heap.size code iv (w.alloc (.cells #[.slice none 0 0, .string code, iv, .int .i64 0] T)) := by
  have hh := (MapKept.heap_alloc w (.cells #[.slice none 0 0, .string code, iv, .int .i64 0] T)).1
  refine ⟨(Below.refl _ _).alloc (Nat.le_refl _) _, [], 0, ⟨⟨⟨.slice none 0 0, by rw [Lib.cell_of_heap hh]; rfl, ⟨rfl, .inl ⟨rfl, rfl⟩⟩, fun g hg => by simp [Value.ownBlock] at hg⟩, Lib.frozen_of_heap hh 0, by simp, by simp, Nat.le_refl _⟩, by rw [Lib.cell_of_heap hh]; rfl, by rw [Lib.cell_of_heap hh]; rfl, by rw [Lib.cell_of_heap hh]; rfl, Lib.frozen_of_heap hh 3⟩, by omega⟩

set_option maxHeartbeats 2000000 in
set_option maxRecDepth 20000 in
theorem Run_any {F : Nat → Prop} (code : ByteArray) (l : List ByteArray) (v : Value) (w : World) (hv : Strs F w v l) (hL : LaidB w.heap.size w) : Calls Tryz.prog 52 #[.string code, v] w (RunPost w) := by
  have HV := Lib.hid hv.lt
  have HL := Lib.hid hL
  have HC := Lib.hid (fun (w0 : World) (hb : Below w.heap.size w w0) => ContainsFunc_str l v 73 #[] #[] (fun s => decide (s.size > 512)) w0 (hv.below hb) (enters_of Tryz.func73 (by kernel_rfl) rfl) (fun s _ w1 hb1 => (isWide_any s w1).mono (fun e w' h => ⟨h.1, h.2 ▸ hb1⟩)))
  obtain ⟨a, cap, rfl, hcap, hl, -, -⟩ := hv
  clear hL
  by_cases h1 : 64 < code.size
  · go_enter Tryz.func52, Tryz.ntmps52
    go_wp2_with fail
    exact bodyPost_ret (v := .tuple #[.agg #[.int .i64 4, .string ⟨#[]⟩], .int .i64 0]) (by simp [results, Tryz.results52, go_sem]) rfl ⟨4, _, 0, rfl, ⟨by decide, .inr rfl⟩, (Below.refl _ _).alloc (Nat.le_refl _) _⟩
  · by_cases h2 : 4 < l.length
    · go_enter Tryz.func52, Tryz.ntmps52
      go_wp2_with fail
      exact bodyPost_ret (v := .tuple #[.agg #[.int .i64 4, .string ⟨#[]⟩], .int .i64 0]) (by simp [results, Tryz.results52, go_sem]) rfl ⟨4, _, 0, rfl, ⟨by decide, .inr rfl⟩, (Below.refl _ _).alloc (Nat.le_refl _) _⟩
    · go_enter Tryz.func52, Tryz.ntmps52
      go_wp2_with fail
      refine (HC.out _ ((Below.refl _ _).alloc (Nat.le_refl _) _)).mono ?_
      rintro e w1 ⟨rfl, hb1⟩
      have HB1 := Lib.hid (((Below.refl w.heap.size w).alloc (Nat.le_refl _) (.cells #[.int .i64 0, .string ⟨#[]⟩] 48)).trans (hb1.mono (by simp)))
      have hh := (hb1.block w.heap.size (by simp)).trans (MapKept.heap_alloc w _).1
      have z1 : w.heap.size < w1.heap.size := by have := hb1.size; simp at this; omega
      cases hx : (l.any fun s => decide (s.size > 512))
      · have HAll := Lib.hid (any_false_le hx)
        clear hx hb1
        have HH := Lib.hid hh
        clear hh
        go_wp2_with fail
        have RM := Lib.hid (mach_new w1 code (.slice a l.length cap) 147)
        have HS1 := Lib.hid (show Strs (fun b => b < w1.heap.size) w1 (.slice a l.length cap) l from (HV.out.below HB1.out).keep (fun b hb => Nat.lt_of_lt_of_le hb HB1.out.size) ⟨Nat.le_refl _, fun _ _ _ => rfl⟩)
        have HL1 := Lib.hid ((HL.out.below HB1.out).here)
        generalize w1.alloc (.cells #[.slice none 0 0, .string code, .slice a l.length cap, .int .i64 0] 147) = wq at RM ⊢
        generalize hM : w1.heap.size = M at RM HS1 HL1 z1 ⊢
        have HMz := Lib.hid hM
        clear hM HV HL HC
        go_loopw [7] (fun i wr => ∃ n : Nat, n ≤ 300 ∧ i = .int .i64 (n : Int) ∧ RunR w1 M code (.slice a l.length cap) wr) (fun i _ => 301 - (intOf i).toNat)
        case atStart => exact ⟨0, by omega, rfl, RM.out⟩
        case round =>
          obtain ⟨n, hn, rfl, hR⟩ := hrel
          clear RM
          have HBr := Lib.hid hR.1
          obtain ⟨-, lm, k, hm, hk⟩ := hR
          have HM := Lib.hid hm
          have y3 := hm.2.2.2.1
          clear hm
          have HBw := Lib.hid (HB1.out.trans (HBr.out.mono (by omega)))
          have hhr := (HBr.out.block w.heap.size (by omega)).trans HH.out
          have x0 := (Lib.cell_of_heap hhr 0).trans (show _ = some (Value.int .i64 0) from rfl)
          have x1 := (Lib.cell_of_heap hhr 1).trans (show _ = some (Value.string ⟨#[]⟩) from rfl)
          have f0 := Lib.frozen_of_heap hhr 0
          have f1 := Lib.frozen_of_heap hhr 1
          clear hhr
          by_cases hke : k = code.size
          · have hb : ((k : Int) == (code.size : Int)) = true := by rw [beq_iff_eq]; omega
            clear hke
            go_wp2_with fail
            refine (end_any M M _ lm _ HM.out.1 (fun h => Nat.lt_irrefl _ h) (by have := HBr.out.size; have := HMz.out; omega)).mono ?_
            rintro e w2 ⟨c, s, rfl, hok, hb2⟩
            have hhr2 := (hb2.block w.heap.size (by omega)).trans ((HBr.out.block w.heap.size (by omega)).trans HH.out)
            have HB2 := Lib.hid (HBw.out.trans (hb2.mono (by omega)))
            clear x0 x1 f0 f1 hb2 y3
            have x0 := (Lib.cell_of_heap hhr2 0).trans (show _ = some (Value.int .i64 0) from rfl)
            have x1 := (Lib.cell_of_heap hhr2 1).trans (show _ = some (Value.string ⟨#[]⟩) from rfl)
            have f0 := Lib.frozen_of_heap hhr2 0
            have f1 := Lib.frozen_of_heap hhr2 1
            clear hhr2
            go_wp2_with fail
            exact run_end (Nat.le_refl _) HB2.out ⟨_, x0⟩ ⟨_, x1⟩ hok rfl rfl
          · have hb : ((k : Int) == (code.size : Int)) = false := by rw [beq_eq_false_iff_ne]; omega
            by_cases hkg : code.size < k
            · clear hke
              go_wp2_with fail
              exact run_end (Nat.le_refl _) HBw.out ⟨_, x0⟩ ⟨_, x1⟩ ⟨by decide, .inr rfl⟩ rfl rfl
            · have hkl : k < code.size := by omega
              have hw := widthF_le code k
              have HWp := Lib.hid (widthF_p code k hkl)
              have HWd := Lib.hid (fun w0 => width_any code k w0 hkl (by omega))
              generalize hwd : widthF code k = wd at hw HWp
              have HWD := Lib.hid hwd
              clear hwd hke
              by_cases hz : wd = 0
              · have hb2 : ((wd : Int) == 0) = true := by rw [beq_iff_eq]; omega
                clear hz
                go_wp2_with fail
                refine (HWd.out _).mono ?_
                rintro e w2 ⟨rfl, rfl⟩
                rw [HWD.out]
                go_wp2_with fail
                exact run_end (Nat.le_refl _) HBw.out ⟨_, x0⟩ ⟨_, x1⟩ ⟨by decide, .inr rfl⟩ rfl rfl
              · have hb2 : ((wd : Int) == 0) = false := by rw [beq_eq_false_iff_ne]; omega
                have hz0 : 0 < wd := by omega
                clear hz
                by_cases hn3 : n = 300
                · have hb3 : ((n : Int) == 300) = true := by rw [beq_iff_eq]; omega
                  clear hn3
                  go_wp2_with fail
                  refine (HWd.out _).mono ?_
                  rintro e w2 ⟨rfl, rfl⟩
                  rw [HWD.out]
                  go_wp2_with fail
                  exact run_end (Nat.le_refl _) HBw.out ⟨_, x0⟩ ⟨_, x1⟩ ⟨by decide, .inr rfl⟩ rfl rfl
                · have hb3 : ((n : Int) == 300) = false := by rw [beq_eq_false_iff_ne]; omega
                  have hn4 : n < 300 := by omega
                  clear hn3
                  have hsz : (code.extract k (k + wd)).size = wd := by rw [ByteArray.size_extract]; omega
                  have HSt := Lib.hid (fun (w0 : World) (hb : Below wr.heap.size wr w0) => step_any M M (fun b => b < M) code (.slice a l.length cap) lm l k (code.extract k (k + wd)) w0 (by omega) (by omega) (HM.out.below hb) (by omega) (fun h => Nat.lt_irrefl _ h) (by have := HBr.out.size; have := HMz.out; have := hb.size; omega) (fun j hj => by have := HBr.out.size; have := HMz.out; have := hb.size; omega)
                    (fun h => by rw [hsz]; rw [byte_ext code k wd (by omega) hz0] at h; rcases HWp.out h with h | h <;> omega) ((HL1.out.below HBr.out).below (hb.mono (by have := HBr.out.size; have := HMz.out; omega)))
                    ((HS1.out.keep (fun _ h => h) ⟨HBr.out.size, fun b hb1 hb2 => HBr.out.block b hb1⟩).keep (fun _ h => h) ⟨hb.size, fun b hb1 hb2 => hb.block b (by have := HBr.out.size; have := HMz.out; omega)⟩) (fun x hx => by have := HAll.out x hx; omega))
                  have q1 : (0 : Int) ≤ (k : Int) := by omega
                  have q2 : (k : Int) ≤ (k : Int) + (wd : Int) := by omega
                  have q3 : (k : Int) + (wd : Int) ≤ (code.size : Int) := by omega
                  go_wp2_with fail
                  refine (HWd.out _).mono ?_
                  rintro e w2 ⟨rfl, rfl⟩
                  rw [HWD.out]
                  go_wp2_with fail
                  have q5 : (0 : Int) ≤ (k : Int) + (wd : Int) := by omega
                  have q6 : ((k : Int) + (wd : Int)).toNat = k + wd := by omega
                  have q7 : (k : Int).toNat = k := by omega
                  have q4 : IntKind.i64.wrap ((k : Int) + (wd : Int)) = (k : Int) + (wd : Int) := IntWalk.i64_in _ (by omega)
                  go_region_with (first | (go_at_call 75; refine (HWd.out _).mono ?_; rintro e w2 ⟨rfl, rfl⟩; rw [HWD.out]) | (go_at_call 76; refine (HSt.out _ ((Below.refl _ _).drew)).mono ?_; rintro e w3 ⟨c, l', k', rfl, hm3, hk3, hb3, hg3⟩))
                  all_goals
                    have RM3 := Lib.hid (show RunR w1 M code (.slice a l.length cap) w3 from ⟨HBr.out.trans (((Below.refl _ _).drew).trans hb3), l', k', hm3, hk3⟩)
                    have hhr3 := (RM3.out.1.block w.heap.size (by omega)).trans HH.out
                    clear x0 x1 f0 f1 hm3 hb3 hg3 y3
                    by_cases hc0 : c = 0
                    · have hb4 : (c != 0) = false := by simp [bne, hc0]
                      clear hc0 hhr3
                      go_wp2_with fail
                      first
                        | exact ⟨⟨n + 1, by omega, by go_num, RM3.out⟩, by simp [intOf]; omega⟩
                        | (go_roundw
                           case rel => exact ⟨n + 1, by omega, by go_num, RM3.out⟩
                           case measure => simp [intOf]; omega)
                    · have hb4 : (c != 0) = true := by rw [bne_iff_ne]; exact hc0
                      have HB3 := Lib.hid (HB1.out.trans (RM3.out.1.mono (by have := HMz.out; omega)))
                      have x0 := (Lib.cell_of_heap hhr3 0).trans (show _ = some (Value.int .i64 0) from rfl)
                      have x1 := (Lib.cell_of_heap hhr3 1).trans (show _ = some (Value.string ⟨#[]⟩) from rfl)
                      have f0 := Lib.frozen_of_heap hhr3 0
                      have f1 := Lib.frozen_of_heap hhr3 1
                      clear hhr3 hc0
                      go_wp2_with fail
                      exact run_end (Nat.le_refl _) HB3.out ⟨_, x0⟩ ⟨_, x1⟩ ⟨by decide, .inr rfl⟩ rfl rfl
      · clear hx hb1
        have x0 := (Lib.cell_of_heap hh 0).trans (show _ = some (Value.int .i64 0) from rfl)
        have x1 := (Lib.cell_of_heap hh 1).trans (show _ = some (Value.string ⟨#[]⟩) from rfl)
        have f0 := Lib.frozen_of_heap hh 0
        have f1 := Lib.frozen_of_heap hh 1
        clear hh
        go_wp2_with fail
        exact run_end (Nat.le_refl _) HB1.out ⟨_, x0⟩ ⟨_, x1⟩ ⟨by decide, .inr rfl⟩ rfl rfl
end Go.Proofs.YtnifkpcjpjgkeaaGreatDoor
