/- slices.IndexFunc and slices.ContainsFunc over actions, by what the function that is handed in answers. -/
import Derived.Test.YtnifkpcjpjgkeaaGreatDoorB03
namespace Go.Proofs.YtnifkpcjpjgkeaaGreatDoor
open Go.RowKit Go.Shelf
set_option maxHeartbeats 400000 in
set_option maxRecDepth 20000 in
theorem IndexFunc_act {F : Nat → Prop} (l : List Act) (v : Value) (fn : FuncId) (first cp : Array Value) (p : Act → Bool) (w : World) (hs : Acts F w v l) (hen : Enters Tryz.prog fn)
    (hf : ∀ s ∈ l, ∀ iv w0, Strs F w iv s.inputs → Below w.heap.size w w0 → Calls Tryz.prog fn (first ++ #[.agg #[.string s.name, iv, .string s.code]] ++ cp) w0 (fun e w' => e = .returned (.bool (p s)) ∧ Below w.heap.size w w')) :
    Calls Tryz.prog 43 #[v, .func (.func fn) first cp] w fun e w' => e = .returned (.int .i64 (idx p l 0)) ∧ Below w.heap.size w w' := by
  obtain ⟨a, cap, rfl, h2, h3, h4, h5⟩ := hs
  have hr := fun args w => hen args w
  have HF := Lib.hid hf; clear hf
  have H4 := Lib.hid h4; clear h4
  go_enter Tryz.func43, Tryz.ntmps43
  go_wp2_with fail
  go_loopw [5, 8] (fun _ i wr => ∃ k : Nat, k ≤ l.length ∧ i = .int .i64 k ∧ Below w.heap.size w wr ∧ idx p l 0 = idx p (l.drop k) k) (fun _ i _ => l.length - (intOf i).toNat)
  case atStart => exact ⟨0, Nat.zero_le _, rfl, Below.refl _ _, rfl⟩
  case round =>
    obtain ⟨k, hk, rfl, hb, hi⟩ := hrel
    have HI := Lib.hid hi; clear hi
    have HB := Lib.hid hb; clear hb
    by_cases hlt : k < l.length
    · obtain ⟨b, off, rfl, hfb, hbs, hc⟩ := h5.resolve_left (fun e => by rw [e] at hlt; simp at hlt)
      obtain ⟨iv, hiv, hc0, hc1, hc2⟩ := hc k hlt
      have hcell0 := (HB.out.cell (p := ⟨b, off + k * 3, none⟩) hbs).trans hc0
      have hcell1 := (HB.out.cell (p := ⟨b, off + k * 3 + 1, none⟩) hbs).trans hc1
      have hcell2 := (HB.out.cell (p := ⟨b, off + k * 3 + 2, none⟩) hbs).trans hc2
      clear hc0 hc1 hc2
      have hmem : l.getD k default ∈ l := by rw [List.getD_eq_getElem?_getD, List.getElem?_eq_getElem hlt]; exact List.getElem_mem hlt
      have hd := idx_drop p default l k k hlt
      generalize l.getD k default = s at hcell0 hcell1 hcell2 hmem hd hiv
      have HD := Lib.hid hd; clear hd
      clear hc h5 hfb hbs
      go_wp2_with fail
      refine ((by simpa using HF.out s hmem iv wr hiv HB.out : Calls Tryz.prog fn (first.push (.agg #[.string s.name, iv, .string s.code]) ++ cp) wr _)).mono ?_
      rintro e w1 ⟨rfl, hb1⟩
      have HB1 := Lib.hid hb1; clear hb1 hcell0 hcell1 hcell2 HB
      cases hps : p s
      · have hd := HD.out
        rw [hps] at hd
        simp only [Bool.false_eq_true, if_false] at hd
        have HD' := Lib.hid hd; clear hd
        clear hps HD
        go_wp2_with fail
        go_roundw
        case rel => exact ⟨k + 1, by omega, by go_num, HB1.out, HI.out.trans HD'.out⟩
        case measure => simp [intOf]; omega
      · have hd := HD.out
        rw [hps] at hd
        simp only [if_true] at hd
        have HD' := Lib.hid hd; clear hd
        clear hps HD
        go_wp2_with fail
        go_ret
        exact ⟨by rw [HI.out, HD'.out]; rfl, HB1.out⟩
    · go_wp2_with fail
      go_ret
      exact ⟨by rw [HI.out, List.drop_eq_nil_of_le (by omega)]; rfl, HB.out⟩
set_option maxHeartbeats 400000 in
theorem ContainsFunc_act {F : Nat → Prop} (l : List Act) (v : Value) (fn : FuncId) (first cp : Array Value) (p : Act → Bool) (w : World) (hs : Acts F w v l) (hen : Enters Tryz.prog fn)
    (hf : ∀ s ∈ l, ∀ iv w0, Strs F w iv s.inputs → Below w.heap.size w w0 → Calls Tryz.prog fn (first ++ #[.agg #[.string s.name, iv, .string s.code]] ++ cp) w0 (fun e w' => e = .returned (.bool (p s)) ∧ Below w.heap.size w w')) :
    Calls Tryz.prog 83 #[v, .func (.func fn) first cp] w fun e w' => e = .returned (.bool (l.any p)) ∧ Below w.heap.size w w' := by
  have HI := Lib.hid (IndexFunc_act l v fn first cp p w hs hen hf)
  clear hf hen hs
  have ha := idx_any p l 0
  go_enter Tryz.func83, Tryz.ntmps83
  go_wp2_with fail
  refine HI.out.mono ?_
  rintro e w1 ⟨rfl, hb1⟩
  go_wp2_with fail
  go_ret
  exact ⟨rfl, hb1⟩
end Go.Proofs.YtnifkpcjpjgkeaaGreatDoor
