/- sap: texts, rows. -/
import Derived.Test.YtnifkpcjpjgkeaaGreatDoorD15
namespace Go.Proofs.YtnifkpcjpjgkeaaGreatDoor
open Go.RowKit Go.Shelf

set_option maxHeartbeats 400000 in
theorem Text_any (s : ByteArray) (w : World) (hs : s.size ≤ 100000) : Calls Tryz.prog 57 #[.string s] w (TextPost (s.size + 9) w) := by
  have HS := Lib.hid hs
  go_enter Tryz.func57, Tryz.ntmps57
  go_wp2_with fail
  refine (Num_any s.size _ (by omega)).mono ?_
  rintro e w1 ⟨t, rfl, ht, hb1⟩
  have HT := Lib.hid ht
  have hcat : ¬ (9223372036854775807 < t.size + s.size) := by omega
  go_wp2_with fail
  go_ret
  exact ⟨_, rfl, by have := HT.out; simp [ByteArray.size_append]; omega, hb1⟩

set_option maxHeartbeats 1000000 in
theorem Row_any {F : Nat → Prop} (l : List ByteArray) (v : Value) (w : World) (hv : Strs F w v l) (hl : l.length ≤ 64) (hm : ∀ s ∈ l, s.size ≤ 4096) :
    Calls Tryz.prog 47 #[v] w (TextPost 300000 w) := by
  have HV := Lib.hid hv
  have HM := Lib.hid hm
  obtain ⟨a, cap, rfl, h2, -, -, h5⟩ := hv
  have H5 := Lib.hid h5
  clear hm h5
  have B0 := Lib.hid (Bld.new w)
  have HB0 := Lib.hid ((Below.refl w.heap.size w).alloc (Nat.le_refl _) (.cells #[.pointer none, .slice none 0 0] 125))
  go_enter Tryz.func47, Tryz.ntmps47
  go_wp2_with fail
  generalize hwq : w.alloc (.cells #[.pointer none, .slice none 0 0] 125) = wq at B0 HB0 ⊢
  have hz : w.heap.size < wq.heap.size := by rw [← hwq]; simp
  clear hwq
  go_wp2_with fail
  refine (Num_any l.length _ (by omega)).mono ?_
  rintro e w1 ⟨t, rfl, ht, hb1⟩
  have HT := Lib.hid ht
  have B1 := Lib.hid (B0.out.below hb1)
  have HB1 := Lib.hid (HB0.out.trans (hb1.mono HB0.out.size))
  clear hb1 ht B0
  go_wp2_with fail
  refine (B1.out.write t (by have := HT.out; simp; omega) HB1.out.size).mono ?_
  rintro e w2 ⟨rfl, B2, hb2⟩
  have B2 := Lib.hid B2
  have HB2 := Lib.hid (HB1.out.trans hb2)
  clear hb2 B1 HB1
  go_wp2_with fail
  go_loopw [12] (fun i wr => ∃ (k : Nat) (bs : List UInt8), k ≤ l.length ∧ i = .int .i64 (k : Int) ∧ Bld w.heap.size w.heap.size bs wr ∧ bs.length ≤ 9 + k * 4105 ∧ Below w.heap.size w wr) (fun i _ => l.length - (intOf i).toNat)
  case atStart => exact ⟨0, _, Nat.zero_le _, rfl, B2.out, by have := HT.out; simp; exact this, HB2.out⟩
  case round =>
    obtain ⟨k, bs, hk, rfl, hB, hlen, hW⟩ := hrel
    clear B2 HB2
    have HB := Lib.hid hB
    have HW := Lib.hid hW
    have HL := Lib.hid hlen
    clear hB hW hlen
    by_cases hlt : k < l.length
    · obtain ⟨b, off, rfl, -, hbs, hc⟩ := H5.out.resolve_left (fun e => by rw [e] at hlt; simp at hlt)
      have c0 := (HW.out.cell (p := ⟨b, off + k, none⟩) hbs).trans (hc k hlt)
      have hsz := HM.out _ (getD_mem ByteArray.empty hlt)
      generalize l.getD k ByteArray.empty = s at c0 hsz
      clear hc
      go_wp2_with fail
      refine (Text_any s _ (by omega)).mono ?_
      rintro e w3 ⟨t3, rfl, ht3, hb3⟩
      have HT3 := Lib.hid ht3
      have B3 := Lib.hid (HB.out.below hb3)
      have HB3 := Lib.hid (HW.out.trans (hb3.mono HW.out.size))
      clear hb3 ht3 HB HW c0
      go_wp2_with fail
      refine (B3.out.write t3 (by have h1 := HT3.out; have h2 := HL.out; omega) HB3.out.size).mono ?_
      rintro e w4 ⟨rfl, B4, hb4⟩
      have B4 := Lib.hid B4
      have HB4 := Lib.hid (HB3.out.trans hb4)
      clear hb4
      go_wp2_with fail
      go_roundw
      case rel => exact ⟨k + 1, _, by omega, by go_num, B4.out, by have h1 := HT3.out; have h2 := HL.out; have h3 : t3.data.toList.length = t3.size := by simp
                                                                   rw [List.length_append, h3]; omega, HB4.out⟩
      case measure => simp [intOf]; omega
    · go_wp2_with fail
      refine (HB.out.string HW.out.size).mono ?_
      rintro e w3 ⟨rfl, hb3⟩
      have HB3 := Lib.hid (HW.out.trans hb3)
      clear hb3
      go_wp2_with fail
      go_ret
      exact ⟨_, rfl, by have h2 := HL.out; show bs.toArray.size ≤ _; simp; omega, HB3.out⟩
end Go.Proofs.YtnifkpcjpjgkeaaGreatDoor
