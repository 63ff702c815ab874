/- sap: numbers and texts as bytes, of their sizes alone. -/
import Derived.Test.YtnifkpcjpjgkeaaGreatDoorC14
import Derived.Deep.RegionLaw
namespace Go.Proofs.YtnifkpcjpjgkeaaGreatDoor
open Go.RowKit Go.Shelf

/-- Block b begins with these bytes, which can be written. -/
def BRow (w : World) (b : Nat) (l : List UInt8) : Prop := ∀ j, j < l.length → w.cell? ⟨b, j, none⟩ = some (.int .u8 (l.getD j 0).toNat) ∧ w.frozen? ⟨b, j, none⟩ = false
theorem BRow.keep {w w' : World} {b : Nat} {l : List UInt8} (h : BRow w b l) (hk : w'.heap[b]? = w.heap[b]?) : BRow w' b l :=
  fun j hj => ⟨(World.cell?_of_block (w := w) (a := ⟨b, j, none⟩) hk).trans (h j hj).1, (World.frozen?_of_block (w := w) (a := ⟨b, j, none⟩) hk).trans (h j hj).2⟩
theorem BRow.set {w : World} {b : Nat} {l : List UInt8} (h : BRow w b l) (j : Nat) (x : UInt8) : BRow (w.setCell ⟨b, j, none⟩ (.int .u8 x.toNat)) b (l.set j x) := by
  intro k hk
  rw [List.length_set] at hk
  obtain ⟨h1, h2⟩ := h k hk
  by_cases e : j = k
  · subst e
    refine ⟨?_, by simpa using h2⟩
    rw [World.cell?_setCell_same _ _ _ h1]
    simp [List.getD_eq_getElem?_getD, hk]
  · refine ⟨?_, by simpa using h2⟩
    rw [World.cell?_setCell_other w ⟨b, j, none⟩ ⟨b, k, none⟩ _ (fun q => e (by cases q; rfl)), h1]
    simp [List.getD_eq_getElem?_getD, List.getElem?_set_ne e]
theorem u8_of {z : Int} (h0 : 0 ≤ z) (h1 : z < 256) : ∃ x : UInt8, z = x.toNat := ⟨UInt8.ofNat z.toNat, (by
  have : (UInt8.ofNat z.toNat).toNat = z.toNat % 256 := rfl
  omega)⟩
theorem u8_wrap (z : Int) : ∃ x : UInt8, IntKind.u8.wrap z = x.toNat := by
  have : IntKind.u8.wrap z = z % 256 := rfl
  exact u8_of (by omega) (by omega)
theorem shr_lt {n : Int} {k : Nat} (h : n < 2 ^ (8 * (k + 1))) : n / 256 < 2 ^ (8 * k) := by
  rw [Nat.mul_add, Int.pow_add] at h
  simp at h
  generalize (2 : Int) ^ (8 * k) = p at h ⊢
  omega

/-- 'string(b)' of bytes that are read, as an equation. -/
theorem run_b2s {P : Program} (w : World) (src dst e : TypeId) (hs : P.underlying src = some (.slice e)) (hd : P.underlying dst = some .string) (he : P.underlying e = some (.int .u8)) (b off n cap : Nat) (l : List UInt8) (hl : l.length = n)
    (hc : ∀ j, j < n → w.cell? ⟨b, off + j, none⟩ = some (.int .u8 (l.getD j 0).toNat)) : (convert src dst (.slice (some ⟨b, off, none⟩) n cap)).run P w = .ok (.string ⟨l.toArray⟩) w := by
  have hrun := run_convert_bytes_arg (P := P) w src e hs he b off n cap (l.map fun b => (b.toNat : Int)) (by simpa using hl) (fun i hi => by
    rw [hc i hi]; simp [List.getD, List.getElem?_map]; cases l[i]? <;> simp) dst hd
  have e1 : strOfNums (l.map fun b => (b.toNat : Int)) = ⟨l.toArray⟩ := by
    show (⟨_⟩ : ByteArray) = _
    congr 1
    simp [Function.comp_def]
  rw [e1] at hrun
  exact hrun

def TextPost (k : Nat) (w : World) (e : Ending) (w' : World) : Prop := ∃ s : ByteArray, e = .returned (.string s) ∧ s.size ≤ k ∧ Below w.heap.size w w'

set_option maxHeartbeats 1000000 in
theorem Num_any (n : Nat) (w : World) (hn : n < 9223372036854775808) : Calls Tryz.prog 32 #[.int .i64 (n : Int)] w (TextPost 9 w) := by
  have hneg : decide ((n : Int) < 0) = false := by simp
  go_enter Tryz.func32, Tryz.ntmps32
  go_wp2_with fail
  have hr : BRow (w.alloc (.cells #[.int .u8 0, .int .u8 0, .int .u8 0, .int .u8 0, .int .u8 0, .int .u8 0, .int .u8 0, .int .u8 0] 101)) w.heap.size (List.replicate 8 0) := by
    intro j hj
    have hh := (MapKept.heap_alloc w (.cells #[.int .u8 0, .int .u8 0, .int .u8 0, .int .u8 0, .int .u8 0, .int .u8 0, .int .u8 0, .int .u8 0] 101)).1
    have hj : j < 8 := by simpa using hj
    refine ⟨?_, Lib.frozen_of_heap hh j⟩
    rw [Lib.cell_of_heap hh]
    match j, hj with
    | 0, _ => rfl
    | 1, _ => rfl
    | 2, _ => rfl
    | 3, _ => rfl
    | 4, _ => rfl
    | 5, _ => rfl
    | 6, _ => rfl
    | 7, _ => rfl
  have HB := Lib.hid ((Below.refl w.heap.size w).alloc (Nat.le_refl _) (.cells #[.int .u8 0, .int .u8 0, .int .u8 0, .int .u8 0, .int .u8 0, .int .u8 0, .int .u8 0, .int .u8 0] 101))
  have hz : w.heap.size < (w.alloc (.cells #[.int .u8 0, .int .u8 0, .int .u8 0, .int .u8 0, .int .u8 0, .int .u8 0, .int .u8 0, .int .u8 0] 101)).heap.size := by simp
  have HR := Lib.hid hr
  generalize w.alloc (.cells #[.int .u8 0, .int .u8 0, .int .u8 0, .int .u8 0, .int .u8 0, .int .u8 0, .int .u8 0, .int .u8 0] 101) = w1 at HB HR hz ⊢
  clear hr
  go_loopw [0, 5] (fun v u wr => ∃ (m k : Nat) (l : List UInt8), v = .int .i64 (m : Int) ∧ u = .int .i64 (k : Int) ∧ k ≤ 8 ∧ m < 9223372036854775808 ∧ (m : Int) < 2 ^ (8 * k) ∧ l.length = 8 ∧ BRow wr w.heap.size l ∧ Below w.heap.size w wr ∧ w.heap.size < wr.heap.size) (fun _ u _ => (intOf u).toNat)
  case atStart => exact ⟨n, 8, _, rfl, rfl, by omega, hn, by omega, rfl, HR.out, HB.out, hz⟩
  case round =>
    obtain ⟨m, k, l, rfl, rfl, hk, hm, hmk, hl, hR, hB, hz⟩ := hrel
    clear HR HB
    have HR := Lib.hid hR
    have HB := Lib.hid hB
    clear hR hB
    by_cases h0 : m = 0
    · subst h0
      clear hmk
      obtain ⟨s2, hs2, hD⟩ : ∃ s2 : ByteArray, s2.size ≤ 8 ∧ ∀ w', w'.heap[w.heap.size]? = wr.heap[w.heap.size]? → ∀ cap, (convert 95 9 (.slice (some ⟨w.heap.size, if k = 8 then 0 else k, none⟩) (8 - k) cap)).run Tryz.prog w' = .ok (.string s2) w' := by
        by_cases hk8 : k = 8
        · subst hk8
          exact ⟨⟨#[]⟩, by decide, fun w' hw' cap => run_b2s _ 95 9 5 Tryz.underlying95 Tryz.underlying9 Tryz.underlying5 _ _ _ _ [] rfl (by simp)⟩
        · rw [if_neg hk8]
          refine ⟨⟨(l.drop k).toArray⟩, by show (l.drop k).toArray.size ≤ 8; simp [hl], fun w' hw' cap => run_b2s w' 95 9 5 Tryz.underlying95 Tryz.underlying9 Tryz.underlying5 w.heap.size k (8 - k) cap (l.drop k) (by simp [hl]) (fun j hj => ?_)⟩
          rw [((HR.out.keep hw') (k + j) (by omega)).1]; simp [List.getD_eq_getElem?_getD]
      have hC : ∀ z : Int, ∃ s1 : ByteArray, s1.size = 1 ∧ (convert 95 9 (.slice (some ⟨wr.heap.size, 0, none⟩) 1 1)).run Tryz.prog (wr.alloc (.cells #[.int .u8 (IntKind.u8.wrap z)] 5)).drew = .ok (.string s1) (wr.alloc (.cells #[.int .u8 (IntKind.u8.wrap z)] 5)).drew := by
        intro z
        obtain ⟨c, hc⟩ := u8_wrap z
        refine ⟨⟨#[c]⟩, rfl, run_b2s _ 95 9 5 Tryz.underlying95 Tryz.underlying9 Tryz.underlying5 wr.heap.size 0 1 1 [c] rfl (fun j hj => ?_)⟩
        obtain rfl : j = 0 := by omega
        exact (Lib.cell_of_heap (w := (wr.alloc (.cells #[.int .u8 (IntKind.u8.wrap z)] 5)).drew) (MapKept.heap_alloc wr (.cells #[.int .u8 (IntKind.u8.wrap z)] 5)).1 _).trans (by rw [hc]; rfl)
      have hw1 : ∀ z : Int, ((wr.alloc (.cells #[.int .u8 (IntKind.u8.wrap z)] 5)).drew).heap[w.heap.size]? = wr.heap[w.heap.size]? := fun z => Below.heap_alloc _ _ _ hz
      have HB2 := Lib.hid (fun (z : Int) => (HB.out.alloc HB.out.size (.cells #[.int .u8 (IntKind.u8.wrap z)] 5)).drew)
      have HS2 := Lib.hid hs2
      by_cases hk8 : k = 8
      · subst hk8
        have hD1 := hD _ (hw1 (bits BinOp.or .i64 0 (IntKind.i64.wrap 0))) 0
        have hD2 := hD wr.drew rfl 0
        simp only [if_true, Nat.sub_self] at hD1 hD2
        obtain ⟨s1, hs1, hC⟩ := hC (bits BinOp.or .i64 0 (IntKind.i64.wrap 0))
        have hcat : ¬ (9223372036854775807 < s1.size + s2.size) := by omega
        have HS1 := Lib.hid hs1
        clear hD hw1 hs1 hs2 hl
        go_wp2_with fail
        go_region_law (fail)
        all_goals
          go_wp2_with fail
          go_ret
          exact ⟨_, rfl, by have h1 := HS1.out; have h2 := HS2.out; simp [ByteArray.size_append]; omega, HB2.out _⟩
      · have hD1 := hD _ (hw1 (bits BinOp.or .i64 0 (IntKind.i64.wrap (8 - (k : Int))))) (8 - k)
        have hD2 := hD wr.drew rfl (8 - k)
        rw [if_neg hk8] at hD1 hD2
        obtain ⟨s1, hs1, hC⟩ := hC (bits BinOp.or .i64 0 (IntKind.i64.wrap (8 - (k : Int))))
        have hSl : ∀ W, (Instr.sliceAt 101 (.pointer (some ⟨w.heap.size, 0, none⟩)) (some (.int .i64 (k : Int))) none none).run Tryz.prog W = .ok (.slice (some ⟨w.heap.size, k, none⟩) (8 - k) (8 - k)) W := by
          intro W
          obtain rfl | rfl | rfl | rfl | rfl | rfl | rfl | rfl : k = 0 ∨ k = 1 ∨ k = 2 ∨ k = 3 ∨ k = 4 ∨ k = 5 ∨ k = 6 ∨ k = 7 := by omega
          all_goals kernel_rfl
        have hcat : ¬ (9223372036854775807 < s1.size + s2.size) := by omega
        have HS1 := Lib.hid hs1
        clear hD hw1 hs1 hs2 hl
        go_wp2_with fail
        go_region_law (fail)
        all_goals
          go_wp2_with fail
          go_ret
          exact ⟨_, rfl, by have h1 := HS1.out; have h2 := HS2.out; simp [ByteArray.size_append]; omega, HB2.out _⟩
    · obtain ⟨k, rfl⟩ : ∃ k', k = k' + 1 := ⟨k - 1, by
        rcases Nat.eq_zero_or_pos k with rfl | h
        · simp at hmk; omega
        · omega⟩
      have hm2 := shr_lt hmk
      have HM := Lib.hid hm2
      clear hmk hm2
      have h1 : decide ((m : Int) > 0) = true := by simp; omega
      obtain ⟨c0, f0⟩ := HR.out k (by omega)
      go_wp2_with fail
      obtain ⟨x, hx⟩ := u8_of (z := (m : Int) % 256) (by omega) (by omega)
      rw [hx]
      exact ⟨⟨m / 256, k, l.set k x, by simp, rfl, by omega, by omega, by have := HM.out; omega, by simp [hl], HR.out.set k x, HB.out.setCell (p := ⟨w.heap.size, k, none⟩) (Nat.le_refl _) _, by simpa [World.setCell] using hz⟩, by simp [intOf]⟩
end Go.Proofs.YtnifkpcjpjgkeaaGreatDoor
