/- mill.step: all its cases joined. -/
import Derived.Test.YtnifkpcjpjgkeaaGreatDoorME35
import Derived.Test.YtnifkpcjpjgkeaaGreatDoorME38
import Derived.Test.YtnifkpcjpjgkeaaGreatDoorME39
import Derived.Test.YtnifkpcjpjgkeaaGreatDoorME44
import Derived.Test.YtnifkpcjpjgkeaaGreatDoorME47
namespace Go.Proofs.YtnifkpcjpjgkeaaGreatDoor
open Go.RowKit Go.Shelf

theorem step_any (B M : Nat) (G : Nat → Prop) (code : ByteArray) (iv : Value) (l li : List ByteArray) (k : Nat) (s : ByteArray) (w : World) (h1 : 0 < s.size) (hs : s.size ≤ 1000) (hm : MachAt B M G code iv l k w) (hk : k + s.size ≤ 1000) (hG : ¬ G M) (hB : B ≤ w.heap.size) (hGl : ∀ k, G k → k < w.heap.size)
    (hp : s[0]'h1 = 112 → 2 ≤ s.size) (hL : LaidB B w) (hiv : Strs G w iv li) (hli : ∀ x ∈ li, x.size ≤ 2000) : Calls Tryz.prog 76 #[.pointer (some ⟨M, 0, none⟩), .string s] w (StepPost B M G code iv w) := by
  by_cases hi : s[0]'h1 = 105
  · exact step_i B M G code iv l li k s w h1 hs hm hk hG hB hGl hi hiv hli
  by_cases hsh : l.length < takesB (s[0]'h1)
  · exact step_short B M G code iv l k s w h1 hs hm (by omega) hG hB hi hsh
  have hle : takesB (s[0]'h1) ≤ l.length := by omega
  by_cases hb : s[0]'h1 ∈ ([105, 112, 99, 100, 115, 114, 104, 108, 116, 107, 61, 106, 103] : List UInt8)
  · simp only [List.mem_cons, List.not_mem_nil, or_false] at hb
    rcases hb with e | e | e | e | e | e | e | e | e | e | e | e | e
    · exact absurd e hi
    · exact step_p B M G code iv l k s w h1 hs hm hk hG hB hGl e (Nat.zero_le _) (hp e)
    · rw [e] at hle; exact step_c B M G code iv l k s w h1 hs hm hk hG hB hGl e hle
    · rw [e] at hle; exact step_d B M G code iv l k s w h1 hs hm hk hG hB hGl e hle
    · rw [e] at hle; exact step_s B M G code iv l k s w h1 hs hm hk hG hB hGl e hle
    · rw [e] at hle; exact step_r B M G code iv l k s w h1 hs hm hk hG hB hGl e hle
    · rw [e] at hle; exact step_h B M G code iv l k s w h1 hs hm hk hG hB hGl e hle hL
    · rw [e] at hle; exact step_l B M G code iv l k s w h1 hs hm hk hG hB hGl e hle hL
    · rw [e] at hle; exact step_t B M G code iv l k s w h1 hs hm hk hG hB hGl e hle
    · rw [e] at hle; exact step_k B M G code iv l k s w h1 hs hm hk hG hB hGl e hle
    · rw [e] at hle; exact step_same B M G code iv l k s w h1 hs hm hk hG hB hGl e hle
    · rw [e] at hle; exact step_j B M G code iv l k s w h1 hs hm hk hG hB hGl e hle
    · exact step_g B M G code iv l k s w h1 hs hm hk hG hB hGl e (Nat.zero_le _)
  · refine step_other B M G code iv l k s w h1 hs hm hk hG hB hGl hb ?_
    have h2 := hb
    simp only [List.mem_cons, List.not_mem_nil, or_false, not_or] at h2
    obtain ⟨n1, n2, n3, n4, n5, n6, n7, n8, n9, n10, n11, n12, n13⟩ := h2
    have : takesB (s[0]'h1) = 1 := by
      unfold takesB
      rw [if_neg (by simp [n3, n5, n11]), if_neg (by simp [n1, n2, n13])]
    omega
end Go.Proofs.YtnifkpcjpjgkeaaGreatDoor
