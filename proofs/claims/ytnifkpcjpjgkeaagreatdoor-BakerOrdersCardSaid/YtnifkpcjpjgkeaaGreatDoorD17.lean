/- stamp: words turned. -/
import Derived.Test.YtnifkpcjpjgkeaaGreatDoorD16
import Derived.Deep.RegionHeld3
import Derived.Laws.Bits64b
namespace Go.Proofs.YtnifkpcjpjgkeaaGreatDoor
open Go.RowKit Go.Shelf

def WordPost (w : World) (e : Ending) (w' : World) : Prop := ∃ z : Int, e = .returned (.int .u32 z) ∧ w' = w
theorem u64_31 (z : Int) : ∃ q : Nat, bits .and .u64 (IntKind.u64.wrap z) 31 = (q : Int) ∧ q ≤ 31 := by
  have h : IntKind.u64.wrap z = ((z % 18446744073709551616).toNat : Int) := by
    have : IntKind.u64.wrap z = z % 18446744073709551616 := rfl
    omega
  rw [h]
  exact ⟨_, bits_and_u64_nat _ 31 (by omega) (by omega), Nat.and_le_right⟩

set_option maxHeartbeats 400000 in
theorem Rotate_any (x k : Int) (w : World) : Calls Tryz.prog 99 #[.int .u32 x, .int .i64 k] w (WordPost w) := by
  obtain ⟨q, hq, hq1⟩ := u64_31 k
  go_enter Tryz.func99, Tryz.ntmps99
  go_wp2_with fail
  go_ret
  exact ⟨_, rfl, rfl⟩

set_option maxHeartbeats 400000 in
theorem turned_any {F : Nat → Prop} (x : Int) (v : Value) (l : List Nat) (w : World) (hv : Ints F w v l) : Calls Tryz.prog 78 #[.int .u32 x, v] w (WordPost w) := by
  obtain ⟨a, cap, rfl, h2, h3, h5⟩ := hv
  go_enter Tryz.func78, Tryz.ntmps78
  go_wp2_with fail
  go_loop [4, 9] (fun z i => ∃ (k : Nat) (y : Int), k ≤ l.length ∧ i = .int .i64 (k : Int) ∧ z = .int .u32 y) (fun _ i => l.length - (intOf i).toNat)
  case atStart => exact ⟨0, 0, Nat.zero_le _, rfl, rfl⟩
  case round =>
    obtain ⟨k, y, hk, rfl, rfl⟩ := hrel
    by_cases hlt : k < l.length
    · obtain ⟨b, off, rfl, -, hbs, hc⟩ := h5.resolve_left (fun e => by rw [e] at hlt; simp at hlt)
      have c0 := hc k hlt
      clear hc h5
      generalize l.getD k 0 = n at c0
      go_wp2_with fail
      refine (Rotate_any _ _ _).mono ?_
      rintro e w1 ⟨z, rfl, rfl⟩
      go_wp2_with fail
      go_round
      case rel => exact ⟨k + 1, _, by omega, by go_num, rfl⟩
      case measure => simp [intOf]; omega
    · clear h5
      go_wp2_with fail
      go_ret
      exact ⟨_, rfl, rfl⟩
end Go.Proofs.YtnifkpcjpjgkeaaGreatDoor
