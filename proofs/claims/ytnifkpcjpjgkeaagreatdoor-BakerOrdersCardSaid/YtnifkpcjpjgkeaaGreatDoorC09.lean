/- trellis: the order of a build's actions. -/
import Derived.Test.YtnifkpcjpjgkeaaGreatDoorC08
namespace Go.Proofs.YtnifkpcjpjgkeaaGreatDoor
open Go.RowKit Go.Shelf

def waitsB (M : List (ByteArray × Int)) (D : List (ByteArray × Bool)) (s : ByteArray) : Bool := decide (0 ≤ (mget M s).getD 0) && !((mget D s).getD false)
def readyB (M : List (ByteArray × Int)) (D : List (ByteArray × Bool)) (a : Act) : Bool := !((mget D a.name).getD false) && !(a.inputs.any (waitsB M D))
theorem zeroBool (w : World) : (zeroValue 4).run Tryz.prog w = .ok (boolV false) w := by kernel_rfl

/-- The cells that order's two functions captured: the web's pointer in block bw, the map of what is done in block bd. -/
def OrdR (w : World) (bx bd : Nat) (M : List (ByteArray × Int)) (D : List (ByteArray × Bool)) : Prop :=
  ∃ p bm bD, w.cell? ⟨bx, 0, none⟩ = some (.pointer (some ⟨p, 0, none⟩)) ∧ w.cell? ⟨p, 2, none⟩ = some (.map (some bm)) ∧ XMap intV w bm M ∧ w.cell? ⟨bd, 0, none⟩ = some (.map (some bD)) ∧ XMap boolV w bD D
theorem OrdR.below {w w' : World} {bx bd : Nat} {M : List (ByteArray × Int)} {D : List (ByteArray × Bool)} (h : OrdR w bx bd M D) (hb : Below w.heap.size w w') : OrdR w' bx bd M D := by
  obtain ⟨p, bm, bD, h1, h2, h3, h4, h5⟩ := h
  exact ⟨p, bm, bD, (hb.cell (World.block_lt_of_cell? _ _ h1)).trans h1, (hb.cell (World.block_lt_of_cell? _ _ h2)).trans h2, h3.below hb, (hb.cell (World.block_lt_of_cell? _ _ h4)).trans h4, h5.below hb⟩

set_option maxHeartbeats 400000 in
set_option maxRecDepth 20000 in
theorem order1_any (s : ByteArray) (bx bd : Nat) (M : List (ByteArray × Int)) (D : List (ByteArray × Bool)) (w : World) (h : OrdR w bx bd M D) :
    Calls Tryz.prog 41 #[.string s, .pointer (some ⟨bx, 0, none⟩), .pointer (some ⟨bd, 0, none⟩)] w fun e w' => e = .returned (.bool (waitsB M D s)) ∧ w = w' := by
  obtain ⟨p, bm, bD, h1, h2, h3, h4, h5⟩ := h
  have l3 : (Instr.lookup 76 (.map (some bm)) (.string s) false).run Tryz.prog w = .ok (.int .i64 ((mget M s).getD 0)) w := h3.run_look Tryz.underlying76 Tryz.underlying9 0 (zeroInt _) s
  have l5 : (Instr.lookup 83 (.map (some bD)) (.string s) false).run Tryz.prog w = .ok (.bool ((mget D s).getD false)) w := h5.run_look Tryz.underlying83 Tryz.underlying9 false (zeroBool _) s
  have e1 : waitsB M D s = (decide (0 ≤ (mget M s).getD 0) && !((mget D s).getD false)) := rfl
  have E1 := Lib.hid e1
  clear h3 h5 e1
  generalize (mget M s).getD 0 = x at l3 E1
  generalize (mget D s).getD false = y at l5 E1
  by_cases hm : 0 ≤ x
  all_goals
    go_enter Tryz.func41, Tryz.ntmps41
    go_wp2_with fail
    go_ret
    exact ⟨by rw [E1.out]; exact ret_bool (by cases y <;> simp <;> omega), rfl⟩

theorem mget_lt {α : Type} : ∀ (M : List (ByteArray × α)) (s : ByteArray) (v : α), mget M s = some v → s ∈ M.map (·.1)
  | [], s, v, h => by cases h
  | p :: r, s, v, h => by
    unfold mget at h
    split at h
    · rename_i e; simp [e]
    · exact List.mem_cons_of_mem _ (mget_lt r s v h)

set_option maxHeartbeats 400000 in
set_option maxRecDepth 20000 in
theorem order2_any {F : Nat → Prop} (ac : Act) (iv : Value) (bx bd bw : Nat) (M : List (ByteArray × Int)) (D : List (ByteArray × Bool)) (w : World) (hs : Strs F w iv ac.inputs) (h : OrdR w bx bd M D)
    (hw : w.cell? ⟨bw, 0, none⟩ = some (.func (.func 41) #[] #[.pointer (some ⟨bx, 0, none⟩), .pointer (some ⟨bd, 0, none⟩)])) :
    Calls Tryz.prog 42 #[.agg #[.string ac.name, iv, .string ac.code], .pointer (some ⟨bd, 0, none⟩), .pointer (some ⟨bw, 0, none⟩)] w fun e w' => e = .returned (.bool (readyB M D ac)) ∧ Below w.heap.size w w' := by
  have HC := Lib.hid (fun (w0 : World) (hb : Below w.heap.size w w0) => ContainsFunc_str ac.inputs iv 41 #[] #[.pointer (some ⟨bx, 0, none⟩), .pointer (some ⟨bd, 0, none⟩)] (waitsB M D) w0 (hs.below hb) (enters_of Tryz.func41 (by kernel_rfl) rfl)
    (fun s _ w1 hb1 => (order1_any s bx bd M D w1 (h.below (hb.trans (hb1.mono hb.size)))).mono fun e w' h => ⟨h.1, by rw [← h.2]; exact hb1⟩))
  obtain ⟨ai, capi, rfl, -⟩ := hs
  obtain ⟨p, bm, bD, h1, h2, h3, h4, h5⟩ := h
  have hbw := World.block_lt_of_cell? _ _ hw
  have hbd := World.block_lt_of_cell? _ _ h4
  simp only at hbw hbd
  have l5 : ∀ o, (Instr.lookup 83 (.map (some bD)) (.string ac.name) false).run Tryz.prog (w.alloc o) = .ok (.bool ((mget D ac.name).getD false)) (w.alloc o) := fun o => (h5.below ((Below.refl _ _).alloc (Nat.le_refl _) o)).run_look Tryz.underlying83 Tryz.underlying9 false (zeroBool _) ac.name
  have e1 : readyB M D ac = (!((mget D ac.name).getD false) && !(ac.inputs.any (waitsB M D))) := rfl
  have E1 := Lib.hid e1
  clear h3 h5 e1 h1 h2
  generalize (mget D ac.name).getD false = x at l5 E1
  generalize ac.inputs.any (waitsB M D) = y at HC E1
  cases x
  · go_enter Tryz.func42, Tryz.ntmps42
    go_wp2_with fail
    refine (HC.out _ ((Below.refl w.heap.size w).alloc (Nat.le_refl _) _)).mono ?_
    rintro e w1 ⟨rfl, hb1⟩
    have HB1 := Lib.hid (((Below.refl w.heap.size w).alloc (Nat.le_refl _) _).trans (hb1.mono (by simp))); clear hb1 l5
    go_wp2_with fail
    go_ret
    exact ⟨by rw [E1.out]; exact ret_bool (by simp), HB1.out⟩
  · go_enter Tryz.func42, Tryz.ntmps42
    go_wp2_with fail
    go_ret
    exact ⟨by rw [E1.out]; exact ret_bool (by simp), (Below.refl _ _).alloc (Nat.le_refl _) _⟩
end Go.Proofs.YtnifkpcjpjgkeaaGreatDoor
