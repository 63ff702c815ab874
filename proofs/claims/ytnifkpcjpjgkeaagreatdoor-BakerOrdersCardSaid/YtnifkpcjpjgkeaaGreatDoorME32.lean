/- mill: the machine; its end. -/
/- mill.step: what is there; a stack that is too short. -/
/- mill.step: a push of what is new; the end of a step. -/
import Derived.Test.YtnifkpcjpjgkeaaGreatDoorME29
import Derived.StillTailTactics
/- E32. -/
namespace Go.Proofs.YtnifkpcjpjgkeaaGreatDoor
open Go.RowKit Go.Shelf

/-- A result that can be. -/
def ResOk (c : Int) (s : ByteArray) : Prop := s.size ≤ 512 ∧ (c = 0 ∨ s.size = 0)
def EndPost (B M : Nat) (G : Nat → Prop) (w : World) (e : Ending) (w' : World) : Prop := ∃ (c : Int) (s : ByteArray), e = .returned (.agg #[.int .i64 c, .string s]) ∧ ResOk c s ∧ Below B w w'

theorem StkAt.alloc {B M : Nat} {G : Nat → Prop} {l : List ByteArray} {w w' : World} (h : StkAt B M G l w) (hb : Below w.heap.size w w') : StkAt B M G l w' := by
  obtain ⟨⟨v, hx, ho, hv⟩, hf, h8, hs, hB⟩ := h
  have hM := World.block_lt_of_cell? _ _ hx
  exact ⟨⟨v, (hb.cell (p := ⟨M, 0, none⟩) hM).trans hx, ho.below hb, hv⟩, (hb.frozen (p := ⟨M, 0, none⟩) hM).trans hf, h8, hs, hB⟩
theorem StkAt.more {B M : Nat} {G : Nat → Prop} {l : List ByteArray} {w : World} (h : StkAt B M G l w) : StkAt B M (fun k => G k ∨ k = w.heap.size) l w := by
  obtain ⟨⟨v, hx, ho, hv⟩, r⟩ := h
  exact ⟨⟨v, hx, ho, fun g hg => ⟨(hv g hg).1, fun h => h.elim (hv g hg).2 (fun e => by have := (ho.block g hg).2; omega)⟩⟩, r⟩
theorem infoRes : (Tryz.prog.info? 48).map (·.size) = some 2 := by kernel_rfl

set_option maxHeartbeats 2000000 in
set_option maxRecDepth 20000 in
theorem end_any (B M : Nat) (G : Nat → Prop) (l : List ByteArray) (w : World) (hs : StkAt B M G l w) (hG : ¬ G M) (hB : B ≤ w.heap.size) :
    Calls Tryz.prog 74 #[.pointer (some ⟨M, 0, none⟩)] w (EndPost B M G w) := by
  have HSz := Lib.hid hs.2.2.2.1
  have hMl : M < w.heap.size := by obtain ⟨⟨v, hx, _⟩, _⟩ := hs; exact World.block_lt_of_cell? _ _ hx
  have HP := Lib.hid (fun (w0 : World) (hb : Below w.heap.size w w0) => pop_any B M _ l 1 w0 (hs.more.alloc hb) (by omega) (fun h => h.elim hG (fun e => by omega)) (Nat.le_trans hB hb.size))
  clear hs
  go_enter Tryz.func74, Tryz.ntmps74
  go_wp2_with fail
  refine (HP.out _ ((Below.refl _ _).alloc (Nat.le_refl _) _)).mono ?_
  rintro e w1 (⟨rfl, hlt, rfl⟩ | ⟨hle, v, rfl, hv, hst, h1⟩)
  · go_wp2_with fail
    refine bodyPost_ret (v := .agg #[.int .i64 31, .string ⟨#[]⟩]) (results_cell_mid (P := Tryz.prog) (fn := Tryz.f74) rfl _ _ w.heap.size 0 [.int .i64 31, .string ⟨#[]⟩] _ rfl (fun j v hj => ?_) Tryz.underlying48 rfl infoRes) rfl ⟨31, ⟨#[]⟩, rfl, ⟨by decide, .inr rfl⟩, (Below.refl _ _).alloc hB _⟩
    rw [Nat.zero_add, Lib.cell_of_heap (MapKept.heap_alloc w _).1]
    simpa using hj
  · have hd : (l.drop (l.length - 1)).length = 1 := by simp; omega
    have hs0 := HSz.out _ (List.mem_of_mem_drop (getD_mem ByteArray.empty (show 0 < (l.drop (l.length - 1)).length by omega)))
    have hbk := h1.2.1 w.heap.size (.inr rfl) (by simp)
    have HB1 := Lib.hid (((Below.refl w.heap.size w).alloc (Nat.le_refl _) (.cells #[.int .i64 0, .string ⟨#[]⟩] 48)).mono hB |>.trans h1.1)
    obtain ⟨av, cv, rfl, -, -, -, h5⟩ := hv
    obtain ⟨bb, off, rfl, -, -, hc⟩ := h5.resolve_left (fun e => by rw [e] at hd; simp at hd)
    have c0 := hc 0 (by omega)
    rw [Nat.add_zero] at c0
    rw [hd]
    generalize (l.drop (l.length - 1)).getD 0 ByteArray.empty = s at c0 hs0
    have hh := hbk.trans (MapKept.heap_alloc w _).1
    have x0 := (Lib.cell_of_heap hh 0).trans (show _ = some (Value.int .i64 0) from rfl)
    have x1 := (Lib.cell_of_heap hh 1).trans (show _ = some (Value.string ⟨#[]⟩) from rfl)
    have f0 := Lib.frozen_of_heap hh 0
    have f1 := Lib.frozen_of_heap hh 1
    clear hc h5 hbk h1 hst hd hh
    go_wp2_with fail
    have z1 : ((w1.setCell ⟨w.heap.size, 0, none⟩ (.int .i64 0)).setCell ⟨w.heap.size, 1, none⟩ (.string s)).cell? ⟨w.heap.size, 1, none⟩ = some (.string s) :=
      World.cell?_setCell_same _ _ _ ((World.cell?_setCell_other _ _ _ _ (fun e => by cases e)).trans x1)
    have z0 : ((w1.setCell ⟨w.heap.size, 0, none⟩ (.int .i64 0)).setCell ⟨w.heap.size, 1, none⟩ (.string s)).cell? ⟨w.heap.size, 0, none⟩ = some (.int .i64 0) :=
      (World.cell?_setCell_other _ _ _ _ (fun e => by cases e)).trans (World.cell?_setCell_same _ _ _ x0)
    refine bodyPost_ret (v := .agg #[.int .i64 0, .string s]) (results_cell_mid (P := Tryz.prog) (fn := Tryz.f74) rfl _ _ w.heap.size 0 [.int .i64 0, .string s] _ rfl (fun j v hj => ?_) Tryz.underlying48 rfl infoRes) rfl ⟨0, s, rfl, ⟨hs0, .inl rfl⟩, (HB1.out.setCell (p := ⟨w.heap.size, 0, none⟩) hB _).setCell (p := ⟨w.heap.size, 1, none⟩) hB _⟩
    match j, hj with
    | 0, hj => cases hj; exact z0
    | 1, hj => cases hj; exact z1
end Go.Proofs.YtnifkpcjpjgkeaaGreatDoor
/- E33. -/
namespace Go.Proofs.YtnifkpcjpjgkeaaGreatDoor
open Go.RowKit Go.Shelf

/-- The machine in block M. -/
def MachAt (B M : Nat) (G : Nat → Prop) (code : ByteArray) (iv : Value) (l : List ByteArray) (k : Nat) (w : World) : Prop :=
  StkAt B M G l w ∧ w.cell? ⟨M, 1, none⟩ = some (.string code) ∧ w.cell? ⟨M, 2, none⟩ = some iv ∧ w.cell? ⟨M, 3, none⟩ = some (.int .i64 (k : Int)) ∧ w.frozen? ⟨M, 3, none⟩ = false
def StepPost (B M : Nat) (G : Nat → Prop) (code : ByteArray) (iv : Value) (w : World) (e : Ending) (w' : World) : Prop :=
  ∃ (c : Int) (l' : List ByteArray) (k' : Nat), e = .returned (.int .i64 c) ∧ MachAt B M G code iv l' k' w' ∧ k' ≤ 1000 ∧ Below B w w' ∧ ∀ k, G k → k < w.heap.size → w'.heap[k]? = w.heap[k]?

set_option maxHeartbeats 2000000 in
set_option maxRecDepth 20000 in
theorem step_short (B M : Nat) (G : Nat → Prop) (code : ByteArray) (iv : Value) (l : List ByteArray) (k : Nat) (s : ByteArray) (w : World) (h1 : 0 < s.size) (hs : s.size ≤ 1000) (hm : MachAt B M G code iv l k w) (hk : k ≤ 1000) (hG : ¬ G M) (hB : B ≤ w.heap.size)
    (hb : s[0]'h1 ≠ 105) (hsh : l.length < takesB (s[0]'h1)) : Calls Tryz.prog 76 #[.pointer (some ⟨M, 0, none⟩), .string s] w (StepPost B M G code iv w) := by
  have HM := Lib.hid hm
  have hb' : (((s[0]'h1).toNat : Int) == 105) = false := by
    rw [beq_eq_false_iff_ne]; exact fun e => hb (UInt8.toNat_inj.1 (by have : (105 : UInt8).toNat = 105 := rfl; omega))
  have HT := Lib.hid (takes_any (s[0]'h1))
  have htk : takesB (s[0]'h1) ≤ 2 := by unfold takesB; split <;> (try split) <;> omega
  have HP := Lib.hid (fun (w0 : World) (hb : Below w.heap.size w w0) => (pop_any B M G l (takesB (s[0]'h1)) w0 (hm.1.alloc hb) htk hG (Nat.le_trans hB hb.size)).mono (fun e w' h => show e = .returned (.tuple #[.slice none 0 0, .bool false]) ∧ w' = w0 from h.elim (fun h => ⟨h.1, h.2.2⟩) (fun h => by omega)))
  have HSh := Lib.hid hsh
  generalize takesB (s[0]'h1) = tb at HT HP HSh
  clear hsh htk hb
  go_enter Tryz.func76, Tryz.ntmps76
  go_wp2_with fail
  refine (number_any s _ hs).mono ?_
  rintro e w1 ⟨⟨n, rfl, hn⟩, rfl⟩
  go_wp2_with fail
  go_region_with (first
    | (go_at_call 94; refine (HT.out _).mono ?_; rintro e w1 ⟨rfl, rfl⟩)
    | (go_at_call 91; refine (HP.out _ ((Below.refl _ _).drew)).mono ?_; rintro e w1 ⟨rfl, rfl⟩))
  all_goals
    go_wp2_with fail
    go_ret
    exact ⟨31, l, k, rfl, HM.out, hk, (Below.refl _ _).drew, fun _ _ _ => rfl⟩
end Go.Proofs.YtnifkpcjpjgkeaaGreatDoor
/- E34. -/
namespace Go.Proofs.YtnifkpcjpjgkeaaGreatDoor
open Go.RowKit Go.Shelf

theorem StkAt.less {B M : Nat} {G G' : Nat → Prop} {l : List ByteArray} {w : World} (h : StkAt B M G l w) (hG : ∀ k, G' k → G k) : StkAt B M G' l w := by
  obtain ⟨⟨v, hx, ho, hv⟩, r⟩ := h
  exact ⟨⟨v, hx, ho, fun g hg => ⟨(hv g hg).1, fun h => (hv g hg).2 (hG g h)⟩⟩, r⟩
theorem StkAt.set3 {B M : Nat} {G : Nat → Prop} {l : List ByteArray} {w : World} (h : StkAt B M G l w) (x : Value) : StkAt B M G l (w.setCell ⟨M, 3, none⟩ x) := by
  obtain ⟨⟨v, hx, ho, hv⟩, hf, r⟩ := h
  exact ⟨⟨v, (World.cell?_setCell_other _ _ _ _ (fun e => by cases e)).trans hx, ho.keep (by simp [World.setCell]) (fun g _ _ hg => Below.heap_setCell _ _ _ _ (fun e => (hv g hg).1 (by have : g = M := e; exact this))), hv⟩, by simpa using hf, r⟩
theorem StkAt.lt {B M : Nat} {G : Nat → Prop} {l : List ByteArray} {w : World} (h : StkAt B M G l w) : M < w.heap.size := by
  obtain ⟨⟨v, hx, _⟩, _⟩ := h
  exact World.block_lt_of_cell? _ _ hx

/-- push of texts that lie in the block laid last (behind a draw). -/
theorem push_new (B M : Nat) (G : Nat → Prop) (l xs : List ByteArray) (n : Nat) (T : TypeId) (w : World) (hs : StkAt B M G l w) (hn : xs.length = n) (h2 : n ≤ 2) (hm : ∀ s ∈ xs, s.size ≤ 2000) (hG : ¬ G M) (hB : B ≤ w.heap.size) (hGl : ∀ k, G k → k < w.heap.size) :
    Calls Tryz.prog 95 #[.pointer (some ⟨M, 0, none⟩), .slice (some ⟨w.heap.size, 0, none⟩) n n] (w.alloc (.cells (xs.map Value.string).toArray T)).drew (PushPost B M (fun k => G k ∨ k = w.heap.size) (w.alloc (.cells (xs.map Value.string).toArray T)).drew) := by
  subst hn
  have hM := hs.lt
  refine push_any B M _ l xs _ _ (hs.more.alloc ((Below.refl _ _).alloc (Nat.le_refl _) _).drew) ?_ h2 hm (fun h => h.elim hG (fun e => by omega)) (by simp; omega) (fun k h => by
    rcases h with h | h
    · have := hGl k h; simp; omega
    · simp; omega)
  refine ⟨_, _, rfl, Nat.le_refl _, by omega, fun s hs => by have := hm s hs; unfold Fits; omega, .inr ⟨_, _, rfl, .inr rfl, by simp, fun i hi => ?_⟩⟩
  show (w.alloc _).cell? _ = _
  rw [Nat.zero_add, Lib.cell_of_heap (MapKept.heap_alloc w _).1]
  simp [List.getD_eq_getElem?_getD, List.getElem?_eq_getElem hi]

theorem step_push_end {B M k2 : Nat} {G : Nat → Prop} {code : ByteArray} {iv : Value} {l2 : List ByteArray} {w w2 w' : World} {o : Obj} {e : Ending} (hm2 : MachAt B M G code iv l2 k2 w2) (hk2 : k2 ≤ 1000) (hb : Below B w w2)
    (hg : ∀ k, G k → k < w.heap.size → w2.heap[k]? = w.heap[k]?) (hB : B ≤ w2.heap.size) (hp : PushPost B M (fun k => G k ∨ k = w2.heap.size) (w2.alloc o).drew e w') : StepPost B M G code iv w e w' := by
  obtain ⟨c, l', rfl, hst, hs1⟩ := hp
  obtain ⟨h1, h2, h3⟩ := ((Step1.refl B M (fun k => G k ∨ k = w2.heap.size) (w2.alloc o)).drew).trans hs1
  have hM := hm2.1.lt
  have kc : ∀ j, 1 ≤ j → w'.cell? ⟨M, j, none⟩ = w2.cell? ⟨M, j, none⟩ := fun j hj => (h3 j hj).1.trans (World.cell?_alloc_lt w2 o ⟨M, j, none⟩ hM)
  have kf : w'.frozen? ⟨M, 3, none⟩ = w2.frozen? ⟨M, 3, none⟩ := (h3 3 (by omega)).2.trans (World.frozen?_of_block (w := w2) (a := ⟨M, 3, none⟩) (Below.heap_alloc _ _ _ hM))
  refine ⟨c, l', k2, rfl, ⟨hst.less (fun k h => .inl h), (kc 1 (by omega)).trans hm2.2.1, (kc 2 (by omega)).trans hm2.2.2.1, (kc 3 (by omega)).trans hm2.2.2.2.1, kf.trans hm2.2.2.2.2⟩, hk2, (hb.alloc hB o).trans h1, fun k hGk hl => ?_⟩
  have hl2 : k < w2.heap.size := Nat.lt_of_lt_of_le hl hb.size
  exact (h2 k (.inl hGk) (by simp; omega)).trans ((Below.heap_alloc _ _ _ hl2).trans (hg k hGk hl))
/-- What pop hands back where there is enough. -/
def PopOk (B M : Nat) (G : Nat → Prop) (l : List ByteArray) (n : Nat) (w : World) (e : Ending) (w' : World) : Prop :=
  ∃ v, e = .returned (.tuple #[v, .bool true]) ∧ Strs (fun b => w.heap.size ≤ b) w' v (l.drop (l.length - n)) ∧ StkAt B M G (l.take (l.length - n)) w' ∧ Step1 B M G w w'
theorem pop_ok (B M : Nat) (G : Nat → Prop) (l : List ByteArray) (n : Nat) (w : World) (hs : StkAt B M G l w) (hn : n ≤ 2) (hG : ¬ G M) (hB : B ≤ w.heap.size) (hle : n ≤ l.length) :
    Calls Tryz.prog 91 #[.pointer (some ⟨M, 0, none⟩), .int .i64 (n : Int)] w (PopOk B M G l n w) :=
  (pop_any B M G l n w hs hn hG hB).mono (fun e w' h => h.elim (fun h => by omega) (fun h => h.2))
/-- The machine behind a pop and the step's way on. -/
theorem MachAt.popped {B M k : Nat} {G : Nat → Prop} {code : ByteArray} {iv : Value} {l l2 : List ByteArray} {w w1 : World} (h : MachAt B M G code iv l k w) (hs : StkAt B M G l2 w1) (h1 : Step1 B M G w w1) (k2 : Nat) : MachAt B M G code iv l2 k2 (w1.setCell ⟨M, 3, none⟩ (.int .i64 (k2 : Int))) :=
  ⟨hs.set3 _, (World.cell?_setCell_other _ _ _ _ (fun e => by cases e)).trans ((h1.2.2 1 (by omega)).1.trans h.2.1), (World.cell?_setCell_other _ _ _ _ (fun e => by cases e)).trans ((h1.2.2 2 (by omega)).1.trans h.2.2.1),
    World.cell?_setCell_same _ _ _ ((h1.2.2 3 (by omega)).1.trans h.2.2.2.1), by simpa using (h1.2.2 3 (by omega)).2.trans h.2.2.2.2⟩
theorem MachAt.set3 {B M k : Nat} {G : Nat → Prop} {code : ByteArray} {iv : Value} {l : List ByteArray} {w : World} (h : MachAt B M G code iv l k w) (k2 : Nat) : MachAt B M G code iv l k2 (w.setCell ⟨M, 3, none⟩ (.int .i64 (k2 : Int))) :=
  ⟨h.1.set3 _, (World.cell?_setCell_other _ _ _ _ (fun e => by cases e)).trans h.2.1, (World.cell?_setCell_other _ _ _ _ (fun e => by cases e)).trans h.2.2.1, World.cell?_setCell_same _ _ _ h.2.2.2.1, by simpa using h.2.2.2.2⟩
end Go.Proofs.YtnifkpcjpjgkeaaGreatDoor
