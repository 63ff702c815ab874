/- The data that the program's values read as; and how they lie in memory. -/
import Derived.Test.YtnifkpcjpjgkeaaGreatDoorB01
import Derived.Test.YtnifkpcjpjgkeaaGreatDoorRows
namespace Go.Proofs.YtnifkpcjpjgkeaaGreatDoor
open Go.RowKit

structure Res where
  code : Int
  blob : ByteArray
structure Act where
  name : ByteArray
  inputs : List ByteArray
  code : ByteArray
structure Src where
  name : ByteArray
  blob : ByteArray
structure Gr where
  sources : List ByteArray
  actions : List Act

instance : Inhabited Res := ⟨⟨0, ByteArray.empty⟩⟩
instance : Inhabited Act := ⟨⟨ByteArray.empty, [], ByteArray.empty⟩⟩
instance : Inhabited Src := ⟨⟨ByteArray.empty, ByteArray.empty⟩⟩

def Res.v (r : Res) : Value := .agg #[.int .i64 r.code, .string r.blob]

/-- A text that fits a machine. -/
def Fits (s : ByteArray) : Prop := s.size ≤ 140737488355328

/-- v is a slice of these strings; its block lies in F. -/
def Strs (F : Nat → Prop) (w : World) (v : Value) (l : List ByteArray) : Prop :=
  ∃ a cap, v = .slice a l.length cap ∧ l.length ≤ cap ∧ l.length ≤ 140737488355328 ∧ (∀ s ∈ l, Fits s) ∧
    (l = [] ∨ ∃ b off, a = some ⟨b, off, none⟩ ∧ F b ∧ b < w.heap.size ∧ ∀ i, i < l.length → w.cell? ⟨b, off + i, none⟩ = some (.string (l.getD i ByteArray.empty)))

def Acts (F : Nat → Prop) (w : World) (v : Value) (l : List Act) : Prop :=
  ∃ a cap, v = .slice a l.length cap ∧ l.length ≤ cap ∧ l.length ≤ 140737488355328 ∧ (∀ s ∈ l, Fits s.name ∧ Fits s.code) ∧
    (l = [] ∨ ∃ b off, a = some ⟨b, off, none⟩ ∧ F b ∧ b < w.heap.size ∧ ∀ i, i < l.length → ∃ iv, Strs F w iv (l.getD i default).inputs ∧
      w.cell? ⟨b, off + i * 3, none⟩ = some (.string (l.getD i default).name) ∧ w.cell? ⟨b, off + i * 3 + 1, none⟩ = some iv ∧ w.cell? ⟨b, off + i * 3 + 2, none⟩ = some (.string (l.getD i default).code))

def Srcs (F : Nat → Prop) (w : World) (v : Value) (l : List Src) : Prop :=
  ∃ a cap, v = .slice a l.length cap ∧ l.length ≤ cap ∧ l.length ≤ 140737488355328 ∧ (∀ s ∈ l, Fits s.name ∧ Fits s.blob) ∧
    (l = [] ∨ ∃ b off, a = some ⟨b, off, none⟩ ∧ F b ∧ b < w.heap.size ∧ ∀ i, i < l.length →
      w.cell? ⟨b, off + i * 2, none⟩ = some (.string (l.getD i default).name) ∧ w.cell? ⟨b, off + i * 2 + 1, none⟩ = some (.string (l.getD i default).blob))

def Ress (F : Nat → Prop) (w : World) (v : Value) (l : List Res) : Prop :=
  ∃ a cap, v = .slice a l.length cap ∧ l.length ≤ cap ∧ l.length ≤ 140737488355328 ∧ (∀ s ∈ l, Fits s.blob) ∧
    (l = [] ∨ ∃ b off, a = some ⟨b, off, none⟩ ∧ F b ∧ b < w.heap.size ∧ ∀ i, i < l.length →
      w.cell? ⟨b, off + i * 2, none⟩ = some (.int .i64 (l.getD i default).code) ∧ w.cell? ⟨b, off + i * 2 + 1, none⟩ = some (.string (l.getD i default).blob))

def Ints (F : Nat → Prop) (w : World) (v : Value) (l : List Nat) : Prop :=
  ∃ a cap, v = .slice a l.length cap ∧ l.length ≤ cap ∧ l.length ≤ 140737488355328 ∧
    (l = [] ∨ ∃ b off, a = some ⟨b, off, none⟩ ∧ F b ∧ b < w.heap.size ∧ ∀ i, i < l.length → w.cell? ⟨b, off + i, none⟩ = some (.int .i64 (l.getD i 0 : Nat)))

/-- From world w to world w' the blocks of F, as far as they are there, hold what they held. -/
structure Kept (F : Nat → Prop) (w w' : World) : Prop where
  size : w.heap.size ≤ w'.heap.size
  block : ∀ b, F b → b < w.heap.size → w'.heap[b]? = w.heap[b]?

theorem Kept.of_below {F : Nat → Prop} {w w' : World} (h : Below w.heap.size w w') : Kept F w w' := ⟨h.size, fun b _ hb => h.block b hb⟩
theorem Kept.of_below' {F : Nat → Prop} {B : Nat} {w w' : World} (h : Below B w w') (hF : ∀ b, F b → b < B) : Kept F w w' := ⟨h.size, fun b hf _ => h.block b (hF b hf)⟩
theorem Kept.of_turn {F S : Nat → Prop} {w w' : World} (h : Turn S w w') (hF : ∀ b, F b → ¬ S b) : Kept F w w' := ⟨h.size, fun b hf hb => h.block b hb (hF b hf)⟩

section
variable {F F' : Nat → Prop} {w w' : World} {v : Value}
theorem Strs.keep {l : List ByteArray} (h : Strs F w v l) (hF : ∀ b, F b → F' b) (hk : Kept F w w') : Strs F' w' v l := by
  obtain ⟨a, cap, h1, h2, h3, h4, h5⟩ := h
  refine ⟨a, cap, h1, h2, h3, h4, ?_⟩
  rcases h5 with h5 | ⟨b, off, e, hf, hb, hc⟩
  · exact .inl h5
  · exact .inr ⟨b, off, e, hF b hf, Nat.lt_of_lt_of_le hb hk.size, fun j hj => (World.cell?_of_block (w := w) (hk.block b hf hb)).trans (hc j hj)⟩
theorem Acts.keep {l : List Act} (h : Acts F w v l) (hF : ∀ b, F b → F' b) (hk : Kept F w w') : Acts F' w' v l := by
  obtain ⟨a, cap, h1, h2, h3, h4, h5⟩ := h
  refine ⟨a, cap, h1, h2, h3, h4, ?_⟩
  rcases h5 with h5 | ⟨b, off, e, hf, hb, hc⟩
  · exact .inl h5
  · refine .inr ⟨b, off, e, hF b hf, Nat.lt_of_lt_of_le hb hk.size, fun j hj => ?_⟩
    obtain ⟨iv, h6, h7, h8, h9⟩ := hc j hj
    exact ⟨iv, h6.keep hF hk, (World.cell?_of_block (w := w) (hk.block b hf hb)).trans h7, (World.cell?_of_block (w := w) (hk.block b hf hb)).trans h8, (World.cell?_of_block (w := w) (hk.block b hf hb)).trans h9⟩
theorem Srcs.keep {l : List Src} (h : Srcs F w v l) (hF : ∀ b, F b → F' b) (hk : Kept F w w') : Srcs F' w' v l := by
  obtain ⟨a, cap, h1, h2, h3, h4, h5⟩ := h
  refine ⟨a, cap, h1, h2, h3, h4, ?_⟩
  rcases h5 with h5 | ⟨b, off, e, hf, hb, hc⟩
  · exact .inl h5
  · refine .inr ⟨b, off, e, hF b hf, Nat.lt_of_lt_of_le hb hk.size, fun j hj => ?_⟩
    obtain ⟨h7, h8⟩ := hc j hj
    exact ⟨(World.cell?_of_block (w := w) (hk.block b hf hb)).trans h7, (World.cell?_of_block (w := w) (hk.block b hf hb)).trans h8⟩
theorem Ress.keep {l : List Res} (h : Ress F w v l) (hF : ∀ b, F b → F' b) (hk : Kept F w w') : Ress F' w' v l := by
  obtain ⟨a, cap, h1, h2, h3, h4, h5⟩ := h
  refine ⟨a, cap, h1, h2, h3, h4, ?_⟩
  rcases h5 with h5 | ⟨b, off, e, hf, hb, hc⟩
  · exact .inl h5
  · refine .inr ⟨b, off, e, hF b hf, Nat.lt_of_lt_of_le hb hk.size, fun j hj => ?_⟩
    obtain ⟨h7, h8⟩ := hc j hj
    exact ⟨(World.cell?_of_block (w := w) (hk.block b hf hb)).trans h7, (World.cell?_of_block (w := w) (hk.block b hf hb)).trans h8⟩
theorem Ints.keep {l : List Nat} (h : Ints F w v l) (hF : ∀ b, F b → F' b) (hk : Kept F w w') : Ints F' w' v l := by
  obtain ⟨a, cap, h1, h2, h3, h5⟩ := h
  refine ⟨a, cap, h1, h2, h3, ?_⟩
  rcases h5 with h5 | ⟨b, off, e, hf, hb, hc⟩
  · exact .inl h5
  · exact .inr ⟨b, off, e, hF b hf, Nat.lt_of_lt_of_le hb hk.size, fun j hj => (World.cell?_of_block (w := w) (hk.block b hf hb)).trans (hc j hj)⟩
theorem Strs.below {l : List ByteArray} (h : Strs F w v l) (hb : Below w.heap.size w w') : Strs F w' v l := h.keep (fun _ h => h) (.of_below hb)
theorem Acts.below {l : List Act} (h : Acts F w v l) (hb : Below w.heap.size w w') : Acts F w' v l := h.keep (fun _ h => h) (.of_below hb)
theorem Srcs.below {l : List Src} (h : Srcs F w v l) (hb : Below w.heap.size w w') : Srcs F w' v l := h.keep (fun _ h => h) (.of_below hb)
theorem Ress.below {l : List Res} (h : Ress F w v l) (hb : Below w.heap.size w w') : Ress F w' v l := h.keep (fun _ h => h) (.of_below hb)
theorem Ints.below {l : List Nat} (h : Ints F w v l) (hb : Below w.heap.size w w') : Ints F w' v l := h.keep (fun _ h => h) (.of_below hb)
end

/-- Where the first element stands for which p holds; -1: nowhere. -/
def idx {α : Type} (p : α → Bool) : List α → Nat → Int
  | [], _ => -1
  | x :: r, i => if p x then i else idx p r (i + 1)

theorem idx_drop {α : Type} (p : α → Bool) (d : α) : ∀ (l : List α) (k i : Nat), k < l.length → idx p (l.drop k) i = if p (l.getD k d) then (i : Int) else idx p (l.drop (k + 1)) (i + 1) := by
  intro l k i hk
  rw [List.drop_eq_getElem_cons hk]
  simp [idx, List.getD_eq_getElem?_getD, List.getElem?_eq_getElem hk]
theorem idx_any {α : Type} (p : α → Bool) : ∀ (l : List α) (i : Nat), decide (0 ≤ idx p l i) = l.any p
  | [], i => by simp [idx]
  | x :: r, i => by
    unfold idx
    cases h : p x
    · simp [h, idx_any p r (i + 1)]
    · simp [h]
end Go.Proofs.YtnifkpcjpjgkeaaGreatDoor
