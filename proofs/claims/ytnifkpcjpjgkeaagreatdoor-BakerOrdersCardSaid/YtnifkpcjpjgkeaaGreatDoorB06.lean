/- Texts to bytes and back, at the operation; the world behind it under a name. -/
import Derived.Test.YtnifkpcjpjgkeaaGreatDoorB05
import Derived.Lib.ConvBytes
import Derived.Laws.BytesArg
namespace Go.Proofs.YtnifkpcjpjgkeaaGreatDoor
open Go.RowKit Go.Shelf

/-- A text's byte. -/
def byteAt (s : ByteArray) (j : Nat) : UInt8 := s.data.toList.getD j 0
def bytesV (l : List UInt8) : List Value := l.map fun b => Value.int .u8 b.toNat

abbrev Act' := Go.Act
section
variable {P : Program} (w : World) {ops : Array Oper} {rest : List Oper} {o : Oper} {a : Act'} {Q : Exit → Act' → World → Prop}
/-- '[]byte(s)' at the operation. -/
theorem wpList_s2b (hg : o.guard = none) (x : Operand) (src dst e : TypeId) (hop : o.op = Op.convert src dst x) {u : TypeDesc}
    (hs : P.underlying src = some u) (hd : P.underlying dst = some (.slice e)) (he : P.underlying e = some (.int .u8)) (s : ByteArray) (hx : a.eval x = .string s)
    (hK : ∀ c w1, Below w.heap.size w w1 → w.heap.size < w1.heap.size → s.size ≤ c → (∀ j, j < s.size → w1.cell? ⟨w.heap.size, j, none⟩ = some (.int .u8 (byteAt s j).toNat)) →
      (∀ j, j < s.size → w1.frozen? ⟨w.heap.size, j, none⟩ = false) → wpList P ops Q rest (a.put o.dst (.slice (some ⟨w.heap.size, 0, none⟩) s.size c)) w1) : wpList P ops Q (o :: rest) a w := by
  refine wpList_plain hg fun K' hK' => ?_
  unfold Oper.wp
  simp [execOp, hop, hx, Lib.run_convert_string_bytes w src dst e s hs hd he, Result.andThen]
  refine hK' _ _ (hK _ _ ⟨rfl, rfl, rfl, by rw [Lib.bytesWorld_size]; omega, fun k hk => Lib.bytesWorld_at_old w e s k hk⟩ (by rw [Lib.bytesWorld_size]; omega) (grownCap_ge w s.size 0 e) (Lib.bytesWorld_cell w e s) ?_)
  intro j hj
  have : s.size ≤ (Lib.bytesCells w e s).size := by simp [Lib.bytesCells]
  simp [World.frozen?, Lib.bytesWorld_at_new]
  omega
/-- 'string(b)' at the operation, of bytes that are read. -/
theorem wpList_b2s (hg : o.guard = none) (x : Operand) (src dst e : TypeId) (hop : o.op = Op.convert src dst x)
    (hs : P.underlying src = some (.slice e)) (hd : P.underlying dst = some .string) (he : P.underlying e = some (.int .u8)) (b off n cap : Nat) (l : List UInt8) (hl : l.length = n) (hx : a.eval x = .slice (some ⟨b, off, none⟩) n cap)
    (hc : ∀ j, j < n → w.cell? ⟨b, off + j, none⟩ = some (.int .u8 (l.getD j 0).toNat))
    (hK : wpList P ops Q rest (a.put o.dst (.string ⟨l.toArray⟩)) w) : wpList P ops Q (o :: rest) a w := by
  refine wpList_plain hg fun K' hK' => ?_
  have hrun := run_convert_bytes_arg (P := P) w src e hs he b off n cap (l.map fun b => (b.toNat : Int)) (by simpa using hl) (fun i hi => by
    rw [hc i hi]; simp [List.getD, List.getElem?_map]; cases l[i]? <;> simp) dst hd
  have e1 : strOfNums (l.map fun b => (b.toNat : Int)) = ⟨l.toArray⟩ := by
    show (⟨_⟩ : ByteArray) = _
    congr 1
    simp [Function.comp_def]
  rw [e1] at hrun
  unfold Oper.wp
  simp [execOp, hop, hx, hrun, Result.andThen]
  exact hK' _ _ hK
/-- 'string(b)' at the operation, of bytes that are owned. -/
theorem wpList_b2s_own (hg : o.guard = none) (x : Operand) (src dst e : TypeId) (hop : o.op = Op.convert src dst x)
    (hs : P.underlying src = some (.slice e)) (hd : P.underlying dst = some .string) (he : P.underlying e = some (.int .u8)) (base n : Nat) (v : Value) (l : List UInt8) (hx : a.eval x = v) (hown : w.ownsRow base e 1 v n (bytesV l))
    (hK : wpList P ops Q rest (a.put o.dst (.string ⟨l.toArray⟩)) w) : wpList P ops Q (o :: rest) a w := by
  have hl : l.length = n := by have := hown.1; simpa [bytesV] using this
  obtain ⟨_, ad, cap, rfl, hn, h2⟩ := ownsRow_cells hown
  rcases h2 with h2 | ⟨g, rfl, hg', hlt, hc⟩
  · subst h2
    have e0 : l = [] := List.eq_nil_of_length_eq_zero hl
    subst e0
    cases ad with
    | none =>
      refine wpList_plain hg fun K' hK' => ?_
      have hrun := run_convert_bytes_nil (P := P) w src e hs he 0 cap dst hd
      unfold Oper.wp
      simp [execOp, hop, hx, hrun, Result.andThen]
      exact hK' _ _ hK
    | some ad =>
      rcases hown.2 with ⟨h3, _⟩ | ⟨g, c, cur, h3, _⟩
      · cases h3
      · cases h3
        exact wpList_b2s w hg x src dst e hop hs hd he g 0 0 cap [] rfl hx (by omega) hK
  · refine wpList_b2s w hg x src dst e hop hs hd he g 0 n cap l hl hx (fun j hj => ?_) hK
    rw [Nat.zero_add, hc j (by omega)]
    simp [bytesV, List.getD, List.getElem?_map]
    have : j < l.length := by omega
    simp [List.getElem?_eq_getElem this]
end
end Go.Proofs.YtnifkpcjpjgkeaaGreatDoor
