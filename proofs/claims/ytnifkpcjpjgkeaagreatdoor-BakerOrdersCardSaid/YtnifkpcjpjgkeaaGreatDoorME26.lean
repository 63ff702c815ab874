/- mill: the small functions. -/
/- mill.width. -/
/- slices.Reverse of bytes; mill.turned. -/
import Derived.Test.YtnifkpcjpjgkeaaGreatDoorMD23
import Derived.Lib.IndexLaws
import Derived.BigRegion
/- E26. -/
namespace Go.Proofs.YtnifkpcjpjgkeaaGreatDoor
open Go.RowKit Go.Shelf

theorem isWide_any (s : ByteArray) (w : World) : Calls Tryz.prog 73 #[.string s] w (fun e w' => e = .returned (.bool (decide (s.size > 512))) ∧ w' = w) := by
  go_enter Tryz.func73, Tryz.ntmps73
  go_wp2_with fail
  go_ret
  exact ⟨ret_bool (by rw [Bool.eq_iff_iff]; simp; omega), rfl⟩

theorem number_any (s : ByteArray) (w : World) (hs : s.size ≤ 1000) : Calls Tryz.prog 93 #[.string s] w (fun e w' => (∃ n : Nat, e = .returned (.int .i64 (n : Int)) ∧ n < 256) ∧ w' = w) := by
  by_cases h : s.size < 2
  · go_enter Tryz.func93, Tryz.ntmps93
    go_wp2_with fail
    go_ret
    exact ⟨⟨0, rfl, by omega⟩, rfl⟩
  · have h1 : (s[1]'(by omega)).toNat < 256 := (s[1]'(by omega)).toNat_lt
    go_enter Tryz.func93, Tryz.ntmps93
    go_wp2_with fail
    go_ret
    exact ⟨⟨_, rfl, h1⟩, rfl⟩

theorem same_any (a b : ByteArray) (w : World) : Calls Tryz.prog 98 #[.string a, .string b] w (fun e w' => (∃ s : ByteArray, e = .returned (.string s) ∧ s.size ≤ 1) ∧ w' = w) := by
  go_enter Tryz.func98, Tryz.ntmps98
  go_wp2_with fail
  all_goals
    go_ret
    exact ⟨⟨_, rfl, by decide⟩, rfl⟩

theorem ix_iff (l : List UInt8) (b : UInt8) : 0 ≤ Lib.indexByte l b ↔ b ∈ l := by
  constructor
  · intro h
    obtain ⟨o, ho⟩ : ∃ o : Nat, Lib.indexByte l b = o := ⟨(Lib.indexByte l b).toNat, by omega⟩
    exact List.mem_of_getElem? (Lib.indexByte_some ho).1
  · intro h
    rcases Int.lt_or_le (Lib.indexByte l b) 0 with h1 | h1
    · have := Lib.indexByte_ge l b
      obtain ⟨k, hk⟩ := List.mem_iff_getElem?.1 h
      exact absurd hk (Lib.indexByte_none (by omega) k)
    · exact h1
theorem toU8 (b : UInt8) : ((b.toNat : Int)).toNat.toUInt8 = b := by simp

def takesB (b : UInt8) : Nat := if b = 99 ∨ b = 115 ∨ b = 61 then 2 else if b = 105 ∨ b = 112 ∨ b = 103 then 0 else 1
theorem takes_any (b : UInt8) (w : World) : Calls Tryz.prog 94 #[.int .u8 (b.toNat : Int)] w (fun e w' => e = .returned (.int .i64 (takesB b : Int)) ∧ w' = w) := by
  have i1 := ix_iff [99, 115, 61] b
  have i2 := ix_iff [105, 112, 103] b
  simp only [List.mem_cons, List.not_mem_nil, or_false] at i1 i2
  have HT : Hid (takesB b = if b = 99 ∨ b = 115 ∨ b = 61 then 2 else if b = 105 ∨ b = 112 ∨ b = 103 then 0 else 1) := Lib.hid rfl
  have H1 := Lib.hid (Tryz.strings_IndexByte ⟨#[99, 115, 61]⟩ (b.toNat : Int))
  have H2 := Lib.hid (Tryz.strings_IndexByte ⟨#[105, 112, 103]⟩ (b.toNat : Int))
  rw [toU8] at H1 H2
  change Hid (∀ w, Calls _ _ _ w fun e w' => e = .returned (.int .i64 (Lib.indexByte [99, 115, 61] b)) ∧ w' = w) at H1
  change Hid (∀ w, Calls _ _ _ w fun e w' => e = .returned (.int .i64 (Lib.indexByte [105, 112, 103] b)) ∧ w' = w) at H2
  generalize Lib.indexByte [99, 115, 61] b = x1 at i1 H1
  generalize Lib.indexByte [105, 112, 103] b = x2 at i2 H2
  by_cases h1 : b = 99 ∨ b = 115 ∨ b = 61
  · have g1 : decide (x1 ≥ 0) = true := by simpa using i1.2 h1
    have HB : Hid (takesB b = 2) := Lib.hid (by rw [HT.out, if_pos h1])
    clear i1 i2 h1 HT
    go_enter Tryz.func94, Tryz.ntmps94
    go_wp2_with fail
    refine (H1.out _).mono ?_
    rintro e w1 ⟨rfl, rfl⟩
    go_wp2_with fail
    go_ret
    exact ⟨by rw [HB.out]; rfl, rfl⟩
  · have g1 : decide (x1 ≥ 0) = false := by simp; have := mt i1.1 h1; omega
    by_cases h2 : b = 105 ∨ b = 112 ∨ b = 103
    · have g2 : decide (x2 ≥ 0) = true := by simpa using i2.2 h2
      have HB : Hid (takesB b = 0) := Lib.hid (by rw [HT.out, if_neg h1, if_pos h2])
      clear i1 i2 h1 h2 HT
      go_enter Tryz.func94, Tryz.ntmps94
      go_wp2_with fail
      refine (H1.out _).mono ?_
      rintro e w1 ⟨rfl, rfl⟩
      go_wp2_with fail
      refine (H2.out _).mono ?_
      rintro e w1 ⟨rfl, rfl⟩
      go_wp2_with fail
      go_ret
      exact ⟨by rw [HB.out]; rfl, rfl⟩
    · have g2 : decide (x2 ≥ 0) = false := by simp; have := mt i2.1 h2; omega
      have HB : Hid (takesB b = 1) := Lib.hid (by rw [HT.out, if_neg h1, if_neg h2])
      clear i1 i2 h1 h2 HT
      go_enter Tryz.func94, Tryz.ntmps94
      go_wp2_with fail
      refine (H1.out _).mono ?_
      rintro e w1 ⟨rfl, rfl⟩
      go_wp2_with fail
      refine (H2.out _).mono ?_
      rintro e w1 ⟨rfl, rfl⟩
      go_wp2_with fail
      go_ret
      exact ⟨by rw [HB.out]; rfl, rfl⟩
end Go.Proofs.YtnifkpcjpjgkeaaGreatDoor
/- E27. -/
namespace Go.Proofs.YtnifkpcjpjgkeaaGreatDoor
open Go.RowKit Go.Shelf

/-- How many bytes the step at a place has. -/
def widthF (s : ByteArray) (k : Nat) : Nat :=
  if h : k < s.size then
    let n := if s[k]'h ∈ ([99, 100, 115, 120, 114, 104, 108, 61] : List UInt8) then 1 else if s[k]'h ∈ ([105, 116, 107, 106, 103] : List UInt8) then 2
      else if h1 : k + 1 < s.size then (if s[k]'h = 112 then 2 + (s[k + 1]'h1).toNat else 0) else 0
    if s.size - k < n then 0 else n
  else 0
theorem widthF_le (s : ByteArray) (k : Nat) : widthF s k ≤ s.size - k := by
  unfold widthF
  by_cases h : k < s.size
  · rw [dif_pos h]
    generalize (if s[k]'h ∈ ([99, 100, 115, 120, 114, 104, 108, 61] : List UInt8) then 1 else if s[k]'h ∈ ([105, 116, 107, 106, 103] : List UInt8) then 2
      else if h1 : k + 1 < s.size then (if s[k]'h = 112 then 2 + (s[k + 1]'h1).toNat else 0) else 0) = n
    show (if s.size - k < n then 0 else n) ≤ _
    split <;> omega
  · rw [dif_neg h]; omega
theorem widthF_p (s : ByteArray) (k : Nat) (h : k < s.size) (hb : s[k]'h = 112) : widthF s k = 0 ∨ 2 ≤ widthF s k := by
  unfold widthF
  rw [dif_pos h, hb]
  rw [if_neg (show ¬ (112 : UInt8) ∈ ([99, 100, 115, 120, 114, 104, 108, 61] : List UInt8) by decide), if_neg (show ¬ (112 : UInt8) ∈ ([105, 116, 107, 106, 103] : List UInt8) by decide)]
  by_cases h1 : k + 1 < s.size
  · simp only [dif_pos h1, if_true]
    split <;> omega
  · simp only [dif_neg h1]
    split <;> omega
def WidthPost (s : ByteArray) (k : Nat) (w : World) (e : Ending) (w' : World) : Prop := e = .returned (.int .i64 (widthF s k : Int)) ∧ w' = w

set_option maxHeartbeats 1000000 in
theorem width_any (s : ByteArray) (k : Nat) (w : World) (hk : k < s.size) (hs : s.size ≤ 1000) : Calls Tryz.prog 75 #[.string s, .int .i64 (k : Int)] w (WidthPost s k w) := by
  have HW : Hid (widthF s k = if s.size - k < (if s[k]'hk ∈ ([99, 100, 115, 120, 114, 104, 108, 61] : List UInt8) then 1 else if s[k]'hk ∈ ([105, 116, 107, 106, 103] : List UInt8) then 2
      else if h1 : k + 1 < s.size then (if s[k]'hk = 112 then 2 + (s[k + 1]'h1).toNat else 0) else 0) then 0 else (if s[k]'hk ∈ ([99, 100, 115, 120, 114, 104, 108, 61] : List UInt8) then 1 else if s[k]'hk ∈ ([105, 116, 107, 106, 103] : List UInt8) then 2
      else if h1 : k + 1 < s.size then (if s[k]'hk = 112 then 2 + (s[k + 1]'h1).toNat else 0) else 0)) := Lib.hid (by unfold widthF; rw [dif_pos hk])
  have i1 := ix_iff [99, 100, 115, 120, 114, 104, 108, 61] (s[k]'hk)
  have i2 := ix_iff [105, 116, 107, 106, 103] (s[k]'hk)
  have H1 := Lib.hid (Tryz.strings_IndexByte ⟨#[99, 100, 115, 120, 114, 104, 108, 61]⟩ ((s[k]'hk).toNat : Int))
  have H2 := Lib.hid (Tryz.strings_IndexByte ⟨#[105, 116, 107, 106, 103]⟩ ((s[k]'hk).toNat : Int))
  rw [toU8] at H1 H2
  change Hid (∀ w, Calls _ _ _ w fun e w' => e = .returned (.int .i64 (Lib.indexByte [99, 100, 115, 120, 114, 104, 108, 61] (s[k]'hk))) ∧ w' = w) at H1
  change Hid (∀ w, Calls _ _ _ w fun e w' => e = .returned (.int .i64 (Lib.indexByte [105, 116, 107, 106, 103] (s[k]'hk))) ∧ w' = w) at H2
  generalize Lib.indexByte [99, 100, 115, 120, 114, 104, 108, 61] (s[k]'hk) = x1 at i1 H1
  generalize Lib.indexByte [105, 116, 107, 106, 103] (s[k]'hk) = x2 at i2 H2
  by_cases h1 : 0 ≤ x1
  · have g1 : decide (x1 ≥ 0) = true := by simpa using h1
    have HV : Hid (widthF s k = if s.size - k < 1 then 0 else 1) := Lib.hid (by rw [HW.out, if_pos (i1.1 h1)])
    clear i1 i2 h1 HW
    go_enter Tryz.func75, Tryz.ntmps75
    go_wp2_with fail
    refine (H1.out _).mono ?_
    rintro e w1 ⟨rfl, rfl⟩
    go_wp2_with fail
    all_goals
      go_ret
      first
        | exact ⟨by rw [HV.out, if_neg (by omega)]; rfl, rfl⟩
        | exact ⟨by rw [HV.out, if_pos (by omega)]; rfl, rfl⟩
  · have n1 : ¬ s[k]'hk ∈ ([99, 100, 115, 120, 114, 104, 108, 61] : List UInt8) := fun e => h1 (i1.2 e)
    have g1 : decide (x1 ≥ 0) = false := by simpa using h1
    by_cases h2 : 0 ≤ x2
    · have g2 : decide (x2 ≥ 0) = true := by simpa using h2
      have HV : Hid (widthF s k = if s.size - k < 2 then 0 else 2) := Lib.hid (by rw [HW.out, if_neg n1, if_pos (i2.1 h2)])
      clear i1 i2 h1 h2 HW n1
      go_enter Tryz.func75, Tryz.ntmps75
      go_wp2_with fail
      refine (H1.out _).mono ?_
      rintro e w1 ⟨rfl, rfl⟩
      go_wp2_with fail
      refine (H2.out _).mono ?_
      rintro e w1 ⟨rfl, rfl⟩
      go_wp2_with fail
      all_goals
        go_ret
        first
          | exact ⟨by rw [HV.out, if_neg (by omega)]; rfl, rfl⟩
          | exact ⟨by rw [HV.out, if_pos (by omega)]; rfl, rfl⟩
    · have g2 : decide (x2 ≥ 0) = false := by simpa using h2
      have n2 : ¬ s[k]'hk ∈ ([105, 116, 107, 106, 103] : List UInt8) := fun e => h2 (i2.2 e)
      have HV := Lib.hid HW.out
      have HV0 := HV.out
      rw [if_neg n1, if_neg n2] at HV0
      clear HV
      have HV := Lib.hid HV0
      clear HV0
      clear i1 i2 h1 h2 HW n1 n2
      by_cases hp : s[k]'hk = 112
      · by_cases hk1 : k + 1 < s.size
        · have hq := (s[k + 1]'hk1).toNat_lt
          have hp' : ((s[k]'hk).toNat : Int) = 112 := by rw [hp]; rfl
          rw [hp'] at H1 H2
          have HU : Hid (widthF s k = if s.size - k < 2 + (s[k + 1]'hk1).toNat then 0 else 2 + (s[k + 1]'hk1).toNat) := Lib.hid (by have h := HV.out; rw [dif_pos hk1, if_pos hp] at h; exact h)
          clear hp HV
          have hk1' : (k : Int) + 1 < (s.size : Int) := by omega
          go_enter Tryz.func75, Tryz.ntmps75
          go_wp2_with fail
          refine (H1.out _).mono ?_
          rintro e w1 ⟨rfl, rfl⟩
          go_wp2_with fail
          refine (H2.out _).mono ?_
          rintro e w1 ⟨rfl, rfl⟩
          go_wp2_with fail
          all_goals
            go_ret
            first
              | exact ⟨by rw [HU.out, if_pos (by omega)]; rfl, rfl⟩
              | exact ⟨by rw [HU.out, if_neg (by omega)]; go_num, rfl⟩
        · have hp' : ((s[k]'hk).toNat : Int) = 112 := by rw [hp]; rfl
          rw [hp'] at H1 H2
          have HU : Hid (widthF s k = 0) := Lib.hid (by have h := HV.out; rw [dif_neg hk1, if_neg (by omega)] at h; exact h)
          clear hp HV
          have hk1' : ¬ (k : Int) + 1 < (s.size : Int) := by omega
          go_enter Tryz.func75, Tryz.ntmps75
          go_wp2_with fail
          refine (H1.out _).mono ?_
          rintro e w1 ⟨rfl, rfl⟩
          go_wp2_with fail
          refine (H2.out _).mono ?_
          rintro e w1 ⟨rfl, rfl⟩
          go_wp2_with fail
          all_goals
            go_ret
            exact ⟨by rw [HU.out]; rfl, rfl⟩
      · have hp' : (((s[k]'hk).toNat : Int) == 112) = false := by
          rw [beq_eq_false_iff_ne]; exact fun e => hp (UInt8.toNat_inj.1 (by have : (112 : UInt8).toNat = 112 := rfl; omega))
        have HU : Hid (widthF s k = 0) := Lib.hid (by
          have h := HV.out
          rw [show (if h1 : k + 1 < s.size then (if s[k]'hk = 112 then 2 + (s[k + 1]'h1).toNat else 0) else 0) = 0 by split <;> simp [hp]] at h
          rw [if_neg (by omega)] at h
          exact h)
        clear hp HV
        go_enter Tryz.func75, Tryz.ntmps75
        go_wp2_with fail
        refine (H1.out _).mono ?_
        rintro e w1 ⟨rfl, rfl⟩
        go_wp2_with fail
        refine (H2.out _).mono ?_
        rintro e w1 ⟨rfl, rfl⟩
        go_wp2_with fail
        all_goals
          go_ret
          exact ⟨by rw [HU.out]; rfl, rfl⟩
end Go.Proofs.YtnifkpcjpjgkeaaGreatDoor
/- E28. -/
namespace Go.Proofs.YtnifkpcjpjgkeaaGreatDoor
open Go.RowKit Go.Shelf

/-- n bytes from place off of block g on, which can be written. -/
def BB (w : World) (g off n : Nat) : Prop := ∀ j, j < n → (∃ z : Int, w.cell? ⟨g, off + j, none⟩ = some (.int .u8 z)) ∧ w.frozen? ⟨g, off + j, none⟩ = false
theorem BB.set {w : World} {g off n : Nat} (h : BB w g off n) (j : Nat) (x : Int) : BB (w.setCell ⟨g, j, none⟩ (.int .u8 x)) g off n := by
  intro k hk
  obtain ⟨⟨z, hz⟩, hf⟩ := h k hk
  by_cases e : (⟨g, j, none⟩ : Addr) = ⟨g, off + k, none⟩
  · cases e
    exact ⟨⟨x, World.cell?_setCell_same _ _ _ hz⟩, by simpa using hf⟩
  · exact ⟨⟨z, by rw [World.cell?_setCell_other w ⟨g, j, none⟩ ⟨g, off + k, none⟩ _ e, hz]⟩, by simpa using hf⟩
def RevR (g off n : Nat) (w wr : World) : Prop := BB wr g off n ∧ Turn (fun k => k = g) w wr
theorem RevR.set {g off n : Nat} {w wr : World} (h : RevR g off n w wr) (j : Nat) (x : Int) : RevR g off n w (wr.setCell ⟨g, j, none⟩ (.int .u8 x)) := ⟨h.1.set j x, h.2.setCell (p := ⟨g, j, none⟩) (.inl rfl) _⟩
theorem RevR.drew {g off n : Nat} {w wr : World} (h : RevR g off n w wr) : RevR g off n w wr.drew := ⟨h.1, h.2.drew⟩

set_option maxHeartbeats 1000000 in
theorem Reverse_any (g off n cap : Nat) (w : World) (h : BB w g off n) (hn : n ≤ 100000) : Calls Tryz.prog 106 #[.slice (some ⟨g, off, none⟩) n cap] w (fun e w' => e = .returned (.tuple #[]) ∧ RevR g off n w w') := by
  have R0 := Lib.hid (show RevR g off n w w from ⟨h, Turn.refl _ _⟩)
  clear h
  go_enter Tryz.func106, Tryz.ntmps106
  go_wp2_with fail
  go_loopw [2, 3] (fun i j wr => ∃ (k : Nat) (z : Int), i = .int .i64 (k : Int) ∧ j = .int .i64 z ∧ z + k = n - 1 ∧ k ≤ n ∧ RevR g off n w wr) (fun i _ _ => n - (intOf i).toNat)
  case atStart => exact ⟨0, (n : Int) - 1, rfl, by go_num, by omega, Nat.zero_le _, R0.out⟩
  case round =>
    obtain ⟨k, z, rfl, rfl, hz, hkn, hR⟩ := hrel
    clear R0
    have RQ := Lib.hid hR
    clear hR
    by_cases hlt : (k : Int) < z
    · obtain ⟨j, rfl⟩ : ∃ j : Nat, z = j := ⟨z.toNat, by omega⟩
      have hj : (j : Int) < n := by omega
      have hk : (k : Int) < n := by omega
      obtain ⟨⟨x, hx⟩, fx⟩ := RQ.out.1 k (by omega)
      obtain ⟨⟨y, hy⟩, fy⟩ := RQ.out.1 j (by omega)
      have hne : k ≠ j := by omega
      go_wp2_with fail
      go_region
      all_goals
        have RN := Lib.hid ((RQ.out.set (off + k) y).set (off + j) x).drew
        go_wp2_with fail
        first
          | exact ⟨⟨k + 1, (j : Int) - 1, by go_num, rfl, by omega, by omega, RN.out⟩, by simp [intOf]; omega⟩
          | (go_roundw
             case rel => exact ⟨k + 1, (j : Int) - 1, by go_num, rfl, by omega, by omega, RN.out⟩
             case measure => simp [intOf]; omega)
    · go_wp2_with fail
      go_end0
      exact ⟨rfl, RQ.out⟩

set_option maxHeartbeats 400000 in
theorem Reverse_zero (a : Option Addr) (cap : Nat) (w : World) : Calls Tryz.prog 106 #[.slice a 0 cap] w (fun e w' => e = .returned (.tuple #[]) ∧ w' = w) := by
  go_enter Tryz.func106, Tryz.ntmps106
  go_wp2_with fail
  go_loop [2, 3] (fun i j => i = .int .i64 0 ∧ j = .int .i64 (-1)) (fun _ _ => 0)
  case atStart => exact ⟨rfl, by go_num⟩
  case round =>
    obtain ⟨rfl, rfl⟩ := hrel
    go_wp2_with fail
    go_end0
    exact ⟨rfl, rfl⟩

set_option maxHeartbeats 1000000 in
theorem millTurned_any (s : ByteArray) (w : World) (hs : s.size ≤ 100000) : Calls Tryz.prog 96 #[.string s] w (fun e w' => (∃ t : ByteArray, e = .returned (.string t) ∧ t.size = s.size) ∧ Below w.heap.size w w') := by
  go_enter Tryz.func96, Tryz.ntmps96
  go_wp2_with (refine wpList_s2b_own _ rfl (.tmp 4) 9 95 5 rfl Tryz.underlying9 Tryz.underlying95 Tryz.underlying5 _ rfl ?_; intro v1 w1 hb1 hlt1 hown)
  have HB := Lib.hid hb1
  by_cases h0 : s.size = 0
  · obtain ⟨a, cap, rfl, -⟩ := hown.form
    have hcv : ∃ t : ByteArray, t.size = 0 ∧ (convert 95 9 (.slice a 0 cap)).run Tryz.prog w1 = .ok (.string t) w1 := by
      rcases hown.2 with ⟨e, -⟩ | ⟨g, off, c, e, -⟩
      · injection e with e1 e2 e3; subst e1; subst e3; exact ⟨_, rfl, run_convert_bytes_nil (P := Tryz.prog) w1 95 5 Tryz.underlying95 Tryz.underlying5 0 0 9 Tryz.underlying9⟩
      · injection e with e1 e2 e3; subst e1
        exact run_b2s_some (P := Tryz.prog) w1 95 9 5 Tryz.underlying95 Tryz.underlying9 Tryz.underlying5 g off 0 cap (by omega)
    obtain ⟨t, ht, hcv⟩ := hcv
    rw [h0]
    clear hown hb1
    refine (Reverse_zero _ _ _).mono ?_
    rintro e w2 ⟨rfl, rfl⟩
    go_wp2_with fail
    go_ret
    exact ⟨⟨t, rfl, by rw [ht, h0]⟩, HB.out⟩
  · have hbb : ∃ g off cap, v1 = .slice (some ⟨g, off, none⟩) s.size cap ∧ w.heap.size ≤ g ∧ g < w1.heap.size ∧ BB w1 g off s.size := by
      rcases hown.2 with h2 | ⟨g, off, cap, e, hg, hgl, hn, hc, hr⟩
      · exact absurd h2.2 h0
      · refine ⟨g, off, cap, e, hg, hgl, fun j hj => ⟨?_, (hr j (by omega)).2⟩⟩
        have h1 := hc j (by omega)
        have h2 : j < (bytesV s.data.toList).length := by rw [hown.1]; omega
        obtain ⟨z, hz⟩ := u8s_bytesV _ _ (List.getElem_mem h2)
        exact ⟨z, by rw [h1, List.getElem?_eq_getElem h2, hz]⟩
    obtain ⟨g, off, cap, rfl, hg, hgl, hBB⟩ := hbb
    clear hown hb1
    refine (Reverse_any g off s.size cap _ hBB hs).mono ?_
    rintro e w2 ⟨rfl, hR⟩
    have RQ := Lib.hid hR
    clear hR hBB
    go_wp2_with (refine wpList_b2s_some rfl (.tmp 8) 95 9 5 rfl Tryz.underlying95 Tryz.underlying9 Tryz.underlying5 g off s.size cap rfl (fun j hj => (RQ.out.1 j hj).1) ?_; intro q hq)
    go_ret
    exact ⟨⟨q, rfl, hq⟩, HB.out.trans (RQ.out.2.below HB.out.size (fun k hk => by omega))⟩
end Go.Proofs.YtnifkpcjpjgkeaaGreatDoor
