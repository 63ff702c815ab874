/- What comes in, opened: slices of strings and of structs as lists. No program's function in sight. -/
import Derived.Test.YtnifkpcjpjgkeaaGreatDoorB02
import Derived.OpenShut
import Derived.Deep.Slices
import Derived.Deep.Fields
import Derived.Deep.Strs
import Derived.SizedLaws
import Derived.WideKeyArgs
import Derived.ChangeSame
import Derived.Below
namespace Go.Proofs.YtnifkpcjpjgkeaaGreatDoor
open Go.RowKit Go.ChangeShapes Go.WideShapes Go.Deep

def anyB (_ : Nat) : Prop := True

/-- Every length in the datum is one that a machine can hold. -/
def Wt {H : Type} (P : Program) (t : TypeId) (d : DataW H) : Prop := ∀ n ∈ d.weights P t, n ≤ reachBytes

section
variable {H : Type} {P : Program}
theorem Wt.each {e : TypeId} : ∀ {l : List (DataW H)}, (∀ n ∈ DataW.weightsAll P e l, n ≤ reachBytes) → ∀ d ∈ l, Wt P e d
  | [], _, d, hd => by cases hd
  | x :: l, h, d, hd => by
    simp only [DataW.weightsAll, List.mem_append] at h
    rcases List.mem_cons.1 hd with rfl | hd
    · exact fun n hn => h n (.inl hn)
    · exact Wt.each (fun n hn => h n (.inr hn)) d hd
theorem Wt.slice {t e : TypeId} {elems spare : List (DataW H)} (hu : P.underlying t = some (.slice e)) (h : Wt P t (.slice elems spare)) : elems.length * P.bytesOf e ≤ reachBytes ∧ ∀ d ∈ elems, Wt P e d := by
  unfold Wt at h
  simp only [DataW.weights, hu, List.mem_cons, List.mem_append] at h
  refine ⟨Nat.le_trans (Nat.mul_le_mul_right _ (Nat.le_add_right _ _)) (h _ (.inl rfl)), Wt.each fun n hn => h n (.inr (.inl hn))⟩
theorem Wt.agg {t : TypeId} {fs : Array Field} {parts : List (DataW H)} (hu : P.underlying t = some (.struct fs)) (h : Wt P t (.agg parts)) (j : Nat) (f : Field) (d : DataW H) (hf : fs[j]? = some f) (hd : parts[j]? = some d) : Wt P f.type d := by
  intro n hn
  refine h n ?_
  simp only [DataW.weights, hu]
  exact DataW.weights_mem_each (by rw [List.getElem?_map, Array.getElem?_toList, hf]; rfl) hd n hn
theorem Wt.string {t : TypeId} {bs : List UInt8} (h : Wt P t (.lit (.string bs) : DataW H)) : bs.length ≤ reachBytes := h _ (by simp [DataW.weights])
end
theorem fits_of_wt {H : Type} {P : Program} {t : TypeId} {s : ByteArray} (h : Wt P t (.lit (.string s.data.toList) : DataW H)) : Fits s := by
  have h1 := h.string
  have h2 : reachBytes ≤ 140737488355328 := by decide
  have h3 : s.data.toList.length = s.size := rfl
  unfold Fits
  omega

section
variable {H : Type} {enc : TypeId × Value → H} {P : Program} {w : World} {base : Nat} {held : Bool}

theorem spot_none {a : Addr} {v : Value} (h : w.cell? (a.add 0) = some v) : ∃ b off, a = ⟨b, off, none⟩ := by
  obtain ⟨b, off, s⟩ := a
  refine ⟨b, off, ?_⟩
  cases s with
  | none => rfl
  | some k => exfalso; unfold World.cell? at h; simp [Addr.add] at h; split at h <;> simp_all

theorem strs_of {t e : TypeId} {fuel : Nat} {v : Value} {x : DataW H × List MemPlace} (ht : P.underlying t = some (.slice e)) (he : P.underlying e = some .string) (hc : P.cellsOf e = 1) (hbt : 1 ≤ P.bytesOf e)
    (h : DataW.trod enc P w base (fun _ => true) held fuel t [v] = some x) (hw : Wt P t x.1) : ∃ l, Strs anyB w v l := by
  rcases open_strs ht he hc h with ⟨hcs, hx⟩ | ⟨a, len, cap, m, Sx, hcs, hb, hl, hm, hmm, hx, hi⟩
  · obtain rfl : v = .slice none 0 0 := by simpa using hcs
    exact ⟨[], none, 0, rfl, Nat.le_refl _, by simp, by simp, .inl rfl⟩
  · obtain rfl : v = .slice (some a) len cap := by simpa using hcs
    subst hx
    obtain ⟨hwl, hwe⟩ := hw.slice ht
    have hr : reachBytes ≤ 140737488355328 := by decide
    have hle : len ≤ m := by rw [hmm]; simpa using hl
    have hl2 : len ≤ 140737488355328 := by
      have := Nat.mul_le_mul_left len hbt
      simp only [List.length_map, List.length_range] at hwl
      omega
    refine ⟨(List.range len).map Sx, some a, cap, by simp, by simpa using hl, by simpa using hl2, fun s hs => ?_, ?_⟩
    · obtain ⟨i, hi', rfl⟩ := List.mem_map.1 hs
      exact fits_of_wt (hwe _ (List.mem_map.2 ⟨i, hi', rfl⟩))
    · by_cases h0 : len = 0
      · subst h0; exact .inl rfl
      · obtain ⟨b, off, rfl⟩ := spot_none (hi 0 (by omega)).1
        refine .inr ⟨b, off, rfl, trivial, World.block_lt_of_cell? _ _ (by have := (hi 0 (by omega)).1; rw [add_plain] at this; exact this), fun i hi' => ?_⟩
        have hi2 : i < len := by simpa using hi'
        have := (hi i (by omega)).1
        rw [add_plain] at this
        rw [this]
        simp [List.getD, hi2]

/-- A slice of structs of one-cell fields: each element's cells, and what each reads as. -/
theorem structs_of {t e : TypeId} {fs : Array Field} {fuel : Nat} {v : Value} {x : DataW H × List MemPlace} (ht : P.underlying t = some (.slice e)) (he : P.underlying e = some (.struct fs))
    (hone : oneCellFields P fs = true) (hC : P.cellsOf e = fs.size) (hpos : 0 < fs.size) (hbt : 1 ≤ P.bytesOf e)
    (h : DataW.trod enc P w base (fun _ => true) held fuel t [v] = some x) (hw : Wt P t x.1) :
    v = .slice none 0 0 ∨ ∃ a len cap, v = .slice (some a) len cap ∧ len ≤ cap ∧ len ≤ 140737488355328 ∧
      ∀ i, i < len → ∃ (ys : List (DataW H × List MemPlace)) (n : Nat), ∀ (j : Nat) (f : Field), fs[j]? = some f → ∃ (u : Value) (y : DataW H × List MemPlace), w.cell? (a.add (i * fs.size + j)) = some u ∧ DataW.trod enc P w base (fun _ => true) held n f.type [u] = some y ∧ Wt P f.type y.1 := by
  rcases open_slice ht h with ⟨hcs, hx⟩ | ⟨a, len, cap, m, n, D, Pl, hcs, hb, hl, hm, hmm, hx, hi⟩
  · exact .inl (by simpa using hcs)
  · obtain rfl : v = .slice (some a) len cap := by simpa using hcs
    subst hx
    obtain ⟨hwl, hwe⟩ := hw.slice ht
    have hr : reachBytes ≤ 140737488355328 := by decide
    have hle : len ≤ m := by rw [hmm]; simpa using hl
    refine .inr ⟨a, len, cap, rfl, hl, ?_, fun i hil => ?_⟩
    · have := Nat.mul_le_mul_left len hbt
      simp only [List.length_map, List.length_range] at hwl
      omega
    · obtain ⟨cs', hc, ht'⟩ := hi i (by omega)
      rw [hC] at hc
      obtain ⟨ys, n', hn', hy, hlen, hyl, hf⟩ := DataW.trod_struct he ht'
      obtain ⟨_, hcl, hat⟩ := World.cells?_some hc
      simp only [Prod.mk.injEq] at hy
      have hwi : Wt P e (.agg (ys.map (·.1))) := by
        have := hwe (D i) (List.mem_map.2 ⟨i, by simpa using hil, rfl⟩)
        rw [hy.1] at this
        exact this
      refine ⟨ys, n', fun j f hj => ?_⟩
      obtain ⟨ho, hk⟩ := hone_of hone j f hj
      have hjl : j < fs.size := (Array.getElem?_eq_some_iff.1 hj).1
      have hcell := hat j hjl
      have hv : cs'[j]? = some (cs'[j]'(by omega)) := List.getElem?_eq_getElem (by omega)
      have h1 := hf j f hj
      rw [ho, hk] at h1
      have hone' : (cs'.drop j).take 1 = [cs'[j]'(by omega)] := by
        rw [List.drop_eq_getElem_cons (by omega)]
        rfl
      rw [hone'] at h1
      have hys : ys[j]? = some (ys[j]'(by omega)) := List.getElem?_eq_getElem (by omega)
      refine ⟨_, _, ?_, h1.trans hys, hwi.agg he j f _ hj (by rw [List.getElem?_map, hys]; rfl)⟩
      rw [← add_add, hcell, hv]

theorem named_of {t : TypeId} {g0 : Field} {fuel : Nat} {u : Value} {y : DataW H × List MemPlace} (ht : P.underlying t = some (.struct #[g0])) (hone : oneCellFields P #[g0] = true) (h0 : P.underlying g0.type = some .string)
    (h : DataW.trod enc P w base (fun _ => true) held fuel t [u] = some y) (hw : Wt P t y.1) : ∃ s, u = .string s ∧ Fits s := by
  obtain ⟨ys, n, rfl, hx, _, hyl, hf⟩ := DataW.trod_struct ht h
  obtain ⟨ho, hk⟩ := hone_of hone 0 g0 rfl
  have h1 := hf 0 g0 rfl
  rw [ho, hk] at h1
  obtain ⟨y0, hy0⟩ : ∃ y0, ys[0]? = some y0 := ⟨ys[0]'(by rw [hyl]; simp), List.getElem?_eq_getElem _⟩
  rw [hy0] at h1
  obtain ⟨s, hs, hx2, _⟩ := DataW.trod_string h0 h1
  have hwi : Wt P t (.agg (ys.map (·.1))) := by rw [hx] at hw; exact hw
  have hz := hwi.agg ht 0 g0 y0.1 rfl (by rw [List.getElem?_map, hy0]; rfl)
  rw [hx2] at hz
  exact ⟨s, by simpa using hs, fits_of_wt hz⟩

theorem srcs_of {t e : TypeId} {f0 f1 : Field} {fuel : Nat} {v : Value} {x : DataW H × List MemPlace} (ht : P.underlying t = some (.slice e)) (he : P.underlying e = some (.struct #[f0, f1]))
    (hone : oneCellFields P #[f0, f1] = true) (hC : P.cellsOf e = 2) (hbt : 1 ≤ P.bytesOf e) (h0 : ∀ (n : Nat) (u : Value) (y : DataW H × List MemPlace), DataW.trod enc P w base (fun _ => true) held n f0.type [u] = some y → Wt P f0.type y.1 → ∃ s, u = .string s ∧ Fits s) (h1 : P.underlying f1.type = some .string)
    (h : DataW.trod enc P w base (fun _ => true) held fuel t [v] = some x) (hw : Wt P t x.1) : ∃ l, Srcs anyB w v l := by
  rcases structs_of ht he hone hC (by simp) hbt h hw with rfl | ⟨a, len, cap, rfl, hl, hl2, hi⟩
  · exact ⟨[], none, 0, rfl, Nat.le_refl _, by simp, by simp, .inl rfl⟩
  · have each : ∀ i, i < len → ∃ s : Src, (Fits s.name ∧ Fits s.blob) ∧ w.cell? (a.add (i * 2 + 0)) = some (.string s.name) ∧ w.cell? (a.add (i * 2 + 1)) = some (.string s.blob) := fun i hil => by
      obtain ⟨ys, n, hf⟩ := hi i hil
      obtain ⟨u0, y0, c0, r0, w0⟩ := hf 0 f0 rfl
      obtain ⟨u1, y1, c1, r1, w1⟩ := hf 1 f1 rfl
      obtain ⟨s0, rfl, z0⟩ := h0 n u0 y0 r0 w0
      obtain ⟨s1, e1, rfl, _⟩ := DataW.trod_string h1 r1
      obtain rfl : u1 = .string s1 := by simpa using e1
      exact ⟨⟨s0, s1⟩, ⟨z0, fits_of_wt w1⟩, c0, c1⟩
    obtain ⟨Sx, hS⟩ := choose_lt each
    refine ⟨(List.range len).map Sx, some a, cap, by simp, by simpa using hl, by simpa using hl2, fun s hs => ?_, ?_⟩
    · obtain ⟨i, hi', rfl⟩ := List.mem_map.1 hs
      exact (hS i (by simpa using hi')).1
    · by_cases h0 : len = 0
      · subst h0; exact .inl rfl
      · obtain ⟨b, off, rfl⟩ := spot_none (hS 0 (by omega)).2.1
        refine .inr ⟨b, off, rfl, trivial, World.block_lt_of_cell? _ _ (by have := (hS 0 (by omega)).2.1; rw [add_plain] at this; exact this), fun i hi' => ?_⟩
        have hi2 : i < len := by simpa using hi'
        obtain ⟨_, ha, hb⟩ := hS i hi2
        rw [add_plain] at ha hb
        have hg : ((List.range len).map Sx).getD i default = Sx i := by simp [List.getD, hi2]
        rw [hg]
        exact ⟨ha, by rw [Nat.add_assoc]; exact hb⟩

theorem ress_of {t e : TypeId} {f0 f1 : Field} {fuel : Nat} {v : Value} {x : DataW H × List MemPlace} (ht : P.underlying t = some (.slice e)) (he : P.underlying e = some (.struct #[f0, f1]))
    (hone : oneCellFields P #[f0, f1] = true) (hC : P.cellsOf e = 2) (hbt : 1 ≤ P.bytesOf e) (h0 : P.underlying f0.type = some (.int .i64)) (h1 : P.underlying f1.type = some .string)
    (h : DataW.trod enc P w base (fun _ => true) held fuel t [v] = some x) (hw : Wt P t x.1) : ∃ l, Ress anyB w v l := by
  rcases structs_of ht he hone hC (by simp) hbt h hw with rfl | ⟨a, len, cap, rfl, hl, hl2, hi⟩
  · exact ⟨[], none, 0, rfl, Nat.le_refl _, by simp, by simp, .inl rfl⟩
  · have each : ∀ i, i < len → ∃ s : Res, Fits s.blob ∧ w.cell? (a.add (i * 2 + 0)) = some (.int .i64 s.code) ∧ w.cell? (a.add (i * 2 + 1)) = some (.string s.blob) := fun i hil => by
      obtain ⟨ys, n, hf⟩ := hi i hil
      obtain ⟨u0, y0, c0, r0, w0⟩ := hf 0 f0 rfl
      obtain ⟨u1, y1, c1, r1, w1⟩ := hf 1 f1 rfl
      obtain ⟨s0, e0, rfl, _⟩ := DataW.trod_int h0 r0
      obtain ⟨s1, e1, rfl, _⟩ := DataW.trod_string h1 r1
      obtain rfl : u0 = .int .i64 s0 := by simpa using e0
      obtain rfl : u1 = .string s1 := by simpa using e1
      exact ⟨⟨s0, s1⟩, fits_of_wt w1, c0, c1⟩
    obtain ⟨Sx, hS⟩ := choose_lt each
    refine ⟨(List.range len).map Sx, some a, cap, by simp, by simpa using hl, by simpa using hl2, fun s hs => ?_, ?_⟩
    · obtain ⟨i, hi', rfl⟩ := List.mem_map.1 hs
      exact (hS i (by simpa using hi')).1
    · by_cases h0 : len = 0
      · subst h0; exact .inl rfl
      · obtain ⟨b, off, rfl⟩ := spot_none (hS 0 (by omega)).2.1
        refine .inr ⟨b, off, rfl, trivial, World.block_lt_of_cell? _ _ (by have := (hS 0 (by omega)).2.1; rw [add_plain] at this; exact this), fun i hi' => ?_⟩
        have hi2 : i < len := by simpa using hi'
        obtain ⟨_, ha, hb⟩ := hS i hi2
        rw [add_plain] at ha hb
        have hg : ((List.range len).map Sx).getD i default = Sx i := by simp [List.getD, hi2]
        rw [hg]
        exact ⟨ha, by rw [Nat.add_assoc]; exact hb⟩

theorem acts_of {t e ts es : TypeId} {f0 f1 f2 : Field} {fuel : Nat} {v : Value} {x : DataW H × List MemPlace} (ht : P.underlying t = some (.slice e)) (he : P.underlying e = some (.struct #[f0, f1, f2]))
    (hone : oneCellFields P #[f0, f1, f2] = true) (hC : P.cellsOf e = 3) (hbt : 1 ≤ P.bytesOf e) (h0 : ∀ (n : Nat) (u : Value) (y : DataW H × List MemPlace), DataW.trod enc P w base (fun _ => true) held n f0.type [u] = some y → Wt P f0.type y.1 → ∃ s, u = .string s ∧ Fits s) (h1 : f1.type = ts) (hts : P.underlying ts = some (.slice es)) (hes : P.underlying es = some .string)
    (hce : P.cellsOf es = 1) (hbe : 1 ≤ P.bytesOf es) (h2 : P.underlying f2.type = some .string)
    (h : DataW.trod enc P w base (fun _ => true) held fuel t [v] = some x) (hw : Wt P t x.1) : ∃ l, Acts anyB w v l := by
  rcases structs_of ht he hone hC (by simp) hbt h hw with rfl | ⟨a, len, cap, rfl, hl, hl2, hi⟩
  · exact ⟨[], none, 0, rfl, Nat.le_refl _, by simp, by simp, .inl rfl⟩
  · have each : ∀ i, i < len → ∃ s : Act, (Fits s.name ∧ Fits s.code) ∧ ∃ iv, Strs anyB w iv s.inputs ∧ w.cell? (a.add (i * 3 + 0)) = some (.string s.name) ∧ w.cell? (a.add (i * 3 + 1)) = some iv ∧ w.cell? (a.add (i * 3 + 2)) = some (.string s.code) := fun i hil => by
      obtain ⟨ys, n, hf⟩ := hi i hil
      obtain ⟨u0, y0, c0, r0, w0⟩ := hf 0 f0 rfl
      obtain ⟨u1, y1, c1, r1, w1⟩ := hf 1 f1 rfl
      obtain ⟨u2, y2, c2, r2, w2⟩ := hf 2 f2 rfl
      obtain ⟨s0, rfl, z0⟩ := h0 n u0 y0 r0 w0
      rw [h1] at r1 w1
      obtain ⟨l1, hl1⟩ := strs_of hts hes hce hbe r1 w1
      obtain ⟨s2, e2, rfl, _⟩ := DataW.trod_string h2 r2
      obtain rfl : u2 = .string s2 := by simpa using e2
      exact ⟨⟨s0, l1, s2⟩, ⟨z0, fits_of_wt w2⟩, u1, hl1, c0, c1, c2⟩
    obtain ⟨Sx, hS⟩ := choose_lt each
    refine ⟨(List.range len).map Sx, some a, cap, by simp, by simpa using hl, by simpa using hl2, fun s hs => ?_, ?_⟩
    · obtain ⟨i, hi', rfl⟩ := List.mem_map.1 hs
      exact (hS i (by simpa using hi')).1
    · by_cases h0 : len = 0
      · subst h0; exact .inl rfl
      · obtain ⟨_, iv0, _, hz, _⟩ := hS 0 (by omega)
        obtain ⟨b, off, rfl⟩ := spot_none hz
        refine .inr ⟨b, off, rfl, trivial, World.block_lt_of_cell? _ _ (by have := hz; rw [add_plain] at this; exact this), fun i hi' => ?_⟩
        have hi2 : i < len := by simpa using hi'
        obtain ⟨_, iv, hv, ha, hb, hc⟩ := hS i hi2
        rw [add_plain] at ha hb hc
        have hg : ((List.range len).map Sx).getD i default = Sx i := by simp [List.getD, hi2]
        rw [hg]
        exact ⟨iv, hv, ha, by rw [Nat.add_assoc]; exact hb, by rw [Nat.add_assoc]; exact hc⟩

end
end Go.Proofs.YtnifkpcjpjgkeaaGreatDoor
