/- trellis: the order of a build's actions, the loop. -/
import Derived.Test.YtnifkpcjpjgkeaaGreatDoorC09
import Derived.Laws.EntriesVeiled
namespace Go.Proofs.YtnifkpcjpjgkeaaGreatDoor
open Go.RowKit Go.Shelf

def ordF (M : List (ByteArray × Int)) (l : List Act) : Nat → List (ByteArray × Bool) → List Nat → List Nat
  | 0, _, acc => acc
  | n + 1, D, acc => if idx (readyB M D) l 0 < 0 then acc else ordF M l n (mput D (l.getD (idx (readyB M D) l 0).toNat default).name true) (acc ++ [(idx (readyB M D) l 0).toNat])
def ordG (g : Gr) : List Nat := ordF (atG g) g.actions (g.actions.length + 1) [] []

/-- How many actions are not done. -/
def undone (D : List (ByteArray × Bool)) (l : List Act) : Nat := (l.filter fun a => !((mget D a.name).getD false)).length
theorem undone_nil (l : List Act) : undone [] l = l.length := by simp [undone, mget]
theorem undone_put {D : List (ByteArray × Bool)} {l : List Act} {a : Act} (h : a ∈ l) (hu : (mget D a.name).getD false = false) : undone (mput D a.name true) l < undone D l := by
  unfold undone
  have hle : ∀ (m : List Act), (m.filter fun x => !((mget (mput D a.name true) x.name).getD false)).length ≤ (m.filter fun x => !((mget D x.name).getD false)).length := by
    intro m
    induction m with
    | nil => simp
    | cons x r ih =>
      by_cases e : x.name = a.name
      · rw [List.filter_cons, List.filter_cons, e, mget_mput_same, hu]; simp; omega
      · rw [List.filter_cons, List.filter_cons, mget_mput_other _ _ _ _ e]; split <;> (try simp only [List.length_cons]) <;> omega
  induction l with
  | nil => cases h
  | cons x r ih =>
    by_cases e : x.name = a.name
    · have := hle r
      rw [List.filter_cons, List.filter_cons, e, mget_mput_same, hu]; simp; omega
    · have hr : a ∈ r := by
        cases h with
        | head => exact absurd rfl e
        | tail _ h => exact h
      have := ih hr
      rw [List.filter_cons, List.filter_cons, mget_mput_other _ _ _ _ e]; split <;> (try simp only [List.length_cons]) <;> omega
theorem idx_spec {α : Type} (p : α → Bool) (d : α) : ∀ (l : List α) (i : Nat), idx p l i < 0 ∨ ∃ j, idx p l i = ((i + j : Nat) : Int) ∧ j < l.length ∧ p (l.getD j d) = true
  | [], i => .inl (by simp [idx])
  | x :: r, i => by
    unfold idx
    cases h : p x
    · rcases idx_spec p d r (i + 1) with h1 | ⟨j, h1, h2, h3⟩
      · exact .inl (by simpa using h1)
      · exact .inr ⟨j + 1, by simp [h1]; omega, by simp; omega, by simpa using h3⟩
    · exact .inr ⟨0, by simp, by simp, by simpa using h⟩

/-- While the actions are put in order. -/
def OrdL (w : World) (p : Nat) (D : List (ByteArray × Bool)) (wr : World) : Prop :=
  Below w.heap.size w wr ∧ w.heap.size + 3 < wr.heap.size ∧ wr.heap[w.heap.size]? = some (.cells #[.pointer (some ⟨p, 0, none⟩)] 72) ∧ XMap boolV wr (w.heap.size + 1) D ∧
    wr.heap[w.heap.size + 1 + 1]? = some (.cells #[.map (some (w.heap.size + 1))] 83) ∧
    wr.heap[w.heap.size + 1 + 1 + 1]? = some (.cells #[.func (.func 41) #[] #[.pointer (some ⟨w.heap.size, 0, none⟩), .pointer (some ⟨w.heap.size + 1 + 1, 0, none⟩)]] 68)
theorem OrdL.below {w wr w' : World} {p : Nat} {D : List (ByteArray × Bool)} (h : OrdL w p D wr) (hb : Below wr.heap.size wr w') : OrdL w p D w' := by
  obtain ⟨h1, h2, h3, h4, h5, h6⟩ := h
  exact ⟨h1.trans (hb.mono h1.size), Nat.lt_of_lt_of_le h2 hb.size, (hb.block _ (by omega)).trans h3, h4.below hb, (hb.block _ (by omega)).trans h5, (hb.block _ h2).trans h6⟩
theorem OrdL.drew {w wr : World} {p : Nat} {D : List (ByteArray × Bool)} (h : OrdL w p D wr) : OrdL w p D wr.drew := ⟨h.1.drew, h.2⟩
theorem OrdL.put {w wr w' : World} {p : Nat} {D D' : List (ByteArray × Bool)} (h : OrdL w p D wr) (hx : XMap boolV w' (w.heap.size + 1) D') (hg : wr.grownBy w' (some (w.heap.size + 1))) : OrdL w p D' w' := by
  obtain ⟨h1, h2, h3, h4, h5, h6⟩ := h
  exact ⟨h1.grown hg h1.size (fun k hk => by cases hk; omega), Nat.lt_of_lt_of_le h2 hg.size, (hg.block _ (by omega) (by simp)).trans h3, hx, (hg.block _ (by omega) (by simp)).trans h5, (hg.block _ h2 (by simp)).trans h6⟩
theorem OrdL.grown {w wr w' : World} {p : Nat} {D : List (ByteArray × Bool)} {row : Option Nat} (h : OrdL w p D wr) (hg : wr.grownBy w' row) (hr : ∀ k, row = some k → w.heap.size + 4 ≤ k) : OrdL w p D w' := by
  obtain ⟨h1, h2, h3, h4, h5, h6⟩ := h
  have k : ∀ j, j < w.heap.size + 4 → w'.heap[j]? = wr.heap[j]? := fun j hj => hg.block j (by omega) (fun e => by have := hr j e.symm; omega)
  exact ⟨h1.grown hg h1.size (fun k hk => by have := hr k hk; omega), Nat.lt_of_lt_of_le h2 hg.size, (k _ (by omega)).trans h3, h4.keep (k _ (by omega)), (k _ (by omega)).trans h5, (k _ (by omega)).trans h6⟩
theorem OrdL.ord {w wr : World} {p : Nat} {D : List (ByteArray × Bool)} {g : Gr} (h : OrdL w p D wr) (hw : WebAt w (.pointer (some ⟨p, 0, none⟩)) g) : OrdR wr w.heap.size (w.heap.size + 1 + 1) (atG g) D := by
  obtain ⟨h1, h2, h3, h4, h5, h6⟩ := h
  obtain ⟨bw, bm, gs, ga, e, k1, k2, k3, k4⟩ := hw.below h1
  cases e
  exact ⟨p, bm, w.heap.size + 1, by rw [Lib.cell_of_heap h3]; rfl, by rw [Lib.cell_of_heap k1]; rfl, k4, by rw [Lib.cell_of_heap h5]; rfl, h4⟩

def OrderPost (g : Gr) (w : World) (e : Ending) (w' : World) : Prop := ∃ v, e = .returned v ∧ Ints (fun b => w.heap.size ≤ b) w' v (ordG g) ∧ Below w.heap.size w w'

theorem infoInt : (Tryz.prog.info? 3).map (fun i => (i.zero, i.size, i.bytes)) = some (some (.int .i64 0), 1, 8) := by kernel_rfl
def natsV (l : List Nat) : List Value := l.map fun (n : Nat) => Value.int .i64 (n : Int)
theorem ownsRow_ints {w : World} {base e n : Nat} {v : Value} {l : List Nat} (h : w.ownsRow base e 1 v n (natsV l)) (hl : l.length ≤ 140737488355328) : Ints (fun b => base ≤ b) w v l := by
  have hn0 : l.length = n := by have := h.1; simpa [natsV] using this
  subst hn0
  obtain ⟨_, a, cap, rfl, hn, h2⟩ := ownsRow_cells h
  refine ⟨a, cap, rfl, hn, hl, ?_⟩
  rcases h2 with h2 | ⟨g, rfl, hg, hlt, hc⟩
  · exact .inl (List.eq_nil_of_length_eq_zero h2)
  · refine .inr ⟨g, 0, rfl, hg, hlt, fun i hi => ?_⟩
    rw [Nat.zero_add, hc i (by omega)]
    simp [natsV, List.getD_eq_getElem?_getD, List.getElem?_eq_getElem hi]
theorem ordF_length (M : List (ByteArray × Int)) (l : List Act) : ∀ (n : Nat) (D : List (ByteArray × Bool)) (acc : List Nat), (ordF M l n D acc).length ≤ acc.length + n
  | 0, _, acc => Nat.le_refl _
  | n + 1, D, acc => by
    unfold ordF
    split
    · omega
    · have := ordF_length M l n (mput D (l.getD (idx (readyB M D) l 0).toNat default).name true) (acc ++ [(idx (readyB M D) l 0).toNat])
      simp only [List.length_append, List.length_cons, List.length_nil] at this
      omega

theorem OrdL.new (w : World) (p : Nat) : OrdL w p [] ((((w.alloc (.cells #[.pointer (some ⟨p, 0, none⟩)] 72)).alloc (.map #[] 0)).alloc (.cells #[.map (some (w.heap.size + 1))] 83)).alloc
    (.cells #[.func (.func 41) #[] #[.pointer (some ⟨w.heap.size, 0, none⟩), .pointer (some ⟨w.heap.size + 1 + 1, 0, none⟩)]] 68)) := by
  have a1 := (MapKept.heap_alloc w (.cells #[.pointer (some ⟨p, 0, none⟩)] 72))
  generalize hw1 : w.alloc (.cells #[.pointer (some ⟨p, 0, none⟩)] 72) = w1 at *
  have s1 : w1.heap.size = w.heap.size + 1 := by rw [← hw1]; simp
  have a2 := (MapKept.heap_alloc w1 (.map #[] 0))
  have x2 := XMap.made boolV w1
  generalize hw2 : w1.alloc (.map #[] 0) = w2 at *
  have s2 : w2.heap.size = w.heap.size + 1 + 1 := by rw [← hw2]; simp [s1]
  have a3 := (MapKept.heap_alloc w2 (.cells #[.map (some (w.heap.size + 1))] 83))
  generalize hw3 : w2.alloc (.cells #[.map (some (w.heap.size + 1))] 83) = w3 at *
  have s3 : w3.heap.size = w.heap.size + 1 + 1 + 1 := by rw [← hw3]; simp [s2]
  have a4 := (MapKept.heap_alloc w3 (.cells #[.func (.func 41) #[] #[.pointer (some ⟨w.heap.size, 0, none⟩), .pointer (some ⟨w.heap.size + 1 + 1, 0, none⟩)]] 68))
  rw [s1] at x2 a2
  rw [s2] at a3
  rw [s3] at a4
  have b1 : Below w.heap.size w w1 := by rw [← hw1]; exact (Below.refl _ _).alloc (Nat.le_refl _) _
  have b2 : Below w.heap.size w w2 := by rw [← hw2]; exact b1.alloc (by omega) _
  have b3 : Below w.heap.size w w3 := by rw [← hw3]; exact b2.alloc (by omega) _
  refine ⟨b3.alloc (by omega) _, by simp; omega, ?_, ?_, ?_, a4.1⟩
  · exact (a4.2 _ (by omega)).trans ((a3.2 _ (by omega)).trans ((a2.2 _ (by omega)).trans a1.1))
  · exact (x2.keep (a3.2 _ (by omega))).keep (a4.2 _ (by omega))
  · exact (a4.2 _ (by omega)).trans a3.1

set_option maxHeartbeats 2000000 in
set_option maxRecDepth 20000 in
theorem order_any (g : Gr) (p : Nat) (w : World) (hw : WebAt w (.pointer (some ⟨p, 0, none⟩)) g) (h12 : g.actions.length ≤ 12) :
    Calls Tryz.prog 29 #[.pointer (some ⟨p, 0, none⟩)] w (OrderPost g w) := by
  obtain ⟨i0, hi, hz0, hz1, hz2⟩ := info_parts infoInt
  have HW := Lib.hid hw
  obtain ⟨bw, bm, gs, ga, e, kw, -, hga, -⟩ := hw
  cases e
  have k1 : w.cell? ⟨p, 1, none⟩ = some ga := by rw [Lib.cell_of_heap kw]; rfl
  have HGA := Lib.hid hga
  obtain ⟨aa, capa, rfl, ha2, ha3, -, ha5⟩ := hga
  have hbp := World.block_lt_of_cell? _ _ k1
  simp only at hbp
  clear kw
  have hmm := @run_makeMap Tryz.prog
  have RL := Lib.hid (OrdL.new w p)
  go_enter Tryz.func29, Tryz.ntmps29
  go_wp2_with fail
  clear hmm
  generalize (((w.alloc (.cells #[.pointer (some ⟨p, 0, none⟩)] 72)).alloc (.map #[] 0)).alloc (.cells #[.map (some (w.heap.size + 1))] 83)).alloc
    (.cells #[.func (.func 41) #[] #[.pointer (some ⟨w.heap.size, 0, none⟩), .pointer (some ⟨w.heap.size + 1 + 1, 0, none⟩)]] 68) = wL at RL ⊢
  go_loopg [2] (g.actions.length + 1) (fun gk v wr => ∃ D acc, OrdL w p D wr ∧ wr.ownsRow (w.heap.size + 4) 3 1 v acc.length (natsV acc) ∧ ordF (atG g) g.actions gk D acc = ordG g ∧ undone D g.actions < gk ∧ acc.length + gk = g.actions.length + 1)
  case atStart => exact ⟨[], [], RL.out, World.ownsRow_nil _ _ _ _, rfl, by rw [undone_nil]; omega, by simp⟩
  case round =>
    obtain ⟨D, acc, hR, hO, hF, hU, hA⟩ := hrel
    clear RL
    have RL := Lib.hid hR
    have HO := Lib.hid hO
    have HF := Lib.hid hF
    have HU := Lib.hid hU
    have HA := Lib.hid hA
    clear hR hO hF hU hA
    have c0 : wr.cell? ⟨w.heap.size, 0, none⟩ = some (.pointer (some ⟨p, 0, none⟩)) := by rw [Lib.cell_of_heap RL.out.2.2.1]; rfl
    have c1 := (RL.out.1.cell (p := ⟨p, 1, none⟩) hbp).trans k1
    have hcw : wr.cell? ⟨w.heap.size + 1 + 1 + 1, 0, none⟩ = some (.func (.func 41) #[] #[.pointer (some ⟨w.heap.size, 0, none⟩), .pointer (some ⟨w.heap.size + 1 + 1, 0, none⟩)]) := by rw [Lib.cell_of_heap RL.out.2.2.2.2.2]; rfl
    have HIx := Lib.hid (IndexFunc_act g.actions (.slice aa g.actions.length capa) 42 #[] #[.pointer (some ⟨w.heap.size + 1 + 1, 0, none⟩), .pointer (some ⟨w.heap.size + 1 + 1 + 1, 0, none⟩)] (readyB (atG g) D) wr (HGA.out.below RL.out.1) (enters_of Tryz.func42 (by kernel_rfl) rfl)
      (fun s _ iv w0 hiv hb => (order2_any s iv w.heap.size (w.heap.size + 1 + 1) (w.heap.size + 1 + 1 + 1) (atG g) D w0 (hiv.below hb) ((RL.out.ord HW.out).below hb) ((hb.cell (World.block_lt_of_cell? _ _ hcw)).trans hcw)).mono fun e w' h => ⟨h.1, hb.trans (h.2.mono hb.size)⟩))
    clear hcw
    have hsp := idx_spec (readyB (atG g) D) default g.actions 0
    have HSp := Lib.hid hsp; clear hsp
    go_wp2_with fail
    refine HIx.out.mono ?_
    rintro e w1 ⟨rfl, hb1⟩
    have RL1 := Lib.hid (RL.out.below hb1)
    have HO1 := Lib.hid (HO.out.kept (grownBy_of_below hb1 none) (by cases u2.ownBlock <;> simp))
    clear hb1 c0 c1 RL HO HIx
    obtain ⟨m, rfl⟩ : ∃ m, gk = m + 1 := ⟨gk - 1, by have := HU.out; omega⟩
    rcases HSp.out with hn | ⟨j, hj, hjl, hjr⟩
    · have hF' := HF.out
      rw [ordF, if_pos hn] at hF'
      have HF' := Lib.hid hF'; clear hF'
      generalize idx (readyB (atG g) D) g.actions 0 = x at hn
      clear HSp
      go_wp2_with fail
      go_ret
      refine ⟨_, rfl, ?_, RL1.out.1⟩
      rw [← HF'.out]
      have h1 := ownsRow_ints HO1.out (by have := HA.out; omega)
      exact h1.keep (fun b hb => by omega) ⟨Nat.le_refl _, fun _ _ _ => rfl⟩
    · rw [Nat.zero_add] at hj
      have hF' := HF.out
      rw [ordF, if_neg (by omega), hj, Int.toNat_natCast] at hF'
      have HF' := Lib.hid hF'; clear hF'
      rw [hj]
      obtain ⟨b, off, rfl, hfb, hbs, hc⟩ := ha5.resolve_left (fun e => by rw [e] at hjl; simp at hjl)
      obtain ⟨iv, -, hc0, -, -⟩ := hc j hjl
      have hmem : g.actions.getD j default ∈ g.actions := by rw [List.getD_eq_getElem?_getD, List.getElem?_eq_getElem hjl]; exact List.getElem_mem hjl
      have hun : (mget D (g.actions.getD j default).name).getD false = false := by
        unfold readyB at hjr
        simp at hjr
        cases hh : (mget D (g.actions.getD j default).name).getD false
        · rfl
        · rw [List.getD_eq_getElem?_getD, hjr.1] at hh; cases hh
      have HUn := Lib.hid (undone_put hmem hun)
      generalize g.actions.getD j default = ac at hc0 HF' HUn
      clear hj hjr hmem hun HSp hc ha5 hfb HF
      have HO2 := Lib.hid (HO1.out.alloc (.cells #[.int .i64 (j : Int)] 3))
      go_wp2_with (at_builtin; refine wpList_append_own _ rfl (.tmp 20) (.tmp 22) 60 rfl (w.heap.size + 4) 3 i0 (.int .i64 0) 1 8 Tryz.underlying60 hi hz0 hz1 hz2 rfl (by decide) _ _ _ rfl HO2.out ⟨_, 0, none⟩ 1 1 [.int .i64 (j : Int)] rfl rfl (by exact cell_one _ _ _ _ rfl) (by simp [Value.oneCell']) ?c3 ?c4 ?c5 ?_)
      case c3 => have := HA.out; unfold maxLen; omega
      case c4 => have := HA.out; omega
      case c5 => have := RL1.out.2.1; simp; omega
      intro v2 w2 hown2 hgrow2 _
      have RL2 := Lib.hid ((RL1.out.below ((Below.refl _ _).alloc (Nat.le_refl _) _)).grown hgrow2 (fun k hk => (HO2.out.lt k hk).1))
      have HO3 := Lib.hid (show w2.ownsRow (w.heap.size + 4) 3 1 v2 (acc ++ [j]).length (natsV (acc ++ [j])) by simpa [natsV] using hown2)
      clear hown2 hgrow2 HO2 HO1 RL1
      obtain ⟨ao, n', cap2, rfl⟩ : ∃ ao n' cap, v2 = .slice ao n' cap := by
        obtain ⟨_, ao, cap, h, _⟩ := ownsRow_cells HO3.out
        exact ⟨_, _, _, h⟩
      have c0 : w2.cell? ⟨w.heap.size, 0, none⟩ = some (.pointer (some ⟨p, 0, none⟩)) := by rw [Lib.cell_of_heap RL2.out.2.2.1]; rfl
      have c1 := (RL2.out.1.cell (p := ⟨p, 1, none⟩) hbp).trans k1
      have c2 : w2.cell? ⟨w.heap.size + 1 + 1, 0, none⟩ = some (.map (some (w.heap.size + 1))) := by rw [Lib.cell_of_heap RL2.out.2.2.2.2.1]; rfl
      have c3 := (RL2.out.1.cell (p := ⟨b, off + j * 3, none⟩) hbs).trans hc0
      go_wp2_with fail
      go_still_tail 11, (by kernel_rfl)
      change wpList _ _ _ _ _ (World.drew _)
      go_wp2_with (at_mapUpdate; refine wpList_xput _ rfl _ _ _ 83 rfl 9 4 Tryz.underlying83 Tryz.underlying9 boolV (w.heap.size + 1) D rfl RL2.out.drew.2.2.2.1 ac.name rfl true rfl ?_; intro w3 hx3 hg3)
      have RL3 := Lib.hid (RL2.out.drew.put hx3 hg3)
      have HO4 := Lib.hid (HO3.out.drew.kept hg3 (.inr (fun e => by have := (HO3.out.lt _ e).1; omega)))
      clear hx3 hg3
      go_roundg m
      case measure => omega
      case rel => exact ⟨_, _, RL3.out, HO4.out, HF'.out, by have h1 := HUn.out; have h2 := HU.out; omega, by have := HA.out; simp; omega⟩
end Go.Proofs.YtnifkpcjpjgkeaaGreatDoor
