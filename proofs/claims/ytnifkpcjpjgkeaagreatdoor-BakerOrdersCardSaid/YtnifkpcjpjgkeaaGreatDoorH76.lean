/- baker: words and laws for Start. -/
import Derived.Test.YtnifkpcjpjgkeaaGreatDoorMH74
import Derived.Test.YtnifkpcjpjgkeaaGreatDoorMG64
namespace Go.Proofs.YtnifkpcjpjgkeaaGreatDoor
open Go.RowKit Go.Shelf

abbrev isB (b : Nat) : Nat → Prop := fun k => k = b
/-- While a build begins: the object's cells. -/
def StA (w : World) (b m : Nat) (v0 v1 v3 : Value) (st : Int) (T : TMap) (wr : World) : Prop :=
  Turn (isB b) w wr ∧ b < wr.heap.size ∧ wr.there b 0 5 ∧ wr.cell? ⟨b, 0, none⟩ = some v0 ∧ wr.cell? ⟨b, 1, none⟩ = some v1 ∧ wr.cell? ⟨b, 2, none⟩ = some (.int .i64 st) ∧ wr.cell? ⟨b, 3, none⟩ = some v3 ∧ wr.cell? ⟨b, 4, none⟩ = some (.map (some m)) ∧ XMap Res.v wr m T ∧ w.heap.size ≤ m ∧ b < w.heap.size
section
variable {w wr w' : World} {b m : Nat} {v0 v1 v3 : Value} {st : Int} {T : TMap}
theorem StA.heap (h : StA w b m v0 v1 v3 st T wr) (he : w'.heap[b]? = wr.heap[b]?) (hm : XMap Res.v w' m T) (ht : Turn (isB b) wr w') : StA w b m v0 v1 v3 st T w' := by
  obtain ⟨h1, h2, h3, h4, h5, h6, h7, h8, h9, h10, h11⟩ := h
  have kc : ∀ j, w'.cell? ⟨b, j, none⟩ = wr.cell? ⟨b, j, none⟩ := fun j => World.cell?_of_block (a := ⟨b, j, none⟩) he
  exact ⟨h1.trans ⟨ht.os, ht.tape, ht.output, ht.size, fun k hk hs => ht.block k hk hs⟩, Nat.lt_of_lt_of_le h2 ht.size, fun j hj => by obtain ⟨a1, a2⟩ := h3 j hj; exact ⟨by rw [Nat.zero_add] at a1 ⊢; rw [kc]; exact a1, by rw [Nat.zero_add] at a2 ⊢; exact (World.frozen?_of_block (a := ⟨b, j, none⟩) he).trans a2⟩,
    (kc 0).trans h4, (kc 1).trans h5, (kc 2).trans h6, (kc 3).trans h7, (kc 4).trans h8, hm, h10, h11⟩
theorem StA.below (h : StA w b m v0 v1 v3 st T wr) (hb : Below wr.heap.size wr w') : StA w b m v0 v1 v3 st T w' :=
  h.heap (hb.block b h.2.1) (h.2.2.2.2.2.2.2.2.1.below hb) (Turn.of_below hb)
theorem StA.drew (h : StA w b m v0 v1 v3 st T wr) : StA w b m v0 v1 v3 st T wr.drew := h.below (Below.refl _ _).drew
theorem StA.grown {row : Option Nat} (h : StA w b m v0 v1 v3 st T wr) (hg : wr.grownBy w' row) (hr : ∀ k, row = some k → k ≠ b ∧ k ≠ m ∧ w.heap.size ≤ k) : StA w b m v0 v1 v3 st T w' := by
  have he := hg.block b h.2.1 (fun e => (hr b e.symm).1 rfl)
  have hx := h.2.2.2.2.2.2.2.2.1
  obtain ⟨h1, h2, h3, h4, h5, h6, h7, h8, h9, h10, h11⟩ := h
  have kc : ∀ j, w'.cell? ⟨b, j, none⟩ = wr.cell? ⟨b, j, none⟩ := fun j => World.cell?_of_block (a := ⟨b, j, none⟩) he
  exact ⟨h1.grown hg (fun k hk => .inr (hr k hk).2.2), Nat.lt_of_lt_of_le h2 hg.size, fun j hj => by obtain ⟨a1, a2⟩ := h3 j hj; exact ⟨by rw [Nat.zero_add] at a1 ⊢; rw [kc]; exact a1, by rw [Nat.zero_add] at a2 ⊢; exact (World.frozen?_of_block (a := ⟨b, j, none⟩) he).trans a2⟩,
    (kc 0).trans h4, (kc 1).trans h5, (kc 2).trans h6, (kc 3).trans h7, (kc 4).trans h8, h9.keep (hg.block m h9.lt (fun e => (hr m e.symm).2.1 rfl)), h10, h11⟩
theorem StA.put {T' : TMap} (h : StA w b m v0 v1 v3 st T wr) (hx : XMap Res.v w' m T') (hg : wr.grownBy w' (some m)) : StA w b m v0 v1 v3 st T' w' := by
  obtain ⟨h1, h2, h3, h4, h5, h6, h7, h8, h9, h10, h11⟩ := h
  have he := hg.block b h2 (fun e => by injection e with e; omega)
  have kc : ∀ j, w'.cell? ⟨b, j, none⟩ = wr.cell? ⟨b, j, none⟩ := fun j => World.cell?_of_block (a := ⟨b, j, none⟩) he
  exact ⟨h1.grown hg (fun k hk => by injection hk with hk; exact .inr (by omega)), Nat.lt_of_lt_of_le h2 hg.size, fun j hj => by obtain ⟨a1, a2⟩ := h3 j hj; exact ⟨by rw [Nat.zero_add] at a1 ⊢; rw [kc]; exact a1, by rw [Nat.zero_add] at a2 ⊢; exact (World.frozen?_of_block (a := ⟨b, j, none⟩) he).trans a2⟩,
    (kc 0).trans h4, (kc 1).trans h5, (kc 2).trans h6, (kc 3).trans h7, (kc 4).trans h8, hx, h10, h11⟩
theorem there_setCell (h : w.there b 0 5) (a : Addr) (x : Value) : (w.setCell a x).there b 0 5 := fun j hj => by
  obtain ⟨a1, a2⟩ := h j hj
  refine ⟨?_, by simpa using a2⟩
  obtain ⟨v, hv⟩ := Option.isSome_iff_exists.1 a1
  obtain ⟨v', hv'⟩ := cell?_setCell_some (w := w) (p := a) (x := x) hv
  rw [hv']; rfl
theorem StA.set (h : StA w b m v0 v1 v3 st T wr) (j : Nat) (x : Value) : Turn (isB b) w (wr.setCell ⟨b, j, none⟩ x) ∧ b < (wr.setCell ⟨b, j, none⟩ x).heap.size ∧ (wr.setCell ⟨b, j, none⟩ x).there b 0 5 ∧ XMap Res.v (wr.setCell ⟨b, j, none⟩ x) m T ∧ ∀ i v, i ≠ j → wr.cell? ⟨b, i, none⟩ = some v → (wr.setCell ⟨b, j, none⟩ x).cell? ⟨b, i, none⟩ = some v := by
  obtain ⟨h1, h2, h3, h4, h5, h6, h7, h8, h9, h10, h11⟩ := h
  exact ⟨h1.setCell (p := ⟨b, j, none⟩) (.inl rfl) _, by simpa using h2, there_setCell h3 _ _, h9.keep (Below.heap_setCell _ _ _ _ (fun e => by have : m = b := e; omega)), fun i v hi hv => (World.cell?_setCell_other _ _ _ _ (fun e => hi (by cases e; rfl))).trans hv⟩
theorem StA.set0 (h : StA w b m v0 v1 v3 st T wr) (x : Value) : StA w b m x v1 v3 st T (wr.setCell ⟨b, 0, none⟩ x) := by
  obtain ⟨s1, s2, s3, s4, s5⟩ := h.set 0 x
  obtain ⟨h1, h2, h3, h4, h5, h6, h7, h8, h9, h10, h11⟩ := h
  exact ⟨s1, s2, s3, World.cell?_setCell_same _ _ _ h4, s5 1 _ (by decide) h5, s5 2 _ (by decide) h6, s5 3 _ (by decide) h7, s5 4 _ (by decide) h8, s4, h10, h11⟩
theorem StA.set1 (h : StA w b m v0 v1 v3 st T wr) (x : Value) : StA w b m v0 x v3 st T (wr.setCell ⟨b, 1, none⟩ x) := by
  obtain ⟨s1, s2, s3, s4, s5⟩ := h.set 1 x
  obtain ⟨h1, h2, h3, h4, h5, h6, h7, h8, h9, h10, h11⟩ := h
  exact ⟨s1, s2, s3, s5 0 _ (by decide) h4, World.cell?_setCell_same _ _ _ h5, s5 2 _ (by decide) h6, s5 3 _ (by decide) h7, s5 4 _ (by decide) h8, s4, h10, h11⟩
theorem StA.set2 (h : StA w b m v0 v1 v3 st T wr) (x : Int) : StA w b m v0 v1 v3 x T (wr.setCell ⟨b, 2, none⟩ (.int .i64 x)) := by
  obtain ⟨s1, s2, s3, s4, s5⟩ := h.set 2 (.int .i64 x)
  obtain ⟨h1, h2, h3, h4, h5, h6, h7, h8, h9, h10, h11⟩ := h
  exact ⟨s1, s2, s3, s5 0 _ (by decide) h4, s5 1 _ (by decide) h5, World.cell?_setCell_same _ _ _ h6, s5 3 _ (by decide) h7, s5 4 _ (by decide) h8, s4, h10, h11⟩
theorem StA.set3 (h : StA w b m v0 v1 v3 st T wr) (x : Value) : StA w b m v0 v1 x st T (wr.setCell ⟨b, 3, none⟩ x) := by
  obtain ⟨s1, s2, s3, s4, s5⟩ := h.set 3 x
  obtain ⟨h1, h2, h3, h4, h5, h6, h7, h8, h9, h10, h11⟩ := h
  exact ⟨s1, s2, s3, s5 0 _ (by decide) h4, s5 1 _ (by decide) h5, s5 2 _ (by decide) h6, World.cell?_setCell_same _ _ _ h7, s5 4 _ (by decide) h8, s4, h10, h11⟩
theorem StA.bak {g : Gr} {ord : List Nat} (h : StA w b m v0 v1 v3 st T wr) (hs : Strs (fun k => k ≠ b ∧ k ≠ m) wr v0 g.sources) (ha : Acts (fun k => k ≠ b ∧ k ≠ m) wr v1 g.actions) (ho : Ints (fun k => k ≠ b ∧ k ≠ m) wr v3 ord) : BakAt wr b m g ord st T := by
  obtain ⟨h1, h2, h3, h4, h5, h6, h7, h8, h9, h10, h11⟩ := h
  have := (h3 2 (by omega)).2
  rw [Nat.zero_add] at this
  exact ⟨v0, v1, v3, h4, h5, h6, h7, h8, this, by omega, hs, ha, ho, h9⟩
end
/-- The object laid anew. -/
theorem StA.start {w W w2 : World} {b m : Nat} (hW : Below w.heap.size w W) (hb : b < w.heap.size) (hth : w.there b 0 5) (hm : XMap Res.v W m []) (hml : w.heap.size ≤ m) (h2 : Hid (w2 = W.setCells b 0 [.slice none 0 0, .slice none 0 0, .int .i64 4, .slice none 0 0, .map (some m)])) : StA w b m (.slice none 0 0) (.slice none 0 0) (.slice none 0 0) 4 [] w2 := by
  have hthW : W.there b 0 5 := fun j hj => by
    obtain ⟨a1, a2⟩ := hth j hj
    exact ⟨by rw [hW.cell (p := ⟨b, 0 + j, none⟩) hb]; exact a1, (hW.frozen (p := ⟨b, 0 + j, none⟩) hb).trans a2⟩
  have hr := World.rangeAt_setCells_same W b 0 [.slice none 0 0, .slice none 0 0, .int .i64 4, .slice none 0 0, .map (some m)] hthW
  rw [← h2.out] at hr
  have hc : ∀ j v, [Value.slice none 0 0, .slice none 0 0, .int .i64 4, .slice none 0 0, .map (some m)][j]? = some v → w2.cell? ⟨b, j, none⟩ = some v := fun j v h => by have := hr j v h; rwa [Nat.zero_add] at this
  refine ⟨?_, ?_, fun j hj => ⟨?_, ?_⟩, hc 0 _ rfl, hc 1 _ rfl, hc 2 _ rfl, hc 3 _ rfl, hc 4 _ rfl, ?_, hml, hb⟩
  · rw [h2.out]; exact (Turn.of_below (S := isB b) hW).setCells (b := b) (.inl (show isB b b from rfl)) _ _
  · rw [h2.out, size_setCells]; exact Nat.lt_of_lt_of_le hb hW.size
  · rw [Nat.zero_add]
    match j, hj with
    | 0, _ => rw [hc 0 _ rfl]; rfl
    | 1, _ => rw [hc 1 _ rfl]; rfl
    | 2, _ => rw [hc 2 _ rfl]; rfl
    | 3, _ => rw [hc 3 _ rfl]; rfl
    | 4, _ => rw [hc 4 _ rfl]; rfl
  · rw [h2.out, World.frozen?_setCells]; exact (hthW j hj).2
  · rw [h2.out]; exact hm.keep (heap_setCells _ _ _ _ _ (by omega))

def prCells : List (Act × Value) → List Value
  | [] => []
  | p :: l => .string p.1.name :: p.2 :: .string p.1.code :: prCells l
theorem prCells_app : ∀ (l : List (Act × Value)) (p : Act × Value), prCells (l ++ [p]) = prCells l ++ [.string p.1.name, p.2, .string p.1.code]
  | [], r => rfl
  | x :: l, r => by simp [prCells, prCells_app l r]
theorem prCells_at (d : Act × Value) : ∀ (l : List (Act × Value)) (i : Nat), i < l.length → (prCells l)[i * 3]? = some (.string (l.getD i d).1.name) ∧ (prCells l)[i * 3 + 1]? = some (l.getD i d).2 ∧ (prCells l)[i * 3 + 2]? = some (.string (l.getD i d).1.code)
  | [], i, h => by simp at h
  | x :: l, 0, h => by simp [prCells]
  | x :: l, i + 1, h => by
    have := prCells_at d l i (by simpa using h)
    rw [show (i + 1) * 3 = i * 3 + 1 + 1 + 1 by omega, show i * 3 + 1 + 1 + 1 + 1 = (i * 3 + 1) + 1 + 1 + 1 by omega, show i * 3 + 1 + 1 + 1 + 2 = (i * 3 + 2) + 1 + 1 + 1 by omega]
    simpa [prCells] using this
/-- v is a row of the call's own with these actions, whose inputs lie in other rows of the call's own. -/
def ActsOwn (base : Nat) (v : Value) (P : List (Act × Value)) (w : World) : Prop := OwnS base 3 w v P.length (prCells P) ∧ ∀ p ∈ P, Strs (fun q => base ≤ q ∧ v.ownBlock ≠ some q) w p.2 p.1.inputs
theorem ActsOwn.below {base : Nat} {v : Value} {P : List (Act × Value)} {w w' : World} (h : ActsOwn base v P w) (hb : Below w.heap.size w w') : ActsOwn base v P w' := ⟨h.1.below hb, fun p hp => (h.2 p hp).below hb⟩
theorem ActsOwn.keep {base : Nat} {v : Value} {P : List (Act × Value)} {w w' : World} (h : ActsOwn base v P w) (hs : w.heap.size ≤ w'.heap.size) (hk : ∀ q, base ≤ q → q < w.heap.size → w'.heap[q]? = w.heap[q]?) : ActsOwn base v P w' :=
  ⟨h.1.keep hs (fun q hq hl _ => hk q hq hl), fun p hp => (h.2 p hp).keep (fun _ h => h) ⟨hs, fun q hq hl => hk q hq.1 hl⟩⟩
theorem ActsOwn.snoc {base : Nat} {v v' : Value} {P : List (Act × Value)} {w w' : World} (h : ActsOwn base v P w) (p : Act × Value) (hp : Strs (fun q => base ≤ q ∧ v.ownBlock ≠ some q) w p.2 p.1.inputs) (ho : OwnS base 3 w' v' (P.length + 1) (prCells P ++ [.string p.1.name, p.2, .string p.1.code])) (hg : w.grownBy w' v.ownBlock) (hb : ∀ g, v'.ownBlock = some g → v.ownBlock = some g ∨ w.heap.size ≤ g) : ActsOwn base v' (P ++ [p]) w' := by
  refine ⟨by rw [List.length_append, prCells_app]; exact ho, fun q hq => ?_⟩
  have hall : Strs (fun q => base ≤ q ∧ v.ownBlock ≠ some q) w q.2 q.1.inputs := by
    rcases List.mem_append.1 hq with hq | hq
    · exact h.2 q hq
    · rw [List.mem_singleton.1 hq]; exact hp
  obtain ⟨a, cap, h1, h2, h3, h4, h5⟩ := hall
  refine ⟨a, cap, h1, h2, h3, h4, h5.imp id fun ⟨x, off, e, hf, hl, hc⟩ => ⟨x, off, e, ⟨hf.1, fun hx => ?_⟩, Nat.lt_of_lt_of_le hl hg.size, fun i hi => (World.cell?_of_block (w := w) (hg.block x hl (fun e => hf.2 e.symm))).trans (hc i hi)⟩⟩
  rcases hb x hx with h6 | h6
  · exact hf.2 h6
  · omega
theorem ActsOwn.acts {base : Nat} {v : Value} {P : List (Act × Value)} {w : World} {F : Nat → Prop} {l : List Act} (h : ActsOwn base v P w) (hl : P.map (·.1) = l) (hF : ∀ q, base ≤ q → F q) (hn : l.length ≤ 1000) (hf : ∀ s ∈ l, Fits s.name ∧ Fits s.code) : Acts F w v l := by
  have hll : l.length = P.length := by rw [← hl]; simp
  rcases h.1.2 with ⟨rfl, h0⟩ | ⟨g, off, cap, rfl, hg, hlt, hcap, hc, _⟩
  · have e : l = [] := List.eq_nil_of_length_eq_zero (by omega)
    subst e
    exact ⟨none, 0, rfl, Nat.le_refl _, by simp, by simp, .inl rfl⟩
  · refine ⟨_, cap, by rw [hll], by omega, by omega, hf, .inr ⟨g, off, rfl, hF g hg, hlt, fun i hi => ?_⟩⟩
    have hi' : i < P.length := by omega
    obtain ⟨h1, h2, h3⟩ := prCells_at (default, undef) P i hi'
    have e : l.getD i default = (P.getD i (default, undef)).1 := by
      subst hl
      simp [List.getD_eq_getElem?_getD, List.getElem?_eq_getElem hi']
    rw [e]
    refine ⟨(P.getD i (default, undef)).2, (h.2 _ (getD_mem _ hi')).keep (fun q hq => hF q hq.1) ⟨Nat.le_refl _, fun _ _ _ => rfl⟩, (hc (i * 3) (by omega)).trans h1, ?_, ?_⟩
    · rw [Nat.add_assoc]; exact (hc (i * 3 + 1) (by omega)).trans h2
    · rw [Nat.add_assoc]; exact (hc (i * 3 + 2) (by omega)).trans h3
theorem step_append_S2 {P : Program} {ops : Array Oper} {o : Oper} {a : Go.Act} {w : World} {K : Go.Act → World → Prop} {Q : Exit → Go.Act → World → Prop} {E : Prop}
    (hg : o.guard = none) (s x : Operand) (t : TypeId)
    (ho : o.op = .call { callee := .builtin .append, args := #[s, x], argTypes := #[t, t] })
    (base : Nat) (e : TypeId) (i : TypeInfo) (z : Value) (size bytes : Nat) (ht : P.underlying t = some (.slice e)) (hi : P.info? e = some i) (hz : i.zero = some z)
    (hsize : i.size = size) (hby : i.bytes = bytes) (hzs : z.cells.size = size) (hsz : 0 < size)
    (v : Value) (n : Nat) (xs : List Value) (hs : a.eval s = v) (hown : OwnS base size w v n xs)
    (ad : Addr) (m c : Nat) (news : List Value) (hx : a.eval x = .slice (some ad) m c) (hl : news.length = m * size) (hnews : ∀ j u, news[j]? = some u → w.cell? (ad.add j) = some u) (h1 : ∀ u ∈ news, u.oneCell' = true)
    (h63 : n + m ≤ maxLen) (hbytes : (n + m) * bytes ≤ 140737488355328) (hbase : base ≤ w.heap.size)
    (h : ∀ v' w', OwnS base size w' v' (n + m) (xs ++ news) → w.grownBy w' v.ownBlock → (∀ g, v'.ownBlock = some g → v.ownBlock = some g ∨ w.heap.size ≤ g) → K (a.put o.dst v') w') :
    if Region.wanted o (yielded ops a.tmps) = true then Oper.wp P o a w K Q else E := by
  have hw : Region.wanted o (yielded ops a.tmps) = true := by simp [Region.wanted, hg]
  rw [if_pos hw]
  obtain ⟨v', w', hr, h2, h3, h4⟩ := run_append_S2 (P := P) (w := w) t o.type e i z size bytes ht hi hz hsize hby hzs hsz base v n xs hown ad m c news hl hnews h1 h63 hbytes hbase
  unfold Oper.wp execOp
  simp only [ho, resolve, invoke, builtin, Sem.run_bind, Sem.run_pure, Result.andThen_ok, List.map_toArray, List.map_cons, List.map_nil, hs, hx, hr]
  exact h _ _ h2 h3 h4
theorem infoAct : (Tryz.prog.info? 55).map (fun i => (i.zero, i.size, i.bytes)) = some (some (.agg #[.string ByteArray.empty, .slice none 0 0, .string ByteArray.empty]), 3, 56) := by kernel_rfl
theorem infoBaker : (Tryz.prog.info? 62).map (·.size) = some 5 := by kernel_rfl
end Go.Proofs.YtnifkpcjpjgkeaaGreatDoor
