/- An append onto an own slice, and where what comes back lies. mill: the stack. -/
/- mill: push. -/
/- mill: pop. -/
import Derived.Test.YtnifkpcjpjgkeaaGreatDoorME26
/- E29. -/
namespace Go.Proofs.YtnifkpcjpjgkeaaGreatDoor
open Go.RowKit Go.Shelf

section
variable {P : Program} {w : World} {ops : Array Oper} {rest : List Oper} {o : Oper} {a : Act'} {Q : Exit → Act' → World → Prop}
theorem run_append_S2 (t ty e : TypeId) (i : TypeInfo) (z : Value) (size bytes : Nat) (ht : P.underlying t = some (.slice e)) (hi : P.info? e = some i) (hz : i.zero = some z)
    (hsize : i.size = size) (hby : i.bytes = bytes) (hzs : z.cells.size = size) (hsz : 0 < size)
    (base : Nat) (v : Value) (n : Nat) (xs : List Value) (h : OwnS base size w v n xs) (ad : Addr) (m c : Nat) (news : List Value) (hl : news.length = m * size)
    (hnews : ∀ j u, news[j]? = some u → w.cell? (ad.add j) = some u) (h1 : ∀ u ∈ news, u.oneCell' = true) (h63 : n + m ≤ maxLen) (hbytes : (n + m) * bytes ≤ 140737488355328) (hbase : base ≤ w.heap.size) :
    ∃ v' w', (Builtin.append_ #[t, t] ty #[v, .slice (some ad) m c]).run P w = .ok v' w' ∧ OwnS base size w' v' (n + m) (xs ++ news) ∧ w.grownBy w' v.ownBlock ∧ ∀ g, v'.ownBlock = some g → v.ownBlock = some g ∨ w.heap.size ≤ g := by
  rcases h.2 with ⟨rfl, rfl⟩ | ⟨g, off, cap, rfl, hg, hlt, hn, hc, hr⟩
  · have e0 : xs = [] := List.eq_nil_of_length_eq_zero (by simpa using h.1)
    subst e0
    obtain ⟨v', w', r1, r2, r3, _⟩ := run_append_own (P := P) w w.heap.size t ty e i z size bytes ht hi hz hsize hby hzs hsz (.slice none 0 0) 0 [] (World.ownsRow_nil w _ e size) ad m c news hl hnews h1 h63 hbytes (Nat.le_refl _)
    exact ⟨v', w', r1, (OwnS.of_row r2).base hbase, r3, fun g hg => .inr ((OwnS.of_row r2).block g hg).1⟩
  · by_cases hroom : n + m ≤ cap
    · obtain ⟨v', w', r1, r2, r3⟩ := run_append_S (P := P) (w := w) t ty e i z size bytes ht hi hz hsize hby hzs hsz base (.slice (some ⟨g, off, none⟩) n cap) n xs h (some ad) m c news hl (.inr ⟨ad, rfl, hnews⟩) h1 h63 hbytes hbase
      refine ⟨v', w', r1, r2, r3, fun g' hg' => .inl ?_⟩
      subst hsize
      have hsp : ∀ j, j < news.length → (w.cell? ⟨g, off + n * i.size + j, none⟩).isSome = true ∧ w.frozen? ⟨g, off + n * i.size + j, none⟩ = false := fun j hj => by
        have hle : n * i.size + j < cap * i.size := by
          have : (n + m) * i.size ≤ cap * i.size := Nat.mul_le_mul_right _ hroom
          rw [Nat.add_mul] at this
          omega
        have := hr (n * i.size + j) hle
        rwa [← Nat.add_assoc] at this
      have hrun := run_append_room_cells (P := P) w t ty e i ht hi g off n cap ad m c news hl hnews h1 hroom (fun j hj => (hsp j hj).1) (fun j hj => (hsp j hj).2)
      rw [hrun] at r1
      injection r1 with e1 e2
      subst e1
      exact hg'
    · obtain ⟨v', w', r1, r2, r3⟩ := run_append_arg_grows (P := P) w t ty e i z size bytes ht hi hz hsize hby hzs hsz ⟨g, off, none⟩ n cap xs h.1 (fun j u hj => by
        have hjl : j < n * size := by rw [← h.1]; exact (List.getElem?_eq_some_iff.1 hj).1
        rw [Addr.add_lit, hc j hjl]; exact hj) ad m c news hl hnews (by omega) h63 hbytes
      exact ⟨v', w', r1, (OwnS.of_row r2).base hbase, ⟨r3.os, r3.tape, r3.output, r3.size, fun k hk _ => r3.block k hk (by simp)⟩, fun g hg => .inr ((OwnS.of_row r2).block g hg).1⟩
theorem wpList_append_S2 (hgd : o.guard = none) (s x : Operand) (t : TypeId)
    (ho : o.op = .call { callee := .builtin .append, args := #[s, x], argTypes := #[t, t] })
    (base : Nat) (e : TypeId) (i : TypeInfo) (z : Value) (size bytes : Nat) (ht : P.underlying t = some (.slice e)) (hi : P.info? e = some i) (hz : i.zero = some z)
    (hsize : i.size = size) (hby : i.bytes = bytes) (hzs : z.cells.size = size) (hsz : 0 < size)
    (v : Value) (n : Nat) (xs : List Value) (hs : a.eval s = v) (hown : OwnS base size w v n xs)
    (ad : Addr) (m c : Nat) (news : List Value) (hx : a.eval x = .slice (some ad) m c) (hl : news.length = m * size) (hnews : ∀ j u, news[j]? = some u → w.cell? (ad.add j) = some u) (h1 : ∀ u ∈ news, u.oneCell' = true)
    (h63 : n + m ≤ maxLen) (hbytes : (n + m) * bytes ≤ 140737488355328) (hbase : base ≤ w.heap.size)
    (h : ∀ v' w', OwnS base size w' v' (n + m) (xs ++ news) → w.grownBy w' v.ownBlock → (∀ g, v'.ownBlock = some g → v.ownBlock = some g ∨ w.heap.size ≤ g) → wpList P ops Q rest (a.put o.dst v') w') : wpList P ops Q (o :: rest) a w := by
  refine wpList_plain hgd fun _ hK => ?_
  obtain ⟨v', w', hr, h2, h3, h4⟩ := run_append_S2 (P := P) (w := w) t o.type e i z size bytes ht hi hz hsize hby hzs hsz base v n xs hown ad m c news hl hnews h1 h63 hbytes hbase
  unfold Oper.wp execOp
  simp only [ho, resolve, invoke, builtin, Sem.run_bind, Sem.run_pure, Result.andThen_ok, List.map_toArray, List.map_cons, List.map_nil, hs, hx, hr]
  exact hK _ _ (h v' w' h2 h3 h4)
end

/-- Block M's first cell is a stack of these texts, in rows of the call's own; no row lies in a block of G. -/
def StkAt (B M : Nat) (G : Nat → Prop) (l : List ByteArray) (w : World) : Prop :=
  (∃ v, w.cell? ⟨M, 0, none⟩ = some v ∧ OwnS B 1 w v l.length (l.map Value.string) ∧ ∀ g, v.ownBlock = some g → g ≠ M ∧ ¬ G g) ∧ w.frozen? ⟨M, 0, none⟩ = false ∧ l.length ≤ 8 ∧ (∀ s ∈ l, s.size ≤ 512) ∧ B ≤ M
/-- What a call on the stack leaves: all below B, what G holds, the other cells of block M. -/
def Step1 (B M : Nat) (G : Nat → Prop) (w w' : World) : Prop :=
  Below B w w' ∧ (∀ k, G k → k < w.heap.size → w'.heap[k]? = w.heap[k]?) ∧ ∀ j, 1 ≤ j → w'.cell? ⟨M, j, none⟩ = w.cell? ⟨M, j, none⟩ ∧ w'.frozen? ⟨M, j, none⟩ = w.frozen? ⟨M, j, none⟩
end Go.Proofs.YtnifkpcjpjgkeaaGreatDoor
/- E30. -/
namespace Go.Proofs.YtnifkpcjpjgkeaaGreatDoor
open Go.RowKit Go.Shelf

theorem Step1.refl (B M : Nat) (G : Nat → Prop) (w : World) : Step1 B M G w w := ⟨Below.refl _ _, fun _ _ _ => rfl, fun _ _ => ⟨rfl, rfl⟩⟩
theorem Step1.trans {B M : Nat} {G : Nat → Prop} {a b c : World} (h : Step1 B M G a b) (k : Step1 B M G b c) : Step1 B M G a c :=
  ⟨h.1.trans k.1, fun i hi hl => (k.2.1 i hi (Nat.lt_of_lt_of_le hl h.1.size)).trans (h.2.1 i hi hl), fun j hj => ⟨(k.2.2 j hj).1.trans (h.2.2 j hj).1, (k.2.2 j hj).2.trans (h.2.2 j hj).2⟩⟩
theorem Step1.alloc {B M : Nat} {G : Nat → Prop} {w : World} (hB : B ≤ w.heap.size) (hM : M < w.heap.size) (o : Obj) : Step1 B M G w (w.alloc o) :=
  ⟨(Below.refl _ _).alloc hB o, fun k _ hl => Below.heap_alloc _ _ _ hl, fun j _ => ⟨World.cell?_alloc_lt w o ⟨M, j, none⟩ hM, World.frozen?_of_block (w := w) (a := ⟨M, j, none⟩) (Below.heap_alloc _ _ _ hM)⟩⟩
theorem Step1.setCell {B M : Nat} {G : Nat → Prop} {w : World} (hB : B ≤ M) (hG : ¬ G M) (x : Value) : Step1 B M G w (w.setCell ⟨M, 0, none⟩ x) :=
  ⟨(Below.refl _ _).setCell (p := ⟨M, 0, none⟩) hB x, fun k hk _ => Below.heap_setCell _ _ _ _ (fun e => hG (by have : k = M := e; exact this ▸ hk)), fun j hj => ⟨World.cell?_setCell_other _ _ _ _ (fun e => by cases e; omega), by simp⟩⟩
theorem Step1.grown {B M : Nat} {G : Nat → Prop} {w w' : World} {row : Option Nat} (hM : M < w.heap.size) (hg : w.grownBy w' row) (hr : ∀ g, row = some g → g ≠ M ∧ ¬ G g ∧ B ≤ g) (hB : B ≤ w.heap.size) : Step1 B M G w w' :=
  ⟨(Below.refl _ _).grown hg hB (fun k hk => (hr k hk).2.2), fun k hk hl => hg.block k hl (fun e => (hr k e.symm).2.1 hk), fun j _ =>
    have hb := hg.block M hM (fun e => (hr M e.symm).1 rfl)
    ⟨World.cell?_of_block (w := w) (a := ⟨M, j, none⟩) hb, World.frozen?_of_block (w := w) (a := ⟨M, j, none⟩) hb⟩⟩
theorem Step1.drew {B M : Nat} {G : Nat → Prop} {a w : World} (h : Step1 B M G a w) : Step1 B M G a w.drew := ⟨h.1.drew, h.2⟩

def PushPost (B M : Nat) (G : Nat → Prop) (w : World) (e : Ending) (w' : World) : Prop := ∃ (c : Int) (l' : List ByteArray), e = .returned (.int .i64 c) ∧ StkAt B M G l' w' ∧ Step1 B M G w w'

set_option maxHeartbeats 2000000 in
set_option maxRecDepth 20000 in
theorem push_any (B M : Nat) (G : Nat → Prop) (l lp : List ByteArray) (v : Value) (w : World) (hs : StkAt B M G l w) (hv : Strs G w v lp) (hlp : lp.length ≤ 2) (hm : ∀ s ∈ lp, s.size ≤ 2000) (hG : ¬ G M) (hB : B ≤ w.heap.size) (hGl : ∀ k, G k → k < w.heap.size) :
    Calls Tryz.prog 95 #[.pointer (some ⟨M, 0, none⟩), v] w (PushPost B M G w) := by
  obtain ⟨i0, hi, hz0, hz1, hz2⟩ := info_parts infoStr
  have HS := Lib.hid hs
  have HM := Lib.hid hm
  have HG := Lib.hid hG
  have HGl := Lib.hid hGl
  have hMl : M < w.heap.size := by obtain ⟨⟨x, hx, -⟩, -⟩ := hs; exact World.block_lt_of_cell? _ _ hx
  obtain ⟨a, cap, rfl, h2, -, -, h5⟩ := hv
  have H5 := Lib.hid h5
  clear hs hm h5 hG hGl
  go_enter Tryz.func95, Tryz.ntmps95
  go_wp2_with fail
  go_loopw [9] (fun i wr => ∃ (k : Nat) (l : List ByteArray), k ≤ lp.length ∧ i = .int .i64 (k : Int) ∧ StkAt B M G l wr ∧ Step1 B M G w wr) (fun i _ => lp.length - (intOf i).toNat)
  case atStart => exact ⟨0, l, Nat.zero_le _, rfl, HS.out, Step1.refl _ _ _ _⟩
  case round =>
    obtain ⟨k, l1, hk, rfl, hS, hT⟩ := hrel
    clear HS
    have HS := Lib.hid hS
    have HT := Lib.hid hT
    obtain ⟨⟨x, hx, ho, hxb⟩, hf, h8, hsz, hBM⟩ := hS
    clear hT
    by_cases hlt : k < lp.length
    · obtain ⟨b, off, rfl, hGb, hbs, hc⟩ := H5.out.resolve_left (fun e => by rw [e] at hlt; simp at hlt)
      have c0 := (World.cell?_of_block (w := w) (a := ⟨b, off + k, none⟩) (HT.out.2.1 b hGb hbs)).trans (hc k hlt)
      have hs0 := HM.out _ (getD_mem ByteArray.empty hlt)
      generalize lp.getD k ByteArray.empty = s at c0 hs0
      obtain ⟨av, cv, rfl, hcv⟩ := ho.form
      have HO := Lib.hid ho
      have HX := Lib.hid hxb
      have HSz := Lib.hid hsz
      have hMr : M < wr.heap.size := World.block_lt_of_cell? _ _ hx
      clear hc ho hxb hsz
      by_cases hl8 : l1.length < 8
      · by_cases hw : s.size ≤ 512
        · have HW := Lib.hid hw
          go_wp2_with (at_builtin; refine wpList_append_S2 rfl (.tmp 28) (.tmp 30) 22 rfl B 9 i0 (.string ByteArray.empty) 1 16 Tryz.underlying22 hi hz0 hz1 hz2 rfl (by decide) _ _ _ rfl (HO.out.below ((Below.refl _ _).alloc (Nat.le_refl _) _)) ⟨wr.heap.size, 0, none⟩ 1 1 [.string s] rfl rfl (cell_one _ _ _ _ rfl) (by simp [Value.oneCell']) (by unfold maxLen; omega) (by omega) (by have := HT.out.1.size; simp; omega) ?_; intro v2 w2 ho2 hg2 hp2; have hbk := hg2.block M (by simp; omega) (fun e => (HX.out M e.symm).1 rfl); have x2 := ((World.cell?_of_block (a := ⟨M, 0, none⟩) hbk).trans (World.cell?_alloc_lt wr _ ⟨M, 0, none⟩ hMr)).trans hx; have f2 := ((World.frozen?_of_block (a := ⟨M, 0, none⟩) hbk).trans (World.frozen?_of_block (a := ⟨M, 0, none⟩) (Below.heap_alloc _ _ _ hMr))).trans hf; obtain ⟨av2, cv2, rfl, hcv2⟩ := ho2.form; have HO2 := Lib.hid ho2; have HG2 := Lib.hid hg2; have HP2 := Lib.hid hp2; clear ho2 hg2 hp2 hbk hx hf)
          have hMw2 : M < w2.heap.size := World.block_lt_of_cell? _ _ x2
          have hown2 : ∀ g, (Value.slice av2 (l1.length + 1) cv2).ownBlock = some g → g ≠ M ∧ ¬ G g := fun g hg => by
            rcases HP2.out g hg with h | h
            · exact HX.out g h
            · have h' : wr.heap.size + 1 ≤ g := by simpa using h
              exact ⟨by omega, fun hGg => by have h1 := HGl.out g hGg; have h2 := HT.out.1.size; omega⟩
          have HS2 := Lib.hid (show StkAt B M G (l1 ++ [s]) (w2.setCell ⟨M, 0, none⟩ (.slice av2 (l1.length + 1) cv2)) from
            ⟨⟨_, World.cell?_setCell_same _ _ _ x2, by
              have h1 := HO2.out.keep (w' := w2.setCell ⟨M, 0, none⟩ (.slice av2 (l1.length + 1) cv2)) (by simp [World.setCell]) (fun g _ _ hv => Below.heap_setCell _ _ _ _ (fun e => (hown2 g hv).1 (by have : g = M := e; exact this)))
              simpa using h1, hown2⟩, by simpa using f2, by simp; omega, fun t ht => by
              rcases List.mem_append.1 ht with ht | ht
              · exact HSz.out t ht
              · rw [List.mem_singleton.1 ht]; exact HW.out, hBM⟩)
          have HT2 := Lib.hid (show Step1 B M G w (w2.setCell ⟨M, 0, none⟩ (.slice av2 (l1.length + 1) cv2)) from
            ((HT.out.trans (Step1.alloc (by have := HT.out.1.size; omega) hMr _)).trans (Step1.grown (by simp; omega) HG2.out (fun g hg => ⟨(HX.out g hg).1, (HX.out g hg).2, (HO.out.block g hg).1⟩) (by have := HT.out.1.size; simp; omega))).trans (Step1.setCell hBM HG.out _))
          first
            | exact ⟨⟨k + 1, _, by omega, by go_num, HS2.out, HT2.out⟩, by simp [intOf]; omega⟩
            | (go_roundw
               case rel => exact ⟨k + 1, _, by omega, by go_num, HS2.out, HT2.out⟩
               case measure => simp [intOf]; omega)
        · go_wp2_with fail
          go_ret
          exact ⟨_, l1, rfl, HS.out, HT.out⟩
      · go_wp2_with fail
        go_ret
        exact ⟨_, l1, rfl, HS.out, HT.out⟩
    · clear ho hxb
      go_wp2_with fail
      go_ret
      exact ⟨_, l1, rfl, HS.out, HT.out⟩
end Go.Proofs.YtnifkpcjpjgkeaaGreatDoor
/- E31. -/
namespace Go.Proofs.YtnifkpcjpjgkeaaGreatDoor
open Go.RowKit Go.Shelf

theorem OwnS.strs {base : Nat} {w : World} {v : Value} {l : List ByteArray} (h : OwnS base 1 w v l.length (l.map Value.string)) (hl : l.length ≤ 140737488355328) (hf : ∀ s ∈ l, Fits s) : Strs (fun b => base ≤ b) w v l := by
  rcases h.2 with ⟨rfl, h0⟩ | ⟨g, off, cap, rfl, hg, hlt, hn, hc, _⟩
  · have e := List.eq_nil_of_length_eq_zero h0
    subst e
    exact Strs.nil _ _
  · refine ⟨_, _, rfl, hn, hl, hf, .inr ⟨g, off, rfl, hg, hlt, fun i hi => ?_⟩⟩
    rw [hc i (by omega)]
    simp [List.getD_eq_getElem?_getD, List.getElem?_eq_getElem hi]

theorem OwnS.take {base g off n cap a : Nat} {w : World} {xs : List Value} (h : OwnS base 1 w (.slice (some ⟨g, off, none⟩) n cap) n xs) (ha : a ≤ n) : OwnS base 1 w (.slice (some ⟨g, off, none⟩) a cap) a (xs.take a) := by
  have hl := h.1
  rcases h.2 with ⟨e, _⟩ | ⟨g', off', cap', e, hg, hlt, hn, hc, hr⟩
  · cases e
  · injection e with e1 e2 e3
    injection e1 with e1
    injection e1 with e4 e5
    subst e3 e4 e5
    refine ⟨by simp; omega, .inr ⟨_, _, _, rfl, hg, hlt, by omega, fun j hj => ?_, hr⟩⟩
    rw [hc j (by omega), List.getElem?_take_of_lt (by omega)]
theorem Strs.setStk {w : World} {M B : Nat} {v x : Value} {l : List ByteArray} (h : Strs (fun b => B ≤ b) w v l) (hM : M < B) : Strs (fun b => B ≤ b) (w.setCell ⟨M, 0, none⟩ x) v l :=
  h.keep (fun _ h => h) ⟨by simp [World.setCell], fun b hb _ => Below.heap_setCell _ _ _ _ (fun e => by have : b = M := e; omega)⟩

def PopPost (B M : Nat) (G : Nat → Prop) (l : List ByteArray) (n : Nat) (w : World) (e : Ending) (w' : World) : Prop :=
  (e = .returned (.tuple #[.slice none 0 0, .bool false]) ∧ l.length < n ∧ w' = w) ∨
  (n ≤ l.length ∧ ∃ v, e = .returned (.tuple #[v, .bool true]) ∧ Strs (fun b => w.heap.size ≤ b) w' v (l.drop (l.length - n)) ∧ StkAt B M G (l.take (l.length - n)) w' ∧ Step1 B M G w w')

theorem pop_end {B M a n : Nat} {G : Nat → Prop} {l : List ByteArray} {w w1 : World} {v nv : Value} (hs : StkAt B M G l w) (ha : l.length = a + n) (ho : OwnS B 1 w nv a ((l.map Value.string).take a)) (hv : ∃ v0, w.cell? ⟨M, 0, none⟩ = some v0 ∧ v0.ownBlock = nv.ownBlock)
    (hb : Below w.heap.size w w1) (hO : Strs (fun b => w.heap.size ≤ b) w1 v (l.drop a)) (hM : M < w.heap.size) (hB : B ≤ w.heap.size) (hG : ¬ G M) : PopPost B M G l n w (.returned (.tuple #[v, .bool true])) (w1.setCell ⟨M, 0, none⟩ nv) := by
  obtain ⟨⟨v1, hx, ho1, hvb⟩, hf, h8, hsz, hBM⟩ := hs
  obtain ⟨v0, hx0, e0⟩ := hv
  rw [hx] at hx0
  injection hx0 with hx0
  subst hx0
  have e : l.length - n = a := by omega
  have x1 := (hb.cell (p := ⟨M, 0, none⟩) hM).trans hx
  have f1 := (hb.frozen (p := ⟨M, 0, none⟩) hM).trans hf
  refine .inr ⟨by omega, v, rfl, by rw [e]; exact hO.setStk hM, ?_, ?_⟩
  · rw [e]
    have hl : (l.take a).length = a := by simp; omega
    refine ⟨⟨nv, World.cell?_setCell_same _ _ _ x1, ?_, fun g hg => hvb g (by rw [e0]; exact hg)⟩, by simpa using f1, by rw [hl]; omega, fun s hs => hsz s (List.mem_of_mem_take hs), hBM⟩
    rw [hl, List.map_take]
    exact (ho.below hb).keep (by simp [World.setCell]) (fun g _ _ hg => Below.heap_setCell _ _ _ _ (fun e => (hvb g (by rw [e0]; exact hg)).1 (by have : g = M := e; exact this)))
  · exact (show Step1 B M G w w1 from ⟨hb.mono hB, fun k _ hl => hb.block k hl, fun j _ => ⟨hb.cell (p := ⟨M, j, none⟩) hM, hb.frozen (p := ⟨M, j, none⟩) hM⟩⟩).trans (Step1.setCell hBM hG _)

set_option maxHeartbeats 2000000 in
set_option maxRecDepth 20000 in
theorem pop_any (B M : Nat) (G : Nat → Prop) (l : List ByteArray) (n : Nat) (w : World) (hs : StkAt B M G l w) (hn : n ≤ 2) (hG : ¬ G M) (hB : B ≤ w.heap.size) :
    Calls Tryz.prog 91 #[.pointer (some ⟨M, 0, none⟩), .int .i64 (n : Int)] w (PopPost B M G l n w) := by
  have HS := Lib.hid hs
  obtain ⟨⟨v, hx, ho, hvb⟩, hf, h8, hsz, hBM⟩ := hs
  have hMl : M < w.heap.size := World.block_lt_of_cell? _ _ hx
  have HSz := Lib.hid hsz
  by_cases hlt : l.length < n
  · have HLT := Lib.hid hlt
    obtain ⟨av, cv, rfl, hcv⟩ := ho.form
    clear ho hvb hsz
    go_enter Tryz.func91, Tryz.ntmps91
    go_wp2_with fail
    go_ret2
    exact .inl ⟨rfl, HLT.out, rfl⟩
  · obtain ⟨a, ha⟩ : ∃ a, l.length = a + n := ⟨l.length - n, by omega⟩
    have HA := Lib.hid ha
    have HO := Lib.hid ho
    have HVB := Lib.hid hvb
    rcases ho.2 with ⟨rfl, h0⟩ | ⟨g, off, cap, rfl, hg, hgl, hcap, hcell, hroom⟩
    · obtain rfl : l = [] := List.eq_nil_of_length_eq_zero h0
      obtain ⟨rfl, rfl⟩ : a = 0 ∧ n = 0 := by simp at ha; omega
      have HV0 := Lib.hid (show ∃ v0, w.cell? ⟨M, 0, none⟩ = some v0 ∧ v0.ownBlock = none from ⟨_, hx, rfl⟩)
      clear ho hvb hsz
      go_enter Tryz.func91, Tryz.ntmps91
      go_wp2_with fail
      refine (Clone_any [] _ _ (Strs.nil anyBlk _) (by simp)).mono ?_
      rintro e w1 ⟨v', rfl, hO, hb1⟩
      have x1 := (hb1.cell (p := ⟨M, 0, none⟩) hMl).trans hx
      have f1 := (hb1.frozen (p := ⟨M, 0, none⟩) hMl).trans hf
      have HB1 := Lib.hid hb1
      have HO1 := Lib.hid (hO.strs (by simp) (by simp))
      obtain ⟨av, cv, rfl, -⟩ := hO.form
      clear hO hb1 hx hf
      go_wp2_with fail
      go_ret2
      exact pop_end (a := 0) HS.out rfl ⟨rfl, .inl ⟨rfl, rfl⟩⟩ HV0.out HB1.out HO1.out hMl hB hG
    · have hgM : g ≠ M := (hvb g rfl).1
      have hstr : ∀ A C, ((cap = a ∧ A = some ⟨g, off, none⟩ ∧ C = 0) ∨ (cap ≠ a ∧ A = some ⟨g, off + a, none⟩ ∧ C = cap - a)) → Strs anyBlk w (.slice A n C) (l.drop a) := by
        intro A C hAC
        have hdl : (l.drop a).length = n := by simp; omega
        refine ⟨A, C, by rw [hdl], by rw [hdl]; rcases hAC with ⟨h1, _, h3⟩ | ⟨h1, _, h3⟩ <;> omega, by rw [hdl]; omega, fun s hs => by have := hsz s (List.mem_of_mem_drop hs); unfold Fits; omega, ?_⟩
        rcases hAC with ⟨h1, _, h3⟩ | ⟨h1, h2, h3⟩
        · exact .inl (List.eq_nil_of_length_eq_zero (by omega))
        · refine .inr ⟨g, off + a, h2, trivial, hgl, fun i hi => ?_⟩
          have h4 := hcell (a + i) (by omega)
          rw [← Nat.add_assoc] at h4
          rw [h4]
          have h5 : a + i < l.length := by omega
          simp [List.getD_eq_getElem?_getD, List.getElem?_drop, List.getElem?_eq_getElem h5]
      have HStr := Lib.hid hstr
      have HV0 := Lib.hid (show ∃ v0, w.cell? ⟨M, 0, none⟩ = some v0 ∧ v0.ownBlock = some g from ⟨_, hx, rfl⟩)
      rw [ha] at hx hcap
      clear hstr ho hvb hsz hcell hroom HVB
      by_cases hca : cap = a
      · subst hca
        obtain rfl : n = 0 := by omega
        go_enter Tryz.func91, Tryz.ntmps91
        go_wp2_with fail
        refine (Clone_any _ _ _ (HStr.out (some ⟨g, off, none⟩) 0 (.inl (by simp))) (by simp; omega)).mono ?_
        rintro e w1 ⟨v', rfl, hO, hb1⟩
        have x1 := (hb1.cell (p := ⟨M, 0, none⟩) hMl).trans hx
        have f1 := (hb1.frozen (p := ⟨M, 0, none⟩) hMl).trans hf
        have HB1 := Lib.hid hb1
        have HO1 := Lib.hid (hO.strs (by simp; omega) (fun s hs => by have := HSz.out s (List.mem_of_mem_drop hs); unfold Fits; omega))
        have hdl : (l.drop cap).length = 0 := by simp; omega
        obtain ⟨av, cv, hv', -⟩ := hO.form
        rw [hdl] at hv'
        subst hv'
        clear hdl
        clear hO hb1 hx hf
        go_wp2_with fail
        go_ret2
        exact pop_end HS.out HA.out (HO.out.take (by omega)) HV0.out HB1.out HO1.out hMl hB hG
      · obtain rfl | rfl | rfl : n = 0 ∨ n = 1 ∨ n = 2 := by omega
        all_goals
          go_enter Tryz.func91, Tryz.ntmps91
          go_wp2_with fail
          refine (Clone_any _ _ _ (HStr.out _ _ (.inr ⟨hca, rfl, rfl⟩)) (by simp; omega)).mono ?_
          rintro e w1 ⟨v', rfl, hO, hb1⟩
          have x1 := (hb1.cell (p := ⟨M, 0, none⟩) hMl).trans hx
          have f1 := (hb1.frozen (p := ⟨M, 0, none⟩) hMl).trans hf
          have HB1 := Lib.hid hb1
          have HO1 := Lib.hid (hO.strs (by simp; omega) (fun s hs => by have := HSz.out s (List.mem_of_mem_drop hs); unfold Fits; omega))
          obtain ⟨av, cv, hv', -⟩ := hO.form
          have hdl := hO.1
          rw [List.length_drop, ha, Nat.add_sub_cancel_left] at hv'
          subst hv'
          clear hdl
          clear hO hb1 hx hf
          go_wp2_with fail
          go_ret2
          exact pop_end HS.out HA.out (HO.out.take (by omega)) HV0.out HB1.out HO1.out hMl hB hG
end Go.Proofs.YtnifkpcjpjgkeaaGreatDoor
