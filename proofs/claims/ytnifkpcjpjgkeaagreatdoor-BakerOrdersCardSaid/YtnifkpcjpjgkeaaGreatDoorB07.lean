/- An append to what the call owns, as one step of a region that draws its order. -/
import Derived.Test.YtnifkpcjpjgkeaaGreatDoorB06
import Derived.Deep.RegionLaw
namespace Go.Proofs.YtnifkpcjpjgkeaaGreatDoor
open Go.RowKit Go.Shelf

theorem step_append_own {P : Program} {ops : Array Oper} {o : Oper} {a : Go.Act} {w : World} {K : Go.Act → World → Prop} {Q : Exit → Go.Act → World → Prop} {E : Prop}
    (hg : o.guard = none) (s x : Operand) (t : TypeId)
    (ho : o.op = .call { callee := .builtin .append, args := #[s, x], argTypes := #[t, t] })
    (base : Nat) (e : TypeId) (i : TypeInfo) (z : Value) (size bytes : Nat) (ht : P.underlying t = some (.slice e)) (hi : P.info? e = some i) (hz : i.zero = some z)
    (hsize : i.size = size) (hby : i.bytes = bytes) (hzs : z.cells.size = size) (hsz : 0 < size)
    (v : Value) (n : Nat) (xs : List Value) (hs : a.eval s = v) (hown : w.ownsRow base e size v n xs)
    (ad : Addr) (m c : Nat) (news : List Value) (hx : a.eval x = .slice (some ad) m c) (hl : news.length = m * size) (hnews : ∀ j u, news[j]? = some u → w.cell? (ad.add j) = some u) (h1 : ∀ u ∈ news, u.oneCell' = true)
    (h63 : n + m ≤ maxLen) (hbytes : (n + m) * bytes ≤ 140737488355328) (hbase : base ≤ w.heap.size)
    (h : ∀ v' w', w'.ownsRow base e size v' (n + m) (xs ++ news) → w.grownBy w' v.ownBlock → K (a.put o.dst v') w') :
    if Region.wanted o (yielded ops a.tmps) = true then Oper.wp P o a w K Q else E := by
  have hw : Region.wanted o (yielded ops a.tmps) = true := by simp [Region.wanted, hg]
  rw [if_pos hw]
  exact wp_append_own w s x t ho base e i z size bytes ht hi hz hsize hby hzs hsz v n xs hs hown ad m c news hx hl hnews h1 h63 hbytes hbase (fun v' w' h1 h2 _ => h v' w' h1 h2)
/-- The cells of texts, as an append reads them. -/
theorem strs_news {w : World} {b off : Nat} {l : List ByteArray} (hc : ∀ i, i < l.length → w.cell? ⟨b, off + i, none⟩ = some (.string (l.getD i ByteArray.empty))) :
    ∀ j u, (l.map Value.string)[j]? = some u → w.cell? ((⟨b, off, none⟩ : Addr).add j) = some u := by
  intro j u h
  have e : (⟨b, off, none⟩ : Addr).add j = ⟨b, off + j, none⟩ := by unfold Addr.add; split <;> simp_all
  have hj : j < l.length := by
    rcases Nat.lt_or_ge j l.length with h' | h'
    · exact h'
    · simp [List.getElem?_eq_none h'] at h
  rw [e, hc j hj]
  simp [List.getElem?_eq_getElem hj] at h
  simp [List.getD_eq_getElem?_getD, List.getElem?_eq_getElem hj, h]
theorem strs_one' (l : List ByteArray) : ∀ u ∈ l.map Value.string, u.oneCell' = true := by
  intro u hu
  obtain ⟨s, _, rfl⟩ := List.mem_map.1 hu
  rfl
theorem cell_one (w : World) (x : Value) (t : TypeId) (g : Nat) (hg : w.heap.size = g) (j : Nat) (u : Value) (h : [x][j]? = some u) : (w.alloc (.cells #[x] t)).cell? ((⟨g, 0, none⟩ : Addr).add j) = some u := by
  subst hg
  have e : (⟨w.heap.size, 0, none⟩ : Addr).add j = ⟨w.heap.size, j, none⟩ := by unfold Addr.add; split <;> simp_all
  rw [e]
  simp only [World.cell?, (MapKept.heap_alloc w _).1]
  match j, h with
  | 0, h => simpa using h
/-- Two Two cells laid anew. -/
theorem cell_two (w : World) (x y : Value) (t : TypeId) (g : Nat) (hg : w.heap.size = g) (j : Nat) (u : Value) (h : [x, y][j]? = some u) : (w.alloc (.cells #[x, y] t)).cell? ((⟨g, 0, none⟩ : Addr).add j) = some u := by
  subst hg
  have e : (⟨w.heap.size, 0, none⟩ : Addr).add j = ⟨w.heap.size, j, none⟩ := by unfold Addr.add; split <;> simp_all
  rw [e]
  simp only [World.cell?, (MapKept.heap_alloc w _).1]
  match j, h with
  | 0, h => simpa using h
  | 1, h => simpa using h
theorem cell_under2 (w : World) (A B C : Obj) (o : Nat) : (((w.alloc A).alloc B).alloc C).drew.cell? ⟨w.heap.size, o, none⟩ = (w.alloc A).cell? ⟨w.heap.size, o, none⟩ :=
  (World.cell?_alloc_lt ((w.alloc A).alloc B) C ⟨w.heap.size, o, none⟩ (by simp; omega)).trans (World.cell?_alloc_lt (w.alloc A) B ⟨w.heap.size, o, none⟩ (by simp))
theorem cell_under3 (w : World) (A B C : Obj) (b o : Nat) (h : b < w.heap.size) : (((w.alloc A).alloc B).alloc C).drew.cell? ⟨b, o, none⟩ = w.cell? ⟨b, o, none⟩ :=
  (World.cell?_alloc_lt ((w.alloc A).alloc B) C ⟨b, o, none⟩ (by simp; omega)).trans ((World.cell?_alloc_lt (w.alloc A) B ⟨b, o, none⟩ (by simp; omega)).trans (World.cell?_alloc_lt w A ⟨b, o, none⟩ h))
end Go.Proofs.YtnifkpcjpjgkeaaGreatDoor
