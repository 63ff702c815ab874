/- trellis: on what an action stands, the loop. -/
import Derived.Test.YtnifkpcjpjgkeaaGreatDoorC12
namespace Go.Proofs.YtnifkpcjpjgkeaaGreatDoor
open Go.RowKit Go.Shelf

theorem zeroBool' (w : World) : (zeroValue 4).run Tryz.prog w = .ok (boolV false) w := by kernel_rfl
theorem atG_length {g : Gr} : (atG g).length ≤ g.sources.length + g.actions.length := by
  have h1 : ∀ (l : List ByteArray) (k : Nat), (atS l k).length ≤ k := by
    intro l k
    induction k with
    | zero => simp [atS]
    | succ k ih => rw [atS, mput_length]; split <;> omega
  have h2 : ∀ (M : List (ByteArray × Int)) (l : List Act) (k : Nat), (atA M l k).length ≤ M.length + k := by
    intro M l k
    induction k with
    | zero => simp [atA]
    | succ k ih => rw [atA, mput_length]; split <;> omega
  exact Nat.le_trans (h2 _ _ _) (Nat.add_le_add_right (h1 _ _) _)

theorem OwnS.tail_cases {w : World} {base : Nat} {gb off n cap : Nat} {s : ByteArray} {l : List ByteArray} (h : OwnS base 1 w (.slice (some ⟨gb, off, none⟩) n cap) (l.length + 1) ((s :: l).map Value.string)) :
    ∃ A C, OwnS base 1 w (.slice A l.length C) l.length (l.map Value.string) ∧ ((cap = 1 ∧ l = [] ∧ A = some ⟨gb, off, none⟩ ∧ C = 0) ∨ (cap ≠ 1 ∧ A = some ⟨gb, off + 1, none⟩ ∧ C = cap - 1)) := by
  rcases h.2 with ⟨e, _⟩ | ⟨g', off', cap', e, hg, hlt, hn, hc, hr⟩
  · cases e
  · cases e
    by_cases hcap : cap = 1
    · subst hcap
      obtain rfl : l = [] := List.eq_nil_of_length_eq_zero (by omega)
      exact ⟨_, _, ⟨rfl, .inr ⟨gb, off, 0, rfl, hg, hlt, Nat.le_refl _, by simp, by simp⟩⟩, .inl ⟨rfl, rfl, rfl, rfl⟩⟩
    · refine ⟨_, _, ⟨by simp, .inr ⟨gb, off + 1, cap - 1, rfl, hg, hlt, by omega, fun j hj => ?_, fun j hj => ?_⟩⟩, .inr ⟨hcap, rfl, rfl⟩⟩
      · have h2 := hc (1 + j) (by omega)
        rw [← Nat.add_assoc] at h2
        rw [h2, Nat.add_comm 1 j]; rfl
      · have h2 := hr (1 + j) (by omega)
        rwa [← Nat.add_assoc] at h2

def NeedsPost (g : Gr) (i : Nat) (w : World) (e : Ending) (w' : World) : Prop :=
  ∃ b N, e = .returned (.map (some b)) ∧ XMap boolV w' b N ∧ NeedL g (g.actions.getD i default).inputs N [] ∧ Below w.heap.size w w'

/-- While names are come to. -/
def NeedR (w : World) (N : List (ByteArray × Bool)) (wr : World) : Prop := Below w.heap.size w wr ∧ w.heap.size < wr.heap.size ∧ XMap boolV wr w.heap.size N
theorem NeedR.below {w wr w' : World} {N : List (ByteArray × Bool)} (h : NeedR w N wr) (hb : Below wr.heap.size wr w') : NeedR w N w' :=
  ⟨h.1.trans (hb.mono h.1.size), Nat.lt_of_lt_of_le h.2.1 hb.size, h.2.2.below hb⟩
theorem NeedR.drew {w wr : World} {N : List (ByteArray × Bool)} (h : NeedR w N wr) : NeedR w N wr.drew := ⟨h.1.drew, h.2⟩
theorem NeedR.drewN {w wr : World} {N : List (ByteArray × Bool)} (n : Nat) (h : NeedR w N wr) : NeedR w N (wr.drewN n) := ⟨below_drewN h.1, h.2⟩
theorem NeedR.put {w wr w' : World} {N N' : List (ByteArray × Bool)} (h : NeedR w N wr) (hx : XMap boolV w' w.heap.size N') (hg : wr.grownBy w' (some w.heap.size)) : NeedR w N' w' :=
  ⟨h.1.grown hg h.1.size (fun k hk => by cases hk; exact Nat.le_refl _), Nat.lt_of_lt_of_le h.2.1 hg.size, hx⟩
theorem NeedR.grown {w wr w' : World} {N : List (ByteArray × Bool)} {row : Option Nat} (h : NeedR w N wr) (hg : wr.grownBy w' row) (hr : ∀ k, row = some k → w.heap.size + 1 ≤ k) : NeedR w N w' :=
  ⟨h.1.grown hg h.1.size (fun k hk => by have := hr k hk; omega), Nat.lt_of_lt_of_le h.2.1 hg.size, h.2.2.keep (hg.block _ h.2.1 (fun e => by have := hr _ e.symm; omega))⟩
theorem OwnS.grown {w w' : World} {base size n b : Nat} {v : Value} {xs : List Value} (h : OwnS base size w v n xs) (hg : w.grownBy w' (some b)) (hb : b < base) : OwnS base size w' v n xs :=
  h.keep hg.size (fun g hgb hlt _ => hg.block g hlt (fun e => by cases e; omega))
theorem OwnS.drew {w : World} {base size n : Nat} {v : Value} {xs : List Value} (h : OwnS base size w v n xs) : OwnS base size w.drew v n xs := h
theorem OwnS.drewN {w : World} {base size n : Nat} {v : Value} {xs : List Value} (k : Nat) (h : OwnS base size w v n xs) : OwnS base size (w.drewN k) v n xs := h

set_option maxHeartbeats 2000000 in
set_option maxRecDepth 20000 in
theorem needs_any (g : Gr) (p j : Nat) (w : World) (hw : WebAt w (.pointer (some ⟨p, 0, none⟩)) g) (hj : j < g.actions.length) (h4 : ∀ a ∈ g.actions, a.inputs.length ≤ 4) (hK : (atG g).length ≤ 20) (hall : allIn (atG g) g.actions = true) :
    Calls Tryz.prog 25 #[.pointer (some ⟨p, 0, none⟩), .int .i64 (j : Int)] w (NeedsPost g j w) := by
  obtain ⟨i0, hi, hz0, hz1, hz2⟩ := info_parts infoStr
  have HW := Lib.hid hw
  have HALL := Lib.hid hall
  have H4 := Lib.hid h4
  have HK := Lib.hid hK
  obtain ⟨bw, bm, gs, ga, e, kw, -, hga, hxm⟩ := hw
  cases e
  have k1 : w.cell? ⟨p, 1, none⟩ = some ga := by rw [Lib.cell_of_heap kw]; rfl
  have k2 : w.cell? ⟨p, 2, none⟩ = some (.map (some bm)) := by rw [Lib.cell_of_heap kw]; rfl
  have HXM := Lib.hid hxm
  obtain ⟨aa, capa, rfl, ha2, ha3, -, ha5⟩ := hga
  have hbp := World.block_lt_of_cell? _ _ k1
  simp only at hbp
  clear kw hxm h4 hK hall
  obtain ⟨b, offA, rfl, hfb, hbs, hc⟩ := ha5.resolve_left (fun e => by rw [e] at hj; simp at hj)
  have HAc := Lib.hid ha5
  obtain ⟨iv, hiv, hc0, hc1, hc2⟩ := hc j hj
  have HCl := Lib.hid (fun (w0 : World) (hb : Below w.heap.size w w0) => Clone_any _ iv w0 (hiv.below hb) (by have := H4.out _ (getD_mem default hj); omega))
  have hmm := @run_makeMap Tryz.prog
  have x0 := XMap.made boolV w
  go_enter Tryz.func25, Tryz.ntmps25
  go_wp2_with fail
  refine (HCl.out _ ((Below.refl _ _).alloc (Nat.le_refl _) _)).mono ?_
  rintro e w1 ⟨v, rfl, hO, hb1⟩
  have RN := Lib.hid (show NeedR w [] w1 from ⟨((Below.refl w.heap.size w).alloc (Nat.le_refl _) _).trans (hb1.mono (by simp)), by have := hb1.size; simp at this; omega, x0.below hb1⟩)
  have HO := Lib.hid (show OwnS (w.heap.size + 1) 1 w1 v (g.actions.getD j default).inputs.length ((g.actions.getD j default).inputs.map Value.string) by simpa using hO)
  have HS := Lib.hid (NeedL.start HALL.out (getD_mem default hj))
  have HL := Lib.hid (H4.out _ (getD_mem default hj))
  generalize hac : g.actions.getD j default = ac at HO HS HL ⊢
  obtain ⟨ins, hins⟩ : ∃ ins, ac.inputs = ins := ⟨_, rfl⟩
  rw [hins] at HO HS HL
  have HIns := Lib.hid (show (g.actions.getD j default).inputs = ins by rw [hac]; exact hins)
  clear hins hac x0 hmm hb1 hO hc hc0 hc1 hc2 hiv ha5 hfb HCl
  obtain ⟨av, capv, rfl, hcapv⟩ := HO.out.form
  go_wp2_with fail
  go_loopg [6] 200 (fun gk v wr => ∃ N l, NeedR w N wr ∧ OwnS (w.heap.size + 1) 1 wr v l.length (l.map Value.string) ∧ NeedL g ins N l ∧ 5 * (20 - N.length) + l.length < gk ∧ gk ≤ 200)
  case atStart => exact ⟨[], ins, RN.out, HO.out, HS.out, by have := HL.out; simp; omega, Nat.le_refl _⟩
  case round =>
    obtain ⟨N, l, hR, hO, hN, hM, hM2⟩ := hrel
    clear RN HO HL HS
    have RN := Lib.hid hR
    have HO := Lib.hid hO
    have HN := Lib.hid hN
    have HM := Lib.hid (And.intro hM hM2)
    clear hR hO hN hM hM2
    obtain ⟨av, capv, rfl, hcapv⟩ := HO.out.form
    rcases l with _ | ⟨s, l⟩
    · go_wp2_with fail
      go_ret
      exact ⟨_, N, rfl, RN.out.2.2, by rw [HIns.out]; exact HN.out, RN.out.1⟩
    · obtain ⟨gb, off, cap, e, -, hgb, hgl, hcell⟩ := HO.out.cell (by simp)
      cases e
      have hc0 : wr.cell? ⟨gb, off, none⟩ = some (.string s) := by have := hcell 0 (by simp); simpa using this
      clear hcell
      obtain ⟨A, C, hT, hAC⟩ := OwnS.tail_cases HO.out
      rw [List.length_cons] at hcapv ⊢
      have hlk : (Instr.lookup 83 (.map (some w.heap.size)) (.string s) false).run Tryz.prog wr = .ok (boolV ((mget N s).getD false)) wr := RN.out.2.2.run_look Tryz.underlying83 Tryz.underlying9 false (zeroBool' wr) s
      have HT := Lib.hid hT
      clear hT HO
      cases hb : (mget N s).getD false
      · rw [hb] at hlk
        have hfr := HN.out.fresh hb
        have hml : (mput N s true).length = N.length + 1 := by rw [mput_length, hfr]; rfl
        have HN2 := Lib.hid HN.out.put
        have HSt := Lib.hid (HN.out.2 s (.head _))
        have HC2 := Lib.hid (HN2.out.count (mput_nodup RN.out.2.2.nodup s true))
        have HML := Lib.hid hml
        clear hb hfr hml
        obtain ⟨v, hv⟩ : ∃ v, mget (atG g) s = some v := Option.isSome_iff_exists.1 HSt.out.2
        have HV := Lib.hid hv
        rcases Int.lt_or_le v 0 with hv0 | hv0
        · have hge : decide (v ≥ 0) = false := by simp; omega
          rcases hAC with ⟨rfl, rfl, rfl, rfl⟩ | ⟨hca, rfl, rfl⟩
          all_goals
            go_wp2_with (at_mapUpdate; refine wpList_xput _ rfl _ _ _ 83 rfl 9 4 Tryz.underlying83 Tryz.underlying9 boolV w.heap.size N rfl RN.out.2.2 s rfl true rfl ?_; intro w2 hx2 hg2; have RN2 := Lib.hid (RN.out.put hx2 hg2); have HO2 := Lib.hid (HT.out.grown hg2 (Nat.lt_succ_self _)); clear hx2 hg2 hlk HT hc0 RN; have c1 := (RN2.out.1.cell (p := ⟨p, 1, none⟩) hbp).trans k1; have c2 := (RN2.out.1.cell (p := ⟨p, 2, none⟩) hbp).trans k2; have hlk := (HXM.out.below RN2.out.1).run_look Tryz.underlying76 Tryz.underlying9 0 (zeroInt w2) s; rw [hv] at hlk; replace hlk : (Instr.lookup 76 (.map (some bm)) (.string s) false).run Tryz.prog w2 = .ok (.int .i64 v) w2 := hlk; clear hv)
            go_roundg (gk - 1)
            case measure => have := HM.out; simp at this; omega
            case rel => exact ⟨_, _, RN2.out, HO2.out, HN2.out, by have h1 := HM.out; have h2 := HML.out; have h3 := HC2.out; have h4 := HK.out; simp at h1; omega, by have := HM.out; omega⟩
        · obtain ⟨k', hk', rfl, hnm⟩ := atG_get hv hv0
          obtain ⟨b0, off0, e, -, hb0, hc⟩ := HAc.out.resolve_left (fun e => by rw [e] at hj; simp at hj)
          cases e
          obtain ⟨iv', hiv', -, hd1, -⟩ := hc k' hk'
          have hmem := getD_mem default hk'
          have HL4 := Lib.hid (H4.out _ hmem)
          have HMo := Lib.hid (HN2.out.more HALL.out hmem (by rw [hnm]; exact HSt.out.1))
          generalize g.actions.getD k' default = ac' at hiv' hd1 HL4 HMo hnm
          have HIv := Lib.hid hiv'
          obtain ⟨ai, capi, rfl, -, -, -, hi5⟩ := hiv'
          have hnews : ac'.inputs.length = 0 ∨ ∃ a', ai = some a' ∧ ∀ j u, (ac'.inputs.map Value.string)[j]? = some u → w.cell? (a'.add j) = some u := by
            rcases hi5 with h0 | ⟨bi, oi, rfl, -, hbi, hci⟩
            · exact .inl (by rw [h0]; rfl)
            · exact .inr ⟨_, rfl, strs_news hci⟩
          have HNews := Lib.hid hnews
          clear hnews hi5 hc hmem hnm
          rcases hAC with ⟨rfl, rfl, rfl, rfl⟩ | ⟨hca, rfl, rfl⟩
          all_goals
            go_wp2_with (first | (at_mapUpdate; refine wpList_xput _ rfl _ _ _ 83 rfl 9 4 Tryz.underlying83 Tryz.underlying9 boolV w.heap.size N rfl RN.out.2.2 s rfl true rfl ?_; intro w2 hx2 hg2; have RN2 := Lib.hid (RN.out.put hx2 hg2); have HO2 := Lib.hid (HT.out.grown hg2 (Nat.lt_succ_self _)); clear hx2 hg2 hlk HT hc0 RN; have c1 := (RN2.out.1.cell (p := ⟨p, 1, none⟩) hbp).trans k1; have c2 := (RN2.out.1.cell (p := ⟨p, 2, none⟩) hbp).trans k2; have hlk := (HXM.out.below RN2.out.1).run_look Tryz.underlying76 Tryz.underlying9 0 (zeroInt w2) s; rw [hv] at hlk; replace hlk : (Instr.lookup 76 (.map (some bm)) (.string s) false).run Tryz.prog w2 = .ok (.int .i64 (k' : Int)) w2 := hlk; clear hv; have d1 := (RN2.out.1.cell (p := ⟨b, offA + k' * 3 + 1, none⟩) hb0).trans hd1) | (at_builtin; refine wpList_append_S rfl (.tmp 41) (.tmp 50) 22 rfl (w.heap.size + 1) 9 i0 (.string ByteArray.empty) 1 16 Tryz.underlying22 hi hz0 hz1 hz2 rfl (by decide) _ _ _ rfl HO2.out _ _ _ (ac'.inputs.map Value.string) rfl (by simp) (HNews.out.imp id (fun ⟨a', e, h⟩ => ⟨a', e, fun j u hju => (RN2.out.1.cell (World.block_lt_of_cell? _ _ (h j u hju))).trans (h j u hju)⟩)) (strs_one' _) (by have h1 := HL4.out; have h2 := HM.out; simp at h2; unfold maxLen; simp; omega) (by have h1 := HL4.out; have h2 := HM.out; simp at h2; simp; omega) (by have := RN2.out.2.1; omega) ?_; intro v3 w3 ho3 hg3; have RN3 := Lib.hid (RN2.out.grown hg3 (fun k hk => (HO2.out.block k hk).1)); have HO3 := Lib.hid ho3; clear ho3 hg3 c1 c2 d1))
            go_roundg (gk - 1)
            case measure => have := HM.out; simp at this; omega
            case rel => exact ⟨_, _, RN3.out, by simpa using HO3.out, HMo.out, by have h1 := HM.out; have h2 := HML.out; have h3 := HC2.out; have h4 := HK.out; have h5 := HL4.out; simp at h1; simp; omega, by have := HM.out; omega⟩
      · rw [hb] at hlk
        rcases hAC with ⟨rfl, rfl, rfl, rfl⟩ | ⟨hca, rfl, rfl⟩
        all_goals
          go_wp2_with fail
          go_roundg (gk - 1)
          case measure => have := HM.out; simp at this; omega
          case rel => exact ⟨N, _, RN.out, HT.out, HN.out.skip, by have := HM.out; simp at this; omega, by have := HM.out; omega⟩
end Go.Proofs.YtnifkpcjpjgkeaaGreatDoor
