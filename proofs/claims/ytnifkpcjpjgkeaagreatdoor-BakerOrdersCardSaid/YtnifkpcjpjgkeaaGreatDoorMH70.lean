/- baker: what a build under way holds; its small functions. -/
/- baker: settle. -/
/- baker: the next action; what looks for what lacks; the words of what Next hands back. -/
import Derived.Test.YtnifkpcjpjgkeaaGreatDoorMG61
import Derived.Test.YtnifkpcjpjgkeaaGreatDoorG59
/- H70. -/
namespace Go.Proofs.YtnifkpcjpjgkeaaGreatDoor
open Go.RowKit Go.Shelf

/-- A build under way: the object in block b, its map in block m; its slices lie in other blocks. -/
def BakAt (w : World) (b m : Nat) (g : Gr) (ord : List Nat) (st : Int) (T : TMap) : Prop :=
  ∃ gs ga ov, w.cell? ⟨b, 0, none⟩ = some gs ∧ w.cell? ⟨b, 1, none⟩ = some ga ∧ w.cell? ⟨b, 2, none⟩ = some (.int .i64 st) ∧ w.cell? ⟨b, 3, none⟩ = some ov ∧ w.cell? ⟨b, 4, none⟩ = some (.map (some m)) ∧ w.frozen? ⟨b, 2, none⟩ = false ∧ b ≠ m ∧
    Strs (fun k => k ≠ b ∧ k ≠ m) w gs g.sources ∧ Acts (fun k => k ≠ b ∧ k ≠ m) w ga g.actions ∧ Ints (fun k => k ≠ b ∧ k ≠ m) w ov ord ∧ XMap Res.v w m T

section
variable {w w' : World} {b m : Nat} {g : Gr} {ord : List Nat} {st : Int} {T : TMap}
theorem BakAt.lt (h : BakAt w b m g ord st T) : b < w.heap.size := by
  obtain ⟨gs, ga, ov, h0, _⟩ := h
  exact World.block_lt_of_cell? _ _ h0
theorem BakAt.keep (h : BakAt w b m g ord st T) (hk : Kept (fun k => k < w.heap.size) w w') : BakAt w' b m g ord st T := by
  have hl := h.lt
  obtain ⟨gs, ga, ov, h0, h1, h2, h3, h4, h5, h6, h7, h8, h9, h10⟩ := h
  have e := hk.block b hl hl
  have kc : ∀ j, w'.cell? ⟨b, j, none⟩ = w.cell? ⟨b, j, none⟩ := fun j => World.cell?_of_block (a := ⟨b, j, none⟩) e
  have hk2 : Kept (fun k => k ≠ b ∧ k ≠ m) w w' := ⟨hk.size, fun k _ hk' => hk.block k hk' hk'⟩
  exact ⟨gs, ga, ov, (kc 0).trans h0, (kc 1).trans h1, (kc 2).trans h2, (kc 3).trans h3, (kc 4).trans h4, (World.frozen?_of_block (a := ⟨b, 2, none⟩) e).trans h5, h6, h7.keep (fun _ h => h) hk2, h8.keep (fun _ h => h) hk2, h9.keep (fun _ h => h) hk2, h10.keep (hk.block m h10.lt h10.lt)⟩
theorem BakAt.below (h : BakAt w b m g ord st T) (hb : Below w.heap.size w w') : BakAt w' b m g ord st T := h.keep (.of_below hb)
theorem BakAt.drew (h : BakAt w b m g ord st T) : BakAt w.drew b m g ord st T := h
theorem BakAt.drewN (h : BakAt w b m g ord st T) (k : Nat) : BakAt (w.drewN k) b m g ord st T := h
theorem BakAt.put {T' : TMap} (h : BakAt w b m g ord st T) (hx : XMap Res.v w' m T') (hg : w.grownBy w' (some m)) : BakAt w' b m g ord st T' := by
  have hl := h.lt
  obtain ⟨gs, ga, ov, h0, h1, h2, h3, h4, h5, h6, h7, h8, h9, h10⟩ := h
  have e := hg.block b hl (fun e => by injection e with e; exact h6 e)
  have kc : ∀ j, w'.cell? ⟨b, j, none⟩ = w.cell? ⟨b, j, none⟩ := fun j => World.cell?_of_block (a := ⟨b, j, none⟩) e
  have hk2 : Kept (fun k => k ≠ b ∧ k ≠ m) w w' := ⟨hg.size, fun k hk hk' => hg.block k hk' (fun e => by injection e with e; exact hk.2 e)⟩
  exact ⟨gs, ga, ov, (kc 0).trans h0, (kc 1).trans h1, (kc 2).trans h2, (kc 3).trans h3, (kc 4).trans h4, (World.frozen?_of_block (a := ⟨b, 2, none⟩) e).trans h5, h6, h7.keep (fun _ h => h) hk2, h8.keep (fun _ h => h) hk2, h9.keep (fun _ h => h) hk2, hx⟩
theorem BakAt.state (h : BakAt w b m g ord st T) (st' : Int) : BakAt (w.setCell ⟨b, 2, none⟩ (.int .i64 st')) b m g ord st' T := by
  obtain ⟨gs, ga, ov, h0, h1, h2, h3, h4, h5, h6, h7, h8, h9, h10⟩ := h
  have kc : ∀ j v, j ≠ 2 → w.cell? ⟨b, j, none⟩ = some v → (w.setCell ⟨b, 2, none⟩ (.int .i64 st')).cell? ⟨b, j, none⟩ = some v := fun j v hj h => (World.cell?_setCell_other _ _ _ _ (fun e => hj (by cases e; rfl))).trans h
  have hk2 : Kept (fun k => k ≠ b ∧ k ≠ m) w (w.setCell ⟨b, 2, none⟩ (.int .i64 st')) := ⟨by simp [World.setCell], fun k hk _ => Below.heap_setCell _ _ _ _ hk.1⟩
  exact ⟨gs, ga, ov, kc 0 _ (by decide) h0, kc 1 _ (by decide) h1, World.cell?_setCell_same _ _ _ h2, kc 3 _ (by decide) h3, kc 4 _ (by decide) h4, by simpa using h5, h6, h7.keep (fun _ h => h) hk2, h8.keep (fun _ h => h) hk2, h9.keep (fun _ h => h) hk2, h10.keep (Below.heap_setCell _ _ _ _ (fun e => h6 e.symm))⟩
end

theorem State_any (b m : Nat) (g : Gr) (ord : List Nat) (st : Int) (T : TMap) (w : World) (h : BakAt w b m g ord st T) : Calls Tryz.prog 12 #[.pointer (some ⟨b, 0, none⟩)] w (fun e w' => e = .returned (.int .i64 st) ∧ w' = w) := by
  obtain ⟨gs, ga, ov, h0, h1, h2, h3, h4, -⟩ := h
  go_enter Tryz.func12, Tryz.ntmps12
  go_wp2_with fail
  go_ret
  exact ⟨rfl, rfl⟩

set_option maxHeartbeats 400000 in
set_option maxRecDepth 20000 in
theorem failed_any (s : ByteArray) (b m : Nat) (g : Gr) (ord : List Nat) (st : Int) (T : TMap) (w : World) (h : BakAt w b m g ord st T) : Calls Tryz.prog 30 #[.pointer (some ⟨b, 0, none⟩), .string s] w (fun e w' => e = .returned (.bool (failedB T s)) ∧ w' = w) := by
  obtain ⟨gs, ga, ov, h0, h1, h2, h3, h4, h5, h6, h7, h8, h9, h10⟩ := h
  have hl : (Instr.lookup 59 (.map (some m)) (.string s) false).run Tryz.prog w = .ok (Res.v ((mget T s).getD dRes)) w := h10.run_look Tryz.underlying59 Tryz.underlying9 dRes (zeroRes _) s
  have hF := Lib.hid (show failedB T s = (((mget T s).getD dRes).code != 0) from rfl)
  clear h7 h8 h9 h10
  generalize (mget T s).getD dRes = r at hl hF
  unfold Res.v at hl
  have hfd : (Instr.field 48 (.agg #[.int .i64 r.code, .string r.blob]) 0).run Tryz.prog w = .ok (.int .i64 r.code) w := by kernel_rfl
  go_enter Tryz.func30, Tryz.ntmps30
  go_wp2_with fail
  go_ret
  exact ⟨by rw [hF.out]; rfl, rfl⟩

set_option maxHeartbeats 400000 in
theorem has_any (s : ByteArray) (b m : Nat) (g : Gr) (ord : List Nat) (st : Int) (T : TMap) (w : World) (h : BakAt w b m g ord st T) : Calls Tryz.prog 19 #[.pointer (some ⟨b, 0, none⟩), .string s] w (fun e w' => e = .returned (.bool (hasB T s)) ∧ Below w.heap.size w w') := by
  obtain ⟨gs, ga, ov, h0, h1, h2, h3, h4, h5, h6, h7, h8, h9, h10⟩ := h
  have HX := Lib.hid h10
  clear h7 h8 h9 h10
  go_enter Tryz.func19, Tryz.ntmps19
  go_wp2_with (at_lookup; refine wpList_xlook2 _ rfl _ _ 59 rfl 9 48 Tryz.underlying59 Tryz.underlying9 Res.v dRes (zeroRes _) m T rfl HX.out s rfl ?_; simp only [Res.v])
  go_ret
  exact ⟨rfl, (Below.refl _ _).alloc (Nat.le_refl _) _⟩

theorem isResult_any (r : Res) (w : World) (h : r.blob.size ≤ 512) (h0 : r.code = 0 ∨ r.blob.size = 0) : Calls Tryz.prog 26 #[.agg #[.int .i64 r.code, .string r.blob]] w (fun e w' => e = .returned (.bool true) ∧ Below w.heap.size w w') := by
  by_cases hc : r.code = 0
  · have hb : (r.code == 0) = true := by rw [beq_iff_eq]; exact hc
    clear hc h0
    generalize r.code = c at hb
    go_enter Tryz.func26, Tryz.ntmps26
    go_wp2_with fail
    go_ret
    exact ⟨rfl, (Below.refl _ _).alloc (Nat.le_refl _) _⟩
  · have hb : (r.code == 0) = false := by rw [beq_eq_false_iff_ne]; exact hc
    have hs : r.blob = ⟨#[]⟩ := by
      have h1 := h0.resolve_left hc
      cases hh : r.blob with
      | mk d => rw [hh] at h1; have : d = #[] := Array.eq_empty_of_size_eq_zero h1; rw [this]
    rw [hs]
    clear hc h0 hs h
    generalize r.code = c at hb
    go_enter Tryz.func26, Tryz.ntmps26
    go_wp2_with fail
    go_ret
    exact ⟨rfl, (Below.refl _ _).alloc (Nat.le_refl _) _⟩

/-- A build that is none yet, to be begun. -/
def BakNewPost (w : World) (e : Ending) (w' : World) : Prop := e = .returned (.pointer (some ⟨w.heap.size + 1, 0, none⟩)) ∧ Below w.heap.size w w' ∧ w.heap.size + 1 < w'.heap.size ∧ w'.there (w.heap.size + 1) 0 5
theorem New_any (w : World) : Calls Tryz.prog 6 #[] w (BakNewPost w) := by
  have hmm := @run_makeMap Tryz.prog
  go_enter Tryz.func6, Tryz.ntmps6
  go_wp2_with fail
  go_ret
  have hh := (MapKept.heap_alloc (w.alloc (.map #[] 0)) (.cells #[.slice none 0 0, .slice none 0 0, .int .i64 0, .slice none 0 0, .map (some w.heap.size)] 62)).1
  refine ⟨by simp, ((Below.refl _ _).alloc (Nat.le_refl _) _).alloc (by simp) _, by simp, fun j hj => ?_⟩
  rw [Nat.zero_add]
  have e1 : (w.alloc (.map #[] 0)).heap.size = w.heap.size + 1 := by simp
  rw [e1] at hh
  rw [Lib.cell_of_heap hh, Lib.frozen_of_heap hh]
  refine ⟨?_, rfl⟩
  match j, hj with
  | 0, _ => rfl
  | 1, _ => rfl
  | 2, _ => rfl
  | 3, _ => rfl
  | 4, _ => rfl
end Go.Proofs.YtnifkpcjpjgkeaaGreatDoor
/- H71. -/
namespace Go.Proofs.YtnifkpcjpjgkeaaGreatDoor
open Go.RowKit Go.Shelf

def bmB (b m : Nat) : Nat → Prop := fun k => k = b ∨ k = m
def doneSt (g : Gr) (T : TMap) (st : Int) : Int := if T.length = g.sources.length + g.actions.length then 2 else st
def SettlePost (b m : Nat) (g : Gr) (ord : List Nat) (st : Int) (T : TMap) (w : World) (e : Ending) (w' : World) : Prop :=
  e = .returned (.tuple #[]) ∧ BakAt w' b m g ord (doneSt g (settleF g.actions ord T) st) (settleF g.actions ord T) ∧ Turn (bmB b m) w w'
theorem settleF_snoc (l : List Act) (ord : List Nat) (T : TMap) (k : Nat) (h : k < ord.length) : settleF l (ord.take (k + 1)) T = settle1 l (settleF l (ord.take k) T) (ord.getD k 0) := by
  unfold settleF
  rw [List.take_succ_eq_append_getElem h, List.foldl_append]
  simp [List.getD_eq_getElem?_getD, List.getElem?_eq_getElem h]
def SetR (w : World) (b m : Nat) (g : Gr) (ord : List Nat) (st : Int) (T : TMap) (wr : World) : Prop := BakAt wr b m g ord st T ∧ Turn (bmB b m) w wr
theorem SetR.below {w wr w' : World} {b m : Nat} {g : Gr} {ord : List Nat} {st : Int} {T : TMap} (h : SetR w b m g ord st T wr) (hb : Below wr.heap.size wr w') : SetR w b m g ord st T w' := ⟨h.1.below hb, h.2.trans (Turn.of_below hb)⟩

set_option maxHeartbeats 3000000 in
set_option maxRecDepth 20000 in
theorem settle_any (b m : Nat) (g : Gr) (ord : List Nat) (st : Int) (T : TMap) (w : World) (h : BakAt w b m g ord st T) (hord : ∀ i ∈ ord, i < g.actions.length) (hl : g.sources.length ≤ 100 ∧ g.actions.length ≤ 100 ∧ ord.length ≤ 100) :
    Calls Tryz.prog 17 #[.pointer (some ⟨b, 0, none⟩)] w (SettlePost b m g ord st T w) := by
  have R0 := Lib.hid (show SetR w b m g ord st (settleF g.actions (ord.take 0) T) w from ⟨h, Turn.refl _ _⟩)
  have HOrd := Lib.hid hord
  obtain ⟨l1, l2, l3⟩ := hl
  obtain ⟨gs, ga, ov, -, -, -, h3, -, -, -, -, -, h9, -⟩ := h
  obtain ⟨oa, oc, rfl, ho2, ho3, ho5⟩ := h9
  have HO5 := Lib.hid ho5
  clear ho5 hord
  go_enter Tryz.func17, Tryz.ntmps17
  go_wp2_with fail
  go_loopw [10] (fun i wr => ∃ k : Nat, k ≤ ord.length ∧ i = .int .i64 (k : Int) ∧ SetR w b m g ord st (settleF g.actions (ord.take k) T) wr) (fun i _ => ord.length - (intOf i).toNat)
  case atStart => exact ⟨0, Nat.zero_le _, rfl, R0.out⟩
  case round =>
    obtain ⟨k, hk, rfl, hR⟩ := hrel
    clear R0
    have RS := Lib.hid hR
    clear hR
    by_cases hlt : k < ord.length
    · obtain ⟨ob, oo, rfl, hfo, hbo, hco⟩ := HO5.out.resolve_left (fun e => by rw [e] at hlt; simp at hlt)
      have d0 := (World.cell?_of_block (a := ⟨ob, oo + k, none⟩) (RS.out.2.block ob hbo (fun h => h.elim hfo.1 hfo.2))).trans (hco k hlt)
      have hst := settleF_snoc g.actions ord T k hlt
      have hil := HOrd.out _ (getD_mem 0 hlt)
      generalize ord.getD k 0 = i at d0 hil hst
      have HST := Lib.hid hst
      obtain ⟨⟨gs1, ga1, ov1, -, c1, -, -, c4, -, c6, -, c8, -, c10⟩, -⟩ := RS.out
      obtain ⟨aa, ca, rfl, -, -, -, a5⟩ := c8
      obtain ⟨ab, ao, rfl, hfa, hba, hca⟩ := a5.resolve_left (fun e => by rw [e] at hil; simp at hil)
      obtain ⟨iv, hiv, hc0, hc1, hc2⟩ := hca i hil
      have HX := Lib.hid c10
      generalize hT : settleF g.actions (ord.take k) T = Tk at RS HST HX c10
      have HTk := Lib.hid hT
      have hse : settle1 g.actions Tk i = if (g.actions.getD i default).inputs.any (failedB Tk) then mput Tk (g.actions.getD i default).name ⟨34, ByteArray.empty⟩ else Tk := rfl
      have HSE := Lib.hid hse
      generalize g.actions.getD i default = ac at hc0 hc1 hc2 hiv HSE
      have q1 : (0 : Int) ≤ (i : Int) := by omega
      have q2 : (i : Int) < (g.actions.length : Int) := by omega
      have HIv := Lib.hid hiv
      obtain ⟨ai, capi, rfl, -⟩ := hiv
      clear hst hT hse hco hca a5 hfo hfa c10
      have HCf := Lib.hid (fun (w0 : World) (hb : Below wr.heap.size wr w0) => ContainsFunc_str ac.inputs (.slice ai ac.inputs.length capi) 30 #[.pointer (some ⟨b, 0, none⟩)] #[] (failedB Tk) w0 (HIv.out.below hb) (enters_of Tryz.func30 (by kernel_rfl) rfl)
        (fun s _ w1 hb1 => (failed_any s b m g ord st Tk w1 ((RS.out.1.below hb).below hb1)).mono fun e w' h => ⟨h.1, h.2 ▸ hb1⟩))
      go_wp2_with fail
      refine (HCf.out _ ((Below.refl _ _).alloc (Nat.le_refl _) _)).mono ?_
      rintro e w1 ⟨rfl, hb1⟩
      have RS1 := Lib.hid (RS.out.below (((Below.refl _ _).alloc (Nat.le_refl _) (.cells #[.string ac.name, .slice ai ac.inputs.length capi, .string ac.code] 55)).trans (hb1.mono (by simp))))
      have HBx := Lib.hid ((hb1.block wr.heap.size (by simp)).trans (MapKept.heap_alloc wr _).1)
      clear d0 c1 c4 hc0 hc1 hc2 HIv HCf RS HX hb1
      generalize wr.heap.size = bx at HBx ⊢
      cases hf : ac.inputs.any (failedB Tk)
      · have HS2 := Lib.hid (show settleF g.actions (ord.take (k + 1)) T = Tk by rw [HST.out, HSE.out, hf]; rfl)
        clear hf
        go_wp2_with fail
        first
          | exact ⟨⟨k + 1, by omega, by go_num, by rw [HS2.out]; exact RS1.out⟩, by simp [intOf]; omega⟩
          | (go_roundw
             case rel => exact ⟨k + 1, by omega, by go_num, by rw [HS2.out]; exact RS1.out⟩
             case measure => simp [intOf]; omega)
      · have HS2 := Lib.hid (show settleF g.actions (ord.take (k + 1)) T = mput Tk ac.name ⟨34, ByteArray.empty⟩ by rw [HST.out, HSE.out, hf]; rfl)
        clear hf
        obtain ⟨⟨gs2, ga2, ov2, -, -, -, -, c4, -, c6', -, -, -, c10⟩, -⟩ := RS1.out
        have HX := Lib.hid c10
        have n0 := (Lib.cell_of_heap HBx.out 0).trans (show _ = some (Value.string ac.name) from rfl)
        clear c10
        go_wp2_with fail
        go_still_tail 8, (by kernel_rfl)
        change wpList _ _ _ _ _ (World.drew _)
        go_wp2_with (at_mapUpdate; refine wpList_xput _ rfl _ _ _ 59 rfl 9 48 Tryz.underlying59 Tryz.underlying9 Res.v m Tk rfl (show XMap Res.v w1.drew m Tk from HX.out) ac.name rfl ⟨34, ByteArray.empty⟩ rfl ?_; intro w4 hx4 hg4; have HX4 := Lib.hid hx4; have HG4 := Lib.hid hg4; clear hx4 hg4 c4 n0)
        have RS2 := Lib.hid (show SetR w b m g ord st (mput Tk ac.name ⟨34, ByteArray.empty⟩) w4 from ⟨RS1.out.1.drew.put HX4.out HG4.out, RS1.out.2.drew.grown HG4.out (fun k hk => by injection hk with hk; exact .inl (.inr hk.symm))⟩)
        clear HX4 HG4 HX
        first
          | exact ⟨⟨k + 1, by omega, by go_num, by rw [HS2.out]; exact RS2.out⟩, by simp [intOf]; omega⟩
          | (go_roundw
             case rel => exact ⟨k + 1, by omega, by go_num, by rw [HS2.out]; exact RS2.out⟩
             case measure => simp [intOf]; omega)
    · obtain rfl : k = ord.length := by omega
      have RT := RS.out
      rw [List.take_length] at RT
      have HRT := Lib.hid RT
      clear RT RS
      generalize hT : settleF g.actions ord T = T1 at HRT
      have HT := Lib.hid hT
      clear hT
      obtain ⟨⟨gs1, ga1, ov1, c0, c1, c2, -, c4, c5, -, c7, c8, -, c10⟩, -⟩ := HRT.out
      obtain ⟨sa, sc, rfl, -⟩ := c7
      obtain ⟨aa, ca, rfl, -⟩ := c8
      have hlen := fun nq => (show XMap Res.v (wr.drewN nq) m T1 from c10).run_len (P := Tryz.prog) Tryz.underlying59 3
      clear c10
      have hcap : (g.sources.length : Int) + g.actions.length ≤ 1000 := by omega
      go_wp2_with fail
      go_quiet (fail)
      have HR' := Lib.hid (show SetR w b m g ord st T1 (wr.drewN nq) from ⟨HRT.out.1.drewN nq, HRT.out.2.drewN nq⟩)
      clear hlen
      by_cases hq : T1.length = g.sources.length + g.actions.length
      · have hb : ((T1.length : Int) == (g.sources.length : Int) + g.actions.length) = true := by rw [beq_iff_eq]; omega
        have HD := Lib.hid (show doneSt g T1 st = 2 by unfold doneSt; rw [if_pos hq])
        clear hq
        rw [hb]
        clear hb
        have cc2 := (show (wr.drewN nq).cell? ⟨b, 2, none⟩ = some (.int .i64 st) from c2)
        have cc5 := (show (wr.drewN nq).frozen? ⟨b, 2, none⟩ = false from c5)
        generalize wr.drewN nq = w5 at HR' cc2 cc5 ⊢
        clear c0 c1 c2 c4 c5 HRT
        go_wp2_with fail
        go_end0
        refine ⟨rfl, ?_, ?_⟩
        · rw [HT.out, HD.out]; exact HR'.out.1.state 2
        · exact HR'.out.2.setCell (p := ⟨b, 2, none⟩) (.inl (.inl rfl)) _
      · have hb : ((T1.length : Int) == (g.sources.length : Int) + g.actions.length) = false := by rw [beq_eq_false_iff_ne]; omega
        have HD := Lib.hid (show doneSt g T1 st = st by unfold doneSt; rw [if_neg hq])
        clear hq
        rw [hb]
        clear hb
        go_wp2_with fail
        go_end0
        refine ⟨rfl, ?_, ?_⟩
        · rw [HT.out, HD.out]; exact HR'.out.1
        · exact HR'.out.2
end Go.Proofs.YtnifkpcjpjgkeaaGreatDoor
/- H72. -/
namespace Go.Proofs.YtnifkpcjpjgkeaaGreatDoor
open Go.RowKit Go.Shelf

theorem step_append_S {P : Program} {ops : Array Oper} {o : Oper} {a : Go.Act} {w : World} {K : Go.Act → World → Prop} {Q : Exit → Go.Act → World → Prop} {E : Prop}
    (hg : o.guard = none) (s x : Operand) (t : TypeId)
    (ho : o.op = .call { callee := .builtin .append, args := #[s, x], argTypes := #[t, t] })
    (base : Nat) (e : TypeId) (i : TypeInfo) (z : Value) (size bytes : Nat) (ht : P.underlying t = some (.slice e)) (hi : P.info? e = some i) (hz : i.zero = some z)
    (hsize : i.size = size) (hby : i.bytes = bytes) (hzs : z.cells.size = size) (hsz : 0 < size)
    (v : Value) (n : Nat) (xs : List Value) (hs : a.eval s = v) (hown : OwnS base size w v n xs)
    (ad : Option Addr) (m c : Nat) (news : List Value) (hx : a.eval x = .slice ad m c) (hl : news.length = m * size) (hnews : m = 0 ∨ ∃ a', ad = some a' ∧ ∀ j u, news[j]? = some u → w.cell? (a'.add j) = some u) (h1 : ∀ u ∈ news, u.oneCell' = true)
    (h63 : n + m ≤ maxLen) (hbytes : (n + m) * bytes ≤ 140737488355328) (hbase : base ≤ w.heap.size)
    (h : ∀ v' w', OwnS base size w' v' (n + m) (xs ++ news) → w.grownBy w' v.ownBlock → K (a.put o.dst v') w') :
    if Region.wanted o (yielded ops a.tmps) = true then Oper.wp P o a w K Q else E := by
  have hw : Region.wanted o (yielded ops a.tmps) = true := by simp [Region.wanted, hg]
  rw [if_pos hw]
  obtain ⟨v', w', hr, h2, h3⟩ := run_append_S (P := P) (w := w) t o.type e i z size bytes ht hi hz hsize hby hzs hsz base v n xs hown ad m c news hl hnews h1 h63 hbytes hbase
  unfold Oper.wp execOp
  simp only [ho, resolve, invoke, builtin, Sem.run_bind, Sem.run_pure, Result.andThen_ok, List.map_toArray, List.map_cons, List.map_nil, hs, hx, hr]
  exact h _ _ h2 h3

set_option maxHeartbeats 400000 in
theorem lacks_any (s : ByteArray) (bx b m : Nat) (g : Gr) (ord : List Nat) (st : Int) (T : TMap) (w : World) (h : BakAt w b m g ord st T) (hx : w.cell? ⟨bx, 0, none⟩ = some (.pointer (some ⟨b, 0, none⟩))) :
    Calls Tryz.prog 18 #[.string s, .pointer (some ⟨bx, 0, none⟩)] w (fun e w' => e = .returned (.bool (!hasB T s)) ∧ Below w.heap.size w w') := by
  have H := Lib.hid h
  clear h
  go_enter Tryz.func18, Tryz.ntmps18
  go_wp2_with fail
  refine (has_any s b m g ord st T w H.out).mono ?_
  rintro e w1 ⟨rfl, hb1⟩
  go_wp2_with fail
  go_ret
  exact ⟨rfl, hb1⟩

/-- The cells of a job. -/
def JobAt (B : Nat) (g : Gr) (T : TMap) (i : Nat) (vs : List Value) (w : World) : Prop :=
  vs[0]? = some (.string (g.actions.getD i default).name) ∧ vs[1]? = some (.int .i64 (i : Int)) ∧ ∃ iv, vs[3]? = some iv ∧ Ress (fun k => B ≤ k) w iv (resOf T (g.actions.getD i default).inputs)
def Cells36 (vs : List Value) : Prop := vs.length = 36 ∧ ∀ v ∈ vs, v.oneCell' = true
def NextPost (b m : Nat) (g : Gr) (ord : List Nat) (st : Int) (T : TMap) (w : World) (e : Ending) (w' : World) : Prop :=
  Below w.heap.size w w' ∧ ∃ vs : List Value, Cells36 vs ∧
    ((st = 1 ∧ ∃ i, nextP g.actions T ord = some i ∧ e = .returned (.tuple #[.agg vs.toArray, .bool true]) ∧ JobAt w.heap.size g T i vs w') ∨ ((st ≠ 1 ∨ nextP g.actions T ord = none) ∧ e = .returned (.tuple #[.agg vs.toArray, .bool false])))
theorem nextP_drop (l : List Act) (T : TMap) (ord : List Nat) (k : Nat) (h : k < ord.length) : nextP l T (ord.drop k) = if okB l T (ord.getD k 0) then some (ord.getD k 0) else nextP l T (ord.drop (k + 1)) := by
  unfold nextP
  rw [List.drop_eq_getElem_cons h, List.find?_cons]
  simp only [List.getD_eq_getElem?_getD, List.getElem?_eq_getElem h, Option.getD_some]
  cases okB l T ord[k] <;> rfl
theorem nextP_mem {l : List Act} {T : TMap} {ord : List Nat} {i : Nat} (h : nextP l T ord = some i) : i ∈ ord ∧ okB l T i = true := ⟨List.mem_of_find?_eq_some h, by have := List.find?_some h; exact this⟩
end Go.Proofs.YtnifkpcjpjgkeaaGreatDoor
