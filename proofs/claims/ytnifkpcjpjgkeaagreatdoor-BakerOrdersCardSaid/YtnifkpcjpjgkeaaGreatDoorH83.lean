/- Whatever plan and whatever results come in, the law BakerOrders returns true, and what came in reads as it did. Conditions: the row's own (the six listed tables of the library and of the program read, when the call begins, as their initialisers lay them; the card ties them to the program's text). -/
import Derived.Test.YtnifkpcjpjgkeaaGreatDoorCards
import Derived.Test.YtnifkpcjpjgkeaaGreatDoorTie
import Derived.Test.YtnifkpcjpjgkeaaGreatDoorH80
import Derived.Test.YtnifkpcjpjgkeaaGreatDoorH81
import Derived.Test.YtnifkpcjpjgkeaaGreatDoorH82
import Derived.WalkKit
import Derived.ProofKit
import Derived.OpenShut
import Derived.Stop.LaidErr
import Derived.Deep.DeepHandedRow
import Derived.Lib.LaidTab
import Derived.Lib.AppendIntMem
namespace Go.Proofs.YtnifkpcjpjgkeaaGreatDoor.bakerOrders
open Go.ChangeShapes Go.WideShapes Go.ChangeAt Go.RowKit

theorem own : ownKnob Tryz.prog.godebug = none := by kernel_rfl
theorem laidOut : laidOutB Tryz.prog = true := by kernel_rfl

/-! ### What the row's list gives. -/
def num1 : DataW Unit → Int
  | .lit (.int _ n) => n
  | _ => 0
def nums : DataW Unit → List Int
  | .agg l => l.map num1
  | _ => []
def wordsTab : List Int := nums Rows.laid_apiary_stamp_words
theorem words_eq : (Rows.laid_apiary_stamp_words : DataW Unit) = Lib.tabData .u32 wordsTab := by kernel_rfl
theorem pow_eq : (Rows.laid_internal_strconv_uint64pow10 : DataW Unit) = Lib.tabData .u64 Lib.pow10Tab := by kernel_rfl
theorem gWords : Tryz.prog.globalNamed "apiary/stamp.words" = some 0 := by kernel_rfl
theorem gWordsT : (Tryz.prog.globals[0]?).map (·.type) = some 152 := by kernel_rfl
theorem gPow : Tryz.prog.globalNamed "internal/strconv.uint64pow10" = some 2 := by kernel_rfl
theorem gPowT : (Tryz.prog.globals[2]?).map (·.type) = some 201 := by kernel_rfl

theorem lists (W : World) (h : laidMetH Tryz.prog Rows.bakerOrdersRow.laid W) : laidMet Tryz.prog Rows.bakerOrdersRow.laid W := h

theorem pow_is {W : World} (h : laidMetH Tryz.prog Rows.bakerOrdersRow.laid W) : Lib.TabIs Tryz.prog W "internal/strconv.uint64pow10" .u64 Lib.pow10Tab := by
  have h2 : laidMet Tryz.prog (("internal/strconv.uint64pow10", Rows.laid_internal_strconv_uint64pow10) :: _) W := (lists W h).tail.tail
  rw [pow_eq] at h2
  exact Lib.tabIs_of_head gPow gPowT Tryz.underlying201 Tryz.underlying122 (by kernel_rfl) (by kernel_rfl) h2
theorem words_is {W : World} (h : laidMetH Tryz.prog Rows.bakerOrdersRow.laid W) : Lib.TabIs Tryz.prog W "apiary/stamp.words" .u32 wordsTab := by
  have h2 : laidMet Tryz.prog (("apiary/stamp.words", Rows.laid_apiary_stamp_words) :: _) W := (lists W h).tail.tail.tail.tail
  rw [words_eq] at h2
  exact Lib.tabIs_of_head gWords gWordsT Tryz.underlying152 Tryz.underlying115 (by kernel_rfl) (by kernel_rfl) h2
theorem laidB_of {W : World} (h : laidMetH Tryz.prog Rows.bakerOrdersRow.laid W) : LaidB W.heap.size W := by
  have hw : WordsAt W := fun j hj => ⟨_, (words_is h).cell gWords j (by rw [show wordsTab.length = 64 by kernel_rfl]; exact hj)⟩
  exact ⟨hw, hw.lt, Nat.le_refl _, Lib.tabBelow_of_tabIs (pow_is h)⟩

section
variable {H : Type} {enc : TypeId × Value → H} {P : Program}
/-- The row's last step where below the heap's old end nothing has turned. -/
theorem post_of_below {f : Func} {s : ChangeSpec} {apart fresh handsOn again : Bool} {W W' : World} {args : Array Value} {v : Value} {ds gs : List (DataW H)} {before pa pv : List MemPlace}
    (hW : DataW.Whole enc P f.params.toList s.vars apart W args.toList ds gs before)
    (hres : ∀ (b : Nat) (sp : Nat → Bool) (hd : Bool), DataW.TrodAll enc P W' b sp hd f.resultTypes.toList (v.resultList f.resultTypes.size) (s.fn H (ds ++ gs)).results [])
    (hargs : ∀ sp : Nat → Bool, (∀ p ∈ before, sp p.block = true) → DataW.TrodAll enc P W' 0 sp true f.params.toList args.toList (s.fn H (ds ++ gs)).args pa)
    (hvars : ∀ sp : Nat → Bool, (∀ p ∈ before, sp p.block = true) → DataW.TrodVars enc P W' sp s.vars (s.fn H (ds ++ gs)).vars pv)
    (hps : before = pa ++ pv) (hb : Below W.heap.size W W')
    (hok : ∀ (j : Nat) (t : TypeId) (r : Value), f.resultTypes[j]? = some t → (v.resultList f.resultTypes.size)[j]? = some r → Value.okWide P W' .any 0 t r) :
    s.post enc P f apart fresh handsOn again W args v W' := by
  have hlt : ∀ p ∈ before, p.block < W.heap.size := fun p hp => hW.lt p hp
  have hold : ∀ p ∈ before, (fun b => decide (b < W.heap.size)) p.block = true := fun p hp => by simpa using hlt p hp
  refine ⟨ds, gs, before, [], pa, pv, hW, hres _ _ _, hargs _ hold, hvars _ hold, World.keptBut_mono (fun p hp => ⟨hp, ?_⟩) (hb.frame (· ∈ before)), fun _ => ?_⟩
  · rw [hps, List.mem_append] at hp
    exact Or.inr hp
  · obtain ⟨_, _, _, _, _, hz, hn⟩ := hW
    refine ⟨hok, _, _, ([] ++ pa) ++ pv, ⟨[] ++ pa, pv, trodAll_append (hargs _ (fun _ _ => rfl)) (hres _ _ _), hvars _ (fun _ _ => rfl), rfl, ?_, ?_⟩, ?_⟩
    · intro b off hp
      have hin : MemPlace.cell b off ∈ before := by rw [hps]; simpa using hp
      rw [hb.frozen (hlt _ hin)]
      exact hz b off hin
    · intro ha
      have := hn ha
      rw [hps] at this
      simpa using this
    · intro p hp _
      rw [hps]
      simpa using hp
end

section
variable {H : Type} {enc : TypeId × Value → H} {w : World} {base : Nat}
theorem c28 : Tryz.prog.cellsOf 28 = 3 := by kernel_rfl
set_option maxRecDepth 100000 in
theorem plan_of {v : Value} {d : DataW H} {p : List MemPlace} {r : Reach} {b0 : Nat} (hv : Value.okWide Tryz.prog w r b0 28 v) (h : DataW.Trod enc Tryz.prog w base (fun _ => true) true 28 v d p) (hw : Wt Tryz.prog 28 d) :
    ∃ gs ga lv ss acs ls, v = .agg #[gs, ga, lv] ∧ Strs anyB w gs ss ∧ Acts anyB w ga acs ∧ Srcs anyB w lv ls := by
  obtain ⟨cs, rfl, hsz⟩ := okWide_struct Tryz.underlying28 hv
  obtain ⟨l⟩ := cs
  have hsz3 : l.length = 3 := (show (Array.mk l).size = Tryz.prog.cellsOf 28 from hsz).trans c28
  match l, hsz3 with
  | [c0, c1, c2], _ =>
    obtain ⟨fuel, hf⟩ := h
    obtain ⟨xs, n, _, hx, _, hlen, hg⟩ := DataW.trod_struct Tryz.underlying28 hf
    match xs, hlen with
    | [y0, y1], _ =>
      simp only [Prod.mk.injEq] at hx
      obtain ⟨rfl, _⟩ := hx
      have k0 : DataW.trod enc Tryz.prog w base (fun _ => true) true n 25 [c0, c1] = some y0 := by
        have e : DataW.trod enc Tryz.prog w base (fun _ => true) true n 25 (([c0, c1, c2].drop 0).take (Tryz.prog.cellsOf 25)) = some y0 := hg 0 _ rfl
        rw [show Tryz.prog.cellsOf 25 = 2 by kernel_rfl] at e
        exact e
      have k1 : DataW.trod enc Tryz.prog w base (fun _ => true) true n 26 [c2] = some y1 := by
        have e : DataW.trod enc Tryz.prog w base (fun _ => true) true n 26 (([c0, c1, c2].drop 2).take (Tryz.prog.cellsOf 26)) = some y1 := hg 1 _ rfl
        rw [show Tryz.prog.cellsOf 26 = 1 by kernel_rfl] at e
        exact e
      have w0 : Wt Tryz.prog 25 y0.1 := hw.agg Tryz.underlying28 0 _ _ rfl rfl
      have w1 : Wt Tryz.prog 26 y1.1 := hw.agg Tryz.underlying28 1 _ _ rfl rfl
      obtain ⟨zs, m, _, hz, _, hzl, hh⟩ := DataW.trod_struct Tryz.underlying25 k0
      match zs, hzl with
      | [z0, z1], _ =>
        have q0 : DataW.trod enc Tryz.prog w base (fun _ => true) true m 22 [c0] = some z0 := by
          have e : DataW.trod enc Tryz.prog w base (fun _ => true) true m 22 (([c0, c1].drop 0).take (Tryz.prog.cellsOf 22)) = some z0 := hh 0 _ rfl
          rw [show Tryz.prog.cellsOf 22 = 1 by kernel_rfl] at e
          exact e
        have q1 : DataW.trod enc Tryz.prog w base (fun _ => true) true m 23 [c1] = some z1 := by
          have e : DataW.trod enc Tryz.prog w base (fun _ => true) true m 23 (([c0, c1].drop 1).take (Tryz.prog.cellsOf 23)) = some z1 := hh 1 _ rfl
          rw [show Tryz.prog.cellsOf 23 = 1 by kernel_rfl] at e
          exact e
        rw [hz] at w0
        have v0 : Wt Tryz.prog 22 z0.1 := w0.agg Tryz.underlying25 0 _ _ rfl rfl
        have v1 : Wt Tryz.prog 23 z1.1 := w0.agg Tryz.underlying25 1 _ _ rfl rfl
        have hnm : ∀ (n : Nat) (u : Value) (y : DataW H × List MemPlace), DataW.trod enc Tryz.prog w base (fun _ => true) true n 37 [u] = some y → Wt Tryz.prog 37 y.1 → ∃ s, u = .string s ∧ Fits s :=
          fun n u y h hw => named_of Tryz.underlying37 (by kernel_rfl) Tryz.underlying9 h hw
        obtain ⟨ss, hs⟩ := strs_of Tryz.underlying22 Tryz.underlying9 (by kernel_rfl) (of_decide_eq_true (by kernel_rfl)) q0 v0
        obtain ⟨acs, ha⟩ := acts_of Tryz.underlying23 Tryz.underlying55 (by kernel_rfl) (by kernel_rfl) (of_decide_eq_true (by kernel_rfl)) hnm rfl Tryz.underlying22 Tryz.underlying9 (by kernel_rfl) (of_decide_eq_true (by kernel_rfl)) Tryz.underlying9 q1 v1
        obtain ⟨ls, hl⟩ := srcs_of Tryz.underlying26 Tryz.underlying58 (by kernel_rfl) (by kernel_rfl) (of_decide_eq_true (by kernel_rfl)) hnm Tryz.underlying9 k1 w1
        exact ⟨c0, c1, c2, ss, acs, ls, rfl, hs, ha, hl⟩
end

set_option maxRecDepth 100000 in
/-- For every argument and every world that holds the tables. -/
theorem contract (H : Type) (enc : TypeId × Value → H) (W : World) (base : Nat) (args : Array Value) (ds gs : List (DataW H)) (before : List MemPlace)
    (hval : ∀ (j : Nat) t v, Tryz.f3.params[j]? = some t → args[j]? = some v → Value.okWide Tryz.prog W .any base t v)
    (hW : DataW.Whole enc Tryz.prog Tryz.f3.params.toList Rows.bakerOrdersSpec.vars false W args.toList ds gs before)
    (hz : (DataW.weightsEach Tryz.prog (Tryz.f3.params.toList ++ ((OpenSpec.ofChange Rows.bakerOrdersSpec).bare.plain.varTypes Tryz.prog)) (ds ++ gs)).all (· ≤ reachBytes) = true)
    (hL : laidMetH Tryz.prog Rows.bakerOrdersRow.laid W) :
    Calls Tryz.prog 3 args W fun e W' => ∃ v, e = .returned v ∧ Rows.bakerOrdersSpec.post enc Tryz.prog Tryz.f3 false true false false W args v W' := by
  have hW' := hW
  obtain ⟨p, q, hA0, hV, rfl, hfz, hnd⟩ := hW
  have hA : DataW.TrodAll enc Tryz.prog W 0 (fun _ => true) true Tryz.f3.params.toList args.toList ds p := hA0
  rw [Tryz.params3] at hA hval hz
  obtain ⟨v0, vs0, d0, ds0, p0, q0, hargs, rfl, rfl, h0, r0⟩ := trodAll_cons hA
  obtain ⟨v1, vs1, d1, ds1, p1, q1, rfl, rfl, rfl, h1, r1⟩ := trodAll_cons r0
  obtain ⟨rfl, rfl, rfl⟩ := trodAll_nil r1
  obtain rfl : args = #[v0, v1] := by cases args; simp_all
  obtain ⟨rfl, rfl⟩ := trodVars_none hV
  have w0 : Wt Tryz.prog 28 d0 := fun n hn => by simpa using List.all_eq_true.1 hz n (DataW.weights_mem_each (j := 0) rfl rfl n hn)
  have w1 : Wt Tryz.prog 29 d1 := fun n hn => by simpa using List.all_eq_true.1 hz n (DataW.weights_mem_each (j := 1) rfl rfl n hn)
  obtain ⟨gv, ga, lv, ss, acs, ls, rfl, hs, ha, hl⟩ := plan_of (hval 0 28 v0 rfl rfl) h0 w0
  have h1k := h1
  obtain ⟨fuel, h1⟩ := h1
  obtain ⟨a1, n1, m1, rfl⟩ := okWide_slice Tryz.underlying29 (hval 1 29 v1 rfl rfl)
  obtain ⟨rs, hr⟩ := ress_of Tryz.underlying29 Tryz.underlying48 (by kernel_rfl) (by kernel_rfl) (of_decide_eq_true (by kernel_rfl)) Tryz.underlying34 Tryz.underlying9 h1 w1
  clear hA0
  have hlt : ∀ x ∈ (p0 ++ (p1 ++ [])) ++ [], x.block < W.heap.size := fun x hx => hW'.lt x hx
  refine (law_any awake_any ⟨ss, acs⟩ ls rs gv ga lv _ W hs ha hl hr (laidB_of hL)).mono fun e W' ⟨he, hb⟩ => ?_
  subst he
  refine ⟨_, rfl, post_of_below (pa := p0 ++ (p1 ++ [])) (pv := []) hW' (fun _ _ _ => trodAll_cons_mk (shut_bool Tryz.underlying4 _) trodAll_mk0) (fun sp hsp => ?_) (fun _ _ => rfl) rfl hb
    (ok_one (by kernel_rfl) rfl (okWide_bool_mk Tryz.underlying4 _))⟩
  rw [Tryz.params3]
  exact trodAll_cons_mk (WideElems.Trod_stays laidOut (by kernel_rfl) (of_decide_eq_true (by kernel_rfl)) h0 (fun x hx => hb.same (hlt x (by simp [hx]))) (fun x hx => hsp x (by simp [hx])))
    (trodAll_cons_mk (WideElems.Trod_stays laidOut (by kernel_rfl) (of_decide_eq_true (by kernel_rfl)) h1k (fun x hx => hb.same (hlt x (by simp [hx]))) (fun x hx => hsp x (by simp [hx]))) trodAll_mk0)

/-! ### A world for the witness: the settled one, each listed table holding what its initialiser lays. -/
def lit1 : DataW Unit → List Value
  | .lit (.int k n) => [.int k n]
  | _ => []
def lits2 : DataW Unit → List Value
  | .agg l => l.flatMap lit1
  | _ => []
def lits3 : DataW Unit → List Value
  | .agg l => l.flatMap lits2
  | _ => []
def put (l : List Value) : Obj → Obj
  | .cells _ t frozen => .cells l.toArray t frozen
  | o => o
noncomputable def laidWorld (os : Os) : World :=
  { World.holding Tryz.prog os ⟨#[], #[], []⟩ with heap := ((((((World.holding Tryz.prog os ⟨#[], #[], []⟩).heap.modify 0 (put (lits2 Rows.laid_apiary_stamp_words))).modify 2 (put (lits2 Rows.laid_internal_strconv_uint64pow10))).modify 3 (put (lits2 Rows.laid_unicode_utf8_first))).modify 4 (put (lits3 Rows.laid_unicode_utf8_acceptRanges))).modify 5 (put (lits2 Rows.laid_math_bits_deBruijn32tab))).modify 6 (put (lits2 Rows.laid_math_bits_deBruijn64tab)) }
def noArgs : Array Value := #[.agg #[.slice none 0 0, .slice none 0 0, .slice none 0 0], .slice none 0 0]
set_option maxRecDepth 100000 in
theorem laid_met (os : Os) : laidMet Tryz.prog Rows.bakerOrdersRow.laid ((laidWorld os).forCall (fun _ _ => 0) ⟨#[], noArgs, []⟩).memory :=
  laidMet_of_run' 8 (by kernel_rfl) (by kernel_rfl)
theorem reads (os : Os) {H : Type} (enc : TypeId × Value → H) : ∃ places, DataW.whole enc Tryz.prog ((laidWorld os).forCall (fun _ _ => 0) ⟨#[], noArgs, []⟩).memory Tryz.f3.params.toList Rows.bakerOrdersSpec.vars false noArgs.toList 8 = some ([.agg [.agg [.nil, .nil], .nil], .nil], [], places) :=
  ⟨[], by kernel_rfl⟩

set_option maxRecDepth 100000 in
theorem lifted (os : Os) (started : os.Started) (H : Type) (enc : TypeId × Value → H) (F : Stop.Interp) :
    ReturnsInHanded {} Tryz.checked os 3 .any ((OpenSpec.ofChange Rows.bakerOrdersSpec).preRow enc Tryz.prog Tryz.f3 Rows.bakerOrdersRow.domain false Rows.bakerOrdersRow.laid) (((OpenSpec.ofChange Rows.bakerOrdersSpec).at F).post enc Tryz.prog Tryz.f3 false true false false) := by
  obtain ⟨places, hx⟩ := reads os enc
  refine returnsInHanded_of_row (C := Tryz.checked) (s := OpenSpec.ofChange Rows.bakerOrdersSpec) own started (by kernel_rfl) Tryz.func3
    (witness_row_at (enc := enc) (C := Tryz.checked) false (laidWorld os) noArgs rfl (by kernel_rfl) (by kernel_rfl) (by kernel_rfl)
      (OpenSpec.preRow_of_cond 8 hx (by kernel_rfl) (fun k hk => by cases hk) (by kernel_rfl) (laid_met os))) ?_
  intro W base args ds gs before hval hW _ _ hz hL _ _
  exact contract H enc W base args ds gs before hval hW hz hL

theorem said : Rows.BakerOrdersSaid :=
  OpenClaim.holds_of_cond 3 Tryz.f3 rfl rfl rfl rfl rfl rfl rfl ⟨rfl, rfl, rfl, rfl, rfl⟩ rfl rfl rfl rfl rfl (by kernel_rfl) Tryz.func3 (by kernel_rfl)
    (of_decide_eq_true (by kernel_rfl)) (by unfold Func.isWrapper; first | (rw [if_pos (by decide +kernel)]; kernel_rfl) | (rw [if_neg (by decide +kernel)]; exact ⟨rfl, rfl⟩))
    (fun os started H enc _ F => by rw [OpenClaim.pre_eq_preRow]; exact lifted os started H enc F)

/-- No parameter wants a stand-in; the program's own looks are off. -/
theorem plain (f : FuncId) (fn : Func) (hf : Tryz.pinned.checked.prog.funcNamed "apiary/apiarylaw21.BakerOrders" = some f) (hfn : Tryz.pinned.checked.prog.funcs[f]? = some fn) :
    false = Tryz.pinned.checked.prog.looks [] ∧ ∀ (j : Nat) t, fn.params[j]? = some t → Tryz.pinned.checked.prog.wantsStandIn t = false := by
  obtain rfl : f = 3 := Option.some.inj ((show Tryz.prog.funcNamed "apiary/apiarylaw21.BakerOrders" = some 3 by kernel_rfl).symm.trans hf) |>.symm
  obtain rfl : fn = Tryz.f3 := (Option.some.inj (Tryz.func3.symm.trans hfn)).symm
  refine ⟨by kernel_rfl, fun j t ht => ?_⟩
  rw [Tryz.params3] at ht
  have hm : t ∈ [28, 29] := by simpa using Array.mem_of_getElem? ht
  rcases List.mem_cons.1 hm with rfl | hm
  · exact (show Tryz.prog.wantsStandIn 28 = false by kernel_rfl)
  · obtain rfl : t = 29 := by simpa using hm
    exact (show Tryz.prog.wantsStandIn 29 = false by kernel_rfl)

theorem card : Rows.BakerOrdersCardSaid :=
  Claim7.holds_tied_plain_at .later [] _ _ _ _ said (fun _ h => by cases h) (by kernel_rfl) (fun _ h => by cases h) bakerOrders_row_tie rfl ⟨rfl, rfl⟩ (by kernel_rfl) rfl plain (by kernel_rfl)
end Go.Proofs.YtnifkpcjpjgkeaaGreatDoor.bakerOrders
