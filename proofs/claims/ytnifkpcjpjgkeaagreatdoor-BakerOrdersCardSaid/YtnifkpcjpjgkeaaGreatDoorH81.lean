/- The law BakerOrders: it answers true. -/
import Derived.Test.YtnifkpcjpjgkeaaGreatDoorMH78
namespace Go.Proofs.YtnifkpcjpjgkeaaGreatDoor
open Go.RowKit Go.Shelf

def AwakeSaid : Prop := ∀ w : World, LaidB w.heap.size w → Calls Tryz.prog 4 #[] w (fun e w' => e = .returned (.bool true) ∧ Below w.heap.size w w')
def LawPost (w : World) (e : Ending) (w' : World) : Prop := e = .returned (.bool true) ∧ Below w.heap.size w w'
/-- What the law's loop keeps. -/
def LawR (w0 : World) (b m : Nat) (g : Gr) (bv : Array Value) (T : TMap) (wr : World) : Prop := Run g T ∧ Below w0.heap.size w0 wr ∧ wr.heap[w0.heap.size]? = some (.cells bv 28) ∧ BakAt wr b m g (ordG g) (doneSt g T 1) T
theorem LawR.below {w0 wr w' : World} {b m : Nat} {g : Gr} {bv : Array Value} {T : TMap} (h : LawR w0 b m g bv T wr) (hb : Below wr.heap.size wr w') : LawR w0 b m g bv T w' :=
  ⟨h.1, h.2.1.trans (hb.mono h.2.1.size), (hb.block _ (Array.getElem?_eq_some_iff.1 h.2.2.1).1).trans h.2.2.1, h.2.2.2.below hb⟩
theorem Acts.lt {F : Nat → Prop} {w : World} {v : Value} {l : List Act} (h : Acts F w v l) : Acts (fun k => k < w.heap.size) w v l := by
  obtain ⟨a, cap, h1, h2, h3, h4, h5⟩ := h
  exact ⟨a, cap, h1, h2, h3, h4, h5.imp id (fun ⟨b, off, e, _, hb, hc⟩ => ⟨b, off, e, hb, hb, fun i hi => by obtain ⟨iv, hiv, r⟩ := hc i hi; exact ⟨iv, hiv.lt, r⟩⟩)⟩
theorem Srcs.lt {F : Nat → Prop} {w : World} {v : Value} {l : List Src} (h : Srcs F w v l) : Srcs (fun k => k < w.heap.size) w v l := by
  obtain ⟨a, cap, h1, h2, h3, h4, h5⟩ := h
  exact ⟨a, cap, h1, h2, h3, h4, h5.imp id (fun ⟨b, off, e, _, hb, hc⟩ => ⟨b, off, e, hb, hb, hc⟩)⟩
theorem any_take {α : Type} (p : α → Bool) (d : α) (l : List α) (k : Nat) (h : k < l.length) : (l.take (k + 1)).any p = ((l.take k).any p || p (l.getD k d)) := by
  rw [List.take_succ_eq_append_getElem h, List.any_append]
  simp [List.getD_eq_getElem?_getD, List.getElem?_eq_getElem h]
def hitB (s : ByteArray) (x : Blt) : Bool := (x.1 == s) && (x.2.code == 0)

set_option maxHeartbeats 8000000 in
set_option maxRecDepth 100000 in
theorem law_any {F F' F'' : Nat → Prop} (hAw : AwakeSaid) (g : Gr) (l : List Src) (rs : List Res) (gs ga lv rv : Value) (w : World) (hs : Strs F w gs g.sources) (ha : Acts F w ga g.actions) (hl : Srcs F' w lv l) (hr : Ress F'' w rv rs) (hL : LaidB w.heap.size w) :
    Calls Tryz.prog 3 #[.agg #[gs, ga, lv], rv] w (LawPost w) := by
  have HAw := Lib.hid hAw
  have HL := Lib.hid hL
  have HS := Lib.hid hs.lt
  have HA := Lib.hid ha.lt
  have HSr := Lib.hid hl.lt
  have HR := Lib.hid (fun (w0 : World) (hb : Below w.heap.size w w0) => hr.below hb)
  obtain ⟨a, cap, rfl, -⟩ := hs
  obtain ⟨a', cap', rfl, -⟩ := ha
  obtain ⟨a'', cap'', rfl, -⟩ := hl
  obtain ⟨ra, rcap, rfl, hrc, hrl, -, -⟩ := hr
  have HBx := Lib.hid (MapKept.heap_alloc w (.cells #[.slice a g.sources.length cap, .slice a' g.actions.length cap', .slice a'' l.length cap''] 28)).1
  have HB0 := Lib.hid ((Below.refl w.heap.size w).alloc (Nat.le_refl _) (.cells #[.slice a g.sources.length cap, .slice a' g.actions.length cap', .slice a'' l.length cap''] 28))
  clear hAw hL
  go_enter Tryz.func3, Tryz.ntmps3
  go_wp2_with fail
  refine (HAw.out _ ((HL.out.below HB0.out).here)).mono ?_
  rintro e w1 ⟨rfl, hb1⟩
  have HBx1 := Lib.hid ((hb1.block w.heap.size (by simp)).trans HBx.out)
  have HB1 := Lib.hid (HB0.out.trans (hb1.mono (by simp)))
  have x0 := (Lib.cell_of_heap HBx1.out 0).trans (show _ = some (Value.slice a g.sources.length cap) from rfl)
  have x1 := (Lib.cell_of_heap HBx1.out 1).trans (show _ = some (Value.slice a' g.actions.length cap') from rfl)
  have x2 := (Lib.cell_of_heap HBx1.out 2).trans (show _ = some (Value.slice a'' l.length cap'') from rfl)
  clear hb1 HBx HB0
  go_wp2_with fail
  refine (great_any g l _ _ _ w1 (HS.out.below HB1.out) (HA.out.below HB1.out) (HSr.out.below HB1.out)).mono ?_
  rintro e w2 ⟨gr, rfl, hb2, hg2⟩
  have HBx2 := Lib.hid ((hb2.block w.heap.size (Array.getElem?_eq_some_iff.1 HBx1.out).1).trans HBx1.out)
  have HB2 := Lib.hid (HB1.out.trans (hb2.mono HB1.out.size))
  clear hb2 HBx1 HB1 x0 x1 x2
  cases gr
  · have h30 := hg2 rfl
    clear hg2
    by_cases h60 : 60 < rs.length
    · go_wp2_with fail
      go_ret
      exact ⟨rfl, HB2.out⟩
    · go_wp2_with fail
      refine (New_any w2).mono ?_
      rintro e w3 ⟨rfl, hb3, hl3, ht3⟩
      have HBx3 := Lib.hid ((hb3.block w.heap.size (Array.getElem?_eq_some_iff.1 HBx2.out).1).trans HBx2.out)
      have HB3 := Lib.hid (HB2.out.trans (hb3.mono HB2.out.size))
      have HT3 := Lib.hid ht3
      have x0 := (Lib.cell_of_heap HBx3.out 0).trans (show _ = some (Value.slice a g.sources.length cap) from rfl)
      have x1 := (Lib.cell_of_heap HBx3.out 1).trans (show _ = some (Value.slice a' g.actions.length cap') from rfl)
      have x2 := (Lib.cell_of_heap HBx3.out 2).trans (show _ = some (Value.slice a'' l.length cap'') from rfl)
      have hwb : w.heap.size < w2.heap.size := (Array.getElem?_eq_some_iff.1 HBx2.out).1
      clear hb3 ht3 HBx2
      generalize hbb : w2.heap.size + 1 = b at HT3 hl3 ⊢
      have hwb2 : w.heap.size < b := by omega
      clear hbb
      have HSt := Lib.hid (Start_any (F := fun k => k < w.heap.size) (F' := fun k => k < w.heap.size) w.heap.size b g l (.slice a g.sources.length cap) (.slice a' g.actions.length cap') (.slice a'' l.length cap'') w3 hl3 HT3.out (fun k hk => by have hk' : k < w.heap.size := hk; omega) (fun k hk => by have hk' : k < w.heap.size := hk; omega) (HS.out.below HB3.out) (HA.out.below HB3.out) (HSr.out.below HB3.out) h30 (by omega) (HL.out.below HB3.out))
      go_wp2_with fail
      refine HSt.out.mono ?_
      rintro e w4 ⟨c, rfl, ht4, hc4, -⟩
      have HB4 := Lib.hid (HB3.out.trans (ht4.below HB3.out.size (fun k hk e => by have e' : k = b := e; omega)))
      by_cases hc : c = 0
      · obtain ⟨hE, hF, m, hm4, hbk⟩ := hc4 hc
        have hw3 : w.heap.size ≤ w3.heap.size := HB3.out.size
        subst hc
        have RL := Lib.hid (show LawR w b m g #[.slice a g.sources.length cap, .slice a' g.actions.length cap', .slice a'' l.length cap''] (startT g l) w4 from ⟨Run.start hE hF, HB4.out, (ht4.block w.heap.size (Array.getElem?_eq_some_iff.1 HBx3.out).1 (fun e => by have e' : w.heap.size = b := e; omega)).trans HBx3.out, hbk⟩)
        clear hc4 hE hF hbk ht4 x0 x1 x2 HBx3 HT3 HSt
        go_wp2_with fail
        go_loopw [6] (fun i wr => ∃ (k : Nat) (T : TMap), k ≤ rs.length ∧ i = .int .i64 (k : Int) ∧ LawR w b m g #[.slice a g.sources.length cap, .slice a' g.actions.length cap', .slice a'' l.length cap''] T wr) (fun i _ => rs.length - (intOf i).toNat)
        case atStart => exact ⟨0, _, Nat.zero_le _, rfl, RL.out⟩
        case round =>
          obtain ⟨k, T, hk, rfl, hR⟩ := hrel
          clear RL
          have RL := Lib.hid hR
          clear hR
          by_cases hlt : k < rs.length
          · have HWd := Lib.hid (HL.out.below RL.out.2.1).1
            go_wp2_with fail
            refine (Next_any b m g (ordG g) (doneSt g T 1) T wr RL.out.2.2.2 (topo_of RL.out.1.good).lt (by have := RL.out.1.ol; omega) RL.out.1.act RL.out.1.small RL.out.1.zero HWd.out).mono ?_
            rintro e w6 ⟨hb6, vs, h36, hcase⟩
            have HVs := Lib.hid h36
            have RL6 := Lib.hid (RL.out.below hb6)
            rcases hcase with ⟨hst1, i, hi, rfl, hj⟩ | ⟨hno, rfl⟩
            · obtain ⟨hil, hok⟩ := RL.out.1.next hi
              obtain ⟨hj0, hj1, -⟩ := hj
              have HI := Lib.hid hi
              have HJ0 := Lib.hid hj0
              have HJ1 := Lib.hid hj1
              have HSt1 := Lib.hid hst1
              have HNe := Lib.hid (fun (s : ByteArray) (h : ∃ a ∈ g.actions, a.name = (g.actions.getD i default).name ∧ Stands g a.inputs s) => needs_there RL.out.1.inv (apart_of (checkedE_woven RL.out.1.good)) RL.out.1.set hil hok h)
              have HGr := Lib.hid (fun r : Res => built_grows (ord := ordG g) hil hok r)
              generalize hnm : (g.actions.getD i default).name = nm at HJ0 HNe HGr
              have HNm := Lib.hid hnm
              clear hnm hi hj0 hj1 hst1 h36 hb6 hok
              go_wp2_with (refine wpList_store_new rfl 41 _ _ rfl w6 _ _ 36 (by kernel_rfl) rfl vs rfl HVs.out.1 (all_oneCell_toArray HVs.out.2) infoJob ?_; intro w7 hr7 ht7 hb7 hl7; have RL7 := Lib.hid (RL6.out.below hb7); have j0 := Lib.hid (show w7.cell? ⟨w6.heap.size, 0, none⟩ = some (.string nm) by have := hr7 0 _ HJ0.out; rw [Nat.zero_add] at this; exact this); have j1 := Lib.hid (show w7.cell? ⟨w6.heap.size, 1, none⟩ = some (.int .i64 (i : Int)) by have := hr7 1 _ HJ1.out; rw [Nat.zero_add] at this; exact this); clear hr7 ht7 hb7)
              generalize w6.heap.size = bj at j0 j1 hl7 ⊢
              refine (Results_any b m g (ordG g) (doneSt g T 1) T w7 RL7.out.2.2.2 (by have := RL7.out.1.al; omega)).mono ?_
              rintro e w8 ⟨bv, rfl, hbl8, hb8⟩
              have RL8 := Lib.hid (RL7.out.below hb8)
              have HBl8 := Lib.hid (show Blts (fun q => w7.heap.size ≤ q) w8 bv (builtF g.actions T) from hbl8)
              have j08 := (hb8.cell (p := ⟨bj, 0, none⟩) hl7).trans j0.out
              have j18 := Lib.hid ((hb8.cell (p := ⟨bj, 1, none⟩) hl7).trans j1.out)
              have hl8 : bj < w8.heap.size := Nat.lt_of_lt_of_le hl7 hb8.size
              obtain ⟨ba, bc, rfl, -, -⟩ := hbl8
              have y0 := (Lib.cell_of_heap RL8.out.2.2.1 0).trans (show _ = some (Value.slice a g.sources.length cap) from rfl)
              have y1 := (Lib.cell_of_heap RL8.out.2.2.1 1).trans (show _ = some (Value.slice a' g.actions.length cap') from rfl)
              clear hb8 j0 j1 RL7 RL6 HJ0 HJ1 HVs
              go_wp2_with fail
              refine (Needs_any g (.slice a g.sources.length cap) (.slice a' g.actions.length cap') nm w8 (HS.out.below RL8.out.2.1) (HA.out.below RL8.out.2.1)).mono ?_
              rintro e w9 ⟨nv, nl, rfl, hnl, hst9, hb9⟩
              have RL9 := Lib.hid (RL8.out.below hb9)
              have HNl := Lib.hid hnl
              have HBl9 := Lib.hid (HBl8.out.keep (w' := w9) (F' := anyBlk) (fun _ _ => trivial) (.of_below hb9))
              have j19 := Lib.hid ((hb9.cell (p := ⟨bj, 1, none⟩) hl8).trans j18.out)
              have hl9 : bj < w9.heap.size := Nat.lt_of_lt_of_le hl8 hb9.size
              have HHit := Lib.hid (show ∀ s ∈ nl, ((builtF g.actions T).any (hitB s) || g.sources.any (fun t => t == s)) = true from fun s hs => by
                rcases HNe.out s (hst9 s hs) with h1 | ⟨q, hq, hq0⟩
                · rw [Bool.or_eq_true]; right; exact List.any_eq_true.2 ⟨s, h1, (MapKept.bytes_beq _ _).2 rfl⟩
                · rw [Bool.or_eq_true]; left; exact List.any_eq_true.2 ⟨(s, q), hq, by unfold hitB; rw [(MapKept.bytes_beq _ _).2 rfl, hq0]; rfl⟩)
              obtain ⟨na, nc, rfl, -, hn3, -, hn5⟩ := hnl
              have HN5 := Lib.hid hn5
              obtain ⟨ba2, bc2, hbe, -, hbl5⟩ := HBl9.out
              have HBl5 := Lib.hid hbl5
              have hbs12 : (builtF g.actions T).length ≤ 12 := by
                have h1 := builtF_le g.actions T g.actions.length
                rw [List.take_length] at h1
                have := RL.out.1.al
                omega
              generalize hbs : builtF g.actions T = bs at hbs12 HBl9 HHit HGr HBl5 hbe ⊢
              cases hbe
              have HBs := Lib.hid hbs
              clear hb9 hn5 hbl5 hbs HBl8 j18 j08 y0 y1 HNe hst9 RL8
              go_wp2_with fail
              have RB9 := Lib.hid (Below.refl w9.heap.size w9)
              go_loopw [11] (fun q wr => ∃ kk : Nat, kk ≤ nl.length ∧ q = .int .i64 (kk : Int) ∧ Below w9.heap.size w9 wr) (fun q _ => nl.length - (intOf q).toNat)
              case atStart => exact ⟨0, Nat.zero_le _, rfl, RB9.out⟩
              case round =>
                obtain ⟨kk, hkk, rfl, hB⟩ := hrel
                clear RB9
                have RB := Lib.hid hB
                clear hB
                by_cases hltk : kk < nl.length
                · obtain ⟨nb, no, rfl, -, hnb, hnc⟩ := HN5.out.resolve_left (fun e => by rw [e] at hltk; simp at hltk)
                  have hsm := getD_mem ByteArray.empty hltk
                  have d0w := hnc kk hltk
                  generalize nl.getD kk ByteArray.empty = s at d0w hsm
                  have HHs := Lib.hid (HHit.out s hsm)
                  clear hnc hsm
                  have HD0 := Lib.hid (fun (W : World) (hW : Below w9.heap.size w9 W) => (hW.cell (p := ⟨nb, no + kk, none⟩) hnb).trans d0w)
                  clear d0w
                  go_wp2_with fail
                  have HO1 := Lib.hid (show (false : Bool) = (bs.take 0).any (hitB s) from rfl)
                  go_loopw [12, 13] (fun o q wr => ∃ (n : Nat) (ok : Bool), n ≤ bs.length ∧ q = .int .i64 (n : Int) ∧ o = .bool ok ∧ ok = (bs.take n).any (hitB s) ∧ Below w9.heap.size w9 wr) (fun _ q _ => bs.length - (intOf q).toNat)
                  case atStart => exact ⟨0, false, Nat.zero_le _, rfl, rfl, HO1.out, RB.out⟩
                  case round =>
                    obtain ⟨n, ok, hn, rfl, rfl, hok, hB2⟩ := hrel
                    clear HO1
                    have HOK := Lib.hid hok
                    have RQ := Lib.hid hB2
                    clear hok hB2
                    by_cases hltn : n < bs.length
                    · obtain ⟨bb, bo, rfl, -, hbbl, hbc⟩ := HBl5.out.resolve_left (fun e => by rw [e] at hltn; simp at hltn)
                      obtain ⟨e0, e1, -⟩ := hbc n hltn
                      have hat := any_take (hitB s) default bs n hltn
                      generalize bs.getD n default = xb at e0 e1 hat
                      have HAT := Lib.hid (show (bs.take (n + 1)).any (hitB s) = ((bs.take n).any (hitB s) || ((xb.1 == s) && (xb.2.code == 0))) from hat)
                      have f0 := (RQ.out.cell (p := ⟨bb, bo + n * 3, none⟩) hbbl).trans e0
                      have f1 := (RQ.out.cell (p := ⟨bb, bo + n * 3 + 1, none⟩) hbbl).trans e1
                      have d0 := HD0.out wr RQ.out
                      have q1 : (0 : Int) ≤ (n : Int) := by omega
                      have q2 : (n : Int) < (bs.length : Int) := by omega
                      have q3 : (0 : Int) ≤ (kk : Int) := by omega
                      have q4 : (kk : Int) < (nl.length : Int) := by omega
                      clear hbc e0 e1 hat
                      cases ok
                      · cases h1 : (xb.1.toList == s.toList)
                        · have H1 := Lib.hid (show (xb.1 == s) = false by rw [Go.beq_toListBytes]; exact h1)
                          go_wp2_with fail
                          go_quiet (fail)
                          have RQ2 := Lib.hid (below_drewN (n := nq) RQ.out)
                          clear h1 f0 f1 d0 RQ
                          go_wp2_with fail
                          first
                            | exact ⟨⟨n + 1, false, by omega, by go_num, rfl, by rw [HAT.out, ← HOK.out, H1.out]; rfl, RQ2.out⟩, by simp [intOf]; omega⟩
                            | (go_roundw
                               case rel => exact ⟨n + 1, false, by omega, by go_num, rfl, by rw [HAT.out, ← HOK.out, H1.out]; rfl, RQ2.out⟩
                               case measure => simp [intOf]; omega)
                        · have H1 := Lib.hid (show (xb.1 == s) = true by rw [Go.beq_toListBytes]; exact h1)
                          cases h2 : (xb.2.code == 0)
                          · have H2 := Lib.hid h2
                            go_wp2_with fail
                            go_quiet (fail)
                            have RQ2 := Lib.hid (below_drewN (n := nq) RQ.out)
                            clear h1 h2 f0 f1 d0 RQ
                            go_wp2_with fail
                            first
                              | exact ⟨⟨n + 1, false, by omega, by go_num, rfl, by rw [HAT.out, ← HOK.out, H1.out, H2.out]; rfl, RQ2.out⟩, by simp [intOf]; omega⟩
                              | (go_roundw
                                 case rel => exact ⟨n + 1, false, by omega, by go_num, rfl, by rw [HAT.out, ← HOK.out, H1.out, H2.out]; rfl, RQ2.out⟩
                                 case measure => simp [intOf]; omega)
                          · have H2 := Lib.hid h2
                            go_wp2_with fail
                            go_quiet (fail)
                            have RQ2 := Lib.hid (below_drewN (n := nq) RQ.out)
                            clear h1 h2 f0 f1 d0 RQ
                            go_wp2_with fail
                            first
                              | exact ⟨⟨n + 1, true, by omega, by go_num, rfl, by rw [HAT.out, ← HOK.out, H1.out, H2.out]; rfl, RQ2.out⟩, by simp [intOf]; omega⟩
                              | (go_roundw
                                 case rel => exact ⟨n + 1, true, by omega, by go_num, rfl, by rw [HAT.out, ← HOK.out, H1.out, H2.out]; rfl, RQ2.out⟩
                                 case measure => simp [intOf]; omega)
                      · go_wp2_with fail
                        go_quiet (fail)
                        have RQ2 := Lib.hid (below_drewN (n := nq) RQ.out)
                        clear f0 f1 d0 RQ
                        go_wp2_with fail
                        first
                          | exact ⟨⟨n + 1, true, by omega, by go_num, rfl, by rw [HAT.out, ← HOK.out]; rfl, RQ2.out⟩, by simp [intOf]; omega⟩
                          | (go_roundw
                             case rel => exact ⟨n + 1, true, by omega, by go_num, rfl, by rw [HAT.out, ← HOK.out]; rfl, RQ2.out⟩
                             case measure => simp [intOf]; omega)
                    · obtain rfl : n = bs.length := by omega
                      have HOK2 := HOK.out
                      rw [List.take_length] at HOK2
                      have HOB := Lib.hid HOK2
                      clear HOK2
                      go_wp2_with fail
                      have HO2 := Lib.hid (show ok = (bs.any (hitB s) || (g.sources.take 0).any (fun t => t == s)) by rw [← HOB.out]; simp)
                      obtain ⟨wo, rfl⟩ : ∃ wo : World, wo = wr := ⟨_, rfl⟩
                      go_loopw [12, 14] (fun o q wr => ∃ (n : Nat) (ok : Bool), n ≤ g.sources.length ∧ q = .int .i64 (n : Int) ∧ o = .bool ok ∧ ok = (bs.any (hitB s) || (g.sources.take n).any (fun t => t == s)) ∧ Below w9.heap.size w9 wr) (fun _ q _ => g.sources.length - (intOf q).toNat)
                      case atStart => exact ⟨0, ok, Nat.zero_le _, rfl, rfl, HO2.out, RQ.out⟩
                      case round =>
                        obtain ⟨n, ok, hn, rfl, rfl, hok, hB2⟩ := hrel
                        clear HO2 RQ
                        have HOK := Lib.hid hok
                        have RQ := Lib.hid hB2
                        clear hok hB2
                        have y0 := (Lib.cell_of_heap ((RQ.out.block w.heap.size (Array.getElem?_eq_some_iff.1 RL9.out.2.2.1).1).trans RL9.out.2.2.1) 0).trans (show _ = some (Value.slice a g.sources.length cap) from rfl)
                        by_cases hltn : n < g.sources.length
                        · obtain ⟨a0, cp0, he, -, -, -, s5⟩ := HS.out
                          cases he
                          obtain ⟨sb, so, rfl, hsb, -, hsc⟩ := s5.resolve_left (fun e => by rw [e] at hltn; simp at hltn)
                          have hsb' : sb < w.heap.size := hsb
                          have hsl := RL.out.1.sl
                          have e0 := hsc n hltn
                          have hat := any_take (fun t => t == s) ByteArray.empty g.sources n hltn
                          generalize g.sources.getD n ByteArray.empty = xs at e0 hat
                          have HAT := Lib.hid (show (g.sources.take (n + 1)).any (fun t => t == s) = ((g.sources.take n).any (fun t => t == s) || (xs == s)) from hat)
                          have f0 := (RQ.out.cell (p := ⟨sb, so + n, none⟩) (Nat.lt_of_lt_of_le hsb' RL9.out.2.1.size)).trans ((RL9.out.2.1.cell (p := ⟨sb, so + n, none⟩) hsb').trans e0)
                          have d0 := HD0.out wr RQ.out
                          have q1 : (0 : Int) ≤ (n : Int) := by omega
                          have q2 : (n : Int) < (g.sources.length : Int) := by omega
                          have q3 : (0 : Int) ≤ (kk : Int) := by omega
                          have q4 : (kk : Int) < (nl.length : Int) := by omega
                          clear hsc e0 hat s5
                          cases ok
                          · cases h1 : (xs.toList == s.toList)
                            · have H1 := Lib.hid (show (xs == s) = false by rw [Go.beq_toListBytes]; exact h1)
                              go_wp2_with fail
                              go_quiet (fail)
                              have RQ2 := Lib.hid (below_drewN (n := nq) RQ.out)
                              clear h1 f0 d0 RQ y0
                              go_wp2_with fail
                              first
                                | exact ⟨⟨n + 1, false, by omega, by go_num, rfl, by rw [HAT.out, H1.out, Bool.or_false]; exact HOK.out, RQ2.out⟩, by simp [intOf]; omega⟩
                                | (go_roundw
                                   case rel => exact ⟨n + 1, false, by omega, by go_num, rfl, by rw [HAT.out, H1.out, Bool.or_false]; exact HOK.out, RQ2.out⟩
                                   case measure => simp [intOf]; omega)
                            · have H1 := Lib.hid (show (xs == s) = true by rw [Go.beq_toListBytes]; exact h1)
                              go_wp2_with fail
                              go_quiet (fail)
                              have RQ2 := Lib.hid (below_drewN (n := nq) RQ.out)
                              clear h1 f0 d0 RQ y0
                              go_wp2_with fail
                              first
                                | exact ⟨⟨n + 1, true, by omega, by go_num, rfl, by rw [HAT.out, H1.out, Bool.or_true, Bool.or_true], RQ2.out⟩, by simp [intOf]; omega⟩
                                | (go_roundw
                                   case rel => exact ⟨n + 1, true, by omega, by go_num, rfl, by rw [HAT.out, H1.out, Bool.or_true, Bool.or_true], RQ2.out⟩
                                   case measure => simp [intOf]; omega)
                          · go_wp2_with fail
                            go_quiet (fail)
                            have RQ2 := Lib.hid (below_drewN (n := nq) RQ.out)
                            clear f0 d0 RQ y0
                            go_wp2_with fail
                            first
                              | exact ⟨⟨n + 1, true, by omega, by go_num, rfl, by rw [HAT.out, ← Bool.or_assoc, ← HOK.out]; rfl, RQ2.out⟩, by simp [intOf]; omega⟩
                              | (go_roundw
                                 case rel => exact ⟨n + 1, true, by omega, by go_num, rfl, by rw [HAT.out, ← Bool.or_assoc, ← HOK.out]; rfl, RQ2.out⟩
                                 case measure => simp [intOf]; omega)
                        · obtain rfl : n = g.sources.length := by omega
                          have hoT : ok = true := by have h1 := HOK.out; rw [List.take_length, HHs.out] at h1; exact h1
                          subst hoT
                          clear HOK
                          go_wp2_with fail
                          first
                            | exact ⟨⟨kk + 1, by omega, by go_num, RQ.out⟩, by simp [intOf]; omega⟩
                            | (go_roundw
                               case rel => exact ⟨kk + 1, by omega, by go_num, RQ.out⟩
                               case measure => simp [intOf]; omega)
                · have j1r := (RB.out.cell (p := ⟨bj, 1, none⟩) hl9).trans j19.out
                  have RLr := Lib.hid (RL9.out.below RB.out)
                  obtain ⟨ra0, rc0, he, -, -, -, r5⟩ := HR.out wr RLr.out.2.1
                  cases he
                  obtain ⟨rb, ro, rfl, -, hrbl, hrc5⟩ := r5.resolve_left (fun e => by rw [e] at hlt; simp at hlt)
                  obtain ⟨d0, d1⟩ := hrc5 k hlt
                  generalize rs.getD k default = r at d0 d1
                  have q1 : (0 : Int) ≤ (k : Int) := by omega
                  have q2 : (k : Int) < (rs.length : Int) := by omega
                  clear hrc5 r5
                  have HBe := Lib.hid (fun (o : Obj) => RLr.out.2.1.alloc RLr.out.2.1.size o)
                  by_cases hz : 512 < r.blob.size
                  · go_wp2_with fail
                    go_ret
                    exact ⟨rfl, HBe.out _⟩
                  · have HGv := Lib.hid (fun (r' : Res) (hr' : r'.blob.size ≤ 512) (h0 : r'.code = 0 ∨ r'.blob.size = 0) (W : World) (hW : Below wr.heap.size wr W) => Give_ok b m g (ordG g) T i r' W (by have h := RLr.out.2.2.2.below hW; rw [HSt1.out] at h; exact h) (RL.out.1.pre HI.out (HL.out.below (RLr.out.2.1.trans (hW.mono RLr.out.2.1.size))).1) hr' h0)
                    by_cases hc0 : r.code = 0
                    · have hb0 : (r.code != 0) = false := by simp [bne, hc0]
                      have HC0 := Lib.hid hc0
                      clear hc0
                      have hbjr : bj < wr.heap.size := Nat.lt_of_lt_of_le hl9 RB.out.size
                      go_wp2_with fail
                      refine (HGv.out ⟨r.code, r.blob⟩ (show r.blob.size ≤ 512 by omega) (.inl HC0.out) _ ((Below.refl _ _).alloc (Nat.le_refl _) _)).mono ?_
                      rintro e w10 ⟨rfl, hbk10, ht10⟩
                      rw [HNm.out] at hbk10
                      have hrun : Run g (settleF g.actions (ordG g) (mput T nm ⟨r.code, r.blob⟩)) := by
                        have h := RL.out.1.give HI.out ⟨r.code, r.blob⟩ (show r.blob.size ≤ 512 by omega)
                        rw [HNm.out] at h
                        exact h
                      have hgt := HGr.out ⟨r.code, r.blob⟩
                      generalize settleF g.actions (ordG g) (mput T nm ⟨r.code, r.blob⟩) = T2 at hbk10 hrun hgt
                      have RL10 := Lib.hid (show LawR w b m g #[.slice a g.sources.length cap, .slice a' g.actions.length cap', .slice a'' l.length cap''] T2 w10 from
                        ⟨hrun, (HBe.out _).trans (ht10.below (by have := RLr.out.2.1.size; simp; omega) (fun q hq e => e.elim (fun e => by omega) (fun e => by omega))),
                          (ht10.block w.heap.size (by have := RLr.out.2.1.size; simp; omega) (fun e => e.elim (fun e => by omega) (fun e => by omega))).trans ((Below.heap_alloc wr _ w.heap.size (Array.getElem?_eq_some_iff.1 RLr.out.2.2.1).1).trans RLr.out.2.2.1), hbk10⟩)
                      clear hbk10 hrun ht10 d0 d1 j1r HBe HGv RLr RB RL9 hb0
                      go_wp2_with fail
                      refine (Results_any b m g (ordG g) (doneSt g T2 1) T2 w10 RL10.out.2.2.2 (by have := RL10.out.1.al; omega)).mono ?_
                      rintro e w11 ⟨rv2, rfl, hbl2, hb11⟩
                      have RL11 := Lib.hid (RL10.out.below hb11)
                      obtain ⟨fa, fc, rfl, -, -⟩ := hbl2
                      have hn2 : (builtF g.actions T2).length ≤ 12 := by
                        have h1 := builtF_le g.actions T2 g.actions.length
                        rw [List.take_length] at h1
                        have := RL10.out.1.al
                        omega
                      generalize (builtF g.actions T2).length = n2 at hgt hn2 ⊢
                      clear hb11 RL10
                      go_wp2_with fail
                      first
                        | exact ⟨⟨k + 1, T2, by omega, by go_num, RL11.out⟩, by simp [intOf]; omega⟩
                        | (go_roundw
                           case rel => exact ⟨k + 1, T2, by omega, by go_num, RL11.out⟩
                           case measure => simp [intOf]; omega)
                    · have hb0 : (r.code != 0) = true := by rw [bne_iff_ne]; exact hc0
                      have HC0 := Lib.hid hc0
                      clear hc0
                      have hbjr : bj < wr.heap.size := Nat.lt_of_lt_of_le hl9 RB.out.size
                      go_wp2_with fail
                      refine (HGv.out ⟨r.code, ⟨#[]⟩⟩ (show (ByteArray.mk #[]).size ≤ 512 by decide) (.inr rfl) _ ((Below.refl _ _).alloc (Nat.le_refl _) _)).mono ?_
                      rintro e w10 ⟨rfl, hbk10, ht10⟩
                      rw [HNm.out] at hbk10
                      have hrun : Run g (settleF g.actions (ordG g) (mput T nm ⟨r.code, ⟨#[]⟩⟩)) := by
                        have h := RL.out.1.give HI.out ⟨r.code, ⟨#[]⟩⟩ (show (ByteArray.mk #[]).size ≤ 512 by decide)
                        rw [HNm.out] at h
                        exact h
                      have hgt := HGr.out ⟨r.code, ⟨#[]⟩⟩
                      generalize settleF g.actions (ordG g) (mput T nm ⟨r.code, ⟨#[]⟩⟩) = T2 at hbk10 hrun hgt
                      have RL10 := Lib.hid (show LawR w b m g #[.slice a g.sources.length cap, .slice a' g.actions.length cap', .slice a'' l.length cap''] T2 w10 from
                        ⟨hrun, (HBe.out _).trans (ht10.below (by have := RLr.out.2.1.size; simp; omega) (fun q hq e => e.elim (fun e => by omega) (fun e => by omega))),
                          (ht10.block w.heap.size (by have := RLr.out.2.1.size; simp; omega) (fun e => e.elim (fun e => by omega) (fun e => by omega))).trans ((Below.heap_alloc wr _ w.heap.size (Array.getElem?_eq_some_iff.1 RLr.out.2.2.1).1).trans RLr.out.2.2.1), hbk10⟩)
                      clear hbk10 hrun ht10 d0 d1 j1r HBe HGv RLr RB RL9 hb0
                      go_wp2_with fail
                      refine (Results_any b m g (ordG g) (doneSt g T2 1) T2 w10 RL10.out.2.2.2 (by have := RL10.out.1.al; omega)).mono ?_
                      rintro e w11 ⟨rv2, rfl, hbl2, hb11⟩
                      have RL11 := Lib.hid (RL10.out.below hb11)
                      obtain ⟨fa, fc, rfl, -, -⟩ := hbl2
                      have hn2 : (builtF g.actions T2).length ≤ 12 := by
                        have h1 := builtF_le g.actions T2 g.actions.length
                        rw [List.take_length] at h1
                        have := RL10.out.1.al
                        omega
                      generalize (builtF g.actions T2).length = n2 at hgt hn2 ⊢
                      clear hb11 RL10
                      go_wp2_with fail
                      first
                        | exact ⟨⟨k + 1, T2, by omega, by go_num, RL11.out⟩, by simp [intOf]; omega⟩
                        | (go_roundw
                           case rel => exact ⟨k + 1, T2, by omega, by go_num, RL11.out⟩
                           case measure => simp [intOf]; omega)
            · clear hno hb6 h36
              go_wp2_with (refine wpList_store_new rfl 41 _ _ rfl w6 _ _ 36 (by kernel_rfl) rfl vs rfl HVs.out.1 (all_oneCell_toArray HVs.out.2) infoJob ?_; intro w7 hr7 ht7 hb7 hl7; have RL7 := Lib.hid (RL6.out.below hb7); clear hr7 ht7 hb7)
              rcases RL7.out.1.done with ⟨hst, hlen⟩ | ⟨hst, hlen⟩
              · have HStt := Lib.hid (fun (W : World) (hW : Below w7.heap.size w7 W) => State_any b m g (ordG g) (doneSt g T 1) T W (RL7.out.2.2.2.below hW))
                have HRes := Lib.hid (fun (W : World) (hW : Below w7.heap.size w7 W) => Results_any b m g (ordG g) (doneSt g T 1) T W (RL7.out.2.2.2.below hW) (by have := RL7.out.1.al; omega))
                have y1 := (Lib.cell_of_heap RL7.out.2.2.1 1).trans (show _ = some (Value.slice a' g.actions.length cap') from rfl)
                have HSt := Lib.hid hst
                have HLen := Lib.hid hlen
                clear hst hlen
                go_region_held3 (fun W => W.cell? ⟨w.heap.size, 1, none⟩ = some (.slice a' g.actions.length cap')) (first | exact y1 | exact (HBr.out.cell (p := ⟨w.heap.size, 1, none⟩) (Array.getElem?_eq_some_iff.1 RL7.out.2.2.1).1).trans y1)
                  (first
                    | (go_at_call 12; refine (HStt.out _ (by first | exact (Below.refl _ _).drew | exact HBr.out)).mono ?_; rintro e w20 ⟨rfl, rfl⟩; rw [HSt.out])
                    | (go_at_call 9; refine (HRes.out _ (Below.refl _ _).drew).mono ?_; rintro e w21 ⟨v21, rfl, hbl, hb21⟩; have HBr := Lib.hid (((Below.refl w7.heap.size w7).drew).trans hb21); obtain ⟨fa, fc, rfl, -, -⟩ := hbl; rw [HLen.out]; clear hb21))
                all_goals
                  go_wp2_with fail
                  go_ret
                  exact ⟨rfl, RL7.out.2.1.trans (HBr.out.mono RL7.out.2.1.size)⟩
              · have HStt := Lib.hid (fun (W : World) (hW : Below w7.heap.size w7 W) => State_any b m g (ordG g) (doneSt g T 1) T W (RL7.out.2.2.2.below hW))
                have HRes := Lib.hid (fun (W : World) (hW : Below w7.heap.size w7 W) => Results_any b m g (ordG g) (doneSt g T 1) T W (RL7.out.2.2.2.below hW) (by have := RL7.out.1.al; omega))
                have y1 := (Lib.cell_of_heap RL7.out.2.2.1 1).trans (show _ = some (Value.slice a' g.actions.length cap') from rfl)
                have HSt := Lib.hid hst
                have hq : (((builtF g.actions T).length : Int) == (g.actions.length : Int)) = false := by rw [beq_eq_false_iff_ne]; omega
                clear hst hlen
                go_region_held3 (fun W => W.cell? ⟨w.heap.size, 1, none⟩ = some (.slice a' g.actions.length cap')) (first | exact y1 | exact (HBr.out.cell (p := ⟨w.heap.size, 1, none⟩) (Array.getElem?_eq_some_iff.1 RL7.out.2.2.1).1).trans y1)
                  (first
                    | (go_at_call 12; refine (HStt.out _ (by first | exact (Below.refl _ _).drew | exact HBr.out)).mono ?_; rintro e w20 ⟨rfl, rfl⟩; rw [HSt.out])
                    | (go_at_call 9; refine (HRes.out _ (Below.refl _ _).drew).mono ?_; rintro e w21 ⟨v21, rfl, hbl, hb21⟩; have HBr := Lib.hid (((Below.refl w7.heap.size w7).drew).trans hb21); obtain ⟨fa, fc, rfl, -, -⟩ := hbl; clear hb21))
                all_goals
                  go_wp2_with fail
                  go_ret
                  exact ⟨rfl, RL7.out.2.1.trans (HBr.out.mono RL7.out.2.1.size)⟩
          · go_wp2_with fail
            rcases RL.out.1.done with ⟨hst, hlen⟩ | ⟨hst, hlen⟩
            · have HStt := Lib.hid (fun (W : World) (hW : Below wr.heap.size wr W) => State_any b m g (ordG g) (doneSt g T 1) T W (RL.out.2.2.2.below hW))
              have HRes := Lib.hid (fun (W : World) (hW : Below wr.heap.size wr W) => Results_any b m g (ordG g) (doneSt g T 1) T W (RL.out.2.2.2.below hW) (by have := RL.out.1.al; omega))
              have y1 := (Lib.cell_of_heap RL.out.2.2.1 1).trans (show _ = some (Value.slice a' g.actions.length cap') from rfl)
              have HSt := Lib.hid hst
              have HLen := Lib.hid hlen
              clear hst hlen
              go_region_held3 (fun W => W.cell? ⟨w.heap.size, 1, none⟩ = some (.slice a' g.actions.length cap')) (first | exact y1 | exact (HBr.out.cell (p := ⟨w.heap.size, 1, none⟩) (Array.getElem?_eq_some_iff.1 RL.out.2.2.1).1).trans y1)
                (first
                  | (go_at_call 12; refine (HStt.out _ (by first | exact (Below.refl _ _).drew | exact HBr.out)).mono ?_; rintro e w20 ⟨rfl, rfl⟩; rw [HSt.out])
                  | (go_at_call 9; refine (HRes.out _ (Below.refl _ _).drew).mono ?_; rintro e w21 ⟨v21, rfl, hbl, hb21⟩; have HBr := Lib.hid (((Below.refl wr.heap.size wr).drew).trans hb21); obtain ⟨fa, fc, rfl, -, -⟩ := hbl; rw [HLen.out]; clear hb21))
              all_goals
                go_wp2_with fail
                go_ret
                exact ⟨rfl, RL.out.2.1.trans (HBr.out.mono RL.out.2.1.size)⟩
            · have HStt := Lib.hid (fun (W : World) (hW : Below wr.heap.size wr W) => State_any b m g (ordG g) (doneSt g T 1) T W (RL.out.2.2.2.below hW))
              have HRes := Lib.hid (fun (W : World) (hW : Below wr.heap.size wr W) => Results_any b m g (ordG g) (doneSt g T 1) T W (RL.out.2.2.2.below hW) (by have := RL.out.1.al; omega))
              have y1 := (Lib.cell_of_heap RL.out.2.2.1 1).trans (show _ = some (Value.slice a' g.actions.length cap') from rfl)
              have HSt := Lib.hid hst
              have hq : (((builtF g.actions T).length : Int) == (g.actions.length : Int)) = false := by rw [beq_eq_false_iff_ne]; omega
              clear hst hlen
              go_region_held3 (fun W => W.cell? ⟨w.heap.size, 1, none⟩ = some (.slice a' g.actions.length cap')) (first | exact y1 | exact (HBr.out.cell (p := ⟨w.heap.size, 1, none⟩) (Array.getElem?_eq_some_iff.1 RL.out.2.2.1).1).trans y1)
                (first
                  | (go_at_call 12; refine (HStt.out _ (by first | exact (Below.refl _ _).drew | exact HBr.out)).mono ?_; rintro e w20 ⟨rfl, rfl⟩; rw [HSt.out])
                  | (go_at_call 9; refine (HRes.out _ (Below.refl _ _).drew).mono ?_; rintro e w21 ⟨v21, rfl, hbl, hb21⟩; have HBr := Lib.hid (((Below.refl wr.heap.size wr).drew).trans hb21); obtain ⟨fa, fc, rfl, -, -⟩ := hbl; clear hb21))
              all_goals
                go_wp2_with fail
                go_ret
                exact ⟨rfl, RL.out.2.1.trans (HBr.out.mono RL.out.2.1.size)⟩
      · have hb : (c != 0) = true := by rw [bne_iff_ne]; exact hc
        clear hc hc4 ht4
        go_wp2_with fail
        go_ret
        exact ⟨rfl, HB4.out⟩
  · clear hg2
    go_wp2_with fail
    go_ret
    exact ⟨rfl, HB2.out⟩
end Go.Proofs.YtnifkpcjpjgkeaaGreatDoor
