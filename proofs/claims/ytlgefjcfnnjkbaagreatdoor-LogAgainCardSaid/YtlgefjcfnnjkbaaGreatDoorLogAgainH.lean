/- LogAgain: opened again, a log has the same batches, the same chain, and as many free segments. No conditions. -/
import Derived.Test.YtlgefjcfnnjkbaaGreatDoorTie
import Derived.Test.YtlgefjcfnnjkbaaGreatDoorCards
import Derived.ChangeSame
import Derived.JoinedOf
import Derived.LaidLaws
import Derived.SevenTiedAt
import Derived.Test.YtlgefjcfnnjkbaaGreatDoorP27
import Derived.Test.YtlgefjcfnnjkbaaGreatDoorP28
set_option linter.unusedVariables false
set_option linter.unusedSimpArgs false
set_option linter.unusedSectionVars false
namespace Go.Proofs.YtlgefjcfnnjkbaaGreatDoor
set_option maxRecDepth 100000
open Go.ChangeShapes Go.WideShapes Go.ChangeAt Go.RowKit Go.Joins Go.Deep

set_option maxHeartbeats 16000000 in
theorem logAgain_walk (w : World) (v0 v1 : Value) (gs : List (List (List UInt8))) (ns : List Int) (no : Option Addr) (nc : Nat) (hgs : GroupsAt w v0 gs) (hns : IntsAt w v1 ns no nc) (hg : errHandle w) :
    Calls Tryz.prog 5 #[v0, v1] w fun e w' => e = .returned (.bool true) ∧ Only (fun _ => False) w w' := by
  have SH := Lib.hid (fun W => shown_any W)
  have HGR := Lib.hid hgs
  clear hgs
  go_enter Tryz.func5, Tryz.ntmps5
  go_wp2_with fail
  refine (SH.out w).mono ?_
  rintro e w1 ⟨rfl, ho1⟩
  have HO1 := Lib.hid ho1
  clear ho1 SH
  go_wp2_with fail
  refine (new_any w1 48 (by decide) (by decide)).mono ?_
  rintro e w2 ⟨p, kb, rfl, hd2, hp2, hk2, ho2⟩
  have HW2 := Lib.hid (lw_new HO1.out hd2 hp2 hk2 ho2)
  have HPK := Lib.hid (show p < w2.heap.size ∧ kb < w2.heap.size from ⟨hd2.p_lt, hd2.kb_lt⟩)
  have MD := Lib.hid (made_any w2 p kb v0 gs hd2 (fun W hW => HGR.out.only (HW2.out.old hW)))
  clear hd2 hp2 hk2 ho2 HO1
  go_wp2_with fail
  refine MD.out.mono ?_
  rintro e w3 ⟨lb, pv, d, l, sure, all, vs, va, rfl, hlb, hDS, hM⟩
  obtain ⟨so, sc, rfl⟩ := hM.vs
  have HW3 := Lib.hid (HW2.out.step hDS)
  have HM := Lib.hid hM
  have HLB := Lib.hid (Nat.le_trans HW2.out.only.size hlb)
  have HS3 := Lib.hid hDS.only.size
  clear hlb hDS hM MD HGR HW2
  have cr := HM.out.st.cr8 HM.out.per HM.out.segs
  have hpd := HM.out.pend
  have HCR := Lib.hid (crash_both HW3.out hns (by omega))
  have key : ∀ c dc, ((c = 0 ∧ crashOk d.pend.length ns ∧ dc = d.crash (ns.map Int.toNat)) ∨ ((c : Int) = 21 ∧ dc = d)) → (∃ d' l' ps, Opd dc d' l' ps sure all) ∧ dc.kept.length = 48 ∧ dc.pend.length ≤ 2500 := fun c dc h => by
    rcases h with ⟨_, hok, rfl⟩ | ⟨_, rfl⟩
    · exact ⟨cr.crash HM.out.len (crash_lt hok), by rw [D.crash_len]; exact HM.out.len, by show 0 ≤ _; omega⟩
    · exact ⟨cr.still HM.out.len HM.out.cut, HM.out.len, hpd⟩
  have KEY := Lib.hid key
  clear key cr hpd
  go_wp2_with fail
  refine HCR.out.mono ?_
  rintro e w4 ⟨c, pv4, dc, rfl, hD4, hcase⟩
  obtain ⟨⟨d', l', ps, hO⟩, hlen, hpe⟩ := KEY.out c dc hcase
  have HW4 := Lib.hid (HW3.out.step hD4)
  have hop := lw_open HW4.out hg hlen (by omega)
  rw [hO.is] at hop
  have HOP := Lib.hid hop
  have hfew := hO.few
  have HO := Lib.hid hO
  have HS4 := Lib.hid (Nat.le_trans HS3.out hD4.only.size)
  clear hD4 hcase hop hO hlen KEY HCR HW3 HM HS3
  go_wp2_with fail
  refine HOP.out.mono ?_
  rintro e w5 ⟨pv5, lb5, psv, rfl, hlb5, hDS5, hLg5, hps5, _⟩
  have HW5 := Lib.hid (HW4.out.step hDS5)
  have HG5 := Lib.hid hLg5
  have HP5 := Lib.hid hps5
  have HS5 := Lib.hid (Nat.le_trans HS4.out hDS5.only.size)
  obtain ⟨d2, l2, hop2, hu2, hf2, _, _, hl2, _, _⟩ := open_again (per := 8) (segs := 6) (by decide) HO.out.len HO.out.cut HO.out.st
  have hop := lw_open HW5.out hg HO.out.len (by omega)
  rw [hop2] at hop
  have HOP2 := Lib.hid hop
  have HU2 := Lib.hid hu2
  have HF2 := Lib.hid hf2
  have HL2 := Lib.hid hl2
  clear hlb5 hDS5 hLg5 hps5 hfew hpe HOP HW4 hop hop2 hu2 hf2 hl2
  go_wp2_with fail
  refine HOP2.out.mono ?_
  rintro e w6 ⟨pv6, lb6, qsv, rfl, hlb6, hDS6, hLg6, hqs6, _⟩
  have HW6 := Lib.hid (HW5.out.step hDS6)
  have HG6 := Lib.hid (HG5.out.step hDS6 HL2.out)
  have HH6 := Lib.hid hLg6
  obtain ⟨po, pc, hps⟩ := sliceOf_own (HW5.out.row HP5.out (by decide) (by have := HPK.out.1; have := HS4.out; omega) (by have := HPK.out.2; have := HS4.out; omega) hDS6.only)
  obtain ⟨qo, qc, hqs⟩ := sliceOf_own hqs6
  have HSP := Lib.hid (samePieces_any w6 psv qsv ps po qo pc qc hps hqs)
  clear hlb6 hDS6 hLg6 hqs6 hps hqs HOP2 HW5 HG5 HP5 HL2
  go_wp2_with fail
  refine HSP.out.mono ?_
  rintro e w7 ⟨rfl, ho7⟩
  have HW7 := Lib.hid (HW6.out.quiet ho7)
  have hch1 := chain_any w7 lb5 p kb pv6 d2 l' (HG6.out.quiet ho7)
  have hch2 := fun W (ho : Only (fun _ => False) w7 W) => chain_any W lb6 p kb pv6 d2 l2 ((HH6.out.quiet ho7).quiet ho)
  have hfr1 := fun W (ho : Only (fun _ => False) w7 W) => free_any W lb5 p kb pv6 d2 l' ((HG6.out.quiet ho7).quiet ho)
  have hfr2 := fun W (ho : Only (fun _ => False) w7 W) => free_any W lb6 p kb pv6 d2 l2 ((HH6.out.quiet ho7).quiet ho)
  rw [HU2.out] at hch2
  rw [HF2.out] at hfr2
  have HC1 := Lib.hid hch1
  have HC2 := Lib.hid hch2
  have HF1 := Lib.hid hfr1
  have HF3 := Lib.hid hfr2
  generalize l'.uses = us at HC1 HC2
  generalize l'.free = fr at HF1 HF3
  clear ho7 HSP HW6 HG6 HH6 hch1 hch2 hfr1 hfr2 HU2 HF2
  go_wp2_with fail
  refine HC1.out.mono ?_
  rintro e w8 ⟨cv, rfl, hcr, ho8⟩
  have HO8 := Lib.hid ho8
  have HR8 := Lib.hid hcr
  have HC3 := Lib.hid (HC2.out w8 ho8)
  clear hcr ho8 HC1 HC2
  go_wp2_with fail
  refine HC3.out.mono ?_
  rintro e w9 ⟨cw, rfl, hcr, ho9⟩
  obtain ⟨co, cc, hcs⟩ := sliceOf_own (row_quiet HR8.out ho9)
  obtain ⟨xo, xc, hxs⟩ := sliceOf_own hcr
  have HSU := Lib.hid (sameUses_any w9 cv cw us co xo cc xc hcs hxs)
  have HO9 := Lib.hid (HO8.out.trans ho9)
  clear hcr ho9 hcs hxs HC3 HR8 HO8
  go_wp2_with fail
  refine HSU.out.mono ?_
  rintro e wa ⟨rfl, hoa⟩
  have HOA := Lib.hid (HO9.out.trans hoa)
  clear hoa HSU HO9
  have hfa := HF1.out wa HOA.out
  have HFA := Lib.hid hfa
  clear hfa HF1
  go_wp2_with fail
  refine HFA.out.mono ?_
  rintro e wb ⟨rfl, hob⟩
  have HOB := Lib.hid (HOA.out.trans hob)
  have HFB := Lib.hid (HF3.out wb HOB.out)
  clear hob HFA HOA HF3
  go_wp2_with fail
  refine HFB.out.mono ?_
  rintro e wc ⟨rfl, hoc⟩
  have HOC := Lib.hid (HW7.out.only.trans (HOB.out.trans hoc))
  clear hoc HFB HOB HW7
  go_wp2_with fail
  go_ret
  exact ⟨rfl, HOC.out⟩

set_option maxRecDepth 100000 in
theorem logAgain_lifted (os : Os) (started : os.Started) (H : Type) (enc : TypeId × Value → H) :
    ReturnsInHanded {} Tryz.checked os 5 .any (fun w args => (Rows.logAgainSpec.pre enc Tryz.prog Tryz.f5 [] false w args ∧ laidMetH Tryz.prog laidE w) ∧ sizedMet enc Tryz.prog Tryz.f5 (OpenSpec.ofChange Rows.logAgainSpec) false w args) (Rows.logAgainSpec.post enc Tryz.prog Tryz.f5 false true false false) := by
  refine returnsInHanded_of_change_and (C := Tryz.checked) (X := fun w _ => laidMetH Tryz.prog laidE w) (fun _ _ _ hh h => h.of_heap hh) Tryz.own started (by kernel_rfl) Tryz.func5
    (ChangeSpec.witness_at (enc := enc) (C := Tryz.checked) (os := os) (X := fun w _ => laidMetH Tryz.prog laidE w) false (laidWorld os) #[.slice none 0 0, .slice none 0 0] 8 rfl (by kernel_rfl) (by kernel_rfl) (by kernel_rfl) (by kernel_rfl) (by kernel_rfl) (laidWorld_met os _)) ?_
  intro W base args ds gs before hval0 hW _ _ hL0 _
  have hL := handle_of_laid hL0
  have hval : ∀ (j : Nat) t v, Tryz.f5.params[j]? = some t → args[j]? = some v → Value.okWide Tryz.prog W .any base t v := hval0
  have hW' := hW
  obtain ⟨p, q, hA0, hV, rfl, hfz, hnd⟩ := hW
  have hA : DataW.TrodAll enc Tryz.prog W 0 (fun _ => true) true Tryz.f5.params.toList args.toList ds p := hA0
  rw [Tryz.params5] at hA hval
  obtain ⟨v0, vs0, d0, ds0, p0, q0, hargs, rfl, rfl, h0, r0⟩ := trodAll_cons hA
  obtain ⟨v1, vs1, d1, ds1, p1, q1, rfl, rfl, rfl, h1, r1⟩ := trodAll_cons r0
  obtain ⟨rfl, rfl, rfl⟩ := trodAll_nil r1
  obtain rfl : args = #[v0, v1] := by cases args; simp_all
  obtain ⟨rfl, rfl⟩ := trodVars_none hV
  clear hA0 hval0 hL0
  obtain ⟨gs, hgr⟩ := law_groups (hval 0 22 v0 rfl rfl) h0
  obtain ⟨ns, no, nc, hn, wn⟩ := law_ints Tryz.underlying42 Tryz.underlying3 (by kernel_rfl) (hval 1 42 v1 rfl rfl) h1
  refine (logAgain_walk W v0 v1 gs ns no nc hgr (intsAt_of hn (fun x hx => bounds_i64 (wn x hx))) hL).mono fun e W' ⟨he, ho⟩ => ?_
  subst he
  exact ⟨_, rfl, law_post rfl hW' (by kernel_rfl) (of_decide_eq_true (by kernel_rfl)) rfl rfl rfl ho⟩
theorem logAgain_row : Rows.LogAgainSaid :=
  OpenClaim.holds_of_wide 5 Tryz.f5 rfl rfl rfl rfl rfl rfl rfl ⟨rfl, rfl, rfl, rfl, rfl⟩ rfl rfl rfl rfl rfl (by kernel_rfl) Tryz.func5 (by kernel_rfl)
    (of_decide_eq_true (by kernel_rfl)) (by unfold Func.isWrapper; first | (rw [if_pos (by decide +kernel)]; kernel_rfl) | (rw [if_neg (by decide +kernel)]; exact ⟨rfl, rfl⟩))
    (fun os started H enc _ => logAgain_lifted os started H enc)
theorem logAgain_stand : (Tryz.f5.params.toList.all fun t => !Tryz.prog.wantsStandIn t) = true := by kernel_rfl
theorem logAgain_holds : Rows.LogAgainCardSaid :=
  Claim7.holds_tied_plain_at .later [] [.handle] true _ true
    logAgain_row (fun _ h => by cases h) (by kernel_rfl) (fun _ h => by cases h) logAgain_row_tie rfl ⟨rfl, rfl⟩ (by kernel_rfl) rfl
    (fun f fn hf hfn => by
      obtain rfl : f = 5 := Option.some.inj (hf.symm.trans (show Tryz.prog.funcNamed "moraine/morainelaw13.LogAgain" = some 5 by kernel_rfl))
      obtain rfl : fn = Tryz.f5 := (Option.some.inj (Tryz.func5.symm.trans hfn)).symm
      exact ⟨by kernel_rfl, fun j t ht => by
        have h1 := List.all_eq_true.1 logAgain_stand t (Array.mem_toList_iff.2 (Array.mem_of_getElem? ht))
        exact (show Tryz.prog.wantsStandIn t = false by simpa using h1)⟩)
    (by kernel_rfl)
end Go.Proofs.YtlgefjcfnnjkbaaGreatDoor
