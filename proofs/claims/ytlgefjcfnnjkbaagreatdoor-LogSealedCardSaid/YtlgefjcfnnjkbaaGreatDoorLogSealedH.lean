/- LogSealed: what was sealed is found behind a power loss, of what was not a beginning is. No conditions. -/
import Derived.Test.YtlgefjcfnnjkbaaGreatDoorTie
import Derived.Test.YtlgefjcfnnjkbaaGreatDoorCards
import Derived.ChangeSame
import Derived.JoinedOf
import Derived.LaidLaws
import Derived.SevenTiedAt
import Derived.Test.YtlgefjcfnnjkbaaGreatDoorP25
import Derived.Test.YtlgefjcfnnjkbaaGreatDoorP26
import Derived.Test.YtlgefjcfnnjkbaaGreatDoorP27
set_option linter.unusedVariables false
set_option linter.unusedSimpArgs false
set_option linter.unusedSectionVars false
namespace Go.Proofs.YtlgefjcfnnjkbaaGreatDoor
set_option maxRecDepth 100000
open Go.ChangeShapes Go.WideShapes Go.ChangeAt Go.RowKit Go.Joins Go.Deep

set_option maxHeartbeats 16000000 in
theorem logSealed_walk (w : World) (v0 v1 : Value) (gs : List (List (List UInt8))) (ns : List Int) (no : Option Addr) (nc : Nat) (hgs : GroupsAt w v0 gs) (hns : IntsAt w v1 ns no nc) (hg : w.cell? ⟨0, 0, none⟩ = some (.iface 148 (.agg #[.pointer (some ⟨1, 76, none⟩)]))) :
    Calls Tryz.prog 4 #[v0, v1] w fun e w' => e = .returned (.bool true) ∧ Only (fun _ => False) w w' := by
  have SH := Lib.hid (fun W => shown_any W)
  have HGR := Lib.hid hgs
  clear hgs
  go_enter Tryz.func4, Tryz.ntmps4
  go_wp2_with fail
  refine (SH.out w).mono ?_
  rintro e w1 ⟨rfl, ho1⟩
  have HO1 := Lib.hid ho1
  clear ho1 SH
  go_wp2_with fail
  refine (new_any w1 48 (by decide) (by decide)).mono ?_
  rintro e w2 ⟨p, kb, rfl, hd2, hp2, hk2, ho2⟩
  have HW2 := Lib.hid (lw_new HO1.out hd2 hp2 hk2 ho2)
  have HPK := Lib.hid (show p < w2.heap.size ∧ kb < w2.heap.size from ⟨hd2.p_lt, hd2.kb_lt⟩)
  have MD := Lib.hid (made_any w2 p kb v0 gs hd2 (fun W hW => HGR.out.only (HW2.out.old hW)))
  clear hd2 hp2 hk2 ho2 HO1
  go_wp2_with fail
  refine MD.out.mono ?_
  rintro e w3 ⟨lb, pv, d, l, sure, all, vs, va, rfl, hlb, hDS, hM⟩
  obtain ⟨so, sc, rfl⟩ := hM.vs
  have HW3 := Lib.hid (HW2.out.step hDS)
  have HM := Lib.hid hM
  have HLB := Lib.hid (Nat.le_trans HW2.out.only.size hlb)
  have HS3 := Lib.hid hDS.only.size
  clear hlb hDS hM MD HGR HW2
  have cr := HM.out.st.cr8 HM.out.per HM.out.segs
  have hpd := HM.out.pend
  by_cases hok : crashOk d.pend.length ns
  · obtain ⟨d', l', ps, hO⟩ := cr.crash HM.out.len (crash_lt hok)
    have HCR := Lib.hid (crash_ok w3 p kb pv d ns v1 no nc HW3.out.da (HW3.out.ints hns) hok (by omega))
    have hlen : (d.crash (ns.map Int.toNat)).kept.length = 48 := by rw [D.crash_len]; exact HM.out.len
    have hpe : (d.crash (ns.map Int.toNat)).pend.length = 0 := rfl
    generalize d.crash (ns.map Int.toNat) = dc at hO HCR hlen hpe
    have HO := Lib.hid hO
    have HLEN := Lib.hid hlen
    have HPE := Lib.hid hpe
    clear hO hlen hpe cr hok
    go_wp2_with fail
    refine HCR.out.mono ?_
    rintro e w4 ⟨rfl, hd4, ho4⟩
    have HW4 := Lib.hid (HW3.out.turn hd4 ho4 (fun g h => by cases h))
    have HVA := Lib.hid (HW3.out.row HM.out.row (by decide) HPK.out.1 HPK.out.2 ho4)
    have HS4 := Lib.hid (Nat.le_trans HS3.out ho4.size)
    have hop := lw_open HW4.out hg HLEN.out (by rw [HPE.out]; omega)
    rw [HO.out.is] at hop
    have HOP := Lib.hid hop
    clear hd4 ho4 hop HCR HW3
    go_wp2_with fail
    refine HOP.out.mono ?_
    rintro e w5 ⟨pv5, lb5, psv, rfl, hlb5, hDS5, hLg5, hps5, _⟩
    have HW5 := Lib.hid (HW4.out.step hDS5)
    obtain ⟨po, pc, hps⟩ := sliceOf_own hps5
    obtain ⟨ao, ac, hva⟩ := sliceOf_own (HW4.out.row HVA.out (by decide) HPK.out.1 HPK.out.2 hDS5.only)
    have HBG := Lib.hid (begins_any w5 psv va ps all po ao pc ac hps hva HO.out.all)
    obtain rfl := hps.val
    obtain rfl := hva.val
    have hsu : (sure : Int) ≤ (ps.length : Int) := by have := HO.out.sure; omega
    clear hlb5 hDS5 hLg5 hps5 hps hva HOP HW4 HVA
    go_wp2_with fail
    refine HBG.out.mono ?_
    rintro e w6 ⟨rfl, ho6⟩
    have HW6 := Lib.hid (HW5.out.quiet ho6).only
    clear ho6 HBG HW5
    go_wp2_with fail
    go_ret
    exact ⟨rfl, HW6.out⟩
  · have HCR := Lib.hid (crash_bad w3 p kb pv d ns v1 no nc HW3.out.da (HW3.out.ints hns) hok (by omega))
    clear cr hok
    go_wp2_with fail
    refine HCR.out.mono ?_
    rintro e w4 ⟨rfl, ho4⟩
    have HW4 := Lib.hid (HW3.out.quiet ho4).only
    clear ho4 HCR HW3
    go_wp2_with fail
    go_ret
    exact ⟨rfl, HW4.out⟩

set_option maxRecDepth 100000 in
theorem logSealed_lifted (os : Os) (started : os.Started) (H : Type) (enc : TypeId × Value → H) :
    ReturnsInHanded {} Tryz.checked os 4 .any (fun w args => (Rows.logSealedSpec.pre enc Tryz.prog Tryz.f4 [] false w args ∧ laidMetH Tryz.prog laidE w) ∧ sizedMet enc Tryz.prog Tryz.f4 (OpenSpec.ofChange Rows.logSealedSpec) false w args) (Rows.logSealedSpec.post enc Tryz.prog Tryz.f4 false true false false) := by
  refine returnsInHanded_of_change_and (C := Tryz.checked) (X := fun w _ => laidMetH Tryz.prog laidE w) (fun _ _ _ hh h => h.of_heap hh) Tryz.own started (by kernel_rfl) Tryz.func4
    (ChangeSpec.witness_at (enc := enc) (C := Tryz.checked) (os := os) (X := fun w _ => laidMetH Tryz.prog laidE w) false (laidWorld os) #[.slice none 0 0, .slice none 0 0] 8 rfl (by kernel_rfl) (by kernel_rfl) (by kernel_rfl) (by kernel_rfl) (by kernel_rfl) (laidWorld_met os _)) ?_
  intro W base args ds gs before hval0 hW _ _ hL0 _
  have hL := handle_of_laid hL0
  have hval : ∀ (j : Nat) t v, Tryz.f4.params[j]? = some t → args[j]? = some v → Value.okWide Tryz.prog W .any base t v := hval0
  have hW' := hW
  obtain ⟨p, q, hA0, hV, rfl, hfz, hnd⟩ := hW
  have hA : DataW.TrodAll enc Tryz.prog W 0 (fun _ => true) true Tryz.f4.params.toList args.toList ds p := hA0
  rw [Tryz.params4] at hA hval
  obtain ⟨v0, vs0, d0, ds0, p0, q0, hargs, rfl, rfl, h0, r0⟩ := trodAll_cons hA
  obtain ⟨v1, vs1, d1, ds1, p1, q1, rfl, rfl, rfl, h1, r1⟩ := trodAll_cons r0
  obtain ⟨rfl, rfl, rfl⟩ := trodAll_nil r1
  obtain rfl : args = #[v0, v1] := by cases args; simp_all
  obtain ⟨rfl, rfl⟩ := trodVars_none hV
  clear hA0 hval0 hL0
  obtain ⟨gs, hgr⟩ := law_groups (hval 0 22 v0 rfl rfl) h0
  obtain ⟨ns, no, nc, hn, wn⟩ := law_ints Tryz.underlying42 Tryz.underlying3 (by kernel_rfl) (hval 1 42 v1 rfl rfl) h1
  refine (logSealed_walk W v0 v1 gs ns no nc hgr (intsAt_of hn (fun x hx => bounds_i64 (wn x hx))) hL).mono fun e W' ⟨he, ho⟩ => ?_
  subst he
  exact ⟨_, rfl, law_post rfl hW' (by kernel_rfl) (of_decide_eq_true (by kernel_rfl)) rfl rfl rfl ho⟩
theorem logSealed_row : Rows.LogSealedSaid :=
  OpenClaim.holds_of_wide 4 Tryz.f4 rfl rfl rfl rfl rfl rfl rfl ⟨rfl, rfl, rfl, rfl, rfl⟩ rfl rfl rfl rfl rfl (by kernel_rfl) Tryz.func4 (by kernel_rfl)
    (of_decide_eq_true (by kernel_rfl)) (by unfold Func.isWrapper; first | (rw [if_pos (by decide +kernel)]; kernel_rfl) | (rw [if_neg (by decide +kernel)]; exact ⟨rfl, rfl⟩))
    (fun os started H enc _ => logSealed_lifted os started H enc)
theorem logSealed_stand : (Tryz.f4.params.toList.all fun t => !Tryz.prog.wantsStandIn t) = true := by kernel_rfl
theorem logSealed_holds : Rows.LogSealedCardSaid :=
  Claim7.holds_tied_plain_at .later [] [.handle] true _ true
    logSealed_row (fun _ h => by cases h) (by kernel_rfl) (fun _ h => by cases h) logSealed_row_tie rfl ⟨rfl, rfl⟩ (by kernel_rfl) rfl
    (fun f fn hf hfn => by
      obtain rfl : f = 4 := Option.some.inj (hf.symm.trans (show Tryz.prog.funcNamed "moraine/morainelaw13.LogSealed" = some 4 by kernel_rfl))
      obtain rfl : fn = Tryz.f4 := (Option.some.inj (Tryz.func4.symm.trans hfn)).symm
      exact ⟨by kernel_rfl, fun j t ht => by
        have h1 := List.all_eq_true.1 logSealed_stand t (Array.mem_toList_iff.2 (Array.mem_of_getElem? ht))
        exact (show Tryz.prog.wantsStandIn t = false by simpa using h1)⟩)
    (by kernel_rfl)
end Go.Proofs.YtlgefjcfnnjkbaaGreatDoor
