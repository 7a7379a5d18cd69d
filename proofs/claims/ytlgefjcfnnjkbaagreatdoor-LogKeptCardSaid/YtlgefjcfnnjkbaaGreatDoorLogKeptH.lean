/- LogKept: what is opened behind a power loss is there as it was found, whatever one byte rots then, or it is told. No conditions. -/
import Derived.Test.YtlgefjcfnnjkbaaGreatDoorTie
import Derived.Test.YtlgefjcfnnjkbaaGreatDoorCards
import Derived.ChangeSame
import Derived.JoinedOf
import Derived.LaidLaws
import Derived.SevenTiedAt
import Derived.Test.YtlgefjcfnnjkbaaGreatDoorP27
import Derived.Test.YtlgefjcfnnjkbaaGreatDoorP28
set_option linter.unusedVariables false
set_option linter.unusedSimpArgs false
set_option linter.unusedSectionVars false
namespace Go.Proofs.YtlgefjcfnnjkbaaGreatDoor
set_option maxRecDepth 100000
open Go.ChangeShapes Go.WideShapes Go.ChangeAt Go.RowKit Go.Joins Go.Deep

set_option maxHeartbeats 16000000 in
theorem logKept_walk (w : World) (v0 v1 : Value) (gs : List (List (List UInt8))) (ns : List Int) (no : Option Addr) (nc : Nat) (at_ : Int) (m : Nat) (hat : I64 at_) (hm : m ≤ 255) (hgs : GroupsAt w v0 gs) (hns : IntsAt w v1 ns no nc) (hg : errHandle w) :
    Calls Tryz.prog 8 #[v0, v1, .int .i64 at_, .int .u8 (m : Int)] w fun e w' => e = .returned (.bool true) ∧ Only (fun _ => False) w w' := by
  obtain ⟨k, hk1, hk2⟩ := pick_nat at_ 48 (by decide)
  obtain ⟨q, hq1, hq2⟩ := pick_nat at_ 64 (by decide)
  have P1 := Lib.hid (fun W => pick13_any W at_ 48 hat (by decide) (by decide))
  have P2 := Lib.hid (fun W => pick13_any W at_ 64 hat (by decide) (by decide))
  rw [← hk1] at P1
  rw [← hq1] at P2
  clear hk1 hq1
  have SH := Lib.hid (fun W => shown_any W)
  have HGR := Lib.hid hgs
  clear hgs
  go_enter Tryz.func8, Tryz.ntmps8
  go_wp2_with fail
  refine (SH.out w).mono ?_
  rintro e w1 ⟨rfl, ho1⟩
  have HO1 := Lib.hid ho1
  clear ho1 SH
  go_wp2_with fail
  refine (new_any w1 48 (by decide) (by decide)).mono ?_
  rintro e w2 ⟨p, kb, rfl, hd2, hp2, hk2, ho2⟩
  have HW2 := Lib.hid (lw_new HO1.out hd2 hp2 hk2 ho2)
  have HPK := Lib.hid (show p < w2.heap.size ∧ kb < w2.heap.size from ⟨hd2.p_lt, hd2.kb_lt⟩)
  have MD := Lib.hid (made_any w2 p kb v0 gs hd2 (fun W hW => HGR.out.only (HW2.out.old hW)))
  clear hd2 hp2 hk2 ho2 HO1
  go_wp2_with fail
  refine MD.out.mono ?_
  rintro e w3 ⟨lb, pv, d, l, sure, all, vs, va, rfl, hlb, hDS, hM⟩
  obtain ⟨so, sc, rfl⟩ := hM.vs
  have HW3 := Lib.hid (HW2.out.step hDS)
  have HM := Lib.hid hM
  have HLB := Lib.hid (Nat.le_trans HW2.out.only.size hlb)
  have HS3 := Lib.hid hDS.only.size
  clear hlb hDS hM MD HGR HW2
  have cr := HM.out.st.cr8 HM.out.per HM.out.segs
  have hpd := HM.out.pend
  by_cases hok : crashOk d.pend.length ns
  · obtain ⟨d', l', ps, hO⟩ := cr.crash HM.out.len (crash_lt hok)
    have HCR := Lib.hid (crash_ok w3 p kb pv d ns v1 no nc HW3.out.da (HW3.out.ints hns) hok (by omega))
    have hlen : (d.crash (ns.map Int.toNat)).kept.length = 48 := by rw [D.crash_len]; exact HM.out.len
    have hpe : (d.crash (ns.map Int.toNat)).pend.length = 0 := rfl
    have hsc := HM.out.sect.crash (crash_lt hok)
    generalize d.crash (ns.map Int.toNat) = dc at hO HCR hlen hpe hsc
    have hsc2 := hsc.openL hO.is
    have hpe2 : d'.pend = [] := List.eq_nil_of_length_eq_zero (by have := hO.few; omega)
    have hrp := rot_opst (per := 8) (segs := 6) (by decide) hO.ok hO.len hO.cut hpe2 hsc2 hO.st k q m (by rw [hO.len]; omega) (by omega) hm
    have HO := Lib.hid hO
    have HLEN := Lib.hid hlen
    have HPE := Lib.hid hpe
    have HRP := Lib.hid hrp
    have HPE2 := Lib.hid hpe2
    clear hO hlen hpe cr hok hsc hsc2 hpe2 hrp
    go_wp2_with fail
    refine HCR.out.mono ?_
    rintro e w4 ⟨rfl, hd4, ho4⟩
    have HW4 := Lib.hid (HW3.out.turn hd4 ho4 (fun g h => by cases h))
    have HS4 := Lib.hid (Nat.le_trans HS3.out ho4.size)
    have hop := lw_open HW4.out hg HLEN.out (by rw [HPE.out]; omega)
    rw [HO.out.is] at hop
    have HOP := Lib.hid hop
    clear hd4 ho4 hop HCR HW3 HM HS3 HLEN HPE
    go_wp2_with fail
    refine HOP.out.mono ?_
    rintro e w5 ⟨pv5, lb5, psv, rfl, hlb5, hDS5, hLg5, hps5, _⟩
    have HW5 := Lib.hid (HW4.out.step hDS5)
    have HP5 := Lib.hid hps5
    have HR5 := Lib.hid (HW5.out.rot (k := k) (place := q) (mask := m) (by rw [HO.out.len]; omega) (by omega) hm)
    clear hlb5 hDS5 hLg5 hps5 HOP HW4
    have hm2 : (m : Int) % 18446744073709551616 = m := by omega
    go_wp2_with fail
    refine (P1.out _).mono ?_
    rintro e wx ⟨rfl, rfl⟩
    go_wp2_with fail
    refine (P2.out _).mono ?_
    rintro e wx ⟨rfl, rfl⟩
    go_wp2_with fail
    refine HR5.out.mono ?_
    rintro e w6 ⟨rfl, hD6⟩
    have HW6 := Lib.hid (HW5.out.step hD6)
    have HP6 := Lib.hid (HW5.out.row HP5.out (by decide) (by have := HPK.out.1; have := HS4.out; omega) (by have := HPK.out.2; have := HS4.out; omega) hD6.only)
    have hop := lw_open HW6.out hg (by rw [rot_len]; exact HO.out.len) (by show d'.pend.length ≤ _; rw [HPE2.out]; simp)
    have hrp := HRP.out
    rw [HO.out.len] at hrp
    generalize openL (d'.rot k q m) 8 = R at hop hrp
    have HOP := Lib.hid hop
    clear hD6 hop HR5 HRP HW5 HP5 HPE2 HO hm2
    go_wp2_with fail
    refine HOP.out.mono ?_
    cases R with
    | err d' e1 => exact hrp.elim
    | rot x =>
      rintro e w7 ⟨rfl, ho7⟩
      have HW7 := Lib.hid (HW6.out.quiet ho7).only
      clear ho7 HOP HW6 hrp HP6
      go_wp2_with fail
      go_ret
      exact ⟨rfl, HW7.out⟩
    | ok d7 l7 p7 =>
      have hp7 : p7 = ps := hrp
      subst hp7
      rintro e w7 ⟨pv7, lb7, qsv, rfl, hlb7, hDS7, hLg7, hqs7, _⟩
      have HW7 := Lib.hid (HW6.out.step hDS7)
      obtain ⟨po, pc, hps⟩ := sliceOf_own (HW6.out.row HP6.out (by decide) (by have := HPK.out.1; have := HS4.out; omega) (by have := HPK.out.2; have := HS4.out; omega) hDS7.only)
      obtain ⟨qo, qc, hqs⟩ := sliceOf_own hqs7
      have HSP := Lib.hid (samePieces_any w7 psv qsv p7 po qo pc qc hps hqs)
      clear hlb7 hDS7 hLg7 hqs7 hps hqs HOP HW6 HP6 hrp
      go_wp2_with fail
      refine HSP.out.mono ?_
      rintro e w8 ⟨rfl, ho8⟩
      have HW8 := Lib.hid (HW7.out.quiet ho8).only
      clear ho8 HSP HW7
      go_wp2_with fail
      go_ret
      exact ⟨rfl, HW8.out⟩
  · have HCR := Lib.hid (crash_bad w3 p kb pv d ns v1 no nc HW3.out.da (HW3.out.ints hns) hok (by omega))
    clear cr hok
    go_wp2_with fail
    refine HCR.out.mono ?_
    rintro e w4 ⟨rfl, ho4⟩
    have HW4 := Lib.hid (HW3.out.quiet ho4).only
    clear ho4 HCR HW3
    go_wp2_with fail
    go_ret
    exact ⟨rfl, HW4.out⟩

set_option maxRecDepth 100000 in
theorem logKept_lifted (os : Os) (started : os.Started) (H : Type) (enc : TypeId × Value → H) :
    ReturnsInHanded {} Tryz.checked os 8 .any (fun w args => (Rows.logKeptSpec.pre enc Tryz.prog Tryz.f8 [] false w args ∧ laidMetH Tryz.prog laidE w) ∧ sizedMet enc Tryz.prog Tryz.f8 (OpenSpec.ofChange Rows.logKeptSpec) false w args) (Rows.logKeptSpec.post enc Tryz.prog Tryz.f8 false true false false) := by
  refine returnsInHanded_of_change_and (C := Tryz.checked) (X := fun w _ => laidMetH Tryz.prog laidE w) (fun _ _ _ hh h => h.of_heap hh) Tryz.own started (by kernel_rfl) Tryz.func8
    (ChangeSpec.witness_at (enc := enc) (C := Tryz.checked) (os := os) (X := fun w _ => laidMetH Tryz.prog laidE w) false (laidWorld os) #[.slice none 0 0, .slice none 0 0, .int .i64 0, .int .u8 0] 8 rfl (by kernel_rfl) (by kernel_rfl) (by kernel_rfl) (by kernel_rfl) (by kernel_rfl) (laidWorld_met os _)) ?_
  intro W base args ds gs before hval0 hW _ _ hL0 _
  have hL := handle_of_laid hL0
  have hval : ∀ (j : Nat) t v, Tryz.f8.params[j]? = some t → args[j]? = some v → Value.okWide Tryz.prog W .any base t v := hval0
  have hW' := hW
  obtain ⟨p, q, hA0, hV, rfl, hfz, hnd⟩ := hW
  have hA : DataW.TrodAll enc Tryz.prog W 0 (fun _ => true) true Tryz.f8.params.toList args.toList ds p := hA0
  rw [Tryz.params8] at hA hval
  obtain ⟨v0, vs0, d0, ds0, p0, q0, hargs, rfl, rfl, h0, r0⟩ := trodAll_cons hA
  obtain ⟨v1, vs1, d1, ds1, p1, q1, rfl, rfl, rfl, h1, r1⟩ := trodAll_cons r0
  obtain ⟨v2, vs2, d2, ds2, p2, q2, rfl, rfl, rfl, h2, r2⟩ := trodAll_cons r1
  obtain ⟨v3, vs3, d3, ds3, p3, q3, rfl, rfl, rfl, h3, r3⟩ := trodAll_cons r2
  obtain ⟨rfl, rfl, rfl⟩ := trodAll_nil r3
  obtain rfl : args = #[v0, v1, v2, v3] := by cases args; simp_all
  obtain ⟨rfl, rfl⟩ := trodVars_none hV
  clear hA0 hval0 hL0
  obtain ⟨gs, hgr⟩ := law_groups (hval 0 22 v0 rfl rfl) h0
  obtain ⟨ns, no, nc, hn, wn⟩ := law_ints Tryz.underlying42 Tryz.underlying3 (by kernel_rfl) (hval 1 42 v1 rfl rfl) h1
  obtain ⟨b, rfl, _, _, wb⟩ := open_int Tryz.underlying3 (hval 2 3 v2 rfl rfl) h2
  obtain ⟨m, rfl, _, _, wm⟩ := open_int Tryz.underlying5 (hval 3 5 v3 rfl rfl) h3
  obtain ⟨m, rfl, hm⟩ := nat_of_u8 wm
  refine (logKept_walk W v0 v1 gs ns no nc b m (bounds_i64 wb) hm hgr (intsAt_of hn (fun x hx => bounds_i64 (wn x hx))) hL).mono fun e W' ⟨he, ho⟩ => ?_
  subst he
  exact ⟨_, rfl, law_post rfl hW' (by kernel_rfl) (of_decide_eq_true (by kernel_rfl)) rfl rfl rfl ho⟩
theorem logKept_row : Rows.LogKeptSaid :=
  OpenClaim.holds_of_wide 8 Tryz.f8 rfl rfl rfl rfl rfl rfl rfl ⟨rfl, rfl, rfl, rfl, rfl⟩ rfl rfl rfl rfl rfl (by kernel_rfl) Tryz.func8 (by kernel_rfl)
    (of_decide_eq_true (by kernel_rfl)) (by unfold Func.isWrapper; first | (rw [if_pos (by decide +kernel)]; kernel_rfl) | (rw [if_neg (by decide +kernel)]; exact ⟨rfl, rfl⟩))
    (fun os started H enc _ => logKept_lifted os started H enc)
theorem logKept_stand : (Tryz.f8.params.toList.all fun t => !Tryz.prog.wantsStandIn t) = true := by kernel_rfl
theorem logKept_holds : Rows.LogKeptCardSaid :=
  Claim7.holds_tied_plain_at .later [] [.handle] true _ true
    logKept_row (fun _ h => by cases h) (by kernel_rfl) (fun _ h => by cases h) logKept_row_tie rfl ⟨rfl, rfl⟩ (by kernel_rfl) rfl
    (fun f fn hf hfn => by
      obtain rfl : f = 8 := Option.some.inj (hf.symm.trans (show Tryz.prog.funcNamed "moraine/morainelaw13.LogKept" = some 8 by kernel_rfl))
      obtain rfl : fn = Tryz.f8 := (Option.some.inj (Tryz.func8.symm.trans hfn)).symm
      exact ⟨by kernel_rfl, fun j t ht => by
        have h1 := List.all_eq_true.1 logKept_stand t (Array.mem_toList_iff.2 (Array.mem_of_getElem? ht))
        exact (show Tryz.prog.wantsStandIn t = false by simpa using h1)⟩)
    (by kernel_rfl)
end Go.Proofs.YtlgefjcfnnjkbaaGreatDoor
