/- LogRots: of a log in which one byte of one sector rots: it is told, with a sector, or what is found is the same. No conditions. -/
import Derived.Test.YtlgefjcfnnjkbaaGreatDoorTie
import Derived.Test.YtlgefjcfnnjkbaaGreatDoorCards
import Derived.ChangeSame
import Derived.JoinedOf
import Derived.LaidLaws
import Derived.SevenTiedAt
import Derived.Test.YtlgefjcfnnjkbaaGreatDoorP27
import Derived.Test.YtlgefjcfnnjkbaaGreatDoorP28
set_option linter.unusedVariables false
set_option linter.unusedSimpArgs false
set_option linter.unusedSectionVars false
namespace Go.Proofs.YtlgefjcfnnjkbaaGreatDoor
set_option maxRecDepth 100000
open Go.ChangeShapes Go.WideShapes Go.ChangeAt Go.RowKit Go.Joins Go.Deep

set_option maxHeartbeats 16000000 in
theorem logRots_walk (w : World) (v0 : Value) (gs : List (List (List UInt8))) (at_ place : Int) (m : Nat) (hat : I64 at_) (hpl : I64 place) (hm : m ≤ 255) (hgs : GroupsAt w v0 gs) (hg : errHandle w) :
    Calls Tryz.prog 7 #[v0, .int .i64 at_, .int .i64 place, .int .u8 (m : Int)] w fun e w' => e = .returned (.bool true) ∧ Only (fun _ => False) w w' := by
  obtain ⟨k, hk1, hk2⟩ := pick_nat at_ 48 (by decide)
  obtain ⟨q, hq1, hq2⟩ := pick_nat place 64 (by decide)
  have P1 := Lib.hid (fun W => pick13_any W at_ 48 hat (by decide) (by decide))
  have P2 := Lib.hid (fun W => pick13_any W place 64 hpl (by decide) (by decide))
  rw [← hk1] at P1
  rw [← hq1] at P2
  clear hk1 hq1
  have SH := Lib.hid (fun W => shown_any W)
  have HGR := Lib.hid hgs
  clear hgs
  go_enter Tryz.func7, Tryz.ntmps7
  go_wp2_with fail
  refine (SH.out w).mono ?_
  rintro e w1 ⟨rfl, ho1⟩
  have HO1 := Lib.hid ho1
  clear ho1 SH
  go_wp2_with fail
  refine (new_any w1 48 (by decide) (by decide)).mono ?_
  rintro e w2 ⟨p, kb, rfl, hd2, hp2, hk2, ho2⟩
  have HW2 := Lib.hid (lw_new HO1.out hd2 hp2 hk2 ho2)
  have HPK := Lib.hid (show p < w2.heap.size ∧ kb < w2.heap.size from ⟨hd2.p_lt, hd2.kb_lt⟩)
  have MD := Lib.hid (made_any w2 p kb v0 gs hd2 (fun W hW => HGR.out.only (HW2.out.old hW)))
  clear hd2 hp2 hk2 ho2 HO1
  go_wp2_with fail
  refine MD.out.mono ?_
  rintro e w3 ⟨lb, pv, d, l, sure, all, vs, va, rfl, hlb, hDS, hM⟩
  obtain ⟨so, sc, rfl⟩ := hM.vs
  have HW3 := Lib.hid (HW2.out.step hDS)
  have HM := Lib.hid hM
  have HLB := Lib.hid (Nat.le_trans HW2.out.only.size hlb)
  have HS3 := Lib.hid hDS.only.size
  clear hlb hDS hM MD HGR HW2
  have hpd := HM.out.pend
  have hSH := shut_any w3 lb p kb pv d l HM.out.at_ HM.out.st.shutOk (by omega)
  have hsc := HM.out.sect.shut l
  obtain ⟨d3, l3, e3, q1, q2, _, q4, _, q6, q7, q8⟩ := shut_steps HM.out.st
  rw [q1] at hSH hsc
  simp only at hsc
  obtain rfl : e3 = 0 := q2 HM.out.cut
  obtain ⟨l', ps, hop, hps, _, dok, hpe⟩ := (q8 rfl).opst
  rw [q6, q7, HM.out.per, HM.out.segs] at hop
  have hlen : d3.kept.length = 48 := by rw [q4.len]; exact HM.out.len
  have hrp := rot_opst (per := 8) (segs := 6) (by decide) dok hlen (q4.cut HM.out.cut) hpe hsc hop k q m (by omega) (by omega) hm
  have HSH := Lib.hid hSH
  have HPS := Lib.hid hps
  have HRP := Lib.hid hrp
  have HLEN := Lib.hid hlen
  have HPE := Lib.hid hpe
  clear hSH hsc q1 q2 q4 q6 q7 q8 hop hps dok hpe hrp hlen hpd
  go_wp2_with fail
  refine HSH.out.mono ?_
  rintro e w4 ⟨pv4, rfl, hL4⟩
  have HW4 := Lib.hid (HW3.out.lstep HLB.out hL4)
  have HVA := Lib.hid (hL4.rowT HM.out.at_ HM.out.row (by decide) (by decide) HPK.out.1 HPK.out.2)
  have HR4 := Lib.hid (HW4.out.rot (k := k) (place := q) (mask := m) (by rw [HLEN.out]; omega) (by omega) hm)
  clear hL4 HSH HW3 HM HS3
  have hm2 : (m : Int) % 18446744073709551616 = m := by omega
  go_wp2_with fail
  refine (P1.out _).mono ?_
  rintro e wx ⟨rfl, rfl⟩
  go_wp2_with fail
  refine (P2.out _).mono ?_
  rintro e wx ⟨rfl, rfl⟩
  go_wp2_with fail
  refine HR4.out.mono ?_
  rintro e w5 ⟨rfl, hD5⟩
  have HW5 := Lib.hid (HW4.out.step hD5)
  have HVB := Lib.hid (HW4.out.row HVA.out (by decide) HPK.out.1 HPK.out.2 hD5.only)
  have hop := lw_open HW5.out hg (by rw [rot_len]; exact HLEN.out) (by show d3.pend.length ≤ _; rw [HPE.out]; simp)
  have hrp := HRP.out
  rw [HLEN.out] at hrp
  generalize openL (d3.rot k q m) 8 = R at hop hrp
  have HOP := Lib.hid hop
  clear hD5 hop HR4 HRP HW4 HVA HLEN HPE hm2
  go_wp2_with fail
  refine HOP.out.mono ?_
  cases R with
  | err d' e1 => exact hrp.elim
  | rot x =>
    rintro e w6 ⟨rfl, ho6⟩
    have HW6 := Lib.hid (HW5.out.quiet ho6).only
    have hx : x < 48 := hrp
    clear ho6 HOP HW5 hrp HVB
    go_wp2_with fail
    go_ret
    exact ⟨rfl, HW6.out⟩
  | ok d6 l6 p6 =>
    have hp6 : p6 = ps := hrp
    subst hp6
    rintro e w6 ⟨pv6, lb6, psv, rfl, hlb6, hDS6, hLg6, hps6, _⟩
    have HW6 := Lib.hid (HW5.out.step hDS6)
    obtain ⟨po, pc, hps⟩ := sliceOf_own hps6
    obtain ⟨ao, ac, hva⟩ := sliceOf_own (HW5.out.row HVB.out (by decide) HPK.out.1 HPK.out.2 hDS6.only)
    have hpl : p6.length = all.length := by have := congrArg List.length HPS.out; simpa using this
    have HBG := Lib.hid (begins_any w6 psv va p6 all po ao pc ac hps hva (by rw [HPS.out]; exact List.prefix_rfl))
    obtain rfl := hps.val
    obtain rfl := hva.val
    rw [hpl] at HBG ⊢
    have hee : ((all.length : Int) == (all.length : Int)) = true := by simp
    clear hlb6 hDS6 hLg6 hps6 hps hva HOP HW5 HVB hrp hpl
    go_wp2_with fail
    refine HBG.out.mono ?_
    rintro e w7 ⟨rfl, ho7⟩
    have HW7 := Lib.hid (HW6.out.quiet ho7).only
    clear ho7 HBG HW6
    go_wp2_with fail
    go_ret
    exact ⟨rfl, HW7.out⟩

set_option maxRecDepth 100000 in
theorem logRots_lifted (os : Os) (started : os.Started) (H : Type) (enc : TypeId × Value → H) :
    ReturnsInHanded {} Tryz.checked os 7 .any (fun w args => (Rows.logRotsSpec.pre enc Tryz.prog Tryz.f7 [] false w args ∧ laidMetH Tryz.prog laidE w) ∧ sizedMet enc Tryz.prog Tryz.f7 (OpenSpec.ofChange Rows.logRotsSpec) false w args) (Rows.logRotsSpec.post enc Tryz.prog Tryz.f7 false true false false) := by
  refine returnsInHanded_of_change_and (C := Tryz.checked) (X := fun w _ => laidMetH Tryz.prog laidE w) (fun _ _ _ hh h => h.of_heap hh) Tryz.own started (by kernel_rfl) Tryz.func7
    (ChangeSpec.witness_at (enc := enc) (C := Tryz.checked) (os := os) (X := fun w _ => laidMetH Tryz.prog laidE w) false (laidWorld os) #[.slice none 0 0, .int .i64 0, .int .i64 0, .int .u8 0] 8 rfl (by kernel_rfl) (by kernel_rfl) (by kernel_rfl) (by kernel_rfl) (by kernel_rfl) (laidWorld_met os _)) ?_
  intro W base args ds gs before hval0 hW _ _ hL0 _
  have hL := handle_of_laid hL0
  have hval : ∀ (j : Nat) t v, Tryz.f7.params[j]? = some t → args[j]? = some v → Value.okWide Tryz.prog W .any base t v := hval0
  have hW' := hW
  obtain ⟨p, q, hA0, hV, rfl, hfz, hnd⟩ := hW
  have hA : DataW.TrodAll enc Tryz.prog W 0 (fun _ => true) true Tryz.f7.params.toList args.toList ds p := hA0
  rw [Tryz.params7] at hA hval
  obtain ⟨v0, vs0, d0, ds0, p0, q0, hargs, rfl, rfl, h0, r0⟩ := trodAll_cons hA
  obtain ⟨v1, vs1, d1, ds1, p1, q1, rfl, rfl, rfl, h1, r1⟩ := trodAll_cons r0
  obtain ⟨v2, vs2, d2, ds2, p2, q2, rfl, rfl, rfl, h2, r2⟩ := trodAll_cons r1
  obtain ⟨v3, vs3, d3, ds3, p3, q3, rfl, rfl, rfl, h3, r3⟩ := trodAll_cons r2
  obtain ⟨rfl, rfl, rfl⟩ := trodAll_nil r3
  obtain rfl : args = #[v0, v1, v2, v3] := by cases args; simp_all
  obtain ⟨rfl, rfl⟩ := trodVars_none hV
  clear hA0 hval0 hL0
  obtain ⟨gs, hgr⟩ := law_groups (hval 0 22 v0 rfl rfl) h0
  obtain ⟨b, rfl, _, _, wb⟩ := open_int Tryz.underlying3 (hval 1 3 v1 rfl rfl) h1
  obtain ⟨c, rfl, _, _, wc⟩ := open_int Tryz.underlying3 (hval 2 3 v2 rfl rfl) h2
  obtain ⟨m, rfl, _, _, wm⟩ := open_int Tryz.underlying5 (hval 3 5 v3 rfl rfl) h3
  obtain ⟨m, rfl, hm⟩ := nat_of_u8 wm
  refine (logRots_walk W v0 gs b c m (bounds_i64 wb) (bounds_i64 wc) hm hgr hL).mono fun e W' ⟨he, ho⟩ => ?_
  subst he
  exact ⟨_, rfl, law_post rfl hW' (by kernel_rfl) (of_decide_eq_true (by kernel_rfl)) rfl rfl rfl ho⟩
theorem logRots_row : Rows.LogRotsSaid :=
  OpenClaim.holds_of_wide 7 Tryz.f7 rfl rfl rfl rfl rfl rfl rfl ⟨rfl, rfl, rfl, rfl, rfl⟩ rfl rfl rfl rfl rfl (by kernel_rfl) Tryz.func7 (by kernel_rfl)
    (of_decide_eq_true (by kernel_rfl)) (by unfold Func.isWrapper; first | (rw [if_pos (by decide +kernel)]; kernel_rfl) | (rw [if_neg (by decide +kernel)]; exact ⟨rfl, rfl⟩))
    (fun os started H enc _ => logRots_lifted os started H enc)
theorem logRots_stand : (Tryz.f7.params.toList.all fun t => !Tryz.prog.wantsStandIn t) = true := by kernel_rfl
theorem logRots_holds : Rows.LogRotsCardSaid :=
  Claim7.holds_tied_plain_at .later [] [.handle] true _ true
    logRots_row (fun _ h => by cases h) (by kernel_rfl) (fun _ h => by cases h) logRots_row_tie rfl ⟨rfl, rfl⟩ (by kernel_rfl) rfl
    (fun f fn hf hfn => by
      obtain rfl : f = 7 := Option.some.inj (hf.symm.trans (show Tryz.prog.funcNamed "moraine/morainelaw13.LogRots" = some 7 by kernel_rfl))
      obtain rfl : fn = Tryz.f7 := (Option.some.inj (Tryz.func7.symm.trans hfn)).symm
      exact ⟨by kernel_rfl, fun j t ht => by
        have h1 := List.all_eq_true.1 logRots_stand t (Array.mem_toList_iff.2 (Array.mem_of_getElem? ht))
        exact (show Tryz.prog.wantsStandIn t = false by simpa using h1)⟩)
    (by kernel_rfl)
end Go.Proofs.YtlgefjcfnnjkbaaGreatDoor
