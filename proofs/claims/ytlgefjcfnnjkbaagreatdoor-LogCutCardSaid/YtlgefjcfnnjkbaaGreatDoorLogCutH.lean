/- LogCut: wherever power goes in appending and sealing, and whatever is kept, what is opened then has a beginning of the batches, all that were sealed with them. No conditions. -/
import Derived.Test.YtlgefjcfnnjkbaaGreatDoorTie
import Derived.Test.YtlgefjcfnnjkbaaGreatDoorCards
import Derived.ChangeSame
import Derived.JoinedOf
import Derived.LaidLaws
import Derived.SevenTiedAt
import Derived.Test.YtlgefjcfnnjkbaaGreatDoorP27
import Derived.Test.YtlgefjcfnnjkbaaGreatDoorP28
set_option linter.unusedVariables false
set_option linter.unusedSimpArgs false
set_option linter.unusedSectionVars false
namespace Go.Proofs.YtlgefjcfnnjkbaaGreatDoor
set_option maxRecDepth 100000
open Go.ChangeShapes Go.WideShapes Go.ChangeAt Go.RowKit Go.Joins Go.Deep

set_option maxHeartbeats 16000000 in
theorem logCut_walk (w : World) (v0 v1 v3 : Value) (gs : List (List (List UInt8))) (more : List (List UInt8)) (mo : Option Addr) (mc : Nat) (ns : List Int) (no : Option Addr) (nc : Nat) (at_ : Int) (hat : I64 at_) (hgs : GroupsAt w v0 gs) (hmore : SliceOf w v1 more.length (txts more) mo mc) (hml : ∀ b ∈ more, b.length ≤ maxLen) (hns : IntsAt w v3 ns no nc) (hg : errHandle w) :
    Calls Tryz.prog 6 #[v0, v1, .int .i64 at_, v3] w fun e w' => e = .returned (.bool true) ∧ Only (fun _ => False) w w' := by
  obtain ⟨k, hk1, hk2⟩ := pick_nat at_ 30 (by decide)
  have P1 := Lib.hid (fun W => pick13_any W at_ 30 hat (by decide) (by decide))
  rw [← hk1] at P1
  clear hk1
  have FW := Lib.hid (fun W (ho : Only (fun _ => False) w W) => few_any W v1 more mo mc (hmore.only ho) hml)
  have hfl := fewL_length more
  have hf2 := fewL_len more
  generalize fewL more = s at FW hfl hf2
  have HF2 := Lib.hid hf2
  clear hmore hml hf2
  have SH := Lib.hid (fun W => shown_any W)
  have HGR := Lib.hid hgs
  clear hgs
  go_enter Tryz.func6, Tryz.ntmps6
  go_wp2_with fail
  refine (SH.out w).mono ?_
  rintro e w1 ⟨rfl, ho1⟩
  have HO1 := Lib.hid ho1
  clear ho1 SH
  go_wp2_with fail
  refine (new_any w1 48 (by decide) (by decide)).mono ?_
  rintro e w2 ⟨p, kb, rfl, hd2, hp2, hk2, ho2⟩
  have HW2 := Lib.hid (lw_new HO1.out hd2 hp2 hk2 ho2)
  have HPK := Lib.hid (show p < w2.heap.size ∧ kb < w2.heap.size from ⟨hd2.p_lt, hd2.kb_lt⟩)
  have MD := Lib.hid (made_any w2 p kb v0 gs hd2 (fun W hW => HGR.out.only (HW2.out.old hW)))
  clear hd2 hp2 hk2 ho2 HO1
  go_wp2_with fail
  refine MD.out.mono ?_
  rintro e w3 ⟨lb, pv, d, l, sure, all, vs, va, rfl, hlb, hDS, hM⟩
  obtain ⟨so, sc, rfl⟩ := hM.vs
  have HW3 := Lib.hid (HW2.out.step hDS)
  have HM := Lib.hid hM
  have HLB := Lib.hid (Nat.le_trans HW2.out.only.size hlb)
  have HS3 := Lib.hid hDS.only.size
  clear hlb hDS hM MD HGR HW2
  have hpd := HM.out.pend
  have hSH := shut_any w3 lb p kb pv d l HM.out.at_ HM.out.st.shutOk (by omega)
  obtain ⟨d3, l3, e3, q1, q2, _, q4, _, q6, q7, q8⟩ := shut_steps HM.out.st
  rw [q1] at hSH
  obtain rfl : e3 = 0 := q2 HM.out.cut
  have hst := ((q8 rfl).st).cutAt (n := k) (by omega)
  have hlen : d3.kept.length = 48 := by rw [q4.len]; exact HM.out.len
  have hpe3 : d3.pend.length ≤ 2501 := by have := q4.few; omega
  have hall := HM.out.few
  have HP8 := Lib.hid (show l3.per = 8 ∧ l3.segs = 6 from ⟨by rw [q6]; exact HM.out.per, by rw [q7]; exact HM.out.segs⟩)
  have HSH := Lib.hid hSH
  have HST := Lib.hid hst
  have HLEN := Lib.hid hlen
  clear hSH q1 q2 q4 q6 q7 q8 hst hlen hpd
  go_wp2_with fail
  refine HSH.out.mono ?_
  rintro e w4 ⟨pv4, rfl, hL4⟩
  have HW4 := Lib.hid (HW3.out.lstep HLB.out hL4)
  have HG4 := Lib.hid hL4.at_
  have HVA := Lib.hid (hL4.rowT HM.out.at_ HM.out.row (by decide) (by decide) HPK.out.1 HPK.out.2)
  have HFW := Lib.hid (FW.out w4 HW4.out.only)
  have HB4 := Lib.hid (show lb < w4.heap.size ∧ p < w4.heap.size ∧ kb < w4.heap.size from ⟨hL4.at_.lt, hL4.at_.da.p_lt, hL4.at_.da.kb_lt⟩)
  clear hL4 HSH HW3 HM HS3 FW
  go_wp2_with fail
  refine HFW.out.mono ?_
  rintro e w5 ⟨sv, rfl, hsr, ho5⟩
  have HW5 := Lib.hid (HW4.out.quiet ho5)
  have HG5 := Lib.hid (HG4.out.quiet ho5)
  have HVB := Lib.hid (row_quiet HVA.out ho5)
  have HSR := Lib.hid hsr
  have HFP := Lib.hid (fun b (hb : fp p kb pv4 b) => HW4.out.da.fp_lt b hb)
  have HCT := Lib.hid (HW5.out.cut k (by omega))
  clear hsr ho5 HFW HW4 HG4 HVA
  go_wp2_with fail
  refine (P1.out _).mono ?_
  rintro e wx ⟨rfl, rfl⟩
  go_wp2_with fail
  refine HCT.out.mono ?_
  rintro e w6 ⟨rfl, hD6⟩
  have HW6 := Lib.hid (HW5.out.step hD6)
  have HG6 := Lib.hid (HG5.out.step hD6 rfl)
  have HVC := Lib.hid (HW5.out.row HVB.out (by decide) HPK.out.1 HPK.out.2 hD6.only)
  have HSC := Lib.hid (HW5.out.row HSR.out (by decide) HB4.out.2.1 HB4.out.2.2 hD6.only)
  obtain ⟨so2, sc2, hsl⟩ := sliceOf_own HSC.out
  obtain rfl := hsl.val
  have hAP := append_steps HST.out HST.out.down s true
  have HAW := Lib.hid (append_any w6 lb p kb pv4 (d3.cutAt k) l3 HG6.out s _ so2 sc2 true hsl (fun b hb => by have := HF2.out b hb; omega) (by omega) (fun b o e => by
    have hb : (Value.slice so2 s.length sc2).ownBlock = some b := by rw [e]; rfl
    have h1 := ownBlock_ge HSC.out hb
    exact ⟨by have := HB4.out.1; omega, fun h3 => by have := HFP.out b h3; omega⟩) (HST.out.appendOk s true (by show d3.pend.length + 65 * s.length + 65 ≤ 1000000; omega)))
  have HLC := Lib.hid (show (d3.cutAt k).kept.length = 48 from HLEN.out)
  have hpc : (d3.cutAt k).pend.length ≤ 2501 := hpe3
  have hcr := HST.out.cr8 HP8.out.1 HP8.out.2
  generalize d3.cutAt k = dk at hAP HAW HLC hpc hcr HW6 HG6
  generalize l3.append dk s true = AP at hAP HAW
  obtain ⟨d7, l7, es, e7⟩ := AP
  simp only at hAP
  have HAP := Lib.hid hAP
  have HCR := Lib.hid hcr
  clear hD6 HCT HW5 HG5 HVB HSR hsl hAP hcr HST HLEN HF2 hpe3 hk2
  go_wp2_with fail
  refine HAW.out.mono ?_
  rintro e w7 ⟨pv7, ev, rfl, _, hL7⟩
  have HW7 : Hid (Lw w w7 p kb pv7 d7) := Lib.hid (HW6.out.lstep HLB.out hL7)
  have HG7 : Hid (LgAt w7 lb p kb pv7 d7 l7) := Lib.hid hL7.at_
  have HVD := Lib.hid (hL7.rowT HG6.out HVC.out (by decide) (by decide) HPK.out.1 HPK.out.2)
  have HSD := Lib.hid (hL7.rowB HG6.out HSC.out (by decide) HB4.out.1 HB4.out.2.1 HB4.out.2.2)
  clear hL7 HAW HW6 HG6 HVC HSC HFP
  have hm := HAP.out
  clear HAP
  cases hm with
  | no e he =>
    have hne : (e7 == 0) = false := by rcases he with rfl | rfl | rfl <;> decide
    have HCT := Lib.hid (cr_all (x := s) HCR.out)
    have HLT := HLC
    have hpT := hpc
    have HWT := HW7
    have HVT := HVD
    have HST := HSD
    clear he HCR HW7 HVD HSD HLC hpc HG7 HP8
    have hok0 := hpT
    by_cases hok : crashOk dk.pend.length ns
    · obtain ⟨d', l', ps, hO⟩ := HCT.out.crash HLT.out (crash_lt hok)
      have HCR := Lib.hid (crash_ok w7 p kb pv7 dk ns v3 no nc HWT.out.da (HWT.out.ints hns) hok (by omega))
      have hlen : (dk.crash (ns.map Int.toNat)).kept.length = 48 := by rw [D.crash_len]; exact HLT.out
      have hpe : (dk.crash (ns.map Int.toNat)).pend.length = 0 := rfl
      generalize dk.crash (ns.map Int.toNat) = dc at hO HCR hlen hpe
      have HO := Lib.hid hO
      have HLEN := Lib.hid hlen
      have HPE := Lib.hid hpe
      clear hO hlen hpe hok hok0 hpT HCT HLT
      go_wp2_with fail
      refine HCR.out.mono ?_
      rintro e w8 ⟨rfl, hd8, ho8⟩
      have HW8 := Lib.hid (HWT.out.turn hd8 ho8 (fun g h => by cases h))
      have HVE := Lib.hid (HWT.out.row HVT.out (by decide) HPK.out.1 HPK.out.2 ho8)
      have HSE := Lib.hid (HWT.out.row HST.out (by decide) HB4.out.2.1 HB4.out.2.2 ho8)
      have hop := lw_open HW8.out hg HLEN.out (by rw [HPE.out]; omega)
      rw [HO.out.is] at hop
      have HOP := Lib.hid hop
      clear hd8 ho8 hop HCR HWT HVT HST
      go_wp2_with fail
      refine HOP.out.mono ?_
      rintro e w9 ⟨pv9, lb9, psv, rfl, hlb9, hDS9, hLg9, hps9, _⟩
      have HW9 := Lib.hid (HW8.out.step hDS9)
      have HPS9 := Lib.hid hps9
      have HVF := Lib.hid (HW8.out.row HVE.out (by decide) HPK.out.1 HPK.out.2 hDS9.only)
      have HSF := Lib.hid (HW8.out.row HSE.out (by decide) HB4.out.2.1 HB4.out.2.2 hDS9.only)
      clear hlb9 hDS9 hLg9 hps9 HOP HW8 HVE HSE
      have HPR := Lib.hid HO.out.all
      have hsu := HO.out.sure
      clear HO HLEN HPE
      obtain ⟨ao, ac, hav⟩ := sliceOf_own HVF.out
      obtain ⟨bo, bc, hbv⟩ := sliceOf_own HSF.out
      obtain ⟨v1, wA, v2, wB, r1, r2, hoB, hrB⟩ := append_two w9 _ _ all s ao bo ac bc hav hbv (by omega)
      obtain ⟨po, pc, hpv⟩ := sliceOf_own (row_quiet HPS9.out hoB)
      obtain ⟨co, cc, hcv⟩ := sliceOf_own hrB
      have HBG := Lib.hid (begins_any wB psv v2 ps (all ++ s) po co pc cc hpv hcv HPR.out)
      have HWB := Lib.hid (HW9.out.quiet hoB)
      have HR1 := Lib.hid r1
      have HR2 := Lib.hid r2
      obtain rfl := hpv.val
      obtain rfl := hav.val
      clear hpv hav hbv hcv r1 r2 hoB hrB HPS9 HVF HSF HPR HW9
      have hsi : (all.length : Int) ≤ (ps.length : Int) := by omega
      clear hsu
      go_wp2_with (first
        | ((with_reducible refine wpList_append_runG _ _ v1 HR1.out ?_ ?_ ?_ ?_); (· rfl); (· rfl); (· rfl))
        | ((with_reducible refine wpList_append_runG _ _ v2 HR2.out ?_ ?_ ?_ ?_); (· rfl); (· rfl); (· rfl)))
      refine HBG.out.mono ?_
      rintro e wC ⟨rfl, hoC⟩
      have HWC := Lib.hid (HWB.out.quiet hoC).only
      clear hoC HBG HWB
      go_wp2_with fail
      go_ret
      exact ⟨rfl, HWC.out⟩
    · have HCR := Lib.hid (crash_bad w7 p kb pv7 dk ns v3 no nc HWT.out.da (HWT.out.ints hns) hok (by omega))
      clear hok
      go_wp2_with fail
      refine HCR.out.mono ?_
      rintro e w8 ⟨rfl, ho8⟩
      have HW8 := Lib.hid (HWT.out.quiet ho8).only
      clear ho8 HCR HWT
      go_wp2_with fail
      go_ret
      exact ⟨rfl, HW8.out⟩
  | cut d' l' hc cr stp =>
    have hpT : d7.pend.length ≤ 5000 := by have := stp.few; omega
    have hlT : d7.kept.length = 48 := by rw [stp.len]; exact HLC.out
    rw [HP8.out.1, HP8.out.2] at cr
    have HCT := Lib.hid cr
    have HLT := Lib.hid hlT
    have HWT := HW7
    have HVT := HVD
    have HST := HSD
    clear hc cr stp hlT HCR HW7 HVD HSD HLC hpc HG7 HP8
    have hok0 := hpT
    by_cases hok : crashOk d7.pend.length ns
    · obtain ⟨d', l', ps, hO⟩ := HCT.out.crash HLT.out (crash_lt hok)
      have HCR := Lib.hid (crash_ok w7 p kb pv7 d7 ns v3 no nc HWT.out.da (HWT.out.ints hns) hok (by omega))
      have hlen : (d7.crash (ns.map Int.toNat)).kept.length = 48 := by rw [D.crash_len]; exact HLT.out
      have hpe : (d7.crash (ns.map Int.toNat)).pend.length = 0 := rfl
      generalize d7.crash (ns.map Int.toNat) = dc at hO HCR hlen hpe
      have HO := Lib.hid hO
      have HLEN := Lib.hid hlen
      have HPE := Lib.hid hpe
      clear hO hlen hpe hok hok0 hpT HCT HLT
      go_wp2_with fail
      refine HCR.out.mono ?_
      rintro e w8 ⟨rfl, hd8, ho8⟩
      have HW8 := Lib.hid (HWT.out.turn hd8 ho8 (fun g h => by cases h))
      have HVE := Lib.hid (HWT.out.row HVT.out (by decide) HPK.out.1 HPK.out.2 ho8)
      have HSE := Lib.hid (HWT.out.row HST.out (by decide) HB4.out.2.1 HB4.out.2.2 ho8)
      have hop := lw_open HW8.out hg HLEN.out (by rw [HPE.out]; omega)
      rw [HO.out.is] at hop
      have HOP := Lib.hid hop
      clear hd8 ho8 hop HCR HWT HVT HST
      go_wp2_with fail
      refine HOP.out.mono ?_
      rintro e w9 ⟨pv9, lb9, psv, rfl, hlb9, hDS9, hLg9, hps9, _⟩
      have HW9 := Lib.hid (HW8.out.step hDS9)
      have HPS9 := Lib.hid hps9
      have HVF := Lib.hid (HW8.out.row HVE.out (by decide) HPK.out.1 HPK.out.2 hDS9.only)
      have HSF := Lib.hid (HW8.out.row HSE.out (by decide) HB4.out.2.1 HB4.out.2.2 hDS9.only)
      clear hlb9 hDS9 hLg9 hps9 HOP HW8 HVE HSE
      have HPR := Lib.hid HO.out.all
      have hsu := HO.out.sure
      clear HO HLEN HPE
      obtain ⟨ao, ac, hav⟩ := sliceOf_own HVF.out
      obtain ⟨bo, bc, hbv⟩ := sliceOf_own HSF.out
      obtain ⟨v1, wA, v2, wB, r1, r2, hoB, hrB⟩ := append_two w9 _ _ all s ao bo ac bc hav hbv (by omega)
      obtain ⟨po, pc, hpv⟩ := sliceOf_own (row_quiet HPS9.out hoB)
      obtain ⟨co, cc, hcv⟩ := sliceOf_own hrB
      have HBG := Lib.hid (begins_any wB psv v2 ps (all ++ s) po co pc cc hpv hcv HPR.out)
      have HWB := Lib.hid (HW9.out.quiet hoB)
      have HR1 := Lib.hid r1
      have HR2 := Lib.hid r2
      obtain rfl := hpv.val
      obtain rfl := hav.val
      clear hpv hav hbv hcv r1 r2 hoB hrB HPS9 HVF HSF HPR HW9
      have hsi : (all.length : Int) ≤ (ps.length : Int) := by omega
      clear hsu
      go_wp2_with (first
        | ((with_reducible refine wpList_append_runG _ _ v1 HR1.out ?_ ?_ ?_ ?_); (· rfl); (· rfl); (· rfl))
        | ((with_reducible refine wpList_append_runG _ _ v2 HR2.out ?_ ?_ ?_ ?_); (· rfl); (· rfl); (· rfl)))
      refine HBG.out.mono ?_
      rintro e wC ⟨rfl, hoC⟩
      have HWC := Lib.hid (HWB.out.quiet hoC).only
      clear hoC HBG HWB
      go_wp2_with fail
      go_ret
      exact ⟨rfl, HWC.out⟩
    · have HCR := Lib.hid (crash_bad w7 p kb pv7 d7 ns v3 no nc HWT.out.da (HWT.out.ints hns) hok (by omega))
      clear hok
      go_wp2_with fail
      refine HCR.out.mono ?_
      rintro e w8 ⟨rfl, ho8⟩
      have HW8 := Lib.hid (HWT.out.quiet ho8).only
      clear ho8 HCR HWT
      go_wp2_with fail
      go_ret
      exact ⟨rfl, HW8.out⟩
  | ok d' l' es h hl n ha hdp stp =>
    have hp7 : d7.pend.length ≤ 4000 := by have := stp.few; omega
    have hl7 : d7.kept.length = 48 := by rw [stp.len]; exact HLC.out
    have hSH := shut_any w7 lb p kb pv7 d7 l7 HG7.out h.shutOk (by omega)
    obtain ⟨d8, l8, e8, q1, _, q3, q4, q5, q6, q7, q8⟩ := shut_steps h
    rw [q1] at hSH
    have h8 : l7.per = 8 := by rw [ha.per]; exact HP8.out.1
    have h6 : l7.segs = 6 := by rw [ha.segs]; exact HP8.out.2
    rw [h8, h6] at q5
    have hpT : d8.pend.length ≤ 5000 := by have := q4.few; omega
    have hlT : d8.kept.length = 48 := by rw [q4.len]; exact hl7
    have hfin : e8 = 0 → Cr 8 6 d8 (all ++ s).length (all ++ s) := fun e => (q8 e).st.cr8 (by rw [q6]; exact h8) (by rw [q7]; exact h6)
    have HSH := Lib.hid hSH
    have HLT := Lib.hid hlT
    have HC5 := Lib.hid q5
    have HFN := Lib.hid hfin
    clear hSH h hl ha hdp stp q1 q4 q5 q6 q7 q8 h8 h6 hlT hfin HCR HLC hpc HP8 hl7
    rcases q3 with rfl | rfl
    · have HCT := Lib.hid (HFN.out rfl)
      clear HFN HC5
      go_wp2_with fail
      refine HSH.out.mono ?_
      rintro e x7 ⟨qv7, rfl, hL8⟩
      have HWT := Lib.hid (HW7.out.lstep HLB.out hL8)
      have HVT := Lib.hid (hL8.rowT HG7.out HVD.out (by decide) (by decide) HPK.out.1 HPK.out.2)
      have HST := Lib.hid (hL8.rowB HG7.out HSD.out (by decide) HB4.out.1 HB4.out.2.1 HB4.out.2.2)
      clear hL8 HSH HW7 HG7 HVD HSD hp7
      have hal : (all ++ s).length = all.length + s.length := List.length_append
      have hok0 := hpT
      by_cases hok : crashOk d8.pend.length ns
      · obtain ⟨d', l', ps, hO⟩ := HCT.out.crash HLT.out (crash_lt hok)
        have HCR := Lib.hid (crash_ok x7 p kb qv7 d8 ns v3 no nc HWT.out.da (HWT.out.ints hns) hok (by omega))
        have hlen : (d8.crash (ns.map Int.toNat)).kept.length = 48 := by rw [D.crash_len]; exact HLT.out
        have hpe : (d8.crash (ns.map Int.toNat)).pend.length = 0 := rfl
        generalize d8.crash (ns.map Int.toNat) = dc at hO HCR hlen hpe
        have HO := Lib.hid hO
        have HLEN := Lib.hid hlen
        have HPE := Lib.hid hpe
        clear hO hlen hpe hok hok0 hpT HCT HLT
        go_wp2_with fail
        refine HCR.out.mono ?_
        rintro e w8 ⟨rfl, hd8, ho8⟩
        have HW8 := Lib.hid (HWT.out.turn hd8 ho8 (fun g h => by cases h))
        have HVE := Lib.hid (HWT.out.row HVT.out (by decide) HPK.out.1 HPK.out.2 ho8)
        have HSE := Lib.hid (HWT.out.row HST.out (by decide) HB4.out.2.1 HB4.out.2.2 ho8)
        have hop := lw_open HW8.out hg HLEN.out (by rw [HPE.out]; omega)
        rw [HO.out.is] at hop
        have HOP := Lib.hid hop
        clear hd8 ho8 hop HCR HWT HVT HST
        go_wp2_with fail
        refine HOP.out.mono ?_
        rintro e w9 ⟨pv9, lb9, psv, rfl, hlb9, hDS9, hLg9, hps9, _⟩
        have HW9 := Lib.hid (HW8.out.step hDS9)
        have HPS9 := Lib.hid hps9
        have HVF := Lib.hid (HW8.out.row HVE.out (by decide) HPK.out.1 HPK.out.2 hDS9.only)
        have HSF := Lib.hid (HW8.out.row HSE.out (by decide) HB4.out.2.1 HB4.out.2.2 hDS9.only)
        clear hlb9 hDS9 hLg9 hps9 HOP HW8 HVE HSE
        have HPR := Lib.hid HO.out.all
        have hsu := HO.out.sure
        clear HO HLEN HPE
        obtain ⟨ao, ac, hav⟩ := sliceOf_own HVF.out
        obtain ⟨bo, bc, hbv⟩ := sliceOf_own HSF.out
        obtain ⟨v1, wA, v2, wB, r1, r2, hoB, hrB⟩ := append_two w9 _ _ all s ao bo ac bc hav hbv (by omega)
        obtain ⟨po, pc, hpv⟩ := sliceOf_own (row_quiet HPS9.out hoB)
        obtain ⟨co, cc, hcv⟩ := sliceOf_own hrB
        have HBG := Lib.hid (begins_any wB psv v2 ps (all ++ s) po co pc cc hpv hcv HPR.out)
        have HWB := Lib.hid (HW9.out.quiet hoB)
        have HR1 := Lib.hid r1
        have HR2 := Lib.hid r2
        obtain rfl := hpv.val
        obtain rfl := hav.val
        clear hpv hav hbv hcv r1 r2 hoB hrB HPS9 HVF HSF HPR HW9
        have hsi : (all.length + s.length : Int) ≤ (ps.length : Int) := by omega
        clear hsu
        go_wp2_with (first
          | ((with_reducible refine wpList_append_runG _ _ v1 HR1.out ?_ ?_ ?_ ?_); (· rfl); (· rfl); (· rfl))
          | ((with_reducible refine wpList_append_runG _ _ v2 HR2.out ?_ ?_ ?_ ?_); (· rfl); (· rfl); (· rfl)))
        refine HBG.out.mono ?_
        rintro e wC ⟨rfl, hoC⟩
        have HWC := Lib.hid (HWB.out.quiet hoC).only
        clear hoC HBG HWB
        go_wp2_with fail
        go_ret
        exact ⟨rfl, HWC.out⟩
      · have HCR := Lib.hid (crash_bad x7 p kb qv7 d8 ns v3 no nc HWT.out.da (HWT.out.ints hns) hok (by omega))
        clear hok
        go_wp2_with fail
        refine HCR.out.mono ?_
        rintro e w8 ⟨rfl, ho8⟩
        have HW8 := Lib.hid (HWT.out.quiet ho8).only
        clear ho8 HCR HWT
        go_wp2_with fail
        go_ret
        exact ⟨rfl, HW8.out⟩
    · have HCT := HC5
      clear HFN HC5
      go_wp2_with fail
      refine HSH.out.mono ?_
      rintro e x7 ⟨qv7, rfl, hL8⟩
      have HWT := Lib.hid (HW7.out.lstep HLB.out hL8)
      have HVT := Lib.hid (hL8.rowT HG7.out HVD.out (by decide) (by decide) HPK.out.1 HPK.out.2)
      have HST := Lib.hid (hL8.rowB HG7.out HSD.out (by decide) HB4.out.1 HB4.out.2.1 HB4.out.2.2)
      clear hL8 HSH HW7 HG7 HVD HSD hp7
      have hok0 := hpT
      by_cases hok : crashOk d8.pend.length ns
      · obtain ⟨d', l', ps, hO⟩ := HCT.out.crash HLT.out (crash_lt hok)
        have HCR := Lib.hid (crash_ok x7 p kb qv7 d8 ns v3 no nc HWT.out.da (HWT.out.ints hns) hok (by omega))
        have hlen : (d8.crash (ns.map Int.toNat)).kept.length = 48 := by rw [D.crash_len]; exact HLT.out
        have hpe : (d8.crash (ns.map Int.toNat)).pend.length = 0 := rfl
        generalize d8.crash (ns.map Int.toNat) = dc at hO HCR hlen hpe
        have HO := Lib.hid hO
        have HLEN := Lib.hid hlen
        have HPE := Lib.hid hpe
        clear hO hlen hpe hok hok0 hpT HCT HLT
        go_wp2_with fail
        refine HCR.out.mono ?_
        rintro e w8 ⟨rfl, hd8, ho8⟩
        have HW8 := Lib.hid (HWT.out.turn hd8 ho8 (fun g h => by cases h))
        have HVE := Lib.hid (HWT.out.row HVT.out (by decide) HPK.out.1 HPK.out.2 ho8)
        have HSE := Lib.hid (HWT.out.row HST.out (by decide) HB4.out.2.1 HB4.out.2.2 ho8)
        have hop := lw_open HW8.out hg HLEN.out (by rw [HPE.out]; omega)
        rw [HO.out.is] at hop
        have HOP := Lib.hid hop
        clear hd8 ho8 hop HCR HWT HVT HST
        go_wp2_with fail
        refine HOP.out.mono ?_
        rintro e w9 ⟨pv9, lb9, psv, rfl, hlb9, hDS9, hLg9, hps9, _⟩
        have HW9 := Lib.hid (HW8.out.step hDS9)
        have HPS9 := Lib.hid hps9
        have HVF := Lib.hid (HW8.out.row HVE.out (by decide) HPK.out.1 HPK.out.2 hDS9.only)
        have HSF := Lib.hid (HW8.out.row HSE.out (by decide) HB4.out.2.1 HB4.out.2.2 hDS9.only)
        clear hlb9 hDS9 hLg9 hps9 HOP HW8 HVE HSE
        have HPR := Lib.hid HO.out.all
        have hsu := HO.out.sure
        clear HO HLEN HPE
        obtain ⟨ao, ac, hav⟩ := sliceOf_own HVF.out
        obtain ⟨bo, bc, hbv⟩ := sliceOf_own HSF.out
        obtain ⟨v1, wA, v2, wB, r1, r2, hoB, hrB⟩ := append_two w9 _ _ all s ao bo ac bc hav hbv (by omega)
        obtain ⟨po, pc, hpv⟩ := sliceOf_own (row_quiet HPS9.out hoB)
        obtain ⟨co, cc, hcv⟩ := sliceOf_own hrB
        have HBG := Lib.hid (begins_any wB psv v2 ps (all ++ s) po co pc cc hpv hcv HPR.out)
        have HWB := Lib.hid (HW9.out.quiet hoB)
        have HR1 := Lib.hid r1
        have HR2 := Lib.hid r2
        obtain rfl := hpv.val
        obtain rfl := hav.val
        clear hpv hav hbv hcv r1 r2 hoB hrB HPS9 HVF HSF HPR HW9
        have hsi : (all.length : Int) ≤ (ps.length : Int) := by omega
        clear hsu
        go_wp2_with (first
          | ((with_reducible refine wpList_append_runG _ _ v1 HR1.out ?_ ?_ ?_ ?_); (· rfl); (· rfl); (· rfl))
          | ((with_reducible refine wpList_append_runG _ _ v2 HR2.out ?_ ?_ ?_ ?_); (· rfl); (· rfl); (· rfl)))
        refine HBG.out.mono ?_
        rintro e wC ⟨rfl, hoC⟩
        have HWC := Lib.hid (HWB.out.quiet hoC).only
        clear hoC HBG HWB
        go_wp2_with fail
        go_ret
        exact ⟨rfl, HWC.out⟩
      · have HCR := Lib.hid (crash_bad x7 p kb qv7 d8 ns v3 no nc HWT.out.da (HWT.out.ints hns) hok (by omega))
        clear hok
        go_wp2_with fail
        refine HCR.out.mono ?_
        rintro e w8 ⟨rfl, ho8⟩
        have HW8 := Lib.hid (HWT.out.quiet ho8).only
        clear ho8 HCR HWT
        go_wp2_with fail
        go_ret
        exact ⟨rfl, HW8.out⟩

set_option maxRecDepth 100000 in
theorem logCut_lifted (os : Os) (started : os.Started) (H : Type) (enc : TypeId × Value → H) :
    ReturnsInHanded {} Tryz.checked os 6 .any (fun w args => (Rows.logCutSpec.pre enc Tryz.prog Tryz.f6 [] false w args ∧ laidMetH Tryz.prog laidE w) ∧ sizedMet enc Tryz.prog Tryz.f6 (OpenSpec.ofChange Rows.logCutSpec) false w args) (Rows.logCutSpec.post enc Tryz.prog Tryz.f6 false true false false) := by
  refine returnsInHanded_of_change_and (C := Tryz.checked) (X := fun w _ => laidMetH Tryz.prog laidE w) (fun _ _ _ hh h => h.of_heap hh) Tryz.own started (by kernel_rfl) Tryz.func6
    (ChangeSpec.witness_at (enc := enc) (C := Tryz.checked) (os := os) (X := fun w _ => laidMetH Tryz.prog laidE w) false (laidWorld os) #[.slice none 0 0, .slice none 0 0, .int .i64 0, .slice none 0 0] 8 rfl (by kernel_rfl) (by kernel_rfl) (by kernel_rfl) (by kernel_rfl) (by kernel_rfl) (laidWorld_met os _)) ?_
  intro W base args ds gs before hval0 hW _ _ hL0 _
  have hL := handle_of_laid hL0
  have hval : ∀ (j : Nat) t v, Tryz.f6.params[j]? = some t → args[j]? = some v → Value.okWide Tryz.prog W .any base t v := hval0
  have hW' := hW
  obtain ⟨p, q, hA0, hV, rfl, hfz, hnd⟩ := hW
  have hA : DataW.TrodAll enc Tryz.prog W 0 (fun _ => true) true Tryz.f6.params.toList args.toList ds p := hA0
  rw [Tryz.params6] at hA hval
  obtain ⟨v0, vs0, d0, ds0, p0, q0, hargs, rfl, rfl, h0, r0⟩ := trodAll_cons hA
  obtain ⟨v1, vs1, d1, ds1, p1, q1, rfl, rfl, rfl, h1, r1⟩ := trodAll_cons r0
  obtain ⟨v2, vs2, d2, ds2, p2, q2, rfl, rfl, rfl, h2, r2⟩ := trodAll_cons r1
  obtain ⟨v3, vs3, d3, ds3, p3, q3, rfl, rfl, rfl, h3, r3⟩ := trodAll_cons r2
  obtain ⟨rfl, rfl, rfl⟩ := trodAll_nil r3
  obtain rfl : args = #[v0, v1, v2, v3] := by cases args; simp_all
  obtain ⟨rfl, rfl⟩ := trodVars_none hV
  clear hA0 hval0 hL0
  obtain ⟨gs, hgr⟩ := law_groups (hval 0 22 v0 rfl rfl) h0
  obtain ⟨more, mo, mc, hmo, hml⟩ := law_texts Tryz.underlying29 Tryz.underlying9 (by kernel_rfl) (hval 1 29 v1 rfl rfl) h1
  obtain ⟨b, rfl, _, _, wb⟩ := open_int Tryz.underlying3 (hval 2 3 v2 rfl rfl) h2
  obtain ⟨ns, no, nc, hn, wn⟩ := law_ints Tryz.underlying42 Tryz.underlying3 (by kernel_rfl) (hval 3 42 v3 rfl rfl) h3
  refine (logCut_walk W v0 v1 v3 gs more mo mc ns no nc b (bounds_i64 wb) hgr hmo hml (intsAt_of hn (fun x hx => bounds_i64 (wn x hx))) hL).mono fun e W' ⟨he, ho⟩ => ?_
  subst he
  exact ⟨_, rfl, law_post rfl hW' (by kernel_rfl) (of_decide_eq_true (by kernel_rfl)) rfl rfl rfl ho⟩
theorem logCut_row : Rows.LogCutSaid :=
  OpenClaim.holds_of_wide 6 Tryz.f6 rfl rfl rfl rfl rfl rfl rfl ⟨rfl, rfl, rfl, rfl, rfl⟩ rfl rfl rfl rfl rfl (by kernel_rfl) Tryz.func6 (by kernel_rfl)
    (of_decide_eq_true (by kernel_rfl)) (by unfold Func.isWrapper; first | (rw [if_pos (by decide +kernel)]; kernel_rfl) | (rw [if_neg (by decide +kernel)]; exact ⟨rfl, rfl⟩))
    (fun os started H enc _ => logCut_lifted os started H enc)
theorem logCut_stand : (Tryz.f6.params.toList.all fun t => !Tryz.prog.wantsStandIn t) = true := by kernel_rfl
theorem logCut_holds : Rows.LogCutCardSaid :=
  Claim7.holds_tied_plain_at .later [] [.handle] true _ true
    logCut_row (fun _ h => by cases h) (by kernel_rfl) (fun _ h => by cases h) logCut_row_tie rfl ⟨rfl, rfl⟩ (by kernel_rfl) rfl
    (fun f fn hf hfn => by
      obtain rfl : f = 6 := Option.some.inj (hf.symm.trans (show Tryz.prog.funcNamed "moraine/morainelaw13.LogCut" = some 6 by kernel_rfl))
      obtain rfl : fn = Tryz.f6 := (Option.some.inj (Tryz.func6.symm.trans hfn)).symm
      exact ⟨by kernel_rfl, fun j t ht => by
        have h1 := List.all_eq_true.1 logCut_stand t (Array.mem_toList_iff.2 (Array.mem_of_getElem? ht))
        exact (show Tryz.prog.wantsStandIn t = false by simpa using h1)⟩)
    (by kernel_rfl)
end Go.Proofs.YtlgefjcfnnjkbaaGreatDoor
