/- LogRetires: a segment that is retired is found no more, once another one was opened behind that; all others are. No conditions. -/
import Derived.Test.YtlgefjcfnnjkbaaGreatDoorTie
import Derived.Test.YtlgefjcfnnjkbaaGreatDoorCards
import Derived.ChangeSame
import Derived.JoinedOf
import Derived.LaidLaws
import Derived.SevenTiedAt
import Derived.Test.YtlgefjcfnnjkbaaGreatDoorP27
import Derived.Test.YtlgefjcfnnjkbaaGreatDoorP29
set_option linter.unusedVariables false
set_option linter.unusedSimpArgs false
set_option linter.unusedSectionVars false
namespace Go.Proofs.YtlgefjcfnnjkbaaGreatDoor
set_option maxRecDepth 100000
open Go.ChangeShapes Go.WideShapes Go.ChangeAt Go.RowKit Go.Joins Go.Deep

set_option maxHeartbeats 16000000 in
theorem logRetires_walk (w : World) (v0 : Value) (gs : List (List (List UInt8))) (at_ : Int) (hat : I64 at_) (hgs : GroupsAt w v0 gs) (hg : errHandle w) :
    Calls Tryz.prog 3 #[v0, .int .i64 at_] w fun e w' => e = .returned (.bool true) ∧ Only (fun _ => False) w w' := by
  have SH := Lib.hid (fun W => shown_any W)
  have HGR := Lib.hid hgs
  clear hgs
  go_enter Tryz.func3, Tryz.ntmps3
  go_wp2_with fail
  refine (SH.out w).mono ?_
  rintro e w1 ⟨rfl, ho1⟩
  have HO1 := Lib.hid ho1
  clear ho1 SH
  go_wp2_with fail
  refine (new_any w1 48 (by decide) (by decide)).mono ?_
  rintro e w2 ⟨p, kb, rfl, hd2, hp2, hk2, ho2⟩
  have HW2 := Lib.hid (lw_new HO1.out hd2 hp2 hk2 ho2)
  have HPK := Lib.hid (show p < w2.heap.size ∧ kb < w2.heap.size from ⟨hd2.p_lt, hd2.kb_lt⟩)
  have MD := Lib.hid (made_any w2 p kb v0 gs hd2 (fun W hW => HGR.out.only (HW2.out.old hW)))
  clear hd2 hp2 hk2 ho2 HO1
  go_wp2_with fail
  refine MD.out.mono ?_
  rintro e w3 ⟨lb, pv, d, l, sure, all, vs, va, rfl, hlb, hDS, hM⟩
  obtain ⟨so, sc, rfl⟩ := hM.vs
  have HW3 := Lib.hid (HW2.out.step hDS)
  have HM := Lib.hid hM
  have HLB := Lib.hid (Nat.le_trans HW2.out.only.size hlb)
  have HS3 := Lib.hid hDS.only.size
  clear hlb hDS hM MD HGR HW2
  have hpd := HM.out.pend
  have hSH := shut_any w3 lb p kb pv d l HM.out.at_ HM.out.st.shutOk (by omega)
  have htop := shut_top l d
  obtain ⟨d3, l3, e3, q1, q2, _, q4, _, q6, q7, q8⟩ := shut_steps HM.out.st
  rw [q1] at hSH htop
  simp only at htop
  obtain rfl : e3 = 0 := q2 HM.out.cut
  obtain ⟨la, ps, hst, hps, hta, dok, hpe⟩ := (q8 rfl).opst
  rw [q6, q7, HM.out.per, HM.out.segs] at hst
  have hlen : d3.kept.length = 48 := by rw [q4.len]; exact HM.out.len
  have hpl : ps.length ≤ 25 := by have h1 := congrArg List.length hps; have h2 := HM.out.few; rw [List.length_map] at h1; omega
  have ht3 : la.top ≤ 30 := by rw [hta, htop]; exact HM.out.top
  obtain ⟨d4, l4, ho4, -, -, hst4, hc4, hl4, hp4, ht4⟩ := open_again (per := 8) (segs := 6) (by decide) hlen (q4.cut HM.out.cut) hst
  have hlen4 : d4.kept.length = 48 := by rw [hl4]; exact hlen
  have hpe4 := hp4 hpe
  obtain ⟨d5, l5, ho5, -, -, hst5, hc5, hl5, hp5, ht5⟩ := open_again (per := 8) (segs := 6) (by decide) hlen4 hc4 hst4
  have hlen5 : d5.kept.length = 48 := by rw [hl5]; exact hlen4
  have hpe5 := hp5 hpe4
  have htop5 : l5.top ≤ 30 := by rw [ht5, ht4]; exact ht3
  have HSH := Lib.hid hSH
  have HO4 := Lib.hid ho4
  have HO5 := Lib.hid ho5
  have HST5 := Lib.hid hst5
  have HC5 := Lib.hid hc5
  have HL3 := Lib.hid hlen
  have HL4 := Lib.hid hlen4
  have HL5 := Lib.hid hlen5
  have HP3 := Lib.hid hpe
  have HP4 := Lib.hid hpe4
  have HP5 := Lib.hid hpe5
  clear hSH q1 q2 q4 q6 q7 q8 hst hps hta dok hpe hlen ht3 ho4 hst4 hc4 hl4 hp4 ht4 hlen4 hpe4 ho5 hst5 hc5 hl5 hp5 ht5 hlen5 hpe5 htop hpd
  go_wp2_with fail
  refine HSH.out.mono ?_
  rintro e w4 ⟨pv4, rfl, hL4⟩
  have HW4 := Lib.hid (HW3.out.lstep HLB.out hL4)
  have HZ4 := Lib.hid (show p < w4.heap.size ∧ kb < w4.heap.size from ⟨hL4.at_.da.p_lt, hL4.at_.da.kb_lt⟩)
  have hop := lw_open HW4.out hg HL3.out (by rw [HP3.out]; simp)
  rw [HO4.out] at hop
  have HOP := Lib.hid hop
  clear hL4 hop HSH HW3 HM HS3 HO4 HPK
  go_wp2_with fail
  refine HOP.out.mono ?_
  rintro e w5 ⟨pv5, lb5, psv, rfl, hlb5, hDS5, hLg5, hps5, _⟩
  have HW5 := Lib.hid (HW4.out.step hDS5)
  have HR5 := Lib.hid hps5
  have hop := lw_open HW5.out hg HL4.out (by rw [HP4.out]; simp)
  rw [HO5.out] at hop
  have HOP2 := Lib.hid hop
  clear hlb5 hDS5 hLg5 hps5 hop HOP HW4 HO5
  go_wp2_with fail
  refine HOP2.out.mono ?_
  rintro e w6 ⟨pv6, lb6, qsv, rfl, hlb6, hDS6, hLg6, hqs6, _⟩
  have HW6 := Lib.hid (HW5.out.step hDS6)
  have HG6 := Lib.hid hLg6
  have HR6 := Lib.hid (HW5.out.row HR5.out (by decide) HZ4.out.1 HZ4.out.2 hDS6.only)
  have HB6 := Lib.hid (show lb6 < w6.heap.size ∧ p < w6.heap.size ∧ kb < w6.heap.size from ⟨hLg6.lt, hLg6.da.p_lt, hLg6.da.kb_lt⟩)
  have HLB6 := Lib.hid (show w.heap.size ≤ lb6 from Nat.le_trans HW5.out.only.size hlb6)
  have HCH := Lib.hid (chain_any w6 lb6 p kb pv6 d5 l5 hLg6)
  clear hlb6 hDS6 hLg6 hqs6 HOP2 HW5 HR5
  go_wp2_with fail
  refine HCH.out.mono ?_
  rintro e w7 ⟨cv, rfl, hcr, ho7⟩
  have HW7 := Lib.hid (HW6.out.quiet ho7)
  have HG7 := Lib.hid (HG6.out.quiet ho7)
  have HR7 := Lib.hid (row_quiet HR6.out ho7)
  have HCR := Lib.hid hcr
  clear hcr ho7 HCH HW6 HG6 HR6
  obtain ⟨co, cc, hcs⟩ := sliceOf_own HCR.out
  have hst := HST5.out
  cases hst with
  | new hl hz hp =>
    have hu : l5.uses = [] := by
      rw [hl]
      unfold Lg.uses Lg.new
      simp only [order_none]
      rfl
    obtain rfl : cv = .slice co 0 cc := by have := hcs.val; rw [hu] at this; exact this
    clear hcs HCR hz hu hl
    go_wp2_with fail
    go_ret
    exact ⟨rfl, HW7.out.only⟩
  | old S hper hsegs h hw hp cl ha hh h0 opn =>
    have ok := h.inv.cr.ok
    have hord : orderL l5.chain = orderL S.c ++ [S.n] := by rw [hw]; exact order_whole ok
    have hus : l5.uses = (orderL S.c ++ [S.n]).map fun k => l5.chain.getD k Us.no := by
      unfold Lg.uses
      rw [h.down, hord]; rfl
    have hul : l5.uses.length = (orderL S.c).length + 1 := by rw [hus]; simp
    have hol := used_le h.chOk
    have hs12 := ok.segs
    have hul2 : l5.uses.length ≤ 12 := by
      have : l5.uses.length = used l5.chain := by unfold used; rw [hord, hus]; simp
      have := h.segs
      omega
    by_cases h2 : l5.uses.length < 2
    · obtain rfl := hcs.val
      have hI : (l5.uses.length : Int) < 2 := by omega
      clear hcs HCR hord hus hul
      go_wp2_with fail
      go_ret
      exact ⟨rfl, HW7.out.only⟩
    · obtain rfl := hcs.val
      have hI : ¬ (l5.uses.length : Int) < 2 := by omega
      obtain ⟨r, hr1, hr2⟩ := pick_nat at_ ((l5.uses.length : Int) - 1) (by omega)
      have hr3 : r < (orderL S.c).length := by omega
      obtain ⟨k, hk⟩ : ∃ k, k = (orderL S.c)[r] := ⟨_, rfl⟩
      have hkm := (mem_orderL S.c k).1 (by rw [hk]; exact List.getElem_mem hr3)
      have hkn := (ok.count_le hkm.2).2.2.1
      have hur : (l5.uses.getD r Us.no).e = (S.c.getD k Us.no).e := by
        rw [hus, List.getD_eq_getElem?_getD, List.getElem?_map, List.getElem?_append_left hr3, List.getElem?_eq_getElem hr3]
        simp only [Option.map_some, Option.getD_some]
        rw [← hk, hw, wholeC_ne hkn]
      have hue : (l5.uses.getD (l5.uses.length - 1) Us.no).e = S.e := by
        rw [hul, hus, List.getD_eq_getElem?_getD, List.getElem?_map, Nat.add_sub_cancel, List.getElem?_append_right (Nat.le_refl _), Nat.sub_self]
        simp only [List.getElem?_cons_zero, Option.map_some, Option.getD_some]
        rw [hw, wholeC_n ok]
      have hte : S.e ≤ 30 := by rw [← h.top]; exact htop5
      have hbl : need [(110 : UInt8), 101, 119].length + 3 ≤ S.per := by rw [hper]; decide
      have hln : d5.kept.length = S.segs * S.per := by rw [hsegs, hper]; exact HL5.out
      obtain ⟨l1, d2, l2, dS, lS, dO, lO, R⟩ := retire_law h hw HC5.out hln opn hkm.2 (by omega) [110, 101, 119] hbl
      have hok := R.appendOk HC5.out hln (by omega) HP5.out hbl
      have hopn := R.opn
      rw [hper, ha] at hopn
      have P1 := Lib.hid (fun W => pick13_any W at_ ((l5.uses.length : Int) - 1) hat (by omega) (by omega))
      rw [← hr1] at P1
      have hRT := retire_any w7 lb6 p kb pv6 d5 l5 (S.c.getD k Us.no).e HG7.out
      rw [R.ret] at hRT
      have hap := R.app
      have hsh := R.shut
      have hse := R.seal2
      have hl3 := R.len3
      have hp3 := R.pend3
      have hp2 := R.pend2
      rw [HL5.out] at hl3
      have hX := ok.count_le hkm.2
      generalize (S.c.getD k Us.no).e = X at hRT hur hopn hX
      have hE1 : 1 ≤ S.e := ok.epos.1
      generalize S.e = E at hue hopn hap hte hX hE1
      have HRT := Lib.hid hRT
      have HAP0 := Lib.hid hap
      have HSH0 := Lib.hid hsh
      have HSE := Lib.hid hse
      have HOPN := Lib.hid hopn
      have HOK := Lib.hid hok
      have HL3 := Lib.hid hl3
      have HP3 := Lib.hid hp3
      generalize l5.uses = us at hcs HCR hI hul hul2 hr2 hur hue P1 h2
      have HUR := Lib.hid hur
      have HUE := Lib.hid hue
      have hrl : r < us.length := by omega
      obtain ⟨cb, ci, rfl, hcr, _⟩ := hcs.use_at r hrl
      rw [hur] at hcr
      have hri : (r : Int) < (us.length : Int) := by omega
      clear hRT hap hsh hse hopn hok hl3 hp3 hur hue hr1 R hul hkm hkn hk hbl hln hol hs12 h hw hp cl ha hh h0 opn ok hord hus hper hsegs hcs hX h2 HST5 HC5 HL5 HP5 HL4 HP4
      go_wp2_with fail
      refine (P1.out _).mono ?_
      rintro e wx ⟨rfl, rfl⟩
      go_wp2_with fail
      refine HRT.out.mono ?_
      rintro e w8 ⟨rfl, hL8⟩
      have HW8 := Lib.hid (HW7.out.lstep HLB6.out hL8)
      have HG8 := Lib.hid hL8.at_
      have HR8 := Lib.hid (hL8.rowT HG7.out HR7.out (by decide) (by decide) HZ4.out.1 HZ4.out.2)
      have HC8 := Lib.hid (hL8.rowB HG7.out HCR.out (by decide) HB6.out.1 HB6.out.2.1 HB6.out.2.2)
      clear hL8 HRT HW7 HG7 HR7 HCR hcr
      have hal := Only.alloc w8 (.cells #[.string ⟨[(110 : UInt8), 101, 119].toArray⟩] 9) (fun _ => False)
      have hsl := slice_alloc_one w8 [110, 101, 119]
      have hAP := append_any _ lb6 p kb pv6 d5 l1 (HG8.out.quiet hal) [[110, 101, 119]] _ _ _ true hsl (fun b hb => by rw [List.mem_singleton.1 hb]; decide) (by decide) (fun b o e => by
        obtain ⟨rfl, rfl⟩ : w8.heap.size = b ∧ 0 = o := by simpa using e
        exact ⟨by have := HG8.out.lt; omega, fun hb => by have := HG8.out.da.fp_lt _ hb; omega⟩) HOK.out
      rw [HAP0.out] at hAP
      have HAP := Lib.hid hAP
      have HAL := Lib.hid hal
      clear hal hsl hAP HAP0 HOK
      go_wp2_with fail
      refine HAP.out.mono ?_
      rintro e w9 ⟨pv9, ev, rfl, _, hL9⟩
      have HW9 := Lib.hid ((HW8.out.quiet HAL.out).lstep HLB6.out hL9)
      have HG9 : Hid (LgAt w9 lb6 p kb pv9 d2 l2) := Lib.hid hL9.at_
      have HR9 := Lib.hid (hL9.rowT (HG8.out.quiet HAL.out) (row_quiet HR8.out HAL.out) (by decide) (by decide) HZ4.out.1 HZ4.out.2)
      have HC9 := Lib.hid (hL9.rowB (HG8.out.quiet HAL.out) (row_quiet HC8.out HAL.out) (by decide) HB6.out.1 HB6.out.2.1 HB6.out.2.2)
      have hSH := shut_any w9 lb6 p kb pv9 d2 l2 HG9.out (fun _ => HSE.out) (by omega)
      rw [HSH0.out] at hSH
      have HSH := Lib.hid hSH
      clear hL9 hSH HAP HAL HW8 HG8 HR8 HC8 HSH0 HSE
      go_wp2_with fail
      refine HSH.out.mono ?_
      rintro e wa ⟨pva, rfl, hLa⟩
      have HWA : Hid (Lw w wa p kb pva dS) := Lib.hid (HW9.out.lstep HLB6.out hLa)
      have HRA := Lib.hid (hLa.rowT HG9.out HR9.out (by decide) (by decide) HZ4.out.1 HZ4.out.2)
      have HCA := Lib.hid (hLa.rowB HG9.out HC9.out (by decide) HB6.out.1 HB6.out.2.1 HB6.out.2.2)
      have hop := lw_open HWA.out hg HL3.out (by rw [HP3.out]; simp)
      rw [HOPN.out] at hop
      have HOP := Lib.hid hop
      clear hLa hop HSH HW9 HG9 HR9 HC9 HOPN
      go_wp2_with fail
      refine HOP.out.mono ?_
      rintro e wb ⟨pvb, lbb, qv, rfl, hlbb, hDSb, hLgb, hqb, _⟩
      have HWB := Lib.hid (HWA.out.step hDSb)
      have HRB := Lib.hid (HWA.out.row HRA.out (by decide) HZ4.out.1 HZ4.out.2 hDSb.only)
      have HCB := Lib.hid (HWA.out.row HCA.out (by decide) HB6.out.2.1 HB6.out.2.2 hDSb.only)
      have HQB := Lib.hid hqb
      have HSZ := Lib.hid hDSb.only.size
      clear hlbb hDSb hLgb hqb HOP HWA HRA HCA HL3 HP3
      obtain ⟨po, pc, hps⟩ := sliceOf_own HRB.out
      obtain rfl := hps.val
      have HPV := Lib.hid hps
      clear hps HRB
      go_wp2_with fail
      go_loopw [30, 31] (fun o i wr => ∃ j : Nat, j ≤ ps.length ∧ i = .int .i64 j ∧ Hid (wr.ownsRow wb.heap.size 46 2 o (keepP ps X j).length (pieceCells (keepP ps X j))) ∧ Hid (Only (fun _ => False) wb wr)) (fun o i _ => ps.length - (intOf i).toNat)
      case atStart => exact ⟨0, by omega, rfl, Lib.hid (nil_row _ _ _ _), Lib.hid (Only.refl _ _)⟩
      case round =>
        obtain ⟨j, hj, rfl, HR, HOR⟩ := hrel
        by_cases hjl : j < ps.length
        · have hI1 : (j : Int) < (ps.length : Int) := by omega
          obtain ⟨gb, go, rfl, hc0, hc1⟩ := (HPV.out.only HOR.out).piece_at j hjl
          have hks := keepP_succ ps X j hjl
          have hkl := keepP_length ps X j
          by_cases hx : ps[j].1 = X
          · rw [if_pos hx] at hks
            have hxe : (ps[j].1 != X) = false := by simp [hx]
            generalize ps[j].1 = z at hc0 hxe hx
            clear hc1 hx
            go_wp2_with fail
            go_roundw
            case rel => exact ⟨j + 1, by omega, by go_num, by rw [hks]; exact HR, HOR⟩
            case measure => simp [intOf]; omega
          · rw [if_neg hx] at hks
            have hxe : (ps[j].1 != X) = true := by simp [hx]
            obtain ⟨v', w7', hrun5, hown5, ho5⟩ := append_one_row (P := Tryz.prog) wr wb.heap.size 33 33 46 _ 2 24 Tryz.underlying33 Tryz.infoPiece rfl (by decide) u30 _ _ HR.out [.int .i64 ps[j].1, .string ⟨ps[j].2.toArray⟩] rfl (by simp [Value.oneCell']) (by omega) (by decide) HOR.out.size
            have HCC := Lib.hid (has_two hc0 hc1)
            have HRUN := Lib.hid hrun5
            have hpc := pieceCells_snoc (keepP ps X j) ps[j]
            rw [← hpc, ← hks, show (keepP ps X j).length + 1 = (keepP ps X (j + 1)).length by rw [hks]; simp] at hown5
            have HOWN := Lib.hid hown5
            have HO5 := Lib.hid (HOR.out.trans' ho5 (fun y hy e => row_own_new HR.out hy e))
            generalize ps[j].1 = z at hc0 hxe hx HCC HRUN
            generalize ps[j].2 = y at hc1 HCC HRUN
            clear hrun5 hown5 ho5 hx hks hpc
            go_wp2_with (first
              | ((with_reducible refine wpList_load_part gb (go + j * 2) [.int .i64 z, .string ⟨y.toArray⟩] ?_ ?_ ?_ ?_ ?_); (· exact ⟨_, Tryz.underlying46, rfl⟩); (· exact Tryz.sizePiece); (· exact HCC.out); (· rfl))
              | ((with_reducible refine wpList_append_run u30 (.slice (some ⟨wr.heap.size, 0, none⟩) 1 1) v' HRUN.out ?_ ?_ ?_); (· rfl); (· rfl)))
            go_roundw
            case rel => exact ⟨j + 1, by omega, by go_num, HOWN, HO5⟩
            case measure => simp [intOf]; omega
        · obtain rfl : j = ps.length := by omega
          have hI1 : ¬ (ps.length : Int) < (ps.length : Int) := by omega
          obtain ⟨xo, xc, hxs⟩ := sliceOf_own (row_quiet HCB.out HOR.out)
          obtain ⟨L, hL⟩ : ∃ L, us.length = L + 1 := ⟨us.length - 1, by omega⟩
          obtain ⟨xb, xi, hxe, hxc, _⟩ := hxs.use_at L (by omega)
          have hxv := hxs.val
          rw [hxe] at hxv
          obtain ⟨⟨rfl, rfl⟩, -⟩ : (cb = xb ∧ ci = xi) ∧ cc = xc := by simpa using hxv
          have hue := HUE.out
          rw [hL, Nat.add_sub_cancel] at hue
          rw [hue] at hxc
          rw [hL]
          have hLL : L ≤ 12 := by omega
          rw [keepP_all] at HR
          have hfl := keepP_length ps X ps.length
          rw [keepP_all] at hfl
          obtain ⟨v7, x7, hrun7, hown7, ho7⟩ := append_one_row (P := Tryz.prog) wr wb.heap.size 33 33 46 _ 2 24 Tryz.underlying33 Tryz.infoPiece rfl (by decide) u30 _ _ HR.out [.int .i64 (E + 1), .string ⟨[(110 : UInt8), 101, 119].toArray⟩] rfl (by simp [Value.oneCell']) (by omega) (by decide) HOR.out.size
          have hO7 := HOR.out.trans' ho7 (fun y hy e => row_own_new HR.out hy e)
          have hpc := pieceCells_snoc (ps.filter fun q => q.1 != X) (E + 1, [110, 101, 119])
          rw [← hpc, show (ps.filter fun (q : Int × List UInt8) => q.1 != X).length + 1 = ((ps.filter fun (q : Int × List UInt8) => q.1 != X) ++ [(E + 1, [110, 101, 119])]).length by simp] at hown7
          obtain ⟨qo, qc, hqs⟩ := sliceOf_own (row_quiet HQB.out hO7)
          obtain ⟨no, nc, hns⟩ := sliceOf_own hown7
          have HSP := Lib.hid (samePieces_any x7 qv v7 _ qo no qc nc hqs hns)
          have HRUN := Lib.hid hrun7
          have HWR := Lib.hid (HWB.out.quiet hO7)
          clear hxs hxe hxv hue HUE HOR HWB HQB HCB HPV hrun7 hown7 ho7 hO7 hpc hqs hns hfl
          go_wp2_with ((with_reducible refine wpList_append_runG u30 (.slice (some ⟨wr.heap.size, 0, none⟩) 1 1) v7 HRUN.out ?_ ?_ ?_ ?_); (· rfl); (· rfl); (· rfl))
          refine HSP.out.mono ?_
          rintro e x8 ⟨rfl, ho8⟩
          have HW8 := Lib.hid (HWR.out.quiet ho8).only
          clear ho8 HSP HWR HRUN
          go_wp2_with fail
          go_ret
          exact ⟨rfl, HW8.out⟩

set_option maxRecDepth 100000 in
theorem logRetires_lifted (os : Os) (started : os.Started) (H : Type) (enc : TypeId × Value → H) :
    ReturnsInHanded {} Tryz.checked os 3 .any (fun w args => (Rows.logRetiresSpec.pre enc Tryz.prog Tryz.f3 [] false w args ∧ laidMetH Tryz.prog laidE w) ∧ sizedMet enc Tryz.prog Tryz.f3 (OpenSpec.ofChange Rows.logRetiresSpec) false w args) (Rows.logRetiresSpec.post enc Tryz.prog Tryz.f3 false true false false) := by
  refine returnsInHanded_of_change_and (C := Tryz.checked) (X := fun w _ => laidMetH Tryz.prog laidE w) (fun _ _ _ hh h => h.of_heap hh) Tryz.own started (by kernel_rfl) Tryz.func3
    (ChangeSpec.witness_at (enc := enc) (C := Tryz.checked) (os := os) (X := fun w _ => laidMetH Tryz.prog laidE w) false (laidWorld os) #[.slice none 0 0, .int .i64 0] 8 rfl (by kernel_rfl) (by kernel_rfl) (by kernel_rfl) (by kernel_rfl) (by kernel_rfl) (laidWorld_met os _)) ?_
  intro W base args ds gs before hval0 hW _ _ hL0 _
  have hL := handle_of_laid hL0
  have hval : ∀ (j : Nat) t v, Tryz.f3.params[j]? = some t → args[j]? = some v → Value.okWide Tryz.prog W .any base t v := hval0
  have hW' := hW
  obtain ⟨p, q, hA0, hV, rfl, hfz, hnd⟩ := hW
  have hA : DataW.TrodAll enc Tryz.prog W 0 (fun _ => true) true Tryz.f3.params.toList args.toList ds p := hA0
  rw [Tryz.params3] at hA hval
  obtain ⟨v0, vs0, d0, ds0, p0, q0, hargs, rfl, rfl, h0, r0⟩ := trodAll_cons hA
  obtain ⟨v1, vs1, d1, ds1, p1, q1, rfl, rfl, rfl, h1, r1⟩ := trodAll_cons r0
  obtain ⟨rfl, rfl, rfl⟩ := trodAll_nil r1
  obtain rfl : args = #[v0, v1] := by cases args; simp_all
  obtain ⟨rfl, rfl⟩ := trodVars_none hV
  clear hA0 hval0 hL0
  obtain ⟨gs, hgr⟩ := law_groups (hval 0 22 v0 rfl rfl) h0
  obtain ⟨b, rfl, _, _, wb⟩ := open_int Tryz.underlying3 (hval 1 3 v1 rfl rfl) h1
  refine (logRetires_walk W v0 gs b (bounds_i64 wb) hgr hL).mono fun e W' ⟨he, ho⟩ => ?_
  subst he
  exact ⟨_, rfl, law_post rfl hW' (by kernel_rfl) (of_decide_eq_true (by kernel_rfl)) rfl rfl rfl ho⟩
theorem logRetires_row : Rows.LogRetiresSaid :=
  OpenClaim.holds_of_wide 3 Tryz.f3 rfl rfl rfl rfl rfl rfl rfl ⟨rfl, rfl, rfl, rfl, rfl⟩ rfl rfl rfl rfl rfl (by kernel_rfl) Tryz.func3 (by kernel_rfl)
    (of_decide_eq_true (by kernel_rfl)) (by unfold Func.isWrapper; first | (rw [if_pos (by decide +kernel)]; kernel_rfl) | (rw [if_neg (by decide +kernel)]; exact ⟨rfl, rfl⟩))
    (fun os started H enc _ => logRetires_lifted os started H enc)
theorem logRetires_stand : (Tryz.f3.params.toList.all fun t => !Tryz.prog.wantsStandIn t) = true := by kernel_rfl
theorem logRetires_holds : Rows.LogRetiresCardSaid :=
  Claim7.holds_tied_plain_at .later [] [.handle] true _ true
    logRetires_row (fun _ h => by cases h) (by kernel_rfl) (fun _ h => by cases h) logRetires_row_tie rfl ⟨rfl, rfl⟩ (by kernel_rfl) rfl
    (fun f fn hf hfn => by
      obtain rfl : f = 3 := Option.some.inj (hf.symm.trans (show Tryz.prog.funcNamed "moraine/morainelaw13.LogRetires" = some 3 by kernel_rfl))
      obtain rfl : fn = Tryz.f3 := (Option.some.inj (Tryz.func3.symm.trans hfn)).symm
      exact ⟨by kernel_rfl, fun j t ht => by
        have h1 := List.all_eq_true.1 logRetires_stand t (Array.mem_toList_iff.2 (Array.mem_of_getElem? ht))
        exact (show Tryz.prog.wantsStandIn t = false by simpa using h1)⟩)
    (by kernel_rfl)
end Go.Proofs.YtlgefjcfnnjkbaaGreatDoor
