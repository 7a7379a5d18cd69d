/- LogEpochs: the chain has rising epochs, the counts of what was appended; an append that is refused changes nothing; none that is not deep leaves less than two segments free, if it opens one. No conditions. -/
import Derived.Test.YtlgefjcfnnjkbaaDoorTie
import Derived.Test.YtlgefjcfnnjkbaaDoorCards
import Derived.ChangeSame
import Derived.JoinedOf
import Derived.LaidLaws
import Derived.SevenTiedAt
import Derived.Test.YtlgefjcfnnjkbaaDoorP25
import Derived.Test.YtlgefjcfnnjkbaaDoorP26
import Derived.Test.YtlgefjcfnnjkbaaDoorP27
set_option linter.unusedVariables false
set_option linter.unusedSimpArgs false
set_option linter.unusedSectionVars false
namespace Go.Proofs.YtlgefjcfnnjkbaaDoor
set_option maxRecDepth 100000
open Go.ChangeShapes Go.WideShapes Go.ChangeAt Go.RowKit Go.Joins Go.Deep

set_option maxHeartbeats 32000000 in
theorem logEpochs_walk (w : World) (v : Value) (gs : List (List (List UInt8))) (hgs : GroupsAt w v gs) :
    Calls Tryd.prog 3 #[v] w fun e w' => e = .returned (.bool true) ∧ Only (fun _ => False) w w' := by
  have SH := Lib.hid (fun W => shown_any W)
  have HGS := Lib.hid hgs
  obtain ⟨ao, cap, rfl, hgl, _⟩ := hgs
  go_enter Tryd.func3, Tryd.ntmps3
  go_wp2_with fail
  refine (SH.out w).mono ?_
  rintro e w1 ⟨rfl, ho1⟩
  have HO1 := Lib.hid ho1
  clear ho1 SH
  go_wp2_with fail
  refine (new_any w1 40 (by decide) (by decide)).mono ?_
  rintro e w2 ⟨p, kb, rfl, hd2, hp2, hk2, ho2⟩
  have HW2 := Lib.hid (lw_new HO1.out hd2 hp2 hk2 ho2)
  have hop := open_any w2 p kb (.slice none 0 0) (D.new 40) 8 hd2 (by decide) (by decide) (by simp [D.new]) (by simp [D.new]) (by simp [D.new]) (fun ⟨x, hx⟩ => by
    have h1 := look_blank (g := frAt (D.new 40) 8) (per := 8) (segs := (D.new 40).kept.length / 8) (fun k a hk ha => new_at 40 8 5 (by decide) k a (by simpa [D.new] using hk) ha)
    rw [h1] at hx; cases hx)
  rw [open_new 40 8] at hop
  have HOP := Lib.hid hop
  have hst0 : LSt (D.new 40) (Lg.new 8 5) 0 [] := .new (lnew_new 40 8 (by decide) (by decide) (by decide) (by decide)) rfl rfl
  have HST0 := Lib.hid hst0
  have hpl : (D.new 40).pend.length = 0 := rfl
  have hct : (D.new 40).cut = false := rfl
  generalize D.new 40 = D0 at HOP HST0 hpl hct HW2 hd2
  have HPL := Lib.hid hpl
  have HCT := Lib.hid hct
  clear hop hst0 hpl hct hd2 hp2 hk2 ho2 HO1
  go_wp2_with fail
  refine HOP.out.mono ?_
  rintro e w3 ⟨pv3, lb, psv, rfl, hlb, hDS, hLg, _, _⟩
  have HW3 := Lib.hid (HW2.out.step hDS)
  have HG3 : Hid (LgAt w3 lb p kb pv3 D0 (Lg.new 8 5)) := Lib.hid hLg
  have HLB := Lib.hid (show w.heap.size ≤ lb from Nat.le_trans HW2.out.only.size hlb)
  clear hDS hLg hlb HOP HW2
  go_wp2_with fail
  go_loopw [10] (fun i wr => ∃ (k : Nat) (pvk : Value) (dk : D) (lk : Lg) (all : List (List UInt8)), i = .int .i64 (k : Int) ∧ k ≤ gs.length ∧ k ≤ 6 ∧ Hid (Lw w wr p kb pvk dk) ∧ Hid (LgAt wr lb p kb pvk dk lk) ∧ Hid (LSt dk lk 0 all) ∧ Hid (dk.cut = false) ∧ dk.pend.length ≤ 400 * k ∧ Hid (lk.per = 8)) (fun i _ => 7 - (intOf i).toNat)
  case atStart => exact ⟨0, pv3, D0, Lg.new 8 5, [], rfl, by omega, by omega, HW3, HG3, HST0, HCT, by rw [HPL.out]; omega, Lib.hid rfl⟩
  case round =>
    obtain ⟨k, pvk, dk, lk, all, rfl, hk, hk6, HW, HG, HST, HC, hpend, HP⟩ := hrel
    by_cases hkl : k < gs.length
    · by_cases h6 : k < 6
      · have hI : (k : Int) < (gs.length : Int) := by omega
        have hI6 : (k : Int) < 6 := by omega
        obtain ⟨w9, hw9⟩ : ∃ w9, w9 = wr := ⟨_, rfl⟩
        subst hw9
        obtain ⟨ao2, cap2, e2, _, hcells⟩ := HGS.out.only HW.out.only
        obtain ⟨rfl, rfl⟩ : ao = ao2 ∧ cap = cap2 := by simpa using e2
        obtain ⟨gb, go, vv, ao', cap', rfl, hcell, hslg, hml⟩ := hcells k hkl
        have HFW := Lib.hid (fun W (ho : Only (fun _ => False) w9 W) => few_any W vv gs[k] ao' cap' (hslg.only ho) hml)
        have hfl := fewL_length gs[k]
        have hf2 := fewL_len gs[k]
        generalize fewL gs[k] = s at HFW hfl hf2
        have HF2 := Lib.hid hf2
        have HF3 := Lib.hid hf2
        have HCELL := Lib.hid (fun W (ho : Only (fun _ => False) w9 W) => (ho.cell (World.block_lt_of_cell? _ _ hcell) id).trans hcell)
        have HDN := Lib.hid HST.out.down
        have HB := Lib.hid (show lb < w9.heap.size ∧ p < w9.heap.size ∧ kb < w9.heap.size from ⟨HG.out.lt, HG.out.da.p_lt, HG.out.da.kb_lt⟩)
        have HUC := Lib.hid (uses_c HDN.out (fun j => ⟨(HG.out.us j).2.2.1, (HG.out.us j).2.2.2⟩))
        have HCH := Lib.hid (chain_any w9 lb p kb pvk dk lk HG.out)
        clear e2 hcells hcell hslg hml hf2
        go_wp2_with fail
        refine HCH.out.mono ?_
        rintro e x1 ⟨wv, rfl, hwr, ho1⟩
        have HO1 := Lib.hid ho1
        have HWR1 := Lib.hid hwr
        have HFR := Lib.hid (free_any x1 lb p kb pvk dk lk (HG.out.quiet ho1))
        clear hwr ho1 HCH
        go_wp2_with fail
        refine HFR.out.mono ?_
        rintro e x2 ⟨rfl, ho2⟩
        have HO2 := Lib.hid (HO1.out.trans ho2)
        have HWR2 := Lib.hid (row_quiet HWR1.out ho2)
        have hc2 := HCELL.out x2 HO2.out
        have HFX := Lib.hid (HFW.out x2 HO2.out)
        clear ho2 HO1 HWR1 HFR HCELL HFW
        go_wp2_with fail
        refine HFX.out.mono ?_
        rintro e x3 ⟨sv, rfl, hsr, ho3⟩
        obtain ⟨so, sc, hsl⟩ := sliceOf_own hsr
        obtain rfl := hsl.val
        have HO3 := Lib.hid (HO2.out.trans ho3)
        have HWR3 := Lib.hid (row_quiet HWR2.out ho3)
        have HSR3 := Lib.hid (ownsRow_down hsr HO2.out.size)
        have HG3' := Lib.hid (HG.out.quiet HO3.out)
        have hAP := append_steps HST.out HDN.out s false
        have HAW := Lib.hid (append_any x3 lb p kb pvk dk lk HG3'.out s _ so sc false hsl (fun b hb => by have := HF2.out b hb; omega) (by omega) (fun b o e => by
          have hb : (Value.slice so s.length sc).ownBlock = some b := by rw [e]; rfl
          have h1 := ownBlock_ge HSR3.out hb
          exact ⟨by have := HB.out.1; omega, fun h3 => by have := HG.out.da.fp_lt b h3; omega⟩) (HST.out.appendOk s false (by omega)))
        generalize lk.append dk s false = AP at hAP HAW
        obtain ⟨d2, l2, es, e⟩ := AP
        simp only at hAP
        have HAP := Lib.hid hAP
        have HWX := Lib.hid (HW.out.quiet HO3.out)
        clear hc2 ho3 hsr hsl hAP HO2 HWR2 HFX HO3 HG HW HF2
        go_wp2_with fail
        refine HAW.out.mono ?_
        rintro ev x4 ⟨pv4, av, rfl, har, hL4⟩
        have HW4 : Hid (Lw w x4 p kb pv4 d2) := Lib.hid (HWX.out.lstep HLB.out hL4)
        have HG4 : Hid (LgAt x4 lb p kb pv4 d2 l2) := Lib.hid hL4.at_
        have HWR4 := Lib.hid (hL4.rowB HG3'.out HWR3.out (by decide) HB.out.1 HB.out.2.1 HB.out.2.2)
        have HSR4 := Lib.hid (hL4.rowB HG3'.out HSR3.out (by decide) HB.out.1 HB.out.2.1 HB.out.2.2)
        obtain ⟨avo, avc, hav⟩ := sliceOf_own har
        obtain rfl : av = .slice avo es.length avc := hav.val
        have HCH := Lib.hid (chain_any x4 lb p kb pv4 d2 l2 HG4.out)
        clear har hav hL4 HAW HWX HG3' HWR3 HSR3
        go_wp2_with fail
        refine HCH.out.mono ?_
        rintro ev x5 ⟨iv, rfl, hir, ho5⟩
        have HW5 := Lib.hid (HW4.out.quiet ho5)
        have HG5 := Lib.hid (HG4.out.quiet ho5)
        have HWR5 := Lib.hid (row_quiet HWR4.out ho5)
        have HSR5 := Lib.hid (row_quiet HSR4.out ho5)
        have HIR5 := Lib.hid hir
        clear hir ho5 HCH HW4 HG4 HWR4 HSR4
        have hm := HAP.out
        clear HAP
        by_cases he : e = 0
        · obtain ⟨n, E⟩ := hm.epoch HDN.out HP.out he
          obtain ⟨hst2, hstp, hper2⟩ := hm.zeroE he
          subst he
          have hlen := E.grown.len
          have hsum := E.grown.sum
          have hfew := E.grown.few
          have hfree := E.free
          have hes := E.es
          have hleft := E.left
          have hlw : lk.uses.length ≤ 12 := by have := E.grown.few; omega
          have hfb := free_bound hst2
          have HUP := Lib.hid E.grown.up
          have HLE := Lib.hid E.grown.le
          have HUD := Lib.hid (uses_c hst2.down (fun j => ⟨(HG5.out.us j).2.2.1, (HG5.out.us j).2.2.2⟩))
          have HFR := Lib.hid (fun W (ho : Only (fun _ => False) x5 W) => free_any W lb p kb pv4 d2 l2 (HG5.out.quiet ho))
          have HST2 := Lib.hid hst2
          have HC2 := Lib.hid (hstp.cut HC.out)
          have hpend2 : d2.pend.length ≤ 400 * k + 325 := by have := hstp.few; omega
          have HP2 := Lib.hid (hper2.trans HP.out)
          obtain ⟨wo, wc, hws⟩ := sliceOf_own HWR5.out
          obtain ⟨io, ic, his⟩ := sliceOf_own HIR5.out
          obtain ⟨so2, sc2, hss⟩ := sliceOf_own HSR5.out
          obtain ⟨rfl, rfl⟩ : so = so2 ∧ sc = sc2 := by have := hss.val; simpa using this
          have HB2 := Lib.hid (fun (b : List UInt8) (hb : b ∈ s) => HF3.out b hb)
          generalize lk.free = F at hfree ⊢
          generalize l2.free = F2 at hfree hleft hfb HFR
          obtain rfl : F = F2 + n := by omega
          generalize lk.uses = us at hlen hsum hws HUC hlw
          generalize l2.uses = us2 at hlen hsum hfew HUP HLE HUD his
          obtain rfl := hws.val
          obtain rfl := his.val
          rw [hes]
          have HLEN := Lib.hid hlen
          have HSUM := Lib.hid hsum
          have HWS := Lib.hid hws
          have HIS := Lib.hid his
          have HSL := Lib.hid hss
          clear hlen hsum hws his hss hm E hst2 hstp hper2 hfree hes HWR5 HIR5 HSR5 HST HC HP HDN HF3
          go_wp2_with fail
          go_loopw [17, 18] (fun nd j wr => ∃ q : Nat, q ≤ s.length ∧ j = .int .i64 (q : Int) ∧ nd = .int .i64 ((needTo s q : Nat) : Int) ∧ Hid (Only (fun _ => False) x5 wr)) (fun nd j _ => s.length - (intOf j).toNat)
          case atStart => exact ⟨0, by omega, rfl, by rw [needTo_zero]; rfl, Lib.hid (Only.refl _ _)⟩
          case round =>
            obtain ⟨q, hq, rfl, rfl, HO⟩ := hrel
            by_cases hql : q < s.length
            · have hQ : (q : Int) < (s.length : Int) := by omega
              obtain ⟨tb, tof, rfl, hcell⟩ := (HSL.out.only HO.out).txt_at q hql
              have hsu := needTo_succ s q hql
              have hnb := needTo_bound s HB2.out q (by omega)
              have hb250 := HB2.out s[q] (List.getElem_mem hql)
              have hnf := need_few hb250
              have HN := Lib.hid (fun W => need_nat W s[q].length (by omega))
              have hzz := size_toArray s[q]
              generalize s[q] = b at hcell hsu hb250 hnf HN hzz
              generalize needTo s q = A at hsu hnb ⊢
              have HSU := Lib.hid hsu
              clear hsu
              go_wp2_with fail
              refine (HN.out _).mono ?_
              rintro ev xw ⟨rfl, rfl⟩
              go_wp2_with fail
              exact ⟨⟨q + 1, by omega, by go_num, by rw [HSU.out]; push_cast; rfl, HO⟩, by simp [intOf]; omega⟩
            · obtain rfl : q = s.length := by omega
              have hQ : ¬ (s.length : Int) < (s.length : Int) := by omega
              have hnb := needTo_bound s HB2.out s.length (by omega)
              generalize needTo s s.length = NT at HSUM hnb ⊢
              go_wp2_with fail
              obtain ⟨w8, hw8⟩ : ∃ w8, w8 = wr := ⟨_, rfl⟩
              subst hw8
              go_loopw [19, 20] (fun sm j wr => ∃ q : Nat, q ≤ us2.length ∧ j = .int .i64 (q : Int) ∧ sm = .int .i64 (sumTo us2 q - sumTo us q) ∧ Hid (Only (fun _ => False) x5 wr)) (fun sm j _ => us2.length - (intOf j).toNat)
              case atStart => exact ⟨0, by omega, rfl, by rw [sumTo_zero, sumTo_zero]; rfl, HO⟩
              case round =>
                obtain ⟨q, hq, rfl, rfl, HO⟩ := hrel
                have hA := sumTo_bound us2 HUD.out q hq
                have hBw : 0 ≤ sumTo us q ∧ sumTo us q ≤ 800 := by
                  rcases Nat.lt_or_ge q us.length with h | h
                  · have := sumTo_bound us HUC.out q (by omega); omega
                  · rw [sumTo_past us q h]
                    have := sumTo_bound us HUC.out us.length (Nat.le_refl _); omega
                by_cases hql : q < us2.length
                · have hQ : (q : Int) < (us2.length : Int) := by omega
                  obtain ⟨ib, ioo, rfl, hi0, hi1⟩ := (HIS.out.only HO.out).use_at q hql
                  have hc8 := HLE.out q hql
                  have hc0 := HUD.out q
                  have hsu := sumTo_succ us2 q hql
                  have hprev : ∀ r, q = r + 1 → (us2.getD r Us.no).e < (us2.getD q Us.no).e := fun r hr => by
                    have := HUP.out r (by omega)
                    rw [hr]; exact this
                  have hcp : ∀ r, q = r + 1 → wr.cell? ⟨ib, ioo + r * 2, none⟩ = some (.int .i64 (us2.getD r Us.no).e) := fun r hr => by
                    obtain ⟨b', o', e', h0, _⟩ := (HIS.out.only HO.out).use_at r (by omega)
                    obtain ⟨rfl, rfl⟩ : ib = b' ∧ ioo = o' := by simpa using e'
                    exact h0
                  have HPV := Lib.hid hprev
                  have HCP := Lib.hid hcp
                  clear hprev hcp
                  have hun : (us2.getD q Us.no).c ≤ 8 := hc8
                  by_cases hqw : q < us.length
                  · have hQW : (q : Int) < (us.length : Int) := by omega
                    obtain ⟨wb, woo, rfl, _, hw1⟩ := (HWS.out.only HO.out).use_at q hqw
                    have hsw := sumTo_succ us q hqw
                    have hw0 := HUC.out q
                    have HNX := Lib.hid (show sumTo us2 (q + 1) - sumTo us (q + 1) = sumTo us2 q - sumTo us q + (us2.getD q Us.no).c - (us.getD q Us.no).c by omega)
                    generalize (us2.getD q Us.no).c = c2 at hi1 hc8 hc0 hun HNX
                    generalize (us.getD q Us.no).c = c1 at hw1 hw0 HNX
                    have hDD : -800 ≤ sumTo us2 q - sumTo us q ∧ sumTo us2 q - sumTo us q ≤ 800 := by omega
                    generalize sumTo us2 q - sumTo us q = DD at HNX hDD ⊢
                    clear hA hBw hsu hsw
                    rcases Nat.eq_zero_or_pos q with hq0 | hq0
                    · have hqn : ¬ (0 : Int) < (q : Int) := by omega
                      have hqd : decide (0 < q) = false := decide_eq_false (by omega)
                      clear HPV HCP hq0
                      generalize (us2.getD q Us.no).e = e2 at hi0
                      go_upto_region 29 with fail
                      have hj0 : wr.drew.cell? ⟨ib, ioo + q * 2, none⟩ = some (.int .i64 e2) := hi0
                      have hj1 : wr.drew.cell? ⟨ib, ioo + q * 2 + 1, none⟩ = some (.int .i64 c2) := hi1
                      have HOD := Lib.hid (HO.out.trans (Only.drew wr (fun _ => False)))
                      refine wp_region_pick (fun W => W = wr.drew) [(0, 0), (1, 0), (2, 0), (3, 0), (4, 0), (5, 0), (6, 0), (7, 1), (8, 0), (9, 0), (10, 0), (11, 0), (12, 0), (13, 1), (14, 0), (15, 0), (16, 0), (17, 0), (18, 0), (19, 0), (20, 0), (21, 1), (22, 0), (23, 0)] (by kernel_rfl) (by kernel_rfl) (fun _ _ d _ _ h => by cases d <;> exact h) rfl ?_
                      clear hi0 hi1 HO
                      generalize wr.drew = wd at hj0 hj1 HOD ⊢
                      simp only [pickOps, List.getElem?_cons_zero, List.getElem?_cons_succ]
                      iterate 24 (first | (refine wpL_pure (a' := ?_) ?_ rfl (fun W => ?_) ?_ ?_; rotate_left 2; (· go_simp; first | (go_bits; with_reducible rfl) | with_reducible rfl); (· simp only [put_some, List.setIfInBounds_toArray, List.set_cons_zero, List.set_cons_succ]; rfl)) | (refine wpL_held (a' := ?_) ?_ rfl (fun W hW => ?_) ?_ ?_; rotate_left 2; (· subst hW; go_simp; first | (go_bits; with_reducible rfl) | with_reducible rfl); (· simp only [put_some, List.setIfInBounds_toArray, List.set_cons_zero, List.set_cons_succ]; rfl)) | (refine wpL_skip rfl (by simp only [put_some, List.setIfInBounds_toArray, List.set_cons_zero, List.set_cons_succ]; rfl) ?_) | (refine wpL_heldSkip rfl (by simp only [put_some, List.setIfInBounds_toArray, List.set_cons_zero, List.set_cons_succ]; rfl) ?_))
                      refine wpL_nil ?_
                      go_wp2_with fail
                      exact ⟨⟨q + 1, by omega, by go_num, by rw [HNX.out], HOD⟩, by simp [intOf]; omega⟩
                    · obtain ⟨r, hr⟩ : ∃ r, q = r + 1 := ⟨q - 1, by omega⟩
                      have hcr := HCP.out r hr
                      have hlt := HPV.out r hr
                      have hqr : (q : Int) - 1 = (r : Int) := by omega
                      have hqp : (0 : Int) < (q : Int) := by omega
                      have hqd : decide (0 < q) = true := decide_eq_true (by omega)
                      generalize (us2.getD q Us.no).e = e2 at hi0 hlt
                      generalize (us2.getD r Us.no).e = e1 at hcr hlt
                      have hled : decide (e2 ≤ e1) = false := decide_eq_false (by omega)
                      clear HPV HCP
                      have hQr : (r : Int) < (us2.length : Int) := by omega
                      clear hr hq0
                      go_upto_region 29 with fail
                      have hj0 : wr.drew.cell? ⟨ib, ioo + q * 2, none⟩ = some (.int .i64 e2) := hi0
                      have hj1 : wr.drew.cell? ⟨ib, ioo + q * 2 + 1, none⟩ = some (.int .i64 c2) := hi1
                      have hjr : wr.drew.cell? ⟨ib, ioo + r * 2, none⟩ = some (.int .i64 e1) := hcr
                      have HOD := Lib.hid (HO.out.trans (Only.drew wr (fun _ => False)))
                      refine wp_region_pick (fun W => W = wr.drew) [(0, 0), (1, 0), (2, 0), (3, 0), (4, 0), (5, 0), (6, 0), (7, 1), (8, 0), (9, 0), (10, 0), (11, 0), (12, 0), (13, 1), (14, 0), (15, 0), (16, 0), (17, 0), (18, 0), (19, 0), (20, 0), (21, 1), (22, 0), (23, 0)] (by kernel_rfl) (by kernel_rfl) (fun _ _ d _ _ h => by cases d <;> exact h) rfl ?_
                      clear hi0 hi1 HO
                      generalize wr.drew = wd at hj0 hj1 HOD hjr ⊢
                      simp only [pickOps, List.getElem?_cons_zero, List.getElem?_cons_succ]
                      iterate 24 (first | (refine wpL_pure (a' := ?_) ?_ rfl (fun W => ?_) ?_ ?_; rotate_left 2; (· go_simp; first | (go_bits; with_reducible rfl) | with_reducible rfl); (· simp only [put_some, List.setIfInBounds_toArray, List.set_cons_zero, List.set_cons_succ]; rfl)) | (refine wpL_held (a' := ?_) ?_ rfl (fun W hW => ?_) ?_ ?_; rotate_left 2; (· subst hW; go_simp; first | (go_bits; with_reducible rfl) | with_reducible rfl); (· simp only [put_some, List.setIfInBounds_toArray, List.set_cons_zero, List.set_cons_succ]; rfl)) | (refine wpL_skip rfl (by simp only [put_some, List.setIfInBounds_toArray, List.set_cons_zero, List.set_cons_succ]; rfl) ?_) | (refine wpL_heldSkip rfl (by simp only [put_some, List.setIfInBounds_toArray, List.set_cons_zero, List.set_cons_succ]; rfl) ?_))
                      refine wpL_nil ?_
                      go_wp2_with fail
                      exact ⟨⟨q + 1, by omega, by go_num, by rw [HNX.out], HOD⟩, by simp [intOf]; omega⟩
                  · have hQW : ¬ (q : Int) < (us.length : Int) := by omega
                    have HNX := Lib.hid (show sumTo us2 (q + 1) - sumTo us (q + 1) = sumTo us2 q - sumTo us q + (us2.getD q Us.no).c by
                      rw [sumTo_past us q (by omega), sumTo_past us (q + 1) (by omega)]; omega)
                    generalize (us2.getD q Us.no).c = c2 at hi1 hc8 hc0 hun HNX
                    have hDD : -800 ≤ sumTo us2 q - sumTo us q ∧ sumTo us2 q - sumTo us q ≤ 800 := by omega
                    generalize sumTo us2 q - sumTo us q = DD at HNX hDD ⊢
                    clear hA hBw hsu
                    rcases Nat.eq_zero_or_pos q with hq0 | hq0
                    · have hqn : ¬ (0 : Int) < (q : Int) := by omega
                      have hqd : decide (0 < q) = false := decide_eq_false (by omega)
                      clear HPV HCP hq0
                      generalize (us2.getD q Us.no).e = e2 at hi0
                      go_upto_region 29 with fail
                      have hj0 : wr.drew.cell? ⟨ib, ioo + q * 2, none⟩ = some (.int .i64 e2) := hi0
                      have hj1 : wr.drew.cell? ⟨ib, ioo + q * 2 + 1, none⟩ = some (.int .i64 c2) := hi1
                      have HOD := Lib.hid (HO.out.trans (Only.drew wr (fun _ => False)))
                      refine wp_region_pick (fun W => W = wr.drew) [(0, 0), (1, 0), (2, 0), (3, 0), (4, 0), (5, 0), (6, 0), (7, 1), (8, 0), (9, 0), (10, 0), (11, 0), (12, 0), (13, 1), (14, 0), (15, 0), (16, 0), (17, 0), (18, 0), (19, 0), (20, 0), (21, 1), (22, 0), (23, 0)] (by kernel_rfl) (by kernel_rfl) (fun _ _ d _ _ h => by cases d <;> exact h) rfl ?_
                      clear hi0 hi1 HO
                      generalize wr.drew = wd at hj0 hj1 HOD ⊢
                      simp only [pickOps, List.getElem?_cons_zero, List.getElem?_cons_succ]
                      iterate 24 (first | (refine wpL_pure (a' := ?_) ?_ rfl (fun W => ?_) ?_ ?_; rotate_left 2; (· go_simp; first | (go_bits; with_reducible rfl) | with_reducible rfl); (· simp only [put_some, List.setIfInBounds_toArray, List.set_cons_zero, List.set_cons_succ]; rfl)) | (refine wpL_held (a' := ?_) ?_ rfl (fun W hW => ?_) ?_ ?_; rotate_left 2; (· subst hW; go_simp; first | (go_bits; with_reducible rfl) | with_reducible rfl); (· simp only [put_some, List.setIfInBounds_toArray, List.set_cons_zero, List.set_cons_succ]; rfl)) | (refine wpL_skip rfl (by simp only [put_some, List.setIfInBounds_toArray, List.set_cons_zero, List.set_cons_succ]; rfl) ?_) | (refine wpL_heldSkip rfl (by simp only [put_some, List.setIfInBounds_toArray, List.set_cons_zero, List.set_cons_succ]; rfl) ?_))
                      refine wpL_nil ?_
                      go_wp2_with fail
                      exact ⟨⟨q + 1, by omega, by go_num, by rw [HNX.out], HOD⟩, by simp [intOf]; omega⟩
                    · obtain ⟨r, hr⟩ : ∃ r, q = r + 1 := ⟨q - 1, by omega⟩
                      have hcr := HCP.out r hr
                      have hlt := HPV.out r hr
                      have hqr : (q : Int) - 1 = (r : Int) := by omega
                      have hqp : (0 : Int) < (q : Int) := by omega
                      have hqd : decide (0 < q) = true := decide_eq_true (by omega)
                      generalize (us2.getD q Us.no).e = e2 at hi0 hlt
                      generalize (us2.getD r Us.no).e = e1 at hcr hlt
                      have hled : decide (e2 ≤ e1) = false := decide_eq_false (by omega)
                      clear HPV HCP
                      have hQr : (r : Int) < (us2.length : Int) := by omega
                      clear hr hq0
                      go_upto_region 29 with fail
                      have hj0 : wr.drew.cell? ⟨ib, ioo + q * 2, none⟩ = some (.int .i64 e2) := hi0
                      have hj1 : wr.drew.cell? ⟨ib, ioo + q * 2 + 1, none⟩ = some (.int .i64 c2) := hi1
                      have hjr : wr.drew.cell? ⟨ib, ioo + r * 2, none⟩ = some (.int .i64 e1) := hcr
                      have HOD := Lib.hid (HO.out.trans (Only.drew wr (fun _ => False)))
                      refine wp_region_pick (fun W => W = wr.drew) [(0, 0), (1, 0), (2, 0), (3, 0), (4, 0), (5, 0), (6, 0), (7, 1), (8, 0), (9, 0), (10, 0), (11, 0), (12, 0), (13, 1), (14, 0), (15, 0), (16, 0), (17, 0), (18, 0), (19, 0), (20, 0), (21, 1), (22, 0), (23, 0)] (by kernel_rfl) (by kernel_rfl) (fun _ _ d _ _ h => by cases d <;> exact h) rfl ?_
                      clear hi0 hi1 HO
                      generalize wr.drew = wd at hj0 hj1 HOD hjr ⊢
                      simp only [pickOps, List.getElem?_cons_zero, List.getElem?_cons_succ]
                      iterate 24 (first | (refine wpL_pure (a' := ?_) ?_ rfl (fun W => ?_) ?_ ?_; rotate_left 2; (· go_simp; first | (go_bits; with_reducible rfl) | with_reducible rfl); (· simp only [put_some, List.setIfInBounds_toArray, List.set_cons_zero, List.set_cons_succ]; rfl)) | (refine wpL_held (a' := ?_) ?_ rfl (fun W hW => ?_) ?_ ?_; rotate_left 2; (· subst hW; go_simp; first | (go_bits; with_reducible rfl) | with_reducible rfl); (· simp only [put_some, List.setIfInBounds_toArray, List.set_cons_zero, List.set_cons_succ]; rfl)) | (refine wpL_skip rfl (by simp only [put_some, List.setIfInBounds_toArray, List.set_cons_zero, List.set_cons_succ]; rfl) ?_) | (refine wpL_heldSkip rfl (by simp only [put_some, List.setIfInBounds_toArray, List.set_cons_zero, List.set_cons_succ]; rfl) ?_))
                      refine wpL_nil ?_
                      go_wp2_with fail
                      exact ⟨⟨q + 1, by omega, by go_num, by rw [HNX.out], HOD⟩, by simp [intOf]; omega⟩
                · obtain rfl : q = us2.length := by omega
                  have hQ : ¬ (us2.length : Int) < (us2.length : Int) := by omega
                  have hlen := HLEN.out
                  have hval : sumTo us2 us2.length - sumTo us us2.length = (NT : Int) + n := by
                    rw [HSUM.out, sumTo_past us us2.length (by omega)]; omega
                  rw [hval]
                  have hop : (us2.length : Int) - (us.length : Int) = (n : Int) := by omega
                  have hff : F2 + (n : Int) - F2 = (n : Int) := by omega
                  have hn12 : n ≤ 12 := by omega
                  have HFZ := Lib.hid (HFR.out wr HO.out)
                  clear hA hBw hval HSUM HUP HLE HUD HUC hlen HLEN
                  rcases Nat.eq_zero_or_pos n with hn0 | hn0
                  · have hnn : ¬ (0 : Int) < (n : Int) := by omega
                    have hnl : ¬ (n : Int) < 0 := by omega
                    clear hn0 hleft
                    go_wp2_with fail
                    refine HFZ.out.mono ?_
                    rintro ev xf ⟨rfl, hof⟩
                    have HWF := Lib.hid (HW5.out.quiet (HO.out.trans hof))
                    have HGF := Lib.hid (HG5.out.quiet (HO.out.trans hof))
                    clear hof HFZ HFR
                    go_wp2_with fail
                    exact ⟨⟨k + 1, pv4, d2, l2, all ++ s, by go_num, by omega, by omega, HWF, HGF, HST2, HC2, by omega, HP2⟩, by simp [intOf]; omega⟩
                  · have hnn : (0 : Int) < (n : Int) := by omega
                    have hnl : ¬ (n : Int) < 0 := by omega
                    have hl2 := hleft hn0
                    have hl3 : ¬ F2 < 2 := by omega
                    clear hn0 hleft
                    go_wp2_with fail
                    refine HFZ.out.mono ?_
                    rintro ev xf ⟨rfl, hof⟩
                    have HOF := Lib.hid (HO.out.trans hof)
                    have HFY := Lib.hid (HFR.out xf HOF.out)
                    clear hof HFZ HFR
                    go_wp2_with fail
                    refine HFY.out.mono ?_
                    rintro ev xg ⟨rfl, hog⟩
                    have HWF := Lib.hid (HW5.out.quiet (HOF.out.trans hog))
                    have HGF := Lib.hid (HG5.out.quiet (HOF.out.trans hog))
                    clear hog HFY HOF
                    go_wp2_with fail
                    exact ⟨⟨k + 1, pv4, d2, l2, all ++ s, by go_num, by omega, by omega, HWF, HGF, HST2, HC2, by omega, HP2⟩, by simp [intOf]; omega⟩
        · cases hm with
          | ok d' l' es h hl n ha hdp st => exact absurd rfl he
          | cut d' l' hc cr st => rw [HC.out] at hc; cases hc
          | no e he2 =>
            have hne : (e != 0) = true := by simpa using he
            obtain ⟨uo, uc, hus⟩ := sliceOf_own HWR5.out
            obtain ⟨xo, xc, hxs⟩ := sliceOf_own HIR5.out
            have HSU := Lib.hid (sameUses_any x5 wv iv lk.uses uo xo uc xc hus hxs)
            have HFR := Lib.hid (fun W (ho : Only (fun _ => False) x5 W) => free_any W lb p kb pv4 dk lk (HG5.out.quiet ho))
            generalize lk.free = F at HFR
            clear hus hxs HWR5 HIR5 HSR5 he2 he
            go_wp2_with fail
            refine HSU.out.mono ?_
            rintro ev x6 ⟨rfl, ho6⟩
            have HO6 := Lib.hid ho6
            have HFZ := Lib.hid (HFR.out x6 ho6)
            clear ho6 HSU HFR
            go_wp2_with fail
            refine HFZ.out.mono ?_
            rintro ev x7 ⟨rfl, ho7⟩
            have HW7 := Lib.hid (HW5.out.quiet (HO6.out.trans ho7))
            have HG7 := Lib.hid (HG5.out.quiet (HO6.out.trans ho7))
            clear ho7 HFZ HO6 HW5 HG5
            go_wp2_with fail
            exact ⟨⟨k + 1, pv4, dk, lk, all, by go_num, by omega, by omega, HW7, HG7, HST, HC, by omega, HP⟩, by simp [intOf]; omega⟩
      · obtain rfl : k = 6 := by omega
        go_wp2_with fail
        go_ret
        exact ⟨rfl, HW.out.only⟩
    · obtain rfl : k = gs.length := by omega
      have hI : ¬ (gs.length : Int) < (gs.length : Int) := by omega
      go_wp2_with fail
      go_ret
      exact ⟨rfl, HW.out.only⟩

set_option maxRecDepth 100000 in
theorem logEpochs_lifted (os : Os) (started : os.Started) (H : Type) (enc : TypeId × Value → H) :
    ReturnsInHanded {} Tryd.checked os 3 .any (fun w args => (Rows.logEpochsSpec.pre enc Tryd.prog Tryd.f3 [] false w args ∧ laidMetH Tryd.prog laidE w) ∧ sizedMet enc Tryd.prog Tryd.f3 (OpenSpec.ofChange Rows.logEpochsSpec) false w args) (Rows.logEpochsSpec.post enc Tryd.prog Tryd.f3 false true false false) := by
  refine returnsInHanded_of_change_and (C := Tryd.checked) (X := fun w _ => laidMetH Tryd.prog laidE w) (fun _ _ _ hh h => h.of_heap hh) Tryd.own started (by kernel_rfl) Tryd.func3
    (ChangeSpec.witness_at (enc := enc) (C := Tryd.checked) (os := os) (X := fun w _ => laidMetH Tryd.prog laidE w) false (laidWorld os) #[.slice none 0 0] 8 rfl (by kernel_rfl) (by kernel_rfl) (by kernel_rfl) (by kernel_rfl) (by kernel_rfl) (laidWorld_met os _)) ?_
  intro W base args ds gs before hval0 hW _ _ hL0 _
  have hL := handle_of_laid hL0
  have hval : ∀ (j : Nat) t v, Tryd.f3.params[j]? = some t → args[j]? = some v → Value.okWide Tryd.prog W .any base t v := hval0
  have hW' := hW
  obtain ⟨p, q, hA0, hV, rfl, hfz, hnd⟩ := hW
  have hA : DataW.TrodAll enc Tryd.prog W 0 (fun _ => true) true Tryd.f3.params.toList args.toList ds p := hA0
  rw [Tryd.params3] at hA hval
  obtain ⟨v0, vs0, d0, ds0, p0, q0, hargs, rfl, rfl, h0, r0⟩ := trodAll_cons hA
  obtain ⟨rfl, rfl, rfl⟩ := trodAll_nil r0
  obtain rfl : args = #[v0] := by cases args; simp_all
  obtain ⟨rfl, rfl⟩ := trodVars_none hV
  clear hA0 hval0 hL0
  obtain ⟨gs, hgr⟩ := law_groups (hval 0 22 v0 rfl rfl) h0
  refine (logEpochs_walk W v0 gs hgr).mono fun e W' ⟨he, ho⟩ => ?_
  subst he
  exact ⟨_, rfl, law_post rfl hW' (by kernel_rfl) (of_decide_eq_true (by kernel_rfl)) rfl rfl rfl ho⟩
theorem logEpochs_row : Rows.LogEpochsSaid :=
  OpenClaim.holds_of_wide 3 Tryd.f3 rfl rfl rfl rfl rfl rfl rfl ⟨rfl, rfl, rfl, rfl, rfl⟩ rfl rfl rfl rfl rfl (by kernel_rfl) Tryd.func3 (by kernel_rfl)
    (of_decide_eq_true (by kernel_rfl)) (by unfold Func.isWrapper; first | (rw [if_pos (by decide +kernel)]; kernel_rfl) | (rw [if_neg (by decide +kernel)]; exact ⟨rfl, rfl⟩))
    (fun os started H enc _ => logEpochs_lifted os started H enc)
theorem logEpochs_stand : (Tryd.f3.params.toList.all fun t => !Tryd.prog.wantsStandIn t) = true := by kernel_rfl
theorem logEpochs_holds : Rows.LogEpochsCardSaid :=
  Claim7.holds_tied_plain_at .later [] [.handle] true _ true
    logEpochs_row (fun _ h => by cases h) (by kernel_rfl) (fun _ h => by cases h) logEpochs_row_tie rfl ⟨rfl, rfl⟩ (by kernel_rfl) rfl
    (fun f fn hf hfn => by
      obtain rfl : f = 3 := Option.some.inj (hf.symm.trans (show Tryd.prog.funcNamed "moraine/morainelaw13.LogEpochs" = some 3 by kernel_rfl))
      obtain rfl : fn = Tryd.f3 := (Option.some.inj (Tryd.func3.symm.trans hfn)).symm
      exact ⟨by kernel_rfl, fun j t ht => by
        have h1 := List.all_eq_true.1 logEpochs_stand t (Array.mem_toList_iff.2 (Array.mem_of_getElem? ht))
        exact (show Tryd.prog.wantsStandIn t = false by simpa using h1)⟩)
    (by kernel_rfl)
end Go.Proofs.YtlgefjcfnnjkbaaDoor
