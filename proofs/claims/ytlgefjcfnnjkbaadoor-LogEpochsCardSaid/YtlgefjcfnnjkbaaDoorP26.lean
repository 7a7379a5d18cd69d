/- Parts of the proof, one behind the other: LogHd. Each part's own words say what it proves; no conditions. -/
import Derived.Test.YtlgefjcfnnjkbaaDoorP24
import Derived.Test.YtlgefjcfnnjkbaaDoorP25
set_option linter.unusedVariables false
set_option linter.unusedSimpArgs false
set_option linter.unusedSectionVars false
/- shown: a small log, walked. No conditions. -/
namespace Go.Proofs.YtlgefjcfnnjkbaaDoor
set_option maxRecDepth 100000
open Go.RowKit

theorem wpList_make_run {P : Program} {ops : Array Oper} {rest : List Oper} {a : Act} {Q : Exit → Act → World → Prop} {W W' : World} {dst : Option Tmp} {x y : Operand} {t ty : TypeId} {pos : String} {after : Array Edge}
    (vx vy r : Value) (h : (Instr.makeSlice t vx vy).run P W = .ok r W') (hx : a.eval x = vx) (hy : a.eval y = vy) (hK : wpList P ops Q rest (a.put dst r) W') :
    wpList P ops Q ({ dst := dst, op := .makeSlice t x y, type := ty, pos := pos, after := after, guard := none } :: rest) a W :=
  wpList_run rfl (exec_make rfl hx hy h) hK
set_option maxHeartbeats 16000000 in
theorem shown_any (w : World) : Calls Tryd.prog 4 #[] w fun e w' => e = .returned (.bool true) ∧ Only (fun _ => False) w w' := by
  go_enter Tryd.func4, Tryd.ntmps4
  go_wp2_with fail
  refine (new_any w 16 (by decide) (by decide)).mono ?_
  rintro e w1 ⟨p, kb, rfl, hd, hp, hk, ho⟩
  have HL := Lib.hid (lw_new (Only.refl _ w) hd hp hk ho)
  have hop := open_any w1 p kb (.slice none 0 0) (D.new 16) 4 hd (by decide) (by decide) (by simp [D.new]) (by simp [D.new]) (by simp [D.new]) (fun ⟨x, hx⟩ => by
    have h1 := look_blank (g := frAt (D.new 16) 4) (per := 4) (segs := (D.new 16).kept.length / 4) (fun k a hk ha => new_at 16 4 4 (by decide) k a (by simpa [D.new] using hk) ha)
    rw [h1] at hx; cases hx)
  rw [open_new 16 4] at hop
  have HOP := Lib.hid hop
  clear hd hp hk ho hop
  obtain ⟨D0, hD0⟩ : ∃ D0, D0 = D.new 16 := ⟨_, rfl⟩
  rw [← hD0] at HL HOP
  go_wp2_with fail
  refine HOP.out.mono ?_
  rintro e w2 ⟨pv2, lb, psv, rfl, hlb, hDS, hLg, hps, _⟩
  obtain ⟨po, pc, hps⟩ := sliceOf_own hps
  obtain rfl : psv = .slice po 0 pc := hps.val
  have HL2 := Lib.hid (HL.out.step hDS)
  have HG2 := Lib.hid hLg
  have HLB := Lib.hid hlb
  have HLB2 := Lib.hid (show w.heap.size ≤ lb from Nat.le_trans HL.out.only.size hlb)
  have HB := Lib.hid (show lb < w2.heap.size + 1 ∧ p < w2.heap.size + 1 ∧ kb < w2.heap.size + 1 from ⟨by have := hLg.lt; omega, by have := hLg.da.p_lt; omega, by have := hLg.da.kb_lt; omega⟩)
  clear hDS hLg hps hlb HOP
  have hal := Only.alloc w2 (.cells #[.string ⟨[(97 : UInt8)].toArray⟩] 9) (fun _ => False)
  have hsl := slice_alloc_one w2 [97]
  have HAP := Lib.hid (append_any _ lb p kb pv2 D0 (Lg.new 4 4) (HG2.out.quiet hal) [[97]] _ _ _ false hsl (fun b hb => by rw [List.mem_singleton.1 hb]; decide) (by decide) (fun b o e => by
    obtain ⟨rfl, rfl⟩ : w2.heap.size = b ∧ 0 = o := by simpa using e
    exact ⟨by have := HG2.out.lt; omega, fun hb => by have := HG2.out.da.fp_lt _ hb; omega⟩) (by rw [hD0]; exact sh_st0.appendOk [[97]] false (by decide)))
  have HAL := Lib.hid hal
  have hA : (Lg.new 4 4).append D0 [[97]] false = shA := by rw [hD0]; rfl
  rw [hA] at HAP
  have hA1 := sh_a.1
  have hA2 := sh_a.2
  have hst := sh_stA
  have hkk := sh_k.2.1
  have hpp := sh_p.2.1
  generalize hRA : shA = RA at HAP hA1 hA2 hst hkk hpp
  obtain ⟨dA, lA, eA, xA⟩ := RA
  simp only at hA1 hA2 hst hkk hpp
  subst hA1
  subst hA2
  have HSA := Lib.hid hst
  have HRA := Lib.hid hRA
  clear hal hsl hA hst hRA
  go_wp2_with fail
  refine HAP.out.mono ?_
  rintro e w3 ⟨pv3, ev, rfl, her, hL3⟩
  have HL3 := Lib.hid ((HL2.out.quiet HAL.out).lstep HLB2.out hL3)
  have HG3 := Lib.hid hL3.at_
  have HE := Lib.hid (ownsRow_down her (show w2.heap.size + 1 ≤ _ by simp))
  have HZ3 := Lib.hid (show w2.heap.size + 1 ≤ w3.heap.size from Nat.le_trans (by simp) hL3.only.size)
  clear HAP her hL3 HL2 HG2 HAL
  have hB : lA.shut dA = shB := by unfold shB; rw [HRA.out]
  have HSH := Lib.hid (shut_any w3 lb p kb pv3 dA lA HG3.out HSA.out.shutOk (by omega))
  rw [hB] at HSH
  have hB0 := sh_b
  have hBu := sh_u
  have hBf := sh_f
  have hBs := sh_stB
  have hBp := sh_p.2.2
  have hBk := sh_k.2.2.1
  generalize hRB : shB = RB at HSH hB0 hBu hBf hBs hBp hBk
  obtain ⟨dB, lB, xB⟩ := RB
  simp only at hB0 hBu hBf hBs hBp hBk
  subst hB0
  have HBU := Lib.hid hBu
  have HBF := Lib.hid hBf
  have HBS := Lib.hid hBs
  have HRB := Lib.hid hRB
  clear hB hBu hBf hBs hRB HSA HRA hkk hpp
  go_wp2_with fail
  refine HSH.out.mono ?_
  rintro e w4 ⟨pv4, rfl, hL4⟩
  have HL4 := Lib.hid (HL3.out.lstep HLB2.out hL4)
  have HG4 := Lib.hid hL4.at_
  have HE4 := Lib.hid (hL4.rowB HG3.out HE.out (by decide) HB.out.1 HB.out.2.1 HB.out.2.2)
  have HZ4 := Lib.hid (Nat.le_trans HZ3.out hL4.only.size)
  clear hL4 HSH HL3 HG3 HE HZ3
  have hch := chain_any w4 lb p kb pv4 dB lB HG4.out
  have hfr := fun W h => free_any W lb p kb pv4 dB lB h
  rw [HBU.out] at hch
  rw [HBF.out] at hfr
  have HCH := Lib.hid hch
  have HFR := Lib.hid hfr
  clear hch hfr
  go_wp2_with fail
  refine HCH.out.mono ?_
  rintro e w5 ⟨cv, rfl, hcr, ho5⟩
  have HL5 := Lib.hid (HL4.out.quiet ho5)
  have HG5 := Lib.hid (HG4.out.quiet ho5)
  have HE5 := Lib.hid (row_quiet HE4.out ho5)
  have HC5 := Lib.hid (ownsRow_down hcr HZ4.out)
  have HZ5 := Lib.hid (Nat.le_trans HZ4.out ho5.size)
  clear hcr ho5 HCH HL4 HG4 HE4 HZ4
  go_wp2_with fail
  refine (HFR.out w5 HG5.out).mono ?_
  rintro e w6 ⟨rfl, ho6⟩
  have HL6 := Lib.hid (HL5.out.quiet ho6)
  have HG6 := Lib.hid (HG5.out.quiet ho6)
  have HE6 := Lib.hid (row_quiet HE5.out ho6)
  have HC6 := Lib.hid (row_quiet HC5.out ho6)
  have HZ6 := Lib.hid (Nat.le_trans HZ5.out ho6.size)
  clear ho6 HFR HL5 HG5 HE5 HC5 HZ5
  have hal := Only.alloc w6 (.cells #[.string ⟨[(98 : UInt8)].toArray⟩] 9) (fun _ => False)
  have hsl := slice_alloc_one w6 [98]
  have HAP := Lib.hid (append_any _ lb p kb pv4 dB lB (HG6.out.quiet hal) [[98]] _ _ _ false hsl (fun b hb => by rw [List.mem_singleton.1 hb]; decide) (by decide) (fun b o e => by
    obtain ⟨rfl, rfl⟩ : w6.heap.size = b ∧ 0 = o := by simpa using e
    exact ⟨by have := HG6.out.lt; omega, fun hb => by have := HG6.out.da.fp_lt _ hb; omega⟩) (HBS.out.appendOk [[98]] false (by simp; omega)))
  have HAL := Lib.hid hal
  have hC : lB.append dB [[98]] false = shC := by unfold shC; rw [HRB.out]
  rw [hC] at HAP
  have hC1 := sh_c.1
  have hC2 := sh_c.2
  have hpp := sh_p.1
  have hkk := sh_k.2.2.2
  have hek := sh_k.1
  have heo := sh_o
  have hpe := sh_per
  have hen := sh_n
  have hdn := sh_stC.down
  have hE : shE = shC.1.crash [] := rfl
  rw [hE] at hek heo hen
  generalize hRC : shC = RC at HAP hC1 hC2 hpp hkk hek heo hpe hen hdn
  obtain ⟨dC, lC, eC, xC⟩ := RC
  simp only at hC1 hC2 hpp hkk hek heo hpe hen hdn
  subst hC1
  subst hC2
  have HEK := Lib.hid hek
  have HEO := Lib.hid heo
  have HPE := Lib.hid hpe
  have HEN := Lib.hid hen
  have HDN := Lib.hid hdn
  clear hal hsl hC hE hRC HRB HBS hek heo hpe hen hdn HBU HBF
  go_wp2_with fail
  refine HAP.out.mono ?_
  rintro e w7 ⟨pv7, bv, rfl, hbr, hL7⟩
  have HL7 := Lib.hid ((HL6.out.quiet HAL.out).lstep HLB2.out hL7)
  have HG7 := Lib.hid hL7.at_
  have HE7 := Lib.hid (hL7.rowB (HG6.out.quiet HAL.out) (row_quiet HE6.out HAL.out) (by decide) HB.out.1 HB.out.2.1 HB.out.2.2)
  have HC7 := Lib.hid (hL7.rowB (HG6.out.quiet HAL.out) (row_quiet HC6.out HAL.out) (by decide) HB.out.1 HB.out.2.1 HB.out.2.2)
  have HR7 := Lib.hid (ownsRow_down hbr (show w2.heap.size + 1 ≤ _ from Nat.le_trans HZ6.out HAL.out.size))
  have HZ7 := Lib.hid (Nat.le_trans (Nat.le_trans HZ6.out HAL.out.size) hL7.only.size)
  have HCR := Lib.hid (crash_ok w7 p kb pv7 dC [] (.slice none 0 0) none 0 hL7.at_.da ⟨rfl, by decide, fun j x hx => by simp at hx, fun x hx => by simp at hx⟩ ⟨fun x h => by simp at h, by simp⟩ (by omega))
  clear hbr hL7 HAP HL6 HG6 HE6 HC6 HZ6 HAL
  go_wp2_with fail
  refine HCR.out.mono ?_
  rintro e w8 ⟨rfl, hd8, ho8⟩
  obtain ⟨dE, hdE⟩ : ∃ dE, dE = dC.crash [] := ⟨_, rfl⟩
  rw [← hdE] at HEK HEO HEN
  have hcl : dE.kept.length = dC.kept.length := by rw [hdE]; exact D.crash_len dC []
  have hpe : dE.pend.length = 0 := by rw [hdE]; rfl
  have hd8' : DAt w8 p kb (.slice none 0 0) dE := by rw [hdE]; exact hd8
  have hk8 : DStep w7 w8 p kb pv7 (.slice none 0 0) dE := ⟨hd8', ho8, fun g h => by cases h⟩
  have HL8 := Lib.hid (HL7.out.step hk8)
  have HG8 := Lib.hid (HG7.out.step hk8 hcl)
  have HE8 := Lib.hid (HL7.out.row HE7.out (by decide) HB.out.2.1 HB.out.2.2 ho8)
  have HC8 := Lib.hid (HL7.out.row HC7.out (by decide) HB.out.2.1 HB.out.2.2 ho8)
  have HR8 := Lib.hid (HL7.out.row HR7.out (by decide) HB.out.2.1 HB.out.2.2 ho8)
  have HZ8 := Lib.hid (Nat.le_trans HZ7.out ho8.size)
  have hop := open_any w8 p kb (.slice none 0 0) dE 4 hd8' (by decide) (by decide) (by rw [HEK.out]; decide) (by rw [HEK.out]; decide) (by omega) (fun ⟨x, hx⟩ => by
    have := piecesOpt_rot hx
    rw [HEO.out] at this; cases this)
  obtain ⟨dF, lF, hopF⟩ := piecesOpt_some HEO.out
  rw [hopF] at hop
  have hfn := HEN.out
  rw [hopF] at hfn
  have hfl : dF.kept.length = dE.kept.length := by rw [HEK.out]; exact hfn
  have HOP := Lib.hid hop
  have HFL := Lib.hid hfl
  clear hd8 ho8 HCR hdE hd8' hk8 hop hopF hfn hfl HEO HEN hcl HL7 HG7 HE7 HC7 HR7 HZ7
  go_wp2_with fail
  refine HOP.out.mono ?_
  rintro e w9 ⟨pv9, lb9, qv, rfl, hlb9, hDS9, hLg9, hqr, _⟩
  have HL9 := Lib.hid (HL8.out.step hDS9)
  have HG9 := Lib.hid (HG8.out.step hDS9 HFL.out)
  have HE9 := Lib.hid (HL8.out.row HE8.out (by decide) HB.out.2.1 HB.out.2.2 hDS9.only)
  have HC9 := Lib.hid (HL8.out.row HC8.out (by decide) HB.out.2.1 HB.out.2.2 hDS9.only)
  have HR9 := Lib.hid (HL8.out.row HR8.out (by decide) HB.out.2.1 HB.out.2.2 hDS9.only)
  have HQ9 := Lib.hid (ownsRow_down hqr HZ8.out)
  clear hlb9 hDS9 hLg9 hqr HOP HL8 HG8 HE8 HC8 HR8 HZ8 HFL
  go_wp2_with fail
  refine (open_nil w9 4).mono ?_
  rintro e wx ⟨rfl, rfl⟩
  go_wp2_with fail
  refine (open_arg w9 p 3 (by decide)).mono ?_
  rintro e wx ⟨rfl, rfl⟩
  obtain ⟨NG, hNG⟩ : ∃ NG : List UInt8, NG = List.replicate 107 0 := ⟨_, rfl⟩
  have hng : NG.length = 107 := by rw [hNG]; simp
  have hmk := Tryd.makeB 107 (by decide) w9
  rw [← hNG] at hmk
  have hoM := Only.alloc w9 (.cells (bvs NG).toArray 5) (fun _ => False)
  have hbM := heap_alloc_new w9 (.cells (bvs NG).toArray 5)
  generalize w9.alloc (.cells (bvs NG).toArray 5) = wM at hmk hoM hbM
  have hcv : (convert 47 9 (.slice (some ⟨w9.heap.size, 0, none⟩) 107 107)).run Tryd.prog wM = .ok (.string ⟨NG.toArray⟩) wM :=
    run_bytes_string wM 47 9 5 w9.heap.size 0 107 107 NG Tryd.underlying47 Tryd.underlying5 Tryd.underlying9 hng (fun j u hu => by rw [Nat.zero_add, cell_at hbM, List.getElem?_toArray]; exact hu)
  have hal := Only.alloc wM (.cells #[.string ⟨NG.toArray⟩] 9) (fun _ => False)
  have hsl := slice_alloc_one wM NG
  have hbig : anyBig lC.per [NG] = true := by
    unfold anyBig
    rw [HPE.out]
    simp only [List.any_cons, List.any_nil, Bool.or_false, decide_eq_true_eq, hng]
    decide
  have hG := HG9.out.quiet (hoM.trans hal)
  have hAP := append_any _ lb p kb pv9 dF lC hG [NG] _ _ _ true hsl (fun b hb => by rw [List.mem_singleton.1 hb, hng]; decide) (by simp) (fun b o e => by
    obtain ⟨rfl, rfl⟩ : wM.heap.size = b ∧ 0 = o := by simpa using e
    have h1 := (HG9.out.quiet hoM).lt
    exact ⟨by omega, fun hb => by have := (HG9.out.quiet hoM).da.fp_lt _ hb; omega⟩) (fun _ h => by rw [hbig] at h; cases h)
  have hres : lC.append dF [NG] true = (dF, lC, [], 133) := by
    rw [append_is, HDN.out, hbig]; rfl
  rw [hres] at hAP
  have HAP := Lib.hid hAP
  have HMK := Lib.hid hmk
  have HCV := Lib.hid hcv
  have HOA := Lib.hid (hoM.trans hal)
  have HGA := Lib.hid hG
  clear hNG hng hmk hoM hbM hcv hal hsl hbig hG hAP hres
  go_wp2_with (first
    | ((with_reducible refine wpList_make_run (.int .i64 107) (.int .i64 107) (.slice (some ⟨w9.heap.size, 0, none⟩) 107 107) HMK.out ?_ ?_ ?_); (· rfl); (· rfl))
    | ((with_reducible refine wpList_convert_run (.slice (some ⟨w9.heap.size, 0, none⟩) 107 107) (.string ⟨NG.toArray⟩) HCV.out ?_ ?_); (· rfl)))
  refine HAP.out.mono ?_
  rintro e w10 ⟨pv10, xv, rfl, _, hL10⟩
  have HLA := Lib.hid ((HL9.out.quiet HOA.out).lstep HLB2.out hL10)
  have HEA := Lib.hid (hL10.rowB HGA.out (row_quiet HE9.out HOA.out) (by decide) HB.out.1 HB.out.2.1 HB.out.2.2)
  have HCA := Lib.hid (hL10.rowB HGA.out (row_quiet HC9.out HOA.out) (by decide) HB.out.1 HB.out.2.1 HB.out.2.2)
  have HRA := Lib.hid (hL10.rowB HGA.out (row_quiet HR9.out HOA.out) (by decide) HB.out.1 HB.out.2.1 HB.out.2.2)
  have HQA := Lib.hid (hL10.rowB HGA.out (row_quiet HQ9.out HOA.out) (by decide) HB.out.1 HB.out.2.1 HB.out.2.2)
  clear hL10 HAP HMK HCV HOA HGA HL9 HG9 HE9 HC9 HR9 HQ9
  obtain ⟨eo, ec, hes⟩ := sliceOf_own HEA.out
  obtain rfl : ev = .slice eo 1 ec := hes.val
  obtain ⟨ro, rc, hrs⟩ := sliceOf_own HRA.out
  obtain rfl : bv = .slice ro 1 rc := hrs.val
  obtain ⟨eb, ei, rfl, hec⟩ := hes.cell 0 (.int .i64 1) rfl
  obtain ⟨rb, ri, rfl, hrc⟩ := hrs.cell 0 (.int .i64 2) rfl
  rw [Nat.add_zero] at hec hrc
  clear hes hrs
  go_wp2_with fail
  have hoU := Only.alloc w10 (.cells #[.int .i64 1, .int .i64 3] 43) (fun _ => False)
  obtain ⟨co, cc, hcs⟩ := sliceOf_own (row_quiet HCA.out hoU)
  have HSU := Lib.hid (sameUses_any _ cv _ [⟨1, 3⟩] co _ cc _ hcs (slice_alloc_cells w10 (usCells [⟨1, 3⟩]) 43 1 (by decide)))
  have HOU := Lib.hid hoU
  clear hcs hoU
  refine HSU.out.mono ?_
  rintro e w11 ⟨rfl, ho11⟩
  have HQB := Lib.hid (row_quiet HQA.out (HOU.out.trans ho11))
  have HLB := Lib.hid (HLA.out.quiet (HOU.out.trans ho11))
  have hr11 : w11.cell? ⟨rb, ri, none⟩ = some (.int .i64 2) := by rw [(HOU.out.trans ho11).cell (World.block_lt_of_cell? _ _ hrc) id]; exact hrc
  clear ho11 HSU HOU HLA HCA HQA HEA HRA hec hrc
  go_wp2_with fail
  have hoV := Only.alloc w11 (.cells #[.int .i64 1, .string ⟨[(97 : UInt8)].toArray⟩] 50) (fun _ => False)
  obtain ⟨qo, qc, hqs⟩ := sliceOf_own (row_quiet HQB.out hoV)
  have HSP := Lib.hid (samePieces_any _ qv _ [(1, [97])] qo _ qc _ hqs (slice_alloc_cells w11 (pieceCells [(1, [97])]) 50 1 (by decide)))
  have HLC := Lib.hid (HLB.out.quiet hoV)
  clear hqs hoV HLB HQB hr11
  refine HSP.out.mono ?_
  rintro e w12 ⟨rfl, ho12⟩
  have HLD := Lib.hid (HLC.out.quiet ho12).only
  clear ho12 HSP HLC
  go_wp2_with fail
  go_ret
  exact ⟨rfl, HLD.out⟩
end Go.Proofs.YtlgefjcfnnjkbaaDoor
