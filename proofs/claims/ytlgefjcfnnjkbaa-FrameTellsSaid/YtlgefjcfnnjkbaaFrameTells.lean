/- FrameTells: frames as sectors, and what sectors say, are as the document says. No conditions. -/
import Derived.Test.YtlgefjcfnnjkbaaLaw
import Derived.Test.YtlgefjcfnnjkbaaEx
import Derived.Test.YtlgefjcfnnjkbaaRows
import Derived.Outline
namespace Go.Proofs.Ytlgefjcfnnjkbaa
open Go.RowKit Go.ChangeShapes Go.WideShapes

theorem Fr.Wf.cut {f : Fr} (h : f.Wf) (m : Nat) : ({ f with s := f.s.take m } : Fr).Wf := ⟨h.e, h.a, h.k, by have := h.s; simp only [List.length_take]; omega⟩

set_option maxRecDepth 100000 in
set_option maxHeartbeats 4000000 in
theorem frameTells_walk (w : World) (f : Fr) (s : List UInt8) (at_ n : Int) (b : UInt8) (hf : f.Wf) (hs : s.length ≤ maxLen) (ha : I64 at_) (hn : I64 n) :
    Calls Try.prog 3 #[f.val, .string ⟨s.toArray⟩, .int .i64 at_, .int .u8 (b.toNat : Int), .int .i64 n] w fun e w' => e = .returned (.bool true) ∧ Only (fun _ => False) w w' := by
  have hf' := hf.cut 70
  have hsz := hf.s
  obtain ⟨fe, fa, fk, fs⟩ := f
  simp only at hf' hsz
  have hfx := front_extract fs 70 70 rfl
  have FO := Lib.hid (fun W => frameOf_any W _ hf')
  have TD := Lib.hid (fun W => told_any W _ hf'.s)
  have HR := Lib.hid (Fr.made_right ⟨fe, fa, fk, fs.take 70⟩)
  have TM := Lib.hid (fun W => told_any W (Fr.made ⟨fe, fa, fk, fs.take 70⟩) (by have := (Fr.right_iff _).1 HR.out; unfold maxLen; omega))
  generalize Fr.made ⟨fe, fa, fk, fs.take 70⟩ = m at FO HR TM
  generalize fs.take 70 = fs' at hfx FO TD
  have LG := Lib.hid (fun W => refLay_good W m HR.out)
  have hq := Fr.lay_length HR.out
  generalize m.lay = q at LG hq
  have hz := size_toArray q
  rw [hq] at hz
  have PK := Lib.hid (fun W => pick12_any W at_ 64 ha (by decide) (by decide))
  have hpk := pickI_lt at_ 64 (by decide)
  obtain ⟨k, hk⟩ : ∃ k : Nat, (k : Int) = pickI at_ 64 := ⟨(pickI at_ 64).toNat, by omega⟩
  rw [← hk] at PK hpk
  have hk64 : k < 64 := by omega
  clear hk hpk ha hf hf'
  have HB := Lib.hid (heap_alloc_new w (.cells #[.int .i64 fe, .int .i64 fa, .int .i64 fk, .string ⟨fs.toArray⟩] 23))
  have HO0 := Lib.hid (Only.alloc w (.cells #[.int .i64 fe, .int .i64 fa, .int .i64 fk, .string ⟨fs.toArray⟩] 23) (fun _ => False))
  unfold Fr.val at FO TD ⊢
  simp only at FO TD ⊢
  unfold maxLen at hsz
  have hzf := size_toArray fs
  have HFX := Lib.hid hfx
  clear hfx
  go_enter Try.func3, Try.ntmps3
  go_upto_region 4 with (go_at_call 19; refine (examples_any _).mono ?_; rintro e w1 ⟨rfl, ho1⟩)
  have hb1 := ho1.keep HB.out id
  have c0 := cell_at hb1 0
  have c1 := cell_at hb1 1
  have c2 := cell_at hb1 2
  have c3 := cell_at hb1 3
  have HO1 := Lib.hid (HO0.out.trans ho1)
  clear ho1
  have hfz := free_at hb1 3
  have SC := Lib.hid (heap_setCell_same w1 w.heap.size 3 _ _ (.string ⟨fs'.toArray⟩) hb1)
  have SO := Lib.hid (HO1.out.trans' (Only.one w1 w.heap.size 3 (.string ⟨fs'.toArray⟩)) (fun y hy e => by omega))
  go_cut [] from 20 to 27 (fun wx => wx.heap[w.heap.size]? = some (.cells #[.int .i64 fe, .int .i64 fa, .int .i64 fk, .string ⟨fs'.toArray⟩] 23 (0, 0)) ∧ Only (fun _ => False) w wx)
  case first =>
    by_cases h70 : (70 : Int) < (fs.length : Int)
    · have hfx := HFX.out
      rw [if_pos h70] at hfx
      simp only [Int.reduceToNat] at hfx
      go_wp2_with fail
      go_meet
      exact ⟨SC.out, SO.out⟩
    · have hfx := HFX.out
      rw [if_neg h70, Int.toNat_natCast] at hfx
      have h70' : (fs.length : Int) ≤ 70 := by omega
      clear h70
      go_wp2_with fail
      go_meet
      exact ⟨SC.out, SO.out⟩
  case rest =>
    obtain ⟨hb2, ho2⟩ := hcut
    have HO2 := Lib.hid ho2
    clear hb1 hfz SC SO ho2 c0 c1 c2 c3
    have d0 := cell_at hb2 0
    have d1 := cell_at hb2 1
    have d2 := cell_at hb2 2
    have d3 := cell_at hb2 3
    have HB2 := Lib.hid hb2
    clear hb2
    go_upto_region 7 with (first
      | (go_at_call 21; refine (FO.out _).mono ?_; rintro e w3 ⟨rfl, ho3⟩; have HB3 := Lib.hid (ho3.keep HB2.out id); have HO3 := Lib.hid (HO2.out.trans ho3); clear ho3)
      | (go_at_call 20; refine (LG.out _).mono ?_; rintro e w4 ⟨rfl, ho4⟩; have HB4 := Lib.hid (ho4.keep HB3.out id); have HO4 := Lib.hid (HO3.out.trans ho4); clear ho4)
      | (go_at_call 22; refine (PK.out _).mono ?_; rintro e w5 ⟨rfl, rfl⟩))
    have hx1 := extract_list q 0 k
    rw [List.drop_zero] at hx1
    have hx2 := extract_list q (k + 1) 64
    rw [List.take_of_length_le (by omega)] at hx2
    have happ1 := append_list (q.take k) [b]
    have happ2 := append_list (q.take k ++ [b]) (q.drop (k + 1))
    have hl1 := size_toArray (q.take k)
    have hl2 := size_toArray (q.drop (k + 1))
    have hl3 := size_toArray (q.take k ++ [b])
    have htl : (q.take k ++ [b] ++ q.drop (k + 1)).length ≤ 200 := by simp; omega
    have hki1 : (k : Int) ≤ 64 := by omega
    have hki2 : (k : Int) < 64 := by omega
    have hki3 : (k : Int) + 1 ≤ 64 := by omega
    have hki4 : 0 ≤ (k : Int) + 1 := by omega
    have hsz1 : (q.take k).length ≤ 64 := by simp; omega
    have hsz2 : (q.drop (k + 1)).length ≤ 64 := by simp; omega
    have hcat1 : (9223372036854775807 < (q.take k).length + 1) = False := by simp only [eq_iff_iff, iff_false]; omega
    have hcat2 : (9223372036854775807 < (q.take k).length + 1 + (q.drop (k + 1)).length) = False := by simp only [eq_iff_iff, iff_false]; omega
    generalize q.take k ++ [b] ++ q.drop (k + 1) = q' at happ2 htl
    refine wp_region_pick (fun _ => True) [(0, 0), (1, 0), (2, 0), (3, 0), (7, 0), (8, 0), (9, 0), (10, 0), (4, 2), (5, 2), (6, 0), (11, 0), (12, 0)] (by kernel_rfl) (by kernel_rfl) (fun _ _ d _ _ h => by cases d <;> exact h) trivial ?_
    simp only [pickOps, List.getElem?_cons_zero, List.getElem?_cons_succ]
    iterate 8 (refine wpL_pure (a' := ?_) ?_ rfl (fun W => ?_) ?_ ?_; rotate_left 2; (· go_simp; first | (go_bits; with_reducible rfl) | with_reducible rfl); (· simp only [put_some, List.setIfInBounds_toArray, List.set_cons_zero, List.set_cons_succ]; rfl))
    refine wpL_stepRun (a' := ?_) (.slice (some ⟨w4.heap.size, 0, none⟩) 1 1) rfl (exec_buildSlice_one rfl (v := .int .u8 (b.toNat : Int)) rfl (run_buildSlice_one w4.drew 30 5 (.int .u8 0) _ #[.int .u8 (b.toNat : Int)] 1 1 rfl rfl (by decide) (by decide) Try.underlying30 Try.info5)) trivial ?_ ?_; rotate_left; (· simp only [put_some, List.setIfInBounds_toArray, List.set_cons_zero, List.set_cons_succ]; rfl)
    refine wpL_stepRun (a' := ?_) (.string ⟨[b].toArray⟩) rfl (exec_convert rfl rfl (run_bytes_string (w4.drew.alloc (.cells #[.int .u8 (b.toNat : Int)] 5)) 30 9 5 w4.heap.size 0 1 1 [b] Try.underlying30 Try.underlying5 Try.underlying9 rfl (has_of_block' (l := bvs [b]) (heap_alloc_new w4.drew _) rfl))) trivial ?_ ?_; rotate_left; (· simp only [put_some, List.setIfInBounds_toArray, List.set_cons_zero, List.set_cons_succ]; rfl)
    have ho6 := (Only.drew w4 (fun _ => False)).trans (Only.alloc w4.drew (.cells #[.int .u8 (b.toNat : Int)] 5) _)
    have hb6 := ho6.keep HB4.out id
    have HO6 := Lib.hid (HO4.out.trans ho6)
    clear ho6
    generalize w4.drew.alloc (.cells #[.int .u8 (b.toNat : Int)] 5) = w6 at HO6 hb6 ⊢
    generalize q.take k = qa at *
    generalize q.drop (k + 1) = qb at *
    iterate 3 (refine wpL_pure (a' := ?_) ?_ rfl (fun W => ?_) ?_ ?_; rotate_left 2; (· go_simp; first | (go_bits; with_reducible rfl) | with_reducible rfl); (· simp only [put_some, List.setIfInBounds_toArray, List.set_cons_zero, List.set_cons_succ]; rfl))
    refine wpL_nil ?_
    clear hx1 hx2 happ1 happ2 hl1 hl2 hl3 hki1 hki2 hki3 hki4 hsz1 hsz2 hcat1 hcat2 d0 d1 d2 d3
    have e0 := cell_at hb6 0
    have e1 := cell_at hb6 1
    have e2 := cell_at hb6 2
    have e3 := cell_at hb6 3
    have HB6 := Lib.hid hb6
    clear hb6
    unfold maxLen at hs
    have hzs := size_toArray s
    go_upto_region 9 with fail
    rw [front_extract s 70 70 rfl]
    have hsl : (s.take 70).length ≤ maxLen := by unfold maxLen; simp; omega
    generalize s.take 70 = few at hsl ⊢
    generalize (if (70 : Int) < (s.length : Int) then (70 : Int) else (s.length : Int)) = mm
    have R1 := Lib.hid (fun W => lawRead_any W few hsl)
    have R2 := Lib.hid (fun W => lawRead_any W q (by rw [hq]; decide))
    have R3 := Lib.hid (fun W => lawRead_any W q' (by unfold maxLen; omega))
    have hx3 := extract_list q 1 64
    rw [List.take_of_length_le (by omega)] at hx3
    have R4 := Lib.hid (fun W => lawRead_any W (q.drop 1) (by unfold maxLen; simp; omega))
    generalize q.drop 1 = q1 at hx3 R4
    have N1 := Lib.hid (fun W => need_any W n hn)
    have N2 := Lib.hid (fun W => refNeed_any W n hn)
    generalize needI n = nn at N1 N2
    clear hsl htl hzs
    go_wp2_with fail
    refine (TD.out _).mono ?_
    rintro e w7 ⟨rfl, ho7⟩
    have hb7 := ho7.keep HB6.out id
    have f0 := cell_at hb7 0
    have f1 := cell_at hb7 1
    have f2 := cell_at hb7 2
    have f3 := cell_at hb7 3
    have HO7 := Lib.hid (HO6.out.trans ho7)
    clear ho7 hb7 e0 e1 e2 e3
    go_wp2_with fail
    refine (FO.out _).mono ?_
    rintro e w8 ⟨rfl, ho8⟩
    have HO8 := Lib.hid (HO7.out.trans ho8)
    clear ho8 f0 f1 f2 f3
    go_wp2_with fail
    refine (TM.out _).mono ?_
    rintro e w9 ⟨rfl, ho9⟩
    have HO9 := Lib.hid (HO8.out.trans ho9)
    clear ho9
    go_wp2_with fail
    refine (R1.out _).mono ?_
    rintro e wa ⟨rfl, hoa⟩
    have HOa := Lib.hid (HO9.out.trans hoa)
    clear hoa
    go_wp2_with fail
    refine (R2.out _).mono ?_
    rintro e wb ⟨rfl, hob⟩
    have HOb := Lib.hid (HOa.out.trans hob)
    clear hob
    go_wp2_with fail
    refine (R3.out _).mono ?_
    rintro e wc ⟨rfl, hoc⟩
    have HOc := Lib.hid (HOb.out.trans hoc)
    clear hoc
    go_wp2_with fail
    refine (R4.out _).mono ?_
    rintro e wd ⟨rfl, hod⟩
    have HOd := Lib.hid (HOc.out.trans hod)
    clear hod
    go_wp2_with fail
    refine (N1.out _).mono ?_
    rintro e we ⟨rfl, rfl⟩
    go_wp2_with fail
    refine (N2.out _).mono ?_
    rintro e we ⟨rfl, rfl⟩
    go_wp2_with fail
    go_ret
    exact ⟨by simp, HOd.out⟩

set_option maxRecDepth 100000 in
theorem frameTells_lifted (os : Os) (started : os.Started) (H : Type) (enc : TypeId × Value → H) :
    ReturnsInHanded {} Try.checked os 3 .any (Rows.frameTellsSpec.pre6 enc Try.prog Try.f3 Rows.frameTellsRow.domain false) (Rows.frameTellsSpec.post enc Try.prog Try.f3 false true false false) := by
  refine returnsInHanded_of_change (C := Try.checked) Try.own started (by kernel_rfl) Try.func3
    (ChangeSpec.witness6 (enc := enc) (C := Try.checked) false ⟨#[], #[.agg #[.int .i64 0, .int .i64 0, .int .i64 0, .string ⟨#[]⟩], .string ⟨#[]⟩, .int .i64 0, .int .u8 0, .int .i64 0], []⟩ 8 (by kernel_rfl) (by kernel_rfl) (by kernel_rfl) (by kernel_rfl)) ?_
  intro W base args ds gs before hval0 hW hcnd _
  have hval : ∀ (j : Nat) t v, Try.f3.params[j]? = some t → args[j]? = some v → Value.okWide Try.prog W .any base t v := hval0
  have hW' := hW
  obtain ⟨p, q, hA0, hV, rfl, hfz, hnd⟩ := hW
  have hA : DataW.TrodAll enc Try.prog W 0 (fun _ => true) true Try.f3.params.toList args.toList ds p := hA0
  rw [Try.params3] at hA hval
  obtain ⟨v0, vs0, d0, ds0, p0, q0, hargs, rfl, rfl, h0, r0⟩ := trodAll_cons hA
  obtain ⟨v1, vs1, d1, ds1, p1, q1, rfl, rfl, rfl, h1, r1⟩ := trodAll_cons r0
  obtain ⟨v2, vs2, d2, ds2, p2, q2, rfl, rfl, rfl, h2, r2⟩ := trodAll_cons r1
  obtain ⟨v3, vs3, d3, ds3, p3, q3, rfl, rfl, rfl, h3, r3⟩ := trodAll_cons r2
  obtain ⟨v4, vs4, d4, ds4, p4, q4, rfl, rfl, rfl, h4, r4⟩ := trodAll_cons r3
  obtain ⟨rfl, rfl, rfl⟩ := trodAll_nil r4
  obtain rfl : args = #[v0, v1, v2, v3, v4] := by cases args; simp_all
  obtain ⟨rfl, rfl⟩ := trodVars_none hV
  clear hA0 hval0
  obtain ⟨f, rfl, wf⟩ := law_frame (hval 0 23 v0 rfl rfl) h0
  obtain ⟨s, rfl, ws⟩ := law_str Try.underlying9 (hval 1 9 v1 rfl rfl) h1
  obtain ⟨a, rfl, _, _, wa⟩ := open_int Try.underlying3 (hval 2 3 v2 rfl rfl) h2
  obtain ⟨b, rfl, _, _, wb⟩ := open_int Try.underlying5 (hval 3 5 v3 rfl rfl) h3
  obtain ⟨n, rfl, _, _, wn⟩ := open_int Try.underlying3 (hval 4 3 v4 rfl rfl) h4
  obtain ⟨b', rfl⟩ : ∃ b' : UInt8, b = (b'.toNat : Int) := by
    have := bounds_u8 wb
    refine ⟨UInt8.ofNat b.toNat, ?_⟩
    rw [UInt8.toNat_ofNat']
    omega
  refine (frameTells_walk W f s a n b' wf ws (bounds_i64 wa) (bounds_i64 wn)).mono fun e W' ⟨he, ho⟩ => ?_
  subst he
  exact ⟨_, rfl, law_post rfl hW' (by kernel_rfl) (of_decide_eq_true (by kernel_rfl)) rfl rfl rfl ho⟩
theorem frameTells_holds : Rows.FrameTellsSaid :=
  OpenClaim.holds_of_wide 3 Try.f3 rfl rfl rfl rfl rfl rfl rfl ⟨rfl, rfl, rfl, rfl, rfl⟩ rfl rfl rfl rfl rfl (by kernel_rfl) Try.func3 (by kernel_rfl)
    (of_decide_eq_true (by kernel_rfl)) (by unfold Func.isWrapper; first | (rw [if_pos (by decide +kernel)]; kernel_rfl) | (rw [if_neg (by decide +kernel)]; exact ⟨rfl, rfl⟩))
    (fun os started H enc _ => frameTells_lifted os started H enc)
end Go.Proofs.Ytlgefjcfnnjkbaa
