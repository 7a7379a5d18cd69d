/- DiskErrors. No conditions. -/
import Derived.Test.YtlgefjcfnnjkbaaAwake
import Derived.Test.YtlgefjcfnnjkbaaDM2
import Derived.Test.YtlgefjcfnnjkbaaLaw
import Derived.Test.YtlgefjcfnnjkbaaRows
namespace Go.Proofs.Ytlgefjcfnnjkbaa
open Go.ChangeShapes Go.WideShapes Go.ChangeAt Go.RowKit Go.Joins Go.Deep

set_option maxRecDepth 100000 in
set_option maxHeartbeats 16000000 in
theorem diskErrors_walk (w : World) (a b : List Cl) (at_ : Int) (s : List UInt8) (va vb : Value) (ao bo : Option Addr) (ac bc : Nat) (ha : SliceOf w va a.length (cls a) ao ac) (hb : SliceOf w vb b.length (cls b) bo bc) (wa : ∀ c ∈ a, c.Wf) (wb : ∀ c ∈ b, c.Wf)
    (hat : I64 at_) (hs : s.length ≤ maxLen) :
    Calls Try.prog 14 #[va, vb, .int .i64 at_, .string ⟨s.toArray⟩] w fun e w' => e = .returned (.bool true) ∧ Only (fun _ => False) w w' := by
  have h0 := Disks.start w
  have AW := Lib.hid (fun W => awake_any W)
  have FI := Lib.hid (fun (W : World) (F : Nat → Prop) (l : List Dk) (h : Disks w W F l) => dk_filled h va vb a b ao bo ac bc (ha.only h.only) (hb.only h.only) wa wb)
  obtain ⟨hk, hc, hp⟩ := filledD_facts a b
  obtain ⟨m, hm⟩ : ∃ m, m = (filledD a b).pend.length := ⟨_, rfl⟩
  rw [← hm] at hp
  have hm8 : m ≤ 8 := by omega
  generalize filledD a b = X at FI hk hc hm
  obtain ⟨A, hA⟩ : ∃ A, A = allL X := ⟨_, rfl⟩
  have EA := Lib.hid hA.symm
  have HX := Lib.hid (⟨hk, hc, hm.symm⟩ : X.kept.length = 6 ∧ X.cut = false ∧ X.pend.length = m)
  clear hk hc hp hm hA
  have PK := Lib.hid (fun W => pick02_any W at_ 1000 hat (by decide) (by decide))
  have hp := pickI_lt at_ 1000 (by decide)
  obtain ⟨q, hq⟩ : ∃ q : Nat, (q : Int) = pickI at_ 1000 := ⟨(pickI at_ 1000).toNat, by omega⟩
  rw [← hq] at PK hp
  clear hq
  have hq1 : q < 1000 := by omega
  clear hp
  have hfs := fullL_length s
  have HFU := Lib.hid (fun (W : World) (F : Nat → Prop) (l : List Dk) (h : Disks w W F l) => dk_full h s hs)
  generalize fullL s = fs at hfs HFU
  have hfe := fullL_length []
  have HFE := Lib.hid (fun (W : World) (F : Nat → Prop) (l : List Dk) (h : Disks w W F l) => dk_full h [] (by decide))
  generalize fullL [] = fe at hfe HFE
  have hz0 := size_toArray s
  have hvv := ha.val
  subst hvv
  have hvv := hb.val
  subst hvv
  clear ha hb
  unfold maxLen at hs
  go_enter Try.func14, Try.ntmps14
  go_wp2_with fail
  refine (AW.out _).mono ?_
  rintro e w1 ⟨rfl, ho1⟩
  have H1 := Lib.hid (h0.quiet ho1)
  clear h0 ho1
  go_wp2_with fail
  refine (FI.out _ _ _ H1.out).mono ?_
  rintro e w2 ⟨p0, k0, v0, rfl, h2⟩
  have H2 : Hid (Disks w w2 (fun _ => False) [⟨p0, k0, v0, X⟩]) := Lib.hid h2
  clear h2 H1 FI AW
  go_wp2_with fail
  have hal := dk_all H2.out 0 rfl
  rw [EA.out] at hal
  refine (hal).mono ?_
  rintro e w3 ⟨rfl, h, ho⟩
  have H3 := Lib.hid h
  clear h ho H2
  clear hal
  go_wp2_with fail
  have hpe := pending_any _ p0 k0 v0 X (H3.out.at_ 0 _ rfl)
  rw [HX.out.2.2] at hpe
  refine (hpe).mono ?_
  rintro e wx ⟨rfl, rfl⟩
  clear hpe
  go_wp2_with fail
  refine (PK.out _).mono ?_
  rintro e wx ⟨rfl, rfl⟩
  go_upto_region 7 with fail
  rw [front_extract s 63 63 rfl]
  have htl : (s.take 63).length ≤ 63 := by rw [List.length_take]; omega
  generalize s.take 63 = t at htl ⊢
  generalize (if (63 : Int) < (s.length : Int) then (63 : Int) else (s.length : Int)) = mm
  have hzt := size_toArray t
  have hzf := size_toArray fs
  have hu1 := append_list t fs
  obtain ⟨u, hu⟩ : ∃ u, u = t ++ fs := ⟨_, rfl⟩
  have hul : u.length = t.length + 64 := by rw [hu, List.length_append, hfs]
  rw [← hu] at hu1
  clear hu
  have hzu := size_toArray u
  have hu2 := append_list u [97]
  obtain ⟨u', hu'⟩ : ∃ u', u' = u ++ [97] := ⟨_, rfl⟩
  have hul' : u'.length = u.length + 1 := by rw [hu', List.length_append]; rfl
  rw [← hu'] at hu2
  clear hu'
  have hzu' := size_toArray u'
  go_wp2_with fail
  refine (readFar_in _ p0 k0 v0 X _ (H3.out.at_ 0 _ rfl) (fun h => by have := HX.out.1; omega)).mono ?_
  rintro e w4 ⟨rfl, hq⟩
  have H4 := Lib.hid (H3.out.quiet (Only.of_below hq _))
  clear hq H3
  go_wp2_with fail
  refine (PK.out _).mono ?_
  rintro e wx ⟨rfl, rfl⟩
  go_wp2_with fail
  refine (readFar_in _ p0 k0 v0 X _ (H4.out.at_ 0 _ rfl) (fun h => by have := HX.out.1; omega)).mono ?_
  rintro e w5 ⟨rfl, hq⟩
  have H5 := Lib.hid (H4.out.quiet (Only.of_below hq _))
  clear hq H4
  go_wp2_with fail
  refine (HFU.out _ _ _ H5.out).mono ?_
  rintro e w6 ⟨rfl, h, ho⟩
  have H6 := Lib.hid h
  clear h ho H5
  go_wp2_with fail
  refine (write_badAt _ p0 k0 v0 X _ _ (H6.out.at_ 0 _ rfl) (fun h => by have := HX.out.1; omega)).mono ?_
  rintro e wx ⟨rfl, rfl⟩
  go_wp2_with fail
  refine (write_badLen _ p0 k0 v0 X 0 ⟨t.toArray⟩ (H6.out.at_ 0 _ rfl) (by rw [size_toArray]; omega)).mono ?_
  rintro e wx ⟨rfl, rfl⟩
  go_wp2_with fail
  refine (HFU.out _ _ _ H6.out).mono ?_
  rintro e w7 ⟨rfl, h, ho⟩
  have H7 := Lib.hid h
  clear h ho H6
  go_wp2_with fail
  refine (write_badLen _ p0 k0 v0 X 0 ⟨u'.toArray⟩ (H7.out.at_ 0 _ rfl) (by rw [size_toArray]; omega)).mono ?_
  rintro e wx ⟨rfl, rfl⟩
  clear hu1 hu2 hul hul' hzu hzu' hzt hzf htl
  go_wp2_with fail
  refine (PK.out _).mono ?_
  rintro e wx ⟨rfl, rfl⟩
  go_wp2_with fail
  have HI := Lib.hid (ints_block (g := w7.heap.size) (w := w7.alloc (.cells #[.int .i64 ((m : Int) + (q : Int))] 3)) (t := 3) [(m : Int) + (q : Int)] (heap_alloc_new w7 _) (by simp) (by intro x hx; simp at hx; omega) 1)
  have HQ := Lib.hid (H7.out.quiet (Only.alloc w7 (.cells #[.int .i64 ((m : Int) + (q : Int))] 3) _))
  refine (dk_crash_bad HQ.out 0 rfl _ _ _ _ HI.out (fun h => by have h1 := (h.1 _ (List.mem_singleton.2 rfl)).2; have h2 := HX.out.2.2; omega) (by rw [HX.out.2.2]; omega)).mono ?_
  rintro e w8 ⟨rfl, h, ho⟩
  have H8 := Lib.hid h
  clear h ho H7 HQ HI
  go_wp2_with fail
  refine (PK.out _).mono ?_
  rintro e wx ⟨rfl, rfl⟩
  go_wp2_with fail
  have HI := Lib.hid (ints_block (g := w8.heap.size) (w := w8.alloc (.cells #[.int .i64 (-1 - (q : Int))] 3)) (t := 3) [-1 - (q : Int)] (heap_alloc_new w8 _) (by simp) (by intro x hx; simp at hx; omega) 1)
  have HQ := Lib.hid (H8.out.quiet (Only.alloc w8 (.cells #[.int .i64 (-1 - (q : Int))] 3) _))
  refine (dk_crash_bad HQ.out 0 rfl _ _ _ _ HI.out (fun h => by have h1 := (h.1 _ (List.mem_singleton.2 rfl)).1; omega) (by rw [HX.out.2.2]; omega)).mono ?_
  rintro e w9 ⟨rfl, h, ho⟩
  have H9 := Lib.hid h
  clear h ho H8 HQ HI
  go_upto_if 90 with fail
  go_cut [24] (fun s24 wx => s24 = .int .i64 21 ∧ Hid (Disks w wx (fun _ => False) [⟨p0, k0, v0, X⟩]))
  case first =>
    by_cases hm0 : 0 < m
    · have hmi : (0 : Int) < (m : Int) := by omega
      have hp := pickI_lt at_ m (by omega)
      have PM := Lib.hid (fun W => pick02_any W at_ m hat (by omega) (by omega))
      obtain ⟨r, hr⟩ : ∃ r : Nat, (r : Int) = pickI at_ m := ⟨(pickI at_ m).toNat, by omega⟩
      rw [← hr] at PM hp
      clear hr
      have hr1 : r < m := by omega
      clear hp
      go_wp2_with fail
      refine (PM.out _).mono ?_
      rintro e wx ⟨rfl, rfl⟩
      go_wp2_with fail
      refine (PM.out _).mono ?_
      rintro e wx ⟨rfl, rfl⟩
      go_wp2_with fail
      have HI := Lib.hid (ints_block (g := w9.heap.size) (w := w9.alloc (.cells #[.int .i64 ((r : Int)), .int .i64 ((r : Int))] 3)) (t := 3) [(r : Int), (r : Int)] (heap_alloc_new w9 _) (by simp) (by intro x hx; simp at hx; omega) 2)
      have HQ := Lib.hid (H9.out.quiet (Only.alloc w9 (.cells #[.int .i64 ((r : Int)), .int .i64 ((r : Int))] 3) _))
      refine (dk_crash_bad HQ.out 0 rfl _ _ _ _ HI.out (fun h => by have h1 := h.2; simp at h1) (by rw [HX.out.2.2]; omega)).mono ?_
      rintro e w10 ⟨rfl, h, ho⟩
      have H10 := Lib.hid h
      clear h ho H9 HQ HI
      go_wp2_with fail
      go_meet
      exact ⟨rfl, H10⟩
    · have hmi : ¬ (0 : Int) < (m : Int) := by omega
      go_wp2_with fail
      go_meet
      exact ⟨rfl, H9⟩
  case rest =>
  obtain ⟨rfl, HC⟩ := hcut
  clear H9
  have H100 := HC
  clear HC
  go_wp2_with fail
  refine (rot_badAt _ p0 k0 v0 X _ _ _ (H100.out.at_ 0 _ rfl) (fun h => by have := HX.out.1; omega)).mono ?_
  rintro e wx ⟨rfl, rfl⟩
  go_wp2_with fail
  refine (PK.out _).mono ?_
  rintro e wx ⟨rfl, rfl⟩
  go_wp2_with fail
  refine (rot_badPlace _ p0 k0 v0 X 0 _ _ (H100.out.at_ 0 _ rfl) (by have := HX.out.1; omega) (by omega)).mono ?_
  rintro e wx ⟨rfl, rfl⟩
  go_wp2_with fail
  refine (PK.out _).mono ?_
  rintro e wx ⟨rfl, rfl⟩
  go_wp2_with fail
  refine (rot_badMask _ p0 k0 v0 X 0 _ (H100.out.at_ 0 _ rfl) (by have := HX.out.1; omega) (by omega)).mono ?_
  rintro e wx ⟨rfl, rfl⟩
  go_wp2_with fail
  refine (readNil_in _ _).mono ?_
  rintro e w101 ⟨rfl, hq⟩
  have H101 := Lib.hid (H100.out.quiet (Only.of_below hq _))
  clear hq H100
  go_wp2_with fail
  have hal := dk_all H101.out 0 rfl
  rw [EA.out] at hal
  refine (hal).mono ?_
  rintro e w102 ⟨rfl, h, ho⟩
  have H102 := Lib.hid h
  clear h ho H101
  clear hal
  go_wp2_with fail
  have hpe := pending_any _ p0 k0 v0 X (H102.out.at_ 0 _ rfl)
  rw [HX.out.2.2] at hpe
  refine (hpe).mono ?_
  rintro e wx ⟨rfl, rfl⟩
  clear hpe
  go_wp2_with fail
  refine (HFE.out _ _ _ H102.out).mono ?_
  rintro e w103 ⟨rfl, h, ho⟩
  have H103 := Lib.hid h
  clear h ho H102
  go_wp2_with fail
  refine (write_nil _ _ _).mono ?_
  rintro e wx ⟨rfl, rfl⟩
  go_wp2_with fail
  refine (sync_nil _).mono ?_
  rintro e wx ⟨rfl, rfl⟩
  go_wp2_with fail
  refine (crash_nil _ _).mono ?_
  rintro e wx ⟨rfl, rfl⟩
  go_wp2_with fail
  refine (rot_nil _ _ _ _).mono ?_
  rintro e wx ⟨rfl, rfl⟩
  go_wp2_with fail
  refine (cut_nil _ _).mono ?_
  rintro e wx ⟨rfl, rfl⟩
  go_wp2_with fail
  refine (PK.out _).mono ?_
  rintro e wx ⟨rfl, rfl⟩
  go_wp2_with fail
  refine (dk_cut_bad H103.out 0 rfl _ (by omega)).mono ?_
  rintro e w104 ⟨rfl, h, ho⟩
  have H104 := Lib.hid h
  clear h ho H103
  go_wp2_with fail
  refine (pending_nil _).mono ?_
  rintro e wx ⟨rfl, rfl⟩
  go_wp2_with fail
  refine (size_nil _).mono ?_
  rintro e wx ⟨rfl, rfl⟩
  go_wp2_with fail
  go_ret
  exact ⟨rfl, H104.out.only⟩

set_option maxRecDepth 100000 in
theorem diskErrors_lifted (os : Os) (started : os.Started) (H : Type) (enc : TypeId × Value → H) :
    ReturnsInHanded {} Try.checked os 14 .any (Rows.diskErrorsSpec.pre6 enc Try.prog Try.f14 Rows.diskErrorsRow.domain false) (Rows.diskErrorsSpec.post enc Try.prog Try.f14 false true false false) := by
  refine returnsInHanded_of_change (C := Try.checked) Try.own started (by kernel_rfl) Try.func14
    (ChangeSpec.witness6 (enc := enc) (C := Try.checked) false ⟨#[], #[.slice none 0 0, .slice none 0 0, .int .i64 0, .string ⟨#[]⟩], []⟩ 8 (by kernel_rfl) (by kernel_rfl) (by kernel_rfl) (by kernel_rfl)) ?_
  intro W base args ds gs before hval0 hW hcnd _
  have hval : ∀ (j : Nat) t v, Try.f14.params[j]? = some t → args[j]? = some v → Value.okWide Try.prog W .any base t v := hval0
  have hW' := hW
  obtain ⟨p, q, hA0, hV, rfl, hfz, hnd⟩ := hW
  have hA : DataW.TrodAll enc Try.prog W 0 (fun _ => true) true Try.f14.params.toList args.toList ds p := hA0
  rw [Try.params14] at hA hval
  obtain ⟨v0, vs0, d0, ds0, p0, q0, hargs, rfl, rfl, h0, r0⟩ := trodAll_cons hA
  obtain ⟨v1, vs1, d1, ds1, p1, q1, rfl, rfl, rfl, h1, r1⟩ := trodAll_cons r0
  obtain ⟨v2, vs2, d2, ds2, p2, q2, rfl, rfl, rfl, h2, r2⟩ := trodAll_cons r1
  obtain ⟨v3, vs3, d3, ds3, p3, q3, rfl, rfl, rfl, h3, r3⟩ := trodAll_cons r2
  obtain ⟨rfl, rfl, rfl⟩ := trodAll_nil r3
  obtain rfl : args = #[v0, v1, v2, v3] := by cases args; simp_all
  obtain ⟨rfl, rfl⟩ := trodVars_none hV
  clear hA0 hval0
  obtain ⟨a, ao, ac, ha, wa, _⟩ := law_calls (hval 0 53 v0 rfl rfl) h0
  obtain ⟨b, bo, bc, hb, wb, _⟩ := law_calls (hval 1 53 v1 rfl rfl) h1
  obtain ⟨c, rfl, _, _, wc⟩ := open_int Try.underlying3 (hval 2 3 v2 rfl rfl) h2
  obtain ⟨s, rfl, ws⟩ := law_str Try.underlying9 (hval 3 9 v3 rfl rfl) h3
  refine (diskErrors_walk W a b c s v0 v1 ao bo ac bc ha hb wa wb (bounds_i64 wc) ws).mono fun e W' ⟨he, ho⟩ => ?_
  subst he
  exact ⟨_, rfl, law_post rfl hW' (by kernel_rfl) (of_decide_eq_true (by kernel_rfl)) rfl rfl rfl ho⟩
theorem diskErrors_holds : Rows.DiskErrorsSaid :=
  OpenClaim.holds_of_wide 14 Try.f14 rfl rfl rfl rfl rfl rfl rfl ⟨rfl, rfl, rfl, rfl, rfl⟩ rfl rfl rfl rfl rfl (by kernel_rfl) Try.func14 (by kernel_rfl)
    (of_decide_eq_true (by kernel_rfl)) (by unfold Func.isWrapper; first | (rw [if_pos (by decide +kernel)]; kernel_rfl) | (rw [if_neg (by decide +kernel)]; exact ⟨rfl, rfl⟩))
    (fun os started H enc _ => diskErrors_lifted os started H enc)
end Go.Proofs.Ytlgefjcfnnjkbaa
