/- DiskAllNone. No conditions. -/
import Derived.Test.YtlgefjcfnnjkbaaAwake
import Derived.Test.YtlgefjcfnnjkbaaDM2
import Derived.Test.YtlgefjcfnnjkbaaLaw
import Derived.Test.YtlgefjcfnnjkbaaRows
namespace Go.Proofs.Ytlgefjcfnnjkbaa
open Go.ChangeShapes Go.WideShapes Go.ChangeAt Go.RowKit Go.Joins Go.Deep

set_option maxRecDepth 100000 in
set_option maxHeartbeats 8000000 in
theorem diskAllNone_walk (w : World) (a b : List Cl) (va vb : Value) (ao bo : Option Addr) (ac bc : Nat) (ha : SliceOf w va a.length (cls a) ao ac) (hb : SliceOf w vb b.length (cls b) bo bc) (wa : ∀ c ∈ a, c.Wf) (wb : ∀ c ∈ b, c.Wf) :
    Calls Try.prog 10 #[va, vb] w fun e w' => e = .returned (.bool true) ∧ Only (fun _ => False) w w' := by
  have h0 := Disks.start w
  have AW := Lib.hid (fun W => awake_any W)
  have FI := Lib.hid (fun (W : World) (F : Nat → Prop) (l : List Dk) (h : Disks w W F l) => dk_filled h va vb a b ao bo ac bc (ha.only h.only) (hb.only h.only) wa wb)
  have FN := Lib.hid (fun (W : World) (F : Nat → Prop) (l : List Dk) (h : Disks w W F l) => dk_filled h va (.slice none 0 0) a [] ao none ac 0 (ha.only h.only) (cls_nil W) wa (fun c h => by cases h))
  obtain ⟨hk, hc, hp⟩ := filledD_facts a b
  have e1 := allL_crash_all (filledD a b)
  have e2 := allL_none a b
  have e3 := allL_sync (filledD a b)
  obtain ⟨m, hm⟩ : ∃ m, m = (filledD a b).pend.length := ⟨_, rfl⟩
  rw [← hm] at hp e1
  have hm8 : m ≤ 8 := by omega
  have HOK : Hid (crashOk (filledD a b).pend.length ((List.range m).map fun (x : Nat) => (x : Int))) := Lib.hid (by rw [← hm]; exact crashOk_nats m _ ⟨fun k hk => List.mem_range.1 hk, List.nodup_range⟩)
  generalize filledD a b = X at FI hk hc hp e1 e2 e3 hm HOK
  generalize filledD a [] = Y at FN e2
  obtain ⟨A, hA⟩ : ∃ A, A = allL X := ⟨_, rfl⟩
  obtain ⟨B, hB⟩ : ∃ B, B = allL Y := ⟨_, rfl⟩
  rw [← hA] at e1 e3
  rw [← hB] at e2
  have E1 := Lib.hid e1
  have E2 := Lib.hid e2
  have E3 := Lib.hid e3
  have EA := Lib.hid hA.symm
  have EB := Lib.hid hB.symm
  have HX := Lib.hid (⟨hk, hc, hm⟩ : X.kept.length = 6 ∧ X.cut = false ∧ m = X.pend.length)
  clear hk hc hp e1 e2 e3 hm hA hB
  have hvv := ha.val
  subst hvv
  have hvv := hb.val
  subst hvv
  clear ha hb
  go_enter Try.func10, Try.ntmps10
  go_wp2_with fail
  refine (AW.out _).mono ?_
  rintro e w1 ⟨rfl, ho1⟩
  have H1 := Lib.hid (h0.quiet ho1)
  clear h0 ho1
  go_wp2_with fail
  refine (FI.out _ _ _ H1.out).mono ?_
  rintro e w2 ⟨p0, k0, v0, rfl, h2⟩
  have H2 : Hid (Disks w w2 (fun _ => False) [⟨p0, k0, v0, X⟩]) := Lib.hid h2
  clear h2 H1
  go_wp2_with fail
  refine (FI.out _ _ _ H2.out).mono ?_
  rintro e w3 ⟨p1, k1, v1, rfl, h3⟩
  have H3 : Hid (Disks w w3 (fun _ => False) [⟨p0, k0, v0, X⟩, ⟨p1, k1, v1, X⟩]) := Lib.hid h3
  clear h3 H2
  go_wp2_with fail
  refine (FI.out _ _ _ H3.out).mono ?_
  rintro e w4 ⟨p2, k2, v2, rfl, h4⟩
  have H4 : Hid (Disks w w4 (fun _ => False) [⟨p0, k0, v0, X⟩, ⟨p1, k1, v1, X⟩, ⟨p2, k2, v2, X⟩]) := Lib.hid h4
  clear h4 H3
  go_wp2_with fail
  have hal := dk_all H4.out 0 rfl
  rw [EA.out] at hal
  refine hal.mono ?_
  rintro e w5 ⟨rfl, h5, ho5⟩
  have H5 := Lib.hid h5
  clear h5 H4 hal ho5
  go_wp2_with fail
  go_loopw [10, 11] (fun o i wr => ∃ k : Nat, k ≤ m ∧ i = .int .i64 k ∧ Hid (wr.ownsRow w5.heap.size 3 1 o k (natCells (List.range k))) ∧ Hid (Only (fun _ => False) w5 wr)) (fun o i _ => m - (intOf i).toNat)
  case atStart => exact ⟨0, by omega, rfl, Lib.hid (World.ownsRow_nil _ _ _ _), Lib.hid (Only.refl _ _)⟩
  case round =>
    obtain ⟨k, hk, rfl, HR, HOR⟩ := hrel
    have HD := Lib.hid (H5.out.quiet HOR.out)
    have PE := Lib.hid (pending_any wr p0 k0 v0 X (HD.out.at_ 0 _ rfl))
    rw [← HX.out.2.2] at PE
    by_cases hlt : k < m
    · have hI : (k : Int) < (m : Int) := by omega
      have hI8 : (k : Int) < 8 := by omega
      obtain ⟨v', w7, hrun5, hown5, ho5⟩ := append_one_row (P := Try.prog) wr w5.heap.size 49 49 3 _ 1 8 Try.underlying49 Try.info3 rfl (by decide) u10 _ _ HR.out [.int .i64 (k : Int)] rfl (by simp [Value.oneCell']) (by omega) (by decide) HOR.out.size
      have HRUN := Lib.hid hrun5
      have HOWN := Lib.hid hown5
      have HO5 := Lib.hid (HOR.out.trans' ho5 (fun y hy e => row_own_new HR.out hy e))
      clear hrun5 hown5 ho5
      go_wp2_with (first
        | (go_at_call 40; refine PE.out.mono ?_; rintro e w6 ⟨rfl, rfl⟩)
        | ((with_reducible refine wpList_append_run u10 (.slice (some ⟨wr.heap.size, 0, none⟩) 1 1) v' HRUN.out ?_ ?_ ?_); (· rfl); (· rfl)))
      go_roundw
      case rel => exact ⟨k + 1, by omega, by go_num, Lib.hid (by rw [List.range_succ, natCells_append]; exact HOWN.out), HO5⟩
      case measure => simp [intOf] <;> omega
    · obtain rfl : k = m := by omega
      have hI : ¬ (k : Int) < (k : Int) := by omega
      obtain ⟨co, cc, hi, hbk⟩ := nats_own (by rw [List.length_range]; exact HR.out) (by simp; omega) (fun x hx => by have := List.mem_range.1 hx; omega)
      have h6 := H5.out.freezeP (fun b => u10.ownBlock = some b) HOR.out (fun b hb => HR.out.lt b hb)
      have hvv := hi.val
      rw [List.length_map, List.length_range] at hvv
      subst hvv
      have HI := Lib.hid hi
      have HBK := Lib.hid hbk
      generalize hF : (fun b => False ∨ (Value.slice co k cc).ownBlock = some b) = F at h6
      have H6 := Lib.hid h6
      clear hi hbk h6 HD HR HOR hF
      go_wp2_with (go_at_call 40; refine PE.out.mono ?_; rintro e w6 ⟨rfl, rfl⟩)
      refine (dk_crash H6.out 0 rfl _ _ _ _ HI.out HOK.out (by rw [← HX.out.2.2]; omega)).mono ?_
      rintro e w7 ⟨rfl, h7, ho7⟩
      have H7 : Hid (Disks w w7 F [⟨p0, k0, .slice none 0 0, X.crash (List.range k)⟩, ⟨p1, k1, v1, X⟩, ⟨p2, k2, v2, X⟩]) := Lib.hid (by rw [← nats_back (List.range k)]; exact h7)
      clear h7 ho7 H6 HI HOK
      go_wp2_with fail
      refine (dk_crash H7.out 1 rfl [] _ none 0 (ints_nil _) (crashOk_nil _) (by rw [← HX.out.2.2]; omega)).mono ?_
      rintro e w8 ⟨rfl, h8, ho8⟩
      have H8 : Hid (Disks w w8 F [⟨p0, k0, .slice none 0 0, X.crash (List.range k)⟩, ⟨p1, k1, .slice none 0 0, X.crash []⟩, ⟨p2, k2, v2, X⟩]) := Lib.hid h8
      clear h8 ho8 H7
      go_wp2_with fail
      refine (dk_sync H8.out 2 rfl (by simp [D.power, HX.out.2.1])).mono ?_
      rintro e w9 ⟨rfl, h9, ho9⟩
      have H9 : Hid (Disks w w9 F [⟨p0, k0, .slice none 0 0, X.crash (List.range k)⟩, ⟨p1, k1, .slice none 0 0, X.crash []⟩, ⟨p2, k2, .slice none 0 0, X.sync⟩]) := Lib.hid h9
      clear h9 ho9 H8
      go_wp2_with fail
      refine (dk_crash H9.out 2 rfl [] _ none 0 (ints_nil _) (crashOk_nil _) (by simp [D.sync])).mono ?_
      rintro e w10 ⟨rfl, h10, ho10⟩
      have H10 : Hid (Disks w w10 F [⟨p0, k0, .slice none 0 0, X.crash (List.range k)⟩, ⟨p1, k1, .slice none 0 0, X.crash []⟩, ⟨p2, k2, .slice none 0 0, X.sync.crash []⟩]) := Lib.hid h10
      clear h10 ho10 H9
      go_wp2_with fail
      have hal := dk_all H10.out 0 rfl
      rw [E1.out] at hal
      refine hal.mono ?_
      rintro e w11 ⟨rfl, h11, ho11⟩
      have H11 := Lib.hid h11
      clear h11 ho11 H10 hal
      go_wp2_with fail
      have hal := dk_all H11.out 1 rfl
      rw [E2.out] at hal
      refine hal.mono ?_
      rintro e w12 ⟨rfl, h12, ho12⟩
      have H12 := Lib.hid h12
      clear h12 ho12 H11 hal
      go_wp2_with fail
      refine (FN.out _ _ _ H12.out).mono ?_
      rintro e w13 ⟨p3, k3, v3, rfl, h13⟩
      have H13 : Hid (Disks w w13 F [⟨p0, k0, .slice none 0 0, X.crash (List.range k)⟩, ⟨p1, k1, .slice none 0 0, X.crash []⟩, ⟨p2, k2, .slice none 0 0, X.sync.crash []⟩, ⟨p3, k3, v3, Y⟩]) := Lib.hid h13
      clear h13 H12
      go_wp2_with fail
      have hal := dk_all H13.out 3 rfl
      rw [EB.out] at hal
      refine hal.mono ?_
      rintro e w14 ⟨rfl, h14, ho14⟩
      have H14 := Lib.hid h14
      clear h14 ho14 H13 hal
      go_wp2_with fail
      have hal := dk_all H14.out 2 rfl
      rw [E3.out] at hal
      refine hal.mono ?_
      rintro e w15 ⟨rfl, h15, ho15⟩
      have H15 := Lib.hid h15
      clear h15 ho15 H14 hal
      go_wp2_with fail
      go_ret
      exact ⟨rfl, H15.out.only⟩

set_option maxRecDepth 100000 in
theorem diskAllNone_lifted (os : Os) (started : os.Started) (H : Type) (enc : TypeId × Value → H) :
    ReturnsInHanded {} Try.checked os 10 .any (Rows.diskAllNoneSpec.pre6 enc Try.prog Try.f10 Rows.diskAllNoneRow.domain false) (Rows.diskAllNoneSpec.post enc Try.prog Try.f10 false true false false) := by
  refine returnsInHanded_of_change (C := Try.checked) Try.own started (by kernel_rfl) Try.func10
    (ChangeSpec.witness6 (enc := enc) (C := Try.checked) false ⟨#[], #[.slice none 0 0, .slice none 0 0], []⟩ 8 (by kernel_rfl) (by kernel_rfl) (by kernel_rfl) (by kernel_rfl)) ?_
  intro W base args ds gs before hval0 hW hcnd _
  have hval : ∀ (j : Nat) t v, Try.f10.params[j]? = some t → args[j]? = some v → Value.okWide Try.prog W .any base t v := hval0
  have hW' := hW
  obtain ⟨p, q, hA0, hV, rfl, hfz, hnd⟩ := hW
  have hA : DataW.TrodAll enc Try.prog W 0 (fun _ => true) true Try.f10.params.toList args.toList ds p := hA0
  rw [Try.params10] at hA hval
  obtain ⟨v0, vs0, d0, ds0, p0, q0, hargs, rfl, rfl, h0, r0⟩ := trodAll_cons hA
  obtain ⟨v1, vs1, d1, ds1, p1, q1, rfl, rfl, rfl, h1, r1⟩ := trodAll_cons r0
  obtain ⟨rfl, rfl, rfl⟩ := trodAll_nil r1
  obtain rfl : args = #[v0, v1] := by cases args; simp_all
  obtain ⟨rfl, rfl⟩ := trodVars_none hV
  clear hA0 hval0
  obtain ⟨a, ao, ac, ha, wa, _⟩ := law_calls (hval 0 53 v0 rfl rfl) h0
  obtain ⟨b, bo, bc, hb, wb, _⟩ := law_calls (hval 1 53 v1 rfl rfl) h1
  refine (diskAllNone_walk W a b v0 v1 ao bo ac bc ha hb wa wb).mono fun e W' ⟨he, ho⟩ => ?_
  subst he
  exact ⟨_, rfl, law_post rfl hW' (by kernel_rfl) (of_decide_eq_true (by kernel_rfl)) rfl rfl rfl ho⟩
theorem diskAllNone_holds : Rows.DiskAllNoneSaid :=
  OpenClaim.holds_of_wide 10 Try.f10 rfl rfl rfl rfl rfl rfl rfl ⟨rfl, rfl, rfl, rfl, rfl⟩ rfl rfl rfl rfl rfl (by kernel_rfl) Try.func10 (by kernel_rfl)
    (of_decide_eq_true (by kernel_rfl)) (by unfold Func.isWrapper; first | (rw [if_pos (by decide +kernel)]; kernel_rfl) | (rw [if_neg (by decide +kernel)]; exact ⟨rfl, rfl⟩))
    (fun os started H enc _ => diskAllNone_lifted os started H enc)
end Go.Proofs.Ytlgefjcfnnjkbaa
