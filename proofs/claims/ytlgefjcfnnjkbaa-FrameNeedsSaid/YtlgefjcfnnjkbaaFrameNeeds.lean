/- FrameNeeds: a batch takes as many frames as it needs. No conditions. -/
import Derived.Test.YtlgefjcfnnjkbaaLaw
import Derived.Test.YtlgefjcfnnjkbaaEx
import Derived.Test.YtlgefjcfnnjkbaaRows
namespace Go.Proofs.Ytlgefjcfnnjkbaa
open Go.RowKit Go.ChangeShapes Go.WideShapes

set_option maxRecDepth 100000 in
set_option maxHeartbeats 4000000 in
theorem frameNeeds_walk (w : World) (s : List UInt8) (ep at_ : Int) (hs : s.length ≤ maxLen) (he : 0 ≤ ep ∧ ep ≤ 65535) (ha : 0 ≤ at_ ∧ at_ ≤ 255) :
    Calls Try.prog 8 #[.string ⟨s.toArray⟩, .int .u16 ep, .int .u8 at_] w fun e w' => e = .returned (.bool true) ∧ Only (fun _ => False) w w' := by
  have hz := size_toArray s
  unfold maxLen at hs
  obtain ⟨he1, he2⟩ := he
  obtain ⟨ha1, ha2⟩ := ha
  go_enter Try.func8, Try.ntmps8
  go_upto_region 5 with (go_at_call 19; refine (examples_any _).mono ?_; rintro e w1 ⟨rfl, ho1⟩)
  rw [front_extract s 2000 2000 rfl]
  obtain ⟨B, hB⟩ : ∃ B, B = s.take 2000 := ⟨_, rfl⟩
  have hBl : B.length ≤ 2000 := by rw [hB]; simp; omega
  rw [← hB]
  have hzB := size_toArray B
  clear hB
  generalize (if (2000 : Int) < (s.length : Int) then (2000 : Int) else (s.length : Int)) = mm
  have N := Lib.hid fun w => need_nat w B.length (by omega)
  have hb := need_le B.length
  have hp := need_pos B.length
  obtain ⟨hb1, hb2⟩ := hb
  obtain ⟨n, hn⟩ : ∃ n, n = need B.length := ⟨_, rfl⟩
  have hn38 : n ≤ 38 := by omega
  rw [← hn] at N hb1 hb2 hp
  have HN := Lib.hid hn
  clear hn
  have C := Lib.hid fun w => cut_ok w (1 + ep) (at_ % 20) B (by unfold maxLen; omega) (by omega) (by omega) (by omega) (by rw [← HN.out]; omega)
  rw [← HN.out] at C
  go_wp2_with (first | (go_at_call 25; refine (N.out _).mono ?_; rintro e w2 ⟨rfl, rfl⟩) | (go_at_call 27; refine (C.out _).mono ?_; rintro e w3 ⟨g, rfl, hg, hgle, ho3⟩))
  have HO3 := Lib.hid (ho1.trans ho3)
  have HG := Lib.hid hg
  have hgw := lt_of_block hg
  clear ho1 ho3 hg hgle C N
  go_loopw [13, 14] (fun p i wr => ∃ k : Nat, k ≤ n ∧ i = .int .i64 k ∧ p = .string ⟨(B.take (k * 53)).toArray⟩ ∧ Only (fun _ => False) w3 wr) (fun p i _ => n - (intOf i).toNat)
  case atStart => exact ⟨0, by omega, rfl, by simp, Only.refl _ _⟩
  case round =>
    obtain ⟨k, hk, rfl, rfl, hor⟩ := hrel
    by_cases hlt : k < n
    · have hkl : k < (cutF (1 + ep) (at_ % 20) B).length := by rw [cutF_length, ← HN.out]; exact hlt
      have hc : Has wr g (k * 4) (cutF (1 + ep) (at_ % 20) B)[k].cells := fun j u hu => by
        rw [hor.cell (p := ⟨g, k * 4 + j, none⟩) hgw id, cell_at HG.out, List.getElem?_toArray]
        exact frs_at _ k hkl j u hu
      rw [cutF_get, ← HN.out] at hc
      have hcat : B.take (k * 53) ++ (B.drop (k * 53)).take 53 = B.take ((k + 1) * 53) := by rw [Nat.succ_mul, List.take_add]
      have hl1 : (B.take (k * 53)).length ≤ 2000 := by simp; omega
      have hpl : ((B.drop (k * 53)).take 53).length = min 53 (B.length - k * 53) := by simp
      have ho' := Lib.hid (hor.trans (Only.alloc wr (.cells (cutL (1 + ep) (at_ % 20) B n k).cells.toArray 23) _))
      have HCL : Hid (cutL (1 + ep) (at_ % 20) B n k = ⟨1 + ep, at_ % 20 + k, if k + 1 = n then 3 else 2, (B.drop (k * 53)).take 53⟩) := Lib.hid rfl
      rw [HCL.out] at hc ho'
      have happ := append_list (B.take (k * 53)) ((B.drop (k * 53)).take 53)
      rw [hcat] at happ
      have hzp := size_toArray ((B.drop (k * 53)).take 53)
      have hzq := size_toArray (B.take (k * 53))
      generalize (B.drop (k * 53)).take 53 = pc at hc ho' happ hzp hpl hcat
      generalize B.take (k * 53) = pt at happ hl1 hzq hcat
      obtain ⟨pn, hpn⟩ : ∃ pn, pn = B.take ((k + 1) * 53) := ⟨_, rfl⟩
      rw [← hpn] at happ
      have HP := Lib.hid hpn
      clear hpn
      clear hcat HCL
      by_cases hk1 : k + 1 < n
      · have hk1' : ¬ k + 1 = n := by omega
        rw [if_neg hk1'] at hc ho'
        have hpl' : pc.length = 53 := by
          have : (k + 1) * 53 ≤ (n - 1) * 53 := Nat.mul_le_mul_right _ (by omega)
          omega
        rw [hpl'] at hzp
        have hq1 : ((k : Int) == (n : Int) - 1) = false := by simp; omega
        have hq2 : (k : Int) < (n : Int) - 1 := by omega
        have hcat' : pt.length + 53 ≤ 9223372036854775807 := by omega
        clear hpl hpl' hk1'
        go_wp2_with ((with_reducible refine wpList_load_part g (k * 4) [.int .i64 (1 + ep), .int .i64 (at_ % 20 + k), .int .i64 2, .string ⟨pc.toArray⟩] ?_ ?_ ?_ ?_ ?_); (· exact ⟨_, Try.underlying23, rfl⟩); (· exact Try.size23); (· exact hc); (· rfl))
        go_roundw
        case rel => exact ⟨k + 1, by omega, by go_num, by rw [HP.out], ho'.out⟩
        case measure => simp [intOf] <;> omega
      · have hk1' : k + 1 = n := by omega
        rw [if_pos hk1'] at hc ho'
        have hpl' : pc.length ≤ 53 := by omega
        have hq1 : ((k : Int) == (n : Int) - 1) = true := by simp; omega
        have hq2 : (n : Int) - 1 ≤ (k : Int) := by omega
        have hcat' : pt.length + pc.length ≤ 9223372036854775807 := by omega
        clear hpl hk1'
        go_wp2_with ((with_reducible refine wpList_load_part g (k * 4) [.int .i64 (1 + ep), .int .i64 (at_ % 20 + k), .int .i64 3, .string ⟨pc.toArray⟩] ?_ ?_ ?_ ?_ ?_); (· exact ⟨_, Try.underlying23, rfl⟩); (· exact Try.size23); (· exact hc); (· rfl))
        go_roundw
        case rel => exact ⟨k + 1, by omega, by go_num, by rw [HP.out], ho'.out⟩
        case measure => simp [intOf] <;> omega
    · obtain rfl : k = n := by omega
      rw [List.take_of_length_le hb2]
      have M := Lib.hid fun w => need_nat w (B.length + 1) (by omega)
      have HO := Lib.hid (HO3.out.trans hor)
      have hnn := HN.out
      clear hor HG hgw hlt
      rcases Nat.eq_zero_or_pos B.length with h0 | h0
      · have hm : need (B.length + 1) = k := by rw [hnn]; unfold need; omega
        rw [hm] at M
        have h0' : (B.length : Int) ≤ 0 := by omega
        have hq1 : ((k : Int) == (k : Int) + 1) = false := by simp; omega
        have hq2 : ((k : Int) == (k : Int)) = true := by simp
        clear hm h0 hnn
        go_wp2_with (go_at_call 25; refine (M.out _).mono ?_; rintro e w2 ⟨rfl, rfl⟩)
        go_ret
        exact ⟨rfl, HO.out⟩
      · have h0' : (0 : Int) < (B.length : Int) := by omega
        by_cases h53 : B.length % 53 = 0
        · have hm : need (B.length + 1) = k + 1 := by rw [hnn]; unfold need; omega
          rw [hm] at M
          have hf : ((B.length : Int) % 53 == 0) = true := by simp; omega
          have hq1 : ((k : Int) + 1 == (k : Int) + 1) = true := by simp
          have hq2 : ((k : Int) + 1 == (k : Int)) = false := by simp; omega
          clear hm h53 hnn
          go_wp2_with (go_at_call 25; refine (M.out _).mono ?_; rintro e w2 ⟨rfl, rfl⟩)
          go_ret
          exact ⟨rfl, HO.out⟩
        · have hm : need (B.length + 1) = k := by rw [hnn]; unfold need; omega
          rw [hm] at M
          have hf : ((B.length : Int) % 53 == 0) = false := by simp; omega
          have hq1 : ((k : Int) == (k : Int) + 1) = false := by simp; omega
          have hq2 : ((k : Int) == (k : Int)) = true := by simp
          clear hm h53 hnn
          go_wp2_with (go_at_call 25; refine (M.out _).mono ?_; rintro e w2 ⟨rfl, rfl⟩)
          go_ret
          exact ⟨rfl, HO.out⟩

set_option maxRecDepth 100000 in
theorem frameNeeds_lifted (os : Os) (started : os.Started) (H : Type) (enc : TypeId × Value → H) :
    ReturnsInHanded {} Try.checked os 8 .any (Rows.frameNeedsSpec.pre6 enc Try.prog Try.f8 Rows.frameNeedsRow.domain false) (Rows.frameNeedsSpec.post enc Try.prog Try.f8 false true false false) := by
  refine returnsInHanded_of_change (C := Try.checked) Try.own started (by kernel_rfl) Try.func8
    (ChangeSpec.witness6 (enc := enc) (C := Try.checked) false ⟨#[], #[.string ⟨#[]⟩, .int .u16 0, .int .u8 0], []⟩ 8 (by kernel_rfl) (by kernel_rfl) (by kernel_rfl) (by kernel_rfl)) ?_
  intro W base args ds gs before hval0 hW hcnd _
  have hval : ∀ (j : Nat) t v, Try.f8.params[j]? = some t → args[j]? = some v → Value.okWide Try.prog W .any base t v := hval0
  have hW' := hW
  obtain ⟨p, q, hA0, hV, rfl, hfz, hnd⟩ := hW
  have hA : DataW.TrodAll enc Try.prog W 0 (fun _ => true) true Try.f8.params.toList args.toList ds p := hA0
  rw [Try.params8] at hA hval
  obtain ⟨v0, vs0, d0, ds0, p0, q0, hargs, rfl, rfl, h0, r0⟩ := trodAll_cons hA
  obtain ⟨v1, vs1, d1, ds1, p1, q1, rfl, rfl, rfl, h1, r1⟩ := trodAll_cons r0
  obtain ⟨v2, vs2, d2, ds2, p2, q2, rfl, rfl, rfl, h2, r2⟩ := trodAll_cons r1
  obtain ⟨rfl, rfl, rfl⟩ := trodAll_nil r2
  obtain rfl : args = #[v0, v1, v2] := by cases args; simp_all
  obtain ⟨rfl, rfl⟩ := trodVars_none hV
  clear hA0 hval0
  obtain ⟨s, rfl, ws⟩ := law_str Try.underlying9 (hval 0 9 v0 rfl rfl) h0
  obtain ⟨ep, rfl, _, _, we⟩ := open_int Try.underlying51 (hval 1 51 v1 rfl rfl) h1
  obtain ⟨a, rfl, _, _, wa⟩ := open_int Try.underlying5 (hval 2 5 v2 rfl rfl) h2
  refine (frameNeeds_walk W s ep a ws (bounds_u16 we) (bounds_u8 wa)).mono fun e W' ⟨he, ho⟩ => ?_
  subst he
  exact ⟨_, rfl, law_post rfl hW' (by kernel_rfl) (of_decide_eq_true (by kernel_rfl)) rfl rfl rfl ho⟩
theorem frameNeeds_holds : Rows.FrameNeedsSaid :=
  OpenClaim.holds_of_wide 8 Try.f8 rfl rfl rfl rfl rfl rfl rfl ⟨rfl, rfl, rfl, rfl, rfl⟩ rfl rfl rfl rfl rfl (by kernel_rfl) Try.func8 (by kernel_rfl)
    (of_decide_eq_true (by kernel_rfl)) (by unfold Func.isWrapper; first | (rw [if_pos (by decide +kernel)]; kernel_rfl) | (rw [if_neg (by decide +kernel)]; exact ⟨rfl, rfl⟩))
    (fun os started H enc _ => frameNeeds_lifted os started H enc)
end Go.Proofs.Ytlgefjcfnnjkbaa
