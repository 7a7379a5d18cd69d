/- DiskSum. No conditions. -/
import Derived.Test.YtlgefjcfnnjkbaaAwake
import Derived.Test.YtlgefjcfnnjkbaaDiskSumP
import Derived.Test.YtlgefjcfnnjkbaaLaw
import Derived.Test.YtlgefjcfnnjkbaaRows
namespace Go.Proofs.Ytlgefjcfnnjkbaa
open Go.ChangeShapes Go.WideShapes Go.ChangeAt Go.RowKit Go.Joins Go.Deep

def zeroCl : List Value := [.int .u8 0, .int .i64 0, .string ⟨#[]⟩, .int .i64 0, .int .i64 0, .slice none 0 0]
theorem Try.info61 : (Try.prog.info? 61).map (fun i => (i.zero, i.size, i.bytes)) = some (some (.agg zeroCl.toArray), 6, 72) := by kernel_rfl
theorem Try.size61 : (Try.prog.info? 61).map (·.size) = some 6 := by kernel_rfl
theorem dk_sum {w0 w : World} {F : Nat → Prop} {l : List Dk} (h : Disks w0 w F l) (s : List UInt8) (hs : s.length ≤ maxLen) :
    Calls Try.prog 35 #[.string ⟨s.toArray⟩] w fun e w' => e = .returned (.int .i64 (sum s : Int)) ∧ Disks w0 w' F l :=
  (sum_any ⟨s.toArray⟩ w (by rw [size_toArray]; exact hs)).mono fun _ _ ⟨he, hb⟩ => ⟨he, h.quiet (Only.of_below hb _)⟩

set_option maxRecDepth 100000 in
set_option maxHeartbeats 16000000 in
theorem diskSum_walk (w : World) (a : List Cl) (at_ place mask : Int) (ns : List Int) (va vn : Value) (ao no : Option Addr) (ac nc : Nat) (ha : SliceOf w va a.length (cls a) ao ac) (wa : ∀ c ∈ a, c.Wf)
    (hat : I64 at_) (hpl : I64 place) (hma : I64 mask) (hn : SliceOf w vn ns.length (ns.map (Value.int .i64)) no nc) (wn : ∀ x ∈ ns, I64 x) :
    Calls Try.prog 16 #[va, .int .i64 at_, vn, .int .i64 place, .int .i64 mask] w fun e w' => e = .returned (.bool true) ∧ Only (fun _ => False) w w' := by
  have h0 := Disks.start w
  have AW := Lib.hid (fun W => awake_any W)
  have P1 := Lib.hid (fun W => pick02_any W at_ 6 hat (by decide) (by decide))
  have P2 := Lib.hid (fun W => pick02_any W place 64 hpl (by decide) (by decide))
  have P3 := Lib.hid (fun W => pick02_any W mask 255 hma (by decide) (by decide))
  have hp1 := pickI_lt at_ 6 (by decide)
  have hp2 := pickI_lt place 64 (by decide)
  have hp3 := pickI_lt mask 255 (by decide)
  obtain ⟨k, hq⟩ : ∃ k : Nat, (k : Int) = pickI at_ 6 := ⟨(pickI at_ 6).toNat, by omega⟩
  rw [← hq] at P1 hp1
  clear hq
  obtain ⟨p, hq⟩ : ∃ k : Nat, (k : Int) = pickI place 64 := ⟨(pickI place 64).toNat, by omega⟩
  rw [← hq] at P2 hp2
  clear hq
  obtain ⟨m, hq⟩ : ∃ k : Nat, (k : Int) = pickI mask 255 := ⟨(pickI mask 255).toNat, by omega⟩
  rw [← hq] at P3 hp3
  clear hq
  have hk : k < 6 := by omega
  have hp : p < 64 := by omega
  have hm : m < 255 := by omega
  clear hp1 hp2 hp3
  have hvv := ha.val
  subst hvv
  have hvv := hn.val
  subst hvv
  have hal := ha.len
  go_enter Try.func16, Try.ntmps16
  go_wp2_with fail
  refine (AW.out _).mono ?_
  rintro e w1 ⟨rfl, ho1⟩
  have H1 := Lib.hid (h0.quiet ho1)
  clear h0 ho1 AW
  go_wp2_with fail
  refine (P1.out _).mono ?_
  rintro e wx ⟨rfl, rfl⟩
  go_wp2_with fail
  go_loopw [13, 14] (fun o i wr => ∃ j : Nat, j ≤ 8 ∧ j ≤ a.length ∧ i = .int .i64 j ∧ Hid (wr.ownsRow w1.heap.size 61 6 o (otherL a k j).length (cls (otherL a k j))) ∧ Hid (Only (fun _ => False) w1 wr)) (fun o i _ => 8 - (intOf i).toNat)
  case atStart => exact ⟨0, by omega, by omega, rfl, Lib.hid (World.ownsRow_nil _ _ _ _), Lib.hid (Only.refl _ _)⟩
  case round =>
    obtain ⟨j, hj8, hjl, rfl, HR, HOR⟩ := hrel
    have HD := Lib.hid (H1.out.quiet HOR.out)
    by_cases hgo : j < a.length ∧ j < 8
    · obtain ⟨h1, h2⟩ := hgo
      have hI1 : (j : Int) < (a.length : Int) := by omega
      have hI2 : (j : Int) < 8 := by omega
      obtain ⟨gl, ol, rfl, hcc⟩ := cl_at (ha.only HD.out.only) j h1
      have hwf := wa _ (List.getElem_mem h1)
      have hone := hwf.one
      have hca := hcc 1 _ rfl
      have HSU := Lib.hid (otherL_succ a k j h1)
      have hol := otherL_length a k j
      have PK := Lib.hid (fun W => pick02_any W a[j].at_ 6 hwf.at_ (by decide) (by decide))
      have hp' := pickI_lt a[j].at_ 6 (by decide)
      obtain ⟨q, hq⟩ : ∃ q : Nat, (q : Int) = pickI a[j].at_ 6 := ⟨(pickI a[j].at_ 6).toNat, by omega⟩
      rw [← hq] at PK HSU
      rw [Int.toNat_natCast] at HSU
      clear hq hwf hp'
      generalize a[j] = c at hcc hca PK HSU hone
      by_cases hqk : q = k
      · rw [if_pos hqk, List.append_nil] at HSU
        have hqe : ((q : Int) != (k : Int)) = false := by simp; omega
        clear hqk hcc
        go_wp2_with fail
        refine (PK.out _).mono ?_
        rintro e wx ⟨rfl, rfl⟩
        go_wp2_with fail
        go_roundw
        case rel => exact ⟨j + 1, by omega, by omega, by go_num, by rw [HSU.out]; exact HR, HOR⟩
        case measure => simp [intOf] <;> omega
      · rw [if_neg hqk] at HSU
        have hqe : ((q : Int) != (k : Int)) = true := by simp; omega
        obtain ⟨v', w7, hrun5, hown5, ho5⟩ := append_one_row (P := Try.prog) wr w1.heap.size 53 53 61 _ 6 72 Try.underlying53 Try.info61 rfl (by decide) u13 _ _ HR.out [c.k, .int .i64 c.at_, .string ⟨c.s.toArray⟩, c.p, c.m, c.kp] rfl hone (by omega) (by decide) HOR.out.size
        have HRUN := Lib.hid hrun5
        have HOWN := Lib.hid hown5
        have HO5 := Lib.hid (HOR.out.trans' ho5 (fun y hy e => row_own_new HR.out hy e))
        have HCC := Lib.hid hcc
        clear hrun5 hown5 ho5 hqk hcc
        go_wp2_with fail
        refine (PK.out _).mono ?_
        rintro e wx ⟨rfl, rfl⟩
        go_wp2_with (first
          | ((with_reducible refine wpList_load_part gl (ol + j * 6) [c.k, .int .i64 c.at_, .string ⟨c.s.toArray⟩, c.p, c.m, c.kp] ?_ ?_ ?_ ?_ ?_); (· exact ⟨_, Try.underlying61, rfl⟩); (· exact Try.size61); (· exact HCC.out); (· rfl))
          | ((with_reducible refine wpList_append_run u13 (.slice (some ⟨wr.heap.size, 0, none⟩) 1 1) v' HRUN.out ?_ ?_ ?_); (· rfl); (· rfl)))
        go_roundw
        case rel => exact ⟨j + 1, by omega, by omega, by go_num, Lib.hid (by rw [HSU.out, List.length_append]; exact (show cls (otherL a k j ++ [c]) = cls (otherL a k j) ++ c.cells by simp [cls]) ▸ HOWN.out), HO5⟩
        case measure => simp [intOf] <;> omega
    · have hsp : (a.length : Int) ≤ (j : Int) ∨ ((j : Int) < (a.length : Int) ∧ (8 : Int) ≤ (j : Int)) := by omega
      have hwb : ∀ c ∈ otherL a k j, c.Wf := fun c hc => wa c (otherL_mem a k j c hc).1
      have hno := filledD_none a (otherL a k j) k (fun c hc => (otherL_mem a k j c hc).2)
      obtain ⟨hf1, hf2, hf3⟩ := filledD_facts a (otherL a k j)
      obtain ⟨bo, bc, hsb⟩ := sliceOf_own HR.out
      have hvv := hsb.val
      subst hvv
      have FI := Lib.hid (dk_filled HD.out _ _ a (otherL a k j) _ _ _ _ (ha.only HD.out.only) hsb wa hwb)
      generalize filledD a (otherL a k j) = X at FI hno hf1 hf2 hf3
      have hm8 : X.pend.length ≤ 8 := by omega
      obtain ⟨q, hq⟩ : ∃ q, q = X.pend.length := ⟨_, rfl⟩
      rw [← hq] at hm8
      have KP := Lib.hid (fun (W : World) (F : Nat → Prop) (l : List Dk) (h : Disks w W F l) => dk_keep h _ ns no nc q (hn.only h.only) wn (by omega))
      have hko := keepL_ok ns q
      have HOK : Hid (crashOk X.pend.length ((keepL ns q).map fun (x : Nat) => (x : Int))) := Lib.hid (by rw [← hq]; exact crashOk_nats q _ hko)
      generalize keepL ns q = L at KP HOK hko
      have e1 := crash_none X k hno L (by rw [← hq]; exact hko.1)
      have hz6 : (X.crash L).kept.length = 6 := by simp only [D.crash, D.layAll_length]; exact hf1
      have e2 := rot_there (X.crash L) rfl k p (1 + m) (by rw [hz6]; exact hk)
      have hr6 : ((X.crash L).rot k p (1 + m)).kept.length = 6 := by simp only [D.rot, List.length_set]; exact hz6
      have HX := Lib.hid (⟨hf1, hq.symm, hz6, hr6⟩ : X.kept.length = 6 ∧ X.pend.length = q ∧ (X.crash L).kept.length = 6 ∧ ((X.crash L).rot k p (1 + m)).kept.length = 6)
      rw [e1] at e2
      obtain ⟨S, hS⟩ : ∃ S, S = X.there k := ⟨_, rfl⟩
      rw [← hS] at e1 e2
      obtain ⟨U, hU⟩ : ∃ U, U = S.set p (S.getD p 0 ^^^ UInt8.ofNat (1 + m)) := ⟨_, rfl⟩
      rw [← hU] at e2
      have HS := Lib.hid hS.symm
      have HU := Lib.hid hU
      have E1 := Lib.hid e1
      have E2 := Lib.hid e2
      clear hno hf1 hf2 hf3 hq hz6 hr6 e1 e2 hgo HR hsb hwb hS hU
      rcases hsp with h | ⟨h, h'⟩
      all_goals
        go_wp2_with fail
        refine FI.out.mono ?_
        rintro e x1 ⟨p0, k0, v0, rfl, h⟩
        have J1 : Hid (Disks w x1 (fun _ => False) [⟨p0, k0, v0, X⟩]) := Lib.hid h
        clear h
        have hSl : S.length = 64 := by rw [← HS.out]; exact D.there_len (J1.out.at_ 0 _ rfl).ok (by rw [HX.out.1]; exact hk)
        have hne : sum U ≠ sum S := by
          rw [HU.out]
          intro hh
          have h1 := sum_set S p (by omega) _ hh
          have h2 : S.getD p 0 = S[p]'(by omega) := by rw [List.getD_eq_getElem?_getD, List.getElem?_eq_getElem (by omega)]; rfl
          rw [h2] at h1
          exact xor_ne _ (1 + m) (by omega) (by omega) h1
        have hSm : S.length ≤ maxLen := by unfold maxLen; omega
        have hUm : U.length ≤ maxLen := by rw [HU.out, List.length_set]; exact hSm
        have hse : ((sum U : Int) != (sum S : Int)) = true := by simp; omega
        have SS := Lib.hid (fun (W : World) (F : Nat → Prop) (l : List Dk) (h : Disks w W F l) => dk_sum h S hSm)
        have SU := Lib.hid (fun (W : World) (F : Nat → Prop) (l : List Dk) (h : Disks w W F l) => dk_sum h U hUm)
        generalize sum S = ss at SS hse
        generalize sum U = su at SU hse
        clear hne hSl hSm hUm
        go_wp2_with fail
        have hrd := dk_read J1.out 0 rfl k (by rw [HX.out.1]; exact hk)
        rw [HS.out] at hrd
        refine hrd.mono ?_
        rintro e x2 ⟨rfl, h, ho⟩
        have J2 := Lib.hid h
        clear h ho J1 hrd
        go_wp2_with fail
        have hpe := pending_any x2 p0 k0 v0 X (J2.out.at_ 0 _ rfl)
        rw [HX.out.2.1] at hpe
        refine hpe.mono ?_
        rintro e x3 ⟨rfl, rfl⟩
        clear hpe
        go_wp2_with fail
        refine (KP.out _ _ _ J2.out).mono ?_
        rintro e x4 ⟨r, F, co, cc, rfl, h4, _, hr, hF, _⟩
        have hvv := hr.val
        rw [List.length_map] at hvv
        subst hvv
        have HR4 := Lib.hid hr
        have J4 := Lib.hid h4
        clear hr h4 hF J2
        go_wp2_with fail
        refine (dk_crash J4.out 0 rfl _ _ _ _ HR4.out HOK.out (by rw [HX.out.2.1]; omega)).mono ?_
        rintro e x5 ⟨rfl, h5, ho5⟩
        have J5 : Hid (Disks w x5 F [⟨p0, k0, .slice none 0 0, X.crash L⟩]) := Lib.hid (by rw [← nats_back L]; exact h5)
        clear h5 ho5 J4 HR4
        go_wp2_with fail
        have hrd := dk_read J5.out 0 rfl k (by rw [HX.out.2.2.1]; exact hk)
        rw [E1.out] at hrd
        refine hrd.mono ?_
        rintro e x6 ⟨rfl, h, ho⟩
        have J6 := Lib.hid h
        clear h ho J5 hrd
        go_wp2_with fail
        refine (P3.out _).mono ?_
        rintro e wx ⟨rfl, rfl⟩
        go_wp2_with fail
        refine (P2.out _).mono ?_
        rintro e wx ⟨rfl, rfl⟩
        have hrt := dk_rot J6.out 0 rfl k p (1 + m) (by rw [HX.out.2.2.1]; exact hk) hp (by omega)
        rw [show (((1 + m : Nat) : Int)) = 1 + (m : Int) from by omega] at hrt
        go_wp2_with fail
        refine hrt.mono ?_
        rintro e x7 ⟨rfl, h, ho⟩
        have J7 : Hid (Disks w x7 F [⟨p0, k0, .slice none 0 0, (X.crash L).rot k p (1 + m)⟩]) := Lib.hid h
        clear h ho J6 hrt
        go_wp2_with fail
        have hrd := dk_read J7.out 0 rfl k (by rw [HX.out.2.2.2]; exact hk)
        rw [E2.out] at hrd
        refine hrd.mono ?_
        rintro e x8 ⟨rfl, h, ho⟩
        have J8 := Lib.hid h
        clear h ho J7 hrd
        go_wp2_with fail
        refine (SS.out _ _ _ J8.out).mono ?_
        rintro e x9 ⟨rfl, h⟩
        have J9 := Lib.hid h
        clear h J8
        go_wp2_with fail
        refine (SS.out _ _ _ J9.out).mono ?_
        rintro e x10 ⟨rfl, h⟩
        have J10 := Lib.hid h
        clear h J9
        go_wp2_with fail
        refine (SU.out _ _ _ J10.out).mono ?_
        rintro e x11 ⟨rfl, h⟩
        have J11 := Lib.hid h
        clear h J10
        go_wp2_with fail
        refine (SS.out _ _ _ J11.out).mono ?_
        rintro e x12 ⟨rfl, h⟩
        have J12 := Lib.hid h
        clear h J11
        go_wp2_with fail
        go_ret
        exact ⟨rfl, J12.out.only⟩

set_option maxRecDepth 100000 in
theorem diskSum_lifted (os : Os) (started : os.Started) (H : Type) (enc : TypeId × Value → H) :
    ReturnsInHanded {} Try.checked os 16 .any (Rows.diskSumSpec.pre6 enc Try.prog Try.f16 Rows.diskSumRow.domain false) (Rows.diskSumSpec.post enc Try.prog Try.f16 false true false false) := by
  refine returnsInHanded_of_change (C := Try.checked) Try.own started (by kernel_rfl) Try.func16
    (ChangeSpec.witness6 (enc := enc) (C := Try.checked) false ⟨#[], #[.slice none 0 0, .int .i64 0, .slice none 0 0, .int .i64 0, .int .i64 0], []⟩ 8 (by kernel_rfl) (by kernel_rfl) (by kernel_rfl) (by kernel_rfl)) ?_
  intro W base args ds gs before hval0 hW hcnd _
  have hval : ∀ (j : Nat) t v, Try.f16.params[j]? = some t → args[j]? = some v → Value.okWide Try.prog W .any base t v := hval0
  have hW' := hW
  obtain ⟨p, q, hA0, hV, rfl, hfz, hnd⟩ := hW
  have hA : DataW.TrodAll enc Try.prog W 0 (fun _ => true) true Try.f16.params.toList args.toList ds p := hA0
  rw [Try.params16] at hA hval
  obtain ⟨v0, vs0, d0, ds0, p0, q0, hargs, rfl, rfl, h0, r0⟩ := trodAll_cons hA
  obtain ⟨v1, vs1, d1, ds1, p1, q1, rfl, rfl, rfl, h1, r1⟩ := trodAll_cons r0
  obtain ⟨v2, vs2, d2, ds2, p2, q2, rfl, rfl, rfl, h2, r2⟩ := trodAll_cons r1
  obtain ⟨v3, vs3, d3, ds3, p3, q3, rfl, rfl, rfl, h3, r3⟩ := trodAll_cons r2
  obtain ⟨v4, vs4, d4, ds4, p4, q4, rfl, rfl, rfl, h4, r4⟩ := trodAll_cons r3
  obtain ⟨rfl, rfl, rfl⟩ := trodAll_nil r4
  obtain rfl : args = #[v0, v1, v2, v3, v4] := by cases args; simp_all
  obtain ⟨rfl, rfl⟩ := trodVars_none hV
  clear hA0 hval0
  obtain ⟨a, ao, ac, ha, wa, _⟩ := law_calls (hval 0 53 v0 rfl rfl) h0
  obtain ⟨b, rfl, _, _, wb⟩ := open_int Try.underlying3 (hval 1 3 v1 rfl rfl) h1
  obtain ⟨ns, no, nc, hn, wn⟩ := law_ints Try.underlying49 Try.underlying3 (by kernel_rfl) (hval 2 49 v2 rfl rfl) h2
  obtain ⟨c, rfl, _, _, wc⟩ := open_int Try.underlying3 (hval 3 3 v3 rfl rfl) h3
  obtain ⟨d, rfl, _, _, wd⟩ := open_int Try.underlying3 (hval 4 3 v4 rfl rfl) h4
  refine (diskSum_walk W a b c d ns v0 v2 ao no ac nc ha wa (bounds_i64 wb) (bounds_i64 wc) (bounds_i64 wd) hn (fun x hx => bounds_i64 (wn x hx))).mono fun e W' ⟨he, ho⟩ => ?_
  subst he
  exact ⟨_, rfl, law_post rfl hW' (by kernel_rfl) (of_decide_eq_true (by kernel_rfl)) rfl rfl rfl ho⟩
theorem diskSum_holds : Rows.DiskSumSaid :=
  OpenClaim.holds_of_wide 16 Try.f16 rfl rfl rfl rfl rfl rfl rfl ⟨rfl, rfl, rfl, rfl, rfl⟩ rfl rfl rfl rfl rfl (by kernel_rfl) Try.func16 (by kernel_rfl)
    (of_decide_eq_true (by kernel_rfl)) (by unfold Func.isWrapper; first | (rw [if_pos (by decide +kernel)]; kernel_rfl) | (rw [if_neg (by decide +kernel)]; exact ⟨rfl, rfl⟩))
    (fun os started H enc _ => diskSum_lifted os started H enc)
end Go.Proofs.Ytlgefjcfnnjkbaa
