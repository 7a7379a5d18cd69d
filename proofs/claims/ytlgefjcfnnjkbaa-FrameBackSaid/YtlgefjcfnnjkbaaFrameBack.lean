/- FrameBack: what is laid is read as it was. No conditions. -/
import Derived.Test.YtlgefjcfnnjkbaaLaw
import Derived.Test.YtlgefjcfnnjkbaaEx
import Derived.Test.YtlgefjcfnnjkbaaRows
import Derived.Outline
namespace Go.Proofs.Ytlgefjcfnnjkbaa
open Go.RowKit Go.ChangeShapes Go.WideShapes

theorem lay_cut {f : Fr} (h : f.right = true) : f.lay.take 60 = f.body ∧ f.lay.drop 60 = be 4 (sum f.body) :=
  ⟨by rw [Fr.lay]; exact List.take_left' (Fr.body_length h), by rw [Fr.lay]; exact List.drop_left' (Fr.body_length h)⟩

theorem readV_lay {f : Fr} (h : f.right = true) : readV f.lay = .tuple #[f.val, .int .i64 0] := by
  unfold readV; rw [readF_lay h]

theorem unbe_lt' : ∀ (n : Nat) (l : List UInt8), l.length = n → unbe l < 256 ^ n
  | 0, l, h => by
    have : l = [] := List.eq_nil_of_length_eq_zero h
    subst this; simp [unbe]
  | n + 1, l, h => by
    rcases List.eq_nil_or_concat l with rfl | ⟨l', b, rfl⟩
    · cases h
    · have ih := unbe_lt' n l' (by simpa using h)
      rw [List.concat_eq_append, unbe_snoc, Nat.pow_succ]
      have := b.toNat_lt
      omega
theorem unbe_lt (l : List UInt8) : unbe l < 256 ^ l.length := unbe_lt' _ l rfl

set_option maxRecDepth 100000 in
set_option maxHeartbeats 4000000 in
theorem frameBack_walk (w : World) (f g : Fr) (hf : f.Wf) (hg : g.Wf) :
    Calls Try.prog 5 #[f.val, g.val] w fun e w' => e = .returned (.bool true) ∧ Only (fun _ => False) w w' := by
  have FO := Lib.hid (fun W => frameOf_any W f hf)
  have GO := Lib.hid (fun W => frameOf_any W g hg)
  have HR := Lib.hid f.made_right
  have HS := Lib.hid g.made_right
  obtain ⟨fe, fa, fk, fs⟩ := f
  obtain ⟨ge, ga, gk, gs⟩ := g
  generalize Fr.made ⟨fe, fa, fk, fs⟩ = m at FO HR
  generalize Fr.made ⟨ge, ga, gk, gs⟩ = n at GO HS
  have LF := Lib.hid (fun W => lay_good W m HR.out)
  have LG := Lib.hid (fun W => lay_good W n HS.out)
  have hq := Fr.lay_length HR.out
  have hz := size_toArray m.lay
  rw [hq] at hz
  have RD := Lib.hid (fun W => read_any W m.lay (by rw [hq]; decide))
  rw [readV_lay HR.out] at RD
  unfold Fr.val at FO GO ⊢
  simp only at FO GO ⊢
  obtain ⟨hq1, hq2⟩ := lay_cut HR.out
  have hbl := Fr.body_length HR.out
  have hx1 := extract_list m.lay 0 60
  rw [List.drop_zero, hq1] at hx1
  have SM := Lib.hid (fun W => sum_any ⟨m.body.toArray⟩ W (by rw [size_toArray, hbl]; decide))
  have hti : ∀ i, i < 4 → m.lay.getD (60 + i) 0 = (be 4 (sum m.body)).getD i 0 := by
    intro i hi
    rw [← hq2]
    simp [List.getD_eq_getElem?_getD, List.getElem?_drop]
  have hun : unbe (be 4 (sum m.body)) = sum m.body := unbe_be 4 _ (by have := sum_lt m.body; omega)
  have hb4 := be_length 4 (sum m.body)
  have hsl := sum_lt m.body
  simp only at SM
  generalize sum m.body = sm at SM hti hun hb4 hsl
  have HTI := Lib.hid hti
  have HUN := Lib.hid hun
  have HX1 := Lib.hid hx1
  clear hti hun hx1 hq1 hq2
  generalize be 4 sm = tl at HTI HUN hb4
  -- the one as the other
  have HEQ : Hid ((m = n ∧ m.lay = n.lay) ∨ (m ≠ n ∧ m.lay ≠ n.lay)) := Lib.hid (by
    by_cases e : m = n
    · exact .inl ⟨e, by rw [e]⟩
    · exact .inr ⟨e, fun h => e (lay_inj HR.out HS.out h)⟩)
  have HML : Hid (m.lay.length = 64) := Lib.hid hq
  generalize m.body = mb at *
  generalize m.lay = q at *
  generalize n.lay = r at *
  obtain ⟨me, ma, mk, ms⟩ := m
  obtain ⟨ne, na, nk, ns⟩ := n
  unfold Fr.val at LF LG RD
  simp only at FO GO LF LG RD
  have hb0 := heap_alloc2_old w (.cells #[.int .i64 fe, .int .i64 fa, .int .i64 fk, .string ⟨fs.toArray⟩] 23) (.cells #[.int .i64 ge, .int .i64 ga, .int .i64 gk, .string ⟨gs.toArray⟩] 23)
  have hc0 := heap_alloc2_new w (.cells #[.int .i64 fe, .int .i64 fa, .int .i64 fk, .string ⟨fs.toArray⟩] 23) (.cells #[.int .i64 ge, .int .i64 ga, .int .i64 gk, .string ⟨gs.toArray⟩] 23)
  have ho0 := (Only.alloc w (.cells #[.int .i64 fe, .int .i64 fa, .int .i64 fk, .string ⟨fs.toArray⟩] 23) (fun _ => False)).trans (Only.alloc _ (.cells #[.int .i64 ge, .int .i64 ga, .int .i64 gk, .string ⟨gs.toArray⟩] 23) _)
  have HB0 := Lib.hid hb0
  have HC0 := Lib.hid hc0
  have HO0 := Lib.hid ho0
  clear hb0 hc0 ho0 hf hg
  go_enter Try.func5, Try.ntmps5
  go_upto_region 4 with (go_at_call 19; refine (examples_any _).mono ?_; rintro e w1 ⟨rfl, ho1⟩)
  have hb1 := ho1.keep HB0.out id
  have hc1 := ho1.keep HC0.out id
  have HO1 := Lib.hid (HO0.out.trans ho1)
  have c0 := cell_at hb1 0
  have c1 := cell_at hb1 1
  have c2 := cell_at hb1 2
  have c3 := cell_at hb1 3
  have HC1 := Lib.hid hc1
  clear hb1 hc1 ho1 HB0 HC0 HO0
  go_wp2_with fail
  refine (FO.out _).mono ?_
  rintro e w2 ⟨rfl, ho2⟩
  clear c0 c1 c2 c3
  have HM2 := Lib.hid (heap_alloc_new w2 (.cells #[.int .i64 me, .int .i64 ma, .int .i64 mk, .string ⟨ms.toArray⟩] 23))
  have ho2' := ho2.trans (Only.alloc w2 (.cells #[.int .i64 me, .int .i64 ma, .int .i64 mk, .string ⟨ms.toArray⟩] 23) _)
  have hc2 := ho2'.keep HC1.out id
  have HO2 := Lib.hid (HO1.out.trans ho2')
  have d0 := cell_at hc2 0
  have d1 := cell_at hc2 1
  have d2 := cell_at hc2 2
  have d3 := cell_at hc2 3
  clear hc2 ho2 ho2' HC1 HO1
  go_wp2_with fail
  refine (GO.out _).mono ?_
  rintro e w3 ⟨rfl, ho3⟩
  clear d0 d1 d2 d3
  have HN3 := Lib.hid (heap_alloc_new w3 (.cells #[.int .i64 ne, .int .i64 na, .int .i64 nk, .string ⟨ns.toArray⟩] 23))
  have ho3' := ho3.trans (Only.alloc w3 (.cells #[.int .i64 ne, .int .i64 na, .int .i64 nk, .string ⟨ns.toArray⟩] 23) _)
  have hm3 := ho3'.keep HM2.out id
  have HO3 := Lib.hid (HO2.out.trans ho3')
  have c0 := cell_at hm3 0
  have c1 := cell_at hm3 1
  have c2 := cell_at hm3 2
  have c3 := cell_at hm3 3
  have HM3 := Lib.hid hm3
  clear hm3 ho3 ho3' HM2 HO2
  go_wp2_with fail
  refine (LF.out _).mono ?_
  rintro e w4 ⟨rfl, ho4⟩
  clear c0 c1 c2 c3
  have hn4 := ho4.keep HN3.out id
  have HM4 := Lib.hid (ho4.keep HM3.out id)
  have HO4 := Lib.hid (HO3.out.trans ho4)
  have d0 := cell_at hn4 0
  have d1 := cell_at hn4 1
  have d2 := cell_at hn4 2
  have d3 := cell_at hn4 3
  have HN4 := Lib.hid hn4
  clear hn4 ho4 HN3 HM3 HO3
  go_wp2_with fail
  refine (LG.out _).mono ?_
  rintro e w5 ⟨rfl, ho5⟩
  clear d0 d1 d2 d3
  have HM5 := Lib.hid (ho5.keep HM4.out id)
  have HN5 := Lib.hid (ho5.keep HN4.out id)
  have HO5 := Lib.hid (HO4.out.trans ho5)
  clear ho5 HN4 HM4 HO4
  go_wp2_with fail
  refine (RD.out _).mono ?_
  rintro e w6 ⟨rfl, ho6⟩
  have ho6' := ho6.trans (Only.alloc w6 (.cells #[.int .i64 me, .int .i64 ma, .int .i64 mk, .string ⟨ms.toArray⟩] 23) _)
  have hr6 := heap_alloc_new w6 (.cells #[.int .i64 me, .int .i64 ma, .int .i64 mk, .string ⟨ms.toArray⟩] 23)
  have hm6 := ho6'.keep HM5.out id
  have hn6 := ho6'.keep HN5.out id
  have HO6 := Lib.hid (HO5.out.trans ho6')
  clear ho6 ho6' HM5 HN5 HO5
  go_upto_region 9 with fail
  have hw7 : ∃ w7, w7 = w6.alloc (.cells #[.int .i64 me, .int .i64 ma, .int .i64 mk, .string ⟨ms.toArray⟩] 23) := ⟨_, rfl⟩
  obtain ⟨w7, hw7⟩ := hw7
  rw [← hw7] at hr6 hm6 hn6 HO6 ⊢
  clear hw7
  have r0 := cell_at hr6 0
  have r1 := cell_at hr6 1
  have r2 := cell_at hr6 2
  have r3 := cell_at hr6 3
  have m0 := cell_at hm6 0
  have m1 := cell_at hm6 1
  have m2 := cell_at hm6 2
  have m3 := cell_at hm6 3
  have n0 := cell_at hn6 0
  have n1 := cell_at hn6 1
  have n2 := cell_at hn6 2
  have n3 := cell_at hn6 3
  clear hr6 hm6 hn6
  go_cut [66] from 38 to 66 (fun s66 wx => s66 = .bool false ∧ w7 = wx)
  case first =>
    rcases HEQ.out with ⟨e1, e2⟩ | ⟨e1, e2⟩
    · simp only [Fr.mk.injEq] at e1
      obtain ⟨rfl, rfl, rfl, rfl⟩ := e1
      subst e2
      clear HEQ HS LG
      go_wp2_with fail
      go_meet
      exact ⟨rfl, rfl⟩
    · have hs1 : (q == r) = false := by simp [e2]
      have hne : ¬ (me = ne ∧ ma = na ∧ mk = nk ∧ ms = ns) := by simpa using e1
      clear HEQ e1 e2
      by_cases a1 : me = ne
      · subst a1
        by_cases a2 : ma = na
        · subst a2
          by_cases a3 : mk = nk
          · subst a3
            have a4 : (ms == ns) = false := by simp; intro e; exact hne ⟨rfl, rfl, rfl, e⟩
            clear hne
            go_wp2_with fail
            go_meet
            exact ⟨rfl, rfl⟩
          · have a3' : (mk == nk) = false := by simp [a3]
            clear hne a3
            go_wp2_with fail
            go_meet
            exact ⟨rfl, rfl⟩
        · have a2' : (ma == na) = false := by simp [a2]
          clear hne a2
          go_wp2_with fail
          go_meet
          exact ⟨rfl, rfl⟩
      · have a1' : (me == ne) = false := by simp [a1]
        clear hne a1
        go_wp2_with fail
        go_meet
        exact ⟨rfl, rfl⟩
  case rest =>
    obtain ⟨rfl, rfl⟩ := hcut
    clear r0 r1 r2 r3 m0 m1 m2 m3 n0 n1 n2 n3 HEQ LG LF RD FO GO
    go_wp2_with fail
    go_loopw [14, 15] (fun s i wr => ∃ k : Nat, k ≤ 4 ∧ i = .int .i64 ((60 + k : Nat) : Int) ∧ s = .int .i64 (unbe (tl.take k) : Nat) ∧ w7 = wr) (fun s i _ => 64 - (intOf i).toNat)
    case atStart => exact ⟨0, by omega, rfl, rfl, rfl⟩
    case round =>
      obtain ⟨k, hk, rfl, rfl, rfl⟩ := hrel
      by_cases hlt : k < 4
      · have hidx := byte_at q (60 + k) (by rw [hz]; omega)
        rw [HTI.out k hlt] at hidx
        have hul := unbe_lt (tl.take k)
        have hpw : 256 ^ (tl.take k).length ≤ 256 ^ 3 := Nat.pow_le_pow_right (by decide) (by simp; omega)
        have hu3 : unbe (tl.take k) < 16777216 := Nat.lt_of_lt_of_le hul (by simpa using hpw)
        clear hul hpw
        have HSN : Hid (unbe (tl.take (k + 1)) = unbe (tl.take k) * 256 + (tl.getD k 0).toNat) := Lib.hid (by
          rw [take_snocL tl k (by omega), unbe_snoc]
          simp [List.getD_eq_getElem?_getD, List.getElem?_eq_getElem (show k < tl.length by omega)])
        generalize tl.getD k 0 = b at hidx HSN
        generalize unbe (tl.take k) = u at hu3 HSN
        have hbl2 := b.toNat_lt
        have hki : (60 : Int) + (k : Int) < 64 := by omega
        go_wp2_with fail
        go_roundw
        case rel => exact ⟨k + 1, by omega, by go_num, by rw [HSN.out]; go_num, trivial⟩
        case measure => simp [intOf] <;> omega
      · obtain rfl : k = 4 := by omega
        rw [List.take_of_length_le (by omega), HUN.out]
        have hx1 := HX1.out
        go_wp2_with (go_at_call 35; refine (SM.out _).mono ?_; rintro e w8 ⟨rfl, ho8⟩)
        go_ret
        exact ⟨rfl, HO6.out.trans (Only.of_below ho8 _)⟩

set_option maxRecDepth 100000 in
theorem frameBack_lifted (os : Os) (started : os.Started) (H : Type) (enc : TypeId × Value → H) :
    ReturnsInHanded {} Try.checked os 5 .any (Rows.frameBackSpec.pre6 enc Try.prog Try.f5 Rows.frameBackRow.domain false) (Rows.frameBackSpec.post enc Try.prog Try.f5 false true false false) := by
  refine returnsInHanded_of_change (C := Try.checked) Try.own started (by kernel_rfl) Try.func5
    (ChangeSpec.witness6 (enc := enc) (C := Try.checked) false ⟨#[], #[.agg #[.int .i64 0, .int .i64 0, .int .i64 0, .string ⟨#[]⟩], .agg #[.int .i64 0, .int .i64 0, .int .i64 0, .string ⟨#[]⟩]], []⟩ 8 (by kernel_rfl) (by kernel_rfl) (by kernel_rfl) (by kernel_rfl)) ?_
  intro W base args ds gs before hval0 hW hcnd _
  have hval : ∀ (j : Nat) t v, Try.f5.params[j]? = some t → args[j]? = some v → Value.okWide Try.prog W .any base t v := hval0
  have hW' := hW
  obtain ⟨p, q, hA0, hV, rfl, hfz, hnd⟩ := hW
  have hA : DataW.TrodAll enc Try.prog W 0 (fun _ => true) true Try.f5.params.toList args.toList ds p := hA0
  rw [Try.params5] at hA hval
  obtain ⟨v0, vs0, d0, ds0, p0, q0, hargs, rfl, rfl, h0, r0⟩ := trodAll_cons hA
  obtain ⟨v1, vs1, d1, ds1, p1, q1, rfl, rfl, rfl, h1, r1⟩ := trodAll_cons r0
  obtain ⟨rfl, rfl, rfl⟩ := trodAll_nil r1
  obtain rfl : args = #[v0, v1] := by cases args; simp_all
  obtain ⟨rfl, rfl⟩ := trodVars_none hV
  clear hA0 hval0
  obtain ⟨f, rfl, wf⟩ := law_frame (hval 0 23 v0 rfl rfl) h0
  obtain ⟨g, rfl, wg⟩ := law_frame (hval 1 23 v1 rfl rfl) h1
  refine (frameBack_walk W f g wf wg).mono fun e W' ⟨he, ho⟩ => ?_
  subst he
  exact ⟨_, rfl, law_post rfl hW' (by kernel_rfl) (of_decide_eq_true (by kernel_rfl)) rfl rfl rfl ho⟩
theorem frameBack_holds : Rows.FrameBackSaid :=
  OpenClaim.holds_of_wide 5 Try.f5 rfl rfl rfl rfl rfl rfl rfl ⟨rfl, rfl, rfl, rfl, rfl⟩ rfl rfl rfl rfl rfl (by kernel_rfl) Try.func5 (by kernel_rfl)
    (of_decide_eq_true (by kernel_rfl)) (by unfold Func.isWrapper; first | (rw [if_pos (by decide +kernel)]; kernel_rfl) | (rw [if_neg (by decide +kernel)]; exact ⟨rfl, rfl⟩))
    (fun os started H enc _ => frameBack_lifted os started H enc)
end Go.Proofs.Ytlgefjcfnnjkbaa
