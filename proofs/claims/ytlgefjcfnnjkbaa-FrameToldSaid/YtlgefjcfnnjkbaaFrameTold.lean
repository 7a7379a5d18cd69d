/- FrameTold: a sector one byte of which is another one is none. No conditions. -/
import Derived.Test.YtlgefjcfnnjkbaaLaw
import Derived.Test.YtlgefjcfnnjkbaaEx
import Derived.Test.YtlgefjcfnnjkbaaRows
import Derived.Outline
namespace Go.Proofs.Ytlgefjcfnnjkbaa
open Go.RowKit Go.ChangeShapes Go.WideShapes

theorem readV_turned {f : Fr} (h : f.right = true) (k : Nat) (hk : k < 64) (b : UInt8) (hb : b ≠ f.lay.getD k 0) : readV (f.lay.set k b) = .tuple #[.agg #[.int .i64 0, .int .i64 0, .int .i64 0, .string ⟨#[]⟩], .int .i64 120] := by
  unfold readV
  rw [readF_turned h k hk b (by
    have e : f.lay.getD k 0 = f.lay[k]'(by rw [Fr.lay_length h]; exact hk) := by
      rw [List.getD_eq_getElem?_getD, List.getElem?_eq_getElem (by rw [Fr.lay_length h]; exact hk), Option.getD_some]
    rw [← e]; exact hb)]
  rfl

set_option maxRecDepth 100000 in
set_option maxHeartbeats 4000000 in
theorem frameTold_walk (w : World) (f : Fr) (hf : f.Wf) (at_ by_ : Int) (ha : 0 ≤ at_ ∧ at_ ≤ 255) (hb : 0 ≤ by_ ∧ by_ ≤ 255) :
    Calls Try.prog 6 #[f.val, .int .u8 at_, .int .u8 by_] w fun e w' => e = .returned (.bool true) ∧ Only (fun _ => False) w w' := by
  have FO := Lib.hid (fun W => frameOf_any W f hf)
  have HR := Lib.hid f.made_right
  obtain ⟨fe, fa, fk, fs⟩ := f
  generalize Fr.made ⟨fe, fa, fk, fs⟩ = m at FO HR
  have LG := Lib.hid (fun W => lay_good W m HR.out)
  have hq := Fr.lay_length HR.out
  have RT := Lib.hid (readV_turned HR.out)
  generalize m.lay = q at LG hq RT
  obtain ⟨ha1, ha2⟩ := ha
  obtain ⟨hb1, hb2⟩ := hb
  have hz := size_toArray q
  rw [hq] at hz
  obtain ⟨k, hk⟩ : ∃ k : Nat, (k : Int) = at_ % 64 := ⟨(at_ % 64).toNat, by omega⟩
  have hk64 : k < 64 := by omega
  have HB := Lib.hid (heap_alloc_new w (.cells #[.int .i64 fe, .int .i64 fa, .int .i64 fk, .string ⟨fs.toArray⟩] 23))
  have HO0 := Lib.hid (Only.alloc w (.cells #[.int .i64 fe, .int .i64 fa, .int .i64 fk, .string ⟨fs.toArray⟩] 23) (fun _ => False))
  have HK := Lib.hid hk
  clear hk hf
  unfold Fr.val at FO ⊢
  simp only at FO ⊢
  go_enter Try.func6, Try.ntmps6
  go_upto_region 8 with (first
    | (go_at_call 19; refine (examples_any _).mono ?_; rintro e w1 ⟨rfl, ho1⟩; have hb1' := ho1.keep HB.out id; have c0 := cell_at hb1' 0; have c1 := cell_at hb1' 1; have c2 := cell_at hb1' 2; have c3 := cell_at hb1' 3; have HO1 := Lib.hid (HO0.out.trans ho1); clear ho1 hb1')
    | (go_at_call 21; refine (FO.out _).mono ?_; rintro e w2 ⟨rfl, ho2⟩; have HO2 := Lib.hid (HO1.out.trans ho2); clear ho2)
    | (go_at_call 33; refine (LG.out _).mono ?_; rintro e w3 ⟨rfl, ho3⟩; have HO3 := Lib.hid (HO2.out.trans ho3); clear ho3))
  rw [← HK.out]
  have hx1 := extract_list q 0 k
  rw [List.drop_zero] at hx1
  have hx2 := extract_list q (k + 1) 64
  rw [List.take_of_length_le (by omega)] at hx2
  have hidx := byte_at q k (by rw [hz]; exact hk64)
  obtain ⟨x, hx⟩ : ∃ x, x = q.getD k 0 := ⟨_, rfl⟩
  rw [← hx] at hidx
  have hxl := x.toNat_lt
  obtain ⟨b', hb'⟩ : ∃ b' : UInt8, (b'.toNat : Int) = ((x.toNat : Int) + 1 + by_ % 255) % 256 := by
    refine ⟨UInt8.ofNat ((((x.toNat : Int) + 1 + by_ % 255) % 256).toNat), ?_⟩
    rw [UInt8.toNat_ofNat']
    omega
  have hne : b' ≠ q.getD k 0 := by
    rw [← hx]
    intro e
    rw [e] at hb'
    omega
  have RQ := RT.out k hk64 b' hne
  have hset := set_eq_append q k (by omega) b'
  have happ1 := append_list (q.take k) [b']
  have happ2 := append_list (q.take k ++ [b']) (q.drop (k + 1))
  rw [List.append_assoc, List.singleton_append, ← hset] at happ2
  have hset64 : (q.set k b').length = 64 := by rw [List.length_set]; exact hq
  have RD := Lib.hid (fun W => read_any W (q.set k b') (by rw [hset64]; decide))
  rw [RQ] at RD
  have hl1 := size_toArray (q.take k)
  have hl2 := size_toArray (q.drop (k + 1))
  have hl3 := size_toArray (q.take k ++ [b'])
  generalize q.set k b' = q' at happ2 RD
  have HB' := Lib.hid hb'
  clear hb' hset RQ hset64 hne hx RT FO LG HB HO0 HO1 HO2 c0 c1 c2 c3 HR
  have hki1 : (k : Int) ≤ 64 := by omega
  have hki2 : (k : Int) < 64 := by omega
  have hki3 : (k : Int) + 1 ≤ 64 := by omega
  have hki4 : 0 ≤ (k : Int) + 1 := by omega
  refine wp_region_pick (fun _ => True) [(0, 0), (1, 0), (2, 0), (3, 0), (4, 0), (5, 0), (6, 0), (7, 0), (8, 0), (9, 0), (13, 0), (14, 0), (15, 0), (16, 0), (10, 2), (11, 2), (12, 0), (17, 0), (18, 0)] (by kernel_rfl) (by kernel_rfl) (fun _ _ d _ _ h => by cases d <;> exact h) trivial ?_
  simp only [pickOps, List.getElem?_cons_zero, List.getElem?_cons_succ]
  iterate 9 (refine wpL_pure (a' := ?_) ?_ rfl (fun W => ?_) ?_ ?_; rotate_left 2; (· go_simp; first | (go_bits; with_reducible rfl) | with_reducible rfl); (· simp only [put_some, List.setIfInBounds_toArray, List.set_cons_zero, List.set_cons_succ]; rfl))
  refine wpL_pure (a' := ?_) (.int .u8 (b'.toNat : Int)) rfl (fun W => ?_) ?_ ?_; rotate_left 1
  · have hb' := HB'.out
    go_simp
    simp [IntKind.wrap, IntKind.signed, IntKind.bits]
  · simp only [put_some, List.setIfInBounds_toArray, List.set_cons_zero, List.set_cons_succ]; rfl
  iterate 4 (refine wpL_pure (a' := ?_) ?_ rfl (fun W => ?_) ?_ ?_; rotate_left 2; (· go_simp; first | (go_bits; with_reducible rfl) | with_reducible rfl); (· simp only [put_some, List.setIfInBounds_toArray, List.set_cons_zero, List.set_cons_succ]; rfl))
  refine wpL_stepRun (a' := ?_) (.slice (some ⟨w3.heap.size, 0, none⟩) 1 1) rfl (exec_buildSlice_one rfl (v := .int .u8 (b'.toNat : Int)) rfl (run_buildSlice_one w3.drew 30 5 (.int .u8 0) _ #[.int .u8 (b'.toNat : Int)] 1 1 rfl rfl (by decide) (by decide) Try.underlying30 Try.info5)) trivial ?_ ?_; rotate_left; (· simp only [put_some, List.setIfInBounds_toArray, List.set_cons_zero, List.set_cons_succ]; rfl)
  refine wpL_stepRun (a' := ?_) (.string ⟨[b'].toArray⟩) rfl (exec_convert rfl rfl (run_bytes_string (w3.drew.alloc (.cells #[.int .u8 (b'.toNat : Int)] 5)) 30 9 5 w3.heap.size 0 1 1 [b'] Try.underlying30 Try.underlying5 Try.underlying9 rfl (has_of_block' (l := bvs [b']) (heap_alloc_new w3.drew _) rfl))) trivial ?_ ?_; rotate_left; (· simp only [put_some, List.setIfInBounds_toArray, List.set_cons_zero, List.set_cons_succ]; rfl)
  have hsz1 : (q.take k).length ≤ 64 := by simp; omega
  have hsz2 : (q.drop (k + 1)).length ≤ 64 := by simp; omega
  have hcat1 : (9223372036854775807 < (q.take k).length + 1) = False := by simp only [eq_iff_iff, iff_false]; omega
  have hcat2 : (9223372036854775807 < (q.take k).length + 1 + (q.drop (k + 1)).length) = False := by simp only [eq_iff_iff, iff_false]; omega
  have HO4 := Lib.hid ((HO3.out.trans (Only.drew _ _)).trans (Only.alloc w3.drew (.cells #[.int .u8 (b'.toNat : Int)] 5) _))
  generalize w3.drew.alloc (.cells #[.int .u8 (b'.toNat : Int)] 5) = w4 at HO4 ⊢
  generalize q.take k = qa at *
  generalize q.drop (k + 1) = qb at *
  iterate 3 (refine wpL_pure (a' := ?_) ?_ rfl (fun W => ?_) ?_ ?_; rotate_left 2; (· go_simp; first | (go_bits; with_reducible rfl) | with_reducible rfl); (· simp only [put_some, List.setIfInBounds_toArray, List.set_cons_zero, List.set_cons_succ]; rfl))
  refine wpL_nil ?_
  go_wp2_with (go_at_call 34; refine (RD.out _).mono ?_; rintro e w5 ⟨rfl, ho5⟩; have HO5 := Lib.hid (HO4.out.trans ho5); clear ho5)
  go_ret
  exact ⟨rfl, HO5.out.trans (Only.alloc _ _ _)⟩

set_option maxRecDepth 100000 in
theorem frameTold_lifted (os : Os) (started : os.Started) (H : Type) (enc : TypeId × Value → H) :
    ReturnsInHanded {} Try.checked os 6 .any (Rows.frameToldSpec.pre6 enc Try.prog Try.f6 Rows.frameToldRow.domain false) (Rows.frameToldSpec.post enc Try.prog Try.f6 false true false false) := by
  refine returnsInHanded_of_change (C := Try.checked) Try.own started (by kernel_rfl) Try.func6
    (ChangeSpec.witness6 (enc := enc) (C := Try.checked) false ⟨#[], #[.agg #[.int .i64 0, .int .i64 0, .int .i64 0, .string ⟨#[]⟩], .int .u8 0, .int .u8 0], []⟩ 8 (by kernel_rfl) (by kernel_rfl) (by kernel_rfl) (by kernel_rfl)) ?_
  intro W base args ds gs before hval0 hW hcnd _
  have hval : ∀ (j : Nat) t v, Try.f6.params[j]? = some t → args[j]? = some v → Value.okWide Try.prog W .any base t v := hval0
  have hW' := hW
  obtain ⟨p, q, hA0, hV, rfl, hfz, hnd⟩ := hW
  have hA : DataW.TrodAll enc Try.prog W 0 (fun _ => true) true Try.f6.params.toList args.toList ds p := hA0
  rw [Try.params6] at hA hval
  obtain ⟨v0, vs0, d0, ds0, p0, q0, hargs, rfl, rfl, h0, r0⟩ := trodAll_cons hA
  obtain ⟨v1, vs1, d1, ds1, p1, q1, rfl, rfl, rfl, h1, r1⟩ := trodAll_cons r0
  obtain ⟨v2, vs2, d2, ds2, p2, q2, rfl, rfl, rfl, h2, r2⟩ := trodAll_cons r1
  obtain ⟨rfl, rfl, rfl⟩ := trodAll_nil r2
  obtain rfl : args = #[v0, v1, v2] := by cases args; simp_all
  obtain ⟨rfl, rfl⟩ := trodVars_none hV
  clear hA0 hval0
  obtain ⟨f, rfl, wf⟩ := law_frame (hval 0 23 v0 rfl rfl) h0
  obtain ⟨a, rfl, _, _, wa⟩ := open_int Try.underlying5 (hval 1 5 v1 rfl rfl) h1
  obtain ⟨b, rfl, _, _, wb⟩ := open_int Try.underlying5 (hval 2 5 v2 rfl rfl) h2
  refine (frameTold_walk W f wf a b (bounds_u8 wa) (bounds_u8 wb)).mono fun e W' ⟨he, ho⟩ => ?_
  subst he
  exact ⟨_, rfl, law_post rfl hW' (by kernel_rfl) (of_decide_eq_true (by kernel_rfl)) rfl rfl rfl ho⟩
theorem frameTold_holds : Rows.FrameToldSaid :=
  OpenClaim.holds_of_wide 6 Try.f6 rfl rfl rfl rfl rfl rfl rfl ⟨rfl, rfl, rfl, rfl, rfl⟩ rfl rfl rfl rfl rfl (by kernel_rfl) Try.func6 (by kernel_rfl)
    (of_decide_eq_true (by kernel_rfl)) (by unfold Func.isWrapper; first | (rw [if_pos (by decide +kernel)]; kernel_rfl) | (rw [if_neg (by decide +kernel)]; exact ⟨rfl, rfl⟩))
    (fun os started H enc _ => frameTold_lifted os started H enc)
end Go.Proofs.Ytlgefjcfnnjkbaa
