/- The reference's Lay. No conditions. -/
import Derived.Test.YtlgefjcfnnjkbaaFrame5
namespace Go.Proofs.Ytlgefjcfnnjkbaa
open Go.RowKit

theorem refLay_bad (w : World) (f : Fr) (hs : f.s.length ≤ maxLen) (hr : f.right = false) :
    Calls Try.prog 20 #[f.val] w fun e w' => e = .returned (.tuple #[.string ⟨#[]⟩, .int .i64 120]) ∧ Only (fun _ => False) w w' := by
  have R := refRight_any (w := w.alloc (.cells f.cells.toArray 23)) f hs
  rw [hr] at R
  clear hs hr
  obtain ⟨e, a, k, s⟩ := f
  unfold Fr.val Fr.cells at R
  unfold Fr.val
  simp only at R ⊢
  have RR := Lib.hid R
  clear R
  go_enter Try.func20, Try.ntmps20
  go_wp2_with (go_at_call 51; refine RR.out.mono ?_; rintro e w1 ⟨rfl, ho⟩)
  go_ret2
  exact ⟨rfl, (Only.alloc _ _ _).trans ho⟩

set_option maxHeartbeats 2000000 in
theorem refLay_good (w : World) (f : Fr) (hr : f.right = true) :
    Calls Try.prog 20 #[f.val] w fun e w' => e = .returned (.tuple #[.string ⟨f.lay.toArray⟩, .int .i64 0]) ∧ Only (fun _ => False) w w' := by
  obtain ⟨h1, h2, h3, h4, h5, h6, h7⟩ := f.right_iff.1 hr
  have R := refRight_any (w := w.alloc (.cells f.cells.toArray 23)) f (by unfold maxLen; omega)
  rw [hr] at R
  have HR := Lib.hid hr
  obtain ⟨F, hF⟩ : ∃ F, F = f := ⟨_, rfl⟩
  have HF := Lib.hid hF
  clear hF hr
  obtain ⟨e, a, k, s⟩ := f
  unfold Fr.val Fr.cells at R
  unfold Fr.val
  simp only at R h1 h2 h3 h4 h5 h6 h7 ⊢
  rw [← HF.out] at HR ⊢
  obtain ⟨en, rfl⟩ := Int.eq_ofNat_of_zero_le (show 0 ≤ e by omega)
  obtain ⟨an, rfl⟩ := Int.eq_ofNat_of_zero_le h3
  obtain ⟨kn, rfl⟩ := Int.eq_ofNat_of_zero_le (show 0 ≤ k by omega)
  have hhead : F.head = be 3 en ++ be 1 an ++ be 1 kn ++ be 1 s.length ++ be 1 0 := by rw [HF.out]; rfl
  have B1 := Lib.hid fun w => bytes_any w en 3 (by omega) (by decide)
  have B2 := Lib.hid fun w => bytes_any w an 1 (by omega) (by decide)
  have B3 := Lib.hid fun w => bytes_any w kn 1 (by omega) (by decide)
  have B4 := Lib.hid fun w => bytes_any w s.length 1 (by omega) (by decide)
  have B5 := Lib.hid fun w => bytes_any w 0 1 (by omega) (by decide)
  have l1 := be_length 3 en
  have l2 := be_length 1 an
  have l3 := be_length 1 kn
  have l4 := be_length 1 s.length
  have l5 := be_length 1 0
  have hlh := F.head_length
  generalize be 3 en = s1 at hhead B1 l1
  generalize be 1 an = s2 at hhead B2 l2
  generalize be 1 kn = s3 at hhead B3 l3
  generalize be 1 s.length = s4 at hhead B4 l4
  have z1 := size_toArray s1
  have z2 := size_toArray s2
  have z3 := size_toArray s3
  have z4 := size_toArray s4
  have z5 := size_toArray (be 1 0)
  have A1 := append_list s1 s2
  have A2 := append_list (s1 ++ s2) s3
  have A3 := append_list (s1 ++ s2 ++ s3) s4
  have A4 := append_list (s1 ++ s2 ++ s3 ++ s4) (be 1 0)
  have A5 := append_list (s1 ++ s2 ++ s3 ++ s4 ++ be 1 0) s
  have y1 := size_toArray (s1 ++ s2)
  have y2 := size_toArray (s1 ++ s2 ++ s3)
  have y3 := size_toArray (s1 ++ s2 ++ s3 ++ s4)
  have y4 := size_toArray (s1 ++ s2 ++ s3 ++ s4 ++ be 1 0)
  rw [← hhead] at A4 A5 y4
  have m1 : (s1 ++ s2).length = 4 := by simp [l1, l2]
  have m2 : (s1 ++ s2 ++ s3).length = 5 := by simp [l1, l2, l3]
  have m3 : (s1 ++ s2 ++ s3 ++ s4).length = 6 := by simp [l1, l2, l3, l4]
  clear hhead
  generalize s1 ++ s2 ++ s3 ++ s4 = t3 at A3 A4 y3 m3
  generalize s1 ++ s2 ++ s3 = t2 at A2 A3 y2 m2
  generalize s1 ++ s2 = t1 at A1 A2 y1 m1
  have u1 : (be 1 0) = [0] := rfl
  rw [u1] at l5 z5 A4 B5
  obtain ⟨hd, hhd⟩ : ∃ hd, hd = F.head := ⟨_, rfl⟩
  rw [← hhd] at A4 A5 y4 hlh
  have HHD := Lib.hid hhd
  clear hhd u1
  obtain ⟨zero, hzero⟩ : ∃ z : List UInt8, z = [0] := ⟨_, rfl⟩
  rw [← hzero] at l5 z5 A4 B5
  have HZERO := Lib.hid hzero
  clear hzero
  obtain ⟨b0, hb0⟩ : ∃ b, b = hd ++ s := ⟨_, rfl⟩
  rw [← hb0] at A5
  have hb0l : b0.length = 7 + s.length := by rw [hb0, List.length_append, hlh]
  have HB0 := Lib.hid hb0
  have hcat : ¬ 9223372036854775807 < 7 + s.length := by omega
  clear hb0
  have RR := Lib.hid R
  have hz := size_toArray s
  clear R
  have HB := Lib.hid (heap_alloc_new w (.cells #[.int .i64 (en : Int), .int .i64 (an : Int), .int .i64 (kn : Int), .string ⟨s.toArray⟩] 23))
  go_enter Try.func20, Try.ntmps20
  go_upto_region 3 with (go_at_call 51; refine RR.out.mono ?_; rintro e w1 ⟨rfl, ho⟩; have hb := ho.keep HB.out id)
  have HO := Lib.hid ((Only.alloc w (.cells #[.int .i64 (en : Int), .int .i64 (an : Int), .int .i64 (kn : Int), .string ⟨s.toArray⟩] 23) (fun _ => False)).trans (ho.trans (Only.drew w1 _)))
  replace hb : w1.drew.heap[w.heap.size]? = some (.cells #[.int .i64 (en : Int), .int .i64 (an : Int), .int .i64 (kn : Int), .string ⟨s.toArray⟩] 23 (0, 0)) := hb
  clear ho
  refine wp_region_pick (fun W => W.heap[w.heap.size]? = some (.cells #[.int .i64 (en : Int), .int .i64 (an : Int), .int .i64 (kn : Int), .string ⟨s.toArray⟩] 23 (0, 0))) [(0, 0), (1, 1), (3, 0), (4, 1), (7, 0), (8, 1), (11, 0), (12, 1), (13, 0), (18, 0), (19, 1), (2, 2), (5, 2), (6, 0), (9, 2), (10, 0), (14, 2), (15, 0), (16, 2), (17, 0), (20, 0), (21, 0)] (by kernel_rfl) (by kernel_rfl) (fun _ _ d _ _ h => by cases d <;> exact h) hb ?_
  generalize w1.drew = w2 at hb HO ⊢
  simp only [pickOps, List.getElem?_cons_zero, List.getElem?_cons_succ]
  iterate 11 (first | (refine wpL_pure (a' := ?_) ?_ rfl (fun W => ?_) ?_ ?_; rotate_left 2; (· go_simp; first | (go_bits; with_reducible rfl) | with_reducible rfl); (· simp only [put_some, List.setIfInBounds_toArray, List.set_cons_zero, List.set_cons_succ]; rfl)) | (refine wpL_held (a' := ?_) ?_ rfl (fun W hW => ?_) ?_ ?_; rotate_left 2; (· have c0 := cell_at hW 0; have c1 := cell_at hW 1; have c2 := cell_at hW 2; have c3 := cell_at hW 3; go_simp; first | (go_bits; with_reducible rfl) | with_reducible rfl); (· simp only [put_some, List.setIfInBounds_toArray, List.set_cons_zero, List.set_cons_succ]; rfl)))
  refine wpL_stepCall (f := 52) (args := #[.int .i64 (en : Int), .int .i64 3]) rfl (by kernel_rfl) ((B1.out _).mono ?_)
  rintro ev wv ⟨rfl, ho⟩
  replace hb := ho.keep hb id
  replace HO := Lib.hid (HO.out.trans ho)
  clear ho
  refine ⟨_, rfl, hb, ?_⟩
  simp only [put_some, List.setIfInBounds_toArray, List.set_cons_zero, List.set_cons_succ]
  refine wpL_stepCall (f := 52) (args := #[.int .i64 (an : Int), .int .i64 1]) rfl (by kernel_rfl) ((B2.out _).mono ?_)
  rintro ev wv ⟨rfl, ho⟩
  replace hb := ho.keep hb id
  replace HO := Lib.hid (HO.out.trans ho)
  clear ho
  refine ⟨_, rfl, hb, ?_⟩
  simp only [put_some, List.setIfInBounds_toArray, List.set_cons_zero, List.set_cons_succ]
  (refine wpL_pure (a' := ?_) ?_ rfl (fun W => ?_) ?_ ?_; rotate_left 2; (· go_simp; first | (go_bits; with_reducible rfl) | with_reducible rfl); (· simp only [put_some, List.setIfInBounds_toArray, List.set_cons_zero, List.set_cons_succ]; rfl))
  refine wpL_stepCall (f := 52) (args := #[.int .i64 (kn : Int), .int .i64 1]) rfl (by kernel_rfl) ((B3.out _).mono ?_)
  rintro ev wv ⟨rfl, ho⟩
  replace hb := ho.keep hb id
  replace HO := Lib.hid (HO.out.trans ho)
  clear ho
  refine ⟨_, rfl, hb, ?_⟩
  simp only [put_some, List.setIfInBounds_toArray, List.set_cons_zero, List.set_cons_succ]
  (refine wpL_pure (a' := ?_) ?_ rfl (fun W => ?_) ?_ ?_; rotate_left 2; (· go_simp; first | (go_bits; with_reducible rfl) | with_reducible rfl); (· simp only [put_some, List.setIfInBounds_toArray, List.set_cons_zero, List.set_cons_succ]; rfl))
  refine wpL_stepCall (f := 52) (args := #[.int .i64 (s.length : Int), .int .i64 1]) rfl (by kernel_rfl) ((B4.out _).mono ?_)
  rintro ev wv ⟨rfl, ho⟩
  replace hb := ho.keep hb id
  replace HO := Lib.hid (HO.out.trans ho)
  clear ho
  refine ⟨_, rfl, hb, ?_⟩
  simp only [put_some, List.setIfInBounds_toArray, List.set_cons_zero, List.set_cons_succ]
  (refine wpL_pure (a' := ?_) ?_ rfl (fun W => ?_) ?_ ?_; rotate_left 2; (· go_simp; first | (go_bits; with_reducible rfl) | with_reducible rfl); (· simp only [put_some, List.setIfInBounds_toArray, List.set_cons_zero, List.set_cons_succ]; rfl))
  refine wpL_stepCall (f := 52) (args := #[.int .i64 0, .int .i64 1]) rfl (by kernel_rfl) ((B5.out _).mono ?_)
  rintro ev wv ⟨rfl, ho⟩
  replace hb := ho.keep hb id
  replace HO := Lib.hid (HO.out.trans ho)
  clear ho
  refine ⟨_, rfl, hb, ?_⟩
  simp only [put_some, List.setIfInBounds_toArray, List.set_cons_zero, List.set_cons_succ]
  (refine wpL_pure (a' := ?_) ?_ rfl (fun W => ?_) ?_ ?_; rotate_left 2; (· go_simp; first | (go_bits; with_reducible rfl) | with_reducible rfl); (· simp only [put_some, List.setIfInBounds_toArray, List.set_cons_zero, List.set_cons_succ]; rfl))
  (refine wpL_pure (a' := ?_) ?_ rfl (fun W => ?_) ?_ ?_; rotate_left 2; (· go_simp; first | (go_bits; with_reducible rfl) | with_reducible rfl); (· simp only [put_some, List.setIfInBounds_toArray, List.set_cons_zero, List.set_cons_succ]; rfl))
  (refine wpL_pure (a' := ?_) ?_ rfl (fun W => ?_) ?_ ?_; rotate_left 2; (· go_simp; first | (go_bits; with_reducible rfl) | with_reducible rfl); (· simp only [put_some, List.setIfInBounds_toArray, List.set_cons_zero, List.set_cons_succ]; rfl))
  refine wpL_nil ?_
  clear hb A1 A2 A3 A4 A5 hcat
  go_wp2_with fail
  go_loopw [4] (fun o wr => ∃ k : Nat, k ≤ 53 - s.length ∧ o = .string ⟨(b0 ++ List.replicate k 0).toArray⟩ ∧ Only (fun _ => False) w wr) (fun o _ => match o with | .string t => 60 - t.size | _ => 0)
  case atStart => exact ⟨0, by omega, by simp, HO.out⟩
  case round =>
    obtain ⟨k, hk, rfl, hor⟩ := hrel
    have hpl : (b0 ++ List.replicate k 0).length = 7 + s.length + k := by rw [List.length_append, List.length_replicate, hb0l]
    have hps := size_toArray (b0 ++ List.replicate k 0)
    have happ := append_list (b0 ++ List.replicate k 0) zero
    have HK := Lib.hid (show b0 ++ List.replicate k 0 ++ zero = b0 ++ List.replicate (k + 1) 0 by rw [HZERO.out, List.append_assoc, ← List.replicate_succ'])
    rw [HK.out] at happ
    have hpl1 : (b0 ++ List.replicate (k + 1) 0).length = 7 + s.length + k + 1 := by rw [List.length_append, List.length_replicate, hb0l]; omega
    by_cases hlt : k < 53 - s.length
    · have hq : ((7 + s.length + k : Nat) : Int) < 60 := by omega
      have hcat : ¬ 9223372036854775807 < 7 + s.length + k + 1 := by omega
      obtain ⟨o, ho⟩ : ∃ o, o = b0 ++ List.replicate k 0 := ⟨_, rfl⟩
      obtain ⟨o1, ho1⟩ : ∃ o, o = b0 ++ List.replicate (k + 1) 0 := ⟨_, rfl⟩
      rw [← ho] at hpl hps happ ⊢
      rw [← ho1] at happ hpl1
      have HO1 := Lib.hid ho1
      clear ho ho1 HK
      go_wp2_with (go_at_call 52; refine (B5.out _).mono ?_; rintro ev wv ⟨rfl, hov⟩)
      go_roundw
      case rel =>
        refine ⟨k + 1, by omega, by rw [HO1.out], hor.trans hov⟩
      case measure => simp [size_toArray]; omega
    · obtain rfl : k = 53 - s.length := by omega
      have hbody : b0 ++ List.replicate (53 - s.length) 0 = F.body := by rw [HB0.out, HHD.out, HF.out]; rfl
      have hbl := Fr.body_length HR.out
      have hlay : F.lay = F.body ++ be 4 (sum F.body) := rfl
      have hsl := sum_lt F.body
      rw [hbody] at hps ⊢
      clear happ hpl hpl1 HK hlt hbody
      have SM := Lib.hid fun w => refSum_any F.body w (by unfold maxLen; omega)
      have BY := Lib.hid fun w => bytes_any w (sum F.body) 4 (by omega) (by decide)
      have hb4 := be_length 4 (sum F.body)
      have hz4 := size_toArray (be 4 (sum F.body))
      have happ := append_list F.body (be 4 (sum F.body))
      rw [← hlay] at happ
      clear hlay hsl
      have hll := Fr.lay_length HR.out
      generalize F.body = body at hps SM BY hb4 hz4 happ hbl ⊢
      obtain ⟨lay, hlay⟩ : ∃ x, x = F.lay := ⟨_, rfl⟩
      rw [← hlay] at happ hll
      have HLAY := Lib.hid hlay
      clear hlay
      generalize be 4 (sum body) = q at BY hb4 hz4 happ
      generalize sum body = n at SM BY
      go_wp2_with (first | (go_at_call 53; refine (SM.out _).mono ?_; rintro ev wv ⟨rfl, rfl⟩) | (go_at_call 52; refine (BY.out _).mono ?_; rintro ev wv ⟨rfl, hov⟩))
      go_ret2
      exact ⟨by rw [← HLAY.out]; rfl, hor.trans hov⟩
end Go.Proofs.Ytlgefjcfnnjkbaa
