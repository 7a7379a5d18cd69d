/- The reference's Read. No conditions. -/
import Derived.Test.YtlgefjcfnnjkbaaFrame6
namespace Go.Proofs.Ytlgefjcfnnjkbaa
open Go.RowKit

set_option maxHeartbeats 1000000 in
theorem refRead_badLen (w : World) (l : List UInt8) (hl : l.length ≤ maxLen) (h64 : l.length ≠ 64) :
    Calls Try.prog 54 #[.string ⟨l.toArray⟩] w fun e w' => e = .returned (.tuple #[Fr.zero.val, .int .i64 120]) ∧ Only (fun _ => False) w w' := by
  have hz := size_toArray l
  have h1 : ((l.length : Int) == 64) = false := by simp; omega
  have h2 : ((l.length : Int) != 64) = true := by simp; omega
  unfold maxLen at hl
  go_enter Try.func54, Try.ntmps54
  go_wp2
  refine bodyPost_ret (results_cell_tmp rfl _ _ w.heap.size 23 #[.int .i64 0, .int .i64 0, .int .i64 0, .string ⟨#[]⟩] (0, 0) _ rfl ?_ Try.underlying23 rfl Try.size23) rfl ?_
  · exact heap_alloc_new _ _
  exact ⟨rfl, Only.alloc _ _ _⟩

set_option maxHeartbeats 1000000 in
theorem refRead_badSize (w : World) (l : List UInt8) (h64 : l.length = 64) (h5 : 53 < (l.getD 5 0).toNat) :
    Calls Try.prog 54 #[.string ⟨l.toArray⟩] w fun e w' => e = .returned (.tuple #[Fr.zero.val, .int .i64 120]) ∧ Only (fun _ => False) w w' := by
  have hz := size_toArray l
  have hx5 := byte_at l 5 (by rw [hz]; omega)
  have hb5 := (l.getD 5 0).toNat_lt
  generalize l.getD 5 0 = b5 at hx5 hb5 h5
  go_enter Try.func54, Try.ntmps54
  go_wp2
  refine bodyPost_ret (results_cell_tmp rfl _ _ w.heap.size 23 #[.int .i64 0, .int .i64 0, .int .i64 0, .string ⟨#[]⟩] (0, 0) _ rfl ?_ Try.underlying23 rfl Try.size23) rfl ?_
  · exact heap_alloc_new _ _
  exact ⟨rfl, Only.alloc _ _ _⟩

set_option maxHeartbeats 1000000 in
theorem refRead_shape (w : World) (l : List UInt8) (h64 : l.length = 64) (h5 : (l.getD 5 0).toNat ≤ 53) :
    Calls Try.prog 54 #[.string ⟨l.toArray⟩] w fun e w' => e = .returned (readV l) ∧ Only (fun _ => False) w w' := by
  have H5 := Lib.hid h5
  have hz := size_toArray l
  have hx0 := byte_at l 0 (by rw [hz]; omega)
  have hx1 := byte_at l 1 (by rw [hz]; omega)
  have hx2 := byte_at l 2 (by rw [hz]; omega)
  have hx3 := byte_at l 3 (by rw [hz]; omega)
  have hx4 := byte_at l 4 (by rw [hz]; omega)
  have hx5 := byte_at l 5 (by rw [hz]; omega)
  have hb0 := (l.getD 0 0).toNat_lt
  have hb1 := (l.getD 1 0).toNat_lt
  have hb2 := (l.getD 2 0).toNat_lt
  have hb3 := (l.getD 3 0).toNat_lt
  have hb4 := (l.getD 4 0).toNat_lt
  have hb5 := (l.getD 5 0).toNat_lt
  have hex := extract_list l 7 (7 + (l.getD 5 0).toNat)
  rw [show (l.take (7 + (l.getD 5 0).toNat)).drop 7 = (l.drop 7).take (l.getD 5 0).toNat from by rw [List.drop_take, Nat.add_sub_cancel_left]] at hex
  have q1 : 0 ≤ 7 + ((l.getD 5 0).toNat : Int) := by omega
  have q2 : 7 + ((l.getD 5 0).toNat : Int) ≤ 64 := by omega
  have q3 : 7 ≤ 7 + ((l.getD 5 0).toNat : Int) := by omega
  have q4 : (7 + ((l.getD 5 0).toNat : Int)).toNat = 7 + (l.getD 5 0).toNat := by omega
  have HOF : Hid (Fr.of l = { e := (((l.getD 0 0).toNat * 65536 + (l.getD 1 0).toNat * 256 + (l.getD 2 0).toNat : Nat) : Int), a := (l.getD 3 0).toNat, k := (l.getD 4 0).toNat, s := (l.drop 7).take (l.getD 5 0).toNat }) := of_eq l h64
  generalize l.getD 0 0 = b0 at hx0 hb0 HOF
  generalize l.getD 1 0 = b1 at hx1 hb1 HOF
  generalize l.getD 2 0 = b2 at hx2 hb2 HOF
  generalize l.getD 3 0 = b3 at hx3 hb3 HOF
  generalize l.getD 4 0 = b4 at hx4 hb4 HOF
  generalize l.getD 5 0 = b5 at hx5 hb5 h5 hex q1 q2 q3 q4 HOF
  go_enter Try.func54, Try.ntmps54
  go_upto_region 3 with fail
  refine wp_region_pick (fun W => True) [(0, 0), (1, 0), (2, 0), (3, 0), (4, 0), (5, 0), (6, 0), (7, 0), (8, 0), (9, 0), (10, 0), (11, 0), (12, 0), (13, 0), (14, 0), (15, 0), (16, 0), (17, 0), (18, 0), (19, 0), (20, 0), (21, 0), (22, 0), (23, 0), (24, 0), (25, 0), (26, 2), (27, 3)] (by kernel_rfl) (by kernel_rfl) (fun _ _ d _ _ h => by cases d <;> exact h) trivial ?_
  simp only [pickOps, List.getElem?_cons_zero, List.getElem?_cons_succ]
  iterate 25 (refine wpL_pure (a' := ?_) ?_ rfl (fun W => ?_) ?_ ?_; rotate_left 2; (· go_simp; first | (go_bits; with_reducible rfl) | with_reducible rfl); (· simp only [put_some, List.setIfInBounds_toArray, List.set_cons_zero, List.set_cons_succ]; rfl))
  rw [show (b0.toNat : Int) * 65536 + (b1.toNat : Int) * 256 + (b2.toNat : Int) = ((b0.toNat * 65536 + b1.toNat * 256 + b2.toNat : Nat) : Int) by omega]
  obtain ⟨f, hf⟩ : ∃ f, f = Fr.of l := ⟨_, rfl⟩
  rw [← hf] at HOF
  obtain ⟨en, hen⟩ : ∃ en, en = b0.toNat * 65536 + b1.toNat * 256 + b2.toNat := ⟨_, rfl⟩
  have henl : en < 16777216 := by omega
  rw [← hen] at HOF ⊢
  obtain ⟨fs, hfs⟩ : ∃ fs, fs = (l.drop 7).take b5.toNat := ⟨_, rfl⟩
  rw [← hfs] at HOF ⊢
  have hfl : fs.length ≤ 53 := by rw [hfs, List.length_take]; omega
  clear hx0 hx1 hx2 hx3 hx4 hx5 hex q1 q2 q3 q4 hen hfs
  refine wpL_pure (a' := ?_) (.agg #[.int .i64 (en : Int), .int .i64 (b3.toNat : Int), .int .i64 (b4.toNat : Int), .string ⟨fs.toArray⟩]) rfl (fun W => exec_buildN rfl (parts := #[(0, .int .i64 (en : Int)), (1, .int .i64 (b3.toNat : Int)), (2, .int .i64 (b4.toNat : Int)), (3, .string ⟨fs.toArray⟩)]) (by simp only [List.map_toArray, List.map_cons, List.map_nil]; go_simp) (Try.build23 _ _ _ _ W)) ?_ ?_
  rotate_left
  · simp only [put_some, List.setIfInBounds_toArray, List.set_cons_zero, List.set_cons_succ]; rfl
  have hz0 := heap_alloc_new w (.cells #[.int .i64 0, .int .i64 0, .int .i64 0, .string ⟨#[]⟩] 23)
  have hzo := (Only.alloc w (.cells #[.int .i64 0, .int .i64 0, .int .i64 0, .string ⟨#[]⟩] 23) (fun _ => False)).trans (Only.drew _ _)
  replace hz0 : (w.alloc (.cells #[.int .i64 0, .int .i64 0, .int .i64 0, .string ⟨#[]⟩] 23)).drew.heap[w.heap.size]? = _ := hz0
  generalize (w.alloc (.cells #[.int .i64 0, .int .i64 0, .int .i64 0, .string ⟨#[]⟩] 23)).drew = wa at hz0 hzo ⊢
  refine wpL_stepRun (a' := ?_) (w' := wa.alloc (.cells #[.int .i64 0, .int .i64 0, .int .i64 0, .string ⟨#[]⟩] 23)) (.pointer (some ⟨wa.heap.size, 0, none⟩)) rfl (exec_alloc rfl (Try.alloc23 wa)) trivial ?_ ?_
  rotate_left
  · simp only [put_some, List.setIfInBounds_toArray, List.set_cons_zero, List.set_cons_succ]; rfl
  refine wpL_lastDone (a' := ?_) (w' := (wa.alloc (.cells #[.int .i64 0, .int .i64 0, .int .i64 0, .string ⟨#[]⟩] 23)).setRow wa.heap.size #[.int .i64 (en : Int), .int .i64 (b3.toNat : Int), .int .i64 (b4.toNat : Int), .string ⟨fs.toArray⟩]) rfl (exec_store rfl (p := .pointer (some ⟨wa.heap.size, 0, none⟩)) (v := .agg #[.int .i64 (en : Int), .int .i64 (b3.toNat : Int), .int .i64 (b4.toNat : Int), .string ⟨fs.toArray⟩]) rfl rfl (run_store_part _ wa.heap.size 0 4 23 23 _ [.int .i64 (en : Int), .int .i64 (b3.toNat : Int), .int .i64 (b4.toNat : Int), .string ⟨fs.toArray⟩] Try.size23 rfl (heap_alloc_new _ _) (by simp) (by simp [Value.oneCell']))) ?_ ?_
  rotate_left
  · simp only [put_none, List.setIfInBounds_toArray, List.set_cons_zero, List.set_cons_succ]; rfl
  refine wpL_nil ?_
  have hg1 := setRow_heap _ wa.heap.size _ #[.int .i64 (en : Int), .int .i64 (b3.toNat : Int), .int .i64 (b4.toNat : Int), .string ⟨fs.toArray⟩] _ _ (heap_alloc_new wa (.cells #[.int .i64 0, .int .i64 0, .int .i64 0, .string ⟨#[]⟩] 23))
  have hg0 := (Only.setRow (wa.alloc (.cells #[.int .i64 0, .int .i64 0, .int .i64 0, .string ⟨#[]⟩] 23)) wa.heap.size #[.int .i64 (en : Int), .int .i64 (b3.toNat : Int), .int .i64 (b4.toNat : Int), .string ⟨fs.toArray⟩] (S := fun x => x = wa.heap.size) rfl).keep ((Only.alloc wa (.cells #[.int .i64 0, .int .i64 0, .int .i64 0, .string ⟨#[]⟩] 23) (fun _ => False)).keep hz0 id) (by have := lt_of_block hz0; omega)
  have hgo := (hzo.trans (Only.alloc wa (.cells #[.int .i64 0, .int .i64 0, .int .i64 0, .string ⟨#[]⟩] 23) _)).trans' (Only.setRow _ wa.heap.size #[.int .i64 (en : Int), .int .i64 (b3.toNat : Int), .int .i64 (b4.toNat : Int), .string ⟨fs.toArray⟩] (S := fun x => x = wa.heap.size) rfl) (fun y hy e => by have := lt_of_block hz0; omega)
  have hwl := lt_of_block hz0
  generalize (wa.alloc (.cells #[.int .i64 0, .int .i64 0, .int .i64 0, .string ⟨#[]⟩] 23)).setRow wa.heap.size #[.int .i64 (en : Int), .int .i64 (b3.toNat : Int), .int .i64 (b4.toNat : Int), .string ⟨fs.toArray⟩] = wb at hg1 hg0 hgo ⊢
  generalize wa.heap.size = g1 at hg1 hwl ⊢
  have hfv : f.val = .agg #[.int .i64 (en : Int), .int .i64 (b3.toNat : Int), .int .i64 (b4.toNat : Int), .string ⟨fs.toArray⟩] := by rw [HOF.out]; rfl
  have HG1 := Lib.hid hg1
  have HG0 := Lib.hid hg0
  have HGO := Lib.hid hgo
  clear hg1 hg0 hgo hz0 hzo
  have hlz := size_toArray f.lay
  rcases Bool.eq_false_or_eq_true f.right with hr | hr
  · have LG := refLay_good wb f hr
    have hfl64 := Fr.lay_length hr
    rw [hfv] at LG
    by_cases hll : f.lay = l
    · have hrv : readV l = .tuple #[f.val, .int .i64 0] := by
        unfold readV readF
        rw [if_pos ⟨h64, H5.out, by rw [← hf]; exact hr, by rw [← hf]; exact hll⟩, ← hf]
      rw [hll] at LG
      have LL := Lib.hid LG
      have HF := Lib.hid hfv
      have HR := Lib.hid hrv
      clear LG hfv hrv hll hr hf
      go_wp2_with (first
        | ((with_reducible refine wpList_load_block g1 23 [.int .i64 (en : Int), .int .i64 (b3.toNat : Int), .int .i64 (b4.toNat : Int), .string ⟨fs.toArray⟩] ?_ ?_ ?_ ?_ ?_); (· exact ⟨_, Try.underlying23, rfl⟩); (· exact Try.size23); (· exact HG1.out); (· rfl))
        | (go_at_call 20; refine LL.out.mono ?_; rintro e w3 ⟨rfl, ho3⟩; have hk1 := ho3.keep HG1.out id; have hk0 := ho3.keep HG0.out id; have hko := HGO.out.trans ho3)
        | ((with_reducible refine wpList_load_block g1 23 [.int .i64 (en : Int), .int .i64 (b3.toNat : Int), .int .i64 (b4.toNat : Int), .string ⟨fs.toArray⟩] ?_ ?_ ?_ ?_ ?_); (· exact ⟨_, Try.underlying23, rfl⟩); (· exact Try.size23); (· exact hk1); (· rfl))
        | ((with_reducible refine wpList_store_block w.heap.size 23 [.int .i64 (en : Int), .int .i64 (b3.toNat : Int), .int .i64 (b4.toNat : Int), .string ⟨fs.toArray⟩] [.int .i64 0, .int .i64 0, .int .i64 0, .string ⟨#[]⟩] ?_ ?_ ?_ ?_ ?_ ?_ ?_); (· exact Try.size23); (· exact hk0); (· rfl); (· simp [Value.oneCell']); (· rfl); (· rfl)))
      refine bodyPost_ret (results_cell_tmp rfl _ _ w.heap.size 23 #[.int .i64 (en : Int), .int .i64 (b3.toNat : Int), .int .i64 (b4.toNat : Int), .string ⟨fs.toArray⟩] (0, 0) _ rfl ?_ Try.underlying23 rfl Try.size23) rfl ?_
      · exact setRow_heap _ _ _ _ _ _ hk0
      exact ⟨by rw [HR.out, HF.out]; rfl, hko.trans' (Only.setRow _ _ _ (S := fun x => x = w.heap.size) rfl) (fun y hy e => by omega)⟩
    · have hrv : readV l = .tuple #[Fr.zero.val, .int .i64 120] := by
        unfold readV readF
        rw [if_neg (by rw [← hf]; exact fun c => hll c.2.2.2)]
      have LL := Lib.hid LG
      have HR := Lib.hid hrv
      have hq : (f.lay == l) = false := by simp [hll]
      have hq2 : (!f.lay == l) = true := by rw [hq]; rfl
      clear LG hfv hrv hr hf hll
      go_wp2_with (first
        | ((with_reducible refine wpList_load_block g1 23 [.int .i64 (en : Int), .int .i64 (b3.toNat : Int), .int .i64 (b4.toNat : Int), .string ⟨fs.toArray⟩] ?_ ?_ ?_ ?_ ?_); (· exact ⟨_, Try.underlying23, rfl⟩); (· exact Try.size23); (· exact HG1.out); (· rfl))
        | (go_at_call 20; refine LL.out.mono ?_; rintro e w3 ⟨rfl, ho3⟩; have hk0 := ho3.keep HG0.out id; have hko := HGO.out.trans ho3)
        | ((with_reducible refine wpList_store_block w.heap.size 23 [.int .i64 0, .int .i64 0, .int .i64 0, .string ⟨#[]⟩] [.int .i64 0, .int .i64 0, .int .i64 0, .string ⟨#[]⟩] ?_ ?_ ?_ ?_ ?_ ?_ ?_); (· exact Try.size23); (· exact hk0); (· rfl); (· simp [Value.oneCell']); (· rfl); (· rfl)))
      refine bodyPost_ret (results_cell_tmp rfl _ _ w.heap.size 23 #[.int .i64 0, .int .i64 0, .int .i64 0, .string ⟨#[]⟩] (0, 0) _ rfl ?_ Try.underlying23 rfl Try.size23) rfl ?_
      · exact setRow_heap _ _ _ _ _ _ hk0
      exact ⟨by rw [HR.out]; rfl, hko.trans' (Only.setRow _ _ _ (S := fun x => x = w.heap.size) rfl) (fun y hy e => by omega)⟩
  · have LG := refLay_bad wb f (by rw [HOF.out]; unfold maxLen; simp only; omega) hr
    rw [hfv] at LG
    have hrv : readV l = .tuple #[Fr.zero.val, .int .i64 120] := by
      unfold readV readF
      rw [if_neg (by rw [← hf]; exact fun c => by rw [hr] at c; exact absurd c.2.2.1 (by decide))]
    have LL := Lib.hid LG
    have HR := Lib.hid hrv
    clear LG hfv hrv hr hf
    go_wp2_with (first
      | ((with_reducible refine wpList_load_block g1 23 [.int .i64 (en : Int), .int .i64 (b3.toNat : Int), .int .i64 (b4.toNat : Int), .string ⟨fs.toArray⟩] ?_ ?_ ?_ ?_ ?_); (· exact ⟨_, Try.underlying23, rfl⟩); (· exact Try.size23); (· exact HG1.out); (· rfl))
      | (go_at_call 20; refine LL.out.mono ?_; rintro e w3 ⟨rfl, ho3⟩; have hk0 := ho3.keep HG0.out id; have hko := HGO.out.trans ho3)
      | ((with_reducible refine wpList_store_block w.heap.size 23 [.int .i64 0, .int .i64 0, .int .i64 0, .string ⟨#[]⟩] [.int .i64 0, .int .i64 0, .int .i64 0, .string ⟨#[]⟩] ?_ ?_ ?_ ?_ ?_ ?_ ?_); (· exact Try.size23); (· exact hk0); (· rfl); (· simp [Value.oneCell']); (· rfl); (· rfl)))
    refine bodyPost_ret (results_cell_tmp rfl _ _ w.heap.size 23 #[.int .i64 0, .int .i64 0, .int .i64 0, .string ⟨#[]⟩] (0, 0) _ rfl ?_ Try.underlying23 rfl Try.size23) rfl ?_
    · exact setRow_heap _ _ _ _ _ _ hk0
    exact ⟨by rw [HR.out]; rfl, hko.trans' (Only.setRow _ _ _ (S := fun x => x = w.heap.size) rfl) (fun y hy e => by omega)⟩

theorem refRead_any (w : World) (l : List UInt8) (hl : l.length ≤ maxLen) :
    Calls Try.prog 54 #[.string ⟨l.toArray⟩] w fun e w' => e = .returned (readV l) ∧ Only (fun _ => False) w w' := by
  by_cases h64 : l.length = 64
  · by_cases h5 : (l.getD 5 0).toNat ≤ 53
    · exact refRead_shape w l h64 h5
    · have e : readV l = .tuple #[Fr.zero.val, .int .i64 120] := by
        unfold readV readF
        rw [if_neg (fun c => h5 c.2.1)]
      rw [e]
      exact refRead_badSize w l h64 (by omega)
  · have e : readV l = .tuple #[Fr.zero.val, .int .i64 120] := by
      unfold readV readF
      rw [if_neg (fun c => h64 c.1)]
    rw [e]
    exact refRead_badLen w l hl h64
end Go.Proofs.Ytlgefjcfnnjkbaa
