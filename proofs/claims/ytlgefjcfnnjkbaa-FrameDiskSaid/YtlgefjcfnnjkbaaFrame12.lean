/- The reference's Cut. No conditions. -/
import Derived.Test.YtlgefjcfnnjkbaaFrame11
import Derived.Test.YtlgefjcfnnjkbaaApp
namespace Go.Proofs.Ytlgefjcfnnjkbaa
open Go.RowKit

def cutTo (e a : Int) (s : List UInt8) (k : Nat) : List Fr := (List.range k).map (cutL e a s (need s.length))
theorem cutTo_succ (e a : Int) (s : List UInt8) (k : Nat) : cutTo e a s (k + 1) = cutTo e a s k ++ [cutL e a s (need s.length) k] := by simp [cutTo, List.range_succ]
theorem cells_one (f : Fr) : ∀ v ∈ f.cells, v.oneCell' = true := by simp [Fr.cells, Value.oneCell']

theorem frs_one (f : Fr) : frs [f] = f.cells := by simp [frs]

set_option maxHeartbeats 1000000 in
theorem refCut_bad (w : World) (e a : Int) (s : List UInt8) (we : I64 e) (wa : I64 a) (hs : s.length ≤ maxLen) (hbad : ¬ (1 ≤ e ∧ e ≤ 16777215 ∧ 0 ≤ a ∧ a ≤ 64 - (need s.length : Int))) :
    Calls Try.prog 28 #[.int .i64 e, .int .i64 a, .string ⟨s.toArray⟩] w fun e w' => e = .returned (.tuple #[.slice none 0 0, .int .i64 2]) ∧ w = w' := by
  have hz := size_toArray s
  unfold maxLen at hs
  have N := Lib.hid (refNeed_any w s.length (by omega))
  have hni : needI s.length = (need s.length : Nat) := by simp [needI]; omega
  rw [hni] at N
  have hb := need_le s.length
  have hp := need_pos s.length
  generalize need s.length = n at N hb hp hbad
  obtain ⟨we1, we2⟩ := we
  obtain ⟨wa1, wa2⟩ := wa
  have key : ∀ (c : Prop), (c ∨ ¬ c) := Classical.em
  by_cases c1 : 1 ≤ e
  · by_cases c2 : e ≤ 16777215
    · by_cases c3 : 0 ≤ a
      · by_cases c5 : a ≤ 64
        · have c4 : 64 - a < (n : Int) := by omega
          clear hbad key
          go_enter Try.func28, Try.ntmps28
          go_wp2_with (go_at_call 26; refine N.out.mono ?_; rintro e w1 ⟨rfl, rfl⟩)
          go_ret2
          exact ⟨rfl, rfl⟩
        · have c4 : 64 < a := by omega
          clear hbad key
          go_enter Try.func28, Try.ntmps28
          go_wp2_with (go_at_call 26; refine N.out.mono ?_; rintro e w1 ⟨rfl, rfl⟩)
          go_ret2
          exact ⟨rfl, rfl⟩
      · have c4 : a < 0 := by omega
        clear hbad key
        go_enter Try.func28, Try.ntmps28
        go_wp2_with (go_at_call 26; refine N.out.mono ?_; rintro e w1 ⟨rfl, rfl⟩)
        go_ret2
        exact ⟨rfl, rfl⟩
    · have c4 : 16777215 < e := by omega
      clear hbad key
      go_enter Try.func28, Try.ntmps28
      go_wp2_with (go_at_call 26; refine N.out.mono ?_; rintro e w1 ⟨rfl, rfl⟩)
      go_ret2
      exact ⟨rfl, rfl⟩
  · have c4 : e < 1 := by omega
    clear hbad key
    go_enter Try.func28, Try.ntmps28
    go_wp2_with (go_at_call 26; refine N.out.mono ?_; rintro e w1 ⟨rfl, rfl⟩)
    go_ret2
    exact ⟨rfl, rfl⟩

set_option maxRecDepth 100000 in
set_option maxHeartbeats 2000000 in
theorem refCut_ok (w : World) (e a : Int) (s : List UInt8) (hs : s.length ≤ maxLen) (c1 : 1 ≤ e) (c2 : e ≤ 16777215) (c3 : 0 ≤ a) (c4 : a ≤ 64 - (need s.length : Int)) :
    Calls Try.prog 28 #[.int .i64 e, .int .i64 a, .string ⟨s.toArray⟩] w fun x w' => ∃ v, x = .returned (.tuple #[v, .int .i64 0]) ∧
      w'.ownsRow w.heap.size 23 4 v (need s.length) (frs (cutF e a s)) ∧ Only (fun _ => False) w w' := by
  have hz := size_toArray s
  unfold maxLen at hs
  have N := Lib.hid (refNeed_any w s.length (by omega))
  have hni : needI s.length = (need s.length : Nat) := by simp [needI]; omega
  rw [hni] at N
  have hb := need_le s.length
  have hp := need_pos s.length
  have HSUCC := Lib.hid (cutTo_succ e a s)
  have HALL : Hid (cutF e a s = cutTo e a s (need s.length)) := Lib.hid rfl
  obtain ⟨hb1, hb2⟩ := hb
  obtain ⟨n, hn⟩ : ∃ n, n = need s.length := ⟨_, rfl⟩
  rw [← hn] at N hb1 hb2 hp c4 HSUCC HALL ⊢
  have HN := Lib.hid hn
  clear hn hni
  have hn64 : n ≤ 64 := by omega
  have c5 : a ≤ 64 := by omega
  have c6 : (n : Int) ≤ 64 - a := by omega
  go_enter Try.func28, Try.ntmps28
  go_wp2_with (go_at_call 26; refine N.out.mono ?_; rintro e w1 ⟨rfl, rfl⟩)
  go_loopw [9, 10] (fun v i wr => ∃ k : Nat, k ≤ n ∧ i = .int .i64 k ∧ wr.ownsRow w.heap.size 23 4 v k (frs (cutTo e a s k)) ∧ Only (fun _ => False) w wr) (fun v i _ => n - (intOf i).toNat)
  case atStart => exact ⟨0, by omega, rfl, World.ownsRow_nil _ _ _ _, Only.refl _ _⟩
  case round =>
    obtain ⟨k, hk, rfl, hrow, hor⟩ := hrel
    have HROW := Lib.hid hrow
    clear hrow
    by_cases hlt : k < n
    · have hk1 : k * 53 ≤ s.length := Nat.le_trans (Nat.mul_le_mul_right _ (by omega)) hb1
      have HCL : Hid (cutL e a s n k = { e := e, a := a + k, k := if k + 1 = n then 3 else 2, s := (s.drop (k * 53)).take 53 }) := Lib.hid rfl
      obtain ⟨fr, hfr⟩ : ∃ fr, fr = cutL e a s n k := ⟨_, rfl⟩
      have HS1 := Lib.hid (HSUCC.out k)
      rw [← hfr] at HCL HS1
      clear hfr
      by_cases hk2 : k + 1 < n
      · have hle : (k + 1) * 53 ≤ s.length := Nat.le_trans (Nat.mul_le_mul_right _ (by omega)) hb1
        have hleI : ((k : Int) + 1) * 53 ≤ (s.length : Int) := by omega
        have hnk : ¬ ((k : Int) + 1 = (n : Int)) := by omega
        have hex := extract_list s (k * 53) ((k + 1) * 53)
        rw [List.drop_take, show (k + 1) * 53 - k * 53 = 53 by omega] at hex
        have HFR : Hid (fr = { e := e, a := a + k, k := 2, s := (s.drop (k * 53)).take 53 }) := Lib.hid (by rw [HCL.out, if_neg (by omega)])
        generalize (s.drop (k * 53)).take 53 = pc at hex HFR
        go_upto_region 11 with fail
        have hcells : #[Value.int .i64 e, .int .i64 (a + k), .int .i64 2, .string ⟨pc.toArray⟩] = fr.cells.toArray := by rw [HFR.out]; rfl
        rw [hcells]
        have hb11 := heap_alloc_new wr (.cells fr.cells.toArray 23)
        have ho11 := hor.trans (Only.alloc wr (.cells fr.cells.toArray 23) _)
        have hr11 := HROW.out.alloc (.cells fr.cells.toArray 23)
        generalize wr.alloc (.cells fr.cells.toArray 23) = wm at hb11 ho11 hr11 ⊢
        obtain ⟨v', w5, hrun, hown5, ho5⟩ := append_one_row (P := Try.prog) wm w.heap.size 35 35 23 _ 4 40 Try.underlying35 Try.info23 rfl (by decide) _ k _ hr11 fr.cells rfl (cells_one fr) (by omega) (by decide) ho11.size
        have HRUN := Lib.hid hrun
        have HO5 := Lib.hid (ho11.trans' ho5 (fun y hy e => row_own_new hr11 hy e))
        have HOWN5 : Hid (w5.ownsRow w.heap.size 23 4 v' (k + 1) (frs (cutTo e a s (k + 1)))) := Lib.hid (by rw [HS1.out, frs_append, frs_one]; exact hown5)
        have HB11 := Lib.hid hb11
        clear hrun hown5 ho5 hr11 hb11 hcells hex
        go_wp2_with (first
          | ((with_reducible refine wpList_load_block wr.heap.size 23 fr.cells ?_ ?_ ?_ ?_ ?_); (· exact ⟨_, Try.underlying23, rfl⟩); (· exact Try.size23); (· exact HB11.out); (· rfl))
          | ((with_reducible refine wpList_buildSlice_agg 23 (.agg #[.int .i64 0, .int .i64 0, .int .i64 0, .string ⟨#[]⟩]) (.agg fr.cells.toArray) fr.cells.toArray 4 40 ?_ ?_ ?_ ?_ ?_ ?_ ?_ ?_); (· rfl); (· rfl); (· decide); (· decide); (· exact Try.underlying35); (· exact Try.info23); (· rfl))
          | ((with_reducible refine wpList_append_run u9 (.slice (some ⟨wm.heap.size, 0, none⟩) 1 1) v' HRUN.out ?_ ?_ ?_); (· rfl); (· rfl)))
        go_roundw
        case rel => exact ⟨k + 1, by omega, by go_num, HOWN5.out, HO5.out⟩
        case measure => simp [intOf] <;> omega
      · obtain rfl : n = k + 1 := by omega
        by_cases hk3 : (k + 1) * 53 ≤ s.length
        · have hleI : ((k : Int) + 1) * 53 ≤ (s.length : Int) := by omega
          have hex := extract_list s (k * 53) ((k + 1) * 53)
          rw [List.drop_take, show (k + 1) * 53 - k * 53 = 53 by omega] at hex
          have HFR : Hid (fr = { e := e, a := a + k, k := 3, s := (s.drop (k * 53)).take 53 }) := Lib.hid (by rw [HCL.out, if_pos rfl])
          generalize (s.drop (k * 53)).take 53 = pc at hex HFR
          go_upto_region 11 with fail
          have hcells : #[Value.int .i64 e, .int .i64 (a + k), .int .i64 3, .string ⟨pc.toArray⟩] = fr.cells.toArray := by rw [HFR.out]; rfl
          rw [hcells]
          have hb11 := heap_alloc_new wr (.cells fr.cells.toArray 23)
          have ho11 := hor.trans (Only.alloc wr (.cells fr.cells.toArray 23) _)
          have hr11 := HROW.out.alloc (.cells fr.cells.toArray 23)
          generalize wr.alloc (.cells fr.cells.toArray 23) = wm at hb11 ho11 hr11 ⊢
          obtain ⟨v', w5, hrun, hown5, ho5⟩ := append_one_row (P := Try.prog) wm w.heap.size 35 35 23 _ 4 40 Try.underlying35 Try.info23 rfl (by decide) _ k _ hr11 fr.cells rfl (cells_one fr) (by omega) (by decide) ho11.size
          have HRUN := Lib.hid hrun
          have HO5 := Lib.hid (ho11.trans' ho5 (fun y hy e => row_own_new hr11 hy e))
          have HOWN5 : Hid (w5.ownsRow w.heap.size 23 4 v' (k + 1) (frs (cutTo e a s (k + 1)))) := Lib.hid (by rw [HS1.out, frs_append, frs_one]; exact hown5)
          have HB11 := Lib.hid hb11
          clear hrun hown5 ho5 hr11 hb11 hcells hex
          go_wp2_with (first
            | ((with_reducible refine wpList_load_block wr.heap.size 23 fr.cells ?_ ?_ ?_ ?_ ?_); (· exact ⟨_, Try.underlying23, rfl⟩); (· exact Try.size23); (· exact HB11.out); (· rfl))
            | ((with_reducible refine wpList_buildSlice_agg 23 (.agg #[.int .i64 0, .int .i64 0, .int .i64 0, .string ⟨#[]⟩]) (.agg fr.cells.toArray) fr.cells.toArray 4 40 ?_ ?_ ?_ ?_ ?_ ?_ ?_ ?_); (· rfl); (· rfl); (· decide); (· decide); (· exact Try.underlying35); (· exact Try.info23); (· rfl))
            | ((with_reducible refine wpList_append_run u9 (.slice (some ⟨wm.heap.size, 0, none⟩) 1 1) v' HRUN.out ?_ ?_ ?_); (· rfl); (· rfl)))
          go_roundw
          case rel => exact ⟨k + 1, by omega, by go_num, HOWN5.out, HO5.out⟩
          case measure => simp [intOf] <;> omega
        · have hleI : (s.length : Int) < ((k : Int) + 1) * 53 := by omega
          have hex := extract_list s (k * 53) s.length
          rw [List.take_of_length_le (Nat.le_refl _)] at hex
          have HFR : Hid (fr = { e := e, a := a + k, k := 3, s := s.drop (k * 53) }) := Lib.hid (by rw [HCL.out, if_pos rfl, List.take_of_length_le (by rw [List.length_drop]; omega)])
          generalize s.drop (k * 53) = pc at hex HFR
          go_upto_region 11 with fail
          have hcells : #[Value.int .i64 e, .int .i64 (a + k), .int .i64 3, .string ⟨pc.toArray⟩] = fr.cells.toArray := by rw [HFR.out]; rfl
          rw [hcells]
          have hb11 := heap_alloc_new wr (.cells fr.cells.toArray 23)
          have ho11 := hor.trans (Only.alloc wr (.cells fr.cells.toArray 23) _)
          have hr11 := HROW.out.alloc (.cells fr.cells.toArray 23)
          generalize wr.alloc (.cells fr.cells.toArray 23) = wm at hb11 ho11 hr11 ⊢
          obtain ⟨v', w5, hrun, hown5, ho5⟩ := append_one_row (P := Try.prog) wm w.heap.size 35 35 23 _ 4 40 Try.underlying35 Try.info23 rfl (by decide) _ k _ hr11 fr.cells rfl (cells_one fr) (by omega) (by decide) ho11.size
          have HRUN := Lib.hid hrun
          have HO5 := Lib.hid (ho11.trans' ho5 (fun y hy e => row_own_new hr11 hy e))
          have HOWN5 : Hid (w5.ownsRow w.heap.size 23 4 v' (k + 1) (frs (cutTo e a s (k + 1)))) := Lib.hid (by rw [HS1.out, frs_append, frs_one]; exact hown5)
          have HB11 := Lib.hid hb11
          clear hrun hown5 ho5 hr11 hb11 hcells hex
          go_wp2_with (first
            | ((with_reducible refine wpList_load_block wr.heap.size 23 fr.cells ?_ ?_ ?_ ?_ ?_); (· exact ⟨_, Try.underlying23, rfl⟩); (· exact Try.size23); (· exact HB11.out); (· rfl))
            | ((with_reducible refine wpList_buildSlice_agg 23 (.agg #[.int .i64 0, .int .i64 0, .int .i64 0, .string ⟨#[]⟩]) (.agg fr.cells.toArray) fr.cells.toArray 4 40 ?_ ?_ ?_ ?_ ?_ ?_ ?_ ?_); (· rfl); (· rfl); (· decide); (· decide); (· exact Try.underlying35); (· exact Try.info23); (· rfl))
            | ((with_reducible refine wpList_append_run u9 (.slice (some ⟨wm.heap.size, 0, none⟩) 1 1) v' HRUN.out ?_ ?_ ?_); (· rfl); (· rfl)))
          go_roundw
          case rel => exact ⟨k + 1, by omega, by go_num, HOWN5.out, HO5.out⟩
          case measure => simp [intOf] <;> omega
    · obtain rfl : k = n := by omega
      go_wp2_with fail
      go_ret2
      exact ⟨u9, rfl, by rw [HALL.out]; exact HROW.out, hor⟩
end Go.Proofs.Ytlgefjcfnnjkbaa
