/- The functions of package frame: right, Need, Lay. No conditions. -/
import Derived.Test.YtlgefjcfnnjkbaaProg
import Derived.Test.YtlgefjcfnnjkbaaMem
import Derived.Test.YtlgefjcfnnjkbaaSum
import Derived.Test.YtlgefjcfnnjkbaaFrameM
namespace Go.Proofs.Ytlgefjcfnnjkbaa
open Go.RowKit

/-- a frame as a value; as cells -/
def Fr.cells (f : Fr) : List Value := [.int .i64 f.e, .int .i64 f.a, .int .i64 f.k, .string ⟨f.s.toArray⟩]
def Fr.val (f : Fr) : Value := .agg #[.int .i64 f.e, .int .i64 f.a, .int .i64 f.k, .string ⟨f.s.toArray⟩]

theorem size_toArray (l : List UInt8) : (⟨l.toArray⟩ : ByteArray).size = l.length := by simp [ByteArray.size]

set_option maxHeartbeats 1000000 in
theorem right_any (w : World) (f : Fr) (hs : f.s.length ≤ maxLen) :
    Calls Try.prog 55 #[f.val] w fun e w' => e = .returned (.bool f.right) ∧ Only (fun _ => False) w w' := by
  obtain ⟨e, a, k, s⟩ := f
  unfold Fr.val
  simp only at hs ⊢
  unfold maxLen at hs
  have hz := size_toArray s
  by_cases h1 : 1 ≤ e
  rotate_left
  · have hr : ({ e := e, a := a, k := k, s := s } : Fr).right = false := by simp [Fr.right]; omega
    have h1' : e < 1 := by omega
    clear h1
    rw [hr]; clear hr
    go_enter Try.func55, Try.ntmps55
    go_wp2
    go_ret
    exact ⟨rfl, Only.alloc _ _ _⟩
  by_cases h2 : e ≤ 16777215
  rotate_left
  · have hr : ({ e := e, a := a, k := k, s := s } : Fr).right = false := by simp [Fr.right]; omega
    have h2' : 16777215 < e := by omega
    clear h2
    rw [hr]; clear hr
    go_enter Try.func55, Try.ntmps55
    go_wp2
    go_ret
    exact ⟨rfl, Only.alloc _ _ _⟩
  by_cases h3 : 0 ≤ a
  rotate_left
  · have hr : ({ e := e, a := a, k := k, s := s } : Fr).right = false := by simp [Fr.right]; omega
    have h3' : a < 0 := by omega
    clear h3
    rw [hr]; clear hr
    go_enter Try.func55, Try.ntmps55
    go_wp2
    go_ret
    exact ⟨rfl, Only.alloc _ _ _⟩
  by_cases h4 : a < 64
  rotate_left
  · have hr : ({ e := e, a := a, k := k, s := s } : Fr).right = false := by simp [Fr.right]; omega
    have h4' : 64 ≤ a := by omega
    clear h4
    rw [hr]; clear hr
    go_enter Try.func55, Try.ntmps55
    go_wp2
    go_ret
    exact ⟨rfl, Only.alloc _ _ _⟩
  by_cases h5 : 1 ≤ k
  rotate_left
  · have hr : ({ e := e, a := a, k := k, s := s } : Fr).right = false := by simp [Fr.right]; omega
    have h5' : k < 1 := by omega
    clear h5
    rw [hr]; clear hr
    go_enter Try.func55, Try.ntmps55
    go_wp2
    go_ret
    exact ⟨rfl, Only.alloc _ _ _⟩
  by_cases h6 : k ≤ 4
  rotate_left
  · have hr : ({ e := e, a := a, k := k, s := s } : Fr).right = false := by simp [Fr.right]; omega
    have h6' : 4 < k := by omega
    clear h6
    rw [hr]; clear hr
    go_enter Try.func55, Try.ntmps55
    go_wp2
    go_ret
    exact ⟨rfl, Only.alloc _ _ _⟩
  have hr : ({ e := e, a := a, k := k, s := s } : Fr).right = decide ((s.length : Int) ≤ 53) := by unfold Fr.right; rw [decide_eq_decide]; simp only; omega
  rw [hr]; clear hr
  go_enter Try.func55, Try.ntmps55
  go_wp2
  go_ret
  exact ⟨rfl, Only.alloc _ _ _⟩

set_option maxHeartbeats 1000000 in
theorem refRight_any (w : World) (f : Fr) (hs : f.s.length ≤ maxLen) :
    Calls Try.prog 51 #[f.val] w fun e w' => e = .returned (.bool f.right) ∧ Only (fun _ => False) w w' := by
  obtain ⟨e, a, k, s⟩ := f
  unfold Fr.val
  simp only at hs ⊢
  unfold maxLen at hs
  have hz := size_toArray s
  by_cases h1 : 1 ≤ e
  rotate_left
  · have hr : ({ e := e, a := a, k := k, s := s } : Fr).right = false := by simp [Fr.right]; omega
    have h1' : e < 1 := by omega
    clear h1
    rw [hr]; clear hr
    go_enter Try.func51, Try.ntmps51
    go_wp2
    go_ret
    exact ⟨rfl, Only.alloc _ _ _⟩
  by_cases h2 : e ≤ 16777215
  rotate_left
  · have hr : ({ e := e, a := a, k := k, s := s } : Fr).right = false := by simp [Fr.right]; omega
    have h2' : 16777215 < e := by omega
    clear h2
    rw [hr]; clear hr
    go_enter Try.func51, Try.ntmps51
    go_wp2
    go_ret
    exact ⟨rfl, Only.alloc _ _ _⟩
  by_cases h3 : 0 ≤ a
  rotate_left
  · have hr : ({ e := e, a := a, k := k, s := s } : Fr).right = false := by simp [Fr.right]; omega
    have h3' : a < 0 := by omega
    clear h3
    rw [hr]; clear hr
    go_enter Try.func51, Try.ntmps51
    go_wp2
    go_ret
    exact ⟨rfl, Only.alloc _ _ _⟩
  by_cases h4 : a < 64
  rotate_left
  · have hr : ({ e := e, a := a, k := k, s := s } : Fr).right = false := by simp [Fr.right]; omega
    have h4' : 64 ≤ a := by omega
    clear h4
    rw [hr]; clear hr
    go_enter Try.func51, Try.ntmps51
    go_wp2
    go_ret
    exact ⟨rfl, Only.alloc _ _ _⟩
  by_cases h5 : 1 ≤ k
  rotate_left
  · have hr : ({ e := e, a := a, k := k, s := s } : Fr).right = false := by simp [Fr.right]; omega
    have h5' : k < 1 := by omega
    clear h5
    rw [hr]; clear hr
    go_enter Try.func51, Try.ntmps51
    go_wp2
    go_ret
    exact ⟨rfl, Only.alloc _ _ _⟩
  by_cases h6 : k ≤ 4
  rotate_left
  · have hr : ({ e := e, a := a, k := k, s := s } : Fr).right = false := by simp [Fr.right]; omega
    have h6' : 4 < k := by omega
    clear h6
    rw [hr]; clear hr
    go_enter Try.func51, Try.ntmps51
    go_wp2
    go_ret
    exact ⟨rfl, Only.alloc _ _ _⟩
  have hr : ({ e := e, a := a, k := k, s := s } : Fr).right = decide ((s.length : Int) ≤ 53) := by unfold Fr.right; rw [decide_eq_decide]; simp only; omega
  rw [hr]; clear hr
  go_enter Try.func51, Try.ntmps51
  go_wp2
  go_ret
  exact ⟨rfl, Only.alloc _ _ _⟩

set_option maxHeartbeats 1000000 in
theorem need_any (w : World) (n : Int) (hn : -9223372036854775808 ≤ n ∧ n ≤ 9223372036854775807) :
    Calls Try.prog 25 #[.int .i64 n] w fun e w' => e = .returned (.int .i64 (needI n)) ∧ w = w' := by
  obtain ⟨h1, h2⟩ := hn
  go_enter Try.func25, Try.ntmps25
  by_cases h : n < 0
  · go_wp2
    go_ret
    exact ⟨by simp [needI, h], rfl⟩
  · have h' : 0 ≤ n := by omega
    have hm : needI n = max 1 (n / 53 + min 1 (n % 53)) := by
      simp only [needI, if_neg h, need]; omega
    rw [hm]
    clear hm h
    go_wp2
    all_goals (go_ret; refine ⟨?_, rfl⟩; go_num)
end Go.Proofs.Ytlgefjcfnnjkbaa
