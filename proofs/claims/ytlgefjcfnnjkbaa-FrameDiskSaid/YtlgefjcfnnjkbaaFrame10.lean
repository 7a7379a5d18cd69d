/- Cutting a batch into frames: frame.Cut. No conditions. -/
import Derived.Test.YtlgefjcfnnjkbaaFrame9
namespace Go.Proofs.Ytlgefjcfnnjkbaa
open Go.RowKit

theorem frs_append (a b : List Fr) : frs (a ++ b) = frs a ++ frs b := by simp [frs]
theorem frs_length (l : List Fr) : (frs l).length = l.length * 4 := by
  induction l with
  | nil => rfl
  | cons f l ih =>
    have : frs (f :: l) = f.cells ++ frs l := rfl
    rw [this, List.length_append, ih, show f.cells.length = 4 from rfl, List.length_cons]; omega
theorem frs_split (l : List Fr) (k : Nat) (hk : k < l.length) : frs l = frs (l.take k) ++ (l[k].cells ++ frs (l.drop (k + 1))) ∧ (frs (l.take k)).length = k * 4 := by
  refine ⟨?_, by rw [frs_length, List.length_take]; omega⟩
  have e : l = l.take k ++ ([l[k]] ++ l.drop (k + 1)) := by rw [List.singleton_append, ← List.drop_eq_getElem_cons hk]; simp
  have e' := congrArg frs e
  rw [frs_append, frs_append] at e'
  rw [e']; rfl
theorem frs_set_split (l : List Fr) (k : Nat) (f : Fr) (hk : k < l.length) : frs (l.set k f) = frs (l.take k) ++ (f.cells ++ frs (l.drop (k + 1))) := by
  obtain ⟨e1, _⟩ := frs_split (l.set k f) k (by simpa using hk)
  rw [e1]
  have ht : (l.set k f).take k = l.take k := by simp [List.take_set_of_le]
  have hd : (l.set k f).drop (k + 1) = l.drop (k + 1) := by simp [List.drop_set_of_lt]
  rw [ht, hd, List.getElem_set_self]
theorem laid_frs (l : List Fr) (k : Nat) (f : Fr) (hk : k < l.length) : laid (frs l) (k * 4) f.cells = frs (l.set k f) := by
  obtain ⟨e1, e2⟩ := frs_split l k hk
  rw [frs_set_split l k f hk]
  conv => lhs; rw [e1]
  unfold laid
  rw [List.take_left' e2]
  congr 2
  rw [show k * 4 + f.cells.length = (frs (l.take k) ++ l[k].cells).length by rw [List.length_append, e2]; rfl, ← List.append_assoc, List.drop_left]
theorem set_text (l : List Fr) (k : Nat) (t : List UInt8) (hk : k < l.length) : (frs l).toArray.setIfInBounds (k * 4 + 3) (.string ⟨t.toArray⟩) = (frs (l.set k { l[k] with s := t })).toArray := by
  obtain ⟨e1, e2⟩ := frs_split l k hk
  rw [frs_set_split l k _ hk]
  apply Array.ext'
  rw [Array.toList_setIfInBounds]
  simp only
  conv => lhs; rw [e1]
  rw [List.set_append_right _ _ (by rw [e2]; omega), e2, show k * 4 + 3 - k * 4 = 3 by omega, List.set_append_left _ _ (by show 3 < 4; omega)]
  rfl
theorem set_kind (l : List Fr) (k : Nat) (t : Int) (hk : k < l.length) : (frs l).toArray.setIfInBounds (k * 4 + 2) (.int .i64 t) = (frs (l.set k { l[k] with k := t })).toArray := by
  obtain ⟨e1, e2⟩ := frs_split l k hk
  rw [frs_set_split l k _ hk]
  apply Array.ext'
  rw [Array.toList_setIfInBounds]
  simp only
  conv => lhs; rw [e1]
  rw [List.set_append_right _ _ (by rw [e2]; omega), e2, show k * 4 + 2 - k * 4 = 2 by omega, List.set_append_left _ _ (by show 2 < 4; omega)]
  rfl

/-- the frames behind k rounds; n: how many there are to be -/
def midFr (e a : Int) (s : List UInt8) (n j : Nat) : Fr := { e := e, a := a + j, k := 2, s := if j + 1 < n then (s.drop (j * 53)).take 53 else [] }
def midL (e a : Int) (s : List UInt8) (n k : Nat) : List Fr := (List.range k).map (midFr e a s n) ++ List.replicate (n - k) Fr.zero
theorem midL_length (e a : Int) (s : List UInt8) (n k : Nat) (h : k ≤ n) : (midL e a s n k).length = n := by simp [midL]; omega
theorem midL_zero (e a : Int) (s : List UInt8) (n : Nat) : midL e a s n 0 = List.replicate n Fr.zero := by simp [midL]
theorem midL_succ (e a : Int) (s : List UInt8) (n k : Nat) (h : k < n) : (midL e a s n k).set k (midFr e a s n k) = midL e a s n (k + 1) := by
  unfold midL
  rw [List.set_append_right _ _ (by simp)]
  simp only [List.length_map, List.length_range, Nat.sub_self]
  rw [show n - k = (n - (k + 1)) + 1 by omega, List.replicate_succ, List.set_cons_zero, List.range_succ, List.map_append]
  simp

theorem need_pos (n : Nat) : 1 ≤ need n := by unfold need; omega
theorem need_le (n : Nat) : (need n - 1) * 53 ≤ n ∧ n ≤ need n * 53 := by unfold need; omega

theorem midL_last (e a : Int) (s : List UInt8) (h : 1 ≤ need s.length) :
    (midL e a s (need s.length) (need s.length)).set (need s.length - 1) { e := e, a := a + (need s.length - 1 : Nat), k := 3, s := s.drop ((need s.length - 1) * 53) } = cutF e a s := by
  have hb := need_le s.length
  unfold midL cutF
  apply List.ext_getElem
  · simp
  · intro j h1 h2
    simp only [Nat.sub_self, List.replicate_zero, List.append_nil] at h1 ⊢
    simp only [List.getElem_set, List.getElem_map, List.getElem_range]
    simp at h2
    split
    · rename_i e1
      subst e1
      simp only [cutL]
      rw [if_pos (by omega), List.take_of_length_le (by rw [List.length_drop]; omega)]
    · rename_i e1
      simp only [cutL, midFr]
      rw [if_pos (show j + 1 < need s.length by omega), if_neg (show ¬ j + 1 = need s.length by omega)]

theorem cut_shape (e a : Int) (n : Nat) (h1 : 1 ≤ n) : (1 ≤ e ∧ e ≤ 16777215 ∧ 0 ≤ a ∧ a ≤ 64 - (n : Int)) ∨ (e < 1 ∨ 16777215 < e ∨ a < 0 ∨ 64 - (n : Int) < a) := by omega

set_option maxHeartbeats 1000000 in
theorem cut_bad (w : World) (e a : Int) (s : List UInt8) (we : I64 e) (wa : I64 a) (hs : s.length ≤ maxLen) (hbad : ¬ (1 ≤ e ∧ e ≤ 16777215 ∧ 0 ≤ a ∧ a ≤ 64 - (need s.length : Int))) :
    Calls Try.prog 27 #[.int .i64 e, .int .i64 a, .string ⟨s.toArray⟩] w fun e w' => e = .returned (.tuple #[.slice none 0 0, .int .i64 2]) ∧ w = w' := by
  have hz := size_toArray s
  unfold maxLen at hs
  have N := Lib.hid (need_any w s.length (by omega))
  have hni : needI s.length = (need s.length : Nat) := by simp [needI]; omega
  rw [hni] at N
  have hb := need_le s.length
  have hp := need_pos s.length
  generalize need s.length = n at N hb hp hbad
  obtain ⟨we1, we2⟩ := we
  obtain ⟨wa1, wa2⟩ := wa
  by_cases c1 : 1 ≤ e
  · by_cases c2 : e ≤ 16777215
    · by_cases c3 : 0 ≤ a
      · have c4 : 64 - (n : Int) < a := by omega
        clear hbad
        go_enter Try.func27, Try.ntmps27
        go_wp2_with (go_at_call 25; refine N.out.mono ?_; rintro e w1 ⟨rfl, rfl⟩)
        go_ret2
        exact ⟨rfl, rfl⟩
      · have c4 : a < 0 := by omega
        clear hbad
        go_enter Try.func27, Try.ntmps27
        go_wp2_with (go_at_call 25; refine N.out.mono ?_; rintro e w1 ⟨rfl, rfl⟩)
        go_ret2
        exact ⟨rfl, rfl⟩
    · have c4 : 16777215 < e := by omega
      clear hbad
      go_enter Try.func27, Try.ntmps27
      go_wp2_with (go_at_call 25; refine N.out.mono ?_; rintro e w1 ⟨rfl, rfl⟩)
      go_ret2
      exact ⟨rfl, rfl⟩
  · have c4 : e < 1 := by omega
    clear hbad
    go_enter Try.func27, Try.ntmps27
    go_wp2_with (go_at_call 25; refine N.out.mono ?_; rintro e w1 ⟨rfl, rfl⟩)
    go_ret2
    exact ⟨rfl, rfl⟩
end Go.Proofs.Ytlgefjcfnnjkbaa
