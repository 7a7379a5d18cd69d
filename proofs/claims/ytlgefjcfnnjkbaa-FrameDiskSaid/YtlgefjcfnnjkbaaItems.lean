/- Batches and seals one behind the other, as frames; what is joined of them, cut off anywhere. Plain; no program is named; no conditions. -/
import Derived.Test.YtlgefjcfnnjkbaaFrameP
namespace Go.Proofs.Ytlgefjcfnnjkbaa

/-- a seal -/
def sealAt (e : Int) (a : Nat) : Fr := { e := e, a := a, k := 4, s := [] }
/-- the frames of batches (some s) and seals (none), from a place on -/
def items (e : Int) : Nat → List (Option (List UInt8)) → List Fr
  | _, [] => []
  | a, some s :: r => cutF e a s ++ items e (a + need s.length) r
  | a, none :: r => sealAt e a :: items e (a + 1) r
/-- how many frames they take -/
def iLen : List (Option (List UInt8)) → Nat
  | [] => 0
  | some s :: r => need s.length + iLen r
  | none :: r => 1 + iLen r

theorem items_length (e : Int) : ∀ (its : List (Option (List UInt8))) (a : Nat), (items e a its).length = iLen its
  | [], _ => rfl
  | some s :: r, a => by simp [items, iLen, cutF_length, items_length e r]
  | none :: r, a => by simp [items, iLen, items_length e r]; omega
theorem iLen_append : ∀ (x y : List (Option (List UInt8))), iLen (x ++ y) = iLen x + iLen y
  | [], y => by simp [iLen]
  | some s :: r, y => by simp [iLen, iLen_append r y]; omega
  | none :: r, y => by simp [iLen, iLen_append r y]; omega
theorem items_append (e : Int) : ∀ (x : List (Option (List UInt8))) (a : Nat) (y : List (Option (List UInt8))), items e a (x ++ y) = items e a x ++ items e (a + iLen x) y
  | [], a, y => by simp [items, iLen]
  | some s :: r, a, y => by
    simp only [List.cons_append, items, items_append e r, iLen, List.append_assoc]
    rw [Nat.add_assoc]
  | none :: r, a, y => by
    simp only [List.cons_append, items, items_append e r, iLen]
    rw [Nat.add_assoc]
theorem iLen_take_le (its : List (Option (List UInt8))) (m : Nat) : iLen (its.take m) ≤ iLen its := by
  have := iLen_append (its.take m) (its.drop m)
  rw [List.take_append_drop] at this
  omega
theorem iLen_mono (its : List (Option (List UInt8))) (m n : Nat) (h : m ≤ n) : iLen (its.take m) ≤ iLen (its.take n) := by
  have := iLen_take_le (its.take n) m
  rwa [List.take_take, Nat.min_eq_left h] at this
theorem iLen_one (x : Option (List UInt8)) : 1 ≤ iLen [x] := by
  cases x with
  | none => simp [iLen]
  | some s => have := needP_pos s.length; simp [iLen]; omega
theorem iLen_ge (its : List (Option (List UInt8))) : its.length ≤ iLen its := by
  induction its with
  | nil => simp [iLen]
  | cons x r ih =>
    have h := iLen_one x
    have e : iLen (x :: r) = iLen [x] + iLen r := iLen_append [x] r
    simp only [List.length_cons]; omega
theorem sealAt_right (e : Int) (a : Nat) (he : 1 ≤ e ∧ e ≤ 16777215) (ha : a < 64) : (sealAt e a).right = true := by
  rw [Fr.right_iff]; simp [sealAt]; omega

/-- each frame's place, epoch, kind -/
theorem items_get (e : Int) (he : 1 ≤ e ∧ e ≤ 16777215) : ∀ (its : List (Option (List UInt8))) (a : Nat), a + iLen its ≤ 64 → ∀ (i : Nat) (h : i < (items e a its).length),
    (items e a its)[i].right = true ∧ (items e a its)[i].e = e ∧ (items e a its)[i].a = ((a + i : Nat) : Int) ∧ (items e a its)[i].k ≠ 1
  | [], a, _, i, h => by simp [items] at h
  | some s :: r, a, hl, i, h => by
    simp only [iLen] at hl
    by_cases hi : i < (cutF e a s).length
    · have hn : (cutF e a s).length = need s.length := cutF_length e a s
      have eq : (items e a (some s :: r))[i] = cutL e a s (need s.length) i := by
        simp only [items]
        rw [List.getElem_append_left hi, cutF_get]
      rw [eq]
      refine ⟨cutL_right e a s _ i he (by omega) (by omega), rfl, by simp [cutL], ?_⟩
      simp only [cutL]; split <;> decide
    · have hn : (cutF e a s).length = need s.length := cutF_length e a s
      have hl2 : i - (cutF e a s).length < (items e (a + need s.length) r).length := by
        simp only [items, List.length_append] at h; omega
      have eq : (items e a (some s :: r))[i] = (items e (a + need s.length) r)[i - (cutF e a s).length] := by
        simp only [items]
        rw [List.getElem_append_right (by omega)]
      rw [eq]
      obtain ⟨h1, h2, h3, h4⟩ := items_get e he r (a + need s.length) (by omega) _ hl2
      exact ⟨h1, h2, by rw [h3, hn]; omega, h4⟩
  | none :: r, a, hl, i, h => by
    simp only [iLen] at hl
    cases i with
    | zero => exact ⟨sealAt_right e a he (by omega), rfl, by simp [items, sealAt], by simp [items, sealAt]⟩
    | succ i =>
      have hl2 : i < (items e (a + 1) r).length := by simp only [items, List.length_cons] at h; omega
      have eq : (items e a (none :: r))[i + 1] = (items e (a + 1) r)[i] := by simp only [items]; rfl
      rw [eq]
      obtain ⟨h1, h2, h3, h4⟩ := items_get e he r (a + 1) (by omega) _ hl2
      exact ⟨h1, h2, by rw [h3]; omega, h4⟩

/-- all of them are joined -/
theorem run_items (e : Int) (he : 1 ≤ e ∧ e ≤ 16777215) : ∀ (its : List (Option (List UInt8))) (a : Nat) (j : Js) (r : List Fr), a + iLen its ≤ 64 → j.begun = none → j.whole = j.i →
    j.run (items e a its ++ r) = Js.run { out := j.out ++ its.filterMap id, begun := none, whole := j.i + iLen its, i := j.i + iLen its } r
  | [], a, j, r, _, hb, hw => by
    cases j; simp only at hb hw; subst hb; subst hw; simp [items, iLen]
  | some s :: l, a, j, r, hl, hb, hw => by
    simp only [iLen] at hl
    simp only [items, List.append_assoc]
    rw [run_cut_all e a s he (by omega) (by omega) j hb, run_items e he l _ _ _ (by omega) rfl rfl]
    simp only [iLen, List.filterMap_cons, id, List.append_assoc, List.singleton_append]
    congr 2 <;> omega
  | none :: l, a, j, r, hl, hb, hw => by
    simp only [iLen] at hl
    simp only [items, List.cons_append]
    rw [Js.run_some (Js.step_seal (sealAt_right e a he (by omega)) rfl hb), run_items e he l (a + 1) { j with whole := j.i + 1, i := j.i + 1 } r (by omega) hb rfl]
    simp only [iLen, List.filterMap_cons, id]
    congr 2 <;> omega

/-- cut off anywhere: the batches that are whole are joined -/
theorem run_items_take (e : Int) (he : 1 ≤ e ∧ e ≤ 16777215) : ∀ (its : List (Option (List UInt8))) (a : Nat) (j : Js) (p : Nat), a + iLen its ≤ 64 → j.begun = none → j.whole = j.i → p ≤ iLen its →
    ∃ m, m ≤ its.length ∧ (j.run ((items e a its).take p)).out = j.out ++ (its.take m).filterMap id ∧ (j.run ((items e a its).take p)).whole = j.i + iLen (its.take m) ∧ iLen (its.take m) ≤ p ∧ (m < its.length → p < iLen (its.take (m + 1)))
  | [], a, j, p, _, hb, hw, hp => ⟨0, by simp, by simp [items, Js.run], by simp [items, Js.run, iLen, hw], by simp [iLen], by simp⟩
  | some s :: l, a, j, p, hl, hb, hw, hp => by
    simp only [iLen] at hl hp
    have hn : (cutF e a s).length = need s.length := cutF_length e a s
    by_cases hlt : p < need s.length
    · have e1 : (items e a (some s :: l)).take p = (cutF e a s).take p := by simp only [items]; rw [List.take_append_of_le_length (by omega)]
      refine ⟨0, by simp, ?_, ?_, by simp [iLen], fun _ => by simp [iLen]; omega⟩
      · rw [e1, (run_cut e a s he (by omega) (by omega) j hb p hlt).1]; simp
      · rw [e1, (run_cut e a s he (by omega) (by omega) j hb p hlt).1]; simp [iLen, hw]
    · have e1 : (items e a (some s :: l)).take p = cutF e a s ++ (items e (a + need s.length) l).take (p - need s.length) := by
        simp only [items]
        rw [List.take_append, hn, List.take_of_length_le (by omega)]
      rw [e1, run_cut_all e a s he (by omega) (by omega) j hb]
      obtain ⟨m, h1, h2, h3, h4, h5⟩ := run_items_take e he l (a + need s.length) ⟨j.out ++ [s], none, j.i + need s.length, j.i + need s.length⟩ (p - need s.length) (by omega) rfl rfl (by omega)
      refine ⟨m + 1, by simp; omega, ?_, ?_, ?_, ?_⟩
      · rw [h2]; simp []
      · rw [h3]; simp [iLen]; omega
      · simp only [List.take_succ_cons, iLen]; omega
      · intro h
        have := h5 (by simpa using h)
        simp only [List.take_succ_cons, iLen] at this ⊢; omega
  | none :: l, a, j, p, hl, hb, hw, hp => by
    simp only [iLen] at hl hp
    cases p with
    | zero => exact ⟨0, by simp, by simp [Js.run], by simp [Js.run, iLen, hw], by simp [iLen], fun _ => by simp [iLen]⟩
    | succ p =>
      have e1 : (items e a (none :: l)).take (p + 1) = sealAt e a :: (items e (a + 1) l).take p := by simp only [items, List.take_succ_cons]
      rw [e1, Js.run_some (Js.step_seal (sealAt_right e a he (by omega)) rfl hb)]
      obtain ⟨m, h1, h2, h3, h4, h5⟩ := run_items_take e he l (a + 1) { j with whole := j.i + 1, i := j.i + 1 } p (by omega) hb rfl (by omega)
      refine ⟨m + 1, by simp; omega, ?_, ?_, ?_, ?_⟩
      · rw [h2]; simp []
      · rw [h3]; simp [iLen]; omega
      · simp only [List.take_succ_cons, iLen]; omega
      · intro h
        have := h5 (by simpa using h)
        simp only [List.take_succ_cons, iLen] at this ⊢; omega

theorem joinF_items (e : Int) (he : 1 ≤ e ∧ e ≤ 16777215) (its : List (Option (List UInt8))) (a : Nat) (h : a + iLen its ≤ 64) : joinF (items e a its) = (its.filterMap id, iLen its) := by
  have := run_items e he its a Js.new [] h rfl rfl
  rw [List.append_nil] at this
  simp only [joinF]
  rw [this]
  simp [Js.run, Js.new]
theorem joinF_take (e : Int) (he : 1 ≤ e ∧ e ≤ 16777215) (its : List (Option (List UInt8))) (a p : Nat) (h : a + iLen its ≤ 64) (hp : p ≤ iLen its) :
    ∃ m, m ≤ its.length ∧ joinF ((items e a its).take p) = ((its.take m).filterMap id, iLen (its.take m)) ∧ iLen (its.take m) ≤ p ∧ (m < its.length → p < iLen (its.take (m + 1))) := by
  obtain ⟨m, h1, h2, h3, h4, h5⟩ := run_items_take e he its a Js.new p h rfl rfl hp
  refine ⟨m, h1, ?_, h4, h5⟩
  simp only [joinF]
  rw [h2, h3]
  simp [Js.new]
end Go.Proofs.Ytlgefjcfnnjkbaa
