/- Plain laws of frames: a turned sector is none; batches that are cut are joined again, cut off anywhere. No program is named; no conditions. -/
import Derived.Test.YtlgefjcfnnjkbaaFrameM
namespace Go.Proofs.Ytlgefjcfnnjkbaa

/-! ### A byte is another one -/
theorem readF_turned {f : Fr} (h : f.right = true) (k : Nat) (hk : k < 64) (b : UInt8) (hb : b ≠ f.lay[k]'(by rw [Fr.lay_length h]; exact hk)) : readF (f.lay.set k b) = none := by
  cases hr : readF (f.lay.set k b) with
  | none => rfl
  | some g =>
    exfalso
    obtain ⟨_, hg, he⟩ := readF_some hr
    have hfl := Fr.body_length h
    have hgl := Fr.body_length hg
    have hll := Fr.lay_length h
    have e1 : (f.lay.set k b).take 60 = g.body := by rw [← he, Fr.lay]; exact List.take_left' hgl
    have e2 : (f.lay.set k b).drop 60 = be 4 (sum g.body) := by rw [← he, Fr.lay]; exact List.drop_left' hgl
    have f1 : f.lay.take 60 = f.body := by rw [Fr.lay]; exact List.take_left' hfl
    have f2 : f.lay.drop 60 = be 4 (sum f.body) := by rw [Fr.lay]; exact List.drop_left' hfl
    by_cases h60 : k < 60
    · have d : (f.lay.set k b).drop 60 = f.lay.drop 60 := by rw [List.drop_set_of_lt h60]
      rw [e2, f2] at d
      have es : sum g.body = sum f.body := be_inj (m := 4) (by have := sum_lt g.body; omega) (by have := sum_lt f.body; omega) d
      have eg : g.body = f.body.set k b := by rw [← e1, List.take_set, f1]
      rw [eg] at es
      have := sum_set f.body k (by omega) b es
      apply hb
      rw [this]
      simp only [Fr.lay]
      rw [List.getElem_append_left (by omega)]
    · have d : (f.lay.set k b).take 60 = f.lay.take 60 := by rw [List.take_set_of_le (by omega)]
      rw [e1, f1] at d
      have e3 : f.lay.set k b = f.lay := by rw [← he]; simp only [Fr.lay, d]
      apply hb
      have : (f.lay.set k b)[k]'(by simpa using (by omega : k < f.lay.length)) = b := List.getElem_set_self _
      rw [← this]
      simp only [e3]

/-! ### What is joined -/
theorem Js.run_nil (j : Js) : j.run [] = j := rfl
theorem Js.run_some {j j' : Js} {f : Fr} {l : List Fr} (h : j.step f = some j') : j.run (f :: l) = j'.run l := by simp [Js.run, h]
theorem Js.run_none {j : Js} {f : Fr} {l : List Fr} (h : j.step f = none) : j.run (f :: l) = j := by simp [Js.run, h]

theorem Js.step_part {j : Js} {f : Fr} (hr : f.right = true) (hk : f.k = 2) : j.step f = some { j with begun := some (j.begun.getD [] ++ f.s), i := j.i + 1 } := by simp [Js.step, hr, hk]
theorem Js.step_end {j : Js} {f : Fr} (hr : f.right = true) (hk : f.k = 3) : j.step f = some { out := j.out ++ [j.begun.getD [] ++ f.s], begun := none, whole := j.i + 1, i := j.i + 1 } := by simp [Js.step, hr, hk]
theorem Js.step_seal {j : Js} {f : Fr} (hr : f.right = true) (hk : f.k = 4) (hb : j.begun = none) : j.step f = some { j with whole := j.i + 1, i := j.i + 1 } := by simp [Js.step, hr, hk, hb]

theorem needP_pos (n : Nat) : 1 ≤ need n := by unfold need; omega
theorem needP_le (n : Nat) : (need n - 1) * 53 ≤ n ∧ n ≤ need n * 53 := by unfold need; omega

theorem cutF_length (e a : Int) (s : List UInt8) : (cutF e a s).length = need s.length := by simp [cutF]
theorem cutF_get (e a : Int) (s : List UInt8) (i : Nat) (h : i < (cutF e a s).length) : (cutF e a s)[i] = cutL e a s (need s.length) i := by simp [cutF]

theorem cutL_right (e a : Int) (s : List UInt8) (n i : Nat) (he : 1 ≤ e ∧ e ≤ 16777215) (ha : 0 ≤ a) (hi : a + i < 64) : (cutL e a s n i).right = true := by
  rw [Fr.right_iff]
  simp only [cutL, List.length_take]
  split <;> omega

/-- t frames of a batch, none begun ahead of them -/
theorem run_cut (e a : Int) (s : List UInt8) (he : 1 ≤ e ∧ e ≤ 16777215) (ha : 0 ≤ a) (hn : a + need s.length ≤ 64) (j : Js) (hj : j.begun = none) :
    ∀ t, t < need s.length → j.run ((cutF e a s).take t) = { j with begun := if t = 0 then none else some (s.take (t * 53)), i := j.i + t } ∧
      ∀ r, j.run ((cutF e a s).take t ++ r) = Js.run { j with begun := if t = 0 then none else some (s.take (t * 53)), i := j.i + t } r := by
  intro t ht
  have key : ∀ r, j.run ((cutF e a s).take t ++ r) = Js.run { j with begun := if t = 0 then none else some (s.take (t * 53)), i := j.i + t } r := by
    induction t with
    | zero => intro r; simp [← hj]
    | succ t ih =>
      intro r
      have hlt : t < (cutF e a s).length := by rw [cutF_length]; omega
      rw [List.take_succ_eq_append_getElem hlt, List.append_assoc, ih (by omega), cutF_get, List.singleton_append]
      have hr := cutL_right e a s (need s.length) t he ha (by omega)
      have hk : (cutL e a s (need s.length) t).k = 2 := by simp only [cutL]; rw [if_neg (by omega)]
      rw [Js.run_some (Js.step_part hr hk)]
      congr 1
      simp only [Js.mk.injEq, Nat.add_one_ne_zero, if_false, true_and, Option.some.injEq]
      refine ⟨?_, by omega⟩
      have ec : (cutL e a s (need s.length) t).s = (s.drop (t * 53)).take 53 := rfl
      rw [ec, Nat.succ_mul, List.take_add]
      by_cases h0 : t = 0
      · subst h0; simp
      · simp [h0]
  exact ⟨by have := key []; simpa [Js.run_nil] using this, key⟩

/-- a whole batch -/
theorem run_cut_all (e a : Int) (s : List UInt8) (he : 1 ≤ e ∧ e ≤ 16777215) (ha : 0 ≤ a) (hn : a + need s.length ≤ 64) (j : Js) (hj : j.begun = none) (r : List Fr) :
    j.run (cutF e a s ++ r) = Js.run { out := j.out ++ [s], begun := none, whole := j.i + need s.length, i := j.i + need s.length } r := by
  have hp := needP_pos s.length
  have hb := needP_le s.length
  obtain ⟨m, hm⟩ : ∃ m, need s.length = m + 1 := ⟨need s.length - 1, by omega⟩
  have hlt : m < (cutF e a s).length := by rw [cutF_length]; omega
  have e1 : cutF e a s = (cutF e a s).take m ++ [(cutF e a s)[m]] := by
    rw [← List.take_succ_eq_append_getElem hlt, List.take_of_length_le (by rw [cutF_length]; omega)]
  rw [e1, List.append_assoc, (run_cut e a s he ha hn j hj m (by omega)).2, cutF_get, List.singleton_append]
  have hr := cutL_right e a s (need s.length) m he ha (by omega)
  have hk : (cutL e a s (need s.length) m).k = 3 := by simp only [cutL]; rw [if_pos (by omega)]
  rw [Js.run_some (Js.step_end hr hk)]
  congr 1
  simp only [Js.mk.injEq, true_and]
  refine ⟨?_, by omega, by omega⟩
  congr 1
  have ec : (cutL e a s (need s.length) m).s = s.drop (m * 53) := by
    simp only [cutL]
    rw [List.take_of_length_le (by rw [List.length_drop]; omega)]
  rw [ec]
  by_cases h0 : m = 0
  · subst h0; simp
  · simp [h0]

/-! ### Batches one behind the other, with seals or without -/
def sealFr : Fr := { e := 3, a := 0, k := 4, s := [] }
theorem sealFr_right : sealFr.right = true := rfl
/-- behind k batches; sl: is a seal behind the one of that number? -/
def jall (l : List (List UInt8)) (sl : Nat → Bool) : Nat → List Fr
  | 0 => []
  | k + 1 => jall l sl k ++ (cutF 3 ((jall l sl k).length % 50 : Nat) (l.getD k []) ++ (if sl k then [sealFr] else []))
def jend (l : List (List UInt8)) (sl : Nat → Bool) (k : Nat) : Nat := (jall l sl k).length + need (l.getD k []).length
/-- how many of the first k end at p, or ahead of it -/
def jmany (l : List (List UInt8)) (sl : Nat → Bool) (p : Nat) : Nat → Nat
  | 0 => 0
  | k + 1 => jmany l sl p k + (if jend l sl k ≤ p then 1 else 0)

theorem jall_succ_length (l : List (List UInt8)) (sl : Nat → Bool) (k : Nat) : (jall l sl (k + 1)).length = jend l sl k + (if sl k then 1 else 0) := by
  simp only [jall, jend, List.length_append, cutF_length]
  split
  · simp only [List.length_singleton]; omega
  · simp only [List.length_nil]; omega

theorem jmany_all (l : List (List UInt8)) (sl : Nat → Bool) (p : Nat) : ∀ k, (jall l sl k).length ≤ p → jmany l sl p k = k
  | 0, _ => rfl
  | k + 1, h => by
    rw [jall_succ_length] at h
    have h2 : (jall l sl k).length ≤ p := by unfold jend at h; omega
    rw [jmany, jmany_all l sl p k h2, if_pos (by omega)]

theorem jmany_le (l : List (List UInt8)) (sl : Nat → Bool) (p : Nat) : ∀ k, jmany l sl p k ≤ k
  | 0 => Nat.le_refl _
  | k + 1 => by
    have := jmany_le l sl p k
    rw [jmany]; split <;> omega

section
variable {l : List (List UInt8)} {sl : Nat → Bool}

theorem run_jall (hl : ∀ k, (l.getD k []).length ≤ 300) : ∀ k, k ≤ l.length → ∀ r, Js.new.run (jall l sl k ++ r) = Js.run ⟨l.take k, none, (jall l sl k).length, (jall l sl k).length⟩ r
  | 0, _, r => by simp [jall, Js.new]
  | k + 1, hk, r => by
    have hn : need (l.getD k []).length ≤ 6 := by have := hl k; unfold need; omega
    have ih := run_jall hl k (by omega)
    have hlen := jall_succ_length l sl k
    conv => lhs; rw [jall]
    rw [List.append_assoc, ih, List.append_assoc, run_cut_all 3 _ _ (by omega) (by omega) (by omega) _ rfl]
    have ht : l.take (k + 1) = l.take k ++ [l.getD k []] := by
      rw [List.take_succ_eq_append_getElem (by omega)]
      simp [List.getD_eq_getElem?_getD, List.getElem?_eq_getElem (show k < l.length by omega)]
    rw [ht, hlen]
    cases hs : sl k with
    | false => simp [jend]
    | true =>
      simp only [if_true, List.singleton_append]
      rw [Js.run_some (Js.step_seal sealFr_right rfl rfl)]
      rfl

/-- cut off anywhere -/
theorem run_jall_take (hl : ∀ k, (l.getD k []).length ≤ 300) : ∀ k, k ≤ l.length → ∀ p, p ≤ (jall l sl k).length →
    (Js.new.run ((jall l sl k).take p)).out = l.take (jmany l sl p k) ∧ (Js.new.run ((jall l sl k).take p)).whole ≤ p ∧
      (jmany l sl p k = 0 ∨ jend l sl (jmany l sl p k - 1) ≤ (Js.new.run ((jall l sl k).take p)).whole)
  | 0, _, p, hp => by
    simp [jall, jmany, Js.run, Js.new]
  | k + 1, hk, p, hp => by
    have hn : need (l.getD k []).length ≤ 6 := by have := hl k; unfold need; omega
    have hnp := needP_pos (l.getD k []).length
    have hlen := jall_succ_length l sl k
    by_cases hle : p ≤ (jall l sl k).length
    · have ih := run_jall_take hl k (by omega) p hle
      have e1 : (jall l sl (k + 1)).take p = (jall l sl k).take p := by rw [jall, List.take_append_of_le_length hle]
      have e2 : jmany l sl p (k + 1) = jmany l sl p k := by rw [jmany, if_neg (by unfold jend; omega), Nat.add_zero]
      rw [e1, e2]
      exact ih
    · obtain ⟨t, rfl⟩ : ∃ t, p = (jall l sl k).length + t := ⟨p - (jall l sl k).length, by omega⟩
      have e1 : (jall l sl (k + 1)).take ((jall l sl k).length + t) = jall l sl k ++ (cutF 3 ((jall l sl k).length % 50 : Nat) (l.getD k []) ++ (if sl k then [sealFr] else [])).take t := by
        rw [jall, List.take_length_add_append]
      have hmk : jmany l sl ((jall l sl k).length + t) k = k := jmany_all l sl _ k (by omega)
      have hJ : ∀ m, m < k → jend l sl m ≤ (jall l sl k).length := by
        intro m hm
        have mono : ∀ a b, a ≤ b → (jall l sl a).length ≤ (jall l sl b).length := by
          intro a b hab
          induction hab with
          | refl => exact Nat.le_refl _
          | step _ ih => refine Nat.le_trans ih ?_; rw [jall_succ_length]; unfold jend; omega
        have h1 := mono (m + 1) k hm
        rw [jall_succ_length] at h1
        omega
      rw [e1, run_jall hl k (by omega)]
      by_cases htn : t < need (l.getD k []).length
      · have e2 : (cutF 3 ((jall l sl k).length % 50 : Nat) (l.getD k []) ++ (if sl k then [sealFr] else [])).take t = (cutF 3 ((jall l sl k).length % 50 : Nat) (l.getD k [])).take t :=
          List.take_append_of_le_length (by rw [cutF_length]; omega)
        have e3 : jmany l sl ((jall l sl k).length + t) (k + 1) = k := by rw [jmany, hmk, if_neg (by unfold jend; omega), Nat.add_zero]
        rw [e2, e3, (run_cut 3 _ _ (by omega) (by omega) (by omega) _ rfl t htn).1]
        refine ⟨rfl, by simp, ?_⟩
        rcases Nat.eq_zero_or_pos k with h0 | h0
        · exact .inl h0
        · exact .inr (hJ (k - 1) (by omega))
      · have e3 : jmany l sl ((jall l sl k).length + t) (k + 1) = k + 1 := by rw [jmany, hmk, if_pos (by unfold jend; omega)]
        have e2 : (cutF 3 ((jall l sl k).length % 50 : Nat) (l.getD k []) ++ (if sl k then [sealFr] else [])).take t = cutF 3 ((jall l sl k).length % 50 : Nat) (l.getD k []) ++ (if sl k then [sealFr] else []).take (t - need (l.getD k []).length) := by
          rw [List.take_append, cutF_length, List.take_of_length_le (by rw [cutF_length]; omega)]
        have ht : l.take (k + 1) = l.take k ++ [l.getD k []] := by
          rw [List.take_succ_eq_append_getElem (by omega)]
          simp [List.getD_eq_getElem?_getD, List.getElem?_eq_getElem (show k < l.length by omega)]
        rw [e2, e3, run_cut_all 3 _ _ (by omega) (by omega) (by omega) _ rfl, ht, Nat.add_sub_cancel]
        cases hs : sl k with
        | false =>
          rw [hs] at hlen
          have : t = need (l.getD k []).length := by unfold jend at hlen; simp only [if_true, if_false, Bool.false_eq_true] at hlen; omega
          subst this
          simp [Js.run, jend]
        | true =>
          rw [hs] at hlen
          rcases Nat.lt_or_ge (need (l.getD k []).length) t with hgt | hge
          · have : t = need (l.getD k []).length + 1 := by unfold jend at hlen; simp only [if_true, if_false, Bool.false_eq_true] at hlen; omega
            subst this
            rw [Nat.add_sub_cancel_left]
            simp only [if_true, List.take_succ_cons, List.take_zero]
            rw [Js.run_some (Js.step_seal sealFr_right rfl rfl), Js.run_nil]
            refine ⟨rfl, ?_, .inr ?_⟩
            · simp only; omega
            · simp only [Nat.add_sub_cancel, jend]; omega
          · have : t = need (l.getD k []).length := by omega
            subst this
            simp [Js.run, jend]

theorem joinF_jall (hl : ∀ k, (l.getD k []).length ≤ 300) (k : Nat) (hk : k ≤ l.length) : joinF (jall l sl k) = (l.take k, (jall l sl k).length) := by
  have := run_jall (sl := sl) hl k hk []
  rw [List.append_nil] at this
  simp [joinF, this, Js.run]
end
end Go.Proofs.Ytlgefjcfnnjkbaa
