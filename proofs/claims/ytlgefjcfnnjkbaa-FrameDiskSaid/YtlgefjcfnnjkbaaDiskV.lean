/- What stands in a disk's sectors behind writes, syncs, power losses and rot. Plain; no program is named; no conditions. -/
import Derived.Test.YtlgefjcfnnjkbaaDiskM
namespace Go.Proofs.Ytlgefjcfnnjkbaa
namespace D

theorem write_kept (d : D) (k : Nat) (s : List UInt8) : (d.write k s).kept = d.kept := by simp [write, spent_kept]
theorem write_pend (d : D) (k : Nat) (s : List UInt8) : (d.write k s).pend = d.pend ++ [(k, s)] := by simp [write]
theorem there_write (d : D) (k : Nat) (s : List UInt8) (j : Nat) : (d.write k s).there j = if k = j then s else d.there j := by
  simp only [there, write, spent_kept, List.reverse_append, List.reverse_cons, List.reverse_nil, List.nil_append, List.singleton_append, List.find?_cons]
  by_cases h : k = j
  · subst h; simp
  · have : (k == j) = false := by simpa using h
    rw [this, if_neg h]
theorem there_nopend (d : D) (k : Nat) (h : ∀ x ∈ d.pend, x.1 ≠ k) : d.there k = d.kept.getD k [] := by
  unfold there
  rw [List.find?_eq_none.2 (by intro y hy; simpa using h y (by simpa using hy))]
  rfl
/-- the last of the writes of a sector counts -/
theorem lay_find (kept : List (List UInt8)) (k : Nat) (hk : k < kept.length) (r : List (Nat × List UInt8)) : ∀ pend : List (Nat × List UInt8), pend.reverse = r → (pend.foldl layK kept).length = kept.length ∧
    (pend.foldl layK kept).getD k [] = ((r.find? (fun x => x.1 == k)).map (·.2)).getD (kept.getD k []) := by
  induction r with
  | nil =>
    intro pend hp
    rw [List.reverse_eq_nil_iff.1 hp]; exact ⟨rfl, rfl⟩
  | cons x r ih =>
    intro pend hp
    have hp' : pend = r.reverse ++ [x] := by rw [← List.reverse_reverse pend, hp, List.reverse_cons]
    obtain ⟨hl, h2⟩ := ih r.reverse (List.reverse_reverse r)
    rw [hp', List.foldl_append, List.foldl_cons, List.foldl_nil, List.find?_cons]
    generalize List.foldl layK kept r.reverse = kk at hl h2
    refine ⟨by rw [layK_length, hl], ?_⟩
    by_cases e : x.1 = k
    · subst e
      simp only [beq_self_eq_true, Option.map_some, Option.getD_some, layK]
      rw [List.getD_eq_getElem?_getD, List.getElem?_set, if_pos rfl, if_pos (by omega)]; rfl
    · have e' : (x.1 == k) = false := by simpa using e
      rw [e', layK, List.getD_eq_getElem?_getD, List.getElem?_set, if_neg e, ← List.getD_eq_getElem?_getD]
      exact h2
theorem layAll_whole (d : D) : d.layAll (List.range d.pend.length) = d.pend.foldl layK d.kept := by
  unfold D.layAll
  have h : d.pend = (List.range d.pend.length).map fun i => d.pend.getD i (0, []) := by
    apply List.ext_getElem
    · simp
    · intro i h1 h2
      simp [List.getD_eq_getElem?_getD, h1]
  have h' := congrArg (fun l => l.foldl layK d.kept) h
  simp only [List.foldl_map] at h'
  exact h'.symm
theorem sync_len (d : D) : d.sync.kept.length = d.kept.length := by simp only [sync, layAll_length]
theorem there_sync (d : D) (k : Nat) (hk : k < d.kept.length) : d.sync.there k = d.there k := by
  have h := (lay_find d.kept k hk _ d.pend rfl).2
  simp only [there, sync, List.reverse_nil, List.find?_nil, Option.map_none, Option.getD_none]
  rw [layAll_whole, h]
theorem crash_len (d : D) (L : List Nat) : (d.crash L).kept.length = d.kept.length := by simp only [crash, layAll_length]
theorem there_crash0 (d : D) (L : List Nat) (k : Nat) : (d.crash L).there k = (d.layAll L).getD k [] := by
  simp [there, crash]
/-- a sector behind a power loss: what was kept, or one of its writes -/
theorem there_crash (d : D) (k : Nat) : ∀ (L : List Nat), (∀ x ∈ L, x < d.pend.length) → ((d.crash L).there k = d.kept.getD k [] ∨ ∃ x ∈ d.pend, x.1 = k ∧ (d.crash L).there k = x.2) := by
  intro L hL
  rw [there_crash0]
  unfold layAll
  suffices h : ∀ (L : List Nat) (kept : List (List UInt8)), (∀ x ∈ L, x < d.pend.length) → (L.foldl (fun kept j => layK kept (d.pend.getD j (0, []))) kept).getD k [] = kept.getD k [] ∨
      ∃ x ∈ d.pend, x.1 = k ∧ (L.foldl (fun kept j => layK kept (d.pend.getD j (0, []))) kept).getD k [] = x.2 from h L d.kept hL
  intro L
  induction L with
  | nil => intro kept _; exact .inl rfl
  | cons j L ih =>
    intro kept hL
    have hj := hL j (by simp)
    have hp : d.pend.getD j (0, []) = d.pend[j] := by simp [hj]
    rw [List.foldl_cons, hp]
    rcases ih (layK kept d.pend[j]) (fun x hx => hL x (by simp [hx])) with h | h
    · rw [h]
      unfold layK
      by_cases e : d.pend[j].1 = k
      · by_cases hk : k < kept.length
        · refine .inr ⟨d.pend[j], List.getElem_mem hj, e, ?_⟩
          rw [List.getD_eq_getElem?_getD, List.getElem?_set, if_pos e, if_pos (by omega)]; rfl
        · refine .inl ?_
          rw [List.getD_eq_getElem?_getD, List.getElem?_set, if_pos e, if_neg (by omega), List.getD_eq_getElem?_getD, List.getElem?_eq_none (by omega)]
      · refine .inl ?_
        rw [List.getD_eq_getElem?_getD, List.getElem?_set, if_neg e, ← List.getD_eq_getElem?_getD]
    · exact .inr h
theorem there_crash_none (d : D) (k : Nat) (L : List Nat) (hL : ∀ x ∈ L, x < d.pend.length) (h : ∀ x ∈ d.pend, x.1 ≠ k) : (d.crash L).there k = d.there k := by
  rw [there_nopend d k h]
  rcases there_crash d k L hL with h1 | ⟨x, hx, e, _⟩
  · exact h1
  · exact absurd e (h x hx)
theorem there_rot (d : D) (hp : d.pend = []) (k p m j : Nat) (hk : k < d.kept.length) : (d.rot k p m).there j = if k = j then (d.there k).set p ((d.there k).getD p 0 ^^^ UInt8.ofNat m) else d.there j := by
  simp only [there, rot, hp, List.reverse_nil, List.find?_nil, Option.map_none, Option.getD_none]
  by_cases e : k = j
  · subst e
    rw [if_pos rfl, List.getD_eq_getElem?_getD, List.getElem?_set_self hk]; rfl
  · rw [if_neg e, List.getD_eq_getElem?_getD, List.getElem?_set, if_neg e, ← List.getD_eq_getElem?_getD]
theorem new_there (n k : Nat) (h : k < n) : (D.new n).there k = noughts := by
  simp [there, new, List.getD_eq_getElem?_getD, h]
end D
theorem xor_other (a : UInt8) (n : Nat) (h1 : 1 ≤ n) (h2 : n ≤ 255) : a ^^^ UInt8.ofNat n ≠ a := by
  intro h
  have h3 : a ^^^ (a ^^^ UInt8.ofNat n) = a ^^^ a := by rw [h]
  rw [← UInt8.xor_assoc, UInt8.xor_self, UInt8.zero_xor] at h3
  have := congrArg UInt8.toNat h3
  simp at this
  omega
end Go.Proofs.Ytlgefjcfnnjkbaa
