/- Frames on a disk, in plain terms: batches one behind the other; one byte that rots; a power loss. No program is named; no conditions. -/
import Derived.Test.YtlgefjcfnnjkbaaItems
import Derived.Test.YtlgefjcfnnjkbaaDiskV
namespace Go.Proofs.Ytlgefjcfnnjkbaa

def noFr : Fr := { e := 0, a := 0, k := 0, s := [] }
/-- batches alone, as frames from place 0 on -/
def batches (e : Int) (L : List (List UInt8)) : List Fr := items e 0 (L.map some)
def bLen (L : List (List UInt8)) : Nat := iLen (L.map some)
theorem batches_length (e : Int) (L : List (List UInt8)) : (batches e L).length = bLen L := items_length e _ 0
theorem batches_succ (e : Int) (L : List (List UInt8)) (k : Nat) (h : k < L.length) : batches e (L.take (k + 1)) = batches e (L.take k) ++ cutF e ((bLen (L.take k) : Nat) : Int) (L.getD k []) := by
  have e1 : L.take (k + 1) = L.take k ++ [L.getD k []] := by
    rw [List.take_succ_eq_append_getElem h]
    simp [List.getD_eq_getElem?_getD, List.getElem?_eq_getElem h]
  unfold batches bLen
  rw [e1, List.map_append, items_append, Nat.zero_add]
  simp [items]
theorem bLen_succ (L : List (List UInt8)) (k : Nat) (h : k < L.length) : bLen (L.take (k + 1)) = bLen (L.take k) + need (L.getD k []).length := by
  have h1 := congrArg List.length (batches_succ 1 L k h)
  rwa [List.length_append, batches_length, batches_length, cutF_length] at h1
theorem bLen_le (L : List (List UInt8)) (hL : ∀ k, (L.getD k []).length ≤ 150) : ∀ k, k ≤ L.length → bLen (L.take k) ≤ 3 * k
  | 0, _ => by simp [bLen, iLen]
  | k + 1, h => by
    have ih := bLen_le L hL k (by omega)
    have h2 := hL k
    have hn : need (L.getD k []).length ≤ 3 := by unfold need; omega
    rw [bLen_succ L k (by omega)]; omega
theorem bLen_mono (L : List (List UInt8)) (a b : Nat) (h : a ≤ b) : bLen (L.take a) ≤ bLen (L.take b) := by
  have := iLen_mono (L.map some) a b h
  unfold bLen
  rwa [List.map_take, List.map_take]
theorem batches_get (e : Int) (he : 1 ≤ e ∧ e ≤ 16777215) (L : List (List UInt8)) (h : bLen L ≤ 64) (i : Nat) (hi : i < bLen L) :
    ((batches e L).getD i noFr).right = true ∧ ((batches e L).getD i noFr).a = (i : Int) := by
  have hl := batches_length e L
  have hg := items_get e he (L.map some) 0 (by unfold bLen at h; omega) i (by rw [items_length]; exact hi)
  have e1 : (batches e L).getD i noFr = (items e 0 (L.map some))[i]'(by rw [items_length]; exact hi) := by
    rw [List.getD_eq_getElem?_getD]
    unfold batches
    rw [List.getElem?_eq_getElem (by rw [items_length]; exact hi)]; rfl
  rw [e1]
  exact ⟨hg.1, by rw [hg.2.2.1, Nat.zero_add]⟩
theorem filter_some (L : List (List UInt8)) : (L.map some).filterMap id = L := by
  rw [List.filterMap_map]
  simp
/-- cut off anywhere: a beginning of the batches -/
theorem batches_take (e : Int) (he : 1 ≤ e ∧ e ≤ 16777215) (L : List (List UInt8)) (h : bLen L ≤ 64) (p : Nat) (hp : p ≤ bLen L) :
    ∃ m, m ≤ L.length ∧ joinF ((batches e L).take p) = (L.take m, bLen (L.take m)) ∧ bLen (L.take m) ≤ p ∧ ∀ j, j ≤ L.length → bLen (L.take j) ≤ p → j ≤ m := by
  obtain ⟨m, h1, h2, h3, h4⟩ := joinF_take e he (L.map some) 0 p (by unfold bLen at h; omega) hp
  rw [List.length_map] at h1 h4
  rw [← List.map_take, filter_some] at h2
  refine ⟨m, h1, h2, by unfold bLen; rw [List.map_take]; exact h3, fun j hj hjp => ?_⟩
  rcases Nat.lt_or_ge m j with hlt | hge
  · have h5 := h4 (by omega)
    have h6 := bLen_mono L (m + 1) j hlt
    have h7 : bLen (L.take (m + 1)) = iLen ((L.map some).take (m + 1)) := by unfold bLen; rw [List.map_take]
    omega
  · exact hge

/-- frames put into the sectors from 0 on -/
def putTo (d : D) (A : List Fr) : Nat → D
  | 0 => d
  | k + 1 => (putTo d A k).write k (A.getD k noFr).lay
theorem putTo_facts (d : D) (A : List Fr) (hc : d.cut = false) : ∀ k, (putTo d A k).kept = d.kept ∧ (putTo d A k).cut = false ∧ (putTo d A k).pend.length = d.pend.length + k
  | 0 => ⟨rfl, hc, rfl⟩
  | k + 1 => by
    obtain ⟨h1, h2, h3⟩ := putTo_facts d A hc k
    simp only [putTo]
    exact ⟨by rw [D.write_kept, h1], by simp only [D.write, D.spent_cut, h2], by rw [D.write_pend, List.length_append, h3]; simp; omega⟩
theorem putTo_there (d : D) (A : List Fr) : ∀ k j, (putTo d A k).there j = if j < k then (A.getD j noFr).lay else d.there j
  | 0, j => by simp [putTo]
  | k + 1, j => by
    simp only [putTo]
    rw [D.there_write, putTo_there d A k j]
    by_cases e : k = j
    · subst e; simp
    · rw [if_neg e]
      by_cases h : j < k
      · rw [if_pos h, if_pos (by omega)]
      · rw [if_neg h, if_neg (by omega)]

theorem noughts_none : readF noughts = none := by
  have : (Fr.of noughts).right = false := by decide +kernel
  unfold readF
  rw [if_neg (by rw [this]; simp)]

/-- a frames are written, one behind the other; those ahead of s are synced -/
structure FdD (A : List Fr) (a s : Nat) (d : D) : Prop where
  len : d.kept.length = 64
  cut : d.cut = false
  there : ∀ i, i < 64 → d.there i = if i < a then (A.getD i noFr).lay else noughts
  pend : ∀ x ∈ d.pend, s ≤ x.1 ∧ x.1 < a ∧ x.2 = (A.getD x.1 noFr).lay ∧ d.kept.getD x.1 [] = noughts
  few : d.pend.length ≤ a
theorem FdD.new (A : List Fr) : FdD A 0 0 (D.new 64) := ⟨by simp [D.new], rfl, fun i hi => by rw [D.new_there 64 i hi, if_neg (by omega)], fun x hx => by simp [D.new] at hx, by simp [D.new]⟩
theorem FdD.write {A : List Fr} {a s : Nat} {d : D} (h : FdD A a s d) (ha : a < 64) (hs : s ≤ a) : FdD A (a + 1) s (d.write a (A.getD a noFr).lay) := by
  refine ⟨by rw [D.write_kept]; exact h.len, by simp only [D.write, D.spent_cut]; exact h.cut, fun i hi => ?_, fun x hx => ?_, by rw [D.write_pend, List.length_append]; have := h.few; simp; omega⟩
  · rw [D.there_write, h.there i hi]
    by_cases e : a = i
    · subst e; simp
    · rw [if_neg e]
      by_cases h2 : i < a
      · rw [if_pos h2, if_pos (by omega)]
      · rw [if_neg h2, if_neg (by omega)]
  · rw [D.write_kept]
    rw [D.write_pend] at hx
    rcases List.mem_append.1 hx with hx | hx
    · obtain ⟨h1, h2, h3, h4⟩ := h.pend x hx
      exact ⟨h1, by omega, h3, h4⟩
    · rw [List.mem_singleton] at hx
      subst hx
      refine ⟨hs, by simp, rfl, ?_⟩
      have h5 := h.there a ha
      rw [if_neg (by omega), D.there_nopend d a (fun y hy => by have := (h.pend y hy).2.1; omega)] at h5
      exact h5
theorem FdD.sync {A : List Fr} {a s : Nat} {d : D} (h : FdD A a s d) : FdD A a a d.sync :=
  ⟨by rw [D.sync_len]; exact h.len, by simp only [D.sync, D.spent_cut]; exact h.cut, fun i hi => by rw [D.there_sync d i (by rw [h.len]; exact hi)]; exact h.there i hi, fun x hx => by simp [D.sync] at hx, by simp [D.sync]⟩
/-- behind a power loss: those that are synced, and no others but frames and noughts -/
theorem FdD.crash {A : List Fr} {a s : Nat} {d : D} (h : FdD A a s d) (hs : s ≤ a) (L : List Nat) (hL : ∀ x ∈ L, x < d.pend.length) (i : Nat) (hi : i < 64) :
    (i < a ∧ (d.crash L).there i = (A.getD i noFr).lay) ∨ (s ≤ i ∧ (d.crash L).there i = noughts) := by
  by_cases hp : ∀ x ∈ d.pend, x.1 ≠ i
  · rw [D.there_crash_none d i L hL hp, h.there i hi]
    by_cases h2 : i < a
    · exact .inl ⟨h2, if_pos h2⟩
    · exact .inr ⟨by omega, if_neg h2⟩
  · obtain ⟨x, hx⟩ := Classical.not_forall.1 hp
    obtain ⟨hx, hxi⟩ := Classical.not_imp.1 hx
    have hxi : x.1 = i := Classical.byContradiction hxi
    obtain ⟨h1, h2, h3, h4⟩ := h.pend x hx
    rcases D.there_crash d i L hL with h5 | ⟨y, hy, hyi, h5⟩
    · exact .inr ⟨by omega, by rw [h5, ← hxi]; exact h4⟩
    · obtain ⟨g1, g2, g3, g4⟩ := h.pend y hy
      exact .inl ⟨by omega, by rw [h5, g3, hyi]⟩
theorem nodup_le : ∀ (n : Nat) (l : List Nat), l.Nodup → (∀ k ∈ l, k < n) → l.length ≤ n
  | 0, l, _, h => by
    cases l with
    | nil => simp
    | cons x l => have := h x (by simp); omega
  | n + 1, l, hn, h => by
    by_cases hm : n ∈ l
    · have h1 := nodup_le n (l.erase n) (hn.erase n) (fun k hk => by
        have h2 := (hn.mem_erase_iff).1 hk
        have := h k h2.2
        have := h2.1
        omega)
      rw [List.length_erase_of_mem hm] at h1
      omega
    · have h1 := nodup_le n l hn (fun k hk => by
        have := h k hk
        have : k ≠ n := fun e => hm (e ▸ hk)
        omega)
      omega
end Go.Proofs.Ytlgefjcfnnjkbaa
