/- Frames on a disk, in plain terms: batches one behind the other; one byte that rots; a power loss. No program is named; no conditions. -/
import Derived.Test.YtlgefjcfnnjkbaaItems
import Derived.Test.YtlgefjcfnnjkbaaDiskV
namespace Go.Proofs.Ytlgefjcfnnjkbaa

def noFr : Fr := { e := 0, a := 0, k := 0, s := [] }
/-- batches alone, as frames from place 0 on -/
def batches (e : Int) (L : List (List UInt8)) : List Fr := items e 0 (L.map some)
def bLen (L : List (List UInt8)) : Nat := iLen (L.map some)
theorem batches_length (e : Int) (L : List (List UInt8)) : (batches e L).length = bLen L := items_length e _ 0
theorem batches_succ (e : Int) (L : List (List UInt8)) (k : Nat) (h : k < L.length) : batches e (L.take (k + 1)) = batches e (L.take k) ++ cutF e ((bLen (L.take k) : Nat) : Int) (L.getD k []) := by
  have e1 : L.take (k + 1) = L.take k ++ [L.getD k []] := by
    rw [List.take_succ_eq_append_getElem h]
    simp [List.getD_eq_getElem?_getD, List.getElem?_eq_getElem h]
  unfold batches bLen
  rw [e1, List.map_append, items_append, Nat.zero_add]
  simp [items]
theorem bLen_succ (L : List (List UInt8)) (k : Nat) (h : k < L.length) : bLen (L.take (k + 1)) = bLen (L.take k) + need (L.getD k []).length := by
  have h1 := congrArg List.length (batches_succ 1 L k h)
  rwa [List.length_append, batches_length, batches_length, cutF_length] at h1
theorem bLen_le (L : List (List UInt8)) (hL : ∀ k, (L.getD k []).length ≤ 150) : ∀ k, k ≤ L.length → bLen (L.take k) ≤ 3 * k
  | 0, _ => by simp [bLen, iLen]
  | k + 1, h => by
    have ih := bLen_le L hL k (by omega)
    have h2 := hL k
    have hn : need (L.getD k []).length ≤ 3 := by unfold need; omega
    rw [bLen_succ L k (by omega)]; omega
theorem bLen_mono (L : List (List UInt8)) (a b : Nat) (h : a ≤ b) : bLen (L.take a) ≤ bLen (L.take b) := by
  have := iLen_mono (L.map some) a b h
  unfold bLen
  rwa [List.map_take, List.map_take]
theorem batches_get (e : Int) (he : 1 ≤ e ∧ e ≤ 16777215) (L : List (List UInt8)) (h : bLen L ≤ 64) (i : Nat) (hi : i < bLen L) :
    ((batches e L).getD i noFr).right = true ∧ ((batches e L).getD i noFr).a = (i : Int) := by
  have hl := batches_length e L
  have hg := items_get e he (L.map some) 0 (by unfold bLen at h; omega) i (by rw [items_length]; exact hi)
  have e1 : (batches e L).getD i noFr = (items e 0 (L.map some))[i]'(by rw [items_length]; exact hi) := by
    rw [List.getD_eq_getElem?_getD]
    unfold batches
    rw [List.getElem?_eq_getElem (by rw [items_length]; exact hi)]; rfl
  rw [e1]
  exact ⟨hg.1, by rw [hg.2.2.1, Nat.zero_add]⟩
theorem filter_some (L : List (List UInt8)) : (L.map some).filterMap id = L := by
  rw [List.filterMap_map]
  simp
/-- cut off anywhere: a beginning of the batches -/
theorem batches_take (e : Int) (he : 1 ≤ e ∧ e ≤ 16777215) (L : List (List UInt8)) (h : bLen L ≤ 64) (p : Nat) (hp : p ≤ bLen L) :
    ∃ m, m ≤ L.length ∧ joinF ((batches e L).take p) = (L.take m, bLen (L.take m)) ∧ bLen (L.take m) ≤ p ∧ ∀ j, j ≤ L.length → bLen (L.take j) ≤ p → j ≤ m := by
  obtain ⟨m, h1, h2, h3, h4⟩ := joinF_take e he (L.map some) 0 p (by unfold bLen at h; omega) hp
  rw [List.length_map] at h1 h4
  rw [← List.map_take, filter_some] at h2
  refine ⟨m, h1, h2, by unfold bLen; rw [List.map_take]; exact h3, fun j hj hjp => ?_⟩
  rcases Nat.lt_or_ge m j with hlt | hge
  · have h5 := h4 (by omega)
    have h6 := bLen_mono L (m + 1) j hlt
    have h7 : bLen (L.take (m + 1)) = iLen ((L.map some).take (m + 1)) := by unfold bLen; rw [List.map_take]
    omega
  · exact hge

/-- frames put into the sectors from 0 on -/
def putTo (d : D) (A : List Fr) : Nat → D
  | 0 => d
  | k + 1 => (putTo d A k).write k (A.getD k noFr).lay
theorem putTo_facts (d : D) (A : List Fr) (hc : d.cut = false) : ∀ k, (putTo d A k).kept = d.kept ∧ (putTo d A k).cut = false ∧ (putTo d A k).pend.length = d.pend.length + k
  | 0 => ⟨rfl, hc, rfl⟩
  | k + 1 => by
    obtain ⟨h1, h2, h3⟩ := putTo_facts d A hc k
    simp only [putTo]
    exact ⟨by rw [D.write_kept, h1], by simp only [D.write, D.spent_cut, h2], by rw [D.write_pend, List.length_append, h3]; simp; omega⟩
theorem putTo_there (d : D) (A : List Fr) : ∀ k j, (putTo d A k).there j = if j < k then (A.getD j noFr).lay else d.there j
  | 0, j => by simp [putTo]
  | k + 1, j => by
    simp only [putTo]
    rw [D.there_write, putTo_there d A k j]
    by_cases e : k = j
    · subst e; simp
    · rw [if_neg e]
      by_cases h : j < k
      · rw [if_pos h, if_pos (by omega)]
      · rw [if_neg h, if_neg (by omega)]

theorem noughts_none : readF noughts = none := by
  have : (Fr.of noughts).right = false := by decide +kernel
  unfold readF
  rw [if_neg (by rw [this]; simp)]
end Go.Proofs.Ytlgefjcfnnjkbaa
