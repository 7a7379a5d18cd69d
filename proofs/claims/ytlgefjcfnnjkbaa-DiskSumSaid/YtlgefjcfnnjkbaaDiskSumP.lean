/- DiskSum, in plain terms. No program. -/
import Derived.Test.YtlgefjcfnnjkbaaDM2
namespace Go.Proofs.Ytlgefjcfnnjkbaa
open Go.RowKit

/-- the calls of other sectors -/
def otherL (a : List Cl) (k j : Nat) : List Cl := (a.take j).filter fun c => (pickI c.at_ 6).toNat != k
theorem otherL_succ (a : List Cl) (k j : Nat) (h : j < a.length) : otherL a k (j + 1) = otherL a k j ++ (if (pickI a[j].at_ 6).toNat = k then [] else [a[j]]) := by
  unfold otherL
  rw [List.take_succ_eq_append_getElem h, List.filter_append]
  congr 1
  by_cases e : (pickI a[j].at_ 6).toNat = k
  · simp [e]
  · simp [e]
theorem otherL_length (a : List Cl) (k j : Nat) : (otherL a k j).length ≤ j := by
  unfold otherL
  refine Nat.le_trans (List.length_filter_le _ _) ?_
  rw [List.length_take]; omega
theorem otherL_mem (a : List Cl) (k j : Nat) : ∀ c ∈ otherL a k j, c ∈ a ∧ (pickI c.at_ 6).toNat ≠ k := by
  intro c hc
  unfold otherL at hc
  obtain ⟨h1, h2⟩ := List.mem_filter.1 hc
  exact ⟨List.mem_of_mem_take h1, by simpa using h2⟩
theorem fillTo_pend_o (l : List Cl) (d : D) : ∀ k, k ≤ l.length → (fillTo d l k).pend = d.pend ++ (l.take k).map fun c => ((pickI c.at_ 6).toNat, fullL c.s)
  | 0, _ => by simp [fillTo]
  | k + 1, h => by
    rw [fillTo_succ d l k (by omega), List.take_succ_eq_append_getElem (by omega), List.map_append]
    simp only [wrC, D.write]
    rw [fillTo_pend_o l d k (by omega), List.append_assoc]; rfl
theorem filledD_none (a b : List Cl) (k : Nat) (h : ∀ c ∈ b, (pickI c.at_ 6).toNat ≠ k) : ∀ x ∈ (filledD a b).pend, x.1 ≠ k := by
  intro x hx
  unfold filledD at hx
  rw [fillTo_pend_o b _ (min 8 b.length) (by omega)] at hx
  obtain ⟨c, hc, rfl⟩ := List.mem_map.1 (show x ∈ (b.take (min 8 b.length)).map _ from hx)
  exact h c (List.mem_of_mem_take hc)
theorem there_kept (d : D) (k : Nat) (h : ∀ x ∈ d.pend, x.1 ≠ k) : d.there k = d.kept.getD k [] := by
  unfold D.there
  rw [List.find?_eq_none.2 (by intro y hy; simpa using h y (by simpa using hy))]
  rfl
theorem lay_none (pend : List (Nat × List UInt8)) (k : Nat) (h : ∀ x ∈ pend, x.1 ≠ k) : ∀ (L : List Nat) (kept : List (List UInt8)), (∀ x ∈ L, x < pend.length) →
    (L.foldl (fun kept j => layK kept (pend.getD j (0, []))) kept).getD k [] = kept.getD k []
  | [], _, _ => rfl
  | x :: L, kept, hx => by
    have hxl := hx x (by simp)
    have hpx : pend.getD x (0, []) = pend[x] := by simp [hxl]
    rw [List.foldl_cons, lay_none pend k h L _ (fun y hy => hx y (by simp [hy])), hpx, layK, List.getD_eq_getElem?_getD, List.getElem?_set, if_neg (h _ (List.getElem_mem hxl)), ← List.getD_eq_getElem?_getD]
/-- a sector that nobody writes is what it was -/
theorem crash_none (d : D) (k : Nat) (h : ∀ x ∈ d.pend, x.1 ≠ k) (L : List Nat) (hL : ∀ x ∈ L, x < d.pend.length) : (d.crash L).there k = d.there k := by
  rw [there_kept d k h]
  exact lay_none d.pend k h L d.kept hL
theorem rot_there (d : D) (hp : d.pend = []) (k p m : Nat) (hk : k < d.kept.length) : (d.rot k p m).there k = (d.there k).set p ((d.there k).getD p 0 ^^^ UInt8.ofNat m) := by
  have e : d.there k = d.kept.getD k [] := by simp [D.there, hp]
  rw [e]
  simp only [D.there, D.rot, hp, List.reverse_nil, List.find?_nil, Option.map_none, Option.getD_none]
  rw [List.getD_eq_getElem?_getD, List.getElem?_set_self hk]; rfl
theorem xor_ne (a : UInt8) (n : Nat) (h1 : 1 ≤ n) (h2 : n ≤ 255) : a ^^^ UInt8.ofNat n ≠ a := by
  intro h
  have h3 : a ^^^ (a ^^^ UInt8.ofNat n) = a ^^^ a := by rw [h]
  rw [← UInt8.xor_assoc, UInt8.xor_self, UInt8.zero_xor] at h3
  have := congrArg UInt8.toNat h3
  simp at this
  omega
end Go.Proofs.Ytlgefjcfnnjkbaa
