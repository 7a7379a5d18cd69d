/- What the calls of a disk leave there, in plain terms. No program. -/
import Derived.Test.YtlgefjcfnnjkbaaDK
import Derived.Test.YtlgefjcfnnjkbaaCalls
namespace Go.Proofs.Ytlgefjcfnnjkbaa
open Go.RowKit

theorem filledD_facts (a b : List Cl) : (filledD a b).kept.length = 6 ∧ (filledD a b).cut = false ∧ (filledD a b).pend.length = min 8 b.length := by
  have h0 : (D.new 6).cut = false := rfl
  obtain ⟨h1, h2, h3⟩ := fillTo_facts (D.new 6) a h0 (min 8 a.length) (by omega)
  have hk : (fillTo (D.new 6) a (min 8 a.length)).sync.kept.length = 6 := by simp only [D.sync, D.layAll_length, h1]; simp [D.new]
  have hc : (fillTo (D.new 6) a (min 8 a.length)).sync.cut = false := by simp only [D.sync, D.spent_cut]; exact h2
  have hp : (fillTo (D.new 6) a (min 8 a.length)).sync.pend.length = 0 := rfl
  obtain ⟨h4, h5, h6⟩ := fillTo_facts _ b hc (min 8 b.length) (by omega)
  exact ⟨by unfold filledD; rw [h4]; exact hk, h5, by unfold filledD; rw [h6, hp]; omega⟩
theorem filledD_kept (a b : List Cl) : (filledD a b).kept = (filledD a []).kept := by
  have h0 : (D.new 6).cut = false := rfl
  obtain ⟨h1, h2, h3⟩ := fillTo_facts (D.new 6) a h0 (min 8 a.length) (by omega)
  have hc : (fillTo (D.new 6) a (min 8 a.length)).sync.cut = false := by simp only [D.sync, D.spent_cut]; exact h2
  obtain ⟨h4, _, _⟩ := fillTo_facts _ b hc (min 8 b.length) (by omega)
  obtain ⟨h5, _, _⟩ := fillTo_facts _ [] hc (min 8 ([] : List Cl).length) (by simp)
  unfold filledD
  rw [h4, h5]
theorem filledD_nil_pend (a : List Cl) : (filledD a []).pend = [] := rfl

theorem fold_lay_length (pend : List (Nat × List UInt8)) : ∀ kept, (pend.foldl layK kept).length = kept.length := by
  induction pend with
  | nil => intro kept; rfl
  | cons x pend ih => intro kept; rw [List.foldl_cons, ih, D.layK_length]
/-- the last of the writes of a sector counts -/
theorem fold_lay (kept : List (List UInt8)) (k : Nat) (hk : k < kept.length) (r : List (Nat × List UInt8)) : ∀ pend : List (Nat × List UInt8), pend.reverse = r → (pend.foldl layK kept).getD k [] = ((r.find? (fun x => x.1 == k)).map (·.2)).getD (kept.getD k []) := by
  induction r with
  | nil =>
    intro pend hp
    rw [List.reverse_eq_nil_iff.1 hp]; rfl
  | cons x r ih =>
    intro pend hp
    have hp' : pend = r.reverse ++ [x] := by rw [← List.reverse_reverse pend, hp, List.reverse_cons]
    have hl := fold_lay_length r.reverse kept
    have := ih r.reverse (List.reverse_reverse r)
    rw [hp', List.foldl_append, List.foldl_cons, List.foldl_nil, List.find?_cons]
    generalize List.foldl layK kept r.reverse = kk at hl this
    by_cases e : x.1 = k
    · subst e
      simp only [beq_self_eq_true, Option.map_some, Option.getD_some, layK]
      rw [List.getD_eq_getElem?_getD, List.getElem?_set, if_pos rfl, if_pos (by omega)]; rfl
    · have e' : (x.1 == k) = false := by simpa using e
      rw [e', layK, List.getD_eq_getElem?_getD, List.getElem?_set, if_neg e, ← List.getD_eq_getElem?_getD]
      exact this
theorem layAll_range (d : D) : d.layAll (List.range d.pend.length) = d.pend.foldl layK d.kept := by
  unfold D.layAll
  have h : d.pend = (List.range d.pend.length).map fun i => d.pend.getD i (0, []) := by
    apply List.ext_getElem
    · simp
    · intro i h1 h2
      simp [List.getD_eq_getElem?_getD, h1]
  have h' := congrArg (fun l => l.foldl layK d.kept) h
  simp only [List.foldl_map] at h'
  exact h'.symm
/-- all that was written is kept -/
theorem crash_all (d : D) (k : Nat) (hk : k < d.kept.length) : (d.crash (List.range d.pend.length)).there k = d.there k := by
  simp only [D.there, D.crash, List.reverse_nil, List.find?_nil, Option.map_none, Option.getD_none]
  rw [layAll_range, fold_lay d.kept k hk _ d.pend rfl]
theorem sync_there (d : D) (k : Nat) (hk : k < d.kept.length) (ks : List Nat) (hks : ks = []) : (d.sync.crash ks).there k = d.there k := by
  subst hks
  simp only [D.there, D.crash, D.sync, D.layAll, List.reverse_nil, List.find?_nil, Option.map_none, Option.getD_none, List.foldl_nil]
  have := layAll_range d
  unfold D.layAll at this
  rw [this, fold_lay d.kept k hk _ d.pend rfl]
theorem allL_congr {d d' : D} (hl : d.kept.length = d'.kept.length) (h : ∀ k, k < d'.kept.length → d.there k = d'.there k) : allL d = allL d' := by
  unfold allL allTo
  rw [hl]
  congr 1
  apply List.map_congr_left
  intro k hk
  exact h k (List.mem_range.1 hk)
theorem allL_crash_all (d : D) : allL (d.crash (List.range d.pend.length)) = allL d :=
  allL_congr (by simp only [D.crash, D.layAll_length]) fun k hk => crash_all d k hk
theorem allL_sync (d : D) : allL (d.sync.crash []) = allL d :=
  allL_congr (by simp only [D.crash, D.sync, D.layAll_length]) fun k hk => sync_there d k hk [] rfl
theorem allL_none (a b : List Cl) : allL ((filledD a b).crash []) = allL (filledD a []) :=
  allL_congr (by simp only [D.crash, D.layAll_length, filledD_kept a b]) fun k _ => by
    simp only [D.there, D.crash, D.layAll, List.reverse_nil, List.find?_nil, Option.map_none, Option.getD_none, List.foldl_nil, filledD_nil_pend, filledD_kept a b]
theorem crashOk_nats (m : Nat) (l : List Nat) (h : (∀ k ∈ l, k < m) ∧ l.Nodup) : crashOk m (l.map fun (x : Nat) => (x : Int)) := by
  refine ⟨fun x hx => ?_, ?_⟩
  · obtain ⟨y, hy, rfl⟩ := List.mem_map.1 hx
    have := h.1 y hy
    omega
  · exact List.Pairwise.map _ (fun a b h => by omega) h.2
theorem nats_back (l : List Nat) : (l.map fun (x : Nat) => (x : Int)).map Int.toNat = l := by simp [List.map_map, Function.comp_def]
theorem ints_nil (w : World) : IntsAt w (.slice none 0 0) [] none 0 := ⟨rfl, by decide, fun j x h => by simp at h, fun x h => by simp at h⟩
theorem cls_nil (w : World) : SliceOf w (.slice none 0 0) ([] : List Cl).length (cls []) none 0 := ⟨rfl, by decide, fun j x h => by simp [cls] at h⟩
theorem crashOk_nil (m : Nat) : crashOk m [] := ⟨fun x h => by simp at h, by simp⟩
end Go.Proofs.Ytlgefjcfnnjkbaa
