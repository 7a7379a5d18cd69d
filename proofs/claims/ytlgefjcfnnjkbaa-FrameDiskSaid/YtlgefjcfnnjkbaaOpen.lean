/- A slice of frames that came in, as a list of frames. No conditions. -/
import Derived.Test.YtlgefjcfnnjkbaaApp2
namespace Go.Proofs.Ytlgefjcfnnjkbaa
open Go.ChangeShapes Go.WideShapes Go.ChangeAt Go.RowKit Go.Joins Go.Deep

theorem exists_list {α : Type} {p : Nat → α → Prop} : ∀ (n : Nat), (∀ i, i < n → ∃ f, p i f) → ∃ l : List α, l.length = n ∧ ∀ i (h : i < l.length), p i l[i]
  | 0, _ => ⟨[], rfl, fun i h => by simp at h⟩
  | n + 1, h => by
    obtain ⟨l, hl, hp⟩ := exists_list n (fun i hi => h i (by omega))
    obtain ⟨f, hf⟩ := h n (by omega)
    refine ⟨l ++ [f], by simp [hl], fun i hi => ?_⟩
    by_cases e : i < l.length
    · rw [List.getElem_append_left e]; exact hp i e
    · have : i = n := by simp at hi; omega
      subst this
      rw [List.getElem_append_right (by omega)]
      simp only [hl, Nat.sub_self, List.getElem_cons_zero]
      exact hf

section
variable {H : Type} {enc : TypeId × Value → H} {W : World} {base : Nat}
theorem trod4_cells {t : TypeId} {f0 f1 f2 f3 : Field} {n : Nat} {c0 c1 c2 c3 : Value} {x : DataW H × List MemPlace} (hs : Try.prog.underlying t = some (.struct #[f0, f1, f2, f3])) (hone : oneCellFields Try.prog #[f0, f1, f2, f3] = true)
    (h : DataW.trod enc Try.prog W base (fun _ => true) true n t [c0, c1, c2, c3] = some x) :
    ∃ (y0 y1 y2 y3 : DataW H × List MemPlace) (m : Nat), DataW.trod enc Try.prog W base (fun _ => true) true m f0.type [c0] = some y0 ∧ DataW.trod enc Try.prog W base (fun _ => true) true m f1.type [c1] = some y1 ∧
      DataW.trod enc Try.prog W base (fun _ => true) true m f2.type [c2] = some y2 ∧ DataW.trod enc Try.prog W base (fun _ => true) true m f3.type [c3] = some y3 := by
  obtain ⟨y0, y1, y2, y3, m, _, _, h0, h1, h2, h3⟩ := trod_struct4 hs h
  obtain ⟨o0, k0⟩ := hone_of hone 0 f0 rfl
  obtain ⟨o1, k1⟩ := hone_of hone 1 f1 rfl
  obtain ⟨o2, k2⟩ := hone_of hone 2 f2 rfl
  obtain ⟨o3, k3⟩ := hone_of hone 3 f3 rfl
  exact ⟨y0, y1, y2, y3, m, by simpa [o0, k0] using h0, by simpa [o1, k1] using h1, by simpa [o2, k2] using h2, by simpa [o3, k3] using h3⟩

theorem frame_of_cells {n : Nat} {cs : List Value} {x : DataW H × List MemPlace} (h : DataW.trod enc Try.prog W base (fun _ => true) true n 23 cs = some x) (hl : cs.length = 4) : ∃ f : Fr, cs = f.cells ∧ f.Wf := by
  match cs, hl with
  | [c0, c1, c2, c3], _ =>
    obtain ⟨y0, y1, y2, y3, m, h0, h1, h2, h3⟩ := trod4_cells Try.underlying23 (by kernel_rfl) h
    obtain ⟨e, he, _, we⟩ := DataW.trod_int Try.underlying3 h0
    obtain ⟨a, ha, _, wa⟩ := DataW.trod_int Try.underlying3 h1
    obtain ⟨k, hk, _, wk⟩ := DataW.trod_int Try.underlying3 h2
    obtain ⟨s, hs, _, ws⟩ := DataW.trod_string Try.underlying9 h3
    simp only [List.cons.injEq, and_true] at he ha hk hs
    subst he ha hk hs
    exact ⟨⟨e, a, k, s.data.toList⟩, rfl, ⟨bounds_i64 we, bounds_i64 wa, bounds_i64 wk, by simpa using ws⟩⟩

theorem law_frames {r : Reach} {b0 : Nat} {v : Value} {d : DataW H} {ps : List MemPlace} (hval : Value.okWide Try.prog W r b0 35 v) (hd : DataW.Trod enc Try.prog W base (fun _ => true) true 35 v d ps) :
    ∃ (l : List Fr) (ao : Option Addr) (cap : Nat), SliceOf W v l.length (frs l) ao cap ∧ (∀ f ∈ l, f.Wf) ∧ l.length ≤ cap := by
  obtain ⟨a0, n0, c0, rfl⟩ := okWide_slice Try.underlying35 hval
  obtain ⟨fuel, hf⟩ := hd
  rcases open_slice Try.underlying35 hf with ⟨hcs, _⟩ | ⟨a, len, cap, m, n, D, Pl, hcs, hb, hl, hm, hmm, _, hi⟩
  · simp only [Value.cells, List.cons.injEq, and_true] at hcs
    rw [hcs]
    exact ⟨[], none, 0, ⟨rfl, by simp, fun j x hx => by simp [frs] at hx⟩, fun x hx => by (cases hx), Nat.le_refl _⟩
  · simp only [Value.cells, List.cons.injEq, and_true] at hcs
    rw [hcs]
    simp only [if_true] at hmm
    have hce : Try.prog.cellsOf 23 = 4 := by kernel_rfl
    rw [hce] at hi
    have each : ∀ i, i < len → ∃ f : Fr, f.Wf ∧ ∀ j u, f.cells[j]? = some u → W.cell? (a.add (i * 4 + j)) = some u := by
      intro i hil
      obtain ⟨cs', hc, ht⟩ := hi i (by omega)
      obtain ⟨_, hcl, hat⟩ := World.cells?_some hc
      obtain ⟨f, rfl, hw⟩ := frame_of_cells ht hcl
      refine ⟨f, hw, fun j u hu => ?_⟩
      have hj : j < 4 := by have := (List.getElem?_eq_some_iff.1 hu).1; simpa [Fr.cells] using this
      rw [← Go.Deep.add_add, hat j hj]
      exact hu
    obtain ⟨l, rfl, hp⟩ := exists_list len each
    refine ⟨l, some a, cap, ?_, ?_, by omega⟩
    · refine sliceOf_addr (by unfold maxLen at hm; omega) (fun j x hx => ?_)
      have hj : j < l.length * 4 := by
        have := (List.getElem?_eq_some_iff.1 hx).1
        rwa [frs_length] at this
      have hk : j / 4 < l.length := by omega
      have h4 : j % 4 < 4 := Nat.mod_lt _ (by decide)
      have hc4 : l[j / 4].cells[j % 4]? = some (l[j / 4].cells[j % 4]'h4) := List.getElem?_eq_getElem h4
      have e1 := frs_at l (j / 4) hk (j % 4) _ hc4
      have e2 := (hp (j / 4) hk).2 (j % 4) _ hc4
      rw [show j / 4 * 4 + j % 4 = j by omega] at e1 e2
      rw [e2, ← e1, hx]
    · intro f hf'
      obtain ⟨i, hi', rfl⟩ := List.getElem_of_mem hf'
      exact (hp i hi').1
end
end Go.Proofs.Ytlgefjcfnnjkbaa
