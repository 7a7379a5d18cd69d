/- A slice of calls that came in, as a list. No conditions. -/
import Derived.Test.YtlgefjcfnnjkbaaDL3
namespace Go.Proofs.Ytlgefjcfnnjkbaa
open Go.ChangeShapes Go.WideShapes Go.ChangeAt Go.RowKit Go.Joins Go.Deep

section
variable {H : Type} {enc : TypeId × Value → H} {W : World} {base : Nat}
theorem trod6_cells {t : TypeId} {f0 f1 f2 f3 f4 f5 : Field} {n : Nat} {c0 c1 c2 c3 c4 c5 : Value} {x : DataW H × List MemPlace} (hs : Try.prog.underlying t = some (.struct #[f0, f1, f2, f3, f4, f5])) (hone : oneCellFields Try.prog #[f0, f1, f2, f3, f4, f5] = true)
    (h : DataW.trod enc Try.prog W base (fun _ => true) true n t [c0, c1, c2, c3, c4, c5] = some x) :
    ∃ (y0 y1 y2 y3 y4 y5 : DataW H × List MemPlace) (m : Nat), DataW.trod enc Try.prog W base (fun _ => true) true m f0.type [c0] = some y0 ∧ DataW.trod enc Try.prog W base (fun _ => true) true m f1.type [c1] = some y1 ∧
      DataW.trod enc Try.prog W base (fun _ => true) true m f2.type [c2] = some y2 ∧ DataW.trod enc Try.prog W base (fun _ => true) true m f3.type [c3] = some y3 ∧
      DataW.trod enc Try.prog W base (fun _ => true) true m f4.type [c4] = some y4 ∧ DataW.trod enc Try.prog W base (fun _ => true) true m f5.type [c5] = some y5 := by
  obtain ⟨xs, m, _, rfl, _, hlen, hf⟩ := DataW.trod_struct hs h
  match xs, hlen with
  | [y0, y1, y2, y3, y4, y5], _ =>
    obtain ⟨o0, k0⟩ := hone_of hone 0 f0 rfl
    obtain ⟨o1, k1⟩ := hone_of hone 1 f1 rfl
    obtain ⟨o2, k2⟩ := hone_of hone 2 f2 rfl
    obtain ⟨o3, k3⟩ := hone_of hone 3 f3 rfl
    obtain ⟨o4, k4⟩ := hone_of hone 4 f4 rfl
    obtain ⟨o5, k5⟩ := hone_of hone 5 f5 rfl
    exact ⟨y0, y1, y2, y3, y4, y5, m, by simpa [o0, k0] using hf 0 f0 rfl, by simpa [o1, k1] using hf 1 f1 rfl, by simpa [o2, k2] using hf 2 f2 rfl, by simpa [o3, k3] using hf 3 f3 rfl, by simpa [o4, k4] using hf 4 f4 rfl, by simpa [o5, k5] using hf 5 f5 rfl⟩

theorem call_of_cells {n : Nat} {cs : List Value} {x : DataW H × List MemPlace} (h : DataW.trod enc Try.prog W base (fun _ => true) true n 61 cs = some x) (hl : cs.length = 6) : ∃ c : Cl, cs = c.cells ∧ c.Wf := by
  match cs, hl with
  | [c0, c1, c2, c3, c4, c5], _ =>
    obtain ⟨y0, y1, y2, y3, y4, y5, m, h0, h1, h2, h3, h4, h5⟩ := trod6_cells Try.underlying61 (by kernel_rfl) h
    obtain ⟨e, he, _, we⟩ := DataW.trod_int Try.underlying5 h0
    obtain ⟨a, ha, _, wa⟩ := DataW.trod_int Try.underlying3 h1
    obtain ⟨s, hs, _, ws⟩ := DataW.trod_string Try.underlying9 h2
    obtain ⟨b, hb, _, wb⟩ := DataW.trod_int Try.underlying3 h3
    obtain ⟨g, hg, _, wg⟩ := DataW.trod_int Try.underlying3 h4
    have hv : ∃ v : Value, [c5] = [v] ∧ v.oneCell' = true := by
      rcases open_slice Try.underlying49 h5 with ⟨hcs, _⟩ | ⟨a, len, cap, m, n, D, Pl, hcs, _⟩
      · exact ⟨_, hcs, rfl⟩
      · exact ⟨_, hcs, rfl⟩
    obtain ⟨v, hv1, hv3⟩ := hv
    simp only [List.cons.injEq, and_true] at he ha hb hg hs hv1
    subst he ha hb hg hs hv1
    refine ⟨⟨_, a, s.data.toList, _, _, _⟩, rfl, ⟨bounds_i64 wa, by simpa using ws, ?_⟩⟩
    intro v hv
    simp only [Cl.cells, List.mem_cons, List.not_mem_nil, or_false] at hv
    rcases hv with rfl | rfl | rfl | rfl | rfl | rfl
    · rfl
    · rfl
    · rfl
    · rfl
    · rfl
    · exact hv3

theorem law_calls {r : Reach} {b0 : Nat} {v : Value} {d : DataW H} {ps : List MemPlace} (hval : Value.okWide Try.prog W r b0 53 v) (hd : DataW.Trod enc Try.prog W base (fun _ => true) true 53 v d ps) :
    ∃ (l : List Cl) (ao : Option Addr) (cap : Nat), SliceOf W v l.length (cls l) ao cap ∧ (∀ f ∈ l, f.Wf) ∧ l.length ≤ cap := by
  obtain ⟨a0, n0, c0, rfl⟩ := okWide_slice Try.underlying53 hval
  obtain ⟨fuel, hf⟩ := hd
  rcases open_slice Try.underlying53 hf with ⟨hcs, _⟩ | ⟨a, len, cap, m, n, D, Pl, hcs, hb, hl, hm, hmm, _, hi⟩
  · simp only [Value.cells, List.cons.injEq, and_true] at hcs
    rw [hcs]
    exact ⟨[], none, 0, ⟨rfl, by simp, fun j x hx => by simp [cls] at hx⟩, fun x hx => by (cases hx), Nat.le_refl _⟩
  · simp only [Value.cells, List.cons.injEq, and_true] at hcs
    rw [hcs]
    simp only [if_true] at hmm
    have hce : Try.prog.cellsOf 61 = 6 := by kernel_rfl
    rw [hce] at hi
    have each : ∀ i, i < len → ∃ f : Cl, f.Wf ∧ ∀ j u, f.cells[j]? = some u → W.cell? (a.add (i * 6 + j)) = some u := by
      intro i hil
      obtain ⟨cs', hc, ht⟩ := hi i (by omega)
      obtain ⟨_, hcl, hat⟩ := World.cells?_some hc
      obtain ⟨f, rfl, hw⟩ := call_of_cells ht hcl
      refine ⟨f, hw, fun j u hu => ?_⟩
      have hj : j < 6 := by have := (List.getElem?_eq_some_iff.1 hu).1; simpa [Cl.cells] using this
      rw [← Go.Deep.add_add, hat j hj]
      exact hu
    obtain ⟨l, rfl, hp⟩ := exists_list len each
    refine ⟨l, some a, cap, ?_, ?_, by omega⟩
    · refine sliceOf_addr (by unfold maxLen at hm; omega) (fun j x hx => ?_)
      have hj : j < l.length * 6 := by
        have := (List.getElem?_eq_some_iff.1 hx).1
        rwa [cls_length] at this
      have hk : j / 6 < l.length := by omega
      have h4 : j % 6 < 6 := Nat.mod_lt _ (by decide)
      have hc4 : l[j / 6].cells[j % 6]? = some (l[j / 6].cells[j % 6]'h4) := List.getElem?_eq_getElem h4
      have h1 := cls_at l (j / 6) hk (j % 6) _ hc4
      rw [show j / 6 * 6 + j % 6 = j by omega] at h1
      rw [h1] at hx
      cases hx
      have := (hp (j / 6) hk).2 (j % 6) _ hc4
      rwa [show j / 6 * 6 + j % 6 = j by omega] at this
    · intro f hf
      obtain ⟨i, hi', rfl⟩ := List.mem_iff_getElem.1 hf
      exact (hp i hi').1
end
end Go.Proofs.Ytlgefjcfnnjkbaa
