/- Rows of the call's own as slices that read as a list; a cell of such a row is written. No program is named; no conditions. -/
import Derived.Test.YtlgefjcfnnjkbaaFrame8
import Derived.Test.YtlgefjcfnnjkbaaApp
namespace Go.Proofs.Ytlgefjcfnnjkbaa
open Go.RowKit

variable {P : Program}

theorem sliceOf_own {w : World} {base size n : Nat} {e : TypeId} {v : Value} {cs : List Value} (h : w.ownsRow base e size v n cs) : ∃ ao cap, SliceOf w v n cs ao cap := by
  rcases h.2 with ⟨rfl, rfl⟩ | ⟨g, cap, cur, rfl, hb, hg, hnc, hcm, hcs, htake⟩
  · have hx : cs = [] := List.eq_nil_of_length_eq_zero (by simpa using h.1)
    subst hx
    exact ⟨none, 0, rfl, by omega, fun j x hx => by simp at hx⟩
  · refine ⟨some ⟨g, 0, none⟩, cap, rfl, by unfold maxLen at hcm; omega, fun j x hx => ⟨g, 0, rfl, ?_⟩⟩
    have := h.cells (g := g) rfl j x hx
    rwa [add_mk] at this

theorem sliceOf_block {w : World} {g n : Nat} {t : TypeId} {cs : List Value} (h : w.heap[g]? = some (.cells cs.toArray t (0, 0))) (hn : n ≤ 9223372036854775807) (c : Nat) : SliceOf w (.slice (some ⟨g, 0, none⟩) n c) n cs (some ⟨g, 0, none⟩) c :=
  ⟨rfl, hn, fun j x hx => ⟨g, 0, rfl, by rw [Nat.zero_add, cell_at h, List.getElem?_toArray]; exact hx⟩⟩

/-- what such a slice yields to an append -/
theorem src_slice {w : World} {n size : Nat} {v : Value} {cs : List Value} {ao : Option Addr} {cap : Nat} {tx e' : TypeId} (hk : P.underlying tx = some (.slice e')) (h : SliceOf w v n cs ao cap) (hl : cs.length = n * size) (hs : 0 < size) (h1 : ∀ u ∈ cs, u.oneCell' = true) :
    Src P size tx v n cs w := by
  have hv := h.val
  subst hv
  rcases ao with _ | a
  · have hn : n = 0 := by
      rcases Nat.eq_zero_or_pos n with h0 | h0
      · exact h0
      · have : 0 < cs.length := by rw [hl]; exact Nat.mul_pos h0 hs
        obtain ⟨_, _, e, _⟩ := h.cell 0 _ (List.getElem?_eq_getElem this)
        cases e
    subst hn
    have hc : cs = [] := List.eq_nil_of_length_eq_zero (by simpa using hl)
    subst hc
    exact Src.ofNil w hk cap
  · refine Src.ofSlice w hk a n cap cs hl ?_ h1
    intro j u hu
    obtain ⟨b, o, e, hc⟩ := h.cell j u hu
    cases e
    rw [add_mk]
    exact hc

/-- a slice's front -/
theorem SliceOf.front {w : World} {n m size : Nat} {v : Value} {cs : List Value} {ao : Option Addr} {cap : Nat} (h : SliceOf w v n cs ao cap) (hm : m ≤ n) (c : Nat) : SliceOf w (.slice ao m c) m (cs.take (m * size)) ao c :=
  ⟨rfl, Nat.le_trans hm h.len, fun j x hx => h.cell j x (by
    rw [List.getElem?_take] at hx
    split at hx
    · exact hx
    · cases hx)⟩

theorem ownsRow_set {w : World} {base size n : Nat} {e : TypeId} {g cap : Nat} {cs : List Value} (h : w.ownsRow base e size (.slice (some ⟨g, 0, none⟩) n cap) n cs) (i : Nat) (x : Value) (hi : i < n * size) :
    (w.setCell ⟨g, i, none⟩ x).ownsRow base e size (.slice (some ⟨g, 0, none⟩) n cap) n (cs.set i x) := by
  rcases h.2 with ⟨hv, _⟩ | ⟨g', cap', cur, hv, hb, hg, hnc, hcm, hcs, htake⟩
  · cases hv
  · cases hv
    refine ⟨by rw [List.length_set]; exact h.1, .inr ⟨g, cap, cur.setIfInBounds i x, rfl, hb, heap_setCell_same w g i cur e x hg, hnc, hcm, by simpa using hcs, ?_⟩⟩
    rw [Array.toList_setIfInBounds, List.take_set, htake]

theorem ownsRow_free {w : World} {base size n : Nat} {e : TypeId} {g cap : Nat} {cs : List Value} (h : w.ownsRow base e size (.slice (some ⟨g, 0, none⟩) n cap) n cs) (i : Nat) : w.frozen? ⟨g, i, none⟩ = false := by
  rcases h.2 with ⟨hv, _⟩ | ⟨g', cap', cur, hv, hb, hg, _⟩
  · cases hv
  · cases hv
    exact free_at hg i

theorem ownsRow_cell {w : World} {base size n : Nat} {e : TypeId} {g cap : Nat} {cs : List Value} (h : w.ownsRow base e size (.slice (some ⟨g, 0, none⟩) n cap) n cs) (i : Nat) (x : Value) (hx : cs[i]? = some x) : w.cell? ⟨g, i, none⟩ = some x := by
  have := h.cells (g := g) rfl i x hx
  rwa [add_mk, Nat.zero_add] at this

theorem wpList_load_part {ops : Array Oper} {rest : List Oper} {a : Act} {Q : Exit → Act → World → Prop} {W : World} {dst : Option Tmp} {x : Operand} {T ty : TypeId} {pos : String} {after : Array Edge}
    (g o : Nat) (cs : List Value) (hu : ∃ d, P.underlying T = some d ∧ (match d with | .struct _ | .array _ _ => true | _ => false) = true) (hi : (P.info? T).map (·.size) = some cs.length)
    (hb : Has W g o cs) (hx : a.eval x = .pointer (some ⟨g, o, none⟩)) (hK : wpList P ops Q rest (a.put dst (.agg cs.toArray)) W) :
    wpList P ops Q ({ dst := dst, op := .load T x, type := ty, pos := pos, after := after, guard := none } :: rest) a W :=
  let ⟨d, hu, hd⟩ := hu
  wpList_load rfl rfl hx (run_load_part W g o cs.length cs T d hu (by revert hd; cases d <;> simp) hi rfl hb) hK

theorem wpList_convert_run {ops : Array Oper} {rest : List Oper} {a : Act} {Q : Exit → Act → World → Prop} {W W' : World} {dst : Option Tmp} {x : Operand} {src dT ty : TypeId} {pos : String} {after : Array Edge}
    (vs r : Value) (h : (convert src dT vs).run P W = .ok r W') (hx : a.eval x = vs) (hK : wpList P ops Q rest (a.put dst r) W') :
    wpList P ops Q ({ dst := dst, op := .convert src dT x, type := ty, pos := pos, after := after, guard := none } :: rest) a W :=
  wpList_run rfl (exec_convert rfl hx h) hK
end Go.Proofs.Ytlgefjcfnnjkbaa
