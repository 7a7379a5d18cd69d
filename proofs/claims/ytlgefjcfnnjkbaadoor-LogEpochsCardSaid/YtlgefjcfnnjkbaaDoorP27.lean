/- Parts of the proof, one behind the other: LogZk, Laid. Each part's own words say what it proves; no conditions. -/
import Derived.Test.YtlgefjcfnnjkbaaDoorRows
import Derived.ChangeVars
import Derived.JoinedOf
import Derived.LaidLaws
import Derived.LaidHandle
import Derived.Stop.Joined
import Derived.Test.YtlgefjcfnnjkbaaDoorP03
import Derived.Test.YtlgefjcfnnjkbaaDoorP06
import Derived.Test.YtlgefjcfnnjkbaaDoorP23
set_option linter.unusedVariables false
set_option linter.unusedSimpArgs false
set_option linter.unusedSectionVars false
/- What an append makes of a chain. Plain; no program is named; no conditions. -/
namespace Go.Proofs.YtlgefjcfnnjkbaaDoor
set_option maxRecDepth 100000

def sumTo (us : List Us) (k : Nat) : Int := ((us.take k).map (·.c)).sum
theorem sumTo_zero (us : List Us) : sumTo us 0 = 0 := by simp [sumTo]
theorem sumTo_succ (us : List Us) (k : Nat) (h : k < us.length) : sumTo us (k + 1) = sumTo us k + (us.getD k Us.no).c := by
  unfold sumTo
  rw [List.take_succ_eq_append_getElem h, List.map_append, List.sum_append, List.getD_eq_getElem?_getD, List.getElem?_eq_getElem h]
  simp
theorem sumTo_past (us : List Us) (k : Nat) (h : us.length ≤ k) : sumTo us k = sumTo us us.length := by
  unfold sumTo
  rw [List.take_of_length_le h, List.take_length]
theorem sumTo_bound (us : List Us) (h : ∀ k, 0 ≤ (us.getD k Us.no).c ∧ (us.getD k Us.no).c ≤ 64) : ∀ k, k ≤ us.length → 0 ≤ sumTo us k ∧ sumTo us k ≤ 64 * (k : Int)
  | 0, _ => by rw [sumTo_zero]; omega
  | k + 1, hk => by
    have ih := sumTo_bound us h k (by omega)
    have := h k
    rw [sumTo_succ us k (by omega)]
    omega
def needTo (s : List (List UInt8)) (k : Nat) : Nat := ((s.take k).map fun b => need b.length).sum
theorem needTo_zero (s : List (List UInt8)) : needTo s 0 = 0 := by simp [needTo]
theorem needTo_succ (s : List (List UInt8)) (k : Nat) (h : k < s.length) : needTo s (k + 1) = needTo s k + need s[k].length := by
  unfold needTo
  rw [List.take_succ_eq_append_getElem h, List.map_append, List.sum_append]
  simp
theorem needTo_all (s : List (List UInt8)) : needTo s s.length = (s.map fun b => need b.length).sum := by unfold needTo; rw [List.take_length]
theorem need_few {n : Nat} (h : n ≤ 250) : need n ≤ 5 := by unfold need; omega
theorem needTo_bound (s : List (List UInt8)) (h : ∀ b ∈ s, b.length ≤ 250) : ∀ k, k ≤ s.length → needTo s k ≤ 5 * k
  | 0, _ => by rw [needTo_zero]; omega
  | k + 1, hk => by
    have ih := needTo_bound s h k (by omega)
    have := need_few (h s[k] (List.getElem_mem _))
    rw [needTo_succ s k (by omega)]
    omega

theorem uses_is {l : Lg} (h : l.down = false) : l.uses = (orderL l.chain).map fun k => l.chain.getD k Us.no := by unfold Lg.uses; rw [h]; rfl
theorem uses_len {l : Lg} (h : l.down = false) : l.uses.length = used l.chain := by rw [uses_is h, List.length_map]; rfl
theorem uses_sum {l : Lg} (h : l.down = false) : sumTo l.uses l.uses.length = totC l.chain := by
  unfold sumTo totC
  rw [List.take_length, uses_is h, List.map_map]
  rfl
theorem uses_get {l : Lg} (h : l.down = false) (k : Nat) (hk : k < l.uses.length) : ∃ j, (orderL l.chain)[k]? = some j ∧ l.uses.getD k Us.no = l.chain.getD j Us.no := by
  rw [uses_is h, List.length_map] at hk
  exact ⟨(orderL l.chain)[k], List.getElem?_eq_getElem hk, by
    rw [uses_is h, List.getD_eq_getElem?_getD, List.getElem?_map, List.getElem?_eq_getElem hk]; rfl⟩
theorem free_is {l : Lg} (h : l.down = false) : l.free = (l.segs : Int) - (used l.chain : Int) := by unfold Lg.free used; rw [h]; rfl
/-- a chain behind an append -/
structure Grown (us us' : List Us) (n : Nat) (m : Int) : Prop where
  len : us'.length = us.length + n
  sum : sumTo us' us'.length = sumTo us us.length + m
  up : ∀ k, k + 1 < us'.length → (us'.getD k Us.no).e < (us'.getD (k + 1) Us.no).e
  le : ∀ k, k < us'.length → (us'.getD k Us.no).c ≤ 8
  few : us'.length ≤ 12
theorem grown_of {d' : D} {l l' : Lg} {sure n : Nat} {all : List (List UInt8)} {m : Int} (h : LSt d' l' sure all) (hd : l.down = false) (ha : Adv l l' n m) (hper : l'.per = 8) : Grown l.uses l'.uses n m := by
  have hd' := h.down
  obtain ⟨hch, hs12⟩ := h.chOk
  have hul := used_le hch
  refine ⟨by rw [uses_len hd', uses_len hd, ha.used], by rw [uses_sum hd', uses_sum hd, ha.tot], fun k hk => ?_, fun k hk => ?_, by rw [uses_len hd']; omega⟩
  · obtain ⟨i, hi, e1⟩ := uses_get hd' k (by omega)
    obtain ⟨j, hj, e2⟩ := uses_get hd' (k + 1) hk
    rw [e1, e2]
    have hs := order_sorted l'.chain hch.apart
    obtain ⟨hi1, rfl⟩ := List.getElem?_eq_some_iff.1 hi
    obtain ⟨hj1, rfl⟩ := List.getElem?_eq_some_iff.1 hj
    exact (List.pairwise_iff_getElem.1 hs) k (k + 1) hi1 hj1 (by omega)
  · obtain ⟨i, hi, e1⟩ := uses_get hd' k hk
    rw [e1]
    rcases hch.use i with e | ⟨_, _, _, _, e⟩
    · rw [e]; decide
    · rw [hper] at e; exact e
theorem uses_c {l : Lg} (h : l.down = false) (hc : ∀ k, 0 ≤ (l.chain.getD k Us.no).c ∧ (l.chain.getD k Us.no).c ≤ 64) : ∀ k, 0 ≤ (l.uses.getD k Us.no).c ∧ (l.uses.getD k Us.no).c ≤ 64 := fun k => by
  by_cases hk : k < l.uses.length
  · obtain ⟨j, _, e⟩ := uses_get h k hk
    rw [e]; exact hc j
  · rw [List.getD_eq_getElem?_getD, List.getElem?_eq_none (by omega)]; decide
/-- what a statement on epochs asks of an append -/
structure Epoch (l l' : Lg) (s : List (List UInt8)) (es : List Int) (n : Nat) : Prop where
  grown : Grown l.uses l'.uses n ((needTo s s.length : Nat) + (n : Int))
  free : l.free - l'.free = n
  left : 0 < n → 2 ≤ l'.free
  es : es.length = s.length
theorem Ap.epoch {d : D} {l : Lg} {sure : Nat} {all s : List (List UInt8)} {d' : D} {l' : Lg} {es : List Int} {e : Int} (h : Ap d l sure all s false d' l' es e) (hd : l.down = false) (hper : l.per = 8) (he : e = 0) : ∃ n, Epoch l l' s es n := by
  cases h with
  | ok d' l' es h hl n ha hdp st =>
    have hd' := h.down
    refine ⟨n, ⟨?_, ?_, fun h0 => ?_, hl⟩⟩
    · have := grown_of h hd ha (by rw [ha.per]; exact hper)
      rw [needTo_all]
      rw [show (((s.map fun b => need b.length).sum : Nat) : Int) + (n : Int) = (((s.map fun b => need b.length).sum + n : Nat) : Int) by omega]
      exact this
    · rw [free_is hd, free_is hd', ha.segs, ha.used]; omega
    · have := hdp rfl h0
      rw [free_is hd', ha.segs, ha.used]
      rw [free_is hd] at this
      omega
  | cut d' l' hc cr st => cases he
  | no e he' => omega
theorem free_bound {d : D} {l : Lg} {sure : Nat} {all : List (List UInt8)} (h : LSt d l sure all) : 0 ≤ l.free ∧ l.free ≤ 12 := by
  obtain ⟨hch, hs12⟩ := h.chOk
  have := used_le hch
  rw [free_is h.down]; omega
theorem Ap.zeroE {d : D} {l : Lg} {sure : Nat} {all s : List (List UInt8)} {deep : Bool} {d' : D} {l' : Lg} {es : List Int} {e : Int} (h : Ap d l sure all s deep d' l' es e) (he : e = 0) :
    LSt d' l' sure (all ++ s) ∧ Stp d d' (65 * s.length) ∧ l'.per = l.per := by
  cases h with
  | ok d' l' es h hl n ha hd st => exact ⟨h, st, ha.per⟩
  | cut d' l' hc cr st => cases he
  | no e h => omega
end Go.Proofs.YtlgefjcfnnjkbaaDoor
/- What the row's condition on errors.errorType gives a walk; a world that meets it (lines of the worked example ToyasProofs turned to this program). No conditions. -/
namespace Go.Proofs.YtlgefjcfnnjkbaaDoor
set_option maxRecDepth 100000
open Go.ChangeShapes Go.WideShapes Go.RowKit

abbrev laidE : List (String × DataW Unit) := [("errors.errorType", Rows.laid_errors_errorType)]
theorem Tryd.et : Tryd.prog.globalNamed "errors.errorType" = some 0 := by kernel_rfl
theorem Tryd.rt : (Tryd.prog.cutTypes.find? (·.1 == "internal/reflectlite.rtype")).map (·.2) = some 138 := by kernel_rfl
theorem Tryd.oneRow : ((List.range Tryd.prog.types.size).filter fun t => Tryd.prog.rowNamed t [101, 114, 114, 111, 114]) = [66] := by kernel_rfl

/-- what the condition gives a walk: the variable's one cell -/
theorem handle_of_laid {W : World} (h : laidMetH Tryd.prog laidE W) : W.cell? ⟨0, 0, none⟩ = some (.iface 138 (.agg #[.pointer (some ⟨1, 66, none⟩)])) := by
  have h' : laidMet Tryd.prog [] W ∧ handlesMet Tryd.prog laidE W := h
  obtain ⟨name, u, ty, e1, e2, e3, e4, e5⟩ := h'.2 _ (List.mem_singleton.2 rfl)
  have en : name = [101, 114, 114, 111, 114] := (Option.some.inj e1).symm
  subst en
  obtain rfl := Option.some.inj (Tryd.rt.symm.trans e2)
  have hm : ty ∈ (List.range Tryd.prog.types.size).filter fun t => Tryd.prog.rowNamed t [101, 114, 114, 111, 114] := List.mem_filter.2 ⟨List.mem_range.2 e3, e4⟩
  rw [Tryd.oneRow] at hm
  obtain rfl := List.mem_singleton.1 hm
  have hh : typeHandle Tryd.prog 66 = .pointer (some ⟨1, 66, none⟩) := by kernel_rfl
  rw [hh] at e5
  simpa using World.var?_cell Tryd.et e5 0

/-- A world that meets the condition: the settled one, the variable's cell laid. -/
noncomputable def laidWorld (os : Os) : World :=
  let w0 := World.holding Tryd.prog os ⟨#[], #[], []⟩
  { w0 with heap := w0.heap.modify 0 fun
      | .cells _ t frozen => .cells #[.iface 138 (.agg #[.pointer (some ⟨1, 66, none⟩)])] t frozen
      | o => o }
theorem laidWorld_met (os : Os) (args : Array Value) : laidMetH Tryd.prog laidE ((laidWorld os).forCall (fun _ _ => 0) ⟨#[], args, []⟩).memory :=
  laidMetH_of_parts (laidMet_nil _ _) (by kernel_rfl)
theorem intsAt_of {w : World} {v : Value} {ns : List Int} {no : Option Addr} {nc : Nat} (h : SliceOf w v ns.length (ns.map (Value.int .i64)) no nc) (hw : ∀ x ∈ ns, I64 x) : IntsAt w v ns no nc :=
  ⟨h.val, h.len, fun j x hx => h.cell j _ (by rw [List.getElem?_map, hx]; rfl), fun x hx => hw x hx⟩
theorem nat_of_u8 {m : Int} (h : (Lit.int .u8 m).wf = true) : ∃ n : Nat, m = (n : Int) ∧ n ≤ 255 := by
  have := bounds_u8 h
  exact ⟨m.toNat, by omega, by omega⟩
end Go.Proofs.YtlgefjcfnnjkbaaDoor
