/- Parts of the proof, one behind the other: Laid. Each part's own words say what it proves; no conditions. -/
import Derived.Test.YtlgefjcfnnjkbaaGreatDoorRows
import Derived.ChangeVars
import Derived.JoinedOf
import Derived.LaidLaws
import Derived.LaidHandle
import Derived.Stop.Joined
import Derived.Test.YtlgefjcfnnjkbaaGreatDoorP03
import Derived.Test.YtlgefjcfnnjkbaaGreatDoorP06
set_option linter.unusedVariables false
set_option linter.unusedSimpArgs false
set_option linter.unusedSectionVars false
/- What the row's condition on errors.errorType gives a walk; a world that meets it (lines of the worked example ToyasProofs turned to this program). No conditions. -/
namespace Go.Proofs.YtlgefjcfnnjkbaaGreatDoor
set_option maxRecDepth 100000
open Go.ChangeShapes Go.WideShapes Go.RowKit

abbrev laidE : List (String × DataW Unit) := [("errors.errorType", Rows.laid_errors_errorType)]
theorem Tryz.et : Tryz.prog.globalNamed "errors.errorType" = some 0 := by kernel_rfl
theorem Tryz.rt : (Tryz.prog.cutTypes.find? (·.1 == "internal/reflectlite.rtype")).map (·.2) = some 148 := by kernel_rfl
theorem Tryz.oneRow : ((List.range Tryz.prog.types.size).filter fun t => Tryz.prog.rowNamed t [101, 114, 114, 111, 114]) = [76] := by kernel_rfl

/-- what the condition gives a walk: the variable's one cell -/
theorem handle_of_laid {W : World} (h : laidMetH Tryz.prog laidE W) : W.cell? ⟨0, 0, none⟩ = some (.iface 148 (.agg #[.pointer (some ⟨1, 76, none⟩)])) := by
  have h' : laidMet Tryz.prog [] W ∧ handlesMet Tryz.prog laidE W := h
  obtain ⟨name, u, ty, e1, e2, e3, e4, e5⟩ := h'.2 _ (List.mem_singleton.2 rfl)
  have en : name = [101, 114, 114, 111, 114] := (Option.some.inj e1).symm
  subst en
  obtain rfl := Option.some.inj (Tryz.rt.symm.trans e2)
  have hm : ty ∈ (List.range Tryz.prog.types.size).filter fun t => Tryz.prog.rowNamed t [101, 114, 114, 111, 114] := List.mem_filter.2 ⟨List.mem_range.2 e3, e4⟩
  rw [Tryz.oneRow] at hm
  obtain rfl := List.mem_singleton.1 hm
  have hh : typeHandle Tryz.prog 76 = .pointer (some ⟨1, 76, none⟩) := by kernel_rfl
  rw [hh] at e5
  simpa using World.var?_cell Tryz.et e5 0

/-- A world that meets the condition: the settled one, the variable's cell laid. -/
noncomputable def laidWorld (os : Os) : World :=
  let w0 := World.holding Tryz.prog os ⟨#[], #[], []⟩
  { w0 with heap := w0.heap.modify 0 fun
      | .cells _ t frozen => .cells #[.iface 148 (.agg #[.pointer (some ⟨1, 76, none⟩)])] t frozen
      | o => o }
theorem laidWorld_met (os : Os) (args : Array Value) : laidMetH Tryz.prog laidE ((laidWorld os).forCall (fun _ _ => 0) ⟨#[], args, []⟩).memory :=
  laidMetH_of_parts (laidMet_nil _ _) (by kernel_rfl)
theorem intsAt_of {w : World} {v : Value} {ns : List Int} {no : Option Addr} {nc : Nat} (h : SliceOf w v ns.length (ns.map (Value.int .i64)) no nc) (hw : ∀ x ∈ ns, I64 x) : IntsAt w v ns no nc :=
  ⟨h.val, h.len, fun j x hx => h.cell j _ (by rw [List.getElem?_map, hx]; rfl), fun x hx => hw x hx⟩
theorem nat_of_u8 {m : Int} (h : (Lit.int .u8 m).wf = true) : ∃ n : Nat, m = (n : Int) ∧ n ≤ 255 := by
  have := bounds_u8 h
  exact ⟨m.toNat, by omega, by omega⟩
end Go.Proofs.YtlgefjcfnnjkbaaGreatDoor
