/- Parts of the proof, one behind the other: LogHf. Each part's own words say what it proves; no conditions. -/
import Derived.Test.YtlgefjcfnnjkbaaGreatDoorP28
set_option linter.unusedVariables false
set_option linter.unusedSimpArgs false
set_option linter.unusedSectionVars false
/- What an append behind a retiring asks for; pieces laid one behind the other. No conditions. -/
namespace Go.Proofs.YtlgefjcfnnjkbaaGreatDoor
set_option maxRecDepth 100000
open Go.RowKit

theorem Retd.appendOk {S : Sh} {d : D} {l : Lg} {k : Nat} {b : List UInt8} {l1 l2 l3 l4 : Lg} {d2 d3 d4 : D} (h : Retd S d l k b l1 d2 l2 d3 l3 d4 l4) (hcut : d.cut = false) (hlen : d.kept.length = S.segs * S.per) (ht : S.e + 1 ≤ 16777215) (hp : d.pend = []) (hb : need b.length + 3 ≤ S.per) : AppendOk l1 d [b] true := by
  intro _ _ _ _
  obtain ⟨hpo, _⟩ := plan_is l1 [b]
  have hop2 : opensR l1.per l1.use.c l1.opn [b] = [true] := by rw [opensR_cons, if_pos (.inl h.opn1)]; rfl
  rw [hpo, hop2]
  obtain ⟨d1, seg, hbg, hsg, hsf, hc1, hp1, hn1, hi2, hw2⟩ := h.inv1.begun hcut hlen ⟨k, h.free1.2, h.free1.1⟩ ht
  refine ⟨?_, fun _ => trivial⟩
  unfold OneOk
  rw [if_pos rfl]
  refine ⟨by rw [h.inv1.top]; exact ht, by rw [hp]; decide, fun _ => ?_⟩
  rw [hbg]
  have ok := h.inv1.inv.cr.ok
  have hB0 := shNew_B S.per S.segs l1.chain S.B S.e seg
  have hu := hi2.u
  rw [hB0] at hu
  refine ⟨?_, ?_, hsg, by rw [hp1]; decide⟩
  · rw [hu]; show 1 ≤ S.e + 1; have := ok.epos; omega
  · rw [hu]
    show ((1 + iLen [] : Nat) : Int) + _ ≤ (l1.per : Int)
    rw [h.inv1.per]
    have : iLen ([] : List It) = 0 := rfl
    omega
def keepP (ps : List (Int × List UInt8)) (X : Int) (j : Nat) : List (Int × List UInt8) := (ps.take j).filter fun q => q.1 != X
theorem keepP_succ (ps : List (Int × List UInt8)) (X : Int) (j : Nat) (h : j < ps.length) : keepP ps X (j + 1) = if ps[j].1 = X then keepP ps X j else keepP ps X j ++ [ps[j]] := by
  unfold keepP
  rw [List.take_succ_eq_append_getElem h, List.filter_append]
  by_cases e : ps[j].1 = X
  · rw [if_pos e]; simp [e]
  · rw [if_neg e]; simp [e]
theorem keepP_length (ps : List (Int × List UInt8)) (X : Int) (j : Nat) : (keepP ps X j).length ≤ ps.length := by
  unfold keepP
  have h1 := List.length_filter_le (fun q : Int × List UInt8 => q.1 != X) (ps.take j)
  rw [List.length_take] at h1
  omega
theorem keepP_all (ps : List (Int × List UInt8)) (X : Int) : keepP ps X ps.length = ps.filter fun q => q.1 != X := by
  unfold keepP; rw [List.take_length]
theorem pieceCells_snoc (ps : List (Int × List UInt8)) (x : Int × List UInt8) : pieceCells (ps ++ [x]) = pieceCells ps ++ [.int .i64 x.1, .string ⟨x.2.toArray⟩] := by
  simp [pieceCells]
end Go.Proofs.YtlgefjcfnnjkbaaGreatDoor
