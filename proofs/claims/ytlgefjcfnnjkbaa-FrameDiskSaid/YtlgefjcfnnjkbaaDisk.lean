/- The functions of package disk: what each call makes of a disk's blocks. No conditions. -/
import Derived.Test.YtlgefjcfnnjkbaaProg
import Derived.Test.YtlgefjcfnnjkbaaMem
import Derived.Test.YtlgefjcfnnjkbaaDiskM
namespace Go.Proofs.Ytlgefjcfnnjkbaa
open Go.RowKit

def rowsOf (l : List (List UInt8)) : List Value := bvs l.flatten
def pendCells (l : List (Nat × List UInt8)) : List Value := (l.map fun x => Value.int .i64 (x.1 : Int) :: bvs x.2).flatten
def headOf (kb : Nat) (pv : Value) (d : D) : Array Value := #[.slice (some ⟨kb, 0, none⟩) d.kept.length d.kept.length, pv, .bool d.cut, .int .i64 (d.left : Int)]

/-- The disk d lies in the world w at block p: its sectors in block kb, its pending writes behind the value pv. -/
structure DAt (w : World) (p kb : Nat) (pv : Value) (d : D) : Prop where
  head : w.heap[p]? = some (.cells (headOf kb pv d) 89 (0, 0))
  rows : w.heap[kb]? = some (.cells (rowsOf d.kept).toArray 92 (0, 0))
  pend : w.ownsRow 0 98 65 pv d.pend.length (pendCells d.pend)
  ok : d.Ok

/-- the blocks of a disk -/
def fp (p kb : Nat) (pv : Value) : Nat → Prop := fun k => k = p ∨ k = kb ∨ pv.ownBlock = some k

section
variable {w : World} {p kb : Nat} {pv : Value} {d : D} (h : DAt w p kb pv d)
include h
theorem DAt.c0 : w.cell? ⟨p, 0, none⟩ = some (.slice (some ⟨kb, 0, none⟩) d.kept.length d.kept.length) := by rw [cell_at h.head]; rfl
theorem DAt.c1 : w.cell? ⟨p, 1, none⟩ = some pv := by rw [cell_at h.head]; rfl
theorem DAt.c2 : w.cell? ⟨p, 2, none⟩ = some (.bool d.cut) := by rw [cell_at h.head]; rfl
theorem DAt.c3 : w.cell? ⟨p, 3, none⟩ = some (.int .i64 (d.left : Int)) := by rw [cell_at h.head]; rfl
theorem DAt.f (i : Nat) : w.frozen? ⟨p, i, none⟩ = false := free_at h.head i
theorem DAt.p_lt : p < w.heap.size := lt_of_block h.head
theorem DAt.kb_lt : kb < w.heap.size := lt_of_block h.rows
theorem DAt.kb_ne : kb ≠ p := by
  intro e; have := h.head; rw [← e, h.rows] at this; simp at this
theorem DAt.pv_shape : (pv = .slice none 0 0 ∧ d.pend = []) ∨ ∃ g cap cur, pv = .slice (some ⟨g, 0, none⟩) d.pend.length cap ∧ g ≠ p ∧ g ≠ kb ∧ w.heap[g]? = some (.cells cur 98 (0, 0)) ∧ d.pend.length ≤ cap ∧ cap ≤ maxLen ∧ cur.size = cap * 65 ∧ cur.toList.take (d.pend.length * 65) = pendCells d.pend := by
  rcases h.pend.2 with ⟨e, hn⟩ | ⟨g, cap, cur, e, _, hg, r⟩
  · exact .inl ⟨e, List.eq_nil_of_length_eq_zero hn⟩
  · refine .inr ⟨g, cap, cur, e, ?_, ?_, hg, r⟩
    · intro e; have := h.head; rw [← e, hg] at this; simp at this
    · intro e; have := h.rows; rw [← e, hg] at this; simp at this
theorem DAt.pv_slice : ∃ ao cap, pv = .slice ao d.pend.length cap ∧ d.pend.length ≤ 9223372036854775807 := by
  rcases h.pv_shape with ⟨rfl, hz⟩ | ⟨g, cap, cur, rfl, _, _, _, h1, h2, _⟩
  · exact ⟨none, 0, by rw [hz]; rfl, by rw [hz]; simp⟩
  · exact ⟨_, _, rfl, by unfold maxLen at h2; omega⟩
theorem DAt.pv_ne : pv.ownBlock ≠ some p ∧ pv.ownBlock ≠ some kb := by
  rcases h.pv_shape with ⟨rfl, _⟩ | ⟨g, cap, cur, rfl, h1, h2, _⟩
  · simp [Value.ownBlock]
  · simp [Value.ownBlock, h1, h2]
theorem DAt.fp_lt : ∀ k, fp p kb pv k → k < w.heap.size := by
  rintro k (rfl | rfl | e)
  · exact h.p_lt
  · exact h.kb_lt
  · exact (h.pend.lt k e).2
/-- what turns other blocks leaves the disk as it is -/
theorem DAt.only {w' : World} {S : Nat → Prop} (ho : Only S w w') (hs : ∀ k, fp p kb pv k → ¬ S k) : DAt w' p kb pv d :=
  ⟨ho.keep h.head (hs p (.inl rfl)), ho.keep h.rows (hs kb (.inr (.inl rfl))), ownsRow_only h.pend ho (fun k e => hs k (.inr (.inr e))), h.ok⟩
/-- a store into the head -/
theorem DAt.setHead (i : Nat) (v : Value) {d' : D} (hk : d'.kept = d.kept) (hp : d'.pend = d.pend) (ho : d'.Ok) (hc : (headOf kb pv d).setIfInBounds i v = headOf kb pv d') : DAt (w.setCell ⟨p, i, none⟩ v) p kb pv d' := by
  refine ⟨?_, ?_, ?_, ho⟩
  · rw [heap_setCell_same w p i _ _ v h.head, hc]
  · rw [Below.heap_setCell _ _ _ _ h.kb_ne, hk]; exact h.rows
  · rw [hp]; exact ownsRow_setCell_other h.pend h.pv_ne.1 v
end

set_option maxHeartbeats 1000000 in
theorem has_any (w : World) (p kb : Nat) (pv : Value) (d : D) (k : Int) (hd : DAt w p kb pv d) :
    Calls Try.prog 58 #[.pointer (some ⟨p, 0, none⟩), .int .i64 k] w fun e w' => e = .returned (.bool (decide (0 ≤ k ∧ k < d.kept.length))) ∧ w = w' := by
  have c0 := hd.c0
  go_enter Try.func58, Try.ntmps58
  go_wp2
  · go_ret
    have h0 : 0 ≤ k := by assumption
    exact ⟨by simp [h0], rfl⟩
  · go_ret
    have h0 : k < 0 := by assumption
    exact ⟨by simp; omega, rfl⟩

set_option maxHeartbeats 1000000 in
theorem power_any (w : World) (p kb : Nat) (pv : Value) (d : D) (hd : DAt w p kb pv d) :
    Calls Try.prog 60 #[.pointer (some ⟨p, 0, none⟩)] w fun e w' => e = .returned (.bool d.power) ∧ DAt w' p kb pv d.paid ∧ Only (fun k => k = p) w w' ∧ w'.heap.size = w.heap.size := by
  have c2 := hd.c2
  have c3 := hd.c3
  have f3 := hd.f 3
  have hl := hd.ok.leftLe
  cases hc : d.cut with
  | false =>
    rw [hc] at c2
    have hp : d.power = true := by simp [D.power, hc]
    have HC := Lib.hid hc
    clear hc
    go_enter Try.func60, Try.ntmps60
    go_wp2
    go_ret
    exact ⟨by rw [hp]; rfl, by simpa [D.paid, D.spent, hp, HC.out] using hd, Only.refl _ _, rfl⟩
  | true =>
    rw [hc] at c2
    by_cases h0 : d.left = 0
    · have hp : d.power = false := by simp [D.power, hc, h0]
      clear c3
      have c3 : w.cell? ⟨p, 3, none⟩ = some (.int .i64 0) := by rw [hd.c3, h0]; rfl
      have HC := Lib.hid hc
      have H0 := Lib.hid h0
      clear hc h0
      go_enter Try.func60, Try.ntmps60
      go_wp2
      go_ret
      exact ⟨by rw [hp]; rfl, by rw [D.paid_no hp]; exact hd, Only.refl _ _, rfl⟩
    · have hp : d.power = true := by simp [D.power, hc, h0]
      have hb : ((d.left : Int) == 0) = false := by simp; omega
      have hs : ((d.left : Int) - 1) = ((d.left - 1 : Nat) : Int) := by omega
      have HS := Lib.hid hs
      have HC := Lib.hid hc
      clear hc hs
      go_enter Try.func60, Try.ntmps60
      go_wp2
      go_ret
      refine ⟨by rw [hp]; rfl, ?_, Only.one _ _ _ _, by simp⟩
      rw [D.paid_yes hp, HS.out]
      exact hd.setHead 3 _ (D.spent_kept d) (D.spent_pend d) hd.ok.spent (by simp [headOf, D.spent, HC.out])

set_option maxHeartbeats 1000000 in
theorem pending_any (w : World) (p kb : Nat) (pv : Value) (d : D) (hd : DAt w p kb pv d) :
    Calls Try.prog 40 #[.pointer (some ⟨p, 0, none⟩)] w fun e w' => e = .returned (.int .i64 (d.pend.length : Int)) ∧ w = w' := by
  have c1 := hd.c1
  have hsh := hd.pv_shape
  clear hd
  rcases hsh with ⟨rfl, hz⟩ | ⟨g, cap, cur, rfl, _, _, _, hcap, hmax, _⟩
  · rw [hz]
    clear hz
    simp only [List.length_nil, Int.ofNat_zero]
    go_enter Try.func40, Try.ntmps40
    go_wp2
    go_ret
    exact ⟨rfl, rfl⟩
  · unfold maxLen at hmax
    go_enter Try.func40, Try.ntmps40
    go_wp2
    go_ret
    exact ⟨rfl, rfl⟩

set_option maxHeartbeats 1000000 in
theorem size_any (w : World) (p kb : Nat) (pv : Value) (d : D) (hd : DAt w p kb pv d) :
    Calls Try.prog 49 #[.pointer (some ⟨p, 0, none⟩)] w fun e w' => e = .returned (.int .i64 (d.kept.length : Int)) ∧ w = w' := by
  have c0 := hd.c0
  have hm := hd.ok.many
  clear hd
  go_enter Try.func49, Try.ntmps49
  go_wp2
  go_ret
  exact ⟨rfl, rfl⟩

set_option maxHeartbeats 1000000 in
theorem diskCut_any (w : World) (p kb : Nat) (pv : Value) (d : D) (n : Int) (hd : DAt w p kb pv d) (hn : n ≤ 9223372036854775807) :
    Calls Try.prog 48 #[.pointer (some ⟨p, 0, none⟩), .int .i64 n] w fun e w' => e = .returned (.int .i64 (if n < 0 then 2 else 0)) ∧ DAt w' p kb pv (if n < 0 then d else d.cutAt n.toNat) ∧ Only (fun k => k = p) w w' ∧ w'.heap.size = w.heap.size := by
  have c2 := hd.c2
  have c3 := hd.c3
  have f2 := hd.f 2
  have f3 := hd.f 3
  by_cases h0 : n < 0
  · simp only [if_pos h0]
    go_enter Try.func48, Try.ntmps48
    go_wp2
    go_ret
    exact ⟨rfl, hd, Only.refl _ _, rfl⟩
  · simp only [if_neg h0]
    have h1 : 0 ≤ n := by omega
    obtain ⟨m, rfl⟩ := Int.eq_ofNat_of_zero_le h1
    go_enter Try.func48, Try.ntmps48
    go_wp2
    go_ret
    refine ⟨rfl, ?_, (Only.one _ _ _ _).trans (Only.one _ _ _ _), by simp⟩
    have h2 := hd.setHead 2 (.bool true) (d' := { d with cut := true }) rfl rfl ⟨hd.ok.len, hd.ok.plen, hd.ok.many, hd.ok.leftLe⟩ (by simp [headOf])
    exact h2.setHead 3 (.int .i64 (m : Int)) (d' := d.cutAt m) rfl rfl (hd.ok.cutAt m hn) (by simp [headOf, D.cutAt])

end Go.Proofs.Ytlgefjcfnnjkbaa
