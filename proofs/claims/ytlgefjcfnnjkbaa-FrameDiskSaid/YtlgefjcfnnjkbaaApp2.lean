/- Appends that also say where the row lies; Cut as one contract, the program's and the reference's. No conditions. -/
import Derived.Test.YtlgefjcfnnjkbaaLaw
import Derived.Test.YtlgefjcfnnjkbaaEx
namespace Go.Proofs.Ytlgefjcfnnjkbaa
open Go.RowKit

section
variable {P : Program}
theorem append_src_row2 (w : World) (base : Nat) (t tx ty e : TypeId) (z : Value) (size bytes : Nat) (hu : P.underlying t = some (.slice e)) (hi : (P.info? e).map (fun i => (i.zero, i.size, i.bytes)) = some (some z, size, bytes))
    (hzs : z.cells.size = size) (hsz : 0 < size) (v : Value) (n : Nat) (xs : List Value) (hrow : w.ownsRow base e size v n xs) (x : Value) (m : Nat) (news : List Value) (hs : Src P size tx x m news w)
    (hn : n + m ≤ 100000000) (hb : bytes ≤ 1000) (hbase : base ≤ w.heap.size) :
    ∃ v' w', (Builtin.append_ #[t, tx] ty #[v, x]).run P w = .ok v' w' ∧ w'.ownsRow base e size v' (n + m) (xs ++ news) ∧ Only (fun k => v.ownBlock = some k) w w' ∧ (∀ k, v'.ownBlock = some k → v.ownBlock = some k ∨ w.heap.size ≤ k) := by
  obtain ⟨i0, hi0, hz0, hz1, hz2⟩ := info_parts hi
  have hbytes : (n + m) * bytes ≤ 140737488355328 := by
    have := Nat.mul_le_mul hn hb
    omega
  obtain ⟨v', w', hrun, hown, hgrow, hfr⟩ := run_append_src (P := P) w base t tx ty e i0 z size bytes hu hi0 hz0 hz1 hz2 hzs hsz v n xs hrow x m news hs (by unfold maxLen; omega) hbytes hbase
  exact ⟨v', w', hrun, hown, Only.of_grown hgrow (fun k hk => hk), hfr⟩

theorem append_one_row2 (w : World) (base : Nat) (t ty e : TypeId) (z : Value) (size bytes : Nat) (hu : P.underlying t = some (.slice e)) (hi : (P.info? e).map (fun i => (i.zero, i.size, i.bytes)) = some (some z, size, bytes))
    (hzs : z.cells.size = size) (hsz : 0 < size) (v : Value) (n : Nat) (xs : List Value) (hrow : w.ownsRow base e size v n xs) (cs : List Value) (hcs : cs.length = size) (h1 : ∀ u ∈ cs, u.oneCell' = true)
    (hn : n + 1 ≤ 100000000) (hb : bytes ≤ 1000) (hbase : base ≤ w.heap.size) :
    ∃ v' w', (Builtin.append_ #[t, t] ty #[v, .slice (some ⟨w.heap.size, 0, none⟩) 1 1]).run P (w.alloc (.cells cs.toArray e)) = .ok v' w' ∧ w'.ownsRow base e size v' (n + 1) (xs ++ cs) ∧ Only (fun k => v.ownBlock = some k) w w' ∧ (∀ k, v'.ownBlock = some k → v.ownBlock = some k ∨ w.heap.size ≤ k) := by
  have hnew : ∀ j u, cs[j]? = some u → (w.alloc (.cells cs.toArray e)).cell? ((⟨w.heap.size, 0, none⟩ : Addr).add j) = some u :=
    (has_of_block' (o := 0) (heap_alloc_new w _) (by simp)).adds
  obtain ⟨v', w', hrun, hown, ho, hfr⟩ := append_src_row2 (P := P) (w.alloc (.cells cs.toArray e)) base t t ty e z size bytes hu hi hzs hsz v n xs (hrow.alloc _) _ 1 cs (Src.ofSlice _ hu _ 1 1 cs (by omega) hnew h1) hn hb (by simp; omega)
  refine ⟨v', w', hrun, hown, (Only.alloc w _ _).trans ho, fun k hk => ?_⟩
  rcases hfr k hk with h | h
  · exact .inl h
  · simp at h; exact .inr (by omega)
end

/-- what a cut gives -/
def cutR (e a : Int) (s : List UInt8) : List Fr × Int := if 1 ≤ e ∧ e ≤ 16777215 ∧ 0 ≤ a ∧ a ≤ 64 - (need s.length : Int) then (cutF e a s, 0) else ([], 2)

theorem sliceOf_nil (w : World) : SliceOf w (.slice none 0 0) 0 [] none 0 := ⟨rfl, by omega, fun j x hx => by simp at hx⟩

theorem cut_any (w : World) (e a : Int) (s : List UInt8) (we : I64 e) (wa : I64 a) (hs : s.length ≤ maxLen) :
    Calls Try.prog 27 #[.int .i64 e, .int .i64 a, .string ⟨s.toArray⟩] w fun x w' => ∃ v ao cap, x = .returned (.tuple #[v, .int .i64 (cutR e a s).2]) ∧ SliceOf w' v (cutR e a s).1.length (frs (cutR e a s).1) ao cap ∧ Only (fun _ => False) w w' := by
  unfold cutR
  by_cases h : 1 ≤ e ∧ e ≤ 16777215 ∧ 0 ≤ a ∧ a ≤ 64 - (need s.length : Int)
  · rw [if_pos h]
    refine (cut_ok w e a s hs h.1 h.2.1 h.2.2.1 h.2.2.2).mono ?_
    rintro x w' ⟨g, rfl, hg, _, ho⟩
    refine ⟨_, some ⟨g, 0, none⟩, need s.length, rfl, ?_, ho⟩
    rw [show (cutF e a s, (0 : Int)).1.length = need s.length from cutF_length e a s]
    exact sliceOf_block hg (by have := (h.2.2.2); omega) _
  · rw [if_neg h]
    refine (cut_bad w e a s we wa hs h).mono ?_
    rintro x w' ⟨rfl, rfl⟩
    exact ⟨_, none, 0, rfl, sliceOf_nil w, Only.refl _ _⟩

theorem refCut_any (w : World) (e a : Int) (s : List UInt8) (we : I64 e) (wa : I64 a) (hs : s.length ≤ maxLen) :
    Calls Try.prog 28 #[.int .i64 e, .int .i64 a, .string ⟨s.toArray⟩] w fun x w' => ∃ v ao cap, x = .returned (.tuple #[v, .int .i64 (cutR e a s).2]) ∧ SliceOf w' v (cutR e a s).1.length (frs (cutR e a s).1) ao cap ∧ Only (fun _ => False) w w' := by
  unfold cutR
  by_cases h : 1 ≤ e ∧ e ≤ 16777215 ∧ 0 ≤ a ∧ a ≤ 64 - (need s.length : Int)
  · rw [if_pos h]
    refine (refCut_ok w e a s hs h.1 h.2.1 h.2.2.1 h.2.2.2).mono ?_
    rintro x w' ⟨v, rfl, hg, ho⟩
    obtain ⟨ao, cap, hsl⟩ := sliceOf_own hg
    refine ⟨v, ao, cap, rfl, ?_, ho⟩
    rw [show (cutF e a s, (0 : Int)).1.length = need s.length from cutF_length e a s]
    exact hsl
  · rw [if_neg h]
    refine (refCut_bad w e a s we wa hs h).mono ?_
    rintro x w' ⟨rfl, rfl⟩
    exact ⟨_, none, 0, rfl, sliceOf_nil w, Only.refl _ _⟩

/-! ### slices of frames and texts as inputs -/
end Go.Proofs.Ytlgefjcfnnjkbaa
