/- Parts of the proof, one behind the other: App2, Open, DL, DL2, DK, Items, LogM. Each part's own words say what it proves; no conditions. -/
import Derived.Outline
import Derived.Test.YtlgefjcfnnjkbaaDoorP02
import Derived.Test.YtlgefjcfnnjkbaaDoorP04
import Derived.Test.YtlgefjcfnnjkbaaDoorP06
set_option linter.unusedVariables false
set_option linter.unusedSimpArgs false
set_option linter.unusedSectionVars false
/- Appends that also say where the row lies; Cut as one contract, the program's and the reference's. No conditions. -/
namespace Go.Proofs.YtlgefjcfnnjkbaaDoor
set_option maxRecDepth 100000
open Go.RowKit

section
variable {P : Program}
theorem append_src_row2 (w : World) (base : Nat) (t tx ty e : TypeId) (z : Value) (size bytes : Nat) (hu : P.underlying t = some (.slice e)) (hi : (P.info? e).map (fun i => (i.zero, i.size, i.bytes)) = some (some z, size, bytes))
    (hzs : z.cells.size = size) (hsz : 0 < size) (v : Value) (n : Nat) (xs : List Value) (hrow : w.ownsRow base e size v n xs) (x : Value) (m : Nat) (news : List Value) (hs : Src P size tx x m news w)
    (hn : n + m ≤ 100000000) (hb : bytes ≤ 1000) (hbase : base ≤ w.heap.size) :
    ∃ v' w', (Builtin.append_ #[t, tx] ty #[v, x]).run P w = .ok v' w' ∧ w'.ownsRow base e size v' (n + m) (xs ++ news) ∧ Only (fun k => v.ownBlock = some k) w w' ∧ (∀ k, v'.ownBlock = some k → v.ownBlock = some k ∨ w.heap.size ≤ k) := by
  obtain ⟨i0, hi0, hz0, hz1, hz2⟩ := info_parts hi
  have hbytes : (n + m) * bytes ≤ 140737488355328 := by
    have := Nat.mul_le_mul hn hb
    omega
  obtain ⟨v', w', hrun, hown, hgrow, hfr⟩ := run_append_src (P := P) w base t tx ty e i0 z size bytes hu hi0 hz0 hz1 hz2 hzs hsz v n xs hrow x m news hs (by unfold maxLen; omega) hbytes hbase
  exact ⟨v', w', hrun, hown, Only.of_grown hgrow (fun k hk => hk), hfr⟩

theorem append_one_row2 (w : World) (base : Nat) (t ty e : TypeId) (z : Value) (size bytes : Nat) (hu : P.underlying t = some (.slice e)) (hi : (P.info? e).map (fun i => (i.zero, i.size, i.bytes)) = some (some z, size, bytes))
    (hzs : z.cells.size = size) (hsz : 0 < size) (v : Value) (n : Nat) (xs : List Value) (hrow : w.ownsRow base e size v n xs) (cs : List Value) (hcs : cs.length = size) (h1 : ∀ u ∈ cs, u.oneCell' = true)
    (hn : n + 1 ≤ 100000000) (hb : bytes ≤ 1000) (hbase : base ≤ w.heap.size) :
    ∃ v' w', (Builtin.append_ #[t, t] ty #[v, .slice (some ⟨w.heap.size, 0, none⟩) 1 1]).run P (w.alloc (.cells cs.toArray e)) = .ok v' w' ∧ w'.ownsRow base e size v' (n + 1) (xs ++ cs) ∧ Only (fun k => v.ownBlock = some k) w w' ∧ (∀ k, v'.ownBlock = some k → v.ownBlock = some k ∨ w.heap.size ≤ k) := by
  have hnew : ∀ j u, cs[j]? = some u → (w.alloc (.cells cs.toArray e)).cell? ((⟨w.heap.size, 0, none⟩ : Addr).add j) = some u :=
    (has_of_block' (o := 0) (heap_alloc_new w _) (by simp)).adds
  obtain ⟨v', w', hrun, hown, ho, hfr⟩ := append_src_row2 (P := P) (w.alloc (.cells cs.toArray e)) base t t ty e z size bytes hu hi hzs hsz v n xs (hrow.alloc _) _ 1 cs (Src.ofSlice _ hu _ 1 1 cs (by omega) hnew h1) hn hb (by simp; omega)
  refine ⟨v', w', hrun, hown, (Only.alloc w _ _).trans ho, fun k hk => ?_⟩
  rcases hfr k hk with h | h
  · exact .inl h
  · simp at h; exact .inr (by omega)
end

/-- what a cut gives -/
def cutR (e a : Int) (s : List UInt8) : List Fr × Int := if 1 ≤ e ∧ e ≤ 16777215 ∧ 0 ≤ a ∧ a ≤ 64 - (need s.length : Int) then (cutF e a s, 0) else ([], 2)

theorem sliceOf_nil (w : World) : SliceOf w (.slice none 0 0) 0 [] none 0 := ⟨rfl, by omega, fun j x hx => by simp at hx⟩

theorem cut_any (w : World) (e a : Int) (s : List UInt8) (we : I64 e) (wa : I64 a) (hs : s.length ≤ maxLen) :
    Calls Tryd.prog 47 #[.int .i64 e, .int .i64 a, .string ⟨s.toArray⟩] w fun x w' => ∃ v ao cap, x = .returned (.tuple #[v, .int .i64 (cutR e a s).2]) ∧ SliceOf w' v (cutR e a s).1.length (frs (cutR e a s).1) ao cap ∧ Only (fun _ => False) w w' := by
  unfold cutR
  by_cases h : 1 ≤ e ∧ e ≤ 16777215 ∧ 0 ≤ a ∧ a ≤ 64 - (need s.length : Int)
  · rw [if_pos h]
    refine (cut_ok w e a s hs h.1 h.2.1 h.2.2.1 h.2.2.2).mono ?_
    rintro x w' ⟨g, rfl, hg, _, ho⟩
    refine ⟨_, some ⟨g, 0, none⟩, need s.length, rfl, ?_, ho⟩
    rw [show (cutF e a s, (0 : Int)).1.length = need s.length from cutF_length e a s]
    exact sliceOf_block hg (by have := (h.2.2.2); omega) _
  · rw [if_neg h]
    refine (cut_bad w e a s we wa hs h).mono ?_
    rintro x w' ⟨rfl, rfl⟩
    exact ⟨_, none, 0, rfl, sliceOf_nil w, Only.refl _ _⟩

/-! ### slices of frames and texts as inputs -/
end Go.Proofs.YtlgefjcfnnjkbaaDoor
/- A slice of frames that came in, as a list of frames. No conditions. -/
namespace Go.Proofs.YtlgefjcfnnjkbaaDoor
set_option maxRecDepth 100000
open Go.ChangeShapes Go.WideShapes Go.ChangeAt Go.RowKit Go.Joins Go.Deep

theorem exists_list {α : Type} {p : Nat → α → Prop} : ∀ (n : Nat), (∀ i, i < n → ∃ f, p i f) → ∃ l : List α, l.length = n ∧ ∀ i (h : i < l.length), p i l[i]
  | 0, _ => ⟨[], rfl, fun i h => by simp at h⟩
  | n + 1, h => by
    obtain ⟨l, hl, hp⟩ := exists_list n (fun i hi => h i (by omega))
    obtain ⟨f, hf⟩ := h n (by omega)
    refine ⟨l ++ [f], by simp [hl], fun i hi => ?_⟩
    by_cases e : i < l.length
    · rw [List.getElem_append_left e]; exact hp i e
    · have : i = n := by simp at hi; omega
      subst this
      rw [List.getElem_append_right (by omega)]
      simp only [hl, Nat.sub_self, List.getElem_cons_zero]
      exact hf

section
variable {H : Type} {enc : TypeId × Value → H} {W : World} {base : Nat}
theorem trod4_cells {t : TypeId} {f0 f1 f2 f3 : Field} {n : Nat} {c0 c1 c2 c3 : Value} {x : DataW H × List MemPlace} (hs : Tryd.prog.underlying t = some (.struct #[f0, f1, f2, f3])) (hone : oneCellFields Tryd.prog #[f0, f1, f2, f3] = true)
    (h : DataW.trod enc Tryd.prog W base (fun _ => true) true n t [c0, c1, c2, c3] = some x) :
    ∃ (y0 y1 y2 y3 : DataW H × List MemPlace) (m : Nat), DataW.trod enc Tryd.prog W base (fun _ => true) true m f0.type [c0] = some y0 ∧ DataW.trod enc Tryd.prog W base (fun _ => true) true m f1.type [c1] = some y1 ∧
      DataW.trod enc Tryd.prog W base (fun _ => true) true m f2.type [c2] = some y2 ∧ DataW.trod enc Tryd.prog W base (fun _ => true) true m f3.type [c3] = some y3 := by
  obtain ⟨y0, y1, y2, y3, m, _, _, h0, h1, h2, h3⟩ := trod_struct4 hs h
  obtain ⟨o0, k0⟩ := hone_of hone 0 f0 rfl
  obtain ⟨o1, k1⟩ := hone_of hone 1 f1 rfl
  obtain ⟨o2, k2⟩ := hone_of hone 2 f2 rfl
  obtain ⟨o3, k3⟩ := hone_of hone 3 f3 rfl
  exact ⟨y0, y1, y2, y3, m, by simpa [o0, k0] using h0, by simpa [o1, k1] using h1, by simpa [o2, k2] using h2, by simpa [o3, k3] using h3⟩

theorem frame_of_cells {n : Nat} {cs : List Value} {x : DataW H × List MemPlace} (h : DataW.trod enc Tryd.prog W base (fun _ => true) true n 86 cs = some x) (hl : cs.length = 4) : ∃ f : Fr, cs = f.cells ∧ f.Wf := by
  match cs, hl with
  | [c0, c1, c2, c3], _ =>
    obtain ⟨y0, y1, y2, y3, m, h0, h1, h2, h3⟩ := trod4_cells Tryd.underlying86 (by kernel_rfl) h
    obtain ⟨e, he, _, we⟩ := DataW.trod_int Tryd.underlying3 h0
    obtain ⟨a, ha, _, wa⟩ := DataW.trod_int Tryd.underlying3 h1
    obtain ⟨k, hk, _, wk⟩ := DataW.trod_int Tryd.underlying3 h2
    obtain ⟨s, hs, _, ws⟩ := DataW.trod_string Tryd.underlying9 h3
    simp only [List.cons.injEq, and_true] at he ha hk hs
    subst he ha hk hs
    exact ⟨⟨e, a, k, s.data.toList⟩, rfl, ⟨bounds_i64 we, bounds_i64 wa, bounds_i64 wk, by simpa using ws⟩⟩

theorem law_frames {r : Reach} {b0 : Nat} {v : Value} {d : DataW H} {ps : List MemPlace} (hval : Value.okWide Tryd.prog W r b0 118 v) (hd : DataW.Trod enc Tryd.prog W base (fun _ => true) true 118 v d ps) :
    ∃ (l : List Fr) (ao : Option Addr) (cap : Nat), SliceOf W v l.length (frs l) ao cap ∧ (∀ f ∈ l, f.Wf) ∧ l.length ≤ cap := by
  obtain ⟨a0, n0, c0, rfl⟩ := okWide_slice Tryd.underlying118 hval
  obtain ⟨fuel, hf⟩ := hd
  rcases open_slice Tryd.underlying118 hf with ⟨hcs, _⟩ | ⟨a, len, cap, m, n, D, Pl, hcs, hb, hl, hm, hmm, _, hi⟩
  · simp only [Value.cells, List.cons.injEq, and_true] at hcs
    rw [hcs]
    exact ⟨[], none, 0, ⟨rfl, by simp, fun j x hx => by simp [frs] at hx⟩, fun x hx => by (cases hx), Nat.le_refl _⟩
  · simp only [Value.cells, List.cons.injEq, and_true] at hcs
    rw [hcs]
    simp only [if_true] at hmm
    have hce : Tryd.prog.cellsOf 86 = 4 := by kernel_rfl
    rw [hce] at hi
    have each : ∀ i, i < len → ∃ f : Fr, f.Wf ∧ ∀ j u, f.cells[j]? = some u → W.cell? (a.add (i * 4 + j)) = some u := by
      intro i hil
      obtain ⟨cs', hc, ht⟩ := hi i (by omega)
      obtain ⟨_, hcl, hat⟩ := World.cells?_some hc
      obtain ⟨f, rfl, hw⟩ := frame_of_cells ht hcl
      refine ⟨f, hw, fun j u hu => ?_⟩
      have hj : j < 4 := by have := (List.getElem?_eq_some_iff.1 hu).1; simpa [Fr.cells] using this
      rw [← Go.Deep.add_add, hat j hj]
      exact hu
    obtain ⟨l, rfl, hp⟩ := exists_list len each
    refine ⟨l, some a, cap, ?_, ?_, by omega⟩
    · refine sliceOf_addr (by unfold maxLen at hm; omega) (fun j x hx => ?_)
      have hj : j < l.length * 4 := by
        have := (List.getElem?_eq_some_iff.1 hx).1
        rwa [frs_length] at this
      have hk : j / 4 < l.length := by omega
      have h4 : j % 4 < 4 := Nat.mod_lt _ (by decide)
      have hc4 : l[j / 4].cells[j % 4]? = some (l[j / 4].cells[j % 4]'h4) := List.getElem?_eq_getElem h4
      have e1 := frs_at l (j / 4) hk (j % 4) _ hc4
      have e2 := (hp (j / 4) hk).2 (j % 4) _ hc4
      rw [show j / 4 * 4 + j % 4 = j by omega] at e1 e2
      rw [e2, ← e1, hx]
    · intro f hf'
      obtain ⟨i, hi', rfl⟩ := List.getElem_of_mem hf'
      exact (hp i hi').1
end
end Go.Proofs.YtlgefjcfnnjkbaaDoor
/- The helpers of the disk statements: pick, Full. No conditions. -/
namespace Go.Proofs.YtlgefjcfnnjkbaaDoor
set_option maxRecDepth 100000
open Go.RowKit

/-- a sector of a raw text -/
def fullL (s : List UInt8) : List UInt8 := if s = [] then noughts else (List.range 64).map fun i => s.getD (i % s.length) 0
theorem fullL_length (s : List UInt8) : (fullL s).length = 64 := by
  unfold fullL; split
  · rfl
  · simp
def fullTo (s : List UInt8) (k : Nat) : List UInt8 := ((List.range k).map fun i => s.getD (i % s.length) 0) ++ List.replicate (64 - k) 0
theorem fullTo_succ (s : List UInt8) (k : Nat) (h : k < 64) : (fullTo s k).set k (s.getD (k % s.length) 0) = fullTo s (k + 1) := by
  unfold fullTo
  rw [List.set_append_right _ _ (by simp)]
  simp only [List.length_map, List.length_range, Nat.sub_self]
  rw [show 64 - k = (64 - (k + 1)) + 1 by omega, List.replicate_succ, List.set_cons_zero, List.range_succ, List.map_append]
  simp
theorem fullTo_length (s : List UInt8) (k : Nat) (h : k ≤ 64) : (fullTo s k).length = 64 := by simp [fullTo]; omega
theorem bvs_set (l : List UInt8) (k : Nat) (b : UInt8) : (bvs l).toArray.setIfInBounds k (bv b) = (bvs (l.set k b)).toArray := by
  apply Array.ext'
  simp [bvs, List.map_set]

/-! ### Read, as the statements use it -/
theorem read_has (w : World) (p kb : Nat) (pv : Value) (d : D) (k : Nat) (hd : DAt w p kb pv d) (hk : k < d.kept.length) :
    Calls Tryd.prog 49 #[.pointer (some ⟨p, 0, none⟩), .int .i64 (k : Int)] w fun e w' => e = .returned (.tuple #[.string ⟨(d.there k).toArray⟩, .int .i64 0]) ∧ Only (fun _ => False) w w' :=
  (read_in w p kb pv d k hd hk).mono fun _ _ ⟨he, hb⟩ => ⟨he, Only.of_below hb _⟩

/-! ### all -/
def allTo (d : D) (k : Nat) : List UInt8 := ((List.range k).map d.there).flatten
def allL (d : D) : List UInt8 := allTo d d.kept.length
theorem allTo_succ (d : D) (k : Nat) : allTo d (k + 1) = allTo d k ++ d.there k := by simp [allTo, List.range_succ]
theorem allTo_length {d : D} (h : d.Ok) : ∀ k, k ≤ d.kept.length → (allTo d k).length = 64 * k
  | 0, _ => rfl
  | k + 1, hk => by rw [allTo_succ, List.length_append, allTo_length h k (by omega), D.there_len h (by omega)]; omega

end Go.Proofs.YtlgefjcfnnjkbaaDoor
/- The helpers of the disk statements: Keep. No conditions. -/
namespace Go.Proofs.YtlgefjcfnnjkbaaDoor
set_option maxRecDepth 100000
open Go.RowKit

def natCells (l : List Nat) : List Value := l.map fun (n : Nat) => Value.int .i64 (n : Int)
theorem natCells_append (a b : List Nat) : natCells (a ++ b) = natCells a ++ natCells b := by simp [natCells]
theorem Tryd.info3 : (Tryd.prog.info? 3).map (fun i => (i.zero, i.size, i.bytes)) = some (some (.int .i64 0), 1, 8) := by kernel_rfl

/-- which are kept -/
def keepStep (n : Nat) (out : List Nat) (x : Int) : List Nat := if (pickI x n).toNat ∈ out then out else out ++ [(pickI x n).toNat]
def keepTo (l : List Int) (n i : Nat) : List Nat := (l.take i).foldl (keepStep n) []
def keepL (l : List Int) (n : Nat) : List Nat := if n = 0 then [] else keepTo l n (min 20 l.length)
theorem keepTo_succ (l : List Int) (n i : Nat) (h : i < l.length) : keepTo l n (i + 1) = keepStep n (keepTo l n i) l[i] := by
  unfold keepTo
  rw [List.take_succ_eq_append_getElem h, List.foldl_append]
  rfl
theorem keepStep_ok {n : Nat} (hn : 0 < n) {out : List Nat} (x : Int) (h : (∀ k ∈ out, k < n) ∧ out.Nodup) : (∀ k ∈ keepStep n out x, k < n) ∧ (keepStep n out x).Nodup := by
  have hp := pickI_lt x n (by omega)
  unfold keepStep
  split
  · exact h
  · rename_i hm
    refine ⟨fun k hk => ?_, ?_⟩
    · rcases List.mem_append.1 hk with hk | hk
      · exact h.1 k hk
      · simp only [List.mem_singleton] at hk; omega
    · rw [List.nodup_append]
      refine ⟨h.2, by simp, fun a ha b hb e => ?_⟩
      simp only [List.mem_singleton] at hb
      exact hm (hb ▸ e ▸ ha)
theorem keepTo_ok (l : List Int) {n : Nat} (hn : 0 < n) : ∀ i, i ≤ l.length → (∀ k ∈ keepTo l n i, k < n) ∧ (keepTo l n i).Nodup
  | 0, _ => ⟨fun k hk => by simp [keepTo] at hk, by simp [keepTo]⟩
  | i + 1, h => by rw [keepTo_succ l n i (by omega)]; exact keepStep_ok hn _ (keepTo_ok l hn i (by omega))
theorem keepTo_length (l : List Int) (n : Nat) : ∀ i, i ≤ l.length → (keepTo l n i).length ≤ i
  | 0, _ => by simp [keepTo]
  | i + 1, h => by
    rw [keepTo_succ l n i (by omega)]
    have := keepTo_length l n i (by omega)
    unfold keepStep
    split
    · omega
    · simp; omega
theorem keepL_ok (l : List Int) (n : Nat) : (∀ k ∈ keepL l n, k < n) ∧ (keepL l n).Nodup := by
  unfold keepL
  split
  · exact ⟨fun k hk => by simp at hk, by simp⟩
  · exact keepTo_ok l (by omega) _ (by omega)
theorem keepL_length (l : List Int) (n : Nat) : (keepL l n).length ≤ 20 := by
  unfold keepL
  split
  · simp
  · exact Nat.le_trans (keepTo_length l n _ (by omega)) (by omega)

def usedCells (n : Nat) (out : List Nat) : List Value := (List.range n).map fun j => .bool (decide (j ∈ out))
theorem usedCells_length (n : Nat) (out : List Nat) : (usedCells n out).length = n := by simp [usedCells]
theorem usedCells_get (n : Nat) (out : List Nat) (k : Nat) (h : k < n) : (usedCells n out).toArray[k]? = some (.bool (decide (k ∈ out))) := by simp [usedCells, h]
theorem usedCells_set (n : Nat) (out : List Nat) (k : Nat) : (usedCells n out).toArray.setIfInBounds k (.bool true) = (usedCells n (out ++ [k])).toArray := by
  apply Array.ext'
  rw [Array.toList_setIfInBounds]
  apply List.ext_getElem
  · simp [usedCells]
  · intro j h1 h2
    simp only [usedCells, List.getElem_set, List.getElem_map, List.getElem_range, List.mem_append, List.mem_singleton]
    split
    · rename_i e; simp [e]
    · rename_i e; have : ¬ j = k := fun h => e h.symm
      simp [this]
theorem usedCells_new (n : Nat) : madeCells (Value.bool false).cells (n * 1) = (usedCells n []).toArray := by
  rw [madeCells_same (Value.bool false).cells (.bool false) 1 (n * 1) rfl (by decide), Nat.mul_one]
  congr 1
  apply List.ext_getElem
  · simp [usedCells]
  · intro j h1 h2; simp [usedCells]

end Go.Proofs.YtlgefjcfnnjkbaaDoor
/- Several disks at once. No conditions. -/
namespace Go.Proofs.YtlgefjcfnnjkbaaDoor
set_option maxRecDepth 100000
open Go.RowKit

structure Dk where
  p : Nat
  kb : Nat
  pv : Value
  d : D

/-- disks of a law that began in the world w0, none in a block of another or in those that are set aside -/
structure Disks (w0 w : World) (F : Nat → Prop) (l : List Dk) : Prop where
  only : Only (fun _ => False) w0 w
  at_ : ∀ (i : Nat) (x : Dk), l[i]? = some x → DAt w x.p x.kb x.pv x.d
  new : ∀ (i : Nat) (x : Dk), l[i]? = some x → ∀ b, fp x.p x.kb x.pv b → w0.heap.size ≤ b ∧ ¬ F b
  apart : ∀ (i j : Nat) (x y : Dk), i ≠ j → l[i]? = some x → l[j]? = some y → ∀ b, fp x.p x.kb x.pv b → ¬ fp y.p y.kb y.pv b
  froz : ∀ b, F b → b < w.heap.size

section
variable {w0 w w' : World} {F : Nat → Prop} {l : List Dk}

theorem Disks.start (w : World) : Disks w w (fun _ => False) [] :=
  ⟨Only.refl _ _, fun i x h => by simp at h, fun i x h => by simp at h, fun i j x y _ h => by simp at h, fun _ h => h.elim⟩

theorem Disks.quiet (h : Disks w0 w F l) (ho : Only (fun _ => False) w w') : Disks w0 w' F l :=
  ⟨h.only.trans ho, fun i x hx => (h.at_ i x hx).only ho (fun _ _ => id), h.new, h.apart, fun b hb => Nat.lt_of_lt_of_le (h.froz b hb) ho.size⟩

theorem Disks.upd (h : Disks w0 w F l) {i : Nat} {p kb p' kb' : Nat} {pv pv' : Value} {d d' : D} (hi : l[i]? = some ⟨p, kb, pv, d⟩) (hd : DAt w' p' kb' pv' d') (ho : Only (fp p kb pv) w w') (hf : ∀ b, fp p' kb' pv' b → fp p kb pv b ∨ w.heap.size ≤ b) :
    Disks w0 w' F (l.set i ⟨p', kb', pv', d'⟩) ∧ Only (fun b => ¬ F b) w w' := by
  have hN : ∀ b, fp p' kb' pv' b → w0.heap.size ≤ b ∧ ¬ F b := fun b hb => by
    rcases hf b hb with h1 | h1
    · exact h.new i _ hi b h1
    · exact ⟨Nat.le_trans h.only.size h1, fun hF => by have := h.froz b hF; omega⟩
  have hA : ∀ (j : Nat) (y : Dk), i ≠ j → l[j]? = some y → ∀ b, fp p' kb' pv' b → ¬ fp y.p y.kb y.pv b := fun j y hij hj b hb hy => by
    rcases hf b hb with h1 | h1
    · exact h.apart i j _ y hij hi hj b h1 hy
    · have := (h.at_ j y hj).fp_lt b hy; omega
  have key : ∀ (j : Nat) (y : Dk), (l.set i ⟨p', kb', pv', d'⟩)[j]? = some y → (i = j ∧ y = ⟨p', kb', pv', d'⟩) ∨ (i ≠ j ∧ l[j]? = some y) := fun j y hy => by
    rw [List.getElem?_set] at hy
    by_cases e : i = j
    · subst e
      have hlt : i < l.length := (List.getElem?_eq_some_iff.1 hi).1
      simp [hlt] at hy
      exact .inl ⟨rfl, hy.symm⟩
    · simp [e] at hy
      exact .inr ⟨e, hy⟩
  refine ⟨⟨?_, ?_, ?_, ?_, fun b hb => Nat.lt_of_lt_of_le (h.froz b hb) ho.size⟩, ho.mono fun k _ hk => (h.new i _ hi k hk).2⟩
  · exact h.only.trans' ho (fun y hy hy' => by have := (h.new i _ hi y hy').1; omega)
  · intro j y hy
    rcases key j y hy with ⟨rfl, rfl⟩ | ⟨hij, hj⟩
    · exact hd
    · exact (h.at_ j y hj).only ho (fun b hb hb' => h.apart i j _ y hij hi hj b hb' hb)
  · intro j y hy
    rcases key j y hy with ⟨rfl, rfl⟩ | ⟨hij, hj⟩
    · exact hN
    · exact h.new j y hj
  · intro a b x y hab hx hy
    rcases key a x hx with ⟨rfl, rfl⟩ | ⟨hia, ha⟩ <;> rcases key b y hy with ⟨rfl, rfl⟩ | ⟨hib, hb⟩
    · exact absurd rfl hab
    · exact hA b y hib hb
    · exact fun c hc hc' => hA a x hia ha c hc' hc
    · exact h.apart a b x y hab ha hb

theorem Disks.push (h : Disks w0 w F l) {p kb : Nat} {pv : Value} {d : D} (hd : DAt w' p kb pv d) (hn : ∀ b, fp p kb pv b → w.heap.size ≤ b) (ho : Only (fun _ => False) w w') : Disks w0 w' F (l ++ [⟨p, kb, pv, d⟩]) := by
  have h' := h.quiet ho
  have key : ∀ (j : Nat) (y : Dk), (l ++ [(⟨p, kb, pv, d⟩ : Dk)])[j]? = some y → l[j]? = some y ∨ (l.length = j ∧ y = ⟨p, kb, pv, d⟩) := fun j y hy => by
    rw [List.getElem?_append] at hy
    split at hy
    · exact .inl hy
    · next hlt =>
      rw [List.getElem?_singleton] at hy
      split at hy
      · exact .inr ⟨by omega, (Option.some.inj hy).symm⟩
      · cases hy
  have hlt : ∀ (j : Nat) (y : Dk), l[j]? = some y → j < l.length := fun j y hj => (List.getElem?_eq_some_iff.1 hj).1
  have hA : ∀ (j : Nat) (y : Dk), l[j]? = some y → ∀ b, fp y.p y.kb y.pv b → ¬ fp p kb pv b := fun j y hj b hb hb' => by
    have := (h.at_ j y hj).fp_lt b hb
    have := hn b hb'
    omega
  refine ⟨h'.only, ?_, ?_, ?_, h'.froz⟩
  · intro j y hy
    rcases key j y hy with hj | ⟨rfl, rfl⟩
    · exact h'.at_ j y hj
    · exact hd
  · intro j y hy
    rcases key j y hy with hj | ⟨rfl, rfl⟩
    · exact h.new j y hj
    · exact fun b hb => ⟨Nat.le_trans h.only.size (hn b hb), fun hF => by have := h.froz b hF; have := hn b hb; omega⟩
  · intro a b x y hab hx hy
    rcases key a x hx with ha | ⟨rfl, rfl⟩ <;> rcases key b y hy with hb | ⟨rfl, rfl⟩
    · exact h.apart a b x y hab ha hb
    · exact hA a x ha
    · exact fun c hc hc' => hA b y hb c hc' hc
    · exact absurd rfl hab

/-- a block that came behind the disks is set aside -/
theorem Disks.freeze (h : Disks w0 w F l) (b : Nat) (ho : Only (fun _ => False) w w') (hb : w.heap.size ≤ b) (hb' : b < w'.heap.size) : Disks w0 w' (fun x => F x ∨ x = b) l :=
  ⟨h.only.trans ho, (h.quiet ho).at_, fun i x hx c hc => ⟨(h.new i x hx c hc).1, by
    rintro (h1 | rfl)
    · exact (h.new i x hx c hc).2 h1
    · have := (h.at_ i x hx).fp_lt _ hc; omega⟩, h.apart, by
    rintro c (h1 | rfl)
    · exact (h.quiet ho).froz c h1
    · exact hb'⟩

theorem Disks.freezeP (h : Disks w0 w F l) (G : Nat → Prop) (ho : Only (fun _ => False) w w') (hG : ∀ b, G b → w.heap.size ≤ b ∧ b < w'.heap.size) : Disks w0 w' (fun x => F x ∨ G x) l :=
  ⟨h.only.trans ho, (h.quiet ho).at_, fun i x hx c hc => ⟨(h.new i x hx c hc).1, by
    rintro (h1 | h1)
    · exact (h.new i x hx c hc).2 h1
    · have := (h.at_ i x hx).fp_lt _ hc; have := (hG c h1).1; omega⟩, h.apart, by
    rintro c (h1 | h1)
    · exact (h.quiet ho).froz c h1
    · exact (hG c h1).2⟩

theorem IntsAt.held {v : Value} {ns : List Int} {ao : Option Addr} {cap : Nat} (h : IntsAt w v ns ao cap) (ho : Only (fun b => ¬ F b) w w') (hF : ∀ b o, ao = some ⟨b, o, none⟩ → F b) : IntsAt w' v ns ao cap :=
  h.only ho fun b o _ _ e _ hn => hn (hF b o e)

theorem ints_block {g : Nat} {t : TypeId} (l : List Int) (h : w.heap[g]? = some (.cells (l.map (Value.int .i64)).toArray t (0, 0))) (hl : l.length ≤ 9223372036854775807) (hw : ∀ x ∈ l, -9223372036854775808 ≤ x ∧ x ≤ 9223372036854775807) (c : Nat) :
    IntsAt w (.slice (some ⟨g, 0, none⟩) l.length c) l (some ⟨g, 0, none⟩) c :=
  ⟨rfl, hl, fun j x hx => ⟨g, 0, rfl, by
    rw [cell_at h, List.getElem?_toArray, List.getElem?_map, Nat.zero_add, hx]; rfl⟩, hw⟩

/-- a row of numbers that was kept -/
theorem nats_own {base : Nat} {r : Value} {l : List Nat} (h : w.ownsRow base 3 1 r l.length (natCells l)) (hl : l.length ≤ 1000000) (hw : ∀ x ∈ l, x ≤ 1000000) :
    ∃ ao cap, IntsAt w r (l.map fun (x : Nat) => (x : Int)) ao cap ∧ ∀ b o, ao = some ⟨b, o, none⟩ → base ≤ b ∧ r.ownBlock = some b := by
  obtain ⟨ao, cap, hs⟩ := sliceOf_own h
  refine ⟨ao, cap, ⟨by rw [hs.val]; simp, by simp; omega, fun j x hx => ?_, fun x hx => ?_⟩, fun b o e => ?_⟩
  · rw [List.getElem?_map] at hx
    obtain ⟨y, hy, rfl⟩ := Option.map_eq_some_iff.1 hx
    exact hs.cell j (.int .i64 (y : Int)) (by simp [natCells, hy])
  · obtain ⟨y, hy, rfl⟩ := List.mem_map.1 hx
    have := hw y hy
    omega
  · have hv := hs.val
    subst hv
    subst e
    have := h.lt b rfl
    exact ⟨this.1, rfl⟩
end

theorem set_same {l : List Dk} (i : Nat) {x : Dk} (hx : l[i]? = some x) : l.set i x = l := by
  apply List.ext_getElem?
  intro j
  rw [List.getElem?_set]
  by_cases e : i = j
  · subst e
    have hlt : i < l.length := (List.getElem?_eq_some_iff.1 hx).1
    simp [hlt]
    exact ((List.getElem?_eq_some_iff.1 hx).2).symm
  · simp [e]

section
variable {w0 w : World} {F : Nat → Prop} {l : List Dk} (h : Disks w0 w F l) (i : Nat) {p kb : Nat} {pv : Value} {d : D} (hi : l[i]? = some ⟨p, kb, pv, d⟩)
include h

theorem dk_write (hi : l[i]? = some ⟨p, kb, pv, d⟩) (k : Nat) (s : List UInt8) (hk : k < d.kept.length) (hs : s.length = 64) (hp : d.power = true) (hroom : d.pend.length < 1000000) :
    Calls Tryd.prog 39 #[.pointer (some ⟨p, 0, none⟩), .int .i64 (k : Int), .string ⟨s.toArray⟩] w fun e w' => ∃ pv', e = .returned (.int .i64 0) ∧ Disks w0 w' F (l.set i ⟨p, kb, pv', d.write k s⟩) ∧ Only (fun b => ¬ F b) w w' := by
  refine (write_any w p kb pv d k ⟨s.toArray⟩ (h.at_ i _ hi) hk (by rw [size_toArray]; exact hs) hp hroom).mono ?_
  rintro e w' ⟨pv', rfl, hd', ho, hf⟩
  refine ⟨pv', rfl, h.upd hi hd' ho fun b hb => ?_⟩
  rcases hb with h | h | h
  · exact .inl (.inl h)
  · exact .inl (.inr (.inl h))
  · rcases hf b h with h | h
    · exact .inl (.inr (.inr h))
    · exact .inr h
theorem dk_head {w' : World} {d' : D} (hi : l[i]? = some ⟨p, kb, pv, d⟩) (hd : DAt w' p kb pv d') (ho : Only (fun k => k = p) w w') : Disks w0 w' F (l.set i ⟨p, kb, pv, d'⟩) ∧ Only (fun b => ¬ F b) w w' :=
  h.upd hi hd (ho.mono fun _ _ e => .inl e) fun _ hb => .inl hb
theorem dk_write_nopower (hi : l[i]? = some ⟨p, kb, pv, d⟩) (k : Nat) (s : List UInt8) (hk : k < d.kept.length) (hs : s.length = 64) (hp : d.power = false) :
    Calls Tryd.prog 39 #[.pointer (some ⟨p, 0, none⟩), .int .i64 (k : Int), .string ⟨s.toArray⟩] w fun e w' => e = .returned (.int .i64 22) ∧ Disks w0 w' F l ∧ Only (fun b => ¬ F b) w w' := by
  refine (write_nopower w p kb pv d k ⟨s.toArray⟩ (h.at_ i _ hi) hk (by rw [size_toArray]; exact hs) hp).mono ?_
  rintro e w' ⟨rfl, hd', ho, _⟩
  have := dk_head h i hi hd' ho
  rw [set_same i hi] at this
  exact ⟨rfl, this⟩
theorem dk_sync (hi : l[i]? = some ⟨p, kb, pv, d⟩) (hp : d.power = true) :
    Calls Tryd.prog 25 #[.pointer (some ⟨p, 0, none⟩)] w fun e w' => e = .returned (.int .i64 0) ∧ Disks w0 w' F (l.set i ⟨p, kb, .slice none 0 0, d.sync⟩) ∧ Only (fun b => ¬ F b) w w' := by
  refine (sync_any w p kb pv d (h.at_ i _ hi) hp).mono ?_
  rintro e w' ⟨rfl, hd', ho, _⟩
  refine ⟨rfl, h.upd hi hd' ho fun b hb => ?_⟩
  rcases hb with h | h | h
  · exact .inl (.inl h)
  · exact .inl (.inr (.inl h))
  · cases h
theorem dk_sync_nopower (hi : l[i]? = some ⟨p, kb, pv, d⟩) (hp : d.power = false) :
    Calls Tryd.prog 25 #[.pointer (some ⟨p, 0, none⟩)] w fun e w' => e = .returned (.int .i64 22) ∧ Disks w0 w' F l ∧ Only (fun b => ¬ F b) w w' := by
  refine (sync_nopower w p kb pv d (h.at_ i _ hi) hp).mono ?_
  rintro e w' ⟨rfl, hd', ho, _⟩
  have := dk_head h i hi hd' ho
  rw [set_same i hi] at this
  exact ⟨rfl, this⟩
theorem dk_crash (hi : l[i]? = some ⟨p, kb, pv, d⟩) (ns : List Int) (v : Value) (ao : Option Addr) (cap : Nat) (hv : IntsAt w v ns ao cap) (hok : crashOk d.pend.length ns) (hroom : d.pend.length ≤ 1000000) :
    Calls Tryd.prog 14 #[.pointer (some ⟨p, 0, none⟩), v] w fun e w' => e = .returned (.int .i64 0) ∧ Disks w0 w' F (l.set i ⟨p, kb, .slice none 0 0, d.crash (ns.map Int.toNat)⟩) ∧ Only (fun b => ¬ F b) w w' := by
  refine (crash_ok w p kb pv d ns v ao cap (h.at_ i _ hi) hv hok hroom).mono ?_
  rintro e w' ⟨rfl, hd', ho⟩
  refine ⟨rfl, h.upd hi hd' ho fun b hb => ?_⟩
  rcases hb with h | h | h
  · exact .inl (.inl h)
  · exact .inl (.inr (.inl h))
  · cases h
theorem dk_crash_bad (hi : l[i]? = some ⟨p, kb, pv, d⟩) (ns : List Int) (v : Value) (ao : Option Addr) (cap : Nat) (hv : IntsAt w v ns ao cap) (hok : ¬ crashOk d.pend.length ns) (hroom : d.pend.length ≤ 1000000) :
    Calls Tryd.prog 14 #[.pointer (some ⟨p, 0, none⟩), v] w fun e w' => e = .returned (.int .i64 21) ∧ Disks w0 w' F l ∧ Only (fun b => ¬ F b) w w' := by
  refine (crash_bad w p kb pv d ns v ao cap (h.at_ i _ hi) hv hok hroom).mono ?_
  rintro e w' ⟨rfl, ho⟩
  exact ⟨rfl, h.quiet ho, ho.mono fun _ _ => False.elim⟩
theorem dk_read (hi : l[i]? = some ⟨p, kb, pv, d⟩) (k : Nat) (hk : k < d.kept.length) :
    Calls Tryd.prog 49 #[.pointer (some ⟨p, 0, none⟩), .int .i64 (k : Int)] w fun e w' => e = .returned (.tuple #[.string ⟨(d.there k).toArray⟩, .int .i64 0]) ∧ Disks w0 w' F l ∧ Only (fun b => ¬ F b) w w' :=
  (read_has w p kb pv d k (h.at_ i _ hi) hk).mono fun _ _ ⟨he, ho⟩ => ⟨he, h.quiet ho, ho.mono fun _ _ => False.elim⟩
omit i in
theorem dk_new (n : Nat) (h1 : 1 ≤ n) (h2 : n ≤ 768) :
    Calls Tryd.prog 5 #[.int .i64 (n : Int)] w fun e w' => ∃ p kb, e = .returned (.tuple #[.pointer (some ⟨p, 0, none⟩), .int .i64 0]) ∧ Disks w0 w' F (l ++ [⟨p, kb, .slice none 0 0, D.new n⟩]) := by
  refine (new_any w n h1 h2).mono ?_
  rintro e w' ⟨p, kb, rfl, hd, hp, hk, ho⟩
  refine ⟨p, kb, rfl, h.push hd (fun b hb => ?_) ho⟩
  rcases hb with rfl | rfl | h
  · exact hp
  · exact hk
  · cases h
end
end Go.Proofs.YtlgefjcfnnjkbaaDoor
/- Batches and seals one behind the other, as frames; what is joined of them, cut off anywhere. Plain; no program is named; no conditions. -/
namespace Go.Proofs.YtlgefjcfnnjkbaaDoor
set_option maxRecDepth 100000

/-- a seal -/
def sealAt (e : Int) (a : Nat) : Fr := { e := e, a := a, k := 4, s := [] }
/-- the frames of batches (some s) and seals (none), from a place on -/
def items (e : Int) : Nat → List (Option (List UInt8)) → List Fr
  | _, [] => []
  | a, some s :: r => cutF e a s ++ items e (a + need s.length) r
  | a, none :: r => sealAt e a :: items e (a + 1) r
/-- how many frames they take -/
def iLen : List (Option (List UInt8)) → Nat
  | [] => 0
  | some s :: r => need s.length + iLen r
  | none :: r => 1 + iLen r

theorem items_length (e : Int) : ∀ (its : List (Option (List UInt8))) (a : Nat), (items e a its).length = iLen its
  | [], _ => rfl
  | some s :: r, a => by simp [items, iLen, cutF_length, items_length e r]
  | none :: r, a => by simp [items, iLen, items_length e r]; omega
theorem iLen_append : ∀ (x y : List (Option (List UInt8))), iLen (x ++ y) = iLen x + iLen y
  | [], y => by simp [iLen]
  | some s :: r, y => by simp [iLen, iLen_append r y]; omega
  | none :: r, y => by simp [iLen, iLen_append r y]; omega
theorem items_append (e : Int) : ∀ (x : List (Option (List UInt8))) (a : Nat) (y : List (Option (List UInt8))), items e a (x ++ y) = items e a x ++ items e (a + iLen x) y
  | [], a, y => by simp [items, iLen]
  | some s :: r, a, y => by
    simp only [List.cons_append, items, items_append e r, iLen, List.append_assoc]
    rw [Nat.add_assoc]
  | none :: r, a, y => by
    simp only [List.cons_append, items, items_append e r, iLen]
    rw [Nat.add_assoc]
theorem iLen_take_le (its : List (Option (List UInt8))) (m : Nat) : iLen (its.take m) ≤ iLen its := by
  have := iLen_append (its.take m) (its.drop m)
  rw [List.take_append_drop] at this
  omega
theorem iLen_mono (its : List (Option (List UInt8))) (m n : Nat) (h : m ≤ n) : iLen (its.take m) ≤ iLen (its.take n) := by
  have := iLen_take_le (its.take n) m
  rwa [List.take_take, Nat.min_eq_left h] at this
theorem iLen_one (x : Option (List UInt8)) : 1 ≤ iLen [x] := by
  cases x with
  | none => simp [iLen]
  | some s => have := needP_pos s.length; simp [iLen]; omega
theorem iLen_ge (its : List (Option (List UInt8))) : its.length ≤ iLen its := by
  induction its with
  | nil => simp [iLen]
  | cons x r ih =>
    have h := iLen_one x
    have e : iLen (x :: r) = iLen [x] + iLen r := iLen_append [x] r
    simp only [List.length_cons]; omega
theorem sealAt_right (e : Int) (a : Nat) (he : 1 ≤ e ∧ e ≤ 16777215) (ha : a < 64) : (sealAt e a).right = true := by
  rw [Fr.right_iff]; simp [sealAt]; omega

/-- each frame's place, epoch, kind -/
theorem items_get (e : Int) (he : 1 ≤ e ∧ e ≤ 16777215) : ∀ (its : List (Option (List UInt8))) (a : Nat), a + iLen its ≤ 64 → ∀ (i : Nat) (h : i < (items e a its).length),
    (items e a its)[i].right = true ∧ (items e a its)[i].e = e ∧ (items e a its)[i].a = ((a + i : Nat) : Int) ∧ (items e a its)[i].k ≠ 1
  | [], a, _, i, h => by simp [items] at h
  | some s :: r, a, hl, i, h => by
    simp only [iLen] at hl
    by_cases hi : i < (cutF e a s).length
    · have hn : (cutF e a s).length = need s.length := cutF_length e a s
      have eq : (items e a (some s :: r))[i] = cutL e a s (need s.length) i := by
        simp only [items]
        rw [List.getElem_append_left hi, cutF_get]
      rw [eq]
      refine ⟨cutL_right e a s _ i he (by omega) (by omega), rfl, by simp [cutL], ?_⟩
      simp only [cutL]; split <;> decide
    · have hn : (cutF e a s).length = need s.length := cutF_length e a s
      have hl2 : i - (cutF e a s).length < (items e (a + need s.length) r).length := by
        simp only [items, List.length_append] at h; omega
      have eq : (items e a (some s :: r))[i] = (items e (a + need s.length) r)[i - (cutF e a s).length] := by
        simp only [items]
        rw [List.getElem_append_right (by omega)]
      rw [eq]
      obtain ⟨h1, h2, h3, h4⟩ := items_get e he r (a + need s.length) (by omega) _ hl2
      exact ⟨h1, h2, by rw [h3, hn]; omega, h4⟩
  | none :: r, a, hl, i, h => by
    simp only [iLen] at hl
    cases i with
    | zero => exact ⟨sealAt_right e a he (by omega), rfl, by simp [items, sealAt], by simp [items, sealAt]⟩
    | succ i =>
      have hl2 : i < (items e (a + 1) r).length := by simp only [items, List.length_cons] at h; omega
      have eq : (items e a (none :: r))[i + 1] = (items e (a + 1) r)[i] := by simp only [items]; rfl
      rw [eq]
      obtain ⟨h1, h2, h3, h4⟩ := items_get e he r (a + 1) (by omega) _ hl2
      exact ⟨h1, h2, by rw [h3]; omega, h4⟩

/-- all of them are joined -/
theorem run_items (e : Int) (he : 1 ≤ e ∧ e ≤ 16777215) : ∀ (its : List (Option (List UInt8))) (a : Nat) (j : Js) (r : List Fr), a + iLen its ≤ 64 → j.begun = none → j.whole = j.i →
    j.run (items e a its ++ r) = Js.run { out := j.out ++ its.filterMap id, begun := none, whole := j.i + iLen its, i := j.i + iLen its } r
  | [], a, j, r, _, hb, hw => by
    cases j; simp only at hb hw; subst hb; subst hw; simp [items, iLen]
  | some s :: l, a, j, r, hl, hb, hw => by
    simp only [iLen] at hl
    simp only [items, List.append_assoc]
    rw [run_cut_all e a s he (by omega) (by omega) j hb, run_items e he l _ _ _ (by omega) rfl rfl]
    simp only [iLen, List.filterMap_cons, id, List.append_assoc, List.singleton_append]
    congr 2 <;> omega
  | none :: l, a, j, r, hl, hb, hw => by
    simp only [iLen] at hl
    simp only [items, List.cons_append]
    rw [Js.run_some (Js.step_seal (sealAt_right e a he (by omega)) rfl hb), run_items e he l (a + 1) { j with whole := j.i + 1, i := j.i + 1 } r (by omega) hb rfl]
    simp only [iLen, List.filterMap_cons, id]
    congr 2 <;> omega

/-- cut off anywhere: the batches that are whole are joined -/
theorem run_items_take (e : Int) (he : 1 ≤ e ∧ e ≤ 16777215) : ∀ (its : List (Option (List UInt8))) (a : Nat) (j : Js) (p : Nat), a + iLen its ≤ 64 → j.begun = none → j.whole = j.i → p ≤ iLen its →
    ∃ m, m ≤ its.length ∧ (j.run ((items e a its).take p)).out = j.out ++ (its.take m).filterMap id ∧ (j.run ((items e a its).take p)).whole = j.i + iLen (its.take m) ∧ iLen (its.take m) ≤ p ∧ (m < its.length → p < iLen (its.take (m + 1)))
  | [], a, j, p, _, hb, hw, hp => ⟨0, by simp, by simp [items, Js.run], by simp [items, Js.run, iLen, hw], by simp [iLen], by simp⟩
  | some s :: l, a, j, p, hl, hb, hw, hp => by
    simp only [iLen] at hl hp
    have hn : (cutF e a s).length = need s.length := cutF_length e a s
    by_cases hlt : p < need s.length
    · have e1 : (items e a (some s :: l)).take p = (cutF e a s).take p := by simp only [items]; rw [List.take_append_of_le_length (by omega)]
      refine ⟨0, by simp, ?_, ?_, by simp [iLen], fun _ => by simp [iLen]; omega⟩
      · rw [e1, (run_cut e a s he (by omega) (by omega) j hb p hlt).1]; simp
      · rw [e1, (run_cut e a s he (by omega) (by omega) j hb p hlt).1]; simp [iLen, hw]
    · have e1 : (items e a (some s :: l)).take p = cutF e a s ++ (items e (a + need s.length) l).take (p - need s.length) := by
        simp only [items]
        rw [List.take_append, hn, List.take_of_length_le (by omega)]
      rw [e1, run_cut_all e a s he (by omega) (by omega) j hb]
      obtain ⟨m, h1, h2, h3, h4, h5⟩ := run_items_take e he l (a + need s.length) ⟨j.out ++ [s], none, j.i + need s.length, j.i + need s.length⟩ (p - need s.length) (by omega) rfl rfl (by omega)
      refine ⟨m + 1, by simp; omega, ?_, ?_, ?_, ?_⟩
      · rw [h2]; simp []
      · rw [h3]; simp [iLen]; omega
      · simp only [List.take_succ_cons, iLen]; omega
      · intro h
        have := h5 (by simpa using h)
        simp only [List.take_succ_cons, iLen] at this ⊢; omega
  | none :: l, a, j, p, hl, hb, hw, hp => by
    simp only [iLen] at hl hp
    cases p with
    | zero => exact ⟨0, by simp, by simp [Js.run], by simp [Js.run, iLen, hw], by simp [iLen], fun _ => by simp [iLen]⟩
    | succ p =>
      have e1 : (items e a (none :: l)).take (p + 1) = sealAt e a :: (items e (a + 1) l).take p := by simp only [items, List.take_succ_cons]
      rw [e1, Js.run_some (Js.step_seal (sealAt_right e a he (by omega)) rfl hb)]
      obtain ⟨m, h1, h2, h3, h4, h5⟩ := run_items_take e he l (a + 1) { j with whole := j.i + 1, i := j.i + 1 } p (by omega) hb rfl (by omega)
      refine ⟨m + 1, by simp; omega, ?_, ?_, ?_, ?_⟩
      · rw [h2]; simp []
      · rw [h3]; simp [iLen]; omega
      · simp only [List.take_succ_cons, iLen]; omega
      · intro h
        have := h5 (by simpa using h)
        simp only [List.take_succ_cons, iLen] at this ⊢; omega

theorem joinF_items (e : Int) (he : 1 ≤ e ∧ e ≤ 16777215) (its : List (Option (List UInt8))) (a : Nat) (h : a + iLen its ≤ 64) : joinF (items e a its) = (its.filterMap id, iLen its) := by
  have := run_items e he its a Js.new [] h rfl rfl
  rw [List.append_nil] at this
  simp only [joinF]
  rw [this]
  simp [Js.run, Js.new]
theorem joinF_take (e : Int) (he : 1 ≤ e ∧ e ≤ 16777215) (its : List (Option (List UInt8))) (a p : Nat) (h : a + iLen its ≤ 64) (hp : p ≤ iLen its) :
    ∃ m, m ≤ its.length ∧ joinF ((items e a its).take p) = ((its.take m).filterMap id, iLen (its.take m)) ∧ iLen (its.take m) ≤ p ∧ (m < its.length → p < iLen (its.take (m + 1))) := by
  obtain ⟨m, h1, h2, h3, h4, h5⟩ := run_items_take e he its a Js.new p h rfl rfl hp
  refine ⟨m, h1, ?_, h4, h5⟩
  simp only [joinF]
  rw [h2, h3]
  simp [Js.new]
end Go.Proofs.YtlgefjcfnnjkbaaDoor
/- A log as plain data: what is found on a disk, what each call makes of a log and its disk. Plain; no program is named; no conditions. -/
namespace Go.Proofs.YtlgefjcfnnjkbaaDoor
set_option maxRecDepth 100000

/-- a segment's use: its epoch and its count -/
structure Us where
  e : Int
  c : Int
deriving DecidableEq
def Us.no : Us := ⟨0, 0⟩
def Ch.no : List Us := List.replicate 12 Us.no
def zeroFr : Fr := { e := 0, a := 0, k := 0, s := [] }

/-- what stands in a sector's text, at a place -/
def frOf (t : List UInt8) (at_ : Nat) : Fr := match readF t with
  | some f => if f.a = (at_ : Int) then f else zeroFr
  | none => zeroFr
/-- the frames of a disk, by segments and places -/
def frAt (d : D) (per seg at_ : Nat) : Fr := frOf (d.there (seg * per + at_)) at_

/-! ### Order: the segments in use, by epochs -/
def ltU (c : List Us) (a b : Nat) : Bool := decide ((c.getD a Us.no).e < (c.getD b Us.no).e)
/-- a number laid into its place -/
def ins (c : List Us) (x : Nat) : List Nat → List Nat
  | [] => [x]
  | y :: r => if (c.getD x Us.no).e < (c.getD y Us.no).e then x :: y :: r else y :: ins c x r
def usedTo (c : List Us) (n : Nat) : List Nat := (List.range n).filter fun k => (c.getD k Us.no).e != 0
def usedL (c : List Us) : List Nat := usedTo c c.length
def orderL (c : List Us) : List Nat := (usedL c).foldl (fun l x => ins c x l) []

/-! ### The newest epoch -/
def newRow (g : Nat → Fr) (seg n : Nat) (p : Int × Nat) : Int × Nat := (List.range n).foldl (fun p k => if p.1 < (g k).e then ((g k).e, seg) else p) p
def newest (g : Nat → Nat → Fr) (per segs : Nat) : Int × Nat := (List.range segs).foldl (fun p seg => newRow (g seg) seg per p) (0, 0)

/-! ### A link -/
def byteAt (l : List UInt8) (k : Nat) : Int := ((l.getD k 0).toNat : Int)
def useAt (l : List UInt8) (seg : Nat) : Us := ⟨(((l.getD (4 * seg) 0).toNat * 65536 + (l.getD (4 * seg + 1) 0).toNat * 256 + (l.getD (4 * seg + 2) 0).toNat : Nat) : Int), ((l.getD (4 * seg + 3) 0).toNat : Int)⟩
def linkStep (f : Fr) (own per : Nat) (c : List Us) (seg : Nat) : Option (List Us) :=
  let u := useAt f.s seg
  if u = Us.no then some c
  else if seg = own ∨ u.e = 0 ∨ f.e ≤ u.e ∨ u.c < 1 ∨ (per : Int) < u.c then none
  else if c.any (fun o => o.e == u.e) then none
  else some (c.set seg u)
def linkTo (f : Fr) (own per : Nat) : Nat → Option (List Us)
  | 0 => some Ch.no
  | n + 1 => (linkTo f own per n).bind fun c => linkStep f own per c n
def linkP (f : Fr) (own per segs : Nat) : Option (List Us) := if f.k = 1 ∧ f.s.length = 4 * segs then linkTo f own per segs else none

/-! ### What is sound -/
def badAt (g : Nat → Fr) (epoch : Int) (k : Nat) : Bool := (g k).e != epoch || (decide ((g k).k = 1) != decide (k = 0))
/-- the first place from a place on, ahead of another one, that is wrong -/
def sound (g : Nat → Fr) (epoch : Int) (a b : Nat) : Option Nat := (List.range' a (b - a)).find? (badAt g epoch)
/-- the first one of segments that is wrong -/
def soundAll (g : Nat → Nat → Fr) (per : Nat) (c : List Us) : List Nat → Option Nat
  | [] => none
  | k :: r => match sound (g k) (c.getD k Us.no).e 0 (c.getD k Us.no).c.toNat with
    | some x => some (k * per + x)
    | none => soundAll g per c r

/-- the last seal -/
def sealedTo (g : Nat → Fr) (epoch : Int) : Nat → Nat
  | 0 => 0
  | n + 1 => if 1 ≤ n ∧ (g n).e = epoch ∧ (g n).k = 4 then n else sealedTo g epoch n

/-! ### What is taken -/
structure Found where
  chain : List Us
  epoch : Int
  seg : Nat
  sealed : Nat
  loose : Bool
  pieces : List (Int × List UInt8)
def Found.no : Found := ⟨Ch.no, 0, 0, 0, false, []⟩
def piecesOf (e : Int) (l : List Fr) : List (Int × List UInt8) := (joinF l).1.map fun s => (e, s)
def frames (g : Nat → Fr) (a b : Nat) : List Fr := (List.range' a (b - a)).map g
def oldPieces (g : Nat → Nat → Fr) (c : List Us) (l : List Nat) : List (Int × List UInt8) := (l.map fun k => piecesOf (c.getD k Us.no).e (frames (g k) 1 (c.getD k Us.no).c.toNat)).flatten
/-- frames one behind the other, of an epoch, none a link -/
def runOf (g : Nat → Fr) (epoch : Int) (a b : Nat) : List Fr := (frames g a b).takeWhile fun f => decide (f.e = epoch) && decide (f.k ≠ 1)
def take (g : Nat → Nat → Fr) (per : Nat) (m : Found) : Found :=
  let l := runOf (g m.seg) m.epoch 1 per
  { m with
    pieces := m.pieces ++ oldPieces g m.chain (orderL m.chain) ++ piecesOf m.epoch l
    chain := m.chain.set m.seg ⟨m.epoch, 1 + (joinF l).2⟩
    loose := decide ((joinF (l.take m.sealed)).1.length < (joinF l).1.length) }
/-- what is found; or the sector that is wrong -/
def look (g : Nat → Nat → Fr) (per segs : Nat) : Found ⊕ Nat :=
  let n := newest g per segs
  if n.1 = 0 then .inl Found.no
  else match (if (g n.2 0).e = n.1 then linkP (g n.2 0) n.2 per segs else none) with
    | none => .inr (n.2 * per)
    | some c => match soundAll g per c (orderL c) with
      | some x => .inr x
      | none =>
        let s := sealedTo (g n.2) n.1 per
        match sound (g n.2) n.1 1 s with
        | some x => .inr (n.2 * per + x)
        | none => .inl (take g per ⟨c, n.1, n.2, s, false, []⟩)

/-! ### A log -/
structure Lg where
  per : Nat
  segs : Nat
  chain : List Us
  last : Nat
  top : Int
  opn : Bool
  loose : Bool
  down : Bool
def Lg.new (per segs : Nat) : Lg := ⟨per, segs, Ch.no, 0, 0, false, false, false⟩
def Lg.use (l : Lg) : Us := l.chain.getD l.last Us.no

/-- writes and syncs, as far as power goes: the disk behind them, and whether all were done -/
def wrAll (per seg : Nat) : D → List Fr → D × Bool
  | d, [] => (d, true)
  | d, f :: l => if d.power then wrAll per seg (d.write (seg * per + f.a.toNat) f.lay) l else (d, false)
def wrNought (sec : Nat) : D → Nat → D × Bool
  | d, 0 => (d, true)
  | d, n + 1 => match wrNought sec d n with
    | (d', true) => if d'.power then (d'.write (sec + n) noughts, true) else (d', false)
    | r => r
def syncP (d : D) : D × Bool := if d.power then (d.sync, true) else (d, false)
/-- one behind the other -/
def thenP (r : D × Bool) (f : D → D × Bool) : D × Bool := if r.2 then f r.1 else r
def errP (b : Bool) : Int := if b then 0 else 22

def sealFrOf (u : Us) : Fr := { e := u.e, a := u.c, k := 4, s := [] }
def Lg.sealD (l : Lg) (d : D) : D × Bool := thenP (wrAll l.per l.last d [sealFrOf l.use]) syncP
def Lg.sealed (l : Lg) : Lg := { l with chain := l.chain.set l.last ⟨l.use.e, l.use.c + 1⟩, loose := false }

/-- what a link says -/
def useText (u : Us) : List UInt8 := be 3 u.e.toNat ++ be 1 u.c.toNat
def chainText (c : List Us) (segs : Nat) : List UInt8 := ((c.take segs).map useText).flatten
def firstFree (c : List Us) (segs : Nat) : Option Nat := (List.range segs).find? fun k => c.getD k Us.no == Us.no
def linkFr (l : Lg) : Fr := { e := l.top + 1, a := 0, k := 1, s := chainText l.chain l.segs }
def Lg.begun (l : Lg) (seg : Nat) : Lg := { l with top := l.top + 1, chain := l.chain.set seg ⟨l.top + 1, 1⟩, last := seg, opn := true, loose := false }
/-- a segment is opened: the disk, the log, the error -/
def Lg.begin_ (l : Lg) (d : D) : D × Lg × Int :=
  match syncP d with
  | (d1, false) => (d1, l, 22)
  | (d1, true) => match firstFree l.chain l.segs with
    | none => (d1, l, 132)
    | some seg => match thenP (wrAll l.per seg d1 [linkFr l]) syncP with
      | (d2, false) => (d2, l, 22)
      | (d2, true) => (d2, l.begun seg, 0)
def Lg.added (l : Lg) (s : List UInt8) : Lg := { l with chain := l.chain.set l.last ⟨l.use.e, l.use.c + need s.length⟩, loose := true }
/-- a batch is written -/
def Lg.add (l : Lg) (d : D) (s : List UInt8) : D × Lg × Int :=
  match wrAll l.per l.last d (cutF l.use.e l.use.c s) with
  | (d1, false) => (d1, l, 22)
  | (d1, true) => (d1, l.added s, 0)

/-- what has to be opened -/
structure Pl where
  count : Int
  opn : Bool
  opens : List Bool
  many : Nat
def Pl.step (per : Nat) (p : Pl) (n : Nat) : Pl :=
  if p.opn = false ∨ (per : Int) < p.count + n + 1 then ⟨1 + n, true, p.opens ++ [true], p.many + 1⟩
  else ⟨p.count + n, true, p.opens ++ [false], p.many⟩
def Lg.planTo (l : Lg) (s : List (List UInt8)) (k : Nat) : Pl := (s.take k).foldl (fun p b => p.step l.per (need b.length)) ⟨l.use.c, l.opn, [], 0⟩
def Lg.plan (l : Lg) (s : List (List UInt8)) : Pl := l.planTo s s.length
def Lg.free (l : Lg) : Int := if l.down then 0 else (l.segs : Int) - (orderL l.chain).length
def Lg.uses (l : Lg) : List Us := if l.down then [] else (orderL l.chain).map fun k => l.chain.getD k Us.no

/-- what goes wrong puts a log down -/
def fallen (l : Lg) (e : Int) : Lg := if e = 0 then l else { l with down := true }
/-- one batch of an append -/
def Lg.one (l : Lg) (d : D) (b : List UInt8) (opens : Bool) : D × Lg × Int :=
  if opens then match l.begin_ d with
    | (d1, l1, e) => if e = 0 then (match l1.add d1 b with | (d2, l2, e2) => (d2, fallen l2 e2, e2)) else (d1, fallen l1 e, e)
  else match l.add d b with | (d2, l2, e2) => (d2, fallen l2 e2, e2)
/-- the batches: the disk, the log, the epochs, the error -/
def Lg.go : Lg → D → List (List UInt8 × Bool) → List Int → D × Lg × List Int × Int
  | l, d, [], es => (d, l, es, 0)
  | l, d, (b, o) :: r, es => match l.one d b o with
    | (d1, l1, e) => if e = 0 then Lg.go l1 d1 r (es ++ [l1.top]) else (d1, l1, [], e)
def Lg.append (l : Lg) (d : D) (s : List (List UInt8)) (deep : Bool) : D × Lg × List Int × Int :=
  if l.down then (d, l, [], 130)
  else if s.any fun b => decide ((l.per : Int) - 2 < need b.length) then (d, l, [], 133)
  else
    let p := l.plan s
    if 16777215 - l.top < p.many then (d, l, [], 130)
    else if 0 < p.many ∧ (l.free - p.many < 0 ∨ (deep = false ∧ l.free - p.many < 2)) then (d, l, [], 132)
    else Lg.go l d (s.zip p.opens) []
def Lg.shut (l : Lg) (d : D) : D × Lg × Int :=
  if l.down then (d, l, 130)
  else match syncP d with
    | (d1, false) => (d1, fallen l 22, 22)
    | (d1, true) => if l.loose = false then (d1, l, 0) else match l.sealD d1 with
      | (d2, true) => (d2, l.sealed, 0)
      | (d2, false) => (d2, fallen l 22, 22)
def Lg.retire (l : Lg) (epoch : Int) : Lg × Int :=
  if l.down ∨ epoch < 1 ∨ epoch = l.top then (l, 130)
  else match (List.range 12).find? fun k => (l.chain.getD k Us.no).e == epoch with
    | some k => ({ l with chain := l.chain.set k Us.no }, 0)
    | none => (l, 130)

/-- noughts behind what counts, and a seal -/
def Lg.clean (l : Lg) (d : D) (loose : Bool) : D × Lg × Int :=
  match thenP (wrNought (l.last * l.per + l.use.c.toNat) d (l.per - l.use.c.toNat)) syncP with
  | (d1, false) => (d1, l, 22)
  | (d1, true) => if loose = false ∨ (l.per : Int) ≤ l.use.c then (d1, l, 0) else match l.sealD d1 with
    | (d2, true) => (d2, l.sealed, 0)
    | (d2, false) => (d2, l, 22)
/-- a log of a disk: the disk, the log, the pieces; or an error (and a sector) -/
inductive Opened where
  | ok (d : D) (l : Lg) (p : List (Int × List UInt8))
  | rot (sec : Nat)
  | err (d : D) (e : Int)
def openL (d : D) (per : Nat) : Opened :=
  let segs := d.kept.length / per
  match look (frAt d per) per segs with
  | .inr x => .rot x
  | .inl m =>
    if m.epoch = 0 then .ok d (Lg.new per segs) []
    else match Lg.clean { Lg.new per segs with chain := m.chain, last := m.seg, top := m.epoch } d m.loose with
      | (d1, l1, e) => if e = 0 then .ok d1 l1 m.pieces else .err d1 e
end Go.Proofs.YtlgefjcfnnjkbaaDoor
