/- Parts of the proof, one behind the other: DiskR, Crc, Sum, FrameM, Frame. Each part's own words say what it proves; no conditions. -/
import Derived.RangeFuncNested
import Derived.RangeFuncBound
import Derived.RangeFuncCalls
import Derived.RangeFuncLeaves
import Derived.Shelf.Abstract
import Derived.Shelf.RegionOpen
import Derived.OwnWalkIn
import Derived.TacticsInMore
import Derived.LoopNIn
import Derived.LoopIn
import Derived.Outline
import Derived.Test.YtlgefjcfnnjkbaaDoorProg
import Derived.Test.YtlgefjcfnnjkbaaDoorP02
import Derived.Test.YtlgefjcfnnjkbaaDoorP03
set_option linter.unusedVariables false
set_option linter.unusedSimpArgs false
set_option linter.unusedSectionVars false
/- disk.Read: what is there of a sector. No conditions. -/
namespace Go.Proofs.YtlgefjcfnnjkbaaDoor
set_option maxRecDepth 100000
open Go.RowKit Go.Shelf
attribute [local go_sem] Oper.semAt_some

/-- backward: the receiver is boxed; the function value captures the box. -/
theorem backward_any (w : World) (p : Nat) : Calls Tryd.prog 64 #[.pointer (some ⟨p, 0, none⟩)] w fun e w' => e = .returned (.func (.func 78) #[] #[.pointer (some ⟨w.heap.size, 0, none⟩)]) ∧ w' = w.alloc (.cells #[.pointer (some ⟨p, 0, none⟩)] 24) := by
  go_enter Tryd.func64, Tryd.ntmps64
  go_wp2
  go_ret
  exact ⟨rfl, rfl⟩

set_option maxRecDepth 100000 in
set_option maxHeartbeats 4000000 in
theorem readNil_in (w : World) (k : Int) : Calls Tryd.prog 49 #[.pointer none, .int .i64 k] w fun e w' => e = .returned (.tuple #[.string ⟨#[]⟩, .int .i64 1]) ∧ Below w.heap.size w w' := by
  refine (callsIn_wide (n := 5)).1 (callsIn_of_wp_marks (F := Fence.wide) Tryd.func49 rfl trivial ?_ rfl)
  refine wpIn_wide.2 ?_
  simp only [Tryd.ntmps49, List.size_toArray, List.length_cons, List.length_nil, Nat.reduceAdd, Nat.reduceSub, Array.replicate_succ, Array.replicate_zero, List.push_toArray, List.append_toArray, List.nil_append, List.cons_append]
  go_wp2_with fail
  go_step3
  go_wp2_with fail
  rw [Exit.noGoto_ret]
  refine ⟨.tuple #[.string ⟨#[]⟩, .int .i64 1], by simp [results, Tryd.f49, go_sem], rfl, ?_⟩
  exact (Below.refl _ _).alloc (Nat.le_refl _) _

set_option maxRecDepth 100000 in
set_option maxHeartbeats 4000000 in
theorem readFar_in (w : World) (p kb : Nat) (pv : Value) (d : D) (k : Int) (hd : DAt w p kb pv d) (hk : ¬ (0 ≤ k ∧ k < d.kept.length)) :
    Calls Tryd.prog 49 #[.pointer (some ⟨p, 0, none⟩), .int .i64 k] w fun e w' => e = .returned (.tuple #[.string ⟨#[]⟩, .int .i64 20]) ∧ Below w.heap.size w w' := by
  have hd0 : decide ((0 : Int) ≤ (k : Int) ∧ (k : Int) < d.kept.length) = false := decide_eq_false hk
  clear hk
  refine (callsIn_wide (n := 5)).1 (callsIn_of_wp_marks (F := Fence.wide) Tryd.func49 rfl trivial ?_ rfl)
  refine wpIn_wide.2 ?_
  simp only [Tryd.ntmps49, List.size_toArray, List.length_cons, List.length_nil, Nat.reduceAdd, Nat.reduceSub, Array.replicate_succ, Array.replicate_zero, List.push_toArray, List.append_toArray, List.nil_append, List.cons_append]
  have hd1 := hd.only (Only.alloc w (.cells #[.int .i64 k] 3) (fun _ => False)) (fun _ _ => id)
  go_wp2_with fail
  go_step3
  go_wp2_with (go_at_call 59; refine (has_any _ p kb _ d _ hd1).mono ?_; rintro e w1 ⟨rfl, rfl⟩; rw [hd0])
  rw [Exit.noGoto_ret]
  refine ⟨.tuple #[.string ⟨#[]⟩, .int .i64 20], by simp [results, Tryd.f49, go_sem], rfl, ?_⟩
  exact (Below.refl _ _).alloc (Nat.le_refl _) _

/-! ### The iterator -/
def down (m : Nat) : List (Fin m) := (List.finRange m).reverse
theorem down_length (m : Nat) : (down m).length = m := by simp [down]
theorem down_get (m q : Nat) (h : q < (down m).length) : (down m)[q] = ⟨m - 1 - q, by rw [down_length] at h; omega⟩ := by
  simp [down]
theorem down_take (m q j : Nat) (h : q + (j + 1) = m) : (down m).take (q + 1) = (down m).take q ++ [⟨j, by omega⟩] := by
  rw [List.take_succ_eq_append_getElem (by rw [down_length]; omega), down_get]
  congr 3
  omega

/-- what a round that goes on keeps -/
def KpD (n₀ Bn : Nat) (W W' : World) : Prop := Below n₀ W W' ∧ ∀ v, W.cell? ⟨Bn, 0, none⟩ = some v → W'.cell? ⟨Bn, 0, none⟩ = some v

theorem kpD_t {n₀ Bn : Nat} {A B C : World} (h : KpD n₀ Bn A B) (k : KpD n₀ Bn B C) : KpD n₀ Bn A C := ⟨h.1.trans k.1, fun v hv => k.2 v (h.2 v hv)⟩
theorem kpD_b {n₀ Bn : Nat} {w : World} (hn : n₀ ≤ w.heap.size) (W : World) (l : Nat) (o o' : Obj) (hl : w.heap.size ≤ l) (h : W.heap[l]? = some o) (ho : o.isCells = false) (hw : o.isWalk = false) : KpD n₀ Bn W (W.putObj l o') :=
  ⟨belowK_b hn W l o o' hl h ho hw, fun v hv => cell_kept hv (grownBy_putObj' W l o') (fun r e => by cases e; exact ⟨o, h, ho⟩)⟩

set_option maxRecDepth 100000 in
set_option maxHeartbeats 4000000 in
theorem back1_in (n : Nat) (hn : 1 ≤ n) (n₀ l Bn p g cap m : Nat) (hm : m ≤ 9223372036854775807) (hp : p < n₀) (J Jx : List (Fin m) → World → Prop)
    (hY : ∀ pre x W, J pre W → pre.length < m → YieldAt Fence.wide (n - 1) Tryd.prog l #[.pointer (some ⟨g, x.val * 65, none⟩)] W fun e W' =>
      (e = .returned (.bool true) ∧ J (pre ++ [x]) W' ∧ KpD n₀ Bn W W') ∨ (e = .returned (.bool false) ∧ Jx (pre ++ [x]) W'))
    (W : World) (hBn : W.cell? ⟨Bn, 0, none⟩ = some (.pointer (some ⟨p, 0, none⟩))) (ao : Option Addr) (hao : 0 < m → ao = some ⟨g, 0, none⟩) (hc : W.cell? ⟨p, 1, none⟩ = some (.slice ao m cap)) (h0 : J [] W) :
    CallsIn Fence.wide n Tryd.prog 78 #[.func (.yield l) #[] #[], .pointer (some ⟨Bn, 0, none⟩)] W fun e W' => (∃ v, e = .returned v) ∧
      ((∃ ys, ys = down m ∧ J ys W') ∨ (∃ pre, pre <+: down m ∧ Jx pre W')) := by
  refine callsIn_of_wp Tryd.func78 rfl trivial ?_ rfl
  simp only [Tryd.ntmps78, List.size_toArray, List.length_cons, List.length_nil, Nat.reduceAdd, Nat.reduceSub, Array.replicate_succ, Array.replicate_zero, List.push_toArray, List.append_toArray, List.nil_append, List.cons_append]
  gi_wp2
  gi_loopw [3] (fun i wr => ∃ q j : Nat, q + j = m ∧ i = .int .i64 ((j : Int) - 1) ∧ J ((down m).take q) wr ∧ wr.cell? ⟨Bn, 0, none⟩ = some (.pointer (some ⟨p, 0, none⟩)) ∧ wr.cell? ⟨p, 1, none⟩ = some (.slice ao m cap)) (fun i _ => (intOf i + 1).toNat)
  case atStart => exact ⟨0, m, by omega, rfl, by simpa using h0, hBn, hc⟩
  case round =>
    obtain ⟨q, j, hqj, rfl, hJ, hb, hcp⟩ := hrel
    cases j with
    | zero =>
      gi_wp2
      go_end0
      refine ⟨⟨_, rfl⟩, .inl ⟨_, ?_, hJ⟩⟩
      rw [List.take_of_length_le (by rw [down_length]; omega)]
    | succ j =>
      obtain rfl := hao (by omega)
      rw [show (((j + 1 : Nat) : Int) - 1) = (j : Int) by omega]
      have hlen : ((down m).take q).length < m := by rw [List.length_take, down_length]; omega
      obtain ⟨fn, tmps, assign, body, hy, hR⟩ := hY _ ⟨j, by omega⟩ wr hJ hlen
      dsimp only at hy
      have hjm : (j : Int) < (m : Int) := by omega
      have hst := Lib.hid (down_take m q j hqj)
      gi_wp2
      refine hR.mono ?_
      rintro e W3 (⟨rfl, hJ3, hk3⟩ | ⟨rfl, hJx3⟩)
      · have hb3 := hk3.2 _ hb
        have hc3 := (hk3.1.cell (p := ⟨p, 1, none⟩) hp).trans hcp
        gi_wp2
        go_roundw
        case rel => exact ⟨q + 1, j, by omega, rfl, by rw [hst.out]; exact hJ3, hb3, hc3⟩
        case measure => simp [intOf] <;> omega
      · gi_wp2
        refine bodyPost_ret (results_none rfl _ _ _) rfl ?_
        exact ⟨⟨_, rfl⟩, .inr ⟨_, ⟨(down m).drop (q + 1), by rw [← hst.out, List.take_append_drop]⟩, hJx3⟩⟩

theorem back_stops (n : Nat) (hn : 1 ≤ n) (n₀ Bn p g cap m : Nat) (hm : m ≤ 9223372036854775807) (hp : p < n₀) (ao : Option Addr) (hao : 0 < m → ao = some ⟨g, 0, none⟩) (w : World) (hBn : Bn < w.heap.size) (hpw : p < w.heap.size)
    (hb : w.cell? ⟨Bn, 0, none⟩ = some (.pointer (some ⟨p, 0, none⟩))) (hc : w.cell? ⟨p, 1, none⟩ = some (.slice ao m cap)) :
    SeqStopsK Fence.wide n Tryd.prog 78 #[.pointer (some ⟨Bn, 0, none⟩)] (fun x : Fin m => #[.pointer (some ⟨g, x.val * 65, none⟩)]) (KpD n₀ Bn) (fun ys => ys = down m) (fun pre => pre <+: down m) m w := fun l J Jx W hW _ _ hY h0 =>
  back1_in n hn n₀ l Bn p g cap m hm hp J Jx hY W ((hW.cell (p := ⟨Bn, 0, none⟩) hBn).trans hb) ao hao ((hW.cell (p := ⟨p, 1, none⟩) hpw).trans hc) h0

/-! ### Arms inside a fence -/
section
variable {F : Fence} {n : Nat} {P : Program} {ops : Array Oper} {rest : List Oper} {a : Act} {Q : Exit → Act → World → Prop} {W W' : World} {dst : Option Tmp} {x y : Operand} {T ty : TypeId} {pos : String} {after : Array Edge}
theorem wpListIn_load_part (g o : Nat) (cs : List Value) (hu : ∃ d, P.underlying T = some d ∧ (match d with | .struct _ | .array _ _ => true | _ => false) = true) (hi : (P.info? T).map (·.size) = some cs.length)
    (hb : Has W g o cs) (hx : a.eval x = .pointer (some ⟨g, o, none⟩)) (hK : wpListIn F n P ops Q rest (a.put dst (.agg cs.toArray)) W) :
    wpListIn F n P ops Q ({ dst := dst, op := .load T x, type := ty, pos := pos, after := after, guard := none } :: rest) a W := by
  obtain ⟨d, hu, hd⟩ := hu
  refine wpListIn_plain rfl fun K hK' => ?_
  have h := run_load_part (P := P) W g o cs.length cs T d hu (by revert hd; cases d <;> simp) hi rfl hb
  unfold Oper.wpIn
  refine ⟨by simp [Oper.about], ?_⟩
  rw [Oper.semAt_plain F _ _ (by intro c hc'; cases hc'), exec_load rfl hx h]
  exact hK' _ _ hK
theorem wpListIn_store_block (g : Nat) (t : TypeId) (cs cur : List Value) (hi : (P.info? T).map (·.size) = some cs.length) (hb : W.heap[g]? = some (.cells cur.toArray t (0, 0))) (hl : cur.length = cs.length) (h1 : ∀ v ∈ cs, v.oneCell' = true)
    (hx : a.eval x = .pointer (some ⟨g, 0, none⟩)) (hy : a.eval y = .agg cs.toArray) (hK : wpListIn F n P ops Q rest (a.put dst undef) (W.setRow g cs.toArray)) :
    wpListIn F n P ops Q ({ dst := dst, op := .store T x y, type := ty, pos := pos, after := after, guard := none } :: rest) a W := by
  refine wpListIn_plain rfl fun K hK' => ?_
  have h := run_store_part (P := P) W g 0 cs.length t T cur cs hi rfl hb (by omega) h1
  rw [show laid cur 0 cs = cs from by simp [laid, ← hl]] at h
  unfold Oper.wpIn
  refine ⟨by simp [Oper.about], ?_⟩
  rw [Oper.semAt_plain F _ _ (by intro c hc'; cases hc'), exec_store rfl hx hy h]
  exact hK' _ _ hK
end

/-! ### What is there -/
theorem pend_down (d : D) : d.pend.reverse = (down d.pend.length).map fun x => d.pend[x.val] := by
  unfold down
  rw [List.map_reverse]
  congr 1
  apply List.ext_getElem
  · simp
  · intro i h1 h2
    simp

theorem there_none (d : D) (k : Nat) (h : ∀ x ∈ down d.pend.length, d.pend[x.val].1 ≠ k) : d.there k = d.kept.getD k [] := by
  unfold D.there
  rw [pend_down, List.find?_eq_none.2 (by
    intro y hy
    obtain ⟨x, hx, rfl⟩ := List.mem_map.1 hy
    simpa using h x hx)]
  rfl

theorem there_some (d : D) (k : Nat) (pre : List (Fin d.pend.length)) (x : Fin d.pend.length) (hp : pre ++ [x] <+: down d.pend.length) (h : ∀ y ∈ pre, d.pend[y.val].1 ≠ k) (hx : d.pend[x.val].1 = k) : d.there k = d.pend[x.val].2 := by
  unfold D.there
  obtain ⟨t, ht⟩ := hp
  rw [pend_down, ← ht, List.map_append, List.map_append, List.find?_append, List.find?_append, List.find?_eq_none.2 (by
    intro y hy
    obtain ⟨z, hz, rfl⟩ := List.mem_map.1 hy
    simpa using h z hz)]
  simp [hx]

/-- what ends as it should, and in no other way -/
def OnlyN (Q : Exit → Act → World → Prop) : Exit → Act → World → Prop
  | .normal, a, w => Q .normal a w
  | _, _, _ => False
theorem onlyN_mono {Q : Exit → Act → World → Prop} (e : Exit) (a : Act) (w : World) (h : OnlyN Q e a w) : Q e a w := by
  cases e with
  | normal => exact h
  | _ => exact h.elim

/-- between two rounds: none of those that came is of this sector; what was there is there -/
def ReadI (B : Nat) (d : D) (k : Nat) (row : List UInt8) (pre : List (Fin d.pend.length)) (W : World) : Prop :=
  (∀ x ∈ pre, d.pend[x.val].1 ≠ k) ∧ W.heap[B]? = some (.cells #[.int .i64 (k : Int)] 3 (0, 0)) ∧ W.heap[B + 1]? = some (.cells (bvs row).toArray 123 (0, 0))
/-- a round has left -/
def ReadX (B : Nat) (d : D) (k : Nat) (c : Code) (pre : List (Fin d.pend.length)) (W : World) : Prop :=
  c = .exit 0 ∧ ∃ (pre' : List (Fin d.pend.length)) (x : Fin d.pend.length), pre = pre' ++ [x] ∧ (∀ y ∈ pre', d.pend[y.val].1 ≠ k) ∧ d.pend[x.val].1 = k ∧ W.heap[B + 1]? = some (.cells (bvs d.pend[x.val].2).toArray 123 (0, 0))
theorem readI_own (B : Nat) (d : D) (k : Nat) (row : List UInt8) : Own (ReadI B d k row) := fun _ _ _ _ hs hg hr => ⟨hs.1, (grownBy_keeps_cells hg hr hs.2.1 rfl).trans hs.2.1, (grownBy_keeps_cells hg hr hs.2.2 rfl).trans hs.2.2⟩
theorem readX_own (B : Nat) (d : D) (k : Nat) (c : Code) : Own (ReadX B d k c) := fun _ _ _ _ hs hg hr => by
  obtain ⟨h0, pre', x, h1, h2, h3, h4⟩ := hs
  exact ⟨h0, pre', x, h1, h2, h3, (grownBy_keeps_cells hg hr h4 rfl).trans h4⟩

theorem Tryd.alloc92 (w : World) : (Instr.alloc 123 true (.tuple #[])).run Tryd.prog w = .ok (.pointer (some ⟨w.heap.size, 0, none⟩)) (w.alloc (.cells (bvs noughts).toArray 123)) := by kernel_rfl

set_option maxRecDepth 100000 in
set_option maxHeartbeats 8000000 in
theorem read_in (w : World) (p kb : Nat) (pv : Value) (d : D) (k : Nat) (hd : DAt w p kb pv d) (hk : k < d.kept.length) :
    Calls Tryd.prog 49 #[.pointer (some ⟨p, 0, none⟩), .int .i64 (k : Int)] w fun e w' => e = .returned (.tuple #[.string ⟨(d.there k).toArray⟩, .int .i64 0]) ∧ Below w.heap.size w w' := by
  have hd0 : decide ((0 : Int) ≤ (k : Int) ∧ (k : Int) < d.kept.length) = true := by simp; omega
  refine (callsIn_wide (n := 5)).1 (callsIn_of_wp_marks (F := Fence.wide) Tryd.func49 rfl trivial ?_ rfl)
  refine wpIn_wide.2 ?_
  simp only [Tryd.ntmps49, List.size_toArray, List.length_cons, List.length_nil, Nat.reduceAdd, Nat.reduceSub, Array.replicate_succ, Array.replicate_zero, List.push_toArray, List.append_toArray, List.nil_append, List.cons_append]
  have hd1 := hd.only (Only.alloc w (.cells #[.int .i64 (k : Int)] 3) (fun _ => False)) (fun _ _ => id)
  have hbx := heap_alloc_new w (.cells #[.int .i64 (k : Int)] 3)
  have hB1 := (Below.refl w.heap.size w).alloc (Nat.le_refl _) (.cells #[.int .i64 (k : Int)] 3)
  have hsz1 : (w.alloc (.cells #[.int .i64 (k : Int)] 3)).heap.size = w.heap.size + 1 := by simp
  go_wp2_with fail
  go_step3
  go_upto_region 5 with (go_at_call 59; refine (has_any _ p kb _ d _ hd1).mono ?_; rintro e w1 ⟨rfl, rfl⟩; rw [hd0])
  generalize w.alloc (.cells #[.int .i64 (k : Int)] 3) = w1 at hd1 hbx hB1 hsz1 ⊢
  have hrow := hd1.row_at k hk
  have hrl : (d.kept[k]).length = 64 := hd1.ok.len _ (List.getElem_mem hk)
  have hkept : d.kept.getD k [] = d.kept[k] := by simp [hk]
  have hkI : (k : Int) < (d.kept.length : Int) := by omega
  have hbxc := cell_at hbx 0
  refine wp_mono (Q := OnlyN _) ?_ onlyN_mono
  refine wp_region_pick (fun W => W.cell? ⟨p, 0, none⟩ = some (.slice (some ⟨kb, 0, none⟩) d.kept.length d.kept.length) ∧ W.cell? ⟨w.heap.size, 0, none⟩ = some (.int .i64 (k : Int)) ∧ Has W kb (k * 64) (bvs d.kept[k])) [(0, 0), (1, 0), (2, 0), (3, 1), (4, 1), (5, 0), (6, 1), (7, 2), (8, 3)] (by kernel_rfl) (by kernel_rfl) (fun _ _ _ _ _ h => h.elim) ⟨hd1.c0, hbxc, hrow⟩ ?_
  simp only [pickOps, List.getElem?_cons_zero, List.getElem?_cons_succ]
  iterate 3 (refine wpL_pure (a' := ?_) ?_ rfl (fun W => ?_) ?_ ?_; rotate_left 2; (· go_simp; first | (go_bits; with_reducible rfl) | with_reducible rfl); (· simp only [put_some, List.setIfInBounds_toArray, List.set_cons_zero, List.set_cons_succ]; rfl))
  refine wpL_held (a' := ?_) (.slice (some ⟨kb, 0, none⟩) d.kept.length d.kept.length) rfl (fun W hW => exec_load (p := .pointer (some ⟨p, 0, none⟩)) rfl rfl (run_load_one W _ _ _ _ Tryd.underlying51 rfl hW.1)) ?_ ?_; rotate_left; (· simp only [put_some, List.setIfInBounds_toArray, List.set_cons_zero, List.set_cons_succ]; rfl)
  refine wpL_held (a' := ?_) (.int .i64 (k : Int)) rfl (fun W hW => exec_load (p := .pointer (some ⟨w.heap.size, 0, none⟩)) rfl rfl (run_load_one W _ _ _ _ Tryd.underlying3 rfl hW.2.1)) ?_ ?_; rotate_left; (· simp only [put_some, List.setIfInBounds_toArray, List.set_cons_zero, List.set_cons_succ]; rfl)
  (refine wpL_pure (a' := ?_) ?_ rfl (fun W => ?_) ?_ ?_; rotate_left 2; (· go_simp; first | (go_bits; with_reducible rfl) | with_reducible rfl); (· simp only [put_some, List.setIfInBounds_toArray, List.set_cons_zero, List.set_cons_succ]; rfl))
  refine wpL_held (a' := ?_) (.agg (bvs d.kept[k]).toArray) rfl (fun W hW => exec_load (p := .pointer (some ⟨kb, k * 64, none⟩)) rfl rfl (run_load_part W kb (k * 64) 64 _ _ _ Tryd.underlying123 rfl Tryd.size92 (by rw [length_bvs]; exact hrl) hW.2.2)) ?_ ?_; rotate_left; (· simp only [put_some, List.setIfInBounds_toArray, List.set_cons_zero, List.set_cons_succ]; rfl)
  have hoA : Only (fun _ => False) w1 (w1.drew.alloc (.cells (bvs noughts).toArray 123)) := (Only.drew _ _).trans (Only.alloc _ _ _)
  refine wpL_stepRun (a' := ?_) (.pointer (some ⟨w1.heap.size, 0, none⟩)) rfl (exec_alloc rfl (Tryd.alloc92 w1.drew)) ⟨(hd1.only hoA (fun _ _ => id)).c0, by rw [hoA.cell (p := ⟨w.heap.size, 0, none⟩) (lt_of_block hbx) id]; exact hbxc, hrow.only hoA id⟩ ?_ ?_; rotate_left; (· simp only [put_some, List.setIfInBounds_toArray, List.set_cons_zero, List.set_cons_succ]; rfl)
  have hST := run_store_part (P := Tryd.prog) (w1.drew.alloc (.cells (bvs noughts).toArray 123)) w1.heap.size 0 64 123 123 (bvs noughts) (bvs d.kept[k]) Tryd.size92 (by rw [length_bvs]; exact hrl) (heap_alloc_new w1.drew _) (by rw [length_bvs, length_bvs, hrl]; decide) (bvs_one _)
  rw [laid_all _ _ (by rw [length_bvs, length_bvs, hrl]; decide)] at hST
  refine wpL_lastDone (a' := ?_) rfl (exec_store rfl (p := .pointer (some ⟨w1.heap.size, 0, none⟩)) (v := .agg (bvs d.kept[k]).toArray) rfl rfl hST) ?_ ?_; rotate_left; (· simp only [put_none]; rfl)
  refine wpL_nil ?_
  unfold OnlyN
  simp only
  have hT := setRow_heap (w1.drew.alloc (.cells (bvs noughts).toArray 123)) w1.heap.size _ (bvs d.kept[k]).toArray _ _ (heap_alloc_new w1.drew _)
  have hoT := hoA.trans' (Only.setRow (w1.drew.alloc (.cells (bvs noughts).toArray 123)) w1.heap.size (bvs d.kept[k]).toArray (S := fun x => x = w1.heap.size) rfl) (fun y hy e => by omega)
  generalize (w1.drew.alloc (.cells (bvs noughts).toArray 123)).setRow w1.heap.size (bvs d.kept[k]).toArray = wT at hT hoT ⊢
  clear hST hoA
  have hdT := hd1.only hoT (fun _ _ => id)
  have hbT := hoT.keep hbx id
  have hBT : Below w.heap.size w wT := hB1.trans ((hoT.below (fun _ _ => id)).mono (by omega))
  have hszT : w.heap.size + 2 ≤ wT.heap.size := by have := lt_of_block hT; omega
  rw [hsz1] at hT
  have HdT := Lib.hid hdT
  have HT := Lib.hid hT
  have HbT := Lib.hid hbT
  have HBT := Lib.hid hBT
  clear hd1 hbx hB1 hoT hdT hbT hBT hT hrow hbxc
  go_wp2_with fail
  go_step3
  go_wp2_with (go_at_call 64; refine (backward_any wT p).mono ?_; rintro e w5 ⟨rfl, rfl⟩)
  obtain ⟨ao, cap, rfl, hm⟩ := HdT.out.pv_slice
  have hps := HdT.out.pv_shape
  obtain ⟨g, hao⟩ : ∃ g, 0 < d.pend.length → ao = some ⟨g, 0, none⟩ := by
    rcases hps with ⟨_, h0⟩ | ⟨g, cp, cur, hv, _⟩
    · exact ⟨0, fun h => by rw [h0] at h; simp at h⟩
    · cases hv; exact ⟨g, fun _ => rfl⟩
  have hpw : p < w.heap.size := hd.p_lt
  have hbb := heap_alloc_new wT (.cells #[.pointer (some ⟨p, 0, none⟩)] 24)
  have hoB := Only.alloc wT (.cells #[.pointer (some ⟨p, 0, none⟩)] 24) (fun _ => False)
  have hcB := (HdT.out.only hoB (fun _ _ => id)).c1
  have hBB : Below w.heap.size w (wT.alloc (.cells #[.pointer (some ⟨p, 0, none⟩)] 24)) := HBT.out.trans ((hoB.below (fun _ _ => id)).mono (by omega))
  have hTB := hoB.keep HT.out id
  have hbxB := hoB.keep HbT.out id
  refine wpIn_wide.1 (wpIn_rangeFunc_ownF (F := Fence.wide) (n := 5) rfl (by decide) (gf := 78) (lb := #[.pointer (some ⟨wT.heap.size, 0, none⟩)]) rfl trivial (enters_of Tryd.func78 (by kernel_rfl) rfl)
    (back_stops 4 (by decide) w.heap.size wT.heap.size p g cap d.pend.length hm hpw ao hao _ (by simp) (by simp; omega) (by rw [cell_at hbb]; rfl) hcB) kpD_t (kpD_b (by simp; omega)) (Below.refl _ _) (fun _ => rfl)
    (fun pre W => ReadI w.heap.size d k d.kept[k] pre W ∧ Below w.heap.size w W)
    (fun c pre W => ReadX w.heap.size d k c pre W ∧ Below w.heap.size w W)
    (OwnFrom.and (Own.from (readI_own _ _ _ _) _) (ownFrom_below (Nat.le_refl _) (by simp; omega)))
    (fun c => OwnFrom.and (Own.from (readX_own _ _ _ _) _) (ownFrom_below (Nat.le_refl _) (by simp; omega)))
    ⟨⟨by simp, hbxB, hTB⟩, hBB⟩
    (fun x => { tmps := #[.pointer (some ⟨p, 0, none⟩), .int .i64 (k : Int), undef, .pointer (some ⟨w.heap.size, 0, none⟩), .string ⟨#[]⟩, .int .i64 0, .pointer (some ⟨w.heap.size + 1, 0, none⟩), .pointer (some ⟨g, x.val * 65, none⟩), .pointer (some ⟨p, 0, none⟩), .bool false, .pointer (some ⟨p, 0, none⟩), .int .i64 (k : Int), .bool true, .bool false, .pointer (some ⟨p, 0, none⟩), .pointer (some ⟨p, 0, none⟩), .pointer (some ⟨p, 0, none⟩), .slice (some ⟨kb, 0, none⟩) d.kept.length d.kept.length, .int .i64 (k : Int), .pointer (some ⟨kb, k * 64, none⟩), .agg (bvs d.kept[k]).toArray, .pointer (some ⟨p, 0, none⟩), .func (.func 78) #[] #[.pointer (some ⟨wT.heap.size, 0, none⟩)], .pointer (some ⟨g, x.val * 65, none⟩), undef, undef, undef, undef, undef, undef, undef, undef, undef, undef, undef, undef, undef], defers := [] }) ?assign ?body ?done ?stop)
  case assign =>
    intro l x W K hK
    gi_wp2
    exact hK
  case body =>
    rintro l pre x W ⟨⟨hne, hbx, hT⟩, hB⟩ _
    obtain ⟨g', cap', hv', hcap', hmax', hgp, hgk, hglt, hat, hhas⟩ := hd.pend_at x.val x.isLt
    obtain rfl := hao (by have := x.isLt; omega)
    cases hv'
    have hat' := (hB.cell (p := ⟨g, x.val * 65, none⟩) hglt).trans hat
    have hhas' : Has W g (x.val * 65 + 1) (bvs d.pend[x.val].2) := fun j u hu => (hB.cell (p := ⟨g, x.val * 65 + 1 + j, none⟩) hglt).trans (hhas j u hu)
    have hpl := (hd.ok.plen _ (List.getElem_mem x.isLt)).1
    have hbc := cell_at hbx 0
    have HT := Lib.hid hT
    have HNE := Lib.hid hne
    have HB := Lib.hid hB
    have HBX := Lib.hid hbx
    clear hat hhas hT hne hbx hB
    by_cases hx : d.pend[x.val].1 = k
    · have hq : ((d.pend[x.val].1 : Int) == (k : Int)) = true := by simp [hx]
      have HX := Lib.hid hx
      clear hx
      gi_wp2_with (first
        | ((with_reducible refine wpListIn_load_part g (x.val * 65 + 1) (bvs d.pend[x.val].2) ?_ ?_ ?_ ?_ ?_); (· exact ⟨_, Tryd.underlying123, rfl⟩); (· rw [length_bvs, hpl]; exact Tryd.size92); (· exact hhas'); (· rfl))
        | ((with_reducible refine wpListIn_store_block (w.heap.size + 1) 123 (bvs d.pend[x.val].2) (bvs d.kept[k]) ?_ ?_ ?_ ?_ ?_ ?_ ?_); (· rw [length_bvs, hpl]; exact Tryd.size92); (· exact HT.out); (· rw [length_bvs, length_bvs, hpl, hrl]); (· exact bvs_one _); (· rfl); (· rfl)))
      refine ⟨KeepsOthers.of_grownBy (row := some (w.heap.size + 1)) ⟨rfl, rfl, rfl, by simp, fun j hj hne => setRow_other _ _ _ _ (fun e => hne (by rw [e]))⟩ (fun j o hj ho => ?_), ⟨rfl, pre, x, rfl, HNE.out, HX.out, setRow_heap _ _ _ _ _ _ HT.out⟩, ?_⟩
      · cases hj; rw [HT.out] at ho; cases ho; rfl
      · exact (Only.trans' (Only.of_below ((HB.out.mono (Nat.le_refl _))) (fun _ => False)) (Only.setRow W (w.heap.size + 1) _ (S := fun y => y = w.heap.size + 1) rfl) (fun y hy e => by omega)).below (fun _ _ => id)
    · have hq : ((d.pend[x.val].1 : Int) == (k : Int)) = false := by simp; omega
      have HX := Lib.hid hx
      clear hx
      gi_wp2
      refine ⟨KeepsOthers.refl _, ⟨Below.refl _ _, fun v hv => hv⟩, ⟨fun y hy => ?_, HBX.out, HT.out⟩, HB.out⟩
      rcases List.mem_append.1 hy with h | h
      · exact HNE.out y h
      · simp only [List.mem_singleton] at h; subst h; exact HX.out
  case done =>
    rintro D ys W hD rfl ⟨⟨hne, hbx, hT⟩, hB⟩ hK
    have hth := there_none d k hne
    rw [hkept] at hth
    have HTH := Lib.hid hth
    have HT := Lib.hid hT
    clear hth hne hbx hT
    go_wp2_with ((with_reducible refine wpList_bytes_string (src := 47) (dT := 9) 5 (w.heap.size + 1) 0 64 64 d.kept[k] ?_ ?_ ?_ ?_ ?_ ?_ ?_); (· exact Tryd.underlying47); (· exact Tryd.underlying5); (· exact Tryd.underlying9); (· exact hrl); (· exact has_of_block' (l := bvs d.kept[k]) HT.out (by simp)); (· rfl))
    rw [Exit.noGoto_ret]
    refine ⟨by simp, .inl ⟨D, _, rfl, run_takeDeferred hK, ?_⟩⟩
    refine ⟨.tuple #[.string ⟨(d.kept[k]).toArray⟩, .int .i64 0], by simp [results, Tryd.f49, go_sem], by rw [HTH.out], hB.trans (belowK_b (w := w) (Nat.le_refl _) W D _ _ (by simp at hD; omega) hK rfl rfl)⟩
  case stop =>
    rintro D c pre W hD hpre ⟨⟨rfl, pre', x, rfl, hne, hx, hT⟩, hB⟩ hK
    have hth := there_some d k pre' x hpre hne hx
    have hpl := (hd.ok.plen _ (List.getElem_mem x.isLt)).1
    have HTH := Lib.hid hth
    have HT := Lib.hid hT
    clear hth hne hx hT hpre
    refine wpIn_wide.2 ?_
    go_wp2_with ((with_reducible refine wpList_bytes_string (src := 47) (dT := 9) 5 (w.heap.size + 1) 0 64 64 d.pend[x.val].2 ?_ ?_ ?_ ?_ ?_ ?_ ?_); (· exact Tryd.underlying47); (· exact Tryd.underlying5); (· exact Tryd.underlying9); (· exact hpl); (· exact has_of_block' (l := bvs d.pend[x.val].2) HT.out (by simp)); (· rfl))
    rw [Exit.noGoto_ret]
    refine ⟨by simp, .inl ⟨D, _, rfl, run_takeDeferred hK, ?_⟩⟩
    refine ⟨.tuple #[.string ⟨(d.pend[x.val].2).toArray⟩, .int .i64 0], by simp [results, Tryd.f49, go_sem], by rw [HTH.out], hB.trans (belowK_b (w := w) (Nat.le_refl _) W D _ _ (by simp at hD; omega) hK rfl rfl)⟩
end Go.Proofs.YtlgefjcfnnjkbaaDoor
/- The sum of bytes (CRC-32) as a plain function on lists of bytes; one byte turned turns the sum. No conditions. -/
namespace Go.Proofs.YtlgefjcfnnjkbaaDoor
set_option maxRecDepth 100000

theorem xor_rc {a b c : Nat} (h : a ^^^ c = b ^^^ c) : a = b := by
  have := congrArg (· ^^^ c) h
  simpa [Nat.xor_assoc] using this
theorem xor_lc {a b c : Nat} (h : c ^^^ a = c ^^^ b) : a = b := xor_rc (c := c) (by rw [Nat.xor_comm a, Nat.xor_comm b]; exact h)

def crcBit (c : Nat) : Nat := if c % 2 = 1 then (c / 2) ^^^ 3988292384 else c / 2
def crcBits : Nat → Nat → Nat
  | 0, c => c
  | k + 1, c => crcBits k (crcBit c)
def crcByte (c b : Nat) : Nat := crcBits 8 (c ^^^ b)
def crc (l : List UInt8) (c : Nat) : Nat := l.foldl (fun c b => crcByte c b.toNat) c
def sum (l : List UInt8) : Nat := crc l 4294967295 ^^^ 4294967295

theorem crcBit_lt {c : Nat} (h : c < 4294967296) : crcBit c < 4294967296 := by
  unfold crcBit
  split
  · exact Nat.xor_lt_two_pow (n := 32) (by omega) (by omega)
  · omega

theorem crcBit_inj {c d : Nat} (hc : c < 4294967296) (hd : d < 4294967296) (h : crcBit c = crcBit d) : c = d := by
  have t : ∀ x, x < 4294967296 → (x / 2).testBit 31 = false := fun x hx => Nat.testBit_lt_two_pow (by omega)
  have p : Nat.testBit 3988292384 31 = true := by decide
  have hb : (crcBit c).testBit 31 = (crcBit d).testBit 31 := by rw [h]
  unfold crcBit at h hb
  split at h <;> split at h <;> rename_i h1 h2 <;> simp only [h1, h2, if_true, if_false] at hb
  · have := xor_rc h; omega
  · simp [Nat.testBit_xor, t c hc, t d hd, p] at hb
  · simp [Nat.testBit_xor, t c hc, t d hd, p] at hb
  · omega

theorem crcBits_lt (k : Nat) : ∀ {c : Nat}, c < 4294967296 → crcBits k c < 4294967296 := by
  induction k with
  | zero => intro c h; exact h
  | succ k ih => intro c h; exact ih (crcBit_lt h)

theorem crcBits_inj (k : Nat) : ∀ {c d : Nat}, c < 4294967296 → d < 4294967296 → crcBits k c = crcBits k d → c = d := by
  induction k with
  | zero => intro c d _ _ h; exact h
  | succ k ih => intro c d hc hd h; exact crcBit_inj hc hd (ih (crcBit_lt hc) (crcBit_lt hd) h)

theorem xor_lt {c b : Nat} (hc : c < 4294967296) (hb : b < 256) : c ^^^ b < 4294967296 := Nat.xor_lt_two_pow (n := 32) hc (by omega)

theorem crcByte_lt {c : Nat} (hc : c < 4294967296) (b : UInt8) : crcByte c b.toNat < 4294967296 := crcBits_lt 8 (xor_lt hc b.toNat_lt)

theorem crcByte_inj {c d : Nat} (hc : c < 4294967296) (hd : d < 4294967296) (b : UInt8) (h : crcByte c b.toNat = crcByte d b.toNat) : c = d :=
  xor_rc (crcBits_inj 8 (xor_lt hc b.toNat_lt) (xor_lt hd b.toNat_lt) h)

theorem crcByte_byte {c : Nat} (hc : c < 4294967296) (a b : UInt8) (h : crcByte c a.toNat = crcByte c b.toNat) : a = b := by
  have := xor_lc (crcBits_inj 8 (xor_lt hc a.toNat_lt) (xor_lt hc b.toNat_lt) h)
  exact UInt8.toNat_inj.1 this

theorem crc_lt (l : List UInt8) : ∀ {c : Nat}, c < 4294967296 → crc l c < 4294967296 := by
  induction l with
  | nil => intro c h; exact h
  | cons b l ih => intro c h; exact ih (crcByte_lt h b)

theorem crc_inj (l : List UInt8) : ∀ {c d : Nat}, c < 4294967296 → d < 4294967296 → crc l c = crc l d → c = d := by
  induction l with
  | nil => intro c d _ _ h; exact h
  | cons b l ih => intro c d hc hd h; exact crcByte_inj hc hd b (ih (crcByte_lt hc b) (crcByte_lt hd b) h)

theorem crc_append (a b : List UInt8) (c : Nat) : crc (a ++ b) c = crc b (crc a c) := by simp [crc]

theorem sum_lt (l : List UInt8) : sum l < 4294967296 :=
  Nat.xor_lt_two_pow (n := 32) (crc_lt l (by omega)) (by omega)

/-- One byte turned turns the sum. -/
theorem sum_turned (l r : List UInt8) (a b : UInt8) (h : sum (l ++ a :: r) = sum (l ++ b :: r)) : a = b := by
  have h1 := xor_rc h
  rw [crc_append, crc_append] at h1
  have hl : crc l 4294967295 < 4294967296 := crc_lt l (by omega)
  exact crcByte_byte hl a b (crc_inj r (crcByte_lt hl a) (crcByte_lt hl b) h1)

theorem set_eq_append (l : List UInt8) (k : Nat) (hk : k < l.length) (b : UInt8) : l.set k b = l.take k ++ b :: l.drop (k + 1) := by
  rw [List.set_eq_take_append_cons_drop, if_pos hk]

theorem sum_set (l : List UInt8) (k : Nat) (hk : k < l.length) (b : UInt8) (h : sum (l.set k b) = sum l) : b = l[k] := by
  have e : l = l.take k ++ l[k] :: l.drop (k + 1) := by
    have := set_eq_append l k hk l[k]; rw [List.set_getElem_self] at this; exact this
  rw [set_eq_append l k hk b] at h
  exact sum_turned _ _ _ _ (h.trans (congrArg sum e))

end Go.Proofs.YtlgefjcfnnjkbaaDoor
/- wire.Sum returns the CRC-32 of its bytes; it makes new blocks alone. No conditions but the model's bound on a string's length. -/
namespace Go.Proofs.YtlgefjcfnnjkbaaDoor
set_option maxRecDepth 100000
open Go.RowKit

theorem crcBits_succ' (k c : Nat) : crcBits (k + 1) c = crcBit (crcBits k c) := by
  induction k generalizing c with
  | zero => rfl
  | succ k ih => rw [crcBits, ih (crcBit c)]; rfl

theorem xor_poly (x : Nat) (hx : x < 4294967296) : bits BinOp.xor IntKind.u32 ((x : Int) / 2) 3988292384 = ((x / 2 ^^^ 3988292384 : Nat) : Int) := by
  have := u32_xor_nat (x / 2) 3988292384 (by omega) (by omega)
  simpa using this

set_option maxHeartbeats 1000000 in
theorem turn_any (b : UInt8) (c : Nat) (cb : Nat) (w : World) (hc : c < 4294967296) (hw : w.heap[cb]? = some (.cells #[.int .u32 (c : Int)] 168 (0, 0))) :
    Calls Tryd.prog 84 #[.int .u8 (b.toNat : Int), .pointer (some ⟨cb, 0, none⟩)] w fun e w' => e = .returned (.tuple #[]) ∧ w'.heap[cb]? = some (.cells #[.int .u32 (crcByte c b.toNat : Int)] 168 (0, 0)) ∧ w.grownBy w' (some cb) ∧ w'.heap.size = w.heap.size := by
  have h0 := cell_of_one hw
  have hf := free_of_one hw
  have hb := b.toNat_lt
  have hx := u32_xor_nat c b.toNat hc (by omega)
  have hx1 : c ^^^ b.toNat < 4294967296 := xor_lt hc hb
  go_enter Tryd.func84, Tryd.ntmps84
  go_wp2
  have HW := Lib.hid hw
  have HX := Lib.hid hx1
  clear hw h0 hf hx hx1
  go_loopw [7] (fun i wr => ∃ k : Nat, k ≤ 8 ∧ i = .int .i64 k ∧ wr.heap[cb]? = some (.cells #[.int .u32 (crcBits k (c ^^^ b.toNat) : Int)] 168 (0, 0)) ∧ w.grownBy wr (some cb) ∧ wr.heap.size = w.heap.size) (fun i _ => 8 - (intOf i).toNat)
  case atStart => exact ⟨0, by omega, rfl, one_setCell HW.out, grownBy_setCell _ _ _ _, by simp⟩
  case round =>
    obtain ⟨k, hk, rfl, hwr, hg, hs⟩ := hrel
    have HG := Lib.hid hg
    have HS := Lib.hid hs
    clear hg hs
    have hx : crcBits k (c ^^^ b.toNat) < 4294967296 := crcBits_lt k HX.out
    obtain ⟨x, hxe⟩ : ∃ x, x = crcBits k (c ^^^ b.toNat) := ⟨_, rfl⟩
    rw [← hxe] at hx hwr
    have HE := Lib.hid hxe
    clear hxe
    have h0 := cell_of_one hwr
    have hf := free_of_one hwr
    have HWR := Lib.hid hwr
    clear hwr
    have hp := xor_poly x hx
    by_cases hlt : k < 8
    · by_cases hodd : x % 2 = 1
      · have ho : ((x : Int) % 2 == 1) = true := by simp; omega
        go_wp2
        go_roundw
        case rel =>
          refine ⟨k + 1, by omega, by go_num, ?_, grownBy_trans HG.out (grownBy_setCell _ _ _ _), by simp [HS.out]⟩
          rw [crcBits_succ', ← HE.out, one_setCell HWR.out]
          simp [crcBit, hodd]
        case measure => simp [intOf]; omega
      · have ho : ((x : Int) % 2 == 1) = false := by simp; omega
        go_wp2
        go_roundw
        case rel =>
          refine ⟨k + 1, by omega, by go_num, ?_, grownBy_trans HG.out (grownBy_setCell _ _ _ _), by simp [HS.out]⟩
          rw [crcBits_succ', ← HE.out, one_setCell HWR.out]
          simp [crcBit, hodd]
        case measure => simp [intOf]; omega
    · go_wp2
      go_end0
      obtain rfl : k = 8 := by omega
      exact ⟨rfl, by rw [HWR.out, HE.out]; rfl, HG.out, HS.out⟩

theorem take_snoc (s : ByteArray) (k : Nat) (h : k < s.size) : s.data.toList.take (k + 1) = s.data.toList.take k ++ [s[k]] := by
  rw [List.take_succ_eq_append_getElem (by simpa using h)]; rfl

theorem crc_snoc (l : List UInt8) (b : UInt8) (c : Nat) : crc (l ++ [b]) c = crcByte (crc l c) b.toNat := by simp [crc]

set_option maxHeartbeats 1000000 in
theorem sum_any (s : ByteArray) (w : World) (hs : s.size ≤ maxLen) :
    Calls Tryd.prog 77 #[.string s] w fun e w' => e = .returned (.int .i64 (sum s.data.toList : Int)) ∧ Below w.heap.size w w' := by
  unfold maxLen at hs
  go_enter Tryd.func77, Tryd.ntmps77
  go_wp2_with fail
  go_loopw [9] (fun i wr => ∃ k : Nat, k ≤ s.size ∧ i = .int .i64 k ∧ wr.heap[w.heap.size]? = some (.cells #[.int .u32 (crc (s.data.toList.take k) 4294967295 : Int)] 168 (0, 0)) ∧ Below w.heap.size w wr ∧ w.heap.size < wr.heap.size) (fun i _ => s.size - (intOf i).toNat)
  case atStart => exact ⟨0, by omega, rfl, heap_alloc_new _ _, (Below.refl _ _).alloc (Nat.le_refl _) _, by simp⟩
  case round =>
    obtain ⟨k, hk, rfl, hwr, hg, hsz⟩ := hrel
    have hc : crc (s.data.toList.take k) 4294967295 < 4294967296 := crc_lt _ (by omega)
    have HG := Lib.hid hg
    have HWR := Lib.hid hwr
    have h0 := cell_of_one hwr
    clear hg hwr
    by_cases hlt : k < s.size
    · go_wp2_with (go_at_call 84; refine (turn_any s[k] _ _ _ hc HWR.out).mono ?_; rintro e w' ⟨rfl, hh, hg, hz⟩)
      have HH := Lib.hid hh
      have HG2 := Lib.hid hg
      clear hh hg h0
      go_wp2
      go_roundw
      case rel => exact ⟨k + 1, by omega, by go_num, by rw [take_snoc s k hlt, crc_snoc]; exact HH.out, HG.out.grown HG2.out (Nat.le_of_lt hsz) (fun j e => by cases e; exact Nat.le_refl _), by omega⟩
      case measure => simp [intOf]; omega
    · obtain rfl : k = s.size := by omega
      obtain ⟨y, hy⟩ : ∃ y, y = sum s.data.toList := ⟨_, rfl⟩
      have hylt : y < 4294967296 := by rw [hy]; exact sum_lt _
      have hx : bits BinOp.xor IntKind.u32 (4294967295 : Int) (crc (s.data.toList.take s.size) 4294967295 : Int) = (y : Int) := by
        have h := u32_xor_nat 4294967295 _ (by omega) hc
        rw [hy, sum, Nat.xor_comm]
        rw [List.take_of_length_le (by simp)] at h ⊢
        exact h
      have hsg : IntKind.u32.signed = false := rfl
      have hmx : IntKind.u32.max = 4294967295 := by decide
      have HY := Lib.hid hy
      clear hy
      go_wp2
      go_ret
      exact ⟨by rw [← HY.out]; rfl, HG.out⟩
end Go.Proofs.YtlgefjcfnnjkbaaDoor
/- Plain models of frames: their bytes, what is read of bytes, how many a batch takes, how it is cut, what is joined. No conditions. -/
namespace Go.Proofs.YtlgefjcfnnjkbaaDoor
set_option maxRecDepth 100000

/-- a frame: epoch, place, kind, bytes -/
structure Fr where
  e : Int
  a : Int
  k : Int
  s : List UInt8
deriving DecidableEq

/-- n in so many bytes, the greatest one first -/
def be : Nat → Nat → List UInt8
  | 0, _ => []
  | m + 1, n => be m (n / 256) ++ [UInt8.ofNat (n % 256)]

theorem be_length (m n : Nat) : (be m n).length = m := by
  induction m generalizing n with
  | zero => rfl
  | succ m ih => simp [be, ih]

theorem be_front (m n : Nat) : be (m + 1) n = UInt8.ofNat (n / 256 ^ m % 256) :: be m n := by
  induction m generalizing n with
  | zero => simp [be]
  | succ m ih =>
    rw [be, ih]
    simp only [List.cons_append]
    rw [show be (m + 1) n = be m (n / 256) ++ [UInt8.ofNat (n % 256)] from rfl, Nat.div_div_eq_div_mul]
    congr 4
    rw [Nat.pow_succ, Nat.mul_comm]

def unbe (l : List UInt8) : Nat := l.foldl (fun n b => n * 256 + b.toNat) 0

theorem unbe_snoc (l : List UInt8) (b : UInt8) : unbe (l ++ [b]) = unbe l * 256 + b.toNat := by simp [unbe]

theorem unbe_be (m n : Nat) (h : n < 256 ^ m) : unbe (be m n) = n := by
  induction m generalizing n with
  | zero => simp only [Nat.pow_zero] at h; have : n = 0 := by omega
            subst this; rfl
  | succ m ih =>
    rw [be, unbe_snoc, ih _ (by rw [Nat.pow_succ] at h; exact Nat.div_lt_of_lt_mul (by omega))]
    have : (UInt8.ofNat (n % 256)).toNat = n % 256 := by simp
    omega

theorem be_inj {m n n' : Nat} (h : n < 256 ^ m) (h' : n' < 256 ^ m) (e : be m n = be m n') : n = n' := by
  rw [← unbe_be m n h, ← unbe_be m n' h', e]

def Fr.right (f : Fr) : Bool := decide (1 ≤ f.e ∧ f.e ≤ 16777215 ∧ 0 ≤ f.a ∧ f.a < 64 ∧ 1 ≤ f.k ∧ f.k ≤ 4 ∧ f.s.length ≤ 53)
theorem Fr.right_iff (f : Fr) : f.right = true ↔ (1 ≤ f.e ∧ f.e ≤ 16777215 ∧ 0 ≤ f.a ∧ f.a < 64 ∧ 1 ≤ f.k ∧ f.k ≤ 4 ∧ f.s.length ≤ 53) := by simp [Fr.right]

/-- the seven bytes ahead -/
def Fr.head (f : Fr) : List UInt8 := be 3 f.e.toNat ++ be 1 f.a.toNat ++ be 1 f.k.toNat ++ be 1 f.s.length ++ be 1 0
def Fr.body (f : Fr) : List UInt8 := f.head ++ f.s ++ List.replicate (53 - f.s.length) 0
def Fr.lay (f : Fr) : List UInt8 := f.body ++ be 4 (sum f.body)

theorem Fr.head_length (f : Fr) : f.head.length = 7 := by simp [Fr.head, be_length]
theorem Fr.body_length {f : Fr} (h : f.right = true) : f.body.length = 60 := by
  have := (f.right_iff.1 h).2.2.2.2.2.2
  simp [Fr.body, Fr.head_length]; omega
theorem Fr.lay_length {f : Fr} (h : f.right = true) : f.lay.length = 64 := by simp [Fr.lay, Fr.body_length h, be_length]

theorem Fr.head_eq (f : Fr) : f.head = [UInt8.ofNat (f.e.toNat / 65536 % 256), UInt8.ofNat (f.e.toNat / 256 % 256), UInt8.ofNat (f.e.toNat % 256), UInt8.ofNat (f.a.toNat % 256), UInt8.ofNat (f.k.toNat % 256), UInt8.ofNat (f.s.length % 256), 0] := by
  simp [Fr.head, be, Nat.div_div_eq_div_mul]

/-- what a sector says -/
def Fr.of (l : List UInt8) : Fr := { e := (unbe (l.take 3) : Nat), a := (l.getD 3 0).toNat, k := (l.getD 4 0).toNat, s := (l.drop 7).take (l.getD 5 0).toNat }
def readF (l : List UInt8) : Option Fr := if l.length = 64 ∧ (l.getD 5 0).toNat ≤ 53 ∧ (Fr.of l).right = true ∧ (Fr.of l).lay = l then some (Fr.of l) else none

theorem Fr.of_lay {f : Fr} (h : f.right = true) : Fr.of f.lay = f ∧ (f.lay.getD 5 0).toNat ≤ 53 := by
  obtain ⟨h1, h2, h3, h4, h5, h6, h7⟩ := f.right_iff.1 h
  have el : f.lay = f.head ++ (f.s ++ (List.replicate (53 - f.s.length) 0 ++ be 4 (sum f.body))) := by simp [Fr.lay, Fr.body]
  have e3 : f.lay.take 3 = be 3 f.e.toNat := by
    rw [el, Fr.head]
    simp only [List.append_assoc]
    exact List.take_left' (be_length _ _)
  have eu : unbe (be 3 f.e.toNat) = f.e.toNat := unbe_be _ _ (by omega)
  have g3 : f.lay.getD 3 0 = UInt8.ofNat (f.a.toNat % 256) := by rw [el, Fr.head_eq]; rfl
  have g4 : f.lay.getD 4 0 = UInt8.ofNat (f.k.toNat % 256) := by rw [el, Fr.head_eq]; rfl
  have g5 : f.lay.getD 5 0 = UInt8.ofNat (f.s.length % 256) := by rw [el, Fr.head_eq]; rfl
  have n3 : (UInt8.ofNat (f.a.toNat % 256)).toNat = f.a.toNat := by simp; omega
  have n4 : (UInt8.ofNat (f.k.toNat % 256)).toNat = f.k.toNat := by simp; omega
  have n5 : (UInt8.ofNat (f.s.length % 256)).toNat = f.s.length := by simp; omega
  have e7 : f.lay.drop 7 = f.s ++ (List.replicate (53 - f.s.length) 0 ++ be 4 (sum f.body)) := by rw [el]; exact List.drop_left' f.head_length
  refine ⟨?_, by rw [g5, n5]; exact h7⟩
  unfold Fr.of
  rw [e3, eu, g3, g4, g5, n3, n4, n5, e7, List.take_left' rfl]
  cases f
  simp only [Fr.mk.injEq]
  simp only at h1 h3 h5
  exact ⟨by omega, by omega, by omega, trivial⟩

theorem readF_lay {f : Fr} (h : f.right = true) : readF f.lay = some f := by
  obtain ⟨e1, e2⟩ := Fr.of_lay h
  unfold readF
  rw [e1]
  exact if_pos ⟨Fr.lay_length h, e2, h, rfl⟩

theorem readF_some {l : List UInt8} {f : Fr} (h : readF l = some f) : l.length = 64 ∧ f.right = true ∧ f.lay = l := by
  unfold readF at h
  split at h
  · rename_i c; cases h; exact ⟨c.1, c.2.2.1, c.2.2.2⟩
  · cases h

theorem lay_inj {f g : Fr} (hf : f.right = true) (hg : g.right = true) (e : f.lay = g.lay) : f = g := by
  have := readF_lay hf
  rw [e, readF_lay hg] at this
  exact (Option.some.inj this).symm

/-! ### How many -/
def need (n : Nat) : Nat := max 1 (n / 53 + min 1 (n % 53))
def needI (n : Int) : Int := if n < 0 then 0 else (need n.toNat : Nat)

/-! ### Cut -/
def cutL (e : Int) (a : Int) (l : List UInt8) (n : Nat) (i : Nat) : Fr := { e := e, a := a + i, k := if i + 1 = n then 3 else 2, s := (l.drop (i * 53)).take 53 }
def cutF (e a : Int) (l : List UInt8) : List Fr := (List.range (need l.length)).map (cutL e a l (need l.length))

/-! ### Join: the batches behind a list of frames, and how many frames they take -/
structure Js where
  out : List (List UInt8)
  begun : Option (List UInt8)
  whole : Nat
  i : Nat
def Js.new : Js := ⟨[], none, 0, 0⟩
/-- one frame more; none: it ends here -/
def Js.step (j : Js) (f : Fr) : Option Js :=
  if f.right = false then none
  else if f.k = 2 then some { j with begun := some (j.begun.getD [] ++ f.s), i := j.i + 1 }
  else if f.k = 3 then some { out := j.out ++ [j.begun.getD [] ++ f.s], begun := none, whole := j.i + 1, i := j.i + 1 }
  else if f.k = 1 ∨ j.begun ≠ none then none
  else some { j with whole := j.i + 1, i := j.i + 1 }
def Js.run : Js → List Fr → Js
  | j, [] => j
  | j, f :: l => match j.step f with
    | none => j
    | some j' => j'.run l
def joinF (l : List Fr) : List (List UInt8) × Nat := let j := Js.new.run l; (j.out, j.whole)
end Go.Proofs.YtlgefjcfnnjkbaaDoor
/- The functions of package frame: right, Need, Lay. No conditions. -/
namespace Go.Proofs.YtlgefjcfnnjkbaaDoor
set_option maxRecDepth 100000
open Go.RowKit

/-- a frame as a value; as cells -/
def Fr.cells (f : Fr) : List Value := [.int .i64 f.e, .int .i64 f.a, .int .i64 f.k, .string ⟨f.s.toArray⟩]
def Fr.val (f : Fr) : Value := .agg #[.int .i64 f.e, .int .i64 f.a, .int .i64 f.k, .string ⟨f.s.toArray⟩]

theorem size_toArray (l : List UInt8) : (⟨l.toArray⟩ : ByteArray).size = l.length := by simp [ByteArray.size]

set_option maxHeartbeats 1000000 in
theorem right_any (w : World) (f : Fr) (hs : f.s.length ≤ maxLen) :
    Calls Tryd.prog 66 #[f.val] w fun e w' => e = .returned (.bool f.right) ∧ Only (fun _ => False) w w' := by
  obtain ⟨e, a, k, s⟩ := f
  unfold Fr.val
  simp only at hs ⊢
  unfold maxLen at hs
  have hz := size_toArray s
  by_cases h1 : 1 ≤ e
  rotate_left
  · have hr : ({ e := e, a := a, k := k, s := s } : Fr).right = false := by simp [Fr.right]; omega
    have h1' : e < 1 := by omega
    clear h1
    rw [hr]; clear hr
    go_enter Tryd.func66, Tryd.ntmps66
    go_wp2
    go_ret
    exact ⟨rfl, Only.alloc _ _ _⟩
  by_cases h2 : e ≤ 16777215
  rotate_left
  · have hr : ({ e := e, a := a, k := k, s := s } : Fr).right = false := by simp [Fr.right]; omega
    have h2' : 16777215 < e := by omega
    clear h2
    rw [hr]; clear hr
    go_enter Tryd.func66, Tryd.ntmps66
    go_wp2
    go_ret
    exact ⟨rfl, Only.alloc _ _ _⟩
  by_cases h3 : 0 ≤ a
  rotate_left
  · have hr : ({ e := e, a := a, k := k, s := s } : Fr).right = false := by simp [Fr.right]; omega
    have h3' : a < 0 := by omega
    clear h3
    rw [hr]; clear hr
    go_enter Tryd.func66, Tryd.ntmps66
    go_wp2
    go_ret
    exact ⟨rfl, Only.alloc _ _ _⟩
  by_cases h4 : a < 64
  rotate_left
  · have hr : ({ e := e, a := a, k := k, s := s } : Fr).right = false := by simp [Fr.right]; omega
    have h4' : 64 ≤ a := by omega
    clear h4
    rw [hr]; clear hr
    go_enter Tryd.func66, Tryd.ntmps66
    go_wp2
    go_ret
    exact ⟨rfl, Only.alloc _ _ _⟩
  by_cases h5 : 1 ≤ k
  rotate_left
  · have hr : ({ e := e, a := a, k := k, s := s } : Fr).right = false := by simp [Fr.right]; omega
    have h5' : k < 1 := by omega
    clear h5
    rw [hr]; clear hr
    go_enter Tryd.func66, Tryd.ntmps66
    go_wp2
    go_ret
    exact ⟨rfl, Only.alloc _ _ _⟩
  by_cases h6 : k ≤ 4
  rotate_left
  · have hr : ({ e := e, a := a, k := k, s := s } : Fr).right = false := by simp [Fr.right]; omega
    have h6' : 4 < k := by omega
    clear h6
    rw [hr]; clear hr
    go_enter Tryd.func66, Tryd.ntmps66
    go_wp2
    go_ret
    exact ⟨rfl, Only.alloc _ _ _⟩
  have hr : ({ e := e, a := a, k := k, s := s } : Fr).right = decide ((s.length : Int) ≤ 53) := by unfold Fr.right; rw [decide_eq_decide]; simp only; omega
  rw [hr]; clear hr
  go_enter Tryd.func66, Tryd.ntmps66
  go_wp2
  go_ret
  exact ⟨rfl, Only.alloc _ _ _⟩

set_option maxHeartbeats 1000000 in
theorem need_any (w : World) (n : Int) (hn : -9223372036854775808 ≤ n ∧ n ≤ 9223372036854775807) :
    Calls Tryd.prog 12 #[.int .i64 n] w fun e w' => e = .returned (.int .i64 (needI n)) ∧ w = w' := by
  obtain ⟨h1, h2⟩ := hn
  go_enter Tryd.func12, Tryd.ntmps12
  by_cases h : n < 0
  · go_wp2
    go_ret
    exact ⟨by simp [needI, h], rfl⟩
  · have h' : 0 ≤ n := by omega
    have hm : needI n = max 1 (n / 53 + min 1 (n % 53)) := by
      simp only [needI, if_neg h, need]; omega
    rw [hm]
    clear hm h
    go_wp2
    all_goals (go_ret; refine ⟨?_, rfl⟩; go_num)
end Go.Proofs.YtlgefjcfnnjkbaaDoor
