/- disk.Read: what is there of a sector. No conditions. -/
import Derived.RangeFuncNested
import Derived.RangeFuncBound
import Derived.RangeFuncCalls
import Derived.RangeFuncLeaves
import Derived.Shelf.Abstract
import Derived.Shelf.RegionOpen
import Derived.OwnWalkIn
import Derived.TacticsInMore
import Derived.LoopNIn
import Derived.LoopIn
import Derived.Outline
import Derived.Test.YtlgefjcfnnjkbaaDisk4
namespace Go.Proofs.Ytlgefjcfnnjkbaa
open Go.RowKit Go.Shelf
attribute [local go_sem] Oper.semAt_some

/-- backward: the receiver is boxed; the function value captures the box. -/
theorem backward_any (w : World) (p : Nat) : Calls Try.prog 59 #[.pointer (some ⟨p, 0, none⟩)] w fun e w' => e = .returned (.func (.func 61) #[] #[.pointer (some ⟨w.heap.size, 0, none⟩)]) ∧ w' = w.alloc (.cells #[.pointer (some ⟨p, 0, none⟩)] 54) := by
  go_enter Try.func59, Try.ntmps59
  go_wp2
  go_ret
  exact ⟨rfl, rfl⟩

set_option maxRecDepth 100000 in
set_option maxHeartbeats 4000000 in
theorem readNil_in (w : World) (k : Int) : Calls Try.prog 41 #[.pointer none, .int .i64 k] w fun e w' => e = .returned (.tuple #[.string ⟨#[]⟩, .int .i64 1]) ∧ Below w.heap.size w w' := by
  refine (callsIn_wide (n := 5)).1 (callsIn_of_wp_marks (F := Fence.wide) Try.func41 rfl trivial ?_ rfl)
  refine wpIn_wide.2 ?_
  simp only [Try.ntmps41, List.size_toArray, List.length_cons, List.length_nil, Nat.reduceAdd, Nat.reduceSub, Array.replicate_succ, Array.replicate_zero, List.push_toArray, List.append_toArray, List.nil_append, List.cons_append]
  go_wp2_with fail
  go_step3
  go_wp2_with fail
  rw [Exit.noGoto_ret]
  refine ⟨.tuple #[.string ⟨#[]⟩, .int .i64 1], by simp [results, Try.f41, go_sem], rfl, ?_⟩
  exact (Below.refl _ _).alloc (Nat.le_refl _) _

set_option maxRecDepth 100000 in
set_option maxHeartbeats 4000000 in
theorem readFar_in (w : World) (p kb : Nat) (pv : Value) (d : D) (k : Int) (hd : DAt w p kb pv d) (hk : ¬ (0 ≤ k ∧ k < d.kept.length)) :
    Calls Try.prog 41 #[.pointer (some ⟨p, 0, none⟩), .int .i64 k] w fun e w' => e = .returned (.tuple #[.string ⟨#[]⟩, .int .i64 20]) ∧ Below w.heap.size w w' := by
  have hd0 : decide ((0 : Int) ≤ (k : Int) ∧ (k : Int) < d.kept.length) = false := decide_eq_false hk
  clear hk
  refine (callsIn_wide (n := 5)).1 (callsIn_of_wp_marks (F := Fence.wide) Try.func41 rfl trivial ?_ rfl)
  refine wpIn_wide.2 ?_
  simp only [Try.ntmps41, List.size_toArray, List.length_cons, List.length_nil, Nat.reduceAdd, Nat.reduceSub, Array.replicate_succ, Array.replicate_zero, List.push_toArray, List.append_toArray, List.nil_append, List.cons_append]
  have hd1 := hd.only (Only.alloc w (.cells #[.int .i64 k] 3) (fun _ => False)) (fun _ _ => id)
  go_wp2_with fail
  go_step3
  go_wp2_with (go_at_call 58; refine (has_any _ p kb _ d _ hd1).mono ?_; rintro e w1 ⟨rfl, rfl⟩; rw [hd0])
  rw [Exit.noGoto_ret]
  refine ⟨.tuple #[.string ⟨#[]⟩, .int .i64 20], by simp [results, Try.f41, go_sem], rfl, ?_⟩
  exact (Below.refl _ _).alloc (Nat.le_refl _) _

/-! ### The iterator -/
def down (m : Nat) : List (Fin m) := (List.finRange m).reverse
theorem down_length (m : Nat) : (down m).length = m := by simp [down]
theorem down_get (m q : Nat) (h : q < (down m).length) : (down m)[q] = ⟨m - 1 - q, by rw [down_length] at h; omega⟩ := by
  simp [down]
theorem down_take (m q j : Nat) (h : q + (j + 1) = m) : (down m).take (q + 1) = (down m).take q ++ [⟨j, by omega⟩] := by
  rw [List.take_succ_eq_append_getElem (by rw [down_length]; omega), down_get]
  congr 3
  omega

/-- what a round that goes on keeps -/
def KpD (n₀ Bn : Nat) (W W' : World) : Prop := Below n₀ W W' ∧ ∀ v, W.cell? ⟨Bn, 0, none⟩ = some v → W'.cell? ⟨Bn, 0, none⟩ = some v

theorem kpD_t {n₀ Bn : Nat} {A B C : World} (h : KpD n₀ Bn A B) (k : KpD n₀ Bn B C) : KpD n₀ Bn A C := ⟨h.1.trans k.1, fun v hv => k.2 v (h.2 v hv)⟩
theorem kpD_b {n₀ Bn : Nat} {w : World} (hn : n₀ ≤ w.heap.size) (W : World) (l : Nat) (o o' : Obj) (hl : w.heap.size ≤ l) (h : W.heap[l]? = some o) (ho : o.isCells = false) (hw : o.isWalk = false) : KpD n₀ Bn W (W.putObj l o') :=
  ⟨belowK_b hn W l o o' hl h ho hw, fun v hv => cell_kept hv (grownBy_putObj' W l o') (fun r e => by cases e; exact ⟨o, h, ho⟩)⟩

set_option maxRecDepth 100000 in
set_option maxHeartbeats 4000000 in
theorem back1_in (n : Nat) (hn : 1 ≤ n) (n₀ l Bn p g cap m : Nat) (hm : m ≤ 9223372036854775807) (hp : p < n₀) (J Jx : List (Fin m) → World → Prop)
    (hY : ∀ pre x W, J pre W → pre.length < m → YieldAt Fence.wide (n - 1) Try.prog l #[.pointer (some ⟨g, x.val * 65, none⟩)] W fun e W' =>
      (e = .returned (.bool true) ∧ J (pre ++ [x]) W' ∧ KpD n₀ Bn W W') ∨ (e = .returned (.bool false) ∧ Jx (pre ++ [x]) W'))
    (W : World) (hBn : W.cell? ⟨Bn, 0, none⟩ = some (.pointer (some ⟨p, 0, none⟩))) (ao : Option Addr) (hao : 0 < m → ao = some ⟨g, 0, none⟩) (hc : W.cell? ⟨p, 1, none⟩ = some (.slice ao m cap)) (h0 : J [] W) :
    CallsIn Fence.wide n Try.prog 61 #[.func (.yield l) #[] #[], .pointer (some ⟨Bn, 0, none⟩)] W fun e W' => (∃ v, e = .returned v) ∧
      ((∃ ys, ys = down m ∧ J ys W') ∨ (∃ pre, pre <+: down m ∧ Jx pre W')) := by
  refine callsIn_of_wp Try.func61 rfl trivial ?_ rfl
  simp only [Try.ntmps61, List.size_toArray, List.length_cons, List.length_nil, Nat.reduceAdd, Nat.reduceSub, Array.replicate_succ, Array.replicate_zero, List.push_toArray, List.append_toArray, List.nil_append, List.cons_append]
  gi_wp2
  gi_loopw [3] (fun i wr => ∃ q j : Nat, q + j = m ∧ i = .int .i64 ((j : Int) - 1) ∧ J ((down m).take q) wr ∧ wr.cell? ⟨Bn, 0, none⟩ = some (.pointer (some ⟨p, 0, none⟩)) ∧ wr.cell? ⟨p, 1, none⟩ = some (.slice ao m cap)) (fun i _ => (intOf i + 1).toNat)
  case atStart => exact ⟨0, m, by omega, rfl, by simpa using h0, hBn, hc⟩
  case round =>
    obtain ⟨q, j, hqj, rfl, hJ, hb, hcp⟩ := hrel
    cases j with
    | zero =>
      gi_wp2
      go_end0
      refine ⟨⟨_, rfl⟩, .inl ⟨_, ?_, hJ⟩⟩
      rw [List.take_of_length_le (by rw [down_length]; omega)]
    | succ j =>
      obtain rfl := hao (by omega)
      rw [show (((j + 1 : Nat) : Int) - 1) = (j : Int) by omega]
      have hlen : ((down m).take q).length < m := by rw [List.length_take, down_length]; omega
      obtain ⟨fn, tmps, assign, body, hy, hR⟩ := hY _ ⟨j, by omega⟩ wr hJ hlen
      dsimp only at hy
      have hjm : (j : Int) < (m : Int) := by omega
      have hst := Lib.hid (down_take m q j hqj)
      gi_wp2
      refine hR.mono ?_
      rintro e W3 (⟨rfl, hJ3, hk3⟩ | ⟨rfl, hJx3⟩)
      · have hb3 := hk3.2 _ hb
        have hc3 := (hk3.1.cell (p := ⟨p, 1, none⟩) hp).trans hcp
        gi_wp2
        go_roundw
        case rel => exact ⟨q + 1, j, by omega, rfl, by rw [hst.out]; exact hJ3, hb3, hc3⟩
        case measure => simp [intOf] <;> omega
      · gi_wp2
        refine bodyPost_ret (results_none rfl _ _ _) rfl ?_
        exact ⟨⟨_, rfl⟩, .inr ⟨_, ⟨(down m).drop (q + 1), by rw [← hst.out, List.take_append_drop]⟩, hJx3⟩⟩

theorem back_stops (n : Nat) (hn : 1 ≤ n) (n₀ Bn p g cap m : Nat) (hm : m ≤ 9223372036854775807) (hp : p < n₀) (ao : Option Addr) (hao : 0 < m → ao = some ⟨g, 0, none⟩) (w : World) (hBn : Bn < w.heap.size) (hpw : p < w.heap.size)
    (hb : w.cell? ⟨Bn, 0, none⟩ = some (.pointer (some ⟨p, 0, none⟩))) (hc : w.cell? ⟨p, 1, none⟩ = some (.slice ao m cap)) :
    SeqStopsK Fence.wide n Try.prog 61 #[.pointer (some ⟨Bn, 0, none⟩)] (fun x : Fin m => #[.pointer (some ⟨g, x.val * 65, none⟩)]) (KpD n₀ Bn) (fun ys => ys = down m) (fun pre => pre <+: down m) m w := fun l J Jx W hW _ _ hY h0 =>
  back1_in n hn n₀ l Bn p g cap m hm hp J Jx hY W ((hW.cell (p := ⟨Bn, 0, none⟩) hBn).trans hb) ao hao ((hW.cell (p := ⟨p, 1, none⟩) hpw).trans hc) h0

/-! ### Arms inside a fence -/
section
variable {F : Fence} {n : Nat} {P : Program} {ops : Array Oper} {rest : List Oper} {a : Act} {Q : Exit → Act → World → Prop} {W W' : World} {dst : Option Tmp} {x y : Operand} {T ty : TypeId} {pos : String} {after : Array Edge}
theorem wpListIn_load_part (g o : Nat) (cs : List Value) (hu : ∃ d, P.underlying T = some d ∧ (match d with | .struct _ | .array _ _ => true | _ => false) = true) (hi : (P.info? T).map (·.size) = some cs.length)
    (hb : Has W g o cs) (hx : a.eval x = .pointer (some ⟨g, o, none⟩)) (hK : wpListIn F n P ops Q rest (a.put dst (.agg cs.toArray)) W) :
    wpListIn F n P ops Q ({ dst := dst, op := .load T x, type := ty, pos := pos, after := after, guard := none } :: rest) a W := by
  obtain ⟨d, hu, hd⟩ := hu
  refine wpListIn_plain rfl fun K hK' => ?_
  have h := run_load_part (P := P) W g o cs.length cs T d hu (by revert hd; cases d <;> simp) hi rfl hb
  unfold Oper.wpIn
  refine ⟨by simp [Oper.about], ?_⟩
  rw [Oper.semAt_plain F _ _ (by intro c hc'; cases hc'), exec_load rfl hx h]
  exact hK' _ _ hK
theorem wpListIn_store_block (g : Nat) (t : TypeId) (cs cur : List Value) (hi : (P.info? T).map (·.size) = some cs.length) (hb : W.heap[g]? = some (.cells cur.toArray t (0, 0))) (hl : cur.length = cs.length) (h1 : ∀ v ∈ cs, v.oneCell' = true)
    (hx : a.eval x = .pointer (some ⟨g, 0, none⟩)) (hy : a.eval y = .agg cs.toArray) (hK : wpListIn F n P ops Q rest (a.put dst undef) (W.setRow g cs.toArray)) :
    wpListIn F n P ops Q ({ dst := dst, op := .store T x y, type := ty, pos := pos, after := after, guard := none } :: rest) a W := by
  refine wpListIn_plain rfl fun K hK' => ?_
  have h := run_store_part (P := P) W g 0 cs.length t T cur cs hi rfl hb (by omega) h1
  rw [show laid cur 0 cs = cs from by simp [laid, ← hl]] at h
  unfold Oper.wpIn
  refine ⟨by simp [Oper.about], ?_⟩
  rw [Oper.semAt_plain F _ _ (by intro c hc'; cases hc'), exec_store rfl hx hy h]
  exact hK' _ _ hK
end

/-! ### What is there -/
theorem pend_down (d : D) : d.pend.reverse = (down d.pend.length).map fun x => d.pend[x.val] := by
  unfold down
  rw [List.map_reverse]
  congr 1
  apply List.ext_getElem
  · simp
  · intro i h1 h2
    simp

theorem there_none (d : D) (k : Nat) (h : ∀ x ∈ down d.pend.length, d.pend[x.val].1 ≠ k) : d.there k = d.kept.getD k [] := by
  unfold D.there
  rw [pend_down, List.find?_eq_none.2 (by
    intro y hy
    obtain ⟨x, hx, rfl⟩ := List.mem_map.1 hy
    simpa using h x hx)]
  rfl

theorem there_some (d : D) (k : Nat) (pre : List (Fin d.pend.length)) (x : Fin d.pend.length) (hp : pre ++ [x] <+: down d.pend.length) (h : ∀ y ∈ pre, d.pend[y.val].1 ≠ k) (hx : d.pend[x.val].1 = k) : d.there k = d.pend[x.val].2 := by
  unfold D.there
  obtain ⟨t, ht⟩ := hp
  rw [pend_down, ← ht, List.map_append, List.map_append, List.find?_append, List.find?_append, List.find?_eq_none.2 (by
    intro y hy
    obtain ⟨z, hz, rfl⟩ := List.mem_map.1 hy
    simpa using h z hz)]
  simp [hx]

/-- what ends as it should, and in no other way -/
def OnlyN (Q : Exit → Act → World → Prop) : Exit → Act → World → Prop
  | .normal, a, w => Q .normal a w
  | _, _, _ => False
theorem onlyN_mono {Q : Exit → Act → World → Prop} (e : Exit) (a : Act) (w : World) (h : OnlyN Q e a w) : Q e a w := by
  cases e with
  | normal => exact h
  | _ => exact h.elim

/-- between two rounds: none of those that came is of this sector; what was there is there -/
def ReadI (B : Nat) (d : D) (k : Nat) (row : List UInt8) (pre : List (Fin d.pend.length)) (W : World) : Prop :=
  (∀ x ∈ pre, d.pend[x.val].1 ≠ k) ∧ W.heap[B]? = some (.cells #[.int .i64 (k : Int)] 3 (0, 0)) ∧ W.heap[B + 1]? = some (.cells (bvs row).toArray 92 (0, 0))
/-- a round has left -/
def ReadX (B : Nat) (d : D) (k : Nat) (c : Code) (pre : List (Fin d.pend.length)) (W : World) : Prop :=
  c = .exit 0 ∧ ∃ (pre' : List (Fin d.pend.length)) (x : Fin d.pend.length), pre = pre' ++ [x] ∧ (∀ y ∈ pre', d.pend[y.val].1 ≠ k) ∧ d.pend[x.val].1 = k ∧ W.heap[B + 1]? = some (.cells (bvs d.pend[x.val].2).toArray 92 (0, 0))
theorem readI_own (B : Nat) (d : D) (k : Nat) (row : List UInt8) : Own (ReadI B d k row) := fun _ _ _ _ hs hg hr => ⟨hs.1, (grownBy_keeps_cells hg hr hs.2.1 rfl).trans hs.2.1, (grownBy_keeps_cells hg hr hs.2.2 rfl).trans hs.2.2⟩
theorem readX_own (B : Nat) (d : D) (k : Nat) (c : Code) : Own (ReadX B d k c) := fun _ _ _ _ hs hg hr => by
  obtain ⟨h0, pre', x, h1, h2, h3, h4⟩ := hs
  exact ⟨h0, pre', x, h1, h2, h3, (grownBy_keeps_cells hg hr h4 rfl).trans h4⟩

theorem Try.alloc92 (w : World) : (Instr.alloc 92 true (.tuple #[])).run Try.prog w = .ok (.pointer (some ⟨w.heap.size, 0, none⟩)) (w.alloc (.cells (bvs noughts).toArray 92)) := by kernel_rfl

set_option maxRecDepth 100000 in
set_option maxHeartbeats 8000000 in
theorem read_in (w : World) (p kb : Nat) (pv : Value) (d : D) (k : Nat) (hd : DAt w p kb pv d) (hk : k < d.kept.length) :
    Calls Try.prog 41 #[.pointer (some ⟨p, 0, none⟩), .int .i64 (k : Int)] w fun e w' => e = .returned (.tuple #[.string ⟨(d.there k).toArray⟩, .int .i64 0]) ∧ Below w.heap.size w w' := by
  have hd0 : decide ((0 : Int) ≤ (k : Int) ∧ (k : Int) < d.kept.length) = true := by simp; omega
  refine (callsIn_wide (n := 5)).1 (callsIn_of_wp_marks (F := Fence.wide) Try.func41 rfl trivial ?_ rfl)
  refine wpIn_wide.2 ?_
  simp only [Try.ntmps41, List.size_toArray, List.length_cons, List.length_nil, Nat.reduceAdd, Nat.reduceSub, Array.replicate_succ, Array.replicate_zero, List.push_toArray, List.append_toArray, List.nil_append, List.cons_append]
  have hd1 := hd.only (Only.alloc w (.cells #[.int .i64 (k : Int)] 3) (fun _ => False)) (fun _ _ => id)
  have hbx := heap_alloc_new w (.cells #[.int .i64 (k : Int)] 3)
  have hB1 := (Below.refl w.heap.size w).alloc (Nat.le_refl _) (.cells #[.int .i64 (k : Int)] 3)
  have hsz1 : (w.alloc (.cells #[.int .i64 (k : Int)] 3)).heap.size = w.heap.size + 1 := by simp
  go_wp2_with fail
  go_step3
  go_upto_region 5 with (go_at_call 58; refine (has_any _ p kb _ d _ hd1).mono ?_; rintro e w1 ⟨rfl, rfl⟩; rw [hd0])
  generalize w.alloc (.cells #[.int .i64 (k : Int)] 3) = w1 at hd1 hbx hB1 hsz1 ⊢
  have hrow := hd1.row_at k hk
  have hrl : (d.kept[k]).length = 64 := hd1.ok.len _ (List.getElem_mem hk)
  have hkept : d.kept.getD k [] = d.kept[k] := by simp [hk]
  have hkI : (k : Int) < (d.kept.length : Int) := by omega
  have hbxc := cell_at hbx 0
  refine wp_mono (Q := OnlyN _) ?_ onlyN_mono
  refine wp_region_pick (fun W => W.cell? ⟨p, 0, none⟩ = some (.slice (some ⟨kb, 0, none⟩) d.kept.length d.kept.length) ∧ W.cell? ⟨w.heap.size, 0, none⟩ = some (.int .i64 (k : Int)) ∧ Has W kb (k * 64) (bvs d.kept[k])) [(0, 0), (1, 0), (2, 0), (3, 1), (4, 1), (5, 0), (6, 1), (7, 2), (8, 3)] (by kernel_rfl) (by kernel_rfl) (fun _ _ _ _ _ h => h.elim) ⟨hd1.c0, hbxc, hrow⟩ ?_
  simp only [pickOps, List.getElem?_cons_zero, List.getElem?_cons_succ]
  iterate 3 (refine wpL_pure (a' := ?_) ?_ rfl (fun W => ?_) ?_ ?_; rotate_left 2; (· go_simp; first | (go_bits; with_reducible rfl) | with_reducible rfl); (· simp only [put_some, List.setIfInBounds_toArray, List.set_cons_zero, List.set_cons_succ]; rfl))
  refine wpL_held (a' := ?_) (.slice (some ⟨kb, 0, none⟩) d.kept.length d.kept.length) rfl (fun W hW => exec_load (p := .pointer (some ⟨p, 0, none⟩)) rfl rfl (run_load_one W _ _ _ _ Try.underlying86 rfl hW.1)) ?_ ?_; rotate_left; (· simp only [put_some, List.setIfInBounds_toArray, List.set_cons_zero, List.set_cons_succ]; rfl)
  refine wpL_held (a' := ?_) (.int .i64 (k : Int)) rfl (fun W hW => exec_load (p := .pointer (some ⟨w.heap.size, 0, none⟩)) rfl rfl (run_load_one W _ _ _ _ Try.underlying3 rfl hW.2.1)) ?_ ?_; rotate_left; (· simp only [put_some, List.setIfInBounds_toArray, List.set_cons_zero, List.set_cons_succ]; rfl)
  (refine wpL_pure (a' := ?_) ?_ rfl (fun W => ?_) ?_ ?_; rotate_left 2; (· go_simp; first | (go_bits; with_reducible rfl) | with_reducible rfl); (· simp only [put_some, List.setIfInBounds_toArray, List.set_cons_zero, List.set_cons_succ]; rfl))
  refine wpL_held (a' := ?_) (.agg (bvs d.kept[k]).toArray) rfl (fun W hW => exec_load (p := .pointer (some ⟨kb, k * 64, none⟩)) rfl rfl (run_load_part W kb (k * 64) 64 _ _ _ Try.underlying92 rfl Try.size92 (by rw [length_bvs]; exact hrl) hW.2.2)) ?_ ?_; rotate_left; (· simp only [put_some, List.setIfInBounds_toArray, List.set_cons_zero, List.set_cons_succ]; rfl)
  have hoA : Only (fun _ => False) w1 (w1.drew.alloc (.cells (bvs noughts).toArray 92)) := (Only.drew _ _).trans (Only.alloc _ _ _)
  refine wpL_stepRun (a' := ?_) (.pointer (some ⟨w1.heap.size, 0, none⟩)) rfl (exec_alloc rfl (Try.alloc92 w1.drew)) ⟨(hd1.only hoA (fun _ _ => id)).c0, by rw [hoA.cell (p := ⟨w.heap.size, 0, none⟩) (lt_of_block hbx) id]; exact hbxc, hrow.only hoA id⟩ ?_ ?_; rotate_left; (· simp only [put_some, List.setIfInBounds_toArray, List.set_cons_zero, List.set_cons_succ]; rfl)
  have hST := run_store_part (P := Try.prog) (w1.drew.alloc (.cells (bvs noughts).toArray 92)) w1.heap.size 0 64 92 92 (bvs noughts) (bvs d.kept[k]) Try.size92 (by rw [length_bvs]; exact hrl) (heap_alloc_new w1.drew _) (by rw [length_bvs, length_bvs, hrl]; decide) (bvs_one _)
  rw [laid_all _ _ (by rw [length_bvs, length_bvs, hrl]; decide)] at hST
  refine wpL_lastDone (a' := ?_) rfl (exec_store rfl (p := .pointer (some ⟨w1.heap.size, 0, none⟩)) (v := .agg (bvs d.kept[k]).toArray) rfl rfl hST) ?_ ?_; rotate_left; (· simp only [put_none]; rfl)
  refine wpL_nil ?_
  unfold OnlyN
  simp only
  have hT := setRow_heap (w1.drew.alloc (.cells (bvs noughts).toArray 92)) w1.heap.size _ (bvs d.kept[k]).toArray _ _ (heap_alloc_new w1.drew _)
  have hoT := hoA.trans' (Only.setRow (w1.drew.alloc (.cells (bvs noughts).toArray 92)) w1.heap.size (bvs d.kept[k]).toArray (S := fun x => x = w1.heap.size) rfl) (fun y hy e => by omega)
  generalize (w1.drew.alloc (.cells (bvs noughts).toArray 92)).setRow w1.heap.size (bvs d.kept[k]).toArray = wT at hT hoT ⊢
  clear hST hoA
  have hdT := hd1.only hoT (fun _ _ => id)
  have hbT := hoT.keep hbx id
  have hBT : Below w.heap.size w wT := hB1.trans ((hoT.below (fun _ _ => id)).mono (by omega))
  have hszT : w.heap.size + 2 ≤ wT.heap.size := by have := lt_of_block hT; omega
  rw [hsz1] at hT
  have HdT := Lib.hid hdT
  have HT := Lib.hid hT
  have HbT := Lib.hid hbT
  have HBT := Lib.hid hBT
  clear hd1 hbx hB1 hoT hdT hbT hBT hT hrow hbxc
  go_wp2_with fail
  go_step3
  go_wp2_with (go_at_call 59; refine (backward_any wT p).mono ?_; rintro e w5 ⟨rfl, rfl⟩)
  obtain ⟨ao, cap, rfl, hm⟩ := HdT.out.pv_slice
  have hps := HdT.out.pv_shape
  obtain ⟨g, hao⟩ : ∃ g, 0 < d.pend.length → ao = some ⟨g, 0, none⟩ := by
    rcases hps with ⟨_, h0⟩ | ⟨g, cp, cur, hv, _⟩
    · exact ⟨0, fun h => by rw [h0] at h; simp at h⟩
    · cases hv; exact ⟨g, fun _ => rfl⟩
  have hpw : p < w.heap.size := hd.p_lt
  have hbb := heap_alloc_new wT (.cells #[.pointer (some ⟨p, 0, none⟩)] 54)
  have hoB := Only.alloc wT (.cells #[.pointer (some ⟨p, 0, none⟩)] 54) (fun _ => False)
  have hcB := (HdT.out.only hoB (fun _ _ => id)).c1
  have hBB : Below w.heap.size w (wT.alloc (.cells #[.pointer (some ⟨p, 0, none⟩)] 54)) := HBT.out.trans ((hoB.below (fun _ _ => id)).mono (by omega))
  have hTB := hoB.keep HT.out id
  have hbxB := hoB.keep HbT.out id
  refine wpIn_wide.1 (wpIn_rangeFunc_ownF (F := Fence.wide) (n := 5) rfl (by decide) (gf := 61) (lb := #[.pointer (some ⟨wT.heap.size, 0, none⟩)]) rfl trivial (enters_of Try.func61 (by kernel_rfl) rfl)
    (back_stops 4 (by decide) w.heap.size wT.heap.size p g cap d.pend.length hm hpw ao hao _ (by simp) (by simp; omega) (by rw [cell_at hbb]; rfl) hcB) kpD_t (kpD_b (by simp; omega)) (Below.refl _ _) (fun _ => rfl)
    (fun pre W => ReadI w.heap.size d k d.kept[k] pre W ∧ Below w.heap.size w W)
    (fun c pre W => ReadX w.heap.size d k c pre W ∧ Below w.heap.size w W)
    (OwnFrom.and (Own.from (readI_own _ _ _ _) _) (ownFrom_below (Nat.le_refl _) (by simp; omega)))
    (fun c => OwnFrom.and (Own.from (readX_own _ _ _ _) _) (ownFrom_below (Nat.le_refl _) (by simp; omega)))
    ⟨⟨by simp, hbxB, hTB⟩, hBB⟩
    (fun x => { tmps := #[.pointer (some ⟨p, 0, none⟩), .int .i64 (k : Int), undef, .pointer (some ⟨w.heap.size, 0, none⟩), .string ⟨#[]⟩, .int .i64 0, .pointer (some ⟨w.heap.size + 1, 0, none⟩), .pointer (some ⟨g, x.val * 65, none⟩), .pointer (some ⟨p, 0, none⟩), .bool false, .pointer (some ⟨p, 0, none⟩), .int .i64 (k : Int), .bool true, .bool false, .pointer (some ⟨p, 0, none⟩), .pointer (some ⟨p, 0, none⟩), .pointer (some ⟨p, 0, none⟩), .slice (some ⟨kb, 0, none⟩) d.kept.length d.kept.length, .int .i64 (k : Int), .pointer (some ⟨kb, k * 64, none⟩), .agg (bvs d.kept[k]).toArray, .pointer (some ⟨p, 0, none⟩), .func (.func 61) #[] #[.pointer (some ⟨wT.heap.size, 0, none⟩)], .pointer (some ⟨g, x.val * 65, none⟩), undef, undef, undef, undef, undef, undef, undef, undef, undef, undef, undef, undef, undef], defers := [] }) ?assign ?body ?done ?stop)
  case assign =>
    intro l x W K hK
    gi_wp2
    exact hK
  case body =>
    rintro l pre x W ⟨⟨hne, hbx, hT⟩, hB⟩ _
    obtain ⟨g', cap', hv', hcap', hmax', hgp, hgk, hglt, hat, hhas⟩ := hd.pend_at x.val x.isLt
    obtain rfl := hao (by have := x.isLt; omega)
    cases hv'
    have hat' := (hB.cell (p := ⟨g, x.val * 65, none⟩) hglt).trans hat
    have hhas' : Has W g (x.val * 65 + 1) (bvs d.pend[x.val].2) := fun j u hu => (hB.cell (p := ⟨g, x.val * 65 + 1 + j, none⟩) hglt).trans (hhas j u hu)
    have hpl := (hd.ok.plen _ (List.getElem_mem x.isLt)).1
    have hbc := cell_at hbx 0
    have HT := Lib.hid hT
    have HNE := Lib.hid hne
    have HB := Lib.hid hB
    have HBX := Lib.hid hbx
    clear hat hhas hT hne hbx hB
    by_cases hx : d.pend[x.val].1 = k
    · have hq : ((d.pend[x.val].1 : Int) == (k : Int)) = true := by simp [hx]
      have HX := Lib.hid hx
      clear hx
      gi_wp2_with (first
        | ((with_reducible refine wpListIn_load_part g (x.val * 65 + 1) (bvs d.pend[x.val].2) ?_ ?_ ?_ ?_ ?_); (· exact ⟨_, Try.underlying92, rfl⟩); (· rw [length_bvs, hpl]; exact Try.size92); (· exact hhas'); (· rfl))
        | ((with_reducible refine wpListIn_store_block (w.heap.size + 1) 92 (bvs d.pend[x.val].2) (bvs d.kept[k]) ?_ ?_ ?_ ?_ ?_ ?_ ?_); (· rw [length_bvs, hpl]; exact Try.size92); (· exact HT.out); (· rw [length_bvs, length_bvs, hpl, hrl]); (· exact bvs_one _); (· rfl); (· rfl)))
      refine ⟨KeepsOthers.of_grownBy (row := some (w.heap.size + 1)) ⟨rfl, rfl, rfl, by simp, fun j hj hne => setRow_other _ _ _ _ (fun e => hne (by rw [e]))⟩ (fun j o hj ho => ?_), ⟨rfl, pre, x, rfl, HNE.out, HX.out, setRow_heap _ _ _ _ _ _ HT.out⟩, ?_⟩
      · cases hj; rw [HT.out] at ho; cases ho; rfl
      · exact (Only.trans' (Only.of_below ((HB.out.mono (Nat.le_refl _))) (fun _ => False)) (Only.setRow W (w.heap.size + 1) _ (S := fun y => y = w.heap.size + 1) rfl) (fun y hy e => by omega)).below (fun _ _ => id)
    · have hq : ((d.pend[x.val].1 : Int) == (k : Int)) = false := by simp; omega
      have HX := Lib.hid hx
      clear hx
      gi_wp2
      refine ⟨KeepsOthers.refl _, ⟨Below.refl _ _, fun v hv => hv⟩, ⟨fun y hy => ?_, HBX.out, HT.out⟩, HB.out⟩
      rcases List.mem_append.1 hy with h | h
      · exact HNE.out y h
      · simp only [List.mem_singleton] at h; subst h; exact HX.out
  case done =>
    rintro D ys W hD rfl ⟨⟨hne, hbx, hT⟩, hB⟩ hK
    have hth := there_none d k hne
    rw [hkept] at hth
    have HTH := Lib.hid hth
    have HT := Lib.hid hT
    clear hth hne hbx hT
    go_wp2_with ((with_reducible refine wpList_bytes_string (src := 30) (dT := 9) 5 (w.heap.size + 1) 0 64 64 d.kept[k] ?_ ?_ ?_ ?_ ?_ ?_ ?_); (· exact Try.underlying30); (· exact Try.underlying5); (· exact Try.underlying9); (· exact hrl); (· exact has_of_block' (l := bvs d.kept[k]) HT.out (by simp)); (· rfl))
    rw [Exit.noGoto_ret]
    refine ⟨by simp, .inl ⟨D, _, rfl, run_takeDeferred hK, ?_⟩⟩
    refine ⟨.tuple #[.string ⟨(d.kept[k]).toArray⟩, .int .i64 0], by simp [results, Try.f41, go_sem], by rw [HTH.out], hB.trans (belowK_b (w := w) (Nat.le_refl _) W D _ _ (by simp at hD; omega) hK rfl rfl)⟩
  case stop =>
    rintro D c pre W hD hpre ⟨⟨rfl, pre', x, rfl, hne, hx, hT⟩, hB⟩ hK
    have hth := there_some d k pre' x hpre hne hx
    have hpl := (hd.ok.plen _ (List.getElem_mem x.isLt)).1
    have HTH := Lib.hid hth
    have HT := Lib.hid hT
    clear hth hne hx hT hpre
    refine wpIn_wide.2 ?_
    go_wp2_with ((with_reducible refine wpList_bytes_string (src := 30) (dT := 9) 5 (w.heap.size + 1) 0 64 64 d.pend[x.val].2 ?_ ?_ ?_ ?_ ?_ ?_ ?_); (· exact Try.underlying30); (· exact Try.underlying5); (· exact Try.underlying9); (· exact hpl); (· exact has_of_block' (l := bvs d.pend[x.val].2) HT.out (by simp)); (· rfl))
    rw [Exit.noGoto_ret]
    refine ⟨by simp, .inl ⟨D, _, rfl, run_takeDeferred hK, ?_⟩⟩
    refine ⟨.tuple #[.string ⟨(d.pend[x.val].2).toArray⟩, .int .i64 0], by simp [results, Try.f41, go_sem], by rw [HTH.out], hB.trans (belowK_b (w := w) (Nat.le_refl _) W D _ _ (by simp at hD; omega) hK rfl rfl)⟩
end Go.Proofs.Ytlgefjcfnnjkbaa
