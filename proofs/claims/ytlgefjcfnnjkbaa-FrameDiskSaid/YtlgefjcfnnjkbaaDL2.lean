/- The helpers of the disk statements: Keep. No conditions. -/
import Derived.Test.YtlgefjcfnnjkbaaDL
namespace Go.Proofs.Ytlgefjcfnnjkbaa
open Go.RowKit

def natCells (l : List Nat) : List Value := l.map fun (n : Nat) => Value.int .i64 (n : Int)
theorem natCells_append (a b : List Nat) : natCells (a ++ b) = natCells a ++ natCells b := by simp [natCells]
theorem Try.info3 : (Try.prog.info? 3).map (fun i => (i.zero, i.size, i.bytes)) = some (some (.int .i64 0), 1, 8) := by kernel_rfl

/-- which are kept -/
def keepStep (n : Nat) (out : List Nat) (x : Int) : List Nat := if (pickI x n).toNat ∈ out then out else out ++ [(pickI x n).toNat]
def keepTo (l : List Int) (n i : Nat) : List Nat := (l.take i).foldl (keepStep n) []
def keepL (l : List Int) (n : Nat) : List Nat := if n = 0 then [] else keepTo l n (min 20 l.length)
theorem keepTo_succ (l : List Int) (n i : Nat) (h : i < l.length) : keepTo l n (i + 1) = keepStep n (keepTo l n i) l[i] := by
  unfold keepTo
  rw [List.take_succ_eq_append_getElem h, List.foldl_append]
  rfl
theorem keepStep_ok {n : Nat} (hn : 0 < n) {out : List Nat} (x : Int) (h : (∀ k ∈ out, k < n) ∧ out.Nodup) : (∀ k ∈ keepStep n out x, k < n) ∧ (keepStep n out x).Nodup := by
  have hp := pickI_lt x n (by omega)
  unfold keepStep
  split
  · exact h
  · rename_i hm
    refine ⟨fun k hk => ?_, ?_⟩
    · rcases List.mem_append.1 hk with hk | hk
      · exact h.1 k hk
      · simp only [List.mem_singleton] at hk; omega
    · rw [List.nodup_append]
      refine ⟨h.2, by simp, fun a ha b hb e => ?_⟩
      simp only [List.mem_singleton] at hb
      exact hm (hb ▸ e ▸ ha)
theorem keepTo_ok (l : List Int) {n : Nat} (hn : 0 < n) : ∀ i, i ≤ l.length → (∀ k ∈ keepTo l n i, k < n) ∧ (keepTo l n i).Nodup
  | 0, _ => ⟨fun k hk => by simp [keepTo] at hk, by simp [keepTo]⟩
  | i + 1, h => by rw [keepTo_succ l n i (by omega)]; exact keepStep_ok hn _ (keepTo_ok l hn i (by omega))
theorem keepTo_length (l : List Int) (n : Nat) : ∀ i, i ≤ l.length → (keepTo l n i).length ≤ i
  | 0, _ => by simp [keepTo]
  | i + 1, h => by
    rw [keepTo_succ l n i (by omega)]
    have := keepTo_length l n i (by omega)
    unfold keepStep
    split
    · omega
    · simp; omega
theorem keepL_ok (l : List Int) (n : Nat) : (∀ k ∈ keepL l n, k < n) ∧ (keepL l n).Nodup := by
  unfold keepL
  split
  · exact ⟨fun k hk => by simp at hk, by simp⟩
  · exact keepTo_ok l (by omega) _ (by omega)
theorem keepL_length (l : List Int) (n : Nat) : (keepL l n).length ≤ 20 := by
  unfold keepL
  split
  · simp
  · exact Nat.le_trans (keepTo_length l n _ (by omega)) (by omega)

def usedCells (n : Nat) (out : List Nat) : List Value := (List.range n).map fun j => .bool (decide (j ∈ out))
theorem usedCells_length (n : Nat) (out : List Nat) : (usedCells n out).length = n := by simp [usedCells]
theorem usedCells_get (n : Nat) (out : List Nat) (k : Nat) (h : k < n) : (usedCells n out).toArray[k]? = some (.bool (decide (k ∈ out))) := by simp [usedCells, h]
theorem usedCells_set (n : Nat) (out : List Nat) (k : Nat) : (usedCells n out).toArray.setIfInBounds k (.bool true) = (usedCells n (out ++ [k])).toArray := by
  apply Array.ext'
  rw [Array.toList_setIfInBounds]
  apply List.ext_getElem
  · simp [usedCells]
  · intro j h1 h2
    simp only [usedCells, List.getElem_set, List.getElem_map, List.getElem_range, List.mem_append, List.mem_singleton]
    split
    · rename_i e; simp [e]
    · rename_i e; have : ¬ j = k := fun h => e h.symm
      simp [this]
theorem usedCells_new (n : Nat) : madeCells (Value.bool false).cells (n * 1) = (usedCells n []).toArray := by
  rw [madeCells_same (Value.bool false).cells (.bool false) 1 (n * 1) rfl (by decide), Nat.mul_one]
  congr 1
  apply List.ext_getElem
  · simp [usedCells]
  · intro j h1 h2; simp [usedCells]

set_option maxRecDepth 100000 in
set_option maxHeartbeats 4000000 in
theorem keep_any (w : World) (v : Value) (l : List Int) (ao : Option Addr) (cap n : Nat) (hv : SliceOf w v l.length (l.map (Value.int .i64)) ao cap) (hl : ∀ x ∈ l, I64 x) (hn : n ≤ 100000) :
    Calls Try.prog 39 #[v, .int .i64 (n : Int)] w fun e w' => ∃ r, e = .returned r ∧ w'.ownsRow (w.heap.size + 1) 3 1 r (keepL l n).length (natCells (keepL l n)) ∧ Only (fun _ => False) w w' := by
  have hvv := hv.val
  subst hvv
  have hll := hv.len
  have E := Lib.hid (usedCells_new n)
  go_enter Try.func39, Try.ntmps39
  go_wp2_with (at_make; refine wpList_make_any (n := n) rfl _ _ 78 rfl 4 (.bool false) 1 1 Try.underlying78 Try.info4 rfl rfl (by omega) (by unfold maxLen; omega) ?_; rw [E.out])
  have HM := Lib.hid (heap_alloc_new w (.cells (usedCells n []).toArray 4))
  have HO := Lib.hid (Only.alloc w (.cells (usedCells n []).toArray 4) (fun _ => False))
  clear E
  go_loopw [5, 7] (fun o i wr => ∃ k : Nat, k ≤ 20 ∧ k ≤ l.length ∧ (n = 0 → k = 0) ∧ i = .int .i64 k ∧ Hid (wr.heap[w.heap.size]? = some (.cells (usedCells n (keepTo l n k)).toArray 4 (0, 0))) ∧
      wr.ownsRow (w.heap.size + 1) 3 1 o (keepTo l n k).length (natCells (keepTo l n k)) ∧ Only (fun _ => False) w wr) (fun o i _ => 20 - (intOf i).toNat)
  case atStart => exact ⟨0, by omega, by omega, fun _ => rfl, rfl, HM, World.ownsRow_nil _ _ _ _, HO.out⟩
  case round =>
    obtain ⟨k, hk, hkl, hk0, rfl, hrow, hr, hor⟩ := hrel
    have HR := Lib.hid hr
    clear hr HM HO
    by_cases hgo : k < l.length ∧ k < 20 ∧ 0 < n
    · obtain ⟨h1, h2, h3⟩ := hgo
      obtain ⟨gl, ol, rfl, hc⟩ := (hv.only hor).cell k (.int .i64 l[k]) (by rw [List.getElem?_map, List.getElem?_eq_getElem h1]; rfl)
      have PK := Lib.hid (fun W => pick02_any W l[k] n (hl _ (List.getElem_mem h1)) (by omega) (by omega))
      have hp := pickI_lt l[k] n (by omega)
      have HSU := Lib.hid (keepTo_succ l n k h1)
      unfold keepStep at HSU
      have hlen := keepTo_length l n k hkl
      obtain ⟨q, hq⟩ : ∃ q : Nat, (q : Int) = pickI l[k] n := ⟨(pickI l[k] n).toNat, by omega⟩
      rw [← hq] at PK hp HSU
      rw [Int.toNat_natCast] at HSU
      clear hq
      generalize l[k] = x at hc PK
      obtain ⟨hp1, hp2⟩ := hp
      have hqn : q < n := by omega
      have hget := cell_at hrow.out q
      rw [usedCells_get n _ q hqn] at hget
      have hI1 : (k : Int) < (l.length : Int) := by omega
      have hI2 : (k : Int) < 20 := by omega
      have hI3 : (0 : Int) < (n : Int) := by omega
      by_cases hmem : q ∈ keepTo l n k
      · rw [if_pos hmem] at HSU
        rw [decide_eq_true hmem] at hget
        clear hmem
        go_wp2_with (go_at_call 42; refine (PK.out _).mono ?_; rintro e w1 ⟨rfl, rfl⟩)
        go_roundw
        case rel => exact ⟨k + 1, by omega, by omega, fun h => by omega, by go_num, by rw [HSU.out]; exact hrow, by rw [HSU.out]; exact HR.out, hor⟩
        case measure => simp [intOf] <;> omega
      · rw [if_neg hmem] at HSU
        rw [decide_eq_false hmem] at hget
        clear hmem
        have hfr := free_at hrow.out q
        have hset := heap_setCell_same wr w.heap.size q _ _ (.bool true) hrow.out
        rw [usedCells_set] at hset
        have ho1 := Only.one wr w.heap.size q (.bool true)
        have hr1 := ownsRow_only HR.out ho1 (fun b hb e => by have := (HR.out.lt b hb).1; omega)
        have hor1 := hor.trans' ho1 (fun y hy e => by omega)
        have hwr : w.heap.size < wr.heap.size := World.block_lt_of_cell? _ _ hget
        obtain ⟨v', w5, hrun5, hown5, ho5⟩ := append_one_row (P := Try.prog) (wr.setCell ⟨w.heap.size, q, none⟩ (.bool true)) (w.heap.size + 1) 49 49 3 _ 1 8 Try.underlying49 Try.info3 rfl (by decide) u5 _ _ hr1 [.int .i64 (q : Int)] rfl (by simp [Value.oneCell']) (by omega) (by decide) (by simp; omega)
        rw [World.size_setCell] at hrun5
        have HRUN := Lib.hid hrun5
        have HOWN := Lib.hid hown5
        have HSET : Hid (w5.heap[w.heap.size]? = some (.cells (usedCells n (keepTo l n k ++ [q])).toArray 4 (0, 0))) := Lib.hid (ho5.keep hset (fun e => by have := (hr1.lt _ e).1; omega))
        have HO5 := Lib.hid (hor1.trans' ho5 (fun y hy e => row_own_new hr1 (by omega) e))
        clear hset ho1 hr1 hor1 hrun5 hown5 ho5
        go_wp2_with (first
          | (go_at_call 42; refine (PK.out _).mono ?_; rintro e w1 ⟨rfl, rfl⟩)
          | ((with_reducible refine wpList_append_run u5 (.slice (some ⟨wr.heap.size, 0, none⟩) 1 1) v' HRUN.out ?_ ?_ ?_); (· rfl); (· rfl)))
        go_roundw
        case rel => exact ⟨k + 1, by omega, by omega, fun h => by omega, by go_num, by rw [HSU.out]; exact HSET, by rw [HSU.out, natCells_append, List.length_append]; exact HOWN.out, HO5.out⟩
        case measure => simp [intOf] <;> omega
    · have HK : Hid (keepL l n = keepTo l n k) := Lib.hid (by
        unfold keepL
        by_cases hn0 : n = 0
        · rw [if_pos hn0, hk0 hn0]; rfl
        · rw [if_neg hn0]
          congr 1
          omega)
      have hsp : (l.length : Int) ≤ (k : Int) ∨ ((k : Int) < (l.length : Int) ∧ (20 : Int) ≤ (k : Int)) ∨ ((k : Int) < (l.length : Int) ∧ (k : Int) < 20 ∧ (n : Int) ≤ 0) := by omega
      clear hgo hk0
      rcases hsp with h | ⟨h, h'⟩ | ⟨h, h', h''⟩
      all_goals
        go_wp2_with fail
        go_ret
        exact ⟨u5, rfl, by rw [HK.out]; exact HR.out, hor⟩
end Go.Proofs.Ytlgefjcfnnjkbaa
