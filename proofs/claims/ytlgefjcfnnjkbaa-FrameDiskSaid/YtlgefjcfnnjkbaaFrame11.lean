/- frame.Cut, where it cuts. No conditions. -/
import Derived.Test.YtlgefjcfnnjkbaaFrame10
namespace Go.Proofs.Ytlgefjcfnnjkbaa
open Go.RowKit

theorem Try.info23 : (Try.prog.info? 23).map (fun i => (i.zero, i.size, i.bytes)) = some (some (.agg #[.int .i64 0, .int .i64 0, .int .i64 0, .string ⟨#[]⟩]), 4, 40) := by kernel_rfl

theorem Try.size9 : (Try.prog.info? 9).map (·.size) = some 1 := by kernel_rfl

theorem frs_zero (n : Nat) : madeCells (Value.agg #[.int .i64 0, .int .i64 0, .int .i64 0, .string ⟨#[]⟩]).cells (n * 4) = (frs (List.replicate n Fr.zero)).toArray := by
  apply Array.ext
  · simp [madeCells, frs_length]
  · intro j h1 h2
    have hj : j / 4 < (List.replicate n Fr.zero).length := by simp [madeCells] at h1 ⊢; omega
    have hm : j % 4 < 4 := Nat.mod_lt _ (by decide)
    have hc : Fr.zero.cells[j % 4]? = some (Fr.zero.cells[j % 4]'hm) := List.getElem?_eq_getElem hm
    have := frs_at (List.replicate n Fr.zero) (j / 4) hj (j % 4) (Fr.zero.cells[j % 4]'hm) (by rw [List.getElem_replicate]; exact hc)
    rw [show j / 4 * 4 + j % 4 = j by omega] at this
    have e := List.getElem?_eq_some_iff.1 this
    obtain ⟨e1, e2⟩ := e
    simp only [List.getElem_toArray]
    rw [e2]
    have e4 : ∀ i, i < 4 → ∀ (h : i < Fr.zero.cells.length), (#[Value.int .i64 0, .int .i64 0, .int .i64 0, .string ⟨#[]⟩] : Array Value)[i]! = Fr.zero.cells[i] := by
      intro i hi _
      match i, hi with
      | 0, _ => rfl
      | 1, _ => rfl
      | 2, _ => rfl
      | 3, _ => rfl
    simpa [madeCells, Value.cells] using e4 (j % 4) hm hm

/-- the frame before its text is laid -/
def bareFr (e a : Int) (k : Nat) : Fr := { e := e, a := a + k, k := 2, s := [] }
theorem mid_text (e a : Int) (s : List UInt8) (n k : Nat) (h : k < n) (hl : k < (midL e a s n k).length) (hn : k + 1 < n) :
    ∀ (h' : k < ((midL e a s n k).set k (bareFr e a k)).length), ((midL e a s n k).set k (bareFr e a k)).set k { ((midL e a s n k).set k (bareFr e a k))[k] with s := (s.drop (k * 53)).take 53 } = midL e a s n (k + 1) := by
  intro h'
  rw [List.getElem_set_self, List.set_set, ← midL_succ e a s n k h]
  congr 1
  simp [midFr, bareFr, hn]
theorem mid_bare (e a : Int) (s : List UInt8) (n k : Nat) (h : k < n) (hn : ¬ k + 1 < n) : (midL e a s n k).set k (bareFr e a k) = midL e a s n (k + 1) := by
  rw [← midL_succ e a s n k h]
  congr 1
  simp [midFr, bareFr, hn]

set_option maxRecDepth 100000 in
set_option maxHeartbeats 2000000 in
theorem cut_ok (w : World) (e a : Int) (s : List UInt8) (hs : s.length ≤ maxLen) (c1 : 1 ≤ e) (c2 : e ≤ 16777215) (c3 : 0 ≤ a) (c4 : a ≤ 64 - (need s.length : Int)) :
    Calls Try.prog 27 #[.int .i64 e, .int .i64 a, .string ⟨s.toArray⟩] w fun x w' => ∃ g, x = .returned (.tuple #[.slice (some ⟨g, 0, none⟩) (need s.length) (need s.length), .int .i64 0]) ∧
      w'.heap[g]? = some (.cells (frs (cutF e a s)).toArray 23 (0, 0)) ∧ w.heap.size ≤ g ∧ Only (fun _ => False) w w' := by
  have hz := size_toArray s
  unfold maxLen at hs
  have N := Lib.hid (need_any w s.length (by omega))
  have hni : needI s.length = (need s.length : Nat) := by simp [needI]; omega
  rw [hni] at N
  have hb := need_le s.length
  have hp := need_pos s.length
  have LAST := Lib.hid (midL_last e a s hp)
  obtain ⟨hb1, hb2⟩ := hb
  obtain ⟨n, hn⟩ : ∃ n, n = need s.length := ⟨_, rfl⟩
  rw [← hn] at N hb1 hb2 hp c4 LAST ⊢
  have HN := Lib.hid hn
  clear hn hni
  have hn64 : n ≤ 64 := by omega
  have E := Lib.hid ((frs_zero n).trans (congrArg (fun l => (frs l).toArray) (midL_zero e a s n).symm))
  go_enter Try.func27, Try.ntmps27
  go_wp2_with (first | (go_at_call 25; refine N.out.mono ?_; rintro e w1 ⟨rfl, rfl⟩) | (at_make; refine wpList_make_any (n := n) rfl _ _ 35 rfl 23 (.agg #[.int .i64 0, .int .i64 0, .int .i64 0, .string ⟨#[]⟩]) 4 40 Try.underlying35 Try.info23 rfl rfl (by omega) (by unfold maxLen; omega) ?_; rw [E.out]))
  have HM := Lib.hid (heap_alloc_new w (.cells (frs (midL e a s n 0)).toArray 23))
  clear E
  go_loopw [2, 34] (fun x i wr => ∃ k : Nat, k ≤ n ∧ i = .int .i64 k ∧ x = .string ⟨(s.drop (min k (n - 1) * 53)).toArray⟩ ∧ Hid (wr.heap[w.heap.size]? = some (.cells (frs (midL e a s n k)).toArray 23 (0, 0))) ∧ Only (fun _ => False) w wr) (fun x i _ => n - (intOf i).toNat)
  case atStart => exact ⟨0, by omega, rfl, by simp, HM, Only.alloc _ _ _⟩
  case round =>
    obtain ⟨k, hk, rfl, rfl, hrow, hor⟩ := hrel
    by_cases hlt : k < n
    · rw [show min k (n - 1) = k by omega]
      have hml := midL_length e a s n k hk
      have HL := Lib.hid (laid_frs (midL e a s n k) k (bareFr e a k) (by omega))
      have hfl : (frs (midL e a s n k)).length = n * 4 := by rw [frs_length, hml]
      have hrow2 := setRow_heap wr w.heap.size _ (frs ((midL e a s n k).set k (bareFr e a k))).toArray _ _ hrow.out
      have hor2 := hor.trans' (Only.setRow wr w.heap.size (frs ((midL e a s n k).set k (bareFr e a k))).toArray (S := fun x => x = w.heap.size) rfl) (fun y hy e => by omega)
      have HR2 := Lib.hid hrow2
      have HO2 := Lib.hid hor2
      clear hrow2 hor2
      by_cases hk1 : k + 1 < n
      · have hq : (k : Int) < (n : Int) - 1 := by omega
        go_upto_region 10 with ((with_reducible refine wpList_store_part w.heap.size (k * 4) 23 (bareFr e a k).cells (frs (midL e a s n k)) ?_ ?_ ?_ ?_ ?_ ?_ ?_); (· exact Try.size23); (· exact hrow.out); (· rw [hfl]; show k * 4 + 4 ≤ n * 4; omega); (· simp [Fr.cells, Value.oneCell']); (· rfl); (· rfl); rw [HL.out])
        have hrow2 := HR2.out
        have hor2 := HO2.out
        generalize wr.setRow w.heap.size (frs ((midL e a s n k).set k (bareFr e a k))).toArray = wm at hrow2 hor2 ⊢
        have hbl : k < ((midL e a s n k).set k (bareFr e a k)).length := by rw [List.length_set]; omega
        have ST := Lib.hid (set_text _ k ((s.drop (k * 53)).take 53) hbl)
        have MT := Lib.hid (mid_text e a s n k hlt (by omega) hk1 hbl)
        have hdl : (s.drop (k * 53)).length = s.length - k * 53 := List.length_drop
        have hx1 := extract_list (s.drop (k * 53)) 0 53
        have hx2 := extract_list (s.drop (k * 53)) 53 (s.drop (k * 53)).length
        have hdz := size_toArray (s.drop (k * 53))
        rw [List.take_of_length_le (Nat.le_refl _), List.drop_drop, show k * 53 + 53 = (k + 1) * 53 by omega] at hx2
        rw [List.drop_zero] at hx1
        have hge : (53 : Int) ≤ ((s.drop (k * 53)).length : Int) := by
          have : (k + 1) * 53 ≤ (n - 1) * 53 := Nat.mul_le_mul_right _ (by omega)
          omega
        clear hdl
        have hrc := cell_at hrow2 (k * 4 + 3)
        have hfr := free_at hrow2 (k * 4 + 3)
        obtain ⟨old, hold⟩ : ∃ v, (frs ((midL e a s n k).set k (bareFr e a k))).toArray[k * 4 + 3]? = some v := by
          refine ⟨_, Array.getElem?_eq_getElem ?_⟩
          simp [frs_length, hml]; omega
        rw [hold] at hrc
        have HSET := Lib.hid (heap_setCell_same wm w.heap.size (k * 4 + 3) _ _ (.string ⟨((s.drop (k * 53)).take 53).toArray⟩) hrow2)
        clear hold hrow2
        obtain ⟨cur, hcur⟩ : ∃ c, c = s.drop (k * 53) := ⟨_, rfl⟩
        obtain ⟨nxt, hnxt⟩ : ∃ c, c = s.drop ((k + 1) * 53) := ⟨_, rfl⟩
        rw [← hcur] at hx1 hx2 hdz hge ST MT HSET ⊢
        rw [← hnxt] at hx2
        have HNXT := Lib.hid hnxt
        clear hnxt hcur
        have hwm : w.heap.size < wm.heap.size := World.block_lt_of_cell? _ _ hrc
        refine wp_region_pick (fun W => W = wm.drew) [(0, 0), (1, 0), (2, 0), (3, 0), (4, 0), (5, 0), (6, 0), (7, 0), (8, 3), (9, 0)] (by kernel_rfl) (by kernel_rfl) (fun _ _ d _ _ h => by cases d <;> exact h) rfl ?_
        simp only [pickOps, List.getElem?_cons_zero, List.getElem?_cons_succ]
        iterate 8 (refine wpL_pure (a' := ?_) ?_ rfl (fun W => ?_) ?_ ?_; rotate_left 2; (· go_simp; first | (go_bits; with_reducible rfl) | with_reducible rfl); (· simp only [put_some, List.setIfInBounds_toArray, List.set_cons_zero, List.set_cons_succ]; rfl))
        have STORE := run_store_one (P := Try.prog) wm.drew ⟨w.heap.size, k * 4 + 3, none⟩ (.string ⟨(cur.take 53).toArray⟩) old 9 rfl rfl Try.size9 hrc hfr
        refine wpL_lastDone (a' := ?_) (w' := wm.drew.setCell ⟨w.heap.size, k * 4 + 3, none⟩ (.string ⟨(cur.take 53).toArray⟩)) rfl (exec_store rfl rfl rfl STORE) ?_ ?_
        rotate_left
        · simp only [put_none]; rfl
        (refine wpL_pure (a' := ?_) ?_ rfl (fun W => ?_) ?_ ?_; rotate_left 2; (· go_simp; first | (go_bits; with_reducible rfl) | with_reducible rfl); (· simp only [put_some, List.setIfInBounds_toArray, List.set_cons_zero, List.set_cons_succ]; rfl))
        refine wpL_nil ?_
        clear STORE hrc hfr hx1 hx2 hdz hge
        have hrow3 : (wm.drew.setCell ⟨w.heap.size, k * 4 + 3, none⟩ (.string ⟨(cur.take 53).toArray⟩)).heap[w.heap.size]? = _ := HSET.out
        rw [ST.out, MT.out] at hrow3
        have hor3 := (hor2.trans (Only.drew _ _)).trans' (Only.one wm.drew w.heap.size (k * 4 + 3) (.string ⟨(cur.take 53).toArray⟩)) (fun y hy e => by omega)
        generalize wm.drew.setCell ⟨w.heap.size, k * 4 + 3, none⟩ (.string ⟨(cur.take 53).toArray⟩) = wn at hrow3 hor3 ⊢
        have HR3 := Lib.hid hrow3
        clear hrow3 hor2 HSET
        go_wp2_with fail
        go_roundw
        case rel =>
          refine ⟨k + 1, by omega, by go_num, ?_, HR3, hor3⟩
          rw [HNXT.out, show min (k + 1) (n - 1) = k + 1 by omega]
        case measure => simp [intOf]; omega
      · have hq : (n : Int) - 1 ≤ (k : Int) := by omega
        have HB := Lib.hid (mid_bare e a s n k hlt hk1)
        go_wp2_with ((with_reducible refine wpList_store_part w.heap.size (k * 4) 23 (bareFr e a k).cells (frs (midL e a s n k)) ?_ ?_ ?_ ?_ ?_ ?_ ?_); (· exact Try.size23); (· exact hrow.out); (· rw [hfl]; show k * 4 + 4 ≤ n * 4; omega); (· simp [Fr.cells, Value.oneCell']); (· rfl); (· rfl); rw [HL.out])
        go_roundw
        case rel =>
          refine ⟨k + 1, by omega, by go_num, ?_, ?_, HO2.out⟩
          · rw [show min (k + 1) (n - 1) = k by omega]
          · have e1 := HR2.out
            rw [HB.out] at e1
            exact Lib.hid (by rw [HB.out]; exact e1)
        case measure => simp [intOf]; omega
    · obtain rfl : k = n := by omega
      rw [show min k (k - 1) = k - 1 by omega]
      have hml := midL_length e a s k k (Nat.le_refl _)
      have hrow0 := hrow.out
      obtain ⟨m, hm⟩ : ∃ m, k = m + 1 := ⟨k - 1, by omega⟩
      have hki : (k : Int) - 1 = (m : Int) := by omega
      rw [show k - 1 = m by omega] at LAST hb1 ⊢
      have hrc := cell_at hrow0 (m * 4 + 2)
      have hrc3 := cell_at hrow0 (m * 4 + 3)
      have hfr := free_at hrow0 (m * 4 + 2)
      have hfr3 := free_at hrow0 (m * 4 + 3)
      obtain ⟨o2, ho2⟩ : ∃ v, (frs (midL e a s k k)).toArray[m * 4 + 2]? = some v := ⟨_, Array.getElem?_eq_getElem (by simp [frs_length, hml]; omega)⟩
      obtain ⟨o3, ho3⟩ : ∃ v, (frs (midL e a s k k)).toArray[m * 4 + 3]? = some v := ⟨_, Array.getElem?_eq_getElem (by simp [frs_length, hml]; omega)⟩
      rw [ho2] at hrc
      rw [ho3] at hrc3
      clear ho2 ho3
      have S1 := heap_setCell_same wr w.heap.size (m * 4 + 2) _ _ (.int .i64 3) hrow0
      rw [set_kind (midL e a s k k) m 3 (by omega)] at S1
      have S2 := heap_setCell_same _ w.heap.size (m * 4 + 3) _ _ (.string ⟨(s.drop (m * 53)).toArray⟩) S1
      rw [set_text _ m (s.drop (m * 53)) (by rw [List.length_set]; omega), List.getElem_set_self, List.set_set] at S2
      have hget : (midL e a s k k)[m]'(by omega) = midFr e a s k m := by
        simp only [midL, Nat.sub_self, List.replicate_zero, List.append_nil]
        simp
      rw [hget] at S2
      have SF : Hid (((wr.setCell ⟨w.heap.size, m * 4 + 2, none⟩ (.int .i64 3)).setCell ⟨w.heap.size, m * 4 + 3, none⟩ (.string ⟨(s.drop (m * 53)).toArray⟩)).heap[w.heap.size]? = some (.cells (frs (cutF e a s)).toArray 23 (0, 0))) := Lib.hid (by rw [← LAST.out]; exact S2)
      clear S1 S2 hrow0 hget
      have hwr : w.heap.size < wr.heap.size := World.block_lt_of_cell? _ _ hrc
      clear hm
      go_wp2_with fail
      go_ret2
      exact ⟨w.heap.size, rfl, SF.out, Nat.le_refl _, (hor.trans' (Only.one wr w.heap.size (m * 4 + 2) (.int .i64 3)) (fun y hy e => by omega)).trans' (Only.one _ w.heap.size (m * 4 + 3) _) (fun y hy e => by omega)⟩
end Go.Proofs.Ytlgefjcfnnjkbaa
