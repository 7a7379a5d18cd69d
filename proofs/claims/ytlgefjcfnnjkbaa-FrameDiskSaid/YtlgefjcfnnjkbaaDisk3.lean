/- The functions of package disk: Rot, New, Write, Crash. No conditions. -/
import Derived.Test.YtlgefjcfnnjkbaaDisk2
namespace Go.Proofs.Ytlgefjcfnnjkbaa
open Go.RowKit

theorem rot_nopower (mask : Nat) (hm : mask ≤ 255) (x : UInt8) : bits BinOp.xor IntKind.u8 (x.toNat : Int) (mask : Int) = ((x ^^^ UInt8.ofNat mask).toNat : Int) := by
  rw [u8_xor_nat x.toNat mask x.toNat_lt (by omega)]
  congr 1
  rw [UInt8.toNat_xor, UInt8.toNat_ofNat']
  rw [Nat.mod_eq_of_lt (by omega)]

/-- the byte's cell -/
theorem DAt.byte_at {w : World} {p kb : Nat} {pv : Value} {d : D} (h : DAt w p kb pv d) (k place : Nat) (hk : k < d.kept.length) (hp : place < 64) :
    w.cell? ⟨kb, k * 64 + place, none⟩ = some (bv ((d.kept.getD k []).getD place 0)) := by
  have hr := h.row_at k hk
  have hl := h.ok.len _ (List.getElem_mem hk)
  refine hr place _ ?_
  simp [bvs, hk, hl, hp]

theorem rows_set_byte (l : List (List UInt8)) (k place : Nat) (b : UInt8) (hk : k < l.length) (h : ∀ x ∈ l, x.length = 64) (hp : place < 64) :
    ((rowsOf l).toArray.setIfInBounds (k * 64 + place) (bv b)) = (rowsOf (l.set k ((l.getD k []).set place b))).toArray := by
  have hlk : l[k].length = 64 := h _ (List.getElem_mem hk)
  have e := laid_rows l k (l[k].set place b) hk h (by rw [List.length_set]; exact hlk)
  have hg : l.getD k [] = l[k] := by simp [hk]
  rw [hg, ← e]
  obtain ⟨e1, e2⟩ := rows_split l k hk h
  apply Array.ext'
  simp only [Array.toList_setIfInBounds, laid]
  rw [e1]
  rw [List.take_left' e2, length_bvs, List.length_set, hlk]
  rw [List.set_append_right _ _ (by omega), e2, Nat.add_sub_cancel_left]
  rw [List.set_append_left _ _ (by rw [length_bvs, hlk]; exact hp)]
  congr 1
  congr 1
  · simp [bvs, List.map_set]
  · rw [← List.append_assoc, List.drop_left' (by rw [List.length_append, e2, length_bvs, hlk])]

set_option maxRecDepth 100000 in
set_option maxHeartbeats 2000000 in
theorem rot_any (w : World) (p kb : Nat) (pv : Value) (d : D) (k place mask : Nat) (hd : DAt w p kb pv d) (hk : k < d.kept.length) (hpl : place < 64) (hma : mask ≤ 255) :
    Calls Try.prog 47 #[.pointer (some ⟨p, 0, none⟩), .int .i64 (k : Int), .int .i64 (place : Int), .int .i64 (mask : Int)] w fun e w' => e = .returned (.int .i64 0) ∧ DAt w' p kb pv (d.rot k place mask) ∧ Only (fun x => x = kb) w w' ∧ w'.heap.size = w.heap.size := by
  have c0 := hd.c0
  have hm := hd.ok.many
  have hk' : (k : Int) < d.kept.length := by omega
  have hd0 : decide ((0 : Int) ≤ (k : Int) ∧ (k : Int) < d.kept.length) = true := by simp; omega
  have hb := hd.byte_at k place hk hpl
  have hfr := free_at hd.rows (k * 64 + place)
  obtain ⟨x, hx⟩ : ∃ x, x = (d.kept.getD k []).getD place 0 := ⟨_, rfl⟩
  rw [← hx] at hb
  unfold bv at hb
  have hxor := rot_nopower mask hma x
  have hxlt := x.toNat_lt
  have HX := Lib.hid hx
  clear hx
  go_enter Try.func47, Try.ntmps47
  go_wp2_with (go_at_call 58; refine (has_any w p kb _ d _ hd).mono ?_; rintro e w1 ⟨rfl, rfl⟩)
  refine wp_region_pick (fun W => W = w.drew) [(0, 0), (1, 0), (2, 0), (3, 1), (4, 0), (5, 0), (6, 0), (7, 0), (8, 1), (9, 0), (10, 0), (11, 0), (12, 0), (13, 0), (14, 3)] (by kernel_rfl) (by kernel_rfl) (fun _ _ d _ _ h => by cases d <;> exact h) rfl ?_
  simp only [pickOps, List.getElem?_cons_zero, List.getElem?_cons_succ]
  iterate 14 (first | (refine wpL_pure (a' := ?_) ?_ rfl (fun W => ?_) ?_ ?_; rotate_left 2; (· go_simp; first | (go_bits; with_reducible rfl) | with_reducible rfl); (· simp only [put_some, List.setIfInBounds_toArray, List.set_cons_zero, List.set_cons_succ]; rfl)) | (refine wpL_held (a' := ?_) ?_ rfl (fun W hW => ?_) ?_ ?_; rotate_left 2; (· subst hW; go_simp; with_reducible rfl); (· simp only [put_some, List.setIfInBounds_toArray, List.set_cons_zero, List.set_cons_succ]; rfl)))
  refine wpL_last rfl (fun K hK => ?_)
  go_simp
  refine hK _ _ (wpL_nil ?_)
  go_wp2
  go_ret
  have e := rows_set_byte d.kept k place (x ^^^ UInt8.ofNat mask) hk hd.ok.len hpl
  refine ⟨rfl, ?_, ?_, ?_⟩
  · refine DAt.drew ⟨?_, ?_, ?_, hd.ok.rot k place mask hk⟩
    · rw [Below.heap_setCell _ _ _ _ (Ne.symm hd.kb_ne)]
      simpa [headOf, D.rot] using hd.head
    · have h1 := heap_setCell_same w kb (k * 64 + place) _ _ (bv (x ^^^ UInt8.ofNat mask)) hd.rows
      rw [e] at h1
      simp only [D.rot, ← HX.out]
      exact h1
    · exact ownsRow_setCell_other hd.pend hd.pv_ne.2 _
  · exact (Only.one _ _ _ _).trans (Only.drew _ _)
  · simp

theorem Try.info92 : (Try.prog.info? 92).map (fun i => (i.zero, i.size, i.bytes)) = some (some (.agg (Array.replicate 64 (.int .u8 0))), 64, 64) := by kernel_rfl

theorem rows_new (n : Nat) : (List.replicate (n * 64) (Value.int .u8 0)) = rowsOf (List.replicate n noughts) := by
  induction n with
  | zero => rfl
  | succ n ih =>
    have e : rowsOf (List.replicate (n + 1) noughts) = bvs noughts ++ rowsOf (List.replicate n noughts) := by simp [rowsOf, List.replicate_succ, bvs_append]
    rw [e, ← ih, Nat.succ_mul, Nat.add_comm, ← List.replicate_append_replicate]
    rfl

set_option maxHeartbeats 1000000 in
theorem new_bad (w : World) (n : Int) (h : n < 1 ∨ 768 < n) :
    Calls Try.prog 50 #[.int .i64 n] w fun e w' => e = .returned (.tuple #[.pointer none, .int .i64 2]) ∧ w = w' := by
  rcases h with h | h
  · go_enter Try.func50, Try.ntmps50
    go_wp2
    go_ret2
    exact ⟨rfl, rfl⟩
  · have h' : 1 ≤ n := by omega
    go_enter Try.func50, Try.ntmps50
    go_wp2
    go_ret2
    exact ⟨rfl, rfl⟩

set_option maxRecDepth 100000 in
set_option maxHeartbeats 1000000 in
theorem new_any (w : World) (n : Nat) (h1 : 1 ≤ n) (h2 : n ≤ 768) :
    Calls Try.prog 50 #[.int .i64 (n : Int)] w fun e w' => ∃ p kb, e = .returned (.tuple #[.pointer (some ⟨p, 0, none⟩), .int .i64 0]) ∧ DAt w' p kb (.slice none 0 0) (D.new n) ∧ w.heap.size ≤ p ∧ w.heap.size ≤ kb ∧ Only (fun _ => False) w w' := by
  have h1' : (1 : Int) ≤ n := by omega
  have h2' : (n : Int) ≤ 768 := by omega
  go_enter Try.func50, Try.ntmps50
  have e := (madeCells_same (Value.agg (Array.replicate 64 (.int .u8 0))).cells (.int .u8 0) 64 (n * 64) rfl (by decide)).trans (congrArg List.toArray (rows_new n))
  have E := Lib.hid e
  clear e
  go_wp2_with (at_make; refine wpList_make_any (n := n) rfl _ _ 86 rfl 92 (.agg (Array.replicate 64 (.int .u8 0))) 64 64 Try.underlying86 Try.info92 rfl rfl (by omega) (by unfold maxLen; omega) ?_; rw [E.out])
  go_ret2
  refine ⟨w.heap.size + 1, w.heap.size, rfl, ⟨?_, ?_, ?_, D.new_ok n h2⟩, by omega, Nat.le_refl _, (Only.alloc _ _ _).trans (Only.alloc _ _ _)⟩
  · have h := heap_alloc2_new w (.cells (rowsOf (List.replicate n noughts)).toArray 92) (.cells (headOf w.heap.size (.slice none 0 0) (D.new n)) 89)
    simpa [headOf, D.new] using h
  · exact heap_alloc2_old _ _ _
  · exact World.ownsRow_nil _ _ _ _

/-! ### Write -/
theorem Try.size98 : (Try.prog.info? 98).map (·.size) = some 65 := by kernel_rfl
theorem Try.size87 : (Try.prog.info? 87).map (·.size) = some 1 := by kernel_rfl
theorem Try.size5d : (Try.prog.info? 5).map (·.size) = some 1 := by kernel_rfl
def zero65 : List Value := .int .i64 0 :: List.replicate 64 (.int .u8 0)
theorem Try.info98 : (Try.prog.info? 98).map (fun i => (i.zero, i.size, i.bytes)) = some (some (.agg zero65.toArray), 65, 72) := by kernel_rfl
def wcells (k : Nat) (s : List UInt8) : List Value := .int .i64 (k : Int) :: bvs s
theorem wcells_len (k : Nat) (s : List UInt8) : (wcells k s).length = s.length + 1 := by simp [wcells, bvs]
theorem wcells_one (k : Nat) (s : List UInt8) : ∀ v ∈ wcells k s, v.oneCell' = true := by
  intro v hv
  rcases List.mem_cons.1 hv with rfl | hv
  · rfl
  · exact bvs_one _ v hv
theorem Try.build98 (k : Nat) (w : World) : (Instr.build 98 #[(0, .int .i64 (k : Int))]).run Try.prog w = .ok (.agg (wcells k noughts).toArray) w := by kernel_rfl
theorem Try.alloc98 (w : World) : (Instr.alloc 98 true (.tuple #[])).run Try.prog w = .ok (.pointer (some ⟨w.heap.size, 0, none⟩)) (w.alloc (.cells zero65.toArray 98)) := by kernel_rfl

theorem laid_all (cur vs : List Value) (h : cur.length = vs.length) : laid cur 0 vs = vs := by simp [laid, ← h]
theorem laid_tail (k : Nat) (a b : List UInt8) (h : a.length = b.length) : laid (wcells k a) 1 (bvs b) = wcells k b := by
  simp [laid, wcells, bvs, h, Nat.add_comm]

set_option maxRecDepth 100000 in
set_option maxHeartbeats 2000000 in
theorem write_any (w : World) (p kb : Nat) (pv : Value) (d : D) (k : Nat) (s : ByteArray) (hd : DAt w p kb pv d) (hk : k < d.kept.length) (hs : s.size = 64) (hp : d.power = true) (hroom : d.pend.length < 1000000) :
    Calls Try.prog 46 #[.pointer (some ⟨p, 0, none⟩), .int .i64 (k : Int), .string s] w fun e w' => ∃ pv', e = .returned (.int .i64 0) ∧ DAt w' p kb pv' (d.write k s.data.toList) ∧ Only (fp p kb pv) w w' ∧ (∀ g, pv'.ownBlock = some g → pv.ownBlock = some g ∨ w.heap.size ≤ g) := by
  have hm := hd.ok.many
  have hd0 : decide ((0 : Int) ≤ (k : Int) ∧ (k : Int) < d.kept.length) = true := by simp; omega
  have hs' : (s.size : Int) = 64 := by omega
  have hsl : s.data.toList.length = 64 := by rw [Array.length_toList]; exact hs
  go_enter Try.func46, Try.ntmps46
  go_upto_region 7 with (first | (go_at_call 58; refine (has_any w p kb _ d _ hd).mono ?_; rintro e w1 ⟨rfl, rfl⟩) | (go_at_call 60; refine (power_any w p kb _ d hd).mono ?_; rintro e w1 ⟨rfl, hd1, ho1, hs1⟩; have HS1 := Lib.hid hs1; clear hs1))
  rw [D.paid_yes hp] at hd1
  apply wp_region_lit
  go_step
  go_step
  go_step
  refine wpList_run rfl (exec_build rfl (v := .int .i64 (k : Int)) rfl (Try.build98 k w1)) ?_
  refine wpList_run rfl (exec_alloc rfl (Try.alloc98 w1)) ?_
  refine wpList_store rfl rfl (p := .pointer (some ⟨w1.heap.size, 0, none⟩)) (v := .agg (wcells k noughts).toArray) rfl rfl (run_store_part _ w1.heap.size 0 65 98 98 zero65 (wcells k noughts) Try.size98 (by rw [wcells_len]; rfl) (heap_alloc_new _ _) (by rw [wcells_len]; decide) (wcells_one _ _)) ?_
  rw [laid_all _ _ (by rw [wcells_len]; rfl)]
  have hb2 : ((w1.alloc (.cells zero65.toArray 98)).setRow w1.heap.size (wcells k noughts).toArray).heap[w1.heap.size]? = some (.cells (wcells k noughts).toArray 98 (0, 0)) := setRow_heap _ _ _ _ _ _ (heap_alloc_new _ _)
  have ho2 : Only (fun _ => False) w1 ((w1.alloc (.cells zero65.toArray 98)).setRow w1.heap.size (wcells k noughts).toArray) := (Only.alloc _ _ _).trans' (Only.setRow _ _ _ (S := fun x => x = w1.heap.size) rfl) (fun x hx e => by omega)
  generalize (w1.alloc (.cells zero65.toArray 98)).setRow w1.heap.size (wcells k noughts).toArray = w2 at hb2 ho2 ⊢
  have HB2 := Lib.hid hb2
  clear hb2
  go_upto_region 9 with ((with_reducible refine wpList_copy_string 5 w1.heap.size 1 64 64 64 s 98 (wcells k noughts) ?_ ?_ ?_ ?_ ?_ ?_ ?_ ?_); (· exact Try.underlying30); (· exact Try.size5d); (· exact HB2.out); (· rw [hs]; rfl); (· rw [wcells_len]; decide); (· rfl); (· rfl); (rw [List.take_of_length_le (by omega), laid_tail k noughts _ (by rw [hsl]; rfl)]))
  simp only [put_some, List.setIfInBounds_toArray, List.set_cons_zero, List.set_cons_succ]
  have hb3 : (w2.setRow w1.heap.size (wcells k s.data.toList).toArray).heap[w1.heap.size]? = some (.cells (wcells k s.data.toList).toArray 98 (0, 0)) := setRow_heap _ _ _ _ _ _ HB2.out
  have ho3 : Only (fun _ => False) w1 (w2.setRow w1.heap.size (wcells k s.data.toList).toArray) := ho2.trans' (Only.setRow _ _ _ (S := fun x => x = w1.heap.size) rfl) (fun x hx e => by omega)
  generalize w2.setRow w1.heap.size (wcells k s.data.toList).toArray = w3 at hb3 ho3 ⊢
  have hd3 := hd1.only ho3 (fun _ _ => id)
  have h3c := hd3.c1
  have h3h : Has w3 w1.heap.size 0 (wcells k s.data.toList) := has_of_block' hb3 (by simp)
  refine wp_region_pick (fun W => W.cell? ⟨p, 1, none⟩ = some pv ∧ Has W w1.heap.size 0 (wcells k s.data.toList)) [(0, 0), (1, 0), (2, 0), (3, 0), (4, 1), (5, 1), (6, 2), (7, 3), (8, 0), (9, 0), (10, 3)] (by kernel_rfl) (by kernel_rfl) (fun _ _ d _ _ h => by cases d <;> exact h) ⟨h3c, h3h⟩ ?_
  simp only [pickOps, List.getElem?_cons_zero, List.getElem?_cons_succ]
  iterate 4 (refine wpL_pure (a' := ?_) ?_ rfl (fun W => ?_) ?_ ?_; rotate_left 2; (· go_simp; first | (go_bits; with_reducible rfl) | with_reducible rfl); (· simp only [put_some, List.setIfInBounds_toArray, List.set_cons_zero, List.set_cons_succ]; rfl))
  refine wpL_held (a' := ?_) pv rfl (fun W hW => exec_load (p := .pointer (some ⟨p, 1, none⟩)) rfl rfl (run_load_one W _ pv _ _ Try.underlying87 rfl hW.1)) ?_ ?_; rotate_left; (· simp only [put_some, List.setIfInBounds_toArray, List.set_cons_zero, List.set_cons_succ]; rfl)
  refine wpL_held (a' := ?_) (.agg (wcells k s.data.toList).toArray) rfl (fun W hW => exec_load (p := .pointer (some ⟨w1.heap.size, 0, none⟩)) rfl rfl (run_load_part W w1.heap.size 0 65 _ _ _ Try.underlying98 rfl Try.size98 (by rw [wcells_len, hsl]) hW.2)) ?_ ?_; rotate_left; (· simp only [put_some, List.setIfInBounds_toArray, List.set_cons_zero, List.set_cons_succ]; rfl)
  refine wpL_stepRun (a' := ?_) (.slice (some ⟨w3.heap.size, 0, none⟩) 1 1) rfl (exec_buildSlice_one rfl (v := .agg (wcells k s.data.toList).toArray) rfl (run_buildSlice_one w3.drew 87 98 _ _ (wcells k s.data.toList).toArray 65 72 rfl (by simp [wcells_len, hsl]) (by decide) (by decide) Try.underlying87 Try.info98)) ?_ ?_ ?_; rotate_left; (· exact ⟨by rw [World.cell?_alloc_lt _ _ _ (show p < w3.drew.heap.size from hd3.p_lt)]; exact h3c, h3h.only ((Only.drew _ (fun _ => False)).trans (Only.alloc _ _ _)) id⟩); (· simp only [put_some, List.setIfInBounds_toArray, List.set_cons_zero, List.set_cons_succ]; rfl)
  have hd4 : DAt (w3.drew.alloc (.cells (wcells k s.data.toList).toArray 98)) p kb pv d.spent := hd3.only ((Only.drew _ (fun _ => False)).trans (Only.alloc _ _ _)) (fun _ _ => id)
  have hnew : ∀ j u, (wcells k s.data.toList)[j]? = some u → (w3.drew.alloc (.cells (wcells k s.data.toList).toArray 98)).cell? ((⟨w3.heap.size, 0, none⟩ : Addr).add j) = some u :=
    (has_of_block' (o := 0) (heap_alloc_new w3.drew _) (by simp)).adds
  have ho4 : Only (fun _ => False) w3 (w3.drew.alloc (.cells (wcells k s.data.toList).toArray 98)) := (Only.drew _ _).trans (Only.alloc _ _ _)
  generalize w3.drew.alloc (.cells (wcells k s.data.toList).toArray 98) = w4 at hd4 hnew ho4 ⊢
  obtain ⟨i0, hi0, hz0, hz1, hz2⟩ := info_parts Try.info98
  obtain ⟨pv', w5, hrun, hown, hgrow, _, hfresh⟩ := run_append_fresh (P := Try.prog) w4 0 87 87 98 i0 _ 65 72 Try.underlying87 hi0 hz0 hz1 hz2 (by simp [Value.cells, zero65]) (by decide) pv d.pend.length (pendCells d.spent.pend) (by have := hd4.pend; rw [D.spent_pend] at this ⊢; exact this) ⟨w3.heap.size, 0, none⟩ 1 1 (wcells k s.data.toList) (by rw [wcells_len, hsl]) hnew (wcells_one _ _) (by unfold maxLen; omega) (by omega) (Nat.zero_le _)
  refine wpL_lastRun (a' := ?_) pv' rfl (exec_append rfl (vs := pv) (vx := .slice (some ⟨w3.heap.size, 0, none⟩) 1 1) rfl rfl hrun) ?_ ?_; rotate_left; (· simp only [put_some, List.setIfInBounds_toArray, List.set_cons_zero, List.set_cons_succ]; rfl)
  iterate 2 (refine wpL_pure (a' := ?_) ?_ rfl (fun W => ?_) ?_ ?_; rotate_left 2; (· go_simp; first | (go_bits; with_reducible rfl) | with_reducible rfl); (· simp only [put_some, List.setIfInBounds_toArray, List.set_cons_zero, List.set_cons_succ]; rfl))
  have hne := hd4.pv_ne
  have hh5 : w5.heap[p]? = some (.cells (headOf kb pv d.spent) 89 (0, 0)) := by rw [hgrow.block p hd4.p_lt (fun e => hne.1 e.symm)]; exact hd4.head
  have hc5 : w5.cell? ⟨p, 1, none⟩ = some pv := by rw [cell_at hh5]; rfl
  have hv1 : pv'.cells = #[pv'] ∧ pv'.oneCell' = true := by
    rcases hown.2 with ⟨e, _⟩ | ⟨g, cap, cur, e, _⟩ <;> rw [e] <;> exact ⟨rfl, rfl⟩
  refine wpL_lastDone (a' := ?_) rfl (exec_store rfl (p := .pointer (some ⟨p, 1, none⟩)) (v := pv') rfl rfl (run_store_one w5 ⟨p, 1, none⟩ pv' pv 87 hv1.1 hv1.2 Try.size87 hc5 (free_at hh5 1))) ?_ ?_; rotate_left; (· simp only [put_none]; rfl)
  refine wpL_nil ?_
  go_wp2
  go_ret
  have hs3 : w.heap.size ≤ w3.heap.size := by have := HS1.out; have := ho3.size; omega
  have hs4 : w.heap.size ≤ w4.heap.size := Nat.le_trans hs3 ho4.size
  have hlt : ∀ x, fp p kb pv x → x < w.heap.size := fun x hx => hd.fp_lt x hx
  refine ⟨pv', rfl, ?_, ?_, ?_⟩
  · refine ⟨?_, ?_, ?_, hd.ok.write hk hsl⟩
    · rw [heap_setCell_same w5 p 1 _ _ _ hh5]
      simp [headOf, D.write, D.spent_kept]
    · rw [Below.heap_setCell _ _ _ _ hd.kb_ne, hgrow.block kb hd4.kb_lt (fun e => hne.2 e.symm)]
      simpa [D.write] using hd4.rows
    · have e1 : pendCells (d.write k s.data.toList).pend = pendCells d.spent.pend ++ wcells k s.data.toList := by
        simp [D.write, D.spent_pend, pendCells, wcells]
      have e2 : (d.write k s.data.toList).pend.length = d.pend.length + 1 := by simp [D.write]
      rw [e1, e2]
      refine ownsRow_setCell_other hown ?_ _
      intro e
      rcases hfresh p e with h | h
      · exact hne.1 h
      · have := hd4.p_lt; omega
  · have o1 : Only (fp p kb pv) w w1 := ho1.mono (fun x _ e => .inl e)
    have o3 : Only (fp p kb pv) w1 w3 := ho3.mono (fun _ _ => False.elim)
    have o4 : Only (fp p kb pv) w3 w4 := ho4.mono (fun _ _ => False.elim)
    exact (((o1.trans o3).trans o4).trans (Only.of_grown hgrow (fun x e => .inr (.inr e)))).trans (Only.setCell _ _ _ _ (.inl rfl))
  · intro g hg
    rcases hfresh g hg with h | h
    · exact .inl h
    · exact .inr (Nat.le_trans hs4 h)
end Go.Proofs.Ytlgefjcfnnjkbaa
