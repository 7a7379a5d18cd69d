/- Parts of the proof, one behind the other: Disk2, Disk3, Disk4. Each part's own words say what it proves; no conditions. -/
import Derived.Test.YtlgefjcfnnjkbaaDoorP02
set_option linter.unusedVariables false
set_option linter.unusedSimpArgs false
set_option linter.unusedSectionVars false
/- The functions of package disk that touch sectors: lay, Sync, Crash, Rot, Write, New. No conditions. -/
namespace Go.Proofs.YtlgefjcfnnjkbaaDoor
set_option maxRecDepth 100000
open Go.RowKit

theorem pendCells_append (a b : List (Nat × List UInt8)) : pendCells (a ++ b) = pendCells a ++ pendCells b := by simp [pendCells]
theorem pendCells_length (l : List (Nat × List UInt8)) (h : ∀ x ∈ l, x.2.length = 64) : (pendCells l).length = 65 * l.length := by
  induction l with
  | nil => rfl
  | cons x l ih =>
    have := h x (List.mem_cons_self)
    have ih' := ih (fun y hy => h y (List.mem_cons_of_mem _ hy))
    simp only [pendCells, List.map_cons, List.flatten_cons, List.length_append, List.length_cons, length_bvs] at ih' ⊢
    omega

theorem flatten_length (l : List (List UInt8)) (h : ∀ x ∈ l, x.length = 64) : l.flatten.length = 64 * l.length := by
  induction l with
  | nil => rfl
  | cons x l ih =>
    have := h x (List.mem_cons_self)
    have ih' := ih (fun y hy => h y (List.mem_cons_of_mem _ hy))
    simp only [List.flatten_cons, List.length_append, List.length_cons] at ih' ⊢
    omega

theorem flatten_split (l : List (List UInt8)) (k : Nat) (hk : k < l.length) : l.flatten = (l.take k).flatten ++ (l[k] ++ (l.drop (k + 1)).flatten) := by
  have e : l = l.take k ++ l[k] :: l.drop (k + 1) := by rw [← List.drop_eq_getElem_cons hk]; simp
  have e' := congrArg List.flatten e
  rw [List.flatten_append, List.flatten_cons] at e'
  exact e'

theorem rows_split (l : List (List UInt8)) (k : Nat) (hk : k < l.length) (h : ∀ x ∈ l, x.length = 64) :
    rowsOf l = bvs (l.take k).flatten ++ (bvs l[k] ++ bvs (l.drop (k + 1)).flatten) ∧ (bvs (l.take k).flatten).length = k * 64 := by
  refine ⟨by rw [rowsOf, flatten_split l k hk]; simp [bvs_append], ?_⟩
  rw [length_bvs, flatten_length _ (fun x hx => h x (List.mem_of_mem_take hx)), List.length_take]
  omega

theorem pend_split (l : List (Nat × List UInt8)) (k : Nat) (hk : k < l.length) (h : ∀ x ∈ l, x.2.length = 64) :
    pendCells l = pendCells (l.take k) ++ ((Value.int .i64 (l[k].1 : Int) :: bvs l[k].2) ++ pendCells (l.drop (k + 1))) ∧ (pendCells (l.take k)).length = k * 65 := by
  have e : l = l.take k ++ ([l[k]] ++ l.drop (k + 1)) := by rw [List.singleton_append, ← List.drop_eq_getElem_cons hk]; simp
  refine ⟨?_, ?_⟩
  · have e' := congrArg pendCells e
    rw [pendCells_append, pendCells_append] at e'
    rw [e']
    congr 2
    simp [pendCells]
  · rw [pendCells_length _ (fun x hx => h x (List.mem_of_mem_take hx)), List.length_take]
    omega

theorem laid_rows (l : List (List UInt8)) (k : Nat) (s : List UInt8) (hk : k < l.length) (h : ∀ x ∈ l, x.length = 64) (hs : s.length = 64) :
    laid (rowsOf l) (k * 64) (bvs s) = rowsOf (l.set k s) := by
  obtain ⟨e1, e2⟩ := rows_split l k hk h
  have hlk : l[k].length = 64 := h _ (List.getElem_mem hk)
  obtain ⟨e3, e4⟩ := rows_split (l.set k s) k (by simpa using hk) (fun x hx => by
    rcases List.mem_or_eq_of_mem_set hx with hx | hx
    · exact h x hx
    · rw [hx]; exact hs)
  rw [e3, e1]
  have ht : (l.set k s).take k = l.take k := by simp [List.take_set_of_le]
  have hd : (l.set k s).drop (k + 1) = l.drop (k + 1) := by simp [List.drop_set_of_lt]
  rw [ht, hd, List.getElem_set_self]
  unfold laid
  rw [List.take_left' (by rw [e2])]
  congr 2
  have : k * 64 + (bvs s).length = (bvs (l.take k).flatten ++ bvs l[k]).length := by rw [List.length_append, e2, length_bvs, length_bvs, hs, hlk]
  rw [← List.append_assoc, List.drop_left' this.symm]

section
variable {w : World} {p kb : Nat} {pv : Value} {d : D} (h : DAt w p kb pv d)
include h
/-- a pending write's cells -/
theorem DAt.pend_at (k : Nat) (hk : k < d.pend.length) : ∃ g cap, pv = .slice (some ⟨g, 0, none⟩) d.pend.length cap ∧ d.pend.length ≤ cap ∧ cap ≤ maxLen ∧ g ≠ p ∧ g ≠ kb ∧ g < w.heap.size ∧
    w.cell? ⟨g, k * 65, none⟩ = some (.int .i64 (d.pend[k].1 : Int)) ∧ Has w g (k * 65 + 1) (bvs d.pend[k].2) := by
  rcases h.pv_shape with ⟨_, hz⟩ | ⟨g, cap, cur, e, h1, h2, hg, hcap, hmax, hsz, htake⟩
  · rw [hz] at hk; simp at hk
  · obtain ⟨e1, e2⟩ := pend_split d.pend k hk (fun x hx => (h.ok.plen x hx).1)
    have hcell : ∀ j u, (pendCells d.pend)[j]? = some u → w.cell? ⟨g, j, none⟩ = some u := by
      intro j u hu
      rw [cell_at hg]
      rw [← htake, List.getElem?_take] at hu
      split at hu
      · simpa using hu
      · cases hu
    refine ⟨g, cap, e, hcap, hmax, h1, h2, lt_of_block hg, hcell _ _ ?_, ?_⟩
    · rw [e1, List.getElem?_append_right (by omega), e2, Nat.sub_self]; rfl
    · intro j u hu
      have hj : j < (bvs d.pend[k].2).length := (List.getElem?_eq_some_iff.1 hu).1
      refine hcell _ _ ?_
      rw [e1, List.getElem?_append_right (by omega), e2, show k * 65 + 1 + j - k * 65 = j + 1 by omega]
      simp only [List.cons_append, List.getElem?_cons_succ]
      rw [List.getElem?_append_left hj]
      exact hu
theorem DAt.row_at (k : Nat) (hk : k < d.kept.length) : Has w kb (k * 64) (bvs d.kept[k]) := by
  obtain ⟨e1, e2⟩ := rows_split d.kept k hk h.ok.len
  have := h.rows
  rw [e1] at this
  rw [← e2]
  exact has_of_block this
end

section
variable {w : World} {p kb : Nat} {pv : Value} {d : D} (h : DAt w p kb pv d)
include h
theorem DAt.drew : DAt w.drew p kb pv d := h.only (S := fun _ => False) (Only.drew _ _) (fun _ _ => id)
theorem DAt.setRows (kept' : List (List UInt8)) {d' : D} (hk : d'.kept = kept') (hl : kept'.length = d.kept.length) (hp : d'.pend = d.pend) (hc : d'.cut = d.cut) (hf : d'.left = d.left) (ho : d'.Ok) :
    DAt (w.setRow kb (rowsOf kept').toArray) p kb pv d' := by
  subst hk
  refine ⟨?_, setRow_heap w kb _ _ _ _ h.rows, ?_, ho⟩
  · rw [setRow_other w kb p _ (Ne.symm h.kb_ne)]
    have : headOf kb pv d' = headOf kb pv d := by simp [headOf, hl, hc, hf]
    rw [this]; exact h.head
  · rw [hp]; exact ownsRow_only h.pend (Only.setRow w kb _ (S := fun x => x = kb) rfl) (fun k e he => h.pv_ne.2 (by rw [e, he]))
end

theorem Tryd.size92 : (Tryd.prog.info? 123).map (·.size) = some 64 := by kernel_rfl
theorem Tryd.und92 : ∃ n e, Tryd.prog.underlying 123 = some (.array n e) := ⟨64, 5, by kernel_rfl⟩

set_option maxRecDepth 100000 in
set_option maxHeartbeats 1000000 in
theorem diskLay_any (w : World) (p kb : Nat) (pv : Value) (d : D) (k : Nat) (hd : DAt w p kb pv d) (hk : k < d.pend.length) :
    Calls Tryd.prog 27 #[.pointer (some ⟨p, 0, none⟩), .int .i64 (k : Int)] w fun e w' => e = .returned (.tuple #[]) ∧ DAt w' p kb pv { d with kept := layK d.kept d.pend[k] } ∧ Only (fun x => x = kb) w w' ∧ w'.heap.size = w.heap.size := by
  obtain ⟨g, cap, rfl, hcap, hmax, hgp, hgk, hglt, hat, hhas⟩ := hd.pend_at k hk
  have hpl := hd.ok.plen _ (List.getElem_mem hk)
  have c0 := hd.c0
  have c1 := hd.c1
  have hm := hd.ok.many
  have hx1 : (d.pend[k].1 : Int) < d.kept.length := by have := hpl.2; omega
  unfold maxLen at hmax
  go_enter Tryd.func27, Tryd.ntmps27
  go_wp2
  refine wp_region_pick (fun W => W = w.drew) [(0, 0), (1, 0), (2, 0), (3, 1), (4, 0), (5, 0), (6, 0), (7, 1), (8, 0), (9, 0), (10, 0), (11, 1), (12, 0), (13, 3)] (by kernel_rfl) (by kernel_rfl) (fun _ _ d _ _ h => by cases d <;> exact h) rfl ?_
  simp only [pickOps, List.getElem?_cons_zero, List.getElem?_cons_succ]
  iterate 11 (first | (refine wpL_pure (a' := ?_) ?_ rfl (fun W => ?_) ?_ ?_; rotate_left 2; (· go_simp; with_reducible rfl); (· simp only [put_some, List.setIfInBounds_toArray, List.set_cons_zero, List.set_cons_succ]; rfl)) | (refine wpL_held (a' := ?_) ?_ rfl (fun W hW => ?_) ?_ ?_; rotate_left 2; (· subst hW; go_simp; with_reducible rfl); (· simp only [put_some, List.setIfInBounds_toArray, List.set_cons_zero, List.set_cons_succ]; rfl)))
  refine wpL_held (a' := ?_) (.agg (bvs d.pend[k].2).toArray) rfl (fun W hW => exec_load (p := .pointer (some ⟨g, k * 65 + 1, none⟩)) rfl rfl (run_load_part W g (k * 65 + 1) 64 _ _ _ Tryd.underlying123 rfl Tryd.size92 (by rw [length_bvs]; exact hpl.1) (by subst hW; exact hhas))) (by simp only [put_some, List.setIfInBounds_toArray, List.set_cons_zero, List.set_cons_succ]; rfl) ?_
  refine wpL_pure (a' := ?_) ?_ rfl (fun W => ?_) ?_ ?_; rotate_left 2; (· go_simp; with_reducible rfl); (· simp only [put_some, List.setIfInBounds_toArray, List.set_cons_zero, List.set_cons_succ]; rfl)
  refine wpL_last rfl (fun K hK => ?_)
  refine wp_store rfl rfl rfl (run_store_part _ kb (d.pend[k].1 * 64) 64 123 123 (rowsOf d.kept) (bvs d.pend[k].2) Tryd.size92 (by rw [length_bvs]; exact hpl.1) hd.rows (by rw [length_bvs, rowsOf, length_bvs, flatten_length _ hd.ok.len]; omega) (bvs_one _)) ?_
  refine hK _ _ (wpL_nil ?_)
  go_wp2
  go_end0
  rw [laid_rows d.kept d.pend[k].1 d.pend[k].2 hpl.2 hd.ok.len hpl.1]
  have hok : ({ d with kept := d.kept.set d.pend[k].1 d.pend[k].2 } : D).Ok :=
    ⟨fun x hx => by
      rcases List.mem_or_eq_of_mem_set hx with hx | hx
      · exact hd.ok.len x hx
      · rw [hx]; exact hpl.1, by simp only [List.length_set]; exact hd.ok.plen, by simp only [List.length_set]; exact hd.ok.many, hd.ok.leftLe⟩
  refine ⟨rfl, hd.drew.setRows _ rfl (by simp) rfl rfl rfl hok, (Only.drew _ _).trans (Only.setRow _ _ _ rfl), by simp⟩

set_option maxHeartbeats 1000000 in
theorem sync_nopower (w : World) (p kb : Nat) (pv : Value) (d : D) (hd : DAt w p kb pv d) (hp : d.power = false) :
    Calls Tryd.prog 25 #[.pointer (some ⟨p, 0, none⟩)] w fun e w' => e = .returned (.int .i64 22) ∧ DAt w' p kb pv d ∧ Only (fun k => k = p) w w' ∧ w'.heap.size = w.heap.size := by
  go_enter Tryd.func25, Tryd.ntmps25
  go_wp2_with (go_at_call 48; refine (power_any w p kb pv d hd).mono ?_; rintro e w' ⟨rfl, hd', ho', hs'⟩)
  go_ret
  exact ⟨rfl, by rw [D.paid_no hp] at hd'; exact hd', ho', hs'⟩

theorem layAll_succ (d : D) (k : Nat) (hk : k < d.pend.length) : d.layAll (List.range (k + 1)) = layK (d.layAll (List.range k)) d.pend[k] := by
  unfold D.layAll
  rw [List.range_succ, List.foldl_append]
  simp [hk]

/-- a disk of which the first k pending writes were laid -/
def D.laidTo (d : D) (ks : List Nat) : D := { d with kept := d.layAll ks }
theorem D.laidTo_ok {d : D} (h : d.Ok) (ks : List Nat) (hk : ∀ k ∈ ks, k < d.pend.length) : (d.laidTo ks).Ok :=
  ⟨layAll_len h _ hk, by simp only [laidTo, layAll_length]; exact h.plen, by simp only [laidTo, layAll_length]; exact h.many, h.leftLe⟩

theorem D.layAll_spent (d : D) (ks : List Nat) : d.spent.layAll ks = d.layAll ks := by simp [D.layAll, spent_kept, spent_pend]

set_option maxHeartbeats 2000000 in
theorem sync_any (w : World) (p kb : Nat) (pv : Value) (d : D) (hd : DAt w p kb pv d) (hp : d.power = true) :
    Calls Tryd.prog 25 #[.pointer (some ⟨p, 0, none⟩)] w fun e w' => e = .returned (.int .i64 0) ∧ DAt w' p kb (.slice none 0 0) d.sync ∧ Only (fp p kb pv) w w' ∧ w'.heap.size = w.heap.size := by
  obtain ⟨ao, cap, rfl, hn⟩ := hd.pv_slice
  go_enter Tryd.func25, Tryd.ntmps25
  go_wp2_with (go_at_call 48; refine (power_any w p kb _ d hd).mono ?_; rintro e w1 ⟨rfl, hd1, ho1, hs1⟩; have c1 := hd1.c1)
  rw [D.paid_yes hp] at hd1
  go_loopw [14] (fun i wr => ∃ k : Nat, k ≤ d.pend.length ∧ i = .int .i64 k ∧ DAt wr p kb (.slice ao d.pend.length cap) (d.spent.laidTo (List.range k)) ∧ Only (fp p kb (.slice ao d.pend.length cap)) w wr ∧ Hid (wr.heap.size = w.heap.size)) (fun i _ => d.pend.length - (intOf i).toNat)
  case atStart => exact ⟨0, by omega, rfl, hd1, ho1.mono (fun k _ e => .inl e), hs1⟩
  case round =>
    obtain ⟨k, hk, rfl, hdr, hor, hsr⟩ := hrel
    have hkp : ∀ (h' : k < d.spent.pend.length), d.spent.pend[k] = d.spent.pend[k] := fun _ => rfl
    by_cases hlt : k < d.pend.length
    · have hlt' : k < (d.spent.laidTo (List.range k)).pend.length := by simpa [D.laidTo, D.spent_pend] using hlt
      go_wp2_with (go_at_call 27; refine (diskLay_any wr p kb _ _ k hdr hlt').mono ?_; rintro e w2 ⟨rfl, hd2, ho2, hs2⟩)
      go_roundw
      case rel =>
        refine ⟨k + 1, by omega, by go_num, ?_, hor.trans (ho2.mono (fun x _ e => .inr (.inl e))), hs2.trans hsr.out⟩
        have e : (({ d.spent.laidTo (List.range k) with kept := layK (d.spent.laidTo (List.range k)).kept (d.spent.laidTo (List.range k)).pend[k] } : D)) = d.spent.laidTo (List.range (k + 1)) := by
          simp only [D.laidTo]
          rw [layAll_succ d.spent k (by rw [D.spent_pend]; exact hlt)]
        rw [e] at hd2
        exact hd2
      case measure => simp [intOf]; omega
    · obtain rfl : k = d.pend.length := by omega
      have c1' := hdr.c1
      have f1 := hdr.f 1
      go_wp2
      go_ret
      refine ⟨rfl, ?_, hor.trans (Only.setCell _ _ _ _ (.inl rfl)), by simp [hsr.out]⟩
      refine ⟨?_, ?_, ?_, hd.ok.sync⟩
      · rw [heap_setCell_same wr p 1 _ _ _ hdr.head]
        simp [headOf, D.sync, D.laidTo, D.layAll_spent, D.layAll_length]
      · rw [Below.heap_setCell _ _ _ _ hdr.kb_ne]
        have := hdr.rows
        simpa [D.laidTo, D.layAll_spent, D.sync] using this
      · simpa [D.sync, pendCells] using World.ownsRow_nil _ _ _ _
end Go.Proofs.YtlgefjcfnnjkbaaDoor
/- The functions of package disk: Rot, New, Write, Crash. No conditions. -/
namespace Go.Proofs.YtlgefjcfnnjkbaaDoor
set_option maxRecDepth 100000
open Go.RowKit

theorem rot_nopower (mask : Nat) (hm : mask ≤ 255) (x : UInt8) : bits BinOp.xor IntKind.u8 (x.toNat : Int) (mask : Int) = ((x ^^^ UInt8.ofNat mask).toNat : Int) := by
  rw [u8_xor_nat x.toNat mask x.toNat_lt (by omega)]
  congr 1
  rw [UInt8.toNat_xor, UInt8.toNat_ofNat']
  rw [Nat.mod_eq_of_lt (by omega)]

/-- the byte's cell -/
theorem DAt.byte_at {w : World} {p kb : Nat} {pv : Value} {d : D} (h : DAt w p kb pv d) (k place : Nat) (hk : k < d.kept.length) (hp : place < 64) :
    w.cell? ⟨kb, k * 64 + place, none⟩ = some (bv ((d.kept.getD k []).getD place 0)) := by
  have hr := h.row_at k hk
  have hl := h.ok.len _ (List.getElem_mem hk)
  refine hr place _ ?_
  simp [bvs, hk, hl, hp]

theorem rows_set_byte (l : List (List UInt8)) (k place : Nat) (b : UInt8) (hk : k < l.length) (h : ∀ x ∈ l, x.length = 64) (hp : place < 64) :
    ((rowsOf l).toArray.setIfInBounds (k * 64 + place) (bv b)) = (rowsOf (l.set k ((l.getD k []).set place b))).toArray := by
  have hlk : l[k].length = 64 := h _ (List.getElem_mem hk)
  have e := laid_rows l k (l[k].set place b) hk h (by rw [List.length_set]; exact hlk)
  have hg : l.getD k [] = l[k] := by simp [hk]
  rw [hg, ← e]
  obtain ⟨e1, e2⟩ := rows_split l k hk h
  apply Array.ext'
  simp only [Array.toList_setIfInBounds, laid]
  rw [e1]
  rw [List.take_left' e2, length_bvs, List.length_set, hlk]
  rw [List.set_append_right _ _ (by omega), e2, Nat.add_sub_cancel_left]
  rw [List.set_append_left _ _ (by rw [length_bvs, hlk]; exact hp)]
  congr 1
  congr 1
  · simp [bvs, List.map_set]
  · rw [← List.append_assoc, List.drop_left' (by rw [List.length_append, e2, length_bvs, hlk])]

theorem Tryd.info92 : (Tryd.prog.info? 123).map (fun i => (i.zero, i.size, i.bytes)) = some (some (.agg (Array.replicate 64 (.int .u8 0))), 64, 64) := by kernel_rfl

theorem rows_new (n : Nat) : (List.replicate (n * 64) (Value.int .u8 0)) = rowsOf (List.replicate n noughts) := by
  induction n with
  | zero => rfl
  | succ n ih =>
    have e : rowsOf (List.replicate (n + 1) noughts) = bvs noughts ++ rowsOf (List.replicate n noughts) := by simp [rowsOf, List.replicate_succ, bvs_append]
    rw [e, ← ih, Nat.succ_mul, Nat.add_comm, ← List.replicate_append_replicate]
    rfl

set_option maxHeartbeats 1000000 in
theorem new_bad (w : World) (n : Int) (h : n < 1 ∨ 768 < n) :
    Calls Tryd.prog 5 #[.int .i64 n] w fun e w' => e = .returned (.tuple #[.pointer none, .int .i64 2]) ∧ w = w' := by
  rcases h with h | h
  · go_enter Tryd.func5, Tryd.ntmps5
    go_wp2
    go_ret2
    exact ⟨rfl, rfl⟩
  · have h' : 1 ≤ n := by omega
    go_enter Tryd.func5, Tryd.ntmps5
    go_wp2
    go_ret2
    exact ⟨rfl, rfl⟩

set_option maxRecDepth 100000 in
set_option maxHeartbeats 1000000 in
theorem new_any (w : World) (n : Nat) (h1 : 1 ≤ n) (h2 : n ≤ 768) :
    Calls Tryd.prog 5 #[.int .i64 (n : Int)] w fun e w' => ∃ p kb, e = .returned (.tuple #[.pointer (some ⟨p, 0, none⟩), .int .i64 0]) ∧ DAt w' p kb (.slice none 0 0) (D.new n) ∧ w.heap.size ≤ p ∧ w.heap.size ≤ kb ∧ Only (fun _ => False) w w' := by
  have h1' : (1 : Int) ≤ n := by omega
  have h2' : (n : Int) ≤ 768 := by omega
  go_enter Tryd.func5, Tryd.ntmps5
  have e := (madeCells_same (Value.agg (Array.replicate 64 (.int .u8 0))).cells (.int .u8 0) 64 (n * 64) rfl (by decide)).trans (congrArg List.toArray (rows_new n))
  have E := Lib.hid e
  clear e
  go_wp2_with (at_make; refine wpList_make_any (n := n) rfl _ _ 51 rfl 123 (.agg (Array.replicate 64 (.int .u8 0))) 64 64 Tryd.underlying51 Tryd.info92 rfl rfl (by omega) (by unfold maxLen; omega) ?_; rw [E.out])
  go_ret2
  refine ⟨w.heap.size + 1, w.heap.size, rfl, ⟨?_, ?_, ?_, D.new_ok n h2⟩, by omega, Nat.le_refl _, (Only.alloc _ _ _).trans (Only.alloc _ _ _)⟩
  · have h := heap_alloc2_new w (.cells (rowsOf (List.replicate n noughts)).toArray 123) (.cells (headOf w.heap.size (.slice none 0 0) (D.new n)) 54)
    simpa [headOf, D.new] using h
  · exact heap_alloc2_old _ _ _
  · exact World.ownsRow_nil _ _ _ _

/-! ### Write -/
theorem Tryd.size98 : (Tryd.prog.info? 125).map (·.size) = some 65 := by kernel_rfl
theorem Tryd.size87 : (Tryd.prog.info? 52).map (·.size) = some 1 := by kernel_rfl
theorem Tryd.size5d : (Tryd.prog.info? 5).map (·.size) = some 1 := by kernel_rfl
def zero65 : List Value := .int .i64 0 :: List.replicate 64 (.int .u8 0)
theorem Tryd.info98 : (Tryd.prog.info? 125).map (fun i => (i.zero, i.size, i.bytes)) = some (some (.agg zero65.toArray), 65, 72) := by kernel_rfl
def wcells (k : Nat) (s : List UInt8) : List Value := .int .i64 (k : Int) :: bvs s
theorem wcells_len (k : Nat) (s : List UInt8) : (wcells k s).length = s.length + 1 := by simp [wcells, bvs]
theorem wcells_one (k : Nat) (s : List UInt8) : ∀ v ∈ wcells k s, v.oneCell' = true := by
  intro v hv
  rcases List.mem_cons.1 hv with rfl | hv
  · rfl
  · exact bvs_one _ v hv
theorem Tryd.build98 (k : Nat) (w : World) : (Instr.build 125 #[(0, .int .i64 (k : Int))]).run Tryd.prog w = .ok (.agg (wcells k noughts).toArray) w := by kernel_rfl
theorem Tryd.alloc98 (w : World) : (Instr.alloc 125 true (.tuple #[])).run Tryd.prog w = .ok (.pointer (some ⟨w.heap.size, 0, none⟩)) (w.alloc (.cells zero65.toArray 125)) := by kernel_rfl

theorem laid_all (cur vs : List Value) (h : cur.length = vs.length) : laid cur 0 vs = vs := by simp [laid, ← h]
theorem laid_tail (k : Nat) (a b : List UInt8) (h : a.length = b.length) : laid (wcells k a) 1 (bvs b) = wcells k b := by
  simp [laid, wcells, bvs, h, Nat.add_comm]

set_option maxRecDepth 100000 in
set_option maxHeartbeats 2000000 in
theorem write_any (w : World) (p kb : Nat) (pv : Value) (d : D) (k : Nat) (s : ByteArray) (hd : DAt w p kb pv d) (hk : k < d.kept.length) (hs : s.size = 64) (hp : d.power = true) (hroom : d.pend.length < 1000000) :
    Calls Tryd.prog 39 #[.pointer (some ⟨p, 0, none⟩), .int .i64 (k : Int), .string s] w fun e w' => ∃ pv', e = .returned (.int .i64 0) ∧ DAt w' p kb pv' (d.write k s.data.toList) ∧ Only (fp p kb pv) w w' ∧ (∀ g, pv'.ownBlock = some g → pv.ownBlock = some g ∨ w.heap.size ≤ g) := by
  have hm := hd.ok.many
  have hd0 : decide ((0 : Int) ≤ (k : Int) ∧ (k : Int) < d.kept.length) = true := by simp; omega
  have hs' : (s.size : Int) = 64 := by omega
  have hsl : s.data.toList.length = 64 := by rw [Array.length_toList]; exact hs
  go_enter Tryd.func39, Tryd.ntmps39
  go_upto_region 7 with (first | (go_at_call 59; refine (has_any w p kb _ d _ hd).mono ?_; rintro e w1 ⟨rfl, rfl⟩) | (go_at_call 48; refine (power_any w p kb _ d hd).mono ?_; rintro e w1 ⟨rfl, hd1, ho1, hs1⟩; have HS1 := Lib.hid hs1; clear hs1))
  rw [D.paid_yes hp] at hd1
  apply wp_region_lit
  go_step
  go_step
  go_step
  refine wpList_run rfl (exec_build rfl (v := .int .i64 (k : Int)) rfl (Tryd.build98 k w1)) ?_
  refine wpList_run rfl (exec_alloc rfl (Tryd.alloc98 w1)) ?_
  refine wpList_store rfl rfl (p := .pointer (some ⟨w1.heap.size, 0, none⟩)) (v := .agg (wcells k noughts).toArray) rfl rfl (run_store_part _ w1.heap.size 0 65 125 125 zero65 (wcells k noughts) Tryd.size98 (by rw [wcells_len]; rfl) (heap_alloc_new _ _) (by rw [wcells_len]; decide) (wcells_one _ _)) ?_
  rw [laid_all _ _ (by rw [wcells_len]; rfl)]
  have hb2 : ((w1.alloc (.cells zero65.toArray 125)).setRow w1.heap.size (wcells k noughts).toArray).heap[w1.heap.size]? = some (.cells (wcells k noughts).toArray 125 (0, 0)) := setRow_heap _ _ _ _ _ _ (heap_alloc_new _ _)
  have ho2 : Only (fun _ => False) w1 ((w1.alloc (.cells zero65.toArray 125)).setRow w1.heap.size (wcells k noughts).toArray) := (Only.alloc _ _ _).trans' (Only.setRow _ _ _ (S := fun x => x = w1.heap.size) rfl) (fun x hx e => by omega)
  generalize (w1.alloc (.cells zero65.toArray 125)).setRow w1.heap.size (wcells k noughts).toArray = w2 at hb2 ho2 ⊢
  have HB2 := Lib.hid hb2
  clear hb2
  go_upto_region 9 with ((with_reducible refine wpList_copy_string 5 w1.heap.size 1 64 64 64 s 125 (wcells k noughts) ?_ ?_ ?_ ?_ ?_ ?_ ?_ ?_); (· exact Tryd.underlying47); (· exact Tryd.size5d); (· exact HB2.out); (· rw [hs]; rfl); (· rw [wcells_len]; decide); (· rfl); (· rfl); (rw [List.take_of_length_le (by omega), laid_tail k noughts _ (by rw [hsl]; rfl)]))
  simp only [put_some, List.setIfInBounds_toArray, List.set_cons_zero, List.set_cons_succ]
  have hb3 : (w2.setRow w1.heap.size (wcells k s.data.toList).toArray).heap[w1.heap.size]? = some (.cells (wcells k s.data.toList).toArray 125 (0, 0)) := setRow_heap _ _ _ _ _ _ HB2.out
  have ho3 : Only (fun _ => False) w1 (w2.setRow w1.heap.size (wcells k s.data.toList).toArray) := ho2.trans' (Only.setRow _ _ _ (S := fun x => x = w1.heap.size) rfl) (fun x hx e => by omega)
  generalize w2.setRow w1.heap.size (wcells k s.data.toList).toArray = w3 at hb3 ho3 ⊢
  have hd3 := hd1.only ho3 (fun _ _ => id)
  have h3c := hd3.c1
  have h3h : Has w3 w1.heap.size 0 (wcells k s.data.toList) := has_of_block' hb3 (by simp)
  refine wp_region_pick (fun W => W.cell? ⟨p, 1, none⟩ = some pv ∧ Has W w1.heap.size 0 (wcells k s.data.toList)) [(0, 0), (1, 0), (2, 0), (3, 0), (4, 1), (5, 1), (6, 2), (7, 3), (8, 0), (9, 0), (10, 3)] (by kernel_rfl) (by kernel_rfl) (fun _ _ d _ _ h => by cases d <;> exact h) ⟨h3c, h3h⟩ ?_
  simp only [pickOps, List.getElem?_cons_zero, List.getElem?_cons_succ]
  iterate 4 (refine wpL_pure (a' := ?_) ?_ rfl (fun W => ?_) ?_ ?_; rotate_left 2; (· go_simp; first | (go_bits; with_reducible rfl) | with_reducible rfl); (· simp only [put_some, List.setIfInBounds_toArray, List.set_cons_zero, List.set_cons_succ]; rfl))
  refine wpL_held (a' := ?_) pv rfl (fun W hW => exec_load (p := .pointer (some ⟨p, 1, none⟩)) rfl rfl (run_load_one W _ pv _ _ Tryd.underlying52 rfl hW.1)) ?_ ?_; rotate_left; (· simp only [put_some, List.setIfInBounds_toArray, List.set_cons_zero, List.set_cons_succ]; rfl)
  refine wpL_held (a' := ?_) (.agg (wcells k s.data.toList).toArray) rfl (fun W hW => exec_load (p := .pointer (some ⟨w1.heap.size, 0, none⟩)) rfl rfl (run_load_part W w1.heap.size 0 65 _ _ _ Tryd.underlying125 rfl Tryd.size98 (by rw [wcells_len, hsl]) hW.2)) ?_ ?_; rotate_left; (· simp only [put_some, List.setIfInBounds_toArray, List.set_cons_zero, List.set_cons_succ]; rfl)
  refine wpL_stepRun (a' := ?_) (.slice (some ⟨w3.heap.size, 0, none⟩) 1 1) rfl (exec_buildSlice_one rfl (v := .agg (wcells k s.data.toList).toArray) rfl (run_buildSlice_one w3.drew 52 125 _ _ (wcells k s.data.toList).toArray 65 72 rfl (by simp [wcells_len, hsl]) (by decide) (by decide) Tryd.underlying52 Tryd.info98)) ?_ ?_ ?_; rotate_left; (· exact ⟨by rw [World.cell?_alloc_lt _ _ _ (show p < w3.drew.heap.size from hd3.p_lt)]; exact h3c, h3h.only ((Only.drew _ (fun _ => False)).trans (Only.alloc _ _ _)) id⟩); (· simp only [put_some, List.setIfInBounds_toArray, List.set_cons_zero, List.set_cons_succ]; rfl)
  have hd4 : DAt (w3.drew.alloc (.cells (wcells k s.data.toList).toArray 125)) p kb pv d.spent := hd3.only ((Only.drew _ (fun _ => False)).trans (Only.alloc _ _ _)) (fun _ _ => id)
  have hnew : ∀ j u, (wcells k s.data.toList)[j]? = some u → (w3.drew.alloc (.cells (wcells k s.data.toList).toArray 125)).cell? ((⟨w3.heap.size, 0, none⟩ : Addr).add j) = some u :=
    (has_of_block' (o := 0) (heap_alloc_new w3.drew _) (by simp)).adds
  have ho4 : Only (fun _ => False) w3 (w3.drew.alloc (.cells (wcells k s.data.toList).toArray 125)) := (Only.drew _ _).trans (Only.alloc _ _ _)
  generalize w3.drew.alloc (.cells (wcells k s.data.toList).toArray 125) = w4 at hd4 hnew ho4 ⊢
  obtain ⟨i0, hi0, hz0, hz1, hz2⟩ := info_parts Tryd.info98
  obtain ⟨pv', w5, hrun, hown, hgrow, _, hfresh⟩ := run_append_fresh (P := Tryd.prog) w4 0 52 52 125 i0 _ 65 72 Tryd.underlying52 hi0 hz0 hz1 hz2 (by simp [Value.cells, zero65]) (by decide) pv d.pend.length (pendCells d.spent.pend) (by have := hd4.pend; rw [D.spent_pend] at this ⊢; exact this) ⟨w3.heap.size, 0, none⟩ 1 1 (wcells k s.data.toList) (by rw [wcells_len, hsl]) hnew (wcells_one _ _) (by unfold maxLen; omega) (by omega) (Nat.zero_le _)
  refine wpL_lastRun (a' := ?_) pv' rfl (exec_append rfl (vs := pv) (vx := .slice (some ⟨w3.heap.size, 0, none⟩) 1 1) rfl rfl hrun) ?_ ?_; rotate_left; (· simp only [put_some, List.setIfInBounds_toArray, List.set_cons_zero, List.set_cons_succ]; rfl)
  iterate 2 (refine wpL_pure (a' := ?_) ?_ rfl (fun W => ?_) ?_ ?_; rotate_left 2; (· go_simp; first | (go_bits; with_reducible rfl) | with_reducible rfl); (· simp only [put_some, List.setIfInBounds_toArray, List.set_cons_zero, List.set_cons_succ]; rfl))
  have hne := hd4.pv_ne
  have hh5 : w5.heap[p]? = some (.cells (headOf kb pv d.spent) 54 (0, 0)) := by rw [hgrow.block p hd4.p_lt (fun e => hne.1 e.symm)]; exact hd4.head
  have hc5 : w5.cell? ⟨p, 1, none⟩ = some pv := by rw [cell_at hh5]; rfl
  have hv1 : pv'.cells = #[pv'] ∧ pv'.oneCell' = true := by
    rcases hown.2 with ⟨e, _⟩ | ⟨g, cap, cur, e, _⟩ <;> rw [e] <;> exact ⟨rfl, rfl⟩
  refine wpL_lastDone (a' := ?_) rfl (exec_store rfl (p := .pointer (some ⟨p, 1, none⟩)) (v := pv') rfl rfl (run_store_one w5 ⟨p, 1, none⟩ pv' pv 52 hv1.1 hv1.2 Tryd.size87 hc5 (free_at hh5 1))) ?_ ?_; rotate_left; (· simp only [put_none]; rfl)
  refine wpL_nil ?_
  go_wp2
  go_ret
  have hs3 : w.heap.size ≤ w3.heap.size := by have := HS1.out; have := ho3.size; omega
  have hs4 : w.heap.size ≤ w4.heap.size := Nat.le_trans hs3 ho4.size
  have hlt : ∀ x, fp p kb pv x → x < w.heap.size := fun x hx => hd.fp_lt x hx
  refine ⟨pv', rfl, ?_, ?_, ?_⟩
  · refine ⟨?_, ?_, ?_, hd.ok.write hk hsl⟩
    · rw [heap_setCell_same w5 p 1 _ _ _ hh5]
      simp [headOf, D.write, D.spent_kept]
    · rw [Below.heap_setCell _ _ _ _ hd.kb_ne, hgrow.block kb hd4.kb_lt (fun e => hne.2 e.symm)]
      simpa [D.write] using hd4.rows
    · have e1 : pendCells (d.write k s.data.toList).pend = pendCells d.spent.pend ++ wcells k s.data.toList := by
        simp [D.write, D.spent_pend, pendCells, wcells]
      have e2 : (d.write k s.data.toList).pend.length = d.pend.length + 1 := by simp [D.write]
      rw [e1, e2]
      refine ownsRow_setCell_other hown ?_ _
      intro e
      rcases hfresh p e with h | h
      · exact hne.1 h
      · have := hd4.p_lt; omega
  · have o1 : Only (fp p kb pv) w w1 := ho1.mono (fun x _ e => .inl e)
    have o3 : Only (fp p kb pv) w1 w3 := ho3.mono (fun _ _ => False.elim)
    have o4 : Only (fp p kb pv) w3 w4 := ho4.mono (fun _ _ => False.elim)
    exact (((o1.trans o3).trans o4).trans (Only.of_grown hgrow (fun x e => .inr (.inr e)))).trans (Only.setCell _ _ _ _ (.inl rfl))
  · intro g hg
    rcases hfresh g hg with h | h
    · exact .inl h
    · exact .inr (Nat.le_trans hs4 h)
end Go.Proofs.YtlgefjcfnnjkbaaDoor
/- The functions of package disk: Crash, and what can't be done. No conditions. -/
namespace Go.Proofs.YtlgefjcfnnjkbaaDoor
set_option maxRecDepth 100000
open Go.RowKit

/-- v is a slice that reads as the numbers l -/
structure IntsAt (w : World) (v : Value) (l : List Int) (ao : Option Addr) (cap : Nat) : Prop where
  val : v = .slice ao l.length cap
  len : l.length ≤ 9223372036854775807
  cell : ∀ j x, l[j]? = some x → ∃ b o, ao = some ⟨b, o, none⟩ ∧ w.cell? ⟨b, o + j, none⟩ = some (.int .i64 x)
  wf : ∀ x ∈ l, -9223372036854775808 ≤ x ∧ x ≤ 9223372036854775807

theorem IntsAt.only {w w' : World} {v : Value} {l : List Int} {ao : Option Addr} {cap : Nat} {S : Nat → Prop} (h : IntsAt w v l ao cap) (ho : Only S w w') (hs : ∀ b o j x, ao = some ⟨b, o, none⟩ → w.cell? ⟨b, o + j, none⟩ = some (.int .i64 x) → ¬ S b) : IntsAt w' v l ao cap := by
  refine ⟨h.val, h.len, fun j x hx => ?_, h.wf⟩
  obtain ⟨b, o, e, hc⟩ := h.cell j x hx
  exact ⟨b, o, e, by rw [ho.cell (World.block_lt_of_cell? _ _ hc) (hs b o j x e hc)]; exact hc⟩

/-- the rows hold bytes -/
theorem DAt.not_row {w : World} {p kb : Nat} {pv : Value} {d : D} (h : DAt w p kb pv d) (o : Nat) (x : Int) : w.cell? ⟨kb, o, none⟩ ≠ some (.int .i64 x) := by
  rw [cell_at h.rows]
  intro e
  rw [List.getElem?_toArray] at e
  have := List.mem_of_getElem? e
  obtain ⟨c, _, hc⟩ := List.mem_map.1 this
  simp [bv] at hc

def crashOk (n : Nat) (l : List Int) : Prop := (∀ x ∈ l, 0 ≤ x ∧ x < n) ∧ l.Nodup
def metCells (n : Nat) (l : List Int) : List Value := (List.range n).map fun (j : Nat) => Value.bool (decide ((j : Int) ∈ l))

theorem Tryd.info4 : (Tryd.prog.info? 4).map (fun i => (i.zero, i.size, i.bytes)) = some (some (.bool false), 1, 1) := by kernel_rfl

theorem met_new (n : Nat) : (List.replicate (n * 1) (Value.bool false)) = metCells n [] := by
  simp only [metCells, Nat.mul_one, List.not_mem_nil, decide_false]
  apply List.ext_getElem <;> simp

theorem met_set (n : Nat) (l : List Int) (x : Int) (h0 : 0 ≤ x) : (metCells n l).toArray.setIfInBounds x.toNat (.bool true) = (metCells n (l ++ [x])).toArray := by
  apply Array.ext'
  simp only [Array.toList_setIfInBounds, metCells]
  apply List.ext_getElem
  · simp
  · intro j h1 h2
    simp only [List.getElem_set, List.getElem_map, List.getElem_range]
    by_cases e : x.toNat = j
    · rw [if_pos e]
      have : (j : Int) = x := by omega
      simp [this]
    · rw [if_neg e]
      have : ¬ (j : Int) = x := by omega
      simp [this]

theorem met_at (n : Nat) (l : List Int) (x : Int) (h0 : 0 ≤ x) (h1 : x < n) : (metCells n l).toArray[x.toNat]? = some (.bool (decide (x ∈ l))) := by
  have h2 : x.toNat < n := by omega
  have h3 : (x.toNat : Int) = x := by omega
  simp [metCells, h2, h3]

theorem take_snoc' {α : Type} (l : List α) (k : Nat) (h : k < l.length) : l.take (k + 1) = l.take k ++ [l[k]] := List.take_succ_eq_append_getElem h

theorem nodup_take_next {l : List Int} (h : l.Nodup) (k : Nat) (hk : k < l.length) : l[k] ∉ l.take k := by
  intro hm
  obtain ⟨j, hj, e⟩ := List.mem_iff_getElem.1 hm
  rw [List.length_take] at hj
  rw [List.getElem_take] at e
  have := (List.nodup_iff_pairwise_ne.1 h)
  have h2 := List.pairwise_iff_getElem.1 this j k (by omega) hk (by omega)
  exact h2 e

set_option maxHeartbeats 2000000 in
theorem crash_ok (w : World) (p kb : Nat) (pv : Value) (d : D) (l : List Int) (v : Value) (ao : Option Addr) (cap : Nat) (hd : DAt w p kb pv d) (hi : IntsAt w v l ao cap) (hok : crashOk d.pend.length l) (hroom : d.pend.length ≤ 1000000) :
    Calls Tryd.prog 14 #[.pointer (some ⟨p, 0, none⟩), v] w fun e w' => e = .returned (.int .i64 0) ∧ DAt w' p kb (.slice none 0 0) (d.crash (l.map Int.toNat)) ∧ Only (fp p kb pv) w w' := by
  obtain ⟨ao', cap', rfl, hn⟩ := hd.pv_slice
  have hv := hi.val
  subst hv
  have c1 := hd.c1
  have hl := hi.len
  have E := Lib.hid ((madeCells_same (Value.bool false).cells (.bool false) 1 (d.pend.length * 1) rfl (by decide)).trans (congrArg List.toArray (met_new d.pend.length)))
  go_enter Tryd.func14, Tryd.ntmps14
  go_wp2_with (at_make; refine wpList_make_any (n := d.pend.length) rfl _ _ 76 rfl 4 (.bool false) 1 1 Tryd.underlying76 Tryd.info4 rfl rfl (by omega) (by unfold maxLen; omega) ?_; rw [E.out])
  have HM := Lib.hid (heap_alloc_new w (.cells (metCells d.pend.length []).toArray 4))
  clear E
  go_loopw [20] (fun i wr => ∃ k : Nat, k ≤ l.length ∧ i = .int .i64 k ∧ Hid (wr.heap[w.heap.size]? = some (.cells (metCells d.pend.length (l.take k)).toArray 4 (0, 0))) ∧ Only (fun _ => False) w wr) (fun i _ => l.length - (intOf i).toNat)
  case atStart => exact ⟨0, by omega, rfl, HM, Only.alloc _ _ _⟩
  case round =>
    obtain ⟨k, hk, rfl, HMr, hor⟩ := hrel
    by_cases hlt : k < l.length
    · obtain ⟨b, o, rfl, hc⟩ := hi.cell k l[k] (List.getElem?_eq_getElem hlt)
      have hc' : wr.cell? ⟨b, o + k, none⟩ = some (.int .i64 l[k]) := by rw [hor.cell (World.block_lt_of_cell? _ _ hc) id]; exact hc
      obtain ⟨h0, h1⟩ := hok.1 l[k] (List.getElem_mem hlt)
      have hnot := nodup_take_next hok.2 k hlt
      have hset := met_set d.pend.length (l.take k) l[k] h0
      have hat := met_at d.pend.length (l.take k) l[k] h0 h1
      rw [decide_eq_false hnot] at hat
      have hmet := hat
      rw [← cell_at HMr.out] at hmet
      have hfr := free_at HMr.out l[k].toNat
      have hsnoc := take_snoc' l k hlt
      obtain ⟨x, hx⟩ : ∃ x, x = l[k] := ⟨_, rfl⟩
      rw [← hx] at hc' h0 h1 hset hmet hfr hsnoc
      have HSET := Lib.hid hset
      have HSN := Lib.hid hsnoc
      clear hset hat hsnoc hnot hx hc
      go_wp2
      go_roundw
      case rel =>
        refine ⟨k + 1, by omega, by go_num, ?_, hor.trans' (Only.one _ _ _ _) (fun y hy e => by omega)⟩
        show _ = _
        rw [heap_setCell_same wr w.heap.size _ _ _ _ HMr.out, HSET.out, HSN.out]
      case measure => simp [intOf]; omega
    · obtain rfl : k = l.length := by omega
      go_wp2_with fail
      have hd0 : DAt wr p kb (.slice ao' d.pend.length cap') d := hd.only hor (fun _ _ => id)
      rename World => wm
      go_loopw [44] (fun i wr => ∃ k : Nat, k ≤ l.length ∧ i = .int .i64 k ∧ DAt wr p kb (.slice ao' d.pend.length cap') (d.laidTo ((l.take k).map Int.toNat)) ∧ Only (fun x => x = kb) wm wr) (fun i _ => l.length - (intOf i).toNat)
      case atStart => exact ⟨0, by omega, rfl, hd0, Only.refl _ _⟩
      case round =>
        obtain ⟨k, hk, rfl, hdr, hor2⟩ := hrel
        by_cases hlt : k < l.length
        · obtain ⟨b, o, rfl, hc⟩ := hi.cell k l[k] (List.getElem?_eq_getElem hlt)
          have hc1 : wm.cell? ⟨b, o + k, none⟩ = some (.int .i64 l[k]) := by rw [hor.cell (World.block_lt_of_cell? _ _ hc) id]; exact hc
          have hbk : b ≠ kb := by intro e; rw [e] at hc; exact hd.not_row _ _ hc
          have hc' : wr.cell? ⟨b, o + k, none⟩ = some (.int .i64 l[k]) := by rw [hor2.cell (World.block_lt_of_cell? _ _ hc1) hbk]; exact hc1
          obtain ⟨h0, h1⟩ := hok.1 l[k] (List.getElem_mem hlt)
          have hsnoc := take_snoc' l k hlt
          obtain ⟨m, hm⟩ := Int.eq_ofNat_of_zero_le h0
          rw [hm] at hc' h1 hsnoc
          have hml : m < d.pend.length := by omega
          have HSN := Lib.hid hsnoc
          clear hsnoc hm hc hc1
          go_wp2_with (go_at_call 27; refine (diskLay_any wr p kb _ _ m hdr hml).mono ?_; rintro e w2 ⟨rfl, hd2, ho2, hs2⟩; clear hs2)
          go_roundw
          case rel =>
            refine ⟨k + 1, by omega, by go_num, ?_, hor2.trans ho2⟩
            have e : (({ d.laidTo ((l.take k).map Int.toNat) with kept := layK (d.laidTo ((l.take k).map Int.toNat)).kept (d.laidTo ((l.take k).map Int.toNat)).pend[m] } : D)) = d.laidTo ((l.take (k + 1)).map Int.toNat) := by
              rw [HSN.out, List.map_append]
              simp only [D.laidTo, D.layAll, List.foldl_append, List.map_cons, List.map_nil, List.foldl_cons, List.foldl_nil, Int.toNat_natCast]
              simp [hml]
            rw [e] at hd2
            exact hd2
          case measure => simp [intOf]; omega
        · obtain rfl : k = l.length := by omega
          have c1' := hdr.c1
          have c2' := hdr.c2
          have c3' := hdr.c3
          have f1 := hdr.f 1
          have f2 := hdr.f 2
          have f3 := hdr.f 3
          go_wp2
          go_ret
          refine ⟨rfl, ?_, ?_⟩
          · have hks : ∀ x ∈ l.map Int.toNat, x < d.pend.length := by
              intro x hx
              obtain ⟨y, hy, rfl⟩ := List.mem_map.1 hx
              have := hok.1 y hy
              omega
            have e3 := heap_setCell_same _ p 3 _ _ (.int .i64 0) (heap_setCell_same _ p 2 _ _ (.bool false) (heap_setCell_same wr p 1 _ _ (.slice none 0 0) hdr.head))
            refine ⟨?_, ?_, ?_, hd.ok.crash hks⟩
            · rw [e3]
              simp [headOf, D.crash, D.laidTo, D.layAll_length]
            · rw [Below.heap_setCell _ _ _ _ hdr.kb_ne, Below.heap_setCell _ _ _ _ hdr.kb_ne, Below.heap_setCell _ _ _ _ hdr.kb_ne]
              have := hdr.rows
              rw [List.take_of_length_le (Nat.le_refl _)] at this
              exact this
            · simpa [D.crash, pendCells] using World.ownsRow_nil _ _ _ _
          · have o1 : Only (fp p kb (.slice ao' d.pend.length cap')) w wm := hor.mono (fun _ _ => False.elim)
            have o2 : Only (fp p kb (.slice ao' d.pend.length cap')) wm wr := hor2.mono (fun _ _ e => .inr (.inl e))
            exact (((o1.trans o2).trans (Only.setCell _ _ _ _ (.inl rfl))).trans (Only.setCell _ _ _ _ (.inl rfl))).trans (Only.setCell _ _ _ _ (.inl rfl))

/-- the first place at which the list is refused -/
theorem crash_split {n : Nat} {l : List Int} {k : Nat} (hk : k < l.length) (h : crashOk n (l.take k)) (h0 : 0 ≤ l[k]) (h1 : l[k] < n) (h2 : l[k] ∉ l.take k) : crashOk n (l.take (k + 1)) := by
  rw [take_snoc' l k hk]
  refine ⟨fun x hx => ?_, ?_⟩
  · rcases List.mem_append.1 hx with hx | hx
    · exact h.1 x hx
    · rw [List.mem_singleton.1 hx]; exact ⟨h0, h1⟩
  · rw [List.nodup_append]
    refine ⟨h.2, by simp, fun a ha b hb e => ?_⟩
    rw [List.mem_singleton.1 hb] at e
    exact h2 (e ▸ ha)

set_option maxHeartbeats 2000000 in
theorem crash_bad (w : World) (p kb : Nat) (pv : Value) (d : D) (l : List Int) (v : Value) (ao : Option Addr) (cap : Nat) (hd : DAt w p kb pv d) (hi : IntsAt w v l ao cap) (hok : ¬ crashOk d.pend.length l) (hroom : d.pend.length ≤ 1000000) :
    Calls Tryd.prog 14 #[.pointer (some ⟨p, 0, none⟩), v] w fun e w' => e = .returned (.int .i64 21) ∧ Only (fun _ => False) w w' := by
  obtain ⟨ao', cap', rfl, hn⟩ := hd.pv_slice
  have hv := hi.val
  subst hv
  have c1 := hd.c1
  have hl := hi.len
  have E := Lib.hid ((madeCells_same (Value.bool false).cells (.bool false) 1 (d.pend.length * 1) rfl (by decide)).trans (congrArg List.toArray (met_new d.pend.length)))
  go_enter Tryd.func14, Tryd.ntmps14
  go_wp2_with (at_make; refine wpList_make_any (n := d.pend.length) rfl _ _ 76 rfl 4 (.bool false) 1 1 Tryd.underlying76 Tryd.info4 rfl rfl (by omega) (by unfold maxLen; omega) ?_; rw [E.out])
  have HM := Lib.hid (heap_alloc_new w (.cells (metCells d.pend.length []).toArray 4))
  clear E
  go_loopw [20] (fun i wr => ∃ k : Nat, k ≤ l.length ∧ i = .int .i64 k ∧ Hid (wr.heap[w.heap.size]? = some (.cells (metCells d.pend.length (l.take k)).toArray 4 (0, 0))) ∧ Only (fun _ => False) w wr ∧ crashOk d.pend.length (l.take k)) (fun i _ => l.length - (intOf i).toNat)
  case atStart => exact ⟨0, by omega, rfl, HM, Only.alloc _ _ _, ⟨fun x hx => (by simp at hx), by simp⟩⟩
  case round =>
    obtain ⟨k, hk, rfl, HMr, hor, hokk⟩ := hrel
    have HOKK := Lib.hid hokk
    clear hokk
    have hlt : k < l.length := by
      rcases Nat.lt_or_ge k l.length with h | h
      · exact h
      · exact absurd (by have := HOKK.out; rwa [List.take_of_length_le h] at this) hok
    obtain ⟨b, o, rfl, hc⟩ := hi.cell k l[k] (List.getElem?_eq_getElem hlt)
    have hc' : wr.cell? ⟨b, o + k, none⟩ = some (.int .i64 l[k]) := by rw [hor.cell (World.block_lt_of_cell? _ _ hc) id]; exact hc
    have hwf := hi.wf l[k] (List.getElem_mem hlt)
    have SP := Lib.hid (crash_split (n := d.pend.length) hlt HOKK.out)
    have AT := Lib.hid (met_at d.pend.length (l.take k) l[k])
    have ST := Lib.hid (met_set d.pend.length (l.take k) l[k])
    have hsnoc := take_snoc' l k hlt
    obtain ⟨x, hx⟩ : ∃ x, x = l[k] := ⟨_, rfl⟩
    rw [← hx] at hc' SP AT ST hsnoc hwf
    have HSN := Lib.hid hsnoc
    clear hsnoc hx hc hok
    obtain ⟨hwf1, hwf2⟩ := hwf
    by_cases h0 : x < 0
    · go_wp2
      go_ret
      exact ⟨rfl, hor⟩
    · have h0' : 0 ≤ x := by omega
      by_cases h1 : x < (d.pend.length : Int)
      · have hat := AT.out h0' h1
        rw [← cell_at HMr.out] at hat
        have hfr := free_at HMr.out x.toNat
        by_cases hm : x ∈ l.take k
        · rw [decide_eq_true hm] at hat
          clear hm
          go_wp2
          go_ret
          exact ⟨rfl, hor⟩
        · rw [decide_eq_false hm] at hat
          have HN := Lib.hid (SP.out h0' h1 hm)
          clear hm
          go_wp2
          go_roundw
          case rel =>
            refine ⟨k + 1, by omega, by go_num, ?_, hor.trans' (Only.one _ _ _ _) (fun y hy e => by omega), HN.out⟩
            show _ = _
            rw [heap_setCell_same wr w.heap.size _ _ _ _ HMr.out, ST.out h0', HSN.out]
          case measure => simp [intOf]; omega
      · have h1' : (d.pend.length : Int) ≤ x := by omega
        go_wp2
        go_ret
        exact ⟨rfl, hor⟩

/-! ### What can't be done -/
set_option maxHeartbeats 1000000 in
theorem write_badAt (w : World) (p kb : Nat) (pv : Value) (d : D) (k : Int) (s : ByteArray) (hd : DAt w p kb pv d) (hk : ¬ (0 ≤ k ∧ k < d.kept.length)) :
    Calls Tryd.prog 39 #[.pointer (some ⟨p, 0, none⟩), .int .i64 k, .string s] w fun e w' => e = .returned (.int .i64 20) ∧ w = w' := by
  have hd0 : decide ((0 : Int) ≤ (k : Int) ∧ (k : Int) < d.kept.length) = false := decide_eq_false hk
  go_enter Tryd.func39, Tryd.ntmps39
  go_wp2_with (go_at_call 59; refine (has_any w p kb _ d _ hd).mono ?_; rintro e w1 ⟨rfl, rfl⟩; rw [hd0])
  go_ret
  exact ⟨rfl, rfl⟩

set_option maxHeartbeats 1000000 in
theorem write_badLen (w : World) (p kb : Nat) (pv : Value) (d : D) (k : Int) (s : ByteArray) (hd : DAt w p kb pv d) (hs : s.size ≠ 64) :
    Calls Tryd.prog 39 #[.pointer (some ⟨p, 0, none⟩), .int .i64 k, .string s] w fun e w' => e = .returned (.int .i64 20) ∧ w = w' := by
  have hs' : ((s.size : Int) == 64) = false := by simp; omega
  have hs3 : ((s.size : Int) != 64) = true := by simp; omega
  by_cases hk : (0 ≤ k ∧ k < d.kept.length)
  · have hd0 : decide ((0 : Int) ≤ (k : Int) ∧ (k : Int) < d.kept.length) = true := decide_eq_true hk
    clear hk hs
    go_enter Tryd.func39, Tryd.ntmps39
    go_wp2_with (go_at_call 59; refine (has_any w p kb _ d _ hd).mono ?_; rintro e w1 ⟨rfl, rfl⟩; rw [hd0])
    go_ret
    exact ⟨rfl, rfl⟩
  · exact write_badAt w p kb pv d k s hd hk

set_option maxHeartbeats 1000000 in
theorem write_nopower (w : World) (p kb : Nat) (pv : Value) (d : D) (k : Nat) (s : ByteArray) (hd : DAt w p kb pv d) (hk : k < d.kept.length) (hs : s.size = 64) (hp : d.power = false) :
    Calls Tryd.prog 39 #[.pointer (some ⟨p, 0, none⟩), .int .i64 (k : Int), .string s] w fun e w' => e = .returned (.int .i64 22) ∧ DAt w' p kb pv d ∧ Only (fun x => x = p) w w' ∧ w'.heap.size = w.heap.size := by
  have hd0 : decide ((0 : Int) ≤ (k : Int) ∧ (k : Int) < d.kept.length) = true := by simp; omega
  have hs' : (s.size : Int) = 64 := by omega
  go_enter Tryd.func39, Tryd.ntmps39
  go_wp2_with (first | (go_at_call 59; refine (has_any w p kb _ d _ hd).mono ?_; rintro e w1 ⟨rfl, rfl⟩; rw [hd0]) | (go_at_call 48; refine (power_any w p kb _ d hd).mono ?_; rintro e w1 ⟨rfl, hd1, ho1, hs1⟩; rw [hp]))
  go_ret
  exact ⟨rfl, by rw [D.paid_no hp] at hd1; exact hd1, ho1, hs1⟩

/-! ### Of a disk that is nil -/
theorem write_nil (w : World) (k : Int) (s : ByteArray) : Calls Tryd.prog 39 #[.pointer none, .int .i64 k, .string s] w fun e w' => e = .returned (.int .i64 1) ∧ w = w' := by
  go_enter Tryd.func39, Tryd.ntmps39
  go_wp2
  go_ret
  exact ⟨rfl, rfl⟩
theorem sync_nil (w : World) : Calls Tryd.prog 25 #[.pointer none] w fun e w' => e = .returned (.int .i64 1) ∧ w = w' := by
  go_enter Tryd.func25, Tryd.ntmps25
  go_wp2
  go_ret
  exact ⟨rfl, rfl⟩
theorem crash_nil (w : World) (v : Value) : Calls Tryd.prog 14 #[.pointer none, v] w fun e w' => e = .returned (.int .i64 1) ∧ w = w' := by
  go_enter Tryd.func14, Tryd.ntmps14
  go_wp2
  go_ret
  exact ⟨rfl, rfl⟩
theorem size_nil (w : World) : Calls Tryd.prog 16 #[.pointer none] w fun e w' => e = .returned (.int .i64 0) ∧ w = w' := by
  go_enter Tryd.func16, Tryd.ntmps16
  go_wp2
  go_ret
  exact ⟨rfl, rfl⟩
end Go.Proofs.YtlgefjcfnnjkbaaDoor
