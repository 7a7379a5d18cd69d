/- The functions of package disk that touch sectors: lay, Sync, Crash, Rot, Write, New. No conditions. -/
import Derived.Test.YtlgefjcfnnjkbaaDisk
namespace Go.Proofs.Ytlgefjcfnnjkbaa
open Go.RowKit

theorem pendCells_append (a b : List (Nat × List UInt8)) : pendCells (a ++ b) = pendCells a ++ pendCells b := by simp [pendCells]
theorem pendCells_length (l : List (Nat × List UInt8)) (h : ∀ x ∈ l, x.2.length = 64) : (pendCells l).length = 65 * l.length := by
  induction l with
  | nil => rfl
  | cons x l ih =>
    have := h x (List.mem_cons_self)
    have ih' := ih (fun y hy => h y (List.mem_cons_of_mem _ hy))
    simp only [pendCells, List.map_cons, List.flatten_cons, List.length_append, List.length_cons, length_bvs] at ih' ⊢
    omega

theorem flatten_length (l : List (List UInt8)) (h : ∀ x ∈ l, x.length = 64) : l.flatten.length = 64 * l.length := by
  induction l with
  | nil => rfl
  | cons x l ih =>
    have := h x (List.mem_cons_self)
    have ih' := ih (fun y hy => h y (List.mem_cons_of_mem _ hy))
    simp only [List.flatten_cons, List.length_append, List.length_cons] at ih' ⊢
    omega

theorem flatten_split (l : List (List UInt8)) (k : Nat) (hk : k < l.length) : l.flatten = (l.take k).flatten ++ (l[k] ++ (l.drop (k + 1)).flatten) := by
  have e : l = l.take k ++ l[k] :: l.drop (k + 1) := by rw [← List.drop_eq_getElem_cons hk]; simp
  have e' := congrArg List.flatten e
  rw [List.flatten_append, List.flatten_cons] at e'
  exact e'

theorem rows_split (l : List (List UInt8)) (k : Nat) (hk : k < l.length) (h : ∀ x ∈ l, x.length = 64) :
    rowsOf l = bvs (l.take k).flatten ++ (bvs l[k] ++ bvs (l.drop (k + 1)).flatten) ∧ (bvs (l.take k).flatten).length = k * 64 := by
  refine ⟨by rw [rowsOf, flatten_split l k hk]; simp [bvs_append], ?_⟩
  rw [length_bvs, flatten_length _ (fun x hx => h x (List.mem_of_mem_take hx)), List.length_take]
  omega

theorem pend_split (l : List (Nat × List UInt8)) (k : Nat) (hk : k < l.length) (h : ∀ x ∈ l, x.2.length = 64) :
    pendCells l = pendCells (l.take k) ++ ((Value.int .i64 (l[k].1 : Int) :: bvs l[k].2) ++ pendCells (l.drop (k + 1))) ∧ (pendCells (l.take k)).length = k * 65 := by
  have e : l = l.take k ++ ([l[k]] ++ l.drop (k + 1)) := by rw [List.singleton_append, ← List.drop_eq_getElem_cons hk]; simp
  refine ⟨?_, ?_⟩
  · have e' := congrArg pendCells e
    rw [pendCells_append, pendCells_append] at e'
    rw [e']
    congr 2
    simp [pendCells]
  · rw [pendCells_length _ (fun x hx => h x (List.mem_of_mem_take hx)), List.length_take]
    omega

theorem laid_rows (l : List (List UInt8)) (k : Nat) (s : List UInt8) (hk : k < l.length) (h : ∀ x ∈ l, x.length = 64) (hs : s.length = 64) :
    laid (rowsOf l) (k * 64) (bvs s) = rowsOf (l.set k s) := by
  obtain ⟨e1, e2⟩ := rows_split l k hk h
  have hlk : l[k].length = 64 := h _ (List.getElem_mem hk)
  obtain ⟨e3, e4⟩ := rows_split (l.set k s) k (by simpa using hk) (fun x hx => by
    rcases List.mem_or_eq_of_mem_set hx with hx | hx
    · exact h x hx
    · rw [hx]; exact hs)
  rw [e3, e1]
  have ht : (l.set k s).take k = l.take k := by simp [List.take_set_of_le]
  have hd : (l.set k s).drop (k + 1) = l.drop (k + 1) := by simp [List.drop_set_of_lt]
  rw [ht, hd, List.getElem_set_self]
  unfold laid
  rw [List.take_left' (by rw [e2])]
  congr 2
  have : k * 64 + (bvs s).length = (bvs (l.take k).flatten ++ bvs l[k]).length := by rw [List.length_append, e2, length_bvs, length_bvs, hs, hlk]
  rw [← List.append_assoc, List.drop_left' this.symm]

section
variable {w : World} {p kb : Nat} {pv : Value} {d : D} (h : DAt w p kb pv d)
include h
/-- a pending write's cells -/
theorem DAt.pend_at (k : Nat) (hk : k < d.pend.length) : ∃ g cap, pv = .slice (some ⟨g, 0, none⟩) d.pend.length cap ∧ d.pend.length ≤ cap ∧ cap ≤ maxLen ∧ g ≠ p ∧ g ≠ kb ∧ g < w.heap.size ∧
    w.cell? ⟨g, k * 65, none⟩ = some (.int .i64 (d.pend[k].1 : Int)) ∧ Has w g (k * 65 + 1) (bvs d.pend[k].2) := by
  rcases h.pv_shape with ⟨_, hz⟩ | ⟨g, cap, cur, e, h1, h2, hg, hcap, hmax, hsz, htake⟩
  · rw [hz] at hk; simp at hk
  · obtain ⟨e1, e2⟩ := pend_split d.pend k hk (fun x hx => (h.ok.plen x hx).1)
    have hcell : ∀ j u, (pendCells d.pend)[j]? = some u → w.cell? ⟨g, j, none⟩ = some u := by
      intro j u hu
      rw [cell_at hg]
      rw [← htake, List.getElem?_take] at hu
      split at hu
      · simpa using hu
      · cases hu
    refine ⟨g, cap, e, hcap, hmax, h1, h2, lt_of_block hg, hcell _ _ ?_, ?_⟩
    · rw [e1, List.getElem?_append_right (by omega), e2, Nat.sub_self]; rfl
    · intro j u hu
      have hj : j < (bvs d.pend[k].2).length := (List.getElem?_eq_some_iff.1 hu).1
      refine hcell _ _ ?_
      rw [e1, List.getElem?_append_right (by omega), e2, show k * 65 + 1 + j - k * 65 = j + 1 by omega]
      simp only [List.cons_append, List.getElem?_cons_succ]
      rw [List.getElem?_append_left hj]
      exact hu
theorem DAt.row_at (k : Nat) (hk : k < d.kept.length) : Has w kb (k * 64) (bvs d.kept[k]) := by
  obtain ⟨e1, e2⟩ := rows_split d.kept k hk h.ok.len
  have := h.rows
  rw [e1] at this
  rw [← e2]
  exact has_of_block this
end

section
variable {w : World} {p kb : Nat} {pv : Value} {d : D} (h : DAt w p kb pv d)
include h
theorem DAt.drew : DAt w.drew p kb pv d := h.only (S := fun _ => False) (Only.drew _ _) (fun _ _ => id)
theorem DAt.setRows (kept' : List (List UInt8)) {d' : D} (hk : d'.kept = kept') (hl : kept'.length = d.kept.length) (hp : d'.pend = d.pend) (hc : d'.cut = d.cut) (hf : d'.left = d.left) (ho : d'.Ok) :
    DAt (w.setRow kb (rowsOf kept').toArray) p kb pv d' := by
  subst hk
  refine ⟨?_, setRow_heap w kb _ _ _ _ h.rows, ?_, ho⟩
  · rw [setRow_other w kb p _ (Ne.symm h.kb_ne)]
    have : headOf kb pv d' = headOf kb pv d := by simp [headOf, hl, hc, hf]
    rw [this]; exact h.head
  · rw [hp]; exact ownsRow_only h.pend (Only.setRow w kb _ (S := fun x => x = kb) rfl) (fun k e he => h.pv_ne.2 (by rw [e, he]))
end

theorem Try.size92 : (Try.prog.info? 92).map (·.size) = some 64 := by kernel_rfl
theorem Try.und92 : ∃ n e, Try.prog.underlying 92 = some (.array n e) := ⟨64, 5, by kernel_rfl⟩

set_option maxRecDepth 100000 in
set_option maxHeartbeats 1000000 in
theorem diskLay_any (w : World) (p kb : Nat) (pv : Value) (d : D) (k : Nat) (hd : DAt w p kb pv d) (hk : k < d.pend.length) :
    Calls Try.prog 57 #[.pointer (some ⟨p, 0, none⟩), .int .i64 (k : Int)] w fun e w' => e = .returned (.tuple #[]) ∧ DAt w' p kb pv { d with kept := layK d.kept d.pend[k] } ∧ Only (fun x => x = kb) w w' ∧ w'.heap.size = w.heap.size := by
  obtain ⟨g, cap, rfl, hcap, hmax, hgp, hgk, hglt, hat, hhas⟩ := hd.pend_at k hk
  have hpl := hd.ok.plen _ (List.getElem_mem hk)
  have c0 := hd.c0
  have c1 := hd.c1
  have hm := hd.ok.many
  have hx1 : (d.pend[k].1 : Int) < d.kept.length := by have := hpl.2; omega
  unfold maxLen at hmax
  go_enter Try.func57, Try.ntmps57
  go_wp2
  refine wp_region_pick (fun W => W = w.drew) [(0, 0), (1, 0), (2, 0), (3, 1), (4, 0), (5, 0), (6, 0), (7, 1), (8, 0), (9, 0), (10, 0), (11, 1), (12, 0), (13, 3)] (by kernel_rfl) (by kernel_rfl) (fun _ _ d _ _ h => by cases d <;> exact h) rfl ?_
  simp only [pickOps, List.getElem?_cons_zero, List.getElem?_cons_succ]
  iterate 11 (first | (refine wpL_pure (a' := ?_) ?_ rfl (fun W => ?_) ?_ ?_; rotate_left 2; (· go_simp; with_reducible rfl); (· simp only [put_some, List.setIfInBounds_toArray, List.set_cons_zero, List.set_cons_succ]; rfl)) | (refine wpL_held (a' := ?_) ?_ rfl (fun W hW => ?_) ?_ ?_; rotate_left 2; (· subst hW; go_simp; with_reducible rfl); (· simp only [put_some, List.setIfInBounds_toArray, List.set_cons_zero, List.set_cons_succ]; rfl)))
  refine wpL_held (a' := ?_) (.agg (bvs d.pend[k].2).toArray) rfl (fun W hW => exec_load (p := .pointer (some ⟨g, k * 65 + 1, none⟩)) rfl rfl (run_load_part W g (k * 65 + 1) 64 _ _ _ Try.underlying92 rfl Try.size92 (by rw [length_bvs]; exact hpl.1) (by subst hW; exact hhas))) (by simp only [put_some, List.setIfInBounds_toArray, List.set_cons_zero, List.set_cons_succ]; rfl) ?_
  refine wpL_pure (a' := ?_) ?_ rfl (fun W => ?_) ?_ ?_; rotate_left 2; (· go_simp; with_reducible rfl); (· simp only [put_some, List.setIfInBounds_toArray, List.set_cons_zero, List.set_cons_succ]; rfl)
  refine wpL_last rfl (fun K hK => ?_)
  refine wp_store rfl rfl rfl (run_store_part _ kb (d.pend[k].1 * 64) 64 92 92 (rowsOf d.kept) (bvs d.pend[k].2) Try.size92 (by rw [length_bvs]; exact hpl.1) hd.rows (by rw [length_bvs, rowsOf, length_bvs, flatten_length _ hd.ok.len]; omega) (bvs_one _)) ?_
  refine hK _ _ (wpL_nil ?_)
  go_wp2
  go_end0
  rw [laid_rows d.kept d.pend[k].1 d.pend[k].2 hpl.2 hd.ok.len hpl.1]
  have hok : ({ d with kept := d.kept.set d.pend[k].1 d.pend[k].2 } : D).Ok :=
    ⟨fun x hx => by
      rcases List.mem_or_eq_of_mem_set hx with hx | hx
      · exact hd.ok.len x hx
      · rw [hx]; exact hpl.1, by simp only [List.length_set]; exact hd.ok.plen, by simp only [List.length_set]; exact hd.ok.many, hd.ok.leftLe⟩
  refine ⟨rfl, hd.drew.setRows _ rfl (by simp) rfl rfl rfl hok, (Only.drew _ _).trans (Only.setRow _ _ _ rfl), by simp⟩

set_option maxHeartbeats 1000000 in
theorem sync_nopower (w : World) (p kb : Nat) (pv : Value) (d : D) (hd : DAt w p kb pv d) (hp : d.power = false) :
    Calls Try.prog 45 #[.pointer (some ⟨p, 0, none⟩)] w fun e w' => e = .returned (.int .i64 22) ∧ DAt w' p kb pv d ∧ Only (fun k => k = p) w w' ∧ w'.heap.size = w.heap.size := by
  go_enter Try.func45, Try.ntmps45
  go_wp2_with (go_at_call 60; refine (power_any w p kb pv d hd).mono ?_; rintro e w' ⟨rfl, hd', ho', hs'⟩)
  go_ret
  exact ⟨rfl, by rw [D.paid_no hp] at hd'; exact hd', ho', hs'⟩

theorem layAll_succ (d : D) (k : Nat) (hk : k < d.pend.length) : d.layAll (List.range (k + 1)) = layK (d.layAll (List.range k)) d.pend[k] := by
  unfold D.layAll
  rw [List.range_succ, List.foldl_append]
  simp [hk]

/-- a disk of which the first k pending writes were laid -/
def D.laidTo (d : D) (ks : List Nat) : D := { d with kept := d.layAll ks }
theorem D.laidTo_ok {d : D} (h : d.Ok) (ks : List Nat) (hk : ∀ k ∈ ks, k < d.pend.length) : (d.laidTo ks).Ok :=
  ⟨layAll_len h _ hk, by simp only [laidTo, layAll_length]; exact h.plen, by simp only [laidTo, layAll_length]; exact h.many, h.leftLe⟩

theorem D.layAll_spent (d : D) (ks : List Nat) : d.spent.layAll ks = d.layAll ks := by simp [D.layAll, spent_kept, spent_pend]

set_option maxHeartbeats 2000000 in
theorem sync_any (w : World) (p kb : Nat) (pv : Value) (d : D) (hd : DAt w p kb pv d) (hp : d.power = true) :
    Calls Try.prog 45 #[.pointer (some ⟨p, 0, none⟩)] w fun e w' => e = .returned (.int .i64 0) ∧ DAt w' p kb (.slice none 0 0) d.sync ∧ Only (fp p kb pv) w w' ∧ w'.heap.size = w.heap.size := by
  obtain ⟨ao, cap, rfl, hn⟩ := hd.pv_slice
  go_enter Try.func45, Try.ntmps45
  go_wp2_with (go_at_call 60; refine (power_any w p kb _ d hd).mono ?_; rintro e w1 ⟨rfl, hd1, ho1, hs1⟩; have c1 := hd1.c1)
  rw [D.paid_yes hp] at hd1
  go_loopw [14] (fun i wr => ∃ k : Nat, k ≤ d.pend.length ∧ i = .int .i64 k ∧ DAt wr p kb (.slice ao d.pend.length cap) (d.spent.laidTo (List.range k)) ∧ Only (fp p kb (.slice ao d.pend.length cap)) w wr ∧ Hid (wr.heap.size = w.heap.size)) (fun i _ => d.pend.length - (intOf i).toNat)
  case atStart => exact ⟨0, by omega, rfl, hd1, ho1.mono (fun k _ e => .inl e), hs1⟩
  case round =>
    obtain ⟨k, hk, rfl, hdr, hor, hsr⟩ := hrel
    have hkp : ∀ (h' : k < d.spent.pend.length), d.spent.pend[k] = d.spent.pend[k] := fun _ => rfl
    by_cases hlt : k < d.pend.length
    · have hlt' : k < (d.spent.laidTo (List.range k)).pend.length := by simpa [D.laidTo, D.spent_pend] using hlt
      go_wp2_with (go_at_call 57; refine (diskLay_any wr p kb _ _ k hdr hlt').mono ?_; rintro e w2 ⟨rfl, hd2, ho2, hs2⟩)
      go_roundw
      case rel =>
        refine ⟨k + 1, by omega, by go_num, ?_, hor.trans (ho2.mono (fun x _ e => .inr (.inl e))), hs2.trans hsr.out⟩
        have e : (({ d.spent.laidTo (List.range k) with kept := layK (d.spent.laidTo (List.range k)).kept (d.spent.laidTo (List.range k)).pend[k] } : D)) = d.spent.laidTo (List.range (k + 1)) := by
          simp only [D.laidTo]
          rw [layAll_succ d.spent k (by rw [D.spent_pend]; exact hlt)]
        rw [e] at hd2
        exact hd2
      case measure => simp [intOf]; omega
    · obtain rfl : k = d.pend.length := by omega
      have c1' := hdr.c1
      have f1 := hdr.f 1
      go_wp2
      go_ret
      refine ⟨rfl, ?_, hor.trans (Only.setCell _ _ _ _ (.inl rfl)), by simp [hsr.out]⟩
      refine ⟨?_, ?_, ?_, hd.ok.sync⟩
      · rw [heap_setCell_same wr p 1 _ _ _ hdr.head]
        simp [headOf, D.sync, D.laidTo, D.layAll_spent, D.layAll_length]
      · rw [Below.heap_setCell _ _ _ _ hdr.kb_ne]
        have := hdr.rows
        simpa [D.laidTo, D.layAll_spent, D.sync] using this
      · simpa [D.sync, pendCells] using World.ownsRow_nil _ _ _ _
end Go.Proofs.Ytlgefjcfnnjkbaa
