/- The function Lay of package frame. No conditions. -/
import Derived.Test.YtlgefjcfnnjkbaaFrame
import Derived.Laws.CopyRow
import Derived.Great.BuildSlice
namespace Go.Proofs.Ytlgefjcfnnjkbaa
open Go.RowKit

theorem lay_bad (w : World) (f : Fr) (hs : f.s.length ≤ maxLen) (hr : f.right = false) :
    Calls Try.prog 33 #[f.val] w fun e w' => e = .returned (.tuple #[.string ⟨#[]⟩, .int .i64 120]) ∧ Only (fun _ => False) w w' := by
  have R := right_any (w := w.alloc (.cells f.cells.toArray 23)) f hs
  rw [hr] at R
  clear hs hr
  obtain ⟨e, a, k, s⟩ := f
  unfold Fr.val Fr.cells at R
  unfold Fr.val
  simp only at R ⊢
  have RR := Lib.hid R
  clear R
  go_enter Try.func33, Try.ntmps33
  go_wp2_with (go_at_call 55; refine RR.out.mono ?_; rintro e w1 ⟨rfl, ho⟩)
  go_ret2
  exact ⟨rfl, (Only.alloc _ _ _).trans ho⟩

theorem head_cells (f : Fr) (hr : f.right = true) : bvs f.head = [.int .u8 (f.e / 65536), .int .u8 (f.e / 256 % 256), .int .u8 (f.e % 256), .int .u8 f.a, .int .u8 f.k, .int .u8 (f.s.length : Int), .int .u8 0] := by
  obtain ⟨h1, h2, h3, h4, h5, h6, h7⟩ := f.right_iff.1 hr
  rw [Fr.head_eq]
  simp only [bvs, bv, List.map_cons, List.map_nil, UInt8.toNat_ofNat', List.cons.injEq, Value.int.injEq, true_and, and_true]
  refine ⟨by omega, by omega, by omega, by omega, by omega, by omega, by rfl⟩

theorem Try.info5 : (Try.prog.info? 5).map (fun i => (i.zero, i.size, i.bytes)) = some (some (.int .u8 0), 1, 1) := by kernel_rfl
theorem Try.size5 : (Try.prog.info? 5).map (·.size) = some 1 := by kernel_rfl

def zeros (n : Nat) : List Value := List.replicate n (.int .u8 0)
theorem zeros_bvs (n : Nat) : zeros n = bvs (List.replicate n 0) := by simp [zeros, bvs, bv]
theorem laid_zero (n : Nat) (a b : List UInt8) (h : b.length ≤ n) : laid (bvs a ++ zeros n) a.length (bvs b) = bvs (a ++ b) ++ zeros (n - b.length) := by
  unfold laid
  rw [List.take_left' (length_bvs a), length_bvs, bvs_append, List.append_assoc]
  congr 2
  rw [List.drop_append, length_bvs, List.drop_of_length_le (by rw [length_bvs]; omega)]
  simp [zeros]

theorem be4_cells (n : Nat) (h : n < 4294967296) : bvs (be 4 n) = [.int .u8 ((n : Int) / 16777216), .int .u8 ((n : Int) / 65536 % 256), .int .u8 ((n : Int) / 256 % 256), .int .u8 ((n : Int) % 256)] := by
  simp only [be, List.nil_append, List.cons_append, bvs, bv, List.map_cons, List.map_nil, UInt8.toNat_ofNat', List.cons.injEq, Value.int.injEq, true_and, and_true, Nat.div_div_eq_div_mul]
  refine ⟨by omega, by omega, by omega, by omega⟩

theorem laid_tail4 (a b c : List UInt8) (hn : a.length = 60) (hb : b.length = c.length) : laid (bvs (a ++ c)) 60 (bvs b) = bvs (a ++ b) := by
  unfold laid
  rw [bvs_append, List.take_left' (by rw [length_bvs, hn]), length_bvs, bvs_append, List.drop_of_length_le (by rw [List.length_append, length_bvs, length_bvs]; omega), List.append_nil]

set_option maxHeartbeats 1000000 in
theorem lay_good (w : World) (f : Fr) (hr : f.right = true) :
    Calls Try.prog 33 #[f.val] w fun e w' => e = .returned (.tuple #[.string ⟨f.lay.toArray⟩, .int .i64 0]) ∧ Only (fun _ => False) w w' := by
  obtain ⟨h1, h2, h3, h4, h5, h6, h7⟩ := f.right_iff.1 hr
  have R := right_any (w := w.alloc (.cells f.cells.toArray 23)) f (by unfold maxLen; omega)
  rw [hr] at R
  have HC := Lib.hid (head_cells f hr)
  have HR := Lib.hid hr
  obtain ⟨F, hF⟩ : ∃ F, F = f := ⟨_, rfl⟩
  have HF := Lib.hid hF
  clear hF hr
  obtain ⟨e, a, k, s⟩ := f
  unfold Fr.val Fr.cells at R
  unfold Fr.val
  simp only at R h1 h2 h3 h4 h5 h6 h7 HC ⊢
  rw [← HF.out] at HC HR ⊢
  have RR := Lib.hid R
  have hz := size_toArray s
  clear R
  have HB := Lib.hid (heap_alloc_new w (.cells #[.int .i64 e, .int .i64 a, .int .i64 k, .string ⟨s.toArray⟩] 23))
  go_enter Try.func33, Try.ntmps33
  go_upto_region 4 with (go_at_call 55; refine RR.out.mono ?_; rintro e w1 ⟨rfl, ho⟩; have hb := ho.keep HB.out id)
  have HO := Lib.hid ((Only.alloc w (.cells #[.int .i64 e, .int .i64 a, .int .i64 k, .string ⟨s.toArray⟩] 23) (fun _ => False)).trans ho)
  generalize hwz : w1.alloc (.cells _ 81) = wz
  have hzz := heap_alloc_new w1 (.cells (zeros 64).toArray 81)
  have hzb := (Only.alloc w1 (.cells (zeros 64).toArray 81) (fun _ => False)).keep hb id
  have hzo := HO.out.trans (Only.alloc w1 (.cells (zeros 64).toArray 81) _)
  have hzl : w.heap.size < w1.heap.size := lt_of_block hb
  rw [show w1.alloc (.cells (zeros 64).toArray 81) = wz from hwz] at hzz hzb hzo
  clear ho hb HO
  have HZO := Lib.hid hzo
  clear hzo hwz
  obtain ⟨g, hg⟩ : ∃ g, g = w1.heap.size := ⟨_, rfl⟩
  rw [← hg] at hzz hzl ⊢
  have hgw : g < wz.heap.size := lt_of_block hzz
  have HG := Lib.hid hg
  clear hg
  refine wp_region_pick (fun W => W.heap[w.heap.size]? = some (.cells #[.int .i64 e, .int .i64 a, .int .i64 k, .string ⟨s.toArray⟩] 23 (0, 0))) [(0, 0), (1, 0), (2, 1), (3, 0), (4, 0), (5, 0), (6, 1), (7, 0), (8, 0), (9, 0), (10, 1), (11, 0), (12, 0), (13, 1), (14, 0), (15, 0), (16, 1), (17, 0), (18, 0), (19, 1), (20, 0), (21, 0), (22, 2), (23, 3)] (by kernel_rfl) (by kernel_rfl) (fun _ _ d _ _ h => by cases d <;> exact h) hzb ?_
  simp only [pickOps, List.getElem?_cons_zero, List.getElem?_cons_succ]
  iterate 22 (first | (refine wpL_pure (a' := ?_) ?_ rfl (fun W => ?_) ?_ ?_; rotate_left 2; (· go_simp; first | (go_bits; with_reducible rfl) | with_reducible rfl); (· simp only [put_some, List.setIfInBounds_toArray, List.set_cons_zero, List.set_cons_succ]; rfl)) | (refine wpL_held (a' := ?_) ?_ rfl (fun W hW => ?_) ?_ ?_; rotate_left 2; (· have c0 := cell_at hW 0; have c1 := cell_at hW 1; have c2 := cell_at hW 2; have c3 := cell_at hW 3; go_simp; first | (go_bits; with_reducible rfl) | with_reducible rfl); (· simp only [put_some, List.setIfInBounds_toArray, List.set_cons_zero, List.set_cons_succ]; rfl)))
  have BS : (Instr.buildSlice 30 7 #[(0, .int .u8 (e / 65536)), (1, .int .u8 (e / 256 % 256)), (2, .int .u8 (e % 256)), (3, .int .u8 a), (4, .int .u8 k), (5, .int .u8 (s.length : Int)), (6, .int .u8 0)]).run Try.prog wz.drew = .ok (.slice (some ⟨wz.heap.size, 0, none⟩) 7 7) (wz.drew.alloc (.cells (bvs F.head).toArray 5)) := by
    have := run_buildSlice_flat (P := Try.prog) wz.drew 30 5 _ _ 7 (bvs F.head) (by rw [length_bvs, Fr.head_length]) (bvs_cells _) Try.underlying30 Try.info5 (by decide) (by decide)
    rw [show ((bvs F.head).zipIdx 0).map (fun x => (x.2, x.1)) = [(0, .int .u8 (e / 65536)), (1, .int .u8 (e / 256 % 256)), (2, .int .u8 (e % 256)), (3, .int .u8 a), (4, .int .u8 k), (5, .int .u8 (s.length : Int)), (6, .int .u8 0)] from by rw [HC.out]; rfl] at this
    exact this
  refine wpL_stepRun (a' := ?_) (w' := wz.drew.alloc (.cells (bvs F.head).toArray 5)) (.slice (some ⟨wz.heap.size, 0, none⟩) 7 7) rfl (exec_buildSlice rfl (parts := #[(0, .int .u8 (e / 65536)), (1, .int .u8 (e / 256 % 256)), (2, .int .u8 (e % 256)), (3, .int .u8 a), (4, .int .u8 k), (5, .int .u8 (s.length : Int)), (6, .int .u8 0)]) (by simp only [List.map_toArray, List.map_cons, List.map_nil]; go_simp) BS) ?_ ?_ ?_
  rotate_left
  · exact (Only.alloc _ _ (fun _ => False)).keep (o := .cells _ _ _) hzb id
  · simp only [put_some, List.setIfInBounds_toArray, List.set_cons_zero, List.set_cons_succ]; rfl
  clear BS
  have hnew := heap_alloc_new wz.drew (.cells (bvs F.head).toArray 5)
  have hga := (Only.alloc wz.drew (.cells (bvs F.head).toArray 5) (fun _ => False)).keep (o := .cells _ _ _) hzz id
  have hba := (Only.alloc wz.drew (.cells (bvs F.head).toArray 5) (fun _ => False)).keep (o := .cells _ _ _) hzb id
  have hao := HZO.out.trans ((Only.drew wz _).trans (Only.alloc wz.drew (.cells (bvs F.head).toArray 5) _))
  generalize wz.drew.alloc (.cells (bvs F.head).toArray 5) = wa at hnew hga hba hao ⊢
  have CP := run_copy_row (P := Try.prog) wa 30 30 3 5 g 0 7 64 ⟨wz.heap.size, 0, none⟩ 7 7 (zeros 64).toArray 81 (bvs F.head) Try.underlying30 Try.size5 hga (by rw [length_bvs, Fr.head_length]; rfl) (has_of_block' (l := bvs F.head) hnew (by simp)).adds (by rw [length_bvs, Fr.head_length]; decide) (bvs_one _)
  rw [show ((zeros 64).toArray.toList.take 0 ++ bvs F.head ++ (zeros 64).toArray.toList.drop (0 + (bvs F.head).length)) = bvs F.head ++ zeros 57 from by rw [length_bvs, Fr.head_length]; simp [zeros]] at CP
  refine wpL_lastRun (a' := ?_) (w' := wa.setRow g (bvs F.head ++ zeros 57).toArray) (goInt (bvs F.head).length) rfl (exec_copy rfl rfl rfl CP) ?_ ?_
  rotate_left
  · simp only [put_some, List.setIfInBounds_toArray, List.set_cons_zero, List.set_cons_succ]; rfl
  refine wpL_nil ?_
  clear CP hnew
  have hgb := setRow_heap wa g _ (bvs F.head ++ zeros 57).toArray _ _ hga
  have hbb : (wa.setRow g (bvs F.head ++ zeros 57).toArray).heap[w.heap.size]? = some (.cells #[.int .i64 e, .int .i64 a, .int .i64 k, .string ⟨s.toArray⟩] 23 (0, 0)) := by
    rw [setRow_other wa g _ _ (by omega)]; exact hba
  have hbo := hao.trans' (Only.setRow wa g (bvs F.head ++ zeros 57).toArray (S := fun x => x = g) rfl) (fun y hy e => by omega)
  clear hga hba hao hzz hzb
  generalize wa.setRow g (bvs F.head ++ zeros 57).toArray = wb at hgb hbb hbo ⊢
  have HBO := Lib.hid hbo
  clear hbo
  go_upto_region 5 with fail
  refine wp_region_pick (fun W => W = wb.drew) [(0, 0), (1, 0), (2, 1), (3, 3)] (by kernel_rfl) (by kernel_rfl) (fun _ _ d _ _ h => by cases d <;> exact h) rfl ?_
  simp only [pickOps, List.getElem?_cons_zero, List.getElem?_cons_succ]
  refine wpL_pure (a' := ?_) ?_ rfl (fun W => ?_) ?_ ?_; rotate_left 2; (· go_simp; with_reducible rfl); (· simp only [put_some, List.setIfInBounds_toArray, List.set_cons_zero, List.set_cons_succ]; rfl)
  refine wpL_pure (a' := ?_) ?_ rfl (fun W => ?_) ?_ ?_; rotate_left 2; (· go_simp; with_reducible rfl); (· simp only [put_some, List.setIfInBounds_toArray, List.set_cons_zero, List.set_cons_succ]; rfl)
  have c3 : wb.drew.cell? ⟨w.heap.size, 3, none⟩ = some (.string ⟨s.toArray⟩) := cell_at hbb 3
  refine wpL_held (a' := ?_) (.string ⟨s.toArray⟩) rfl (fun W hW => exec_load (p := .pointer (some ⟨w.heap.size, 3, none⟩)) rfl rfl (run_load_one _ _ _ _ _ Try.underlying9 rfl (by rw [hW]; exact c3))) ?_ ?_
  rotate_left
  · simp only [put_some, List.setIfInBounds_toArray, List.set_cons_zero, List.set_cons_succ]; rfl
  have CS := run_copy_string (P := Try.prog) wb.drew 30 9 3 5 g 7 53 57 s.length ⟨s.toArray⟩ 81 (bvs F.head ++ zeros 57) Try.underlying30 Try.size5 hgb (by rw [hz]; exact Nat.min_eq_left h7) (by rw [List.length_append, length_bvs, Fr.head_length]; simp [zeros]; omega)
  have LZ := laid_zero 57 F.head s (by omega)
  rw [Fr.head_length] at LZ
  rw [List.take_of_length_le (Nat.le_refl _), LZ] at CS
  clear LZ
  refine wpL_lastRun (a' := ?_) (w' := wb.drew.setRow g (bvs (F.head ++ s) ++ zeros (57 - s.length)).toArray) (goInt s.length) rfl (exec_copy rfl rfl rfl CS) ?_ ?_
  rotate_left
  · simp only [put_some, List.setIfInBounds_toArray, List.set_cons_zero, List.set_cons_succ]; rfl
  refine wpL_nil ?_
  clear CS
  have hgc := setRow_heap wb.drew g _ (bvs (F.head ++ s) ++ zeros (57 - s.length)).toArray _ _ hgb
  have hco := (HBO.out.trans (Only.drew _ _)).trans' (Only.setRow wb.drew g (bvs (F.head ++ s) ++ zeros (57 - s.length)).toArray (S := fun x => x = g) rfl) (fun y hy e => by omega)
  clear hgb hbb HBO
  generalize wb.drew.setRow g (bvs (F.head ++ s) ++ zeros (57 - s.length)).toArray = wc at hgc hco ⊢
  have HCO := Lib.hid hco
  clear hco
  have hbody : F.body = F.head ++ s ++ List.replicate (53 - s.length) 0 := by rw [HF.out]; rfl
  have hrow : (bvs (F.head ++ s) ++ zeros (57 - s.length)) = bvs (F.body ++ List.replicate 4 0) := by
    rw [zeros_bvs, hbody, ← bvs_append, List.append_assoc (F.head ++ s), List.replicate_append_replicate]
    congr 3; omega
  rw [hrow] at hgc
  clear hrow hbody
  have hbl := Fr.body_length HR.out
  go_upto_region 6 with fail
  have hh6 : Has wc g 0 (bvs F.body) := has_of_block' hgc (by rw [length_bvs, hbl, bvs_append, List.drop_zero, List.take_left' (by rw [length_bvs, hbl])])
  have SM := Lib.hid (sum_any ⟨F.body.toArray⟩ wc (by rw [size_toArray, hbl]; unfold maxLen; omega))
  go_upto_region 7 with (first | ((with_reducible refine wpList_bytes_string 5 g 0 60 64 F.body ?_ ?_ ?_ ?_ ?_ ?_ ?_); (· exact Try.underlying30); (· exact Try.underlying5); (· exact Try.underlying9); (· exact hbl); (· exact hh6); (· rfl)) | (go_at_call 35; refine SM.out.mono ?_; rintro e w2 ⟨rfl, ho2⟩))
  have ho3 := Only.of_below ho2 (fun _ => False)
  have hgd := ho3.keep hgc id
  have HDO := Lib.hid (HCO.out.trans ho3)
  have hgl2 : g < w2.heap.size := lt_of_block hgd
  clear ho2 ho3 hh6 hgc HCO SM
  have hnl := sum_lt F.body
  have HLT := Lib.hid (laid_tail4 F.body (be 4 (sum F.body)) (List.replicate 4 0) hbl (by rw [be_length]; rfl))
  have HLAY : Hid (F.lay = F.body ++ be 4 (sum F.body)) := Lib.hid rfl
  have hbe := be_length 4 (sum F.body)
  obtain ⟨n, hn⟩ : ∃ n, n = sum F.body := ⟨_, rfl⟩
  rw [← hn] at hnl HLT HLAY hbe ⊢
  clear hn
  have HC2 := Lib.hid (be4_cells n hnl)
  have HGD := Lib.hid hgd
  clear hgd
  have HL2 := Lib.hid (Fr.lay_length HR.out)
  go_upto_region 8 with (first | ((with_reducible refine wpList_buildSlice_bytes 5 (.int .u8 0) 1 (be 4 n) ?_ ?_ ?_ ?_ ?_ ?_ ?_); (· exact hbe); (· exact Try.underlying30); (· exact Try.info5); (· decide); (· decide); (· simp only [List.map_toArray, List.map_cons, List.map_nil, HC2.out, List.zipIdx_cons, List.zipIdx_nil]; go_simp)) | ((with_reducible refine wpList_copy_row' 5 g 60 4 4 w2.heap.size 0 4 4 81 (bvs (F.body ++ List.replicate 4 0)) (bvs (be 4 n)) ?_ ?_ ?_ ?_ ?_ ?_ ?_ ?_ ?_ ?_); (· exact Try.underlying30); (· exact Try.size5); (· exact (Only.alloc _ _ (fun _ => False)).keep (o := .cells _ _ _) HGD.out id); (· rw [length_bvs, hbe]; rfl); (· exact has_of_block' (l := bvs (be 4 n)) (heap_alloc_new w2 _) (by rw [List.drop_zero, List.take_of_length_le (Nat.le_refl _)])); (· rw [length_bvs, length_bvs, hbe, List.length_append, hbl]; decide); (· exact bvs_one _); (· rfl); (· rfl); rw [HLT.out]))
  rw [← HLAY.out]
  simp only [put_some, List.setIfInBounds_toArray, List.set_cons_zero, List.set_cons_succ]
  have hge := setRow_heap (w2.alloc (.cells (bvs (be 4 n)).toArray 5)) g _ (bvs F.lay).toArray _ _ ((Only.alloc _ _ (fun _ => False)).keep (o := .cells _ _ _) HGD.out id)
  have heo := (HDO.out.trans (Only.alloc w2 (.cells (bvs (be 4 n)).toArray 5) _)).trans' (Only.setRow _ g (bvs F.lay).toArray (S := fun x => x = g) rfl) (fun y hy e => by omega)
  generalize (w2.alloc (.cells (bvs (be 4 n)).toArray 5)).setRow g (bvs F.lay).toArray = we at hge heo ⊢
  have HEO := Lib.hid heo
  clear heo HGD HDO HLAY
  go_wp2_with ((with_reducible refine wpList_bytes_string 5 g 0 64 64 F.lay ?_ ?_ ?_ ?_ ?_ ?_ ?_); (· exact Try.underlying30); (· exact Try.underlying5); (· exact Try.underlying9); (· exact HL2.out); (· exact has_of_block' hge (by rw [List.drop_zero, List.take_of_length_le (Nat.le_refl _)])); (· rfl))
  go_ret2
  exact ⟨rfl, HEO.out⟩
end Go.Proofs.Ytlgefjcfnnjkbaa
