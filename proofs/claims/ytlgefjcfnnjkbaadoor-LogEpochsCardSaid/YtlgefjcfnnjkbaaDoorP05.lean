/- Parts of the proof, one behind the other: Frame2, Bits, Frame3, Frame4, Frame5, Frame8, App, Sl. Each part's own words say what it proves; no conditions. -/
import Derived.Laws.CopyRow
import Derived.Great.BuildSlice
import Derived.Laws.BitsAllLaws
import Derived.Laws.BitsLemmas
import Derived.Deep.AppendSrc
import Derived.Test.YtlgefjcfnnjkbaaDoorP02
import Derived.Test.YtlgefjcfnnjkbaaDoorP04
set_option linter.unusedVariables false
set_option linter.unusedSimpArgs false
set_option linter.unusedSectionVars false
/- The function Lay of package frame. No conditions. -/
namespace Go.Proofs.YtlgefjcfnnjkbaaDoor
set_option maxRecDepth 100000
open Go.RowKit

theorem lay_bad (w : World) (f : Fr) (hs : f.s.length ≤ maxLen) (hr : f.right = false) :
    Calls Tryd.prog 63 #[f.val] w fun e w' => e = .returned (.tuple #[.string ⟨#[]⟩, .int .i64 120]) ∧ Only (fun _ => False) w w' := by
  have R := right_any (w := w.alloc (.cells f.cells.toArray 86)) f hs
  rw [hr] at R
  clear hs hr
  obtain ⟨e, a, k, s⟩ := f
  unfold Fr.val Fr.cells at R
  unfold Fr.val
  simp only at R ⊢
  have RR := Lib.hid R
  clear R
  go_enter Tryd.func63, Tryd.ntmps63
  go_wp2_with (go_at_call 66; refine RR.out.mono ?_; rintro e w1 ⟨rfl, ho⟩)
  go_ret2
  exact ⟨rfl, (Only.alloc _ _ _).trans ho⟩

theorem head_cells (f : Fr) (hr : f.right = true) : bvs f.head = [.int .u8 (f.e / 65536), .int .u8 (f.e / 256 % 256), .int .u8 (f.e % 256), .int .u8 f.a, .int .u8 f.k, .int .u8 (f.s.length : Int), .int .u8 0] := by
  obtain ⟨h1, h2, h3, h4, h5, h6, h7⟩ := f.right_iff.1 hr
  rw [Fr.head_eq]
  simp only [bvs, bv, List.map_cons, List.map_nil, UInt8.toNat_ofNat', List.cons.injEq, Value.int.injEq, true_and, and_true]
  refine ⟨by omega, by omega, by omega, by omega, by omega, by omega, by rfl⟩

theorem Tryd.info5 : (Tryd.prog.info? 5).map (fun i => (i.zero, i.size, i.bytes)) = some (some (.int .u8 0), 1, 1) := by kernel_rfl
theorem Tryd.size5 : (Tryd.prog.info? 5).map (·.size) = some 1 := by kernel_rfl

def zeros (n : Nat) : List Value := List.replicate n (.int .u8 0)
theorem zeros_bvs (n : Nat) : zeros n = bvs (List.replicate n 0) := by simp [zeros, bvs, bv]
theorem laid_zero (n : Nat) (a b : List UInt8) (h : b.length ≤ n) : laid (bvs a ++ zeros n) a.length (bvs b) = bvs (a ++ b) ++ zeros (n - b.length) := by
  unfold laid
  rw [List.take_left' (length_bvs a), length_bvs, bvs_append, List.append_assoc]
  congr 2
  rw [List.drop_append, length_bvs, List.drop_of_length_le (by rw [length_bvs]; omega)]
  simp [zeros]

theorem be4_cells (n : Nat) (h : n < 4294967296) : bvs (be 4 n) = [.int .u8 ((n : Int) / 16777216), .int .u8 ((n : Int) / 65536 % 256), .int .u8 ((n : Int) / 256 % 256), .int .u8 ((n : Int) % 256)] := by
  simp only [be, List.nil_append, List.cons_append, bvs, bv, List.map_cons, List.map_nil, UInt8.toNat_ofNat', List.cons.injEq, Value.int.injEq, true_and, and_true, Nat.div_div_eq_div_mul]
  refine ⟨by omega, by omega, by omega, by omega⟩

theorem laid_tail4 (a b c : List UInt8) (hn : a.length = 60) (hb : b.length = c.length) : laid (bvs (a ++ c)) 60 (bvs b) = bvs (a ++ b) := by
  unfold laid
  rw [bvs_append, List.take_left' (by rw [length_bvs, hn]), length_bvs, bvs_append, List.drop_of_length_le (by rw [List.length_append, length_bvs, length_bvs]; omega), List.append_nil]

set_option maxRecDepth 100000 in
set_option maxHeartbeats 1000000 in
theorem lay_good (w : World) (f : Fr) (hr : f.right = true) :
    Calls Tryd.prog 63 #[f.val] w fun e w' => e = .returned (.tuple #[.string ⟨f.lay.toArray⟩, .int .i64 0]) ∧ Only (fun _ => False) w w' := by
  obtain ⟨h1, h2, h3, h4, h5, h6, h7⟩ := f.right_iff.1 hr
  have R := right_any (w := w.alloc (.cells f.cells.toArray 86)) f (by unfold maxLen; omega)
  rw [hr] at R
  have HC := Lib.hid (head_cells f hr)
  have HR := Lib.hid hr
  obtain ⟨F, hF⟩ : ∃ F, F = f := ⟨_, rfl⟩
  have HF := Lib.hid hF
  clear hF hr
  obtain ⟨e, a, k, s⟩ := f
  unfold Fr.val Fr.cells at R
  unfold Fr.val
  simp only at R h1 h2 h3 h4 h5 h6 h7 HC ⊢
  rw [← HF.out] at HC HR ⊢
  have RR := Lib.hid R
  have hz := size_toArray s
  clear R
  have HB := Lib.hid (heap_alloc_new w (.cells #[.int .i64 e, .int .i64 a, .int .i64 k, .string ⟨s.toArray⟩] 86))
  go_enter Tryd.func63, Tryd.ntmps63
  go_upto_region 4 with (go_at_call 66; refine RR.out.mono ?_; rintro e w1 ⟨rfl, ho⟩; have hb := ho.keep HB.out id)
  have HO := Lib.hid ((Only.alloc w (.cells #[.int .i64 e, .int .i64 a, .int .i64 k, .string ⟨s.toArray⟩] 86) (fun _ => False)).trans ho)
  generalize hwz : w1.alloc (.cells _ 122) = wz
  have hzz := heap_alloc_new w1 (.cells (zeros 64).toArray 122)
  have hzb := (Only.alloc w1 (.cells (zeros 64).toArray 122) (fun _ => False)).keep hb id
  have hzo := HO.out.trans (Only.alloc w1 (.cells (zeros 64).toArray 122) _)
  have hzl : w.heap.size < w1.heap.size := lt_of_block hb
  rw [show w1.alloc (.cells (zeros 64).toArray 122) = wz from hwz] at hzz hzb hzo
  clear ho hb HO
  have HZO := Lib.hid hzo
  clear hzo hwz
  obtain ⟨g, hg⟩ : ∃ g, g = w1.heap.size := ⟨_, rfl⟩
  rw [← hg] at hzz hzl ⊢
  have hgw : g < wz.heap.size := lt_of_block hzz
  have HG := Lib.hid hg
  clear hg
  refine wp_region_pick (fun W => W.heap[w.heap.size]? = some (.cells #[.int .i64 e, .int .i64 a, .int .i64 k, .string ⟨s.toArray⟩] 86 (0, 0))) [(0, 0), (1, 0), (2, 1), (3, 0), (4, 0), (5, 0), (6, 1), (7, 0), (8, 0), (9, 0), (10, 1), (11, 0), (12, 0), (13, 1), (14, 0), (15, 0), (16, 1), (17, 0), (18, 0), (19, 1), (20, 0), (21, 0), (22, 2), (23, 3)] (by kernel_rfl) (by kernel_rfl) (fun _ _ d _ _ h => by cases d <;> exact h) hzb ?_
  simp only [pickOps, List.getElem?_cons_zero, List.getElem?_cons_succ]
  iterate 22 (first | (refine wpL_pure (a' := ?_) ?_ rfl (fun W => ?_) ?_ ?_; rotate_left 2; (· go_simp; first | (go_bits; with_reducible rfl) | with_reducible rfl); (· simp only [put_some, List.setIfInBounds_toArray, List.set_cons_zero, List.set_cons_succ]; rfl)) | (refine wpL_held (a' := ?_) ?_ rfl (fun W hW => ?_) ?_ ?_; rotate_left 2; (· have c0 := cell_at hW 0; have c1 := cell_at hW 1; have c2 := cell_at hW 2; have c3 := cell_at hW 3; go_simp; first | (go_bits; with_reducible rfl) | with_reducible rfl); (· simp only [put_some, List.setIfInBounds_toArray, List.set_cons_zero, List.set_cons_succ]; rfl)))
  have BS : (Instr.buildSlice 47 7 #[(0, .int .u8 (e / 65536)), (1, .int .u8 (e / 256 % 256)), (2, .int .u8 (e % 256)), (3, .int .u8 a), (4, .int .u8 k), (5, .int .u8 (s.length : Int)), (6, .int .u8 0)]).run Tryd.prog wz.drew = .ok (.slice (some ⟨wz.heap.size, 0, none⟩) 7 7) (wz.drew.alloc (.cells (bvs F.head).toArray 5)) := by
    have := run_buildSlice_flat (P := Tryd.prog) wz.drew 47 5 _ _ 7 (bvs F.head) (by rw [length_bvs, Fr.head_length]) (bvs_cells _) Tryd.underlying47 Tryd.info5 (by decide) (by decide)
    rw [show ((bvs F.head).zipIdx 0).map (fun x => (x.2, x.1)) = [(0, .int .u8 (e / 65536)), (1, .int .u8 (e / 256 % 256)), (2, .int .u8 (e % 256)), (3, .int .u8 a), (4, .int .u8 k), (5, .int .u8 (s.length : Int)), (6, .int .u8 0)] from by rw [HC.out]; rfl] at this
    exact this
  refine wpL_stepRun (a' := ?_) (w' := wz.drew.alloc (.cells (bvs F.head).toArray 5)) (.slice (some ⟨wz.heap.size, 0, none⟩) 7 7) rfl (exec_buildSlice rfl (parts := #[(0, .int .u8 (e / 65536)), (1, .int .u8 (e / 256 % 256)), (2, .int .u8 (e % 256)), (3, .int .u8 a), (4, .int .u8 k), (5, .int .u8 (s.length : Int)), (6, .int .u8 0)]) (by simp only [List.map_toArray, List.map_cons, List.map_nil]; go_simp) BS) ?_ ?_ ?_
  rotate_left
  · exact (Only.alloc _ _ (fun _ => False)).keep (o := .cells _ _ _) hzb id
  · simp only [put_some, List.setIfInBounds_toArray, List.set_cons_zero, List.set_cons_succ]; rfl
  clear BS
  have hnew := heap_alloc_new wz.drew (.cells (bvs F.head).toArray 5)
  have hga := (Only.alloc wz.drew (.cells (bvs F.head).toArray 5) (fun _ => False)).keep (o := .cells _ _ _) hzz id
  have hba := (Only.alloc wz.drew (.cells (bvs F.head).toArray 5) (fun _ => False)).keep (o := .cells _ _ _) hzb id
  have hao := HZO.out.trans ((Only.drew wz _).trans (Only.alloc wz.drew (.cells (bvs F.head).toArray 5) _))
  generalize wz.drew.alloc (.cells (bvs F.head).toArray 5) = wa at hnew hga hba hao ⊢
  have CP := run_copy_row (P := Tryd.prog) wa 47 47 3 5 g 0 7 64 ⟨wz.heap.size, 0, none⟩ 7 7 (zeros 64).toArray 122 (bvs F.head) Tryd.underlying47 Tryd.size5 hga (by rw [length_bvs, Fr.head_length]; rfl) (has_of_block' (l := bvs F.head) hnew (by simp)).adds (by rw [length_bvs, Fr.head_length]; decide) (bvs_one _)
  rw [show ((zeros 64).toArray.toList.take 0 ++ bvs F.head ++ (zeros 64).toArray.toList.drop (0 + (bvs F.head).length)) = bvs F.head ++ zeros 57 from by rw [length_bvs, Fr.head_length]; simp [zeros]] at CP
  refine wpL_lastRun (a' := ?_) (w' := wa.setRow g (bvs F.head ++ zeros 57).toArray) (goInt (bvs F.head).length) rfl (exec_copy rfl rfl rfl CP) ?_ ?_
  rotate_left
  · simp only [put_some, List.setIfInBounds_toArray, List.set_cons_zero, List.set_cons_succ]; rfl
  refine wpL_nil ?_
  clear CP hnew
  have hgb := setRow_heap wa g _ (bvs F.head ++ zeros 57).toArray _ _ hga
  have hbb : (wa.setRow g (bvs F.head ++ zeros 57).toArray).heap[w.heap.size]? = some (.cells #[.int .i64 e, .int .i64 a, .int .i64 k, .string ⟨s.toArray⟩] 86 (0, 0)) := by
    rw [setRow_other wa g _ _ (by omega)]; exact hba
  have hbo := hao.trans' (Only.setRow wa g (bvs F.head ++ zeros 57).toArray (S := fun x => x = g) rfl) (fun y hy e => by omega)
  clear hga hba hao hzz hzb
  generalize wa.setRow g (bvs F.head ++ zeros 57).toArray = wb at hgb hbb hbo ⊢
  have HBO := Lib.hid hbo
  clear hbo
  go_upto_region 5 with fail
  refine wp_region_pick (fun W => W = wb.drew) [(0, 0), (1, 0), (2, 1), (3, 3)] (by kernel_rfl) (by kernel_rfl) (fun _ _ d _ _ h => by cases d <;> exact h) rfl ?_
  simp only [pickOps, List.getElem?_cons_zero, List.getElem?_cons_succ]
  refine wpL_pure (a' := ?_) ?_ rfl (fun W => ?_) ?_ ?_; rotate_left 2; (· go_simp; with_reducible rfl); (· simp only [put_some, List.setIfInBounds_toArray, List.set_cons_zero, List.set_cons_succ]; rfl)
  refine wpL_pure (a' := ?_) ?_ rfl (fun W => ?_) ?_ ?_; rotate_left 2; (· go_simp; with_reducible rfl); (· simp only [put_some, List.setIfInBounds_toArray, List.set_cons_zero, List.set_cons_succ]; rfl)
  have c3 : wb.drew.cell? ⟨w.heap.size, 3, none⟩ = some (.string ⟨s.toArray⟩) := cell_at hbb 3
  refine wpL_held (a' := ?_) (.string ⟨s.toArray⟩) rfl (fun W hW => exec_load (p := .pointer (some ⟨w.heap.size, 3, none⟩)) rfl rfl (run_load_one _ _ _ _ _ Tryd.underlying9 rfl (by rw [hW]; exact c3))) ?_ ?_
  rotate_left
  · simp only [put_some, List.setIfInBounds_toArray, List.set_cons_zero, List.set_cons_succ]; rfl
  have CS := run_copy_string (P := Tryd.prog) wb.drew 47 9 3 5 g 7 53 57 s.length ⟨s.toArray⟩ 122 (bvs F.head ++ zeros 57) Tryd.underlying47 Tryd.size5 hgb (by rw [hz]; exact Nat.min_eq_left h7) (by rw [List.length_append, length_bvs, Fr.head_length]; simp [zeros]; omega)
  have LZ := laid_zero 57 F.head s (by omega)
  rw [Fr.head_length] at LZ
  rw [List.take_of_length_le (Nat.le_refl _), LZ] at CS
  clear LZ
  refine wpL_lastRun (a' := ?_) (w' := wb.drew.setRow g (bvs (F.head ++ s) ++ zeros (57 - s.length)).toArray) (goInt s.length) rfl (exec_copy rfl rfl rfl CS) ?_ ?_
  rotate_left
  · simp only [put_some, List.setIfInBounds_toArray, List.set_cons_zero, List.set_cons_succ]; rfl
  refine wpL_nil ?_
  clear CS
  have hgc := setRow_heap wb.drew g _ (bvs (F.head ++ s) ++ zeros (57 - s.length)).toArray _ _ hgb
  have hco := (HBO.out.trans (Only.drew _ _)).trans' (Only.setRow wb.drew g (bvs (F.head ++ s) ++ zeros (57 - s.length)).toArray (S := fun x => x = g) rfl) (fun y hy e => by omega)
  clear hgb hbb HBO
  generalize wb.drew.setRow g (bvs (F.head ++ s) ++ zeros (57 - s.length)).toArray = wc at hgc hco ⊢
  have HCO := Lib.hid hco
  clear hco
  have hbody : F.body = F.head ++ s ++ List.replicate (53 - s.length) 0 := by rw [HF.out]; rfl
  have hrow : (bvs (F.head ++ s) ++ zeros (57 - s.length)) = bvs (F.body ++ List.replicate 4 0) := by
    rw [zeros_bvs, hbody, ← bvs_append, List.append_assoc (F.head ++ s), List.replicate_append_replicate]
    congr 3; omega
  rw [hrow] at hgc
  clear hrow hbody
  have hbl := Fr.body_length HR.out
  go_upto_region 6 with fail
  have hh6 : Has wc g 0 (bvs F.body) := has_of_block' hgc (by rw [length_bvs, hbl, bvs_append, List.drop_zero, List.take_left' (by rw [length_bvs, hbl])])
  have SM := Lib.hid (sum_any ⟨F.body.toArray⟩ wc (by rw [size_toArray, hbl]; unfold maxLen; omega))
  go_upto_region 7 with (first | ((with_reducible refine wpList_bytes_string 5 g 0 60 64 F.body ?_ ?_ ?_ ?_ ?_ ?_ ?_); (· exact Tryd.underlying47); (· exact Tryd.underlying5); (· exact Tryd.underlying9); (· exact hbl); (· exact hh6); (· rfl)) | (go_at_call 77; refine SM.out.mono ?_; rintro e w2 ⟨rfl, ho2⟩))
  have ho3 := Only.of_below ho2 (fun _ => False)
  have hgd := ho3.keep hgc id
  have HDO := Lib.hid (HCO.out.trans ho3)
  have hgl2 : g < w2.heap.size := lt_of_block hgd
  clear ho2 ho3 hh6 hgc HCO SM
  have hnl := sum_lt F.body
  have HLT := Lib.hid (laid_tail4 F.body (be 4 (sum F.body)) (List.replicate 4 0) hbl (by rw [be_length]; rfl))
  have HLAY : Hid (F.lay = F.body ++ be 4 (sum F.body)) := Lib.hid rfl
  have hbe := be_length 4 (sum F.body)
  obtain ⟨n, hn⟩ : ∃ n, n = sum F.body := ⟨_, rfl⟩
  rw [← hn] at hnl HLT HLAY hbe ⊢
  clear hn
  have HC2 := Lib.hid (be4_cells n hnl)
  have HGD := Lib.hid hgd
  clear hgd
  have HL2 := Lib.hid (Fr.lay_length HR.out)
  go_upto_region 8 with (first | ((with_reducible refine wpList_buildSlice_bytes 5 (.int .u8 0) 1 (be 4 n) ?_ ?_ ?_ ?_ ?_ ?_ ?_); (· exact hbe); (· exact Tryd.underlying47); (· exact Tryd.info5); (· decide); (· decide); (· simp only [List.map_toArray, List.map_cons, List.map_nil, HC2.out, List.zipIdx_cons, List.zipIdx_nil]; go_simp)) | ((with_reducible refine wpList_copy_row' 5 g 60 4 4 w2.heap.size 0 4 4 122 (bvs (F.body ++ List.replicate 4 0)) (bvs (be 4 n)) ?_ ?_ ?_ ?_ ?_ ?_ ?_ ?_ ?_ ?_); (· exact Tryd.underlying47); (· exact Tryd.size5); (· exact (Only.alloc _ _ (fun _ => False)).keep (o := .cells _ _ _) HGD.out id); (· rw [length_bvs, hbe]; rfl); (· exact has_of_block' (l := bvs (be 4 n)) (heap_alloc_new w2 _) (by rw [List.drop_zero, List.take_of_length_le (Nat.le_refl _)])); (· rw [length_bvs, length_bvs, hbe, List.length_append, hbl]; decide); (· exact bvs_one _); (· rfl); (· rfl); rw [HLT.out]))
  rw [← HLAY.out]
  simp only [put_some, List.setIfInBounds_toArray, List.set_cons_zero, List.set_cons_succ]
  have hge := setRow_heap (w2.alloc (.cells (bvs (be 4 n)).toArray 5)) g _ (bvs F.lay).toArray _ _ ((Only.alloc _ _ (fun _ => False)).keep (o := .cells _ _ _) HGD.out id)
  have heo := (HDO.out.trans (Only.alloc w2 (.cells (bvs (be 4 n)).toArray 5) _)).trans' (Only.setRow _ g (bvs F.lay).toArray (S := fun x => x = g) rfl) (fun y hy e => by omega)
  generalize (w2.alloc (.cells (bvs (be 4 n)).toArray 5)).setRow g (bvs F.lay).toArray = we at hge heo ⊢
  have HEO := Lib.hid heo
  clear heo HGD HDO HLAY
  go_wp2_with ((with_reducible refine wpList_bytes_string 5 g 0 64 64 F.lay ?_ ?_ ?_ ?_ ?_ ?_ ?_); (· exact Tryd.underlying47); (· exact Tryd.underlying5); (· exact Tryd.underlying9); (· exact HL2.out); (· exact has_of_block' hge (by rw [List.drop_zero, List.take_of_length_le (Nat.le_refl _)])); (· rfl))
  go_ret2
  exact ⟨rfl, HEO.out⟩
end Go.Proofs.YtlgefjcfnnjkbaaDoor
/- Bits of int: or, xor of small numbers. No conditions. -/
namespace Go.Proofs.YtlgefjcfnnjkbaaDoor
set_option maxRecDepth 100000
open Go.RowKit

theorem ofInt_i64 (a : Nat) (h : a < 9223372036854775808) : (BitVec.ofInt 64 (a : Int)).toNat = a := by
  rw [BitVec.toNat_ofInt]; omega

theorem i64_or_nat (a b : Nat) (ha : a < 9223372036854775808) (hb : b < 9223372036854775808) : bits .or .i64 (a : Int) (b : Int) = ((a ||| b : Nat) : Int) := by
  have hx : a ||| b < 2 ^ 63 := Nat.or_lt_two_pow (by omega) (by omega)
  show IntKind.i64.wrap ((BitVec.ofInt 64 (a : Int) ||| BitVec.ofInt 64 (b : Int)).toNat : Int) = _
  rw [BitVec.toNat_or, ofInt_i64 a ha, ofInt_i64 b hb]
  rw [IntKind.wrap_i64]
  omega
theorem i64_xor_nat (a b : Nat) (ha : a < 9223372036854775808) (hb : b < 9223372036854775808) : bits .xor .i64 (a : Int) (b : Int) = ((a ^^^ b : Nat) : Int) := by
  have hx : a ^^^ b < 2 ^ 63 := Nat.xor_lt_two_pow (by omega) (by omega)
  show IntKind.i64.wrap ((BitVec.ofInt 64 (a : Int) ^^^ BitVec.ofInt 64 (b : Int)).toNat : Int) = _
  rw [BitVec.toNat_xor, ofInt_i64 a ha, ofInt_i64 b hb]
  rw [IntKind.wrap_i64]
  omega

theorem or_add (a b k : Nat) (h : b < 2 ^ k) : (a * 2 ^ k) ||| b = a * 2 ^ k + b := by
  rw [← Nat.shiftLeft_eq, Nat.shiftLeft_add_eq_or_of_lt h]

theorem three_bytes (a b c : Nat) (ha : a < 256) (hb : b < 256) (hc : c < 256) : bits .or .i64 (bits .or .i64 ((a : Int) * 65536) ((b : Int) * 256)) (c : Int) = ((a * 65536 + b * 256 + c : Nat) : Int) := by
  have e1 : bits .or .i64 ((a : Int) * 65536) ((b : Int) * 256) = (((a * 256 + b) * 256 : Nat) : Int) := by
    have := i64_or_nat (a * 65536) (b * 256) (by omega) (by omega)
    rw [show ((a * 65536 : Nat) : Int) = (a : Int) * 65536 by omega, show ((b * 256 : Nat) : Int) = (b : Int) * 256 by omega] at this
    rw [this]
    have := or_add a (b * 256) 16 (by omega)
    rw [show a * 2 ^ 16 = a * 65536 by omega] at this
    rw [this]; omega
  rw [e1, i64_or_nat _ _ (by omega) (by omega)]
  have := or_add (a * 256 + b) c 8 (by omega)
  rw [show (a * 256 + b) * 2 ^ 8 = (a * 256 + b) * 256 by omega] at this
  rw [this]; omega
end Go.Proofs.YtlgefjcfnnjkbaaDoor
/- The function Read of package frame. No conditions. -/
namespace Go.Proofs.YtlgefjcfnnjkbaaDoor
set_option maxRecDepth 100000
open Go.RowKit

def Fr.zero : Fr := { e := 0, a := 0, k := 0, s := [] }
def readV (l : List UInt8) : Value := match readF l with
  | some f => .tuple #[f.val, .int .i64 0]
  | none => .tuple #[Fr.zero.val, .int .i64 120]

theorem results_cell_tmp {P : Program} {fn : Func} {p q : Tmp} {ty : TypeId} (h : fn.results = #[.cell p ty, .tmp q]) (tmps : Array Value) (w : World) (g : Nat) (t : TypeId) (cs : Array Value) (fr : Nat × Nat) (d : TypeDesc)
    (hp : tmps.getD p undef = .pointer (some ⟨g, 0, none⟩)) (hg : w.heap[g]? = some (.cells cs t fr))
    (hu : P.underlying ty = some d) (hd : (match d with | .struct _ | .array _ _ => true | _ => false) = true) (hi : (P.info? ty).map (·.size) = some cs.size) :
    (results fn tmps).run P w = .ok (.tuple #[.agg cs, tmps.getD q undef]) w := by
  have hp' : tmps[p]?.getD undef = .pointer (some ⟨g, 0, none⟩) := by simpa using hp
  simp [results, h, hp', asAddr, run_loadVar_row w g t ty cs fr d hg hu hd hi]

theorem Tryd.size23 : (Tryd.prog.info? 86).map (·.size) = some 4 := by kernel_rfl

theorem Tryd.build23 (a b c : Int) (s : ByteArray) (w : World) : (Instr.build 86 #[(0, .int .i64 a), (1, .int .i64 b), (2, .int .i64 c), (3, .string s)]).run Tryd.prog w = .ok (.agg #[.int .i64 a, .int .i64 b, .int .i64 c, .string s]) w := by kernel_rfl
theorem Tryd.alloc23 (w : World) : (Instr.alloc 86 true (.tuple #[])).run Tryd.prog w = .ok (.pointer (some ⟨w.heap.size, 0, none⟩)) (w.alloc (.cells #[.int .i64 0, .int .i64 0, .int .i64 0, .string ⟨#[]⟩] 86)) := by kernel_rfl

theorem byte_at (l : List UInt8) (i : Nat) (hi : i < (⟨l.toArray⟩ : ByteArray).size) : (⟨l.toArray⟩ : ByteArray)[i] = l.getD i 0 := by
  have hl : i < l.length := by rwa [size_toArray] at hi
  show (l.toArray)[i]'(by simpa using hl) = _
  simp [hl]

set_option maxHeartbeats 1000000 in
theorem read_badLen (w : World) (l : List UInt8) (hl : l.length ≤ maxLen) (h64 : l.length ≠ 64) :
    Calls Tryd.prog 50 #[.string ⟨l.toArray⟩] w fun e w' => e = .returned (.tuple #[Fr.zero.val, .int .i64 120]) ∧ Only (fun _ => False) w w' := by
  have hz := size_toArray l
  have h1 : ((l.length : Int) == 64) = false := by simp; omega
  have h2 : ((l.length : Int) != 64) = true := by simp; omega
  unfold maxLen at hl
  go_enter Tryd.func50, Tryd.ntmps50
  go_wp2
  refine bodyPost_ret (results_cell_tmp rfl _ _ w.heap.size 86 #[.int .i64 0, .int .i64 0, .int .i64 0, .string ⟨#[]⟩] (0, 0) _ rfl ?_ Tryd.underlying86 rfl Tryd.size23) rfl ?_
  · exact heap_alloc_new _ _
  exact ⟨rfl, Only.alloc _ _ _⟩

set_option maxHeartbeats 1000000 in
theorem read_badSize (w : World) (l : List UInt8) (h64 : l.length = 64) (h5 : 53 < (l.getD 5 0).toNat) :
    Calls Tryd.prog 50 #[.string ⟨l.toArray⟩] w fun e w' => e = .returned (.tuple #[Fr.zero.val, .int .i64 120]) ∧ Only (fun _ => False) w w' := by
  have hz := size_toArray l
  have hx5 := byte_at l 5 (by rw [hz]; omega)
  have hb5 := (l.getD 5 0).toNat_lt
  generalize l.getD 5 0 = b5 at hx5 hb5 h5
  go_enter Tryd.func50, Tryd.ntmps50
  go_wp2
  refine bodyPost_ret (results_cell_tmp rfl _ _ w.heap.size 86 #[.int .i64 0, .int .i64 0, .int .i64 0, .string ⟨#[]⟩] (0, 0) _ rfl ?_ Tryd.underlying86 rfl Tryd.size23) rfl ?_
  · exact heap_alloc_new _ _
  exact ⟨rfl, Only.alloc _ _ _⟩

theorem of_eq (l : List UInt8) (h : l.length = 64) : Hid (Fr.of l = { e := (((l.getD 0 0).toNat * 65536 + (l.getD 1 0).toNat * 256 + (l.getD 2 0).toNat : Nat) : Int), a := (l.getD 3 0).toNat, k := (l.getD 4 0).toNat, s := (l.drop 7).take (l.getD 5 0).toNat }) := by
  match l, h with
  | c0 :: c1 :: c2 :: r, _ =>
    refine Lib.hid ?_
    unfold Fr.of
    simp only [Fr.mk.injEq, true_and, and_true]
    simp [unbe]
    omega

theorem extract_list (l : List UInt8) (i j : Nat) : (⟨l.toArray⟩ : ByteArray).extract i j = ⟨((l.take j).drop i).toArray⟩ := by
  apply ByteArray.ext
  simp [ByteArray.data_extract, List.drop_take]

set_option maxHeartbeats 1000000 in
theorem read_shape (w : World) (l : List UInt8) (h64 : l.length = 64) (h5 : (l.getD 5 0).toNat ≤ 53) :
    Calls Tryd.prog 50 #[.string ⟨l.toArray⟩] w fun e w' => e = .returned (readV l) ∧ Only (fun _ => False) w w' := by
  have H5 := Lib.hid h5
  have hz := size_toArray l
  have hx0 := byte_at l 0 (by rw [hz]; omega)
  have hx1 := byte_at l 1 (by rw [hz]; omega)
  have hx2 := byte_at l 2 (by rw [hz]; omega)
  have hx3 := byte_at l 3 (by rw [hz]; omega)
  have hx4 := byte_at l 4 (by rw [hz]; omega)
  have hx5 := byte_at l 5 (by rw [hz]; omega)
  have hb0 := (l.getD 0 0).toNat_lt
  have hb1 := (l.getD 1 0).toNat_lt
  have hb2 := (l.getD 2 0).toNat_lt
  have hb3 := (l.getD 3 0).toNat_lt
  have hb4 := (l.getD 4 0).toNat_lt
  have hb5 := (l.getD 5 0).toNat_lt
  have hex := extract_list l 7 (7 + (l.getD 5 0).toNat)
  rw [show (l.take (7 + (l.getD 5 0).toNat)).drop 7 = (l.drop 7).take (l.getD 5 0).toNat from by rw [List.drop_take, Nat.add_sub_cancel_left]] at hex
  have q1 : 0 ≤ 7 + ((l.getD 5 0).toNat : Int) := by omega
  have q2 : 7 + ((l.getD 5 0).toNat : Int) ≤ 64 := by omega
  have q3 : 7 ≤ 7 + ((l.getD 5 0).toNat : Int) := by omega
  have q4 : (7 + ((l.getD 5 0).toNat : Int)).toNat = 7 + (l.getD 5 0).toNat := by omega
  have HOF : Hid (Fr.of l = { e := (((l.getD 0 0).toNat * 65536 + (l.getD 1 0).toNat * 256 + (l.getD 2 0).toNat : Nat) : Int), a := (l.getD 3 0).toNat, k := (l.getD 4 0).toNat, s := (l.drop 7).take (l.getD 5 0).toNat }) := of_eq l h64
  generalize l.getD 0 0 = b0 at hx0 hb0 HOF
  generalize l.getD 1 0 = b1 at hx1 hb1 HOF
  generalize l.getD 2 0 = b2 at hx2 hb2 HOF
  generalize l.getD 3 0 = b3 at hx3 hb3 HOF
  generalize l.getD 4 0 = b4 at hx4 hb4 HOF
  generalize l.getD 5 0 = b5 at hx5 hb5 h5 hex q1 q2 q3 q4 HOF
  go_enter Tryd.func50, Tryd.ntmps50
  go_upto_region 3 with fail
  refine wp_region_pick (fun W => True) [(0, 0), (1, 0), (2, 0), (3, 0), (4, 0), (5, 0), (6, 0), (7, 0), (8, 0), (9, 0), (10, 0), (11, 0), (12, 0), (13, 0), (14, 0), (15, 0), (16, 0), (17, 0), (18, 0), (19, 0), (20, 0), (21, 0), (22, 0), (23, 0), (24, 0), (25, 0), (26, 2), (27, 3)] (by kernel_rfl) (by kernel_rfl) (fun _ _ d _ _ h => by cases d <;> exact h) trivial ?_
  simp only [pickOps, List.getElem?_cons_zero, List.getElem?_cons_succ]
  iterate 25 (refine wpL_pure (a' := ?_) ?_ rfl (fun W => ?_) ?_ ?_; rotate_left 2; (· go_simp; first | (go_bits; with_reducible rfl) | with_reducible rfl); (· simp only [put_some, List.setIfInBounds_toArray, List.set_cons_zero, List.set_cons_succ]; rfl))
  have T3 := three_bytes b0.toNat b1.toNat b2.toNat hb0 hb1 hb2
  rw [T3]
  clear T3
  obtain ⟨f, hf⟩ : ∃ f, f = Fr.of l := ⟨_, rfl⟩
  rw [← hf] at HOF
  obtain ⟨en, hen⟩ : ∃ en, en = b0.toNat * 65536 + b1.toNat * 256 + b2.toNat := ⟨_, rfl⟩
  have henl : en < 16777216 := by omega
  rw [← hen] at HOF ⊢
  obtain ⟨fs, hfs⟩ : ∃ fs, fs = (l.drop 7).take b5.toNat := ⟨_, rfl⟩
  rw [← hfs] at HOF ⊢
  have hfl : fs.length ≤ 53 := by rw [hfs, List.length_take]; omega
  clear hx0 hx1 hx2 hx3 hx4 hx5 hex q1 q2 q3 q4 hen hfs
  refine wpL_pure (a' := ?_) (.agg #[.int .i64 (en : Int), .int .i64 (b3.toNat : Int), .int .i64 (b4.toNat : Int), .string ⟨fs.toArray⟩]) rfl (fun W => exec_buildN rfl (parts := #[(0, .int .i64 (en : Int)), (1, .int .i64 (b3.toNat : Int)), (2, .int .i64 (b4.toNat : Int)), (3, .string ⟨fs.toArray⟩)]) (by simp only [List.map_toArray, List.map_cons, List.map_nil]; go_simp) (Tryd.build23 _ _ _ _ W)) ?_ ?_
  rotate_left
  · simp only [put_some, List.setIfInBounds_toArray, List.set_cons_zero, List.set_cons_succ]; rfl
  have hz0 := heap_alloc_new w (.cells #[.int .i64 0, .int .i64 0, .int .i64 0, .string ⟨#[]⟩] 86)
  have hzo := (Only.alloc w (.cells #[.int .i64 0, .int .i64 0, .int .i64 0, .string ⟨#[]⟩] 86) (fun _ => False)).trans (Only.drew _ _)
  replace hz0 : (w.alloc (.cells #[.int .i64 0, .int .i64 0, .int .i64 0, .string ⟨#[]⟩] 86)).drew.heap[w.heap.size]? = _ := hz0
  generalize (w.alloc (.cells #[.int .i64 0, .int .i64 0, .int .i64 0, .string ⟨#[]⟩] 86)).drew = wa at hz0 hzo ⊢
  refine wpL_stepRun (a' := ?_) (w' := wa.alloc (.cells #[.int .i64 0, .int .i64 0, .int .i64 0, .string ⟨#[]⟩] 86)) (.pointer (some ⟨wa.heap.size, 0, none⟩)) rfl (exec_alloc rfl (Tryd.alloc23 wa)) trivial ?_ ?_
  rotate_left
  · simp only [put_some, List.setIfInBounds_toArray, List.set_cons_zero, List.set_cons_succ]; rfl
  refine wpL_lastDone (a' := ?_) (w' := (wa.alloc (.cells #[.int .i64 0, .int .i64 0, .int .i64 0, .string ⟨#[]⟩] 86)).setRow wa.heap.size #[.int .i64 (en : Int), .int .i64 (b3.toNat : Int), .int .i64 (b4.toNat : Int), .string ⟨fs.toArray⟩]) rfl (exec_store rfl (p := .pointer (some ⟨wa.heap.size, 0, none⟩)) (v := .agg #[.int .i64 (en : Int), .int .i64 (b3.toNat : Int), .int .i64 (b4.toNat : Int), .string ⟨fs.toArray⟩]) rfl rfl (run_store_part _ wa.heap.size 0 4 86 86 _ [.int .i64 (en : Int), .int .i64 (b3.toNat : Int), .int .i64 (b4.toNat : Int), .string ⟨fs.toArray⟩] Tryd.size23 rfl (heap_alloc_new _ _) (by simp) (by simp [Value.oneCell']))) ?_ ?_
  rotate_left
  · simp only [put_none, List.setIfInBounds_toArray, List.set_cons_zero, List.set_cons_succ]; rfl
  refine wpL_nil ?_
  have hg1 := setRow_heap _ wa.heap.size _ #[.int .i64 (en : Int), .int .i64 (b3.toNat : Int), .int .i64 (b4.toNat : Int), .string ⟨fs.toArray⟩] _ _ (heap_alloc_new wa (.cells #[.int .i64 0, .int .i64 0, .int .i64 0, .string ⟨#[]⟩] 86))
  have hg0 := (Only.setRow (wa.alloc (.cells #[.int .i64 0, .int .i64 0, .int .i64 0, .string ⟨#[]⟩] 86)) wa.heap.size #[.int .i64 (en : Int), .int .i64 (b3.toNat : Int), .int .i64 (b4.toNat : Int), .string ⟨fs.toArray⟩] (S := fun x => x = wa.heap.size) rfl).keep ((Only.alloc wa (.cells #[.int .i64 0, .int .i64 0, .int .i64 0, .string ⟨#[]⟩] 86) (fun _ => False)).keep hz0 id) (by have := lt_of_block hz0; omega)
  have hgo := (hzo.trans (Only.alloc wa (.cells #[.int .i64 0, .int .i64 0, .int .i64 0, .string ⟨#[]⟩] 86) _)).trans' (Only.setRow _ wa.heap.size #[.int .i64 (en : Int), .int .i64 (b3.toNat : Int), .int .i64 (b4.toNat : Int), .string ⟨fs.toArray⟩] (S := fun x => x = wa.heap.size) rfl) (fun y hy e => by have := lt_of_block hz0; omega)
  have hwl := lt_of_block hz0
  generalize (wa.alloc (.cells #[.int .i64 0, .int .i64 0, .int .i64 0, .string ⟨#[]⟩] 86)).setRow wa.heap.size #[.int .i64 (en : Int), .int .i64 (b3.toNat : Int), .int .i64 (b4.toNat : Int), .string ⟨fs.toArray⟩] = wb at hg1 hg0 hgo ⊢
  generalize wa.heap.size = g1 at hg1 hwl ⊢
  have hfv : f.val = .agg #[.int .i64 (en : Int), .int .i64 (b3.toNat : Int), .int .i64 (b4.toNat : Int), .string ⟨fs.toArray⟩] := by rw [HOF.out]; rfl
  have HG1 := Lib.hid hg1
  have HG0 := Lib.hid hg0
  have HGO := Lib.hid hgo
  clear hg1 hg0 hgo hz0 hzo
  have hlz := size_toArray f.lay
  rcases Bool.eq_false_or_eq_true f.right with hr | hr
  · have LG := lay_good wb f hr
    have hfl64 := Fr.lay_length hr
    rw [hfv] at LG
    by_cases hll : f.lay = l
    · have hrv : readV l = .tuple #[f.val, .int .i64 0] := by
        unfold readV readF
        rw [if_pos ⟨h64, H5.out, by rw [← hf]; exact hr, by rw [← hf]; exact hll⟩, ← hf]
      rw [hll] at LG
      have LL := Lib.hid LG
      have HF := Lib.hid hfv
      have HR := Lib.hid hrv
      clear LG hfv hrv hll hr hf
      go_wp2_with (first
        | ((with_reducible refine wpList_load_block g1 86 [.int .i64 (en : Int), .int .i64 (b3.toNat : Int), .int .i64 (b4.toNat : Int), .string ⟨fs.toArray⟩] ?_ ?_ ?_ ?_ ?_); (· exact ⟨_, Tryd.underlying86, rfl⟩); (· exact Tryd.size23); (· exact HG1.out); (· rfl))
        | (go_at_call 63; refine LL.out.mono ?_; rintro e w3 ⟨rfl, ho3⟩; have hk1 := ho3.keep HG1.out id; have hk0 := ho3.keep HG0.out id; have hko := HGO.out.trans ho3)
        | ((with_reducible refine wpList_load_block g1 86 [.int .i64 (en : Int), .int .i64 (b3.toNat : Int), .int .i64 (b4.toNat : Int), .string ⟨fs.toArray⟩] ?_ ?_ ?_ ?_ ?_); (· exact ⟨_, Tryd.underlying86, rfl⟩); (· exact Tryd.size23); (· exact hk1); (· rfl))
        | ((with_reducible refine wpList_store_block w.heap.size 86 [.int .i64 (en : Int), .int .i64 (b3.toNat : Int), .int .i64 (b4.toNat : Int), .string ⟨fs.toArray⟩] [.int .i64 0, .int .i64 0, .int .i64 0, .string ⟨#[]⟩] ?_ ?_ ?_ ?_ ?_ ?_ ?_); (· exact Tryd.size23); (· exact hk0); (· rfl); (· simp [Value.oneCell']); (· rfl); (· rfl)))
      refine bodyPost_ret (results_cell_tmp rfl _ _ w.heap.size 86 #[.int .i64 (en : Int), .int .i64 (b3.toNat : Int), .int .i64 (b4.toNat : Int), .string ⟨fs.toArray⟩] (0, 0) _ rfl ?_ Tryd.underlying86 rfl Tryd.size23) rfl ?_
      · exact setRow_heap _ _ _ _ _ _ hk0
      exact ⟨by rw [HR.out, HF.out]; rfl, hko.trans' (Only.setRow _ _ _ (S := fun x => x = w.heap.size) rfl) (fun y hy e => by omega)⟩
    · have hrv : readV l = .tuple #[Fr.zero.val, .int .i64 120] := by
        unfold readV readF
        rw [if_neg (by rw [← hf]; exact fun c => hll c.2.2.2)]
      have LL := Lib.hid LG
      have HR := Lib.hid hrv
      have hq : (f.lay == l) = false := by simp [hll]
      have hq2 : (!f.lay == l) = true := by rw [hq]; rfl
      clear LG hfv hrv hr hf hll
      go_wp2_with (first
        | ((with_reducible refine wpList_load_block g1 86 [.int .i64 (en : Int), .int .i64 (b3.toNat : Int), .int .i64 (b4.toNat : Int), .string ⟨fs.toArray⟩] ?_ ?_ ?_ ?_ ?_); (· exact ⟨_, Tryd.underlying86, rfl⟩); (· exact Tryd.size23); (· exact HG1.out); (· rfl))
        | (go_at_call 63; refine LL.out.mono ?_; rintro e w3 ⟨rfl, ho3⟩; have hk0 := ho3.keep HG0.out id; have hko := HGO.out.trans ho3)
        | ((with_reducible refine wpList_store_block w.heap.size 86 [.int .i64 0, .int .i64 0, .int .i64 0, .string ⟨#[]⟩] [.int .i64 0, .int .i64 0, .int .i64 0, .string ⟨#[]⟩] ?_ ?_ ?_ ?_ ?_ ?_ ?_); (· exact Tryd.size23); (· exact hk0); (· rfl); (· simp [Value.oneCell']); (· rfl); (· rfl)))
      refine bodyPost_ret (results_cell_tmp rfl _ _ w.heap.size 86 #[.int .i64 0, .int .i64 0, .int .i64 0, .string ⟨#[]⟩] (0, 0) _ rfl ?_ Tryd.underlying86 rfl Tryd.size23) rfl ?_
      · exact setRow_heap _ _ _ _ _ _ hk0
      exact ⟨by rw [HR.out]; rfl, hko.trans' (Only.setRow _ _ _ (S := fun x => x = w.heap.size) rfl) (fun y hy e => by omega)⟩
  · have LG := lay_bad wb f (by rw [HOF.out]; unfold maxLen; simp only; omega) hr
    rw [hfv] at LG
    have hrv : readV l = .tuple #[Fr.zero.val, .int .i64 120] := by
      unfold readV readF
      rw [if_neg (by rw [← hf]; exact fun c => by rw [hr] at c; exact absurd c.2.2.1 (by decide))]
    have LL := Lib.hid LG
    have HR := Lib.hid hrv
    clear LG hfv hrv hr hf
    go_wp2_with (first
      | ((with_reducible refine wpList_load_block g1 86 [.int .i64 (en : Int), .int .i64 (b3.toNat : Int), .int .i64 (b4.toNat : Int), .string ⟨fs.toArray⟩] ?_ ?_ ?_ ?_ ?_); (· exact ⟨_, Tryd.underlying86, rfl⟩); (· exact Tryd.size23); (· exact HG1.out); (· rfl))
      | (go_at_call 63; refine LL.out.mono ?_; rintro e w3 ⟨rfl, ho3⟩; have hk0 := ho3.keep HG0.out id; have hko := HGO.out.trans ho3)
      | ((with_reducible refine wpList_store_block w.heap.size 86 [.int .i64 0, .int .i64 0, .int .i64 0, .string ⟨#[]⟩] [.int .i64 0, .int .i64 0, .int .i64 0, .string ⟨#[]⟩] ?_ ?_ ?_ ?_ ?_ ?_ ?_); (· exact Tryd.size23); (· exact hk0); (· rfl); (· simp [Value.oneCell']); (· rfl); (· rfl)))
    refine bodyPost_ret (results_cell_tmp rfl _ _ w.heap.size 86 #[.int .i64 0, .int .i64 0, .int .i64 0, .string ⟨#[]⟩] (0, 0) _ rfl ?_ Tryd.underlying86 rfl Tryd.size23) rfl ?_
    · exact setRow_heap _ _ _ _ _ _ hk0
    exact ⟨by rw [HR.out]; rfl, hko.trans' (Only.setRow _ _ _ (S := fun x => x = w.heap.size) rfl) (fun y hy e => by omega)⟩

theorem read_any (w : World) (l : List UInt8) (hl : l.length ≤ maxLen) :
    Calls Tryd.prog 50 #[.string ⟨l.toArray⟩] w fun e w' => e = .returned (readV l) ∧ Only (fun _ => False) w w' := by
  by_cases h64 : l.length = 64
  · by_cases h5 : (l.getD 5 0).toNat ≤ 53
    · exact read_shape w l h64 h5
    · have e : readV l = .tuple #[Fr.zero.val, .int .i64 120] := by
        unfold readV readF
        rw [if_neg (fun c => h5 c.2.1)]
      rw [e]
      exact read_badSize w l h64 (by omega)
  · have e : readV l = .tuple #[Fr.zero.val, .int .i64 120] := by
      unfold readV readF
      rw [if_neg (fun c => h64 c.1)]
    rw [e]
    exact read_badLen w l hl h64
end Go.Proofs.YtlgefjcfnnjkbaaDoor
/- The frames that are made right (pick, FrameOf), and how many a batch takes by the reference. No conditions. -/
namespace Go.Proofs.YtlgefjcfnnjkbaaDoor
set_option maxRecDepth 100000
open Go.RowKit

def pickI (c n : Int) : Int := (if c < 0 then -(c + 1) else c) % n
def I64 (n : Int) : Prop := -9223372036854775808 ≤ n ∧ n ≤ 9223372036854775807
def Fr.made (f : Fr) : Fr := { e := 1 + pickI f.e 16777215, a := pickI f.a 64, k := 1 + pickI f.k 4, s := f.s.take 53 }
structure Fr.Wf (f : Fr) : Prop where
  e : I64 f.e
  a : I64 f.a
  k : I64 f.k
  s : f.s.length ≤ maxLen

theorem pickI_lt (c n : Int) (h : 0 < n) : 0 ≤ pickI c n ∧ pickI c n < n := ⟨Int.emod_nonneg _ (by omega), Int.emod_lt_of_pos _ h⟩
theorem Fr.made_right (f : Fr) : f.made.right = true := by
  have h1 := pickI_lt f.e 16777215 (by decide)
  have h2 := pickI_lt f.a 64 (by decide)
  have h3 := pickI_lt f.k 4 (by decide)
  rw [Fr.right_iff]
  simp only [Fr.made, List.length_take]
  omega

theorem results_cell {P : Program} {fn : Func} {p : Tmp} {ty : TypeId} (h : fn.results = #[.cell p ty]) (tmps : Array Value) (w : World) (g : Nat) (t : TypeId) (cs : Array Value) (fr : Nat × Nat) (d : TypeDesc)
    (hp : tmps.getD p undef = .pointer (some ⟨g, 0, none⟩)) (hg : w.heap[g]? = some (.cells cs t fr))
    (hu : P.underlying ty = some d) (hd : (match d with | .struct _ | .array _ _ => true | _ => false) = true) (hi : (P.info? ty).map (·.size) = some cs.size) :
    (results fn tmps).run P w = .ok (.agg cs) w := results_cell_row h tmps w g t cs fr d hp hg hu hd hi

end Go.Proofs.YtlgefjcfnnjkbaaDoor
/- The reference's bytes, sum, Lay, Read. No conditions. -/
namespace Go.Proofs.YtlgefjcfnnjkbaaDoor
set_option maxRecDepth 100000
open Go.RowKit

theorem append_list (a b : List UInt8) : (⟨a.toArray⟩ : ByteArray) ++ ⟨b.toArray⟩ = ⟨(a ++ b).toArray⟩ := by
  apply ByteArray.ext
  simp

/-! ### Sum by the reference -/
theorem i64_xor_poly (x : Nat) (hx : x < 4294967296) : bits BinOp.xor IntKind.i64 ((x : Int) / 2) 3988292384 = ((x / 2 ^^^ 3988292384 : Nat) : Int) := by
  have := i64_xor_nat (x / 2) 3988292384 (by omega) (by omega)
  simpa using this

theorem i64_xor_full (x : Nat) (hx : x < 4294967296) : bits BinOp.xor IntKind.i64 (x : Int) 4294967295 = ((x ^^^ 4294967295 : Nat) : Int) := by
  have := i64_xor_nat x 4294967295 (by omega) (by omega)
  simpa using this

theorem take_snocL (l : List UInt8) (k : Nat) (h : k < l.length) : l.take (k + 1) = l.take k ++ [l[k]] := List.take_succ_eq_append_getElem h

end Go.Proofs.YtlgefjcfnnjkbaaDoor
/- Slices of frames and of texts; are they the same? No conditions. -/
namespace Go.Proofs.YtlgefjcfnnjkbaaDoor
set_option maxRecDepth 100000
open Go.RowKit

/-- v is a slice of n elements whose cells are cs -/
structure SliceOf (w : World) (v : Value) (n : Nat) (cs : List Value) (ao : Option Addr) (cap : Nat) : Prop where
  val : v = .slice ao n cap
  len : n ≤ 9223372036854775807
  cell : ∀ j x, cs[j]? = some x → ∃ b o, ao = some ⟨b, o, none⟩ ∧ w.cell? ⟨b, o + j, none⟩ = some x

theorem SliceOf.only {w w' : World} {v : Value} {n : Nat} {cs : List Value} {ao : Option Addr} {cap : Nat} (h : SliceOf w v n cs ao cap) (ho : Only (fun _ => False) w w') : SliceOf w' v n cs ao cap := by
  refine ⟨h.val, h.len, fun j x hx => ?_⟩
  obtain ⟨b, o, e, hc⟩ := h.cell j x hx
  exact ⟨b, o, e, by rw [ho.cell (World.block_lt_of_cell? _ _ hc) id]; exact hc⟩

def txt (l : List UInt8) : Value := .string ⟨l.toArray⟩
def txts (l : List (List UInt8)) : List Value := l.map txt
def frs (l : List Fr) : List Value := (l.map Fr.cells).flatten

theorem txts_at (l : List (List UInt8)) (k : Nat) (hk : k < l.length) : (txts l)[k]? = some (.string ⟨l[k].toArray⟩) := by
  simp [txts, txt, hk]

theorem frs_at (l : List Fr) (k : Nat) (hk : k < l.length) : ∀ j u, l[k].cells[j]? = some u → (frs l)[k * 4 + j]? = some u := by
  intro j u hu
  induction l generalizing k with
  | nil => simp at hk
  | cons f l ih =>
    simp only [frs, List.map_cons, List.flatten_cons]
    have hf : f.cells.length = 4 := rfl
    cases k with
    | zero =>
      have hj : j < f.cells.length := (List.getElem?_eq_some_iff.1 hu).1
      simp only [Nat.zero_mul, Nat.zero_add]
      rw [List.getElem?_append_left hj]; exact hu
    | succ k =>
      rw [List.getElem?_append_right (by rw [hf]; omega), hf, show (k + 1) * 4 + j - 4 = k * 4 + j by omega]
      exact ih k (by simpa using hk) hu

theorem SliceOf.txt_at {w : World} {v : Value} {l : List (List UInt8)} {ao : Option Addr} {cap : Nat} (h : SliceOf w v l.length (txts l) ao cap) (k : Nat) (hk : k < l.length) :
    ∃ b o, ao = some ⟨b, o, none⟩ ∧ w.cell? ⟨b, o + k, none⟩ = some (.string ⟨l[k].toArray⟩) := h.cell k _ (txts_at l k hk)

theorem SliceOf.fr_at {w : World} {v : Value} {l : List Fr} {ao : Option Addr} {cap : Nat} (h : SliceOf w v l.length (frs l) ao cap) (k : Nat) (hk : k < l.length) :
    ∃ b o, ao = some ⟨b, o, none⟩ ∧ Has w b (o + k * 4) l[k].cells := by
  obtain ⟨b, o, e, _⟩ := h.cell (k * 4 + 0) _ (frs_at l k hk 0 _ rfl)
  refine ⟨b, o, e, fun j u hu => ?_⟩
  obtain ⟨b', o', e', hc⟩ := h.cell (k * 4 + j) u (frs_at l k hk j u hu)
  rw [e] at e'
  cases e'
  rw [show o + k * 4 + j = o + (k * 4 + j) by omega]
  exact hc

theorem same_step {α : Type} [DecidableEq α] {a b : List α} {k : Nat} (ha : k < a.length) (hb : k < b.length) (h : a.take k = b.take k) (he : a[k] = b[k]) : a.take (k + 1) = b.take (k + 1) := by
  rw [List.take_succ_eq_append_getElem ha, List.take_succ_eq_append_getElem hb, h, he]

end Go.Proofs.YtlgefjcfnnjkbaaDoor
/- An append from whatever source (a slice, a nil one, a string) onto a row of the call's own, and a row of bytes as a string. No program is named; no conditions. -/
namespace Go.Proofs.YtlgefjcfnnjkbaaDoor
set_option maxRecDepth 100000
open Go.RowKit

variable {P : Program}

theorem run_append_src (w : World) (base : Nat) (t tx ty e : TypeId) (i : TypeInfo) (z : Value) (size bytes : Nat) (ht : P.underlying t = some (.slice e)) (hi : P.info? e = some i) (hz : i.zero = some z)
    (hsize : i.size = size) (hby : i.bytes = bytes) (hzs : z.cells.size = size) (hsz : 0 < size)
    (v : Value) (n : Nat) (xs : List Value) (hown : w.ownsRow base e size v n xs)
    (x : Value) (m : Nat) (news : List Value) (hs : Src P size tx x m news w)
    (h63 : n + m ≤ maxLen) (hbytes : (n + m) * bytes ≤ 140737488355328) (hbase : base ≤ w.heap.size) :
    ∃ v' w', (Builtin.append_ #[t, tx] ty #[v, x]).run P w = .ok v' w' ∧ w'.ownsRow base e size v' (n + m) (xs ++ news) ∧ w.grownBy w' v.ownBlock ∧
      (∀ k, v'.ownBlock = some k → v.ownBlock = some k ∨ w.heap.size ≤ k) := by
  subst hsize
  subst hby
  have hl := hs.newsLen
  have hsmall : n + m ≤ 9223372036854775807 := by simp only [maxLen] at h63; omega
  have hlen : (xs ++ news).length = (n + m) * i.size := by rw [List.length_append, hown.1, hl, Nat.add_mul]
  have grown : ∀ (old : Nat), old < n + m → ∀ (row : Option Nat),
      (w.drew.alloc (.cells ((xs ++ news).toArray ++ Builtin.zeroCells z.cells (grownCap w (n + m) old e - (n + m))) e)).ownsRow base e i.size
        (.slice (some ⟨w.heap.size, 0, none⟩) (n + m) (grownCap w (n + m) old e)) (n + m) (xs ++ news) ∧
      w.grownBy (w.drew.alloc (.cells ((xs ++ news).toArray ++ Builtin.zeroCells z.cells (grownCap w (n + m) old e - (n + m))) e)) row := by
    intro old ho row
    have hge := grownCap_ge w (n + m) old e
    have hcm : grownCap w (n + m) old e ≤ maxLen := grownCap_le_maxLen w (n + m) old e h63
    refine ⟨⟨hlen, .inr ⟨w.heap.size, _, _, rfl, hbase, heap_alloc_new w.drew _, hge, hcm, ?_, ?_⟩⟩, ⟨rfl, rfl, rfl, by simp, fun k hk _ => Below.heap_alloc w.drew _ k hk⟩⟩
    · simp only [Array.size_append, List.size_toArray, size_zeroCells, hzs, hlen, ← Nat.add_mul]
      congr 1
      omega
    · simp only [Array.toList_append]
      rw [← hlen]
      exact List.take_left
  rcases hown.2 with ⟨rfl, rfl⟩ | ⟨g, cap, cur, rfl, hbg, hg, hnc, hcm, hcs, htake⟩
  · have hx : xs = [] := List.eq_nil_of_length_eq_zero (by simpa using hown.1)
    subst hx
    by_cases hm : m = 0
    · subst hm
      have hn : news = [] := List.eq_nil_of_length_eq_zero (by simpa using hl)
      subst hn
      have hc := hs.cells
      refine ⟨.slice none 0 0, w, ?_, World.ownsRow_nil w base e i.size, ⟨rfl, rfl, rfl, Nat.le_refl _, fun _ _ _ => rfl⟩, fun k hk => .inl hk⟩
      rcases hs.kind with ⟨e', hk⟩ | hk <;> simp [Builtin.append_, run_underlying ht, run_underlying hk, sizeOf, typeInfo, hi, hs.len, hc]
    · have hr := run_append_grow_src (P := P) w t tx ty e i z ht hi hz none 0 0 [] rfl x m news hs (by omega) (by omega) (growslice_fits (by omega) hbytes)
      have hgr := grown 0 (by omega) (Value.ownBlock (.slice none 0 0))
      exact ⟨_, _, hr, hgr.1, hgr.2, fun k hk => .inr (by simp [Value.ownBlock] at hk; omega)⟩
  · by_cases hroom : n + m ≤ cap
    · have hfit : n * i.size + news.length ≤ cur.size := by rw [hl, hcs, ← Nat.add_mul]; exact Nat.mul_le_mul_right _ hroom
      have hst := run_storeCells_at P g (n * i.size) e news 0 cur w hg (by simpa using hfit) hs.one
      simp only [Nat.add_zero] at hst
      have hr : (Builtin.append_ #[t, tx] ty #[.slice (some ⟨g, 0, none⟩) n cap, x]).run P w =
          .ok (.slice (some ⟨g, 0, none⟩) (n + m) cap) (w.setRow g (cur.toList.take (n * i.size) ++ news ++ cur.toList.drop (n * i.size + news.length)).toArray) := by
        rcases hs.kind with ⟨e', hk⟩ | hk <;> simp [Builtin.append_, run_underlying ht, run_underlying hk, sizeOf, typeInfo, hi, hs.len, hroom, hs.cells, Addr.add_lit, hst]
      refine ⟨_, _, hr, ⟨hlen, .inr ⟨g, cap, _, rfl, hbg, setRow_heap w g cur _ e _ hg, hroom, hcm, ?_, ?_⟩⟩, ⟨rfl, rfl, rfl, by simp, fun k _ hk => setRow_other w g k _ (fun e => hk (by simp [Value.ownBlock, e]))⟩, fun k hk => .inl hk⟩
      · simp only [List.size_toArray, List.length_append, List.length_take, List.length_drop, Array.length_toList]
        omega
      · simp only
        rw [htake, ← hlen]
        exact List.take_left
    · have holds : ∀ j u, xs[j]? = some u → w.cell? ((⟨g, 0, none⟩ : Addr).add j) = some u := hown.cells (g := g) rfl
      have hr := run_append_grow_src (P := P) w t tx ty e i z ht hi hz (some ⟨g, 0, none⟩) n cap xs (run_firstCells_some w.drew i.size n _ n cap xs hown.1 (by simpa using holds)) x m news hs (by omega) (by omega) (growslice_fits (by omega) hbytes)
      have hgr := grown cap (by omega) (Value.ownBlock (.slice (some ⟨g, 0, none⟩) n cap))
      exact ⟨_, _, hr, hgr.1, hgr.2, fun k hk => .inr (by simp [Value.ownBlock] at hk; omega)⟩

/-- A row of bytes of the call's own, as a string; the nil slice is the empty string. -/
theorem run_bytes_string_own (W : World) (src dst e : TypeId) (base n : Nat) (v : Value) (l : List UInt8) (hs : P.underlying src = some (.slice e)) (he : P.underlying e = some (.int .u8)) (hd : P.underlying dst = some .string)
    (hown : W.ownsRow base e 1 v n (bvs l)) : (convert src dst v).run P W = .ok (.string ⟨l.toArray⟩) W := by
  have hl : l.length = n := by have := hown.1; rwa [length_bvs, Nat.mul_one] at this
  rcases hown.2 with ⟨rfl, rfl⟩ | ⟨g, cap, cur, rfl, _⟩
  · have hx : l = [] := List.eq_nil_of_length_eq_zero hl
    subst hx
    rw [run_convert_bytes_string W src dst e _ 0 0 hs he hd]
    rfl
  · exact run_bytes_string W src dst e g 0 n cap l hs he hd hl (fun j u hu => by
      have := hown.cells (g := g) rfl j u hu
      rwa [add_mk] at this)

/-- What an append from any source does to a row of the call's own, and what it leaves. -/
theorem append_src_row (w : World) (base : Nat) (t tx ty e : TypeId) (z : Value) (size bytes : Nat) (hu : P.underlying t = some (.slice e)) (hi : (P.info? e).map (fun i => (i.zero, i.size, i.bytes)) = some (some z, size, bytes))
    (hzs : z.cells.size = size) (hsz : 0 < size) (v : Value) (n : Nat) (xs : List Value) (hrow : w.ownsRow base e size v n xs) (x : Value) (m : Nat) (news : List Value) (hs : Src P size tx x m news w)
    (hn : n + m ≤ 100000000) (hb : bytes ≤ 1000) (hbase : base ≤ w.heap.size) :
    ∃ v' w', (Builtin.append_ #[t, tx] ty #[v, x]).run P w = .ok v' w' ∧ w'.ownsRow base e size v' (n + m) (xs ++ news) ∧ Only (fun k => v.ownBlock = some k) w w' := by
  obtain ⟨i0, hi0, hz0, hz1, hz2⟩ := info_parts hi
  have hbytes : (n + m) * bytes ≤ 140737488355328 := by
    have := Nat.mul_le_mul hn hb
    omega
  obtain ⟨v', w', hrun, hown, hgrow, _⟩ := run_append_src (P := P) w base t tx ty e i0 z size bytes hu hi0 hz0 hz1 hz2 hzs hsz v n xs hrow x m news hs (by unfold maxLen; omega) hbytes hbase
  exact ⟨v', w', hrun, hown, Only.of_grown hgrow (fun k hk => hk)⟩

/-- 'append(v, x)', x in a new block of its own -/
theorem append_one_row (w : World) (base : Nat) (t ty e : TypeId) (z : Value) (size bytes : Nat) (hu : P.underlying t = some (.slice e)) (hi : (P.info? e).map (fun i => (i.zero, i.size, i.bytes)) = some (some z, size, bytes))
    (hzs : z.cells.size = size) (hsz : 0 < size) (v : Value) (n : Nat) (xs : List Value) (hrow : w.ownsRow base e size v n xs) (cs : List Value) (hcs : cs.length = size) (h1 : ∀ u ∈ cs, u.oneCell' = true)
    (hn : n + 1 ≤ 100000000) (hb : bytes ≤ 1000) (hbase : base ≤ w.heap.size) :
    ∃ v' w', (Builtin.append_ #[t, t] ty #[v, .slice (some ⟨w.heap.size, 0, none⟩) 1 1]).run P (w.alloc (.cells cs.toArray e)) = .ok v' w' ∧ w'.ownsRow base e size v' (n + 1) (xs ++ cs) ∧ Only (fun k => v.ownBlock = some k) w w' := by
  have hnew : ∀ j u, cs[j]? = some u → (w.alloc (.cells cs.toArray e)).cell? ((⟨w.heap.size, 0, none⟩ : Addr).add j) = some u :=
    (has_of_block' (o := 0) (heap_alloc_new w _) (by simp)).adds
  obtain ⟨v', w', hrun, hown, ho⟩ := append_src_row (P := P) (w.alloc (.cells cs.toArray e)) base t t ty e z size bytes hu hi hzs hsz v n xs (hrow.alloc _) _ 1 cs (Src.ofSlice _ hu _ 1 1 cs (by omega) hnew h1) hn hb (by simp; omega)
  exact ⟨v', w', hrun, hown, (Only.alloc w _ _).trans ho⟩

/-- Rows of other elements lie apart. -/
theorem rows_apart {w : World} {b b' e e' s s' n n' : Nat} {v v' : Value} {xs xs' : List Value} (h : w.ownsRow b e s v n xs) (h' : w.ownsRow b' e' s' v' n' xs') (hne : e ≠ e') : ∀ k, v.ownBlock = some k → ¬ v'.ownBlock = some k := by
  intro k hk hk'
  rcases h.2 with ⟨rfl, _⟩ | ⟨g, cap, cur, rfl, _, hg, _⟩
  · cases hk
  · rcases h'.2 with ⟨rfl, _⟩ | ⟨g', cap', cur', rfl, _, hg', _⟩
    · cases hk'
    · cases hk
      cases hk'
      rw [hg] at hg'
      injection hg' with hg'
      injection hg' with _ ht
      exact hne ht
/-- A block that was there lies apart from a row of the call's own. -/
theorem row_own_new {w : World} {b e s n k : Nat} {v : Value} {xs : List Value} (h : w.ownsRow b e s v n xs) (hk : k < b) : ¬ v.ownBlock = some k := fun hv => by
  have := (h.lt k hv).1; omega
end Go.Proofs.YtlgefjcfnnjkbaaDoor
/- Rows of the call's own as slices that read as a list; a cell of such a row is written. No program is named; no conditions. -/
namespace Go.Proofs.YtlgefjcfnnjkbaaDoor
set_option maxRecDepth 100000
open Go.RowKit

variable {P : Program}

theorem sliceOf_own {w : World} {base size n : Nat} {e : TypeId} {v : Value} {cs : List Value} (h : w.ownsRow base e size v n cs) : ∃ ao cap, SliceOf w v n cs ao cap := by
  rcases h.2 with ⟨rfl, rfl⟩ | ⟨g, cap, cur, rfl, hb, hg, hnc, hcm, hcs, htake⟩
  · have hx : cs = [] := List.eq_nil_of_length_eq_zero (by simpa using h.1)
    subst hx
    exact ⟨none, 0, rfl, by omega, fun j x hx => by simp at hx⟩
  · refine ⟨some ⟨g, 0, none⟩, cap, rfl, by unfold maxLen at hcm; omega, fun j x hx => ⟨g, 0, rfl, ?_⟩⟩
    have := h.cells (g := g) rfl j x hx
    rwa [add_mk] at this

theorem sliceOf_block {w : World} {g n : Nat} {t : TypeId} {cs : List Value} (h : w.heap[g]? = some (.cells cs.toArray t (0, 0))) (hn : n ≤ 9223372036854775807) (c : Nat) : SliceOf w (.slice (some ⟨g, 0, none⟩) n c) n cs (some ⟨g, 0, none⟩) c :=
  ⟨rfl, hn, fun j x hx => ⟨g, 0, rfl, by rw [Nat.zero_add, cell_at h, List.getElem?_toArray]; exact hx⟩⟩

/-- what such a slice yields to an append -/
theorem src_slice {w : World} {n size : Nat} {v : Value} {cs : List Value} {ao : Option Addr} {cap : Nat} {tx e' : TypeId} (hk : P.underlying tx = some (.slice e')) (h : SliceOf w v n cs ao cap) (hl : cs.length = n * size) (hs : 0 < size) (h1 : ∀ u ∈ cs, u.oneCell' = true) :
    Src P size tx v n cs w := by
  have hv := h.val
  subst hv
  rcases ao with _ | a
  · have hn : n = 0 := by
      rcases Nat.eq_zero_or_pos n with h0 | h0
      · exact h0
      · have : 0 < cs.length := by rw [hl]; exact Nat.mul_pos h0 hs
        obtain ⟨_, _, e, _⟩ := h.cell 0 _ (List.getElem?_eq_getElem this)
        cases e
    subst hn
    have hc : cs = [] := List.eq_nil_of_length_eq_zero (by simpa using hl)
    subst hc
    exact Src.ofNil w hk cap
  · refine Src.ofSlice w hk a n cap cs hl ?_ h1
    intro j u hu
    obtain ⟨b, o, e, hc⟩ := h.cell j u hu
    cases e
    rw [add_mk]
    exact hc

/-- a slice's front -/
theorem SliceOf.front {w : World} {n m size : Nat} {v : Value} {cs : List Value} {ao : Option Addr} {cap : Nat} (h : SliceOf w v n cs ao cap) (hm : m ≤ n) (c : Nat) : SliceOf w (.slice ao m c) m (cs.take (m * size)) ao c :=
  ⟨rfl, Nat.le_trans hm h.len, fun j x hx => h.cell j x (by
    rw [List.getElem?_take] at hx
    split at hx
    · exact hx
    · cases hx)⟩

theorem ownsRow_set {w : World} {base size n : Nat} {e : TypeId} {g cap : Nat} {cs : List Value} (h : w.ownsRow base e size (.slice (some ⟨g, 0, none⟩) n cap) n cs) (i : Nat) (x : Value) (hi : i < n * size) :
    (w.setCell ⟨g, i, none⟩ x).ownsRow base e size (.slice (some ⟨g, 0, none⟩) n cap) n (cs.set i x) := by
  rcases h.2 with ⟨hv, _⟩ | ⟨g', cap', cur, hv, hb, hg, hnc, hcm, hcs, htake⟩
  · cases hv
  · cases hv
    refine ⟨by rw [List.length_set]; exact h.1, .inr ⟨g, cap, cur.setIfInBounds i x, rfl, hb, heap_setCell_same w g i cur e x hg, hnc, hcm, by simpa using hcs, ?_⟩⟩
    rw [Array.toList_setIfInBounds, List.take_set, htake]

theorem ownsRow_free {w : World} {base size n : Nat} {e : TypeId} {g cap : Nat} {cs : List Value} (h : w.ownsRow base e size (.slice (some ⟨g, 0, none⟩) n cap) n cs) (i : Nat) : w.frozen? ⟨g, i, none⟩ = false := by
  rcases h.2 with ⟨hv, _⟩ | ⟨g', cap', cur, hv, hb, hg, _⟩
  · cases hv
  · cases hv
    exact free_at hg i

theorem ownsRow_cell {w : World} {base size n : Nat} {e : TypeId} {g cap : Nat} {cs : List Value} (h : w.ownsRow base e size (.slice (some ⟨g, 0, none⟩) n cap) n cs) (i : Nat) (x : Value) (hx : cs[i]? = some x) : w.cell? ⟨g, i, none⟩ = some x := by
  have := h.cells (g := g) rfl i x hx
  rwa [add_mk, Nat.zero_add] at this

theorem wpList_load_part {ops : Array Oper} {rest : List Oper} {a : Act} {Q : Exit → Act → World → Prop} {W : World} {dst : Option Tmp} {x : Operand} {T ty : TypeId} {pos : String} {after : Array Edge}
    (g o : Nat) (cs : List Value) (hu : ∃ d, P.underlying T = some d ∧ (match d with | .struct _ | .array _ _ => true | _ => false) = true) (hi : (P.info? T).map (·.size) = some cs.length)
    (hb : Has W g o cs) (hx : a.eval x = .pointer (some ⟨g, o, none⟩)) (hK : wpList P ops Q rest (a.put dst (.agg cs.toArray)) W) :
    wpList P ops Q ({ dst := dst, op := .load T x, type := ty, pos := pos, after := after, guard := none } :: rest) a W :=
  let ⟨d, hu, hd⟩ := hu
  wpList_load rfl rfl hx (run_load_part W g o cs.length cs T d hu (by revert hd; cases d <;> simp) hi rfl hb) hK

theorem wpList_convert_run {ops : Array Oper} {rest : List Oper} {a : Act} {Q : Exit → Act → World → Prop} {W W' : World} {dst : Option Tmp} {x : Operand} {src dT ty : TypeId} {pos : String} {after : Array Edge}
    (vs r : Value) (h : (convert src dT vs).run P W = .ok r W') (hx : a.eval x = vs) (hK : wpList P ops Q rest (a.put dst r) W') :
    wpList P ops Q ({ dst := dst, op := .convert src dT x, type := ty, pos := pos, after := after, guard := none } :: rest) a W :=
  wpList_run rfl (exec_convert rfl hx h) hK
end Go.Proofs.YtlgefjcfnnjkbaaDoor
