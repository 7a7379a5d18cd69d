/- Parts of the proof, one behind the other: LogO, LogQ. Each part's own words say what it proves; no conditions. -/
import Derived.Test.YtlgefjcfnnjkbaaDoorP06
import Derived.Test.YtlgefjcfnnjkbaaDoorP09
import Derived.Test.YtlgefjcfnnjkbaaDoorP11
set_option linter.unusedVariables false
set_option linter.unusedSimpArgs false
set_option linter.unusedSectionVars false
/- What is found, in memory; the batches of a segment's frames are taken. No conditions. -/
namespace Go.Proofs.YtlgefjcfnnjkbaaDoor
set_option maxRecDepth 100000
open Go.RowKit

def pieceCells (l : List (Int × List UInt8)) : List Value := (l.map fun p => [Value.int .i64 p.1, Value.string ⟨p.2.toArray⟩]).flatten
theorem pieceCells_append (a b : List (Int × List UInt8)) : pieceCells (a ++ b) = pieceCells a ++ pieceCells b := by simp [pieceCells]
def foundCells (m : Found) (pv : Value) : List Value := usCells m.chain ++ [.int .i64 m.epoch, .int .i64 (m.seg : Int), .int .i64 (m.sealed : Int), .bool m.loose, pv]
/-- what is found, in a block of its own; its batches in a row from a base on -/
structure FAt (w : World) (mb base : Nat) (m : Found) (pv : Value) : Prop where
  len : m.chain.length = 12
  head : w.heap[mb]? = some (.cells (foundCells m pv).toArray 64 (0, 0))
  row : w.ownsRow base 50 2 pv m.pieces.length (pieceCells m.pieces)
theorem FAt.c28 {w : World} {mb base : Nat} {m : Found} {pv : Value} (h : FAt w mb base m pv) : w.cell? ⟨mb, 28, none⟩ = some pv := by
  rw [cell_at h.head, List.getElem?_toArray, foundCells, List.getElem?_append_right (by rw [usCells_length, h.len]; omega), usCells_length, h.len]; rfl
theorem FAt.only {w w' : World} {mb base : Nat} {m : Found} {pv : Value} (h : FAt w mb base m pv) (ho : Only (fun _ => False) w w') : FAt w' mb base m pv := ⟨h.len, ho.keep h.head id, ownsRow_only h.row ho (fun _ _ h => h)⟩
theorem foundCells_set (m : Found) (pv pv' : Value) (h : m.chain.length = 12) : (foundCells m pv).set 28 pv' = foundCells m pv' := by
  unfold foundCells
  rw [List.set_append_right _ _ (by rw [usCells_length, h]; omega), usCells_length, h]
  rfl
theorem Tryd.buildPiece (a : Int) (s : ByteArray) (w : World) : (Instr.build 50 #[(0, .int .i64 a), (1, .string s)]).run Tryd.prog w = .ok (.agg #[.int .i64 a, .string s]) w := by kernel_rfl
theorem Tryd.infoPiece : (Tryd.prog.info? 50).map (fun i => (i.zero, i.size, i.bytes)) = some (some (.agg #[.int .i64 0, .string ⟨#[]⟩]), 2, 24) := by kernel_rfl
theorem Tryd.sizePieces : (Tryd.prog.info? 29).map (·.size) = some 1 := by kernel_rfl

set_option maxHeartbeats 8000000 in
theorem pieces_any (w : World) (e : Int) (v : Value) (l : List Fr) (ao : Option Addr) (cap bx mb base : Nat) (m : Found) (pv : Value) (hv : SliceOf w v l.length (frs l) ao cap) (hwf : ∀ f ∈ l, f.s.length ≤ maxLen) (hlen : l.length ≤ 100000)
    (hbx : w.cell? ⟨bx, 0, none⟩ = some (.pointer (some ⟨mb, 0, none⟩))) (hF : FAt w mb base m pv) (h1 : bx < base) (h2 : mb < base) (hne : bx ≠ mb) (hpl : m.pieces.length ≤ 1000000) (hj : (joinF l).1.length ≤ 100000) (hbw : base ≤ w.heap.size) :
    Calls Tryd.prog 54 #[.int .i64 e, v, .pointer (some ⟨bx, 0, none⟩)] w fun x w' => x = .returned (.tuple #[.int .i64 ((joinF l).1.length : Int), .int .i64 ((joinF l).2 : Nat)]) ∧
      (∃ pv', FAt w' mb base { m with pieces := m.pieces ++ piecesOf e l } pv') ∧ Only (fun k => k = mb ∨ pv.ownBlock = some k) w w' ∧ KeepsOthers w w' := by
  have HJ := Lib.hid (join_any w v l ao cap hv hwf hlen)
  unfold piecesOf
  generalize joinF l = J at HJ hj ⊢
  obtain ⟨T, n⟩ := J
  simp only at HJ hj ⊢
  clear hv hwf hlen
  go_enter Tryd.func54, Tryd.ntmps54
  go_wp2_with fail
  refine HJ.out.mono ?_
  rintro ev w1 ⟨r, rfl, hr, ho⟩
  obtain ⟨ao2, cap2, hsl⟩ := sliceOf_own hr
  have HO1 := Lib.hid ho
  have hF1 := hF.only ho
  have hbx1 : w1.cell? ⟨bx, 0, none⟩ = some (.pointer (some ⟨mb, 0, none⟩)) := by rw [ho.cell (World.block_lt_of_cell? _ _ hbx) id]; exact hbx
  obtain rfl := hsl.val
  have HR1 := Lib.hid hr
  have HS1 := Lib.hid (show base ≤ w1.heap.size from Nat.le_trans hbw ho.size)
  clear hr ho hF hbx HJ hsl
  go_wp2_with fail
  have HOWN := Lib.hid (fun (x : Nat) (hx : pv.ownBlock = some x) => (show base ≤ x by
    rcases hF1.row.2 with ⟨hn, _⟩ | ⟨g, c2, cur, hn, hg, _⟩
    · rw [hn] at hx; cases hx
    · rw [hn] at hx; obtain rfl : g = x := by simpa [Value.ownBlock] using hx
      exact hg))
  go_loopw [18] (fun i wr => ∃ (k : Nat) (pv' : Value), k ≤ T.length ∧ i = .int .i64 (k : Int) ∧ Hid (FAt wr mb base { m with pieces := m.pieces ++ (T.take k).map fun s => (e, s) } pv') ∧ Hid (wr.ownsRow w.heap.size 9 1 (.slice ao2 T.length cap2) T.length (txts T)) ∧ Only (fun k => k = mb ∨ pv.ownBlock = some k ∨ w1.heap.size ≤ k) w1 wr ∧ KeepsOthers w1 wr ∧ (∀ x, pv'.ownBlock = some x → pv.ownBlock = some x ∨ w1.heap.size ≤ x)) (fun i _ => 100001 - (intOf i).toNat)
  case atStart => exact ⟨0, pv, by omega, rfl, Lib.hid (by simpa using hF1), HR1, Only.refl _ _, KeepsOthers.refl _, fun x h => .inl h⟩
  case round =>
    obtain ⟨k, pv', hk, rfl, hFk, hTk, hor, hko, hpo⟩ := hrel
    by_cases hkt : k < T.length
    · have hI : (k : Int) < (T.length : Int) := by omega
      have hI0 : (0 : Int) ≤ (k : Int) := by omega
      obtain ⟨ao3, cap3, hsl⟩ := sliceOf_own hTk.out
      obtain ⟨gl, ol, hao, hcl⟩ := hsl.cell k _ (txts_at T k hkt)
      have hve := hsl.val
      simp only [Value.slice.injEq] at hve
      obtain ⟨rfl, _, rfl⟩ := hve
      subst hao
      have htk : T.take (k + 1) = T.take k ++ [T[k]] := by rw [List.take_add_one, List.getElem?_eq_getElem hkt]; rfl
      generalize T[k] = s at htk hcl
      have HT := Lib.hid htk
      have hnb : ¬ (bx = mb ∨ pv.ownBlock = some bx ∨ w1.heap.size ≤ bx) := by
        rintro (e | e | e)
        · exact hne e
        · have h' : base ≤ bx := HOWN.out bx e
          omega
        · have := HS1.out
          omega
      have hbxr : wr.cell? ⟨bx, 0, none⟩ = some (.pointer (some ⟨mb, 0, none⟩)) := by rw [hor.cell (World.block_lt_of_cell? _ _ hbx1) hnb]; exact hbx1
      have HO2 := Lib.hid (hor.trans (Only.drew wr _))
      have HKO := Lib.hid (hko.trans (KeepsOthers.drew wr))
      have HPO := Lib.hid hpo
      clear hko hpo
      clear htk hsl hor
      go_upto_region 5 with fail
      refine wp_region_pick (fun W => W.cell? ⟨bx, 0, none⟩ = some (.pointer (some ⟨mb, 0, none⟩)) ∧ W.cell? ⟨mb, 28, none⟩ = some pv') [(0, 1), (1, 1), (2, 0), (3, 0), (4, 1), (5, 0), (6, 0), (7, 0), (8, 2), (9, 2), (10, 0), (11, 0), (12, 3)] (by kernel_rfl) (by kernel_rfl) (fun _ _ d _ _ h => by cases d <;> exact h) ⟨hbxr, hFk.out.c28⟩ ?_
      have hF3 := hFk.out.only (Only.drew wr (fun _ => False))
      have hT3 := ownsRow_only hTk.out (Only.drew wr (fun _ => False)) (fun _ _ h => h)
      have hs3 : base ≤ wr.drew.heap.size := Nat.le_trans HS1.out HO2.out.size
      replace hbxr : wr.drew.cell? ⟨bx, 0, none⟩ = _ := hbxr
      generalize wr.drew = w3 at HO2 HKO hF3 hT3 hs3 hbxr ⊢
      simp only [pickOps, List.getElem?_cons_zero, List.getElem?_cons_succ]
      refine wpL_held (a' := ?_) (.pointer (some ⟨mb, 0, none⟩)) rfl (fun W hW => exec_load (p := .pointer (some ⟨bx, 0, none⟩)) rfl rfl (run_load_one W _ _ _ _ Tryd.underlying96 rfl hW.1)) ?_ ?_; rotate_left; (· simp only [put_some, List.setIfInBounds_toArray, List.set_cons_zero, List.set_cons_succ]; rfl)
      refine wpL_held (a' := ?_) (.pointer (some ⟨mb, 0, none⟩)) rfl (fun W hW => exec_load (p := .pointer (some ⟨bx, 0, none⟩)) rfl rfl (run_load_one W _ _ _ _ Tryd.underlying96 rfl hW.1)) ?_ ?_; rotate_left; (· simp only [put_some, List.setIfInBounds_toArray, List.set_cons_zero, List.set_cons_succ]; rfl)
      iterate 2 (refine wpL_pure (a' := ?_) ?_ rfl (fun W => ?_) ?_ ?_; rotate_left 2; (· go_simp; first | (go_bits; with_reducible rfl) | with_reducible rfl); (· simp only [put_some, List.setIfInBounds_toArray, List.set_cons_zero, List.set_cons_succ]; rfl))
      refine wpL_held (a' := ?_) pv' rfl (fun W hW => exec_load (p := .pointer (some ⟨mb, 28, none⟩)) rfl rfl (run_load_one W _ _ _ _ Tryd.underlying29 rfl hW.2)) ?_ ?_; rotate_left; (· simp only [put_some, List.setIfInBounds_toArray, List.set_cons_zero, List.set_cons_succ]; rfl)
      iterate 2 (refine wpL_pure (a' := ?_) ?_ rfl (fun W => ?_) ?_ ?_; rotate_left 2; (· go_simp; first | (go_bits; with_reducible rfl) | with_reducible rfl); (· simp only [put_some, List.setIfInBounds_toArray, List.set_cons_zero, List.set_cons_succ]; rfl))
      refine wpL_pure (a' := ?_) (.agg #[.int .i64 e, .string ⟨s.toArray⟩]) rfl (fun W => exec_buildN rfl (parts := #[(0, .int .i64 e), (1, .string ⟨s.toArray⟩)]) (by simp only [List.map_toArray, List.map_cons, List.map_nil]; go_simp) (Tryd.buildPiece _ _ W)) ?_ ?_; rotate_left; (· simp only [put_some, List.setIfInBounds_toArray, List.set_cons_zero, List.set_cons_succ]; rfl)
      have hoA := Only.alloc w3 (.cells #[.int .i64 e, .string ⟨s.toArray⟩] 50) (fun _ => False)
      refine wpL_stepRun (a' := ?_) (w' := w3.alloc (.cells #[.int .i64 e, .string ⟨s.toArray⟩] 50)) (.slice (some ⟨w3.heap.size, 0, none⟩) 1 1) rfl (exec_buildSlice_one rfl (v := .agg #[.int .i64 e, .string ⟨s.toArray⟩]) rfl (run_buildSlice_one w3 29 50 _ _ #[.int .i64 e, .string ⟨s.toArray⟩] 2 24 rfl rfl (by decide) (by decide) Tryd.underlying29 Tryd.infoPiece)) ⟨by rw [hoA.cell (World.block_lt_of_cell? _ _ hbxr) id]; exact hbxr, (hF3.only hoA).c28⟩ ?_ ?_; rotate_left; (· simp only [put_some, List.setIfInBounds_toArray, List.set_cons_zero, List.set_cons_succ]; rfl)
      have hpl2 : (m.pieces ++ (T.take k).map fun s => (e, s)).length + 1 ≤ 100000000 := by rw [List.length_append, List.length_map, List.length_take]; omega
      obtain ⟨v6, w6, hrun6, hown6, ho6, hfr6⟩ := append_one_row2 (P := Tryd.prog) w3 base 29 29 50 _ 2 24 Tryd.underlying29 Tryd.infoPiece rfl (by decide) pv' (m.pieces ++ (T.take k).map fun s => (e, s)).length _ hF3.row [.int .i64 e, .string ⟨s.toArray⟩] rfl (by simp [Value.oneCell']) hpl2 (by decide) hs3
      have hown : ∀ x, pv'.ownBlock = some x → base ≤ x := fun x hx => by
        rcases hF3.row.2 with ⟨hn, _⟩ | ⟨g, c2, cur, hn, hg, _⟩
        · rw [hn] at hx; cases hx
        · rw [hn] at hx; obtain rfl : g = x := by simpa [Value.ownBlock] using hx
          exact hg
      have hbx6 : w6.cell? ⟨bx, 0, none⟩ = some (.pointer (some ⟨mb, 0, none⟩)) := by rw [ho6.cell (World.block_lt_of_cell? _ _ hbxr) (fun e => by have h' : base ≤ bx := hown _ e; omega)]; exact hbxr
      have hh6 := ho6.keep hF3.head (fun e => by have := hown _ e; omega)
      have hc6 : w6.cell? ⟨mb, 28, none⟩ = some pv' := by
        have := hF3.c28
        rw [ho6.cell (World.block_lt_of_cell? _ _ this) (fun e => by have h' : base ≤ mb := hown _ e; omega)]; exact this
      refine wpL_stepRun (a' := ?_) v6 rfl (exec_append rfl (vs := pv') (vx := .slice (some ⟨w3.heap.size, 0, none⟩) 1 1) rfl rfl hrun6) ⟨hbx6, hc6⟩ ?_ ?_; rotate_left; (· simp only [put_some, List.setIfInBounds_toArray, List.set_cons_zero, List.set_cons_succ]; rfl)
      iterate 2 (refine wpL_pure (a' := ?_) ?_ rfl (fun W => ?_) ?_ ?_; rotate_left 2; (· go_simp; first | (go_bits; with_reducible rfl) | with_reducible rfl); (· simp only [put_some, List.setIfInBounds_toArray, List.set_cons_zero, List.set_cons_succ]; rfl))
      have hv1 : v6.cells = #[v6] ∧ v6.oneCell' = true := by
        rcases hown6.2 with ⟨e, _⟩ | ⟨g, cap, cur, e, _⟩ <;> rw [e] <;> exact ⟨rfl, rfl⟩
      refine wpL_lastDone (a' := ?_) (w' := w6.setCell ⟨mb, 28, none⟩ v6) rfl (exec_store rfl (p := .pointer (some ⟨mb, 28, none⟩)) (v := v6) rfl rfl (run_store_one w6 ⟨mb, 28, none⟩ v6 pv' 29 hv1.1 hv1.2 Tryd.sizePieces hc6 (free_at hh6 28))) ?_ ?_; rotate_left; (· simp only [put_none]; rfl)
      refine wpL_nil ?_
      have hap := rows_apart hF3.row hT3 (by decide)
      have hT7 := ownsRow_only (ownsRow_only hT3 ho6 (fun x hx e => hap x e hx)) (Only.one w6 mb 28 v6) (fun x hx e => by
        rcases hT3.2 with ⟨hn, _⟩ | ⟨g, c2, cur, hn, hg, _⟩
        · rw [hn] at hx; cases hx
        · rw [hn] at hx; obtain rfl : g = x := by simpa [Value.ownBlock] using hx
          have hg' : w.heap.size ≤ g := hg
          have e' : g = mb := e
          omega)
      have hset := heap_setCell_same w6 mb 28 _ _ v6 hh6
      rw [List.setIfInBounds_toArray, foundCells_set _ _ _ hF3.len] at hset
      have hrow7 := ownsRow_only hown6 (Only.one w6 mb 28 v6) (fun x hx e => by
        rcases hown6.2 with ⟨hn, _⟩ | ⟨g, c2, cur, hn, hg, _⟩
        · rw [hn] at hx; cases hx
        · rw [hn] at hx; obtain rfl : g = x := by simpa [Value.ownBlock] using hx
          have e' : g = mb := e
          omega)
      have hF7 : FAt (w6.setCell ⟨mb, 28, none⟩ v6) mb base { m with pieces := m.pieces ++ (T.take (k + 1)).map fun s => (e, s) } v6 := by
        refine ⟨hF3.len, hset, ?_⟩
        have h0 : (m.pieces ++ (T.take (k + 1)).map fun s => (e, s)) = (m.pieces ++ (T.take k).map fun s => (e, s)) ++ [(e, s)] := by rw [HT.out, List.map_append, List.append_assoc]; rfl
        show World.ownsRow _ base _ 2 v6 (m.pieces ++ (T.take (k + 1)).map fun s => (e, s)).length (pieceCells (m.pieces ++ (T.take (k + 1)).map fun s => (e, s)))
        rw [h0, pieceCells_append, List.length_append]
        exact hrow7
      have HF7 := Lib.hid hF7
      have HT7 := Lib.hid hT7
      have HO7 := Lib.hid (HO2.out.trans ((ho6.mono (fun x _ hx => .inr (HPO.out x hx))).trans (Only.setCell (S := fun k => k = mb ∨ pv.ownBlock = some k ∨ w1.heap.size ≤ k) w6 mb 28 v6 (.inl rfl))))
      have HK7 := Lib.hid (HKO.out.trans (KeepsOthers.trans ⟨ho6.size, fun k o hk hc => ho6.keep hk (fun e => by
        rcases hF3.row.2 with ⟨hn, _⟩ | ⟨g, c2, cur, hn, _, hg, _⟩
        · rw [hn] at e; cases e
        · rw [hn] at e; obtain rfl : g = k := by simpa [Value.ownBlock] using e
          rw [hg] at hk; cases hk; cases hc)⟩ (KeepsOthers.setCell w6 ⟨mb, 28, none⟩ v6)))
      have HP7 := Lib.hid (fun (x : Nat) (hx : v6.ownBlock = some x) => (show pv.ownBlock = some x ∨ w1.heap.size ≤ x by
        rcases hfr6 x hx with h | h
        · exact HPO.out x h
        · exact .inr (Nat.le_trans HO2.out.size h)))
      clear hF7 hT7 hrow7 hset hap hv1 hc6 hh6 hbx6 hown hfr6 ho6 hown6 hrun6 hpl2 hoA hbxr hs3 hT3 hF3 HO2 hTk hFk hcl hbx1 hF1
      generalize w6.setCell ⟨mb, 28, none⟩ v6 = w7 at HF7 HT7 HO7 HK7 ⊢
      go_wp2_with fail
      exact ⟨⟨k + 1, v6, by omega, rfl, HF7, HT7, HO7.out, HK7.out, HP7.out⟩, by simp [intOf]; omega⟩
    · obtain rfl : k = T.length := by omega
      have hI : ¬ (T.length : Int) < (T.length : Int) := by omega
      have HFF := Lib.hid (show FAt wr mb base { m with pieces := m.pieces ++ T.map fun s => (e, s) } pv' by have := hFk.out; rwa [List.take_length] at this)
      have HO := Lib.hid (show Only (fun k => k = mb ∨ pv.ownBlock = some k) w wr from (HO1.out.mono (T := fun k => k = mb ∨ pv.ownBlock = some k) (fun _ _ h => h.elim)).trans' hor (fun y hy e => by
        rcases e with e | e | e
        · exact .inl e
        · exact .inr e
        · exfalso; have := HO1.out.size; omega))
      have HK := Lib.hid (KeepsOthers.trans (⟨HO1.out.size, fun k o hk _ => HO1.out.keep hk id⟩ : KeepsOthers w w1) hko)
      clear hF1 hbx1 hTk hFk hor hko hpo
      go_wp2_with fail
      go_ret2
      exact ⟨rfl, ⟨pv', HFF.out⟩, HO.out, HK.out⟩
end Go.Proofs.YtlgefjcfnnjkbaaDoor
/- Frames are collected within a loop over a function: the arms inside a fence, the row. No conditions. -/
namespace Go.Proofs.YtlgefjcfnnjkbaaDoor
set_option maxRecDepth 100000
open Go.RowKit Go.Shelf
attribute [local go_sem] Oper.semAt_some

section
variable {F : Fence} {n : Nat} {P : Program} {ops : Array Oper} {rest : List Oper} {a : Act} {Q : Exit → Act → World → Prop} {W W' : World}
theorem wpListIn_runOp {o : Oper} (hg : o.guard = none) (hab : o.about P W a.eval = none) (hnd : ∀ c, o.op ≠ .defer c) (v : Value) (h : (execOp a.eval o).run P W = .ok (.value v) W') (hK : wpListIn F n P ops Q rest (a.put o.dst v) W') :
    wpListIn F n P ops Q (o :: rest) a W := by
  refine wpListIn_plain hg fun K hK' => ?_
  unfold Oper.wpIn
  refine ⟨fun f hf => (by rw [hab] at hf; cases hf), ?_⟩
  rw [Oper.semAt_plain F _ _ hnd, h]
  exact hK' _ _ hK
variable {dst : Option Tmp} {x y : Operand} {t t' ty : TypeId} {pos : String} {after : Array Edge}
theorem wpListIn_buildSlice_agg (e : TypeId) (z v : Value) (cells : Array Value) (size bytes : Nat) (hv : v.cells = cells) (hs : cells.size = size) (h0 : 0 < size) (h1 : size ≤ 16777216) (hu : P.underlying t = some (.slice e))
    (hi : (P.info? e).map (fun i => (i.zero, i.size, i.bytes)) = some (some z, size, bytes)) (hx : a.eval x = v) (hK : wpListIn F n P ops Q rest (a.put dst (.slice (some ⟨W.heap.size, 0, none⟩) 1 1)) (W.alloc (.cells cells e))) :
    wpListIn F n P ops Q ({ dst := dst, op := .buildSlice t 1 #[(0, x)], type := ty, pos := pos, after := after, guard := none } :: rest) a W :=
  wpListIn_runOp rfl (by simp [Oper.about]) (by intro c hc; cases hc) _ (exec_buildSlice_one rfl hx (run_buildSlice_one W t e z v cells size bytes hv hs h0 h1 hu hi)) hK
theorem wpListIn_append_run (vs vx r : Value) (h : (Builtin.append_ #[t, t'] ty #[vs, vx]).run P W = .ok r W') (hs : a.eval x = vs) (hx : a.eval y = vx) (hK : wpListIn F n P ops Q rest (a.put dst r) W') :
    wpListIn F n P ops Q ({ dst := dst, op := .call { callee := .builtin .append, args := #[x, y], argTypes := #[t, t'] }, type := ty, pos := pos, after := after, guard := none } :: rest) a W :=
  wpListIn_runOp rfl (by simp [Oper.about, resolve, Target.leads, Sem.run_pure]) (by intro c hc; cases hc) _ (exec_append rfl hs hx h) hK
end

/-- frames that are collected: a box, a row from a base on -/
structure Col (X : World) (Fb base : Nat) (l : List Fr) (pvf : Value) : Prop where
  box : X.heap[Fb]? = some (.cells #[pvf] 118 (0, 0))
  row : X.ownsRow base 86 4 pvf l.length (frs l)
theorem Col.only {X Y : World} {Fb base : Nat} {l : List Fr} {pvf : Value} (h : Col X Fb base l pvf) (ho : Only (fun _ => False) X Y) : Col Y Fb base l pvf := ⟨ho.keep h.box id, ownsRow_only h.row ho (fun _ _ h => h)⟩
theorem ownsRow_grown {X Y : World} {row : Option Nat} {base : Nat} {e : TypeId} {size : Nat} {v : Value} {n : Nat} {xs : List Value} (h : X.ownsRow base e size v n xs) (hg : X.grownBy Y row) (hr : ∀ r, row = some r → ∃ o : Obj, X.heap[r]? = some o ∧ o.isCells = false) : Y.ownsRow base e size v n xs := by
  refine ⟨h.1, ?_⟩
  rcases h.2 with hn | ⟨g, cap, cur, rfl, hb, hgc, r⟩
  · exact .inl hn
  · exact .inr ⟨g, cap, cur, rfl, hb, (grownBy_keeps_cells hg hr hgc rfl).trans hgc, r⟩
theorem col_own {β : Type} (Fb base : Nat) (f : β → List Fr) : Own (fun (x : β) X => ∃ pvf, Col X Fb base (f x) pvf) := fun _ _ _ _ hs hg hr => by
  obtain ⟨pvf, h⟩ := hs
  exact ⟨pvf, (grownBy_keeps_cells hg hr h.box rfl).trans h.box, ownsRow_grown h.row hg hr⟩
theorem frs_snoc (l : List Fr) (f : Fr) : frs (l ++ [f]) = frs l ++ [.int .i64 f.e, .int .i64 f.a, .int .i64 f.k, .string ⟨f.s.toArray⟩] := by simp [frs, Fr.cells]
theorem slice_cells {w : World} {b : Nat} {e : TypeId} {size : Nat} {v : Value} {n : Nat} {xs : List Value} (h : w.ownsRow b e size v n xs) : v.cells = #[v] ∧ v.oneCell' = true := by
  rcases h.2 with ⟨e, _⟩ | ⟨g, cap, cur, e, _⟩ <;> rw [e] <;> exact ⟨rfl, rfl⟩
theorem ownBlock_ge {w : World} {b : Nat} {e : TypeId} {size : Nat} {v : Value} {n : Nat} {xs : List Value} (h : w.ownsRow b e size v n xs) {k : Nat} (hk : v.ownBlock = some k) : b ≤ k := by
  rcases h.2 with ⟨hn, _⟩ | ⟨g, c2, cur, hn, hg, _⟩
  · rw [hn] at hk; cases hk
  · rw [hn] at hk; obtain rfl : g = k := by simpa [Value.ownBlock] using hk
    exact hg
/-- one frame more: the append and the store -/
theorem Col.more {X : World} {Fb base : Nat} {l : List Fr} {pvf : Value} (h : Col X Fb base l pvf) (hb : Fb < base) (hs : base ≤ X.heap.size) (hl : l.length ≤ 1000) (f : Fr) :
    ∃ v' X', (Builtin.append_ #[118, 118] 118 #[pvf, .slice (some ⟨X.heap.size, 0, none⟩) 1 1]).run Tryd.prog (X.alloc (.cells [.int .i64 f.e, .int .i64 f.a, .int .i64 f.k, .string ⟨f.s.toArray⟩].toArray 86)) = .ok v' X' ∧
      v'.cells = #[v'] ∧ v'.oneCell' = true ∧ X'.heap[Fb]? = some (.cells #[pvf] 118 (0, 0)) ∧ Col (X'.setCell ⟨Fb, 0, none⟩ v') Fb base (l ++ [f]) v' ∧ Only (fun k => k = Fb ∨ base ≤ k) X (X'.setCell ⟨Fb, 0, none⟩ v') ∧
      KeepsOthers X (X'.setCell ⟨Fb, 0, none⟩ v') := by
  obtain ⟨v', X', hrun, hown, ho, hfr⟩ := append_one_row2 (P := Tryd.prog) X base 118 118 86 _ 4 40 Tryd.underlying118 Tryd.info23 rfl (by decide) pvf l.length _ h.row [.int .i64 f.e, .int .i64 f.a, .int .i64 f.k, .string ⟨f.s.toArray⟩] rfl (by simp [Value.oneCell']) (by omega) (by decide) hs
  have hbx := ho.keep h.box (fun e => by have := ownBlock_ge h.row e; omega)
  refine ⟨v', X', hrun, (slice_cells hown).1, (slice_cells hown).2, hbx, ⟨?_, ?_⟩, ?_, ?_⟩
  · exact heap_setCell_same X' Fb 0 _ _ v' hbx
  · rw [frs_snoc, List.length_append]
    exact ownsRow_only hown (Only.one X' Fb 0 v') (fun x hx e => by have := ownBlock_ge hown hx; have e' : x = Fb := e; omega)
  · exact (ho.mono (fun x _ hx => .inr (ownBlock_ge h.row hx))).trans (Only.setCell (S := fun k => k = Fb ∨ base ≤ k) X' Fb 0 v' (.inl rfl))
  · refine KeepsOthers.trans ⟨ho.size, fun k o hk hc => ho.keep hk (fun e => ?_)⟩ (KeepsOthers.setCell X' _ _)
    rcases h.row.2 with ⟨hn, _⟩ | ⟨g, c2, cur, hn, _, hg, _⟩
    · rw [hn] at e; cases e
    · rw [hn] at e; obtain rfl : g = k := by simpa [Value.ownBlock] using e
      rw [hg] at hk; cases hk; cases hc
end Go.Proofs.YtlgefjcfnnjkbaaDoor
