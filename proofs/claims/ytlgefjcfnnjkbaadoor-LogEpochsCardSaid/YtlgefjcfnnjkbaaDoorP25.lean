/- Parts of the proof, one behind the other: LogZi, LogCe. Each part's own words say what it proves; no conditions. -/
import Derived.Test.YtlgefjcfnnjkbaaDoorP17
import Derived.Test.YtlgefjcfnnjkbaaDoorP24
set_option linter.unusedVariables false
set_option linter.unusedSimpArgs false
set_option linter.unusedSectionVars false
/- A small log, reckoned: one batch is appended and sealed, another one appended, power goes. Plain; no program is named; no conditions. -/
namespace Go.Proofs.YtlgefjcfnnjkbaaDoor
set_option maxRecDepth 100000

def shA : D × Lg × List Int × Int := (Lg.new 4 4).append (D.new 16) [[97]] false
def shB : D × Lg × Int := shA.2.1.shut shA.1
def shC : D × Lg × List Int × Int := shB.2.1.append shB.1 [[98]] false
def shE : D := shC.1.crash []
def piecesOpt : Opened → Option (List (Int × List UInt8))
  | .ok _ _ p => some p
  | _ => none
theorem sh_a : shA.2.2.1 = [1] ∧ shA.2.2.2 = 0 := by decide +kernel
theorem sh_b : shB.2.2 = 0 := by decide +kernel
theorem sh_u : shB.2.1.uses = [⟨1, 3⟩] := by decide +kernel
theorem sh_f : shB.2.1.free = 3 := by decide +kernel
theorem sh_c : shC.2.2.1 = [2] ∧ shC.2.2.2 = 0 := by decide +kernel
theorem sh_o : piecesOpt (openL shE 4) = some [(1, [97])] := by decide +kernel
theorem sh_p : shC.1.pend.length ≤ 100 ∧ shA.1.pend.length ≤ 100 ∧ shB.1.pend.length ≤ 100 := by decide +kernel
theorem sh_k : shE.kept.length = 16 ∧ shA.1.kept.length = 16 ∧ shB.1.kept.length = 16 ∧ shC.1.kept.length = 16 := by decide +kernel
theorem sh_st0 : LSt (D.new 16) (Lg.new 4 4) 0 [] := .new (lnew_new 16 4 (by decide) (by decide) (by decide) (by decide)) rfl rfl
theorem sh_stA : LSt shA.1 shA.2.1 0 [[97]] := ((append_steps sh_st0 rfl [[97]] false).zero sh_a.2).1
theorem sh_stB : LSt shB.1 shB.2.1 1 [[97]] := by
  obtain ⟨d', l', e', h1, _, _, _, _, _, _, h⟩ := shut_steps sh_stA
  have h2 : shB = (d', l', e') := h1
  have h0 := sh_b
  rw [h2] at h0 ⊢
  exact (h h0).st
theorem sh_stC : LSt shC.1 shC.2.1 1 [[97], [98]] := ((append_steps sh_stB sh_stB.down [[98]] false).zero sh_c.2).1
theorem sh_E : shE.pend = [] ∧ shE.cut = false := ⟨rfl, rfl⟩
theorem sh_per : shC.2.1.per = 4 := by decide +kernel
def lenOpt : Opened → Nat
  | .ok d _ _ => d.kept.length
  | _ => 0
theorem sh_n : lenOpt (openL shE 4) = 16 := by decide +kernel
theorem sh_s : shE.kept.length = 16 ∧ shE.pend.length = 0 := by decide +kernel
theorem piecesOpt_some {r : Opened} {p : List (Int × List UInt8)} (h : piecesOpt r = some p) : ∃ d l, r = .ok d l p := by
  cases r with
  | ok d l q => exact ⟨d, l, by rw [show q = p from Option.some.inj h]⟩
  | rot x => cases h
  | err d e => cases h
theorem piecesOpt_rot {d : D} {per : Nat} {x : Nat} (h : look (frAt d per) per (d.kept.length / per) = .inr x) : piecesOpt (openL d per) = none := by
  unfold openL
  simp only
  rw [h]; rfl
end Go.Proofs.YtlgefjcfnnjkbaaDoor
/- A log's chain, as it is told. No conditions. -/
namespace Go.Proofs.YtlgefjcfnnjkbaaDoor
set_option maxRecDepth 100000
open Go.RowKit

theorem Tryd.buildApiUse (a b : Int) (w : World) : (Instr.build 43 #[(0, .int .i64 a), (1, .int .i64 b)]).run Tryd.prog w = .ok (.agg #[.int .i64 a, .int .i64 b]) w := by kernel_rfl
theorem Tryd.infoApiUse : (Tryd.prog.info? 43).map (fun i => (i.zero, i.size, i.bytes)) = some (some (.agg #[.int .i64 0, .int .i64 0]), 2, 16) := by kernel_rfl
theorem usCells_append (a b : List Us) : usCells (a ++ b) = usCells a ++ usCells b := by simp [usCells]
def ChainPost (w : World) (us : List Us) (e : Ending) (w' : World) : Prop := ∃ v, e = .returned v ∧ w'.ownsRow w.heap.size 43 2 v us.length (usCells us) ∧ Only (fun _ => False) w w'

set_option maxHeartbeats 8000000 in
theorem chain_any (w : World) (lb p kb : Nat) (pv : Value) (d : D) (l : Lg) (h : LgAt w lb p kb pv d l) :
    Calls Tryd.prog 7 #[.pointer (some ⟨lb, 0, none⟩)] w (ChainPost w l.uses) := by
  have HB := Lib.hid (show l.uses = (if l.down then [] else (orderL l.chain).map fun k => l.chain.getD k Us.no) from rfl)
  generalize l.uses = B at HB ⊢
  have h31 := h.c31
  cases hd : l.down with
  | true =>
    rw [hd] at h31 HB
    have HN := Lib.hid (show B = [] from HB.out)
    clear hd HB
    go_enter Tryd.func7, Tryd.ntmps7
    go_wp2_with fail
    go_ret
    exact ⟨.slice none 0 0, rfl, by rw [HN.out]; exact ⟨rfl, .inl ⟨rfl, rfl⟩⟩, Only.refl _ _⟩
  | false =>
    rw [hd] at h31 HB
    have HN := Lib.hid (show B = (orderL l.chain).map fun k => l.chain.getD k Us.no from HB.out)
    clear hd HB
    have hol : (orderL l.chain).length ≤ 12 := by
      have h1 : (orderL l.chain).length = (usedL l.chain).length := (insAll_perm l.chain _).length_eq
      have := usedTo_le l.chain l.chain.length
      rw [h.len] at this
      rw [h1, usedL, h.len]
      exact this
    have hom : ∀ k ∈ orderL l.chain, k < 12 := fun k hk => by have := ((mem_orderL _ k).1 hk).1; rw [h.len] at this; exact this
    have HORD := Lib.hid (order_any w lb 3 l.chain h.cat)
    generalize orderL l.chain = L at HN hol hom HORD
    have HOM := Lib.hid hom
    clear hom
    go_enter Tryd.func7, Tryd.ntmps7
    go_wp2_with fail
    refine HORD.out.mono ?_
    rintro ev w1 ⟨v, rfl, hord, ho1⟩
    obtain ⟨ao, cap, hsl⟩ := sliceOf_own hord
    obtain rfl := hsl.val
    have h1 := h.quiet ho1
    have HROW := Lib.hid hord
    have HO1 := Lib.hid ho1
    clear hord hsl HORD ho1 h31
    go_wp2_with fail
    go_loopw [3, 19] (fun v i wr => ∃ k : Nat, k ≤ L.length ∧ i = .int .i64 (k : Int) ∧ Hid (wr.ownsRow w1.heap.size 43 2 v k (usCells ((L.take k).map fun k => l.chain.getD k Us.no))) ∧ Only (fun _ => False) w1 wr) (fun v i _ => 13 - (intOf i).toNat)
    case atStart => exact ⟨0, by omega, rfl, Lib.hid ⟨rfl, .inl ⟨rfl, rfl⟩⟩, Only.refl _ _⟩
    case round =>
      obtain ⟨k, hk, rfl, hrow, hor⟩ := hrel
      by_cases hkl : k < L.length
      · have hI : (k : Int) < (L.length : Int) := by omega
        have hI0 : (0 : Int) ≤ (k : Int) := by omega
        obtain ⟨ao3, cap3, hsl⟩ := sliceOf_own (ownsRow_only HROW.out hor (fun _ _ h => h))
        obtain ⟨gl, ol, hao, hcl3⟩ := hsl.cell k _ (natVs_get (List.getElem?_eq_getElem hkl))
        have hve := hsl.val
        simp only [Value.slice.injEq] at hve
        obtain ⟨rfl, _, rfl⟩ := hve
        subst hao
        have htk : L.take (k + 1) = L.take k ++ [L[k]] := by rw [List.take_add_one, List.getElem?_eq_getElem hkl]; rfl
        have hk12 := HOM.out _ (List.getElem_mem hkl)
        generalize L[k] = kk at htk hcl3 hk12
        have hkI : (kk : Int) < 12 := by omega
        have hkI0 : (0 : Int) ≤ (kk : Int) := by omega
        generalize hu : l.chain.getD kk Us.no = u at *
        have HTK := Lib.hid (show usCells ((L.take (k + 1)).map fun k => l.chain.getD k Us.no) = usCells ((L.take k).map fun k => l.chain.getD k Us.no) ++ [.int .i64 u.e, .int .i64 u.c] by
          rw [htk, List.map_append, usCells_append]
          simp only [List.map_cons, List.map_nil, hu]
          rfl)
        have HU := Lib.hid hu
        clear htk hsl hu
        have HQ := Lib.hid (show ∀ W, Only (fun _ => False) wr W → W.cell? ⟨lb, 3 + kk * 2, none⟩ = some (.int .i64 u.e) ∧ W.cell? ⟨lb, 3 + kk * 2 + 1, none⟩ = some (.int .i64 u.c) ∧ True ∧ True from fun W hW => by
          have h' := h1.quiet (hor.trans hW)
          obtain ⟨c1, c2⟩ := h'.cat.cells hk12
          rw [HU.out] at c1 c2
          exact ⟨c1, c2, trivial, trivial⟩)
        go_upto_region 7 with fail
        refine wp_region_pick (fun W => Only (fun _ => False) wr W) [(0, 0), (1, 0), (2, 0), (3, 0), (4, 0), (5, 0), (6, 0), (7, 1), (8, 0), (9, 0), (10, 0), (11, 0), (12, 0), (13, 0), (14, 1), (15, 0), (16, 2), (17, 3), (18, 0)] (by kernel_rfl) (by kernel_rfl) (fun _ _ d _ _ h => by cases d <;> exact h) (Only.drew wr _) ?_
        have ho3 := Only.drew wr (fun _ => False)
        have hrow3 := ownsRow_only hrow.out ho3 (fun _ _ h => h)
        have hsz3 : w1.heap.size ≤ wr.drew.heap.size := hor.size
        clear hcl3 hrow
        generalize wr.drew = w3 at ho3 hrow3 hsz3 ⊢
        simp only [pickOps, List.getElem?_cons_zero, List.getElem?_cons_succ]
        iterate 15 (first | (refine wpL_pure (a' := ?_) ?_ rfl (fun W => ?_) ?_ ?_; rotate_left 2; (· go_simp; first | (go_bits; with_reducible rfl) | with_reducible rfl); (· simp only [put_some, List.setIfInBounds_toArray, List.set_cons_zero, List.set_cons_succ]; rfl)) | (refine wpL_held (a' := ?_) ?_ rfl (fun W hW => ?_) ?_ ?_; rotate_left 2; (· obtain ⟨q1, q2, q3, q4⟩ := HQ.out W hW; go_simp; first | (go_bits; with_reducible rfl) | with_reducible rfl); (· simp only [put_some, List.setIfInBounds_toArray, List.set_cons_zero, List.set_cons_succ]; rfl)))
        refine wpL_pure (a' := ?_) (.agg #[.int .i64 u.e, .int .i64 u.c]) rfl (fun W => exec_buildN rfl (parts := #[(0, .int .i64 u.e), (1, .int .i64 u.c)]) (by simp only [List.map_toArray, List.map_cons, List.map_nil]; go_simp) (Tryd.buildApiUse _ _ W)) ?_ ?_; rotate_left; (· simp only [put_some, List.setIfInBounds_toArray, List.set_cons_zero, List.set_cons_succ]; rfl)
        have hoA := Only.alloc w3 (.cells #[.int .i64 u.e, .int .i64 u.c] 43) (fun _ => False)
        refine wpL_stepRun (a' := ?_) (w' := w3.alloc (.cells #[.int .i64 u.e, .int .i64 u.c] 43)) (.slice (some ⟨w3.heap.size, 0, none⟩) 1 1) rfl (exec_buildSlice_one rfl (v := .agg #[.int .i64 u.e, .int .i64 u.c]) rfl (run_buildSlice_one w3 32 43 _ _ #[.int .i64 u.e, .int .i64 u.c] 2 16 rfl rfl (by decide) (by decide) Tryd.underlying32 Tryd.infoApiUse)) (ho3.trans hoA) ?_ ?_; rotate_left; (· simp only [put_some, List.setIfInBounds_toArray, List.set_cons_zero, List.set_cons_succ]; rfl)
        obtain ⟨v6, w6, hrun6, hown6, ho6, hfr6⟩ := append_one_row2 (P := Tryd.prog) w3 w1.heap.size 32 32 43 _ 2 16 Tryd.underlying32 Tryd.infoApiUse rfl (by decide) u3 k _ hrow3 [.int .i64 u.e, .int .i64 u.c] rfl (by simp [Value.oneCell']) (by omega) (by decide) hsz3
        refine wpL_lastRun (a' := ?_) v6 rfl (exec_append rfl (vs := u3) (vx := .slice (some ⟨w3.heap.size, 0, none⟩) 1 1) rfl rfl hrun6) ?_ ?_; rotate_left; (· simp only [put_some, List.setIfInBounds_toArray, List.set_cons_zero, List.set_cons_succ]; rfl)
        (refine wpL_pure (a' := ?_) ?_ rfl (fun W => ?_) ?_ ?_; rotate_left 2; (· go_simp; first | (go_bits; with_reducible rfl) | with_reducible rfl); (· simp only [put_some, List.setIfInBounds_toArray, List.set_cons_zero, List.set_cons_succ]; rfl))
        refine wpL_nil ?_
        rw [← HTK.out] at hown6
        have HOWN := Lib.hid hown6
        have HOO := Lib.hid ((hor.trans ho3).trans' ho6 (fun y hy e => row_own_new hrow3 hy e))
        clear hrun6 hown6 ho6 hfr6 hrow3 hoA ho3 hor HQ HTK
        go_wp2_with fail
        exact ⟨⟨k + 1, by omega, rfl, HOWN, HOO.out⟩, by simp [intOf]; omega⟩
      · obtain rfl : k = L.length := by omega
        have hI : ¬ (L.length : Int) < (L.length : Int) := by omega
        have hr := hrow.out
        rw [List.take_length] at hr
        have HR := Lib.hid hr
        clear hr hrow
        go_wp2_with fail
        go_ret
        exact ⟨u3, rfl, by rw [HN.out]; exact ownsRow_down (b := w1.heap.size) (by rw [List.length_map]; exact HR.out) HO1.out.size, HO1.out.trans hor⟩
end Go.Proofs.YtlgefjcfnnjkbaaDoor
