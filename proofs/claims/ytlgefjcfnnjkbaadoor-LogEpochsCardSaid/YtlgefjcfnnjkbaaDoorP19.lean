/- Parts of the proof, one behind the other: LogCc, LogCd, LogCf, LogCg. Each part's own words say what it proves; no conditions. -/
import Derived.Deep.RegionHeld3
import Derived.Test.YtlgefjcfnnjkbaaDoorP17
set_option linter.unusedVariables false
set_option linter.unusedSimpArgs false
set_option linter.unusedSectionVars false
/- A batch is added. No conditions. -/
namespace Go.Proofs.YtlgefjcfnnjkbaaDoor
set_option maxRecDepth 100000
open Go.RowKit

theorem cutF_facts (e a : Int) (s : List UInt8) (he : 1 ≤ e ∧ e ≤ 16777215) (ha : 0 ≤ a) (hn : a + (need s.length : Nat) ≤ 64) : ∀ f ∈ cutF e a s, f.right = true ∧ f.a < a + (need s.length : Nat) := by
  intro f hf
  obtain ⟨i, hi, rfl⟩ := List.getElem_of_mem hf
  rw [cutF_get]
  rw [cutF_length] at hi
  exact ⟨cutL_right e a s _ i he ha (by omega), by simp only [cutL]; omega⟩

set_option maxHeartbeats 8000000 in
theorem add_any (w : World) (lb p kb : Nat) (pv : Value) (d : D) (l : Lg) (s : List UInt8) (h : LgAt w lb p kb pv d l) (hu1 : 1 ≤ l.use.e) (huc : l.use.c + (need s.length : Nat) ≤ l.per) (hls : l.last < l.segs) (hroom : d.pend.length + 64 ≤ 1000000) (hs : s.length ≤ maxLen) :
    Calls Tryd.prog 24 #[.pointer (some ⟨lb, 0, none⟩), .string ⟨s.toArray⟩] w (LPost w lb p kb pv (.int .i64 (l.add d s).2.2) (l.add d s).1 (l.add d s).2.1) := by
  obtain ⟨u0, u1, u2, u3⟩ := h.us l.last
  have hper := h.per64
  have hlast := h.last
  have hLI : (l.last : Int) < 12 := by omega
  have hLI0 : (0 : Int) ≤ (l.last : Int) := by omega
  have hue : l.use = l.chain.getD l.last Us.no := rfl
  rw [hue] at hu1 huc
  have HB := Lib.hid (show l.add d s = (match wrAll l.per l.last d (cutF l.use.e l.use.c s) with
      | (d1, false) => (d1, l, 22)
      | (d1, true) => (d1, l.added s, 0)) from rfl)
  generalize l.add d s = B at HB ⊢
  have hna : l.added s = { l with chain := l.chain.set l.last ⟨l.use.e, l.use.c + (need s.length : Nat)⟩, loose := true } := rfl
  rw [hue] at HB hna
  have HNA := Lib.hid hna
  generalize hu : l.chain.getD l.last Us.no = u at u0 u1 u2 u3 hu1 huc HB HNA
  have HU := Lib.hid hu
  have hfa := cutF_facts u.e u.c s ⟨hu1, u1⟩ u2 (by omega)
  have hcl := cutF_length u.e u.c s
  have hcut := fun W => cut_ok W u.e u.c s hs hu1 u1 u2 (by omega)
  generalize cutF u.e u.c s = fs at HB hfa hcl hcut
  generalize hnn : need s.length = n at *
  have HCUT := Lib.hid hcut
  clear hu hue hna hcut
  have HQ := Lib.hid (show ∀ W, Only (fun _ => False) w W → W.cell? ⟨lb, 27, none⟩ = some (.int .i64 (l.last : Int)) ∧ W.cell? ⟨lb, 3 + l.last * 2, none⟩ = some (.int .i64 u.e) ∧ W.cell? ⟨lb, 3 + l.last * 2 + 1, none⟩ = some (.int .i64 u.c) ∧ True from fun W hW => by
    have h' := h.quiet hW
    obtain ⟨c1, c2⟩ := h'.cat.cells hlast
    rw [HU.out] at c1 c2
    exact ⟨h'.c27, c1, c2, trivial⟩)
  go_enter Tryd.func24, Tryd.ntmps24
  go_upto_region 1 with fail
  refine wp_region_pick (fun W => Only (fun _ => False) w W) [(0, 0), (1, 0), (2, 0), (3, 0), (4, 1), (5, 0), (6, 0), (7, 0), (8, 0)] (by kernel_rfl) (by kernel_rfl) (fun _ _ d _ _ h => by cases d <;> exact h) (Only.drew w _) ?_
  have ho1 := Only.drew w (fun _ => False)
  generalize w.drew = w1 at ho1 ⊢
  simp only [pickOps, List.getElem?_cons_zero, List.getElem?_cons_succ]
  iterate 9 (first | (refine wpL_pure (a' := ?_) ?_ rfl (fun W => ?_) ?_ ?_; rotate_left 2; (· go_simp; first | (go_bits; with_reducible rfl) | with_reducible rfl); (· simp only [put_some, List.setIfInBounds_toArray, List.set_cons_zero, List.set_cons_succ]; rfl)) | (refine wpL_held (a' := ?_) ?_ rfl (fun W hW => ?_) ?_ ?_; rotate_left 2; (· obtain ⟨q1, q2, q3, q4⟩ := HQ.out W hW; go_simp; first | (go_bits; with_reducible rfl) | with_reducible rfl); (· simp only [put_some, List.setIfInBounds_toArray, List.set_cons_zero, List.set_cons_succ]; rfl)))
  refine wpL_nil ?_
  go_upto_region 2 with fail
  refine wp_region_pick (fun W => Only (fun _ => False) w W) [(0, 0), (1, 0), (2, 0), (3, 1), (4, 0), (5, 0), (6, 0), (7, 1), (8, 0), (9, 3), (10, 0), (11, 0), (12, 0), (13, 0), (14, 0)] (by kernel_rfl) (by kernel_rfl) (fun _ _ d _ _ h => by cases d <;> exact h) (ho1.trans (Only.drew w1 _)) ?_
  have ho2 := ho1.trans (Only.drew w1 (fun _ => False))
  generalize w1.drew = w2 at ho2 ⊢
  clear ho1
  simp only [pickOps, List.getElem?_cons_zero, List.getElem?_cons_succ]
  iterate 9 (first | (refine wpL_pure (a' := ?_) ?_ rfl (fun W => ?_) ?_ ?_; rotate_left 2; (· go_simp; first | (go_bits; with_reducible rfl) | with_reducible rfl); (· simp only [put_some, List.setIfInBounds_toArray, List.set_cons_zero, List.set_cons_succ]; rfl)) | (refine wpL_held (a' := ?_) ?_ rfl (fun W hW => ?_) ?_ ?_; rotate_left 2; (· obtain ⟨q1, q2, q3, q4⟩ := HQ.out W hW; go_simp; first | (go_bits; with_reducible rfl) | with_reducible rfl); (· simp only [put_some, List.setIfInBounds_toArray, List.set_cons_zero, List.set_cons_succ]; rfl)))
  refine wpL_lastCall (f := 47) (args := #[.int .i64 u.e, .int .i64 u.c, .string ⟨s.toArray⟩]) rfl (by kernel_rfl) ((HCUT.out w2).mono ?_)
  rintro ev w3 ⟨g, rfl, hg, hgw, ho3⟩
  refine ⟨_, rfl, ?_⟩
  simp only [put_some, List.setIfInBounds_toArray, List.set_cons_zero, List.set_cons_succ]
  iterate 5 (refine wpL_pure (a' := ?_) ?_ rfl (fun W => ?_) ?_ ?_; rotate_left 2; (· go_simp; first | (go_bits; with_reducible rfl) | with_reducible rfl); (· simp only [put_some, List.setIfInBounds_toArray, List.set_cons_zero, List.set_cons_succ]; rfl))
  refine wpL_nil ?_
  have hL3 := (LStep.refl h).quiet (ho2.trans ho3)
  have hgn : w.heap.size ≤ g := Nat.le_trans ho2.size hgw
  have h27 : w3.cell? ⟨lb, 27, none⟩ = some (.int .i64 (l.last : Int)) := hL3.at_.c27
  clear HQ HCUT ho2 ho3 hgw
  go_upto_region 5 with fail
  refine wp_region_pick (fun X => X = w3.drew) [(0, 0), (1, 0), (2, 0), (3, 0), (4, 0), (5, 0), (6, 1), (7, 0), (8, 3), (9, 0)] (by kernel_rfl) (by kernel_rfl) (fun _ _ d _ _ h => by cases d <;> exact h) rfl ?_
  have hL4 := hL3.quiet (Only.drew w3 _)
  have hg4 := (Only.drew w3 (fun _ => False)).keep hg id
  clear hL3 h27 hg
  generalize w3.drew = w4 at hL4 hg4 ⊢
  have h27 : w4.cell? ⟨lb, 27, none⟩ = some (.int .i64 (l.last : Int)) := hL4.at_.c27
  simp only [pickOps, List.getElem?_cons_zero, List.getElem?_cons_succ]
  iterate 8 (first | (refine wpL_pure (a' := ?_) ?_ rfl (fun W => ?_) ?_ ?_; rotate_left 2; (· go_simp; first | (go_bits; with_reducible rfl) | with_reducible rfl); (· simp only [put_some, List.setIfInBounds_toArray, List.set_cons_zero, List.set_cons_succ]; rfl)) | (refine wpL_held (a' := ?_) ?_ rfl (fun W hW => ?_) ?_ ?_; rotate_left 2; (· subst hW; go_simp; first | (go_bits; with_reducible rfl) | with_reducible rfl); (· simp only [put_some, List.setIfInBounds_toArray, List.set_cons_zero, List.set_cons_succ]; rfl)))
  have hSl := sliceOf_new fs hg4 (by omega)
  rw [hcl] at hSl
  have hw := gwrite_any w4 lb p kb pv d l.per l.segs l.last _ fs _ _ hL4.at_.gat (by rw [hcl]; exact hSl) (fun f hf => ⟨(hfa f hf).1, by have := (hfa f hf).2; omega⟩) hls hL4.at_.apart (fun b o e => by cases e; exact fp_new h.da hgn) (by omega) (by omega)
  refine wpL_lastCall (f := 46) (args := #[.pointer (some ⟨lb, 0, none⟩), .int .i64 (l.last : Int), .slice (some ⟨g, 0, none⟩) n n]) rfl (by kernel_rfl) (hw.mono ?_)
  rintro ev w5 ⟨pv5, rfl, hst5⟩
  refine ⟨_, rfl, ?_⟩
  simp only [put_some, List.setIfInBounds_toArray, List.set_cons_zero, List.set_cons_succ]
  (refine wpL_pure (a' := ?_) ?_ rfl (fun W => ?_) ?_ ?_; rotate_left 2; (· go_simp; first | (go_bits; with_reducible rfl) | with_reducible rfl); (· simp only [put_some, List.setIfInBounds_toArray, List.set_cons_zero, List.set_cons_succ]; rfl))
  refine wpL_nil ?_
  have hkl := (wrAll_facts l.per l.last fs d).1
  generalize wrAll l.per l.last d fs = R at HB hst5 hkl ⊢
  obtain ⟨d5, ok5⟩ := R
  simp only at hst5 hkl ⊢
  have hL5 := hL4.disk hst5 (by rw [hkl])
  clear hw hSl hL4 hst5 h27 hg4
  cases ok5 with
  | false =>
    have HN := Lib.hid (show B = (d5, l, 22) by rw [HB.out])
    unfold errP
    simp only [Bool.false_eq_true, if_false]
    clear HB
    go_wp2_with fail
    go_ret
    exact ⟨pv5, by rw [HN.out]; rfl, by rw [HN.out]; exact hL5⟩
  | true =>
    have HN := Lib.hid (show B = (d5, l.added s, 0) by rw [HB.out])
    unfold errP
    simp only [if_true]
    clear HB
    have h5 := hL5.at_
    have hce : w5.cell? ⟨lb, 3 + l.last * 2 + 1, none⟩ = some (.int .i64 u.c) := by
      have := (h5.cat.cells hlast).2
      rw [HU.out] at this; exact this
    have hcf : w5.frozen? ⟨lb, 3 + l.last * 2 + 1, none⟩ = false := free_at h5.head _
    have h30 := h5.c30
    have h30f : w5.frozen? ⟨lb, 30, none⟩ = false := free_at h5.head 30
    have hset := heap_setCell_same w5 lb (3 + l.last * 2 + 1) _ _ (.int .i64 (u.c + (n : Int))) h5.head
    rw [List.setIfInBounds_toArray, lgCells_count p l h5.len (u.c + (n : Int)) hlast, HU.out] at hset
    have ho6 := Only.one w5 lb (3 + l.last * 2 + 1) (.int .i64 (u.c + (n : Int)))
    have hus : ∀ k, 0 ≤ ((l.chain.set l.last ⟨u.e, u.c + (n : Int)⟩).getD k Us.no).e ∧ ((l.chain.set l.last ⟨u.e, u.c + (n : Int)⟩).getD k Us.no).e ≤ 16777215 ∧ 0 ≤ ((l.chain.set l.last ⟨u.e, u.c + (n : Int)⟩).getD k Us.no).c ∧ ((l.chain.set l.last ⟨u.e, u.c + (n : Int)⟩).getD k Us.no).c ≤ 64 := fun k => by
      by_cases ek : k = l.last
      · subst ek; rw [getD_set_eq (by rw [h5.len]; exact hlast)]; simp only; omega
      · rw [getD_set_ne ek]; exact h5.us k
    have h6 : LgAt (w5.setCell ⟨lb, 3 + l.last * 2 + 1, none⟩ (.int .i64 (u.c + (n : Int)))) lb p kb pv5 d5 { l with chain := l.chain.set l.last ⟨u.e, u.c + (n : Int)⟩ } := h5.with ho6 hset (by simp only [List.length_set]; exact h5.len) rfl rfl h5.last h5.top hus
    have hset7 := heap_setCell_same _ lb 30 _ _ (.bool true) h6.head
    rw [List.setIfInBounds_toArray, lgCells_setTail p _ h6.len 3] at hset7
    have ho7 := Only.one (w5.setCell ⟨lb, 3 + l.last * 2 + 1, none⟩ (.int .i64 (u.c + (n : Int)))) lb 30 (.bool true)
    have h7 := h6.with (l' := { l with chain := l.chain.set l.last ⟨u.e, u.c + (n : Int)⟩, loose := true }) ho7 hset7 h6.len rfl rfl h6.last h6.top h6.us
    have HL7 := Lib.hid ((hL5.log h6 ho6).log h7 ho7)
    have hne : (3 + l.last * 2 + 1 = 30) = False := by
      apply propext; constructor
      · intro e; omega
      · exact False.elim
    clear hset hset7 ho6 ho7 h6 h7 hL5 h5 hus
    go_wp2_with fail
    go_ret
    exact ⟨pv5, by rw [HN.out]; rfl, by rw [HN.out, HNA.out]; exact HL7.out⟩
end Go.Proofs.YtlgefjcfnnjkbaaDoor
/- A log is sealed; how much of it is free; its chain. No conditions. -/
namespace Go.Proofs.YtlgefjcfnnjkbaaDoor
set_option maxRecDepth 100000
open Go.RowKit

theorem fallen_zero (l : Lg) : fallen l 0 = l := if_pos rfl

set_option maxHeartbeats 8000000 in
theorem shut_any (w : World) (lb p kb : Nat) (pv : Value) (d : D) (l : Lg) (h : LgAt w lb p kb pv d l) (hse : l.loose = true → 1 ≤ l.use.e ∧ l.use.c < l.per ∧ l.last < l.segs) (hroom : d.pend.length + 1 ≤ 1000000) :
    Calls Tryd.prog 13 #[.pointer (some ⟨lb, 0, none⟩)] w (LPost w lb p kb pv (.int .i64 (l.shut d).2.2) (l.shut d).1 (l.shut d).2.1) := by
  have HB := Lib.hid (show l.shut d = (if l.down then (d, l, (130 : Int))
    else match syncP d with
    | (d1, false) => (d1, fallen l 22, 22)
    | (d1, true) => if l.loose = false then (d1, l, (0 : Int)) else match l.sealD d1 with
      | (d2, true) => (d2, l.sealed, 0)
      | (d2, false) => (d2, fallen l 22, 22)) from rfl)
  generalize l.shut d = B at HB ⊢
  have h31 := h.c31
  have hc0 := h.c0
  cases hd : l.down with
  | true =>
    rw [hd] at h31 HB
    have HN := Lib.hid (show B = (d, l, 130) by rw [HB.out]; rfl)
    clear hd HB hc0
    go_enter Tryd.func13, Tryd.ntmps13
    go_wp2_with fail
    go_ret
    exact ⟨pv, by rw [HN.out]; rfl, by rw [HN.out]; exact LStep.refl h⟩
  | false =>
    rw [hd] at h31 HB
    have HB1 := Lib.hid (show B = (match syncP d with
    | (d1, false) => (d1, fallen l 22, 22)
    | (d1, true) => if l.loose = false then (d1, l, (0 : Int)) else match l.sealD d1 with
      | (d2, true) => (d2, l.sealed, 0)
      | (d2, false) => (d2, fallen l 22, 22)) by rw [HB.out]; rfl)
    have HSY := Lib.hid (dsync_any w p kb pv d h.da)
    have hsl : (syncP d).1.kept.length = d.kept.length ∧ (syncP d).1.pend.length ≤ d.pend.length := by
      unfold syncP; split
      · exact ⟨D.sync_len d, by simp [D.sync]⟩
      · exact ⟨rfl, Nat.le_refl _⟩
    generalize syncP d = R1 at HB1 HSY hsl
    obtain ⟨d1, ok1⟩ := R1
    simp only at HB1 HSY hsl
    clear hd HB
    go_enter Tryd.func13, Tryd.ntmps13
    go_wp2_with fail
    refine HSY.out.mono ?_
    rintro ev w1 ⟨pv1, rfl, hst1⟩
    have hL1 := (LStep.refl h).disk hst1 hsl.1
    have HFA := Lib.hid (fail_any w1 lb p kb pv1 d1 l (errP ok1) hL1.at_)
    clear HSY hc0 hst1 h31
    cases ok1 with
    | false =>
      have HN := Lib.hid (show B = (d1, fallen l 22, 22) from HB1.out)
      unfold errP at HFA ⊢
      simp only [Bool.false_eq_true, if_false] at HFA ⊢
      clear HB1
      go_wp2_with fail
      refine HFA.out.mono ?_
      rintro ev w2 ⟨rfl, hL2⟩
      have HL := Lib.hid (hL1.trans hL2)
      clear hL1 hL2 HFA
      go_wp2_with fail
      go_ret
      exact ⟨pv1, by rw [HN.out]; rfl, by rw [HN.out]; exact HL.out⟩
    | true =>
      have HB2 := Lib.hid (show B = (if l.loose = false then (d1, l, (0 : Int)) else match l.sealD d1 with
        | (d2, true) => (d2, l.sealed, 0)
        | (d2, false) => (d2, fallen l 22, 22)) from HB1.out)
      unfold errP at HFA ⊢
      simp only [if_true] at HFA ⊢
      clear HB1
      go_wp2_with fail
      refine HFA.out.mono ?_
      rintro ev w2 ⟨rfl, hL2⟩
      rw [fallen_zero] at hL2
      have hL := hL1.trans hL2
      have h30 := hL.at_.c30
      clear hL1 hL2 HFA
      cases hlo : l.loose with
      | false =>
        have HN := Lib.hid (show B = (d1, l, 0) by rw [HB2.out, if_pos hlo])
        rw [hlo] at h30
        clear HB2 hlo hse
        go_wp2_with fail
        go_ret
        exact ⟨pv1, by rw [HN.out]; rfl, by rw [HN.out]; exact hL⟩
      | true =>
        obtain ⟨s1, s2, s3⟩ := hse hlo
        have HB3 := Lib.hid (show B = (match l.sealD d1 with
          | (d2, true) => (d2, l.sealed, 0)
          | (d2, false) => (d2, fallen l 22, 22)) by rw [HB2.out, hlo]; rfl)
        rw [hlo] at h30
        have HSE := Lib.hid (seal_any w2 lb p kb pv1 d1 l hL.at_ s1 s2 s3 (by omega))
        have hz := hL.at_
        clear HB2 hlo hse
        generalize l.sealD d1 = R at HB3 HSE
        obtain ⟨d3, ok3⟩ := R
        simp only at HB3 HSE
        go_wp2_with fail
        refine HSE.out.mono ?_
        rintro ev w3 ⟨pv3, rfl, hL3⟩
        have HFA := Lib.hid (fail_any w3 lb p kb pv3 d3 _ (errP ok3) hL3.at_)
        have hLL := hL.trans hL3
        clear HSE hL hL3 hz h30
        cases ok3 with
        | true =>
          have HN := Lib.hid (show B = (d3, l.sealed, 0) from HB3.out)
          unfold errP at HFA ⊢
          unfold sealOut at HFA hLL
          simp only [if_true] at HFA hLL ⊢
          clear HB3
          go_wp2_with fail
          refine HFA.out.mono ?_
          rintro ev w4 ⟨rfl, hL4⟩
          rw [fallen_zero] at hL4
          have HL := Lib.hid (hLL.trans hL4)
          clear hLL hL4 HFA
          go_wp2_with fail
          go_ret
          exact ⟨pv3, by rw [HN.out]; rfl, by rw [HN.out]; exact HL.out⟩
        | false =>
          have HN := Lib.hid (show B = (d3, fallen l 22, 22) from HB3.out)
          unfold errP at HFA ⊢
          unfold sealOut at HFA hLL
          simp only [Bool.false_eq_true, if_false] at HFA hLL ⊢
          clear HB3
          go_wp2_with fail
          refine HFA.out.mono ?_
          rintro ev w4 ⟨rfl, hL4⟩
          have HL := Lib.hid (hLL.trans hL4)
          clear hLL hL4 HFA
          go_wp2_with fail
          go_ret
          exact ⟨pv3, by rw [HN.out]; rfl, by rw [HN.out]; exact HL.out⟩

set_option maxHeartbeats 4000000 in
theorem free_any (w : World) (lb p kb : Nat) (pv : Value) (d : D) (l : Lg) (h : LgAt w lb p kb pv d l) :
    Calls Tryd.prog 8 #[.pointer (some ⟨lb, 0, none⟩)] w fun e w' => e = .returned (.int .i64 l.free) ∧ Only (fun _ => False) w w' := by
  have HB := Lib.hid (show l.free = (if l.down then 0 else (l.segs : Int) - (orderL l.chain).length) from rfl)
  generalize l.free = B at HB ⊢
  have h31 := h.c31
  have hs12 := h.segs12
  have hol : (orderL l.chain).length ≤ 12 := by
    have h1 : (orderL l.chain).length = (usedL l.chain).length := (insAll_perm l.chain _).length_eq
    have := usedTo_le l.chain l.chain.length
    rw [h.len] at this
    rw [h1, usedL, h.len]
    exact this
  cases hd : l.down with
  | true =>
    rw [hd] at h31 HB
    have HN := Lib.hid (show B = 0 from HB.out)
    clear hd HB
    go_enter Tryd.func8, Tryd.ntmps8
    go_wp2_with fail
    go_ret
    exact ⟨by rw [HN.out]; rfl, Only.refl _ _⟩
  | false =>
    rw [hd] at h31 HB
    have HN := Lib.hid (show B = (l.segs : Int) - ((orderL l.chain).length : Int) from HB.out)
    clear hd HB
    have HQ := Lib.hid (show ∀ W, Only (fun _ => False) w W → W.cell? ⟨lb, 2, none⟩ = some (.int .i64 (l.segs : Int)) ∧ True ∧ True ∧ True from fun W hW => ⟨(h.quiet hW).c2, trivial, trivial, trivial⟩)
    go_enter Tryd.func8, Tryd.ntmps8
    go_upto_region 3 with fail
    refine wp_region_pick (fun W => Only (fun _ => False) w W) [(0, 0), (1, 0), (2, 0), (3, 0), (4, 1), (5, 0), (6, 0), (7, 0), (8, 2), (9, 0), (10, 0), (11, 0)] (by kernel_rfl) (by kernel_rfl) (fun _ _ d _ _ h => by cases d <;> exact h) (Only.drew w _) ?_
    have ho1 := Only.drew w (fun _ => False)
    generalize w.drew = w1 at ho1 ⊢
    simp only [pickOps, List.getElem?_cons_zero, List.getElem?_cons_succ]
    iterate 8 (first | (refine wpL_pure (a' := ?_) ?_ rfl (fun W => ?_) ?_ ?_; rotate_left 2; (· go_simp; first | (go_bits; with_reducible rfl) | with_reducible rfl); (· simp only [put_some, List.setIfInBounds_toArray, List.set_cons_zero, List.set_cons_succ]; rfl)) | (refine wpL_held (a' := ?_) ?_ rfl (fun W hW => ?_) ?_ ?_; rotate_left 2; (· obtain ⟨q1, q2, q3, q4⟩ := HQ.out W hW; go_simp; first | (go_bits; with_reducible rfl) | with_reducible rfl); (· simp only [put_some, List.setIfInBounds_toArray, List.set_cons_zero, List.set_cons_succ]; rfl)))
    refine wpL_stepCall (f := 20) (args := #[.pointer (some ⟨lb, 3, none⟩)]) rfl (by kernel_rfl) ((order_any w1 lb 3 l.chain (h.quiet ho1).cat).mono ?_)
    rintro ev w2 ⟨v, rfl, hord, ho2⟩
    refine ⟨_, rfl, ho1.trans ho2, ?_⟩
    obtain ⟨ao, cap, hsl⟩ := sliceOf_own hord
    obtain rfl := hsl.val
    generalize (orderL l.chain).length = n at hol HN hord hsl ⊢
    simp only [put_some, List.setIfInBounds_toArray, List.set_cons_zero, List.set_cons_succ]
    iterate 3 (refine wpL_pure (a' := ?_) ?_ rfl (fun W => ?_) ?_ ?_; rotate_left 2; (· go_simp; first | (go_bits; with_reducible rfl) | with_reducible rfl); (· simp only [put_some, List.setIfInBounds_toArray, List.set_cons_zero, List.set_cons_succ]; rfl))
    refine wpL_nil ?_
    have ho3 := ho1.trans ho2
    clear hord hsl ho1 ho2 HQ
    go_wp2_with fail
    go_ret
    exact ⟨by rw [HN.out]; rfl, ho3⟩
end Go.Proofs.YtlgefjcfnnjkbaaDoor
/- What an append is going to open. No conditions. -/
namespace Go.Proofs.YtlgefjcfnnjkbaaDoor
set_option maxRecDepth 100000
open Go.RowKit

/-- the boxes of a plan -/
structure PBox (w : World) (ob cb lx mb lb : Nat) (p : Pl) : Prop where
  o : w.heap[ob]? = some (.cells #[.bool p.opn] 4 (0, 0))
  c : w.heap[cb]? = some (.cells #[.int .i64 p.count] 3 (0, 0))
  x : w.heap[lx]? = some (.cells #[.pointer (some ⟨lb, 0, none⟩)] 28 (0, 0))
  m : w.heap[mb]? = some (.cells #[.int .i64 (p.many : Int)] 3 (0, 0))
theorem PBox.only {w w' : World} {ob cb lx mb lb : Nat} {p : Pl} (h : PBox w ob cb lx mb lb p) (ho : Only (fun _ => False) w w') : PBox w' ob cb lx mb lb p := ⟨ho.keep h.o id, ho.keep h.c id, ho.keep h.x id, ho.keep h.m id⟩
def anewP (per : Nat) (p : Pl) (n : Nat) : Bool := decide (p.opn = false ∨ (per : Int) < p.count + n + 1)
theorem step_opens (per : Nat) (p : Pl) (n : Nat) : (p.step per n).opens = p.opens ++ [anewP per p n] := by
  unfold Pl.step anewP
  split
  · rename_i h; rw [decide_eq_true h]
  · rename_i h; rw [decide_eq_false h]
def Plan1Post (w : World) (ob cb lx mb lb : Nat) (per : Nat) (p : Pl) (n : Nat) (e : Ending) (w' : World) : Prop := e = .returned (.bool (anewP per p n)) ∧ PBox w' ob cb lx mb lb (p.step per n) ∧ Only (fun k => k = ob ∨ k = cb ∨ k = mb) w w'

set_option maxHeartbeats 4000000 in
theorem plan1_any (w : World) (ob cb lx mb lb : Nat) (p : Pl) (n : Nat) (per : Nat) (h : PBox w ob cb lx mb lb p) (h1 : w.cell? ⟨lb, 1, none⟩ = some (.int .i64 (per : Int))) (hd1 : ob ≠ cb) (hd2 : ob ≠ mb) (hd3 : cb ≠ mb) (hx1 : lx ≠ ob) (hx2 : lx ≠ cb) (hx3 : lx ≠ mb)
    (hn : n ≤ 1000000000000) (hc : 0 ≤ p.count ∧ p.count ≤ 1000000000000) (hm : p.many ≤ 1000000000) (hper : per ≤ 64) :
    Calls Tryd.prog 43 #[.int .i64 (n : Int), .pointer (some ⟨ob, 0, none⟩), .pointer (some ⟨cb, 0, none⟩), .pointer (some ⟨lx, 0, none⟩), .pointer (some ⟨mb, 0, none⟩)] w (Plan1Post w ob cb lx mb lb per p n) := by
  obtain ⟨hc0, hc1⟩ := hc
  have key : ∀ W, Only (fun _ => False) w W → W.cell? ⟨ob, 0, none⟩ = some (.bool p.opn) ∧ W.cell? ⟨cb, 0, none⟩ = some (.int .i64 p.count) ∧ W.cell? ⟨lx, 0, none⟩ = some (.pointer (some ⟨lb, 0, none⟩)) ∧ W.cell? ⟨mb, 0, none⟩ = some (.int .i64 (p.many : Int)) ∧ W.cell? ⟨lb, 1, none⟩ = some (.int .i64 (per : Int)) := fun W hW =>
    ⟨cell_at (h.only hW).o 0, cell_at (h.only hW).c 0, cell_at (h.only hW).x 0, cell_at (h.only hW).m 0, by rw [hW.cell (World.block_lt_of_cell? _ _ h1) id]; exact h1⟩
  by_cases hb : p.opn = false ∨ (per : Int) < p.count + n + 1
  · have hst : p.step per n = ⟨1 + n, true, p.opens ++ [true], p.many + 1⟩ := by unfold Pl.step; rw [if_pos hb]
    have han : anewP per p n = true := decide_eq_true hb
    unfold Plan1Post
    rw [hst, han]
    have hfin : ∀ W, Only (fun _ => False) w W → PBox ((((W.setCell ⟨cb, 0, none⟩ (.int .i64 1)).setCell ⟨ob, 0, none⟩ (.bool true)).setCell ⟨mb, 0, none⟩ (.int .i64 ((p.many : Int) + 1))).setCell ⟨cb, 0, none⟩ (.int .i64 (1 + (n : Int)))) ob cb lx mb lb ⟨1 + n, true, p.opens ++ [true], p.many + 1⟩ ∧
        Only (fun k => k = ob ∨ k = cb ∨ k = mb) w ((((W.setCell ⟨cb, 0, none⟩ (.int .i64 1)).setCell ⟨ob, 0, none⟩ (.bool true)).setCell ⟨mb, 0, none⟩ (.int .i64 ((p.many : Int) + 1))).setCell ⟨cb, 0, none⟩ (.int .i64 (1 + (n : Int)))) := fun W hW => by
      have h' := h.only hW
      have c1 := heap_setCell_same W cb 0 _ _ (.int .i64 1) h'.c
      have o1 := (Only.one W cb 0 (.int .i64 1)).keep h'.o (fun e => hd1 e)
      have x1 := (Only.one W cb 0 (.int .i64 1)).keep h'.x (fun e => hx2 e)
      have m1 := (Only.one W cb 0 (.int .i64 1)).keep h'.m (fun e => hd3 (by have e' : mb = cb := e; exact e'.symm))
      have q1 := (Only.setCell (S := fun k => k = ob ∨ k = cb ∨ k = mb) W cb 0 (.int .i64 1) (.inr (.inl rfl)))
      generalize W.setCell ⟨cb, 0, none⟩ (.int .i64 1) = W1 at *
      have o2 := heap_setCell_same W1 ob 0 _ _ (.bool true) o1
      have c2 := (Only.one W1 ob 0 (.bool true)).keep c1 (fun e => hd1 (by have e' : cb = ob := e; exact e'.symm))
      have x2 := (Only.one W1 ob 0 (.bool true)).keep x1 (fun e => hx1 e)
      have m2 := (Only.one W1 ob 0 (.bool true)).keep m1 (fun e => hd2 (by have e' : mb = ob := e; exact e'.symm))
      have q2 := q1.trans (Only.setCell (S := fun k => k = ob ∨ k = cb ∨ k = mb) W1 ob 0 (.bool true) (.inl rfl))
      generalize W1.setCell ⟨ob, 0, none⟩ (.bool true) = W2 at *
      have m3 := heap_setCell_same W2 mb 0 _ _ (.int .i64 ((p.many : Int) + 1)) m2
      have c3 := (Only.one W2 mb 0 (.int .i64 ((p.many : Int) + 1))).keep c2 (fun e => hd3 e)
      have x3 := (Only.one W2 mb 0 (.int .i64 ((p.many : Int) + 1))).keep x2 (fun e => hx3 e)
      have o3 := (Only.one W2 mb 0 (.int .i64 ((p.many : Int) + 1))).keep o2 (fun e => hd2 e)
      have q3 := q2.trans (Only.setCell (S := fun k => k = ob ∨ k = cb ∨ k = mb) W2 mb 0 (.int .i64 ((p.many : Int) + 1)) (.inr (.inr rfl)))
      generalize W2.setCell ⟨mb, 0, none⟩ (.int .i64 ((p.many : Int) + 1)) = W3 at *
      exact ⟨⟨(Only.one W3 cb 0 _).keep o3 (fun e => hd1 e), heap_setCell_same W3 cb 0 _ _ _ c3, (Only.one W3 cb 0 _).keep x3 (fun e => hx2 e), (Only.one W3 cb 0 _).keep m3 (fun e => hd3 (by have e' : mb = cb := e; exact e'.symm))⟩,
        (hW.mono fun _ _ => False.elim).trans (q3.trans (Only.setCell (S := fun k => k = ob ∨ k = cb ∨ k = mb) W3 cb 0 _ (.inr (.inl rfl))))⟩
    have HFIN := Lib.hid (hfin _ (Only.drew w _))
    obtain ⟨k1, k2, k3, k4, k5⟩ := key _ (Only.drew w _)
    have f1 : w.drew.frozen? ⟨ob, 0, none⟩ = false := free_at (h.only (Only.drew w _)).o 0
    have f2 : w.drew.frozen? ⟨cb, 0, none⟩ = false := free_at (h.only (Only.drew w _)).c 0
    have f3 : w.drew.frozen? ⟨mb, 0, none⟩ = false := free_at (h.only (Only.drew w _)).m 0
    have hd1' : cb ≠ ob := fun e => hd1 e.symm
    have hd2' : mb ≠ ob := fun e => hd2 e.symm
    have hd3' : mb ≠ cb := fun e => hd3 e.symm
    clear hst han hfin key h h1
    rcases Bool.eq_false_or_eq_true p.opn with ho | ho
    · have hlt : (per : Int) < p.count + n + 1 := by
        rcases hb with hb | hb
        · rw [ho] at hb; cases hb
        · exact hb
      rw [ho] at k1
      clear hb ho
      go_enter Tryd.func43, Tryd.ntmps43
      go_upto_region 1 with fail
      refine wp_region_pick (fun X => X = w.drew) [(0, 1), (1, 0), (2, 0), (3, 1), (4, 0), (5, 0), (6, 0), (7, 1), (8, 0), (9, 0), (10, 0), (11, 1), (12, 0), (13, 0), (14, 0)] (by kernel_rfl) (by kernel_rfl) (fun _ _ d _ _ h => by cases d <;> exact h) rfl ?_
      generalize w.drew = w1 at *
      simp only [pickOps, List.getElem?_cons_zero, List.getElem?_cons_succ]
      iterate 15 (first | (refine wpL_pure (a' := ?_) ?_ rfl (fun W => ?_) ?_ ?_; rotate_left 2; (· go_simp; first | (go_bits; with_reducible rfl) | with_reducible rfl); (· simp only [put_some, List.setIfInBounds_toArray, List.set_cons_zero, List.set_cons_succ]; rfl)) | (refine wpL_held (a' := ?_) ?_ rfl (fun W hW => ?_) ?_ ?_; rotate_left 2; (· subst hW; go_simp; first | (go_bits; with_reducible rfl) | with_reducible rfl); (· simp only [put_some, List.setIfInBounds_toArray, List.set_cons_zero, List.set_cons_succ]; rfl)))
      refine wpL_nil ?_
      go_wp2_with fail
      go_ret
      exact ⟨rfl, HFIN.out.1, HFIN.out.2⟩
    · rw [ho] at k1
      clear hb ho
      go_enter Tryd.func43, Tryd.ntmps43
      go_upto_region 1 with fail
      refine wp_region_pick (fun X => X = w.drew) [(0, 1), (1, 0), (2, 0), (3, 1), (4, 0), (5, 0), (6, 0), (7, 1), (8, 0), (9, 0), (10, 0), (11, 1), (12, 0), (13, 0), (14, 0)] (by kernel_rfl) (by kernel_rfl) (fun _ _ d _ _ h => by cases d <;> exact h) rfl ?_
      generalize w.drew = w1 at *
      simp only [pickOps, List.getElem?_cons_zero, List.getElem?_cons_succ]
      iterate 15 (first | (refine wpL_pure (a' := ?_) ?_ rfl (fun W => ?_) ?_ ?_; rotate_left 2; (· go_simp; first | (go_bits; with_reducible rfl) | with_reducible rfl); (· simp only [put_some, List.setIfInBounds_toArray, List.set_cons_zero, List.set_cons_succ]; rfl)) | (refine wpL_held (a' := ?_) ?_ rfl (fun W hW => ?_) ?_ ?_; rotate_left 2; (· subst hW; go_simp; first | (go_bits; with_reducible rfl) | with_reducible rfl); (· simp only [put_some, List.setIfInBounds_toArray, List.set_cons_zero, List.set_cons_succ]; rfl)) | (refine wpL_skip rfl (by simp only [put_some, List.setIfInBounds_toArray, List.set_cons_zero, List.set_cons_succ]; rfl) ?_) | (refine wpL_heldSkip rfl (by simp only [put_some, List.setIfInBounds_toArray, List.set_cons_zero, List.set_cons_succ]; rfl) ?_))
      refine wpL_nil ?_
      go_wp2_with fail
      go_ret
      exact ⟨rfl, HFIN.out.1, HFIN.out.2⟩
  · have hst : p.step per n = ⟨p.count + n, true, p.opens ++ [false], p.many⟩ := by unfold Pl.step; rw [if_neg hb]
    have han : anewP per p n = false := decide_eq_false hb
    rw [not_or] at hb
    obtain ⟨hb1, hb2⟩ := hb
    have ho : p.opn = true := by simpa using hb1
    unfold Plan1Post
    rw [hst, han]
    have hfin : ∀ W, Only (fun _ => False) w W → PBox (W.setCell ⟨cb, 0, none⟩ (.int .i64 (p.count + (n : Int)))) ob cb lx mb lb ⟨p.count + n, true, p.opens ++ [false], p.many⟩ ∧ Only (fun k => k = ob ∨ k = cb ∨ k = mb) w (W.setCell ⟨cb, 0, none⟩ (.int .i64 (p.count + (n : Int)))) := fun W hW => by
      have h' := h.only hW
      have ho' := h'.o
      rw [ho] at ho'
      exact ⟨⟨(Only.one W cb 0 _).keep ho' (fun e => hd1 e), heap_setCell_same W cb 0 _ _ _ h'.c, (Only.one W cb 0 _).keep h'.x (fun e => hx2 e), (Only.one W cb 0 _).keep h'.m (fun e => hd3 (by have e' : mb = cb := e; exact e'.symm))⟩,
        (hW.mono fun _ _ => False.elim).trans (Only.setCell (S := fun k => k = ob ∨ k = cb ∨ k = mb) W cb 0 _ (.inr (.inl rfl)))⟩
    have HFIN := Lib.hid (hfin _ (Only.drew w _))
    obtain ⟨k1, k2, k3, k4, k5⟩ := key _ (Only.drew w _)
    have f2 : w.drew.frozen? ⟨cb, 0, none⟩ = false := free_at (h.only (Only.drew w _)).c 0
    rw [ho] at k1
    clear hst han hfin key h h1 hb1 ho
    go_enter Tryd.func43, Tryd.ntmps43
    go_upto_region 1 with fail
    refine wp_region_pick (fun X => X = w.drew) [(0, 1), (1, 0), (2, 0), (3, 1), (4, 0), (5, 0), (6, 0), (7, 1), (8, 0), (9, 0), (10, 0), (11, 1), (12, 0), (13, 0), (14, 0)] (by kernel_rfl) (by kernel_rfl) (fun _ _ d _ _ h => by cases d <;> exact h) rfl ?_
    generalize w.drew = w1 at *
    simp only [pickOps, List.getElem?_cons_zero, List.getElem?_cons_succ]
    iterate 15 (first | (refine wpL_pure (a' := ?_) ?_ rfl (fun W => ?_) ?_ ?_; rotate_left 2; (· go_simp; first | (go_bits; with_reducible rfl) | with_reducible rfl); (· simp only [put_some, List.setIfInBounds_toArray, List.set_cons_zero, List.set_cons_succ]; rfl)) | (refine wpL_held (a' := ?_) ?_ rfl (fun W hW => ?_) ?_ ?_; rotate_left 2; (· subst hW; go_simp; first | (go_bits; with_reducible rfl) | with_reducible rfl); (· simp only [put_some, List.setIfInBounds_toArray, List.set_cons_zero, List.set_cons_succ]; rfl)))
    refine wpL_nil ?_
    go_wp2_with fail
    go_ret
    exact ⟨rfl, HFIN.out.1, HFIN.out.2⟩
end Go.Proofs.YtlgefjcfnnjkbaaDoor
/- What an append is going to open, of all batches. No conditions. -/
namespace Go.Proofs.YtlgefjcfnnjkbaaDoor
set_option maxRecDepth 100000
open Go.RowKit

def boolVs (l : List Bool) : List Value := l.map Value.bool
theorem Tryd.infoBool : (Tryd.prog.info? 4).map (fun i => (i.zero, i.size, i.bytes)) = some (some (.bool false), 1, 1) := by kernel_rfl
theorem planTo_succ (l : Lg) (s : List (List UInt8)) (k : Nat) (hk : k < s.length) : l.planTo s (k + 1) = (l.planTo s k).step l.per (need (s.getD k []).length) := by
  unfold Lg.planTo
  rw [List.take_succ_eq_append_getElem hk, List.foldl_append, List.getD_eq_getElem?_getD, List.getElem?_eq_getElem hk]
  rfl
theorem al3_0 (w : World) (A B C : Obj) : (((w.alloc A).alloc B).alloc C).drew.heap[w.heap.size]? = some A := by
  have h := heap_alloc_any w A
  exact ((Only.alloc ((w.alloc A).alloc B) C (fun _ => False)).keep ((Only.alloc (w.alloc A) B (fun _ => False)).keep h id) id)
theorem al3_1 (w : World) (A B C : Obj) : (((w.alloc A).alloc B).alloc C).drew.heap[w.heap.size + 1]? = some B := by
  have h := heap_alloc_any (w.alloc A) B
  rw [World.size_alloc] at h
  exact ((Only.alloc ((w.alloc A).alloc B) C (fun _ => False)).keep h id)
theorem al3_2 (w : World) (A B C : Obj) : (((w.alloc A).alloc B).alloc C).drew.heap[w.heap.size + 1 + 1]? = some C := by
  have h := heap_alloc_any ((w.alloc A).alloc B) C
  rw [World.size_alloc, World.size_alloc] at h
  exact h
def PlanPost (w : World) (q : Pl) (e : Ending) (w' : World) : Prop := ∃ r, e = .returned (.tuple #[r, .int .i64 (q.many : Int)]) ∧ w'.ownsRow w.heap.size 4 1 r q.opens.length (boolVs q.opens) ∧ Only (fun _ => False) w w'
theorem planTo_facts (l : Lg) (s : List (List UInt8)) (hs : ∀ b ∈ s, b.length ≤ 1000000000) (hc : 0 ≤ l.use.c ∧ l.use.c ≤ 64) : ∀ k, k ≤ s.length → (l.planTo s k).opens.length = k ∧ (l.planTo s k).many ≤ k ∧ 0 ≤ (l.planTo s k).count ∧ (l.planTo s k).count ≤ 64 + k * 100000000
  | 0, _ => by simp [Lg.planTo]; omega
  | k + 1, hk => by
    obtain ⟨h1, h2, h3, h4⟩ := planTo_facts l s hs hc k (by omega)
    rw [planTo_succ l s k (by omega)]
    have hb : (s.getD k []).length ≤ 1000000000 := by
      rw [List.getD_eq_getElem?_getD, List.getElem?_eq_getElem (by omega)]
      exact hs _ (List.getElem_mem _)
    have hn : need (s.getD k []).length ≤ 100000000 := by unfold need; omega
    generalize l.planTo s k = q at *
    unfold Pl.step
    split
    · simp only [List.length_append, List.length_singleton]; omega
    · simp only [List.length_append, List.length_singleton]; omega

set_option maxHeartbeats 8000000 in
theorem plan_any (w : World) (lb p kb : Nat) (pv : Value) (d : D) (l : Lg) (h : LgAt w lb p kb pv d l) (s : List (List UInt8)) (v : Value) (ao : Option Addr) (cap : Nat) (hv : SliceOf w v s.length (txts s) ao cap) (hs : ∀ b ∈ s, b.length ≤ 1000000000) (hl : s.length ≤ 1000) :
    Calls Tryd.prog 21 #[.pointer (some ⟨lb, 0, none⟩), v] w (PlanPost w (l.plan s)) := by
  have hvv := hv.val
  subst hvv
  obtain ⟨u0, u1, u2, u3⟩ := h.us l.last
  have hlast := h.last
  have hLI : (l.last : Int) < 12 := by omega
  have hLI0 : (0 : Int) ≤ (l.last : Int) := by omega
  have hpf := planTo_facts l s hs ⟨u2, u3⟩
  have hp0 : l.planTo s 0 = ⟨(l.chain.getD l.last Us.no).c, l.opn, [], 0⟩ := by simp [Lg.planTo]; rfl
  have HPF := Lib.hid hpf
  have HP0 := Lib.hid hp0
  generalize hu : l.chain.getD l.last Us.no = u at u2 u3 HP0
  have HU := Lib.hid hu
  have hplan : l.plan s = l.planTo s s.length := rfl
  generalize l.plan s = PL at hplan ⊢
  have HPL := Lib.hid hplan
  clear hu hpf hp0 hplan u0 u1
  have hbx := heap_alloc_any w (.cells #[.pointer (some ⟨lb, 0, none⟩)] 28)
  have hoA := Only.alloc w (.cells #[.pointer (some ⟨lb, 0, none⟩)] 28) (fun _ => False)
  have hsz : (w.alloc (.cells #[.pointer (some ⟨lb, 0, none⟩)] 28)).heap.size = w.heap.size + 1 := World.size_alloc _ _
  go_enter Tryd.func21, Tryd.ntmps21
  go_upto_region 1 with fail
  generalize w.alloc (.cells #[.pointer (some ⟨lb, 0, none⟩)] 28) = w1 at hbx hoA hsz ⊢
  have HQ := Lib.hid (show ∀ W, Only (fun _ => False) w1 W → W.cell? ⟨w.heap.size, 0, none⟩ = some (.pointer (some ⟨lb, 0, none⟩)) ∧ W.cell? ⟨lb, 27, none⟩ = some (.int .i64 (l.last : Int)) ∧ W.cell? ⟨lb, 3 + l.last * 2 + 1, none⟩ = some (.int .i64 u.c) ∧ W.cell? ⟨lb, 29, none⟩ = some (.bool l.opn) ∧ Only (fun _ => False) w1 W from fun W hW => by
    have h' := h.quiet (hoA.trans hW)
    obtain ⟨c1, c2⟩ := h'.cat.cells hlast
    rw [HU.out] at c2
    exact ⟨cell_at (hW.keep hbx id) 0, h'.c27, c2, h'.c29, hW⟩)
  have HSZ := Lib.hid hsz
  have HBX := Lib.hid hbx
  have HOA := Lib.hid hoA
  clear hsz hbx hoA
  go_cut [6, 7, 8] from 13 to 26 (fun s6 s7 s8 wx => ∃ b6 b7 b8, s6 = .pointer (some ⟨b6, 0, none⟩) ∧ s7 = .pointer (some ⟨b7, 0, none⟩) ∧ s8 = .pointer (some ⟨b8, 0, none⟩) ∧ b6 ≠ b7 ∧ b7 ≠ b8 ∧ b6 ≠ b8 ∧ w1.heap.size ≤ b6 ∧ w1.heap.size ≤ b7 ∧ w1.heap.size ≤ b8 ∧
    wx.heap[b6]? = some (.cells #[.int .i64 u.c] 3 (0, 0)) ∧ wx.heap[b7]? = some (.cells #[.bool l.opn] 4 (0, 0)) ∧ wx.heap[b8]? = some (.cells #[.int .i64 0] 3 (0, 0)) ∧ Only (fun _ => False) w1 wx)
  case first =>
    go_region_held3 (fun W => W.cell? ⟨w.heap.size, 0, none⟩ = some (.pointer (some ⟨lb, 0, none⟩)) ∧ W.cell? ⟨lb, 27, none⟩ = some (.int .i64 (l.last : Int)) ∧ W.cell? ⟨lb, 3 + l.last * 2 + 1, none⟩ = some (.int .i64 u.c) ∧ W.cell? ⟨lb, 29, none⟩ = some (.bool l.opn) ∧ Only (fun _ => False) w1 W)
      (first
        | exact HQ.out _ (Only.drew _ _)
        | exact HQ.out _ ((Only.alloc _ _ _).trans (Only.drew _ _))
        | exact HQ.out _ (((Only.alloc _ _ _).trans (Only.alloc _ _ _)).trans (Only.drew _ _))
        | exact HQ.out _ ((((Only.alloc _ _ _).trans (Only.alloc _ _ _)).trans (Only.alloc _ _ _)).trans (Only.drew _ _)))
      (fail)
    all_goals go_wp2_with fail
    all_goals go_meet
    all_goals exact ⟨_, _, _, rfl, rfl, rfl, by omega, by omega, by omega, by omega, by omega, by omega, by first | exact al3_0 _ _ _ _ | exact al3_1 _ _ _ _ | exact al3_2 _ _ _ _, by first | exact al3_0 _ _ _ _ | exact al3_1 _ _ _ _ | exact al3_2 _ _ _ _, by first | exact al3_0 _ _ _ _ | exact al3_1 _ _ _ _ | exact al3_2 _ _ _ _,
      (((Only.alloc _ _ _).trans (Only.alloc _ _ _)).trans (Only.alloc _ _ _)).trans (Only.drew _ _)⟩
  case rest =>
  obtain ⟨b6, b7, b8, rfl, rfl, rfl, n67, n78, n68, l6, l7, l8, h6, h7, h8, hoC⟩ := hcut
  have hP0 : PBox wc b7 b6 w.heap.size b8 lb (l.planTo s 0) := by rw [HP0.out]; exact ⟨h7, h6, hoC.keep HBX.out id, h8⟩
  have hO := HOA.out.trans hoC
  have r6 := lt_of_block h6
  have r7 := lt_of_block h7
  have r8 := lt_of_block h8
  have rx := HSZ.out
  have hxs := hoC.size
  clear HQ h6 h7 h8 hoC HBX HOA
  have h1 : wc.cell? ⟨lb, 1, none⟩ = some (.int .i64 (l.per : Int)) := (h.quiet hO).c1
  go_wp2_with fail
  go_loopw [10, 30] (fun v i wr => ∃ k : Nat, k ≤ s.length ∧ i = .int .i64 (k : Int) ∧ Hid (PBox wr b7 b6 w.heap.size b8 lb (l.planTo s k)) ∧ Hid (wr.ownsRow wc.heap.size 4 1 v k (boolVs (l.planTo s k).opens)) ∧ Only (fun x => x = b7 ∨ x = b6 ∨ x = b8) wc wr) (fun v i _ => 1001 - (intOf i).toNat)
  case atStart => exact ⟨0, by omega, rfl, Lib.hid hP0, Lib.hid (by rw [HP0.out]; exact ⟨rfl, .inl ⟨rfl, rfl⟩⟩), Only.refl _ _⟩
  case round =>
    obtain ⟨k, hk, rfl, hP, hrow, hor⟩ := hrel
    by_cases hks : k < s.length
    · have hI : (k : Int) < (s.length : Int) := by omega
      have hI0 : (0 : Int) ≤ (k : Int) := by omega
      obtain ⟨sb, so, hao, hcell⟩ := hv.cell k _ (txts_at s k hks)
      subst hao
      have hbl : sb < w.heap.size := World.block_lt_of_cell? _ _ hcell
      have hcc : wc.cell? ⟨sb, so + k, none⟩ = some (.string ⟨s[k].toArray⟩) := by rw [hO.cell hbl id]; exact hcell
      have hcr : wr.cell? ⟨sb, so + k, none⟩ = some (.string ⟨s[k].toArray⟩) := by
        rw [hor.cell (World.block_lt_of_cell? _ _ hcc) (fun e => by rcases e with e | e | e <;> simp only at e <;> omega)]; exact hcc
      have hsk := planTo_succ l s k hks
      have hsb := hs _ (List.getElem_mem hks)
      have hgd : s.getD k [] = s[k] := by rw [List.getD_eq_getElem?_getD, List.getElem?_eq_getElem hks]; rfl
      rw [hgd] at hsk
      generalize s[k] = b at hcr hsk hsb
      obtain ⟨f1, f2, f3, f4⟩ := HPF.out k hk
      have hso := step_opens l.per (l.planTo s k) (need b.length)
      have hnn : needI (b.length : Int) = ((need b.length : Nat) : Int) := by unfold needI; rw [if_neg (by omega), Int.toNat_natCast]
      have hnb : need b.length ≤ 100000000 := by unfold need; omega
      have hlt1 : l.per ≤ 64 := h.per64
      have hl1 : wr.cell? ⟨lb, 1, none⟩ = some (.int .i64 (l.per : Int)) := by rw [hor.cell (World.block_lt_of_cell? _ _ h1) (fun e => by have := h.lt; rcases e with e | e | e <;> simp only at e <;> omega)]; exact h1
      have HPN := Lib.hid (plan1_any wr b7 b6 w.heap.size b8 lb (l.planTo s k) (need b.length) l.per hP.out hl1 (fun e => n67 e.symm) n78 n68 (by omega) (by omega) (by omega) (by omega) ⟨f3, by omega⟩ (by omega) hlt1)
      have HND := Lib.hid (need_any wr (b.length : Int) (by omega))
      rw [hnn] at HND
      have HSK := Lib.hid hsk
      have HSO := Lib.hid hso
      have hbz := size_toArray b
      generalize need b.length = nb at *
      clear hcell hcc hgd hsk hso hl1 hnn
      go_wp2_with fail
      refine HND.out.mono ?_
      rintro ev wn ⟨rfl, rfl⟩
      go_wp2_with fail
      refine HPN.out.mono ?_
      rintro ev w2 ⟨rfl, hP2, hO2⟩
      generalize anewP l.per (l.planTo s k) nb = an at HSO ⊢
      have hrow2 := ownsRow_only hrow.out hO2 (fun x hx e => by have := ownBlock_ge hrow.out hx; rcases e with e | e | e <;> omega)
      have hsz2 : wc.heap.size ≤ w2.heap.size := Nat.le_trans hor.size hO2.size
      obtain ⟨v6, w6, hrun6, hown6, ho6, hfr6⟩ := append_one_row2 (P := Tryd.prog) w2 wc.heap.size 76 76 4 _ 1 1 Tryd.underlying76 Tryd.infoBool rfl (by decide) u10 k _ hrow2 [.bool an] rfl (by simp [Value.oneCell']) (by omega) (by decide) hsz2
      have HRUN := Lib.hid hrun6
      have HOWN : Hid (w6.ownsRow wc.heap.size 4 1 v6 (k + 1) (boolVs (l.planTo s (k + 1)).opens)) := Lib.hid (by rw [HSK.out, HSO.out, boolVs, List.map_append]; exact hown6)
      have HP6 : Hid (PBox w6 b7 b6 w.heap.size b8 lb (l.planTo s (k + 1))) := Lib.hid (by
        rw [HSK.out]
        exact ⟨ho6.keep hP2.o (row_own_new hrow2 r7), ho6.keep hP2.c (row_own_new hrow2 r6), ho6.keep hP2.x (row_own_new hrow2 (by omega)), ho6.keep hP2.m (row_own_new hrow2 r8)⟩)
      have HOO := Lib.hid ((hor.trans hO2).trans' ho6 (fun y hy e => absurd e (row_own_new hrow2 hy)))
      clear hrun6 hown6 ho6 hfr6 hrow2 hP2 hO2 hor hrow hP HPN HND
      go_wp2_with ((with_reducible refine wpList_append_run u10 (.slice (some ⟨w2.heap.size, 0, none⟩) 1 1) v6 HRUN.out ?_ ?_ ?_); (· rfl); (· rfl))
      exact ⟨⟨k + 1, by omega, rfl, HP6, HOWN, HOO.out⟩, by simp [intOf]; omega⟩
    · obtain rfl : k = s.length := by omega
      have hI : ¬ (s.length : Int) < (s.length : Int) := by omega
      have hPL : PBox wr b7 b6 w.heap.size b8 lb PL := by rw [HPL.out]; exact hP.out
      have hRL : wr.ownsRow wc.heap.size 4 1 u10 PL.opens.length (boolVs PL.opens) := by
        rw [HPL.out, (HPF.out s.length (Nat.le_refl _)).1]; exact hrow.out
      have HRL := Lib.hid hRL
      clear hP hrow hRL
      go_upto_region 9 with fail
      have hcm : wr.drew.cell? ⟨b8, 0, none⟩ = some (.int .i64 (PL.many : Int)) := cell_at (hPL.only (Only.drew wr _)).m 0
      have hoD := Only.drew wr (fun _ => False)
      refine wp_region_pick (fun X => X = wr.drew) [(0, 0), (1, 1), (2, 0), (3, 0)] (by kernel_rfl) (by kernel_rfl) (fun _ _ d _ _ h => by cases d <;> exact h) rfl ?_
      generalize wr.drew = wd at hcm hoD ⊢
      simp only [pickOps, List.getElem?_cons_zero, List.getElem?_cons_succ]
      iterate 4 (first | (refine wpL_pure (a' := ?_) ?_ rfl (fun W => ?_) ?_ ?_; rotate_left 2; (· go_simp; first | (go_bits; with_reducible rfl) | with_reducible rfl); (· simp only [put_some, List.setIfInBounds_toArray, List.set_cons_zero, List.set_cons_succ]; rfl)) | (refine wpL_held (a' := ?_) ?_ rfl (fun W hW => ?_) ?_ ?_; rotate_left 2; (· subst hW; go_simp; first | (go_bits; with_reducible rfl) | with_reducible rfl); (· simp only [put_some, List.setIfInBounds_toArray, List.set_cons_zero, List.set_cons_succ]; rfl)))
      refine wpL_nil ?_
      go_wp2_with fail
      go_ret2
      exact ⟨u10, rfl, ownsRow_down (ownsRow_only HRL.out hoD (fun _ _ h => h)) hO.size, (hO.trans' hor (fun y hy e => by rcases e with e | e | e <;> omega)).trans hoD⟩
end Go.Proofs.YtlgefjcfnnjkbaaDoor
