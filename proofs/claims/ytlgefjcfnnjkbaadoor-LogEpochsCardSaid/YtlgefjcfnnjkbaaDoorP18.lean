/- Parts of the proof, one behind the other: LogCb. Each part's own words say what it proves; no conditions. -/
import Derived.Deep.RegionHeld3
import Derived.Test.YtlgefjcfnnjkbaaDoorP17
set_option linter.unusedVariables false
set_option linter.unusedSimpArgs false
set_option linter.unusedSectionVars false
/- A segment is opened. No conditions. -/
namespace Go.Proofs.YtlgefjcfnnjkbaaDoor
set_option maxRecDepth 100000
open Go.RowKit

theorem Tryd.buildUse0 (w : World) : (Instr.build 58 #[]).run Tryd.prog w = .ok (.agg #[.int .i64 0, .int .i64 0]) w := by kernel_rfl
theorem Tryd.buildLink (a : Int) (s : ByteArray) (w : World) : (Instr.build 86 #[(0, .int .i64 a), (2, .int .i64 1), (3, .string s)]).run Tryd.prog w = .ok (.agg #[.int .i64 a, .int .i64 0, .int .i64 1, .string s]) w := by kernel_rfl
theorem firstFree_lt {c : List Us} {segs seg : Nat} (h : firstFree c segs = some seg) : seg < segs := by
  unfold firstFree at h
  have := List.mem_of_find?_eq_some h
  simpa using this

theorem only_4set {w w' : World} (ho : Only (fun _ => False) w w') (b : Nat) (hb : w.heap.size ≤ b) (v0 v1 v2 v3 : Value) : Only (fun _ => False) w ((((w'.setCell ⟨b, 0, none⟩ v0).setCell ⟨b, 1, none⟩ v1).setCell ⟨b, 2, none⟩ v2).setCell ⟨b, 3, none⟩ v3) :=
  ho.trans' ((((Only.one w' b 0 v0).trans (Only.one _ b 1 v1)).trans (Only.one _ b 2 v2)).trans (Only.one _ b 3 v3)) (fun y hy e => by have e' : y = b := e; omega)
theorem heap_4set {w' : World} {b : Nat} {u0 u1 u2 u3 : Value} {t : TypeId} (h : w'.heap[b]? = some (.cells #[u0, u1, u2, u3] t (0, 0))) (v0 v1 v2 v3 : Value) :
    ((((w'.setCell ⟨b, 0, none⟩ v0).setCell ⟨b, 1, none⟩ v1).setCell ⟨b, 2, none⟩ v2).setCell ⟨b, 3, none⟩ v3).heap[b]? = some (.cells #[v0, v1, v2, v3] t (0, 0)) :=
  heap_setCell_same _ b 3 _ _ v3 (heap_setCell_same _ b 2 _ _ v2 (heap_setCell_same _ b 1 _ _ v1 (heap_setCell_same _ b 0 _ _ v0 h)))

set_option maxHeartbeats 8000000 in
theorem begin_any (w : World) (lb p kb : Nat) (pv : Value) (d : D) (l : Lg) (h : LgAt w lb p kb pv d l) (htop : l.top + 1 ≤ 16777215) (hroom : d.pend.length + 1 ≤ 1000000) :
    Calls Tryd.prog 23 #[.pointer (some ⟨lb, 0, none⟩)] w (LPost w lb p kb pv (.int .i64 (l.begin_ d).2.2) (l.begin_ d).1 (l.begin_ d).2.1) := by
  have hper := h.per64
  have hs12 := h.segs12
  have hsI : (l.segs : Int) ≤ 12 := by omega
  have hsI0 : (0 : Int) ≤ (l.segs : Int) := by omega
  obtain ⟨ht0, ht1⟩ := h.top
  have HB := Lib.hid (show l.begin_ d = (match syncP d with
      | (d1, false) => (d1, l, 22)
      | (d1, true) => match firstFree l.chain l.segs with
        | none => (d1, l, 132)
        | some seg => match thenP (wrAll l.per seg d1 [linkFr l]) syncP with
          | (d2, false) => (d2, l, 22)
          | (d2, true) => (d2, l.begun seg, 0)) from rfl)
  generalize l.begin_ d = B at HB ⊢
  have hc0 := h.c0
  have HSY := Lib.hid (dsync_any w p kb pv d h.da)
  have hsl : (syncP d).1.kept.length = d.kept.length ∧ (syncP d).1.pend.length ≤ d.pend.length := by
    unfold syncP; split
    · exact ⟨D.sync_len d, by simp [D.sync]⟩
    · exact ⟨rfl, Nat.le_refl _⟩
  generalize syncP d = R1 at HB HSY hsl
  obtain ⟨d1, ok1⟩ := R1
  simp only at HB HSY hsl
  go_enter Tryd.func23, Tryd.ntmps23
  go_wp2_with fail
  refine HSY.out.mono ?_
  rintro ev w1 ⟨pv1, rfl, hst1⟩
  have hL1 := (LStep.refl h).disk hst1 hsl.1
  have hdn := hst1.da
  clear HSY hc0 hst1
  cases ok1 with
  | false =>
    have HN := Lib.hid (show B = (d1, l, 22) from HB.out)
    unfold errP
    simp only [Bool.false_eq_true, if_false]
    clear HB
    go_wp2_with fail
    go_ret
    exact ⟨pv1, by rw [HN.out]; rfl, by rw [HN.out]; exact hL1⟩
  | true =>
    have HB1 := Lib.hid (show B = (match firstFree l.chain l.segs with
        | none => (d1, l, 132)
        | some seg => match thenP (wrAll l.per seg d1 [linkFr l]) syncP with
          | (d2, false) => (d2, l, 22)
          | (d2, true) => (d2, l.begun seg, 0)) from HB.out)
    unfold errP
    simp only [if_true]
    clear HB
    go_upto_region 4 with fail
    refine wp_region_pick (fun X => X = w1.drew) [(0, 0), (1, 0), (2, 0), (3, 0), (4, 0), (5, 0), (6, 0), (7, 1), (8, 0), (9, 0), (10, 3), (11, 0)] (by kernel_rfl) (by kernel_rfl) (fun _ _ d _ _ h => by cases d <;> exact h) rfl ?_
    have hL2 := hL1.quiet (Only.drew w1 _)
    clear hL1 hdn
    generalize w1.drew = w2 at hL2 ⊢
    have hc2 := hL2.at_.c2
    have hix := indexUse_any w2 lb 3 l.chain l.segs 12 hL2.at_.cat hs12
    have hfl := fun seg => firstFree_lt (c := l.chain) (segs := l.segs) (seg := seg)
    have HFF := Lib.hid (show ∀ seg, firstFree l.chain l.segs = some seg → l.chain.getD seg Us.no = Us.no from fun seg hs => by
      unfold firstFree at hs
      simpa using List.find?_some hs)
    generalize firstFree l.chain l.segs = FF at hix hfl HB1 HFF
    simp only [pickOps, List.getElem?_cons_zero, List.getElem?_cons_succ]
    iterate 10 (first | (refine wpL_pure (a' := ?_) ?_ rfl (fun W => ?_) ?_ ?_; rotate_left 2; (· go_simp; first | (go_bits; with_reducible rfl) | with_reducible rfl); (· simp only [put_some, List.setIfInBounds_toArray, List.set_cons_zero, List.set_cons_succ]; rfl)) | (refine wpL_held (a' := ?_) ?_ rfl (fun W hW => ?_) ?_ ?_; rotate_left 2; (· subst hW; go_simp; first | (go_bits; with_reducible rfl) | with_reducible rfl); (· simp only [put_some, List.setIfInBounds_toArray, List.set_cons_zero, List.set_cons_succ]; rfl)))
    refine wpL_lastCall (f := 44) (args := #[.slice (some ⟨lb, 3, none⟩) l.segs 12, .agg #[.int .i64 0, .int .i64 0]]) rfl (by kernel_rfl) (hix.mono ?_)
    rintro ev w3 ⟨rfl, ho3⟩
    refine ⟨_, rfl, ?_⟩
    simp only [put_some, List.setIfInBounds_toArray, List.set_cons_zero, List.set_cons_succ]
    (refine wpL_pure (a' := ?_) ?_ rfl (fun W => ?_) ?_ ?_; rotate_left 2; (· go_simp; first | (go_bits; with_reducible rfl) | with_reducible rfl); (· simp only [put_some, List.setIfInBounds_toArray, List.set_cons_zero, List.set_cons_succ]; rfl))
    refine wpL_nil ?_
    have hL3 := hL2.quiet ho3
    clear hix hL2 ho3 hc2
    cases FF with
    | none =>
      have HN := Lib.hid (show B = (d1, l, 132) from HB1.out)
      unfold idxI
      clear HB1 hfl HFF
      go_wp2_with fail
      go_ret
      exact ⟨pv1, by rw [HN.out]; rfl, by rw [HN.out]; exact hL3⟩
    | some seg =>
      have hseg := hfl seg rfl
      have HFE := Lib.hid (HFF.out seg rfl)
      have HB2 := Lib.hid (show B = (match thenP (wrAll l.per seg d1 [linkFr l]) syncP with
          | (d2, false) => (d2, l, 22)
          | (d2, true) => (d2, l.begun seg, 0)) from HB1.out)
      unfold idxI
      simp only
      have hgI : ¬ (seg : Int) < 0 := by omega
      clear HB1 hfl HFF
      go_upto_region 7 with fail
      have h3 := hL3.at_
      have HT := Lib.hid (fun W (hW : Only (fun _ => False) w3 W) => text_any W lb 3 l.chain l.segs (h3.quiet hW).cat hs12 h.us)
      obtain ⟨TX, hTX⟩ : ∃ TX, TX = chainText l.chain l.segs := ⟨_, rfl⟩
      rw [← hTX] at HT
      have HTX := Lib.hid hTX
      clear hTX
      have HQ := Lib.hid (show ∀ W, Only (fun _ => False) w3 W → W.cell? ⟨lb, 28, none⟩ = some (.int .i64 l.top) ∧ W.cell? ⟨lb, 2, none⟩ = some (.int .i64 (l.segs : Int)) ∧ Only (fun _ => False) w3 W from fun W hW => ⟨(h3.quiet hW).c28, (h3.quiet hW).c2, hW⟩)
      have hwr : IntKind.i64.wrap (l.top + 1) = l.top + 1 := by rw [IntKind.wrap_i64]; omega
      go_cut [5] from 30 to 44 (fun s5 wx => ∃ bx, s5 = .pointer (some ⟨bx, 0, none⟩) ∧ w3.heap.size ≤ bx ∧ wx.heap[bx]? = some (.cells #[.int .i64 (l.top + 1), .int .i64 0, .int .i64 1, .string ⟨TX.toArray⟩] 86 (0, 0)) ∧ Only (fun _ => False) w3 wx)
      case first =>
        go_region_held3 (fun W => W.cell? ⟨lb, 28, none⟩ = some (.int .i64 l.top) ∧ W.cell? ⟨lb, 2, none⟩ = some (.int .i64 (l.segs : Int)) ∧ Only (fun _ => False) w3 W)
          (first
            | exact HQ.out _ (Only.drew _ _)
            | exact HQ.out _ ((‹_ ∧ _ ∧ Only (fun _ => False) w3 _›).2.2.trans (Only.alloc _ _ _))
            | exact HQ.out _ ((‹_ ∧ _ ∧ Only (fun _ => False) w3 _›).2.2.trans (by assumption))
            | exact HQ.out _ (((Only.drew w3 _).trans (by assumption)).trans (Only.alloc _ _ _))
            | exact HQ.out _ (only_4set (((Only.drew w3 _).trans (Only.alloc _ _ _)).trans (by assumption)) _ (Nat.le_refl _) _ _ _ _))
          (first | (go_at_call 45; refine (HT.out _ (‹_ ∧ _ ∧ Only (fun _ => False) w3 _›).2.2).mono ?_; rintro e w4 ⟨rfl, ho4⟩; try (have hk : w4.heap[w3.heap.size]? = some (.cells #[.int .i64 0, .int .i64 0, .int .i64 0, .string ⟨#[]⟩] 86 (0, 0)) := ho4.keep (heap_alloc_new w3.drew (.cells #[.int .i64 0, .int .i64 0, .int .i64 0, .string ⟨#[]⟩] 86)) id; have z0 := cell_at hk 0; have z1 := cell_at hk 1; have z2 := cell_at hk 2; have z3 := cell_at hk 3; have y0 := free_at hk 0; have y1 := free_at hk 1; have y2 := free_at hk 2; have y3 := free_at hk 3; simp only [List.getElem?_toArray, List.getElem?_cons_zero, List.getElem?_cons_succ] at z0 z1 z2 z3)))
        · go_wp2_with fail
          go_meet
          have o1 := (Only.drew w3 (fun _ => False)).trans ho4
          exact ⟨_, rfl, o1.size, heap_alloc_any _ _, o1.trans (Only.alloc _ _ _)⟩
        · go_wp2_with fail
          go_meet
          have o1 := ((Only.drew w3 (fun _ => False)).trans (Only.alloc w3.drew (.cells #[.int .i64 0, .int .i64 0, .int .i64 0, .string ⟨#[]⟩] 86) _)).trans ho4
          exact ⟨_, rfl, Nat.le_refl _, heap_4set hk _ _ _ _, only_4set o1 _ (Nat.le_refl _) _ _ _ _⟩
      case rest =>
      obtain ⟨bx, rfl, hbx, hbf, hoc⟩ := hcut
      have hL4 := hL3.quiet hoc
      clear HQ HT hoc h3 hL3
      have hsg12 : seg < 12 := by omega
      go_upto_region 8 with fail
      have hbh : ∀ W, Only (fun _ => False) wc W → Has W bx 0 [.int .i64 (l.top + 1), .int .i64 0, .int .i64 1, .string ⟨TX.toArray⟩] := fun W hW => has_of_block' (hW.keep hbf id) (by simp)
      refine wp_region_pick (fun W => Only (fun _ => False) wc W) [(0, 0), (1, 0), (2, 0), (3, 0), (4, 1), (5, 2), (6, 3), (7, 0)] (by kernel_rfl) (by kernel_rfl) (fun _ _ d _ _ h => by cases d <;> exact h) (Only.drew wc _) ?_
      have ho5 := Only.drew wc (fun _ => False)
      generalize wc.drew = w5 at ho5 ⊢
      simp only [pickOps, List.getElem?_cons_zero, List.getElem?_cons_succ]
      iterate 4 (refine wpL_pure (a' := ?_) ?_ rfl (fun W => ?_) ?_ ?_; rotate_left 2; (· go_simp; first | (go_bits; with_reducible rfl) | with_reducible rfl); (· simp only [put_some, List.setIfInBounds_toArray, List.set_cons_zero, List.set_cons_succ]; rfl))
      refine wpL_held (a' := ?_) (.agg #[.int .i64 (l.top + 1), .int .i64 0, .int .i64 1, .string ⟨TX.toArray⟩]) rfl (fun W hW => exec_load rfl (p := .pointer (some ⟨bx, 0, none⟩)) rfl (run_load_part W bx 0 4 [.int .i64 (l.top + 1), .int .i64 0, .int .i64 1, .string ⟨TX.toArray⟩] 86 _ Tryd.underlying86 rfl Tryd.size23 rfl (hbh W hW))) ?_ ?_; rotate_left; (· simp only [put_some, List.setIfInBounds_toArray, List.set_cons_zero, List.set_cons_succ]; rfl)
      have hoB := Only.alloc w5 (.cells #[.int .i64 (l.top + 1), .int .i64 0, .int .i64 1, .string ⟨TX.toArray⟩] 86) (fun _ => False)
      have hbB := heap_alloc_any w5 (.cells #[.int .i64 (l.top + 1), .int .i64 0, .int .i64 1, .string ⟨TX.toArray⟩] 86)
      refine wpL_stepRun (a' := ?_) (w' := w5.alloc (.cells #[.int .i64 (l.top + 1), .int .i64 0, .int .i64 1, .string ⟨TX.toArray⟩] 86)) (.slice (some ⟨w5.heap.size, 0, none⟩) 1 1) rfl (exec_buildSlice_one rfl (v := .agg #[.int .i64 (l.top + 1), .int .i64 0, .int .i64 1, .string ⟨TX.toArray⟩]) rfl (run_buildSlice_one w5 118 86 _ _ #[.int .i64 (l.top + 1), .int .i64 0, .int .i64 1, .string ⟨TX.toArray⟩] 4 40 rfl rfl (by decide) (by decide) Tryd.underlying118 Tryd.info23)) (ho5.trans hoB) ?_ ?_; rotate_left; (· simp only [put_some, List.setIfInBounds_toArray, List.set_cons_zero, List.set_cons_succ]; rfl)
      have ho6 := ho5.trans hoB
      have hfn : wc.heap.size ≤ w5.heap.size := ho5.size
      generalize w5.alloc (.cells #[.int .i64 (l.top + 1), .int .i64 0, .int .i64 1, .string ⟨TX.toArray⟩] 86) = w6 at hoB hbB ho6 ⊢
      have hL6 := hL4.quiet ho6
      have hTl : TX.length = 4 * l.segs := by rw [HTX.out]; exact chainText_length _ _ (by rw [h.len]; exact hs12)
      have hSl := sliceOf_new [(⟨l.top + 1, 0, 1, TX⟩ : Fr)] (w := w6) hbB (by simp)
      have hw := gwrite_any w6 lb p kb pv1 d1 l.per l.segs seg _ [(⟨l.top + 1, 0, 1, TX⟩ : Fr)] _ _ hL6.at_.gat hSl (fun f hf => by
        obtain rfl := List.mem_singleton.1 hf
        refine ⟨?_, by simp only; have := h.per4; omega⟩
        rw [Fr.right_iff]; simp only; omega) hseg hL6.at_.apart (fun b o e => by cases e; exact fp_new hL4.at_.da hfn) (by simp only [List.length_cons, List.length_nil]; omega) (by simp)
      refine wpL_lastCall (f := 46) (args := #[.pointer (some ⟨lb, 0, none⟩), .int .i64 (seg : Int), .slice (some ⟨w5.heap.size, 0, none⟩) 1 1]) rfl (by kernel_rfl) (hw.mono ?_)
      rintro ev w7 ⟨pv7, rfl, hst7⟩
      refine ⟨_, rfl, ?_⟩
      simp only [put_some, List.setIfInBounds_toArray, List.set_cons_zero, List.set_cons_succ]
      (refine wpL_pure (a' := ?_) ?_ rfl (fun W => ?_) ?_ ?_; rotate_left 2; (· go_simp; first | (go_bits; with_reducible rfl) | with_reducible rfl); (· simp only [put_some, List.setIfInBounds_toArray, List.set_cons_zero, List.set_cons_succ]; rfl))
      refine wpL_nil ?_
      have HB3 := Lib.hid (show B = (match thenP (wrAll l.per seg d1 [(⟨l.top + 1, 0, 1, TX⟩ : Fr)]) syncP with
          | (d2, false) => (d2, l, 22)
          | (d2, true) => (d2, l.begun seg, 0)) by rw [HB2.out, HTX.out]; rfl)
      have hkl := (wrAll_facts l.per seg [(⟨l.top + 1, 0, 1, TX⟩ : Fr)] d1).1
      generalize wrAll l.per seg d1 [(⟨l.top + 1, 0, 1, TX⟩ : Fr)] = R at HB3 hst7 hkl ⊢
      obtain ⟨d7, ok7⟩ := R
      simp only at hst7 hkl ⊢
      have hL7 := hL6.disk hst7 (by rw [hkl])
      clear hw hSl hL4 hL6 hbB hoB ho6 hst7 HB2 ho5 hbf hbh
      cases ok7 with
      | false =>
        have HN := Lib.hid (show B = (d7, l, 22) by rw [HB3.out]; rfl)
        unfold errP
        simp only [Bool.false_eq_true, if_false]
        clear HB3
        go_wp2_with fail
        go_ret
        exact ⟨pv7, by rw [HN.out]; rfl, by rw [HN.out]; exact hL7⟩
      | true =>
        have HB4 := Lib.hid (show B = (match syncP d7 with
          | (d2, false) => (d2, l, 22)
          | (d2, true) => (d2, l.begun seg, 0)) by rw [HB3.out]; rfl)
        have hc0 := hL7.at_.c0
        have HSY := Lib.hid (dsync_any w7 p kb pv7 d7 hL7.at_.da)
        have hsl7 : (syncP d7).1.kept.length = d7.kept.length := by unfold syncP; split; exact D.sync_len d7; rfl
        generalize syncP d7 = R at HB4 HSY hsl7
        obtain ⟨d8, ok8⟩ := R
        simp only at HSY hsl7
        unfold errP
        simp only [if_true]
        clear HB3
        go_wp2_with fail
        refine HSY.out.mono ?_
        rintro ev w8 ⟨pv8, rfl, hst8⟩
        have hL8 := hL7.disk hst8 hsl7
        clear HSY hL7 hc0 hst8
        cases ok8 with
        | false =>
          have HN := Lib.hid (show B = (d8, l, 22) by rw [HB4.out])
          unfold errP
          simp only [Bool.false_eq_true, if_false]
          clear HB4
          go_wp2_with fail
          go_ret
          exact ⟨pv8, by rw [HN.out]; rfl, by rw [HN.out]; exact hL8⟩
        | true =>
          have HN := Lib.hid (show B = (d8, l.begun seg, 0) by rw [HB4.out])
          unfold errP
          simp only [if_true]
          clear HB4
          have h8 := hL8.at_
          have h28 := h8.c28
          have h28f : w8.frozen? ⟨lb, 28, none⟩ = false := free_at h8.head 28
          have ho9 := Only.one w8 lb 28 (.int .i64 (l.top + 1))
          have hset9 := heap_setCell_same w8 lb 28 _ _ (.int .i64 (l.top + 1)) h8.head
          rw [List.setIfInBounds_toArray, lgCells_setTail p _ h8.len 1] at hset9
          have h9 : LgAt (w8.setCell ⟨lb, 28, none⟩ (.int .i64 (l.top + 1))) lb p kb pv8 d8 { l with top := l.top + 1 } := h8.with ho9 hset9 h8.len rfl rfl h8.last ⟨by show 0 ≤ l.top + 1; omega, htop⟩ h8.us
          have hL9 := hL8.log h9 ho9
          have HL9 := Lib.hid hL9
          clear hset9 hL8 h8 ho9 hL9 h9
          go_upto_region 15 with fail
          generalize w8.setCell ⟨lb, 28, none⟩ (.int .i64 (l.top + 1)) = w9 at HL9 ⊢
          refine wp_region_pick (fun X => X = w9.drew) [(0, 0), (1, 0), (2, 0), (3, 0), (4, 0), (5, 1), (6, 0), (7, 0), (8, 0), (9, 0), (10, 3)] (by kernel_rfl) (by kernel_rfl) (fun _ _ d _ _ h => by cases d <;> exact h) rfl ?_
          have hLA := HL9.out.quiet (Only.drew w9 _)
          clear HL9
          generalize w9.drew = wA at hLA ⊢
          have hA := hLA.at_
          have hA28 : wA.cell? ⟨lb, 28, none⟩ = some (.int .i64 (l.top + 1)) := hA.c28
          have hsgI : (seg : Int) < 12 := by omega
          have hsgI0 : (0 : Int) ≤ (seg : Int) := by omega
          simp only [pickOps, List.getElem?_cons_zero, List.getElem?_cons_succ]
          iterate 6 (first | (refine wpL_pure (a' := ?_) ?_ rfl (fun W => ?_) ?_ ?_; rotate_left 2; (· go_simp; first | (go_bits; with_reducible rfl) | with_reducible rfl); (· simp only [put_some, List.setIfInBounds_toArray, List.set_cons_zero, List.set_cons_succ]; rfl)) | (refine wpL_held (a' := ?_) ?_ rfl (fun W hW => ?_) ?_ ?_; rotate_left 2; (· subst hW; go_simp; first | (go_bits; with_reducible rfl) | with_reducible rfl); (· simp only [put_some, List.setIfInBounds_toArray, List.set_cons_zero, List.set_cons_succ]; rfl)))
          refine wpL_pure (a' := ?_) (.agg #[.int .i64 (l.top + 1), .int .i64 1]) rfl (fun W => exec_buildN rfl (parts := #[(0, .int .i64 (l.top + 1)), (1, .int .i64 1)]) (by simp only [List.map_toArray, List.map_cons, List.map_nil]; go_simp) (Tryd.buildUse _ _ W)) ?_ ?_; rotate_left; (· simp only [put_some, List.setIfInBounds_toArray, List.set_cons_zero, List.set_cons_succ]; rfl)
          iterate 3 (first | (refine wpL_pure (a' := ?_) ?_ rfl (fun W => ?_) ?_ ?_; rotate_left 2; (· go_simp; first | (go_bits; with_reducible rfl) | with_reducible rfl); (· simp only [put_some, List.setIfInBounds_toArray, List.set_cons_zero, List.set_cons_succ]; rfl)) | (refine wpL_held (a' := ?_) ?_ rfl (fun W hW => ?_) ?_ ?_; rotate_left 2; (· subst hW; go_simp; first | (go_bits; with_reducible rfl) | with_reducible rfl); (· simp only [put_some, List.setIfInBounds_toArray, List.set_cons_zero, List.set_cons_succ]; rfl)))
          have hST := run_store_part (P := Tryd.prog) wA lb (3 + seg * 2) 2 62 58 (lgCells p { l with top := l.top + 1 }) [.int .i64 (l.top + 1), .int .i64 1] Tryd.sizeUse rfl hA.head (by rw [lgCells_length p { l with top := l.top + 1 } hA.len]; simp; omega) (by simp [Value.oneCell'])
          have hoS := Only.setRow wA lb (laid (lgCells p { l with top := l.top + 1 }) (3 + seg * 2) [.int .i64 (l.top + 1), .int .i64 1]).toArray (S := fun x => x = lb) rfl
          have hsr := setRow_heap _ lb _ (laid (lgCells p { l with top := l.top + 1 }) (3 + seg * 2) [.int .i64 (l.top + 1), .int .i64 1]).toArray _ _ hA.head
          refine wpL_lastDone (a' := ?_) (w' := wA.setRow lb (laid (lgCells p { l with top := l.top + 1 }) (3 + seg * 2) [.int .i64 (l.top + 1), .int .i64 1]).toArray) rfl (exec_store rfl (p := .pointer (some ⟨lb, 3 + seg * 2, none⟩)) (v := .agg #[.int .i64 (l.top + 1), .int .i64 1]) rfl rfl hST) ?_ ?_; rotate_left; (· simp only [put_none]; rfl)
          refine wpL_nil ?_
          have e4 : laid (lgCells p { l with top := l.top + 1 }) (3 + seg * 2) [.int .i64 (l.top + 1), .int .i64 1] = lgCells p { l with top := l.top + 1, chain := l.chain.set seg ⟨l.top + 1, 1⟩ } := lgCells_use p { l with top := l.top + 1 } hA.len ⟨l.top + 1, 1⟩ hsg12
          rw [e4] at hoS hsr ⊢
          have hus : ∀ k, 0 ≤ ((l.chain.set seg ⟨l.top + 1, 1⟩).getD k Us.no).e ∧ ((l.chain.set seg ⟨l.top + 1, 1⟩).getD k Us.no).e ≤ 16777215 ∧ 0 ≤ ((l.chain.set seg ⟨l.top + 1, 1⟩).getD k Us.no).c ∧ ((l.chain.set seg ⟨l.top + 1, 1⟩).getD k Us.no).c ≤ 64 := fun k => by
            by_cases ek : k = seg
            · subst ek; rw [getD_set_eq (by rw [h.len]; exact hsg12)]; simp only; omega
            · rw [getD_set_ne ek]; exact h.us k
          have hB : LgAt (wA.setRow lb (lgCells p { l with top := l.top + 1, chain := l.chain.set seg ⟨l.top + 1, 1⟩ }).toArray) lb p kb pv8 d8 { l with top := l.top + 1, chain := l.chain.set seg ⟨l.top + 1, 1⟩ } := hA.with hoS hsr (by simp only [List.length_set]; exact h.len) rfl rfl hA.last hA.top hus
          have hLB := hLA.log hB hoS
          clear hST hsr hoS e4 hA hLA hA28 hus
          generalize wA.setRow lb (lgCells p { l with top := l.top + 1, chain := l.chain.set seg ⟨l.top + 1, 1⟩ }).toArray = wB at hB hLB ⊢
          have b27 : wB.cell? ⟨lb, 27, none⟩ = some (.int .i64 (l.last : Int)) := hB.c27
          have b29 : wB.cell? ⟨lb, 29, none⟩ = some (.bool l.opn) := hB.c29
          have b30 : wB.cell? ⟨lb, 30, none⟩ = some (.bool l.loose) := hB.c30
          have f27 : wB.frozen? ⟨lb, 27, none⟩ = false := free_at hB.head 27
          have f29 : wB.frozen? ⟨lb, 29, none⟩ = false := free_at hB.head 29
          have f30 : wB.frozen? ⟨lb, 30, none⟩ = false := free_at hB.head 30
          have s1 := heap_setCell_same wB lb 27 _ _ (.int .i64 (seg : Int)) hB.head
          have s2 := heap_setCell_same _ lb 29 _ _ (.bool true) s1
          have s3 := heap_setCell_same _ lb 30 _ _ (.bool false) s2
          have hoF := ((Only.one wB lb 27 (.int .i64 (seg : Int))).trans (Only.one _ lb 29 (.bool true))).trans (Only.one _ lb 30 (.bool false))
          have ef : ((((lgCells p { l with top := l.top + 1, chain := l.chain.set seg ⟨l.top + 1, 1⟩ }).toArray.setIfInBounds 27 (.int .i64 (seg : Int))).setIfInBounds 29 (.bool true)).setIfInBounds 30 (.bool false)) = (lgCells p (l.begun seg)).toArray := by
            simp only [List.setIfInBounds_toArray]
            congr 1
            rw [lgCells_setTail p _ hB.len 0]
            have e1 : lgHead p { l with top := l.top + 1, chain := l.chain.set seg ⟨l.top + 1, 1⟩ } ++ (usCells (l.chain.set seg ⟨l.top + 1, 1⟩) ++ (lgTail { l with top := l.top + 1, chain := l.chain.set seg ⟨l.top + 1, 1⟩ }).set 0 (.int .i64 (seg : Int))) = lgCells p { l with top := l.top + 1, chain := l.chain.set seg ⟨l.top + 1, 1⟩, last := seg } := rfl
            rw [e1, lgCells_setTail p { l with top := l.top + 1, chain := l.chain.set seg ⟨l.top + 1, 1⟩, last := seg } hB.len 2]
            have e2 : lgHead p { l with top := l.top + 1, chain := l.chain.set seg ⟨l.top + 1, 1⟩, last := seg } ++ (usCells (l.chain.set seg ⟨l.top + 1, 1⟩) ++ (lgTail { l with top := l.top + 1, chain := l.chain.set seg ⟨l.top + 1, 1⟩, last := seg }).set 2 (.bool true)) = lgCells p { l with top := l.top + 1, chain := l.chain.set seg ⟨l.top + 1, 1⟩, last := seg, opn := true } := rfl
            rw [e2, lgCells_setTail p { l with top := l.top + 1, chain := l.chain.set seg ⟨l.top + 1, 1⟩, last := seg, opn := true } hB.len 3]
            rfl
          rw [ef] at s3
          have hF := hB.with (l' := l.begun seg) hoF s3 hB.len rfl rfl hsg12 hB.top hB.us
          have HLF := Lib.hid (hLB.log hF hoF)
          clear s1 s2 s3 hoF ef hF hB hLB
          go_wp2_with fail
          go_ret
          exact ⟨pv8, by rw [HN.out]; rfl, by rw [HN.out]; exact HLF.out⟩
end Go.Proofs.YtlgefjcfnnjkbaaDoor
