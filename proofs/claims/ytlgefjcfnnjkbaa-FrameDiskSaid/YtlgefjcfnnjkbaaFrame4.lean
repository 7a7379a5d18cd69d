/- The frames that are made right (pick, FrameOf), and how many a batch takes by the reference. No conditions. -/
import Derived.Test.YtlgefjcfnnjkbaaFrame3
namespace Go.Proofs.Ytlgefjcfnnjkbaa
open Go.RowKit

def pickI (c n : Int) : Int := (if c < 0 then -(c + 1) else c) % n
def I64 (n : Int) : Prop := -9223372036854775808 ≤ n ∧ n ≤ 9223372036854775807
def Fr.made (f : Fr) : Fr := { e := 1 + pickI f.e 16777215, a := pickI f.a 64, k := 1 + pickI f.k 4, s := f.s.take 53 }
structure Fr.Wf (f : Fr) : Prop where
  e : I64 f.e
  a : I64 f.a
  k : I64 f.k
  s : f.s.length ≤ maxLen

theorem pickI_lt (c n : Int) (h : 0 < n) : 0 ≤ pickI c n ∧ pickI c n < n := ⟨Int.emod_nonneg _ (by omega), Int.emod_lt_of_pos _ h⟩
theorem Fr.made_right (f : Fr) : f.made.right = true := by
  have h1 := pickI_lt f.e 16777215 (by decide)
  have h2 := pickI_lt f.a 64 (by decide)
  have h3 := pickI_lt f.k 4 (by decide)
  rw [Fr.right_iff]
  simp only [Fr.made, List.length_take]
  omega

set_option maxHeartbeats 1000000 in
theorem pick12_any (w : World) (c n : Int) (hc : I64 c) (hn : 0 < n) (hn2 : n ≤ 9223372036854775807) :
    Calls Try.prog 22 #[.int .i64 c, .int .i64 n] w fun e w' => e = .returned (.int .i64 (pickI c n)) ∧ w = w' := by
  obtain ⟨h1, h2⟩ := hc
  have hb := pickI_lt c n hn
  have HB := Lib.hid hb
  clear hb
  have hnz : n ≠ 0 := by omega
  go_enter Try.func22, Try.ntmps22
  by_cases hneg : c < 0
  · have e := Lib.hid (show pickI c n = -((c + 1).tmod n) by rw [pickI, if_pos hneg, ← Int.neg_tmod, Int.tmod_eq_emod_of_nonneg (by omega)])
    go_wp2
    go_ret
    exact ⟨by rw [e.out]; rfl, rfl⟩
  · have e := Lib.hid (show pickI c n = c % n by rw [pickI, if_neg hneg])
    go_wp2
    go_ret
    exact ⟨by rw [e.out]; rfl, rfl⟩

set_option maxHeartbeats 1000000 in
theorem refNeed_any (w : World) (n : Int) (hn : -9223372036854775808 ≤ n ∧ n ≤ 9223372036854775807) :
    Calls Try.prog 26 #[.int .i64 n] w fun e w' => e = .returned (.int .i64 (needI n)) ∧ w = w' := by
  obtain ⟨h1, h2⟩ := hn
  go_enter Try.func26, Try.ntmps26
  by_cases h : n < 0
  · go_wp2
    go_ret
    exact ⟨by simp [needI, h], rfl⟩
  · have h' : 0 ≤ n := by omega
    have hm : needI n = max 1 (n / 53 + min 1 (n % 53)) := by
      simp only [needI, if_neg h, need]; omega
    rw [hm]
    clear hm h
    go_wp2
    all_goals (go_ret; refine ⟨?_, rfl⟩; go_num)

theorem results_cell {P : Program} {fn : Func} {p : Tmp} {ty : TypeId} (h : fn.results = #[.cell p ty]) (tmps : Array Value) (w : World) (g : Nat) (t : TypeId) (cs : Array Value) (fr : Nat × Nat) (d : TypeDesc)
    (hp : tmps.getD p undef = .pointer (some ⟨g, 0, none⟩)) (hg : w.heap[g]? = some (.cells cs t fr))
    (hu : P.underlying ty = some d) (hd : (match d with | .struct _ | .array _ _ => true | _ => false) = true) (hi : (P.info? ty).map (·.size) = some cs.size) :
    (results fn tmps).run P w = .ok (.agg cs) w := results_cell_row h tmps w g t cs fr d hp hg hu hd hi

set_option maxHeartbeats 2000000 in
theorem frameOf_any (w : World) (f : Fr) (hf : f.Wf) :
    Calls Try.prog 21 #[f.val] w fun e w' => e = .returned f.made.val ∧ Only (fun _ => False) w w' := by
  obtain ⟨e, a, k, s⟩ := f
  obtain ⟨we, wa, wk, ws⟩ := hf
  simp only at we wa wk ws
  have P1 := pick12_any (n := 16777215) (hc := we) (hn := by decide) (hn2 := by decide)
  have P2 := pick12_any (n := 64) (hc := wa) (hn := by decide) (hn2 := by decide)
  have P3 := pick12_any (n := 4) (hc := wk) (hn := by decide) (hn2 := by decide)
  have L1 := pickI_lt e 16777215 (by decide)
  have L3 := pickI_lt k 4 (by decide)
  have HM : Hid (Fr.made ⟨e, a, k, s⟩ = ⟨1 + pickI e 16777215, pickI a 64, 1 + pickI k 4, s.take 53⟩) := Lib.hid rfl
  unfold Fr.val
  rw [HM.out]
  simp only
  generalize pickI e 16777215 = e' at P1 L1
  generalize pickI a 64 = a' at P2
  generalize pickI k 4 = k' at P3 L3
  obtain ⟨L1a, L1b⟩ := L1
  obtain ⟨L3a, L3b⟩ := L3
  have Q1 := Lib.hid P1
  have Q2 := Lib.hid P2
  have Q3 := Lib.hid P3
  clear P1 P2 P3 we wa wk HM
  unfold maxLen at ws
  have hz := size_toArray s
  have hex : ∀ m : Nat, m = min s.length 53 → (⟨s.toArray⟩ : ByteArray).extract 0 m = ⟨(s.take 53).toArray⟩ := by
    intro m hm
    rw [extract_list, List.drop_zero, hm]
    congr 2
    by_cases hh : s.length ≤ 53
    · rw [Nat.min_eq_left hh, List.take_of_length_le (Nat.le_refl _), List.take_of_length_le hh]
    · rw [Nat.min_eq_right (by omega)]
  obtain ⟨t, ht⟩ : ∃ t, t = s.take 53 := ⟨_, rfl⟩
  rw [← ht] at hex ⊢
  clear ht
  have HZ := Lib.hid (heap_alloc_new w (.cells #[.int .i64 e, .int .i64 a, .int .i64 k, .string ⟨s.toArray⟩] 23))
  go_enter Try.func21, Try.ntmps21
  go_upto_region 1 with fail
  have hb0 := (Only.alloc (w.alloc (.cells #[.int .i64 e, .int .i64 a, .int .i64 k, .string ⟨s.toArray⟩] 23)) (.cells #[.int .i64 0, .int .i64 0, .int .i64 0, .string ⟨#[]⟩] 23) (fun _ => False)).keep HZ.out id
  have hb1 := heap_alloc_new (w.alloc (.cells #[.int .i64 e, .int .i64 a, .int .i64 k, .string ⟨s.toArray⟩] 23)) (.cells #[.int .i64 0, .int .i64 0, .int .i64 0, .string ⟨#[]⟩] 23)
  have hbo := (Only.alloc w (.cells #[.int .i64 e, .int .i64 a, .int .i64 k, .string ⟨s.toArray⟩] 23) (fun _ => False)).trans (Only.alloc _ (.cells #[.int .i64 0, .int .i64 0, .int .i64 0, .string ⟨#[]⟩] 23) _)
  have hgs : (w.alloc (.cells #[.int .i64 e, .int .i64 a, .int .i64 k, .string ⟨s.toArray⟩] 23)).heap.size = w.heap.size + 1 := by simp
  rw [hgs] at hb1
  generalize (w.alloc (.cells #[.int .i64 e, .int .i64 a, .int .i64 k, .string ⟨s.toArray⟩] 23)).alloc (.cells #[.int .i64 0, .int .i64 0, .int .i64 0, .string ⟨#[]⟩] 23) = wa at hb0 hb1 hbo ⊢
  clear hgs HZ
  have HBO := Lib.hid hbo
  clear hbo
  refine wp_region_pick (fun W => W.heap[w.heap.size]? = some (.cells #[.int .i64 e, .int .i64 a, .int .i64 k, .string ⟨s.toArray⟩] 23 (0, 0))) [(0, 0), (1, 1), (4, 0), (5, 1), (7, 0), (8, 1), (11, 0), (12, 1), (13, 0), (14, 1), (15, 0), (16, 0), (17, 0), (2, 2), (3, 0), (6, 2), (9, 2), (10, 0), (18, 0), (19, 3)] (by kernel_rfl) (by kernel_rfl) (fun _ _ d _ _ h => by cases d <;> exact h) hb0 ?_
  simp only [pickOps, List.getElem?_cons_zero, List.getElem?_cons_succ]
  iterate 11 (first | (refine wpL_pure (a' := ?_) ?_ rfl (fun W => ?_) ?_ ?_; rotate_left 2; (· go_simp; first | (go_bits; with_reducible rfl) | with_reducible rfl); (· simp only [put_some, List.setIfInBounds_toArray, List.set_cons_zero, List.set_cons_succ]; rfl)) | (refine wpL_held (a' := ?_) ?_ rfl (fun W hW => ?_) ?_ ?_; rotate_left 2; (· have c0 := cell_at hW 0; have c1 := cell_at hW 1; have c2 := cell_at hW 2; have c3 := cell_at hW 3; go_simp; first | (go_bits; with_reducible rfl) | with_reducible rfl); (· simp only [put_some, List.setIfInBounds_toArray, List.set_cons_zero, List.set_cons_succ]; rfl)))
  obtain ⟨m, hm⟩ : ∃ m, m = min s.length 53 := ⟨_, rfl⟩
  have hex' := hex m hm
  have hm1 : m ≤ s.length := by omega
  clear hex
  refine wpL_pure (a' := ?_) (.int .i64 (m : Int)) rfl (fun W => ?_) ?_ ?_; rotate_left 1
  · rcases Nat.lt_or_ge s.length 53 with hl | hl
    · have e1 : m = s.length := by omega
      rw [e1]
      clear hex' hm
      go_simp
      omega
    · have e1 : m = 53 := by omega
      rw [e1]
      clear hex' hm
      go_simp
      omega
  · simp only [put_some, List.setIfInBounds_toArray, List.set_cons_zero, List.set_cons_succ]; rfl
  clear hm
  (refine wpL_pure (a' := ?_) ?_ rfl (fun W => ?_) ?_ ?_; rotate_left 2; (· go_simp; first | (go_bits; with_reducible rfl) | with_reducible rfl); (· simp only [put_some, List.setIfInBounds_toArray, List.set_cons_zero, List.set_cons_succ]; rfl))
  refine wpL_stepCall (f := 22) (args := #[.int .i64 e, .int .i64 16777215]) rfl (by kernel_rfl) ((Q1.out _).mono ?_)
  rintro ev wv ⟨rfl, rfl⟩
  refine ⟨_, rfl, hb0, ?_⟩
  simp only [put_some, List.setIfInBounds_toArray, List.set_cons_zero, List.set_cons_succ]
  (refine wpL_pure (a' := ?_) ?_ rfl (fun W => ?_) ?_ ?_; rotate_left 2; (· go_simp; first | (go_bits; with_reducible rfl) | with_reducible rfl); (· simp only [put_some, List.setIfInBounds_toArray, List.set_cons_zero, List.set_cons_succ]; rfl))
  refine wpL_stepCall (f := 22) (args := #[.int .i64 a, .int .i64 64]) rfl (by kernel_rfl) ((Q2.out _).mono ?_)
  rintro ev wv ⟨rfl, rfl⟩
  refine ⟨_, rfl, hb0, ?_⟩
  simp only [put_some, List.setIfInBounds_toArray, List.set_cons_zero, List.set_cons_succ]
  refine wpL_stepCall (f := 22) (args := #[.int .i64 k, .int .i64 4]) rfl (by kernel_rfl) ((Q3.out _).mono ?_)
  rintro ev wv ⟨rfl, rfl⟩
  refine ⟨_, rfl, hb0, ?_⟩
  simp only [put_some, List.setIfInBounds_toArray, List.set_cons_zero, List.set_cons_succ]
  (refine wpL_pure (a' := ?_) ?_ rfl (fun W => ?_) ?_ ?_; rotate_left 2; (· go_simp; first | (go_bits; with_reducible rfl) | with_reducible rfl); (· simp only [put_some, List.setIfInBounds_toArray, List.set_cons_zero, List.set_cons_succ]; rfl))
  refine wpL_pure (a' := ?_) (.agg #[.int .i64 (1 + e'), .int .i64 a', .int .i64 (1 + k'), .string ⟨t.toArray⟩]) rfl (fun W => exec_buildN rfl (parts := #[(0, .int .i64 (1 + e')), (1, .int .i64 a'), (2, .int .i64 (1 + k')), (3, .string ⟨t.toArray⟩)]) (by simp only [List.map_toArray, List.map_cons, List.map_nil]; go_simp) (Try.build23 _ _ _ _ W)) ?_ ?_
  rotate_left
  · simp only [put_some, List.setIfInBounds_toArray, List.set_cons_zero, List.set_cons_succ]; rfl
  have ST := run_store_part (P := Try.prog) wa.drew (w.heap.size + 1) 0 4 23 23 [.int .i64 0, .int .i64 0, .int .i64 0, .string ⟨#[]⟩] [.int .i64 (1 + e'), .int .i64 a', .int .i64 (1 + k'), .string ⟨t.toArray⟩] Try.size23 rfl hb1 (by simp) (by simp [Value.oneCell'])
  rw [show laid [.int .i64 0, .int .i64 0, .int .i64 0, .string ⟨#[]⟩] 0 [Value.int .i64 (1 + e'), .int .i64 a', .int .i64 (1 + k'), .string ⟨t.toArray⟩] = [.int .i64 (1 + e'), .int .i64 a', .int .i64 (1 + k'), .string ⟨t.toArray⟩] from rfl] at ST
  refine wpL_lastDone (a' := ?_) (w' := wa.drew.setRow (w.heap.size + 1) #[.int .i64 (1 + e'), .int .i64 a', .int .i64 (1 + k'), .string ⟨t.toArray⟩]) rfl (exec_store rfl rfl rfl ST) ?_ ?_
  rotate_left
  · simp only [put_none]; rfl
  refine wpL_nil ?_
  go_wp2
  refine bodyPost_ret (results_cell_row rfl _ _ (w.heap.size + 1) 23 #[.int .i64 (1 + e'), .int .i64 a', .int .i64 (1 + k'), .string ⟨t.toArray⟩] (0, 0) _ rfl ?_ Try.underlying23 rfl Try.size23) rfl ?_
  · exact setRow_heap _ _ _ _ _ _ hb1
  exact ⟨rfl, (HBO.out.trans (Only.drew _ _)).trans' (Only.setRow _ _ _ (S := fun x => x = w.heap.size + 1) rfl) (fun y hy e => by omega)⟩
end Go.Proofs.Ytlgefjcfnnjkbaa
