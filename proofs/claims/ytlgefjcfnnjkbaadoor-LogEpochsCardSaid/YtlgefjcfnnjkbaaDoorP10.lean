/- Parts of the proof, one behind the other: LogK, LogL. Each part's own words say what it proves; no conditions. -/
import Derived.Test.YtlgefjcfnnjkbaaDoorP07
import Derived.Test.YtlgefjcfnnjkbaaDoorP08
import Derived.Test.YtlgefjcfnnjkbaaDoorP09
set_option linter.unusedVariables false
set_option linter.unusedSimpArgs false
set_option linter.unusedSectionVars false
/- The order of a chain. No conditions. -/
namespace Go.Proofs.YtlgefjcfnnjkbaaDoor
set_option maxRecDepth 100000
open Go.RowKit

theorem Tryd.sizeUse : (Tryd.prog.info? 58).map (·.size) = some 2 := by kernel_rfl
theorem Tryd.allocUse (w : World) : (Instr.alloc 58 true (.tuple #[])).run Tryd.prog w = .ok (.pointer (some ⟨w.heap.size, 0, none⟩)) (w.alloc (.cells #[.int .i64 0, .int .i64 0] 58)) := by kernel_rfl
theorem usedTo_succ (c : List Us) (k : Nat) : usedTo c (k + 1) = usedTo c k ++ if (c.getD k Us.no).e = 0 then [] else [k] := by
  unfold usedTo
  rw [List.range_succ, List.filter_append]
  by_cases h : (c.getD k Us.no).e = 0
  · rw [if_pos h]; simp only [List.filter_cons, h]; rfl
  · rw [if_neg h]; simp only [List.filter_cons, List.filter_nil, bne_iff_ne.2 h]; rfl
theorem usedTo_le (c : List Us) (k : Nat) : (usedTo c k).length ≤ k := by
  unfold usedTo
  exact Nat.le_trans (List.length_filter_le _ _) (by simp)
theorem CAt.us {w : World} {b o : Nat} {c : List Us} (h : CAt w b o c) {k : Nat} (hk : k < 12) : Has w b (o + k * 2) [.int .i64 (c.getD k Us.no).e, .int .i64 (c.getD k Us.no).c] := by
  obtain ⟨h1, h2⟩ := h.cells hk
  intro j u hu
  match j with
  | 0 => simp at hu; subst hu; exact h1
  | 1 => simp at hu; subst hu; exact h2
  | j + 2 => simp at hu

theorem ownsRow_down {w : World} {b b' : Nat} {e : TypeId} {size : Nat} {v : Value} {n : Nat} {xs : List Value} (h : w.ownsRow b e size v n xs) (hb : b' ≤ b) : w.ownsRow b' e size v n xs := by
  refine ⟨h.1, ?_⟩
  rcases h.2 with hn | ⟨g, cap, cur, rfl, hg, r⟩
  · exact .inl hn
  · exact .inr ⟨g, cap, cur, rfl, Nat.le_trans hb hg, r⟩
set_option maxHeartbeats 8000000 in
theorem order_any (w : World) (cb o : Nat) (c : List Us) (hC : CAt w cb o c) :
    Calls Tryd.prog 20 #[.pointer (some ⟨cb, o, none⟩)] w fun e w' => ∃ v, e = .returned v ∧ w'.ownsRow w.heap.size 3 1 v (orderL c).length (natVs (orderL c)) ∧ Only (fun _ => False) w w' := by
  have hb0 := heap_alloc_any w (.cells #[.pointer (some ⟨cb, o, none⟩)] 110)
  have ho0 := Only.alloc w (.cells #[.pointer (some ⟨cb, o, none⟩)] 110) (fun _ => False)
  have hcl : cb < w.heap.size := World.block_lt_of_cell? _ _ (hC.cells (k := 0) (by omega)).1
  have hs0 : (w.alloc (.cells #[.pointer (some ⟨cb, o, none⟩)] 110)).heap.size = w.heap.size + 1 := by simp
  go_enter Tryd.func20, Tryd.ntmps20
  go_wp2_with fail
  generalize w.alloc (.cells #[.pointer (some ⟨cb, o, none⟩)] 110) = w0 at hb0 ho0 hs0 ⊢
  have HS0 := Lib.hid hs0
  clear hs0
  go_loopw [3, 8] (fun v i wr => ∃ k : Nat, k ≤ 12 ∧ i = .int .i64 (k : Int) ∧ Hid (wr.ownsRow (w.heap.size + 1) 3 1 v (usedTo c k).length (natVs (usedTo c k))) ∧ Only (fun _ => False) w0 wr) (fun v i _ => 12 - (intOf i).toNat)
  case atStart =>
    refine ⟨0, by omega, rfl, Lib.hid ⟨rfl, .inl ⟨rfl, rfl⟩⟩, Only.refl _ _⟩
  case round =>
    obtain ⟨k, hk, rfl, hrow, hor⟩ := hrel
    by_cases hk12 : k < 12
    · have hI : (k : Int) < 12 := by omega
      have hI0 : (0 : Int) ≤ (k : Int) := by omega
      have hC1 := ((hC.only ho0 id).only hor id).only (Only.drew wr (fun _ => False)) id
      have hus := hC1.us hk12
      generalize hu : (c.getD k Us.no) = u at hus
      have HU := Lib.hid hu
      have HUS := Lib.hid (usedTo_succ c k)
      have HUL := Lib.hid (usedTo_le c k)
      clear hu
      go_upto_region 4 with fail
      have HC1 := Lib.hid hC1
      have HOr := Lib.hid (hor.trans (Only.drew wr (fun _ => False)))
      have HR1 := Lib.hid (ownsRow_only hrow.out (Only.drew wr (fun _ => False)) (fun _ _ h => h))
      clear hC1 hor hrow
      refine wp_region_pick (fun W => Has W cb (o + k * 2) [.int .i64 u.e, .int .i64 u.c]) [(0, 0), (1, 0), (2, 0), (3, 1), (4, 2), (5, 0), (6, 3)] (by kernel_rfl) (by kernel_rfl) (fun _ _ d _ _ h => by cases d <;> exact h) hus ?_
      generalize wr.drew = w1 at hus HOr HR1 HC1 ⊢
      simp only [pickOps, List.getElem?_cons_zero, List.getElem?_cons_succ]
      iterate 3 (refine wpL_pure (a' := ?_) ?_ rfl (fun W => ?_) ?_ ?_; rotate_left 2; (· go_simp; first | (go_bits; with_reducible rfl) | with_reducible rfl); (· simp only [put_some, List.setIfInBounds_toArray, List.set_cons_zero, List.set_cons_succ]; rfl))
      refine wpL_held (a' := ?_) (.agg #[.int .i64 u.e, .int .i64 u.c]) rfl (fun W hW => exec_load rfl (p := .pointer (some ⟨cb, o + k * 2, none⟩)) rfl (run_load_part W cb (o + k * 2) 2 [.int .i64 u.e, .int .i64 u.c] 58 _ Tryd.underlying58 rfl Tryd.sizeUse rfl hW)) ?_ ?_; rotate_left; (· simp only [put_some, List.setIfInBounds_toArray, List.set_cons_zero, List.set_cons_succ]; rfl)
      have hoA := Only.alloc w1 (.cells #[.int .i64 0, .int .i64 0] 58) (fun _ => False)
      have hal := heap_alloc_new w1 (.cells #[.int .i64 0, .int .i64 0] 58)
      refine wpL_stepRun (a' := ?_) (w' := w1.alloc (.cells #[.int .i64 0, .int .i64 0] 58)) (.pointer (some ⟨w1.heap.size, 0, none⟩)) rfl (exec_alloc rfl (Tryd.allocUse w1)) (((HC1.out).only hoA id).us hk12 |> fun h => by rw [HU.out] at h; exact h) ?_ ?_; rotate_left; (· simp only [put_some, List.setIfInBounds_toArray, List.set_cons_zero, List.set_cons_succ]; rfl)
      (refine wpL_pure (a' := ?_) ?_ rfl (fun W => ?_) ?_ ?_; rotate_left 2; (· go_simp; first | (go_bits; with_reducible rfl) | with_reducible rfl); (· simp only [put_some, List.setIfInBounds_toArray, List.set_cons_zero, List.set_cons_succ]; rfl))
      have hST := run_store_part (P := Tryd.prog) (w1.alloc (.cells #[.int .i64 0, .int .i64 0] 58)) w1.heap.size 0 2 58 58 [.int .i64 0, .int .i64 0] [.int .i64 u.e, .int .i64 u.c] Tryd.sizeUse rfl hal (by simp) (by simp [Value.oneCell'])
      refine wpL_lastDone (a' := ?_) (w' := (w1.alloc (.cells #[.int .i64 0, .int .i64 0] 58)).setRow w1.heap.size #[.int .i64 u.e, .int .i64 u.c]) rfl (exec_store rfl (p := .pointer (some ⟨w1.heap.size, 0, none⟩)) (v := .agg #[.int .i64 u.e, .int .i64 u.c]) rfl rfl hST) ?_ ?_; rotate_left; (· simp only [put_none]; rfl)
      refine wpL_nil ?_
      have hg1 := setRow_heap _ w1.heap.size _ #[.int .i64 u.e, .int .i64 u.c] _ _ hal
      have hoS := (hoA.trans' (Only.setRow (w1.alloc (.cells #[.int .i64 0, .int .i64 0] 58)) w1.heap.size #[.int .i64 u.e, .int .i64 u.c] (S := fun x => x = w1.heap.size) rfl) (fun y hy e => by omega))
      clear hST hal hoA hus
      generalize (w1.alloc (.cells #[.int .i64 0, .int .i64 0] 58)).setRow w1.heap.size #[.int .i64 u.e, .int .i64 u.c] = w2 at hg1 hoS ⊢
      have hc0 : w2.cell? ⟨w1.heap.size, 0, none⟩ = some (.int .i64 u.e) := cell_at hg1 0
      have HO2 := Lib.hid (HOr.out.trans hoS)
      have HR2 := Lib.hid (ownsRow_only HR1.out hoS (fun _ _ h => h))
      clear hg1 hoS HOr HR1 HC1
      by_cases hz : u.e = 0
      · have HUE := HUS.out
        rw [HU.out, if_pos hz, List.append_nil] at HUE
        have HUE := Lib.hid HUE
        rw [hz] at hc0
        clear hz
        go_wp2_with fail
        exact ⟨⟨k + 1, by omega, rfl, by rw [HUE.out]; exact HR2, HO2.out⟩, by simp [intOf]; omega⟩
      · have HUE := HUS.out
        rw [HU.out, if_neg hz] at HUE
        have HUE := Lib.hid HUE
        have hsz : w.heap.size + 1 ≤ w2.heap.size := by have := HO2.out.size; rw [HS0.out] at this; exact this
        generalize usedTo c k = T at HUE HUL HR2
        obtain ⟨v6, w6, hrun6, hown6, ho6, hfr6⟩ := append_one_row2 (P := Tryd.prog) w2 (w.heap.size + 1) 37 37 3 _ 1 8 Tryd.underlying37 Tryd.info3 rfl (by decide) u3 T.length _ HR2.out [.int .i64 (k : Int)] rfl (by simp [Value.oneCell']) (by have := HUL.out; omega) (by decide) hsz
        have HRUN := Lib.hid hrun6
        have HOWN := Lib.hid hown6
        have HO6 := Lib.hid ho6
        have HOO := Lib.hid (HO2.out.trans' ho6 (fun y hy e => row_own_new HR2.out (by rw [HS0.out] at hy; exact hy) e))
        have HOW : Hid (w6.ownsRow (w.heap.size + 1) 3 1 v6 (T ++ [k]).length (natVs (T ++ [k]))) := Lib.hid (by rw [List.length_append, List.length_singleton, natVs, List.map_append]; exact hown6)
        clear hrun6 hown6 ho6 hfr6 hsz
        go_wp2_with ((with_reducible refine wpList_append_run u3 (.slice (some ⟨w2.heap.size, 0, none⟩) 1 1) v6 HRUN.out ?_ ?_ ?_); (· rfl); (· rfl))
        exact ⟨⟨k + 1, by omega, rfl, by rw [HUE.out]; exact HOW, HOO.out⟩, by simp [intOf]; omega⟩
    · obtain rfl : k = 12 := by omega
      have hI : ¬ ((12 : Nat) : Int) < 12 := by omega
      have hbx : wr.cell? ⟨w.heap.size, 0, none⟩ = some (.pointer (some ⟨cb, o, none⟩)) := cell_at (hor.keep hb0 id) 0
      have hul : usedTo c 12 = usedL c := by rw [usedL, hC.len]
      rw [hul] at hrow
      have hln := usedTo_le c 12
      rw [hul] at hln
      have HSF := Lib.hid (sortFunc_any wr (w.heap.size + 1) (usedL c).length u3 (usedL c) (w.heap.size) cb o c rfl (fun x hx => by
        unfold usedL usedTo at hx
        have := List.mem_range.1 (List.mem_filter.1 hx).1
        have := hC.len
        omega) hrow.out hbx ((hC.only ho0 id).only hor id) (by omega) (by omega) hln)
      have HOr := Lib.hid (ho0.trans hor)
      clear hbx hrow hul hln hor hC
      go_wp2_with fail
      refine HSF.out.mono ?_
      rintro ev w2 ⟨rfl, hr, ho⟩
      have HR := Lib.hid hr
      have HO := Lib.hid (HOr.out.trans' ho (fun y hy e => by omega))
      clear hr ho HSF
      go_wp2_with fail
      go_ret
      refine ⟨u3, rfl, ?_, HO.out⟩
      have e : orderL c = insAll c (usedL c) := rfl
      have hlen : (orderL c).length = (usedL c).length := (insAll_perm c _).length_eq
      rw [hlen, e]
      exact ownsRow_down HR.out (by omega)
end Go.Proofs.YtlgefjcfnnjkbaaDoor
/- Whether a chain holds an epoch already: the library's ContainsFunc with link's closure. No conditions. -/
namespace Go.Proofs.YtlgefjcfnnjkbaaDoor
set_option maxRecDepth 100000
open Go.RowKit

set_option maxHeartbeats 2000000 in
theorem sameEpoch_any (w : World) (u : Us) (tb : Nat) (e : Int) (hb : w.cell? ⟨tb, 0, none⟩ = some (.int .i64 e)) :
    Calls Tryd.prog 52 #[.agg #[.int .i64 u.e, .int .i64 u.c], .pointer (some ⟨tb, 0, none⟩)] w fun x w' => x = .returned (.bool (u.e == e)) ∧ Only (fun _ => False) w w' := by
  have hb0 := heap_alloc_any w (.cells #[.int .i64 u.e, .int .i64 u.c] 58)
  have ho0 := Only.alloc w (.cells #[.int .i64 u.e, .int .i64 u.c] 58) (fun _ => False)
  have htb : (w.alloc (.cells #[.int .i64 u.e, .int .i64 u.c] 58)).cell? ⟨tb, 0, none⟩ = some (.int .i64 e) := by rw [ho0.cell (World.block_lt_of_cell? _ _ hb) id]; exact hb
  have hc0 : (w.alloc (.cells #[.int .i64 u.e, .int .i64 u.c] 58)).cell? ⟨w.heap.size, 0, none⟩ = some (.int .i64 u.e) := cell_at hb0 0
  go_enter Tryd.func52, Tryd.ntmps52
  go_wp2_with fail
  go_ret
  refine ⟨?_, ho0⟩
  by_cases h : u.e = e <;> simp [h]

def findE (c : List Us) (e : Int) : Int := match c.findIdx? (fun o => o.e == e) with | some k => (k : Int) | none => -1
theorem findE_any (c : List Us) (e : Int) : (0 ≤ findE c e) = (c.any (fun o => o.e == e) = true) := by
  unfold findE
  cases h : c.findIdx? (fun o => o.e == e) with
  | none =>
    have := List.findIdx?_eq_none_iff.1 h
    simp only [Int.reduceNeg, Int.reduceLE, eq_iff_iff, false_iff, List.any_eq_true, not_exists, not_and]
    intro x hx hh
    rw [this x hx] at hh
    cases hh
  | some k =>
    have := List.findIdx?_eq_some_iff_getElem.1 h
    obtain ⟨hk, hp, _⟩ := this
    simp only [eq_iff_iff, List.any_eq_true]
    exact ⟨fun _ => ⟨_, List.getElem_mem hk, hp⟩, fun _ => by omega⟩
set_option maxHeartbeats 4000000 in
theorem index_any (w : World) (cb : Nat) (c : List Us) (tb : Nat) (e : Int) (hC : CAt w cb 0 c) (hb : w.cell? ⟨tb, 0, none⟩ = some (.int .i64 e)) :
    Calls Tryd.prog 65 #[.slice (some ⟨cb, 0, none⟩) 12 12, .func (.func 52) #[] #[.pointer (some ⟨tb, 0, none⟩)]] w fun x w' => x = .returned (.int .i64 (findE c e)) ∧ Only (fun _ => False) w w' := by
  go_enter Tryd.func65, Tryd.ntmps65
  go_wp2_with fail
  go_loopw [8] (fun i wr => ∃ k : Nat, k ≤ 12 ∧ i = .int .i64 (k : Int) ∧ (∀ x ∈ c.take k, (x.e == e) = false) ∧ Only (fun _ => False) w wr) (fun i _ => 12 - (intOf i).toNat)
  case atStart => exact ⟨0, by omega, rfl, by simp, Only.refl _ _⟩
  case round =>
    obtain ⟨k, hk, rfl, hno, hor⟩ := hrel
    by_cases hk12 : k < 12
    · have hI : (k : Int) < 12 := by omega
      have hI0 : (0 : Int) ≤ (k : Int) := by omega
      have hus := ((hC.only hor id)).us hk12
      rw [Nat.zero_add] at hus
      have hlk : k < c.length := by rw [hC.len]; exact hk12
      have hgd : c.getD k Us.no = c[k] := by simp [List.getD, List.getElem?_eq_getElem hlk]
      rw [hgd] at hus
      have htk : c.take (k + 1) = c.take k ++ [c[k]] := by rw [List.take_add_one, List.getElem?_eq_getElem hlk]; rfl
      have hfi : (c[k].e == e) = true → findE c e = (k : Int) := fun h => by
        have : c.findIdx? (fun o => o.e == e) = some k := by
          rw [List.findIdx?_eq_some_iff_getElem]
          refine ⟨hlk, h, fun j hj => ?_⟩
          have := hno (c[j]'(by omega)) (List.mem_take_iff_getElem.2 ⟨j, by omega, rfl⟩)
          rw [this]; decide
        unfold findE
        rw [this]
      generalize c[k] = u at hus htk hfi
      have htb : wr.cell? ⟨tb, 0, none⟩ = some (.int .i64 e) := by rw [hor.cell (World.block_lt_of_cell? _ _ hb) id]; exact hb
      have HSE := Lib.hid (sameEpoch_any wr u tb e htb)
      have HT := Lib.hid htk
      have HFI := Lib.hid hfi
      have HOr := Lib.hid hor
      clear htk hfi hor hgd hlk htb
      go_wp2_with ((with_reducible refine wpList_load_part cb (k * 2) [.int .i64 u.e, .int .i64 u.c] ?_ ?_ ?_ ?_ ?_); (· exact ⟨_, Tryd.underlying58, rfl⟩); (· exact Tryd.sizeUse); (· exact hus); (· rfl))
      refine HSE.out.mono ?_
      rintro ev w2 ⟨rfl, ho⟩
      have HO2 := Lib.hid (HOr.out.trans ho)
      clear ho HSE hus
      by_cases heq : (u.e == e) = true
      · rw [heq]
        have HR := Lib.hid (HFI.out heq)
        clear HFI heq
        go_wp2_with fail
        go_ret
        exact ⟨by rw [HR.out]; rfl, HO2.out⟩
      · have heq' : (u.e == e) = false := by simpa using heq
        rw [heq']
        have HN := Lib.hid (show ∀ x ∈ c.take (k + 1), (x.e == e) = false by
          intro x hx
          rw [HT.out, List.mem_append] at hx
          rcases hx with hx | hx
          · exact hno x hx
          · obtain rfl : x = u := by simpa using hx
            exact heq')
        clear HFI heq heq' hno HT
        go_wp2_with fail
        exact ⟨⟨k + 1, by omega, rfl, HN.out, HO2.out⟩, by simp [intOf]; omega⟩
    · obtain rfl : k = 12 := by omega
      have hI : ¬ ((12 : Nat) : Int) < 12 := by omega
      have HN := Lib.hid (show findE c e = -1 by
        have : c.findIdx? (fun o => o.e == e) = none := by
          rw [List.findIdx?_eq_none_iff]
          rwa [List.take_of_length_le (by rw [hC.len]; omega)] at hno
        unfold findE
        rw [this])
      clear hno hC hb
      go_wp2_with fail
      go_ret
      exact ⟨by rw [HN.out]; rfl, hor⟩
theorem contains_any (w : World) (cb : Nat) (c : List Us) (tb : Nat) (e : Int) (hC : CAt w cb 0 c) (hb : w.cell? ⟨tb, 0, none⟩ = some (.int .i64 e)) :
    Calls Tryd.prog 51 #[.slice (some ⟨cb, 0, none⟩) 12 12, .func (.func 52) #[] #[.pointer (some ⟨tb, 0, none⟩)]] w fun x w' => x = .returned (.bool (c.any fun o => o.e == e)) ∧ Only (fun _ => False) w w' := by
  have HI := Lib.hid (index_any w cb c tb e hC hb)
  have HF := Lib.hid (findE_any c e)
  generalize findE c e = z at HI HF
  clear hC hb
  go_enter Tryd.func51, Tryd.ntmps51
  go_wp2_with fail
  refine HI.out.mono ?_
  rintro ev w2 ⟨rfl, ho⟩
  have HO := Lib.hid ho
  clear ho HI
  go_wp2_with fail
  go_ret
  refine ⟨?_, HO.out⟩
  have := HF.out
  generalize (c.any fun o => o.e == e) = b at this ⊢
  show Ending.returned (.bool (decide (0 ≤ z))) = _
  cases b <;> simp_all
end Go.Proofs.YtlgefjcfnnjkbaaDoor
