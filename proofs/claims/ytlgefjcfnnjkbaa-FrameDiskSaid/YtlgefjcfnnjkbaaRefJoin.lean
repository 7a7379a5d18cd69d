/- The reference's Join. Conditions: as many frames as stand in the statements, at most. -/
import Derived.Test.YtlgefjcfnnjkbaaJoin
namespace Go.Proofs.Ytlgefjcfnnjkbaa
open Go.RowKit

set_option maxRecDepth 100000 in
set_option maxHeartbeats 4000000 in
theorem refJoin_any (w : World) (v : Value) (l : List Fr) (ao : Option Addr) (cap : Nat) (hv : SliceOf w v l.length (frs l) ao cap) (hwf : ∀ f ∈ l, f.s.length ≤ maxLen) (hlen : l.length ≤ 100000) :
    Calls Try.prog 30 #[v] w fun e w' => ∃ r, e = .returned (.tuple #[r, .int .i64 ((joinF l).2 : Nat)]) ∧ w'.ownsRow w.heap.size 9 1 r (joinF l).1.length (txts (joinF l).1) ∧ Only (fun _ => False) w w' := by
  have hvv := hv.val
  subst hvv
  go_enter Try.func30, Try.ntmps30
  go_wp2_with fail
  go_loopw [4, 5, 6, 7, 8] (fun b bg s en i wr => ∃ (k : Nat) (j : Js), k ≤ l.length ∧ i = .int .i64 k ∧ en = .int .i64 (j.whole : Nat) ∧ bg = .bool j.begun.isSome ∧ s = .string ⟨(j.begun.getD []).toArray⟩ ∧ Hid (j.i = k) ∧ j.Small ∧ Hid (j.run (l.drop k) = Js.new.run l) ∧
      wr.ownsRow w.heap.size 9 1 b j.out.length (txts j.out) ∧ Only (fun _ => False) w wr) (fun b bg s en i _ => l.length - (intOf i).toNat)
  case atStart => exact ⟨0, Js.new, by omega, rfl, rfl, rfl, rfl, rfl, ⟨by simp [Js.new], by simp [Js.new]⟩, rfl, World.ownsRow_nil _ _ _ _, Only.refl _ _⟩
  case round =>
    obtain ⟨k, j, hk, rfl, rfl, rfl, rfl, hji, hsm, hrun, hb, hor⟩ := hrel
    have HB := Lib.hid hb
    clear hb
    by_cases hlt : k < l.length
    · obtain ⟨gl, ol, rfl, hc⟩ := (hv.only hor).fr_at k hlt
      have HW := Lib.hid (hwf _ (List.getElem_mem hlt))
      have HD := Lib.hid (List.drop_eq_getElem_cons hlt)
      generalize l[k] = f at hc HW HD
      obtain ⟨fe, fa, fk, fs⟩ := f
      have HL := Lib.hid (heap_alloc_new wr (.cells #[.int .i64 fe, .int .i64 fa, .int .i64 fk, .string ⟨fs.toArray⟩] 23))
      have RA := Lib.hid (fun W => refRight_any W ⟨fe, fa, fk, fs⟩ HW.out)
      have HO1 := Lib.hid (hor.trans (Only.alloc wr (.cells #[.int .i64 fe, .int .i64 fa, .int .i64 fk, .string ⟨fs.toArray⟩] 23) _))
      have HB1 := Lib.hid (HB.out.alloc (.cells #[.int .i64 fe, .int .i64 fa, .int .i64 fk, .string ⟨fs.toArray⟩] 23))
      by_cases hr : (⟨fe, fa, fk, fs⟩ : Fr).right = true
      · rw [hr] at RA
        have HR := Lib.hid hr
        obtain ⟨_, _, _, _, hk1, hk4, hfs⟩ := (Fr.right_iff _).1 hr
        simp only at hk1 hk4 hfs
        clear hr
        by_cases e1 : fk = 1
        · subst e1
          have HST : Hid (j.step ⟨fe, fa, 1, fs⟩ = none) := Lib.hid (by unfold Js.step; rw [if_neg (by rw [HR.out]; decide), if_neg (by simp), if_neg (by simp), if_pos (.inl rfl)])
          have hj : j = Js.new.run l := by rw [← hrun.out, HD.out, Js.run_none HST.out]
          have HJ := Lib.hid (joinF_of hj)
          clear hj
          go_wp2_with (first
            | ((with_reducible refine wpList_load_part gl (ol + k * 4) [.int .i64 fe, .int .i64 fa, .int .i64 1, .string ⟨fs.toArray⟩] ?_ ?_ ?_ ?_ ?_); (· exact ⟨_, Try.underlying23, rfl⟩); (· exact Try.size23); (· exact hc); (· rfl))
            | (go_at_call 51; refine (RA.out _).mono ?_; rintro e w1 ⟨rfl, ho1⟩; have hbl := ho1.keep HL.out id; have c2 := cell_at hbl 2; have c3 := cell_at hbl 3; have HB2 := Lib.hid (ownsRow_only HB1.out ho1 (fun _ _ => id)); have HO2 := Lib.hid (HO1.out.trans ho1); clear ho1 hbl))
          go_ret2
          exact ⟨u4, by rw [HJ.out.2]; rfl, by rw [HJ.out.1]; exact HB2.out, HO2.out⟩
        · have e1' : (fk == 1) = false := by simpa using e1
          by_cases e4 : fk = 4
          · subst e4
            rcases hbeg : j.begun with _ | bg
            · have HST := Lib.hid (Js.step_seal (j := j) HR.out rfl hbeg)
              have HBG := Lib.hid hbeg
              clear hbeg e1 e1'
              simp only [Option.isSome_none]
              go_wp2_with (first
                | ((with_reducible refine wpList_load_part gl (ol + k * 4) [.int .i64 fe, .int .i64 fa, .int .i64 4, .string ⟨fs.toArray⟩] ?_ ?_ ?_ ?_ ?_); (· exact ⟨_, Try.underlying23, rfl⟩); (· exact Try.size23); (· exact hc); (· rfl))
                | (go_at_call 51; refine (RA.out _).mono ?_; rintro e w1 ⟨rfl, ho1⟩; have hbl := ho1.keep HL.out id; have c2 := cell_at hbl 2; have c3 := cell_at hbl 3; have HB2 := Lib.hid (ownsRow_only HB1.out ho1 (fun _ _ => id)); have HO2 := Lib.hid (HO1.out.trans ho1); clear ho1 hbl))
              go_roundw
              case rel =>
                have hss := hsm.step HST.out
                exact ⟨k + 1, { j with whole := j.i + 1, i := j.i + 1 }, by omega, by go_num, by simp only [hji.out]; go_num, by simp only [HBG.out] <;> rfl, by simp only [HBG.out] <;> rfl, Lib.hid (by simp only [hji.out]), hss.1, Lib.hid (by rw [← hrun.out, HD.out, Js.run_some HST.out]), HB2.out, HO2.out⟩
              case measure => simp [intOf] <;> omega
            · have HST : Hid (j.step ⟨fe, fa, 4, fs⟩ = none) := Lib.hid (by unfold Js.step; rw [if_neg (by rw [HR.out]; decide), if_neg (by simp), if_neg (by simp), if_pos (.inr (by simp [hbeg]))])
              have hj : j = Js.new.run l := by rw [← hrun.out, HD.out, Js.run_none HST.out]
              have HJ := Lib.hid (joinF_of hj)
              clear hj hbeg e1 e1'
              simp only [Option.isSome_some]
              go_wp2_with (first
                | ((with_reducible refine wpList_load_part gl (ol + k * 4) [.int .i64 fe, .int .i64 fa, .int .i64 4, .string ⟨fs.toArray⟩] ?_ ?_ ?_ ?_ ?_); (· exact ⟨_, Try.underlying23, rfl⟩); (· exact Try.size23); (· exact hc); (· rfl))
                | (go_at_call 51; refine (RA.out _).mono ?_; rintro e w1 ⟨rfl, ho1⟩; have hbl := ho1.keep HL.out id; have c2 := cell_at hbl 2; have c3 := cell_at hbl 3; have HB2 := Lib.hid (ownsRow_only HB1.out ho1 (fun _ _ => id)); have HO2 := Lib.hid (HO1.out.trans ho1); clear ho1 hbl))
              go_ret2
              exact ⟨u4, by rw [HJ.out.2]; rfl, by rw [HJ.out.1]; exact HB2.out, HO2.out⟩
          · have e4' : (fk == 4) = false := by simpa using e4
            have happ := append_list (j.begun.getD []) fs
            have hcat : (j.begun.getD []).length + fs.length ≤ 9223372036854775807 := by have := hsm.begun; have := hji.out; omega
            by_cases e2 : fk = 2
            · subst e2
              have HST := Lib.hid (Js.step_part (j := j) HR.out rfl)
              generalize hbf : j.begun.getD [] ++ fs = bf at happ HST
              have HBF := Lib.hid hbf
              clear hbf e1 e1' e4 e4'
              generalize j.begun.getD [] = bg at happ hcat
              go_wp2_with (first
                | ((with_reducible refine wpList_load_part gl (ol + k * 4) [.int .i64 fe, .int .i64 fa, .int .i64 2, .string ⟨fs.toArray⟩] ?_ ?_ ?_ ?_ ?_); (· exact ⟨_, Try.underlying23, rfl⟩); (· exact Try.size23); (· exact hc); (· rfl))
                | (go_at_call 51; refine (RA.out _).mono ?_; rintro e w1 ⟨rfl, ho1⟩; have hbl := ho1.keep HL.out id; have c2 := cell_at hbl 2; have c3 := cell_at hbl 3; have HB2 := Lib.hid (ownsRow_only HB1.out ho1 (fun _ _ => id)); have HO2 := Lib.hid (HO1.out.trans ho1); clear ho1 hbl))
              go_roundw
              case rel =>
                have hss := hsm.step HST.out
                exact ⟨k + 1, { j with begun := some bf, i := j.i + 1 }, by omega, by go_num, rfl, rfl, rfl, Lib.hid (by simp only [hji.out]), hss.1, Lib.hid (by rw [← hrun.out, HD.out, Js.run_some HST.out]), HB2.out, HO2.out⟩
              case measure => simp [intOf] <;> omega
            · obtain rfl : fk = 3 := by omega
              have HST := Lib.hid (Js.step_end (j := j) HR.out rfl)
              simp only at HST
              generalize hbf : j.begun.getD [] ++ fs = bf at happ HST
              clear hbf e1 e1' e4 e4' e2
              generalize j.begun.getD [] = bg at happ hcat
              go_upto_region 15 with (first
                | ((with_reducible refine wpList_load_part gl (ol + k * 4) [.int .i64 fe, .int .i64 fa, .int .i64 3, .string ⟨fs.toArray⟩] ?_ ?_ ?_ ?_ ?_); (· exact ⟨_, Try.underlying23, rfl⟩); (· exact Try.size23); (· exact hc); (· rfl))
                | (go_at_call 51; refine (RA.out _).mono ?_; rintro e w1 ⟨rfl, ho1⟩; have hbl := ho1.keep HL.out id; have c2 := cell_at hbl 2; have c3 := cell_at hbl 3; have HB2 := Lib.hid (ownsRow_only HB1.out ho1 (fun _ _ => id)); have HO2 := Lib.hid (HO1.out.trans ho1); clear ho1 hbl))
              obtain ⟨v', w5, hrun5, hown5, ho5⟩ := append_one_row (P := Try.prog) w1 w.heap.size 38 38 9 _ 1 16 Try.underlying38 Try.info9 rfl (by decide) _ _ _ HB2.out (txts [bf]) rfl (txts_one _) (by have := hsm.out; have := hji.out; omega) (by decide) HO2.out.size
              rw [← txts_append] at hown5
              have hl5 : (j.out ++ [bf]).length = j.out.length + 1 := by simp
              rw [← hl5] at hown5
              have HOWN := Lib.hid hown5
              have HRUN := Lib.hid hrun5
              have HO5 := Lib.hid (HO2.out.trans' ho5 (fun y hy e => row_own_new HB2.out hy e))
              clear hown5 hrun5 ho5 hl5
              rw [txts_cells] at HRUN
              go_wp2_with ((with_reducible refine wpList_append_run u4 (.slice (some ⟨w1.heap.size, 0, none⟩) 1 1) v' HRUN.out ?_ ?_ ?_); (· rfl); (· rfl))
              go_roundw
              case rel =>
                have hss := hsm.step HST.out
                exact ⟨k + 1, { out := j.out ++ [bf], begun := none, whole := j.i + 1, i := j.i + 1 }, by omega, by go_num, by simp only [hji.out]; go_num, rfl, rfl, Lib.hid (by simp only [hji.out]), hss.1, Lib.hid (by rw [← hrun.out, HD.out, Js.run_some HST.out]), HOWN.out, HO5.out⟩
              case measure => simp [intOf] <;> omega
      · have hr' : (⟨fe, fa, fk, fs⟩ : Fr).right = false := by simpa using hr
        rw [hr'] at RA
        have HST : Hid (j.step ⟨fe, fa, fk, fs⟩ = none) := Lib.hid (by unfold Js.step; rw [if_pos hr'])
        have hj : j = Js.new.run l := by rw [← hrun.out, HD.out, Js.run_none HST.out]
        have HJ := Lib.hid (joinF_of hj)
        clear hj hr hr'
        go_wp2_with (first
          | ((with_reducible refine wpList_load_part gl (ol + k * 4) [.int .i64 fe, .int .i64 fa, .int .i64 fk, .string ⟨fs.toArray⟩] ?_ ?_ ?_ ?_ ?_); (· exact ⟨_, Try.underlying23, rfl⟩); (· exact Try.size23); (· exact hc); (· rfl))
          | (go_at_call 51; refine (RA.out _).mono ?_; rintro e w1 ⟨rfl, ho1⟩; have hbl := ho1.keep HL.out id; have c2 := cell_at hbl 2; have c3 := cell_at hbl 3; have HB2 := Lib.hid (ownsRow_only HB1.out ho1 (fun _ _ => id)); have HO2 := Lib.hid (HO1.out.trans ho1); clear ho1 hbl))
        go_ret2
        exact ⟨u4, by rw [HJ.out.2]; rfl, by rw [HJ.out.1]; exact HB2.out, HO2.out⟩
    · obtain rfl : k = l.length := by omega
      go_wp2_with fail
      have hj : j = Js.new.run l := by rw [← hrun.out, List.drop_of_length_le (Nat.le_refl _)]; rfl
      have HJ := Lib.hid (joinF_of hj)
      go_ret2
      exact ⟨u4, by rw [HJ.out.2]; rfl, by rw [HJ.out.1]; exact HB.out, hor⟩
end Go.Proofs.Ytlgefjcfnnjkbaa
