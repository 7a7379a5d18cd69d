/- frame.Join. Conditions: as many frames as stand in the statements, at most. -/
import Derived.Test.YtlgefjcfnnjkbaaSl
import Derived.Test.YtlgefjcfnnjkbaaFrameP
import Derived.Outline
namespace Go.Proofs.Ytlgefjcfnnjkbaa
open Go.RowKit

theorem Try.info9 : (Try.prog.info? 9).map (fun i => (i.zero, i.size, i.bytes)) = some (some (.string ⟨#[]⟩), 1, 16) := by kernel_rfl

theorem txts_append (a b : List (List UInt8)) : txts (a ++ b) = txts a ++ txts b := by simp [txts]
theorem txts_one (l : List (List UInt8)) : ∀ v ∈ txts l, v.oneCell' = true := by
  intro v hv; obtain ⟨_, _, rfl⟩ := List.mem_map.1 hv; rfl
theorem txts_cells (l : List UInt8) : txts [l] = [.string ⟨l.toArray⟩] := rfl

/-- how long what is begun is, and how many are out -/
structure Js.Small (j : Js) : Prop where
  begun : (j.begun.getD []).length ≤ 53 * j.i
  out : j.out.length ≤ j.i
theorem Js.Small.step {j j' : Js} {f : Fr} (h : j.Small) (hs : j.step f = some j') : j'.Small ∧ j'.i = j.i + 1 := by
  obtain ⟨h1, h2⟩ := h
  unfold Js.step at hs
  split at hs
  · cases hs
  · rename_i hr
    have hr' : f.right = true := by simpa using hr
    have hl := (f.right_iff.1 hr').2.2.2.2.2.2
    split at hs
    · cases hs
      refine ⟨⟨?_, ?_⟩, rfl⟩
      · simp only [Option.getD_some, List.length_append]; omega
      · simp only; omega
    · split at hs
      · cases hs
        refine ⟨⟨?_, ?_⟩, rfl⟩
        · simp
        · simp only [List.length_append, List.length_singleton]; omega
      · split at hs
        · cases hs
        · cases hs
          refine ⟨⟨?_, ?_⟩, rfl⟩
          · simp only; omega
          · simp only; omega

theorem joinF_of {l : List Fr} {j : Js} (h : j = Js.new.run l) : (joinF l).1 = j.out ∧ (joinF l).2 = j.whole := by subst h; exact ⟨rfl, rfl⟩

theorem bvs_byteCells (l : List UInt8) : byteCells ⟨l.toArray⟩ = bvs l := by simp [byteCells, bvs, bv]

set_option maxRecDepth 100000 in
set_option maxHeartbeats 4000000 in
theorem join_any (w : World) (v : Value) (l : List Fr) (ao : Option Addr) (cap : Nat) (hv : SliceOf w v l.length (frs l) ao cap) (hwf : ∀ f ∈ l, f.s.length ≤ maxLen) (hlen : l.length ≤ 100000) :
    Calls Try.prog 29 #[v] w fun e w' => ∃ r, e = .returned (.tuple #[r, .int .i64 ((joinF l).2 : Nat)]) ∧ w'.ownsRow w.heap.size 9 1 r (joinF l).1.length (txts (joinF l).1) ∧ Only (fun _ => False) w w' := by
  have hvv := hv.val
  subst hvv
  go_enter Try.func29, Try.ntmps29
  go_wp2_with fail
  go_step3
  go_wp2_with fail
  go_step3
  go_wp2_with fail
  go_loopw [4, 5, 6, 7, 12] (fun b g wh op i wr => ∃ (k : Nat) (j : Js), k ≤ l.length ∧ i = .int .i64 k ∧ wh = .int .i64 (j.whole : Nat) ∧ op = .bool j.begun.isSome ∧ Hid (j.i = k) ∧ j.Small ∧ Hid (j.run (l.drop k) = Js.new.run l) ∧
      wr.ownsRow w.heap.size 9 1 b j.out.length (txts j.out) ∧ wr.ownsRow w.heap.size 5 1 g (j.begun.getD []).length (bvs (j.begun.getD [])) ∧ Only (fun _ => False) w wr) (fun b g wh op i _ => l.length - (intOf i).toNat)
  case atStart => exact ⟨0, Js.new, by omega, rfl, rfl, rfl, rfl, ⟨by simp [Js.new], by simp [Js.new]⟩, rfl, World.ownsRow_nil _ _ _ _, World.ownsRow_nil _ _ _ _, Only.refl _ _⟩
  case round =>
    obtain ⟨k, j, hk, rfl, rfl, rfl, hji, hsm, hrun, hb, hg, hor⟩ := hrel
    have HB := Lib.hid hb
    have HG := Lib.hid hg
    clear hb hg
    by_cases hlt : k < l.length
    · obtain ⟨gl, ol, rfl, hc⟩ := (hv.only hor).fr_at k hlt
      have HW := Lib.hid (hwf _ (List.getElem_mem hlt))
      have HD := Lib.hid (List.drop_eq_getElem_cons hlt)
      generalize l[k] = f at hc HW HD
      obtain ⟨fe, fa, fk, fs⟩ := f
      have HL := Lib.hid (heap_alloc_new wr (.cells #[.int .i64 fe, .int .i64 fa, .int .i64 fk, .string ⟨fs.toArray⟩] 23))
      have RA := Lib.hid (fun W => right_any W ⟨fe, fa, fk, fs⟩ HW.out)
      have hor1 := hor.trans (Only.alloc wr (.cells #[.int .i64 fe, .int .i64 fa, .int .i64 fk, .string ⟨fs.toArray⟩] 23) _)
      have HB1 := Lib.hid (HB.out.alloc (.cells #[.int .i64 fe, .int .i64 fa, .int .i64 fk, .string ⟨fs.toArray⟩] 23))
      have HG1 := Lib.hid (HG.out.alloc (.cells #[.int .i64 fe, .int .i64 fa, .int .i64 fk, .string ⟨fs.toArray⟩] 23))
      have HO1 := Lib.hid hor1
      clear hor1
      by_cases hr : (⟨fe, fa, fk, fs⟩ : Fr).right = true
      · rw [hr] at RA
        have HR := Lib.hid hr
        obtain ⟨_, _, _, _, hk1, hk4, hfs⟩ := (Fr.right_iff _).1 hr
        simp only at hk1 hk4 hfs
        clear hr
        go_upto_region 8 with (first
          | ((with_reducible refine wpList_load_part gl (ol + k * 4) [.int .i64 fe, .int .i64 fa, .int .i64 fk, .string ⟨fs.toArray⟩] ?_ ?_ ?_ ?_ ?_); (· exact ⟨_, Try.underlying23, rfl⟩); (· exact Try.size23); (· exact hc); (· rfl))
          | (go_at_call 55; refine (RA.out _).mono ?_; rintro e w1 ⟨rfl, ho1⟩))
        have hbl := ho1.keep HL.out id
        have c2 := cell_at hbl 2
        have c3 := cell_at hbl 3
        have HB2 := Lib.hid (ownsRow_only HB1.out ho1 (fun _ _ => id))
        have HG2 := Lib.hid (ownsRow_only HG1.out ho1 (fun _ _ => id))
        have HO2 := Lib.hid (HO1.out.trans ho1)
        clear HL HB HG HB1 HG1 HO1 hbl ho1 hc
        by_cases e2 : fk = 2
        · subst e2
          have HST := Lib.hid (Js.step_part (j := j) HR.out rfl)
          have hbg := rows_apart HB2.out HG2.out (by decide)
          obtain ⟨v', w5, hrun5, hown5, ho5⟩ := append_src_row (P := Try.prog) w1 w.heap.size 30 9 30 5 _ 1 1 Try.underlying30 Try.info5 rfl (by decide) _ _ _ HG2.out _ _ _ (Src.ofString w1 Try.underlying9 ⟨fs.toArray⟩) (by rw [size_toArray]; have := hsm.begun; have := hji.out; omega) (by decide) HO2.out.size
          rw [size_toArray, bvs_byteCells, ← bvs_append, ← List.length_append] at hown5
          have HOWN := Lib.hid hown5
          have HRUN := Lib.hid hrun5
          have HB5 := Lib.hid (ownsRow_only HB2.out ho5 hbg)
          have HO5 := Lib.hid (HO2.out.trans' ho5 (fun y hy e => row_own_new HG2.out hy e))
          clear hown5 hrun5 hbg ho5
          go_wp2_with ((with_reducible refine wpList_append_run u5 (.string ⟨fs.toArray⟩) v' HRUN.out ?_ ?_ ?_); (· rfl); (· rfl))
          go_roundw
          case rel =>
            have hss := hsm.step HST.out
            exact ⟨k + 1, { j with begun := some (j.begun.getD [] ++ fs), i := j.i + 1 }, by omega, by go_num, rfl, rfl, Lib.hid (by simp only [hji.out]), hss.1, Lib.hid (by rw [← hrun.out, HD.out, Js.run_some HST.out]), HB5.out, HOWN.out, HO5.out⟩
          case measure => simp [intOf] <;> omega
        · have e2' : (fk == 2) = false := by simpa using e2
          by_cases e3 : fk = 3
          · subst e3
            have HST := Lib.hid (Js.step_end (j := j) HR.out rfl)
            have hbg := rows_apart HB2.out HG2.out (by decide)
            have HCV := Lib.hid (run_bytes_string_own (P := Try.prog) w1 30 9 5 w.heap.size _ u5 (j.begun.getD []) Try.underlying30 Try.underlying5 Try.underlying9 HG2.out)
            have happ := append_list (j.begun.getD []) fs
            obtain ⟨v', w5, hrun5, hown5, ho5⟩ := append_one_row (P := Try.prog) w1 w.heap.size 38 38 9 _ 1 16 Try.underlying38 Try.info9 rfl (by decide) _ _ _ HB2.out (txts [j.begun.getD [] ++ fs]) rfl (txts_one _) (by have := hsm.out; have := hji.out; omega) (by decide) HO2.out.size
            rw [← txts_append] at hown5
            have hl5 : (j.out ++ [j.begun.getD [] ++ fs]).length = j.out.length + 1 := by simp
            rw [← hl5] at hown5
            have HOWN := Lib.hid hown5
            have HRUN := Lib.hid hrun5
            have HO5 := Lib.hid (HO2.out.trans' ho5 (fun y hy e => row_own_new HB2.out hy e))
            clear hown5 hrun5 hbg ho5 hl5
            rw [txts_cells] at HRUN
            have hcat : (j.begun.getD []).length + fs.length ≤ 9223372036854775807 := by have := hsm.begun; have := hji.out; omega
            generalize j.begun.getD [] ++ fs = bf at happ HRUN HOWN HST
            generalize j.begun.getD [] = bg at happ HCV HG2 hcat
            go_wp2_with (first
              | ((with_reducible refine wpList_convert_run u5 (.string ⟨bg.toArray⟩) HCV.out ?_ ?_); (· rfl))
              | ((with_reducible refine wpList_append_run u4 (.slice (some ⟨w1.heap.size, 0, none⟩) 1 1) v' HRUN.out ?_ ?_ ?_); (· rfl); (· rfl)))
            go_roundw
            case rel =>
              have hss := hsm.step HST.out
              exact ⟨k + 1, { out := j.out ++ [bf], begun := none, whole := j.i + 1, i := j.i + 1 }, by omega, by go_num, by simp only [hji.out]; go_num, rfl, Lib.hid (by simp only [hji.out]), hss.1, Lib.hid (by rw [← hrun.out, HD.out, Js.run_some HST.out]), HOWN.out, World.ownsRow_nil _ _ _ _, HO5.out⟩
            case measure => simp [intOf] <;> omega
          · have e3' : (fk == 3) = false := by simpa using e3
            by_cases e1 : fk = 1
            · subst e1
              have HST : Hid (j.step ⟨fe, fa, 1, fs⟩ = none) := Lib.hid (by unfold Js.step; rw [if_neg (by rw [HR.out]; decide), if_neg (by simp), if_neg (by simp), if_pos (.inl rfl)])
              have hj : j = Js.new.run l := by rw [← hrun.out, HD.out, Js.run_none HST.out]
              have HJ := Lib.hid (joinF_of hj)
              clear hj
              go_wp2_with fail
              rw [Exit.noGoto_ret]
              go_ret2
              exact ⟨u4, by rw [HJ.out.2]; rfl, by rw [HJ.out.1]; exact HB2.out, HO2.out⟩
            · have e1' : (fk == 1) = false := by simpa using e1
              rcases hbeg : j.begun with _ | bg
              · have HST : Hid (j.step ⟨fe, fa, fk, fs⟩ = some { j with whole := j.i + 1, i := j.i + 1 }) := Lib.hid (by unfold Js.step; rw [if_neg (by rw [HR.out]; decide), if_neg e2, if_neg e3, if_neg (by simp [e1, hbeg])])
                rw [hbeg] at HG2
                have HBG := Lib.hid hbeg
                clear hbeg e1 e2 e3
                simp only [Option.isSome_none]
                go_wp2_with fail
                go_roundw
                case rel =>
                  have hss := hsm.step HST.out
                  exact ⟨k + 1, { j with whole := j.i + 1, i := j.i + 1 }, by omega, by go_num, by simp only [hji.out]; go_num, by simp only [HBG.out]; rfl, Lib.hid (by simp only [hji.out]), hss.1, Lib.hid (by rw [← hrun.out, HD.out, Js.run_some HST.out]), HB2.out, by simp only [HBG.out]; exact HG2.out, HO2.out⟩
                case measure => simp [intOf] <;> omega
              · have HST : Hid (j.step ⟨fe, fa, fk, fs⟩ = none) := Lib.hid (by unfold Js.step; rw [if_neg (by rw [HR.out]; decide), if_neg e2, if_neg e3, if_pos (.inr (by simp [hbeg]))])
                have hj : j = Js.new.run l := by rw [← hrun.out, HD.out, Js.run_none HST.out]
                have HJ := Lib.hid (joinF_of hj)
                clear hj hbeg e1 e2 e3
                simp only [Option.isSome_some]
                go_wp2_with fail
                rw [Exit.noGoto_ret]
                go_ret2
                exact ⟨u4, by rw [HJ.out.2]; rfl, by rw [HJ.out.1]; exact HB2.out, HO2.out⟩
      · have hr' : (⟨fe, fa, fk, fs⟩ : Fr).right = false := by simpa using hr
        rw [hr'] at RA
        have HST : Hid (j.step ⟨fe, fa, fk, fs⟩ = none) := Lib.hid (by unfold Js.step; rw [if_pos hr'])
        have hj : j = Js.new.run l := by rw [← hrun.out, HD.out, Js.run_none HST.out]
        have HJ := Lib.hid (joinF_of hj)
        clear hj hr hr'
        go_wp2_with (first
          | ((with_reducible refine wpList_load_part gl (ol + k * 4) [.int .i64 fe, .int .i64 fa, .int .i64 fk, .string ⟨fs.toArray⟩] ?_ ?_ ?_ ?_ ?_); (· exact ⟨_, Try.underlying23, rfl⟩); (· exact Try.size23); (· exact hc); (· rfl))
          | (go_at_call 55; refine (RA.out _).mono ?_; rintro e w1 ⟨rfl, ho1⟩; have HB2 := Lib.hid (ownsRow_only HB1.out ho1 (fun _ _ => id)); have HO2 := Lib.hid (HO1.out.trans ho1); clear ho1))
        rw [Exit.noGoto_ret]
        go_ret2
        exact ⟨u4, by rw [HJ.out.2]; rfl, by rw [HJ.out.1]; exact HB2.out, HO2.out⟩
    · obtain rfl : k = l.length := by omega
      go_wp2_with fail
      have hj : j = Js.new.run l := by rw [← hrun.out, List.drop_of_length_le (Nat.le_refl _)]; rfl
      have HJ := Lib.hid (joinF_of hj)
      rw [Exit.noGoto_ret]
      go_ret2
      exact ⟨u4, by rw [HJ.out.2]; rfl, by rw [HJ.out.1]; exact HB.out, hor⟩
end Go.Proofs.Ytlgefjcfnnjkbaa
