/- FrameCuts: batches as frames, and the batches of frames, are as the document says. No conditions. -/
import Derived.Test.YtlgefjcfnnjkbaaApp2
import Derived.Test.YtlgefjcfnnjkbaaOpen
import Derived.Test.YtlgefjcfnnjkbaaRows
namespace Go.Proofs.Ytlgefjcfnnjkbaa
open Go.RowKit Go.ChangeShapes Go.WideShapes

/-- a frame whose text is cut off -/
def Fr.cut70 (f : Fr) : Fr := { f with s := f.s.take 70 }
theorem Fr.Wf.cut70 {f : Fr} (h : f.Wf) : f.cut70.Wf := ⟨h.e, h.a, h.k, by have := h.s; simp only [Fr.cut70, List.length_take]; omega⟩
/-- the frames behind k rounds -/
def mix70 (l : List Fr) (k : Nat) : List Fr := (l.take k).map Fr.cut70 ++ l.drop k
theorem mix70_length (l : List Fr) (k : Nat) : (mix70 l k).length = l.length := by simp [mix70]; omega
theorem mix70_get (l : List Fr) (k : Nat) (h : k < l.length) : ∀ h', (mix70 l k)[k]'h' = l[k] := by
  intro h'
  simp only [mix70]
  rw [List.getElem_append_right (by simp; omega)]
  simp only [List.length_map, List.length_take, List.getElem_drop]
  congr 1
  omega
theorem mix70_succ (l : List Fr) (k : Nat) (h : k < l.length) : (mix70 l k).set k l[k].cut70 = mix70 l (k + 1) := by
  simp only [mix70]
  rw [List.set_append_right _ _ (by simp; omega), List.take_succ_eq_append_getElem h, List.map_append, List.append_assoc]
  congr 1
  simp only [List.length_map, List.length_take]
  rw [show k - min k l.length = 0 by omega, List.drop_eq_getElem_cons h]
  rfl
theorem mix70_zero (l : List Fr) : mix70 l 0 = l := by simp [mix70]
theorem mix70_all (l : List Fr) : mix70 l l.length = l.map Fr.cut70 := by simp [mix70]
def right70 (l : List Fr) (k : Nat) : List Fr := (l.take k).map fun f => f.cut70.made
theorem right70_succ (l : List Fr) (k : Nat) (h : k < l.length) : right70 l (k + 1) = right70 l k ++ [l[k].cut70.made] := by
  simp only [right70]
  rw [List.take_succ_eq_append_getElem h, List.map_append]
  rfl

set_option maxRecDepth 100000 in
set_option maxHeartbeats 8000000 in
theorem frameCuts_walk (w : World) (ep at_ : Int) (s : List UInt8) (v : Value) (l : List Fr) (ao : Option Addr) (cap : Nat) (we : I64 ep) (wa : I64 at_) (hs : s.length ≤ maxLen) (hv : SliceOf w v l.length (frs l) ao cap) (hwf : ∀ f ∈ l, f.Wf) (hcap : l.length ≤ cap) :
    Calls Try.prog 4 #[.int .i64 ep, .int .i64 at_, .string ⟨s.toArray⟩, v] w fun e w' => e = .returned (.bool true) ∧ Only (fun _ => False) w w' := by
  have hvv := hv.val
  subst hvv
  have hz := size_toArray s
  have hll := hv.len
  unfold maxLen at hs
  go_enter Try.func4, Try.ntmps4
  go_upto_region 5 with (go_at_call 19; refine (examples_any _).mono ?_; rintro e w1 ⟨rfl, ho1⟩)
  rw [front_extract s 4000 4000 rfl]
  obtain ⟨B, hB⟩ : ∃ B, B = s.take 4000 := ⟨_, rfl⟩
  have hBl : B.length ≤ 4000 := by rw [hB]; simp; omega
  rw [← hB]
  have hzB := size_toArray B
  clear hB
  generalize (if (4000 : Int) < (s.length : Int) then (4000 : Int) else (s.length : Int)) = mm
  have hv1 := hv.only ho1
  have HO1 := Lib.hid ho1
  clear ho1
  have hlf : (l.take 80).length ≤ 80 := by simp; omega
  obtain ⟨lf, hlfe⟩ : ∃ lf, lf = l.take 80 := ⟨_, rfl⟩
  have hfw : ∀ f ∈ lf, f.Wf := fun f hf => hwf f (List.mem_of_mem_take (hlfe ▸ hf))
  rw [← hlfe] at hlf
  go_cut [11] from 38 to 43 (fun s11 wx => wx.ownsRow w.heap.size 23 4 s11 lf.length (frs lf) ∧ Only (fun _ => False) w wx)
  case first =>
    have hone : ∀ (q : List Fr), ∀ u ∈ frs q, u.oneCell' = true := by
      intro q u hu
      simp only [frs, List.mem_flatten, List.mem_map] at hu
      obtain ⟨_, ⟨f, _, rfl⟩, hu⟩ := hu
      exact cells_one f u hu
    by_cases h80 : (80 : Int) < (l.length : Int)
    · have hm : lf.length = 80 := by rw [hlfe]; simp; omega
      have hsf := hv1.front (m := 80) (size := 4) (by omega) cap
      have hft : (frs l).take (80 * 4) = frs lf := by
        have e := (frs_split l 80 (by omega))
        rw [e.1, hlfe]
        exact List.take_left' e.2
      rw [hft] at hsf
      obtain ⟨v', w5, hrun, hown, ho, _⟩ := append_src_row2 (P := Try.prog) w1 w.heap.size 35 35 35 23 _ 4 40 Try.underlying35 Try.info23 rfl (by decide) (.slice none 0 0) 0 [] (World.ownsRow_nil _ _ _ _) _ 80 (frs lf) (src_slice Try.underlying35 hsf (by rw [frs_length, hm]) (by decide) (hone lf)) (by omega) (by decide) HO1.out.size
      rw [Nat.zero_add, List.nil_append, ← hm] at hown
      have HRUN := Lib.hid hrun
      have HOWN := Lib.hid hown
      have HO := Lib.hid (HO1.out.trans (ho.mono (fun k _ hk => by cases hk)))
      have hc80 : (80 : Int) ≤ (cap : Int) := by omega
      clear hrun hown ho hft hsf hm hlfe
      go_wp2_with ((with_reducible refine wpList_append_run (.slice none 0 0) (.slice ao 80 cap) v' HRUN.out ?_ ?_ ?_); (· rfl); (· rfl))
      go_meet
      exact ⟨HOWN.out, HO.out⟩
    · have h80' : (l.length : Int) ≤ 80 := by omega
      have hlf' : lf = l := by rw [hlfe]; exact List.take_of_length_le (by omega)
      obtain ⟨v', w5, hrun, hown, ho, _⟩ := append_src_row2 (P := Try.prog) w1 w.heap.size 35 35 35 23 _ 4 40 Try.underlying35 Try.info23 rfl (by decide) (.slice none 0 0) 0 [] (World.ownsRow_nil _ _ _ _) _ l.length (frs l) (src_slice Try.underlying35 hv1 (by rw [frs_length]) (by decide) (hone l)) (by omega) (by decide) HO1.out.size
      rw [Nat.zero_add, List.nil_append, ← hlf'] at hown
      have HRUN := Lib.hid hrun
      have HOWN := Lib.hid hown
      have HO := Lib.hid (HO1.out.trans (ho.mono (fun k _ hk => by cases hk)))
      have hc80 : (l.length : Int) ≤ (cap : Int) := by omega
      clear hrun hown ho hlfe hlf'
      go_wp2_with ((with_reducible refine wpList_append_run (.slice none 0 0) (.slice ao l.length cap) v' HRUN.out ?_ ?_ ?_); (· rfl); (· rfl))
      go_meet
      exact ⟨HOWN.out, HO.out⟩
  case rest =>
    obtain ⟨hrow0, ho0⟩ := hcut
    have HROW := Lib.hid hrow0
    have HO := Lib.hid ho0
    clear hrow0 ho0 hv1 hlfe hwf
    obtain ⟨aof, fcap, hsl⟩ := sliceOf_own HROW.out
    have hslv := hsl.val
    subst hslv
    clear hsl
    go_wp2_with fail
    go_loopw [12, 13] (fun r i wr => ∃ k : Nat, k ≤ lf.length ∧ i = .int .i64 k ∧ wr.ownsRow w.heap.size 23 4 (.slice aof lf.length fcap) lf.length (frs (mix70 lf k)) ∧ wr.ownsRow w.heap.size 23 4 r k (frs (right70 lf k)) ∧
        Hid (∀ g, (Value.slice aof lf.length fcap).ownBlock = some g → ¬ r.ownBlock = some g) ∧ Only (fun _ => False) w wr) (fun r i _ => lf.length - (intOf i).toNat)
    case atStart => exact ⟨0, by omega, rfl, by rw [mix70_zero]; exact HROW.out, World.ownsRow_nil _ _ _ _, Lib.hid (fun g _ h => by cases h), HO.out⟩
    case round =>
      obtain ⟨k, hk, rfl, hf, hr, hap, hor⟩ := hrel
      by_cases hlt : k < lf.length
      · obtain ⟨g, cp, hfe, hgb, hgl⟩ := hf.form (by omega)
        cases hfe
        have hwk := hfw _ (List.getElem_mem hlt)
        have hmg := mix70_get lf k hlt (by rw [mix70_length]; exact hlt)
        have hgs := ownsRow_cell hf (k * 4 + 3) (.string ⟨lf[k].s.toArray⟩) (frs_at (mix70 lf k) k (by rw [mix70_length]; exact hlt) 3 _ (by rw [hmg]; rfl))
        have hgf := ownsRow_free hf (k * 4 + 3)
        have hset := ownsRow_set hf (k * 4 + 3) (.string ⟨lf[k].cut70.s.toArray⟩) (by omega)
        have hst := congrArg Array.toList (set_text (mix70 lf k) k lf[k].cut70.s (by rw [mix70_length]; exact hlt))
        rw [Array.toList_setIfInBounds, hmg, show ({ lf[k] with s := lf[k].cut70.s } : Fr) = lf[k].cut70 from rfl, mix70_succ lf k hlt] at hst
        simp only at hst
        rw [hst] at hset
        have hrs := ownsRow_only hr (Only.one wr g (k * 4 + 3) (.string ⟨lf[k].cut70.s.toArray⟩)) (fun b hb e => hap.out g rfl (e ▸ hb))
        have hos := (hor.trans' (Only.one wr g (k * 4 + 3) (.string ⟨lf[k].cut70.s.toArray⟩)) (fun y hy e => by omega))
        have HR1 := Lib.hid (right70_succ lf k hlt)
        have HMS := Lib.hid (frs_at (mix70 lf (k + 1)) k (by rw [mix70_length]; exact hlt))
        rw [show (mix70 lf (k + 1))[k]'(by rw [mix70_length]; exact hlt) = lf[k].cut70 by
          simp only [← mix70_succ lf k hlt, List.getElem_set_self]] at HMS
        have hwk' := hwk.cut70
        have FO := Lib.hid (fun W => frameOf_any W _ hwk')
        have hfsl := hwk.s
        clear hst hmg hwk hwk'
        have HFX : Hid (lf[k].cut70.s = lf[k].s.take 70) := Lib.hid rfl
        generalize hfd : lf[k] = fd at *
        clear hfd
        obtain ⟨f', hf'⟩ : ∃ f', f' = fd.cut70 := ⟨_, rfl⟩
        rw [← hf'] at hset hrs hos HR1 HMS FO HFX
        clear hf'
        obtain ⟨de, da, dk, ds⟩ := fd
        obtain ⟨fe, fa, fk, fs⟩ := f'
        simp only at hgs hset hrs hos HFX hfsl
        have HSET := Lib.hid hset
        have HRS := Lib.hid hrs
        have HOS := Lib.hid hos
        have HAP := Lib.hid hap.out
        clear hset hrs hos hap hf hr
        unfold maxLen at hfsl
        have hzd := size_toArray ds
        have hex : ∀ m : Nat, m = min ds.length 70 → (⟨ds.toArray⟩ : ByteArray).extract 0 m = ⟨fs.toArray⟩ := by
          intro m hm
          rw [extract_list, List.drop_zero, hm, HFX.out]
          congr 2
          by_cases hh : ds.length ≤ 70
          · rw [Nat.min_eq_left hh, List.take_of_length_le (Nat.le_refl _), List.take_of_length_le hh]
          · rw [Nat.min_eq_right (by omega)]
        have hltI : (k : Int) < (lf.length : Int) := by omega
        go_upto_region 10 with fail
        refine wp_region_pick (fun W => W = wr.drew) [(0, 0), (1, 0), (2, 0), (3, 0), (4, 0), (5, 0), (6, 1), (7, 0), (8, 0), (9, 0), (10, 0), (11, 1), (12, 0), (13, 0), (14, 0), (15, 0), (16, 0), (17, 3)] (by kernel_rfl) (by kernel_rfl) (fun _ _ d _ _ h => by cases d <;> exact h) rfl ?_
        simp only [pickOps, List.getElem?_cons_zero, List.getElem?_cons_succ]
        iterate 13 (first | (refine wpL_pure (a' := ?_) ?_ rfl (fun W => ?_) ?_ ?_; rotate_left 2; (· go_simp; first | (go_bits; with_reducible rfl) | with_reducible rfl); (· simp only [put_some, List.setIfInBounds_toArray, List.set_cons_zero, List.set_cons_succ]; rfl)) | (refine wpL_held (a' := ?_) ?_ rfl (fun W hW => ?_) ?_ ?_; rotate_left 2; (· subst hW; go_simp; first | (go_bits; with_reducible rfl) | with_reducible rfl); (· simp only [put_some, List.setIfInBounds_toArray, List.set_cons_zero, List.set_cons_succ]; rfl)))
        obtain ⟨m, hm⟩ : ∃ m, m = min ds.length 70 := ⟨_, rfl⟩
        have hex' := hex m hm
        have hm1 : m ≤ ds.length := by omega
        clear hex
        refine wpL_pure (a' := ?_) (.int .i64 (m : Int)) rfl (fun W => ?_) ?_ ?_; rotate_left 1
        · rcases Nat.lt_or_ge ds.length 70 with hl | hl
          · have e1 : m = ds.length := by omega
            rw [e1]
            clear hex' hm
            go_simp
            omega
          · have e1 : m = 70 := by omega
            rw [e1]
            clear hex' hm
            go_simp
            omega
        · simp only [put_some, List.setIfInBounds_toArray, List.set_cons_zero, List.set_cons_succ]; rfl
        clear hm
        iterate 3 (refine wpL_pure (a' := ?_) ?_ rfl (fun W => ?_) ?_ ?_; rotate_left 2; (· go_simp; first | (go_bits; with_reducible rfl) | with_reducible rfl); (· simp only [put_some, List.setIfInBounds_toArray, List.set_cons_zero, List.set_cons_succ]; rfl))
        have STORE := run_store_one (P := Try.prog) wr.drew ⟨g, k * 4 + 3, none⟩ (.string ⟨fs.toArray⟩) (.string ⟨ds.toArray⟩) 9 rfl rfl Try.size9 hgs hgf
        refine wpL_lastDone (a' := ?_) (w' := wr.drew.setCell ⟨g, k * 4 + 3, none⟩ (.string ⟨fs.toArray⟩)) rfl (exec_store rfl rfl rfl STORE) ?_ ?_; rotate_left; (· simp only [put_none]; rfl)
        refine wpL_nil ?_
        have hset2 : (wr.drew.setCell ⟨g, k * 4 + 3, none⟩ (.string ⟨fs.toArray⟩)).ownsRow w.heap.size 23 4 (.slice (some ⟨g, 0, none⟩) lf.length fcap) lf.length (frs (mix70 lf (k + 1))) := HSET.out
        have hrs2 : (wr.drew.setCell ⟨g, k * 4 + 3, none⟩ (.string ⟨fs.toArray⟩)).ownsRow w.heap.size 23 4 u12 k (frs (right70 lf k)) := HRS.out
        have hos2 : Only (fun _ => False) w (wr.drew.setCell ⟨g, k * 4 + 3, none⟩ (.string ⟨fs.toArray⟩)) := (hor.trans (Only.drew _ _)).trans' (Only.one wr.drew g (k * 4 + 3) (.string ⟨fs.toArray⟩)) (fun y hy e => by omega)
        generalize wr.drew.setCell ⟨g, k * 4 + 3, none⟩ (.string ⟨fs.toArray⟩) = wm at hset2 hrs2 hos2 ⊢
        clear STORE hgs hgf HSET HRS HOS hex' hm1
        have hcl : Has wm g (k * 4) [.int .i64 fe, .int .i64 fa, .int .i64 fk, .string ⟨fs.toArray⟩] := fun j u hu => ownsRow_cell hset2 (k * 4 + j) u (HMS.out j u hu)
        have hrs3 := sliceOf_own hrs2
        unfold Fr.val at FO
        simp only at FO
        have HS2 := Lib.hid hset2
        have HR2 := Lib.hid hrs2
        have HO2 := Lib.hid hos2
        clear hset2 hrs2 hos2 hrs3
        obtain ⟨mm2, hmm2⟩ : ∃ m2, m2 = Fr.made ⟨fe, fa, fk, fs⟩ := ⟨_, rfl⟩
        rw [← hmm2] at FO HR1
        clear hmm2
        obtain ⟨me, ma, mk, ms⟩ := mm2
        simp only at FO
        go_upto_region 11 with fail
        go_wp2_with (first
          | ((with_reducible refine wpList_load_part g (k * 4) [.int .i64 fe, .int .i64 fa, .int .i64 fk, .string ⟨fs.toArray⟩] ?_ ?_ ?_ ?_ ?_); (· exact ⟨_, Try.underlying23, rfl⟩); (· exact Try.size23); (· exact hcl); (· rfl))
          | (go_at_call 21; refine (FO.out _).mono ?_; rintro e w2 ⟨rfl, ho2⟩; have hr3 := ownsRow_only HR2.out ho2 (fun _ _ => id); have HO3 := Lib.hid (HO2.out.trans ho2); have HS3 := Lib.hid (ownsRow_only HS2.out ho2 (fun _ _ => id)); (obtain ⟨v', w5, hrun5, hown5, ho5, hfr5⟩ := append_one_row2 (P := Try.prog) w2 w.heap.size 35 35 23 _ 4 40 Try.underlying35 Try.info23 rfl (by decide) u12 k _ hr3 [.int .i64 me, .int .i64 ma, .int .i64 mk, .string ⟨ms.toArray⟩] rfl (by simp [Value.oneCell']) (by omega) (by decide) HO3.out.size); have HRUN := Lib.hid hrun5; have HOWN := Lib.hid hown5; have HO5 := Lib.hid ho5; have HFR := Lib.hid hfr5; have HR3 := Lib.hid hr3; clear hrun5 hown5 ho5 hfr5 hr3 ho2)
          | ((with_reducible refine wpList_append_run u12 (.slice (some ⟨w2.heap.size, 0, none⟩) 1 1) v' HRUN.out ?_ ?_ ?_); (· rfl); (· rfl)))
        go_roundw
        case rel =>
          refine ⟨k + 1, by omega, by go_num, ownsRow_only HS3.out HO5.out (fun b hb => HAP.out b hb), ?_, Lib.hid (fun b hb hb' => ?_), HO3.out.trans' HO5.out (fun y hy e => row_own_new HR3.out hy e)⟩
          · rw [HR1.out, frs_append, frs_one]; exact HOWN.out
          · rcases HFR.out b hb' with h | h
            · exact HAP.out b hb h
            · have := (HS3.out.lt b hb).2; omega
        case measure => simp [intOf] <;> omega
      · obtain rfl : k = lf.length := by omega
        rw [mix70_all] at hf
        have hl1 : (lf.map Fr.cut70).length = lf.length := by simp
        have hw1 : ∀ f ∈ lf.map Fr.cut70, f.s.length ≤ maxLen := by
          intro f hf'
          obtain ⟨f0, h0, rfl⟩ := List.mem_map.1 hf'
          exact (hfw f0 h0).cut70.s
        have hl2 : (right70 lf lf.length).length = lf.length := by simp [right70]
        have hw2 : ∀ f ∈ right70 lf lf.length, f.s.length ≤ maxLen := by
          intro f hf'
          obtain ⟨f0, h0, rfl⟩ := List.mem_map.1 hf'
          have := (Fr.right_iff _).1 (Fr.made_right f0.cut70)
          unfold maxLen; omega
        generalize lf.map Fr.cut70 = L1 at hf hl1 hw1
        generalize right70 lf lf.length = L2 at hr hl2 hw2
        rw [← hl2] at hr
        have hflen : wr.ownsRow w.heap.size 23 4 (.slice aof lf.length fcap) L1.length (frs L1) := by rw [hl1]; exact hf
        have HF := Lib.hid hflen
        have HRR := Lib.hid hr
        have H1 := Lib.hid hl1
        have H2 := Lib.hid hl2
        have P1 := Lib.hid (fun W => pick12_any W ep 16777215 we (by decide) (by decide))
        have P2 := Lib.hid (fun W => pick12_any W at_ 64 wa (by decide) (by decide))
        have hp1 := pickI_lt ep 16777215 (by decide)
        have hp2 := pickI_lt at_ 64 (by decide)
        obtain ⟨hp1a, hp1b⟩ := hp1
        obtain ⟨hp2a, hp2b⟩ := hp2
        generalize pickI ep 16777215 = pe at *
        generalize pickI at_ 64 = pa at *
        have hBm : B.length ≤ maxLen := by unfold maxLen; omega
        have C1 := Lib.hid (fun W => cut_any W ep at_ B we wa hBm)
        have C2 := Lib.hid (fun W => refCut_any W ep at_ B we wa hBm)
        have C3 := Lib.hid (fun W => cut_any W (1 + pe) pa B (by unfold I64; omega) (by unfold I64; omega) hBm)
        have C4 := Lib.hid (fun W => refCut_any W (1 + pe) pa B (by unfold I64; omega) (by unfold I64; omega) hBm)
        generalize cutR ep at_ B = r1 at C1 C2
        generalize cutR (1 + pe) pa B = r2 at C3 C4
        obtain ⟨q1, x1⟩ := r1
        obtain ⟨q2, x2⟩ := r2
        simp only at C1 C2 C3 C4
        clear hf hflen hr hl1 hl2 hap hlt we wa hBm HROW HO HO1 hfw
        have hn1 : L1.length ≤ 100000 := by have := H1.out; omega
        have hn2 : L2.length ≤ 100000 := by have := H2.out; omega
        go_wp2_with fail
        refine (C1.out _).mono ?_
        rintro e W1 ⟨a1, ao1, cp1, rfl, sa1, o1⟩
        have hva := sa1.val
        have SA1 := Lib.hid sa1
        have O1 := Lib.hid o1
        clear sa1 o1 hva
        go_wp2_with fail
        refine (C2.out _).mono ?_
        rintro e W2 ⟨a2, ao2, cp2, rfl, sa2, o2⟩
        have SA2 := Lib.hid sa2
        have O2 := Lib.hid o2
        clear sa2 o2
        go_wp2_with fail
        refine (P1.out _).mono ?_
        rintro e W2' ⟨rfl, rfl⟩
        go_wp2_with fail
        refine (P2.out _).mono ?_
        rintro e W2' ⟨rfl, rfl⟩
        go_wp2_with fail
        refine (C3.out _).mono ?_
        rintro e W3 ⟨a3, ao3, cp3, rfl, sa3, o3⟩
        have SA3 := Lib.hid sa3
        have O3 := Lib.hid o3
        clear sa3 o3
        go_wp2_with fail
        refine (P1.out _).mono ?_
        rintro e W3' ⟨rfl, rfl⟩
        go_wp2_with fail
        refine (P2.out _).mono ?_
        rintro e W3' ⟨rfl, rfl⟩
        go_wp2_with fail
        refine (C4.out _).mono ?_
        rintro e W4 ⟨a4, ao4, cp4, rfl, sa4, o4⟩
        have SA4 := Lib.hid sa4
        have O4 := Lib.hid o4
        clear sa4 o4
        have HF4 := Lib.hid (ownsRow_only HF.out (O1.out.trans (O2.out.trans (O3.out.trans O4.out))) (fun _ _ => id))
        have HR4 := Lib.hid (ownsRow_only HRR.out (O1.out.trans (O2.out.trans (O3.out.trans O4.out))) (fun _ _ => id))
        obtain ⟨fo, fc, fs4⟩ := sliceOf_own HF4.out
        obtain ⟨ro, rc, rs4⟩ := sliceOf_own HR4.out
        have FS := Lib.hid fs4
        have RS := Lib.hid rs4
        clear fs4 rs4 HF HRR
        go_wp2_with fail
        refine (join_any W4 _ L1 fo fc FS.out hw1 hn1).mono ?_
        rintro e W5 ⟨j5, rfl, ow5, o5⟩
        have OW5 := Lib.hid ow5
        have O5 := Lib.hid o5
        clear ow5 o5
        go_wp2_with fail
        refine (refJoin_any W5 _ L1 fo fc (FS.out.only O5.out) hw1 hn1).mono ?_
        rintro e W6 ⟨j6, rfl, ow6, o6⟩
        have OW6 := Lib.hid ow6
        have O6 := Lib.hid o6
        clear ow6 o6
        go_wp2_with fail
        refine (join_any W6 _ L2 ro rc (RS.out.only (O5.out.trans O6.out)) hw2 hn2).mono ?_
        rintro e W7 ⟨j7, rfl, ow7, o7⟩
        have OW7 := Lib.hid ow7
        have O7 := Lib.hid o7
        clear ow7 o7
        go_wp2_with fail
        refine (refJoin_any W7 _ L2 ro rc (RS.out.only (O5.out.trans (O6.out.trans O7.out))) hw2 hn2).mono ?_
        rintro e W8 ⟨j8, rfl, ow8, o8⟩
        have OW8 := Lib.hid ow8
        have O8 := Lib.hid o8
        clear ow8 o8
        have T58 := Lib.hid (O6.out.trans (O7.out.trans O8.out))
        have T28 := Lib.hid (O3.out.trans (O4.out.trans (O5.out.trans T58.out)))
        go_wp2_with fail
        refine (same_any W8 a1 a2 q1 q1 ao1 ao2 cp1 cp2 (SA1.out.only (O2.out.trans T28.out)) (SA2.out.only T28.out)).mono ?_
        rintro e W9 ⟨rfl, o9⟩
        have O9 := Lib.hid o9
        clear o9
        go_wp2_with fail
        refine (same_any W9 a3 a4 q2 q2 ao3 ao4 cp3 cp4 (SA3.out.only (O4.out.trans (O5.out.trans (T58.out.trans O9.out)))) (SA4.out.only (O5.out.trans (T58.out.trans O9.out)))).mono ?_
        rintro e W10 ⟨rfl, o10⟩
        have O10 := Lib.hid o10
        clear o10
        obtain ⟨ta, tac, t5⟩ := sliceOf_own OW5.out
        obtain ⟨tb, tbc, t6⟩ := sliceOf_own OW6.out
        have T5 := Lib.hid (t5.only (T58.out.trans (O9.out.trans O10.out)))
        have T6 := Lib.hid (t6.only (O7.out.trans (O8.out.trans (O9.out.trans O10.out))))
        clear t5 t6
        go_wp2_with fail
        refine (sameTexts_any W10 j5 j6 (joinF L1).1 (joinF L1).1 ta tb tac tbc T5.out T6.out).mono ?_
        rintro e W11 ⟨rfl, o11⟩
        have O11 := Lib.hid o11
        clear o11
        obtain ⟨tc, tcc, t7⟩ := sliceOf_own OW7.out
        obtain ⟨td, tdc, t8⟩ := sliceOf_own OW8.out
        have T7 := Lib.hid (t7.only (O8.out.trans (O9.out.trans (O10.out.trans O11.out))))
        have T8 := Lib.hid (t8.only (O9.out.trans (O10.out.trans O11.out)))
        clear t7 t8
        go_wp2_with fail
        refine (sameTexts_any W11 j7 j8 (joinF L2).1 (joinF L2).1 tc td tcc tdc T7.out T8.out).mono ?_
        rintro e W12 ⟨rfl, o12⟩
        have O12 := Lib.hid o12
        clear o12
        go_wp2_with fail
        go_ret
        exact ⟨by simp, hor.trans (O1.out.trans (O2.out.trans (T28.out.trans (O9.out.trans (O10.out.trans (O11.out.trans O12.out))))))⟩

set_option maxRecDepth 100000 in
theorem frameCuts_lifted (os : Os) (started : os.Started) (H : Type) (enc : TypeId × Value → H) :
    ReturnsInHanded {} Try.checked os 4 .any (Rows.frameCutsSpec.pre6 enc Try.prog Try.f4 Rows.frameCutsRow.domain false) (Rows.frameCutsSpec.post enc Try.prog Try.f4 false true false false) := by
  refine returnsInHanded_of_change (C := Try.checked) Try.own started (by kernel_rfl) Try.func4
    (ChangeSpec.witness6 (enc := enc) (C := Try.checked) false ⟨#[], #[.int .i64 0, .int .i64 0, .string ⟨#[]⟩, .slice none 0 0], []⟩ 8 (by kernel_rfl) (by kernel_rfl) (by kernel_rfl) (by kernel_rfl)) ?_
  intro W base args ds gs before hval0 hW hcnd _
  have hval : ∀ (j : Nat) t v, Try.f4.params[j]? = some t → args[j]? = some v → Value.okWide Try.prog W .any base t v := hval0
  have hW' := hW
  obtain ⟨p, q, hA0, hV, rfl, hfz, hnd⟩ := hW
  have hA : DataW.TrodAll enc Try.prog W 0 (fun _ => true) true Try.f4.params.toList args.toList ds p := hA0
  rw [Try.params4] at hA hval
  obtain ⟨v0, vs0, d0, ds0, p0, q0, hargs, rfl, rfl, h0, r0⟩ := trodAll_cons hA
  obtain ⟨v1, vs1, d1, ds1, p1, q1, rfl, rfl, rfl, h1, r1⟩ := trodAll_cons r0
  obtain ⟨v2, vs2, d2, ds2, p2, q2, rfl, rfl, rfl, h2, r2⟩ := trodAll_cons r1
  obtain ⟨v3, vs3, d3, ds3, p3, q3, rfl, rfl, rfl, h3, r3⟩ := trodAll_cons r2
  obtain ⟨rfl, rfl, rfl⟩ := trodAll_nil r3
  obtain rfl : args = #[v0, v1, v2, v3] := by cases args; simp_all
  obtain ⟨rfl, rfl⟩ := trodVars_none hV
  clear hA0 hval0
  obtain ⟨ep, rfl, _, _, we⟩ := open_int Try.underlying3 (hval 0 3 v0 rfl rfl) h0
  obtain ⟨a, rfl, _, _, wa⟩ := open_int Try.underlying3 (hval 1 3 v1 rfl rfl) h1
  obtain ⟨s, rfl, ws⟩ := law_str Try.underlying9 (hval 2 9 v2 rfl rfl) h2
  obtain ⟨l, ao, cap, hl, wl, hc⟩ := law_frames (hval 3 35 v3 rfl rfl) h3
  refine (frameCuts_walk W ep a s v3 l ao cap (bounds_i64 we) (bounds_i64 wa) ws hl wl hc).mono fun e W' ⟨he, ho⟩ => ?_
  subst he
  exact ⟨_, rfl, law_post rfl hW' (by kernel_rfl) (of_decide_eq_true (by kernel_rfl)) rfl rfl rfl ho⟩
theorem frameCuts_holds : Rows.FrameCutsSaid :=
  OpenClaim.holds_of_wide 4 Try.f4 rfl rfl rfl rfl rfl rfl rfl ⟨rfl, rfl, rfl, rfl, rfl⟩ rfl rfl rfl rfl rfl (by kernel_rfl) Try.func4 (by kernel_rfl)
    (of_decide_eq_true (by kernel_rfl)) (by unfold Func.isWrapper; first | (rw [if_pos (by decide +kernel)]; kernel_rfl) | (rw [if_neg (by decide +kernel)]; exact ⟨rfl, rfl⟩))
    (fun os started H enc _ => frameCuts_lifted os started H enc)
end Go.Proofs.Ytlgefjcfnnjkbaa
