/- FrameRots: of frames that lie on a disk, and one byte of which rots, that one is none any more, and all others are as they were. No conditions. -/
import Derived.Test.YtlgefjcfnnjkbaaFD
import Derived.Test.YtlgefjcfnnjkbaaOpen
import Derived.Test.YtlgefjcfnnjkbaaRows
namespace Go.Proofs.Ytlgefjcfnnjkbaa
open Go.ChangeShapes Go.WideShapes Go.ChangeAt Go.RowKit Go.Joins Go.Deep

set_option maxRecDepth 100000 in
set_option maxHeartbeats 16000000 in
theorem frameRots_walk (w : World) (v : Value) (l : List (List UInt8)) (wh pl ma : Int) (ao : Option Addr) (cap : Nat) (hv : SliceOf w v l.length (txts l) ao cap)
    (hl : ∀ x ∈ l, x.length ≤ maxLen) (hwh : 0 ≤ wh ∧ wh ≤ 255) (hpl : 0 ≤ pl ∧ pl ≤ 255) (hma : 0 ≤ ma ∧ ma ≤ 255) :
    Calls Try.prog 17 #[v, .int .u8 wh, .int .u8 pl, .int .u8 ma] w fun e w' => e = .returned (.bool true) ∧ Only (fun _ => False) w w' := by
  have h0 := Disks.start w
  have hvv := hv.val
  subst hvv
  have hll := hv.len
  obtain ⟨hwh1, hwh2⟩ := hwh
  obtain ⟨hpl1, hpl2⟩ := hpl
  obtain ⟨hma1, hma2⟩ := hma
  obtain ⟨N, hN⟩ : ∃ N, N = min 8 l.length := ⟨_, rfl⟩
  have hN8 : N ≤ 8 := by omega
  have hLlen := cutB_length l 150
  rw [← hN] at hLlen
  have hLs := cutB_small l 150
  have hLg := cutB_get l 150
  generalize cutB l 150 = L at hLlen hLs hLg
  have HN := Lib.hid hN
  have HLG := Lib.hid hLg
  have HLL := Lib.hid hLlen
  clear hN hLg hLlen
  go_enter Try.func17, Try.ntmps17
  go_wp2_with fail
  refine (examples_any _).mono ?_
  rintro e w1 ⟨rfl, ho1⟩
  have H1 := Lib.hid (h0.quiet ho1)
  clear ho1 h0
  go_wp2_with fail
  refine (dk_new H1.out 64 (by decide) (by decide)).mono ?_
  rintro e w2 ⟨p, kb, rfl, h2⟩
  have H2 : Hid (Disks w w2 (fun _ => False) [⟨p, kb, .slice none 0 0, D.new 64⟩]) := Lib.hid h2
  clear h2 H1
  go_wp2_with fail
  go_loopw [12, 13, 14] (fun a wn i wr => ∃ k : Nat, k ≤ N ∧ i = .int .i64 k ∧ wr.ownsRow w2.heap.size 23 4 a (batches 2 (L.take k)).length (frs (batches 2 (L.take k))) ∧
      wr.ownsRow w2.heap.size 9 1 wn k (txts (L.take k)) ∧ Only (fun _ => False) w2 wr) (fun a wn i _ => N - (intOf i).toNat)
  case atStart => exact ⟨0, by omega, rfl, World.ownsRow_nil _ _ _ _, World.ownsRow_nil _ _ _ _, Only.refl _ _⟩
  case round =>
    obtain ⟨k, hk, rfl, ha, hw, hor⟩ := hrel
    have HA := Lib.hid ha
    have HW := Lib.hid hw
    clear ha hw
    by_cases hlt : k < N
    · have hkl : k < l.length := by have := HN.out; omega
      obtain ⟨gl, ol, rfl, hc⟩ := ((hv.only H2.out.only).only (hor.trans (Only.drew _ _))).txt_at k hkl
      have hxl := hl _ (List.getElem_mem hkl)
      have hLk := HLG.out k hkl (by omega)
      have hsmall := hLs k
      have HSUCC := Lib.hid (batches_succ 2 L k (by rw [HLL.out]; exact hlt))
      have HTK : Hid (L.take (k + 1) = L.take k ++ [L.getD k []]) := Lib.hid (by
        have := HLL.out
        rw [List.take_succ_eq_append_getElem (by omega)]
        simp [List.getD_eq_getElem?_getD, List.getElem?_eq_getElem (show k < L.length by omega)])
      have hjl := bLen_le L hLs k (by rw [HLL.out]; omega)
      rw [← batches_length 2] at HSUCC hjl
      generalize L.getD k [] = s at hLk hsmall HSUCC HTK
      generalize l[k] = x at hc hxl hLk
      unfold maxLen at hxl
      have hzx := size_toArray x
      have hex : ∀ m : Nat, m = min x.length 150 → (⟨x.toArray⟩ : ByteArray).extract 0 m = ⟨s.toArray⟩ := by
        intro m hm
        rw [extract_list, List.drop_zero, hm, hLk]
        congr 2
        by_cases hh : x.length ≤ 150
        · rw [Nat.min_eq_left hh, List.take_of_length_le (Nat.le_refl _), List.take_of_length_le hh]
        · rw [Nat.min_eq_right (by omega)]
      clear hLk
      have hkI : (k : Int) < (l.length : Int) := by omega
      have hk8 : (k : Int) < 8 := by omega
      go_upto_region 10 with fail
      refine wp_region_pick (fun W => W = wr.drew) [(0, 0), (1, 0), (2, 0), (3, 1), (4, 0), (5, 0), (6, 0), (7, 1), (8, 0), (9, 0), (10, 0), (11, 0)] (by kernel_rfl) (by kernel_rfl) (fun _ _ d _ _ h => by cases d <;> exact h) rfl ?_
      simp only [pickOps, List.getElem?_cons_zero, List.getElem?_cons_succ]
      iterate 9 (first | (refine wpL_pure (a' := ?_) ?_ rfl (fun W => ?_) ?_ ?_; rotate_left 2; (· go_simp; first | (go_bits; with_reducible rfl) | with_reducible rfl); (· simp only [put_some, List.setIfInBounds_toArray, List.set_cons_zero, List.set_cons_succ]; rfl)) | (refine wpL_held (a' := ?_) ?_ rfl (fun W hW => ?_) ?_ ?_; rotate_left 2; (· subst hW; go_simp; first | (go_bits; with_reducible rfl) | with_reducible rfl); (· simp only [put_some, List.setIfInBounds_toArray, List.set_cons_zero, List.set_cons_succ]; rfl)))
      obtain ⟨m, hm⟩ : ∃ m, m = min x.length 150 := ⟨_, rfl⟩
      have hex' := hex m hm
      have hm1 : m ≤ x.length := by omega
      clear hex
      refine wpL_pure (a' := ?_) (.int .i64 (m : Int)) rfl (fun W => ?_) ?_ ?_; rotate_left 1
      · rcases Nat.lt_or_ge x.length 150 with hq | hq
        · have e1 : m = x.length := by omega
          rw [e1]
          clear hex' hm
          go_simp
          omega
        · have e1 : m = 150 := by omega
          rw [e1]
          clear hex' hm
          go_simp
          omega
      · simp only [put_some, List.setIfInBounds_toArray, List.set_cons_zero, List.set_cons_succ]; rfl
      clear hm
      iterate 2 (refine wpL_pure (a' := ?_) ?_ rfl (fun W => ?_) ?_ ?_; rotate_left 2; (· go_simp; first | (go_bits; with_reducible rfl) | with_reducible rfl); (· simp only [put_some, List.setIfInBounds_toArray, List.set_cons_zero, List.set_cons_succ]; rfl))
      refine wpL_nil ?_
      clear hex' hm1 hc hzx hxl
      have hkey : wr.drew.ownsRow w2.heap.size 23 4 u12 (batches 2 (L.take k)).length (frs (batches 2 (L.take k))) ∧ wr.drew.ownsRow w2.heap.size 9 1 u13 k (txts (L.take k)) := ⟨HA.out, HW.out⟩
      have hor2 := hor.trans (Only.drew _ _)
      clear HA HW hor
      generalize wr.drew = wx at hkey hor2 ⊢
      obtain ⟨ha, hw⟩ := hkey
      generalize batches 2 (L.take k) = A at HSUCC hjl ha
      obtain ⟨aa, ac, hsa⟩ := sliceOf_own ha
      have hav := hsa.val
      subst hav
      have HA := Lib.hid ha
      have HW := Lib.hid hw
      have HO3 := Lib.hid hor2
      clear ha hw hsa hor2
      have hn3 : need s.length ≤ 3 := by unfold need; omega
      have CK := Lib.hid (fun W => cut_ok W 2 (A.length : Int) s (by unfold maxLen; omega) (by decide) (by decide) (by omega) (by omega))
      have hcl := cutF_length 2 (A.length : Int) s
      generalize cutF 2 (A.length : Int) s = C at CK HSUCC hcl
      have hnp := need_pos s.length
      generalize need s.length = n at CK hn3 hcl hnp
      have hAI : (A.length : Int) ≤ 1000 := by omega
      go_upto_region 14 with (go_at_call 27; refine (CK.out _).mono ?_; rintro e W2 ⟨g, rfl, hg, hgle, ho2⟩; have HG := Lib.hid hg; have HO4 := Lib.hid ho2; clear hg hgle ho2)
      have ha4 := ownsRow_only HA.out HO4.out (fun _ _ => id)
      have hw4 := ownsRow_only HW.out HO4.out (fun _ _ => id)
      have HO5 := Lib.hid (HO3.out.trans HO4.out)
      have hsC : SliceOf W2 (.slice (some ⟨g, 0, none⟩) n n) n (frs C) (some ⟨g, 0, none⟩) n := sliceOf_block HG.out (by omega) n
      obtain ⟨v5, w5, hrun5, hown5, ho5⟩ := append_src_row (P := Try.prog) W2 w2.heap.size 35 35 35 23 _ 4 40 Try.underlying35 Try.info23 rfl (by decide) _ A.length (frs A) ha4 _ n (frs C) (src_slice Try.underlying35 hsC (by rw [frs_length, hcl]) (by decide) (frs_ones C)) (by omega) (by decide) HO5.out.size
      have HRUN5 := Lib.hid hrun5
      have HW5 := Lib.hid (ownsRow_only hw4 ho5 (fun b hb hb' => rows_apart hw4 ha4 (by decide) b hb hb'))
      have HO6 := Lib.hid (HO5.out.trans' ho5 (fun y hy e => row_own_new ha4 hy e))
      rw [← frs_append, show A.length + n = (A ++ C).length by rw [List.length_append, hcl]] at hown5
      obtain ⟨a5, c5, hs5⟩ := sliceOf_own hown5
      have hv5 := hs5.val
      subst hv5
      have HA5 := Lib.hid hown5
      clear hs5 hown5 hrun5 ho5 ha4 hw4 hsC
      -- the text
      obtain ⟨v6, w6, hrun6, hown6, ho6⟩ := append_one_row (P := Try.prog) w5 w2.heap.size 38 38 9 _ 1 16 Try.underlying38 Try.info9 rfl (by decide) u13 k _ HW5.out (txts [s]) rfl (txts_one _) (by omega) (by decide) HO6.out.size
      rw [← txts_append] at hown6
      have HRUN6 := Lib.hid hrun6
      have HA6 := Lib.hid (ownsRow_only HA5.out ho6 (fun b hb hb' => rows_apart HA5.out HW5.out (by decide) b hb hb'))
      have HO7 := Lib.hid (HO6.out.trans' ho6 (fun y hy e => row_own_new HW5.out hy e))
      have HW6 := Lib.hid hown6
      clear hrun6 hown6 ho6
      rw [txts_cells] at HRUN6
      obtain ⟨AC, hAC⟩ : ∃ AC, AC = A ++ C := ⟨_, rfl⟩
      rw [← hAC] at HRUN5 HA5 HA6
      rw [← hAC] at HSUCC
      clear hAC
      go_wp2_with (first
        | ((with_reducible refine wpList_append_run (.slice aa A.length ac) (.slice (some ⟨g, 0, none⟩) n n) (.slice a5 AC.length c5) HRUN5.out ?_ ?_ ?_); (· rfl); (· rfl))
        | ((with_reducible refine wpList_append_run u13 (.slice (some ⟨w5.heap.size, 0, none⟩) 1 1) v6 HRUN6.out ?_ ?_ ?_); (· rfl); (· rfl)))
      go_roundw
      case rel => exact ⟨k + 1, by omega, by go_num, by rw [HSUCC.out]; exact HA6.out, by rw [HTK.out]; exact HW6.out, HO7.out⟩
      case measure => simp [intOf] <;> omega
    · obtain rfl : k = N := by omega
      rw [List.take_of_length_le (by rw [HLL.out]; omega)] at HA HW
      have hAb : (batches 2 L).length ≤ 24 := by
        have := bLen_le L hLs L.length (Nat.le_refl _)
        rw [List.take_of_length_le (Nat.le_refl _)] at this
        rw [batches_length]
        have := HLL.out
        omega
      have hbl := batches_length 2 L
      have hget : ∀ i, i < (batches 2 L).length → ((batches 2 L).getD i noFr).right = true ∧ ((batches 2 L).getD i noFr).a = (i : Int) := fun i hi => batches_get 2 (by decide) L (by omega) i (by omega)
      have htk : ∀ q, q ≤ (batches 2 L).length → ∃ m, m ≤ k ∧ joinF ((batches 2 L).take q) = (L.take m, bLen (L.take m)) ∧ bLen (L.take m) ≤ q := fun q hq => by
        obtain ⟨m, h1, h2, h3, _⟩ := batches_take 2 (by decide) L (by omega) q (by omega)
        exact ⟨m, by rw [HLL.out] at h1; exact h1, h2, h3⟩
      generalize batches 2 L = A at HA hAb hbl hget htk
      clear hbl
      obtain ⟨aa, ac, hsa⟩ := sliceOf_own HA.out
      have hav := hsa.val
      subst hav
      obtain ⟨wa, wc, hsw⟩ := sliceOf_own HW.out
      have hwv := hsw.val
      subst hwv
      have hcA := own_cap HA.out
      have hcW := own_cap HW.out
      have HF : Hid (∀ b o, (aa = some ⟨b, o, none⟩ → (Value.slice aa A.length ac).ownBlock = some b) ∧ (wa = some ⟨b, o, none⟩ → (Value.slice wa k wc).ownBlock = some b)) := Lib.hid (fun b o => ⟨own_at HA.out b o, own_at HW.out b o⟩)
      have h3 := H2.out.freezeP (fun b => (Value.slice aa A.length ac).ownBlock = some b ∨ (Value.slice wa k wc).ownBlock = some b) hor (fun b hb => by
        rcases hb with hb | hb
        · have := HA.out.lt b hb; exact ⟨this.1, this.2⟩
        · have := HW.out.lt b hb; exact ⟨this.1, this.2⟩)
      obtain ⟨F, hF⟩ : ∃ F : Nat → Prop, F = (fun x => False ∨ ((Value.slice aa A.length ac).ownBlock = some x ∨ (Value.slice wa k wc).ownBlock = some x)) := ⟨_, rfl⟩
      rw [← hF] at h3
      have HFA : Hid (∀ b o, aa = some ⟨b, o, none⟩ → F b) := Lib.hid (fun b o e => by rw [hF]; exact .inr (.inl ((HF.out b o).1 e)))
      have HFW : Hid (∀ b o, wa = some ⟨b, o, none⟩ → F b) := Lib.hid (fun b o e => by rw [hF]; exact .inr (.inr ((HF.out b o).2 e)))
      have H3 : Hid (Disks w wr F [⟨p, kb, .slice none 0 0, putTo (D.new 64) A 0⟩]) := Lib.hid h3
      have SA := Lib.hid hsa
      have SW := Lib.hid hsw
      clear h3 hF HF hsa hsw hor HA HW H2 hlt hk hv hl
      have HG := Lib.hid hget
      have HT := Lib.hid htk
      have HPF := Lib.hid (fun j => putTo_facts (D.new 64) A rfl j)
      have HPT := Lib.hid (fun j i => putTo_there (D.new 64) A j i)
      clear hget htk
      obtain ⟨n, hn⟩ : ∃ n, n = A.length := ⟨_, rfl⟩
      rw [← hn] at hAb hcA SA HG HT ⊢
      have HN2 := Lib.hid hn
      clear hn
      obtain ⟨w9, hw9⟩ : ∃ w9, w9 = wr := ⟨_, rfl⟩
      subst hw9
      go_upto_region 8 with fail
      go_cut [45] from 38 to 45 (fun s45 wx => s45 = .bool false ∧ w9 = wx)
      case first =>
        rcases Nat.lt_or_ge l.length 8 with h8 | h8
        · have hq : (l.length : Int) ≤ (k : Int) := by have := HN.out; omega
          go_wp2_with fail
          go_meet
          exact ⟨rfl, rfl⟩
        · have hq : (8 : Int) ≤ (k : Int) := by have := HN.out; omega
          by_cases hq2 : (k : Int) < (l.length : Int)
          · go_wp2_with fail
            go_meet
            exact ⟨congrArg Value.bool (decide_eq_false (by omega)), rfl⟩
          · have hq3 : (l.length : Int) ≤ (k : Int) := by omega
            clear hq2
            go_wp2_with fail
            go_meet
            exact ⟨rfl, rfl⟩
      case rest =>
      obtain ⟨rfl, rfl⟩ := hcut
      go_wp2_with fail
      go_loopw [18] (fun i wx => ∃ (j : Nat) (pv : Value), j ≤ n ∧ i = .int .i64 j ∧ Hid (Disks w wx F [⟨p, kb, pv, putTo (D.new 64) A j⟩]) ∧ Hid (Only (fun b => ¬ F b) w9 wx)) (fun i _ => n - (intOf i).toNat)
      case atStart => exact ⟨0, _, by omega, rfl, H3, Lib.hid (Only.refl _ _)⟩
      case round =>
        obtain ⟨j, pv, hj, rfl, HD, HOR⟩ := hrel
        clear H3
        by_cases hlt : j < n
        · have hI : (j : Int) < (n : Int) := by omega
          obtain ⟨hfr, _⟩ := HG.out j hlt
          have hjl : j < A.length := by have := HN2.out; omega
          obtain ⟨gf, of, rfl, hcf⟩ := ((show SliceOf w9 (.slice aa n ac) A.length (frs A) aa ac from by rw [← HN2.out]; exact SA.out).held HOR.out HFA.out).fr_at j hjl
          have HSU : Hid (putTo (D.new 64) A (j + 1) = (putTo (D.new 64) A j).write j (A.getD j noFr).lay) := Lib.hid rfl
          have hge : A.getD j noFr = A[j] := by rw [List.getD_eq_getElem?_getD, List.getElem?_eq_getElem hjl]; rfl
          rw [hge] at HSU hfr
          generalize A[j] = f at hcf HSU hfr
          obtain ⟨hp1, hp2, hp3⟩ := HPF.out j
          have hp4 : (putTo (D.new 64) A j).kept.length = 64 := by rw [hp1]; simp [D.new]
          have hp5 : (putTo (D.new 64) A j).pend.length = j := by rw [hp3]; simp [D.new]
          have hp6 : (putTo (D.new 64) A j).power = true := by simp [D.power, hp2]
          have HPW := Lib.hid (⟨hp4, hp5, hp6⟩ : (putTo (D.new 64) A j).kept.length = 64 ∧ (putTo (D.new 64) A j).pend.length = j ∧ (putTo (D.new 64) A j).power = true)
          have HCC := Lib.hid hcf
          have HFR := Lib.hid hfr
          clear hp1 hp2 hp3 hp4 hp5 hp6 hge hcf hfr
          generalize putTo (D.new 64) A j = dj at HSU HPW HD
          go_wp2_with ((with_reducible refine wpList_load_part gf (of + j * 4) [.int .i64 f.e, .int .i64 f.a, .int .i64 f.k, .string ⟨f.s.toArray⟩] ?_ ?_ ?_ ?_ ?_); (· exact ⟨_, Try.underlying23, rfl⟩); (· exact Try.size23); (· exact HCC.out); (· rfl))
          refine (dk_lay HD.out f HFR.out).mono ?_
          rintro e x1 ⟨rfl, h, ho⟩
          have J1 := Lib.hid h
          have HO1 := Lib.hid (HOR.out.trans ho)
          clear h ho HD HOR
          go_wp2_with fail
          refine (dk_write J1.out 0 rfl j f.lay (by rw [HPW.out.1]; omega) (Fr.lay_length HFR.out) HPW.out.2.2 (by rw [HPW.out.2.1]; omega)).mono ?_
          rintro e x2 ⟨pv', rfl, h, ho⟩
          have J2 : Hid (Disks w x2 F [⟨p, kb, pv', putTo (D.new 64) A (j + 1)⟩]) := Lib.hid (by rw [HSU.out]; exact h)
          have HO2 := Lib.hid (HO1.out.trans ho)
          clear h ho J1 HO1
          go_wp2_with fail
          go_roundw
          case rel => exact ⟨j + 1, pv', by omega, by go_num, J2, HO2⟩
          case measure => simp [intOf] <;> omega
        · obtain rfl : j = n := by omega
          obtain ⟨hp1, hp2, hp3⟩ := HPF.out j
          have hX0 : (putTo (D.new 64) A j).kept.length = 64 := by rw [hp1]; simp [D.new]
          have hX1 : (putTo (D.new 64) A j).sync.kept.length = 64 := by rw [D.sync_len]; exact hX0
          have hX2 : (putTo (D.new 64) A j).power = true := by simp [D.power, hp2]
          have hX3 : ∀ i, i < j → (putTo (D.new 64) A j).sync.there i = (A.getD i noFr).lay := fun i hi => by
            rw [D.there_sync _ _ (by omega), HPT.out j i, if_pos hi]
          have hX4 : (putTo (D.new 64) A j).sync.pend = [] := rfl
          have HPW := Lib.hid hX2
          clear hp1 hp2 hp3 hX0 hX2
          go_wp2_with fail
          refine (dk_sync HD.out 0 rfl HPW.out).mono ?_
          rintro e x1 ⟨rfl, h, ho⟩
          have h' : Disks w x1 F [⟨p, kb, .slice none 0 0, (putTo (D.new 64) A j).sync⟩] := h
          generalize (putTo (D.new 64) A j).sync = X at h' hX1 hX3 hX4
          have J1 := Lib.hid h'
          have HO1 := Lib.hid (HOR.out.trans ho)
          clear h h' ho HD HOR HPW HPF HPT
          rcases Nat.eq_zero_or_pos j with h0 | h0
          · have hz : ((j : Int) == 0) = true := by simp [h0]
            clear h0 hX1 hX3 hX4
            go_wp2_with fail
            go_ret
            exact ⟨rfl, J1.out.only⟩
          · have hz : ((j : Int) == 0) = false := by simp; omega
            obtain ⟨q, hq⟩ : ∃ q : Nat, wh % (j : Int) = (q : Int) := ⟨(wh % (j : Int)).toNat, by have := Int.emod_nonneg wh (show (j : Int) ≠ 0 by omega); omega⟩
            have hqj : q < j := by have := Int.emod_lt_of_pos wh (show (0 : Int) < (j : Int) by omega); omega
            obtain ⟨pz, hpz⟩ : ∃ q : Nat, pl % 64 = (q : Int) := ⟨(pl % 64).toNat, by omega⟩
            have hpz64 : pz < 64 := by omega
            obtain ⟨mz, hmz⟩ : ∃ q : Nat, ma % 255 = (q : Int) := ⟨(ma % 255).toNat, by omega⟩
            have hmz255 : mz < 255 := by omega
            have hYr := fun i => D.there_rot X hX4 q pz (1 + mz) i (by omega)
            have hY1 : (X.rot q pz (1 + mz)).kept.length = 64 := by simp only [D.rot, List.length_set]; exact hX1
            have hR1 : ∀ i, i < j → i ≠ q → readF ((X.rot q pz (1 + mz)).there i) = some (A.getD i noFr) := fun i hi hne => by
              rw [hYr i, if_neg (fun e => hne e.symm), hX3 i hi]
              exact readF_lay (HG.out i hi).1
            have hR2 : readF ((X.rot q pz (1 + mz)).there q) = none := by
              have hri := (HG.out q hqj).1
              rw [hYr q, if_pos rfl, hX3 q hqj]
              refine readF_turned hri pz hpz64 _ ?_
              have hll := Fr.lay_length hri
              have e2 : (A.getD q noFr).lay.getD pz 0 = (A.getD q noFr).lay[pz]'(by omega) := by rw [List.getD_eq_getElem?_getD, List.getElem?_eq_getElem (by omega)]; rfl
              rw [e2]
              exact xor_other _ (1 + mz) (by omega) (by omega)
            have HR1 := Lib.hid hR1
            have HR2 := Lib.hid hR2
            have HX1 := Lib.hid (⟨hX1, hY1⟩ : X.kept.length = 64 ∧ (X.rot q pz (1 + mz)).kept.length = 64)
            clear hYr hR1 hR2 hX1 hX3 hX4 hY1
            have hrt := Lib.hid (dk_rot J1.out 0 rfl q pz (1 + mz) (by rw [HX1.out.1]; omega) hpz64 (by omega))
            rw [show (((1 + mz : Nat)) : Int) = 1 + (mz : Int) from by omega] at hrt
            go_wp2_with fail
            refine hrt.out.mono ?_
            rintro e x2 ⟨rfl, h, ho⟩
            have h' : Disks w x2 F [⟨p, kb, .slice none 0 0, X.rot q pz (1 + mz)⟩] := h
            have HO2 := Lib.hid (HO1.out.trans ho)
            clear h ho hrt J1 HO1
            generalize X.rot q pz (1 + mz) = Y at h' HR1 HR2 HX1
            have J2 := Lib.hid h'
            clear h'
            go_wp2_with fail
            go_loopw [24] (fun i wx => ∃ (i' : Nat), i' ≤ j ∧ i = .int .i64 i' ∧ Hid (Disks w wx F [⟨p, kb, .slice none 0 0, Y⟩]) ∧ Hid (Only (fun b => ¬ F b) w9 wx)) (fun i _ => j - (intOf i).toNat)
            case atStart => exact ⟨0, by omega, rfl, J2, HO2⟩
            case round =>
              obtain ⟨i', hi', rfl, HD, HOR⟩ := hrel
              clear J2 HO2
              by_cases hlt : i' < j
              · have hI : (i' : Int) < (j : Int) := by omega
                have hrd := dk_read HD.out 0 rfl i' (by rw [HX1.out.2]; omega)
                have hTl := D.there_len (HD.out.at_ 0 _ rfl).ok (k := i') (by rw [HX1.out.2]; omega)
                have hr1 := HR1.out i' hlt
                have hr2 := HR2.out
                go_wp2_with fail
                by_cases hne : i' = q
                · rw [← hne] at hr2
                  generalize Y.there i' = T at hrd hTl hr2
                  refine hrd.mono ?_
                  rintro e x3 ⟨rfl, h, ho⟩
                  have J3 := Lib.hid h
                  have HO3 := Lib.hid (HOR.out.trans ho)
                  clear h ho HD HOR
                  go_wp2_with fail
                  have hrf := dk_readF J3.out T (by unfold maxLen; omega)
                  rw [readV_none hr2] at hrf
                  unfold Fr.val noFr at hrf
                  simp only at hrf
                  refine hrf.mono ?_
                  rintro e x4 ⟨rfl, h, ho⟩
                  have J4 := Lib.hid h
                  have HO4 := Lib.hid (HO3.out.trans ho)
                  clear h ho J3 HO3 hrf hrd hr1 hr2
                  go_upto_region 31 with fail
                  have J5 := Lib.hid ((J4.out.quiet (Only.alloc x4 (.cells #[.int .i64 0, .int .i64 0, .int .i64 0, .string ⟨#[]⟩] 23) _)).quiet (Only.drew _ _))
                  have HO5 := Lib.hid ((HO4.out.trans (Only.alloc x4 (.cells #[.int .i64 0, .int .i64 0, .int .i64 0, .string ⟨#[]⟩] 23) _)).trans (Only.drew _ _))
                  generalize x4.alloc (.cells #[.int .i64 0, .int .i64 0, .int .i64 0, .string ⟨#[]⟩] 23) = x5 at J5 HO5 ⊢
                  generalize x4.heap.size = g5 at ⊢
                  have hnq : ((i' : Int) != (q : Int)) = false := by simp; omega
                  clear J4 HO4
                  refine wp_region_pick (fun W => W = x5.drew) [(0, 0), (1, 0), (2, 0), (3, 0), (4, 0), (5, 0), (6, 0), (7, 0), (8, 0), (9, 0), (10, 0), (11, 0), (12, 0), (13, 0), (14, 0), (15, 0), (16, 0), (17, 0)] (by kernel_rfl) (by kernel_rfl) (fun _ _ d _ _ h => by cases d <;> exact h) rfl ?_
                  simp only [pickOps, List.getElem?_cons_zero, List.getElem?_cons_succ]
                  iterate 18 (first | (refine wpL_pure (a' := ?_) ?_ rfl (fun W => ?_) ?_ ?_; rotate_left 2; (· go_simp; first | (go_bits; with_reducible rfl) | with_reducible rfl); (· simp only [put_some, List.setIfInBounds_toArray, List.set_cons_zero, List.set_cons_succ]; rfl)) | (refine wpL_skip (a' := ?_) rfl ?_ ?_; rotate_left 1; (· simp only [put_some, List.setIfInBounds_toArray, List.set_cons_zero, List.set_cons_succ]; rfl)))
                  refine wpL_nil ?_
                  go_wp2_with fail
                  go_roundw
                  case rel => exact ⟨i' + 1, by omega, by go_num, J5, HO5⟩
                  case measure => simp [intOf] <;> omega
                · have hr := hr1 hne
                  generalize Y.there i' = T at hrd hTl hr
                  refine hrd.mono ?_
                  rintro e x3 ⟨rfl, h, ho⟩
                  have J3 := Lib.hid h
                  have HO3 := Lib.hid (HOR.out.trans ho)
                  clear h ho HD HOR
                  go_wp2_with fail
                  have hrf := dk_readF J3.out T (by unfold maxLen; omega)
                  rw [readV_some hr] at hrf
                  have hjl : i' < A.length := by have := HN2.out; omega
                  have hge : A.getD i' noFr = A[i'] := by rw [List.getD_eq_getElem?_getD, List.getElem?_eq_getElem hjl]; rfl
                  obtain ⟨gf, of, rfl, hcf⟩ := ((show SliceOf w9 (.slice aa j ac) A.length (frs A) aa ac from by rw [← HN2.out]; exact SA.out)).fr_at i' hjl
                  rw [hge] at hrf
                  have HCF := Lib.hid hcf
                  have HGF := Lib.hid (HFA.out _ _ rfl)
                  clear hcf hge hr
                  generalize A[i'] = f at hrf HCF
                  unfold Fr.val at hrf
                  refine hrf.mono ?_
                  rintro e x4 ⟨rfl, h, ho⟩
                  have J4 := Lib.hid h
                  have HO4 := Lib.hid (HO3.out.trans ho)
                  clear h ho J3 HO3 hrf hrd hr1 hr2
                  go_upto_region 31 with fail
                  have hb5 := heap_alloc_new x4 (.cells #[.int .i64 f.e, .int .i64 f.a, .int .i64 f.k, .string ⟨f.s.toArray⟩] 23)
                  have J5 := Lib.hid ((J4.out.quiet (Only.alloc x4 (.cells #[.int .i64 f.e, .int .i64 f.a, .int .i64 f.k, .string ⟨f.s.toArray⟩] 23) _)).quiet (Only.drew _ _))
                  have HO5 := Lib.hid ((HO4.out.trans (Only.alloc x4 (.cells #[.int .i64 f.e, .int .i64 f.a, .int .i64 f.k, .string ⟨f.s.toArray⟩] 23) _)).trans (Only.drew _ _))
                  generalize x4.alloc (.cells #[.int .i64 f.e, .int .i64 f.a, .int .i64 f.k, .string ⟨f.s.toArray⟩] 23) = x5 at hb5 J5 HO5 ⊢
                  generalize x4.heap.size = g5 at hb5 ⊢
                  have hc1 : Has x5.drew g5 0 f.cells := has_of_block (pre := []) (post := []) (by rw [List.nil_append, List.append_nil]; exact hb5)
                  have hc2 : Has x5.drew gf (of + i' * 4) f.cells := HCF.out.only HO5.out (fun hn => hn HGF.out)
                  have hnq : ((i' : Int) != (q : Int)) = true := by simp; omega
                  have HC1 := Lib.hid hc1
                  have HC2 := Lib.hid hc2
                  clear hc1 hc2 hb5 J4 HO4
                  refine wp_region_pick (fun W => W = x5.drew) [(0, 0), (1, 0), (2, 0), (3, 0), (4, 0), (5, 0), (6, 0), (7, 0), (8, 0), (9, 0), (10, 1), (11, 0), (12, 0), (13, 0), (14, 1), (15, 0), (16, 0), (17, 0)] (by kernel_rfl) (by kernel_rfl) (fun _ _ d _ _ h => by cases d <;> exact h) rfl ?_
                  simp only [pickOps, List.getElem?_cons_zero, List.getElem?_cons_succ]
                  iterate 10 (refine wpL_pure (a' := ?_) ?_ rfl (fun W => ?_) ?_ ?_; rotate_left 2; (· go_simp; first | (go_bits; with_reducible rfl) | with_reducible rfl); (· simp only [put_some, List.setIfInBounds_toArray, List.set_cons_zero, List.set_cons_succ]; rfl))
                  refine wpL_held (a' := ?_) f.val rfl (fun W hW => exec_load (p := .pointer (some ⟨g5, 0, none⟩)) rfl rfl (run_load_part W g5 0 4 _ _ _ Try.underlying23 rfl Try.size23 rfl (by subst hW; exact HC1.out))) ?_ ?_
                  rotate_left
                  · simp only [put_some, List.setIfInBounds_toArray, List.set_cons_zero, List.set_cons_succ]; rfl
                  iterate 3 (refine wpL_pure (a' := ?_) ?_ rfl (fun W => ?_) ?_ ?_; rotate_left 2; (· go_simp; first | (go_bits; with_reducible rfl) | with_reducible rfl); (· simp only [put_some, List.setIfInBounds_toArray, List.set_cons_zero, List.set_cons_succ]; rfl))
                  refine wpL_held (a' := ?_) f.val rfl (fun W hW => exec_load (p := .pointer (some ⟨gf, of + i' * 4, none⟩)) rfl rfl (run_load_part W gf (of + i' * 4) 4 _ _ _ Try.underlying23 rfl Try.size23 rfl (by subst hW; exact HC2.out))) ?_ ?_
                  rotate_left
                  · simp only [put_some, List.setIfInBounds_toArray, List.set_cons_zero, List.set_cons_succ]; rfl
                  clear HC1 HC2 HCF
                  obtain ⟨xe, xa, xk, xs⟩ := f
                  unfold Fr.val
                  simp only
                  iterate 3 (refine wpL_pure (a' := ?_) ?_ rfl (fun W => ?_) ?_ ?_; rotate_left 2; (· go_simp; first | (go_bits; with_reducible rfl) | with_reducible rfl); (· simp only [put_some, List.setIfInBounds_toArray, List.set_cons_zero, List.set_cons_succ]; rfl))
                  refine wpL_nil ?_
                  go_wp2_with fail
                  go_roundw
                  case rel => exact ⟨i' + 1, by omega, by go_num, J5, HO5⟩
                  case measure => simp [intOf] <;> omega
              · obtain rfl : i' = j := by omega
                obtain ⟨m, hmk, hjn, hbq⟩ := HT.out q (by omega)
                have hAl := HN2.out
                have hwf : ∀ f ∈ A.take q, f.s.length ≤ maxLen := fun f hf => by
                  obtain ⟨i, hi, rfl⟩ := List.getElem_of_mem (List.mem_of_mem_take hf)
                  have h1 := (HG.out i (by omega)).1
                  rw [List.getD_eq_getElem?_getD, List.getElem?_eq_getElem hi] at h1
                  have := ((Fr.right_iff _).1 h1).2.2.2.2.2.2
                  simp only [Option.getD_some] at this
                  unfold maxLen; omega
                have HFR := Lib.hid (fun W (hS : SliceOf W (.slice aa i' ac) i' (frs A) aa ac) => join_any W (.slice aa q ac) (A.take q) aa ac (by
                  have h1 := hS.front (m := q) (size := 4) (by omega) ac
                  have h2 : (A.take q).length = q := by simp; omega
                  rw [h2]
                  have h3 : (frs A).take (q * 4) = frs (A.take q) := by
                    obtain ⟨e1, e2⟩ := frs_split A q (by omega)
                    rw [e1]; exact List.take_left' e2
                  rw [h3] at h1
                  exact h1) hwf (by simp; omega))
                rw [hjn] at HFR
                simp only at HFR
                generalize bLen (L.take m) = bq at HFR hbq
                have hLT : (L.take m).length = m := by rw [List.length_take, HLL.out]; omega
                have hqI : (q : Int) ≤ (ac : Int) := by omega
                have hbI : (bq : Int) ≤ (q : Int) := by omega
                have hmI : (m : Int) ≤ (k : Int) := by omega
                have hmW : (m : Int) ≤ (wc : Int) := by omega
                have SA4 := Lib.hid (SA.out.held HOR.out HFA.out)
                have SW4 := Lib.hid (SW.out.held HOR.out HFW.out)
                clear hjn hwf hAl
                go_wp2_with fail
                refine (HFR.out _ SA4.out).mono ?_
                rintro e W4 ⟨r4, rfl, or4, o4⟩
                rw [hLT] at or4
                obtain ⟨rb, rbc, hsb⟩ := sliceOf_own or4
                have hrv := hsb.val
                subst hrv
                have SB := Lib.hid hsb
                have hfw := (SW4.out.only o4).front (m := m) (size := 1) hmk wc
                have hft : (txts L).take (m * 1) = txts (L.take m) := by rw [Nat.mul_one, txts, ← List.map_take]; rfl
                rw [hft] at hfw
                have SF := Lib.hid hfw
                have TY := Lib.hid (fun W h1 h2 => sameTexts_any W (.slice rb m rbc) (.slice wa m wc) (L.take m) (L.take m) rb wa rbc wc (by rw [hLT]; exact h1) (by rw [hLT]; exact h2))
                have HEND := Lib.hid (HD.out.quiet o4)
                clear hsb or4 hfw hft o4 hLT HD HOR SA4 SW4 SA SW HFR
                rcases Nat.lt_or_ge m k with hlk | hlk
                · have hI2 : (m : Int) < (k : Int) := by omega
                  go_wp2_with fail
                  refine (TY.out _ SB.out SF.out).mono ?_
                  rintro e W5 ⟨rfl, o5⟩
                  have HE5 := Lib.hid (HEND.out.quiet o5)
                  clear o5
                  go_wp2_with fail
                  go_ret
                  exact ⟨rfl, HE5.out.only⟩
                · obtain rfl : m = k := by omega
                  go_wp2_with fail
                  refine (TY.out _ SB.out SF.out).mono ?_
                  rintro e W5 ⟨rfl, o5⟩
                  have HE5 := Lib.hid (HEND.out.quiet o5)
                  clear o5
                  go_wp2_with fail
                  go_ret
                  exact ⟨rfl, HE5.out.only⟩

set_option maxRecDepth 100000 in
theorem frameRots_lifted (os : Os) (started : os.Started) (H : Type) (enc : TypeId × Value → H) :
    ReturnsInHanded {} Try.checked os 17 .any (Rows.frameRotsSpec.pre6 enc Try.prog Try.f17 Rows.frameRotsRow.domain false) (Rows.frameRotsSpec.post enc Try.prog Try.f17 false true false false) := by
  refine returnsInHanded_of_change (C := Try.checked) Try.own started (by kernel_rfl) Try.func17
    (ChangeSpec.witness6 (enc := enc) (C := Try.checked) false ⟨#[], #[.slice none 0 0, .int .u8 0, .int .u8 0, .int .u8 0], []⟩ 8 (by kernel_rfl) (by kernel_rfl) (by kernel_rfl) (by kernel_rfl)) ?_
  intro W base args ds gs before hval0 hW hcnd _
  have hval : ∀ (j : Nat) t v, Try.f17.params[j]? = some t → args[j]? = some v → Value.okWide Try.prog W .any base t v := hval0
  have hW' := hW
  obtain ⟨p, q, hA0, hV, rfl, hfz, hnd⟩ := hW
  have hA : DataW.TrodAll enc Try.prog W 0 (fun _ => true) true Try.f17.params.toList args.toList ds p := hA0
  rw [Try.params17] at hA hval
  obtain ⟨v0, vs0, d0, ds0, p0, q0, hargs, rfl, rfl, h0, r0⟩ := trodAll_cons hA
  obtain ⟨v1, vs1, d1, ds1, p1, q1, rfl, rfl, rfl, h1, r1⟩ := trodAll_cons r0
  obtain ⟨v2, vs2, d2, ds2, p2, q2, rfl, rfl, rfl, h2, r2⟩ := trodAll_cons r1
  obtain ⟨v3, vs3, d3, ds3, p3, q3, rfl, rfl, rfl, h3, r3⟩ := trodAll_cons r2
  obtain ⟨rfl, rfl, rfl⟩ := trodAll_nil r3
  obtain rfl : args = #[v0, v1, v2, v3] := by cases args; simp_all
  obtain ⟨rfl, rfl⟩ := trodVars_none hV
  clear hA0 hval0
  obtain ⟨l, ao, cap, hl, wl⟩ := law_texts Try.underlying38 Try.underlying9 (by kernel_rfl) (hval 0 38 v0 rfl rfl) h0
  obtain ⟨a, rfl, _, _, wa⟩ := open_int Try.underlying5 (hval 1 5 v1 rfl rfl) h1
  obtain ⟨b, rfl, _, _, wb⟩ := open_int Try.underlying5 (hval 2 5 v2 rfl rfl) h2
  obtain ⟨c, rfl, _, _, wc⟩ := open_int Try.underlying5 (hval 3 5 v3 rfl rfl) h3
  refine (frameRots_walk W v0 l a b c ao cap hl wl (bounds_u8 wa) (bounds_u8 wb) (bounds_u8 wc)).mono fun e W' ⟨he, ho⟩ => ?_
  subst he
  exact ⟨_, rfl, law_post rfl hW' (by kernel_rfl) (of_decide_eq_true (by kernel_rfl)) rfl rfl rfl ho⟩
theorem frameRots_holds : Rows.FrameRotsSaid :=
  OpenClaim.holds_of_wide 17 Try.f17 rfl rfl rfl rfl rfl rfl rfl ⟨rfl, rfl, rfl, rfl, rfl⟩ rfl rfl rfl rfl rfl (by kernel_rfl) Try.func17 (by kernel_rfl)
    (of_decide_eq_true (by kernel_rfl)) (by unfold Func.isWrapper; first | (rw [if_pos (by decide +kernel)]; kernel_rfl) | (rw [if_neg (by decide +kernel)]; exact ⟨rfl, rfl⟩))
    (fun os started H enc _ => frameRots_lifted os started H enc)
end Go.Proofs.Ytlgefjcfnnjkbaa
