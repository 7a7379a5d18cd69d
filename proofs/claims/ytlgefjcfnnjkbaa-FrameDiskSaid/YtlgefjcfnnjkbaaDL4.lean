/- The helpers of the disk statements: filled. No conditions. -/
import Derived.Test.YtlgefjcfnnjkbaaDL3
namespace Go.Proofs.Ytlgefjcfnnjkbaa
open Go.RowKit

set_option maxRecDepth 100000 in
set_option maxHeartbeats 8000000 in
theorem filled_any (w : World) (va vb : Value) (a b : List Cl) (ao bo : Option Addr) (ac bc : Nat) (hsA : SliceOf w va a.length (cls a) ao ac) (hsB : SliceOf w vb b.length (cls b) bo bc) (awf : ∀ c ∈ a, c.Wf) (bwf : ∀ c ∈ b, c.Wf) :
    Calls Try.prog 37 #[va, vb] w fun e w' => ∃ p kb pv, e = .returned (.pointer (some ⟨p, 0, none⟩)) ∧ DAt w' p kb pv (filledD a b) ∧ (∀ x, fp p kb pv x → w.heap.size ≤ x) ∧ Only (fun _ => False) w w' := by
  have hvv := hsA.val
  subst hvv
  have hvv := hsB.val
  subst hvv
  have hal := hsA.len
  have hbl := hsB.len
  have HFD : Hid (filledD a b = fillTo (fillTo (D.new 6) a (min 8 a.length)).sync b (min 8 b.length)) := Lib.hid rfl
  go_enter Try.func37, Try.ntmps37
  go_wp2_with (go_at_call 50; refine (new_any w 6 (by decide) (by decide)).mono ?_; rintro e w1 ⟨p, kb, rfl, hd1, hp1, hk1, ho1⟩)
  have sA : DAt w1 p kb (.slice none 0 0) (fillTo (D.new 6) a 0) ∧ (∀ x, fp p kb (.slice none 0 0) x → w.heap.size ≤ x) ∧ Only (fun _ => False) w w1 := ⟨hd1, (fun x hx => by
    rcases hx with h | h | h
    · omega
    · omega
    · cases h), ho1⟩
  have sAcut : (D.new 6).cut = false := rfl
  have sAkept : (D.new 6).kept.length = 6 := by simp [D.new]
  have sApend : (D.new 6).pend.length = 0 := rfl
  clear hd1 hp1 hk1 ho1
  go_loopw [7] (fun i wr => ∃ (k : Nat) (pv : Value), k ≤ 8 ∧ k ≤ a.length ∧ i = .int .i64 k ∧ DAt wr p kb pv (fillTo (D.new 6) a k) ∧ (∀ x, fp p kb pv x → w.heap.size ≤ x) ∧ Only (fun _ => False) w wr) (fun i _ => 8 - (intOf i).toNat)
  case atStart => exact ⟨0, _, by omega, by omega, rfl, sA⟩
  case round =>
    obtain ⟨k, pv, hk, hkl, rfl, hd, hb, hor⟩ := hrel
    by_cases hgo : k < a.length ∧ k < 8
    · obtain ⟨h1, h2⟩ := hgo
      obtain ⟨gl, ol, rfl, hc⟩ := cl_at (hsA.only (hor.trans (Only.drew _ _))) k h1
      have hwf := awf _ (List.getElem_mem h1)
      have hca := hc 1 _ rfl
      have hcs := hc 2 _ rfl
      have HSU := Lib.hid (fillTo_succ (D.new 6) a k h1)
      unfold wrC at HSU
      obtain ⟨hf1, hf2, hf3⟩ := fillTo_facts (D.new 6) a sAcut k hkl
      have PK := Lib.hid (fun W => pick02_any W a[k].at_ 6 hwf.at_ (by decide) (by decide))
      have hp := pickI_lt a[k].at_ 6 (by decide)
      obtain ⟨q, hq⟩ : ∃ q : Nat, (q : Int) = pickI a[k].at_ 6 := ⟨(pickI a[k].at_ 6).toNat, by omega⟩
      rw [← hq] at PK hp HSU
      rw [Int.toNat_natCast] at HSU
      have FU := Lib.hid (fun W => full_any W a[k].s hwf.s)
      have hfl := fullL_length a[k].s
      have hq6 : q < 6 := by omega
      clear hq hwf
      generalize a[k] = c at hca hcs PK FU HSU hfl
      generalize fullL c.s = fs at FU HSU hfl
      generalize fillTo (D.new 6) a k = d at hd HSU hf1 hf2 hf3
      have HB := Lib.hid hb
      have hkept : d.kept.length = 6 := by rw [hf1]; exact sAkept
      have hpl : d.pend.length < 1000000 := by have := sApend; omega
      have hI1 : (k : Int) < (a.length : Int) := by omega
      have hI2 : (k : Int) < 8 := by omega
      clear hb hc
      go_upto_region 5 with fail
      refine wp_region_pick (fun W => W.cell? ⟨gl, ol + k * 6 + 1, none⟩ = some (.int .i64 c.at_) ∧ W.cell? ⟨gl, ol + k * 6 + 2, none⟩ = some (.string ⟨c.s.toArray⟩)) [(0, 0), (1, 0), (2, 0), (3, 0), (4, 0), (5, 1), (7, 0), (8, 0), (9, 0), (10, 0), (11, 1), (6, 2), (12, 2), (13, 3)] (by kernel_rfl) (by kernel_rfl) (fun _ _ d _ _ h => by cases d <;> exact h) ⟨hca, hcs⟩ ?_
      simp only [pickOps, List.getElem?_cons_zero, List.getElem?_cons_succ]
      iterate 5 (refine wpL_pure (a' := ?_) ?_ rfl (fun W => ?_) ?_ ?_; rotate_left 2; (· go_simp; first | (go_bits; with_reducible rfl) | with_reducible rfl); (· simp only [put_some, List.setIfInBounds_toArray, List.set_cons_zero, List.set_cons_succ]; rfl))
      (refine wpL_held (a' := ?_) ?_ rfl (fun W hW => ?_) ?_ ?_; rotate_left 2; (· obtain ⟨hW1, hW2⟩ := hW; go_simp; first | (go_bits; with_reducible rfl) | with_reducible rfl); (· simp only [put_some, List.setIfInBounds_toArray, List.set_cons_zero, List.set_cons_succ]; rfl))
      iterate 4 (refine wpL_pure (a' := ?_) ?_ rfl (fun W => ?_) ?_ ?_; rotate_left 2; (· go_simp; first | (go_bits; with_reducible rfl) | with_reducible rfl); (· simp only [put_some, List.setIfInBounds_toArray, List.set_cons_zero, List.set_cons_succ]; rfl))
      (refine wpL_held (a' := ?_) ?_ rfl (fun W hW => ?_) ?_ ?_; rotate_left 2; (· obtain ⟨hW1, hW2⟩ := hW; go_simp; first | (go_bits; with_reducible rfl) | with_reducible rfl); (· simp only [put_some, List.setIfInBounds_toArray, List.set_cons_zero, List.set_cons_succ]; rfl))
      refine wpL_stepCall (f := 42) (args := #[.int .i64 c.at_, .int .i64 6]) rfl (by kernel_rfl) ((PK.out _).mono ?_)
      rintro ev wv ⟨rfl, rfl⟩
      refine ⟨_, rfl, ⟨hca, hcs⟩, ?_⟩
      simp only [put_some, List.setIfInBounds_toArray, List.set_cons_zero, List.set_cons_succ]
      refine wpL_stepCall (f := 43) (args := #[.string ⟨c.s.toArray⟩]) rfl (by kernel_rfl) ((FU.out _).mono ?_)
      rintro ev w2 ⟨rfl, ho2⟩
      have ho2' := (Only.drew wr (fun _ => False)).trans ho2
      refine ⟨_, rfl, ⟨by rw [ho2.cell (World.block_lt_of_cell? _ _ hca) id]; exact hca, by rw [ho2.cell (World.block_lt_of_cell? _ _ hcs) id]; exact hcs⟩, ?_⟩
      simp only [put_some, List.setIfInBounds_toArray, List.set_cons_zero, List.set_cons_succ]
      refine wpL_lastCall (f := 46) (args := #[.pointer (some ⟨p, 0, none⟩), .int .i64 (q : Int), .string ⟨fs.toArray⟩]) rfl (by kernel_rfl) ((round_write w w2 w.heap.size p kb pv d q fs (hd.only ho2' (fun _ _ => id)) HB.out rfl (hor.trans ho2') (by omega) hfl hf2 hpl).mono ?_)
      rintro ev w3 ⟨pv', rfl, hd3, hb3, ho3, _, _⟩
      refine ⟨_, rfl, ?_⟩
      simp only [put_some, List.setIfInBounds_toArray, List.set_cons_zero, List.set_cons_succ]
      refine wpL_nil ?_
      have HD3 := Lib.hid hd3
      have HB3 := Lib.hid hb3
      have HO3 := Lib.hid ho3
      clear hd3 hb3 ho3 ho2 ho2' hca hcs hd HB
      go_wp2_with fail
      go_roundw
      case rel => exact ⟨k + 1, pv', by omega, by omega, by go_num, by rw [HSU.out]; exact HD3.out, HB3.out, HO3.out⟩
      case measure => simp [intOf] <;> omega
    · have HM : Hid (k = min 8 a.length) := Lib.hid (by omega)
      have hsp : (a.length : Int) ≤ (k : Int) ∨ ((k : Int) < (a.length : Int) ∧ (8 : Int) ≤ (k : Int)) := by omega
      clear hgo
      go_upto_region 3 with fail
      go_cut [20] from 13 to 20 (fun s20 wx => s20 = .bool false ∧ wr = wx)
      case first =>
        rcases hsp with h | ⟨h, h'⟩
        · go_wp2_with fail
          go_meet
          exact ⟨rfl, rfl⟩
        · go_wp2_with fail
          go_meet
          exact ⟨congrArg Value.bool (decide_eq_false (by omega)), rfl⟩
      case rest =>
      obtain ⟨rfl, rfl⟩ := hcut
      clear hsp
      have HMA := Lib.hid HM.out
      clear HM
      obtain ⟨hf1, hf2, hf3⟩ := fillTo_facts (D.new 6) a sAcut k hkl
      obtain ⟨D0, hD0⟩ : ∃ D0, D0 = (fillTo (D.new 6) a k).sync := ⟨_, rfl⟩
      have hsy := sync_any wr p kb pv _ hd (by simp [D.power, hf2])
      have hok := hd.ok
      rw [← hD0] at hsy
      have HD0 := Lib.hid hD0
      have sBcut : D0.cut = false := by rw [hD0]; simp only [D.sync, D.spent_cut]; exact hf2
      have sBkept : D0.kept.length = 6 := by rw [hD0]; simp only [D.sync, D.layAll_length]; rw [hf1]; exact sAkept
      have sBpend : D0.pend.length = 0 := by rw [hD0]; rfl
      clear hD0 hf1 hf2 hf3
      have HA := Lib.hid hb
      have HHD := Lib.hid hd
      clear hb hd
      go_wp2_with (go_at_call 45; refine hsy.mono ?_; rintro e w2 ⟨rfl, hd2, ho2, hs2⟩)
      have sB : DAt w2 p kb (.slice none 0 0) (fillTo D0 b 0) ∧ (∀ x, fp p kb (.slice none 0 0) x → w.heap.size ≤ x) ∧ Only (fun _ => False) w w2 := ⟨hd2, (fun x hx => by
        rcases hx with h | h | h
        · exact HA.out x (.inl h)
        · exact HA.out x (.inr (.inl h))
        · cases h), hor.trans' ho2 (fun y hy h => by have := HA.out y h; omega)⟩
      clear hd2 ho2 hs2 hor HHD hsy hok
      go_loopw [8] (fun i wr => ∃ (k : Nat) (pv : Value), k ≤ 8 ∧ k ≤ b.length ∧ i = .int .i64 k ∧ DAt wr p kb pv (fillTo D0 b k) ∧ (∀ x, fp p kb pv x → w.heap.size ≤ x) ∧ Only (fun _ => False) w wr) (fun i _ => 8 - (intOf i).toNat)
      case atStart => exact ⟨0, _, by omega, by omega, rfl, sB⟩
      case round =>
        obtain ⟨k, pv, hk, hkl, rfl, hd, hb, hor⟩ := hrel
        by_cases hgo : k < b.length ∧ k < 8
        · obtain ⟨h1, h2⟩ := hgo
          obtain ⟨gl, ol, rfl, hc⟩ := cl_at (hsB.only (hor.trans (Only.drew _ _))) k h1
          have hwf := bwf _ (List.getElem_mem h1)
          have hca := hc 1 _ rfl
          have hcs := hc 2 _ rfl
          have HSU := Lib.hid (fillTo_succ D0 b k h1)
          unfold wrC at HSU
          obtain ⟨hf1, hf2, hf3⟩ := fillTo_facts D0 b sBcut k hkl
          have PK := Lib.hid (fun W => pick02_any W b[k].at_ 6 hwf.at_ (by decide) (by decide))
          have hp := pickI_lt b[k].at_ 6 (by decide)
          obtain ⟨q, hq⟩ : ∃ q : Nat, (q : Int) = pickI b[k].at_ 6 := ⟨(pickI b[k].at_ 6).toNat, by omega⟩
          rw [← hq] at PK hp HSU
          rw [Int.toNat_natCast] at HSU
          have FU := Lib.hid (fun W => full_any W b[k].s hwf.s)
          have hfl := fullL_length b[k].s
          have hq6 : q < 6 := by omega
          clear hq hwf
          generalize b[k] = c at hca hcs PK FU HSU hfl
          generalize fullL c.s = fs at FU HSU hfl
          generalize fillTo D0 b k = d at hd HSU hf1 hf2 hf3
          have HB := Lib.hid hb
          have hkept : d.kept.length = 6 := by rw [hf1]; exact sBkept
          have hpl : d.pend.length < 1000000 := by have := sBpend; omega
          have hI1 : (k : Int) < (b.length : Int) := by omega
          have hI2 : (k : Int) < 8 := by omega
          clear hb hc
          go_upto_region 10 with fail
          refine wp_region_pick (fun W => W.cell? ⟨gl, ol + k * 6 + 1, none⟩ = some (.int .i64 c.at_) ∧ W.cell? ⟨gl, ol + k * 6 + 2, none⟩ = some (.string ⟨c.s.toArray⟩)) [(0, 0), (1, 0), (2, 0), (3, 0), (4, 0), (5, 1), (7, 0), (8, 0), (9, 0), (10, 0), (11, 1), (6, 2), (12, 2), (13, 3)] (by kernel_rfl) (by kernel_rfl) (fun _ _ d _ _ h => by cases d <;> exact h) ⟨hca, hcs⟩ ?_
          simp only [pickOps, List.getElem?_cons_zero, List.getElem?_cons_succ]
          iterate 5 (refine wpL_pure (a' := ?_) ?_ rfl (fun W => ?_) ?_ ?_; rotate_left 2; (· go_simp; first | (go_bits; with_reducible rfl) | with_reducible rfl); (· simp only [put_some, List.setIfInBounds_toArray, List.set_cons_zero, List.set_cons_succ]; rfl))
          (refine wpL_held (a' := ?_) ?_ rfl (fun W hW => ?_) ?_ ?_; rotate_left 2; (· obtain ⟨hW1, hW2⟩ := hW; go_simp; first | (go_bits; with_reducible rfl) | with_reducible rfl); (· simp only [put_some, List.setIfInBounds_toArray, List.set_cons_zero, List.set_cons_succ]; rfl))
          iterate 4 (refine wpL_pure (a' := ?_) ?_ rfl (fun W => ?_) ?_ ?_; rotate_left 2; (· go_simp; first | (go_bits; with_reducible rfl) | with_reducible rfl); (· simp only [put_some, List.setIfInBounds_toArray, List.set_cons_zero, List.set_cons_succ]; rfl))
          (refine wpL_held (a' := ?_) ?_ rfl (fun W hW => ?_) ?_ ?_; rotate_left 2; (· obtain ⟨hW1, hW2⟩ := hW; go_simp; first | (go_bits; with_reducible rfl) | with_reducible rfl); (· simp only [put_some, List.setIfInBounds_toArray, List.set_cons_zero, List.set_cons_succ]; rfl))
          refine wpL_stepCall (f := 42) (args := #[.int .i64 c.at_, .int .i64 6]) rfl (by kernel_rfl) ((PK.out _).mono ?_)
          rintro ev wv ⟨rfl, rfl⟩
          refine ⟨_, rfl, ⟨hca, hcs⟩, ?_⟩
          simp only [put_some, List.setIfInBounds_toArray, List.set_cons_zero, List.set_cons_succ]
          refine wpL_stepCall (f := 43) (args := #[.string ⟨c.s.toArray⟩]) rfl (by kernel_rfl) ((FU.out _).mono ?_)
          rintro ev w2 ⟨rfl, ho2⟩
          have ho2' := (Only.drew wr (fun _ => False)).trans ho2
          refine ⟨_, rfl, ⟨by rw [ho2.cell (World.block_lt_of_cell? _ _ hca) id]; exact hca, by rw [ho2.cell (World.block_lt_of_cell? _ _ hcs) id]; exact hcs⟩, ?_⟩
          simp only [put_some, List.setIfInBounds_toArray, List.set_cons_zero, List.set_cons_succ]
          refine wpL_lastCall (f := 46) (args := #[.pointer (some ⟨p, 0, none⟩), .int .i64 (q : Int), .string ⟨fs.toArray⟩]) rfl (by kernel_rfl) ((round_write w w2 w.heap.size p kb pv d q fs (hd.only ho2' (fun _ _ => id)) HB.out rfl (hor.trans ho2') (by omega) hfl hf2 hpl).mono ?_)
          rintro ev w3 ⟨pv', rfl, hd3, hb3, ho3, _, _⟩
          refine ⟨_, rfl, ?_⟩
          simp only [put_some, List.setIfInBounds_toArray, List.set_cons_zero, List.set_cons_succ]
          refine wpL_nil ?_
          have HD3 := Lib.hid hd3
          have HB3 := Lib.hid hb3
          have HO3 := Lib.hid ho3
          clear hd3 hb3 ho3 ho2 ho2' hca hcs hd HB
          go_wp2_with fail
          go_roundw
          case rel => exact ⟨k + 1, pv', by omega, by omega, by go_num, by rw [HSU.out]; exact HD3.out, HB3.out, HO3.out⟩
          case measure => simp [intOf] <;> omega
        · have HM : Hid (k = min 8 b.length) := Lib.hid (by omega)
          have hsp : (b.length : Int) ≤ (k : Int) ∨ ((k : Int) < (b.length : Int) ∧ (8 : Int) ≤ (k : Int)) := by omega
          clear hgo
          go_upto_region 8 with fail
          go_cut [46] from 39 to 46 (fun s46 wx => s46 = .bool false ∧ wr = wx)
          case first =>
            rcases hsp with h | ⟨h, h'⟩
            · go_wp2_with fail
              go_meet
              exact ⟨rfl, rfl⟩
            · go_wp2_with fail
              go_meet
              exact ⟨congrArg Value.bool (decide_eq_false (by omega)), rfl⟩
          case rest =>
          obtain ⟨rfl, rfl⟩ := hcut
          go_wp2_with fail
          go_ret
          exact ⟨p, kb, pv, rfl, by rw [HFD.out, ← HMA.out, ← HM.out, ← HD0.out]; exact hd, hb, hor⟩
end Go.Proofs.Ytlgefjcfnnjkbaa
