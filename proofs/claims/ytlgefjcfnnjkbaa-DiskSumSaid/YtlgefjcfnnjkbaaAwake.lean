/- awake: two disks, examples. No conditions. -/
import Derived.Test.YtlgefjcfnnjkbaaDK
namespace Go.Proofs.Ytlgefjcfnnjkbaa
open Go.RowKit

def awA : List UInt8 := fullL [97]
def awB : List UInt8 := fullL [98]
def awC : List UInt8 := fullL [99]
def awD : D := (((D.new 2).write 0 awA).write 1 awB).write 0 awC

def awW : List UInt8 := noughts.set 2 3
theorem aw_pend : awD.pend.length = 3 := by decide +kernel
theorem aw_t0 : awD.there 0 = awC := by decide +kernel
theorem aw_t1 : (awD.crash [2, 1]).there 0 = awC := by decide +kernel
theorem aw_t2 : (awD.crash [2, 0]).there 0 = awA := by decide +kernel
theorem aw_t3 : (awD.crash [2, 0]).there 1 = noughts := by decide +kernel
theorem aw_t4 : ((awD.crash [2, 0]).rot 1 2 3).there 1 = awW := by decide +kernel
theorem aw_size : (awD.crash [2, 1]).sync.kept.length = 2 := by decide +kernel
theorem aw_okn : crashOk 0 [] := ⟨fun x h => by simp at h, by simp⟩
theorem aw_far : ¬ (0 ≤ (2 : Int) ∧ (2 : Int) < ((awD.crash [2, 1]).kept.length : Nat)) := by decide +kernel
theorem aw_bad : ¬ crashOk awD.pend.length [3] := by
  rw [aw_pend]; intro h
  have := (h.1 3 (by simp)).2
  omega
theorem aw_ok21 : crashOk awD.pend.length [2, 1] := by
  rw [aw_pend]
  exact ⟨by decide, by decide⟩
theorem aw_ok20 : crashOk awD.pend.length [2, 0] := by
  rw [aw_pend]
  exact ⟨by decide, by decide⟩

set_option maxRecDepth 100000 in
set_option maxHeartbeats 8000000 in
theorem awake_any (w : World) : Calls Try.prog 36 #[] w fun e w' => e = .returned (.bool true) ∧ Only (fun _ => False) w w' := by
  have h0 := Disks.start w
  go_enter Try.func36, Try.ntmps36
  go_wp2_with fail
  refine (dk_new h0 2 (by decide) (by decide)).mono ?_
  rintro e w1 ⟨p, kb, rfl, h1⟩
  have H1 := Lib.hid h1
  clear h1 h0
  go_wp2_with fail
  refine (dk_new H1.out 2 (by decide) (by decide)).mono ?_
  rintro e w2 ⟨q, qb, rfl, h2⟩
  have H2 : Hid (Disks w w2 (fun _ => False) [⟨p, kb, .slice none 0 0, D.new 2⟩, ⟨q, qb, .slice none 0 0, D.new 2⟩]) := Lib.hid h2
  clear h2 H1
  go_wp2_with fail
  have HB := Lib.hid (heap_alloc_new w2 (.cells #[.pointer (some ⟨p, 0, none⟩), .pointer (some ⟨q, 0, none⟩)] 54))
  have H3 := Lib.hid (H2.out.freeze (w' := w2.alloc (.cells #[.pointer (some ⟨p, 0, none⟩), .pointer (some ⟨q, 0, none⟩)] 54)) w2.heap.size (Only.alloc _ _ _) (Nat.le_refl _) (by simp))
  clear H2
  go_loopw [36] (fun i wr => ∃ (k : Nat) (pv qv : Value), k ≤ 2 ∧ i = .int .i64 k ∧ Hid (Disks w wr (fun x => False ∨ x = w2.heap.size) [⟨p, kb, pv, if 0 < k then awD else D.new 2⟩, ⟨q, qb, qv, if 1 < k then awD else D.new 2⟩]) ∧ Hid (wr.heap[w2.heap.size]? = some (.cells #[.pointer (some ⟨p, 0, none⟩), .pointer (some ⟨q, 0, none⟩)] 54 (0, 0)))) (fun i _ => 2 - (intOf i).toNat)
  case atStart => exact ⟨0, _, _, by omega, rfl, H3, HB⟩
  case round =>
    obtain ⟨k, pv, qv, hk, rfl, hD, hB⟩ := hrel
    clear H3 HB
    obtain rfl | rfl | rfl : k = 0 ∨ k = 1 ∨ k = 2 := by omega
    · have hD0 : Hid (Disks w wr (fun x => False ∨ x = w2.heap.size) [⟨p, kb, pv, D.new 2⟩, ⟨q, qb, qv, D.new 2⟩]) := hD
      clear hD
      have c0 := cell_at hB.out 0
      go_wp2_with fail
      refine (dk_full hD0.out [97] (by decide)).mono ?_
      rintro e wf0 ⟨rfl, hf0, hof0⟩
      have hE0 := Lib.hid hf0
      have hB0 := Lib.hid (hof0.keep hB.out (by simp))
      clear hf0 hof0 hD0 hB c0
      go_wp2_with fail
      refine (dk_write hE0.out 0 rfl 0 (fullL [97]) (by decide) (by decide) (by decide) (by decide)).mono ?_
      rintro e wd0 ⟨v0, rfl, hd0, hod0⟩
      have hD1 : Hid (Disks w wd0 (fun x => False ∨ x = w2.heap.size) [⟨p, kb, v0, (D.new 2).write 0 awA⟩, ⟨q, qb, qv, D.new 2⟩]) := Lib.hid hd0
      have hC0 := Lib.hid (hod0.keep hB0.out (by simp))
      clear hd0 hod0 hE0 hB0
      go_wp2_with fail
      refine (dk_full hD1.out [98] (by decide)).mono ?_
      rintro e wf1 ⟨rfl, hf1, hof1⟩
      have hE1 := Lib.hid hf1
      have hB1 := Lib.hid (hof1.keep hC0.out (by simp))
      clear hf1 hof1 hD1 hC0
      go_wp2_with fail
      refine (dk_write hE1.out 0 rfl 1 (fullL [98]) (by decide) (by decide) (by decide) (by decide)).mono ?_
      rintro e wd1 ⟨v1, rfl, hd1, hod1⟩
      have hD2 : Hid (Disks w wd1 (fun x => False ∨ x = w2.heap.size) [⟨p, kb, v1, ((D.new 2).write 0 awA).write 1 awB⟩, ⟨q, qb, qv, D.new 2⟩]) := Lib.hid hd1
      have hC1 := Lib.hid (hod1.keep hB1.out (by simp))
      clear hd1 hod1 hE1 hB1
      go_wp2_with fail
      refine (dk_full hD2.out [99] (by decide)).mono ?_
      rintro e wf2 ⟨rfl, hf2, hof2⟩
      have hE2 := Lib.hid hf2
      have hB2 := Lib.hid (hof2.keep hC1.out (by simp))
      clear hf2 hof2 hD2 hC1
      go_wp2_with fail
      refine (dk_write hE2.out 0 rfl 0 (fullL [99]) (by decide) (by decide) (by decide) (by decide)).mono ?_
      rintro e wd2 ⟨v2, rfl, hd2, hod2⟩
      have hD3 : Hid (Disks w wd2 (fun x => False ∨ x = w2.heap.size) [⟨p, kb, v2, awD⟩, ⟨q, qb, qv, D.new 2⟩]) := Lib.hid hd2
      have hC2 := Lib.hid (hod2.keep hB2.out (by simp))
      clear hd2 hod2 hE2 hB2
      go_wp2_with fail
      go_roundw
      case rel => exact ⟨1, v2, qv, by omega, by go_num, hD3, hC2⟩
      case measure => simp [intOf]
    · have hD0 : Hid (Disks w wr (fun x => False ∨ x = w2.heap.size) [⟨p, kb, pv, awD⟩, ⟨q, qb, qv, D.new 2⟩]) := hD
      clear hD
      have c0 := cell_at hB.out 1
      go_wp2_with fail
      refine (dk_full hD0.out [97] (by decide)).mono ?_
      rintro e wf0 ⟨rfl, hf0, hof0⟩
      have hE0 := Lib.hid hf0
      have hB0 := Lib.hid (hof0.keep hB.out (by simp))
      clear hf0 hof0 hD0 hB c0
      go_wp2_with fail
      refine (dk_write hE0.out 1 rfl 0 (fullL [97]) (by decide) (by decide) (by decide) (by decide)).mono ?_
      rintro e wd0 ⟨v0, rfl, hd0, hod0⟩
      have hD1 : Hid (Disks w wd0 (fun x => False ∨ x = w2.heap.size) [⟨p, kb, pv, awD⟩, ⟨q, qb, v0, (D.new 2).write 0 awA⟩]) := Lib.hid hd0
      have hC0 := Lib.hid (hod0.keep hB0.out (by simp))
      clear hd0 hod0 hE0 hB0
      go_wp2_with fail
      refine (dk_full hD1.out [98] (by decide)).mono ?_
      rintro e wf1 ⟨rfl, hf1, hof1⟩
      have hE1 := Lib.hid hf1
      have hB1 := Lib.hid (hof1.keep hC0.out (by simp))
      clear hf1 hof1 hD1 hC0
      go_wp2_with fail
      refine (dk_write hE1.out 1 rfl 1 (fullL [98]) (by decide) (by decide) (by decide) (by decide)).mono ?_
      rintro e wd1 ⟨v1, rfl, hd1, hod1⟩
      have hD2 : Hid (Disks w wd1 (fun x => False ∨ x = w2.heap.size) [⟨p, kb, pv, awD⟩, ⟨q, qb, v1, ((D.new 2).write 0 awA).write 1 awB⟩]) := Lib.hid hd1
      have hC1 := Lib.hid (hod1.keep hB1.out (by simp))
      clear hd1 hod1 hE1 hB1
      go_wp2_with fail
      refine (dk_full hD2.out [99] (by decide)).mono ?_
      rintro e wf2 ⟨rfl, hf2, hof2⟩
      have hE2 := Lib.hid hf2
      have hB2 := Lib.hid (hof2.keep hC1.out (by simp))
      clear hf2 hof2 hD2 hC1
      go_wp2_with fail
      refine (dk_write hE2.out 1 rfl 0 (fullL [99]) (by decide) (by decide) (by decide) (by decide)).mono ?_
      rintro e wd2 ⟨v2, rfl, hd2, hod2⟩
      have hD3 : Hid (Disks w wd2 (fun x => False ∨ x = w2.heap.size) [⟨p, kb, pv, awD⟩, ⟨q, qb, v2, awD⟩]) := Lib.hid hd2
      have hC2 := Lib.hid (hod2.keep hB2.out (by simp))
      clear hd2 hod2 hE2 hB2
      go_wp2_with fail
      go_roundw
      case rel => exact ⟨2, pv, v2, by omega, by go_num, hD3, hC2⟩
      case measure => simp [intOf]
    · have hD2' : Hid (Disks w wr (fun x => False ∨ x = w2.heap.size) [⟨p, kb, pv, awD⟩, ⟨q, qb, qv, awD⟩]) := hD
      clear hD hB hk
      go_wp2_with fail
      refine (pending_any wr p kb pv awD (hD2'.out.at_ 0 _ rfl)).mono ?_
      rintro e x0 ⟨rfl, rfl⟩
      rw [aw_pend]
      go_wp2_with fail
      have hr := dk_read hD2'.out 0 rfl 0 (by decide)
      rw [aw_t0] at hr
      refine (hr).mono ?_
      rintro e x1 ⟨rfl, h, ho⟩
      have HD1 : Hid (Disks w x1 (fun x => False ∨ x = w2.heap.size) [⟨p, kb, pv, awD⟩, ⟨q, qb, qv, awD⟩]) := Lib.hid h
      clear h ho hD2'
      clear hr
      go_wp2_with fail
      have HI2 := Lib.hid (ints_block (g := x1.heap.size) (w := (x1.alloc (.cells #[.int .i64 3] 3))) (t := 3) [3] (heap_alloc_new x1 _) (by decide) (by decide) 1)
      have HQ2 := Lib.hid (HD1.out.quiet (Only.alloc x1 (.cells #[.int .i64 3] 3) _))
      refine (dk_crash_bad HQ2.out 0 rfl _ _ _ _ HI2.out aw_bad (by decide)).mono ?_
      rintro e x3 ⟨rfl, h, ho⟩
      have HD3 : Hid (Disks w x3 (fun x => False ∨ x = w2.heap.size) [⟨p, kb, pv, awD⟩, ⟨q, qb, qv, awD⟩]) := Lib.hid h
      clear h ho HD1
      clear HQ2 HI2
      go_wp2_with fail
      have HI4 := Lib.hid (ints_block (g := x3.heap.size) (w := (x3.alloc (.cells #[.int .i64 2, .int .i64 1] 3))) (t := 3) [2, 1] (heap_alloc_new x3 _) (by decide) (by decide) 2)
      have HQ4 := Lib.hid (HD3.out.quiet (Only.alloc x3 (.cells #[.int .i64 2, .int .i64 1] 3) _))
      refine (dk_crash HQ4.out 0 rfl _ _ _ _ HI4.out aw_ok21 (by decide)).mono ?_
      rintro e x5 ⟨rfl, h, ho⟩
      have HD5 : Hid (Disks w x5 (fun x => False ∨ x = w2.heap.size) [⟨p, kb, (.slice none 0 0), awD.crash [2, 1]⟩, ⟨q, qb, qv, awD⟩]) := Lib.hid h
      clear h ho HD3
      clear HQ4 HI4
      go_wp2_with fail
      have HI6 := Lib.hid (ints_block (g := x5.heap.size) (w := (x5.alloc (.cells #[.int .i64 2, .int .i64 0] 3))) (t := 3) [2, 0] (heap_alloc_new x5 _) (by decide) (by decide) 2)
      have HQ6 := Lib.hid (HD5.out.quiet (Only.alloc x5 (.cells #[.int .i64 2, .int .i64 0] 3) _))
      refine (dk_crash HQ6.out 1 rfl _ _ _ _ HI6.out aw_ok20 (by decide)).mono ?_
      rintro e x7 ⟨rfl, h, ho⟩
      have HD7 : Hid (Disks w x7 (fun x => False ∨ x = w2.heap.size) [⟨p, kb, (.slice none 0 0), awD.crash [2, 1]⟩, ⟨q, qb, (.slice none 0 0), awD.crash [2, 0]⟩]) := Lib.hid h
      clear h ho HD5
      clear HQ6 HI6
      go_wp2_with fail
      have hr := dk_read HD7.out 0 rfl 0 (by decide)
      rw [aw_t1] at hr
      refine (hr).mono ?_
      rintro e x8 ⟨rfl, h, ho⟩
      have HD8 : Hid (Disks w x8 (fun x => False ∨ x = w2.heap.size) [⟨p, kb, (.slice none 0 0), awD.crash [2, 1]⟩, ⟨q, qb, (.slice none 0 0), awD.crash [2, 0]⟩]) := Lib.hid h
      clear h ho HD7
      clear hr
      go_wp2_with fail
      have hr := dk_read HD8.out 1 rfl 0 (by decide)
      rw [aw_t2] at hr
      refine (hr).mono ?_
      rintro e x9 ⟨rfl, h, ho⟩
      have HD9 : Hid (Disks w x9 (fun x => False ∨ x = w2.heap.size) [⟨p, kb, (.slice none 0 0), awD.crash [2, 1]⟩, ⟨q, qb, (.slice none 0 0), awD.crash [2, 0]⟩]) := Lib.hid h
      clear h ho HD8
      clear hr
      go_wp2_with fail
      have hr := dk_read HD9.out 1 rfl 1 (by decide)
      rw [aw_t3] at hr
      refine (hr).mono ?_
      rintro e x10 ⟨rfl, h, ho⟩
      have HD10 : Hid (Disks w x10 (fun x => False ∨ x = w2.heap.size) [⟨p, kb, (.slice none 0 0), awD.crash [2, 1]⟩, ⟨q, qb, (.slice none 0 0), awD.crash [2, 0]⟩]) := Lib.hid h
      clear h ho HD9
      clear hr
      go_wp2_with fail
      refine (dk_rot HD10.out 1 rfl 1 2 3 (by decide) (by decide) (by decide)).mono ?_
      rintro e x11 ⟨rfl, h, ho⟩
      have HD11 : Hid (Disks w x11 (fun x => False ∨ x = w2.heap.size) [⟨p, kb, (.slice none 0 0), awD.crash [2, 1]⟩, ⟨q, qb, (.slice none 0 0), (awD.crash [2, 0]).rot 1 2 3⟩]) := Lib.hid h
      clear h ho HD10
      go_wp2_with fail
      have hr := dk_read HD11.out 1 rfl 1 (by decide)
      rw [aw_t4] at hr
      refine (hr).mono ?_
      rintro e x12 ⟨rfl, h, ho⟩
      have HD12 : Hid (Disks w x12 (fun x => False ∨ x = w2.heap.size) [⟨p, kb, (.slice none 0 0), awD.crash [2, 1]⟩, ⟨q, qb, (.slice none 0 0), (awD.crash [2, 0]).rot 1 2 3⟩]) := Lib.hid h
      clear h ho HD11
      clear hr
      go_wp2_with fail
      have hz : (⟨awW.toArray⟩ : ByteArray).size = 64 := by decide +kernel
      refine (new_bad _ 769 (by decide)).mono ?_
      rintro e xn ⟨rfl, rfl⟩
      go_wp2_with fail
      refine (dk_full HD12.out [99] (by decide)).mono ?_
      rintro e x13 ⟨rfl, h, ho⟩
      have HD13 : Hid (Disks w x13 (fun x => False ∨ x = w2.heap.size) [⟨p, kb, (.slice none 0 0), awD.crash [2, 1]⟩, ⟨q, qb, (.slice none 0 0), (awD.crash [2, 0]).rot 1 2 3⟩]) := Lib.hid h
      clear h ho HD12
      rw [show fullL [99] = awC from rfl]
      go_wp2_with fail
      refine (dk_full HD13.out [99] (by decide)).mono ?_
      rintro e x14 ⟨rfl, h, ho⟩
      have HD14 : Hid (Disks w x14 (fun x => False ∨ x = w2.heap.size) [⟨p, kb, (.slice none 0 0), awD.crash [2, 1]⟩, ⟨q, qb, (.slice none 0 0), (awD.crash [2, 0]).rot 1 2 3⟩]) := Lib.hid h
      clear h ho HD13
      rw [show fullL [99] = awC from rfl]
      go_wp2_with fail
      refine (dk_full HD14.out [97] (by decide)).mono ?_
      rintro e x15 ⟨rfl, h, ho⟩
      have HD15 : Hid (Disks w x15 (fun x => False ∨ x = w2.heap.size) [⟨p, kb, (.slice none 0 0), awD.crash [2, 1]⟩, ⟨q, qb, (.slice none 0 0), (awD.crash [2, 0]).rot 1 2 3⟩]) := Lib.hid h
      clear h ho HD14
      rw [show fullL [97] = awA from rfl]
      go_wp2_with fail
      refine (dk_full HD15.out [] (by decide)).mono ?_
      rintro e x16 ⟨rfl, h, ho⟩
      have HD16 : Hid (Disks w x16 (fun x => False ∨ x = w2.heap.size) [⟨p, kb, (.slice none 0 0), awD.crash [2, 1]⟩, ⟨q, qb, (.slice none 0 0), (awD.crash [2, 0]).rot 1 2 3⟩]) := Lib.hid h
      clear h ho HD15
      rw [show fullL [] = noughts from rfl]
      go_wp2_with fail
      refine (dk_full HD16.out [97] (by decide)).mono ?_
      rintro e x17 ⟨rfl, h, ho⟩
      have HD17 : Hid (Disks w x17 (fun x => False ∨ x = w2.heap.size) [⟨p, kb, (.slice none 0 0), awD.crash [2, 1]⟩, ⟨q, qb, (.slice none 0 0), (awD.crash [2, 0]).rot 1 2 3⟩]) := Lib.hid h
      clear h ho HD16
      rw [show fullL [97] = awA from rfl]
      go_wp2_with fail
      refine (write_badAt _ p kb (.slice none 0 0) (awD.crash [2, 1]) 2 _ (HD17.out.at_ 0 _ rfl) aw_far).mono ?_
      rintro e xn ⟨rfl, rfl⟩
      go_wp2_with fail
      refine (write_badLen _ p kb (.slice none 0 0) (awD.crash [2, 1]) 0 ⟨#[97]⟩ (HD17.out.at_ 0 _ rfl) (by decide)).mono ?_
      rintro e xn ⟨rfl, rfl⟩
      go_wp2_with fail
      refine (dk_sync HD17.out 0 rfl (by decide)).mono ?_
      rintro e x18 ⟨rfl, h, ho⟩
      have HD18 : Hid (Disks w x18 (fun x => False ∨ x = w2.heap.size) [⟨p, kb, (.slice none 0 0), (awD.crash [2, 1]).sync⟩, ⟨q, qb, (.slice none 0 0), (awD.crash [2, 0]).rot 1 2 3⟩]) := Lib.hid h
      clear h ho HD17
      go_wp2_with fail
      refine (size_any _ p kb (.slice none 0 0) (awD.crash [2, 1]).sync (HD18.out.at_ 0 _ rfl)).mono ?_
      rintro e xn ⟨rfl, rfl⟩
      rw [aw_size]
      go_wp2_with fail
      refine (dk_cut HD18.out 0 rfl 1 (by decide)).mono ?_
      rintro e x19 ⟨rfl, h, ho⟩
      have HD19 : Hid (Disks w x19 (fun x => False ∨ x = w2.heap.size) [⟨p, kb, (.slice none 0 0), (awD.crash [2, 1]).sync.cutAt 1⟩, ⟨q, qb, (.slice none 0 0), (awD.crash [2, 0]).rot 1 2 3⟩]) := Lib.hid h
      clear h ho HD18
      go_wp2_with fail
      refine (dk_sync HD19.out 0 rfl (by decide)).mono ?_
      rintro e x20 ⟨rfl, h, ho⟩
      have HD20 : Hid (Disks w x20 (fun x => False ∨ x = w2.heap.size) [⟨p, kb, (.slice none 0 0), ((awD.crash [2, 1]).sync.cutAt 1).sync⟩, ⟨q, qb, (.slice none 0 0), (awD.crash [2, 0]).rot 1 2 3⟩]) := Lib.hid h
      clear h ho HD19
      go_wp2_with fail
      refine (dk_sync_nopower HD20.out 0 rfl (by decide)).mono ?_
      rintro e x21 ⟨rfl, h, ho⟩
      have HD21 : Hid (Disks w x21 (fun x => False ∨ x = w2.heap.size) [⟨p, kb, (.slice none 0 0), ((awD.crash [2, 1]).sync.cutAt 1).sync⟩, ⟨q, qb, (.slice none 0 0), (awD.crash [2, 0]).rot 1 2 3⟩]) := Lib.hid h
      clear h ho HD20
      go_wp2_with fail
      refine (dk_full HD21.out [120] (by decide)).mono ?_
      rintro e x22 ⟨rfl, h, ho⟩
      have HD22 : Hid (Disks w x22 (fun x => False ∨ x = w2.heap.size) [⟨p, kb, (.slice none 0 0), ((awD.crash [2, 1]).sync.cutAt 1).sync⟩, ⟨q, qb, (.slice none 0 0), (awD.crash [2, 0]).rot 1 2 3⟩]) := Lib.hid h
      clear h ho HD21
      go_wp2_with fail
      refine (dk_write_nopower HD22.out 0 rfl 0 (fullL [120]) (by decide) (by decide) (by decide)).mono ?_
      rintro e x23 ⟨rfl, h, ho⟩
      have HD23 : Hid (Disks w x23 (fun x => False ∨ x = w2.heap.size) [⟨p, kb, (.slice none 0 0), ((awD.crash [2, 1]).sync.cutAt 1).sync⟩, ⟨q, qb, (.slice none 0 0), (awD.crash [2, 0]).rot 1 2 3⟩]) := Lib.hid h
      clear h ho HD22
      go_wp2_with fail
      refine (dk_crash HD23.out 0 rfl [] _ none 0 ⟨rfl, by decide, fun j x h => by simp at h, fun x h => by simp at h⟩ aw_okn (by decide)).mono ?_
      rintro e x24 ⟨rfl, h, ho⟩
      have HD24 : Hid (Disks w x24 (fun x => False ∨ x = w2.heap.size) [⟨p, kb, (.slice none 0 0), (((awD.crash [2, 1]).sync.cutAt 1).sync).crash []⟩, ⟨q, qb, (.slice none 0 0), (awD.crash [2, 0]).rot 1 2 3⟩]) := Lib.hid h
      clear h ho HD23
      go_wp2_with fail
      refine (dk_sync HD24.out 0 rfl (by decide)).mono ?_
      rintro e x25 ⟨rfl, h, ho⟩
      have HD25 : Hid (Disks w x25 (fun x => False ∨ x = w2.heap.size) [⟨p, kb, (.slice none 0 0), ((((awD.crash [2, 1]).sync.cutAt 1).sync).crash []).sync⟩, ⟨q, qb, (.slice none 0 0), (awD.crash [2, 0]).rot 1 2 3⟩]) := Lib.hid h
      clear h ho HD24
      go_wp2_with fail
      go_ret
      exact ⟨rfl, HD25.out.only⟩
end Go.Proofs.Ytlgefjcfnnjkbaa
