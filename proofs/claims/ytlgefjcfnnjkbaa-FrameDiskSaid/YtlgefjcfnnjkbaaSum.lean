/- wire.Sum returns the CRC-32 of its bytes; it makes new blocks alone. No conditions but the model's bound on a string's length. -/
import Derived.Test.YtlgefjcfnnjkbaaProg
import Derived.Test.YtlgefjcfnnjkbaaCrc
import Derived.Test.YtlgefjcfnnjkbaaBase
namespace Go.Proofs.Ytlgefjcfnnjkbaa
open Go.RowKit

theorem crcBits_succ' (k c : Nat) : crcBits (k + 1) c = crcBit (crcBits k c) := by
  induction k generalizing c with
  | zero => rfl
  | succ k ih => rw [crcBits, ih (crcBit c)]; rfl

theorem xor_poly (x : Nat) (hx : x < 4294967296) : bits BinOp.xor IntKind.u32 ((x : Int) / 2) 3988292384 = ((x / 2 ^^^ 3988292384 : Nat) : Int) := by
  have := u32_xor_nat (x / 2) 3988292384 (by omega) (by omega)
  simpa using this

set_option maxHeartbeats 1000000 in
theorem turn_any (b : UInt8) (c : Nat) (cb : Nat) (w : World) (hc : c < 4294967296) (hw : w.heap[cb]? = some (.cells #[.int .u32 (c : Int)] 83 (0, 0))) :
    Calls Try.prog 56 #[.int .u8 (b.toNat : Int), .pointer (some ⟨cb, 0, none⟩)] w fun e w' => e = .returned (.tuple #[]) ∧ w'.heap[cb]? = some (.cells #[.int .u32 (crcByte c b.toNat : Int)] 83 (0, 0)) ∧ w.grownBy w' (some cb) ∧ w'.heap.size = w.heap.size := by
  have h0 := cell_of_one hw
  have hf := free_of_one hw
  have hb := b.toNat_lt
  have hx := u32_xor_nat c b.toNat hc (by omega)
  have hx1 : c ^^^ b.toNat < 4294967296 := xor_lt hc hb
  go_enter Try.func56, Try.ntmps56
  go_wp2
  have HW := Lib.hid hw
  have HX := Lib.hid hx1
  clear hw h0 hf hx hx1
  go_loopw [7] (fun i wr => ∃ k : Nat, k ≤ 8 ∧ i = .int .i64 k ∧ wr.heap[cb]? = some (.cells #[.int .u32 (crcBits k (c ^^^ b.toNat) : Int)] 83 (0, 0)) ∧ w.grownBy wr (some cb) ∧ wr.heap.size = w.heap.size) (fun i _ => 8 - (intOf i).toNat)
  case atStart => exact ⟨0, by omega, rfl, one_setCell HW.out, grownBy_setCell _ _ _ _, by simp⟩
  case round =>
    obtain ⟨k, hk, rfl, hwr, hg, hs⟩ := hrel
    have HG := Lib.hid hg
    have HS := Lib.hid hs
    clear hg hs
    have hx : crcBits k (c ^^^ b.toNat) < 4294967296 := crcBits_lt k HX.out
    obtain ⟨x, hxe⟩ : ∃ x, x = crcBits k (c ^^^ b.toNat) := ⟨_, rfl⟩
    rw [← hxe] at hx hwr
    have HE := Lib.hid hxe
    clear hxe
    have h0 := cell_of_one hwr
    have hf := free_of_one hwr
    have HWR := Lib.hid hwr
    clear hwr
    have hp := xor_poly x hx
    by_cases hlt : k < 8
    · by_cases hodd : x % 2 = 1
      · have ho : ((x : Int) % 2 == 1) = true := by simp; omega
        go_wp2
        go_roundw
        case rel =>
          refine ⟨k + 1, by omega, by go_num, ?_, grownBy_trans HG.out (grownBy_setCell _ _ _ _), by simp [HS.out]⟩
          rw [crcBits_succ', ← HE.out, one_setCell HWR.out]
          simp [crcBit, hodd]
        case measure => simp [intOf]; omega
      · have ho : ((x : Int) % 2 == 1) = false := by simp; omega
        go_wp2
        go_roundw
        case rel =>
          refine ⟨k + 1, by omega, by go_num, ?_, grownBy_trans HG.out (grownBy_setCell _ _ _ _), by simp [HS.out]⟩
          rw [crcBits_succ', ← HE.out, one_setCell HWR.out]
          simp [crcBit, hodd]
        case measure => simp [intOf]; omega
    · go_wp2
      go_end0
      obtain rfl : k = 8 := by omega
      exact ⟨rfl, by rw [HWR.out, HE.out]; rfl, HG.out, HS.out⟩

theorem take_snoc (s : ByteArray) (k : Nat) (h : k < s.size) : s.data.toList.take (k + 1) = s.data.toList.take k ++ [s[k]] := by
  rw [List.take_succ_eq_append_getElem (by simpa using h)]; rfl

theorem crc_snoc (l : List UInt8) (b : UInt8) (c : Nat) : crc (l ++ [b]) c = crcByte (crc l c) b.toNat := by simp [crc]

set_option maxHeartbeats 1000000 in
theorem sum_any (s : ByteArray) (w : World) (hs : s.size ≤ maxLen) :
    Calls Try.prog 35 #[.string s] w fun e w' => e = .returned (.int .i64 (sum s.data.toList : Int)) ∧ Below w.heap.size w w' := by
  unfold maxLen at hs
  go_enter Try.func35, Try.ntmps35
  go_wp2_with fail
  go_loopw [9] (fun i wr => ∃ k : Nat, k ≤ s.size ∧ i = .int .i64 k ∧ wr.heap[w.heap.size]? = some (.cells #[.int .u32 (crc (s.data.toList.take k) 4294967295 : Int)] 83 (0, 0)) ∧ Below w.heap.size w wr ∧ w.heap.size < wr.heap.size) (fun i _ => s.size - (intOf i).toNat)
  case atStart => exact ⟨0, by omega, rfl, heap_alloc_new _ _, (Below.refl _ _).alloc (Nat.le_refl _) _, by simp⟩
  case round =>
    obtain ⟨k, hk, rfl, hwr, hg, hsz⟩ := hrel
    have hc : crc (s.data.toList.take k) 4294967295 < 4294967296 := crc_lt _ (by omega)
    have HG := Lib.hid hg
    have HWR := Lib.hid hwr
    have h0 := cell_of_one hwr
    clear hg hwr
    by_cases hlt : k < s.size
    · go_wp2_with (go_at_call 56; refine (turn_any s[k] _ _ _ hc HWR.out).mono ?_; rintro e w' ⟨rfl, hh, hg, hz⟩)
      have HH := Lib.hid hh
      have HG2 := Lib.hid hg
      clear hh hg h0
      go_wp2
      go_roundw
      case rel => exact ⟨k + 1, by omega, by go_num, by rw [take_snoc s k hlt, crc_snoc]; exact HH.out, HG.out.grown HG2.out (Nat.le_of_lt hsz) (fun j e => by cases e; exact Nat.le_refl _), by omega⟩
      case measure => simp [intOf]; omega
    · obtain rfl : k = s.size := by omega
      obtain ⟨y, hy⟩ : ∃ y, y = sum s.data.toList := ⟨_, rfl⟩
      have hylt : y < 4294967296 := by rw [hy]; exact sum_lt _
      have hx : bits BinOp.xor IntKind.u32 (4294967295 : Int) (crc (s.data.toList.take s.size) 4294967295 : Int) = (y : Int) := by
        have h := u32_xor_nat 4294967295 _ (by omega) hc
        rw [hy, sum, Nat.xor_comm]
        rw [List.take_of_length_le (by simp)] at h ⊢
        exact h
      have hsg : IntKind.u32.signed = false := rfl
      have hmx : IntKind.u32.max = 4294967295 := by decide
      have HY := Lib.hid hy
      clear hy
      go_wp2
      go_ret
      exact ⟨by rw [← HY.out]; rfl, HG.out⟩
end Go.Proofs.Ytlgefjcfnnjkbaa
