/- The reference's bytes, sum, Lay, Read. No conditions. -/
import Derived.Test.YtlgefjcfnnjkbaaFrame4
namespace Go.Proofs.Ytlgefjcfnnjkbaa
open Go.RowKit

theorem append_list (a b : List UInt8) : (⟨a.toArray⟩ : ByteArray) ++ ⟨b.toArray⟩ = ⟨(a ++ b).toArray⟩ := by
  apply ByteArray.ext
  simp

set_option maxHeartbeats 1000000 in
theorem bytes_any (w : World) (n many : Nat) (hn : n ≤ 9223372036854775807) (hm : many ≤ 8) :
    Calls Try.prog 52 #[.int .i64 (n : Int), .int .i64 (many : Int)] w fun e w' => e = .returned (.string ⟨(be many n).toArray⟩) ∧ Only (fun _ => False) w w' := by
  go_enter Try.func52, Try.ntmps52
  go_wp2
  go_loopw [0, 5, 6] (fun x o i wr => ∃ k : Nat, k ≤ many ∧ i = .int .i64 k ∧ x = .int .i64 ((n / 256 ^ k : Nat) : Int) ∧ o = .string ⟨(be k n).toArray⟩ ∧ Only (fun _ => False) w wr) (fun x o i _ => many - (intOf i).toNat)
  case atStart => exact ⟨0, by omega, rfl, by simp, rfl, Only.refl _ _⟩
  case round =>
    obtain ⟨k, hk, rfl, rfl, rfl, hor⟩ := hrel
    obtain ⟨x, hx⟩ : ∃ x, x = n / 256 ^ k := ⟨_, rfl⟩
    have hxl : x ≤ 9223372036854775807 := by rw [hx]; exact Nat.le_trans (Nat.div_le_self _ _) hn
    have hx' : n / 256 ^ (k + 1) = x / 256 := by rw [hx, Nat.pow_succ, Nat.div_div_eq_div_mul]
    have hbe : be (k + 1) n = UInt8.ofNat (x % 256) :: be k n := by rw [be_front, hx]
    have HBE := Lib.hid hbe
    have HX := Lib.hid hx'
    rw [← hx]
    clear hx hbe hx'
    have happ := append_list [UInt8.ofNat (x % 256)] (be k n)
    rw [List.singleton_append, ← HBE.out] at happ
    have hle := be_length k n
    have hle1 := be_length (k + 1) n
    obtain ⟨o, ho⟩ : ∃ o, o = be k n := ⟨_, rfl⟩
    obtain ⟨o1, ho1⟩ : ∃ o, o = be (k + 1) n := ⟨_, rfl⟩
    rw [← ho] at happ hle ⊢
    rw [← ho1] at happ hle1
    have HO1 := Lib.hid ho1
    have HO := Lib.hid ho
    clear ho ho1 HBE
    have hbv : bv (UInt8.ofNat (x % 256)) = .int .u8 ((x : Int) % 256) := by simp [bv]
    have HBV := Lib.hid hbv
    clear hbv
    generalize UInt8.ofNat (x % 256) = b at happ HBV
    by_cases hlt : k < many
    · go_wp2_with (first
        | ((with_reducible refine wpList_buildSlice_bytes 5 (.int .u8 0) 1 [b] ?_ ?_ ?_ ?_ ?_ ?_ ?_); (· rfl); (· exact Try.underlying30); (· exact Try.info5); (· decide); (· decide); (· simp only [bvs, List.map_toArray, List.map_cons, List.map_nil, HBV.out, List.zipIdx_cons, List.zipIdx_nil]; go_simp))
        | ((with_reducible refine wpList_bytes_string (src := 30) (dT := 9) 5 wr.heap.size 0 1 1 [b] ?_ ?_ ?_ ?_ ?_ ?_ ?_); (· exact Try.underlying30); (· exact Try.underlying5); (· exact Try.underlying9); (· rfl); (· exact has_of_block' (l := bvs [b]) (heap_alloc_new wr _) rfl); (· rfl)))
      go_roundw
      case rel =>
        refine ⟨k + 1, by omega, by go_num, ?_, ?_, ?_⟩
        · rw [HX.out]; simp
        · rw [HO1.out]
        · exact hor.trans (Only.alloc _ _ _)
      case measure => simp [intOf]; omega
    · obtain rfl : k = many := by omega
      go_wp2
      go_ret
      exact ⟨by rw [← HO.out]; rfl, hor⟩

/-! ### Sum by the reference -/
theorem i64_xor_poly (x : Nat) (hx : x < 4294967296) : bits BinOp.xor IntKind.i64 ((x : Int) / 2) 3988292384 = ((x / 2 ^^^ 3988292384 : Nat) : Int) := by
  have := i64_xor_nat (x / 2) 3988292384 (by omega) (by omega)
  simpa using this

theorem i64_xor_full (x : Nat) (hx : x < 4294967296) : bits BinOp.xor IntKind.i64 (x : Int) 4294967295 = ((x ^^^ 4294967295 : Nat) : Int) := by
  have := i64_xor_nat x 4294967295 (by omega) (by omega)
  simpa using this

theorem take_snocL (l : List UInt8) (k : Nat) (h : k < l.length) : l.take (k + 1) = l.take k ++ [l[k]] := List.take_succ_eq_append_getElem h

set_option maxHeartbeats 2000000 in
theorem refSum_any (l : List UInt8) (w : World) (hs : l.length ≤ maxLen) :
    Calls Try.prog 53 #[.string ⟨l.toArray⟩] w fun e w' => e = .returned (.int .i64 (sum l : Int)) ∧ w = w' := by
  unfold maxLen at hs
  have hz := size_toArray l
  go_enter Try.func53, Try.ntmps53
  go_wp2_with fail
  go_loopw [3, 4] (fun c i wr => ∃ k : Nat, k ≤ l.length ∧ i = .int .i64 k ∧ c = .int .i64 (crc (l.take k) 4294967295 : Int) ∧ w = wr) (fun c i _ => l.length - (intOf i).toNat)
  case atStart => exact ⟨0, by omega, rfl, rfl, rfl⟩
  case round =>
    obtain ⟨k, hk, rfl, rfl, rfl⟩ := hrel
    have hc : crc (l.take k) 4294967295 < 4294967296 := crc_lt _ (by omega)
    by_cases hlt : k < l.length
    · have hb := byte_at l k (by rw [hz]; exact hlt)
      rw [List.getD_eq_getElem?_getD, List.getElem?_eq_getElem hlt, Option.getD_some] at hb
      have hbl := (l[k]).toNat_lt
      have HS := Lib.hid (show crc (l.take (k + 1)) 4294967295 = crc (l.take k ++ [l[k]]) 4294967295 by rw [take_snocL l k hlt])
      have HT := Lib.hid (crc_snoc (l.take k) l[k] 4294967295)
      generalize l[k] = b at hb hbl HS HT
      obtain ⟨c, hcc⟩ : ∃ c, c = crc (l.take k) 4294967295 := ⟨_, rfl⟩
      rw [← hcc] at hc HT ⊢
      clear hcc
      have hx := i64_xor_nat c b.toNat (by omega) (by omega)
      have HX := Lib.hid (xor_lt hc hbl)
      go_wp2_with fail
      clear hx hb
      go_loopw [3, 5] (fun y j wr => ∃ m : Nat, m ≤ 8 ∧ j = .int .i64 m ∧ y = .int .i64 (crcBits m (c ^^^ b.toNat) : Int) ∧ w = wr) (fun y j _ => 8 - (intOf j).toNat)
      case atStart => exact ⟨0, by omega, rfl, rfl, rfl⟩
      case round =>
        obtain ⟨m, hm, rfl, rfl, rfl⟩ := hrel
        have hx : crcBits m (c ^^^ b.toNat) < 4294967296 := crcBits_lt m HX.out
        obtain ⟨x, hxe⟩ : ∃ x, x = crcBits m (c ^^^ b.toNat) := ⟨_, rfl⟩
        rw [← hxe] at hx ⊢
        have HE := Lib.hid hxe
        clear hxe
        have hp := i64_xor_poly x hx
        by_cases hm8 : m < 8
        · by_cases hodd : x % 2 = 1
          · have ho : ((x : Int) % 2 == 1) = true := by simp; omega
            go_wp2_with fail
            go_roundw
            case rel =>
              refine ⟨m + 1, by omega, by go_num, ?_, trivial⟩
              rw [crcBits_succ', ← HE.out]
              simp [crcBit, hodd]
            case measure => simp [intOf]; omega
          · have ho : ((x : Int) % 2 == 1) = false := by simp; omega
            go_wp2_with fail
            go_roundw
            case rel =>
              refine ⟨m + 1, by omega, by go_num, ?_, trivial⟩
              rw [crcBits_succ', ← HE.out]
              simp [crcBit, hodd]
            case measure => simp [intOf]; omega
        · obtain rfl : m = 8 := by omega
          clear hp
          go_wp2_with fail
          go_roundw
          case rel =>
            refine ⟨k + 1, by omega, by go_num, ?_, trivial⟩
            have e := HS.out
            rw [e, HT.out, HE.out]; rfl
          case measure => simp [intOf]; omega
    · obtain rfl : k = l.length := by omega
      rw [List.take_of_length_le (Nat.le_refl _)] at hc ⊢
      obtain ⟨c, hcc⟩ : ∃ c, c = crc l 4294967295 := ⟨_, rfl⟩
      rw [← hcc] at hc ⊢
      have HE := Lib.hid (show sum l = c ^^^ 4294967295 by rw [hcc]; rfl)
      clear hcc
      have hp := i64_xor_full c hc
      go_wp2_with fail
      go_ret
      exact ⟨by rw [HE.out]; rfl, rfl⟩
end Go.Proofs.Ytlgefjcfnnjkbaa
