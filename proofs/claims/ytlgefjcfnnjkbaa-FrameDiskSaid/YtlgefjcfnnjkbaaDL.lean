/- The helpers of the disk statements: pick, Full. No conditions. -/
import Derived.Test.YtlgefjcfnnjkbaaDiskR
import Derived.Test.YtlgefjcfnnjkbaaApp2
import Derived.Test.YtlgefjcfnnjkbaaOpen
import Derived.Outline
namespace Go.Proofs.Ytlgefjcfnnjkbaa
open Go.RowKit

set_option maxHeartbeats 1000000 in
theorem pick02_any (w : World) (c n : Int) (hc : I64 c) (hn : 0 < n) (hn2 : n ≤ 9223372036854775807) :
    Calls Try.prog 42 #[.int .i64 c, .int .i64 n] w fun e w' => e = .returned (.int .i64 (pickI c n)) ∧ w = w' := by
  obtain ⟨h1, h2⟩ := hc
  have hnz : n ≠ 0 := by omega
  go_enter Try.func42, Try.ntmps42
  by_cases hneg : c < 0
  · have e := Lib.hid (show pickI c n = -((c + 1).tmod n) by rw [pickI, if_pos hneg, ← Int.neg_tmod, Int.tmod_eq_emod_of_nonneg (by omega)])
    go_wp2
    go_ret
    exact ⟨by rw [e.out]; rfl, rfl⟩
  · have e := Lib.hid (show pickI c n = c % n by rw [pickI, if_neg hneg])
    go_wp2
    go_ret
    exact ⟨by rw [e.out]; rfl, rfl⟩

/-- a sector of a raw text -/
def fullL (s : List UInt8) : List UInt8 := if s = [] then noughts else (List.range 64).map fun i => s.getD (i % s.length) 0
theorem fullL_length (s : List UInt8) : (fullL s).length = 64 := by
  unfold fullL; split
  · rfl
  · simp
def fullTo (s : List UInt8) (k : Nat) : List UInt8 := ((List.range k).map fun i => s.getD (i % s.length) 0) ++ List.replicate (64 - k) 0
theorem fullTo_succ (s : List UInt8) (k : Nat) (h : k < 64) : (fullTo s k).set k (s.getD (k % s.length) 0) = fullTo s (k + 1) := by
  unfold fullTo
  rw [List.set_append_right _ _ (by simp)]
  simp only [List.length_map, List.length_range, Nat.sub_self]
  rw [show 64 - k = (64 - (k + 1)) + 1 by omega, List.replicate_succ, List.set_cons_zero, List.range_succ, List.map_append]
  simp
theorem fullTo_length (s : List UInt8) (k : Nat) (h : k ≤ 64) : (fullTo s k).length = 64 := by simp [fullTo]; omega
theorem bvs_set (l : List UInt8) (k : Nat) (b : UInt8) : (bvs l).toArray.setIfInBounds k (bv b) = (bvs (l.set k b)).toArray := by
  apply Array.ext'
  simp [bvs, List.map_set]

set_option maxRecDepth 100000 in
set_option maxHeartbeats 4000000 in
theorem full_any (w : World) (s : List UInt8) (hs : s.length ≤ maxLen) :
    Calls Try.prog 43 #[.string ⟨s.toArray⟩] w fun e w' => e = .returned (.string ⟨(fullL s).toArray⟩) ∧ Only (fun _ => False) w w' := by
  have hz := size_toArray s
  unfold maxLen at hs
  have E : Hid (madeCells (Value.int .u8 0).cells (64 * 1) = (bvs (fullTo s 0)).toArray) := Lib.hid (by
    have := madeCells_same (Value.int .u8 0).cells (.int .u8 0) 1 64 rfl (by decide)
    rw [Nat.mul_one, this]
    simp only [fullTo, List.range_zero, List.map_nil, List.nil_append, Nat.sub_zero]
    rw [← zeros_bvs]; rfl)
  go_enter Try.func43, Try.ntmps43
  go_wp2_with (at_make; refine wpList_make_any (n := 64) rfl _ _ 30 rfl 5 (.int .u8 0) 1 1 Try.underlying30 Try.info5 rfl rfl (by omega) (by unfold maxLen; omega) ?_; rw [E.out])
  have HM := Lib.hid (heap_alloc_new w (.cells (bvs (fullTo s 0)).toArray 5))
  have HO := Lib.hid (Only.alloc w (.cells (bvs (fullTo s 0)).toArray 5) (fun _ => False))
  clear E
  go_loopw [4] (fun i wr => ∃ k : Nat, k ≤ 64 ∧ (s.length = 0 → k = 0) ∧ i = .int .i64 k ∧ Hid (wr.heap[w.heap.size]? = some (.cells (bvs (fullTo s k)).toArray 5 (0, 0))) ∧ Only (fun _ => False) w wr) (fun i _ => 64 - (intOf i).toNat)
  case atStart => exact ⟨0, by omega, fun _ => rfl, rfl, HM, HO.out⟩
  case round =>
    obtain ⟨k, hk, hk0, rfl, hrow, hor⟩ := hrel
    rcases Nat.eq_zero_or_pos s.length with h0 | h0
    · obtain rfl := hk0 h0
      have hs0 : s = [] := List.eq_nil_of_length_eq_zero h0
      have HF : Hid (fullL s = fullTo s 0) := Lib.hid (by rw [hs0]; rfl)
      have hq : (s.length : Int) ≤ 0 := by omega
      have hl := fullTo_length s 0 (by omega)
      generalize fullTo s 0 = q at hrow HF hl
      clear h0 hs0 hk0 HM HO
      go_wp2_with ((with_reducible refine wpList_bytes_string (src := 30) (dT := 9) 5 w.heap.size 0 64 64 q ?_ ?_ ?_ ?_ ?_ ?_ ?_); (· exact Try.underlying30); (· exact Try.underlying5); (· exact Try.underlying9); (· exact hl); (· exact has_of_block' (l := bvs q) hrow.out (by simp)); (· rfl))
      go_ret
      exact ⟨by rw [HF.out]; rfl, hor⟩
    · have hq : (0 : Int) < (s.length : Int) := by omega
      by_cases hlt : k < 64
      · have hml : k % s.length < s.length := Nat.mod_lt _ h0
        have HSU := Lib.hid (fullTo_succ s k hlt)
        have hfl := fullTo_length s k hk
        obtain ⟨q, hqd⟩ : ∃ q, q = k % s.length := ⟨_, rfl⟩
        rw [← hqd] at hml HSU
        have hmod : (k : Int) % (s.length : Int) = (q : Int) := by omega
        have hmi : (q : Int) < (s.length : Int) := by omega
        clear hqd
        have hidx := byte_at s q (by rw [hz]; exact hml)
        generalize s.getD q 0 = b at hidx HSU
        have hrc := cell_at hrow.out k
        obtain ⟨old, hold⟩ : ∃ v, (bvs (fullTo s k)).toArray[k]? = some v := ⟨_, Array.getElem?_eq_getElem (by simp [bvs, hfl]; omega)⟩
        rw [hold] at hrc
        have hfr := free_at hrow.out k
        have hset := heap_setCell_same wr w.heap.size k _ _ (bv b) hrow.out
        rw [bvs_set, HSU.out] at hset
        have HSET := Lib.hid hset
        have HO' := Lib.hid (hor.trans' (Only.one wr w.heap.size k (bv b)) (fun y hy e => by omega))
        have hwr : w.heap.size < wr.heap.size := World.block_lt_of_cell? _ _ hrc
        have hkI : (k : Int) < 64 := by omega
        clear hold hset HM HO hk0
        go_wp2_with fail
        go_roundw
        case rel => exact ⟨k + 1, by omega, fun h => by omega, by go_num, HSET, HO'.out⟩
        case measure => simp [intOf] <;> omega
      · obtain rfl : k = 64 := by omega
        have HF : Hid (fullL s = fullTo s 64) := Lib.hid (by
          unfold fullL fullTo
          rw [if_neg (fun e => by rw [e] at h0; simp at h0)]
          simp)
        have hl := fullTo_length s 64 (by omega)
        generalize fullTo s 64 = q at hrow HF hl
        clear HM HO hk0
        go_wp2_with ((with_reducible refine wpList_bytes_string (src := 30) (dT := 9) 5 w.heap.size 0 64 64 q ?_ ?_ ?_ ?_ ?_ ?_ ?_); (· exact Try.underlying30); (· exact Try.underlying5); (· exact Try.underlying9); (· exact hl); (· exact has_of_block' (l := bvs q) hrow.out (by simp)); (· rfl))
        go_ret
        exact ⟨by rw [HF.out]; rfl, hor⟩

/-! ### Read, as the statements use it -/
theorem read_has (w : World) (p kb : Nat) (pv : Value) (d : D) (k : Nat) (hd : DAt w p kb pv d) (hk : k < d.kept.length) :
    Calls Try.prog 41 #[.pointer (some ⟨p, 0, none⟩), .int .i64 (k : Int)] w fun e w' => e = .returned (.tuple #[.string ⟨(d.there k).toArray⟩, .int .i64 0]) ∧ Only (fun _ => False) w w' :=
  (read_in w p kb pv d k hd hk).mono fun _ _ ⟨he, hb⟩ => ⟨he, Only.of_below hb _⟩

/-! ### all -/
def allTo (d : D) (k : Nat) : List UInt8 := ((List.range k).map d.there).flatten
def allL (d : D) : List UInt8 := allTo d d.kept.length
theorem allTo_succ (d : D) (k : Nat) : allTo d (k + 1) = allTo d k ++ d.there k := by simp [allTo, List.range_succ]
theorem allTo_length {d : D} (h : d.Ok) : ∀ k, k ≤ d.kept.length → (allTo d k).length = 64 * k
  | 0, _ => rfl
  | k + 1, hk => by rw [allTo_succ, List.length_append, allTo_length h k (by omega), D.there_len h (by omega)]; omega

set_option maxRecDepth 100000 in
set_option maxHeartbeats 4000000 in
theorem all_any (w : World) (p kb : Nat) (pv : Value) (d : D) (hd : DAt w p kb pv d) :
    Calls Try.prog 44 #[.pointer (some ⟨p, 0, none⟩)] w fun e w' => e = .returned (.string ⟨(allL d).toArray⟩) ∧ Only (fun _ => False) w w' := by
  have hm := hd.ok.many
  obtain ⟨n, hn⟩ : ∃ n, n = d.kept.length := ⟨_, rfl⟩
  have HN := Lib.hid hn
  rw [← hn] at hm
  clear hn
  go_enter Try.func44, Try.ntmps44
  go_wp2_with fail
  go_loopw [3, 4] (fun o i wr => ∃ k : Nat, k ≤ n ∧ i = .int .i64 k ∧ o = .string ⟨(allTo d k).toArray⟩ ∧ Only (fun _ => False) w wr) (fun o i _ => n - (intOf i).toNat)
  case atStart => exact ⟨0, by omega, rfl, rfl, Only.refl _ _⟩
  case round =>
    obtain ⟨k, hk, rfl, rfl, hor⟩ := hrel
    have hdw := hd.only hor (fun _ _ => id)
    have SZ := Lib.hid (size_any wr p kb pv d hdw)
    rw [← HN.out] at SZ
    have hl := allTo_length hd.ok k (by rw [← HN.out]; exact hk)
    by_cases hlt : k < n
    · have RD := Lib.hid (read_has wr p kb pv d k hdw (by rw [← HN.out]; exact hlt))
      have ht := D.there_len hd.ok (k := k) (by rw [← HN.out]; exact hlt)
      have happ := append_list (allTo d k) (d.there k)
      have HSU := Lib.hid (allTo_succ d k)
      obtain ⟨nx, hnx⟩ : ∃ nx, nx = allTo d (k + 1) := ⟨_, rfl⟩
      rw [← HSU.out, ← hnx] at happ
      have HNX := Lib.hid hnx
      clear hnx
      have hcat : (allTo d k).length + (d.there k).length ≤ 9223372036854775807 := by omega
      generalize allTo d k = cu at happ hcat hl
      generalize d.there k = th at happ hcat RD ht
      have hki : (k : Int) < (n : Int) := by omega
      have hk768 : (k : Int) < 768 := by omega
      clear ht hl HSU
      go_wp2_with (first
        | (go_at_call 49; refine SZ.out.mono ?_; rintro e w1 ⟨rfl, rfl⟩)
        | (go_at_call 41; refine RD.out.mono ?_; rintro e w2 ⟨rfl, ho2⟩; have HO2 := Lib.hid ho2; clear ho2))
      go_roundw
      case rel => exact ⟨k + 1, by omega, by go_num, by rw [← HNX.out], hor.trans HO2.out⟩
      case measure => simp [intOf] <;> omega
    · obtain rfl : k = n := by omega
      have HA : Hid (allL d = allTo d k) := Lib.hid (by rw [allL, ← HN.out])
      clear hl
      generalize allTo d k = q at HA
      go_wp2_with (go_at_call 49; refine SZ.out.mono ?_; rintro e w1 ⟨rfl, rfl⟩)
      go_ret
      exact ⟨by rw [HA.out]; rfl, hor⟩
end Go.Proofs.Ytlgefjcfnnjkbaa
