/- The examples of chapter 12. No conditions. -/
import Derived.Test.YtlgefjcfnnjkbaaRefJoin
import Derived.Test.YtlgefjcfnnjkbaaFrame12
import Derived.Outline
namespace Go.Proofs.Ytlgefjcfnnjkbaa
open Go.RowKit

def exL : List Fr := [⟨1, 0, 3, [97]⟩, ⟨1, 0, 4, []⟩, ⟨1, 0, 2, [98]⟩]
theorem exL_join : joinF exL = ([[97]], 2) := by decide +kernel
def exF : Fr := ⟨65538, 3, 3, [120, 121]⟩
theorem exF_right : exF.right = true := by decide +kernel
theorem exF_nine : exF.lay.take 9 = [1, 0, 2, 3, 3, 2, 0, 120, 121] := by
  rw [Fr.lay, Fr.body, List.append_assoc, List.append_assoc, Fr.head_eq]
  rfl

theorem exJoin (w : World) : Calls Try.prog 29 #[.slice (some ⟨w.heap.size, 0, none⟩) 3 3]
    (w.alloc (.cells #[.int .i64 1, .int .i64 0, .int .i64 3, .string ⟨#[97]⟩, .int .i64 1, .int .i64 0, .int .i64 4, .string ⟨#[]⟩, .int .i64 1, .int .i64 0, .int .i64 2, .string ⟨#[98]⟩] 23))
    fun e w' => ∃ r, e = .returned (.tuple #[r, .int .i64 2]) ∧ w'.ownsRow (w.heap.size + 1) 9 1 r 1 (txts [[97]]) ∧ Only (fun _ => False) w w' := by
  have h := join_any (w.alloc (.cells (frs exL).toArray 23)) (.slice (some ⟨w.heap.size, 0, none⟩) 3 3) exL _ 3 (sliceOf_block (heap_alloc_new w _) (by decide) 3) (by decide +kernel) (by decide)
  rw [exL_join] at h
  refine h.mono fun e w' ⟨r, he, hown, ho⟩ => ⟨r, he, ?_, (Only.alloc _ _ _).trans ho⟩
  simpa using hown

theorem exLay (w : World) : Calls Try.prog 33 #[.agg #[.int .i64 65538, .int .i64 3, .int .i64 3, .string ⟨#[120, 121]⟩]] w fun e w' => e = .returned (.tuple #[.string ⟨exF.lay.toArray⟩, .int .i64 0]) ∧ Only (fun _ => False) w w' := by
  have h := lay_any w exF (by decide)
  unfold layS layE at h
  rw [exF_right] at h
  exact h
theorem exRead (w : World) : Calls Try.prog 34 #[.string ⟨exF.lay.toArray⟩] w fun e w' => e = .returned (.tuple #[.agg #[.int .i64 65538, .int .i64 3, .int .i64 3, .string ⟨#[120, 121]⟩], .int .i64 0]) ∧ Only (fun _ => False) w w' := by
  have h := read_any w exF.lay (by rw [Fr.lay_length exF_right]; decide)
  unfold readV at h
  rw [readF_lay exF_right] at h
  exact h
theorem exLay0 (w : World) : Calls Try.prog 33 #[.agg #[.int .i64 0, .int .i64 0, .int .i64 0, .string ⟨#[]⟩]] w fun e w' => e = .returned (.tuple #[.string ⟨#[]⟩, .int .i64 120]) ∧ Only (fun _ => False) w w' :=
  lay_any w Fr.zero (by decide)
theorem exRead1 (w : World) : Calls Try.prog 34 #[.string ⟨#[120]⟩] w fun e w' => e = .returned (.tuple #[.agg #[.int .i64 0, .int .i64 0, .int .i64 0, .string ⟨#[]⟩], .int .i64 120]) ∧ Only (fun _ => False) w w' :=
  read_any w [120] (by decide)
theorem exCut (w : World) : Calls Try.prog 27 #[.int .i64 9, .int .i64 62, .string ⟨#[97]⟩] w fun x w' => ∃ g, x = .returned (.tuple #[.slice (some ⟨g, 0, none⟩) 1 1, .int .i64 0]) ∧
      w'.heap[g]? = some (.cells (frs [⟨9, 62, 3, [97]⟩]).toArray 23 (0, 0)) ∧ w.heap.size ≤ g ∧ Only (fun _ => False) w w' :=
  cut_ok w 9 62 [97] (by decide) (by decide) (by decide) (by decide) (by decide)
theorem exCut0 (w : World) : Calls Try.prog 27 #[.int .i64 9, .int .i64 64, .string ⟨#[]⟩] w fun e w' => e = .returned (.tuple #[.slice none 0 0, .int .i64 2]) ∧ w = w' :=
  cut_bad w 9 64 [] (by unfold I64; omega) (by unfold I64; omega) (by decide) (by decide)

theorem exTexts (w : World) (base : Nat) (r : Value) (h : w.ownsRow base 9 1 r 1 (txts [[97]])) : Calls Try.prog 32 #[r, .slice (some ⟨w.heap.size, 0, none⟩) 1 1] (w.alloc (.cells #[.string ⟨#[97]⟩] 9)) fun e w' => e = .returned (.bool true) ∧ Only (fun _ => False) w w' := by
  obtain ⟨ao, cap, hs⟩ := sliceOf_own (h.alloc (.cells #[.string ⟨#[97]⟩] 9))
  have := sameTexts_any _ _ _ [[97]] [[97]] _ _ _ _ hs (sliceOf_block (n := 1) (cs := txts [[97]]) (heap_alloc_new w _) (by decide) 1)
  exact this.mono fun e w' ⟨he, ho⟩ => ⟨by rw [he]; rfl, (Only.alloc _ _ _).trans ho⟩
theorem exSame (w : World) (g : Nat) (h : w.heap[g]? = some (.cells (frs [⟨9, 62, 3, [97]⟩]).toArray 23 (0, 0))) :
    Calls Try.prog 31 #[.slice (some ⟨g, 0, none⟩) 1 1, .slice (some ⟨w.heap.size, 0, none⟩) 1 1] (w.alloc (.cells #[.int .i64 9, .int .i64 62, .int .i64 3, .string ⟨#[97]⟩] 23)) fun e w' => e = .returned (.bool true) ∧ Only (fun _ => False) w w' := by
  have := same_any _ _ _ [⟨9, 62, 3, [97]⟩] [⟨9, 62, 3, [97]⟩] _ _ 1 1 (sliceOf_block (n := 1) ((Only.alloc w (.cells #[.int .i64 9, .int .i64 62, .int .i64 3, .string ⟨#[97]⟩] 23) (fun _ => False)).keep h id) (by decide) 1) (sliceOf_block (n := 1) (cs := frs [⟨9, 62, 3, [97]⟩]) (heap_alloc_new w _) (by decide) 1)
  exact this.mono fun e w' ⟨he, ho⟩ => ⟨by rw [he]; rfl, (Only.alloc _ _ _).trans ho⟩
theorem exNeed0 (w : World) : Calls Try.prog 25 #[.int .i64 0] w fun e w' => e = .returned (.int .i64 1) ∧ w = w' := need_any w 0 (by omega)
theorem exNeed53 (w : World) : Calls Try.prog 25 #[.int .i64 53] w fun e w' => e = .returned (.int .i64 1) ∧ w = w' := need_any w 53 (by omega)
theorem exNeed54 (w : World) : Calls Try.prog 25 #[.int .i64 54] w fun e w' => e = .returned (.int .i64 2) ∧ w = w' := need_any w 54 (by omega)
theorem exNeedN (w : World) : Calls Try.prog 25 #[.int .i64 (-1)] w fun e w' => e = .returned (.int .i64 0) ∧ w = w' := need_any w (-1) (by omega)

set_option maxRecDepth 100000 in
set_option maxHeartbeats 4000000 in
theorem examples_any (w : World) : Calls Try.prog 19 #[] w fun e w' => e = .returned (.bool true) ∧ Only (fun _ => False) w w' := by
  have HQ := Lib.hid (fun w => exLay w)
  have HR := Lib.hid (fun w => exRead w)
  have hq := Fr.lay_length exF_right
  have hx := extract_list exF.lay 0 9
  rw [List.drop_zero, exF_nine] at hx
  have hz := size_toArray exF.lay
  generalize exF.lay = q at HQ HR hq hx hz
  rw [hq] at hz
  clear hq
  have HZ := Lib.hid hz
  have HX := Lib.hid hx
  clear hx hz
  go_enter Try.func19, Try.ntmps19
  go_wp2_with fail
  refine (exJoin w).mono ?_
  rintro e w1 ⟨r, rfl, hown1, ho1⟩
  have HO1 := Lib.hid ho1
  clear ho1
  go_wp2_with fail
  refine (HQ.out _).mono ?_
  rintro e w2 ⟨rfl, ho2⟩
  have HW2 := Lib.hid (ownsRow_only hown1 ho2 (fun _ _ => id))
  have HO2 := Lib.hid (HO1.out.trans ho2)
  clear ho2 hown1 HO1
  go_wp2_with fail
  refine (HR.out _).mono ?_
  rintro e w3 ⟨rfl, ho3⟩
  have HW3 := Lib.hid (ownsRow_only HW2.out ho3 (fun _ _ => id))
  have HO3 := Lib.hid (HO2.out.trans ho3)
  clear ho3 HW2 HO2
  have HB := Lib.hid (heap_alloc_new w3 (.cells #[.int .i64 65538, .int .i64 3, .int .i64 3, .string ⟨#[120, 121]⟩] 23))
  have HW4 := Lib.hid (HW3.out.alloc (.cells #[.int .i64 65538, .int .i64 3, .int .i64 3, .string ⟨#[120, 121]⟩] 23))
  have HO4 := Lib.hid (HO3.out.trans (Only.alloc w3 (.cells #[.int .i64 65538, .int .i64 3, .int .i64 3, .string ⟨#[120, 121]⟩] 23) _))
  clear HW3 HO3
  go_wp2_with fail
  refine (exLay0 _).mono ?_
  rintro e w5 ⟨rfl, ho5⟩
  have HB5 := Lib.hid (ho5.keep HB.out id)
  have HW5 := Lib.hid (ownsRow_only HW4.out ho5 (fun _ _ => id))
  have HO5 := Lib.hid (HO4.out.trans ho5)
  clear ho5 HB HW4 HO4
  go_wp2_with fail
  refine (exRead1 _).mono ?_
  rintro e w6 ⟨rfl, ho6⟩
  have ho6' := ho6.trans (Only.alloc w6 (.cells #[.int .i64 0, .int .i64 0, .int .i64 0, .string ⟨#[]⟩] 23) _)
  have HB6 := Lib.hid (ho6'.keep HB5.out id)
  have HW6 := Lib.hid (ownsRow_only HW5.out ho6' (fun _ _ => id))
  have HO6 := Lib.hid (HO5.out.trans ho6')
  clear ho6 ho6' HB5 HW5 HO5
  go_wp2_with fail
  refine (exCut _).mono ?_
  rintro e w7 ⟨g, rfl, hg, hgle, ho7⟩
  have HB7 := Lib.hid (ho7.keep HB6.out id)
  have HW7 := Lib.hid (ownsRow_only HW6.out ho7 (fun _ _ => id))
  have HO7 := Lib.hid (HO6.out.trans ho7)
  have HG := Lib.hid hg
  clear ho7 HB6 HW6 HO6 hg hgle
  go_wp2_with fail
  refine (exCut0 _).mono ?_
  rintro e w8 ⟨rfl, rfl⟩
  go_wp2_with fail
  refine (exTexts _ _ _ HW7.out).mono ?_
  rintro e w9 ⟨rfl, ho9⟩
  have hb9 := ho9.keep HB7.out id
  have c0 := cell_at hb9 0
  have c1 := cell_at hb9 1
  have c2 := cell_at hb9 2
  have c3 := cell_at hb9 3
  have HG9 := Lib.hid (ho9.keep HG.out id)
  have HO9 := Lib.hid (HO7.out.trans ho9)
  have hz := HZ.out
  have hx := HX.out
  clear ho9 hb9 HB7 HW7 HO7 HG HZ HX
  go_wp2_with fail
  refine (exSame _ _ HG9.out).mono ?_
  rintro e w10 ⟨rfl, ho10⟩
  have HO10 := Lib.hid (HO9.out.trans ho10)
  clear ho10
  go_wp2_with fail
  refine (exNeed0 _).mono ?_
  rintro e w11 ⟨rfl, rfl⟩
  go_wp2_with fail
  refine (exNeed53 _).mono ?_
  rintro e w11 ⟨rfl, rfl⟩
  go_wp2_with fail
  refine (exNeed54 _).mono ?_
  rintro e w11 ⟨rfl, rfl⟩
  go_wp2_with fail
  refine (exNeedN _).mono ?_
  rintro e w11 ⟨rfl, rfl⟩
  go_wp2_with fail
  go_ret
  exact ⟨rfl, HO10.out⟩
end Go.Proofs.Ytlgefjcfnnjkbaa
