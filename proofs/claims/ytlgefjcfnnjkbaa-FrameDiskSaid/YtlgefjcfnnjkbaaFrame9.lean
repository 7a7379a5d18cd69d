/- told and read: the program's answers on one frame and one sector are the reference's. No conditions. -/
import Derived.Test.YtlgefjcfnnjkbaaFrame8
namespace Go.Proofs.Ytlgefjcfnnjkbaa
open Go.RowKit

def layS (f : Fr) : List UInt8 := if f.right then f.lay else []
def layE (f : Fr) : Int := if f.right then 0 else 120

theorem lay_any (w : World) (f : Fr) (hs : f.s.length ≤ maxLen) :
    Calls Try.prog 33 #[f.val] w fun e w' => e = .returned (.tuple #[.string ⟨(layS f).toArray⟩, .int .i64 (layE f)]) ∧ Only (fun _ => False) w w' := by
  unfold layS layE
  rcases Bool.eq_false_or_eq_true f.right with hr | hr
  · rw [hr]; exact lay_good w f hr
  · rw [hr]; exact lay_bad w f hs hr
theorem refLay_any (w : World) (f : Fr) (hs : f.s.length ≤ maxLen) :
    Calls Try.prog 20 #[f.val] w fun e w' => e = .returned (.tuple #[.string ⟨(layS f).toArray⟩, .int .i64 (layE f)]) ∧ Only (fun _ => False) w w' := by
  unfold layS layE
  rcases Bool.eq_false_or_eq_true f.right with hr | hr
  · rw [hr]; exact refLay_good w f hr
  · rw [hr]; exact refLay_bad w f hs hr

set_option maxHeartbeats 1000000 in
theorem told_any (w : World) (f : Fr) (hs : f.s.length ≤ maxLen) :
    Calls Try.prog 23 #[f.val] w fun e w' => e = .returned (.bool true) ∧ Only (fun _ => False) w w' := by
  have L1 := Lib.hid fun w => lay_any w f hs
  have L2 := Lib.hid fun w => refLay_any w f hs
  clear hs
  obtain ⟨e, a, k, s⟩ := f
  generalize layS ⟨e, a, k, s⟩ = q at L1 L2
  generalize layE ⟨e, a, k, s⟩ = x at L1 L2
  unfold Fr.val at L1 L2 ⊢
  simp only at L1 L2 ⊢
  have HB := Lib.hid (heap_alloc_new w (.cells #[.int .i64 e, .int .i64 a, .int .i64 k, .string ⟨s.toArray⟩] 23))
  go_enter Try.func23, Try.ntmps23
  go_wp2_with (first | (go_at_call 33; refine (L1.out _).mono ?_; rintro e w1 ⟨rfl, ho⟩; have hb := ho.keep HB.out id; have c0 := cell_at hb 0; have c1 := cell_at hb 1; have c2 := cell_at hb 2; have c3 := cell_at hb 3; have HO := Lib.hid ho; clear ho hb) | (go_at_call 20; refine (L2.out _).mono ?_; rintro e w2 ⟨rfl, ho2⟩))
  go_ret
  exact ⟨rfl, ((Only.alloc _ _ _).trans HO.out).trans ho2⟩

def readF' (l : List UInt8) : Fr := (readF l).getD Fr.zero
def readE (l : List UInt8) : Int := if (readF l).isSome then 0 else 120
theorem readV_eq (l : List UInt8) : readV l = .tuple #[(readF' l).val, .int .i64 (readE l)] := by
  unfold readV readF' readE
  cases readF l <;> rfl

set_option maxHeartbeats 1000000 in
theorem lawRead_any (w : World) (l : List UInt8) (hs : l.length ≤ maxLen) :
    Calls Try.prog 24 #[.string ⟨l.toArray⟩] w fun e w' => e = .returned (.bool true) ∧ Only (fun _ => False) w w' := by
  have L1 := fun w => read_any w l hs
  have L2 := fun w => refRead_any w l hs
  rw [readV_eq] at L1 L2
  clear hs
  generalize readF' l = f at L1 L2
  generalize readE l = x at L1 L2
  obtain ⟨e, a, k, s⟩ := f
  unfold Fr.val at L1 L2
  simp only at L1 L2
  have M1 := Lib.hid L1
  have M2 := Lib.hid L2
  clear L1 L2
  go_enter Try.func24, Try.ntmps24
  go_wp2_with (first | (go_at_call 34; refine (M1.out _).mono ?_; rintro e' w1 ⟨rfl, ho⟩) | (go_at_call 54; refine (M2.out _).mono ?_; rintro e' w2 ⟨rfl, ho2⟩; have hb := ho2.keep (heap_alloc_new w1 (.cells #[.int .i64 e, .int .i64 a, .int .i64 k, .string ⟨s.toArray⟩] 23)) id; have hb' := (Only.alloc w2 (.cells #[.int .i64 e, .int .i64 a, .int .i64 k, .string ⟨s.toArray⟩] 23) (fun _ => False)).keep hb id; have c0 := cell_at hb' 0; have c1 := cell_at hb' 1; have c2 := cell_at hb' 2; have c3 := cell_at hb' 3; have HO2 := Lib.hid ((ho.trans (Only.alloc w1 (.cells #[.int .i64 e, .int .i64 a, .int .i64 k, .string ⟨s.toArray⟩] 23) _)).trans ho2); clear ho2 hb hb'))
  go_ret
  exact ⟨rfl, HO2.out.trans (Only.alloc _ _ _)⟩
end Go.Proofs.Ytlgefjcfnnjkbaa
