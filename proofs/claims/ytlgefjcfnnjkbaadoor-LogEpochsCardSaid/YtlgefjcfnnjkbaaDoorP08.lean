/- Parts of the proof, one behind the other: LogA, LogI, LogJ, LogF. Each part's own words say what it proves; no conditions. -/
import Derived.LoopN
import Derived.RangeFuncNested
import Derived.RangeFuncBound
import Derived.RangeFuncCalls
import Derived.RangeFuncLeaves
import Derived.Shelf.Abstract
import Derived.Shelf.RegionOpen
import Derived.OwnWalkIn
import Derived.TacticsInMore
import Derived.LoopNIn
import Derived.LoopIn
import Derived.Outline
import Derived.Test.YtlgefjcfnnjkbaaDoorP05
import Derived.Test.YtlgefjcfnnjkbaaDoorP07
set_option linter.unusedVariables false
set_option linter.unusedSimpArgs false
set_option linter.unusedSectionVars false
/- A log's ground in memory: the number of a sector, the frame that stands in it. No conditions. -/
namespace Go.Proofs.YtlgefjcfnnjkbaaDoor
set_option maxRecDepth 100000
open Go.RowKit

/-- a ground that lies in front of block gb, over a disk -/
structure GAt (w : World) (gb p kb : Nat) (pv : Value) (d : D) (per segs : Nat) : Prop where
  c0 : w.cell? ⟨gb, 0, none⟩ = some (.pointer (some ⟨p, 0, none⟩))
  c1 : w.cell? ⟨gb, 1, none⟩ = some (.int .i64 (per : Int))
  c2 : w.cell? ⟨gb, 2, none⟩ = some (.int .i64 (segs : Int))
  da : DAt w p kb pv d
  per4 : 4 ≤ per
  per64 : per ≤ 64
  segs12 : segs ≤ 12
  room : segs * per ≤ d.kept.length

theorem GAt.only {w w' : World} {gb p kb : Nat} {pv : Value} {d : D} {per segs : Nat} (h : GAt w gb p kb pv d per segs) (ho : Only (fun _ => False) w w') : GAt w' gb p kb pv d per segs :=
  ⟨by rw [ho.cell (World.block_lt_of_cell? _ _ h.c0) id]; exact h.c0, by rw [ho.cell (World.block_lt_of_cell? _ _ h.c1) id]; exact h.c1, by rw [ho.cell (World.block_lt_of_cell? _ _ h.c2) id]; exact h.c2, h.da.only ho (fun _ _ => id), h.per4, h.per64, h.segs12, h.room⟩
theorem GAt.lt {w : World} {gb p kb : Nat} {pv : Value} {d : D} {per segs : Nat} (h : GAt w gb p kb pv d per segs) : gb < w.heap.size := World.block_lt_of_cell? _ _ h.c0

theorem sector_any (w : World) (gb per : Nat) (seg at_ : Nat) (hc : w.cell? ⟨gb, 1, none⟩ = some (.int .i64 (per : Int))) (h1 : seg ≤ 1000) (h2 : at_ ≤ 1000) (h3 : per ≤ 1000) :
    Calls Tryd.prog 31 #[.pointer (some ⟨gb, 0, none⟩), .int .i64 (seg : Int), .int .i64 (at_ : Int)] w fun e w' => e = .returned (.int .i64 ((seg * per + at_ : Nat) : Int)) ∧ w = w' := by
  have hm : seg * per ≤ 1000000 := by have := Nat.mul_le_mul h1 h3; omega
  obtain ⟨m, hmm⟩ : ∃ m, m = seg * per := ⟨_, rfl⟩
  have hmi : (seg : Int) * (per : Int) = (m : Int) := by rw [hmm]; push_cast; rfl
  rw [← hmm] at hm ⊢
  clear hmm
  go_enter Tryd.func31, Tryd.ntmps31
  go_wp2_with fail
  go_ret
  exact ⟨rfl, rfl⟩

/-- of a frame that stands, or none -/
theorem frOf_cases (T : List UInt8) (at_ : Nat) : (∃ f : Fr, readF T = some f ∧ f.a = (at_ : Int) ∧ frOf T at_ = f) ∨ (∃ f : Fr, readF T = some f ∧ f.a ≠ (at_ : Int) ∧ frOf T at_ = zeroFr) ∨ (readF T = none ∧ frOf T at_ = zeroFr) := by
  unfold frOf
  cases h : readF T with
  | none => exact .inr (.inr ⟨rfl, rfl⟩)
  | some f =>
    by_cases ha : f.a = (at_ : Int)
    · exact .inl ⟨f, rfl, ha, by simp [ha]⟩
    · exact .inr (.inl ⟨f, rfl, ha, by simp [ha]⟩)
theorem readV_of_some {t : List UInt8} {f : Fr} (h : readF t = some f) : readV t = .tuple #[f.val, .int .i64 0] := by unfold readV; rw [h]
theorem readV_of_none {t : List UInt8} (h : readF t = none) : readV t = .tuple #[.agg #[.int .i64 0, .int .i64 0, .int .i64 0, .string ⟨#[]⟩], .int .i64 120] := by unfold readV; rw [h]; rfl

set_option maxHeartbeats 4000000 in
theorem frame_any (w : World) (gb p kb : Nat) (pv : Value) (d : D) (per segs seg at_ : Nat) (hG : GAt w gb p kb pv d per segs) (hs : seg < segs) (ha : at_ < per) :
    Calls Tryd.prog 29 #[.pointer (some ⟨gb, 0, none⟩), .int .i64 (seg : Int), .int .i64 (at_ : Int)] w fun e w' => e = .returned (.agg #[.int .i64 (frAt d per seg at_).e, .int .i64 (frAt d per seg at_).a, .int .i64 (frAt d per seg at_).k, .string ⟨(frAt d per seg at_).s.toArray⟩]) ∧ Only (fun _ => False) w w' := by
  have hper := hG.per64
  have hs12 := hG.segs12
  have hroom := hG.room
  have hm : seg * per + at_ < d.kept.length := by
    have : (seg + 1) * per ≤ segs * per := Nat.mul_le_mul_right _ hs
    rw [Nat.add_mul] at this
    omega
  have RD := Lib.hid (fun W (h : DAt W p kb pv d) => read_has W p kb pv d (seg * per + at_) h hm)
  have hTl := D.there_len hG.da.ok hm
  unfold frAt
  generalize d.there (seg * per + at_) = T at RD hTl ⊢
  have HF := Lib.hid (frOf_cases T at_)
  generalize frOf T at_ = F at HF ⊢
  have hw0 := hG.only (Only.alloc w (.cells #[.int .i64 0, .int .i64 0, .int .i64 0, .string ⟨#[]⟩] 86) _)
  have hb0 := heap_alloc_new w (.cells #[.int .i64 0, .int .i64 0, .int .i64 0, .string ⟨#[]⟩] 86)
  have ho0 := Only.alloc w (.cells #[.int .i64 0, .int .i64 0, .int .i64 0, .string ⟨#[]⟩] 86) (fun _ => False)
  have al := Tryd.alloc23 w
  go_enter Tryd.func29, Tryd.ntmps29
  go_upto_region 1 with fail
  clear al
  generalize w.alloc (.cells #[.int .i64 0, .int .i64 0, .int .i64 0, .string ⟨#[]⟩] 86) = w0 at hw0 hb0 ho0 ⊢
  generalize hg : w.heap.size = g at hb0 ⊢
  have hgw : g < w0.heap.size := lt_of_block hb0
  have HG := Lib.hid hg
  clear hg
  have hw1 := hw0.only (Only.drew w0 _)
  have hb1 := (Only.drew w0 (fun _ => False)).keep hb0 id
  have ho1 := ho0.trans (Only.drew w0 _)
  refine wp_region_pick (fun W => W = w0.drew) [(0, 0), (1, 0), (2, 0), (3, 1), (4, 0), (5, 0), (6, 0), (7, 2), (8, 3), (9, 0), (10, 0), (11, 0), (12, 0), (13, 0)] (by kernel_rfl) (by kernel_rfl) (fun _ _ d _ _ h => by cases d <;> exact h) rfl ?_
  have hc0 := hw1.c0
  have hc1 := hw1.c1
  generalize w0.drew = w1 at hw1 hb1 ho1 hc0 hc1 ⊢
  simp only [pickOps, List.getElem?_cons_zero, List.getElem?_cons_succ]
  iterate 7 (first | (refine wpL_pure (a' := ?_) ?_ rfl (fun W => ?_) ?_ ?_; rotate_left 2; (· go_simp; first | (go_bits; with_reducible rfl) | with_reducible rfl); (· simp only [put_some, List.setIfInBounds_toArray, List.set_cons_zero, List.set_cons_succ]; rfl)) | (refine wpL_held (a' := ?_) ?_ rfl (fun W hW => ?_) ?_ ?_; rotate_left 2; (· subst hW; go_simp; first | (go_bits; with_reducible rfl) | with_reducible rfl); (· simp only [put_some, List.setIfInBounds_toArray, List.set_cons_zero, List.set_cons_succ]; rfl)))
  refine wpL_stepCall (f := 31) (args := #[.pointer (some ⟨gb, 0, none⟩), .int .i64 (seg : Int), .int .i64 (at_ : Int)]) rfl (by kernel_rfl) ((sector_any w1 gb per seg at_ hc1 (by omega) (by omega) (by omega)).mono ?_)
  rintro ev wv ⟨rfl, rfl⟩
  refine ⟨_, rfl, rfl, ?_⟩
  simp only [put_some, List.setIfInBounds_toArray, List.set_cons_zero, List.set_cons_succ]
  refine wpL_lastCall (f := 49) (args := #[.pointer (some ⟨p, 0, none⟩), .int .i64 ((seg * per + at_ : Nat) : Int)]) rfl (by kernel_rfl) ((RD.out w1 hw1.da).mono ?_)
  rintro ev w2 ⟨rfl, ho2⟩
  refine ⟨_, rfl, ?_⟩
  simp only [put_some, List.setIfInBounds_toArray, List.set_cons_zero, List.set_cons_succ]
  iterate 5 (refine wpL_pure (a' := ?_) ?_ rfl (fun W => ?_) ?_ ?_; rotate_left 2; (· go_simp; first | (go_bits; with_reducible rfl) | with_reducible rfl); (· simp only [put_some, List.setIfInBounds_toArray, List.set_cons_zero, List.set_cons_succ]; rfl))
  refine wpL_nil ?_
  have hb2 := ho2.keep hb1 id
  have HO2 := Lib.hid (ho1.trans ho2)
  clear hw0 hb0 ho0 hw1 hb1 ho1 ho2 hc0 hc1 RD hG
  have RV := Lib.hid (read_any w2 T (by unfold maxLen; omega))
  have HB2 := Lib.hid hb2
  clear hb2
  rcases HF.out with ⟨f, hr, hfa, rfl⟩ | ⟨f, hr, hfa, rfl⟩ | ⟨hr, rfl⟩
  · rw [readV_of_some hr] at RV
    have hfb : (F.a != (at_ : Int)) = false := by simp [hfa]
    clear hfa HF hr
    unfold Fr.val at RV
    go_wp2_with fail
    refine RV.out.mono ?_
    rintro ev w3 ⟨rfl, ho3⟩
    have hb3 := ho3.keep HB2.out id
    have HO3 := Lib.hid (HO2.out.trans ho3)
    clear ho3 RV HB2 HO2
    have hk3 := (Only.alloc w3 (.cells #[.int .i64 F.e, .int .i64 F.a, .int .i64 F.k, .string ⟨F.s.toArray⟩] 86) (fun _ => False)).keep hb3 id
    have HO4 := Lib.hid (HO3.out.trans (Only.alloc w3 (.cells #[.int .i64 F.e, .int .i64 F.a, .int .i64 F.k, .string ⟨F.s.toArray⟩] 86) _))
    go_wp2_with ((with_reducible refine wpList_store_block g 86 [.int .i64 F.e, .int .i64 F.a, .int .i64 F.k, .string ⟨F.s.toArray⟩] [.int .i64 0, .int .i64 0, .int .i64 0, .string ⟨#[]⟩] ?_ ?_ ?_ ?_ ?_ ?_ ?_); (· exact Tryd.size23); (· exact hk3); (· rfl); (· simp [Value.oneCell']); (· rfl); (· rfl))
    refine bodyPost_ret (results_cell rfl _ _ g 86 #[.int .i64 F.e, .int .i64 F.a, .int .i64 F.k, .string ⟨F.s.toArray⟩] (0, 0) _ rfl (setRow_heap _ _ _ _ _ _ hk3) Tryd.underlying86 rfl Tryd.size23) rfl ?_
    exact ⟨rfl, HO4.out.trans' (Only.setRow _ _ _ (S := fun x => x = g) rfl) (fun y hy e => by have := HG.out; omega)⟩
  · rw [readV_of_some hr] at RV
    have hfb : (f.a != (at_ : Int)) = true := by simp [hfa]
    clear hfa HF hr
    unfold Fr.val at RV
    go_wp2_with fail
    refine RV.out.mono ?_
    rintro ev w3 ⟨rfl, ho3⟩
    have hb3 := ho3.keep HB2.out id
    have HO3 := Lib.hid (HO2.out.trans ho3)
    clear ho3 RV HB2 HO2
    have hk3 := (Only.alloc w3 (.cells #[.int .i64 f.e, .int .i64 f.a, .int .i64 f.k, .string ⟨f.s.toArray⟩] 86) (fun _ => False)).keep hb3 id
    have HO4 := Lib.hid (HO3.out.trans (Only.alloc w3 (.cells #[.int .i64 f.e, .int .i64 f.a, .int .i64 f.k, .string ⟨f.s.toArray⟩] 86) _))
    go_wp2_with ((with_reducible refine wpList_store_block g 86 [.int .i64 0, .int .i64 0, .int .i64 0, .string ⟨#[]⟩] [.int .i64 0, .int .i64 0, .int .i64 0, .string ⟨#[]⟩] ?_ ?_ ?_ ?_ ?_ ?_ ?_); (· exact Tryd.size23); (· exact hk3); (· rfl); (· simp [Value.oneCell']); (· rfl); (· rfl))
    refine bodyPost_ret (results_cell rfl _ _ g 86 #[.int .i64 0, .int .i64 0, .int .i64 0, .string ⟨#[]⟩] (0, 0) _ rfl (setRow_heap _ _ _ _ _ _ hk3) Tryd.underlying86 rfl Tryd.size23) rfl ?_
    exact ⟨rfl, HO4.out.trans' (Only.setRow _ _ _ (S := fun x => x = g) rfl) (fun y hy e => by have := HG.out; omega)⟩
  · rw [readV_of_none hr] at RV
    clear HF hr
    go_wp2_with fail
    refine RV.out.mono ?_
    rintro ev w3 ⟨rfl, ho3⟩
    have hb3 := ho3.keep HB2.out id
    have HO3 := Lib.hid (HO2.out.trans ho3)
    clear ho3 RV HB2 HO2
    have hk3 := (Only.alloc w3 (.cells #[.int .i64 0, .int .i64 0, .int .i64 0, .string ⟨#[]⟩] 86) (fun _ => False)).keep hb3 id
    have HO4 := Lib.hid (HO3.out.trans (Only.alloc w3 (.cells #[.int .i64 0, .int .i64 0, .int .i64 0, .string ⟨#[]⟩] 86) _))
    go_wp2_with ((with_reducible refine wpList_store_block g 86 [.int .i64 0, .int .i64 0, .int .i64 0, .string ⟨#[]⟩] [.int .i64 0, .int .i64 0, .int .i64 0, .string ⟨#[]⟩] ?_ ?_ ?_ ?_ ?_ ?_ ?_); (· exact Tryd.size23); (· exact hk3); (· rfl); (· simp [Value.oneCell']); (· rfl); (· rfl))
    refine bodyPost_ret (results_cell rfl _ _ g 86 #[.int .i64 0, .int .i64 0, .int .i64 0, .string ⟨#[]⟩] (0, 0) _ rfl (setRow_heap _ _ _ _ _ _ hk3) Tryd.underlying86 rfl Tryd.size23) rfl ?_
    exact ⟨rfl, HO4.out.trans' (Only.setRow _ _ _ (S := fun x => x = g) rfl) (fun y hy e => by have := HG.out; omega)⟩
end Go.Proofs.YtlgefjcfnnjkbaaDoor
/- The order of a chain, by epochs: the library's sort on at most twelve numbers. No conditions. -/
namespace Go.Proofs.YtlgefjcfnnjkbaaDoor
set_option maxRecDepth 100000
open Go.RowKit

theorem isNaN_any (w : World) (a : Int) : Calls Tryd.prog 62 #[.int .i64 a] w fun e w' => e = .returned (.bool false) ∧ w = w' := by
  go_enter Tryd.func62, Tryd.ntmps62
  go_wp2
  go_ret
  exact ⟨by simp, rfl⟩
def cmpI (a b : Int) : Int := if a < b then -1 else if b < a then 1 else 0
theorem cmp_any (w : World) (a b : Int) : Calls Tryd.prog 42 #[.int .i64 a, .int .i64 b] w fun e w' => e = .returned (.int .i64 (cmpI a b)) ∧ w = w' := by
  go_enter Tryd.func42, Tryd.ntmps42
  go_wp2_with fail
  refine (isNaN_any w a).mono ?_
  rintro ev w1 ⟨rfl, rfl⟩
  go_wp2_with fail
  refine (isNaN_any w b).mono ?_
  rintro ev w1 ⟨rfl, rfl⟩
  have HE := Lib.hid (show cmpI a b = if a < b then -1 else if b < a then 1 else 0 from rfl)
  go_wp2_with fail
  all_goals
    go_ret
    rw [HE.out]
    refine ⟨?_, rfl⟩
    split <;> (try split) <;> first | rfl | omega

/-! ### A chain in memory -/
def usCells (c : List Us) : List Value := (c.map fun u => [Value.int .i64 u.e, Value.int .i64 u.c]).flatten
theorem usCells_length : ∀ c : List Us, (usCells c).length = 2 * c.length
  | [] => rfl
  | u :: c => by have := usCells_length c; simp only [usCells, List.map_cons, List.flatten_cons, List.length_append, List.length_cons, List.length_nil] at *; omega
theorem usCells_get : ∀ (c : List Us) (k : Nat), k < c.length → (usCells c)[2 * k]? = some (.int .i64 (c.getD k Us.no).e) ∧ (usCells c)[2 * k + 1]? = some (.int .i64 (c.getD k Us.no).c)
  | [], k, h => absurd h (by simp)
  | u :: c, 0, _ => by simp [usCells]
  | u :: c, k + 1, h => by
    have := usCells_get c k (by simpa using h)
    simp only [usCells, List.map_cons, List.flatten_cons] at this ⊢
    rw [show 2 * (k + 1) = 2 * k + 1 + 1 by omega]
    simpa using this
/-- a chain that lies at a place -/
structure CAt (w : World) (b o : Nat) (c : List Us) : Prop where
  len : c.length = 12
  has : Has w b o (usCells c)
theorem CAt.only {w w' : World} {b o : Nat} {c : List Us} {S : Nat → Prop} (h : CAt w b o c) (ho : Only S w w') (hb : ¬ S b) : CAt w' b o c :=
  ⟨h.len, fun j x hx => by have := h.has j x hx; rw [ho.cell (World.block_lt_of_cell? _ _ this) hb]; exact this⟩
theorem CAt.cells {w : World} {b o : Nat} {c : List Us} (h : CAt w b o c) {k : Nat} (hk : k < 12) : w.cell? ⟨b, o + k * 2, none⟩ = some (.int .i64 (c.getD k Us.no).e) ∧ w.cell? ⟨b, o + k * 2 + 1, none⟩ = some (.int .i64 (c.getD k Us.no).c) := by
  obtain ⟨h1, h2⟩ := usCells_get c k (by rw [h.len]; exact hk)
  rw [Nat.mul_comm 2 k] at h1 h2
  exact ⟨h.has _ _ h1, by have := h.has _ _ h2; rwa [← Nat.add_assoc] at this⟩

set_option maxHeartbeats 2000000 in
theorem orderCmp_any (w : World) (bx cb o : Nat) (c : List Us) (a b : Nat) (ha : a < 12) (hb : b < 12) (hbx : w.cell? ⟨bx, 0, none⟩ = some (.pointer (some ⟨cb, o, none⟩))) (hC : CAt w cb o c) :
    Calls Tryd.prog 41 #[.int .i64 (a : Int), .int .i64 (b : Int), .pointer (some ⟨bx, 0, none⟩)] w fun e w' => e = .returned (.int .i64 (cmpI (c.getD a Us.no).e (c.getD b Us.no).e)) ∧ Only (fun _ => False) w w' := by
  go_enter Tryd.func41, Tryd.ntmps41
  go_upto_region 1 with fail
  refine wp_region_pick (fun W => W = w.drew) [(0, 1), (1, 0), (2, 0), (3, 0), (4, 0), (5, 1), (6, 1), (7, 0), (8, 0), (9, 0), (10, 0), (11, 1), (12, 3), (13, 0)] (by kernel_rfl) (by kernel_rfl) (fun _ _ d _ _ h => by cases d <;> exact h) rfl ?_
  have hO := Only.drew w (fun _ => False)
  have hC1 := hC.only hO id
  have hx1 : w.drew.cell? ⟨bx, 0, none⟩ = some (.pointer (some ⟨cb, o, none⟩)) := hbx
  have ea := (hC1.cells ha).1
  have eb := (hC1.cells hb).1
  generalize w.drew = w1 at hO hC1 hx1 ea eb ⊢
  generalize hgx : (c.getD a Us.no).e = x at ea
  generalize hgy : (c.getD b Us.no).e = y at eb
  have HX := Lib.hid hgx
  have HY := Lib.hid hgy
  clear hC1 hC hbx hgx hgy
  simp only [pickOps, List.getElem?_cons_zero, List.getElem?_cons_succ]
  have haI : (a : Int) < 12 := by omega
  have hbI : (b : Int) < 12 := by omega
  iterate 12 (first | (refine wpL_pure (a' := ?_) ?_ rfl (fun W => ?_) ?_ ?_; rotate_left 2; (· go_simp; first | (go_bits; with_reducible rfl) | with_reducible rfl); (· simp only [put_some, List.setIfInBounds_toArray, List.set_cons_zero, List.set_cons_succ]; rfl)) | (refine wpL_held (a' := ?_) ?_ rfl (fun W hW => ?_) ?_ ?_; rotate_left 2; (· subst hW; go_simp; first | (go_bits; with_reducible rfl) | with_reducible rfl); (· simp only [put_some, List.setIfInBounds_toArray, List.set_cons_zero, List.set_cons_succ]; rfl)))
  refine wpL_lastCall (f := 42) (args := #[.int .i64 x, .int .i64 y]) rfl (by kernel_rfl) ((cmp_any w1 x y).mono ?_)
  rintro ev w2 ⟨rfl, rfl⟩
  refine ⟨_, rfl, ?_⟩
  simp only [put_some, List.setIfInBounds_toArray, List.set_cons_zero, List.set_cons_succ]
  (refine wpL_pure (a' := ?_) ?_ rfl (fun W => ?_) ?_ ?_; rotate_left 2; (· go_simp; first | (go_bits; with_reducible rfl) | with_reducible rfl); (· simp only [put_some, List.setIfInBounds_toArray, List.set_cons_zero, List.set_cons_succ]; rfl))
  refine wpL_nil ?_
  go_wp2_with fail
  go_ret
  exact ⟨by rw [HX.out, HY.out]; rfl, hO⟩

/-! ### The sort's plain part -/
def insAll (c : List Us) (l : List Nat) : List Nat := l.foldl (fun l x => ins c x l) []
abbrev keyU (c : List Us) (k : Nat) : Int := (c.getD k Us.no).e
theorem insAll_snoc (c : List Us) (l : List Nat) (x : Nat) : insAll c (l ++ [x]) = ins c x (insAll c l) := by simp [insAll]
theorem ins_perm (c : List Us) (x : Nat) : ∀ l : List Nat, (ins c x l).Perm (x :: l)
  | [] => .refl _
  | y :: r => by
    unfold ins
    split
    · exact .refl _
    · exact ((ins_perm c x r).cons y).trans (List.Perm.swap x y r)
theorem insAll_perm (c : List Us) (l : List Nat) : (insAll c l).Perm l := by
  have key : ∀ (l a : List Nat), (l.foldl (fun l x => ins c x l) a).Perm (l ++ a) := by
    intro l
    induction l with
    | nil => intro a; exact .refl _
    | cons x r ih =>
      intro a
      refine (ih _).trans ?_
      refine ((ins_perm c x a).append_left r).trans ?_
      exact List.perm_middle.trans (by simp)
  simpa [insAll] using key l []
theorem ins_sorted (c : List Us) (x : Nat) : ∀ l : List Nat, l.Pairwise (fun a b => keyU c a ≤ keyU c b) → (ins c x l).Pairwise (fun a b => keyU c a ≤ keyU c b)
  | [], _ => by simp [ins]
  | y :: r, h => by
    have hp := List.pairwise_cons.1 h
    unfold ins
    split
    · rename_i hlt
      have hlt' : keyU c x < keyU c y := hlt
      refine List.pairwise_cons.2 ⟨fun z hz => ?_, h⟩
      rcases List.mem_cons.1 hz with rfl | hz
      · omega
      · have := hp.1 z hz; omega
    · rename_i hlt
      have hlt' : ¬ keyU c x < keyU c y := hlt
      refine List.pairwise_cons.2 ⟨fun z hz => ?_, ins_sorted c x r hp.2⟩
      rcases List.mem_cons.1 ((ins_perm c x r).mem_iff.1 hz) with rfl | hz
      · omega
      · exact hp.1 z hz
theorem insAll_sorted (c : List Us) (l : List Nat) : (insAll c l).Pairwise (fun a b => keyU c a ≤ keyU c b) := by
  have key : ∀ (l a : List Nat), a.Pairwise (fun a b => keyU c a ≤ keyU c b) → (l.foldl (fun l x => ins c x l) a).Pairwise (fun a b => keyU c a ≤ keyU c b) := by
    intro l
    induction l with
    | nil => intro a h; exact h
    | cons x r ih => intro a h; exact ih _ (ins_sorted c x a h)
  exact key l [] List.Pairwise.nil
/-- where all ahead are not above it and all behind it are -/
theorem ins_at (c : List Us) (x : Nat) : ∀ (A B : List Nat), (∀ a ∈ A, keyU c a ≤ keyU c x) → (∀ b ∈ B, keyU c x < keyU c b) → ins c x (A ++ B) = A ++ x :: B
  | [], [], _, _ => rfl
  | [], b :: B, _, h => by
    have : keyU c x < keyU c b := h b (by simp)
    simp only [List.nil_append, ins]
    rw [if_pos this]
  | a :: A, B, ha, hb => by
    have : ¬ keyU c x < keyU c a := by have := ha a (by simp); omega
    simp only [List.cons_append, ins]
    rw [if_neg this, ins_at c x A B (fun y hy => ha y (by simp [hy])) hb]
def natVs (l : List Nat) : List Value := l.map fun k : Nat => Value.int .i64 (k : Int)
theorem natVs_get {l : List Nat} {i x : Nat} (h : l[i]? = some x) : (natVs l)[i]? = some (.int .i64 (x : Int)) := by simp [natVs, h]
theorem cmpI_neg (a b : Int) : (cmpI a b < 0) = (a < b) := by
  unfold cmpI
  split
  · simp_all
  · split <;> simp_all
/-- the inner loop's list -/
structure InsAt (c : List Us) (S : List Nat) (x : Nat) (R : List Nat) (M : List Nat) (A B : List Nat) : Prop where
  eq : M = A ++ x :: (B ++ R)
  spl : S = A ++ B
  gt : ∀ b ∈ B, keyU c x < keyU c b
theorem InsAt.move {c : List Us} {S : List Nat} {x y : Nat} {R M A B : List Nat} (h : InsAt c S x R M (A ++ [y]) B) (hlt : keyU c x < keyU c y) : InsAt c S x R ((M.set (A.length + 1) y).set A.length x) A (y :: B) := by
  refine ⟨?_, by rw [h.spl]; simp, fun b hb => ?_⟩
  · rw [h.eq]
    simp
  · rcases List.mem_cons.1 hb with rfl | hb
    · exact hlt
    · exact h.gt b hb
theorem InsAt.done {c : List Us} {S : List Nat} {x : Nat} {R M A B : List Nat} (h : InsAt c S x R M A B) (hs : S.Pairwise (fun a b => keyU c a ≤ keyU c b)) (hA : ∀ y A', A = A' ++ [y] → ¬ keyU c x < keyU c y) : M = ins c x S ++ R := by
  rw [h.spl, ins_at c x A B ?_ h.gt, h.eq]
  · simp
  · intro a ha
    rcases List.eq_nil_or_concat A with rfl | ⟨A', y, rfl⟩
    · cases ha
    · have h1 := hA y A' (by simp)
      rw [h.spl] at hs
      have hs' := (List.pairwise_append.1 hs).1
      simp only [List.concat_eq_append] at ha hs'
      rcases List.mem_append.1 ha with ha | ha
      · have := (List.pairwise_append.1 hs').2.2 a ha y (by simp)
        omega
      · obtain rfl : a = y := by simpa using ha
        omega

set_option maxHeartbeats 8000000 in
theorem insertion_any (w : World) (base n : Nat) (v : Value) (l : List Nat) (bx cb o : Nat) (c : List Us) (hn : l.length = n) (hl : ∀ x ∈ l, x < 12) (hown : w.ownsRow base 3 1 v n (natVs l)) (hbx : w.cell? ⟨bx, 0, none⟩ = some (.pointer (some ⟨cb, o, none⟩)))
    (hC : CAt w cb o c) (h1 : bx < base) (h2 : cb < base) (hn2 : n ≤ 12) :
    Calls Tryd.prog 67 #[v, .int .i64 0, .int .i64 (n : Int), .func (.func 41) #[] #[.pointer (some ⟨bx, 0, none⟩)]] w fun e w' => e = .returned (.tuple #[]) ∧
      w'.ownsRow base 3 1 v n (natVs (insAll c l)) ∧ Only (fun k => base ≤ k) w w' := by
  go_enter Tryd.func67, Tryd.ntmps67
  go_wp2_with fail
  go_loopw [8] (fun i wr => ∃ k : Nat, 1 ≤ k ∧ (k ≤ n ∨ k = 1) ∧ i = .int .i64 (k : Int) ∧ Hid (wr.ownsRow base 3 1 v n (natVs (insAll c (l.take k) ++ l.drop k))) ∧ Only (fun k => base ≤ k) w wr) (fun i _ => 13 - (intOf i).toNat)
  case atStart =>
    refine ⟨1, by omega, .inr rfl, rfl, Lib.hid ?_, Only.refl _ _⟩
    have : insAll c (l.take 1) ++ l.drop 1 = l := by cases l <;> rfl
    rwa [this]
  case round =>
    obtain ⟨k, hk1, hk2, rfl, hrow, hor⟩ := hrel
    obtain ⟨w9, hw9⟩ : ∃ w9, w9 = wr := ⟨_, rfl⟩
    subst hw9
    by_cases hkn : k < n
    · have hI : (k : Int) < (n : Int) := by omega
      have hk12 : k < 12 := by omega
      have hlk : l[k]? = some (l[k]'(by omega)) := List.getElem?_eq_getElem _
      generalize hx : l[k]'(by omega) = x at hlk
      have hxm : x ∈ l := hx ▸ List.getElem_mem _
      have hx12 := hl x hxm
      have hdr : l.drop k = x :: l.drop (k + 1) := by rw [List.drop_eq_getElem_cons (by omega), hx]
      have htk : l.take (k + 1) = l.take k ++ [x] := by rw [List.take_add_one, hlk]; rfl
      have HS := Lib.hid (insAll_sorted c (l.take k))
      have hSl : (insAll c (l.take k)).length = k := by rw [(insAll_perm c _).length_eq]; simp; omega
      have HSm := Lib.hid (fun y (hy : y ∈ insAll c (l.take k)) => hl y (List.mem_of_mem_take ((insAll_perm c _).mem_iff.1 hy)))
      have HTK := Lib.hid (show insAll c (l.take (k + 1)) = ins c x (insAll c (l.take k)) by rw [htk, insAll_snoc])
      have HNX := Lib.hid (insAll_perm c (l.take (k + 1)))
      rw [hdr] at hrow
      generalize insAll c (l.take k) = S at hrow HS hSl HSm HTK
      have hRl : (l.drop (k + 1)).length + (k + 1) = n := by simp; omega
      clear hdr htk hlk hx
      generalize hR : l.drop (k + 1) = R at hrow hRl
      have HD := Lib.hid hR
      clear hR
      go_wp2_with fail
      go_loopw [9] (fun j wr => ∃ (M A B : List Nat) (a : Nat), a = A.length ∧ j = .int .i64 (a : Int) ∧ InsAt c S x R M A B ∧ Hid (wr.ownsRow base 3 1 v n (natVs M)) ∧ Only (fun k => base ≤ k) w wr) (fun j _ => (intOf j).toNat)
      case atStart => exact ⟨S ++ x :: R, S, [], k, hSl.symm, rfl, ⟨by simp, by simp, by simp⟩, hrow, hor⟩
      case round =>
        obtain ⟨M, A, B, a, ha, rfl, hI2, hrow2, hor2⟩ := hrel
        rcases List.eq_nil_or_concat A with hA | ⟨A', y, hA⟩
        · subst hA
          obtain rfl : a = 0 := ha
          go_upto_region 4 with fail
          have hOd := hor2.trans (Only.drew wr _)
          have hrd := ownsRow_only hrow2.out (Only.drew wr (fun _ => False)) (fun _ _ h => h)
          refine wp_region_pick (fun W => W = wr.drew) [(0, 0), (1, 0), (2, 0), (3, 0), (4, 0), (5, 0), (6, 0), (7, 0), (8, 1), (9, 0), (10, 0), (11, 0), (12, 0), (13, 1), (14, 3), (15, 0), (16, 0)] (by kernel_rfl) (by kernel_rfl) (fun _ _ d _ _ h => by cases d <;> exact h) rfl ?_
          generalize wr.drew = w3 at hOd hrd ⊢
          simp only [pickOps, List.getElem?_cons_zero, List.getElem?_cons_succ]
          iterate 4 (refine wpL_pure (a' := ?_) ?_ rfl (fun W => ?_) ?_ ?_; rotate_left 2; (· go_simp; first | (go_bits; with_reducible rfl) | with_reducible rfl); (· simp only [put_some, List.setIfInBounds_toArray, List.set_cons_zero, List.set_cons_succ]; rfl))
          iterate 4 (refine wpL_skip rfl (by simp only [put_some, List.setIfInBounds_toArray, List.set_cons_zero, List.set_cons_succ]; rfl) ?_)
          (refine wpL_heldSkip rfl (by simp only [put_some, List.setIfInBounds_toArray, List.set_cons_zero, List.set_cons_succ]; rfl) ?_)
          iterate 4 (refine wpL_skip rfl (by simp only [put_some, List.setIfInBounds_toArray, List.set_cons_zero, List.set_cons_succ]; rfl) ?_)
          (refine wpL_heldSkip rfl (by simp only [put_some, List.setIfInBounds_toArray, List.set_cons_zero, List.set_cons_succ]; rfl) ?_)
          (refine wpL_lastSkip rfl (by simp only [put_some, List.setIfInBounds_toArray, List.set_cons_zero, List.set_cons_succ]; rfl) ?_)
          (refine wpL_skip rfl (by simp only [put_some, List.setIfInBounds_toArray, List.set_cons_zero, List.set_cons_succ]; rfl) ?_)
          (refine wpL_pure (a' := ?_) ?_ rfl (fun W => ?_) ?_ ?_; rotate_left 2; (· go_simp; first | (go_bits; with_reducible rfl) | with_reducible rfl); (· simp only [put_some, List.setIfInBounds_toArray, List.set_cons_zero, List.set_cons_succ]; rfl))
          refine wpL_nil ?_
          go_wp2_with fail
          have hf := hI2.done HS.out (fun y A' e => by simp at e)
          rw [hf, ← HTK.out, ← HD.out] at hrd
          exact ⟨⟨k + 1, by omega, by omega, rfl, Lib.hid hrd, hOd⟩, by simp [intOf]; omega⟩
        · rw [List.concat_eq_append] at hA
          subst hA
          simp only [List.length_append, List.length_cons, List.length_nil, Nat.zero_add] at ha
          subst ha
          have hO9 := hrow2.out
          have hMl : M.length = n := by have := hI2.eq; have := hI2.spl; simp_all; omega
          have hy12 : y < 12 := HSm.out y (by rw [hI2.spl]; simp)
          have gx : M[A'.length + 1]? = some x := by rw [hI2.eq]; simp
          have gy : M[A'.length]? = some y := by rw [hI2.eq]; simp
          rcases hO9.2 with ⟨hv, h0⟩ | ⟨g, cap, cur, rfl, hgb, hgh, hnc, hcm, hcs, htk⟩
          · exfalso; omega
          have hAn : A'.length + 1 < n := by have := (List.getElem?_eq_some_iff.1 gx).1; omega
          generalize hAl : A'.length = a at gx gy hAn
          have hAi : ((a + 1 : Nat) : Int) < (n : Int) := by omega
          have hAi2 : (a : Int) < (n : Int) := by omega
          go_upto_region 4 with fail
          have hOd := hor2.trans (Only.drew wr _)
          have hrd := ownsRow_only hO9 (Only.drew wr (fun _ => False)) (fun _ _ h => h)
          refine wp_region_pick (fun W => W = wr.drew) [(0, 0), (1, 0), (2, 0), (3, 0), (4, 0), (5, 0), (6, 0), (7, 0), (8, 1), (9, 0), (10, 0), (11, 0), (12, 0), (13, 1), (14, 3), (15, 0), (16, 0)] (by kernel_rfl) (by kernel_rfl) (fun _ _ d _ _ h => by cases d <;> exact h) rfl ?_
          generalize wr.drew = w3 at hOd hrd ⊢
          have cx := ownsRow_cell hrd (a + 1) _ (natVs_get gx)
          have cy := ownsRow_cell hrd a _ (natVs_get gy)
          simp only [pickOps, List.getElem?_cons_zero, List.getElem?_cons_succ]
          have hp1 : (0 : Int) < ((a + 1 : Nat) : Int) := by omega
          have hp2 : (0 : Int) < (a : Int) + 1 := by omega
          have hp3 : (a : Int) + 1 < (n : Int) := by omega
          have HB := Lib.hid hrd
          have hG := hO9.2
          have hbx3 := (by rw [hOd.cell (World.block_lt_of_cell? _ _ hbx) (by show ¬ base ≤ bx; omega)]; exact hbx : w3.cell? ⟨bx, 0, none⟩ = some (.pointer (some ⟨cb, o, none⟩)))
          have hC3 := hC.only hOd (by show ¬ base ≤ cb; omega)
          clear hO9 hgh hG hrd hown
          have hp4 : (0 : Int) ≤ (a : Int) + 1 := by omega
          have hp5 : (0 : Int) ≤ (a : Int) := by omega
          iterate 14 (first | (refine wpL_pure (a' := ?_) ?_ rfl (fun W => ?_) ?_ ?_; rotate_left 2; (· go_simp; first | (go_bits; with_reducible rfl) | with_reducible rfl); (· simp only [put_some, List.setIfInBounds_toArray, List.set_cons_zero, List.set_cons_succ]; rfl)) | (refine wpL_held (a' := ?_) ?_ rfl (fun W hW => ?_) ?_ ?_; rotate_left 2; (· subst hW; go_simp; first | (go_bits; with_reducible rfl) | with_reducible rfl); (· simp only [put_some, List.setIfInBounds_toArray, List.set_cons_zero, List.set_cons_succ]; rfl)))
          refine wpL_lastCall (f := 41) (args := #[.int .i64 (x : Int), .int .i64 (y : Int), .pointer (some ⟨bx, 0, none⟩)]) rfl (by kernel_rfl) ((orderCmp_any w3 bx cb o c x y hx12 hy12 hbx3 hC3).mono ?_)
          rintro ev w4 ⟨rfl, ho4⟩
          have hz := cmpI_neg (c.getD x Us.no).e (c.getD y Us.no).e
          have hrow4 := ownsRow_only HB.out ho4 (fun _ _ h => h)
          have hO4 := hOd.trans (ho4.mono (fun _ _ h => h.elim))
          refine ⟨_, rfl, ?_⟩
          simp only [put_some, List.setIfInBounds_toArray, List.set_cons_zero, List.set_cons_succ]
          generalize cmpI (c.getD x Us.no).e (c.getD y Us.no).e = z at hz ⊢
          clear cx cy hOd HB hbx3 hC3 ho4
          by_cases hlt : keyU c x < keyU c y
          · have hz0 : z < 0 := by rw [hz]; exact hlt
            clear hz
            iterate 2 (refine wpL_pure (a' := ?_) ?_ rfl (fun W => ?_) ?_ ?_; rotate_left 2; (· go_simp; first | (go_bits; with_reducible rfl) | with_reducible rfl); (· simp only [put_some, List.setIfInBounds_toArray, List.set_cons_zero, List.set_cons_succ]; rfl))
            refine wpL_nil ?_
            have e4 : Exists fun _ : Unit => True := ⟨(), trivial⟩
            have cx := ownsRow_cell hrow4 (a + 1) _ (natVs_get gx)
            have cy := ownsRow_cell hrow4 a _ (natVs_get gy)
            have fx := ownsRow_free hrow4 (a + 1)
            have fy := ownsRow_free hrow4 a
            have HR4 := Lib.hid hrow4
            clear hrow4 e4
            have hmix : Tryd.prog.follows .mixedOrders = true := by kernel_rfl
            go_wp2_with fail
            go_region
            have r1 := ownsRow_set HR4.out (a + 1) (.int .i64 (y : Int)) (by omega)
            have r2 := ownsRow_set r1 a (.int .i64 (x : Int)) (by omega)
            have r3 := ownsRow_only r2 (Only.drew _ (fun _ => False)) (fun _ _ h => h)
            have o1 := (Only.setCell (S := fun k => base ≤ k) w4 g (a + 1) (.int .i64 (y : Int)) hgb).trans ((Only.setCell (S := fun k => base ≤ k) _ g a (.int .i64 (x : Int)) hgb).trans (Only.drew _ _))
            have hmv := hI2.move hlt
            have HMV := Lib.hid hmv
            have HAL := Lib.hid hAl
            have hEQ : ((natVs M).set (a + 1) (.int .i64 (y : Int))).set a (.int .i64 (x : Int)) = natVs ((M.set (a + 1) y).set a x) := by simp [natVs, List.map_set]
            rw [hEQ] at r3
            have HR := Lib.hid r3
            have HO1 := Lib.hid (hO4.trans o1)
            clear r1 r2 r3 o1 hmv hEQ cx cy fx fy hAl
            go_wp2_with fail
            refine ⟨⟨_, A', y :: B, a, HAL.out.symm, ?_, HMV.out, by rw [HAL.out]; exact HR, HO1.out⟩, ?_⟩
            · rfl
            · simp [intOf]
          · have hz0 : ¬ z < 0 := by rw [hz]; exact hlt
            clear hz
            iterate 2 (refine wpL_pure (a' := ?_) ?_ rfl (fun W => ?_) ?_ ?_; rotate_left 2; (· go_simp; first | (go_bits; with_reducible rfl) | with_reducible rfl); (· simp only [put_some, List.setIfInBounds_toArray, List.set_cons_zero, List.set_cons_succ]; rfl))
            refine wpL_nil ?_
            have HR4 := Lib.hid hrow4
            clear hrow4
            go_wp2_with fail
            have hf := hI2.done HS.out (fun y' A'' e => by
              obtain ⟨rfl, rfl⟩ : A' = A'' ∧ y = y' := by simpa using List.append_inj' e rfl
              exact hlt)
            have hrd := HR4.out
            rw [hf, ← HTK.out, ← HD.out] at hrd
            exact ⟨⟨k + 1, by omega, by omega, rfl, Lib.hid hrd, hO4⟩, by simp [intOf]; omega⟩
    · have hkn2 : n ≤ k := by omega
      have hfin := hrow.out
      rw [List.take_of_length_le (by omega), List.drop_eq_nil_of_le (by omega), List.append_nil] at hfin
      have HF := Lib.hid hfin
      clear hfin hown
      have hI : ¬ (k : Int) < (n : Int) := by omega
      go_wp2_with fail
      go_end0
      exact ⟨rfl, HF.out, hor⟩

end Go.Proofs.YtlgefjcfnnjkbaaDoor
/- The order of a chain: the library's sort's ways in. No conditions. -/
namespace Go.Proofs.YtlgefjcfnnjkbaaDoor
set_option maxRecDepth 100000
open Go.RowKit

theorem wpList_index_run {P : Program} {ops : Array Oper} {rest : List Oper} {a : Act} {Q : Exit → Act → World → Prop} {W : World} {dst : Option Tmp} {x y : Operand} {t ty : TypeId} {pos : String} {after : Array Edge}
    (v : Value) (h : (execOp a.eval { dst := dst, op := .index t x y, type := ty, pos := pos, after := after, guard := none }).run P W = .ok (.value v) W) (hK : wpList P ops Q rest (a.put dst v) W) :
    wpList P ops Q ({ dst := dst, op := .index t x y, type := ty, pos := pos, after := after, guard := none } :: rest) a W :=
  wpList_run rfl h hK
def lenTab (n : Nat) : Int := if n = 0 then 0 else if n = 1 then 1 else if n < 4 then 2 else if n < 8 then 3 else 4
set_option maxHeartbeats 4000000 in
theorem len64_any (w : World) (n : Nat) (hn : n ≤ 12) : Calls Tryd.prog 76 #[.int .u64 (n : Int)] w fun e w' => e = .returned (.int .i64 (lenTab n)) ∧ w = w' := by
  obtain rfl | rfl | rfl | rfl | rfl | rfl | rfl | rfl | rfl | rfl | rfl | rfl | rfl : n = 0 ∨ n = 1 ∨ n = 2 ∨ n = 3 ∨ n = 4 ∨ n = 5 ∨ n = 6 ∨ n = 7 ∨ n = 8 ∨ n = 9 ∨ n = 10 ∨ n = 11 ∨ n = 12 := by omega
  · go_enter Tryd.func76, Tryd.ntmps76
    go_wp2_with ((with_reducible refine wpList_index_run (.int .u8 (lenTab 0)) ?_ ?_); (· kernel_rfl))
    go_ret
    exact ⟨by kernel_rfl, rfl⟩
  · go_enter Tryd.func76, Tryd.ntmps76
    go_wp2_with ((with_reducible refine wpList_index_run (.int .u8 (lenTab 1)) ?_ ?_); (· kernel_rfl))
    go_ret
    exact ⟨by kernel_rfl, rfl⟩
  · go_enter Tryd.func76, Tryd.ntmps76
    go_wp2_with ((with_reducible refine wpList_index_run (.int .u8 (lenTab 2)) ?_ ?_); (· kernel_rfl))
    go_ret
    exact ⟨by kernel_rfl, rfl⟩
  · go_enter Tryd.func76, Tryd.ntmps76
    go_wp2_with ((with_reducible refine wpList_index_run (.int .u8 (lenTab 3)) ?_ ?_); (· kernel_rfl))
    go_ret
    exact ⟨by kernel_rfl, rfl⟩
  · go_enter Tryd.func76, Tryd.ntmps76
    go_wp2_with ((with_reducible refine wpList_index_run (.int .u8 (lenTab 4)) ?_ ?_); (· kernel_rfl))
    go_ret
    exact ⟨by kernel_rfl, rfl⟩
  · go_enter Tryd.func76, Tryd.ntmps76
    go_wp2_with ((with_reducible refine wpList_index_run (.int .u8 (lenTab 5)) ?_ ?_); (· kernel_rfl))
    go_ret
    exact ⟨by kernel_rfl, rfl⟩
  · go_enter Tryd.func76, Tryd.ntmps76
    go_wp2_with ((with_reducible refine wpList_index_run (.int .u8 (lenTab 6)) ?_ ?_); (· kernel_rfl))
    go_ret
    exact ⟨by kernel_rfl, rfl⟩
  · go_enter Tryd.func76, Tryd.ntmps76
    go_wp2_with ((with_reducible refine wpList_index_run (.int .u8 (lenTab 7)) ?_ ?_); (· kernel_rfl))
    go_ret
    exact ⟨by kernel_rfl, rfl⟩
  · go_enter Tryd.func76, Tryd.ntmps76
    go_wp2_with ((with_reducible refine wpList_index_run (.int .u8 (lenTab 8)) ?_ ?_); (· kernel_rfl))
    go_ret
    exact ⟨by kernel_rfl, rfl⟩
  · go_enter Tryd.func76, Tryd.ntmps76
    go_wp2_with ((with_reducible refine wpList_index_run (.int .u8 (lenTab 9)) ?_ ?_); (· kernel_rfl))
    go_ret
    exact ⟨by kernel_rfl, rfl⟩
  · go_enter Tryd.func76, Tryd.ntmps76
    go_wp2_with ((with_reducible refine wpList_index_run (.int .u8 (lenTab 10)) ?_ ?_); (· kernel_rfl))
    go_ret
    exact ⟨by kernel_rfl, rfl⟩
  · go_enter Tryd.func76, Tryd.ntmps76
    go_wp2_with ((with_reducible refine wpList_index_run (.int .u8 (lenTab 11)) ?_ ?_); (· kernel_rfl))
    go_ret
    exact ⟨by kernel_rfl, rfl⟩
  · go_enter Tryd.func76, Tryd.ntmps76
    go_wp2_with ((with_reducible refine wpList_index_run (.int .u8 (lenTab 12)) ?_ ?_); (· kernel_rfl))
    go_ret
    exact ⟨by kernel_rfl, rfl⟩
theorem len_any (w : World) (n : Nat) (hn : n ≤ 12) : Calls Tryd.prog 61 #[.int .u64 (n : Int)] w fun e w' => e = .returned (.int .i64 (lenTab n)) ∧ w = w' := by
  go_enter Tryd.func61, Tryd.ntmps61
  go_wp2_with fail
  refine (len64_any w n hn).mono ?_
  rintro ev w1 ⟨rfl, rfl⟩
  go_wp2_with fail
  go_ret
  exact ⟨rfl, rfl⟩

set_option maxHeartbeats 2000000 in
theorem pdq_any (w : World) (base n : Nat) (z : Int) (v : Value) (l : List Nat) (bx cb o : Nat) (c : List Us) (hn : l.length = n) (hl : ∀ x ∈ l, x < 12) (hown : w.ownsRow base 3 1 v n (natVs l)) (hbx : w.cell? ⟨bx, 0, none⟩ = some (.pointer (some ⟨cb, o, none⟩)))
    (hC : CAt w cb o c) (h1 : bx < base) (h2 : cb < base) (hn2 : n ≤ 12) :
    Calls Tryd.prog 60 #[v, .int .i64 0, .int .i64 (n : Int), .int .i64 z, .func (.func 41) #[] #[.pointer (some ⟨bx, 0, none⟩)]] w fun e w' => e = .returned (.tuple #[]) ∧
      w'.ownsRow base 3 1 v n (natVs (insAll c l)) ∧ Only (fun k => base ≤ k) w w' := by
  have HI := Lib.hid (insertion_any w base n v l bx cb o c hn hl hown hbx hC h1 h2 hn2)
  have hI : (n : Int) ≤ 12 := by omega
  clear hown hbx hC
  go_enter Tryd.func60, Tryd.ntmps60
  go_wp2_with fail
  refine wp_loop_rounds 1 ?_
  rw [rounds_succ]
  go_wp2_with fail
  refine HI.out.mono ?_
  rintro ev w2 ⟨rfl, hr, ho⟩
  have HR := Lib.hid hr
  have HO := Lib.hid ho
  clear hr ho HI
  go_wp2_with fail
  exact bodyPost_ret (results_none rfl _ _ _) rfl ⟨rfl, HR.out, HO.out⟩
set_option maxHeartbeats 2000000 in
theorem sortFunc_any (w : World) (base n : Nat) (v : Value) (l : List Nat) (bx cb o : Nat) (c : List Us) (hn : l.length = n) (hl : ∀ x ∈ l, x < 12) (hown : w.ownsRow base 3 1 v n (natVs l)) (hbx : w.cell? ⟨bx, 0, none⟩ = some (.pointer (some ⟨cb, o, none⟩)))
    (hC : CAt w cb o c) (h1 : bx < base) (h2 : cb < base) (hn2 : n ≤ 12) :
    Calls Tryd.prog 40 #[v, .func (.func 41) #[] #[.pointer (some ⟨bx, 0, none⟩)]] w fun e w' => e = .returned (.tuple #[]) ∧
      w'.ownsRow base 3 1 v n (natVs (insAll c l)) ∧ Only (fun k => base ≤ k) w w' := by
  have HI := Lib.hid (fun z => pdq_any w base n z v l bx cb o c hn hl hown hbx hC h1 h2 hn2)
  have HLN := Lib.hid (len_any w n hn2)
  obtain ⟨ao, cap, hsl⟩ := sliceOf_own hown
  obtain rfl := hsl.val
  have hI0 : (0 : Int) ≤ (n : Int) := by omega
  clear hown hbx hC hsl
  go_enter Tryd.func40, Tryd.ntmps40
  go_wp2_with fail
  refine HLN.out.mono ?_
  rintro ev w1 ⟨rfl, rfl⟩
  go_wp2_with fail
  refine (HI.out _).mono ?_
  rintro ev w2 ⟨rfl, hr, ho⟩
  have HR := Lib.hid hr
  have HO := Lib.hid ho
  clear hr ho HI
  go_wp2_with fail
  go_end0
  exact ⟨rfl, HR.out, HO.out⟩
end Go.Proofs.YtlgefjcfnnjkbaaDoor
/- The frames of a segment, one by one: the iterator. No conditions. -/
namespace Go.Proofs.YtlgefjcfnnjkbaaDoor
set_option maxRecDepth 100000
open Go.RowKit Go.Shelf
attribute [local go_sem] Oper.semAt_some

/-- frames: what it is handed is boxed; the function value captures the boxes. -/
def frBoxes (w : World) (gb : Nat) (seg a b : Int) : World := (((w.alloc (.cells #[.pointer (some ⟨gb, 0, none⟩)] 82)).alloc (.cells #[.int .i64 seg] 3)).alloc (.cells #[.int .i64 a] 3)).alloc (.cells #[.int .i64 b] 3)
def frFn (B : Nat) : Value := .func (.func 53) #[] #[.pointer (some ⟨B + 2, 0, none⟩), .pointer (some ⟨B + 3, 0, none⟩), .pointer (some ⟨B, 0, none⟩), .pointer (some ⟨B + 1, 0, none⟩)]
theorem frames_any (w : World) (gb : Nat) (seg a b : Int) : Calls Tryd.prog 33 #[.pointer (some ⟨gb, 0, none⟩), .int .i64 seg, .int .i64 a, .int .i64 b] w fun e w' => e = .returned (frFn w.heap.size) ∧ w' = frBoxes w gb seg a b := by
  go_enter Tryd.func33, Tryd.ntmps33
  go_wp2
  go_ret
  exact ⟨rfl, rfl⟩

/-- what a round that goes on keeps -/
def KpF (n₀ B : Nat) (W W' : World) : Prop := Below n₀ W W' ∧ ∀ b v, B ≤ b → b < B + 4 → W.cell? ⟨b, 0, none⟩ = some v → W'.cell? ⟨b, 0, none⟩ = some v
theorem kpF_t {n₀ B : Nat} {X Y Z : World} (h : KpF n₀ B X Y) (k : KpF n₀ B Y Z) : KpF n₀ B X Z := ⟨h.1.trans k.1, fun b v h1 h2 hv => k.2 b v h1 h2 (h.2 b v h1 h2 hv)⟩
theorem kpF_b {n₀ B : Nat} {w : World} (hn : n₀ ≤ w.heap.size) (W : World) (l : Nat) (o o' : Obj) (hl : w.heap.size ≤ l) (h : W.heap[l]? = some o) (ho : o.isCells = false) (hw : o.isWalk = false) : KpF n₀ B W (W.putObj l o') :=
  ⟨belowK_b hn W l o o' hl h ho hw, fun b v _ _ hv => cell_kept hv (grownBy_putObj' W l o') (fun r e => by cases e; exact ⟨o, h, ho⟩)⟩
theorem kpF_only {n₀ B : Nat} {W W' : World} (hn : n₀ ≤ W.heap.size) (ho : Only (fun _ => False) W W') : KpF n₀ B W W' :=
  ⟨(ho.below (fun _ _ => id)).mono hn, fun b v _ _ hv => by rw [ho.cell (World.block_lt_of_cell? _ _ hv) id]; exact hv⟩
theorem only_of_below {n₀ : Nat} {W W' : World} (h : Below n₀ W W') : Only (fun b => n₀ ≤ b) W W' := ⟨h.os, h.tape, h.output, h.size, fun k _ hs => h.block k (by omega)⟩
theorem grown_none {W W' : World} (h : Only (fun _ => False) W W') : W.grownBy W' none := ⟨h.os, h.tape, h.output, h.size, fun k hk _ => h.block k hk id⟩

/-- the ground's blocks lie below n₀ -/
structure GLow (n₀ gb p kb : Nat) (pv : Value) : Prop where
  g : gb < n₀
  f : ∀ b, fp p kb pv b → b < n₀
theorem GAt.below {w w' : World} {n₀ gb p kb : Nat} {pv : Value} {d : D} {per segs : Nat} (h : GAt w gb p kb pv d per segs) (hl : GLow n₀ gb p kb pv) (hb : Below n₀ w w') : GAt w' gb p kb pv d per segs :=
  ⟨by rw [hb.cell (p := ⟨gb, 0, none⟩) hl.g]; exact h.c0, by rw [hb.cell (p := ⟨gb, 1, none⟩) hl.g]; exact h.c1, by rw [hb.cell (p := ⟨gb, 2, none⟩) hl.g]; exact h.c2,
    h.da.only (only_of_below hb) (fun b hb hs => by have := hl.f b hb; omega), h.per4, h.per64, h.segs12, h.room⟩
theorem GAt.low {w : World} {gb p kb : Nat} {pv : Value} {d : D} {per segs : Nat} (h : GAt w gb p kb pv d per segs) : GLow w.heap.size gb p kb pv := ⟨h.lt, fun b hb => h.da.fp_lt b hb⟩

/-- what each round is handed -/
def frEnc (d : D) (per seg a m : Nat) (x : Fin m) : Array Value := #[.int .i64 ((a + x.val : Nat) : Int), .agg #[.int .i64 (frAt d per seg (a + x.val)).e, .int .i64 (frAt d per seg (a + x.val)).a, .int .i64 (frAt d per seg (a + x.val)).k, .string ⟨(frAt d per seg (a + x.val)).s.toArray⟩]]
theorem fin_take (m q : Nat) (h : q < m) : (List.finRange m).take (q + 1) = (List.finRange m).take q ++ [⟨q, h⟩] := by
  rw [List.take_succ_eq_append_getElem (by simpa using h)]
  simp
theorem fin_take_all (m : Nat) : (List.finRange m).take m = List.finRange m := List.take_of_length_le (by simp)

set_option maxHeartbeats 4000000 in
theorem frames1_in (n : Nat) (hn : 2 ≤ n) (n₀ l B gb p kb : Nat) (pv : Value) (d : D) (per segs seg a m : Nat) (tv : Int) (ht : tv = (a : Int) + m ∨ (m = 0 ∧ tv ≤ a)) (hlow : GLow n₀ gb p kb pv) (hseg : seg < segs) (hm : a + m ≤ per) (J Jx : List (Fin m) → World → Prop)
    (hJ : ∀ s W W', J s W → Only (fun _ => False) W W' → J s W')
    (hY : ∀ pre x W, J pre W → pre.length < m → YieldAt Fence.wide (n - 1) Tryd.prog l (frEnc d per seg a m x) W fun e W' =>
      (e = .returned (.bool true) ∧ J (pre ++ [x]) W' ∧ KpF n₀ B W W') ∨ (e = .returned (.bool false) ∧ Jx (pre ++ [x]) W'))
    (W : World) (hn₀ : n₀ ≤ W.heap.size) (hG : GAt W gb p kb pv d per segs) (h1 : W.cell? ⟨B, 0, none⟩ = some (.pointer (some ⟨gb, 0, none⟩))) (h2 : W.cell? ⟨B + 1, 0, none⟩ = some (.int .i64 (seg : Int))) (h3 : W.cell? ⟨B + 2, 0, none⟩ = some (.int .i64 (a : Int))) (h4 : W.cell? ⟨B + 3, 0, none⟩ = some (.int .i64 tv)) (h0 : J [] W) :
    CallsIn Fence.wide n Tryd.prog 53 #[.func (.yield l) #[] #[], .pointer (some ⟨B + 2, 0, none⟩), .pointer (some ⟨B + 3, 0, none⟩), .pointer (some ⟨B, 0, none⟩), .pointer (some ⟨B + 1, 0, none⟩)] W fun e W' => (∃ v, e = .returned v) ∧
      ((∃ ys, ys = List.finRange m ∧ J ys W') ∨ (∃ pre, pre <+: List.finRange m ∧ Jx pre W')) := by
  have hp64 := hG.per64
  have htb : tv ≤ 1000 := by omega
  have hta : (a : Int) ≤ 64 := by omega
  have hHT := Lib.hid ht
  clear ht
  refine callsIn_of_wp Tryd.func53 rfl trivial ?_ rfl
  simp only [Tryd.ntmps53, List.size_toArray, List.length_cons, List.length_nil, Nat.reduceAdd, Nat.reduceSub, Array.replicate_succ, Array.replicate_zero, List.push_toArray, List.append_toArray, List.nil_append, List.cons_append]
  gi_wp2
  gi_loopw [6] (fun i wr => ∃ q : Nat, q ≤ m ∧ i = .int .i64 ((a + q : Nat) : Int) ∧ J ((List.finRange m).take q) wr ∧ Hid (GAt wr gb p kb pv d per segs) ∧ n₀ ≤ wr.heap.size ∧ wr.cell? ⟨B, 0, none⟩ = some (.pointer (some ⟨gb, 0, none⟩)) ∧ wr.cell? ⟨B + 1, 0, none⟩ = some (.int .i64 (seg : Int)) ∧ wr.cell? ⟨B + 3, 0, none⟩ = some (.int .i64 tv)) (fun i _ => (a + m) - (intOf i).toNat)
  case atStart => exact ⟨0, by omega, rfl, by simpa using h0, Lib.hid hG, hn₀, h1, h2, h4⟩
  case round =>
    obtain ⟨q, hq, rfl, hJs, hGr, hnr, hb1, hb2, hb4⟩ := hrel
    by_cases hlt : q < m
    · have hI : (a : Int) + (q : Int) < tv := by have := hHT.out; omega
      have FR := Lib.hid (frame_any wr gb p kb pv d per segs seg (a + q) hGr.out hseg (by omega))
      have hlen : ((List.finRange m).take q).length < m := by rw [List.length_take, List.length_finRange]; omega
      have hst := Lib.hid (fin_take m q hlt)
      rw [show ((a + q : Nat) : Int) = (a : Int) + (q : Int) from by omega] at FR
      gi_wp2
      refine ⟨trivial, fun _ => by omega, ?_⟩
      refine (callsIn_wide.2 FR.out).mono ?_
      rintro e w1 ⟨rfl, ho1⟩
      have hJ1 := hJ _ _ _ hJs ho1
      have hG1 := Lib.hid (hGr.out.only ho1)
      have hn1 : n₀ ≤ w1.heap.size := Nat.le_trans hnr ho1.size
      have hc1 := (kpF_only (B := B) hnr ho1).2 B _ (by omega) (by omega) hb1
      have hc2 := (kpF_only (B := B) hnr ho1).2 (B + 1) _ (by omega) (by omega) hb2
      have hc4 := (kpF_only (B := B) hnr ho1).2 (B + 3) _ (by omega) (by omega) hb4
      obtain ⟨fn, tmps, assign, body, hy, hR⟩ := hY _ ⟨q, hlt⟩ w1 hJ1 hlen
      unfold frEnc at hy
      dsimp only at hy
      rw [show ((a + q : Nat) : Int) = (a : Int) + (q : Int) from by omega] at hy
      clear FR hb1 hb2 hb4 hJs hJ1
      gi_wp2
      refine ⟨fun _ => by omega, ?_⟩
      refine hR.mono ?_
      rintro e W3 (⟨rfl, hJ3, hk3⟩ | ⟨rfl, hJx3⟩)
      · have hG3 := Lib.hid (hG1.out.below hlow hk3.1)
        have hn3 : n₀ ≤ W3.heap.size := Nat.le_trans hn1 hk3.1.size
        have hd1 := hk3.2 B _ (by omega) (by omega) hc1
        have hd2 := hk3.2 (B + 1) _ (by omega) (by omega) hc2
        have hd4 := hk3.2 (B + 3) _ (by omega) (by omega) hc4
        gi_wp2
        go_roundw
        case rel => exact ⟨q + 1, by omega, by go_num, by rw [hst.out]; exact hJ3, hG3, hn3, hd1, hd2, hd4⟩
        case measure => simp [intOf] <;> omega
      · gi_wp2
        refine bodyPost_ret (results_none rfl _ _ _) rfl ?_
        exact ⟨⟨_, rfl⟩, .inr ⟨_, ⟨(List.finRange m).drop (q + 1), by rw [← hst.out, List.take_append_drop]⟩, hJx3⟩⟩
    · obtain rfl : q = m := by omega
      have hI : tv ≤ (a : Int) + (q : Int) := by have := hHT.out; omega
      gi_wp2
      go_end0
      exact ⟨⟨_, rfl⟩, .inl ⟨_, fin_take_all _, hJs⟩⟩

theorem frames_stops (n : Nat) (hn : 2 ≤ n) (n₀ B gb p kb : Nat) (pv : Value) (d : D) (per segs seg a m : Nat) (tv : Int) (ht : tv = (a : Int) + m ∨ (m = 0 ∧ tv ≤ a)) (hlow : GLow n₀ gb p kb pv) (hseg : seg < segs) (hm : a + m ≤ per) (w : World) (hn₀ : n₀ ≤ w.heap.size) (hG : GAt w gb p kb pv d per segs)
    (h1 : w.cell? ⟨B, 0, none⟩ = some (.pointer (some ⟨gb, 0, none⟩))) (h2 : w.cell? ⟨B + 1, 0, none⟩ = some (.int .i64 (seg : Int))) (h3 : w.cell? ⟨B + 2, 0, none⟩ = some (.int .i64 (a : Int))) (h4 : w.cell? ⟨B + 3, 0, none⟩ = some (.int .i64 tv)) :
    SeqStopsK Fence.wide n Tryd.prog 53 #[.pointer (some ⟨B + 2, 0, none⟩), .pointer (some ⟨B + 3, 0, none⟩), .pointer (some ⟨B, 0, none⟩), .pointer (some ⟨B + 1, 0, none⟩)] (frEnc d per seg a m) (KpF n₀ B) (fun ys => ys = List.finRange m) (fun pre => pre <+: List.finRange m) m w := fun l J Jx W hW hJ _ hY h0 =>
  frames1_in n hn n₀ l B gb p kb pv d per segs seg a m tv ht hlow hseg hm J Jx (fun s X X' hs ho => hJ s X X' none hs (grown_none ho) (fun r e => by cases e)) hY W (Nat.le_trans hn₀ hW.size)
    (hG.below hG.low hW) ((hW.cell (p := ⟨B, 0, none⟩) (World.block_lt_of_cell? _ _ h1)).trans h1) ((hW.cell (p := ⟨B + 1, 0, none⟩) (World.block_lt_of_cell? _ _ h2)).trans h2)
    ((hW.cell (p := ⟨B + 2, 0, none⟩) (World.block_lt_of_cell? _ _ h3)).trans h3) ((hW.cell (p := ⟨B + 3, 0, none⟩) (World.block_lt_of_cell? _ _ h4)).trans h4) h0
/-- the boxes that frames lays -/
theorem frBoxes_only (w : World) (gb : Nat) (seg a b : Int) : Only (fun _ => False) w (frBoxes w gb seg a b) := (((Only.alloc w _ _).trans (Only.alloc _ _ _)).trans (Only.alloc _ _ _)).trans (Only.alloc _ _ _)
theorem frBoxes_size (w : World) (gb : Nat) (seg a b : Int) : (frBoxes w gb seg a b).heap.size = w.heap.size + 4 := by simp [frBoxes]
theorem frBoxes_cells (w : World) (gb : Nat) (seg a b : Int) : (frBoxes w gb seg a b).cell? ⟨w.heap.size, 0, none⟩ = some (.pointer (some ⟨gb, 0, none⟩)) ∧ (frBoxes w gb seg a b).cell? ⟨w.heap.size + 1, 0, none⟩ = some (.int .i64 seg) ∧
    (frBoxes w gb seg a b).cell? ⟨w.heap.size + 2, 0, none⟩ = some (.int .i64 a) ∧ (frBoxes w gb seg a b).cell? ⟨w.heap.size + 3, 0, none⟩ = some (.int .i64 b) := by
  have e1 := heap_alloc_new w (.cells #[.pointer (some ⟨gb, 0, none⟩)] 82)
  have e2 := heap_alloc_new (w.alloc (.cells #[.pointer (some ⟨gb, 0, none⟩)] 82)) (.cells #[.int .i64 seg] 3)
  have e3 := heap_alloc_new ((w.alloc (.cells #[.pointer (some ⟨gb, 0, none⟩)] 82)).alloc (.cells #[.int .i64 seg] 3)) (.cells #[.int .i64 a] 3)
  have e4 := heap_alloc_new (((w.alloc (.cells #[.pointer (some ⟨gb, 0, none⟩)] 82)).alloc (.cells #[.int .i64 seg] 3)).alloc (.cells #[.int .i64 a] 3)) (.cells #[.int .i64 b] 3)
  simp only [World.size_alloc, Nat.add_assoc, Nat.reduceAdd] at e2 e3 e4
  have f1 := ((((Only.alloc (w.alloc (.cells #[.pointer (some ⟨gb, 0, none⟩)] 82)) (.cells #[.int .i64 seg] 3) (fun _ => False)).trans (Only.alloc _ (.cells #[.int .i64 a] 3) _)).trans (Only.alloc _ (.cells #[.int .i64 b] 3) _))).keep e1 id
  have f2 := ((Only.alloc ((w.alloc (.cells #[.pointer (some ⟨gb, 0, none⟩)] 82)).alloc (.cells #[.int .i64 seg] 3)) (.cells #[.int .i64 a] 3) (fun _ => False)).trans (Only.alloc _ (.cells #[.int .i64 b] 3) _)).keep e2 id
  have f3 := (Only.alloc (((w.alloc (.cells #[.pointer (some ⟨gb, 0, none⟩)] 82)).alloc (.cells #[.int .i64 seg] 3)).alloc (.cells #[.int .i64 a] 3)) (.cells #[.int .i64 b] 3) (fun _ => False)).keep e3 id
  exact ⟨(cell_at f1 0), (cell_at f2 0), (cell_at f3 0), (cell_at e4 0)⟩
end Go.Proofs.YtlgefjcfnnjkbaaDoor
