/- DiskRots. No conditions. -/
import Derived.Test.YtlgefjcfnnjkbaaAwake
import Derived.Test.YtlgefjcfnnjkbaaDM2
import Derived.Test.YtlgefjcfnnjkbaaLaw
import Derived.Test.YtlgefjcfnnjkbaaRows
namespace Go.Proofs.Ytlgefjcfnnjkbaa
open Go.ChangeShapes Go.WideShapes Go.ChangeAt Go.RowKit Go.Joins Go.Deep

theorem allL_kept (d : D) (hp : d.pend = []) : allL d = d.kept.flatten := by
  unfold allL allTo
  congr 1
  apply List.ext_getElem
  · simp
  · intro i h1 h2
    simp [D.there, hp, List.getD_eq_getElem?_getD, h2]
theorem bv_inj (a b : UInt8) (h : bv a = bv b) : a = b := by
  simp only [bv, Value.int.injEq, true_and] at h
  exact UInt8.toNat_inj.1 (by omega)
theorem rot_flat (d : D) (h : d.Ok) (k p m : Nat) (hk : k < d.kept.length) (hpl : p < 64) :
    (d.rot k p m).kept.flatten = d.kept.flatten.set (k * 64 + p) (d.kept.flatten.getD (k * 64 + p) 0 ^^^ UInt8.ofNat m) := by
  have e := rows_set_byte d.kept k p ((d.kept.getD k []).getD p 0 ^^^ UInt8.ofNat m) hk h.len hpl
  unfold rowsOf at e
  rw [bvs_set] at e
  have e1 : d.kept.getD k [] = d.kept[k] := by simp [hk]
  have e2 : (d.kept.getD k []).getD p 0 = d.kept.flatten.getD (k * 64 + p) 0 := by
    have hl := h.len _ (List.getElem_mem hk)
    have hs := flatten_split d.kept k hk
    have ht : (d.kept.take k).flatten.length = k * 64 := by
      rw [flatten_length _ (fun x hx => h.len x (List.mem_of_mem_take hx)), List.length_take]; omega
    rw [hs, e1, List.getD_eq_getElem?_getD, List.getD_eq_getElem?_getD, List.getElem?_append_right (by omega), ht, Nat.add_sub_cancel_left, List.getElem?_append_left (by omega)]
  rw [e2] at e
  have e' : bvs (d.kept.flatten.set (k * 64 + p) (d.kept.flatten.getD (k * 64 + p) 0 ^^^ UInt8.ofNat m)) = bvs (d.rot k p m).kept.flatten := by
    have := congrArg Array.toList e
    simp only [D.rot]
    rw [e2]
    exact this
  unfold bvs at e'
  exact ((List.map_inj_right (fun a b h => bv_inj a b h)).1 e').symm
theorem rots_bytes (d : D) (h : d.Ok) (hp : d.pend = []) (k p m : Nat) (hk : k < d.kept.length) (hpl : p < 64) :
    allL (d.rot k p m) = (allL d).set (k * 64 + p) ((allL d).getD (k * 64 + p) 0 ^^^ UInt8.ofNat m) := by
  rw [allL_kept d hp, allL_kept (d.rot k p m) hp, rot_flat d h k p m hk hpl]
theorem rots_twice (d : D) (h : d.Ok) (hp : d.pend = []) (k p m : Nat) (hk : k < d.kept.length) (hpl : p < 64) (hlen : k * 64 + p < (allL d).length) : allL ((d.rot k p m).rot k p m) = allL d := by
  rw [rots_bytes (d.rot k p m) (h.rot k p m hk) hp k p m (by simpa [D.rot] using hk) hpl, rots_bytes d h hp k p m hk hpl, List.set_set]
  have : ((allL d).set (k * 64 + p) ((allL d).getD (k * 64 + p) 0 ^^^ UInt8.ofNat m)).getD (k * 64 + p) 0 = (allL d).getD (k * 64 + p) 0 ^^^ UInt8.ofNat m := by
    rw [List.getD_eq_getElem?_getD, List.getElem?_set_self hlen]; rfl
  rw [this, UInt8.xor_assoc, UInt8.xor_self, UInt8.xor_zero]
  apply List.ext_getElem?
  intro j
  rw [List.getElem?_set]
  split
  · next e =>
    subst e
    rw [List.getD_eq_getElem?_getD, List.getElem?_eq_getElem hlen]; rfl
  · rfl
theorem rots_pending (d : D) (hp : d.pend = []) (k p m : Nat) (s : List UInt8) : ((d.write k s).rot k p m).there k = s := by
  simp [D.there, D.rot, D.write, hp]
theorem rots_mended (d : D) (hp : d.pend = []) (k p m : Nat) (s : List UInt8) (hk : k < d.kept.length) : (((d.write k s).rot k p m).crash [0]).there k = s := by
  simp [D.there, D.rot, D.write, D.crash, D.layAll, layK, hp, D.spent_kept, List.getD_eq_getElem?_getD, hk]

set_option maxRecDepth 100000 in
set_option maxHeartbeats 16000000 in
theorem diskRots_walk (w : World) (a : List Cl) (at_ place mask : Int) (s : List UInt8) (va : Value) (ao : Option Addr) (ac : Nat) (ha : SliceOf w va a.length (cls a) ao ac) (wa : ∀ c ∈ a, c.Wf)
    (hat : I64 at_) (hpl : I64 place) (hma : I64 mask) (hs : s.length ≤ maxLen) :
    Calls Try.prog 12 #[va, .int .i64 at_, .int .i64 place, .int .i64 mask, .string ⟨s.toArray⟩] w fun e w' => e = .returned (.bool true) ∧ Only (fun _ => False) w w' := by
  have h0 := Disks.start w
  have AW := Lib.hid (fun W => awake_any W)
  have FN := Lib.hid (fun (W : World) (F : Nat → Prop) (l : List Dk) (h : Disks w W F l) => dk_filled h va (.slice none 0 0) a [] ao none ac 0 (ha.only h.only) (cls_nil W) wa (fun c h => by cases h))
  obtain ⟨hk6, hcX, _⟩ := filledD_facts a []
  have hpX := filledD_nil_pend a
  generalize filledD a [] = X at FN hk6 hcX hpX
  have P1 := Lib.hid (fun W => pick02_any W at_ 6 hat (by decide) (by decide))
  have P2 := Lib.hid (fun W => pick02_any W place 64 hpl (by decide) (by decide))
  have P3 := Lib.hid (fun W => pick02_any W mask 256 hma (by decide) (by decide))
  have hp1 := pickI_lt at_ 6 (by decide)
  have hp2 := pickI_lt place 64 (by decide)
  have hp3 := pickI_lt mask 256 (by decide)
  obtain ⟨k, hq⟩ : ∃ k : Nat, (k : Int) = pickI at_ 6 := ⟨(pickI at_ 6).toNat, by omega⟩
  rw [← hq] at P1 hp1
  clear hq
  obtain ⟨p, hq⟩ : ∃ k : Nat, (k : Int) = pickI place 64 := ⟨(pickI place 64).toNat, by omega⟩
  rw [← hq] at P2 hp2
  clear hq
  obtain ⟨m, hq⟩ : ∃ k : Nat, (k : Int) = pickI mask 256 := ⟨(pickI mask 256).toNat, by omega⟩
  rw [← hq] at P3 hp3
  clear hq
  have hk : k < 6 := by omega
  have hp : p < 64 := by omega
  have hm : m ≤ 255 := by omega
  clear hp1 hp2 hp3
  have hfs := fullL_length s
  have HFU := Lib.hid (fun (W : World) (F : Nat → Prop) (l : List Dk) (h : Disks w W F l) => dk_full h s hs)
  generalize fullL s = fs at hfs HFU
  have hvv := ha.val
  subst hvv
  clear ha
  go_enter Try.func12, Try.ntmps12
  go_wp2_with fail
  refine (AW.out _).mono ?_
  rintro e w1 ⟨rfl, ho1⟩
  have H1 := Lib.hid (h0.quiet ho1)
  clear h0 ho1
  go_wp2_with fail
  refine (FN.out _ _ _ H1.out).mono ?_
  rintro e w2 ⟨p0, k0, v0, rfl, h2⟩
  have H2 : Hid (Disks w w2 (fun _ => False) [⟨p0, k0, v0, X⟩]) := Lib.hid h2
  clear h2 H1
  go_wp2_with fail
  refine (FN.out _ _ _ H2.out).mono ?_
  rintro e w3 ⟨p1, k1, v1, rfl, h3⟩
  have H3 : Hid (Disks w w3 (fun _ => False) [⟨p0, k0, v0, X⟩, ⟨p1, k1, v1, X⟩]) := Lib.hid h3
  clear h3 H2 FN AW
  -- the plain laws
  have hok := (H3.out.at_ 0 _ rfl).ok
  have hlA := allTo_length hok 6 (by rw [hk6]; exact Nat.le_refl _)
  rw [show allTo X 6 = allL X by unfold allL; rw [hk6]] at hlA
  have r1 := rots_bytes X hok hpX k p m (by rw [hk6]; exact hk) hp
  have r2 := rots_twice X hok hpX k p m (by rw [hk6]; exact hk) hp (by omega)
  have r3 := rots_pending X hpX k p m fs
  have r4 := rots_mended X hpX k p m fs (by rw [hk6]; exact hk)
  have hk1 : (X.rot k p m).kept.length = 6 := by simp only [D.rot, List.length_set]; exact hk6
  have hw1 : (X.write k fs).kept.length = 6 := by simp only [D.write, D.spent_kept]; exact hk6
  have hw2 : ((X.write k fs).rot k p m).kept.length = 6 := by simp only [D.rot, List.length_set]; exact hw1
  have hw3 : ((X.write k fs).rot k p m).pend.length = 1 := by simp [D.rot, D.write, hpX]
  have hw4 : (((X.write k fs).rot k p m).crash [0]).kept.length = 6 := by simp only [D.crash, D.layAll_length]; exact hw2
  obtain ⟨A, hA⟩ : ∃ A, A = allL X := ⟨_, rfl⟩
  rw [← hA] at hlA r1 r2
  obtain ⟨B, hB⟩ : ∃ B, B = A.set (k * 64 + p) (A.getD (k * 64 + p) 0 ^^^ UInt8.ofNat m) := ⟨_, rfl⟩
  rw [← hB] at r1
  have hlB : B.length = 384 := by rw [hB, List.length_set]; exact hlA
  have EA := Lib.hid hA.symm
  have R1 := Lib.hid r1
  have R2 := Lib.hid r2
  have R3 := Lib.hid r3
  have R4 := Lib.hid r4
  have HB := Lib.hid hB
  have HK := Lib.hid (⟨hk6, hk1, hw1, hw2, hw3, hw4⟩ : X.kept.length = 6 ∧ (X.rot k p m).kept.length = 6 ∧ (X.write k fs).kept.length = 6 ∧ ((X.write k fs).rot k p m).kept.length = 6 ∧ ((X.write k fs).rot k p m).pend.length = 1 ∧ (((X.write k fs).rot k p m).crash [0]).kept.length = 6)
  have HX := Lib.hid (⟨hcX, hpX⟩ : X.cut = false ∧ X.pend = [])
  have HL := Lib.hid (⟨hlA, hlB⟩ : A.length = 384 ∧ B.length = 384)
  clear hA hB r1 r2 r3 r4 hk6 hk1 hw1 hw2 hw3 hw4 hok hcX hpX hlA hlB
  have hzA : (⟨A.toArray⟩ : ByteArray).size = 384 := by rw [size_toArray]; exact HL.out.1
  have hzB : (⟨B.toArray⟩ : ByteArray).size = 384 := by rw [size_toArray]; exact HL.out.2
  go_wp2_with fail
  have hal := dk_all H3.out 0 rfl
  rw [EA.out] at hal
  refine hal.mono ?_
  rintro e w4 ⟨rfl, h4, ho4⟩
  have H4 := Lib.hid h4
  clear h4 ho4 H3 hal
  go_wp2_with fail
  refine (P1.out _).mono ?_
  rintro e wx ⟨rfl, rfl⟩
  go_wp2_with fail
  refine (P2.out _).mono ?_
  rintro e wx ⟨rfl, rfl⟩
  go_wp2_with fail
  refine (P3.out _).mono ?_
  rintro e wx ⟨rfl, rfl⟩
  go_wp2_with fail
  refine (dk_rot H4.out 0 rfl k p m (by rw [HK.out.1]; exact hk) hp hm).mono ?_
  rintro e w5 ⟨rfl, h5, ho5⟩
  have H5 : Hid (Disks w w5 (fun _ => False) [⟨p0, k0, v0, X.rot k p m⟩, ⟨p1, k1, v1, X⟩]) := Lib.hid h5
  clear h5 ho5 H4
  go_wp2_with fail
  have hal := dk_all H5.out 0 rfl
  rw [R1.out] at hal
  refine hal.mono ?_
  rintro e w6 ⟨rfl, h6, ho6⟩
  have H6 := Lib.hid h6
  clear h6 ho6 H5 hal
  go_wp2_with fail
  go_loopw [20] (fun i wr => ∃ (j : Nat), j ≤ 384 ∧ i = .int .i64 j ∧ Hid (Disks w wr (fun _ => False) [⟨p0, k0, v0, X.rot k p m⟩, ⟨p1, k1, v1, X⟩])) (fun i _ => 384 - (intOf i).toNat)
  case atStart => exact ⟨0, by omega, rfl, H6⟩
  case round =>
    obtain ⟨j, hj, rfl, HD⟩ := hrel
    clear H6
    by_cases hlt : j < 384
    · have hI : (j : Int) < 384 := by omega
      have hiA := byte_at A j (by rw [hzA]; omega)
      have hiB := byte_at B j (by rw [hzB]; omega)
      have HDW := Lib.hid (HD.out.quiet (Only.drew wr _))
      by_cases hx : j = k * 64 + p
      · have hxe : ((j : Int) == 64 * (k : Int) + (p : Int)) = true := by simp; omega
        have hxn : ((j : Int) != 64 * (k : Int) + (p : Int)) = false := by simp; omega
        have hBv : B.getD j 0 = A.getD j 0 ^^^ UInt8.ofNat m := by
          have := HL.out.1
          rw [HB.out, hx, List.getD_eq_getElem?_getD, List.getElem?_set_self (by omega)]; rfl
        rw [hBv] at hiB
        clear hBv hx
        generalize A.getD j 0 = x at hiA hiB
        have hxor := rot_nopower m hm x
        go_upto_region 15 with fail
        refine wp_region_pick (fun W => W = wr.drew) [(0, 0), (1, 0), (2, 0), (3, 0), (4, 0), (5, 0), (6, 0), (7, 0), (8, 0), (9, 0), (10, 0), (11, 0), (12, 0), (13, 0), (14, 0), (15, 0), (16, 0), (17, 0), (18, 0), (19, 0), (20, 0), (21, 0), (22, 0), (23, 0), (24, 0), (25, 0), (26, 0), (27, 0), (28, 0), (29, 0), (30, 0), (31, 0), (32, 0), (33, 0), (34, 0)] (by kernel_rfl) (by kernel_rfl) (fun _ _ d _ _ h => by cases d <;> exact h) rfl ?_
        simp only [pickOps, List.getElem?_cons_zero, List.getElem?_cons_succ]
        iterate 35 (first | (refine wpL_pure (a' := ?_) ?_ rfl (fun W => ?_) ?_ ?_; rotate_left 2; (· go_simp; first | (go_bits; with_reducible rfl) | with_reducible rfl); (· simp only [put_some, List.setIfInBounds_toArray, List.set_cons_zero, List.set_cons_succ]; rfl)) | (refine wpL_skip (a' := ?_) rfl ?_ ?_; rotate_left 1; (· simp only [put_some, List.setIfInBounds_toArray, List.set_cons_zero, List.set_cons_succ]; rfl)))
        refine wpL_nil ?_
        go_wp2_with fail
        go_roundw
        case rel => exact ⟨j + 1, by omega, by go_num, HDW⟩
        case measure => simp [intOf] <;> omega
      · have hxe : ((j : Int) == 64 * (k : Int) + (p : Int)) = false := by simp; omega
        have hxn : ((j : Int) != 64 * (k : Int) + (p : Int)) = true := by simp; omega
        have hBv : B.getD j 0 = A.getD j 0 := by
          rw [HB.out, List.getD_eq_getElem?_getD, List.getElem?_set_ne (fun e => hx e.symm), ← List.getD_eq_getElem?_getD]
        rw [hBv] at hiB
        clear hBv hx
        generalize A.getD j 0 = x at hiA hiB
        go_upto_region 15 with fail
        refine wp_region_pick (fun W => W = wr.drew) [(0, 0), (1, 0), (2, 0), (3, 0), (4, 0), (5, 0), (6, 0), (7, 0), (8, 0), (9, 0), (10, 0), (11, 0), (12, 0), (13, 0), (14, 0), (15, 0), (16, 0), (17, 0), (18, 0), (19, 0), (20, 0), (21, 0), (22, 0), (23, 0), (24, 0), (25, 0), (26, 0), (27, 0), (28, 0), (29, 0), (30, 0), (31, 0), (32, 0), (33, 0), (34, 0)] (by kernel_rfl) (by kernel_rfl) (fun _ _ d _ _ h => by cases d <;> exact h) rfl ?_
        simp only [pickOps, List.getElem?_cons_zero, List.getElem?_cons_succ]
        iterate 35 (first | (refine wpL_pure (a' := ?_) ?_ rfl (fun W => ?_) ?_ ?_; rotate_left 2; (· go_simp; first | (go_bits; with_reducible rfl) | with_reducible rfl); (· simp only [put_some, List.setIfInBounds_toArray, List.set_cons_zero, List.set_cons_succ]; rfl)) | (refine wpL_skip (a' := ?_) rfl ?_ ?_; rotate_left 1; (· simp only [put_some, List.setIfInBounds_toArray, List.set_cons_zero, List.set_cons_succ]; rfl)))
        refine wpL_nil ?_
        go_wp2_with fail
        go_roundw
        case rel => exact ⟨j + 1, by omega, by go_num, HDW⟩
        case measure => simp [intOf] <;> omega
    · obtain rfl : j = 384 := by omega
      go_wp2_with fail
      refine (dk_rot HD.out 0 rfl k p m (by rw [HK.out.2.1]; exact hk) hp hm).mono ?_
      rintro e x1 ⟨rfl, h, ho⟩
      have J1 : Hid (Disks w x1 (fun _ => False) [⟨p0, k0, v0, (X.rot k p m).rot k p m⟩, ⟨p1, k1, v1, X⟩]) := Lib.hid h
      clear h ho HD
      go_wp2_with fail
      refine (HFU.out _ _ _ J1.out).mono ?_
      rintro e x2 ⟨rfl, h, ho⟩
      have J2 := Lib.hid h
      clear h ho J1
      go_wp2_with fail
      refine (dk_write J2.out 1 rfl k fs (by rw [HK.out.1]; exact hk) hfs (by simp [D.power, HX.out.1]) (by rw [HX.out.2]; decide)).mono ?_
      rintro e x3 ⟨v9, rfl, h, ho⟩
      have J3 : Hid (Disks w x3 (fun _ => False) [⟨p0, k0, v0, (X.rot k p m).rot k p m⟩, ⟨p1, k1, v9, X.write k fs⟩]) := Lib.hid h
      clear h ho J2
      go_wp2_with fail
      refine (dk_rot J3.out 1 rfl k p m (by rw [HK.out.2.2.1]; exact hk) hp hm).mono ?_
      rintro e x4 ⟨rfl, h, ho⟩
      have J4 : Hid (Disks w x4 (fun _ => False) [⟨p0, k0, v0, (X.rot k p m).rot k p m⟩, ⟨p1, k1, v9, (X.write k fs).rot k p m⟩]) := Lib.hid h
      clear h ho J3
      go_wp2_with fail
      have hrd := dk_read J4.out 1 rfl k (by rw [HK.out.2.2.2.1]; exact hk)
      rw [R3.out] at hrd
      refine hrd.mono ?_
      rintro e x5 ⟨rfl, h, ho⟩
      have J5 := Lib.hid h
      clear h ho J4 hrd
      go_wp2_with fail
      have HI := Lib.hid (ints_block (g := x5.heap.size) (w := x5.alloc (.cells #[.int .i64 0] 3)) (t := 3) [0] (heap_alloc_new x5 _) (by decide) (by decide) 1)
      have HQ := Lib.hid (J5.out.quiet (Only.alloc x5 (.cells #[.int .i64 0] 3) _))
      refine (dk_crash HQ.out 1 rfl _ _ _ _ HI.out (by rw [HK.out.2.2.2.2.1]; exact ⟨by decide, by decide⟩) (by rw [HK.out.2.2.2.2.1]; decide)).mono ?_
      rintro e x6 ⟨rfl, h, ho⟩
      have J6 : Hid (Disks w x6 (fun _ => False) [⟨p0, k0, v0, (X.rot k p m).rot k p m⟩, ⟨p1, k1, .slice none 0 0, ((X.write k fs).rot k p m).crash [0]⟩]) := Lib.hid h
      clear h ho J5 HQ HI
      go_wp2_with fail
      have hrd := dk_read J6.out 1 rfl k (by rw [HK.out.2.2.2.2.2]; exact hk)
      rw [R4.out] at hrd
      refine hrd.mono ?_
      rintro e x7 ⟨rfl, h, ho⟩
      have J7 := Lib.hid h
      clear h ho J6 hrd
      go_wp2_with fail
      have hal := dk_all J7.out 0 rfl
      rw [R2.out] at hal
      refine hal.mono ?_
      rintro e x8 ⟨rfl, h, ho⟩
      have J8 := Lib.hid h
      clear h ho J7 hal
      go_wp2_with fail
      refine (HFU.out _ _ _ J8.out).mono ?_
      rintro e x9 ⟨rfl, h, ho⟩
      have J9 := Lib.hid h
      clear h ho J8
      go_wp2_with fail
      go_ret
      exact ⟨rfl, J9.out.only⟩

set_option maxRecDepth 100000 in
theorem diskRots_lifted (os : Os) (started : os.Started) (H : Type) (enc : TypeId × Value → H) :
    ReturnsInHanded {} Try.checked os 12 .any (Rows.diskRotsSpec.pre6 enc Try.prog Try.f12 Rows.diskRotsRow.domain false) (Rows.diskRotsSpec.post enc Try.prog Try.f12 false true false false) := by
  refine returnsInHanded_of_change (C := Try.checked) Try.own started (by kernel_rfl) Try.func12
    (ChangeSpec.witness6 (enc := enc) (C := Try.checked) false ⟨#[], #[.slice none 0 0, .int .i64 0, .int .i64 0, .int .i64 0, .string ⟨#[]⟩], []⟩ 8 (by kernel_rfl) (by kernel_rfl) (by kernel_rfl) (by kernel_rfl)) ?_
  intro W base args ds gs before hval0 hW hcnd _
  have hval : ∀ (j : Nat) t v, Try.f12.params[j]? = some t → args[j]? = some v → Value.okWide Try.prog W .any base t v := hval0
  have hW' := hW
  obtain ⟨p, q, hA0, hV, rfl, hfz, hnd⟩ := hW
  have hA : DataW.TrodAll enc Try.prog W 0 (fun _ => true) true Try.f12.params.toList args.toList ds p := hA0
  rw [Try.params12] at hA hval
  obtain ⟨v0, vs0, d0, ds0, p0, q0, hargs, rfl, rfl, h0, r0⟩ := trodAll_cons hA
  obtain ⟨v1, vs1, d1, ds1, p1, q1, rfl, rfl, rfl, h1, r1⟩ := trodAll_cons r0
  obtain ⟨v2, vs2, d2, ds2, p2, q2, rfl, rfl, rfl, h2, r2⟩ := trodAll_cons r1
  obtain ⟨v3, vs3, d3, ds3, p3, q3, rfl, rfl, rfl, h3, r3⟩ := trodAll_cons r2
  obtain ⟨v4, vs4, d4, ds4, p4, q4, rfl, rfl, rfl, h4, r4⟩ := trodAll_cons r3
  obtain ⟨rfl, rfl, rfl⟩ := trodAll_nil r4
  obtain rfl : args = #[v0, v1, v2, v3, v4] := by cases args; simp_all
  obtain ⟨rfl, rfl⟩ := trodVars_none hV
  clear hA0 hval0
  obtain ⟨a, ao, ac, ha, wa, _⟩ := law_calls (hval 0 53 v0 rfl rfl) h0
  obtain ⟨b, rfl, _, _, wb⟩ := open_int Try.underlying3 (hval 1 3 v1 rfl rfl) h1
  obtain ⟨c, rfl, _, _, wc⟩ := open_int Try.underlying3 (hval 2 3 v2 rfl rfl) h2
  obtain ⟨d, rfl, _, _, wd⟩ := open_int Try.underlying3 (hval 3 3 v3 rfl rfl) h3
  obtain ⟨s, rfl, ws⟩ := law_str Try.underlying9 (hval 4 9 v4 rfl rfl) h4
  refine (diskRots_walk W a b c d s v0 ao ac ha wa (bounds_i64 wb) (bounds_i64 wc) (bounds_i64 wd) ws).mono fun e W' ⟨he, ho⟩ => ?_
  subst he
  exact ⟨_, rfl, law_post rfl hW' (by kernel_rfl) (of_decide_eq_true (by kernel_rfl)) rfl rfl rfl ho⟩
theorem diskRots_holds : Rows.DiskRotsSaid :=
  OpenClaim.holds_of_wide 12 Try.f12 rfl rfl rfl rfl rfl rfl rfl ⟨rfl, rfl, rfl, rfl, rfl⟩ rfl rfl rfl rfl rfl (by kernel_rfl) Try.func12 (by kernel_rfl)
    (of_decide_eq_true (by kernel_rfl)) (by unfold Func.isWrapper; first | (rw [if_pos (by decide +kernel)]; kernel_rfl) | (rw [if_neg (by decide +kernel)]; exact ⟨rfl, rfl⟩))
    (fun os started H enc _ => diskRots_lifted os started H enc)
end Go.Proofs.Ytlgefjcfnnjkbaa
