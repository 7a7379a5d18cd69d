/- DiskTwice. No conditions. -/
import Derived.Test.YtlgefjcfnnjkbaaAwake
import Derived.Test.YtlgefjcfnnjkbaaDM2
import Derived.Test.YtlgefjcfnnjkbaaLaw
import Derived.Test.YtlgefjcfnnjkbaaRows
namespace Go.Proofs.Ytlgefjcfnnjkbaa
open Go.ChangeShapes Go.WideShapes Go.ChangeAt Go.RowKit Go.Joins Go.Deep

theorem fillTo_pend (l : List Cl) (d : D) : ∀ k, k ≤ l.length → (fillTo d l k).pend = d.pend ++ (l.take k).map fun c => ((pickI c.at_ 6).toNat, fullL c.s)
  | 0, _ => by simp [fillTo]
  | k + 1, h => by
    rw [fillTo_succ d l k (by omega), List.take_succ_eq_append_getElem (by omega), List.map_append]
    simp only [wrC, D.write]
    rw [fillTo_pend l d k (by omega), List.append_assoc]; rfl
theorem filledD_at (a b : List Cl) (j : Nat) (hj : j < b.length) (h8 : j < 8) : (filledD a b).pend.getD j (0, []) = ((pickI b[j].at_ 6).toNat, fullL b[j].s) := by
  unfold filledD
  rw [fillTo_pend b _ (min 8 b.length) (by omega)]
  have h9 : j < min 8 b.length := by omega
  simp [D.sync, List.getD_eq_getElem?_getD, h9]

/-- what was kept, written again -/
def twD (X Y : D) (L : List Nat) (k : Nat) : D := (L.take k).foldl (fun d j => d.write (X.pend.getD j (0, [])).1 (X.pend.getD j (0, [])).2) Y
theorem twD_succ (X Y : D) (L : List Nat) (k : Nat) (h : k < L.length) : twD X Y L (k + 1) = (twD X Y L k).write (X.pend.getD L[k] (0, [])).1 (X.pend.getD L[k] (0, [])).2 := by
  unfold twD
  rw [List.take_succ_eq_append_getElem h, List.foldl_append]; rfl
theorem twD_facts (X Y : D) (L : List Nat) (hc : Y.cut = false) (hp : Y.pend = []) : ∀ k, k ≤ L.length → (twD X Y L k).kept = Y.kept ∧ (twD X Y L k).cut = false ∧ (twD X Y L k).pend = (L.take k).map fun j => X.pend.getD j (0, [])
  | 0, _ => ⟨rfl, hc, hp⟩
  | k + 1, h => by
    obtain ⟨h1, h2, h3⟩ := twD_facts X Y L hc hp k (by omega)
    rw [twD_succ X Y L k (by omega)]
    simp only [D.write, D.spent_kept, D.spent_cut]
    exact ⟨h1, h2, by rw [h3, List.take_succ_eq_append_getElem (by omega), List.map_append]; rfl⟩
theorem tw_holds (X Y : D) (L : List Nat) (hc : Y.cut = false) (hp : Y.pend = []) (hk : X.kept = Y.kept) : allL (twD X Y L L.length).sync = allL (X.crash L) := by
  obtain ⟨h1, _, h3⟩ := twD_facts X Y L hc hp L.length (Nat.le_refl _)
  have e : (twD X Y L L.length).sync.kept = (X.crash L).kept := by
    simp only [D.sync, D.crash]
    rw [layAll_range, h1, h3, List.take_length, List.foldl_map]
    unfold D.layAll
    rw [hk]
  refine allL_congr (by rw [e]) fun k _ => ?_
  simp only [D.there, e]
  rfl
theorem tw_again (X : D) (L : List Nat) : allL ((X.crash L).crash []) = allL (X.crash L) :=
  allL_congr rfl fun _ _ => rfl

set_option maxRecDepth 100000 in
set_option maxHeartbeats 8000000 in
theorem diskTwice_walk (w : World) (a b : List Cl) (ns : List Int) (va vb vn : Value) (ao bo no : Option Addr) (ac bc nc : Nat) (ha : SliceOf w va a.length (cls a) ao ac) (hb : SliceOf w vb b.length (cls b) bo bc) (wa : ∀ c ∈ a, c.Wf) (wb : ∀ c ∈ b, c.Wf)
    (hn : SliceOf w vn ns.length (ns.map (Value.int .i64)) no nc) (wn : ∀ x ∈ ns, I64 x) :
    Calls Try.prog 15 #[va, vb, vn] w fun e w' => e = .returned (.bool true) ∧ Only (fun _ => False) w w' := by
  have h0 := Disks.start w
  have AW := Lib.hid (fun W => awake_any W)
  have FI := Lib.hid (fun (W : World) (F : Nat → Prop) (l : List Dk) (h : Disks w W F l) => dk_filled h va vb a b ao bo ac bc (ha.only h.only) (hb.only h.only) wa wb)
  have FN := Lib.hid (fun (W : World) (F : Nat → Prop) (l : List Dk) (h : Disks w W F l) => dk_filled h va (.slice none 0 0) a [] ao none ac 0 (ha.only h.only) (cls_nil W) wa (fun c h => by cases h))
  obtain ⟨hk, hc, hp⟩ := filledD_facts a b
  obtain ⟨hk', hc', _⟩ := filledD_facts a []
  have hkk := filledD_kept a b
  have hpy := filledD_nil_pend a
  have hat := filledD_at a b
  obtain ⟨m, hm⟩ : ∃ m, m = (filledD a b).pend.length := ⟨_, rfl⟩
  rw [← hm] at hp
  have hm8 : m ≤ 8 := by omega
  have hmb : m ≤ b.length := by omega
  have KP := Lib.hid (fun (W : World) (F : Nat → Prop) (l : List Dk) (h : Disks w W F l) => dk_keep h vn ns no nc m (hn.only h.only) wn (by omega))
  have hko := keepL_ok ns m
  have hkl := keepL_length ns m
  have HOK : Hid (crashOk (filledD a b).pend.length ((keepL ns m).map fun (x : Nat) => (x : Int))) := Lib.hid (by rw [← hm]; exact crashOk_nats m _ hko)
  generalize keepL ns m = L at KP HOK hko hkl
  have t1' := tw_holds (filledD a b) (filledD a []) L hc' hpy hkk
  have t2' := tw_again (filledD a b) L
  have tf' := twD_facts (filledD a b) (filledD a []) L hc' hpy
  have ts' := twD_succ (filledD a b) (filledD a []) L
  generalize filledD a b = X at FI hk hc hat hm HOK hkk t1' t2' tf' ts'
  generalize filledD a [] = Y at FN hk' hc' hpy hkk t1' tf' ts'
  obtain ⟨A, hA⟩ : ∃ A, A = allL (X.crash L) := ⟨_, rfl⟩
  rw [← hA] at t1' t2'
  have T1 := Lib.hid t1'
  have T2 := Lib.hid t2'
  have EA := Lib.hid hA.symm
  have TF := Lib.hid tf'
  have TS := Lib.hid ts'
  have HAT := Lib.hid hat
  have HX := Lib.hid (⟨hk, hc, hm.symm⟩ : X.kept.length = 6 ∧ X.cut = false ∧ X.pend.length = m)
  have HY := Lib.hid (⟨hk', hc', hpy⟩ : Y.kept.length = 6 ∧ Y.cut = false ∧ Y.pend = [])
  clear hk hc hp hm hA hk' hc' hkk hpy hat t1' t2' tf' ts'
  have hvv := ha.val
  subst hvv
  have hvv := hb.val
  subst hvv
  have hvv := hn.val
  subst hvv
  clear ha hn
  go_enter Try.func15, Try.ntmps15
  go_wp2_with fail
  refine (AW.out _).mono ?_
  rintro e w1 ⟨rfl, ho1⟩
  have H1 := Lib.hid (h0.quiet ho1)
  clear h0 ho1
  go_wp2_with fail
  refine (FI.out _ _ _ H1.out).mono ?_
  rintro e w2 ⟨p0, k0, v0, rfl, h2⟩
  have H2 : Hid (Disks w w2 (fun _ => False) [⟨p0, k0, v0, X⟩]) := Lib.hid h2
  clear h2 H1
  go_wp2_with fail
  refine (FN.out _ _ _ H2.out).mono ?_
  rintro e w3 ⟨p1, k1, v1, rfl, h3⟩
  have H3 : Hid (Disks w w3 (fun _ => False) [⟨p0, k0, v0, X⟩, ⟨p1, k1, v1, Y⟩]) := Lib.hid h3
  clear h3 H2
  go_wp2_with fail
  have hpe := pending_any w3 p0 k0 v0 X (H3.out.at_ 0 _ rfl)
  rw [HX.out.2.2] at hpe
  refine hpe.mono ?_
  rintro e w4 ⟨rfl, rfl⟩
  clear hpe
  go_wp2_with fail
  refine (KP.out _ _ _ H3.out).mono ?_
  rintro e w4 ⟨r, F, co, cc, rfl, h4, _, hr, hF, _⟩
  have hvv := hr.val
  rw [List.length_map] at hvv
  subst hvv
  have HR := Lib.hid hr
  have H4 := Lib.hid h4
  have HF := Lib.hid hF
  clear hr h4 hF H3
  obtain ⟨n, hnn⟩ : ∃ n, n = L.length := ⟨_, rfl⟩
  rw [← hnn] at HR T1 hkl ⊢
  have HN := Lib.hid hnn
  clear hnn
  go_wp2_with fail
  refine (dk_crash H4.out 0 rfl _ _ _ _ HR.out HOK.out (by rw [HX.out.2.2]; omega)).mono ?_
  rintro e w5 ⟨rfl, h5, ho5⟩
  have H5 : Hid (Disks w w5 F [⟨p0, k0, .slice none 0 0, X.crash L⟩, ⟨p1, k1, v1, Y⟩]) := Lib.hid (by rw [← nats_back L]; exact h5)
  have HR5 := Lib.hid (HR.out.held ho5 HF.out)
  clear h5 ho5 H4 HR
  go_wp2_with fail
  have hal := dk_all H5.out 0 rfl
  rw [EA.out] at hal
  refine hal.mono ?_
  rintro e w6 ⟨rfl, h6, ho6⟩
  have H6 := Lib.hid h6
  have HR6 := Lib.hid (HR5.out.held ho6 HF.out)
  clear h6 ho6 H5 HR5 hal
  go_wp2_with fail
  refine (dk_crash H6.out 0 rfl [] _ none 0 (ints_nil _) (crashOk_nil _) (by simp [D.crash])).mono ?_
  rintro e w7 ⟨rfl, h7, ho7⟩
  have H7 : Hid (Disks w w7 F [⟨p0, k0, .slice none 0 0, (X.crash L).crash []⟩, ⟨p1, k1, v1, twD X Y L 0⟩]) := Lib.hid h7
  have HR7 := Lib.hid (HR6.out.held ho7 HF.out)
  clear h7 ho7 H6 HR6
  go_wp2_with fail
  go_loopw [14] (fun i wr => ∃ (k : Nat) (pv : Value), k ≤ n ∧ i = .int .i64 k ∧ Hid (Disks w wr F [⟨p0, k0, .slice none 0 0, (X.crash L).crash []⟩, ⟨p1, k1, pv, twD X Y L k⟩]) ∧ Hid (IntsAt wr (.slice co n cc) (L.map fun (x : Nat) => (x : Int)) co cc)) (fun i _ => n - (intOf i).toNat)
  case atStart => exact ⟨0, _, by omega, rfl, H7, HR7⟩
  case round =>
    obtain ⟨k, pv, hk, rfl, HD, HR⟩ := hrel
    clear H7 HR7
    by_cases hlt : k < n
    · have hkL : k < L.length := by have := HN.out; omega
      obtain ⟨x, hx⟩ : ∃ x, x = L[k] := ⟨_, rfl⟩
      have hxm : x < m := by rw [hx]; exact hko.1 _ (List.getElem_mem hkL)
      have hxb : x < b.length := by omega
      obtain ⟨gk, ok, rfl, hck⟩ := HR.out.cell k (x : Int) (by rw [List.getElem?_map, List.getElem?_eq_getElem hkL, hx]; rfl)
      have hFk := HF.out _ _ rfl
      obtain ⟨gl, ol, rfl, hc⟩ := cl_at (hb.only HD.out.only) x hxb
      have hwf := wb _ (List.getElem_mem hxb)
      have HCL : Hid (∀ W, Only (fun _ => False) w W → (W.cell? ⟨gl, ol + x * 6 + 1, none⟩ = some (.int .i64 b[x].at_) ∧ W.cell? ⟨gl, ol + x * 6 + 2, none⟩ = some (.string ⟨b[x].s.toArray⟩))) := Lib.hid (fun W ho => by
        obtain ⟨gl', ol', e, hc⟩ := cl_at (hb.only ho) x hxb
        cases e
        exact ⟨hc 1 _ rfl, hc 2 _ rfl⟩)
      have hca := hc 1 _ rfl
      have hcs := hc 2 _ rfl
      have hsu := TS.out k hkL
      have hta := HAT.out x hxb (by omega)
      rw [← hx, hta] at hsu
      obtain ⟨hf1, hf2, hf3⟩ := TF.out k (by omega)
      have hf4 : (twD X Y L k).pend.length ≤ 20 := by rw [hf3, List.length_map, List.length_take]; omega
      have hf5 : (twD X Y L k).kept.length = 6 := by rw [hf1]; exact HY.out.1
      have PK := Lib.hid (fun W => pick02_any W b[x].at_ 6 hwf.at_ (by decide) (by decide))
      have hp := pickI_lt b[x].at_ 6 (by decide)
      obtain ⟨q, hq⟩ : ∃ q : Nat, (q : Int) = pickI b[x].at_ 6 := ⟨(pickI b[x].at_ 6).toNat, by omega⟩
      rw [← hq] at PK hp hsu
      rw [Int.toNat_natCast] at hsu
      have hxs := hwf.s
      have hsL := fullL_length b[x].s
      have HFU := Lib.hid (fun (W : World) (h : Disks w W F [⟨p0, k0, .slice none 0 0, (X.crash L).crash []⟩, ⟨p1, k1, pv, twD X Y L k⟩]) => dk_full h b[x].s hxs)
      clear hq hwf hf1 hf3 hta hxs
      generalize b[x] = c at hca hcs PK HFU hsu hsL hc HCL
      generalize fullL c.s = fs at HFU hsu hsL
      generalize hdk : twD X Y L k = dk at hsu hf2 hf4 hf5 HD HFU
      have HSU := Lib.hid hsu
      have HFC := Lib.hid (⟨hf2, hf4, hf5⟩ : dk.cut = false ∧ dk.pend.length ≤ 20 ∧ dk.kept.length = 6)
      clear hsu hf2 hf4 hf5 hdk hc hx
      have hq6 : q < 6 := by omega
      have hI1 : (k : Int) < (n : Int) := by omega
      have hI2 : (x : Int) < (b.length : Int) := by omega
      have hI3 : ¬ (b.length : Int) ≤ (x : Int) := by omega
      go_upto_region 11 with fail
      refine wp_region_pick (fun W => W.cell? ⟨gk, ok + k, none⟩ = some (.int .i64 (x : Int)) ∧ W.cell? ⟨gl, ol + x * 6 + 1, none⟩ = some (.int .i64 c.at_) ∧ W.cell? ⟨gl, ol + x * 6 + 2, none⟩ = some (.string ⟨c.s.toArray⟩))
        [(0, 0), (1, 0), (2, 0), (3, 1), (4, 0), (5, 0), (6, 0), (7, 0), (8, 0), (9, 0), (10, 0), (11, 0), (12, 0), (13, 1), (14, 0), (15, 0), (16, 1), (18, 0), (19, 0), (20, 0), (21, 0), (22, 1), (23, 0), (24, 0), (25, 1), (17, 2), (26, 2), (27, 2), (28, 0), (29, 0)] (by kernel_rfl) (by kernel_rfl) (fun _ _ d _ _ h => by cases d <;> exact h) ⟨hck, hca, hcs⟩ ?_
      simp only [pickOps, List.getElem?_cons_zero, List.getElem?_cons_succ]
      iterate 25 (first | (refine wpL_pure (a' := ?_) ?_ rfl (fun W => ?_) ?_ ?_; rotate_left 2; (· go_simp; first | (go_bits; with_reducible rfl) | with_reducible rfl); (· simp only [put_some, List.setIfInBounds_toArray, List.set_cons_zero, List.set_cons_succ]; rfl)) | (refine wpL_held (a' := ?_) ?_ rfl (fun W hW => ?_) ?_ ?_; rotate_left 2; (· obtain ⟨hW1, hW2, hW3⟩ := hW; go_simp; first | (go_bits; with_reducible rfl) | with_reducible rfl); (· simp only [put_some, List.setIfInBounds_toArray, List.set_cons_zero, List.set_cons_succ]; rfl)))
      refine wpL_stepCall (f := 42) (args := #[.int .i64 c.at_, .int .i64 6]) rfl (by kernel_rfl) ((PK.out _).mono ?_)
      rintro ev wv ⟨rfl, rfl⟩
      refine ⟨_, rfl, ⟨hck, hca, hcs⟩, ?_⟩
      simp only [put_some, List.setIfInBounds_toArray, List.set_cons_zero, List.set_cons_succ]
      refine wpL_stepCall (f := 43) (args := #[.string ⟨c.s.toArray⟩]) rfl (by kernel_rfl) ((HFU.out _ (HD.out.quiet (Only.drew _ _))).mono ?_)
      rintro ev w8 ⟨rfl, h8, ho8⟩
      have hck8 : w8.cell? ⟨gk, ok + k, none⟩ = some (.int .i64 (x : Int)) := by rw [ho8.cell (World.block_lt_of_cell? _ _ hck) (fun hn => hn hFk)]; exact hck
      have HR8 := (HR.out.held (F := F) (Only.drew _ _) HF.out).held ho8 HF.out
      refine ⟨_, rfl, ⟨hck8, HCL.out _ h8.only⟩, ?_⟩
      simp only [put_some, List.setIfInBounds_toArray, List.set_cons_zero, List.set_cons_succ]
      refine wpL_stepCall (f := 46) (args := #[.pointer (some ⟨p1, 0, none⟩), .int .i64 (q : Int), .string ⟨fs.toArray⟩]) rfl (by kernel_rfl) ((dk_write h8 1 rfl q fs (by rw [HFC.out.2.2]; exact hq6) hsL (by simp [D.power, HFC.out.1]) (by have := HFC.out.2.1; omega)).mono ?_)
      rintro ev w9 ⟨pv', rfl, h9, ho9⟩
      have hck9 : w9.cell? ⟨gk, ok + k, none⟩ = some (.int .i64 (x : Int)) := by rw [ho9.cell (World.block_lt_of_cell? _ _ hck8) (fun hn => hn hFk)]; exact hck8
      have HR9 := Lib.hid (HR8.held ho9 HF.out)
      refine ⟨_, rfl, ⟨hck9, HCL.out _ h9.only⟩, ?_⟩
      simp only [put_some, List.setIfInBounds_toArray, List.set_cons_zero, List.set_cons_succ]
      iterate 2 (refine wpL_pure (a' := ?_) ?_ rfl (fun W => ?_) ?_ ?_; rotate_left 2; (· go_simp; first | (go_bits; with_reducible rfl) | with_reducible rfl); (· simp only [put_some, List.setIfInBounds_toArray, List.set_cons_zero, List.set_cons_succ]; rfl))
      refine wpL_nil ?_
      have H9 : Hid (Disks w w9 F [⟨p0, k0, .slice none 0 0, (X.crash L).crash []⟩, ⟨p1, k1, pv', twD X Y L (k + 1)⟩]) := Lib.hid (by rw [HSU.out]; exact h9)
      clear h9 ho9 h8 ho8 HR8 hck8 hck9 hca hcs hck HR HD
      go_wp2_with fail
      go_roundw
      case rel => exact ⟨k + 1, pv', by omega, by go_num, H9, HR9⟩
      case measure => simp [intOf] <;> omega
    · obtain rfl : k = n := by omega
      have hI : ¬ (k : Int) < (k : Int) := by omega
      obtain ⟨hf1, hf2, hf3⟩ := TF.out k (by have := HN.out; omega)
      have hpw : (twD X Y L k).power = true := by simp [D.power, hf2]
      have HP := Lib.hid hpw
      clear hf1 hf2 hf3 hpw HR
      go_wp2_with fail
      refine (dk_sync HD.out 1 rfl HP.out).mono ?_
      rintro e w8 ⟨rfl, h8, ho8⟩
      have H8 : Hid (Disks w w8 F [⟨p0, k0, .slice none 0 0, (X.crash L).crash []⟩, ⟨p1, k1, .slice none 0 0, (twD X Y L k).sync⟩]) := Lib.hid h8
      clear h8 ho8 HD
      go_wp2_with fail
      have hal := dk_all H8.out 0 rfl
      rw [T2.out] at hal
      refine hal.mono ?_
      rintro e w9 ⟨rfl, h9, ho9⟩
      have H9 := Lib.hid h9
      clear h9 ho9 H8 hal
      go_wp2_with fail
      have hal := dk_all H9.out 1 rfl
      rw [T1.out] at hal
      refine hal.mono ?_
      rintro e w10 ⟨rfl, h10, ho10⟩
      have H10 := Lib.hid h10
      clear h10 ho10 H9 hal
      go_wp2_with fail
      go_ret
      exact ⟨rfl, H10.out.only⟩

set_option maxRecDepth 100000 in
theorem diskTwice_lifted (os : Os) (started : os.Started) (H : Type) (enc : TypeId × Value → H) :
    ReturnsInHanded {} Try.checked os 15 .any (Rows.diskTwiceSpec.pre6 enc Try.prog Try.f15 Rows.diskTwiceRow.domain false) (Rows.diskTwiceSpec.post enc Try.prog Try.f15 false true false false) := by
  refine returnsInHanded_of_change (C := Try.checked) Try.own started (by kernel_rfl) Try.func15
    (ChangeSpec.witness6 (enc := enc) (C := Try.checked) false ⟨#[], #[.slice none 0 0, .slice none 0 0, .slice none 0 0], []⟩ 8 (by kernel_rfl) (by kernel_rfl) (by kernel_rfl) (by kernel_rfl)) ?_
  intro W base args ds gs before hval0 hW hcnd _
  have hval : ∀ (j : Nat) t v, Try.f15.params[j]? = some t → args[j]? = some v → Value.okWide Try.prog W .any base t v := hval0
  have hW' := hW
  obtain ⟨p, q, hA0, hV, rfl, hfz, hnd⟩ := hW
  have hA : DataW.TrodAll enc Try.prog W 0 (fun _ => true) true Try.f15.params.toList args.toList ds p := hA0
  rw [Try.params15] at hA hval
  obtain ⟨v0, vs0, d0, ds0, p0, q0, hargs, rfl, rfl, h0, r0⟩ := trodAll_cons hA
  obtain ⟨v1, vs1, d1, ds1, p1, q1, rfl, rfl, rfl, h1, r1⟩ := trodAll_cons r0
  obtain ⟨v2, vs2, d2, ds2, p2, q2, rfl, rfl, rfl, h2, r2⟩ := trodAll_cons r1
  obtain ⟨rfl, rfl, rfl⟩ := trodAll_nil r2
  obtain rfl : args = #[v0, v1, v2] := by cases args; simp_all
  obtain ⟨rfl, rfl⟩ := trodVars_none hV
  clear hA0 hval0
  obtain ⟨a, ao, ac, ha, wa, _⟩ := law_calls (hval 0 53 v0 rfl rfl) h0
  obtain ⟨b, bo, bc, hb, wb, _⟩ := law_calls (hval 1 53 v1 rfl rfl) h1
  obtain ⟨ns, no, nc, hn, wn⟩ := law_ints Try.underlying49 Try.underlying3 (by kernel_rfl) (hval 2 49 v2 rfl rfl) h2
  refine (diskTwice_walk W a b ns v0 v1 v2 ao bo no ac bc nc ha hb wa wb hn (fun x hx => bounds_i64 (wn x hx))).mono fun e W' ⟨he, ho⟩ => ?_
  subst he
  exact ⟨_, rfl, law_post rfl hW' (by kernel_rfl) (of_decide_eq_true (by kernel_rfl)) rfl rfl rfl ho⟩
theorem diskTwice_holds : Rows.DiskTwiceSaid :=
  OpenClaim.holds_of_wide 15 Try.f15 rfl rfl rfl rfl rfl rfl rfl ⟨rfl, rfl, rfl, rfl, rfl⟩ rfl rfl rfl rfl rfl (by kernel_rfl) Try.func15 (by kernel_rfl)
    (of_decide_eq_true (by kernel_rfl)) (by unfold Func.isWrapper; first | (rw [if_pos (by decide +kernel)]; kernel_rfl) | (rw [if_neg (by decide +kernel)]; exact ⟨rfl, rfl⟩))
    (fun os started H enc _ => diskTwice_lifted os started H enc)
end Go.Proofs.Ytlgefjcfnnjkbaa
