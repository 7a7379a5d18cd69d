/- DiskSynced. No conditions. -/
import Derived.Test.YtlgefjcfnnjkbaaAwake
import Derived.Test.YtlgefjcfnnjkbaaDM2
import Derived.Test.YtlgefjcfnnjkbaaLaw
import Derived.Test.YtlgefjcfnnjkbaaRows
namespace Go.Proofs.Ytlgefjcfnnjkbaa
open Go.ChangeShapes Go.WideShapes Go.ChangeAt Go.RowKit Go.Joins Go.Deep

theorem fillTo_pend_s (l : List Cl) (d : D) : ∀ k, k ≤ l.length → (fillTo d l k).pend = d.pend ++ (l.take k).map fun c => ((pickI c.at_ 6).toNat, fullL c.s)
  | 0, _ => by simp [fillTo]
  | k + 1, h => by
    rw [fillTo_succ d l k (by omega), List.take_succ_eq_append_getElem (by omega), List.map_append]
    simp only [wrC, D.write]
    rw [fillTo_pend_s l d k (by omega), List.append_assoc]; rfl
theorem filledD_pend_s (a b : List Cl) : (filledD a b).pend = (b.take (min 8 b.length)).map fun c => ((pickI c.at_ 6).toNat, fullL c.s) := by
  unfold filledD
  rw [fillTo_pend_s b _ (min 8 b.length) (by omega)]
  rfl

/-- a sector behind laying: what it was, or one of the writes -/
theorem lay_in (pend : List (Nat × List UInt8)) (k : Nat) : ∀ (L : List Nat) (kept : List (List UInt8)), k < kept.length → (∀ x ∈ L, x < pend.length) →
    (L.foldl (fun kept j => layK kept (pend.getD j (0, []))) kept).getD k [] = kept.getD k [] ∨ ∃ y ∈ pend, y.1 = k ∧ (L.foldl (fun kept j => layK kept (pend.getD j (0, []))) kept).getD k [] = y.2
  | [], _, _, _ => .inl rfl
  | x :: L, kept, hk, hx => by
    rw [List.foldl_cons]
    have hxl := hx x (by simp)
    have hpx : pend.getD x (0, []) = pend[x] := by simp [hxl]
    rcases lay_in pend k L (layK kept (pend.getD x (0, []))) (by rw [D.layK_length]; exact hk) (fun y hy => hx y (by simp [hy])) with h | h
    · rw [h, hpx, layK, List.getD_eq_getElem?_getD, List.getElem?_set]
      by_cases e : pend[x].1 = k
      · refine .inr ⟨pend[x], List.getElem_mem hxl, e, ?_⟩
        rw [if_pos e, if_pos (by omega)]; rfl
      · rw [if_neg e]; exact .inl (List.getD_eq_getElem?_getD ..).symm
    · exact .inr h

def okS (S T : List UInt8) (k : Nat) (l : List Cl) (j : Nat) : Bool := (S == T) || (l.take j).any fun c => (pickI c.at_ 6).toNat == k && S == fullL c.s
theorem okS_succ (S T : List UInt8) (k : Nat) (l : List Cl) (j : Nat) (h : j < l.length) : okS S T k l (j + 1) = (okS S T k l j || ((pickI l[j].at_ 6).toNat == k && S == fullL l[j].s)) := by
  unfold okS
  rw [List.take_succ_eq_append_getElem h, List.any_append, ← Bool.or_assoc]
  simp
theorem okS_holds (a b : List Cl) (L : List Nat) (hL : ∀ x ∈ L, x < (filledD a b).pend.length) (k : Nat) (hk : k < 6) : okS (((filledD a b).crash L).there k) ((filledD a []).there k) k b (min 8 b.length) = true := by
  have h6 := (filledD_facts a b).1
  have h := lay_in (filledD a b).pend k L (filledD a b).kept (by omega) hL
  have e1 : ((filledD a b).crash L).there k = (L.foldl (fun kept j => layK kept ((filledD a b).pend.getD j (0, []))) (filledD a b).kept).getD k [] := rfl
  have e2 : (filledD a []).there k = (filledD a b).kept.getD k [] := by
    rw [filledD_kept a b]; rfl
  rw [← e1, ← e2] at h
  unfold okS
  rcases h with h | ⟨y, hy, hy1, h⟩
  · rw [h]; simp
  · rw [filledD_pend_s] at hy
    obtain ⟨c, hc, rfl⟩ := List.mem_map.1 hy
    rw [Bool.or_eq_true]
    refine .inr (List.any_eq_true.2 ⟨c, hc, ?_⟩)
    rw [h]
    simpa using hy1

set_option maxRecDepth 100000 in
set_option maxHeartbeats 8000000 in
theorem diskSynced_walk (w : World) (a b : List Cl) (ns : List Int) (va vb vn : Value) (ao bo no : Option Addr) (ac bc nc : Nat) (ha : SliceOf w va a.length (cls a) ao ac) (hb : SliceOf w vb b.length (cls b) bo bc) (wa : ∀ c ∈ a, c.Wf) (wb : ∀ c ∈ b, c.Wf)
    (hn : SliceOf w vn ns.length (ns.map (Value.int .i64)) no nc) (wn : ∀ x ∈ ns, I64 x) :
    Calls Try.prog 9 #[va, vb, vn] w fun e w' => e = .returned (.bool true) ∧ Only (fun _ => False) w w' := by
  have h0 := Disks.start w
  have AW := Lib.hid (fun W => awake_any W)
  have FI := Lib.hid (fun (W : World) (F : Nat → Prop) (l : List Dk) (h : Disks w W F l) => dk_filled h va vb a b ao bo ac bc (ha.only h.only) (hb.only h.only) wa wb)
  have FN := Lib.hid (fun (W : World) (F : Nat → Prop) (l : List Dk) (h : Disks w W F l) => dk_filled h va (.slice none 0 0) a [] ao none ac 0 (ha.only h.only) (cls_nil W) wa (fun c h => by cases h))
  obtain ⟨hk, hc, hp⟩ := filledD_facts a b
  obtain ⟨hk', hc', _⟩ := filledD_facts a []
  obtain ⟨m, hm⟩ : ∃ m, m = (filledD a b).pend.length := ⟨_, rfl⟩
  rw [← hm] at hp
  have hm8 : m ≤ 8 := by omega
  have KP := Lib.hid (fun (W : World) (F : Nat → Prop) (l : List Dk) (h : Disks w W F l) => dk_keep h vn ns no nc m (hn.only h.only) wn (by omega))
  have hko := keepL_ok ns m
  have HOK : Hid (crashOk (filledD a b).pend.length ((keepL ns m).map fun (x : Nat) => (x : Int))) := Lib.hid (by rw [← hm]; exact crashOk_nats m _ hko)
  generalize keepL ns m = L at KP HOK hko
  have HH := Lib.hid (okS_holds a b L (by rw [← hm]; exact hko.1))
  have hbl := hb.len
  generalize filledD a b = X at FI hk hc hm HOK HH
  generalize filledD a [] = Y at FN hk' hc' HH
  have HX := Lib.hid (⟨hk, hc, hm.symm⟩ : X.kept.length = 6 ∧ X.cut = false ∧ X.pend.length = m)
  have HY := Lib.hid (⟨hk', hc'⟩ : Y.kept.length = 6 ∧ Y.cut = false)
  clear hk hc hp hm hk' hc'
  have hvv := ha.val
  subst hvv
  have hvv := hb.val
  subst hvv
  have hvv := hn.val
  subst hvv
  clear ha hn
  go_enter Try.func9, Try.ntmps9
  go_wp2_with fail
  refine (AW.out _).mono ?_
  rintro e w1 ⟨rfl, ho1⟩
  have H1 := Lib.hid (h0.quiet ho1)
  clear h0 ho1
  go_wp2_with fail
  refine (FI.out _ _ _ H1.out).mono ?_
  rintro e w2 ⟨p0, k0, v0, rfl, h2⟩
  have H2 : Hid (Disks w w2 (fun _ => False) [⟨p0, k0, v0, X⟩]) := Lib.hid h2
  clear h2 H1
  go_wp2_with fail
  refine (FN.out _ _ _ H2.out).mono ?_
  rintro e w3 ⟨p1, k1, v1, rfl, h3⟩
  have H3 : Hid (Disks w w3 (fun _ => False) [⟨p0, k0, v0, X⟩, ⟨p1, k1, v1, Y⟩]) := Lib.hid h3
  clear h3 H2
  go_wp2_with fail
  have hpe := pending_any w3 p0 k0 v0 X (H3.out.at_ 0 _ rfl)
  rw [HX.out.2.2] at hpe
  refine hpe.mono ?_
  rintro e w4 ⟨rfl, rfl⟩
  clear hpe
  go_wp2_with fail
  refine (KP.out _ _ _ H3.out).mono ?_
  rintro e w4 ⟨r, F, co, cc, rfl, h4, _, hr, hF, _⟩
  have HR := Lib.hid hr
  have H4 := Lib.hid h4
  clear hr h4 hF H3
  go_wp2_with fail
  refine (dk_crash H4.out 0 rfl _ _ _ _ HR.out HOK.out (by rw [HX.out.2.2]; omega)).mono ?_
  rintro e w5 ⟨rfl, h5, ho5⟩
  have H5 : Hid (Disks w w5 F [⟨p0, k0, .slice none 0 0, X.crash L⟩, ⟨p1, k1, v1, Y⟩]) := Lib.hid (by rw [← nats_back L]; exact h5)
  clear h5 ho5 H4 HR
  have hz6 : (X.crash L).kept.length = 6 := by simp only [D.crash, D.layAll_length]; exact HX.out.1
  have hz0 : (X.crash L).pend.length = 0 := rfl
  generalize X.crash L = Z at H5 HH hz6 hz0
  have HZ := Lib.hid (⟨hz6, hz0⟩ : Z.kept.length = 6 ∧ Z.pend.length = 0)
  clear hz6 hz0
  go_wp2_with fail
  go_loopw [11] (fun i wr => ∃ (k : Nat), k ≤ 6 ∧ i = .int .i64 k ∧ Hid (Disks w wr F [⟨p0, k0, .slice none 0 0, Z⟩, ⟨p1, k1, v1, Y⟩])) (fun i _ => 6 - (intOf i).toNat)
  case atStart => exact ⟨0, by omega, rfl, H5⟩
  case round =>
    obtain ⟨k, hk, rfl, HD⟩ := hrel
    clear H5
    by_cases hlt : k < 6
    · have hI : (k : Int) < 6 := by omega
      have HK := Lib.hid (HH.out k hlt)
      have hr0 := dk_read HD.out 0 rfl k (by rw [HZ.out.1]; exact hlt)
      have HR1 := Lib.hid (fun (W : World) (h : Disks w W F [⟨p0, k0, .slice none 0 0, Z⟩, ⟨p1, k1, v1, Y⟩]) => dk_read h 1 rfl k (by rw [HY.out.1]; exact hlt))
      generalize Z.there k = S at HK hr0
      generalize Y.there k = T at HK HR1
      go_wp2_with fail
      refine hr0.mono ?_
      rintro e w6 ⟨rfl, h6, ho6⟩
      have H6 := Lib.hid h6
      clear h6 ho6 hr0 HD
      go_wp2_with fail
      refine (HR1.out _ H6.out).mono ?_
      rintro e w7 ⟨rfl, h7, ho7⟩
      have H7 := Lib.hid h7
      clear h7 ho7 HR1 H6
      go_wp2_with fail
      go_loopw [16, 17] (fun o i wr => ∃ (j : Nat), j ≤ 8 ∧ j ≤ b.length ∧ i = .int .i64 j ∧ o = .bool (okS S T k b j) ∧ Hid (Disks w wr F [⟨p0, k0, .slice none 0 0, Z⟩, ⟨p1, k1, v1, Y⟩])) (fun o i _ => 8 - (intOf i).toNat)
      case atStart => exact ⟨0, by omega, by omega, rfl, by simp [okS], H7⟩
      case round =>
        obtain ⟨j, hj8, hjl, rfl, rfl, HD⟩ := hrel
        clear H7
        by_cases hgo : j < b.length ∧ j < 8
        · obtain ⟨h1, h2⟩ := hgo
          have hI1 : (j : Int) < (b.length : Int) := by omega
          have hI2 : (j : Int) < 8 := by omega
          have HSU := Lib.hid (okS_succ S T k b j h1)
          obtain ⟨gl, ol, rfl, hcc⟩ := cl_at (hb.only HD.out.only) j h1
          have hwf := wb _ (List.getElem_mem h1)
          have hca := hcc 1 _ rfl
          have hcs := hcc 2 _ rfl
          cases hok : okS S T k b j with
          | true =>
            rw [hok] at HSU
            clear hcc hca hcs hwf
            go_wp2_with fail
            go_roundw
            case rel => exact ⟨j + 1, by omega, by omega, by go_num, by rw [HSU.out]; rfl, HD⟩
            case measure => simp [intOf] <;> omega
          | false =>
            rw [hok] at HSU
            have PK := Lib.hid (fun W => pick02_any W b[j].at_ 6 hwf.at_ (by decide) (by decide))
            have hp := pickI_lt b[j].at_ 6 (by decide)
            obtain ⟨q, hq⟩ : ∃ q : Nat, (q : Int) = pickI b[j].at_ 6 := ⟨(pickI b[j].at_ 6).toNat, by omega⟩
            rw [← hq] at PK hp HSU
            rw [Int.toNat_natCast] at HSU
            have hxs := hwf.s
            have HFU := Lib.hid (fun (W : World) (h : Disks w W F [⟨p0, k0, .slice none 0 0, Z⟩, ⟨p1, k1, v1, Y⟩]) => dk_full h b[j].s hxs)
            clear hq hwf hcc hxs hok
            generalize b[j] = c at hca hcs PK HFU HSU
            generalize fullL c.s = fs at HFU HSU
            by_cases hqk : q = k
            · subst hqk
              have hqe : ((q : Int) == (q : Int)) = true := by simp
              have HSU : Hid (okS S T q b (j + 1) = (S == fs)) := Lib.hid (by rw [HSU.out]; simp)
              go_wp2_with fail
              refine (PK.out _).mono ?_
              rintro e w8 ⟨rfl, rfl⟩
              go_wp2_with fail
              refine (HFU.out _ HD.out).mono ?_
              rintro e w9 ⟨rfl, h9, ho9⟩
              have H9 := Lib.hid h9
              clear h9 ho9
              cases hsf : (S == fs) with
              | true =>
                rw [hsf] at HSU
                go_wp2_with fail
                go_roundw
                case rel => exact ⟨j + 1, by omega, by omega, by go_num, by rw [HSU.out], H9⟩
                case measure => simp [intOf] <;> omega
              | false =>
                rw [hsf] at HSU
                go_wp2_with fail
                go_roundw
                case rel => exact ⟨j + 1, by omega, by omega, by go_num, by rw [HSU.out], H9⟩
                case measure => simp [intOf] <;> omega
            · have hqe : ((q : Int) == (k : Int)) = false := by simp; omega
              have HSU : Hid (okS S T k b (j + 1) = false) := Lib.hid (by rw [HSU.out]; simp [hqk])
              go_wp2_with fail
              refine (PK.out _).mono ?_
              rintro e w8 ⟨rfl, rfl⟩
              go_wp2_with fail
              go_roundw
              case rel => exact ⟨j + 1, by omega, by omega, by go_num, by rw [HSU.out], HD⟩
              case measure => simp [intOf] <;> omega
        · have hj : j = min 8 b.length := by omega
          have HK : Hid (okS S T k b j = true) := Lib.hid (by rw [hj]; exact HK.out)
          have hsp : (b.length : Int) ≤ (j : Int) ∨ ((j : Int) < (b.length : Int) ∧ (8 : Int) ≤ (j : Int)) := by omega
          rw [HK.out]
          clear hgo hj
          rcases hsp with h | ⟨h, h'⟩
          all_goals
            go_wp2_with fail
            go_roundw
            case rel => exact ⟨k + 1, by omega, by go_num, HD⟩
            case measure => simp [intOf] <;> omega
    · obtain rfl : k = 6 := by omega
      go_wp2_with fail
      have hpe := pending_any wr p0 k0 (.slice none 0 0) Z (HD.out.at_ 0 _ rfl)
      rw [HZ.out.2] at hpe
      refine hpe.mono ?_
      rintro e w8 ⟨rfl, rfl⟩
      clear hpe
      go_wp2_with fail
      go_ret
      exact ⟨rfl, HD.out.only⟩

set_option maxRecDepth 100000 in
theorem diskSynced_lifted (os : Os) (started : os.Started) (H : Type) (enc : TypeId × Value → H) :
    ReturnsInHanded {} Try.checked os 9 .any (Rows.diskSyncedSpec.pre6 enc Try.prog Try.f9 Rows.diskSyncedRow.domain false) (Rows.diskSyncedSpec.post enc Try.prog Try.f9 false true false false) := by
  refine returnsInHanded_of_change (C := Try.checked) Try.own started (by kernel_rfl) Try.func9
    (ChangeSpec.witness6 (enc := enc) (C := Try.checked) false ⟨#[], #[.slice none 0 0, .slice none 0 0, .slice none 0 0], []⟩ 8 (by kernel_rfl) (by kernel_rfl) (by kernel_rfl) (by kernel_rfl)) ?_
  intro W base args ds gs before hval0 hW hcnd _
  have hval : ∀ (j : Nat) t v, Try.f9.params[j]? = some t → args[j]? = some v → Value.okWide Try.prog W .any base t v := hval0
  have hW' := hW
  obtain ⟨p, q, hA0, hV, rfl, hfz, hnd⟩ := hW
  have hA : DataW.TrodAll enc Try.prog W 0 (fun _ => true) true Try.f9.params.toList args.toList ds p := hA0
  rw [Try.params9] at hA hval
  obtain ⟨v0, vs0, d0, ds0, p0, q0, hargs, rfl, rfl, h0, r0⟩ := trodAll_cons hA
  obtain ⟨v1, vs1, d1, ds1, p1, q1, rfl, rfl, rfl, h1, r1⟩ := trodAll_cons r0
  obtain ⟨v2, vs2, d2, ds2, p2, q2, rfl, rfl, rfl, h2, r2⟩ := trodAll_cons r1
  obtain ⟨rfl, rfl, rfl⟩ := trodAll_nil r2
  obtain rfl : args = #[v0, v1, v2] := by cases args; simp_all
  obtain ⟨rfl, rfl⟩ := trodVars_none hV
  clear hA0 hval0
  obtain ⟨a, ao, ac, ha, wa, _⟩ := law_calls (hval 0 53 v0 rfl rfl) h0
  obtain ⟨b, bo, bc, hb, wb, _⟩ := law_calls (hval 1 53 v1 rfl rfl) h1
  obtain ⟨ns, no, nc, hn, wn⟩ := law_ints Try.underlying49 Try.underlying3 (by kernel_rfl) (hval 2 49 v2 rfl rfl) h2
  refine (diskSynced_walk W a b ns v0 v1 v2 ao bo no ac bc nc ha hb wa wb hn (fun x hx => bounds_i64 (wn x hx))).mono fun e W' ⟨he, ho⟩ => ?_
  subst he
  exact ⟨_, rfl, law_post rfl hW' (by kernel_rfl) (of_decide_eq_true (by kernel_rfl)) rfl rfl rfl ho⟩
theorem diskSynced_holds : Rows.DiskSyncedSaid :=
  OpenClaim.holds_of_wide 9 Try.f9 rfl rfl rfl rfl rfl rfl rfl ⟨rfl, rfl, rfl, rfl, rfl⟩ rfl rfl rfl rfl rfl (by kernel_rfl) Try.func9 (by kernel_rfl)
    (of_decide_eq_true (by kernel_rfl)) (by unfold Func.isWrapper; first | (rw [if_pos (by decide +kernel)]; kernel_rfl) | (rw [if_neg (by decide +kernel)]; exact ⟨rfl, rfl⟩))
    (fun os started H enc _ => diskSynced_lifted os started H enc)
end Go.Proofs.Ytlgefjcfnnjkbaa
