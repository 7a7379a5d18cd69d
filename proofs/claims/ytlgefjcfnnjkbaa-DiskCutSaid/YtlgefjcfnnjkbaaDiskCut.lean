/- DiskCut. No conditions. -/
import Derived.Test.YtlgefjcfnnjkbaaAwake
import Derived.Test.YtlgefjcfnnjkbaaDM2
import Derived.Test.YtlgefjcfnnjkbaaLaw
import Derived.Test.YtlgefjcfnnjkbaaRows
namespace Go.Proofs.Ytlgefjcfnnjkbaa
open Go.ChangeShapes Go.WideShapes Go.ChangeAt Go.RowKit Go.Joins Go.Deep

theorem crash_same {d c : D} (hk : d.kept = c.kept) (hp : d.pend = c.pend) (L : List Nat) : d.crash L = c.crash L := by
  simp only [D.crash, D.layAll, hk, hp]
theorem allL_same {d c : D} (hk : d.kept = c.kept) (hp : d.pend = c.pend) : allL d = allL c :=
  allL_congr (by rw [hk]) fun k _ => by simp only [D.there, hk, hp]
theorem cut_facts (X : D) (k : Nat) (b : List Cl) (hc : X.cut = false) : ∀ j, j ≤ b.length → j ≤ k →
    (fillTo (X.cutAt k) b j).kept = (fillTo X b j).kept ∧ (fillTo (X.cutAt k) b j).pend = (fillTo X b j).pend ∧ (fillTo (X.cutAt k) b j).cut = true ∧ (fillTo (X.cutAt k) b j).left = k - j ∧
    (fillTo X b j).kept = X.kept ∧ (fillTo X b j).cut = false ∧ (fillTo X b j).pend.length = X.pend.length + j
  | 0, _, _ => ⟨rfl, rfl, rfl, rfl, rfl, hc, rfl⟩
  | j + 1, h, hj => by
    obtain ⟨h1, h2, h3, h4, h5, h6, h7⟩ := cut_facts X k b hc j (by omega) (by omega)
    rw [fillTo_succ _ b j (by omega), fillTo_succ X b j (by omega)]
    simp only [wrC, D.write, D.spent_kept, D.spent_cut]
    refine ⟨h1, by rw [h2], h3, ?_, h5, h6, by rw [List.length_append, h7]; simp; omega⟩
    unfold D.spent
    rw [if_pos h3]
    show (fillTo (X.cutAt k) b j).left - 1 = _
    omega
theorem sync_same {d c : D} (hk : d.kept = c.kept) (hp : d.pend = c.pend) : d.sync.kept = c.sync.kept ∧ d.sync.pend = c.sync.pend :=
  ⟨by simp only [D.sync, D.layAll, hk, hp], rfl⟩

set_option maxRecDepth 100000 in
set_option maxHeartbeats 16000000 in
theorem diskCut_walk (w : World) (a b : List Cl) (n : Int) (ns : List Int) (va vb vn : Value) (ao bo no : Option Addr) (ac bc nc : Nat) (ha : SliceOf w va a.length (cls a) ao ac) (hb : SliceOf w vb b.length (cls b) bo bc) (wa : ∀ c ∈ a, c.Wf) (wb : ∀ c ∈ b, c.Wf)
    (hni : I64 n) (hn : SliceOf w vn ns.length (ns.map (Value.int .i64)) no nc) (wn : ∀ x ∈ ns, I64 x) :
    Calls Try.prog 13 #[va, vb, .int .i64 n, vn] w fun e w' => e = .returned (.bool true) ∧ Only (fun _ => False) w w' := by
  have h0 := Disks.start w
  have AW := Lib.hid (fun W => awake_any W)
  have FN := Lib.hid (fun (W : World) (F : Nat → Prop) (l : List Dk) (h : Disks w W F l) => dk_filled h va (.slice none 0 0) a [] ao none ac 0 (ha.only h.only) (cls_nil W) wa (fun c h => by cases h))
  obtain ⟨hk6, hcX, _⟩ := filledD_facts a []
  have hpX := filledD_nil_pend a
  generalize filledD a [] = X at FN hk6 hcX hpX
  have PN := Lib.hid (fun W => pick02_any W n 10 hni (by decide) (by decide))
  have hp := pickI_lt n 10 (by decide)
  obtain ⟨k, hq⟩ : ∃ k : Nat, (k : Int) = pickI n 10 := ⟨(pickI n 10).toNat, by omega⟩
  rw [← hq] at PN hp
  clear hq
  have hk10 : k < 10 := by omega
  clear hp
  have CF := Lib.hid (cut_facts X k b hcX)
  have HX := Lib.hid (⟨hk6, hcX, hpX⟩ : X.kept.length = 6 ∧ X.cut = false ∧ X.pend = [])
  clear hk6 hcX hpX
  have hfz := fullL_length [122]
  have HZF := Lib.hid (fun (W : World) (F : Nat → Prop) (l : List Dk) (h : Disks w W F l) => dk_full h [122] (by decide))
  generalize fullL [122] = fz at hfz HZF
  have hvv := ha.val
  subst hvv
  have hvv := hb.val
  subst hvv
  have hvv := hn.val
  subst hvv
  have hbl := hb.len
  clear ha
  go_enter Try.func13, Try.ntmps13
  go_wp2_with fail
  refine (AW.out _).mono ?_
  rintro e w1 ⟨rfl, ho1⟩
  have H1 := Lib.hid (h0.quiet ho1)
  clear h0 ho1
  go_wp2_with fail
  refine (FN.out _ _ _ H1.out).mono ?_
  rintro e w2 ⟨p0, k0, v0, rfl, h2⟩
  have H2 : Hid (Disks w w2 (fun _ => False) [⟨p0, k0, v0, X⟩]) := Lib.hid h2
  clear h2 H1
  go_wp2_with fail
  refine (FN.out _ _ _ H2.out).mono ?_
  rintro e w3 ⟨p1, k1, v1, rfl, h3⟩
  have H3 : Hid (Disks w w3 (fun _ => False) [⟨p0, k0, v0, X⟩, ⟨p1, k1, v1, X⟩]) := Lib.hid h3
  clear h3 H2 FN AW
  go_wp2_with fail
  refine (PN.out _).mono ?_
  rintro e w4 ⟨rfl, rfl⟩
  go_wp2_with fail
  refine (dk_cut H3.out 0 rfl k (by omega)).mono ?_
  rintro e w4 ⟨rfl, h4, ho4⟩
  have H4 : Hid (Disks w w4 (fun _ => False) [⟨p0, k0, v0, fillTo (X.cutAt k) b (min 0 k)⟩, ⟨p1, k1, v1, fillTo X b (min 0 k)⟩]) := Lib.hid (by rw [Nat.zero_min]; exact h4)
  clear h4 ho4 H3
  go_upto_region 7 with fail
  obtain ⟨many, hmm⟩ : ∃ many : Nat, many = min 8 b.length := ⟨_, rfl⟩
  rw [show (if (8 : Int) < (b.length : Int) then (8 : Int) else (b.length : Int)) = (many : Int) by split <;> omega]
  have hmb : many ≤ b.length := by omega
  have hm8 : many ≤ 8 := by omega
  clear hmm
  go_wp2_with fail
  go_loopw [15] (fun i wr => ∃ (i' : Nat) (vd vc : Value), i' ≤ many ∧ i = .int .i64 i' ∧ Hid (Disks w wr (fun _ => False) [⟨p0, k0, vd, fillTo (X.cutAt k) b (min i' k)⟩, ⟨p1, k1, vc, fillTo X b (min i' k)⟩])) (fun i _ => many - (intOf i).toNat)
  case atStart => exact ⟨0, _, _, by omega, rfl, H4⟩
  case round =>
    obtain ⟨i, vd, vc, hi, rfl, HD⟩ := hrel
    clear H4
    by_cases hlt : i < many
    · have hib : i < b.length := by omega
      have hI1 : (i : Int) < (many : Int) := by omega
      have hI2 : (i : Int) < (b.length : Int) := by omega
      obtain ⟨gl, ol, rfl, hcc⟩ := cl_at (hb.only HD.out.only) i hib
      have hwf := wb _ (List.getElem_mem hib)
      have HCL : Hid (∀ W, Only (fun _ => False) w W → (W.cell? ⟨gl, ol + i * 6 + 1, none⟩ = some (.int .i64 b[i].at_) ∧ W.cell? ⟨gl, ol + i * 6 + 2, none⟩ = some (.string ⟨b[i].s.toArray⟩))) := Lib.hid (fun W ho => by
        obtain ⟨gl', ol', e, hc⟩ := cl_at (hb.only ho) i hib
        cases e
        exact ⟨hc 1 _ rfl, hc 2 _ rfl⟩)
      have PK := Lib.hid (fun W => pick02_any W b[i].at_ 6 hwf.at_ (by decide) (by decide))
      have hp := pickI_lt b[i].at_ 6 (by decide)
      have HSD := Lib.hid (fillTo_succ (X.cutAt k) b i hib)
      have HSC := Lib.hid (fillTo_succ X b i hib)
      unfold wrC at HSD HSC
      obtain ⟨q, hq⟩ : ∃ q : Nat, (q : Int) = pickI b[i].at_ 6 := ⟨(pickI b[i].at_ 6).toNat, by omega⟩
      rw [← hq] at PK hp HSD HSC
      rw [Int.toNat_natCast] at HSD HSC
      have hxs := hwf.s
      have hfl := fullL_length b[i].s
      have HFU := Lib.hid (fun (W : World) (F : Nat → Prop) (l : List Dk) (h : Disks w W F l) => dk_full h b[i].s hxs)
      clear hq hwf hcc hxs
      generalize b[i] = c at HCL PK HFU HSD HSC hfl
      generalize fullL c.s = fs at HFU HSD HSC hfl
      have hq6 : q < 6 := by omega
      clear hp
      obtain ⟨hca, hcs⟩ := HCL.out _ HD.out.only
      have CFI := Lib.hid (CF.out (min i k) (by omega) (by omega))
      go_wp2_with fail
      refine (PK.out _).mono ?_
      rintro e w5 ⟨rfl, rfl⟩
      go_wp2_with fail
      refine (HFU.out _ _ _ HD.out).mono ?_
      rintro e w6 ⟨rfl, h6, ho6⟩
      have H6 := Lib.hid h6
      obtain ⟨hca6, hcs6⟩ := HCL.out _ h6.only
      clear h6 ho6 HD hca hcs
      by_cases hik : i < k
      · have hmin : min i k = i := by omega
        rw [hmin] at H6 CFI
        have hIk : (i : Int) < (k : Int) := by omega
        clear hmin
        go_wp2_with fail
        refine (dk_write H6.out 0 rfl q fs (by rw [CFI.out.1, CFI.out.2.2.2.2.1, HX.out.1]; exact hq6) hfl (by have h4 := CFI.out.2.2.2.1; simp [D.power, h4]; omega) (by rw [CFI.out.2.1, CFI.out.2.2.2.2.2.2, HX.out.2.2]; simp; omega)).mono ?_
        rintro e w7 ⟨vd', rfl, h7, ho7⟩
        have H7 : Hid (Disks w w7 (fun _ => False) [⟨p0, k0, vd', fillTo (X.cutAt k) b (i + 1)⟩, ⟨p1, k1, vc, fillTo X b i⟩]) := Lib.hid (by rw [HSD.out]; exact h7)
        obtain ⟨hca7, hcs7⟩ := HCL.out _ h7.only
        clear h7 ho7 H6 hca6 hcs6
        go_wp2_with fail
        refine (HFU.out _ _ _ H7.out).mono ?_
        rintro e w8 ⟨rfl, h8, ho8⟩
        have H8 := Lib.hid h8
        clear h8 ho8 H7 hca7 hcs7
        go_wp2_with fail
        refine (dk_write H8.out 1 rfl q fs (by rw [CFI.out.2.2.2.2.1, HX.out.1]; exact hq6) hfl (by simp [D.power, CFI.out.2.2.2.2.2.1]) (by rw [CFI.out.2.2.2.2.2.2, HX.out.2.2]; simp; omega)).mono ?_
        rintro e w9 ⟨vc', rfl, h9, ho9⟩
        have H9 : Hid (Disks w w9 (fun _ => False) [⟨p0, k0, vd', fillTo (X.cutAt k) b (min (i + 1) k)⟩, ⟨p1, k1, vc', fillTo X b (min (i + 1) k)⟩]) := Lib.hid (by rw [show min (i + 1) k = i + 1 by omega, HSC.out]; exact h9)
        clear h9 ho9 H8
        go_wp2_with fail
        go_roundw
        case rel => exact ⟨i + 1, vd', vc', by omega, by go_num, H9⟩
        case measure => simp [intOf] <;> omega
      · have hmin : min i k = k := by omega
        rw [hmin] at H6 CFI
        have hIk : (k : Int) ≤ (i : Int) := by omega
        have hIk' : ¬ (i : Int) < (k : Int) := by omega
        clear hmin
        go_wp2_with fail
        refine (dk_write_nopower H6.out 0 rfl q fs (by rw [CFI.out.1, CFI.out.2.2.2.2.1, HX.out.1]; exact hq6) hfl (by have h4 := CFI.out.2.2.2.1; have h3 := CFI.out.2.2.1; simp [D.power, h4, h3])).mono ?_
        rintro e w7 ⟨rfl, h7, ho7⟩
        have H7 : Hid (Disks w w7 (fun _ => False) [⟨p0, k0, vd, fillTo (X.cutAt k) b (min (i + 1) k)⟩, ⟨p1, k1, vc, fillTo X b (min (i + 1) k)⟩]) := Lib.hid (by rw [show min (i + 1) k = k by omega]; exact h7)
        clear h7 ho7 H6 hca6 hcs6
        go_wp2_with fail
        go_roundw
        case rel => exact ⟨i + 1, vd, vc, by omega, by go_num, H7⟩
        case measure => simp [intOf] <;> omega
    · obtain rfl : i = many := by omega
      have hI1 : ¬ (i : Int) < (i : Int) := by omega
      have CFI := Lib.hid (CF.out (min i k) (by omega) (by omega))
      clear CF
      by_cases hik : i < k
      · rw [show min i k = i by omega] at HD CFI
        have hIk : (i : Int) < (k : Int) := by omega
        have HT : Hid ((fillTo (X.cutAt k) b i).sync.kept = (fillTo X b i).sync.kept ∧ (fillTo (X.cutAt k) b i).sync.pend = (fillTo X b i).sync.pend ∧ (fillTo X b i).sync.kept.length = 6 ∧ (fillTo X b i).sync.pend.length ≤ 8) := Lib.hid (by
          obtain ⟨e1, e2⟩ := sync_same CFI.out.1 CFI.out.2.1
          exact ⟨e1, e2, by simp only [D.sync, D.layAll_length]; rw [CFI.out.2.2.2.2.1]; exact HX.out.1, by simp [D.sync]⟩)
        go_wp2_with fail
        refine (dk_sync HD.out 0 rfl (by have h4 := CFI.out.2.2.2.1; simp [D.power, h4]; omega)).mono ?_
        rintro e w7 ⟨rfl, h7, ho7⟩
        have H7 := Lib.hid h7
        clear h7 ho7 HD
        go_wp2_with fail
        refine (dk_sync H7.out 1 rfl (by simp [D.power, CFI.out.2.2.2.2.2.1])).mono ?_
        rintro e w8 ⟨rfl, h8, ho8⟩
        have H8 : Hid (Disks w w8 (fun _ => False) [⟨p0, k0, .slice none 0 0, (fillTo (X.cutAt k) b i).sync⟩, ⟨p1, k1, .slice none 0 0, (fillTo X b i).sync⟩]) := Lib.hid h8
        clear h8 ho8 H7 CFI
        generalize (fillTo (X.cutAt k) b i).sync = DD at H8 HT
        generalize (fillTo X b i).sync = CC at H8 HT
        -- what the tail wants to know of the two disks
        obtain ⟨hkk, hpp, hc6⟩ : DD.kept = CC.kept ∧ DD.pend = CC.pend ∧ CC.kept.length = 6 ∧ CC.pend.length ≤ 8 := HT.out
        obtain ⟨hc6, hc8⟩ := hc6
        obtain ⟨m, hm⟩ : ∃ m, m = CC.pend.length := ⟨_, rfl⟩
        have PC : Hid (CC.pend.length = m) := Lib.hid hm.symm
        have PD : Hid (DD.pend.length = m) := Lib.hid (by rw [hpp]; exact hm.symm)
        have hm8 : m ≤ 8 := by omega
        obtain ⟨A, hA⟩ : ∃ A, A = allL CC := ⟨_, rfl⟩
        have EC : Hid (allL CC = A) := Lib.hid hA.symm
        have EA : Hid (allL DD = A) := Lib.hid (by rw [hA]; exact allL_same hkk hpp)
        have KP := Lib.hid (fun (W : World) (F : Nat → Prop) (l : List Dk) (h : Disks w W F l) => dk_keep h _ ns no nc m (hn.only h.only) wn (by omega))
        have hko := keepL_ok ns m
        have HOKD : Hid (crashOk DD.pend.length ((keepL ns m).map fun (x : Nat) => (x : Int))) := Lib.hid (by rw [PD.out]; exact crashOk_nats m _ hko)
        have HOKC : Hid (crashOk CC.pend.length ((keepL ns m).map fun (x : Nat) => (x : Int))) := Lib.hid (by rw [PC.out]; exact crashOk_nats m _ hko)
        generalize keepL ns m = L at KP HOKD HOKC hko
        obtain ⟨E, hE⟩ : ∃ E, E = CC.crash L := ⟨_, rfl⟩
        have EE : Hid (CC.crash L = E) := Lib.hid hE.symm
        have ED : Hid (DD.crash L = E) := Lib.hid (by rw [hE]; exact crash_same hkk hpp L)
        have HE : Hid (E.kept.length = 6 ∧ E.cut = false ∧ E.pend.length = 0) := Lib.hid (by rw [hE]; exact ⟨by simp only [D.crash, D.layAll_length]; exact hc6, rfl, rfl⟩)
        obtain ⟨B, hB⟩ : ∃ B, B = allL E := ⟨_, rfl⟩
        have EB := Lib.hid hB.symm
        clear hkk hpp hc6 hc8 hm hA hE hB
        go_wp2_with fail
        -- what is there
        have hal := dk_all H8.out 0 rfl
        rw [EA.out] at hal
        refine hal.mono ?_
        rintro e y1 ⟨rfl, h, ho⟩
        have J1 := Lib.hid h
        clear h ho H8 hal
        go_wp2_with fail
        have hal := dk_all J1.out 1 rfl
        rw [EC.out] at hal
        refine hal.mono ?_
        rintro e y2 ⟨rfl, h, ho⟩
        have J2 := Lib.hid h
        clear h ho J1 hal
        go_wp2_with fail
        have hpe := pending_any _ p0 k0 _ _ (J2.out.at_ 0 _ rfl)
        rw [PD.out] at hpe
        refine hpe.mono ?_
        rintro e wx ⟨rfl, rfl⟩
        clear hpe
        go_wp2_with fail
        have hpe := pending_any _ p1 k1 _ _ (J2.out.at_ 1 _ rfl)
        rw [PC.out] at hpe
        refine hpe.mono ?_
        rintro e wx ⟨rfl, rfl⟩
        clear hpe
        go_wp2_with fail
        have hpe := pending_any _ p1 k1 _ _ (J2.out.at_ 1 _ rfl)
        rw [PC.out] at hpe
        refine hpe.mono ?_
        rintro e wx ⟨rfl, rfl⟩
        clear hpe
        go_wp2_with fail
        refine (KP.out _ _ _ J2.out).mono ?_
        rintro e y3 ⟨r, F, co, cc', rfl, h, _, hr, hF, _⟩
        have HR := Lib.hid hr
        have J3 := Lib.hid h
        have HF := Lib.hid hF
        clear hr h hF J2
        go_wp2_with fail
        refine (dk_crash J3.out 0 rfl _ _ _ _ HR.out HOKD.out (by rw [PD.out]; omega)).mono ?_
        rintro e y4 ⟨rfl, h, ho⟩
        have HR4 := Lib.hid (HR.out.held ho HF.out)
        rw [nats_back, ED.out] at h
        have J4 := Lib.hid h
        clear h ho J3 HR
        go_wp2_with fail
        refine (dk_crash J4.out 1 rfl _ _ _ _ HR4.out HOKC.out (by rw [PC.out]; omega)).mono ?_
        rintro e y5 ⟨rfl, h, ho⟩
        rw [nats_back, EE.out] at h
        have J5 : Hid (Disks w y5 F [⟨p0, k0, .slice none 0 0, E⟩, ⟨p1, k1, .slice none 0 0, E⟩]) := Lib.hid h
        clear h ho J4 HR4
        go_wp2_with fail
        have hal := dk_all J5.out 0 rfl
        rw [EB.out] at hal
        refine hal.mono ?_
        rintro e y6 ⟨rfl, h, ho⟩
        have J6 := Lib.hid h
        clear h ho J5 hal
        go_wp2_with fail
        have hal := dk_all J6.out 1 rfl
        rw [EB.out] at hal
        refine hal.mono ?_
        rintro e y7 ⟨rfl, h, ho⟩
        have J7 := Lib.hid h
        clear h ho J6 hal
        go_wp2_with fail
        refine (HZF.out _ _ _ J7.out).mono ?_
        rintro e y8 ⟨rfl, h, ho⟩
        have J8 := Lib.hid h
        clear h ho J7
        go_wp2_with fail
        refine (dk_write J8.out 0 rfl 0 fz (by rw [HE.out.1]; decide) hfz (by simp [D.power, HE.out.2.1]) (by rw [HE.out.2.2]; decide)).mono ?_
        rintro e y9 ⟨pv9, rfl, h, ho⟩
        have J9 : Hid (Disks w y9 F [⟨p0, k0, pv9, E.write 0 fz⟩, ⟨p1, k1, .slice none 0 0, E⟩]) := Lib.hid h
        clear h ho J8
        go_wp2_with fail
        refine (dk_sync J9.out 0 rfl (by simp [D.power, D.write, D.spent_cut, HE.out.2.1])).mono ?_
        rintro e y10 ⟨rfl, h, ho⟩
        have J10 := Lib.hid h
        clear h ho J9
        go_wp2_with fail
        go_ret
        exact ⟨rfl, J10.out.only⟩
      · rw [show min i k = k by omega] at HD CFI
        have hIk : (k : Int) ≤ (i : Int) := by omega
        have hIk' : ¬ (i : Int) < (k : Int) := by omega
        have HT : Hid ((fillTo (X.cutAt k) b k).kept = (fillTo X b k).kept ∧ (fillTo (X.cutAt k) b k).pend = (fillTo X b k).pend ∧ (fillTo X b k).kept.length = 6 ∧ (fillTo X b k).pend.length ≤ 8) := Lib.hid
          ⟨CFI.out.1, CFI.out.2.1, by rw [CFI.out.2.2.2.2.1]; exact HX.out.1, by rw [CFI.out.2.2.2.2.2.2, HX.out.2.2]; simp; omega⟩
        go_wp2_with fail
        refine (dk_sync_nopower HD.out 0 rfl (by have h4 := CFI.out.2.2.2.1; have h3 := CFI.out.2.2.1; simp [D.power, h4, h3])).mono ?_
        rintro e w7 ⟨rfl, h7, ho7⟩
        have H8 := Lib.hid h7
        clear h7 ho7 HD CFI
        generalize fillTo (X.cutAt k) b k = DD at H8 HT
        generalize fillTo X b k = CC at H8 HT
        -- what the tail wants to know of the two disks
        obtain ⟨hkk, hpp, hc6⟩ : DD.kept = CC.kept ∧ DD.pend = CC.pend ∧ CC.kept.length = 6 ∧ CC.pend.length ≤ 8 := HT.out
        obtain ⟨hc6, hc8⟩ := hc6
        obtain ⟨m, hm⟩ : ∃ m, m = CC.pend.length := ⟨_, rfl⟩
        have PC : Hid (CC.pend.length = m) := Lib.hid hm.symm
        have PD : Hid (DD.pend.length = m) := Lib.hid (by rw [hpp]; exact hm.symm)
        have hm8 : m ≤ 8 := by omega
        obtain ⟨A, hA⟩ : ∃ A, A = allL CC := ⟨_, rfl⟩
        have EC : Hid (allL CC = A) := Lib.hid hA.symm
        have EA : Hid (allL DD = A) := Lib.hid (by rw [hA]; exact allL_same hkk hpp)
        have KP := Lib.hid (fun (W : World) (F : Nat → Prop) (l : List Dk) (h : Disks w W F l) => dk_keep h _ ns no nc m (hn.only h.only) wn (by omega))
        have hko := keepL_ok ns m
        have HOKD : Hid (crashOk DD.pend.length ((keepL ns m).map fun (x : Nat) => (x : Int))) := Lib.hid (by rw [PD.out]; exact crashOk_nats m _ hko)
        have HOKC : Hid (crashOk CC.pend.length ((keepL ns m).map fun (x : Nat) => (x : Int))) := Lib.hid (by rw [PC.out]; exact crashOk_nats m _ hko)
        generalize keepL ns m = L at KP HOKD HOKC hko
        obtain ⟨E, hE⟩ : ∃ E, E = CC.crash L := ⟨_, rfl⟩
        have EE : Hid (CC.crash L = E) := Lib.hid hE.symm
        have ED : Hid (DD.crash L = E) := Lib.hid (by rw [hE]; exact crash_same hkk hpp L)
        have HE : Hid (E.kept.length = 6 ∧ E.cut = false ∧ E.pend.length = 0) := Lib.hid (by rw [hE]; exact ⟨by simp only [D.crash, D.layAll_length]; exact hc6, rfl, rfl⟩)
        obtain ⟨B, hB⟩ : ∃ B, B = allL E := ⟨_, rfl⟩
        have EB := Lib.hid hB.symm
        clear hkk hpp hc6 hc8 hm hA hE hB
        go_wp2_with fail
        -- what is there
        have hal := dk_all H8.out 0 rfl
        rw [EA.out] at hal
        refine hal.mono ?_
        rintro e y1 ⟨rfl, h, ho⟩
        have J1 := Lib.hid h
        clear h ho H8 hal
        go_wp2_with fail
        have hal := dk_all J1.out 1 rfl
        rw [EC.out] at hal
        refine hal.mono ?_
        rintro e y2 ⟨rfl, h, ho⟩
        have J2 := Lib.hid h
        clear h ho J1 hal
        go_wp2_with fail
        have hpe := pending_any _ p0 k0 _ _ (J2.out.at_ 0 _ rfl)
        rw [PD.out] at hpe
        refine hpe.mono ?_
        rintro e wx ⟨rfl, rfl⟩
        clear hpe
        go_wp2_with fail
        have hpe := pending_any _ p1 k1 _ _ (J2.out.at_ 1 _ rfl)
        rw [PC.out] at hpe
        refine hpe.mono ?_
        rintro e wx ⟨rfl, rfl⟩
        clear hpe
        go_wp2_with fail
        have hpe := pending_any _ p1 k1 _ _ (J2.out.at_ 1 _ rfl)
        rw [PC.out] at hpe
        refine hpe.mono ?_
        rintro e wx ⟨rfl, rfl⟩
        clear hpe
        go_wp2_with fail
        refine (KP.out _ _ _ J2.out).mono ?_
        rintro e y3 ⟨r, F, co, cc', rfl, h, _, hr, hF, _⟩
        have HR := Lib.hid hr
        have J3 := Lib.hid h
        have HF := Lib.hid hF
        clear hr h hF J2
        go_wp2_with fail
        refine (dk_crash J3.out 0 rfl _ _ _ _ HR.out HOKD.out (by rw [PD.out]; omega)).mono ?_
        rintro e y4 ⟨rfl, h, ho⟩
        have HR4 := Lib.hid (HR.out.held ho HF.out)
        rw [nats_back, ED.out] at h
        have J4 := Lib.hid h
        clear h ho J3 HR
        go_wp2_with fail
        refine (dk_crash J4.out 1 rfl _ _ _ _ HR4.out HOKC.out (by rw [PC.out]; omega)).mono ?_
        rintro e y5 ⟨rfl, h, ho⟩
        rw [nats_back, EE.out] at h
        have J5 : Hid (Disks w y5 F [⟨p0, k0, .slice none 0 0, E⟩, ⟨p1, k1, .slice none 0 0, E⟩]) := Lib.hid h
        clear h ho J4 HR4
        go_wp2_with fail
        have hal := dk_all J5.out 0 rfl
        rw [EB.out] at hal
        refine hal.mono ?_
        rintro e y6 ⟨rfl, h, ho⟩
        have J6 := Lib.hid h
        clear h ho J5 hal
        go_wp2_with fail
        have hal := dk_all J6.out 1 rfl
        rw [EB.out] at hal
        refine hal.mono ?_
        rintro e y7 ⟨rfl, h, ho⟩
        have J7 := Lib.hid h
        clear h ho J6 hal
        go_wp2_with fail
        refine (HZF.out _ _ _ J7.out).mono ?_
        rintro e y8 ⟨rfl, h, ho⟩
        have J8 := Lib.hid h
        clear h ho J7
        go_wp2_with fail
        refine (dk_write J8.out 0 rfl 0 fz (by rw [HE.out.1]; decide) hfz (by simp [D.power, HE.out.2.1]) (by rw [HE.out.2.2]; decide)).mono ?_
        rintro e y9 ⟨pv9, rfl, h, ho⟩
        have J9 : Hid (Disks w y9 F [⟨p0, k0, pv9, E.write 0 fz⟩, ⟨p1, k1, .slice none 0 0, E⟩]) := Lib.hid h
        clear h ho J8
        go_wp2_with fail
        refine (dk_sync J9.out 0 rfl (by simp [D.power, D.write, D.spent_cut, HE.out.2.1])).mono ?_
        rintro e y10 ⟨rfl, h, ho⟩
        have J10 := Lib.hid h
        clear h ho J9
        go_wp2_with fail
        go_ret
        exact ⟨rfl, J10.out.only⟩

set_option maxRecDepth 100000 in
theorem diskCut_lifted (os : Os) (started : os.Started) (H : Type) (enc : TypeId × Value → H) :
    ReturnsInHanded {} Try.checked os 13 .any (Rows.diskCutSpec.pre6 enc Try.prog Try.f13 Rows.diskCutRow.domain false) (Rows.diskCutSpec.post enc Try.prog Try.f13 false true false false) := by
  refine returnsInHanded_of_change (C := Try.checked) Try.own started (by kernel_rfl) Try.func13
    (ChangeSpec.witness6 (enc := enc) (C := Try.checked) false ⟨#[], #[.slice none 0 0, .slice none 0 0, .int .i64 0, .slice none 0 0], []⟩ 8 (by kernel_rfl) (by kernel_rfl) (by kernel_rfl) (by kernel_rfl)) ?_
  intro W base args ds gs before hval0 hW hcnd _
  have hval : ∀ (j : Nat) t v, Try.f13.params[j]? = some t → args[j]? = some v → Value.okWide Try.prog W .any base t v := hval0
  have hW' := hW
  obtain ⟨p, q, hA0, hV, rfl, hfz, hnd⟩ := hW
  have hA : DataW.TrodAll enc Try.prog W 0 (fun _ => true) true Try.f13.params.toList args.toList ds p := hA0
  rw [Try.params13] at hA hval
  obtain ⟨v0, vs0, d0, ds0, p0, q0, hargs, rfl, rfl, h0, r0⟩ := trodAll_cons hA
  obtain ⟨v1, vs1, d1, ds1, p1, q1, rfl, rfl, rfl, h1, r1⟩ := trodAll_cons r0
  obtain ⟨v2, vs2, d2, ds2, p2, q2, rfl, rfl, rfl, h2, r2⟩ := trodAll_cons r1
  obtain ⟨v3, vs3, d3, ds3, p3, q3, rfl, rfl, rfl, h3, r3⟩ := trodAll_cons r2
  obtain ⟨rfl, rfl, rfl⟩ := trodAll_nil r3
  obtain rfl : args = #[v0, v1, v2, v3] := by cases args; simp_all
  obtain ⟨rfl, rfl⟩ := trodVars_none hV
  clear hA0 hval0
  obtain ⟨a, ao, ac, ha, wa, _⟩ := law_calls (hval 0 53 v0 rfl rfl) h0
  obtain ⟨b, bo, bc, hb, wb, _⟩ := law_calls (hval 1 53 v1 rfl rfl) h1
  obtain ⟨c, rfl, _, _, wc⟩ := open_int Try.underlying3 (hval 2 3 v2 rfl rfl) h2
  obtain ⟨ns, no, nc, hn, wn⟩ := law_ints Try.underlying49 Try.underlying3 (by kernel_rfl) (hval 3 49 v3 rfl rfl) h3
  refine (diskCut_walk W a b c ns v0 v1 v3 ao bo no ac bc nc ha hb wa wb (bounds_i64 wc) hn (fun x hx => bounds_i64 (wn x hx))).mono fun e W' ⟨he, ho⟩ => ?_
  subst he
  exact ⟨_, rfl, law_post rfl hW' (by kernel_rfl) (of_decide_eq_true (by kernel_rfl)) rfl rfl rfl ho⟩
theorem diskCut_holds : Rows.DiskCutSaid :=
  OpenClaim.holds_of_wide 13 Try.f13 rfl rfl rfl rfl rfl rfl rfl ⟨rfl, rfl, rfl, rfl, rfl⟩ rfl rfl rfl rfl rfl (by kernel_rfl) Try.func13 (by kernel_rfl)
    (of_decide_eq_true (by kernel_rfl)) (by unfold Func.isWrapper; first | (rw [if_pos (by decide +kernel)]; kernel_rfl) | (rw [if_neg (by decide +kernel)]; exact ⟨rfl, rfl⟩))
    (fun os started H enc _ => diskCut_lifted os started H enc)
end Go.Proofs.Ytlgefjcfnnjkbaa
