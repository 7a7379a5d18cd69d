/- DiskLast. No conditions. -/
import Derived.Test.YtlgefjcfnnjkbaaAwake
import Derived.Test.YtlgefjcfnnjkbaaLaw
import Derived.Test.YtlgefjcfnnjkbaaRows
namespace Go.Proofs.Ytlgefjcfnnjkbaa
open Go.ChangeShapes Go.WideShapes Go.ChangeAt Go.RowKit Go.Joins Go.Deep

def lastD (l : List (List UInt8)) (q k : Nat) : D := (l.take k).foldl (fun d s => d.write q (fullL s)) (filledD [] [])
theorem lastD_succ (l : List (List UInt8)) (q k : Nat) (h : k < l.length) : lastD l q (k + 1) = (lastD l q k).write q (fullL l[k]) := by
  unfold lastD
  rw [List.take_succ_eq_append_getElem h, List.foldl_append]; rfl
theorem lastD_facts (l : List (List UInt8)) (q : Nat) : ∀ k, k ≤ l.length → (lastD l q k).kept = List.replicate 6 noughts ∧ (lastD l q k).cut = false ∧ (lastD l q k).pend = (l.take k).map fun s => (q, fullL s)
  | 0, _ => ⟨show (filledD [] []).kept = _ by decide +kernel, rfl, rfl⟩
  | k + 1, h => by
    obtain ⟨h1, h2, h3⟩ := lastD_facts l q k (by omega)
    rw [lastD_succ l q k (by omega)]
    simp only [D.write, D.spent_kept, D.spent_cut]
    exact ⟨h1, h2, by rw [h3, List.take_succ_eq_append_getElem (by omega), List.map_append]; rfl⟩

/-- what the last of those that are kept leaves there -/
theorem lay_last (d : D) (q : Nat) (hq : q < d.kept.length) : ∀ (ks : List Nat), (∀ x ∈ ks, ∃ h : x < d.pend.length, d.pend[x].1 = q) → (h : ks ≠ []) → (d.crash ks).there q = (d.pend.getD (ks.getLast h) (0, [])).2 := by
  intro ks hk h
  obtain ⟨a, b, rfl⟩ : ∃ a b, ks = a ++ [b] := ⟨ks.dropLast, ks.getLast h, (List.dropLast_concat_getLast h).symm⟩
  obtain ⟨hb, hb1⟩ := hk b (by simp)
  have hl := d.layAll_length a
  simp only [D.there, D.crash, List.reverse_nil, List.find?_nil, Option.map_none, Option.getD_none, List.getLast_append, List.getLast_singleton]
  unfold D.layAll at hl ⊢
  rw [List.foldl_append, List.foldl_cons, List.foldl_nil]
  generalize List.foldl _ d.kept a = kk at hl ⊢
  have hp : d.pend.getD b (0, []) = d.pend[b] := by simp [hb]
  rw [hp, layK, hb1]
  simp [List.getD_eq_getElem?_getD, hl, hq, hb]

theorem last_holds (l : List (List UInt8)) (ns : List Int) (q n : Nat) (hq : q < 6) (hn : n ≤ l.length) (h : keepL ns n ≠ []) :
    ((lastD l q n).crash (keepL ns n)).there q = fullL (l.getD ((keepL ns n).getLast h) []) := by
  obtain ⟨h1, h2, h3⟩ := lastD_facts l q n hn
  have hok := (keepL_ok ns n).1
  have hlen : (lastD l q n).pend.length = n := by rw [h3]; simp; omega
  rw [lay_last _ q (by rw [h1]; simpa using hq) _ (fun x hx => ⟨by rw [hlen]; exact hok x hx, by simp [h3]⟩) h]
  have hx := hok _ (List.getLast_mem h)
  generalize (keepL ns n).getLast h = x at hx
  have hxl : x < l.length := by omega
  rw [h3]
  simp [List.getD_eq_getElem?_getD, hx, hxl]
theorem none_holds (l : List (List UInt8)) (q n : Nat) (hq : q < 6) (hn : n ≤ l.length) : ((lastD l q n).crash []).there q = noughts := by
  obtain ⟨h1, h2, h3⟩ := lastD_facts l q n hn
  simp only [D.there, D.crash, List.reverse_nil, List.find?_nil, Option.map_none, Option.getD_none, D.layAll, List.foldl_nil, h1]
  rw [List.getD_eq_getElem?_getD, List.getElem?_replicate, if_pos hq]
  rfl

set_option maxRecDepth 100000 in
set_option maxHeartbeats 8000000 in
theorem diskLast_walk (w : World) (l : List (List UInt8)) (at_ : Int) (ns : List Int) (vl vn : Value) (ao bo : Option Addr) (ac bc : Nat) (hl : SliceOf w vl l.length (txts l) ao ac) (hwl : ∀ x ∈ l, x.length ≤ maxLen) (hat : I64 at_)
    (hn : SliceOf w vn ns.length (ns.map (Value.int .i64)) bo bc) (hwn : ∀ x ∈ ns, I64 x) :
    Calls Try.prog 11 #[vl, .int .i64 at_, vn] w fun e w' => e = .returned (.bool true) ∧ Only (fun _ => False) w w' := by
  have h0 := Disks.start w
  have AW := Lib.hid (fun W => awake_any W)
  have PK := Lib.hid (fun W => pick02_any W at_ 6 hat (by decide) (by decide))
  have hp := pickI_lt at_ 6 (by decide)
  obtain ⟨q, hq⟩ : ∃ q : Nat, (q : Int) = pickI at_ 6 := ⟨(pickI at_ 6).toNat, by omega⟩
  rw [← hq] at PK hp
  clear hq
  have hvv := hl.val
  subst hvv
  have hvv := hn.val
  subst hvv
  have hll := hl.len
  go_enter Try.func11, Try.ntmps11
  go_wp2_with fail
  refine (AW.out _).mono ?_
  rintro e w1 ⟨rfl, ho1⟩
  have H1 := Lib.hid (h0.quiet ho1)
  clear h0 ho1
  go_wp2_with fail
  refine (dk_filled H1.out (.slice none 0 0) (.slice none 0 0) [] [] none none 0 0 ⟨rfl, by decide, fun j x h => by simp [cls] at h⟩ ⟨rfl, by decide, fun j x h => by simp [cls] at h⟩ (fun c h => by cases h) (fun c h => by cases h)).mono ?_
  rintro e w2 ⟨p, kb, pv, rfl, h2⟩
  have H2 : Hid (Disks w w2 (fun _ => False) [⟨p, kb, pv, lastD l q 0⟩]) := Lib.hid h2
  clear h2 H1
  go_wp2_with fail
  refine (PK.out _).mono ?_
  rintro e w3 ⟨rfl, rfl⟩
  go_upto_region 5 with fail
  obtain ⟨n, hnn⟩ : ∃ n : Nat, n = min 9 l.length := ⟨_, rfl⟩
  rw [show (if (9 : Int) < (l.length : Int) then (9 : Int) else (l.length : Int)) = (n : Int) by split <;> omega]
  have hnl : n ≤ l.length := by omega
  have hn9 : n ≤ 9 := by omega
  clear hnn
  go_wp2_with fail
  go_loopw [11] (fun i wr => ∃ (k : Nat) (pv : Value), k ≤ n ∧ i = .int .i64 k ∧ Hid (Disks w wr (fun _ => False) [⟨p, kb, pv, lastD l q k⟩])) (fun i _ => n - (intOf i).toNat)
  case atStart => exact ⟨0, _, by omega, rfl, H2⟩
  case round =>
    obtain ⟨k, pv, hk, rfl, hD⟩ := hrel
    clear H2
    by_cases hlt : k < n
    · have hkl : k < l.length := by omega
      obtain ⟨gl, ol, rfl, hc⟩ := (hl.only hD.out.only).txt_at k hkl
      have hxl := hwl _ (List.getElem_mem hkl)
      obtain ⟨hf1, hf2, hf3⟩ := lastD_facts l q k (by omega)
      have hf4 : (lastD l q k).pend.length = k := by rw [hf3]; simp; omega
      have HSU := Lib.hid (lastD_succ l q k hkl)
      have HF := Lib.hid (⟨hf1, hf2, hf4⟩ : (lastD l q k).kept = List.replicate 6 noughts ∧ (lastD l q k).cut = false ∧ (lastD l q k).pend.length = k)
      clear hf1 hf2 hf3 hf4
      generalize l[k] = x at hc hxl HSU
      have hI : (k : Int) < (n : Int) := by omega
      have hI2 : (k : Int) < (l.length : Int) := by omega
      go_wp2_with fail
      refine (dk_full hD.out x hxl).mono ?_
      rintro e w4 ⟨rfl, h4, ho4⟩
      have H4 := Lib.hid h4
      clear h4 ho4 hD
      go_wp2_with fail
      refine (dk_write H4.out 0 rfl q (fullL x) (by rw [HF.out.1]; simp; omega) (fullL_length x) (by simp [D.power, HF.out.2.1]) (by have := HF.out.2.2; omega)).mono ?_
      rintro e w5 ⟨pv', rfl, h5, ho5⟩
      have H5 : Hid (Disks w w5 (fun _ => False) [⟨p, kb, pv', lastD l q (k + 1)⟩]) := Lib.hid (by rw [HSU.out]; exact h5)
      clear h5 ho5 H4
      go_wp2_with fail
      go_roundw
      case rel => exact ⟨k + 1, pv', by omega, by go_num, H5⟩
      case measure => simp [intOf] <;> omega
    · obtain rfl : k = n := by omega
      have hI : ¬ (k : Int) < (k : Int) := by omega
      go_wp2_with fail
      refine (dk_keep hD.out _ ns bo bc k (hn.only hD.out.only) hwn (by omega)).mono ?_
      rintro e w4 ⟨r, F, co, cc, rfl, h4, _, hr, hF, ho4⟩
      have hvv := hr.val
      rw [List.length_map] at hvv
      subst hvv
      have HR := Lib.hid hr
      obtain ⟨hf1, hf2, hf3⟩ := lastD_facts l q k hnl
      have hf4 : (lastD l q k).pend.length = k := by rw [hf3]; simp; omega
      have HF := Lib.hid (⟨hf1, hf2, hf4⟩ : (lastD l q k).kept = List.replicate 6 noughts ∧ (lastD l q k).cut = false ∧ (lastD l q k).pend.length = k)
      have HH := Lib.hid h4
      have hko := keepL_ok ns k
      have HOK : Hid (crashOk (lastD l q k).pend.length ((keepL ns k).map fun (x : Nat) => (x : Int))) := Lib.hid (by
        rw [hf4]
        refine ⟨fun x hx => ?_, ?_⟩
        · obtain ⟨y, hy, rfl⟩ := List.mem_map.1 hx
          have := hko.1 y hy
          omega
        · exact List.Pairwise.map _ (fun a b h => by omega) hko.2)
      have HMM : Hid (((keepL ns k).map fun (x : Nat) => (x : Int)).map Int.toNat = keepL ns k) := Lib.hid (by simp [List.map_map, Function.comp_def])
      have hml := keepL_length ns k
      clear hf1 hf2 hf3 hf4 h4 hD
      obtain ⟨z, hzz⟩ : ∃ z, z = noughts := ⟨_, rfl⟩
      have HE : Hid (fullL [] = z) := Lib.hid (by rw [hzz]; rfl)
      have HZ := Lib.hid hzz
      clear hzz
      by_cases hz : keepL ns k = []
      · have hl0 : ((keepL ns k).length : Int) = 0 := by rw [hz]; rfl
        have hl1 : ¬ (0 : Int) < ((keepL ns k).length : Int) := by omega
        have HT : Hid (((lastD l q k).crash (keepL ns k)).there q = z) := Lib.hid (by rw [hz, HZ.out]; exact none_holds l q k (by omega) hnl)
        clear hr hz
        go_wp2_with fail
        have hfu := dk_full HH.out [] (by decide)
        rw [HE.out] at hfu
        refine hfu.mono ?_
        rintro e w5 ⟨rfl, h5, ho5⟩
        clear hfu
        have HC := Lib.hid h5
        have HR := Lib.hid (HR.out.held ho5 hF)
        clear h5 HH ho5
        go_wp2_with fail
        refine (dk_crash HC.out 0 rfl _ _ _ _ HR.out HOK.out (by rw [HF.out.2.2]; omega)).mono ?_
        rintro e w7 ⟨rfl, h7, ho7⟩
        have H7 : Hid (Disks w w7 F [⟨p, kb, .slice none 0 0, (lastD l q k).crash (keepL ns k)⟩]) := Lib.hid (by rw [← HMM.out]; exact h7)
        clear h7 ho7 HC
        go_wp2_with fail
        have hrd := dk_read H7.out 0 rfl q (by simp only [D.crash, D.layAll_length, HF.out.1, List.length_replicate]; omega)
        rw [HT.out] at hrd
        refine hrd.mono ?_
        rintro e w8 ⟨rfl, h8, ho8⟩
        have H8 := Lib.hid h8
        clear h8 ho8 hrd
        go_wp2_with fail
        go_ret
        exact ⟨rfl, H8.out.only⟩
      · have hl1 : (0 : Int) < ((keepL ns k).length : Int) := by have := List.length_pos_iff.2 hz; omega
        obtain ⟨x, hx⟩ : ∃ x, x = (keepL ns k).getLast hz := ⟨_, rfl⟩
        have hxk : x < k := by rw [hx]; exact hko.1 _ (List.getLast_mem hz)
        have hxl0 : x < l.length := by omega
        have hgl : (keepL ns k)[(keepL ns k).length - 1]? = some x := by rw [hx, List.getLast_eq_getElem]; exact List.getElem?_eq_getElem (by omega)
        have HT : Hid (((lastD l q k).crash (keepL ns k)).there q = fullL (l[x]'hxl0)) := Lib.hid (by
          rw [last_holds l ns q k (by omega) hnl hz, ← hx]
          simp [List.getD_eq_getElem?_getD, List.getElem?_eq_getElem hxl0])
        have hxl := hwl _ (List.getElem_mem hxl0)
        clear hx hr hz
        go_wp2_with fail
        have hfu := dk_full HH.out [] (by decide)
        rw [HE.out] at hfu
        refine hfu.mono ?_
        rintro e w5 ⟨rfl, h5, ho5⟩
        clear hfu
        have HC := Lib.hid h5
        have hr := HR.out.held ho5 hF
        have HR := Lib.hid hr
        obtain ⟨gk, ok, hco, hck⟩ := hr.cell ((keepL ns k).length - 1) (x : Int) (by rw [List.getElem?_map, hgl]; rfl)
        subst hco
        obtain ⟨gl, ol, hao, hc⟩ := (hl.only h5.only).txt_at x hxl0
        subst hao
        clear h5 HH ho5 hr
        generalize l[x]'hxl0 = y at hc hxl HT
        generalize hmm : (keepL ns k).length = m at hck hl1 hml HR ⊢
        have hm1 : ((m : Int) - 1).toNat = m - 1 := by omega
        have hm2 : (m : Int) - 1 < (m : Int) := by omega
        have hm3 : 0 ≤ (m : Int) - 1 := by omega
        have hx1 : (x : Int) < (l.length : Int) := by omega
        clear hgl
        go_wp2_with fail
        have hfu := dk_full HC.out y hxl
        generalize fullL y = fy at hfu HT
        refine hfu.mono ?_
        rintro e w6 ⟨rfl, h6, ho6⟩
        clear hfu
        have HR := Lib.hid (HR.out.held ho6 hF)
        have HC := Lib.hid h6
        clear h6 ho6
        go_wp2_with fail
        refine (dk_crash HC.out 0 rfl _ _ _ _ HR.out HOK.out (by rw [HF.out.2.2]; omega)).mono ?_
        rintro e w7 ⟨rfl, h7, ho7⟩
        have H7 : Hid (Disks w w7 F [⟨p, kb, .slice none 0 0, (lastD l q k).crash (keepL ns k)⟩]) := Lib.hid (by rw [← HMM.out]; exact h7)
        clear h7 ho7 HC
        go_wp2_with fail
        have hrd := dk_read H7.out 0 rfl q (by simp only [D.crash, D.layAll_length, HF.out.1, List.length_replicate]; omega)
        rw [HT.out] at hrd
        refine hrd.mono ?_
        rintro e w8 ⟨rfl, h8, ho8⟩
        have H8 := Lib.hid h8
        clear h8 ho8 hrd
        go_wp2_with fail
        go_ret
        exact ⟨rfl, H8.out.only⟩

set_option maxRecDepth 100000 in
theorem diskLast_lifted (os : Os) (started : os.Started) (H : Type) (enc : TypeId × Value → H) :
    ReturnsInHanded {} Try.checked os 11 .any (Rows.diskLastSpec.pre6 enc Try.prog Try.f11 Rows.diskLastRow.domain false) (Rows.diskLastSpec.post enc Try.prog Try.f11 false true false false) := by
  refine returnsInHanded_of_change (C := Try.checked) Try.own started (by kernel_rfl) Try.func11
    (ChangeSpec.witness6 (enc := enc) (C := Try.checked) false ⟨#[], #[.slice none 0 0, .int .i64 0, .slice none 0 0], []⟩ 8 (by kernel_rfl) (by kernel_rfl) (by kernel_rfl) (by kernel_rfl)) ?_
  intro W base args ds gs before hval0 hW hcnd _
  have hval : ∀ (j : Nat) t v, Try.f11.params[j]? = some t → args[j]? = some v → Value.okWide Try.prog W .any base t v := hval0
  have hW' := hW
  obtain ⟨p, q, hA0, hV, rfl, hfz, hnd⟩ := hW
  have hA : DataW.TrodAll enc Try.prog W 0 (fun _ => true) true Try.f11.params.toList args.toList ds p := hA0
  rw [Try.params11] at hA hval
  obtain ⟨v0, vs0, d0, ds0, p0, q0, hargs, rfl, rfl, h0, r0⟩ := trodAll_cons hA
  obtain ⟨v1, vs1, d1, ds1, p1, q1, rfl, rfl, rfl, h1, r1⟩ := trodAll_cons r0
  obtain ⟨v2, vs2, d2, ds2, p2, q2, rfl, rfl, rfl, h2, r2⟩ := trodAll_cons r1
  obtain ⟨rfl, rfl, rfl⟩ := trodAll_nil r2
  obtain rfl : args = #[v0, v1, v2] := by cases args; simp_all
  obtain ⟨rfl, rfl⟩ := trodVars_none hV
  clear hA0 hval0
  obtain ⟨l, ao, ac, hl, hwl⟩ := law_texts Try.underlying38 Try.underlying9 (by kernel_rfl) (hval 0 38 v0 rfl rfl) h0
  obtain ⟨a, rfl, _, _, wa⟩ := open_int Try.underlying3 (hval 1 3 v1 rfl rfl) h1
  obtain ⟨ns, bo, bc, hn, hwn⟩ := law_ints Try.underlying49 Try.underlying3 (by kernel_rfl) (hval 2 49 v2 rfl rfl) h2
  refine (diskLast_walk W l a ns v0 v2 ao bo ac bc hl hwl (bounds_i64 wa) hn (fun x hx => bounds_i64 (hwn x hx))).mono fun e W' ⟨he, ho⟩ => ?_
  subst he
  exact ⟨_, rfl, law_post rfl hW' (by kernel_rfl) (of_decide_eq_true (by kernel_rfl)) rfl rfl rfl ho⟩
theorem diskLast_holds : Rows.DiskLastSaid :=
  OpenClaim.holds_of_wide 11 Try.f11 rfl rfl rfl rfl rfl rfl rfl ⟨rfl, rfl, rfl, rfl, rfl⟩ rfl rfl rfl rfl rfl (by kernel_rfl) Try.func11 (by kernel_rfl)
    (of_decide_eq_true (by kernel_rfl)) (by unfold Func.isWrapper; first | (rw [if_pos (by decide +kernel)]; kernel_rfl) | (rw [if_neg (by decide +kernel)]; exact ⟨rfl, rfl⟩))
    (fun os started H enc _ => diskLast_lifted os started H enc)
end Go.Proofs.Ytlgefjcfnnjkbaa
