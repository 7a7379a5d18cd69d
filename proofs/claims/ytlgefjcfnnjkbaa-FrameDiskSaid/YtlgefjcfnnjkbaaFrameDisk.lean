/- FrameDisk: batches that were written to a disk's sectors one behind the other, and synced, are joined again behind a power loss; of those that were written behind them a beginning is. No conditions. -/
import Derived.Test.YtlgefjcfnnjkbaaFD
import Derived.Test.YtlgefjcfnnjkbaaDM2
import Derived.Test.YtlgefjcfnnjkbaaOpen
import Derived.Test.YtlgefjcfnnjkbaaRows
namespace Go.Proofs.Ytlgefjcfnnjkbaa
open Go.ChangeShapes Go.WideShapes Go.ChangeAt Go.RowKit Go.Joins Go.Deep

/-- how far it is synced, behind k batches -/
def fdS (L : List (List UInt8)) (sure k : Nat) : Nat := if k ≤ sure then 0 else bLen (L.take sure)

set_option maxRecDepth 100000 in
set_option maxHeartbeats 16000000 in
theorem frameDisk_walk (w : World) (v vn : Value) (l : List (List UInt8)) (ma : Int) (ns : List Int) (ao no : Option Addr) (cap nc : Nat) (hv : SliceOf w v l.length (txts l) ao cap)
    (hl : ∀ x ∈ l, x.length ≤ maxLen) (hma : 0 ≤ ma ∧ ma ≤ 255) (hn : SliceOf w vn ns.length (ns.map (Value.int .i64)) no nc) (wn : ∀ x ∈ ns, I64 x) :
    Calls Try.prog 18 #[v, .int .u8 ma, vn] w fun e w' => e = .returned (.bool true) ∧ Only (fun _ => False) w w' := by
  have h0 := Disks.start w
  have hvv := hv.val
  subst hvv
  have hvv := hn.val
  subst hvv
  have hll := hv.len
  have hnl := hn.len
  obtain ⟨hma1, hma2⟩ := hma
  obtain ⟨N, hN⟩ : ∃ N, N = min 8 l.length := ⟨_, rfl⟩
  have hN8 : N ≤ 8 := by omega
  have hLlen := cutB_length l 150
  rw [← hN] at hLlen
  have hLs := cutB_small l 150
  have hLg := cutB_get l 150
  generalize cutB l 150 = L at hLlen hLs hLg
  obtain ⟨A, hA⟩ : ∃ A, A = batches 5 L := ⟨_, rfl⟩
  have hbL : bLen L ≤ 24 := by
    have := bLen_le L hLs L.length (Nat.le_refl _)
    rw [List.take_of_length_le (Nat.le_refl _)] at this
    omega
  have hbm : ∀ k, bLen (L.take k) ≤ bLen L := fun k => by
    have := bLen_mono L k (max k L.length) (by omega)
    rw [show L.take (max k L.length) = L from List.take_of_length_le (by omega)] at this
    exact this
  have hget : ∀ i, i < bLen L → (A.getD i noFr).right = true ∧ (A.getD i noFr).a = (i : Int) := fun i hi => by rw [hA]; exact batches_get 5 (by decide) L (by omega) i hi
  have hcutA : ∀ k, k < N → ∀ j, j < need (L.getD k []).length → (cutF 5 ((bLen (L.take k) : Nat) : Int) (L.getD k [])).getD j noFr = A.getD (bLen (L.take k) + j) noFr := fun k hk j hj => by
    have e1 := batches_succ 5 L k (by omega)
    have e2 : batches 5 L = batches 5 (L.take (k + 1)) ++ items 5 (0 + iLen ((L.take (k + 1)).map some)) ((L.drop (k + 1)).map some) := by
      unfold batches
      rw [← items_append, ← List.map_append, List.take_append_drop]
    have l1 := batches_length 5 (L.take k)
    have l2 := cutF_length 5 ((bLen (L.take k) : Nat) : Int) (L.getD k [])
    generalize L.getD k [] = s at e1 l2 hj ⊢
    rw [hA, e2, e1, List.append_assoc, List.getD_eq_getElem?_getD, List.getD_eq_getElem?_getD, List.getElem?_append_right (by omega), l1, Nat.add_sub_cancel_left, List.getElem?_append_left (by omega)]
  have hbs : ∀ k, k < N → bLen (L.take (k + 1)) = bLen (L.take k) + need (L.getD k []).length := fun k hk => bLen_succ L k (by omega)
  have htk : ∀ p, p ≤ bLen L → ∃ m, m ≤ N ∧ joinF (A.take p) = (L.take m, bLen (L.take m)) ∧ ∀ j, j ≤ N → bLen (L.take j) ≤ p → j ≤ m := fun p hp => by
    obtain ⟨m, h1, h2, h3, h4⟩ := batches_take 5 (by decide) L (by omega) p hp
    exact ⟨m, by omega, by rw [hA]; exact h2, fun j hj => h4 j (by omega)⟩
  have hAl : A.length = bLen L := by rw [hA]; exact batches_length 5 L
  obtain ⟨sure, hsure, hsN⟩ : ∃ s : Nat, s ≤ N ∧ (0 < l.length → ma % ((N : Int) + 1) = (s : Int)) ∧ (l.length = 0 → s = 0) := by
    refine ⟨if l.length = 0 then 0 else (ma % ((N : Int) + 1)).toNat, ?_, fun h => ?_, fun h => by rw [if_pos h]⟩
    · split
      · omega
      · have := Int.emod_lt_of_pos ma (show (0 : Int) < (N : Int) + 1 by omega)
        omega
    · rw [if_neg (by omega)]
      have := Int.emod_nonneg ma (show (N : Int) + 1 ≠ 0 by omega)
      omega
  obtain ⟨hs1, hs2⟩ := hsN
  have HN := Lib.hid hN
  have HLG := Lib.hid hLg
  have HLL := Lib.hid hLlen
  have HG := Lib.hid hget
  have HC := Lib.hid hcutA
  have HBS := Lib.hid hbs
  have HT := Lib.hid htk
  have HBM := Lib.hid hbm
  have HAL := Lib.hid hAl
  have HS1 := Lib.hid hs1
  have HS2 := Lib.hid hs2
  clear hN hLg hLlen hA hget hcutA htk hbs hbm hAl hs1 hs2
  go_enter Try.func18, Try.ntmps18
  go_wp2_with fail
  refine (examples_any _).mono ?_
  rintro e w1 ⟨rfl, ho1⟩
  have H1 := Lib.hid (h0.quiet ho1)
  clear ho1 h0
  go_wp2_with fail
  refine (dk_new H1.out 64 (by decide) (by decide)).mono ?_
  rintro e w2 ⟨p, kb, rfl, h2⟩
  have H2 : Hid (Disks w w2 (fun _ => False) [⟨p, kb, .slice none 0 0, D.new 64⟩]) := Lib.hid h2
  clear h2 H1
  go_upto_if 42 with fail
  go_cut [12] (fun s12 wx => s12 = .int .i64 (sure : Int) ∧ w2 = wx)
  case first =>
    rcases Nat.eq_zero_or_pos l.length with h0 | h0
    · have hq : (l.length : Int) ≤ 0 := by omega
      have hz := HS2.out h0
      subst hz
      clear h0
      go_wp2_with fail
      go_meet
      exact ⟨rfl, rfl⟩
    · have hq : (0 : Int) < (l.length : Int) := by omega
      have hsr := HS1.out h0
      clear h0
      rcases Nat.lt_or_ge l.length 8 with h8 | h8
      · have hI : (l.length : Int) < 8 := by omega
        have hNe : N = l.length := by have := HN.out; omega
        rw [hNe] at hsr
        clear hNe h8
        go_wp2_with fail
        go_meet
        exact ⟨congrArg (Value.int IntKind.i64) hsr, rfl⟩
      · have hNe : N = 8 := by have := HN.out; omega
        rw [hNe] at hsr
        have hsr' : ma % 9 = (sure : Int) := hsr
        clear hNe hsr
        rcases Nat.lt_or_ge 8 l.length with h9 | h9
        · have hI : (8 : Int) < (l.length : Int) := by omega
          go_wp2_with fail
          go_meet
          exact ⟨congrArg (Value.int IntKind.i64) hsr', rfl⟩
        · have hI : (l.length : Int) = 8 := by omega
          go_wp2_with fail
          go_meet
          exact ⟨congrArg (Value.int IntKind.i64) hsr', rfl⟩
  case rest =>
  obtain ⟨rfl, rfl⟩ := hcut
  have hlt2 : ∀ b, b < w2.heap.size → b < w2.heap.size := fun _ h => h
  have HW0 : Hid (w.heap.size ≤ w2.heap.size) := Lib.hid H2.out.only.size
  have H3 : Hid (Disks w w2 (fun b => False ∨ (Value.slice none 0 0).ownBlock = some b) [⟨p, kb, .slice none 0 0, D.new 64⟩]) := Lib.hid (H2.out.fewer (fun b hb => by rcases hb with h | h; exact h; cases h))
  clear hlt2
  go_wp2_with fail
  go_loopw [10, 11, 13] (fun wn at_ i wr => ∃ (k : Nat) (pv : Value) (d : D), k ≤ N ∧ i = .int .i64 k ∧ at_ = .int .i64 (bLen (L.take k) : Nat) ∧ Hid (wr.ownsRow w2.heap.size 9 1 wn k (txts (L.take k))) ∧
      Hid (FdD A (bLen (L.take k)) (fdS L sure k) d) ∧ Hid (Disks w wr (fun b => False ∨ wn.ownBlock = some b) [⟨p, kb, pv, d⟩]) ∧ Hid (w2.heap.size ≤ wr.heap.size)) (fun wn at_ i _ => N - (intOf i).toNat)
  case atStart => exact ⟨0, _, _, by omega, rfl, by simp [bLen, iLen], Lib.hid (World.ownsRow_nil _ _ _ _), Lib.hid (by have := FdD.new A; simpa [bLen, iLen, fdS] using this), H3, Lib.hid (Nat.le_refl _)⟩
  case round =>
    obtain ⟨k, pv, d, hk, rfl, rfl, HW, HD, HDK, HSZ⟩ := hrel
    by_cases hlt : k < N
    · have hkl : k < l.length := by have := HN.out; omega
      have hxl := hl _ (List.getElem_mem hkl)
      have hLk := HLG.out k hkl (by omega)
      have hsmall := hLs k
      have HBK := Lib.hid (HBS.out k hlt)
      have HCK := Lib.hid (HC.out k hlt)
      have HTK : Hid (L.take (k + 1) = L.take k ++ [L.getD k []]) := Lib.hid (by
        have := HLL.out
        rw [List.take_succ_eq_append_getElem (by omega)]
        simp [List.getD_eq_getElem?_getD, List.getElem?_eq_getElem (show k < L.length by omega)])
      have hb0 := HBM.out k
      have hb1 := HBM.out (k + 1)
      have hkI : (k : Int) < (l.length : Int) := by omega
      have hk8 : (k : Int) < 8 := by omega
      have hs0 : fdS L sure k ≤ bLen (L.take k) := by
        unfold fdS
        split
        · omega
        · exact bLen_mono L _ _ (by omega)
      -- the sync
      go_upto_if 62 with fail
      go_cut [8] (fun s8 wx => s8 = .pointer (some ⟨p, 0, none⟩) ∧ wx.ownsRow w2.heap.size 9 1 u10 k (txts (L.take k)) ∧ ∃ (pv : Value) (d : D), Hid (FdD A (bLen (L.take k)) (if k < sure then 0 else bLen (L.take sure)) d) ∧ Hid (Disks w wx (fun b => False ∨ u10.ownBlock = some b) [⟨p, kb, pv, d⟩]) ∧ Hid (w2.heap.size ≤ wx.heap.size))
      case first =>
        by_cases hks : k = sure
        · have hkI2 : ((k : Int) == (sure : Int)) = true := by simp [hks]
          have hpw : d.power = true := by simp [D.power, HD.out.cut]
          have HPW := Lib.hid hpw
          have HD2 : Hid (FdD A (bLen (L.take k)) (if k < sure then 0 else bLen (L.take sure)) d.sync) := Lib.hid (by
            rw [if_neg (by omega), ← hks]; exact HD.out.sync)
          clear hks hpw
          go_wp2_with fail
          refine (dk_sync HDK.out 0 rfl HPW.out).mono ?_
          rintro e x1 ⟨rfl, h, ho⟩
          have J1 : Hid (Disks w x1 (fun b => False ∨ u10.ownBlock = some b) [⟨p, kb, .slice none 0 0, d.sync⟩]) := Lib.hid h
          have HW1 := Lib.hid (ownsRow_only HW.out ho (fun b hb hn => hn (.inr hb)))
          have HSZ1 := Lib.hid (Nat.le_trans HSZ.out ho.size)
          clear h ho
          go_wp2_with fail
          go_meet
          exact ⟨rfl, HW1.out, _, _, HD2, J1, HSZ1⟩
        · have hkI2 : ((k : Int) == (sure : Int)) = false := by simp; omega
          have HD2 : Hid (FdD A (bLen (L.take k)) (if k < sure then 0 else bLen (L.take sure)) d) := Lib.hid (by
            have := HD.out
            unfold fdS at this
            by_cases h1 : k < sure
            · rw [if_pos h1]; rwa [if_pos (by omega)] at this
            · rw [if_neg h1]; rwa [if_neg (by omega)] at this)
          clear hks
          go_wp2_with fail
          go_meet
          exact ⟨rfl, HW.out, _, _, HD2, HDK, HSZ⟩
      case rest =>
      clear HW HD HDK hs0 HSZ
      obtain ⟨rfl, hw5, pv5, d5, HD5, HDK5, HSZ⟩ := hcut
      have HW5 := Lib.hid hw5
      clear hw5
      obtain ⟨S, hS⟩ : ∃ S, S = (if k < sure then 0 else bLen (L.take sure)) := ⟨_, rfl⟩
      have HSS : Hid (S = fdS L sure (k + 1)) := Lib.hid (by
        rw [hS]; unfold fdS
        by_cases h1 : k < sure
        · rw [if_pos h1, if_pos (by omega)]
        · rw [if_neg h1, if_neg (by omega)])
      have hSb : S ≤ bLen (L.take k) := by
        rw [hS]
        split
        · omega
        · exact bLen_mono L _ _ (by omega)
      rw [← hS] at HD5
      clear hS
      obtain ⟨gl, ol, rfl, hc⟩ := ((hv.only HDK5.out.only).only (Only.drew wc _)).txt_at k hkl
      have HV : Hid (SliceOf w (.slice (some ⟨gl, ol, none⟩) l.length cap) l.length (txts l) (some ⟨gl, ol, none⟩) cap) := Lib.hid hv
      generalize L.getD k [] = s at hLk hsmall HBK HCK HTK
      generalize l[k] = x at hc hxl hLk
      unfold maxLen at hxl
      have hzx := size_toArray x
      have hex : ∀ m : Nat, m = min x.length 150 → (⟨x.toArray⟩ : ByteArray).extract 0 m = ⟨s.toArray⟩ := by
        intro m hm
        rw [extract_list, List.drop_zero, hm, hLk]
        congr 2
        by_cases hh : x.length ≤ 150
        · rw [Nat.min_eq_left hh, List.take_of_length_le (Nat.le_refl _), List.take_of_length_le hh]
        · rw [Nat.min_eq_right (by omega)]
      clear hLk
      go_upto_region 15 with fail
      refine wp_region_pick (fun W => W = wc.drew) [(0, 0), (1, 0), (2, 0), (3, 1), (4, 0), (5, 0), (6, 0), (7, 1), (8, 0), (9, 0), (10, 0), (11, 0)] (by kernel_rfl) (by kernel_rfl) (fun _ _ d _ _ h => by cases d <;> exact h) rfl ?_
      simp only [pickOps, List.getElem?_cons_zero, List.getElem?_cons_succ]
      iterate 9 (first | (refine wpL_pure (a' := ?_) ?_ rfl (fun W => ?_) ?_ ?_; rotate_left 2; (· go_simp; first | (go_bits; with_reducible rfl) | with_reducible rfl); (· simp only [put_some, List.setIfInBounds_toArray, List.set_cons_zero, List.set_cons_succ]; rfl)) | (refine wpL_held (a' := ?_) ?_ rfl (fun W hW => ?_) ?_ ?_; rotate_left 2; (· subst hW; go_simp; first | (go_bits; with_reducible rfl) | with_reducible rfl); (· simp only [put_some, List.setIfInBounds_toArray, List.set_cons_zero, List.set_cons_succ]; rfl)))
      obtain ⟨m, hm⟩ : ∃ m, m = min x.length 150 := ⟨_, rfl⟩
      have hex' := hex m hm
      have hm1 : m ≤ x.length := by omega
      clear hex
      refine wpL_pure (a' := ?_) (.int .i64 (m : Int)) rfl (fun W => ?_) ?_ ?_; rotate_left 1
      · rcases Nat.lt_or_ge x.length 150 with hq | hq
        · have e1 : m = x.length := by omega
          rw [e1]
          clear hex' hm
          go_simp
          omega
        · have e1 : m = 150 := by omega
          rw [e1]
          clear hex' hm
          go_simp
          omega
      · simp only [put_some, List.setIfInBounds_toArray, List.set_cons_zero, List.set_cons_succ]; rfl
      clear hm
      iterate 2 (refine wpL_pure (a' := ?_) ?_ rfl (fun W => ?_) ?_ ?_; rotate_left 2; (· go_simp; first | (go_bits; with_reducible rfl) | with_reducible rfl); (· simp only [put_some, List.setIfInBounds_toArray, List.set_cons_zero, List.set_cons_succ]; rfl))
      refine wpL_nil ?_
      clear hex' hm1 hc hzx hxl
      have HW6 : Hid (wc.drew.ownsRow w2.heap.size 9 1 u10 k (txts (L.take k))) := Lib.hid (ownsRow_only HW5.out (Only.drew wc (fun _ => False)) (fun _ _ => id))
      have HDK6 := Lib.hid (HDK5.out.quiet (Only.drew wc _))
      have HSZ0 : Hid (w2.heap.size ≤ wc.drew.heap.size) := Lib.hid HSZ.out
      clear HW5 HDK5 HSZ
      generalize wc.drew = wx at HW6 HDK6 HSZ0 ⊢
      generalize hbk : bLen (L.take k) = b at HD5 HBK HCK hb0 hSb ⊢
      generalize hbk1 : bLen (L.take (k + 1)) = b1 at HBK hb1 ⊢
      have HBK1 := Lib.hid hbk1
      clear hbk hbk1
      have hn3 : need s.length ≤ 3 := by unfold need; omega
      have CK := Lib.hid (fun W => cut_ok W 5 (b : Int) s (by unfold maxLen; omega) (by decide) (by decide) (by omega) (by omega))
      have hcl := cutF_length 5 (b : Int) s
      generalize cutF 5 (b : Int) s = C at CK HCK hcl
      have hnp := need_pos s.length
      generalize need s.length = n at CK hn3 hcl hnp HCK HBK
      go_wp2_with fail
      refine (CK.out _).mono ?_
      rintro e W2 ⟨g, rfl, hg, hgle, ho2⟩
      have hglt := lt_of_block hg
      have HDK7 := Lib.hid (HDK6.out.freeze g ho2 hgle hglt)
      have HGB := Lib.hid hg
      have HW7 := Lib.hid (ownsRow_only HW6.out ho2 (fun _ _ => id))
      have HSZ1 := Lib.hid (Nat.le_trans HSZ0.out ho2.size)
      clear hg hgle ho2 hglt HW6 HDK6
      obtain ⟨F1, hF1⟩ : ∃ F1 : Nat → Prop, F1 = (fun x => (False ∨ u10.ownBlock = some x) ∨ x = g) := ⟨_, rfl⟩
      rw [← hF1] at HDK7
      have HF1 : Hid (F1 g ∧ ∀ x, u10.ownBlock = some x → F1 x) := Lib.hid (by rw [hF1]; exact ⟨.inr rfl, fun x hx => .inl (.inr hx)⟩)
      have HF2 : Hid (∀ x, (False ∨ u10.ownBlock = some x) → F1 x) := Lib.hid (by rw [hF1]; exact fun x hx => .inl hx)
      clear hF1
      go_wp2_with fail
      go_loopw [11, 17] (fun at_ i wy => ∃ (j : Nat) (pv : Value) (d : D), j ≤ n ∧ i = .int .i64 j ∧ at_ = .int .i64 (b + j : Nat) ∧ Hid (FdD A (b + j) S d) ∧ Hid (Disks w wy F1 [⟨p, kb, pv, d⟩]) ∧ Hid (Only (fun x => ¬ F1 x) W2 wy)) (fun _ i _ => n - (intOf i).toNat)
      case atStart => exact ⟨0, _, _, by omega, rfl, rfl, HD5, HDK7, Lib.hid (Only.refl _ _)⟩
      case round =>
        obtain ⟨j, pv, d, hj, rfl, rfl, HD, HDK, HOR⟩ := hrel
        clear HDK7 HD5
        by_cases hlt : j < n
        · have hI : (j : Int) < (n : Int) := by omega
          have hgk := HOR.out.keep HGB.out (fun hn => hn HF1.out.1)
          have hsC : SliceOf wr (.slice (some ⟨g, 0, none⟩) C.length C.length) C.length (frs C) (some ⟨g, 0, none⟩) C.length := sliceOf_block hgk (by omega) C.length
          obtain ⟨gf, of, he, hcf⟩ := hsC.fr_at j (by omega)
          cases he
          rw [Nat.zero_add] at hcf
          have hbj : b + j < bLen L := by have := HBK.out; omega
          have hck := HCK.out j hlt
          have hge : C.getD j noFr = C[j] := by rw [List.getD_eq_getElem?_getD, List.getElem?_eq_getElem (by omega)]; rfl
          rw [hge] at hck
          have hfr := (HG.out (b + j) hbj).1
          rw [← hck] at hfr
          have HD2 := HD.out.write (show b + j < 64 by omega) (by omega)
          rw [← hck] at HD2
          have HD3 := Lib.hid HD2
          generalize C[j] = f at hcf hck hfr HD3
          have HCC := Lib.hid hcf
          have HFR := Lib.hid hfr
          have HPW := Lib.hid (⟨HD.out.len, HD.out.few, by simp [D.power, HD.out.cut]⟩ : d.kept.length = 64 ∧ d.pend.length ≤ b + j ∧ d.power = true)
          clear hgk hsC hge hck hcf hfr HD2 HD
          go_wp2_with ((with_reducible refine wpList_load_part g (j * 4) [.int .i64 f.e, .int .i64 f.a, .int .i64 f.k, .string ⟨f.s.toArray⟩] ?_ ?_ ?_ ?_ ?_); (· exact ⟨_, Try.underlying23, rfl⟩); (· exact Try.size23); (· exact HCC.out); (· rfl))
          refine (dk_lay HDK.out f HFR.out).mono ?_
          rintro e x1 ⟨rfl, h, ho⟩
          have J1 := Lib.hid h
          have HO1 := Lib.hid (HOR.out.trans ho)
          clear h ho HDK HOR
          go_wp2_with fail
          refine (dk_write J1.out 0 rfl (b + j) f.lay (by rw [HPW.out.1]; omega) (Fr.lay_length HFR.out) HPW.out.2.2 (by have := HPW.out.2.1; omega)).mono ?_
          rintro e x2 ⟨pv', rfl, h, ho⟩
          have J2 : Hid (Disks w x2 F1 [⟨p, kb, pv', d.write (b + j) f.lay⟩]) := Lib.hid h
          have HO2 := Lib.hid (HO1.out.trans ho)
          clear h ho J1 HO1
          go_wp2_with fail
          go_roundw
          case rel => exact ⟨j + 1, pv', _, by omega, by go_num, by go_num, HD3, J2, HO2⟩
          case measure => simp [intOf] <;> omega
        · obtain rfl : j = n := by omega
          have HWr := ownsRow_only HW7.out HOR.out (fun x hx hn => hn (HF1.out.2 x hx))
          have HSZ2 : w2.heap.size ≤ wr.heap.size := Nat.le_trans HSZ1.out HOR.out.size
          obtain ⟨v6, w6, hrun6, hown6, ho6, hfr6⟩ := append_one_row2 (P := Try.prog) wr w2.heap.size 38 38 9 _ 1 16 Try.underlying38 Try.info9 rfl (by decide) u10 k _ HWr (txts [s]) rfl (txts_one _) (by omega) (by decide) HSZ2
          rw [← txts_append] at hown6
          have HRUN6 := Lib.hid hrun6
          have J6 := Lib.hid ((HDK.out.fewer HF2.out).row ho6 (fun x hx => Nat.le_trans HW0.out (HWr.lt x hx).1) (fun x hx => ⟨hfr6 x hx, (hown6.lt x hx).2⟩))
          have HW8 := Lib.hid hown6
          have HSZ3 := Lib.hid (Nat.le_trans HSZ2 ho6.size)
          clear hrun6 hown6 ho6 hfr6 HWr HSZ2 HDK HOR
          rw [txts_cells] at HRUN6
          go_wp2_with ((with_reducible refine wpList_append_run u10 (.slice (some ⟨wr.heap.size, 0, none⟩) 1 1) v6 HRUN6.out ?_ ?_ ?_); (· rfl); (· rfl))
          go_roundw
          case rel => exact ⟨k + 1, _, _, by omega, by go_num, by rw [HBK1.out, HBK.out]; go_num, by rw [HTK.out]; exact HW8, by rw [HBK1.out, HBK.out, ← HSS.out]; exact HD, J6, HSZ3⟩
          case measure => simp [intOf] <;> omega
    · obtain rfl : k = N := by omega
      have hLt : L.take k = L := List.take_of_length_le (by rw [HLL.out]; omega)
      rw [hLt] at HW HD ⊢
      clear hLt
      obtain ⟨wa, wc, hsw⟩ := sliceOf_own HW.out
      have hwv := hsw.val
      subst hwv
      have hcW := own_cap HW.out
      have SW := Lib.hid hsw
      obtain ⟨F, hF⟩ : ∃ F : Nat → Prop, F = (fun b => False ∨ (Value.slice wa k wc).ownBlock = some b) := ⟨_, rfl⟩
      rw [← hF] at HDK
      have HFW : Hid (∀ b o, wa = some ⟨b, o, none⟩ → F b) := Lib.hid (fun b o e => by rw [hF]; exact .inr (own_at HW.out b o e))
      obtain ⟨w9, hw9⟩ : ∃ w9, w9 = wr := ⟨_, rfl⟩
      subst hw9
      clear hF hsw HW H2 H3 HSZ
      go_upto_region 11 with fail
      go_cut [57] from 50 to 57 (fun s57 wx => s57 = .bool false ∧ w9 = wx)
      case first =>
        rcases Nat.lt_or_ge l.length 8 with h8 | h8
        · have hq : (l.length : Int) ≤ (k : Int) := by have := HN.out; omega
          go_wp2_with fail
          go_meet
          exact ⟨rfl, rfl⟩
        · have hq : (8 : Int) ≤ (k : Int) := by have := HN.out; omega
          by_cases hq2 : (k : Int) < (l.length : Int)
          · go_wp2_with fail
            go_meet
            exact ⟨congrArg Value.bool (decide_eq_false (by omega)), rfl⟩
          · have hq3 : (l.length : Int) ≤ (k : Int) := by omega
            clear hq2
            go_wp2_with fail
            go_meet
            exact ⟨rfl, rfl⟩
      case rest =>
      obtain ⟨rfl, rfl⟩ := hcut
      go_upto_if 112 with fail
      go_cut [8] (fun s8 wx => s8 = .pointer (some ⟨p, 0, none⟩) ∧ Hid (Only (fun x => ¬ F x) w9 wx) ∧ ∃ (pv : Value) (d : D), Hid (FdD A (bLen L) (bLen (L.take sure)) d) ∧ Hid (Disks w wx F [⟨p, kb, pv, d⟩]))
      case first =>
        rcases Nat.lt_or_ge sure k with hsk | hsk
        · have hI : (sure : Int) < (k : Int) := by omega
          have HD2 : Hid (FdD A (bLen L) (bLen (L.take sure)) d) := Lib.hid (by
            have := HD.out
            unfold fdS at this
            rwa [if_neg (by omega)] at this)
          go_wp2_with fail
          go_meet
          exact ⟨rfl, Lib.hid (Only.refl _ _), _, _, HD2, HDK⟩
        · have hI : (k : Int) ≤ (sure : Int) := by omega
          have HD2 : Hid (FdD A (bLen L) (bLen (L.take sure)) d.sync) := Lib.hid (by
            rw [show L.take sure = L from List.take_of_length_le (by rw [HLL.out]; omega)]
            exact HD.out.sync)
          have HPW := Lib.hid (show d.power = true by simp [D.power, HD.out.cut])
          go_wp2_with fail
          refine (dk_sync HDK.out 0 rfl HPW.out).mono ?_
          rintro e x1 ⟨rfl, h, ho⟩
          have J1 : Hid (Disks w x1 F [⟨p, kb, .slice none 0 0, d.sync⟩]) := Lib.hid h
          have HO1 := Lib.hid ho
          clear h ho
          go_wp2_with fail
          go_meet
          exact ⟨rfl, HO1, _, _, HD2, J1⟩
      case rest =>
      clear HD HDK
      obtain ⟨rfl, HO1, pv, d, HD, HDK⟩ := hcut
      have SW1 := Lib.hid (SW.out.held HO1.out HFW.out)
      clear SW HO1
      obtain ⟨q, hq⟩ : ∃ q, q = d.pend.length := ⟨_, rfl⟩
      have hq24 : q ≤ 24 := by have := HD.out.few; omega
      have HQ := Lib.hid hq
      have PE := Lib.hid (fun W (h : Disks w W F [⟨p, kb, pv, d⟩]) => pending_any W p kb pv d (h.at_ 0 _ rfl))
      rw [← hq] at PE
      clear hq
      have E := Lib.hid (usedCells_new q)
      go_wp2_with fail
      refine (PE.out _ HDK.out).mono ?_
      rintro e x1 ⟨rfl, rfl⟩
      have HNS : Hid (∀ W, Only (fun _ => False) w W → SliceOf W (.slice no ns.length nc) ns.length (ns.map (Value.int .i64)) no nc) := Lib.hid (fun W ho => hn.only ho)
      clear hn
      obtain ⟨wB, hwB⟩ : ∃ wB, wB = wc := ⟨_, rfl⟩
      subst hwB
      go_wp2_with (at_make; refine wpList_make_any (n := q) rfl _ _ 78 rfl 4 (.bool false) 1 1 Try.underlying78 Try.info4 rfl rfl (by omega) (by unfold maxLen; omega) ?_; rw [E.out])
      have HM := Lib.hid (heap_alloc_new wB (.cells (usedCells q []).toArray 4))
      have HO := Lib.hid (Only.alloc wB (.cells (usedCells q []).toArray 4) (fun _ => False))
      clear E
      go_loopw [21, 22] (fun o i wr => ∃ j : Nat, j ≤ ns.length ∧ (q = 0 → j = 0) ∧ i = .int .i64 j ∧ Hid (wr.heap[wB.heap.size]? = some (.cells (usedCells q (keepTo ns q j)).toArray 4 (0, 0))) ∧
          Hid (wr.ownsRow (wB.heap.size + 1) 3 1 o (keepTo ns q j).length (natCells (keepTo ns q j))) ∧ Hid (Only (fun _ => False) wB wr)) (fun o i _ => ns.length - (intOf i).toNat)
      case atStart => exact ⟨0, by omega, fun _ => rfl, rfl, HM, Lib.hid (World.ownsRow_nil _ _ _ _), HO⟩
      case round =>
        obtain ⟨j, hjl, hj0, rfl, hrow, HR, HOR⟩ := hrel
        clear HM HO
        by_cases hgo : j < ns.length ∧ 0 < q
        · obtain ⟨h1, h3⟩ := hgo
          obtain ⟨gl, ol, rfl, hc⟩ := (HNS.out _ (HDK.out.quiet HOR.out).only).cell j (.int .i64 ns[j]) (by rw [List.getElem?_map, List.getElem?_eq_getElem h1]; rfl)
          have PK := Lib.hid (fun W => pick12_any W ns[j] q (wn _ (List.getElem_mem h1)) (by omega) (by omega))
          have hp := pickI_lt ns[j] q (by omega)
          have HSU := Lib.hid (keepTo_succ ns q j h1)
          unfold keepStep at HSU
          have hok := keepTo_ok ns h3 j hjl
          have hlen := nodup_le q _ hok.2 hok.1
          obtain ⟨z, hz⟩ : ∃ z : Nat, (z : Int) = pickI ns[j] q := ⟨(pickI ns[j] q).toNat, by omega⟩
          rw [← hz] at PK hp HSU
          rw [Int.toNat_natCast] at HSU
          clear hz hok hj0
          generalize ns[j] = x at hc PK
          obtain ⟨hp1, hp2⟩ := hp
          have hqn : z < q := by omega
          have hget := cell_at hrow.out z
          rw [usedCells_get q _ z hqn] at hget
          have hI1 : (j : Int) < (ns.length : Int) := by omega
          have hI3 : (0 : Int) < (q : Int) := by omega
          by_cases hmem : z ∈ keepTo ns q j
          · rw [if_pos hmem] at HSU
            rw [decide_eq_true hmem] at hget
            clear hmem
            go_wp2_with (go_at_call 22; refine (PK.out _).mono ?_; rintro e w1 ⟨rfl, rfl⟩)
            go_roundw
            case rel => exact ⟨j + 1, by omega, fun h => by omega, by go_num, by rw [HSU.out]; exact hrow, by rw [HSU.out]; exact HR, HOR⟩
            case measure => simp [intOf] <;> omega
          · rw [if_neg hmem] at HSU
            rw [decide_eq_false hmem] at hget
            clear hmem
            have hfr := free_at hrow.out z
            have hset := heap_setCell_same wr wB.heap.size z _ _ (.bool true) hrow.out
            rw [usedCells_set] at hset
            have ho1 := Only.one wr wB.heap.size z (.bool true)
            have hr1 := ownsRow_only HR.out ho1 (fun b hb e => by have := (HR.out.lt b hb).1; omega)
            have hor1 := HOR.out.trans' ho1 (fun y hy e => by omega)
            have hwr : wB.heap.size < wr.heap.size := World.block_lt_of_cell? _ _ hget
            obtain ⟨v', w5, hrun5, hown5, ho5⟩ := append_one_row (P := Try.prog) (wr.setCell ⟨wB.heap.size, z, none⟩ (.bool true)) (wB.heap.size + 1) 49 49 3 _ 1 8 Try.underlying49 Try.info3 rfl (by decide) u21 _ _ hr1 [.int .i64 (z : Int)] rfl (by simp [Value.oneCell']) (by omega) (by decide) (by simp; omega)
            rw [World.size_setCell] at hrun5
            have HRUN := Lib.hid hrun5
            have HOWN := Lib.hid hown5
            have HSET : Hid (w5.heap[wB.heap.size]? = some (.cells (usedCells q (keepTo ns q j ++ [z])).toArray 4 (0, 0))) := Lib.hid (ho5.keep hset (fun e => by have := (hr1.lt _ e).1; omega))
            have HO5 := Lib.hid (hor1.trans' ho5 (fun y hy e => row_own_new hr1 (by omega) e))
            clear hset ho1 hr1 hor1 hrun5 hown5 ho5
            go_wp2_with (first
              | (go_at_call 22; refine (PK.out _).mono ?_; rintro e w1 ⟨rfl, rfl⟩)
              | ((with_reducible refine wpList_append_run u21 (.slice (some ⟨wr.heap.size, 0, none⟩) 1 1) v' HRUN.out ?_ ?_ ?_); (· rfl); (· rfl)))
            go_roundw
            case rel => exact ⟨j + 1, by omega, fun h => by omega, by go_num, by rw [HSU.out]; exact HSET, Lib.hid (by rw [HSU.out, natCells_append, List.length_append]; exact HOWN.out), HO5⟩
            case measure => simp [intOf] <;> omega
        · have hko : (∀ x ∈ keepTo ns q j, x < q) ∧ (keepTo ns q j).Nodup := by
            by_cases hq0 : q = 0
            · rw [hj0 hq0]; simp [keepTo]
            · exact keepTo_ok ns (by omega) j hjl
          have hsp : (ns.length : Int) ≤ (j : Int) ∨ ((j : Int) < (ns.length : Int) ∧ (q : Int) ≤ 0) := by omega
          have hlen := nodup_le q _ hko.2 hko.1
          generalize keepTo ns q j = Kp at HR hko hlen
          obtain ⟨ko, kc, hki, _⟩ := nats_own HR.out (by omega) (fun x hx => by have := hko.1 x hx; omega)
          have hvv := hki.val
          rw [List.length_map] at hvv
          subst hvv
          have HKI := Lib.hid hki
          have HOK : Hid (crashOk d.pend.length (Kp.map fun (x : Nat) => (x : Int))) := Lib.hid (by rw [← HQ.out]; exact crashOk_nats q _ hko)
          have HDJ := Lib.hid (HDK.out.quiet HOR.out)
          have SWJ := Lib.hid (SW1.out.only HOR.out)
          have hs64 : bLen (L.take sure) ≤ bLen L := HBM.out sure
          have hcr := HD.out.crash hs64 Kp (by rw [← HQ.out]; exact hko.1)
          have hcl : (d.crash Kp).kept.length = 64 := by rw [D.crash_len]; exact HD.out.len
          have HCR := Lib.hid hcr
          have HCL := Lib.hid hcl
          have HPL : Hid (d.pend.length ≤ 1000000) := Lib.hid (by rw [← HQ.out]; omega)
          clear hgo hj0 hko hki hcr hcl hrow HR SW1 HOR hlen
          obtain ⟨wK, hwK⟩ : ∃ wK, wK = wr := ⟨_, rfl⟩
          subst hwK
          go_upto_region 32 with fail
          go_cut [126] from 118 to 126 (fun s126 wx => s126 = .bool false ∧ wK = wx)
          case first =>
            rcases hsp with h | ⟨h, h'⟩
            all_goals
              go_wp2_with fail
              go_meet
              first | exact ⟨rfl, rfl⟩ | exact ⟨congrArg Value.bool (decide_eq_false (by omega)), rfl⟩
          case rest =>
          obtain ⟨rfl, rfl⟩ := hcut
          go_wp2_with fail
          refine (dk_crash HDJ.out 0 rfl _ _ _ _ HKI.out HOK.out HPL.out).mono ?_
          rintro e x2 ⟨rfl, h, ho⟩
          have h' : Disks w x2 F [⟨p, kb, .slice none 0 0, d.crash Kp⟩] := by rw [← nats_back Kp]; exact h
          have SWK := Lib.hid (SWJ.out.held ho HFW.out)
          have HHD := HD.out.cut
          clear h ho HDJ HKI HOK HPL SWJ HHD HDK
          generalize d.crash Kp = Y at h' HCR HCL
          have J2 := Lib.hid h'
          clear h'
          obtain ⟨wY, hwY⟩ : ∃ wY, wY = x2 := ⟨_, rfl⟩
          subst hwY
          go_wp2_with fail
          go_loopw [25, 26] (fun o i wr => ∃ z : Nat, z ≤ bLen L ∧ i = .int .i64 z ∧ Hid (wr.ownsRow wY.heap.size 23 4 o z (frs (A.take z))) ∧ Hid (Only (fun _ => False) wY wr)) (fun o i _ => 64 - (intOf i).toNat)
          case atStart => exact ⟨0, by omega, rfl, Lib.hid (World.ownsRow_nil _ _ _ _), Lib.hid (Only.refl _ _)⟩
          case round =>
            obtain ⟨z, hz, rfl, HR, HOR⟩ := hrel
            have hz64 : z < 64 := by omega
            have hI : (z : Int) < 64 := by omega
            have HDR := Lib.hid (J2.out.quiet HOR.out)
            have hrd := read_has wr p kb (.slice none 0 0) Y z (HDR.out.at_ 0 _ rfl) (by rw [HCL.out]; omega)
            have hTl := D.there_len (HDR.out.at_ 0 _ rfl).ok (k := z) (by rw [HCL.out]; omega)
            have hcr := HCR.out z hz64
            generalize Y.there z = T at hrd hTl hcr
            clear HDR
            go_wp2_with fail
            rcases hcr with ⟨hza, hcr⟩ | ⟨hzs, hcr⟩
            · have hgg := HG.out z hza
              have hr : readF T = some (A.getD z noFr) := by rw [hcr]; exact readF_lay hgg.1
              have hjl : z < A.length := by rw [HAL.out]; exact hza
              have hge : A.getD z noFr = A[z] := by rw [List.getD_eq_getElem?_getD, List.getElem?_eq_getElem hjl]; rfl
              have HTK : Hid (frs (A.take (z + 1)) = frs (A.take z) ++ A[z].cells) := Lib.hid (by rw [List.take_succ_eq_append_getElem hjl, frs_append, frs_one])
              rw [hge] at hr hgg
              clear hge hcr
              generalize A[z] = f at hr hgg HTK
              have hfb : (f.a != (z : Int)) = false := by simp [hgg.2]
              refine hrd.mono ?_
              rintro e x3 ⟨rfl, ho⟩
              have HO3 := Lib.hid (HOR.out.trans ho)
              have HR3 := Lib.hid (ownsRow_only HR.out ho (fun _ _ => id))
              clear hrd ho HOR HR hgg
              have hrf := Lib.hid (read_any x3 T (by unfold maxLen; omega))
              rw [readV_some hr] at hrf
              unfold Fr.val at hrf
              clear hr
              go_wp2_with fail
              refine hrf.out.mono ?_
              rintro e x4 ⟨rfl, ho⟩
              have HO4 := Lib.hid (HO3.out.trans ho)
              have HR4 := Lib.hid (ownsRow_only HR3.out ho (fun _ _ => id))
              clear ho hrf HO3 HR3
              have hr5 : (x4.alloc (.cells #[.int .i64 f.e, .int .i64 f.a, .int .i64 f.k, .string ⟨f.s.toArray⟩] 23)).ownsRow wY.heap.size 23 4 u25 z (frs (A.take z)) := HR4.out.alloc _
              have hs5 : wY.heap.size ≤ (x4.alloc (.cells #[.int .i64 f.e, .int .i64 f.a, .int .i64 f.k, .string ⟨f.s.toArray⟩] 23)).heap.size := by rw [World.size_alloc]; have := HO4.out.size; omega
              obtain ⟨v6, w6, hrun6, hown6, ho6⟩ := append_one_row (P := Try.prog) (x4.alloc (.cells #[.int .i64 f.e, .int .i64 f.a, .int .i64 f.k, .string ⟨f.s.toArray⟩] 23)) wY.heap.size 35 35 23 _ 4 40 Try.underlying35 Try.info23 rfl (by decide) u25 z _ hr5 f.cells rfl (cells_one f) (by omega) (by decide) hs5
              rw [World.size_alloc] at hrun6
              unfold Fr.cells at hrun6
              have HRUN6 := Lib.hid hrun6
              have HOWN6 := Lib.hid hown6
              have HO6 := Lib.hid ((HO4.out.trans (Only.alloc _ _ _)).trans' ho6 (fun y hy e => row_own_new hr5 hy e))
              clear hrun6 hown6 ho6 hr5 hs5 HR4 HO4
              go_wp2_with ((with_reducible refine wpList_append_run u25 (.slice (some ⟨x4.heap.size + 1, 0, none⟩) 1 1) v6 HRUN6.out ?_ ?_ ?_); (· rfl); (· rfl))
              go_roundw
              case rel => exact ⟨z + 1, by omega, by go_num, Lib.hid (by rw [HTK.out]; exact HOWN6.out), HO6⟩
              case measure => simp [intOf] <;> omega
            · have hr : readF T = none := by rw [hcr]; exact noughts_none
              refine hrd.mono ?_
              rintro e x3 ⟨rfl, ho⟩
              have HO3 := Lib.hid (HOR.out.trans ho)
              have HR3 := Lib.hid (ownsRow_only HR.out ho (fun _ _ => id))
              clear hrd ho HOR HR
              have hrf := Lib.hid (read_any x3 T (by unfold maxLen; omega))
              rw [readV_none hr] at hrf
              unfold Fr.val noFr at hrf
              simp only at hrf
              clear hr hcr
              go_wp2_with fail
              refine hrf.out.mono ?_
              rintro e x4 ⟨rfl, ho⟩
              have HO4 := Lib.hid (HO3.out.trans ho)
              have HR4 := Lib.hid (ownsRow_only HR3.out ho (fun _ _ => id))
              clear ho hrf HO3 HR3
              obtain ⟨fo, fc, hsf⟩ := sliceOf_own HR4.out
              have hvv := hsf.val
              subst hvv
              obtain ⟨m, hmk, hjn, hmm⟩ := HT.out z hz
              have hms := hmm sure hsure hzs
              have hAl := HAL.out
              have hLz : (A.take z).length = z := by rw [List.length_take]; omega
              have hwf : ∀ f ∈ A.take z, f.s.length ≤ maxLen := fun f hf => by
                obtain ⟨i, hi, rfl⟩ := List.getElem_of_mem (List.mem_of_mem_take hf)
                have h1 := (HG.out i (by omega)).1
                rw [List.getD_eq_getElem?_getD, List.getElem?_eq_getElem hi] at h1
                have := ((Fr.right_iff _).1 h1).2.2.2.2.2.2
                simp only [Option.getD_some] at this
                unfold maxLen; omega
              have HFR := Lib.hid (fun W (hS : SliceOf W (.slice fo z fc) z (frs (A.take z)) fo fc) => join_any W (.slice fo z fc) (A.take z) fo fc (by rw [hLz]; exact hS) hwf (by omega))
              rw [hjn] at HFR
              simp only at HFR
              generalize bLen (L.take m) = bq at HFR
              have hLT : (L.take m).length = m := by rw [List.length_take, HLL.out]; omega
              have hmI : (m : Int) ≤ (k : Int) := by omega
              have hmS : (sure : Int) ≤ (m : Int) := by omega
              have hmW : (m : Int) ≤ (wc : Int) := by omega
              have SWJ := Lib.hid ((SWK.out.only HO4.out).only (Only.alloc x4 (.cells #[.int .i64 0, .int .i64 0, .int .i64 0, .string ⟨#[]⟩] 23) _))
              have SFJ := Lib.hid (hsf.only (Only.alloc x4 (.cells #[.int .i64 0, .int .i64 0, .int .i64 0, .string ⟨#[]⟩] 23) _))
              have JJ := Lib.hid ((J2.out.quiet HO4.out).quiet (Only.alloc x4 (.cells #[.int .i64 0, .int .i64 0, .int .i64 0, .string ⟨#[]⟩] 23) _))
              clear hjn hwf hAl hLz hmm hsf HR4 HO4 J2 SWK hzs
              go_wp2_with fail
              refine (HFR.out _ SFJ.out).mono ?_
              rintro e W4 ⟨r4, rfl, or4, o4⟩
              rw [hLT] at or4
              obtain ⟨rb, rbc, hsb⟩ := sliceOf_own or4
              have hrv := hsb.val
              subst hrv
              have SB := Lib.hid hsb
              have hfw := (SWJ.out.only o4).front (m := m) (size := 1) hmk wc
              have hft : (txts L).take (m * 1) = txts (L.take m) := by rw [Nat.mul_one, txts, ← List.map_take]; rfl
              rw [hft] at hfw
              have SF := Lib.hid hfw
              have TY := Lib.hid (fun W h1 h2 => sameTexts_any W (.slice rb m rbc) (.slice wa m wc) (L.take m) (L.take m) rb wa rbc wc (by rw [hLT]; exact h1) (by rw [hLT]; exact h2))
              have HEND := Lib.hid (JJ.out.quiet o4)
              clear hsb or4 hfw hft o4 hLT JJ SWJ SFJ HFR
              rcases Nat.lt_or_ge m k with hlk | hlk
              · have hI2 : (m : Int) < (k : Int) := by omega
                go_wp2_with fail
                refine (TY.out _ SB.out SF.out).mono ?_
                rintro e W5 ⟨rfl, o5⟩
                have HE5 := Lib.hid (HEND.out.quiet o5)
                clear o5
                go_wp2_with fail
                go_ret
                exact ⟨rfl, HE5.out.only⟩
              · obtain rfl : m = k := by omega
                go_wp2_with fail
                refine (TY.out _ SB.out SF.out).mono ?_
                rintro e W5 ⟨rfl, o5⟩
                have HE5 := Lib.hid (HEND.out.quiet o5)
                clear o5
                go_wp2_with fail
                go_ret
                exact ⟨rfl, HE5.out.only⟩

set_option maxRecDepth 100000 in
theorem frameDisk_lifted (os : Os) (started : os.Started) (H : Type) (enc : TypeId × Value → H) :
    ReturnsInHanded {} Try.checked os 18 .any (Rows.frameDiskSpec.pre6 enc Try.prog Try.f18 Rows.frameDiskRow.domain false) (Rows.frameDiskSpec.post enc Try.prog Try.f18 false true false false) := by
  refine returnsInHanded_of_change (C := Try.checked) Try.own started (by kernel_rfl) Try.func18
    (ChangeSpec.witness6 (enc := enc) (C := Try.checked) false ⟨#[], #[.slice none 0 0, .int .u8 0, .slice none 0 0], []⟩ 8 (by kernel_rfl) (by kernel_rfl) (by kernel_rfl) (by kernel_rfl)) ?_
  intro W base args ds gs before hval0 hW hcnd _
  have hval : ∀ (j : Nat) t v, Try.f18.params[j]? = some t → args[j]? = some v → Value.okWide Try.prog W .any base t v := hval0
  have hW' := hW
  obtain ⟨p, q, hA0, hV, rfl, hfz, hnd⟩ := hW
  have hA : DataW.TrodAll enc Try.prog W 0 (fun _ => true) true Try.f18.params.toList args.toList ds p := hA0
  rw [Try.params18] at hA hval
  obtain ⟨v0, vs0, d0, ds0, p0, q0, hargs, rfl, rfl, h0, r0⟩ := trodAll_cons hA
  obtain ⟨v1, vs1, d1, ds1, p1, q1, rfl, rfl, rfl, h1, r1⟩ := trodAll_cons r0
  obtain ⟨v2, vs2, d2, ds2, p2, q2, rfl, rfl, rfl, h2, r2⟩ := trodAll_cons r1
  obtain ⟨rfl, rfl, rfl⟩ := trodAll_nil r2
  obtain rfl : args = #[v0, v1, v2] := by cases args; simp_all
  obtain ⟨rfl, rfl⟩ := trodVars_none hV
  clear hA0 hval0
  obtain ⟨l, ao, cap, hl, wl⟩ := law_texts Try.underlying38 Try.underlying9 (by kernel_rfl) (hval 0 38 v0 rfl rfl) h0
  obtain ⟨a, rfl, _, _, wa⟩ := open_int Try.underlying5 (hval 1 5 v1 rfl rfl) h1
  obtain ⟨ns, no, nc, hn, wn⟩ := law_ints Try.underlying49 Try.underlying3 (by kernel_rfl) (hval 2 49 v2 rfl rfl) h2
  refine (frameDisk_walk W v0 v2 l a ns ao no cap nc hl wl (bounds_u8 wa) hn (fun x hx => bounds_i64 (wn x hx))).mono fun e W' ⟨he, ho⟩ => ?_
  subst he
  exact ⟨_, rfl, law_post rfl hW' (by kernel_rfl) (of_decide_eq_true (by kernel_rfl)) rfl rfl rfl ho⟩
theorem frameDisk_holds : Rows.FrameDiskSaid :=
  OpenClaim.holds_of_wide 18 Try.f18 rfl rfl rfl rfl rfl rfl rfl ⟨rfl, rfl, rfl, rfl, rfl⟩ rfl rfl rfl rfl rfl (by kernel_rfl) Try.func18 (by kernel_rfl)
    (of_decide_eq_true (by kernel_rfl)) (by unfold Func.isWrapper; first | (rw [if_pos (by decide +kernel)]; kernel_rfl) | (rw [if_neg (by decide +kernel)]; exact ⟨rfl, rfl⟩))
    (fun os started H enc _ => frameDisk_lifted os started H enc)
end Go.Proofs.Ytlgefjcfnnjkbaa
