/- Parts of the proof, one behind the other: LogCi, LogCh. Each part's own words say what it proves; no conditions. -/
import Derived.Test.YtlgefjcfnnjkbaaDoorP01
import Derived.Test.YtlgefjcfnnjkbaaDoorP17
import Derived.Test.YtlgefjcfnnjkbaaDoorP18
import Derived.Test.YtlgefjcfnnjkbaaDoorP19
set_option linter.unusedVariables false
set_option linter.unusedSimpArgs false
set_option linter.unusedSectionVars false
/- An append. No conditions. -/
namespace Go.Proofs.YtlgefjcfnnjkbaaDoor
set_option maxRecDepth 100000
open Go.RowKit

/-! ### What an append asks of a log -/
def AddOk (l : Lg) (d : D) (b : List UInt8) : Prop := 1 ≤ l.use.e ∧ l.use.c + (need b.length : Nat) ≤ l.per ∧ l.last < l.segs ∧ d.pend.length + 64 ≤ 1000000
def OneOk (l : Lg) (d : D) (b : List UInt8) (o : Bool) : Prop := if o then (l.top + 1 ≤ 16777215 ∧ d.pend.length + 1 ≤ 1000000 ∧ ((l.begin_ d).2.2 = 0 → AddOk (l.begin_ d).2.1 (l.begin_ d).1 b)) else AddOk l d b
def GoOk : Lg → D → List (List UInt8 × Bool) → Prop
  | _, _, [] => True
  | l, d, (b, o) :: r => OneOk l d b o ∧ ((l.one d b o).2.2 = 0 → GoOk (l.one d b o).2.1 (l.one d b o).1 r)
def anyBig (per : Nat) (s : List (List UInt8)) : Bool := s.any fun b => decide ((per : Int) - 2 < need b.length)
def isFull (free : Int) (many : Nat) (deep : Bool) : Bool := decide (0 < many ∧ (free - many < 0 ∨ (deep = false ∧ free - many < 2)))
def AppendOk (l : Lg) (d : D) (s : List (List UInt8)) (deep : Bool) : Prop := l.down = false → anyBig l.per s = false → ¬ (16777215 - l.top < (l.plan s).many) → isFull l.free (l.plan s).many deep = false → GoOk l d (s.zip (l.plan s).opens)
theorem append_is (l : Lg) (d : D) (s : List (List UInt8)) (deep : Bool) : l.append d s deep = (if l.down then (d, l, [], 130) else if anyBig l.per s then (d, l, [], 133) else if 16777215 - l.top < (l.plan s).many then (d, l, [], 130) else if isFull l.free (l.plan s).many deep then (d, l, [], 132) else Lg.go l d (s.zip (l.plan s).opens) []) := by
  unfold Lg.append anyBig isFull
  simp only [decide_eq_true_eq]
theorem any_take_succ (s : List (List UInt8)) (f : List UInt8 → Bool) (k : Nat) (hk : k < s.length) : (s.take (k + 1)).any f = ((s.take k).any f || f s[k]) := by
  rw [List.take_succ_eq_append_getElem hk, List.any_append]; simp
theorem any_of_take (s : List (List UInt8)) (f : List UInt8 → Bool) (k : Nat) (h : (s.take k).any f = true) : s.any f = true := by
  rw [List.any_eq_true] at *
  obtain ⟨x, hx, h2⟩ := h
  exact ⟨x, List.mem_of_mem_take hx, h2⟩
def intVs (l : List Int) : List Value := l.map (Value.int .i64)
def AppPost (w : World) (lb p kb : Nat) (pv : Value) (r : D × Lg × List Int × Int) (e : Ending) (w' : World) : Prop := ∃ pv' v, e = .returned (.tuple #[v, .int .i64 r.2.2.2]) ∧ w'.ownsRow w.heap.size 3 1 v r.2.2.1.length (intVs r.2.2.1) ∧ LStep w w' lb p kb pv pv' r.1 r.2.1
theorem nil_row (w : World) (b : Nat) (e : TypeId) (size : Nat) : w.ownsRow b e size (.slice none 0 0) 0 [] := ⟨by simp, .inl ⟨rfl, rfl⟩⟩

theorem LStep.row {w w' : World} {lb p kb : Nat} {pv pv' : Value} {d d' : D} {l l' : Lg} (hs : LStep w w' lb p kb pv pv' d' l') (h : LgAt w lb p kb pv d l) {base : Nat} {e : TypeId} {size : Nat} {v : Value} {n : Nat} {xs : List Value} (hr : w.ownsRow base e size v n xs) (he : e ≠ 125)
    (hb : ∀ x, v.ownBlock = some x → x ≠ lb ∧ x ≠ p ∧ x ≠ kb) : w'.ownsRow base e size v n xs :=
  ownsRow_only hr hs.only (fun x hx e2 => by
    obtain ⟨b1, b2, b3⟩ := hb x hx
    rcases e2 with e2 | e2 | e2 | e2
    · exact b1 e2
    · exact b2 e2
    · exact b3 e2
    · exact rows_apart hr h.da.pend he x hx e2)
/-- what turns other blocks, new ones at that, leaves the log as it is -/
theorem LStep.aside {w w1 w2 : World} {lb p kb : Nat} {pv pv1 : Value} {d1 : D} {l1 : Lg} {S : Nat → Prop} (h : LStep w w1 lb p kb pv pv1 d1 l1) (ho : Only S w1 w2) (hS : ∀ x, S x → x ≠ lb ∧ ¬ fp p kb pv1 x) (hn : ∀ x, S x → w.heap.size ≤ x) : LStep w w2 lb p kb pv pv1 d1 l1 :=
  ⟨⟨ho.keep h.at_.head (fun e => (hS lb e).1 rfl), h.at_.len, h.at_.da.only ho (fun b hb e => (hS b e).2 hb), h.at_.apart, h.at_.per4, h.at_.per64, h.at_.segs12, h.at_.room, h.at_.last, h.at_.top, h.at_.us⟩, h.only.trans' ho (fun y hy e => by have := hn y e; omega), h.fresh⟩

set_option maxHeartbeats 16000000 in
theorem append_any (w : World) (lb p kb : Nat) (pv : Value) (d : D) (l : Lg) (h : LgAt w lb p kb pv d l) (s : List (List UInt8)) (v : Value) (ao : Option Addr) (cap : Nat) (deep : Bool) (hv : SliceOf w v s.length (txts s) ao cap) (hs : ∀ b ∈ s, b.length ≤ 1000000000) (hl : s.length ≤ 1000)
    (hsl : ∀ b o, ao = some ⟨b, o, none⟩ → b ≠ lb ∧ ¬ fp p kb pv b) (hok : AppendOk l d s deep) :
    Calls Tryd.prog 10 #[.pointer (some ⟨lb, 0, none⟩), v, .bool deep] w (AppPost w lb p kb pv (l.append d s deep)) := by
  have hvv := hv.val
  subst hvv
  have HB := Lib.hid (append_is l d s deep)
  generalize l.append d s deep = B at HB ⊢
  have h31 := h.c31
  have hper := h.per64
  unfold AppendOk at hok
  cases hd : l.down with
  | true =>
    rw [hd] at h31 HB
    have HN := Lib.hid (show B = (d, l, [], 130) by rw [HB.out]; rfl)
    clear hd HB hok
    go_enter Tryd.func10, Tryd.ntmps10
    go_wp2_with fail
    go_ret2
    exact ⟨pv, _, by rw [HN.out]; rfl, by rw [HN.out]; exact nil_row _ _ _ _, by rw [HN.out]; exact LStep.refl h⟩
  | false =>
    rw [hd] at h31 HB
    have hok1 := hok hd
    have HOK1 := Lib.hid hok1
    have HB1 := Lib.hid (show B = (if anyBig l.per s then (d, l, [], 133) else if 16777215 - l.top < (l.plan s).many then (d, l, [], 130) else if isFull l.free (l.plan s).many deep then (d, l, [], 132) else Lg.go l d (s.zip (l.plan s).opens) []) by rw [HB.out]; rfl)
    clear hd HB hok hok1
    go_enter Tryd.func10, Tryd.ntmps10
    go_wp2_with fail
    go_loopw [26] (fun i wr => ∃ k : Nat, k ≤ s.length ∧ i = .int .i64 (k : Int) ∧ Hid ((s.take k).any (fun b => decide ((l.per : Int) - 2 < need b.length)) = false) ∧ Only (fun _ => False) w wr) (fun i _ => 1001 - (intOf i).toNat)
    case atStart => exact ⟨0, by omega, rfl, Lib.hid (by simp), Only.refl _ _⟩
    case round =>
      obtain ⟨k, hk, rfl, hany, hor⟩ := hrel
      by_cases hks : k < s.length
      · have hI : (k : Int) < (s.length : Int) := by omega
        have hI0 : (0 : Int) ≤ (k : Int) := by omega
        obtain ⟨sb, so, hao, hcell⟩ := hv.cell k _ (txts_at s k hks)
        subst hao
        have hcr : wr.cell? ⟨sb, so + k, none⟩ = some (.string ⟨s[k].toArray⟩) := by rw [hor.cell (World.block_lt_of_cell? _ _ hcell) id]; exact hcell
        have hts := any_take_succ s (fun b => decide ((l.per : Int) - 2 < need b.length)) k hks
        have hsb := hs _ (List.getElem_mem hks)
        generalize s[k] = b at hcr hts hsb
        have hnn : needI (b.length : Int) = ((need b.length : Nat) : Int) := by unfold needI; rw [if_neg (by omega), Int.toNat_natCast]
        have hnb : need b.length ≤ 100000000 := by unfold need; omega
        have hbz := size_toArray b
        have HND := Lib.hid (fun W => need_any W (b.length : Int) (by omega))
        rw [hnn] at HND
        have HTS := Lib.hid hts
        generalize need b.length = nb at *
        clear hcell hnn hts
        go_upto_region 8 with fail
        have hk1 : wr.drew.cell? ⟨lb, 1, none⟩ = some (.int .i64 (l.per : Int)) := ((h.quiet hor).quiet (Only.drew wr _)).c1
        refine wp_region_pickC (fun X => X = wr.drew) [(0, 0), (1, 0), (2, 0), (3, 0), (4, 0), (5, 0), (6, 0), (7, 1), (8, 0), (9, 0)] (by kernel_rfl) (by kernel_rfl) (fun _ _ d _ _ h => by cases d <;> exact h) rfl ?_
        have ho2 := hor.trans (Only.drew wr _)
        clear hcr hor
        generalize wr.drew = w2 at hk1 ho2 ⊢
        simp only [pickOps, List.getElem?_cons_zero, List.getElem?_cons_succ]
        iterate 2 (first | (refine wpC_pure (a' := ?_) ?_ rfl (fun W => ?_) ?_ ?_; rotate_left 2; (· go_simp; first | (go_bits; with_reducible rfl) | with_reducible rfl); (· simp only [put_some, List.setIfInBounds_toArray, List.set_cons_zero, List.set_cons_succ]; rfl)) | (refine wpC_held (a' := ?_) ?_ rfl (fun W hW => ?_) ?_ ?_; rotate_left 2; (· subst hW; go_simp; first | (go_bits; with_reducible rfl) | with_reducible rfl); (· simp only [put_some, List.setIfInBounds_toArray, List.set_cons_zero, List.set_cons_succ]; rfl)))
        refine wpC_quiet0 (a' := ?_) (.int .i64 (nb : Int)) (f := 12) (args := #[.int .i64 (b.length : Int)]) rfl (fun W => by kernel_rfl) (fun W => (HND.out W).mono fun e w' h => ⟨h.1, h.2.symm⟩) ?_ ?_; rotate_left; (· simp only [put_some, List.setIfInBounds_toArray, List.set_cons_zero, List.set_cons_succ]; rfl)
        iterate 7 (first | (refine wpC_pure (a' := ?_) ?_ rfl (fun W => ?_) ?_ ?_; rotate_left 2; (· go_simp; first | (go_bits; with_reducible rfl) | with_reducible rfl); (· simp only [put_some, List.setIfInBounds_toArray, List.set_cons_zero, List.set_cons_succ]; rfl)) | (refine wpC_held (a' := ?_) ?_ rfl (fun W hW => ?_) ?_ ?_; rotate_left 2; (· subst hW; go_simp; first | (go_bits; with_reducible rfl) | with_reducible rfl); (· simp only [put_some, List.setIfInBounds_toArray, List.set_cons_zero, List.set_cons_succ]; rfl)))
        refine wpC_nil ?_
        by_cases hbig : (l.per : Int) - 2 < (nb : Int)
        · have HN := Lib.hid (show B = (d, l, [], 133) by
            rw [HB1.out, show anyBig l.per s = true from any_of_take s _ (k + 1) (by rw [HTS.out, decide_eq_true hbig, Bool.or_true])]; rfl)
          go_wp2_with fail
          go_ret2
          exact ⟨pv, _, by rw [HN.out]; rfl, by rw [HN.out]; exact nil_row _ _ _ _, by rw [HN.out]; exact (LStep.refl h).quiet ho2⟩
        · have HN := Lib.hid (show (s.take (k + 1)).any (fun b => decide ((l.per : Int) - 2 < need b.length)) = false by rw [HTS.out, decide_eq_false hbig, Bool.or_false]; exact hany.out)
          go_wp2_with fail
          exact ⟨⟨k + 1, by omega, rfl, HN, ho2⟩, by simp [intOf]; omega⟩
      · obtain rfl : k = s.length := by omega
        have hI : ¬ (s.length : Int) < (s.length : Int) := by omega
        have hab : anyBig l.per s = false := by have := hany.out; rw [List.take_length] at this; exact this
        have HB2 := Lib.hid (show B = (if 16777215 - l.top < (l.plan s).many then (d, l, [], 130) else if isFull l.free (l.plan s).many deep then (d, l, [], 132) else Lg.go l d (s.zip (l.plan s).opens) []) by rw [HB1.out, hab]; rfl)
        have HOK2 := Lib.hid (HOK1.out hab)
        have hr := h.quiet hor
        have hvr := hv.only hor
        have HPL := Lib.hid (plan_any wr lb p kb pv d l hr s _ ao cap hvr hs hl)
        have hpf := planTo_facts l s hs ⟨(h.us l.last).2.2.1, (h.us l.last).2.2.2⟩ s.length (Nat.le_refl _)
        have hple : l.planTo s s.length = l.plan s := rfl
        rw [hple] at hpf
        generalize l.plan s = PL at HPL HB2 HOK2 hpf
        clear HB1 HOK1 hany hab hple
        go_wp2_with fail
        refine HPL.out.mono ?_
        rintro ev w2 ⟨vo, rfl, hop, ho2⟩
        have hL2 := (LStep.refl h).quiet (hor.trans ho2)
        have h28 := hL2.at_.c28
        obtain ⟨ao2, cap2, hslo⟩ := sliceOf_own hop
        obtain rfl := hslo.val
        have HOP := Lib.hid (ownsRow_down hop hor.size)
        obtain ⟨p1, p2, p3, p4⟩ := hpf
        have ht0 := hL2.at_.top
        obtain ⟨ht1, ht2⟩ := ht0
        clear HPL hslo hop hor ho2 hr hvr
        by_cases hmx : 16777215 - l.top < (PL.many : Int)
        · have HN := Lib.hid (show B = (d, l, [], 130) by rw [HB2.out, if_pos hmx])
          go_wp2_with fail
          go_ret2
          exact ⟨pv, _, by rw [HN.out]; rfl, by rw [HN.out]; exact nil_row _ _ _ _, by rw [HN.out]; exact hL2⟩
        · have HB3 := Lib.hid (show B = (if isFull l.free PL.many deep then (d, l, [], 132) else Lg.go l d (s.zip PL.opens) []) by rw [HB2.out, if_neg hmx])
          have HOK3 := Lib.hid (HOK2.out (by omega))
          have HFR := Lib.hid (free_any w2 lb p kb pv d l hL2.at_)
          have hfb : -12 ≤ l.free ∧ l.free ≤ 12 := by
            unfold Lg.free
            have h1 : (orderL l.chain).length = (usedL l.chain).length := (insAll_perm l.chain _).length_eq
            have h2 := usedTo_le l.chain l.chain.length
            rw [h.len] at h2
            have h3 : (orderL l.chain).length ≤ 12 := by rw [h1, usedL, h.len]; exact h2
            have := h.segs12
            split <;> omega
          obtain ⟨hf1, hf2⟩ := hfb
          generalize l.free = FR at HFR HB3 HOK3 hf1 hf2
          clear HB2 HOK2
          go_wp2_with fail
          refine HFR.out.mono ?_
          rintro ev w3 ⟨rfl, ho3⟩
          have hL3 := hL2.quiet ho3
          have HOP3 := Lib.hid (ownsRow_only HOP.out ho3 (fun _ _ h => h))
          clear HFR hL2 ho3 h28 HOP
          go_upto_region 15 with fail
          have HFULL := Lib.hid (show isFull FR PL.many deep = decide (0 < PL.many ∧ (FR - (PL.many : Int) < 0 ∨ (deep = false ∧ FR - (PL.many : Int) < 2))) from rfl)
          go_cut [71] from 58 to 71 (fun s71 wx => s71 = .bool (isFull FR PL.many deep) ∧ w3 = wx)
          case first =>
            clear hmx
            by_cases m1 : (0 : Int) < (PL.many : Int)
            · by_cases m2 : FR - (PL.many : Int) < 0
              · have HE := Lib.hid (show isFull FR PL.many deep = true by rw [HFULL.out]; exact decide_eq_true ⟨by omega, .inl m2⟩)
                go_wp2_with fail
                go_meet
                exact ⟨by rw [HE.out], rfl⟩
              · cases deep with
                | true =>
                  have HE := Lib.hid (show isFull FR PL.many true = false by rw [HFULL.out]; exact decide_eq_false (by rintro ⟨_, h | ⟨h, _⟩⟩; exact m2 h; cases h))
                  go_wp2_with fail
                  go_meet
                  exact ⟨by rw [HE.out], rfl⟩
                | false =>
                  by_cases m3 : FR - (PL.many : Int) < 2
                  · have HE := Lib.hid (show isFull FR PL.many false = true by rw [HFULL.out]; exact decide_eq_true ⟨by omega, .inr ⟨rfl, m3⟩⟩)
                    go_wp2_with fail
                    go_meet
                    exact ⟨by rw [HE.out], rfl⟩
                  · have HE := Lib.hid (show isFull FR PL.many false = false by rw [HFULL.out]; exact decide_eq_false (by rintro ⟨_, h | ⟨_, h⟩⟩; exact m2 h; exact m3 h))
                    go_wp2_with fail
                    go_meet
                    exact ⟨by rw [HE.out], rfl⟩
            · have HE := Lib.hid (show isFull FR PL.many deep = false by rw [HFULL.out]; exact decide_eq_false (by rintro ⟨h, _⟩; omega))
              go_wp2_with fail
              go_meet
              exact ⟨by rw [HE.out], rfl⟩
          case rest =>
          obtain ⟨rfl, rfl⟩ := hcut
          clear HFULL
          generalize isFull FR PL.many deep = IF at HB3 HOK3 ⊢
          cases IF with
          | true =>
            have HN := Lib.hid (show B = (d, l, [], 132) by rw [HB3.out]; rfl)
            go_wp2_with fail
            go_ret2
            exact ⟨pv, _, by rw [HN.out]; rfl, by rw [HN.out]; exact nil_row _ _ _ _, by rw [HN.out]; exact hL3⟩
          | false =>
            have HB4 := Lib.hid (show B = Lg.go l d (s.zip PL.opens) [] by rw [HB3.out]; rfl)
            have HOK4 := Lib.hid (HOK3.out rfl)
            clear HB3 HOK3 hmx
            go_wp2_with fail
            have hlb := h.lt
            have hpl : p < w.heap.size := h.da.fp_lt p (.inl rfl)
            have hkbl : kb < w.heap.size := h.da.fp_lt kb (.inr (.inl rfl))
            have hzl : (s.zip PL.opens).length = s.length := by simp [p1]
            have hw3 := hL3.only.size
            go_loopw [13, 74] (fun v i wr => ∃ (k : Nat) (pvk : Value) (dk : D) (lk : Lg) (es : List Int), k ≤ s.length ∧ i = .int .i64 (k : Int) ∧ Hid (B = Lg.go lk dk ((s.zip PL.opens).drop k) es) ∧ Hid (GoOk lk dk ((s.zip PL.opens).drop k)) ∧ LStep w wr lb p kb pv pvk dk lk ∧
              Hid (wr.ownsRow w.heap.size 3 1 v es.length (intVs es)) ∧ Hid (wr.ownsRow w.heap.size 4 1 (.slice ao2 PL.opens.length cap2) PL.opens.length (boolVs PL.opens)) ∧ es.length ≤ k) (fun v i _ => 1001 - (intOf i).toNat)
            case atStart => exact ⟨0, pv, d, l, [], by omega, rfl, Lib.hid (by rw [HB4.out]; rfl), Lib.hid (by have := HOK4.out; exact this), hL3, Lib.hid (nil_row _ _ _ _), HOP3, by simp⟩
            case round =>
              obtain ⟨k, pvk, dk, lk, es, hk, rfl, hBk, hGk, hLk, hrow, hopr, hel⟩ := hrel
              by_cases hks : k < s.length
              · have hI : (k : Int) < (s.length : Int) := by omega
                have hI0 : (0 : Int) ≤ (k : Int) := by omega
                have hIo : (k : Int) < (PL.opens.length : Int) := by omega
                obtain ⟨sb, so, hao, hcell⟩ := hv.cell k _ (txts_at s k hks)
                subst hao
                obtain ⟨hs1, hs2⟩ := hsl sb so rfl
                have hcr : wr.cell? ⟨sb, so + k, none⟩ = some (.string ⟨s[k].toArray⟩) := by rw [hLk.only.cell (World.block_lt_of_cell? _ _ hcell) (by rintro (e | e); exact hs1 e; exact hs2 e)]; exact hcell
                have hko : k < PL.opens.length := by omega
                obtain ⟨ao4, cap4, hslo⟩ := sliceOf_own hopr.out
                obtain ⟨ob, oo, hoo, hco⟩ := hslo.cell k _ (by rw [boolVs, List.getElem?_map, List.getElem?_eq_getElem hko]; rfl)
                have hve := hslo.val
                simp only [Value.slice.injEq] at hve
                obtain ⟨rfl, _, rfl⟩ := hve
                subst hoo
                have hdr : (s.zip PL.opens).drop k = (s[k], PL.opens[k]) :: (s.zip PL.opens).drop (k + 1) := by
                  rw [List.drop_eq_getElem_cons (by omega), List.getElem_zip]
                have hsb := hs _ (List.getElem_mem hks)
                have hGk' := hGk.out
                have hBk' := hBk.out
                rw [hdr] at hGk' hBk'
                generalize s[k] = b at hcr hsb hGk' hBk'
                generalize PL.opens[k] = o at hco hGk' hBk'
                obtain ⟨hone, hnext⟩ := hGk'
                have HNX := Lib.hid hnext
                have HBK := Lib.hid (show B = (match lk.one dk b o with | (d1, l1, e) => if e = 0 then Lg.go l1 d1 ((s.zip PL.opens).drop (k + 1)) (es ++ [l1.top]) else (d1, l1, [], e)) from hBk')
                have HONE := Lib.hid hone
                clear hdr hcell hslo hGk hBk hnext hBk' hone
                go_upto_if 82 with fail
                go_cut [16] (fun s16 wx => ∃ (pv1 : Value) (d1 : D) (l1 : Lg), Hid (lk.one dk b o = (match l1.add d1 b with | (d2, l2, e2) => (d2, fallen l2 e2, e2))) ∧ LStep w wx lb p kb pv pv1 d1 l1 ∧ Hid (wx.ownsRow w.heap.size 3 1 u13 es.length (intVs es)) ∧ Hid (wx.ownsRow w.heap.size 4 1 (.slice (some ⟨ob, oo, none⟩) PL.opens.length cap2) PL.opens.length (boolVs PL.opens)) ∧ AddOk l1 d1 b)
                case first =>
                  cases o with
                  | false =>
                    have hon := HONE.out
                    unfold OneOk at hon
                    simp only [Bool.false_eq_true, if_false] at hon
                    have HON := Lib.hid hon
                    clear hon
                    go_wp2_with fail
                    go_meet
                    exact ⟨pvk, dk, lk, Lib.hid rfl, hLk, hrow, hopr, HON.out⟩
                  | true =>
                    have hon := HONE.out
                    unfold OneOk at hon
                    simp only [if_true] at hon
                    obtain ⟨on1, on2, on3⟩ := hon
                    have HO3 := Lib.hid on3
                    have HBE := Lib.hid (begin_any wr lb p kb pvk dk lk hLk.at_ on1 on2)
                    have HON := Lib.hid (show lk.one dk b true = (match lk.begin_ dk with | (d1, l1, e) => if e = 0 then (match l1.add d1 b with | (d2, l2, e2) => (d2, fallen l2 e2, e2)) else (d1, fallen l1 e, e)) from rfl)
                    generalize lk.begin_ dk = BG at HO3 HBE HON
                    obtain ⟨d1, l1, e1⟩ := BG
                    simp only at HO3 HBE HON
                    clear on3
                    go_wp2_with fail
                    refine HBE.out.mono ?_
                    rintro ev w4 ⟨pv4, rfl, hL4⟩
                    have HFA := Lib.hid (fail_any w4 lb p kb pv4 d1 l1 e1 hL4.at_)
                    have hr4 := hL4.row hLk.at_ hrow.out (by decide) (fun x hx => by have := ownBlock_ge hrow.out hx; omega)
                    have ho4 := hL4.row hLk.at_ hopr.out (by decide) (fun x hx => by have := ownBlock_ge hopr.out hx; omega)
                    go_wp2_with fail
                    refine HFA.out.mono ?_
                    rintro ev w5 ⟨rfl, hL5⟩
                    have HR5 := Lib.hid (hL5.row hL4.at_ hr4 (by decide) (fun x hx => by have := ownBlock_ge hr4 hx; omega))
                    have HO5 := Lib.hid (hL5.row hL4.at_ ho4 (by decide) (fun x hx => by have := ownBlock_ge ho4 hx; omega))
                    have HL5 := Lib.hid ((hLk.trans hL4).trans hL5)
                    clear HFA HBE hr4 ho4 hL4 hL5
                    by_cases he : e1 = 0
                    · subst he
                      have HA := HO3.out rfl
                      have HON2 := Lib.hid (show lk.one dk b true = (match l1.add d1 b with | (d2, l2, e2) => (d2, fallen l2 e2, e2)) by rw [HON.out]; rfl)
                      go_wp2_with fail
                      go_meet
                      exact ⟨pv4, d1, l1, HON2, by have := HL5.out; rwa [fallen_zero] at this, HR5, HO5, HA⟩
                    · have heb : (e1 != 0) = true := by simp [he]
                      have HN := Lib.hid (show B = (d1, fallen l1 e1, [], e1) by rw [HBK.out, HON.out]; simp only [if_neg he])
                      clear he
                      go_wp2_with fail
                      go_ret2
                      exact ⟨pv4, _, by rw [HN.out]; rfl, by rw [HN.out]; exact nil_row _ _ _ _, by rw [HN.out]; exact HL5.out⟩
                case rest =>
                obtain ⟨pv1, d1, l1, hon, hL1, hr1, ho1, hadd⟩ := hcut
                obtain ⟨a1, a2, a3, a4⟩ := hadd
                have HAD := Lib.hid (add_any wc lb p kb pv1 d1 l1 b hL1.at_ a1 a2 a3 a4 (by unfold maxLen; omega))
                have HON := hon
                generalize l1.add d1 b = AD at HAD HON
                obtain ⟨d2, l2, e2⟩ := AD
                simp only at HAD HON
                clear hon HONE hcr hco hLk hrow hopr a2
                go_wp2_with fail
                refine HAD.out.mono ?_
                rintro ev w4 ⟨pv4, rfl, hL4⟩
                have HFA := Lib.hid (fail_any w4 lb p kb pv4 d2 l2 e2 hL4.at_)
                have hr4 := hL4.row hL1.at_ hr1.out (by decide) (fun x hx => by have := ownBlock_ge hr1.out hx; omega)
                have ho4 := hL4.row hL1.at_ ho1.out (by decide) (fun x hx => by have := ownBlock_ge ho1.out hx; omega)
                go_wp2_with fail
                refine HFA.out.mono ?_
                rintro ev w5 ⟨rfl, hL5⟩
                have hr5 := hL5.row hL4.at_ hr4 (by decide) (fun x hx => by have := ownBlock_ge hr4 hx; omega)
                have ho5 := hL5.row hL4.at_ ho4 (by decide) (fun x hx => by have := ownBlock_ge ho4 hx; omega)
                have hLL := (hL1.trans hL4).trans hL5
                clear HFA HAD hr4 ho4 hL4 hL5 hr1 ho1 hL1
                by_cases he : e2 = 0
                · subst he
                  rw [fallen_zero] at hLL
                  have HON2 := Lib.hid (show lk.one dk b o = (d2, l2, 0) by rw [HON.out, fallen_zero])
                  have HBN := Lib.hid (show B = Lg.go l2 d2 ((s.zip PL.opens).drop (k + 1)) (es ++ [l2.top]) by rw [HBK.out, HON2.out]; rfl)
                  have HGN := Lib.hid (show GoOk l2 d2 ((s.zip PL.opens).drop (k + 1)) by have := HNX.out; rw [HON2.out] at this; exact this rfl)
                  have h28 := hLL.at_.c28
                  have hsz5 := hLL.only.size
                  obtain ⟨v6, w6, hrun6, hown6, ho6, hfr6⟩ := append_one_row2 (P := Tryd.prog) w5 w.heap.size 37 37 3 _ 1 8 Tryd.underlying37 Tryd.info3 rfl (by decide) u13 es.length _ hr5 [.int .i64 l2.top] rfl (by simp [Value.oneCell']) (by omega) (by decide) hsz5
                  have HRUN := Lib.hid hrun6
                  have HOWN : Hid (w6.ownsRow w.heap.size 3 1 v6 (es ++ [l2.top]).length (intVs (es ++ [l2.top]))) := Lib.hid (by rw [List.length_append, intVs, List.map_append]; exact hown6)
                  have hnb : ∀ x, u13.ownBlock = some x → x ≠ lb ∧ ¬ fp p kb pv4 x := fun x hx => by
                    have hx' := ownBlock_ge hr5 hx
                    refine ⟨by omega, ?_⟩
                    rintro (e | e | e)
                    · omega
                    · omega
                    · exact rows_apart hr5 hLL.at_.da.pend (by decide) x hx e
                  have HOP6 := Lib.hid (ownsRow_only ho5 ho6 (fun x hx e => rows_apart ho5 hr5 (by decide) x hx e))
                  have HL6 := Lib.hid (hLL.aside ho6 hnb (fun x hx => ownBlock_ge hr5 hx))
                  clear hrun6 hown6 ho6 hfr6 hr5 ho5 hLL
                  go_wp2_with ((with_reducible refine wpList_append_run u13 (.slice (some ⟨w5.heap.size, 0, none⟩) 1 1) v6 HRUN.out ?_ ?_ ?_); (· rfl); (· rfl))
                  exact ⟨⟨k + 1, pv4, d2, l2, es ++ [l2.top], by omega, rfl, HBN, HGN, HL6.out, HOWN, HOP6, by simp; omega⟩, by simp [intOf]; omega⟩
                · have heb : (e2 != 0) = true := by simp [he]
                  have HN := Lib.hid (show B = (d2, fallen l2 e2, [], e2) by rw [HBK.out, HON.out]; simp only [if_neg he])
                  clear he
                  go_wp2_with fail
                  go_ret2
                  exact ⟨pv4, _, by rw [HN.out]; rfl, by rw [HN.out]; exact nil_row _ _ _ _, by rw [HN.out]; exact hLL⟩
              · obtain rfl : k = s.length := by omega
                have hI : ¬ (s.length : Int) < (s.length : Int) := by omega
                have HN := Lib.hid (show B = (dk, lk, es, 0) by rw [hBk.out, List.drop_of_length_le (by omega)]; rfl)
                clear hBk hGk
                go_wp2_with fail
                go_ret2
                exact ⟨pvk, u13, by rw [HN.out]; rfl, by rw [HN.out]; exact hrow.out, by rw [HN.out]; exact hLk⟩
end Go.Proofs.YtlgefjcfnnjkbaaDoor
/- What is behind what counts is cleaned. No conditions. -/
namespace Go.Proofs.YtlgefjcfnnjkbaaDoor
set_option maxRecDepth 100000
open Go.RowKit

theorem wrNought_fail (sec : Nat) (d : D) : ∀ (k m : Nat) (dk : D), wrNought sec d k = (dk, false) → wrNought sec d (k + m) = (dk, false)
  | k, 0, dk, h => h
  | k, m + 1, dk, h => by
    rw [← Nat.add_assoc, wrNought, wrNought_fail sec d k m dk h]
theorem wrNought_succ (sec : Nat) (d : D) (k : Nat) (dk : D) (h : wrNought sec d k = (dk, true)) : wrNought sec d (k + 1) = wrP dk (sec + k) noughts := by
  rw [wrNought, h]
  unfold wrP
  rfl
theorem made_bytes (n : Nat) : madeCells (Value.int .u8 0).cells (n * 1) = (bvs (List.replicate n 0)).toArray := by
  apply Array.ext
  · simp [madeCells, bvs]
  · intro j h1 h2
    simp [madeCells, bvs, bv, Value.cells, Nat.mod_one]
theorem Tryd.makeB (n : Nat) (hn : n ≤ 1000000) (W : World) : (Instr.makeSlice 47 (.int .i64 (n : Int)) (.int .i64 (n : Int))).run Tryd.prog W = .ok (.slice (some ⟨W.heap.size, 0, none⟩) n n) (W.alloc (.cells (bvs (List.replicate n 0)).toArray 5)) := by
  obtain ⟨i, hi', hz, hs, hby⟩ := info_parts Tryd.info5
  have hr := run_make (P := Tryd.prog) W 47 5 i _ Tryd.underlying47 hi' hz .i64 .i64 n n (by omega) (Int.le_refl _) (by rw [hby]; omega) (by omega)
  rw [hs, Int.toNat_natCast, made_bytes] at hr
  exact hr
theorem Tryd.make64 (W : World) : (Instr.makeSlice 47 (.int .i64 64) (.int .i64 64)).run Tryd.prog W = .ok (.slice (some ⟨W.heap.size, 0, none⟩) 64 64) (W.alloc (.cells (bvs noughts).toArray 5)) := Tryd.makeB 64 (by decide) W
theorem Tryd.conv64 (X : World) (b : Nat) (h : X.heap[b]? = some (.cells (bvs noughts).toArray 5 (0, 0))) : (convert 47 9 (.slice (some ⟨b, 0, none⟩) 64 64)).run Tryd.prog X = .ok (.string ⟨noughts.toArray⟩) X :=
  run_bytes_string X 47 9 5 b 0 64 64 noughts Tryd.underlying47 Tryd.underlying5 Tryd.underlying9 (by simp [noughts]) (fun j u hu => by rw [Nat.zero_add, cell_at h, List.getElem?_toArray]; exact hu)

theorem exec_make {P : Program} {ρ : Operand → Value} {o : Oper} {t : TypeId} {x y : Operand} (ho : o.op = .makeSlice t x y) {W W' : World} {vx vy r : Value} (hx : ρ x = vx) (hy : ρ y = vy) (h : (Instr.makeSlice t vx vy).run P W = .ok r W') : (execOp ρ o).run P W = .ok (.value r) W' := by
  simp [execOp, ho, hx, hy, h]
def CleanPost (w : World) (lb p kb : Nat) (pv : Value) (r : D × Lg × Int) (e : Ending) (w' : World) : Prop := LPost w lb p kb pv (.int .i64 r.2.2) r.1 r.2.1 e w'

set_option maxHeartbeats 8000000 in
theorem clean_any (w : World) (lb p kb : Nat) (pv : Value) (d : D) (l : Lg) (loose : Bool) (h : LgAt w lb p kb pv d l) (hu1 : 1 ≤ l.use.e) (hls : l.last < l.segs) (hroom : d.pend.length + 100 ≤ 1000000) :
    Calls Tryd.prog 19 #[.pointer (some ⟨lb, 0, none⟩), .bool loose] w (CleanPost w lb p kb pv (l.clean d loose)) := by
  obtain ⟨u0, u1, u2, u3⟩ := h.us l.last
  have hper := h.per64
  have hlast := h.last
  have hLI : (l.last : Int) < 12 := by omega
  have hLI0 : (0 : Int) ≤ (l.last : Int) := by omega
  have hue : l.use = l.chain.getD l.last Us.no := rfl
  have HB := Lib.hid (show l.clean d loose = (match thenP (wrNought (l.last * l.per + l.use.c.toNat) d (l.per - l.use.c.toNat)) syncP with
      | (d1, false) => (d1, l, (22 : Int))
      | (d1, true) => if loose = false ∨ (l.per : Int) ≤ l.use.c then (d1, l, 0) else match l.sealD d1 with
        | (d2, true) => (d2, l.sealed, 0)
        | (d2, false) => (d2, l, 22)) from rfl)
  generalize l.clean d loose = B at HB ⊢
  have hu1' := hu1
  rw [hue] at hu1 HB
  have HUE := Lib.hid hue
  generalize hu : l.chain.getD l.last Us.no = u at u0 u1 u2 u3 hu1 HB HUE
  have HU := Lib.hid hu
  obtain ⟨cn, hcn⟩ : ∃ cn : Nat, u.c = (cn : Int) := ⟨u.c.toNat, by omega⟩
  have HCN := Lib.hid hcn
  rw [hcn, Int.toNat_natCast] at HB
  clear hu hue hcn
  have HQ := Lib.hid (show ∀ W, Only (fun _ => False) w W → W.cell? ⟨lb, 27, none⟩ = some (.int .i64 (l.last : Int)) ∧ W.cell? ⟨lb, 3 + l.last * 2 + 1, none⟩ = some (.int .i64 (cn : Int)) ∧ True ∧ True from fun W hW => by
    have h' := h.quiet hW
    obtain ⟨c1, c2⟩ := h'.cat.cells hlast
    rw [HU.out, HCN.out] at c2
    exact ⟨h'.c27, c2, trivial, trivial⟩)
  go_enter Tryd.func19, Tryd.ntmps19
  go_upto_region 1 with fail
  refine wp_region_pick (fun W => Only (fun _ => False) w W) [(0, 0), (1, 0), (2, 0), (3, 0), (4, 1), (5, 0), (6, 0), (7, 0), (8, 0), (9, 1), (10, 0)] (by kernel_rfl) (by kernel_rfl) (fun _ _ d _ _ h => by cases d <;> exact h) (Only.drew w _) ?_
  have ho1 := Only.drew w (fun _ => False)
  generalize w.drew = w1 at ho1 ⊢
  simp only [pickOps, List.getElem?_cons_zero, List.getElem?_cons_succ]
  iterate 11 (first | (refine wpL_pure (a' := ?_) ?_ rfl (fun W => ?_) ?_ ?_; rotate_left 2; (· go_simp; first | (go_bits; with_reducible rfl) | with_reducible rfl); (· simp only [put_some, List.setIfInBounds_toArray, List.set_cons_zero, List.set_cons_succ]; rfl)) | (refine wpL_held (a' := ?_) ?_ rfl (fun W hW => ?_) ?_ ?_; rotate_left 2; (· obtain ⟨q1, q2, q3, q4⟩ := HQ.out W hW; go_simp; first | (go_bits; with_reducible rfl) | with_reducible rfl); (· simp only [put_some, List.setIfInBounds_toArray, List.set_cons_zero, List.set_cons_succ]; rfl)))
  refine wpL_nil ?_
  have hL1 := (LStep.refl h).quiet ho1
  clear HQ ho1
  go_wp2_with fail
  go_loopw [5] (fun i wr => ∃ (k : Nat) (pvk : Value) (dk : D), i = .int .i64 ((cn + k : Nat) : Int) ∧ (k = 0 ∨ cn + k ≤ l.per) ∧ Hid (wrNought (l.last * l.per + cn) d k = (dk, true)) ∧ LStep w wr lb p kb pv pvk dk l ∧ dk.kept.length = d.kept.length ∧ dk.pend.length ≤ d.pend.length + k) (fun i _ => 100 - (intOf i).toNat)
  case atStart => exact ⟨0, pv, d, rfl, .inl rfl, Lib.hid rfl, hL1, rfl, by omega⟩
  case round =>
    obtain ⟨k, pvk, dk, rfl, hk, hwr, hst, hkl, hpl⟩ := hrel
    have hr := hst.at_
    have hc1 := hr.c1
    by_cases hlt : cn + k < l.per
    · have hI : ((cn + k : Nat) : Int) < (l.per : Int) := by omega
      have hWS := wrNought_succ _ d k dk hwr.out
      have hsec : l.last * l.per + (cn + k) < dk.kept.length := sec_lt hlt hls hr.room
      have hNG : noughts.length = 64 := by simp [noughts]
      have hmk := fun W => Tryd.make64 W
      have hcv := fun X => Tryd.conv64 X
      rw [Nat.add_assoc] at hWS
      generalize noughts = NG at hNG hmk hcv hWS
      have HQ := Lib.hid (show ∀ W, Only (fun _ => False) wr W → W.cell? ⟨lb, 0, none⟩ = some (.pointer (some ⟨p, 0, none⟩)) ∧ W.cell? ⟨lb, 27, none⟩ = some (.int .i64 (l.last : Int)) ∧ True ∧ True from fun W hW => ⟨(hr.quiet hW).c0, (hr.quiet hW).c27, trivial, trivial⟩)
      have HSEC := Lib.hid (fun W (hW : Only (fun _ => False) wr W) => sector_any W lb l.per l.last (cn + k) ((hr.quiet hW).c1) (by omega) (by omega) (by omega))
      have HWR := Lib.hid (fun W (hW : Only (fun _ => False) wr W) => dwrite_any W p kb pvk dk (l.last * l.per + (cn + k)) NG (hr.quiet hW).da hsec hNG (by omega))
      have HWS := Lib.hid hWS
      have hpl2 := wrP_facts dk (l.last * l.per + (cn + k)) NG
      generalize wrP dk (l.last * l.per + (cn + k)) NG = RW at HWR HWS hpl2
      have HPL := Lib.hid hpl2
      clear hWS hpl2
      go_upto_region 4 with fail
      have HMK := Lib.hid hmk
      have HCV := Lib.hid hcv
      clear hmk hcv
      refine wp_region_pickC (fun W => Only (fun _ => False) wr W) [(0, 0), (1, 0), (2, 0), (3, 0), (4, 1), (5, 0), (6, 0), (7, 0), (8, 0), (9, 0), (10, 0), (11, 1), (12, 0), (13, 1), (14, 2), (15, 2), (16, 3), (17, 0)] (by kernel_rfl) (by kernel_rfl) (fun _ _ d _ _ h => by cases d <;> exact h) (Only.drew wr _) ?_
      have ho3 := Only.drew wr (fun _ => False)
      generalize wr.drew = w3 at ho3 ⊢
      simp only [pickOps, List.getElem?_cons_zero, List.getElem?_cons_succ]
      iterate 13 (first | (refine wpC_pure (a' := ?_) ?_ rfl (fun W => ?_) ?_ ?_; rotate_left 2; (· go_simp; first | (go_bits; with_reducible rfl) | with_reducible rfl); (· simp only [put_some, List.setIfInBounds_toArray, List.set_cons_zero, List.set_cons_succ]; rfl)) | (refine wpC_held (a' := ?_) ?_ rfl (fun W hW => ?_) ?_ ?_; rotate_left 2; (· obtain ⟨q1, q2, q3, q4⟩ := HQ.out W hW; go_simp; first | (go_bits; with_reducible rfl) | with_reducible rfl); (· simp only [put_some, List.setIfInBounds_toArray, List.set_cons_zero, List.set_cons_succ]; rfl)))
      refine wpC_quiet (a' := ?_) (.int .i64 ((l.last * l.per + (cn + k) : Nat) : Int)) (f := 31) (args := #[.pointer (some ⟨lb, 0, none⟩), .int .i64 (l.last : Int), .int .i64 ((cn + k : Nat) : Int)]) rfl (fun W => by kernel_rfl) (fun W hW => (HSEC.out W hW).mono fun e w' h => ⟨h.1, h.2.symm⟩) ?_ ?_; rotate_left; (· simp only [put_some, List.setIfInBounds_toArray, List.set_cons_zero, List.set_cons_succ]; rfl)
      have hA4 := Only.alloc w3 (.cells (bvs NG).toArray 5) (fun _ => False)
      have hb4 := heap_alloc_any w3 (.cells (bvs NG).toArray 5)
      have ho4 := ho3.trans hA4
      refine wpC_stepRun (a' := ?_) (w' := w3.alloc (.cells (bvs NG).toArray 5)) (.slice (some ⟨w3.heap.size, 0, none⟩) 64 64) rfl (exec_make rfl rfl rfl (HMK.out w3)) ho4 ?_ ?_; rotate_left; (· simp only [put_some, List.setIfInBounds_toArray, List.set_cons_zero, List.set_cons_succ]; rfl)
      generalize w3.alloc (.cells (bvs NG).toArray 5) = w4 at hb4 ho4 ⊢
      refine wpC_stepRun (a' := ?_) (w' := w4) (.string ⟨NG.toArray⟩) rfl (exec_convert rfl rfl (HCV.out w4 w3.heap.size hb4)) ho4 ?_ ?_; rotate_left; (· simp only [put_some, List.setIfInBounds_toArray, List.set_cons_zero, List.set_cons_succ]; rfl)
      refine wpC_lastCall (f := 39) (args := #[.pointer (some ⟨p, 0, none⟩), .int .i64 ((l.last * l.per + (cn + k) : Nat) : Int), .string ⟨NG.toArray⟩]) rfl (by kernel_rfl) ((HWR.out w4 ho4).mono ?_)
      rintro ev w5 ⟨pv5, rfl, hst5⟩
      refine ⟨_, rfl, ?_⟩
      simp only [put_some, List.setIfInBounds_toArray, List.set_cons_zero, List.set_cons_succ]
      (refine wpC_pure (a' := ?_) ?_ rfl (fun W => ?_) ?_ ?_; rotate_left 2; (· go_simp; first | (go_bits; with_reducible rfl) | with_reducible rfl); (· simp only [put_some, List.setIfInBounds_toArray, List.set_cons_zero, List.set_cons_succ]; rfl))
      refine wpC_nil ?_
      have hL5 := (hst.quiet ho4).disk hst5 (by rw [HPL.out.1])
      have hp5 := HPL.out
      clear HSEC HWR HMK HCV hb4 hA4 ho3 ho4 hst5 HQ hNG HPL
      obtain ⟨d5, ok5⟩ := RW
      simp only at hL5 hp5 ⊢
      cases ok5 with
      | true =>
        unfold errP
        simp only [if_true]
        have HIC := Lib.hid (show ((cn + k : Nat) : Int) + 1 = ((cn + (k + 1) : Nat) : Int) by omega)
        go_wp2_with fail
        exact ⟨⟨k + 1, pv5, d5, by congr 1, .inr (by omega), HWS, hL5, by rw [hp5.1]; exact hkl, by omega⟩, by simp [intOf]; omega⟩
      | false =>
        have HN := Lib.hid (show B = (d5, l, 22) by
          have h2 := wrNought_fail (l.last * l.per + cn) d (k + 1) (l.per - cn - (k + 1)) d5 HWS.out
          rw [show k + 1 + (l.per - cn - (k + 1)) = l.per - cn by omega] at h2
          rw [HB.out, h2]; rfl)
        unfold errP
        simp only [Bool.false_eq_true, if_false]
        go_wp2_with fail
        go_ret
        exact ⟨pv5, by rw [HN.out]; rfl, by rw [HN.out]; exact hL5⟩
    · have hI : ¬ ((cn + k : Nat) : Int) < (l.per : Int) := by omega
      have hW : wrNought (l.last * l.per + cn) d (l.per - cn) = (dk, true) := by
        have : l.per - cn = k := by omega
        rw [this]; exact hwr.out
      have HB2 := Lib.hid (show B = (match syncP dk with
        | (d1, false) => (d1, l, (22 : Int))
        | (d1, true) => if loose = false ∨ (l.per : Int) ≤ (cn : Int) then (d1, l, 0) else match l.sealD d1 with
          | (d2, true) => (d2, l.sealed, 0)
          | (d2, false) => (d2, l, 22)) by rw [HB.out, hW]; rfl)
      have hc0 := hr.c0
      have HSY := Lib.hid (dsync_any wr p kb pvk dk hr.da)
      have hsl : (syncP dk).1.kept.length = dk.kept.length ∧ (syncP dk).1.pend.length ≤ dk.pend.length := by
        unfold syncP; split
        · exact ⟨D.sync_len dk, by simp [D.sync]⟩
        · exact ⟨rfl, Nat.le_refl _⟩
      generalize syncP dk = R1 at HB2 HSY hsl
      obtain ⟨d1, ok1⟩ := R1
      simp only at HB2 HSY hsl
      clear HB hwr hW
      go_wp2_with fail
      refine HSY.out.mono ?_
      rintro ev w2 ⟨pv2, rfl, hst2⟩
      have hL2 := hst.disk hst2 hsl.1
      clear HSY hc0 hst2
      cases ok1 with
      | false =>
        have HN := Lib.hid (show B = (d1, l, 22) from HB2.out)
        unfold errP
        simp only [Bool.false_eq_true, if_false]
        clear HB2
        go_wp2_with fail
        go_ret
        exact ⟨pv2, by rw [HN.out]; rfl, by rw [HN.out]; exact hL2⟩
      | true =>
        have HB3 := Lib.hid (show B = (if loose = false ∨ (l.per : Int) ≤ (cn : Int) then (d1, l, (0 : Int)) else match l.sealD d1 with
          | (d2, true) => (d2, l.sealed, 0)
          | (d2, false) => (d2, l, 22)) from HB2.out)
        unfold errP
        simp only [if_true]
        clear HB2
        go_upto_region 10 with fail
        have hL3 := hL2.quiet (Only.drew w2 _)
        clear hL2 hc1 hr hst
        have h3 := hL3.at_
        have k27 := h3.c27
        have k1 := h3.c1
        have kce : w2.drew.cell? ⟨lb, 3 + l.last * 2 + 1, none⟩ = some (.int .i64 (cn : Int)) := by
          have := (h3.cat.cells hlast).2
          rw [HU.out, HCN.out] at this; exact this
        refine wp_region_pick (fun X => X = w2.drew) [(0, 0), (1, 0), (2, 0), (3, 0), (4, 0), (5, 0), (6, 0), (7, 1), (8, 0), (9, 0), (10, 0), (11, 0), (12, 1), (13, 0), (14, 0), (15, 0), (16, 0), (17, 1), (18, 0), (19, 0)] (by kernel_rfl) (by kernel_rfl) (fun _ _ d _ _ h => by cases d <;> exact h) rfl ?_
        generalize w2.drew = w3 at *
        cases loose with
        | false =>
          have HN := Lib.hid (show B = (d1, l, 0) by rw [HB3.out, if_pos (.inl rfl)])
          clear HB3
          simp only [pickOps, List.getElem?_cons_zero, List.getElem?_cons_succ]
          iterate 20 (first | (refine wpL_pure (a' := ?_) ?_ rfl (fun W => ?_) ?_ ?_; rotate_left 2; (· go_simp; first | (go_bits; with_reducible rfl) | with_reducible rfl); (· simp only [put_some, List.setIfInBounds_toArray, List.set_cons_zero, List.set_cons_succ]; rfl)) | (refine wpL_held (a' := ?_) ?_ rfl (fun W hW => ?_) ?_ ?_; rotate_left 2; (· subst hW; go_simp; first | (go_bits; with_reducible rfl) | with_reducible rfl); (· simp only [put_some, List.setIfInBounds_toArray, List.set_cons_zero, List.set_cons_succ]; rfl)) | (refine wpL_skip rfl (by simp only [put_some, List.setIfInBounds_toArray, List.set_cons_zero, List.set_cons_succ]; rfl) ?_) | (refine wpL_heldSkip rfl (by simp only [put_some, List.setIfInBounds_toArray, List.set_cons_zero, List.set_cons_succ]; rfl) ?_))
          refine wpL_nil ?_
          go_wp2_with fail
          go_ret
          exact ⟨pv2, by rw [HN.out]; rfl, by rw [HN.out]; exact hL3⟩
        | true =>
          by_cases hfull : (l.per : Int) ≤ (cn : Int)
          · have HN := Lib.hid (show B = (d1, l, 0) by rw [HB3.out, if_pos (.inr hfull)])
            clear HB3
            simp only [pickOps, List.getElem?_cons_zero, List.getElem?_cons_succ]
            iterate 20 (first | (refine wpL_pure (a' := ?_) ?_ rfl (fun W => ?_) ?_ ?_; rotate_left 2; (· go_simp; first | (go_bits; with_reducible rfl) | with_reducible rfl); (· simp only [put_some, List.setIfInBounds_toArray, List.set_cons_zero, List.set_cons_succ]; rfl)) | (refine wpL_held (a' := ?_) ?_ rfl (fun W hW => ?_) ?_ ?_; rotate_left 2; (· subst hW; go_simp; first | (go_bits; with_reducible rfl) | with_reducible rfl); (· simp only [put_some, List.setIfInBounds_toArray, List.set_cons_zero, List.set_cons_succ]; rfl)) | (refine wpL_skip rfl (by simp only [put_some, List.setIfInBounds_toArray, List.set_cons_zero, List.set_cons_succ]; rfl) ?_) | (refine wpL_heldSkip rfl (by simp only [put_some, List.setIfInBounds_toArray, List.set_cons_zero, List.set_cons_succ]; rfl) ?_))
            refine wpL_nil ?_
            go_wp2_with fail
            go_ret
            exact ⟨pv2, by rw [HN.out]; rfl, by rw [HN.out]; exact hL3⟩
          · have HB4 := Lib.hid (show B = (match l.sealD d1 with
              | (d2, true) => (d2, l.sealed, (0 : Int))
              | (d2, false) => (d2, l, 22)) by rw [HB3.out, if_neg (by rintro (h | h); cases h; exact hfull h)])
            clear HB3
            have hnf : (cn : Int) < (l.per : Int) := by omega
            simp only [pickOps, List.getElem?_cons_zero, List.getElem?_cons_succ]
            iterate 20 (first | (refine wpL_pure (a' := ?_) ?_ rfl (fun W => ?_) ?_ ?_; rotate_left 2; (· go_simp; first | (go_bits; with_reducible rfl) | with_reducible rfl); (· simp only [put_some, List.setIfInBounds_toArray, List.set_cons_zero, List.set_cons_succ]; rfl)) | (refine wpL_held (a' := ?_) ?_ rfl (fun W hW => ?_) ?_ ?_; rotate_left 2; (· subst hW; go_simp; first | (go_bits; with_reducible rfl) | with_reducible rfl); (· simp only [put_some, List.setIfInBounds_toArray, List.set_cons_zero, List.set_cons_succ]; rfl)) | (refine wpL_skip rfl (by simp only [put_some, List.setIfInBounds_toArray, List.set_cons_zero, List.set_cons_succ]; rfl) ?_) | (refine wpL_heldSkip rfl (by simp only [put_some, List.setIfInBounds_toArray, List.set_cons_zero, List.set_cons_succ]; rfl) ?_))
            refine wpL_nil ?_
            have HSE := Lib.hid (seal_any w3 lb p kb pv2 d1 l h3 hu1' (by rw [HUE.out, HCN.out]; exact hnf) hls (by omega))
            generalize l.sealD d1 = R at HB4 HSE
            obtain ⟨d4, ok4⟩ := R
            simp only at HSE
            clear k27 k1 kce
            go_wp2_with fail
            refine HSE.out.mono ?_
            rintro ev w4 ⟨pv4, rfl, hL4⟩
            have hLL := hL3.trans hL4
            clear HSE hL3 hL4 h3
            cases ok4 with
            | true =>
              have HN := Lib.hid (show B = (d4, l.sealed, 0) from HB4.out)
              unfold errP
              unfold sealOut at hLL
              simp only [if_true] at hLL ⊢
              go_wp2_with fail
              go_ret
              exact ⟨pv4, by rw [HN.out]; rfl, by rw [HN.out]; exact hLL⟩
            | false =>
              have HN := Lib.hid (show B = (d4, l, 22) from HB4.out)
              unfold errP
              unfold sealOut at hLL
              simp only [Bool.false_eq_true, if_false] at hLL ⊢
              go_wp2_with fail
              go_ret
              exact ⟨pv4, by rw [HN.out]; rfl, by rw [HN.out]; exact hLL⟩
end Go.Proofs.YtlgefjcfnnjkbaaDoor
