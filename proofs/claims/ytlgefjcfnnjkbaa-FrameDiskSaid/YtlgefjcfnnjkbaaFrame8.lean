/- Slices of frames and of texts; are they the same? No conditions. -/
import Derived.Test.YtlgefjcfnnjkbaaFrame7
namespace Go.Proofs.Ytlgefjcfnnjkbaa
open Go.RowKit

/-- v is a slice of n elements whose cells are cs -/
structure SliceOf (w : World) (v : Value) (n : Nat) (cs : List Value) (ao : Option Addr) (cap : Nat) : Prop where
  val : v = .slice ao n cap
  len : n ≤ 9223372036854775807
  cell : ∀ j x, cs[j]? = some x → ∃ b o, ao = some ⟨b, o, none⟩ ∧ w.cell? ⟨b, o + j, none⟩ = some x

theorem SliceOf.only {w w' : World} {v : Value} {n : Nat} {cs : List Value} {ao : Option Addr} {cap : Nat} (h : SliceOf w v n cs ao cap) (ho : Only (fun _ => False) w w') : SliceOf w' v n cs ao cap := by
  refine ⟨h.val, h.len, fun j x hx => ?_⟩
  obtain ⟨b, o, e, hc⟩ := h.cell j x hx
  exact ⟨b, o, e, by rw [ho.cell (World.block_lt_of_cell? _ _ hc) id]; exact hc⟩

def txt (l : List UInt8) : Value := .string ⟨l.toArray⟩
def txts (l : List (List UInt8)) : List Value := l.map txt
def frs (l : List Fr) : List Value := (l.map Fr.cells).flatten

theorem txts_at (l : List (List UInt8)) (k : Nat) (hk : k < l.length) : (txts l)[k]? = some (.string ⟨l[k].toArray⟩) := by
  simp [txts, txt, hk]

theorem frs_at (l : List Fr) (k : Nat) (hk : k < l.length) : ∀ j u, l[k].cells[j]? = some u → (frs l)[k * 4 + j]? = some u := by
  intro j u hu
  induction l generalizing k with
  | nil => simp at hk
  | cons f l ih =>
    simp only [frs, List.map_cons, List.flatten_cons]
    have hf : f.cells.length = 4 := rfl
    cases k with
    | zero =>
      have hj : j < f.cells.length := (List.getElem?_eq_some_iff.1 hu).1
      simp only [Nat.zero_mul, Nat.zero_add]
      rw [List.getElem?_append_left hj]; exact hu
    | succ k =>
      rw [List.getElem?_append_right (by rw [hf]; omega), hf, show (k + 1) * 4 + j - 4 = k * 4 + j by omega]
      exact ih k (by simpa using hk) hu

theorem SliceOf.txt_at {w : World} {v : Value} {l : List (List UInt8)} {ao : Option Addr} {cap : Nat} (h : SliceOf w v l.length (txts l) ao cap) (k : Nat) (hk : k < l.length) :
    ∃ b o, ao = some ⟨b, o, none⟩ ∧ w.cell? ⟨b, o + k, none⟩ = some (.string ⟨l[k].toArray⟩) := h.cell k _ (txts_at l k hk)

theorem SliceOf.fr_at {w : World} {v : Value} {l : List Fr} {ao : Option Addr} {cap : Nat} (h : SliceOf w v l.length (frs l) ao cap) (k : Nat) (hk : k < l.length) :
    ∃ b o, ao = some ⟨b, o, none⟩ ∧ Has w b (o + k * 4) l[k].cells := by
  obtain ⟨b, o, e, _⟩ := h.cell (k * 4 + 0) _ (frs_at l k hk 0 _ rfl)
  refine ⟨b, o, e, fun j u hu => ?_⟩
  obtain ⟨b', o', e', hc⟩ := h.cell (k * 4 + j) u (frs_at l k hk j u hu)
  rw [e] at e'
  cases e'
  rw [show o + k * 4 + j = o + (k * 4 + j) by omega]
  exact hc

theorem same_step {α : Type} [DecidableEq α] {a b : List α} {k : Nat} (ha : k < a.length) (hb : k < b.length) (h : a.take k = b.take k) (he : a[k] = b[k]) : a.take (k + 1) = b.take (k + 1) := by
  rw [List.take_succ_eq_append_getElem ha, List.take_succ_eq_append_getElem hb, h, he]

set_option maxHeartbeats 1000000 in
theorem sameTexts_any (w : World) (va vb : Value) (a b : List (List UInt8)) (ao bo : Option Addr) (ac bc : Nat) (ha : SliceOf w va a.length (txts a) ao ac) (hb : SliceOf w vb b.length (txts b) bo bc) :
    Calls Try.prog 32 #[va, vb] w fun e w' => e = .returned (.bool (decide (a = b))) ∧ Only (fun _ => False) w w' := by
  have hva := ha.val
  have hvb := hb.val
  subst hva hvb
  have hl1 := ha.len
  have hl2 := hb.len
  by_cases hn : a.length = b.length
  · have HN := Lib.hid hn
    rw [hn]
    rw [hn] at hl1
    clear hn
    go_enter Try.func32, Try.ntmps32
    go_wp2_with fail
    go_loopw [5] (fun i wr => ∃ k : Nat, k ≤ b.length ∧ i = .int .i64 k ∧ Hid (a.take k = b.take k) ∧ Only (fun _ => False) w wr) (fun i _ => b.length - (intOf i).toNat)
    case atStart => exact ⟨0, by omega, rfl, by simp [Hid], Only.refl _ _⟩
    case round =>
      obtain ⟨k, hk, rfl, hsame, hor⟩ := hrel
      by_cases hlt : k < b.length
      · have hlta : k < a.length := by rw [HN.out]; exact hlt
        obtain ⟨g1, o1, rfl, hc1⟩ := (ha.only (hor.trans (Only.drew _ _))).txt_at k hlta
        obtain ⟨g2, o2, rfl, hc2⟩ := (hb.only (hor.trans (Only.drew _ _))).txt_at k hlt
        have SS := Lib.hid (same_step hlta hlt hsame.out)
        have hne : a[k] ≠ b[k] → decide (a = b) = false := fun h1 => decide_eq_false (fun e => h1 (by subst e; rfl))
        have HNE := Lib.hid hne
        clear hne
        generalize a[k] = x at hc1 SS HNE
        generalize b[k] = y at hc2 SS HNE
        go_upto_region 6 with fail
        refine wp_region_pick (fun W => W = wr.drew) [(0, 0), (1, 0), (2, 0), (3, 1), (4, 0), (5, 0), (6, 0), (7, 1), (8, 0)] (by kernel_rfl) (by kernel_rfl) (fun _ _ d _ _ h => by cases d <;> exact h) rfl ?_
        simp only [pickOps, List.getElem?_cons_zero, List.getElem?_cons_succ]
        by_cases hxy : x = y
        · have hq : (x == y) = true := by simp [hxy]
          have hq2 : (!x == y) = false := by rw [hq]; rfl
          have SY := Lib.hid (SS.out hxy)
          clear hxy
          iterate 9 (first | (refine wpL_pure (a' := ?_) ?_ rfl (fun W => ?_) ?_ ?_; rotate_left 2; (· go_simp; first | (go_bits; with_reducible rfl) | with_reducible rfl); (· simp only [put_some, List.setIfInBounds_toArray, List.set_cons_zero, List.set_cons_succ]; rfl)) | (refine wpL_held (a' := ?_) ?_ rfl (fun W hW => ?_) ?_ ?_; rotate_left 2; (· subst hW; go_simp; first | (go_bits; with_reducible rfl) | with_reducible rfl); (· simp only [put_some, List.setIfInBounds_toArray, List.set_cons_zero, List.set_cons_succ]; rfl)))
          refine wpL_nil ?_
          go_wp2_with fail
          go_roundw
          case rel => exact ⟨k + 1, by omega, by go_num, SY, hor.trans (Only.drew _ _)⟩
          case measure => simp [intOf]; omega
        · have hq : (x == y) = false := by simp [hxy]
          have hq2 : (!x == y) = true := by rw [hq]; rfl
          have HD := Lib.hid (HNE.out hxy)
          clear hxy
          iterate 9 (first | (refine wpL_pure (a' := ?_) ?_ rfl (fun W => ?_) ?_ ?_; rotate_left 2; (· go_simp; first | (go_bits; with_reducible rfl) | with_reducible rfl); (· simp only [put_some, List.setIfInBounds_toArray, List.set_cons_zero, List.set_cons_succ]; rfl)) | (refine wpL_held (a' := ?_) ?_ rfl (fun W hW => ?_) ?_ ?_; rotate_left 2; (· subst hW; go_simp; first | (go_bits; with_reducible rfl) | with_reducible rfl); (· simp only [put_some, List.setIfInBounds_toArray, List.set_cons_zero, List.set_cons_succ]; rfl)))
          refine wpL_nil ?_
          go_wp2_with fail
          go_ret
          exact ⟨by rw [HD.out]; rfl, hor.trans (Only.drew _ _)⟩
      · obtain rfl : k = b.length := by omega
        have hab : a = b := by
          have e := hsame.out
          rwa [List.take_of_length_le (by rw [HN.out]; omega), List.take_of_length_le (Nat.le_refl _)] at e
        have HD := Lib.hid (decide_eq_true hab)
        clear hab
        go_wp2_with fail
        go_ret
        exact ⟨by rw [HD.out]; rfl, hor⟩
  · have hd : decide (a = b) = false := decide_eq_false (fun e => hn (by rw [e]))
    rw [hd]
    have h1 : ((a.length : Int) == b.length) = false := by simp; omega
    have h2 : ((a.length : Int) != b.length) = true := by simp; omega
    clear hd
    go_enter Try.func32, Try.ntmps32
    go_wp2_with fail
    go_ret
    exact ⟨rfl, Only.refl _ _⟩

set_option maxHeartbeats 1000000 in
theorem same_any (w : World) (va vb : Value) (a b : List Fr) (ao bo : Option Addr) (ac bc : Nat) (ha : SliceOf w va a.length (frs a) ao ac) (hb : SliceOf w vb b.length (frs b) bo bc) :
    Calls Try.prog 31 #[va, vb] w fun e w' => e = .returned (.bool (decide (a = b))) ∧ Only (fun _ => False) w w' := by
  have hva := ha.val
  have hvb := hb.val
  subst hva hvb
  have hl1 := ha.len
  have hl2 := hb.len
  by_cases hn : a.length = b.length
  · have HN := Lib.hid hn
    rw [hn]
    rw [hn] at hl1
    clear hn
    go_enter Try.func31, Try.ntmps31
    go_wp2_with fail
    go_loopw [5] (fun i wr => ∃ k : Nat, k ≤ b.length ∧ i = .int .i64 k ∧ Hid (a.take k = b.take k) ∧ Only (fun _ => False) w wr) (fun i _ => b.length - (intOf i).toNat)
    case atStart => exact ⟨0, by omega, rfl, by simp [Hid], Only.refl _ _⟩
    case round =>
      obtain ⟨k, hk, rfl, hsame, hor⟩ := hrel
      by_cases hlt : k < b.length
      · have hlta : k < a.length := by rw [HN.out]; exact hlt
        obtain ⟨g1, o1, rfl, hc1⟩ := (ha.only (hor.trans (Only.drew _ _))).fr_at k hlta
        obtain ⟨g2, o2, rfl, hc2⟩ := (hb.only (hor.trans (Only.drew _ _))).fr_at k hlt
        have SS := Lib.hid (same_step hlta hlt hsame.out)
        have hne : a[k] ≠ b[k] → decide (a = b) = false := fun h1 => decide_eq_false (fun e => h1 (by subst e; rfl))
        have HNE := Lib.hid hne
        clear hne
        generalize a[k] = x at hc1 SS HNE
        generalize b[k] = y at hc2 SS HNE
        go_upto_region 6 with fail
        refine wp_region_pick (fun W => W = wr.drew) [(0, 0), (1, 0), (2, 0), (3, 1), (4, 0), (5, 0), (6, 0), (7, 1), (8, 0)] (by kernel_rfl) (by kernel_rfl) (fun _ _ d _ _ h => by cases d <;> exact h) rfl ?_
        simp only [pickOps, List.getElem?_cons_zero, List.getElem?_cons_succ]
        iterate 3 (refine wpL_pure (a' := ?_) ?_ rfl (fun W => ?_) ?_ ?_; rotate_left 2; (· go_simp; first | (go_bits; with_reducible rfl) | with_reducible rfl); (· simp only [put_some, List.setIfInBounds_toArray, List.set_cons_zero, List.set_cons_succ]; rfl))
        refine wpL_held (a' := ?_) x.val rfl (fun W hW => exec_load (p := .pointer (some ⟨g1, o1 + k * 4, none⟩)) rfl rfl (run_load_part W g1 (o1 + k * 4) 4 _ _ _ Try.underlying23 rfl Try.size23 rfl (by subst hW; exact hc1))) ?_ ?_
        rotate_left
        · simp only [put_some, List.setIfInBounds_toArray, List.set_cons_zero, List.set_cons_succ]; rfl
        iterate 3 (refine wpL_pure (a' := ?_) ?_ rfl (fun W => ?_) ?_ ?_; rotate_left 2; (· go_simp; first | (go_bits; with_reducible rfl) | with_reducible rfl); (· simp only [put_some, List.setIfInBounds_toArray, List.set_cons_zero, List.set_cons_succ]; rfl))
        refine wpL_held (a' := ?_) y.val rfl (fun W hW => exec_load (p := .pointer (some ⟨g2, o2 + k * 4, none⟩)) rfl rfl (run_load_part W g2 (o2 + k * 4) 4 _ _ _ Try.underlying23 rfl Try.size23 rfl (by subst hW; exact hc2))) ?_ ?_
        rotate_left
        · simp only [put_some, List.setIfInBounds_toArray, List.set_cons_zero, List.set_cons_succ]; rfl
        by_cases hxy : x = y
        · have SY := Lib.hid (SS.out hxy)
          subst hxy
          obtain ⟨xe, xa, xk, xs⟩ := x
          unfold Fr.val
          simp only
          (refine wpL_pure (a' := ?_) ?_ rfl (fun W => ?_) ?_ ?_; rotate_left 2; (· go_simp; first | (go_bits; with_reducible rfl) | with_reducible rfl); (· simp only [put_some, List.setIfInBounds_toArray, List.set_cons_zero, List.set_cons_succ]; rfl))
          refine wpL_nil ?_
          clear hc1 hc2 SS HNE
          go_wp2_with fail
          go_roundw
          case rel => exact ⟨k + 1, by omega, by go_num, SY, hor.trans (Only.drew _ _)⟩
          case measure => simp [intOf]; omega
        · have HD := Lib.hid (HNE.out hxy)
          obtain ⟨xe, xa, xk, xs⟩ := x
          obtain ⟨ye, ya, yk, ys⟩ := y
          have hq : ¬ (xe = ye ∧ xa = ya ∧ xk = yk ∧ xs = ys) := by simpa using hxy
          unfold Fr.val
          simp only
          clear hc1 hc2 SS HNE hxy
          refine wpL_pure (a' := ?_) (.bool true) rfl (fun W => ?_) ?_ ?_; rotate_left 1
          · go_simp
            by_cases e1 : xe = ye <;> by_cases e2 : xa = ya <;> by_cases e3 : xk = yk <;> by_cases e4 : xs = ys <;> simp_all
          · simp only [put_some, List.setIfInBounds_toArray, List.set_cons_zero, List.set_cons_succ]; rfl
          refine wpL_nil ?_
          go_wp2_with fail
          go_ret
          exact ⟨by rw [HD.out]; rfl, hor.trans (Only.drew _ _)⟩
      · obtain rfl : k = b.length := by omega
        have hab : a = b := by
          have e := hsame.out
          rwa [List.take_of_length_le (by rw [HN.out]; omega), List.take_of_length_le (Nat.le_refl _)] at e
        have HD := Lib.hid (decide_eq_true hab)
        clear hab
        go_wp2_with fail
        go_ret
        exact ⟨by rw [HD.out]; rfl, hor⟩
  · have hd : decide (a = b) = false := decide_eq_false (fun e => hn (by rw [e]))
    rw [hd]
    have h1 : ((a.length : Int) == b.length) = false := by simp; omega
    have h2 : ((a.length : Int) != b.length) = true := by simp; omega
    clear hd
    go_enter Try.func31, Try.ntmps31
    go_wp2_with fail
    go_ret
    exact ⟨rfl, Only.refl _ _⟩
end Go.Proofs.Ytlgefjcfnnjkbaa
