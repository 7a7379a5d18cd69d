/- FrameJoins: batches that are cut are joined again, cut off anywhere. No conditions. -/
import Derived.Test.YtlgefjcfnnjkbaaApp2
import Derived.Test.YtlgefjcfnnjkbaaRows
import Derived.Outline
namespace Go.Proofs.Ytlgefjcfnnjkbaa
open Go.RowKit Go.ChangeShapes Go.WideShapes

theorem Try.info3 : (Try.prog.info? 3).map (fun i => (i.zero, i.size, i.bytes)) = some (some (.int .i64 0), 1, 8) := by kernel_rfl

/-- the batches of a statement: eight at most, three hundred bytes each at most -/
def cut8 (l : List (List UInt8)) (m : Nat) : List (List UInt8) := (l.take 8).map (·.take m)
theorem cut8_length (l : List (List UInt8)) (m : Nat) : (cut8 l m).length = min 8 l.length := by simp [cut8]
theorem cut8_get (l : List (List UInt8)) (m k : Nat) (h : k < l.length) (h8 : k < 8) : (cut8 l m).getD k [] = l[k].take m := by
  simp [cut8, List.getD_eq_getElem?_getD, List.getElem?_take, h8, List.getElem?_eq_getElem h]
theorem cut8_small (l : List (List UInt8)) (m k : Nat) : ((cut8 l m).getD k []).length ≤ m := by
  simp only [cut8, List.getD_eq_getElem?_getD, List.getElem?_map, List.getElem?_take]
  split
  · cases l[k]? with
    | none => simp
    | some x => simp; omega
  · simp

/-- is a seal behind the batch of that number? -/
def sealB (sb : List Int) (i : Nat) : Bool := decide (0 < sb.length) && (sb.getD (i % sb.length) 0 % 2 == 1)

theorem jall_le (l : List (List UInt8)) (sl : Nat → Bool) (hl : ∀ k, (l.getD k []).length ≤ 300) : ∀ k, (jall l sl k).length ≤ 7 * k
  | 0 => by simp [jall]
  | k + 1 => by
    have ih := jall_le l sl hl k
    have := hl k
    have h2 := jall_succ_length l sl k
    have hn : need (l.getD k []).length ≤ 6 := by unfold need; omega
    unfold jend at h2
    split at h2 <;> omega

def natCells (l : List Nat) : List Value := l.map fun (n : Nat) => Value.int .i64 (n : Int)
theorem natCells_append (a b : List Nat) : natCells (a ++ b) = natCells a ++ natCells b := by simp [natCells]

theorem jall_right (l : List (List UInt8)) (sl : Nat → Bool) (hl : ∀ k, (l.getD k []).length ≤ 300) : ∀ k, ∀ f ∈ jall l sl k, f.right = true
  | 0, f, hf => by simp [jall] at hf
  | k + 1, f, hf => by
    rw [jall, List.mem_append, List.mem_append] at hf
    rcases hf with hf | hf | hf
    · exact jall_right l sl hl k f hf
    · have hn : need (l.getD k []).length ≤ 6 := by have := hl k; unfold need; omega
      obtain ⟨i, hi, rfl⟩ := List.getElem_of_mem hf
      rw [cutF_length] at hi
      rw [cutF_get]
      exact cutL_right _ _ _ _ _ (by omega) (by omega) (by omega)
    · split at hf
      · simp only [List.mem_singleton] at hf
        subst hf
        exact sealFr_right
      · simp at hf

theorem ownsRow_cap {w : World} {base e s n cap : Nat} {ao : Option Addr} {xs : List Value} (h : w.ownsRow base e s (.slice ao n cap) n xs) : n ≤ cap := by
  rcases h.2 with ⟨hv, h0⟩ | ⟨g, cp, cur, hv, _, _, hc, _⟩
  · omega
  · cases hv; exact hc

theorem frs_one' (q : List Fr) : ∀ u ∈ frs q, u.oneCell' = true := by
  intro u hu
  simp only [frs, List.mem_flatten, List.mem_map] at hu
  obtain ⟨_, ⟨f, _, rfl⟩, hu⟩ := hu
  exact cells_one f u hu

set_option maxRecDepth 100000 in
set_option maxHeartbeats 8000000 in
theorem frameJoins_walk (w : World) (v vs : Value) (l : List (List UInt8)) (sb : List Int) (ct : Int) (ao so : Option Addr) (cap scap : Nat) (hv : SliceOf w v l.length (txts l) ao cap) (hvs : SliceOf w vs sb.length (sb.map (Value.int .u8)) so scap)
    (hl : ∀ x ∈ l, x.length ≤ maxLen) (hsb : ∀ x ∈ sb, 0 ≤ x ∧ x ≤ 255) (hct : 0 ≤ ct ∧ ct ≤ 255) :
    Calls Try.prog 7 #[v, vs, .int .u8 ct] w fun e w' => e = .returned (.bool true) ∧ Only (fun _ => False) w w' := by
  have hvv := hv.val
  subst hvv
  have hvv := hvs.val
  subst hvv
  have hll := hv.len
  have hsll := hvs.len
  obtain ⟨N, hN⟩ : ∃ N, N = min 8 l.length := ⟨_, rfl⟩
  have hN8 : N ≤ 8 := by omega
  have hLlen := cut8_length l 300
  rw [← hN] at hLlen
  have hLs := cut8_small l 300
  have hLg := cut8_get l 300
  generalize cut8 l 300 = L at hLlen hLs hLg
  obtain ⟨sl, hsl⟩ : ∃ sl, sl = sealB sb := ⟨_, rfl⟩
  have HN := Lib.hid hN
  have HLG := Lib.hid hLg
  have HSL := Lib.hid hsl
  have HLL := Lib.hid hLlen
  clear hN hLg hsl hLlen
  go_enter Try.func7, Try.ntmps7
  go_wp2_with (go_at_call 19; refine (examples_any _).mono ?_; rintro e w1 ⟨rfl, ho1⟩)
  have HO1 := Lib.hid ho1
  have hv1 := hv.only ho1
  have hvs1 := hvs.only ho1
  clear ho1 hv hvs
  go_loopw [8, 9, 10, 11] (fun a wn en i wr => ∃ k : Nat, k ≤ N ∧ i = .int .i64 k ∧ wr.ownsRow w1.heap.size 23 4 a (jall L sl k).length (frs (jall L sl k)) ∧
      wr.ownsRow w1.heap.size 9 1 wn k (txts (L.take k)) ∧ wr.ownsRow w1.heap.size 3 1 en k (natCells ((List.range k).map (jend L sl))) ∧ Only (fun _ => False) w1 wr) (fun a wn en i _ => N - (intOf i).toNat)
  case atStart => exact ⟨0, by omega, rfl, World.ownsRow_nil _ _ _ _, World.ownsRow_nil _ _ _ _, World.ownsRow_nil _ _ _ _, Only.refl _ _⟩
  case round =>
    obtain ⟨k, hk, rfl, ha, hw, he, hor⟩ := hrel
    have HA := Lib.hid ha
    have HW := Lib.hid hw
    have HE := Lib.hid he
    clear ha hw he
    by_cases hlt : k < N
    · have hkl : k < l.length := by have := HN.out; omega
      obtain ⟨gl, ol, rfl, hc⟩ := (hv1.only (hor.trans (Only.drew _ _))).txt_at k hkl
      have hxl := hl _ (List.getElem_mem hkl)
      have hLk := HLG.out k hkl (by omega)
      have hsmall := hLs k
      have HSUCC : Hid (jall L sl (k + 1) = jall L sl k ++ (cutF 3 ((jall L sl k).length % 50 : Nat) (L.getD k []) ++ (if sl k then [sealFr] else []))) := Lib.hid rfl
      have HEND : Hid (jend L sl k = (jall L sl k).length + need (L.getD k []).length) := Lib.hid rfl
      have HTK : Hid (L.take (k + 1) = L.take k ++ [L.getD k []]) := Lib.hid (by
        have := HLL.out
        rw [List.take_succ_eq_append_getElem (by omega)]
        simp [List.getD_eq_getElem?_getD, List.getElem?_eq_getElem (show k < L.length by omega)])
      have hjl := jall_le L sl hLs k
      generalize L.getD k [] = s at hLk hsmall HSUCC HEND HTK
      generalize l[k] = x at hc hxl hLk
      unfold maxLen at hxl
      have hzx := size_toArray x
      have hex : ∀ m : Nat, m = min x.length 300 → (⟨x.toArray⟩ : ByteArray).extract 0 m = ⟨s.toArray⟩ := by
        intro m hm
        rw [extract_list, List.drop_zero, hm, hLk]
        congr 2
        by_cases hh : x.length ≤ 300
        · rw [Nat.min_eq_left hh, List.take_of_length_le (Nat.le_refl _), List.take_of_length_le hh]
        · rw [Nat.min_eq_right (by omega)]
      clear hLk
      have hkI : (k : Int) < (l.length : Int) := by omega
      have hk8 : (k : Int) < 8 := by omega
      go_upto_region 10 with fail
      refine wp_region_pick (fun W => W = wr.drew) [(0, 0), (1, 0), (2, 0), (3, 1), (4, 0), (5, 0), (6, 0), (7, 1), (8, 0), (9, 0), (10, 0), (11, 0)] (by kernel_rfl) (by kernel_rfl) (fun _ _ d _ _ h => by cases d <;> exact h) rfl ?_
      simp only [pickOps, List.getElem?_cons_zero, List.getElem?_cons_succ]
      iterate 9 (first | (refine wpL_pure (a' := ?_) ?_ rfl (fun W => ?_) ?_ ?_; rotate_left 2; (· go_simp; first | (go_bits; with_reducible rfl) | with_reducible rfl); (· simp only [put_some, List.setIfInBounds_toArray, List.set_cons_zero, List.set_cons_succ]; rfl)) | (refine wpL_held (a' := ?_) ?_ rfl (fun W hW => ?_) ?_ ?_; rotate_left 2; (· subst hW; go_simp; first | (go_bits; with_reducible rfl) | with_reducible rfl); (· simp only [put_some, List.setIfInBounds_toArray, List.set_cons_zero, List.set_cons_succ]; rfl)))
      obtain ⟨m, hm⟩ : ∃ m, m = min x.length 300 := ⟨_, rfl⟩
      have hex' := hex m hm
      have hm1 : m ≤ x.length := by omega
      clear hex
      refine wpL_pure (a' := ?_) (.int .i64 (m : Int)) rfl (fun W => ?_) ?_ ?_; rotate_left 1
      · rcases Nat.lt_or_ge x.length 300 with hq | hq
        · have e1 : m = x.length := by omega
          rw [e1]
          clear hex' hm
          go_simp
          omega
        · have e1 : m = 300 := by omega
          rw [e1]
          clear hex' hm
          go_simp
          omega
      · simp only [put_some, List.setIfInBounds_toArray, List.set_cons_zero, List.set_cons_succ]; rfl
      clear hm
      iterate 2 (refine wpL_pure (a' := ?_) ?_ rfl (fun W => ?_) ?_ ?_; rotate_left 2; (· go_simp; first | (go_bits; with_reducible rfl) | with_reducible rfl); (· simp only [put_some, List.setIfInBounds_toArray, List.set_cons_zero, List.set_cons_succ]; rfl))
      refine wpL_nil ?_
      clear hex' hm1 hc hzx hxl
      have HO2 := Lib.hid ((HO1.out.trans hor).trans (Only.drew _ _))
      have hkey : wr.drew.ownsRow w1.heap.size 23 4 u8 (jall L sl k).length (frs (jall L sl k)) ∧ wr.drew.ownsRow w1.heap.size 9 1 u9 k (txts (L.take k)) ∧ wr.drew.ownsRow w1.heap.size 3 1 u10 k (natCells ((List.range k).map (jend L sl))) := ⟨HA.out, HW.out, HE.out⟩
      have hor2 := hor.trans (Only.drew _ _)
      clear HA HW HE hor
      generalize wr.drew = wx at hkey HO2 hor2 ⊢
      obtain ⟨ha, hw, he⟩ := hkey
      generalize jall L sl k = A at HSUCC HEND hjl ha
      obtain ⟨aa, ac, hsa⟩ := sliceOf_own ha
      have hav := hsa.val
      subst hav
      have HA := Lib.hid ha
      have HW := Lib.hid hw
      have HE := Lib.hid he
      have HO3 := Lib.hid hor2
      clear ha hw he hsa hor2
      have hpk : pickI (A.length : Int) 50 = ((A.length % 50 : Nat) : Int) := by unfold pickI; rw [if_neg (by omega)]; omega
      have PK := Lib.hid (fun W => pick12_any W (A.length : Int) 50 (by unfold I64; omega) (by decide) (by decide))
      rw [hpk] at PK
      have hn6 : need s.length ≤ 6 := by unfold need; omega
      have CK := Lib.hid (fun W => cut_ok W 3 ((A.length % 50 : Nat) : Int) s (by unfold maxLen; omega) (by decide) (by decide) (by omega) (by omega))
      have NK := Lib.hid (fun W => need_nat W s.length (by omega))
      have hcl := cutF_length 3 ((A.length % 50 : Nat) : Int) s
      generalize cutF 3 ((A.length % 50 : Nat) : Int) s = C at CK HSUCC hcl
      have hnp := need_pos s.length
      generalize need s.length = n at CK NK hn6 HEND hcl hnp
      have hzs := size_toArray s
      have hAI : (A.length : Int) ≤ 1000 := by omega
      have hnq : ((n : Int) == (n : Int)) = true := by simp
      clear hpk
      go_upto_region 14 with (first
        | (go_at_call 22; refine (PK.out _).mono ?_; rintro e W1 ⟨rfl, rfl⟩)
        | (go_at_call 27; refine (CK.out _).mono ?_; rintro e W2 ⟨g, rfl, hg, hgle, ho2⟩; have HG := Lib.hid hg; have HO4 := Lib.hid ho2; clear hg hgle ho2)
        | (go_at_call 25; refine (NK.out _).mono ?_; rintro e W3 ⟨rfl, rfl⟩))
      have ha4 := ownsRow_only HA.out HO4.out (fun _ _ => id)
      have hw4 := ownsRow_only HW.out HO4.out (fun _ _ => id)
      have he4 := ownsRow_only HE.out HO4.out (fun _ _ => id)
      have HO5 := Lib.hid (HO3.out.trans HO4.out)
      have hsC : SliceOf W2 (.slice (some ⟨g, 0, none⟩) n n) n (frs C) (some ⟨g, 0, none⟩) n := sliceOf_block HG.out (by omega) n
      obtain ⟨v5, w5, hrun5, hown5, ho5⟩ := append_src_row (P := Try.prog) W2 w1.heap.size 35 35 35 23 _ 4 40 Try.underlying35 Try.info23 rfl (by decide) _ A.length (frs A) ha4 _ n (frs C) (src_slice Try.underlying35 hsC (by rw [frs_length, hcl]) (by decide) (frs_one' C)) (by omega) (by decide) HO5.out.size
      have HRUN5 := Lib.hid hrun5
      have HW5 := Lib.hid (ownsRow_only hw4 ho5 (fun b hb hb' => rows_apart hw4 ha4 (by decide) b hb hb'))
      have HE5 := Lib.hid (ownsRow_only he4 ho5 (fun b hb hb' => rows_apart he4 ha4 (by decide) b hb hb'))
      have HO6 := Lib.hid (HO5.out.trans' ho5 (fun y hy e => row_own_new ha4 hy e))
      rw [← frs_append, show A.length + n = (A ++ C).length by rw [List.length_append, hcl]] at hown5
      obtain ⟨a5, c5, hs5⟩ := sliceOf_own hown5
      have hv5 := hs5.val
      subst hv5
      have HA5 := Lib.hid hown5
      clear hs5 hown5 hrun5 ho5 ha4 hw4 he4 hsC
      -- the text
      obtain ⟨v6, w6, hrun6, hown6, ho6⟩ := append_one_row (P := Try.prog) w5 w1.heap.size 38 38 9 _ 1 16 Try.underlying38 Try.info9 rfl (by decide) u9 k _ HW5.out (txts [s]) rfl (txts_one _) (by omega) (by decide) HO6.out.size
      rw [← txts_append] at hown6
      have HRUN6 := Lib.hid hrun6
      have HA6 := Lib.hid (ownsRow_only HA5.out ho6 (fun b hb hb' => rows_apart HA5.out HW5.out (by decide) b hb hb'))
      have HE6 := Lib.hid (ownsRow_only HE5.out ho6 (fun b hb hb' => rows_apart HE5.out HW5.out (by decide) b hb hb'))
      have HO7 := Lib.hid (HO6.out.trans' ho6 (fun y hy e => row_own_new HW5.out hy e))
      have HW6 := Lib.hid hown6
      clear hrun6 hown6 ho6
      -- where it ends
      obtain ⟨v7, w7, hrun7, hown7, ho7⟩ := append_one_row (P := Try.prog) w6 w1.heap.size 49 49 3 _ 1 8 Try.underlying49 Try.info3 rfl (by decide) u10 k _ HE6.out [.int .i64 ((A ++ C).length : Int)] rfl (by simp [Value.oneCell']) (by omega) (by decide) HO7.out.size
      have HRUN7 := Lib.hid hrun7
      have HA7 := Lib.hid (ownsRow_only HA6.out ho7 (fun b hb hb' => rows_apart HA6.out HE6.out (by decide) b hb hb'))
      have HW7 := Lib.hid (ownsRow_only HW6.out ho7 (fun b hb hb' => rows_apart HW6.out HE6.out (by decide) b hb hb'))
      have HO8 := Lib.hid (HO7.out.trans' ho7 (fun y hy e => row_own_new HE6.out hy e))
      have HE7 : Hid (w7.ownsRow w1.heap.size 3 1 v7 (k + 1) (natCells ((List.range (k + 1)).map (jend L sl)))) := Lib.hid (by
        rw [List.range_succ, List.map_append, natCells_append]
        simp only [List.map_cons, List.map_nil, natCells, HEND.out]
        have e1 : (A ++ C).length = A.length + n := by rw [List.length_append, hcl]
        rw [e1] at hown7
        exact hown7)
      clear hrun7 hown7 ho7
      have hACl : (A ++ C).length ≤ 1000 := by rw [List.length_append, hcl]; omega
      have HACL : Hid ((A ++ C).length = A.length + n) := Lib.hid (by rw [List.length_append, hcl])
      rw [txts_cells] at HRUN6
      obtain ⟨AC, hAC⟩ : ∃ AC, AC = A ++ C := ⟨_, rfl⟩
      rw [← hAC] at HRUN5 HRUN7 HA7 HA5 HA6 HACL hACl
      rw [← List.append_assoc, ← hAC] at HSUCC
      clear hAC
      have hvsx := hvs1.only HO8.out
      go_upto_region 17 with (first
        | ((with_reducible refine wpList_append_run (.slice aa A.length ac) (.slice (some ⟨g, 0, none⟩) n n) (.slice a5 AC.length c5) HRUN5.out ?_ ?_ ?_); (· rfl); (· rfl))
        | ((with_reducible refine wpList_append_run u9 (.slice (some ⟨w5.heap.size, 0, none⟩) 1 1) v6 HRUN6.out ?_ ?_ ?_); (· rfl); (· rfl))
        | ((with_reducible refine wpList_append_run u10 (.slice (some ⟨w6.heap.size, 0, none⟩) 1 1) v7 HRUN7.out ?_ ?_ ?_); (· rfl); (· rfl)))
      have HSLK : Hid (sl k = sealB sb k) := Lib.hid (by rw [HSL.out])
      rcases Nat.eq_zero_or_pos sb.length with h0 | h0
      · have hq0 : (sb.length : Int) ≤ 0 := by omega
        have hslk : sl k = false := by rw [HSLK.out]; unfold sealB; rw [decide_eq_false (by omega)]; rfl
        rw [hslk] at HSUCC
        simp only [Bool.false_eq_true, if_false, List.append_nil] at HSUCC
        clear hslk h0 hvsx
        go_wp2_with fail
        go_roundw
        case rel => exact ⟨k + 1, by omega, by go_num, by rw [HSUCC.out]; exact HA7.out, by rw [HTK.out]; exact HW7.out, HE7.out, HO8.out⟩
        case measure => simp [intOf] <;> omega
      · have hqp : (0 : Int) < (sb.length : Int) := by omega
        have hql : k % sb.length < sb.length := Nat.mod_lt _ h0
        obtain ⟨gs, os, rfl, hcs⟩ := hvsx.cell (k % sb.length) (.int .u8 (sb[k % sb.length])) (by rw [List.getElem?_map, List.getElem?_eq_getElem hql]; rfl)
        have hx := hsb _ (List.getElem_mem hql)
        have hsx : sealB sb k = (sb[k % sb.length] % 2 == 1) := by
          unfold sealB
          rw [decide_eq_true h0, Bool.true_and, List.getD_eq_getElem?_getD, List.getElem?_eq_getElem hql, Option.getD_some]
        rw [hsx] at HSLK
        generalize sb[k % sb.length] = x8 at hcs hx HSLK
        have hqi : (k : Int) % (sb.length : Int) = ((k % sb.length : Nat) : Int) := by omega
        have hqI : ((k % sb.length : Nat) : Int) < (sb.length : Int) := by omega
        generalize k % sb.length = q at hcs hqi hqI hql
        obtain ⟨hx1, hx2⟩ := hx
        clear hsx h0 hvsx
        rcases Bool.eq_false_or_eq_true (x8 % 2 == 1) with hb | hb
        · rw [hb] at HSLK
          have hslk := HSLK.out
          rw [hslk] at HSUCC
          simp only [if_true] at HSUCC
          obtain ⟨v8, w8, hrun8, hown8, ho8⟩ := append_one_row (P := Try.prog) w7 w1.heap.size 35 35 23 _ 4 40 Try.underlying35 Try.info23 rfl (by decide) _ AC.length _ HA7.out [.int .i64 3, .int .i64 0, .int .i64 4, .string ⟨#[]⟩] rfl (by simp [Value.oneCell']) (by omega) (by decide) HO8.out.size
          rw [show [Value.int .i64 3, .int .i64 0, .int .i64 4, .string ⟨#[]⟩] = frs [sealFr] from rfl, ← frs_append] at hown8
          have hlen8 : (AC ++ [sealFr]).length = AC.length + 1 := by simp
          rw [← hlen8] at hown8
          have HRUN8 := Lib.hid hrun8
          have HA8 := Lib.hid hown8
          have HW8 := Lib.hid (ownsRow_only HW7.out ho8 (fun b hb hb' => rows_apart HW7.out HA7.out (by decide) b hb hb'))
          have HE8 := Lib.hid (ownsRow_only HE7.out ho8 (fun b hb hb' => rows_apart HE7.out HA7.out (by decide) b hb hb'))
          have HO9 := Lib.hid (HO8.out.trans' ho8 (fun y hy e => row_own_new HA7.out hy e))
          clear hrun8 hown8 ho8 hlen8 hslk
          go_wp2_with ((with_reducible refine wpList_append_run (.slice a5 AC.length c5) (.slice (some ⟨w7.heap.size, 0, none⟩) 1 1) v8 HRUN8.out ?_ ?_ ?_); (· rfl); (· rfl))
          go_roundw
          case rel => exact ⟨k + 1, by omega, by go_num, by rw [HSUCC.out]; exact HA8.out, by rw [HTK.out]; exact HW8.out, HE8.out, HO9.out⟩
          case measure => simp [intOf] <;> omega
        · rw [hb] at HSLK
          have hslk := HSLK.out
          rw [hslk] at HSUCC
          simp only [Bool.false_eq_true, if_false, List.append_nil] at HSUCC
          clear hslk
          go_wp2_with fail
          go_roundw
          case rel => exact ⟨k + 1, by omega, by go_num, by rw [HSUCC.out]; exact HA7.out, by rw [HTK.out]; exact HW7.out, HE7.out, HO8.out⟩
          case measure => simp [intOf] <;> omega
    · obtain rfl : k = N := by omega
      rw [List.take_of_length_le (by rw [HLL.out]; omega)] at HW
      have hJ := joinF_jall (sl := sl) hLs k (by rw [HLL.out]; omega)
      rw [List.take_of_length_le (by rw [HLL.out]; omega)] at hJ
      have hT := run_jall_take (sl := sl) hLs k (by rw [HLL.out]; omega)
      have hjle := jall_le L sl hLs k
      have hwf : ∀ f ∈ jall L sl k, f.s.length ≤ maxLen := fun f hf => by
        have := (f.right_iff.1 (jall_right L sl hLs k f hf)).2.2.2.2.2.2
        unfold maxLen; omega
      obtain ⟨A, hA⟩ : ∃ A, A = jall L sl k := ⟨_, rfl⟩
      rw [← hA] at hJ hT hjle hwf HA
      obtain ⟨aa, ac, hsa⟩ := sliceOf_own HA.out
      have hav := hsa.val
      subst hav
      obtain ⟨wa, wc, hsw⟩ := sliceOf_own HW.out
      have hwv := hsw.val
      subst hwv
      obtain ⟨ea, ec, hse⟩ := sliceOf_own HE.out
      have hev := hse.val
      subst hev
      have hcA := ownsRow_cap HA.out
      have hcW := ownsRow_cap HW.out
      have SA := Lib.hid hsa
      have SW := Lib.hid hsw
      have SE := Lib.hid hse
      have HOR := Lib.hid hor
      have HLw := HLL.out
      clear hsa hsw hse hor HA HW HE hlt hk hv1 hvs1 hl hsb hA
      obtain ⟨p, hp⟩ : ∃ p : Nat, (p : Int) = ct % ((A.length : Int) + 1) := ⟨(ct % ((A.length : Int) + 1)).toNat, by have := Int.emod_nonneg ct (show (A.length : Int) + 1 ≠ 0 by omega); omega⟩
      have hpl : p ≤ A.length := by have := Int.emod_lt_of_pos ct (show (0 : Int) < (A.length : Int) + 1 by omega); omega
      obtain ⟨hT1, hT2, hT3⟩ := hT p hpl
      have JA := Lib.hid (fun W (hS : SliceOf W (.slice aa A.length ac) A.length (frs A) aa ac) => join_any W _ A aa ac hS hwf (by omega))
      rw [hJ] at JA
      simp only at JA
      have HFR := Lib.hid (fun W (hS : SliceOf W (.slice aa A.length ac) A.length (frs A) aa ac) => join_any W (.slice aa p ac) (A.take p) aa ac (by
        have h1 := hS.front (m := p) (size := 4) hpl ac
        have h2 : (A.take p).length = p := by simp; omega
        rw [h2]
        have h3 : (frs A).take (p * 4) = frs (A.take p) := by
          by_cases e : p < A.length
          · obtain ⟨e1, e2⟩ := frs_split A p e
            rw [e1]; exact List.take_left' e2
          · have : p = A.length := by omega
            subst this
            rw [List.take_of_length_le (by rw [frs_length]; omega), List.take_of_length_le (Nat.le_refl _)]
        rw [h3] at h1
        exact h1) (fun f hf => hwf f (List.mem_of_mem_take hf)) (by simp; omega))
      have e1 : (joinF (A.take p)).1 = (Js.new.run (A.take p)).out := rfl
      have e2 : (joinF (A.take p)).2 = (Js.new.run (A.take p)).whole := rfl
      rw [e1, e2, hT1] at HFR
      have hmk := jmany_le L sl p k
      obtain ⟨M, hM⟩ : ∃ M, M = jmany L sl p k := ⟨_, rfl⟩
      generalize (Js.new.run (A.take p)).whole = wh at HFR hT2 hT3
      rw [← hM] at HFR hT3 hmk
      have HM := Lib.hid hM
      have HT3 := Lib.hid hT3
      have HP := Lib.hid hp
      clear hT1 e1 e2 hM hT hJ hT3 hp
      have hAq : ((A.length : Int) == (A.length : Int)) = true := by simp
      go_upto_region 8 with fail
      go_cut [32] from 25 to 32 (fun s32 wx => s32 = .bool false ∧ wr = wx)
      case first =>
        rcases Nat.lt_or_ge l.length 8 with h8 | h8
        · have hq : (l.length : Int) ≤ (k : Int) := by have := HN.out; omega
          go_wp2_with fail
          go_meet
          exact ⟨rfl, rfl⟩
        · have hq : (8 : Int) ≤ (k : Int) := by have := HN.out; omega
          by_cases hq2 : (k : Int) < (l.length : Int)
          · go_wp2_with fail
            go_meet
            exact ⟨congrArg Value.bool (decide_eq_false (by omega)), rfl⟩
          · have hq3 : (l.length : Int) ≤ (k : Int) := by omega
            clear hq2
            go_wp2_with fail
            go_meet
            exact ⟨rfl, rfl⟩
      case rest =>
      obtain ⟨rfl, rfl⟩ := hcut
      go_wp2_with fail
      refine (JA.out _ SA.out).mono ?_
      rintro e W2 ⟨r2, rfl, or2, o2⟩
      have hLw' : L.length = k := HLw
      obtain ⟨ra, rc, hsr⟩ := sliceOf_own or2
      have O2 := Lib.hid o2
      have SR := Lib.hid hsr
      have hrv := hsr.val
      have SW2 := Lib.hid (SW.out.only o2)
      have SA2 := Lib.hid (SA.out.only o2)
      have SE2 := Lib.hid (SE.out.only o2)
      clear or2 o2 hsr
      rw [hLw'] at hrv SR
      subst hrv
      have TX := Lib.hid (fun W h1 h2 => sameTexts_any W (.slice ra k rc) (.slice wa k wc) L L ra wa rc wc (by rw [hLw']; exact h1) (by rw [hLw']; exact h2))
      clear hLw' HLw
      go_wp2_with fail
      refine (TX.out _ SR.out SW2.out).mono ?_
      rintro e W3 ⟨rfl, o3⟩
      have O3 := Lib.hid o3
      have SW3 := Lib.hid (SW2.out.only o3)
      have SA3 := Lib.hid (SA2.out.only o3)
      have SE3 := Lib.hid (SE2.out.only o3)
      clear o3
      go_upto_region 23 with fail
      rw [← HP.out]
      have hpI : (p : Int) ≤ (ac : Int) := by omega
      have hMI : (M : Int) ≤ (wc : Int) := by omega
      go_wp2_with fail
      refine (HFR.out _ SA3.out).mono ?_
      rintro e W4 ⟨r4, rfl, or4, o4⟩
      have hLT : (L.take M).length = M := by rw [List.length_take, HLL.out]; omega
      rw [hLT] at or4
      obtain ⟨rb, rbc, hsb⟩ := sliceOf_own or4
      have hrv := hsb.val
      subst hrv
      have SB := Lib.hid hsb
      have hfw := (SW3.out.only o4).front (m := M) (size := 1) hmk wc
      have hft : (txts L).take (M * 1) = txts (L.take M) := by rw [Nat.mul_one, txts, ← List.map_take]; rfl
      rw [hft] at hfw
      have SF := Lib.hid hfw
      have SE4 := Lib.hid (SE3.out.only o4)
      have O4 := Lib.hid o4
      have TY := Lib.hid (fun W h1 h2 => sameTexts_any W (.slice rb M rbc) (.slice wa M wc) (L.take M) (L.take M) rb wa rbc wc (by rw [hLT]; exact h1) (by rw [hLT]; exact h2))
      clear hsb or4 hfw hft o4 hLT
      go_wp2_with fail
      have hEq : ∀ q, q < k → (natCells ((List.range k).map (jend L sl)))[q]? = some (.int .i64 (jend L sl q : Nat)) := by
        intro q hq
        simp [natCells, hq]
      have HEq := Lib.hid hEq
      clear hEq
      go_loopw [20, 21] (fun mn i wr' => ∃ q : Nat, q ≤ k ∧ i = .int .i64 q ∧ mn = .int .i64 (jmany L sl p q : Nat) ∧ W4 = wr') (fun mn i _ => k - (intOf i).toNat)
      case atStart => exact ⟨0, by omega, rfl, rfl, rfl⟩
      case round =>
        obtain ⟨q, hq, rfl, rfl, rfl⟩ := hrel
        by_cases hqk : q < k
        · obtain ⟨ge, oe, rfl, hce⟩ := SE4.out.cell q _ (HEq.out q hqk)
          have hqI : (q : Int) < (k : Int) := by omega
          have HJS : Hid (jmany L sl p (q + 1) = jmany L sl p q + (if jend L sl q ≤ p then 1 else 0)) := Lib.hid rfl
          have hjml := jmany_le L sl p q
          generalize jmany L sl p q = mq at HJS hjml
          generalize jend L sl q = jq at hce HJS
          by_cases hjp : jq ≤ p
          · rw [if_pos hjp] at HJS
            have hjI : (jq : Int) ≤ (p : Int) := by omega
            go_wp2_with fail
            go_roundw
            case rel => exact ⟨q + 1, by omega, by go_num, by rw [HJS.out]; go_num, trivial⟩
            case measure => simp [intOf] <;> omega
          · rw [if_neg hjp] at HJS
            have hjI : (p : Int) < (jq : Int) := by omega
            go_wp2_with fail
            go_roundw
            case rel => exact ⟨q + 1, by omega, by go_num, by rw [HJS.out]; go_num, trivial⟩
            case measure => simp [intOf] <;> omega
        · obtain rfl : q = k := by omega
          rw [← HM.out]
          have hwp : (wh : Int) ≤ (p : Int) := by omega
          have hMM : ((M : Int) == (M : Int)) = true := by simp
          rcases Nat.eq_zero_or_pos M with hM0 | hM0
          · have hMz : ((M : Int) == 0) = true := by simp [hM0]
            clear hM0
            go_wp2_with fail
            refine (TY.out _ SB.out SF.out).mono ?_
            rintro e W5 ⟨rfl, o5⟩
            go_wp2_with fail
            go_ret
            exact ⟨rfl, HO1.out.trans (HOR.out.trans (O2.out.trans (O3.out.trans (O4.out.trans o5))))⟩
          · have hje : jend L sl (M - 1) ≤ wh := by
              rcases HT3.out with h | h
              · omega
              · exact h
            have hMz : ((M : Int) == 0) = false := by simp; omega
            go_wp2_with fail
            refine (TY.out _ SB.out SF.out).mono ?_
            rintro e W5 ⟨rfl, o5⟩
            obtain ⟨ge, oe, rfl, hce⟩ := (SE4.out.only o5).cell (M - 1) _ (HEq.out (M - 1) (by omega))
            have HO5 := Lib.hid o5
            clear o5
            generalize jend L sl (M - 1) = jm at hce hje
            have hjI : (jm : Int) ≤ (wh : Int) := by omega
            obtain ⟨m, hm⟩ : ∃ m : Nat, m = M - 1 := ⟨_, rfl⟩
            rw [← hm] at hce
            have hmi : (M : Int) - 1 = (m : Int) := by omega
            have hmk' : (m : Int) < (q : Int) := by omega
            clear hm
            go_wp2_with fail
            go_ret
            exact ⟨rfl, HO1.out.trans (HOR.out.trans (O2.out.trans (O3.out.trans (O4.out.trans HO5.out))))⟩

set_option maxRecDepth 100000 in
theorem frameJoins_lifted (os : Os) (started : os.Started) (H : Type) (enc : TypeId × Value → H) :
    ReturnsInHanded {} Try.checked os 7 .any (Rows.frameJoinsSpec.pre6 enc Try.prog Try.f7 Rows.frameJoinsRow.domain false) (Rows.frameJoinsSpec.post enc Try.prog Try.f7 false true false false) := by
  refine returnsInHanded_of_change (C := Try.checked) Try.own started (by kernel_rfl) Try.func7
    (ChangeSpec.witness6 (enc := enc) (C := Try.checked) false ⟨#[], #[.slice none 0 0, .slice none 0 0, .int .u8 0], []⟩ 8 (by kernel_rfl) (by kernel_rfl) (by kernel_rfl) (by kernel_rfl)) ?_
  intro W base args ds gs before hval0 hW hcnd _
  have hval : ∀ (j : Nat) t v, Try.f7.params[j]? = some t → args[j]? = some v → Value.okWide Try.prog W .any base t v := hval0
  have hW' := hW
  obtain ⟨p, q, hA0, hV, rfl, hfz, hnd⟩ := hW
  have hA : DataW.TrodAll enc Try.prog W 0 (fun _ => true) true Try.f7.params.toList args.toList ds p := hA0
  rw [Try.params7] at hA hval
  obtain ⟨v0, vs0, d0, ds0, p0, q0, hargs, rfl, rfl, h0, r0⟩ := trodAll_cons hA
  obtain ⟨v1, vs1, d1, ds1, p1, q1, rfl, rfl, rfl, h1, r1⟩ := trodAll_cons r0
  obtain ⟨v2, vs2, d2, ds2, p2, q2, rfl, rfl, rfl, h2, r2⟩ := trodAll_cons r1
  obtain ⟨rfl, rfl, rfl⟩ := trodAll_nil r2
  obtain rfl : args = #[v0, v1, v2] := by cases args; simp_all
  obtain ⟨rfl, rfl⟩ := trodVars_none hV
  clear hA0 hval0
  obtain ⟨l, ao, cap, hl, wl⟩ := law_texts Try.underlying38 Try.underlying9 (by kernel_rfl) (hval 0 38 v0 rfl rfl) h0
  obtain ⟨sb, so, sc, hs, ws⟩ := law_ints Try.underlying30 Try.underlying5 (by kernel_rfl) (hval 1 30 v1 rfl rfl) h1
  obtain ⟨c, rfl, _, _, wc⟩ := open_int Try.underlying5 (hval 2 5 v2 rfl rfl) h2
  refine (frameJoins_walk W v0 v1 l sb c ao so cap sc hl hs wl (fun x hx => bounds_u8 (ws x hx)) (bounds_u8 wc)).mono fun e W' ⟨he, ho⟩ => ?_
  subst he
  exact ⟨_, rfl, law_post rfl hW' (by kernel_rfl) (of_decide_eq_true (by kernel_rfl)) rfl rfl rfl ho⟩
theorem frameJoins_holds : Rows.FrameJoinsSaid :=
  OpenClaim.holds_of_wide 7 Try.f7 rfl rfl rfl rfl rfl rfl rfl ⟨rfl, rfl, rfl, rfl, rfl⟩ rfl rfl rfl rfl rfl (by kernel_rfl) Try.func7 (by kernel_rfl)
    (of_decide_eq_true (by kernel_rfl)) (by unfold Func.isWrapper; first | (rw [if_pos (by decide +kernel)]; kernel_rfl) | (rw [if_neg (by decide +kernel)]; exact ⟨rfl, rfl⟩))
    (fun os started H enc _ => frameJoins_lifted os started H enc)
end Go.Proofs.Ytlgefjcfnnjkbaa
