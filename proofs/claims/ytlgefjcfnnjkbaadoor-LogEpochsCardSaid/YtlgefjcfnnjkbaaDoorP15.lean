/- Parts of the proof, one behind the other: LogY, LogS, DiskV, LogD. Each part's own words say what it proves; no conditions. -/
import Derived.Test.YtlgefjcfnnjkbaaDoorP02
import Derived.Test.YtlgefjcfnnjkbaaDoorP09
import Derived.Test.YtlgefjcfnnjkbaaDoorP14
set_option linter.unusedVariables false
set_option linter.unusedSimpArgs false
set_option linter.unusedSectionVars false
/- What a link says, as the program writes it; the first free segment. No conditions. -/
namespace Go.Proofs.YtlgefjcfnnjkbaaDoor
set_option maxRecDepth 100000
open Go.RowKit

theorem chainText_succ (c : List Us) (k : Nat) (h : k < c.length) : chainText c (k + 1) = chainText c k ++ useText (c.getD k Us.no) := by
  unfold chainText
  rw [List.take_succ_eq_append_getElem h, List.map_append, List.flatten_append, List.getD_eq_getElem?_getD, List.getElem?_eq_getElem h]
  simp
theorem chainText_len (c : List Us) (k : Nat) (h : k ≤ c.length) : (chainText c k).length = 4 * k := chainText_length c k h
theorem useText_cells (u : Us) (h1 : 0 ≤ u.e) (h2 : u.e ≤ 16777215) (h3 : 0 ≤ u.c) (h4 : u.c ≤ 64) : bvs (useText u) = [.int .u8 (u.e / 65536), .int .u8 (u.e / 256 % 256), .int .u8 (u.e % 256), .int .u8 u.c] := by
  rw [useText_eq]
  obtain ⟨e, he⟩ : ∃ e : Nat, u.e = (e : Int) := ⟨u.e.toNat, by omega⟩
  obtain ⟨c, hc⟩ : ∃ c : Nat, u.c = (c : Int) := ⟨u.c.toNat, by omega⟩
  rw [he, hc]
  simp only [bvs, bv, List.map_cons, List.map_nil, Int.toNat_natCast, UInt8.toNat_ofNat']
  congr 1
  · congr 1; omega
  · congr 1
    · congr 1; omega
    · congr 1
      · congr 1; omega
      · congr 1; congr 1; omega
theorem wpList_runOp {P : Program} {ops : Array Oper} {rest : List Oper} {a : Act} {Q : Exit → Act → World → Prop} {W W' : World} {o : Oper} (hg : o.guard = none) (v : Value) (h : (execOp a.eval o).run P W = .ok (.value v) W') (hK : wpList P ops Q rest (a.put o.dst v) W') : wpList P ops Q (o :: rest) a W := wpList_run hg h hK

set_option maxHeartbeats 4000000 in
theorem text_any (w : World) (cb o : Nat) (c : List Us) (segs : Nat) (hC : CAt w cb o c) (hs : segs ≤ 12) (hr : ∀ k, 0 ≤ (c.getD k Us.no).e ∧ (c.getD k Us.no).e ≤ 16777215 ∧ 0 ≤ (c.getD k Us.no).c ∧ (c.getD k Us.no).c ≤ 64) :
    Calls Tryd.prog 45 #[.pointer (some ⟨cb, o, none⟩), .int .i64 (segs : Int)] w fun e w' => e = .returned (.string ⟨(chainText c segs).toArray⟩) ∧ Only (fun _ => False) w w' := by
  have hI12 : (segs : Int) ≤ 12 := by omega
  go_enter Tryd.func45, Tryd.ntmps45
  go_wp2_with fail
  go_loopw [5, 13] (fun v i wr => ∃ k : Nat, k ≤ segs ∧ i = .int .i64 (k : Int) ∧ Hid (wr.ownsRow w.heap.size 5 1 v (4 * k) (bvs (chainText c k))) ∧ Only (fun _ => False) w wr) (fun v i _ => 13 - (intOf i).toNat)
  case atStart => exact ⟨0, by omega, rfl, Lib.hid ⟨rfl, .inl ⟨rfl, rfl⟩⟩, Only.refl _ _⟩
  case round =>
    obtain ⟨k, hk, rfl, hrow, hor⟩ := hrel
    by_cases hks : k < segs
    · have hI : (k : Int) < (segs : Int) := by omega
      have hI0 : (0 : Int) ≤ (k : Int) := by omega
      have hC1 := hC.only hor id
      have hus := hC1.us (k := k) (by omega)
      obtain ⟨h1, h2, h3, h4⟩ := hr k
      have htx := chainText_succ c k (by rw [hC.len]; omega)
      generalize c.getD k Us.no = u at hus htx h1 h2 h3 h4
      have HTX := Lib.hid htx
      have HUC := Lib.hid (useText_cells u h1 h2 h3 h4)
      have hul : (useText u).length = 4 := by simp [useText, be_length]
      have hal := heap_alloc_new wr (.cells #[.int .i64 0, .int .i64 0] 58)
      clear hC1 htx
      go_upto_region 5 with first
        | ((with_reducible refine wpList_load_part cb (o + k * 2) [.int .i64 u.e, .int .i64 u.c] ?_ ?_ ?_ ?_ ?_); (· exact ⟨_, Tryd.underlying58, rfl⟩); (· exact Tryd.sizeUse); (· exact hus); (· rfl))
        | ((with_reducible refine wpList_store_block wr.heap.size 58 [.int .i64 u.e, .int .i64 u.c] [.int .i64 0, .int .i64 0] ?_ ?_ ?_ ?_ ?_ ?_ ?_); (· exact Tryd.sizeUse); (· exact hal); (· rfl); (· simp [Value.oneCell']); (· rfl); (· rfl))
      have hg1 := setRow_heap _ wr.heap.size _ #[.int .i64 u.e, .int .i64 u.c] _ _ hal
      have hoS := ((Only.alloc wr (.cells #[.int .i64 0, .int .i64 0] 58) (fun _ => False)).trans' (Only.setRow (wr.alloc (.cells #[.int .i64 0, .int .i64 0] 58)) wr.heap.size #[.int .i64 u.e, .int .i64 u.c] (S := fun x => x = wr.heap.size) rfl) (fun y hy e => by omega))
      clear hus hal
      generalize (wr.alloc (.cells #[.int .i64 0, .int .i64 0] 58)).setRow wr.heap.size #[.int .i64 u.e, .int .i64 u.c] = w2 at hg1 hoS ⊢
      generalize wr.heap.size = ub at *
      have hc0 : w2.cell? ⟨ub, 0, none⟩ = some (.int .i64 u.e) := cell_at hg1 0
      have hc1 : w2.cell? ⟨ub, 1, none⟩ = some (.int .i64 u.c) := cell_at hg1 1
      have hrow2 := ownsRow_only hrow.out hoS (fun _ _ h => h)
      have hO2 := hor.trans hoS
      have hA := Only.alloc w2 (.cells (bvs (useText u)).toArray 5) (fun _ => False)
      have hrow3 := ownsRow_only hrow2 hA (fun _ _ h => h)
      have hnew : ∀ j x, (bvs (useText u))[j]? = some x → (w2.alloc (.cells (bvs (useText u)).toArray 5)).cell? ((⟨w2.heap.size, 0, none⟩ : Addr).add j) = some x :=
        (has_of_block' (o := 0) (heap_alloc_new w2 _) (by simp)).adds
      obtain ⟨v6, w6, hrun6, hown6, ho6, hfr6⟩ := append_src_row2 (P := Tryd.prog) (w2.alloc (.cells (bvs (useText u)).toArray 5)) w.heap.size 47 47 47 5 (.int .u8 0) 1 1 Tryd.underlying47 Tryd.info5 rfl (by decide) u5 (4 * k) _ hrow3 (.slice (some ⟨w2.heap.size, 0, none⟩) 4 4) 4 (bvs (useText u)) (Src.ofSlice _ Tryd.underlying47 _ 4 4 _ (by rw [length_bvs, hul]) hnew (bvs_one _)) (by omega) (by decide) (by have := hO2.size; have := hA.size; omega)
      have HRUN := Lib.hid hrun6
      have HOWN : Hid (w6.ownsRow w.heap.size 5 1 v6 (4 * (k + 1)) (bvs (chainText c (k + 1)))) := Lib.hid (by rw [HTX.out, bvs_append]; exact hown6)
      have HOO := Lib.hid ((hO2.trans hA).trans' ho6 (fun y hy e => row_own_new hrow3 hy e))
      clear hrun6 hown6 ho6 hfr6 hnew hrow3 hA hO2 hrow2 hg1 hoS hor hrow
      go_wp2_with first
        | ((with_reducible refine wpList_buildSlice_bytes 5 (.int .u8 0) 1 (useText u) ?_ ?_ ?_ ?_ ?_ ?_ ?_); (· exact hul); (· exact Tryd.underlying47); (· exact Tryd.info5); (· decide); (· decide); (· simp only [List.map_toArray, List.map_cons, List.map_nil, HUC.out, List.zipIdx_cons, List.zipIdx_nil]; go_simp))
        | ((with_reducible refine wpList_append_run u5 (.slice (some ⟨w2.heap.size, 0, none⟩) 4 4) v6 HRUN.out ?_ ?_ ?_); (· rfl); (· rfl))
      exact ⟨⟨k + 1, by omega, rfl, HOWN, HOO.out⟩, by simp [intOf]; omega⟩
    · obtain rfl : k = segs := by omega
      have hI : ¬ (k : Int) < (k : Int) := by omega
      have hconv := run_bytes_string_own (P := Tryd.prog) wr 47 9 5 w.heap.size (4 * k) u5 (chainText c k) Tryd.underlying47 Tryd.underlying5 Tryd.underlying9 hrow.out
      have HCV := Lib.hid hconv
      clear hconv hrow
      obtain ⟨T, hT⟩ : ∃ T, T = chainText c k := ⟨_, rfl⟩
      rw [← hT] at HCV
      have HT := Lib.hid hT
      clear hT
      go_wp2_with ((with_reducible refine wpList_convert_run u5 (.string ⟨T.toArray⟩) HCV.out ?_ ?_); (· rfl))
      go_ret
      exact ⟨by rw [← HT.out]; rfl, hor⟩

theorem firstFree_at {c : List Us} {segs k : Nat} (hk : k < segs) (h0 : c.getD k Us.no = Us.no) (hb : ∀ j, j < k → c.getD j Us.no ≠ Us.no) : firstFree c segs = some k := by
  unfold firstFree
  rw [List.find?_range_eq_some]
  refine ⟨by rw [h0]; rfl, by simpa using hk, fun j hj => ?_⟩
  have := hb j hj
  simpa using this
theorem firstFree_none {c : List Us} {segs : Nat} (hb : ∀ j, j < segs → c.getD j Us.no ≠ Us.no) : firstFree c segs = none := by
  unfold firstFree
  rw [List.find?_eq_none]
  intro j hj
  have := hb j (by simpa using hj)
  simpa using this
def idxI (r : Option Nat) : Int := match r with | some k => (k : Int) | none => -1
theorem Tryd.eqlUse0 (a b : Int) (W : World) : (binOp .eql 58 (.agg #[.int .i64 0, .int .i64 0]) (.agg #[.int .i64 a, .int .i64 b])).run Tryd.prog W = .ok (.bool (decide (a = 0 ∧ b = 0))) W := by
  by_cases ha : a = 0 <;> by_cases hb : b = 0
  · subst ha; subst hb; simp [go_sem]
  · have : (0 == b) = false := by simpa using fun e => hb e.symm
    simp [go_sem, ha, hb, this]
  · have : (0 == a) = false := by simpa using fun e => ha e.symm
    simp [go_sem, ha, hb, this]
  · have : (0 == a) = false := by simpa using fun e => ha e.symm
    simp [go_sem, ha, hb, this]

set_option maxHeartbeats 4000000 in
theorem indexUse_any (w : World) (cb o : Nat) (c : List Us) (segs cap : Nat) (hC : CAt w cb o c) (hs : segs ≤ 12) :
    Calls Tryd.prog 44 #[.slice (some ⟨cb, o, none⟩) segs cap, .agg #[.int .i64 0, .int .i64 0]] w fun e w' => e = .returned (.int .i64 (idxI (firstFree c segs))) ∧ Only (fun _ => False) w w' := by
  have hbx := heap_alloc_any w (.cells #[.int .i64 0, .int .i64 0] 58)
  have hoA := Only.alloc w (.cells #[.int .i64 0, .int .i64 0] 58) (fun _ => False)
  have hI12 : (segs : Int) ≤ 12 := by omega
  obtain ⟨F, hF⟩ : ∃ F, F = firstFree c segs := ⟨_, rfl⟩
  rw [← hF]
  have HF := Lib.hid hF
  clear hF
  go_enter Tryd.func44, Tryd.ntmps44
  go_wp2_with fail
  generalize w.alloc (.cells #[.int .i64 0, .int .i64 0] 58) = w0 at hbx hoA ⊢
  go_loopw [8] (fun i wr => ∃ k : Nat, k ≤ segs ∧ i = .int .i64 (k : Int) ∧ Hid (∀ j, j < k → c.getD j Us.no ≠ Us.no) ∧ Only (fun _ => False) w0 wr) (fun i _ => 13 - (intOf i).toNat)
  case atStart => exact ⟨0, by omega, rfl, Lib.hid (fun j h => by omega), Only.refl _ _⟩
  case round =>
    obtain ⟨k, hk, rfl, hbefore, hor⟩ := hrel
    by_cases hks : k < segs
    · have hI : (k : Int) < (segs : Int) := by omega
      have hI0 : (0 : Int) ≤ (k : Int) := by omega
      have hC1 := (hC.only hoA id).only hor id
      have hus := hC1.us (k := k) (by omega)
      have hbr : Has wr w.heap.size 0 [.int .i64 0, .int .i64 0] := has_of_block' (hor.keep hbx id) (by simp)
      generalize hu : c.getD k Us.no = u at hus
      have HU := Lib.hid hu
      clear hu hC1
      go_upto_region 4 with fail
      refine wp_region_pick (fun W => Has W w.heap.size 0 [.int .i64 0, .int .i64 0] ∧ Has W cb (o + k * 2) [.int .i64 u.e, .int .i64 u.c]) [(0, 1), (1, 0), (2, 0), (3, 0), (4, 1), (5, 0)] (by kernel_rfl) (by kernel_rfl) (fun _ _ d _ _ h => by cases d <;> exact h) ⟨hbr, hus⟩ ?_
      have HOr := Lib.hid (hor.trans (Only.drew wr (fun _ => False)))
      clear hus hbr hor
      generalize wr.drew = w1 at HOr ⊢
      simp only [pickOps, List.getElem?_cons_zero, List.getElem?_cons_succ]
      refine wpL_held (a' := ?_) (.agg #[.int .i64 0, .int .i64 0]) rfl (fun W hW => exec_load rfl (p := .pointer (some ⟨w.heap.size, 0, none⟩)) rfl (run_load_part W w.heap.size 0 2 [.int .i64 0, .int .i64 0] 58 _ Tryd.underlying58 rfl Tryd.sizeUse rfl hW.1)) ?_ ?_; rotate_left; (· simp only [put_some, List.setIfInBounds_toArray, List.set_cons_zero, List.set_cons_succ]; rfl)
      iterate 3 (refine wpL_pure (a' := ?_) ?_ rfl (fun W => ?_) ?_ ?_; rotate_left 2; (· go_simp; first | (go_bits; with_reducible rfl) | with_reducible rfl); (· simp only [put_some, List.setIfInBounds_toArray, List.set_cons_zero, List.set_cons_succ]; rfl))
      refine wpL_held (a' := ?_) (.agg #[.int .i64 u.e, .int .i64 u.c]) rfl (fun W hW => exec_load rfl (p := .pointer (some ⟨cb, o + k * 2, none⟩)) rfl (run_load_part W cb (o + k * 2) 2 [.int .i64 u.e, .int .i64 u.c] 58 _ Tryd.underlying58 rfl Tryd.sizeUse rfl hW.2)) ?_ ?_; rotate_left; (· simp only [put_some, List.setIfInBounds_toArray, List.set_cons_zero, List.set_cons_succ]; rfl)
      refine wpL_pure (a' := ?_) (.bool (decide (u.e = 0 ∧ u.c = 0))) rfl (fun W => exec_binOp (vx := .agg #[.int .i64 0, .int .i64 0]) (vy := .agg #[.int .i64 u.e, .int .i64 u.c]) rfl rfl rfl (by kernel_rfl) (Tryd.eqlUse0 u.e u.c W)) ?_ ?_; rotate_left; (· simp only [put_some, List.setIfInBounds_toArray, List.set_cons_zero, List.set_cons_succ]; rfl)
      refine wpL_nil ?_
      by_cases hz : u.e = 0 ∧ u.c = 0
      · have hd : decide (u.e = 0 ∧ u.c = 0) = true := decide_eq_true hz
        have HFF := Lib.hid (show F = some k by rw [HF.out]; exact firstFree_at hks (by rw [HU.out]; cases u; simp only at hz; rw [hz.1, hz.2]; rfl) hbefore.out)
        generalize decide (u.e = 0 ∧ u.c = 0) = D at hd ⊢
        subst hd
        clear hz
        go_wp2_with fail
        go_ret
        exact ⟨by rw [HFF.out]; rfl, hoA.trans HOr.out⟩
      · have hd : decide (u.e = 0 ∧ u.c = 0) = false := decide_eq_false hz
        have HFF := Lib.hid (show ∀ j, j < k + 1 → c.getD j Us.no ≠ Us.no by
          intro j hj
          by_cases e : j = k
          · subst e; rw [HU.out]; intro e2; rw [e2] at hz; exact hz ⟨rfl, rfl⟩
          · exact hbefore.out j (by omega))
        generalize decide (u.e = 0 ∧ u.c = 0) = D at hd ⊢
        subst hd
        clear hz
        go_wp2_with fail
        exact ⟨⟨k + 1, by omega, rfl, HFF, HOr.out⟩, by simp [intOf]; omega⟩
    · obtain rfl : k = segs := by omega
      have hI : ¬ (k : Int) < (k : Int) := by omega
      have HFF := Lib.hid (show F = none by rw [HF.out]; exact firstFree_none hbefore.out)
      go_wp2_with fail
      go_ret
      exact ⟨by rw [HFF.out]; rfl, hoA.trans hor⟩
end Go.Proofs.YtlgefjcfnnjkbaaDoor
/- What a log's disk looks like, and what is found on it. Plain; no program is named; no conditions. -/
namespace Go.Proofs.YtlgefjcfnnjkbaaDoor
set_option maxRecDepth 100000

/-- a shape: what the newest link says, the items of each segment, the newest segment and its epoch -/
structure Sh where
  per : Nat
  segs : Nat
  c : List Us
  B : Nat → List It
  n : Nat
  e : Int

structure Sh.Ok (S : Sh) : Prop where
  per4 : 4 ≤ S.per
  per64 : S.per ≤ 64
  segs : S.segs ≤ 12
  ch : ChOk S.c S.segs S.per S.e
  nlt : S.n < S.segs
  epos : 1 ≤ S.e ∧ S.e ≤ 16777215
  own : S.c.getD S.n Us.no = Us.no
  count : ∀ k, (S.c.getD k Us.no).e ≠ 0 → (S.c.getD k Us.no).c = ((1 + iLen (S.B k) : Nat) : Int)
  fits : 1 + iLen (S.B S.n) ≤ S.per

/-- the shape's frames stand there; of the newest segment's p behind the link -/
structure Sh.Stands (S : Sh) (g : Nat → Nat → Fr) (p : Nat) : Prop where
  ple : p ≤ iLen (S.B S.n)
  link : g S.n 0 = { e := S.e, a := 0, k := 1, s := chainText S.c S.segs }
  old0 : ∀ k, (S.c.getD k Us.no).e ≠ 0 → (g k 0).e = (S.c.getD k Us.no).e ∧ (g k 0).k = 1
  old : ∀ k, (S.c.getD k Us.no).e ≠ 0 → ∀ i, i < iLen (S.B k) → g k (1 + i) = (items (S.c.getD k Us.no).e 1 (S.B k)).getD i zeroFr
  new : ∀ i, i < p → g S.n (1 + i) = (items S.e 1 (S.B S.n)).getD i zeroFr
  far : ∀ i, p ≤ i → 1 + i < S.per → (g S.n (1 + i)).e < S.e ∨ (i ≠ p ∧ (g S.n (1 + i)).e = S.e ∧ (g S.n (1 + i)).k ≠ 4)
  rest : ∀ k a, k < S.segs → a < S.per → k ≠ S.n → (g k a).e < S.e

def oldP (S : Sh) : List (Int × List UInt8) := ((orderL S.c).map fun k => ((S.B k).filterMap id).map fun s => ((S.c.getD k Us.no).e, s)).flatten

theorem items_kind (e : Int) : ∀ (its : List It) (a : Nat), (∀ x ∈ its, x.isSome = true) → ∀ f ∈ items e a its, f.k ≠ 4
  | [], _, _, f, hf => by simp [items] at hf
  | some s :: r, a, h, f, hf => by
    simp only [items, List.mem_append] at hf
    rcases hf with hf | hf
    · obtain ⟨i, hi, rfl⟩ := List.getElem_of_mem hf
      rw [cutF_get]
      simp only [cutL]
      split <;> decide
    · exact items_kind e r _ (fun x hx => h x (by simp [hx])) f hf
  | none :: r, a, h, f, hf => by
    have := h none (by simp)
    cases this

section
variable {S : Sh} (ok : S.Ok)
include ok

theorem Sh.Ok.item (k : Nat) (hk : (S.c.getD k Us.no).e ≠ 0) (i : Nat) (hi : i < iLen (S.B k)) :
    ((items (S.c.getD k Us.no).e 1 (S.B k)).getD i zeroFr).e = (S.c.getD k Us.no).e ∧ ((items (S.c.getD k Us.no).e 1 (S.B k)).getD i zeroFr).k ≠ 1 := by
  have hc := ok.count k hk
  have hl := items_length (S.c.getD k Us.no).e (S.B k) 1
  have h64 := ok.per64
  have hel := ok.epos
  rcases ok.ch.use k with hu | ⟨_, h1, h2, h3, h4⟩
  · rw [hu] at hk; exact absurd rfl hk
  · have := items_get (S.c.getD k Us.no).e (by omega) (S.B k) 1 (by omega) i (by omega)
    rw [List.getD_eq_getElem?_getD, List.getElem?_eq_getElem (by omega)]
    exact ⟨this.2.1, this.2.2.2⟩
theorem Sh.Ok.itemN (i : Nat) (hi : i < iLen (S.B S.n)) : ((items S.e 1 (S.B S.n)).getD i zeroFr).e = S.e ∧ ((items S.e 1 (S.B S.n)).getD i zeroFr).k ≠ 1 := by
  have hl := items_length S.e (S.B S.n) 1
  have h64 := ok.per64
  have hf := ok.fits
  have := items_get S.e ok.epos (S.B S.n) 1 (by omega) i (by omega)
  rw [List.getD_eq_getElem?_getD, List.getElem?_eq_getElem (by omega)]
  exact ⟨this.2.1, this.2.2.2⟩

variable {g : Nat → Nat → Fr} {p : Nat} (st : S.Stands g p)
include st
theorem Sh.Stands.le (a : Nat) (ha : a < S.per) : (g S.n a).e ≤ S.e := by
  rcases a with _ | i
  · rw [st.link]; exact Int.le_refl _
  · rw [Nat.add_comm i 1]
    by_cases hi : i < p
    · rw [st.new i hi, (ok.itemN i (by have := st.ple; omega)).1]; exact Int.le_refl _
    · rcases st.far i (by omega) (by omega) with h | ⟨_, h, _⟩ <;> omega
theorem Sh.Stands.newest_is : newest g S.per S.segs = (S.e, S.n) := by
  have h4 := ok.per4
  have he := ok.epos
  exact (Go.Proofs.YtlgefjcfnnjkbaaDoor.newest_is g S.per S.n S.e (by omega) (by omega) (by rw [st.link]) (fun k hk => st.le ok k hk) S.segs (fun k a hk ha hne => st.rest k a hk ha hne)).2 ok.nlt
theorem Sh.Stands.link_is : linkP (g S.n 0) S.n S.per S.segs = some S.c :=
  linkP_ok ok.ch ok.segs (by have := ok.per64; omega) ok.epos.2 ok.own _ (by rw [st.link]) (by rw [st.link]) (by rw [st.link])
theorem Sh.Stands.sound_old : soundAll g S.per S.c (orderL S.c) = none := by
  refine soundAll_none _ fun k hk => ?_
  obtain ⟨_, hke⟩ := (mem_orderL S.c k).1 hk
  refine sound_none fun a _ ha => ?_
  rw [ok.count k hke] at ha
  rcases a with _ | i
  · obtain ⟨h1, h2⟩ := st.old0 k hke
    simp [badAt, h1, h2]
  · obtain ⟨h1, h2⟩ := ok.item k hke i (by omega)
    unfold badAt
    rw [Nat.add_comm i 1, st.old k hke i (by omega), h1, decide_eq_false h2, decide_eq_false (by omega)]
    simp
theorem Sh.Stands.run_is : runOf (g S.n) S.e 1 S.per = (items S.e 1 (S.B S.n)).take p := by
  have hl := items_length S.e (S.B S.n) 1
  have hp := st.ple
  have hf := ok.fits
  unfold runOf
  rw [takeWhile_is _ p]
  · apply List.ext_getElem?
    intro i
    by_cases hi : i < p
    · rw [List.getElem?_take_of_lt hi, List.getElem?_take_of_lt hi, frames_get _ _ _ _ (by omega), st.new i hi, List.getD_eq_getElem?_getD, List.getElem?_eq_getElem (by omega)]
      rfl
    · rw [List.getElem?_eq_none (by rw [List.length_take]; omega), List.getElem?_eq_none (by rw [List.length_take]; omega)]
  · intro i x hi hx
    rw [frames_get _ _ _ _ (by omega)] at hx
    obtain rfl := Option.some.inj hx
    obtain ⟨h1, h2⟩ := ok.itemN i (by omega)
    rw [st.new i hi, decide_eq_true h1, decide_eq_true h2]; rfl
  · intro x hx
    by_cases hlt : p < S.per - 1
    · rw [frames_get _ _ _ _ hlt] at hx
      obtain rfl := Option.some.inj hx
      rcases st.far p (Nat.le_refl _) (by omega) with h | ⟨h, _⟩
      · rw [decide_eq_false (by omega)]; rfl
      · exact absurd rfl h
    · rw [List.getElem?_eq_none (by simpa [frames] using (by omega))] at hx
      cases hx
  · simp [frames]; omega
theorem Sh.Stands.pieces_old : oldPieces g S.c (orderL S.c) = oldP S := by
  unfold oldPieces oldP
  congr 1
  refine List.map_congr_left fun k hk => ?_
  obtain ⟨_, hke⟩ := (mem_orderL S.c k).1 hk
  have hc := ok.count k hke
  have h64 := ok.per64
  have hel := ok.epos
  have hl := items_length (S.c.getD k Us.no).e (S.B k) 1
  rcases ok.ch.use k with hu | ⟨_, h1, h2, h3, h4⟩
  · rw [hu] at hke; exact absurd rfl hke
  have hfr : frames (g k) 1 (S.c.getD k Us.no).c.toNat = items (S.c.getD k Us.no).e 1 (S.B k) :=
    frames_is (by omega) (fun i hi => st.old k hke i (by omega))
  rw [hfr, piecesOf, joinF_items _ (by omega) _ 1 (by omega)]

omit ok st in
theorem items_mem (e : Int) (a : Nat) (x y z : List It) (i : Nat) (h1 : iLen x ≤ i) (h2 : i < iLen x + iLen y) : (items e a (x ++ (y ++ z))).getD i zeroFr ∈ items e (a + iLen x) y := by
  have hx := items_length e x a
  have hy := items_length e y (a + iLen x)
  rw [items_append, items_append, List.getD_eq_getElem?_getD, List.getElem?_append_right (by omega), hx, List.getElem?_append_left (by omega), List.getElem?_eq_getElem (by omega)]
  exact List.getElem_mem _
omit ok in
/-- no seal behind the last one that counts -/
theorem Sh.Stands.no_seal (m : Nat) (h4 : m < (S.B S.n).length → p < iLen ((S.B S.n).take (m + 1))) (i : Nat) (hi1 : iLen (upSeal ((S.B S.n).take m)) ≤ i) (hi2 : i < p) : ((items S.e 1 (S.B S.n)).getD i zeroFr).k ≠ 4 := by
  have hp := st.ple
  generalize S.B S.n = B at hp h4 hi1 ⊢
  obtain ⟨r, hr1, hr2⟩ := upSeal_split (B.take m)
  generalize upSeal (B.take m) = u at hr1 hi1
  have hlen : iLen (B.take m) = iLen u + iLen r := by rw [hr1, iLen_append]
  rcases Nat.lt_or_ge i (iLen (B.take m)) with h | h
  · have e1 : B = u ++ (r ++ B.drop m) := by rw [← List.append_assoc, ← hr1, List.take_append_drop]
    have := items_mem S.e 1 u r (B.drop m) i hi1 (by omega)
    rw [← e1] at this
    exact items_kind _ r _ hr2 _ this
  · have hmB : m < B.length := by
      rcases Nat.lt_or_ge m B.length with h' | h'
      · exact h'
      · rw [List.take_of_length_le h'] at h; omega
    have h5 := h4 hmB
    have e0 : B.take (m + 1) = B.take m ++ [B[m]] := List.take_succ_eq_append_getElem hmB
    rw [e0, iLen_append] at h5
    have e1 : B = B.take m ++ ([B[m]] ++ B.drop (m + 1)) := by
      rw [← List.append_assoc, ← e0, List.take_append_drop]
    have := items_mem S.e 1 (B.take m) [B[m]] (B.drop (m + 1)) i h (by omega)
    rw [← e1] at this
    refine items_kind _ _ _ ?_ _ this
    intro x hx
    rw [List.mem_singleton] at hx
    cases hb : B[m] with
    | some s => rw [hx, hb]; rfl
    | none =>
      rw [hb] at h5
      simp only [iLen] at h5
      omega
theorem Sh.Stands.sealed_is (m : Nat) (h3 : iLen ((S.B S.n).take m) ≤ p) (h4 : m < (S.B S.n).length → p < iLen ((S.B S.n).take (m + 1))) : sealedTo (g S.n) S.e S.per = iLen (upSeal ((S.B S.n).take m)) := by
  have hns := st.no_seal m h4
  have hp := st.ple
  have hf := ok.fits
  have h64 := ok.per64
  obtain ⟨r, hr1, hr2⟩ := upSeal_split ((S.B S.n).take m)
  have hlen : iLen ((S.B S.n).take m) = iLen (upSeal ((S.B S.n).take m)) + iLen r := by
    have := congrArg iLen hr1
    rwa [iLen_append] at this
  refine sealedTo_is S.per (by omega) ?_ ?_
  · rcases upSeal_last ((S.B S.n).take m) with hu | ⟨q, hu⟩
    · rw [hu]; exact .inl rfl
    · right
      have e2 : iLen (q ++ [none]) = iLen q + 1 := by rw [iLen_append]; rfl
      rw [hu, e2] at hlen
      rw [hu, e2, Nat.add_comm (iLen q) 1, st.new (iLen q) (by omega)]
      have hmem := items_mem S.e 1 q [none] (r ++ (S.B S.n).drop m) (iLen q) (Nat.le_refl _) (by simp [iLen])
      have e1 : S.B S.n = q ++ ([none] ++ (r ++ (S.B S.n).drop m)) := by
        conv => lhs; rw [← List.take_append_drop m (S.B S.n), hr1, hu]
        simp
      rw [← e1] at hmem
      simp only [items, List.mem_singleton] at hmem
      rw [hmem]
      exact ⟨by omega, rfl, rfl⟩
  · intro x hx hx2 ⟨hxe, hxk⟩
    rcases x with _ | i
    · omega
    rw [Nat.add_comm i 1] at hxe hxk
    by_cases hi : i < p
    · rw [st.new i hi] at hxk
      exact hns i (by omega) hi hxk
    · rcases st.far i (by omega) (by omega) with h | ⟨_, _, h⟩
      · omega
      · exact h hxk

/-- what is found -/
theorem Sh.Stands.look_is : ∃ m, m ≤ (S.B S.n).length ∧ iLen ((S.B S.n).take m) ≤ p ∧ (m < (S.B S.n).length → p < iLen ((S.B S.n).take (m + 1))) ∧
    look g S.per S.segs = .inl ⟨S.c.set S.n ⟨S.e, ((1 + iLen ((S.B S.n).take m) : Nat) : Int)⟩, S.e, S.n, iLen (upSeal ((S.B S.n).take m)), looseI ((S.B S.n).take m), oldP S ++ (((S.B S.n).take m).filterMap id).map fun s => (S.e, s)⟩ := by
  have hl := items_length S.e (S.B S.n) 1
  have hp := st.ple
  have hf := ok.fits
  have h64 := ok.per64
  have he := ok.epos
  obtain ⟨m, h1, h2, h3, h4⟩ := joinF_take S.e ok.epos (S.B S.n) 1 p (by omega) hp
  refine ⟨m, h1, h3, h4, ?_⟩
  have hsl := st.sealed_is ok m h3 h4
  obtain ⟨r, hr1, hr2⟩ := upSeal_split ((S.B S.n).take m)
  have hlen : iLen ((S.B S.n).take m) = iLen (upSeal ((S.B S.n).take m)) + iLen r := by
    have := congrArg iLen hr1
    rwa [iLen_append] at this
  have hsnd : sound (g S.n) S.e 1 (iLen (upSeal ((S.B S.n).take m))) = none := by
    refine sound_none fun k hk hk2 => ?_
    obtain ⟨i, rfl⟩ : ∃ i, k = 1 + i := ⟨k - 1, by omega⟩
    obtain ⟨a1, a2⟩ := ok.itemN i (by omega)
    unfold badAt
    rw [st.new i (by omega), a1, decide_eq_false a2, decide_eq_false (by omega)]
    simp
  unfold look
  simp only [st.newest_is ok]
  rw [if_neg (by omega), if_pos (by rw [st.link]), st.link_is ok]
  simp only [st.sound_old ok, hsl, hsnd]
  unfold take
  simp only [st.run_is ok, st.pieces_old ok, List.nil_append]
  have hj2 : joinF ((items S.e 1 (S.B S.n)).take p |>.take (iLen (upSeal ((S.B S.n).take m)))) = ((upSeal ((S.B S.n).take m)).filterMap id, iLen (upSeal ((S.B S.n).take m))) := by
    have e1 : S.B S.n = upSeal ((S.B S.n).take m) ++ (r ++ (S.B S.n).drop m) := by
      rw [← List.append_assoc, ← hr1, List.take_append_drop]
    have e2 : ((items S.e 1 (S.B S.n)).take p).take (iLen (upSeal ((S.B S.n).take m))) = items S.e 1 (upSeal ((S.B S.n).take m)) := by
      rw [List.take_take, Nat.min_eq_left (by omega)]
      have e3 := items_append S.e (upSeal ((S.B S.n).take m)) 1 (r ++ (S.B S.n).drop m)
      rw [← e1] at e3
      rw [e3]
      exact List.take_left' (items_length _ _ _)
    rw [e2, joinF_items _ he _ _ (by omega)]
  have hlo : decide (((upSeal ((S.B S.n).take m)).filterMap id).length < (((S.B S.n).take m).filterMap id).length) = looseI ((S.B S.n).take m) := by
    unfold looseI
    have a1 : (((S.B S.n).take m).filterMap id).length = ((upSeal ((S.B S.n).take m)).filterMap id).length + r.length := by
      have := congrArg (fun l => (List.filterMap id l).length) hr1
      simp only [List.filterMap_append, List.length_append, some_count r hr2] at this
      exact this
    have a2 : ((S.B S.n).take m).length = (upSeal ((S.B S.n).take m)).length + r.length := by
      have := congrArg List.length hr1
      rwa [List.length_append] at this
    rw [a1, a2]
    congr 1
    apply propext
    constructor <;> intro h <;> omega
  simp only [piecesOf, h2, hj2, hlo]
  congr 3
end
end Go.Proofs.YtlgefjcfnnjkbaaDoor
/- What stands in a disk's sectors behind writes, syncs, power losses and rot. Plain; no program is named; no conditions. -/
namespace Go.Proofs.YtlgefjcfnnjkbaaDoor
set_option maxRecDepth 100000
namespace D

theorem write_kept (d : D) (k : Nat) (s : List UInt8) : (d.write k s).kept = d.kept := by simp [write, spent_kept]
theorem write_pend (d : D) (k : Nat) (s : List UInt8) : (d.write k s).pend = d.pend ++ [(k, s)] := by simp [write]
theorem there_write (d : D) (k : Nat) (s : List UInt8) (j : Nat) : (d.write k s).there j = if k = j then s else d.there j := by
  simp only [there, write, spent_kept, List.reverse_append, List.reverse_cons, List.reverse_nil, List.nil_append, List.singleton_append, List.find?_cons]
  by_cases h : k = j
  · subst h; simp
  · have : (k == j) = false := by simpa using h
    rw [this, if_neg h]
theorem there_nopend (d : D) (k : Nat) (h : ∀ x ∈ d.pend, x.1 ≠ k) : d.there k = d.kept.getD k [] := by
  unfold there
  rw [List.find?_eq_none.2 (by intro y hy; simpa using h y (by simpa using hy))]
  rfl
/-- the last of the writes of a sector counts -/
theorem lay_find (kept : List (List UInt8)) (k : Nat) (hk : k < kept.length) (r : List (Nat × List UInt8)) : ∀ pend : List (Nat × List UInt8), pend.reverse = r → (pend.foldl layK kept).length = kept.length ∧
    (pend.foldl layK kept).getD k [] = ((r.find? (fun x => x.1 == k)).map (·.2)).getD (kept.getD k []) := by
  induction r with
  | nil =>
    intro pend hp
    rw [List.reverse_eq_nil_iff.1 hp]; exact ⟨rfl, rfl⟩
  | cons x r ih =>
    intro pend hp
    have hp' : pend = r.reverse ++ [x] := by rw [← List.reverse_reverse pend, hp, List.reverse_cons]
    obtain ⟨hl, h2⟩ := ih r.reverse (List.reverse_reverse r)
    rw [hp', List.foldl_append, List.foldl_cons, List.foldl_nil, List.find?_cons]
    generalize List.foldl layK kept r.reverse = kk at hl h2
    refine ⟨by rw [layK_length, hl], ?_⟩
    by_cases e : x.1 = k
    · subst e
      simp only [beq_self_eq_true, Option.map_some, Option.getD_some, layK]
      rw [List.getD_eq_getElem?_getD, List.getElem?_set, if_pos rfl, if_pos (by omega)]; rfl
    · have e' : (x.1 == k) = false := by simpa using e
      rw [e', layK, List.getD_eq_getElem?_getD, List.getElem?_set, if_neg e, ← List.getD_eq_getElem?_getD]
      exact h2
theorem layAll_whole (d : D) : d.layAll (List.range d.pend.length) = d.pend.foldl layK d.kept := by
  unfold D.layAll
  have h : d.pend = (List.range d.pend.length).map fun i => d.pend.getD i (0, []) := by
    apply List.ext_getElem
    · simp
    · intro i h1 h2
      simp [List.getD_eq_getElem?_getD, h1]
  have h' := congrArg (fun l => l.foldl layK d.kept) h
  simp only [List.foldl_map] at h'
  exact h'.symm
theorem sync_len (d : D) : d.sync.kept.length = d.kept.length := by simp only [sync, layAll_length]
theorem there_sync (d : D) (k : Nat) (hk : k < d.kept.length) : d.sync.there k = d.there k := by
  have h := (lay_find d.kept k hk _ d.pend rfl).2
  simp only [there, sync, List.reverse_nil, List.find?_nil, Option.map_none, Option.getD_none]
  rw [layAll_whole, h]
theorem crash_len (d : D) (L : List Nat) : (d.crash L).kept.length = d.kept.length := by simp only [crash, layAll_length]
theorem there_crash0 (d : D) (L : List Nat) (k : Nat) : (d.crash L).there k = (d.layAll L).getD k [] := by
  simp [there, crash]
/-- a sector behind a power loss: what was kept, or one of its writes -/
theorem there_crash (d : D) (k : Nat) : ∀ (L : List Nat), (∀ x ∈ L, x < d.pend.length) → ((d.crash L).there k = d.kept.getD k [] ∨ ∃ x ∈ d.pend, x.1 = k ∧ (d.crash L).there k = x.2) := by
  intro L hL
  rw [there_crash0]
  unfold layAll
  suffices h : ∀ (L : List Nat) (kept : List (List UInt8)), (∀ x ∈ L, x < d.pend.length) → (L.foldl (fun kept j => layK kept (d.pend.getD j (0, []))) kept).getD k [] = kept.getD k [] ∨
      ∃ x ∈ d.pend, x.1 = k ∧ (L.foldl (fun kept j => layK kept (d.pend.getD j (0, []))) kept).getD k [] = x.2 from h L d.kept hL
  intro L
  induction L with
  | nil => intro kept _; exact .inl rfl
  | cons j L ih =>
    intro kept hL
    have hj := hL j (by simp)
    have hp : d.pend.getD j (0, []) = d.pend[j] := by simp [hj]
    rw [List.foldl_cons, hp]
    rcases ih (layK kept d.pend[j]) (fun x hx => hL x (by simp [hx])) with h | h
    · rw [h]
      unfold layK
      by_cases e : d.pend[j].1 = k
      · by_cases hk : k < kept.length
        · refine .inr ⟨d.pend[j], List.getElem_mem hj, e, ?_⟩
          rw [List.getD_eq_getElem?_getD, List.getElem?_set, if_pos e, if_pos (by omega)]; rfl
        · refine .inl ?_
          rw [List.getD_eq_getElem?_getD, List.getElem?_set, if_pos e, if_neg (by omega), List.getD_eq_getElem?_getD, List.getElem?_eq_none (by omega)]
      · refine .inl ?_
        rw [List.getD_eq_getElem?_getD, List.getElem?_set, if_neg e, ← List.getD_eq_getElem?_getD]
    · exact .inr h
theorem there_crash_none (d : D) (k : Nat) (L : List Nat) (hL : ∀ x ∈ L, x < d.pend.length) (h : ∀ x ∈ d.pend, x.1 ≠ k) : (d.crash L).there k = d.there k := by
  rw [there_nopend d k h]
  rcases there_crash d k L hL with h1 | ⟨x, hx, e, _⟩
  · exact h1
  · exact absurd e (h x hx)
theorem there_rot (d : D) (hp : d.pend = []) (k p m j : Nat) (hk : k < d.kept.length) : (d.rot k p m).there j = if k = j then (d.there k).set p ((d.there k).getD p 0 ^^^ UInt8.ofNat m) else d.there j := by
  simp only [there, rot, hp, List.reverse_nil, List.find?_nil, Option.map_none, Option.getD_none]
  by_cases e : k = j
  · subst e
    rw [if_pos rfl, List.getD_eq_getElem?_getD, List.getElem?_set_self hk]; rfl
  · rw [if_neg e, List.getD_eq_getElem?_getD, List.getElem?_set, if_neg e, ← List.getD_eq_getElem?_getD]
theorem new_there (n k : Nat) (h : k < n) : (D.new n).there k = noughts := by
  simp [there, new, List.getD_eq_getElem?_getD, h]
end D
theorem xor_other (a : UInt8) (n : Nat) (h1 : 1 ≤ n) (h2 : n ≤ 255) : a ^^^ UInt8.ofNat n ≠ a := by
  intro h
  have h3 : a ^^^ (a ^^^ UInt8.ofNat n) = a ^^^ a := by rw [h]
  rw [← UInt8.xor_assoc, UInt8.xor_self, UInt8.zero_xor] at h3
  have := congrArg UInt8.toNat h3
  simp at this
  omega
end Go.Proofs.YtlgefjcfnnjkbaaDoor
/- What a log's disk holds behind writes, syncs and power losses. Plain; no program is named; no conditions. -/
namespace Go.Proofs.YtlgefjcfnnjkbaaDoor
set_option maxRecDepth 100000

/-! ### Sectors -/
theorem sec_inj {per a b k l : Nat} (ha : a < per) (hb : b < per) (h : k * per + a = l * per + b) : k = l ∧ a = b := by
  have h1 : (k * per + a) / per = k := by rw [Nat.add_comm, Nat.add_mul_div_right _ _ (by omega), Nat.div_eq_of_lt ha, Nat.zero_add]
  have h2 : (l * per + b) / per = l := by rw [Nat.add_comm, Nat.add_mul_div_right _ _ (by omega), Nat.div_eq_of_lt hb, Nat.zero_add]
  have h3 : k = l := by rw [← h1, h, h2]
  subst h3
  exact ⟨rfl, by omega⟩
theorem sec_lt {per segs a k n : Nat} (ha : a < per) (hk : k < segs) (hr : segs * per ≤ n) : k * per + a < n := by
  have := Nat.mul_le_mul_right per (show k + 1 ≤ segs from hk)
  rw [Nat.add_mul, Nat.one_mul] at this
  omega
theorem frOf_lay {f : Fr} (h : f.right = true) {a : Nat} (ha : f.a = (a : Int)) : frOf f.lay a = f := by simp [frOf, readF_lay h, ha]
def frT (T : Nat → List UInt8) (per seg a : Nat) : Fr := frOf (T (seg * per + a)) a
def frKept (d : D) (per seg a : Nat) : Fr := frOf (d.kept.getD (seg * per + a) []) a
theorem frAt_eq (d : D) (per : Nat) : frAt d per = frT d.there per := rfl
theorem frKept_eq (d : D) (per : Nat) : frKept d per = frT (fun j => d.kept.getD j []) per := rfl
/-- what may lie there: what is kept, or one of the pending writes -/
def Mix (d : D) (T : Nat → List UInt8) : Prop := ∀ j, T j = d.kept.getD j [] ∨ ∃ x ∈ d.pend, x.1 = j ∧ T j = x.2
theorem there_hit (d : D) (j : Nat) (h : ∃ x ∈ d.pend, x.1 = j) : ∃ x ∈ d.pend, x.1 = j ∧ d.there j = x.2 := by
  unfold D.there
  cases hf : d.pend.reverse.find? (fun x => x.1 == j) with
  | none =>
    obtain ⟨x, hx, hj⟩ := h
    have := List.find?_eq_none.1 hf x (by simpa using hx)
    simp [hj] at this
  | some x =>
    have h1 := List.mem_of_find?_eq_some hf
    have h2 := List.find?_some hf
    exact ⟨x, by simpa using h1, by simpa using h2, rfl⟩
theorem mix_there (d : D) : Mix d d.there := fun j => by
  by_cases h : ∃ x ∈ d.pend, x.1 = j
  · exact .inr (there_hit d j h)
  · exact .inl (D.there_nopend d j (fun x hx e => h ⟨x, hx, e⟩))
theorem mix_crash (d : D) (L : List Nat) (hL : ∀ x ∈ L, x < d.pend.length) : Mix d (d.crash L).there := fun j => D.there_crash d j L hL
theorem mix_nil {d : D} (h : d.pend = []) {T : Nat → List UInt8} (hT : Mix d T) (j : Nat) : T j = d.kept.getD j [] := by
  rcases hT j with e | ⟨x, hx, _⟩
  · exact e
  · rw [h] at hx; cases hx

/-! ### A shape that stands -/
structure Sh.Std (S : Sh) (g : Nat → Nat → Fr) (p : Nat) : Prop where
  st : S.Stands g p
  far : ∀ i, p ≤ i → 1 + i < S.per → (g S.n (1 + i)).e < S.e
theorem Sh.Ok.count_le {S : Sh} (ok : S.Ok) {k : Nat} (hk : (S.c.getD k Us.no).e ≠ 0) : k < S.segs ∧ 1 + iLen (S.B k) ≤ S.per ∧ k ≠ S.n ∧ 1 ≤ (S.c.getD k Us.no).e ∧ (S.c.getD k Us.no).e < S.e := by
  have hc := ok.count k hk
  rcases ok.ch.use k with hu | ⟨h0, h1, h2, h3, h4⟩
  · rw [hu] at hk; exact absurd rfl hk
  · refine ⟨h0, by omega, ?_, h1, h2⟩
    rintro rfl
    rw [ok.own] at hk; exact absurd rfl hk
theorem Sh.Stands.congr {S : Sh} (ok : S.Ok) {g g' : Nat → Nat → Fr} {p : Nat} (st : S.Stands g p) (h : ∀ k a, k < S.segs → a < S.per → g' k a = g k a) : S.Stands g' p := by
  have h4 := ok.per4
  have hf := ok.fits
  refine ⟨st.ple, by rw [h _ _ ok.nlt (by omega)]; exact st.link, fun k hk => ?_, fun k hk i hi => ?_, fun i hi => ?_, fun i hi hi2 => ?_, fun k a hk ha hne => ?_⟩
  · rw [h _ _ (ok.count_le hk).1 (by omega)]; exact st.old0 k hk
  · have := (ok.count_le hk).2.1
    rw [h _ _ (ok.count_le hk).1 (by omega)]; exact st.old k hk i hi
  · have := st.ple
    rw [h _ _ ok.nlt (by omega)]; exact st.new i hi
  · rw [h _ _ ok.nlt hi2]; exact st.far i hi hi2
  · rw [h _ _ hk ha]; exact st.rest k a hk ha hne
theorem Sh.Std.congr {S : Sh} (ok : S.Ok) {g g' : Nat → Nat → Fr} {p : Nat} (st : S.Std g p) (h : ∀ k a, k < S.segs → a < S.per → g' k a = g k a) : S.Std g' p :=
  ⟨st.st.congr ok h, fun i hi hi2 => by rw [h _ _ ok.nlt hi2]; exact st.far i hi hi2⟩
/-- the newest segment's frames -/
def Sh.it (S : Sh) (i : Nat) : Fr := (items S.e 1 (S.B S.n)).getD i zeroFr
theorem Sh.Ok.it_get {S : Sh} (ok : S.Ok) (i : Nat) (hi : i < iLen (S.B S.n)) : (S.it i).right = true ∧ (S.it i).e = S.e ∧ (S.it i).a = ((1 + i : Nat) : Int) ∧ (S.it i).k ≠ 1 := by
  have hl := items_length S.e (S.B S.n) 1
  have h64 := ok.per64
  have hf := ok.fits
  have := items_get S.e ok.epos (S.B S.n) 1 (by omega) i (by omega)
  unfold Sh.it
  rw [List.getD_eq_getElem?_getD, List.getElem?_eq_getElem (by omega)]
  exact this
theorem Sh.Ok.it_of {S : Sh} (ok : S.Ok) (i : Nat) (hi : i < iLen (S.B S.n)) : frOf (S.it i).lay (1 + i) = S.it i := by
  obtain ⟨h1, _, h3, _⟩ := ok.it_get i hi
  exact frOf_lay h1 h3

/-- a disk as far as a power loss is concerned: so many frames of the newest segment are synced; what is pending are frames behind those -/
structure CrInv (S : Sh) (s : Nat) (d : D) : Prop where
  ok : S.Ok
  dok : d.Ok
  room : S.segs * S.per ≤ d.kept.length
  kept : S.Std (frKept d S.per) s
  pend : ∀ x ∈ d.pend, ∃ i, s ≤ i ∧ i < iLen (S.B S.n) ∧ x.1 = S.n * S.per + (1 + i) ∧ x.2 = (S.it i).lay ∧ ((S.it i).k = 4 → i = s)
theorem CrInv.free {S : Sh} {s : Nat} {d : D} (h : CrInv S s d) {k a : Nat} (ha : a < S.per) (hne : k ≠ S.n ∨ a < 1 + s ∨ 1 + iLen (S.B S.n) ≤ a) : ∀ x ∈ d.pend, x.1 ≠ k * S.per + a := by
  intro x hx e
  obtain ⟨i, h1, h2, h3, _, _⟩ := h.pend x hx
  have := h.ok.fits
  obtain ⟨e1, e2⟩ := sec_inj (by omega) ha (h3.symm.trans e)
  rcases hne with h | h | h <;> omega
theorem CrInv.same {S : Sh} {s : Nat} {d : D} (h : CrInv S s d) {T : Nat → List UInt8} (hT : Mix d T) {k a : Nat} (ha : a < S.per) (hne : k ≠ S.n ∨ a < 1 + s ∨ 1 + iLen (S.B S.n) ≤ a) : frT T S.per k a = frKept d S.per k a := by
  unfold frT frKept
  rcases hT (k * S.per + a) with e | ⟨x, hx, e, _⟩
  · rw [e]
  · exact absurd e (h.free ha hne x hx)
theorem CrInv.item {S : Sh} {s : Nat} {d : D} (h : CrInv S s d) {T : Nat → List UInt8} (hT : Mix d T) {i : Nat} (hi : i < iLen (S.B S.n)) : frT T S.per S.n (1 + i) = frKept d S.per S.n (1 + i) ∨ (frT T S.per S.n (1 + i) = S.it i ∧ ((S.it i).k = 4 → i = s)) := by
  have hf := h.ok.fits
  unfold frT frKept
  rcases hT (S.n * S.per + (1 + i)) with e | ⟨x, hx, e, e2⟩
  · rw [e]; exact .inl rfl
  · right
    obtain ⟨j, h1, h2, h3, h4, h5⟩ := h.pend x hx
    obtain ⟨_, e4⟩ := sec_inj (by omega) (by omega) (h3.symm.trans e)
    obtain rfl : j = i := by omega
    rw [e2, h4]
    exact ⟨h.ok.it_of j hi, h5⟩
theorem least_bad (P : Nat → Prop) (s : Nat) : ∀ N, s ≤ N → ∃ p, s ≤ p ∧ p ≤ N ∧ (∀ i, s ≤ i → i < p → P i) ∧ (p < N → ¬ P p)
  | 0, h => ⟨0, by omega, by omega, fun i _ h2 => by omega, fun h => by omega⟩
  | N + 1, h => by
    by_cases hs : s = N + 1
    · subst hs
      exact ⟨N + 1, by omega, by omega, fun i h1 h2 => by omega, fun h => by omega⟩
    · obtain ⟨p, h1, h2, h3, h4⟩ := least_bad P s N (by omega)
      by_cases hp : p < N
      · exact ⟨p, h1, by omega, h3, fun _ => h4 hp⟩
      · obtain rfl : p = N := by omega
        by_cases hP : P p
        · refine ⟨p + 1, by omega, by omega, fun i hi1 hi2 => ?_, fun h => by omega⟩
          by_cases e : i = p
          · subst e; exact hP
          · exact h3 i hi1 (by omega)
        · exact ⟨p, h1, by omega, h3, fun _ => hP⟩
/-- whatever is kept: the shape stands, so far as it was synced at least -/
theorem CrInv.stands {S : Sh} {s : Nat} {d : D} (h : CrInv S s d) {T : Nat → List UInt8} (hT : Mix d T) : ∃ p, s ≤ p ∧ S.Stands (frT T S.per) p := by
  have ok := h.ok
  have h4 := ok.per4
  have hf := ok.fits
  have hs := h.kept.st.ple
  obtain ⟨p, h1, h2, h3, h5⟩ := least_bad (fun i => frT T S.per S.n (1 + i) = S.it i) s (iLen (S.B S.n)) hs
  refine ⟨p, h1, h2, ?_, fun k hk => ?_, fun k hk i hi => ?_, fun i hi => ?_, fun i hi hi2 => ?_, fun k a hk ha hne => ?_⟩
  · rw [h.same hT (by omega) (.inr (.inl (by omega)))]; exact h.kept.st.link
  · rw [h.same hT (by omega) (.inl (ok.count_le hk).2.2.1)]; exact h.kept.st.old0 k hk
  · have := (ok.count_le hk).2.1
    rw [h.same hT (by omega) (.inl (ok.count_le hk).2.2.1)]; exact h.kept.st.old k hk i hi
  · by_cases his : i < s
    · rw [h.same hT (by omega) (.inr (.inl (by omega)))]; exact h.kept.st.new i his
    · exact h3 i (by omega) hi
  · by_cases hil : i < iLen (S.B S.n)
    · rcases h.item hT hil with e | ⟨e, e4⟩
      · left; rw [e]; exact h.kept.far i (by omega) hi2
      · by_cases hip : i = p
        · subst hip; exact absurd e (h5 hil)
        · right
          refine ⟨hip, ?_, ?_⟩
          · rw [e]; exact (ok.it_get i hil).2.1
          · rw [e]; intro hk; have := e4 hk; omega
    · left
      rw [h.same hT hi2 (.inr (.inr (by omega)))]; exact h.kept.far i (by omega) hi2
  · rw [h.same hT ha (.inl hne)]; exact h.kept.st.rest k a hk ha hne

/-! ### Writing -/
/-- the newest segment's frames up to a place were written -/
structure Wr (S : Sh) (s j : Nat) (d : D) : Prop where
  cr : CrInv S s d
  le : s ≤ j ∧ j ≤ iLen (S.B S.n)
  full : ∀ i, s ≤ i → i < j → ∃ x ∈ d.pend, x.1 = S.n * S.per + (1 + i)
  ahead : ∀ x ∈ d.pend, ∀ i, j ≤ i → x.1 ≠ S.n * S.per + (1 + i)
abbrev Inv (S : Sh) (s : Nat) (d : D) : Prop := Wr S s (iLen (S.B S.n)) d
/-- all of it is there -/
theorem Wr.there {S : Sh} {s : Nat} {d : D} (h : Inv S s d) : S.Std (frAt d S.per) (iLen (S.B S.n)) := by
  have ok := h.cr.ok
  have h4 := ok.per4
  have hf := ok.fits
  have hT := mix_there d
  rw [frAt_eq]
  have hnew : ∀ i, i < iLen (S.B S.n) → frT d.there S.per S.n (1 + i) = S.it i := fun i hi => by
    by_cases his : i < s
    · rw [h.cr.same hT (by omega) (.inr (.inl (by omega)))]; exact h.cr.kept.st.new i his
    · obtain ⟨x, hx, e, e2⟩ := there_hit d _ (h.full i (by omega) hi)
      obtain ⟨j, h1, h2, h3, h4, h5⟩ := h.cr.pend x hx
      obtain ⟨_, e4⟩ := sec_inj (by omega) (by omega) (h3.symm.trans e)
      obtain rfl : j = i := by omega
      unfold frT
      rw [e2, h4]
      exact ok.it_of j hi
  have hfar : ∀ i, iLen (S.B S.n) ≤ i → 1 + i < S.per → (frT d.there S.per S.n (1 + i)).e < S.e := fun i hi hi2 => by
    rw [h.cr.same hT hi2 (.inr (.inr (by omega)))]
    exact h.cr.kept.far i (by have := h.le; omega) hi2
  refine ⟨⟨Nat.le_refl _, ?_, fun k hk => ?_, fun k hk i hi => ?_, hnew, fun i hi hi2 => .inl (hfar i hi hi2), fun k a hk ha hne => ?_⟩, hfar⟩
  · rw [h.cr.same hT (by omega) (.inr (.inl (by omega)))]; exact h.cr.kept.st.link
  · rw [h.cr.same hT (by omega) (.inl (ok.count_le hk).2.2.1)]; exact h.cr.kept.st.old0 k hk
  · have := (ok.count_le hk).2.1
    rw [h.cr.same hT (by omega) (.inl (ok.count_le hk).2.2.1)]; exact h.cr.kept.st.old k hk i hi
  · rw [h.cr.same hT ha (.inl hne)]; exact h.cr.kept.st.rest k a hk ha hne
theorem inv_of {S : Sh} {d : D} (ok : S.Ok) (dok : d.Ok) (room : S.segs * S.per ≤ d.kept.length) (hp : d.pend = []) (hs : S.Std (frKept d S.per) (iLen (S.B S.n))) : Inv S (iLen (S.B S.n)) d :=
  ⟨⟨ok, dok, room, hs, fun x hx => by rw [hp] at hx; cases hx⟩, ⟨Nat.le_refl _, Nat.le_refl _⟩, fun i h1 h2 => by omega, fun x hx => by rw [hp] at hx; cases hx⟩
theorem frKept_sync {d : D} {per segs k a : Nat} (room : segs * per ≤ d.kept.length) (hk : k < segs) (ha : a < per) : frKept d.sync per k a = frAt d per k a := by
  have hl := sec_lt ha hk room
  have h1 : d.sync.there (k * per + a) = d.sync.kept.getD (k * per + a) [] := D.there_nopend _ _ (fun x hx => by simp [D.sync] at hx)
  unfold frKept frAt
  rw [← h1, D.there_sync d _ hl]
theorem Wr.sync {S : Sh} {s : Nat} {d : D} (h : Inv S s d) : Inv S (iLen (S.B S.n)) d.sync :=
  inv_of h.cr.ok h.cr.dok.sync (by rw [D.sync_len]; exact h.cr.room) rfl (h.there.congr h.cr.ok fun k a hk ha => frKept_sync h.cr.room hk ha)

/-- one item more -/
def Sh.push (S : Sh) (x : It) : Sh := { S with B := fun k => if k = S.n then S.B S.n ++ [x] else S.B k }
theorem Sh.push_B (S : Sh) (x : It) : (S.push x).B (S.push x).n = S.B S.n ++ [x] := by simp [Sh.push]
theorem Sh.push_Bo (S : Sh) (x : It) {k : Nat} (h : k ≠ S.n) : (S.push x).B k = S.B k := by simp [Sh.push, h]
theorem Sh.push_it (S : Sh) (x : It) {i : Nat} (h : i < iLen (S.B S.n)) : (S.push x).it i = S.it i := by
  unfold Sh.it
  rw [Sh.push_B]
  show (items S.e 1 (S.B S.n ++ [x])).getD i zeroFr = _
  rw [items_append, List.getD_eq_getElem?_getD, List.getElem?_append_left (by rw [items_length]; exact h), List.getD_eq_getElem?_getD]
theorem Sh.Ok.push {S : Sh} (ok : S.Ok) (x : It) (hf : 1 + iLen (S.B S.n) + iLen [x] ≤ S.per) : (S.push x).Ok :=
  ⟨ok.per4, ok.per64, ok.segs, ok.ch, ok.nlt, ok.epos, ok.own, fun k hk => by rw [Sh.push_Bo S x (ok.count_le hk).2.2.1]; exact ok.count k hk, by rw [Sh.push_B, iLen_append]; show 1 + _ ≤ S.per; omega⟩
theorem Sh.Std.push {S : Sh} (ok : S.Ok) (x : It) {g : Nat → Nat → Fr} {p : Nat} (h : S.Std g p) : (S.push x).Std g p := by
  refine ⟨⟨?_, h.st.link, h.st.old0, fun k hk i hi => ?_, fun i hi => ?_, h.st.far, h.st.rest⟩, h.far⟩
  · rw [Sh.push_B, iLen_append]; have := h.st.ple; omega
  · have hn := (ok.count_le hk).2.2.1
    rw [Sh.push_Bo S x hn] at hi ⊢
    exact h.st.old k hk i hi
  · have := S.push_it x (i := i) (by have := h.st.ple; omega)
    unfold Sh.it at this
    rw [this]
    exact h.st.new i hi
theorem Wr.push {S : Sh} {s : Nat} {d : D} (h : Inv S s d) (x : It) (hf : 1 + iLen (S.B S.n) + iLen [x] ≤ S.per) : Wr (S.push x) s (iLen (S.B S.n)) d := by
  have ok := h.cr.ok
  refine ⟨⟨ok.push x hf, h.cr.dok, h.cr.room, h.cr.kept.push ok x, fun y hy => ?_⟩, ?_, h.full, h.ahead⟩
  · obtain ⟨i, h1, h2, h3, h4, h5⟩ := h.cr.pend y hy
    refine ⟨i, h1, ?_, h3, ?_, ?_⟩
    · rw [Sh.push_B, iLen_append]; omega
    · rw [S.push_it x h2]; exact h4
    · rw [S.push_it x h2]; exact h5
  · rw [Sh.push_B, iLen_append]; have := h.le; omega
theorem Wr.write {S : Sh} {s j : Nat} {d : D} (h : Wr S s j d) (hj : j < iLen (S.B S.n)) (h4 : (S.it j).k = 4 → j = s) : Wr S s (j + 1) (d.write (S.n * S.per + (1 + j)) (S.it j).lay) := by
  have ok := h.cr.ok
  have hf := ok.fits
  obtain ⟨i1, i2, i3, i4⟩ := ok.it_get j hj
  refine ⟨⟨ok, h.cr.dok.write (sec_lt (by omega) ok.nlt h.cr.room) (Fr.lay_length i1), by rw [D.write_kept]; exact h.cr.room, ?_, fun x hx => ?_⟩, by have := h.le; omega, fun i h1 h2 => ?_, fun x hx i hi => ?_⟩
  · have : frKept (d.write (S.n * S.per + (1 + j)) (S.it j).lay) S.per = frKept d S.per := by unfold frKept; rw [D.write_kept]
    rw [this]; exact h.cr.kept
  · rw [D.write_pend] at hx
    rcases List.mem_append.1 hx with hx | hx
    · exact h.cr.pend x hx
    · rw [List.mem_singleton] at hx
      subst hx
      exact ⟨j, h.le.1, hj, rfl, rfl, h4⟩
  · rw [D.write_pend]
    by_cases e : i = j
    · subst e
      exact ⟨_, List.mem_append_right _ (List.mem_singleton.2 rfl), rfl⟩
    · obtain ⟨x, hx, e2⟩ := h.full i h1 (by omega)
      exact ⟨x, List.mem_append_left _ hx, e2⟩
  · rw [D.write_pend] at hx
    rcases List.mem_append.1 hx with hx | hx
    · exact h.ahead x hx i (by omega)
    · rw [List.mem_singleton] at hx
      subst hx
      show S.n * S.per + (1 + j) ≠ _
      omega
/-- frames one behind the other, as far as power goes -/
theorem Wr.all {S : Sh} {s : Nat} : ∀ (fs : List Fr) (j : Nat) (d : D), Wr S s j d → fs = (items S.e 1 (S.B S.n)).drop j → (∀ i, j ≤ i → i < iLen (S.B S.n) → (S.it i).k = 4 → i = s) →
    CrInv S s (wrAll S.per S.n d fs).1 ∧ ((wrAll S.per S.n d fs).2 = true → Inv S s (wrAll S.per S.n d fs).1)
  | [], j, d, h, hfs, _ => by
    have hl := congrArg List.length hfs
    rw [List.length_drop, items_length, List.length_nil] at hl
    obtain rfl : j = iLen (S.B S.n) := by have := h.le; omega
    exact ⟨h.cr, fun _ => h⟩
  | f :: fs, j, d, h, hfs, h4 => by
    have hl := congrArg List.length hfs
    rw [List.length_drop, items_length, List.length_cons] at hl
    have hj : j < iLen (S.B S.n) := by omega
    have hj' : j < (items S.e 1 (S.B S.n)).length := by rw [items_length]; exact hj
    rw [List.drop_eq_getElem_cons hj', List.cons.injEq] at hfs
    obtain ⟨hf, hr⟩ := hfs
    have hfi : f = S.it j := by rw [hf, Sh.it, List.getD_eq_getElem?_getD, List.getElem?_eq_getElem hj']; rfl
    have ha := (h.cr.ok.it_get j hj).2.2.1
    unfold wrAll
    by_cases hp : d.power = true
    · rw [if_pos hp, hfi, ha, Int.toNat_natCast]
      exact Wr.all fs (j + 1) _ (h.write hj (h4 j (Nat.le_refl _) hj)) hr (fun i hi => h4 i (by omega))
    · rw [if_neg hp]
      exact ⟨h.cr, fun e => by cases e⟩
theorem kinds_some (e : Int) (a : Nat) (b : List UInt8) : ∀ f ∈ items e a [some b], f.k ≠ 4 := items_kind e [some b] a (by simp)
/-- one item is written -/
theorem Wr.put {S : Sh} {s : Nat} {d : D} (h : Inv S s d) (x : It) (hx : x = none → s = iLen (S.B S.n)) (hf : 1 + iLen (S.B S.n) + iLen [x] ≤ S.per) :
    CrInv (S.push x) s (wrAll S.per S.n d (items S.e (1 + iLen (S.B S.n)) [x])).1 ∧ ((wrAll S.per S.n d (items S.e (1 + iLen (S.B S.n)) [x])).2 = true → Inv (S.push x) s (wrAll S.per S.n d (items S.e (1 + iLen (S.B S.n)) [x])).1) := by
  have hl := items_length S.e (S.B S.n) 1
  refine Wr.all (S := S.push x) _ (iLen (S.B S.n)) d (h.push x hf) ?_ (fun i h1 h2 h4 => ?_)
  · rw [Sh.push_B]
    show _ = (items S.e 1 (S.B S.n ++ [x])).drop _
    rw [items_append, List.drop_left' hl]
  · cases x with
    | none =>
      rw [Sh.push_B, iLen_append] at h2
      simp only [iLen] at h2
      have := hx rfl
      omega
    | some b =>
      exfalso
      rw [Sh.push_B] at h2
      unfold Sh.it at h4
      rw [Sh.push_B] at h4
      have := items_mem S.e 1 (S.B S.n) [some b] [] i h1 (by rw [iLen_append] at h2; exact h2)
      exact kinds_some S.e _ b _ this h4
/-- writes leave what is kept; with power all is done -/
theorem wrAll_facts (per seg : Nat) : ∀ (fs : List Fr) (d : D), (wrAll per seg d fs).1.kept = d.kept ∧ (wrAll per seg d fs).1.cut = d.cut ∧ (wrAll per seg d fs).1.pend.length ≤ d.pend.length + fs.length ∧ (d.cut = false → (wrAll per seg d fs).2 = true)
  | [], d => ⟨rfl, rfl, by simp [wrAll], fun _ => rfl⟩
  | f :: fs, d => by
    unfold wrAll
    by_cases hp : d.power = true
    · rw [if_pos hp]
      obtain ⟨h1, h2, h3, h4⟩ := wrAll_facts per seg fs (d.write (seg * per + f.a.toNat) f.lay)
      have hc : (d.write (seg * per + f.a.toNat) f.lay).cut = d.cut := by simp only [D.write, D.spent_cut]
      refine ⟨by rw [h1, D.write_kept], by rw [h2, hc], ?_, fun e => h4 (by rw [hc, e])⟩
      rw [D.write_pend, List.length_append] at h3
      simp only [List.length_cons, List.length_nil] at h3 ⊢
      omega
    · rw [if_neg hp]
      exact ⟨rfl, rfl, by simp, fun e => by simp [D.power, e] at hp⟩
theorem power_of {d : D} (h : d.cut = false) : d.power = true := by simp [D.power, h]
theorem sync_cut (d : D) : d.sync.cut = d.cut := by simp only [D.sync, D.spent_cut]
end Go.Proofs.YtlgefjcfnnjkbaaDoor
