/- Parts of the proof, one behind the other: LogCj, LogHa. Each part's own words say what it proves; no conditions. -/
import Derived.Test.YtlgefjcfnnjkbaaDoorP20
import Derived.Test.YtlgefjcfnnjkbaaDoorP21
set_option linter.unusedVariables false
set_option linter.unusedSimpArgs false
set_option linter.unusedSectionVars false
/- A log is opened. No conditions. -/
namespace Go.Proofs.YtlgefjcfnnjkbaaDoor
set_option maxRecDepth 100000
open Go.RowKit

/-! ### What is found: its bounds -/
theorem frOf_e (t : List UInt8) (a : Nat) : 0 ≤ (frOf t a).e ∧ (frOf t a).e ≤ 16777215 := by
  rcases frOf_cases t a with ⟨f, h, _, e⟩ | ⟨f, _, _, e⟩ | ⟨_, e⟩
  · rw [e]
    have := (readF_some h).2.1
    simp only [Fr.right, decide_eq_true_eq] at this
    omega
  · rw [e]; simp [zeroFr]
  · rw [e]; simp [zeroFr]
theorem newRow_e (g : Nat → Fr) (hg : ∀ k, 0 ≤ (g k).e ∧ (g k).e ≤ 16777215) (seg : Nat) (p : Int × Nat) (hp : 0 ≤ p.1 ∧ p.1 ≤ 16777215) : ∀ n, 0 ≤ (newRow g seg n p).1 ∧ (newRow g seg n p).1 ≤ 16777215
  | 0 => by simpa [newRow] using hp
  | n + 1 => by
    rw [newRow_succ]
    simp only
    split
    · exact hg n
    · exact newRow_e g hg seg p hp n
theorem newest_e (g : Nat → Nat → Fr) (hg : ∀ s k, 0 ≤ (g s k).e ∧ (g s k).e ≤ 16777215) (per : Nat) : ∀ n, 0 ≤ (newest g per n).1 ∧ (newest g per n).1 ≤ 16777215
  | 0 => by simp [newest]
  | n + 1 => by
    rw [newest_succ]
    exact newRow_e (g n) (hg n) n _ (newest_e g hg per n) per
theorem linkTo_low (f : Fr) (own per : Nat) : ∀ (m : Nat) (c : List Us), linkTo f own per m = some c → ∀ k, 0 ≤ (c.getD k Us.no).e
  | 0, c, h => by
    rw [linkTo] at h
    obtain rfl := Option.some.inj h
    intro k
    unfold Ch.no
    rw [List.getD_eq_getElem?_getD, List.getElem?_replicate]
    split <;> simp [Us.no]
  | m + 1, c, h => by
    rw [linkTo] at h
    cases hc : linkTo f own per m with
    | none => rw [hc] at h; cases h
    | some c0 =>
      rw [hc, Option.bind_some] at h
      have ih := linkTo_low f own per m c0 hc
      unfold linkStep at h
      simp only at h
      split at h
      · obtain rfl := Option.some.inj h; exact ih
      · split at h
        · cases h
        · split at h
          · cases h
          · obtain rfl := Option.some.inj h
            intro k
            by_cases e : k = m
            · subst e
              by_cases hl : k < c0.length
              · rw [List.getD_eq_getElem?_getD, List.getElem?_set_self hl]
                simp only [Option.getD_some, useAt]
                exact Int.natCast_nonneg _
              · rw [List.getD_eq_getElem?_getD, List.getElem?_eq_none (by rw [List.length_set]; omega)]
                simp [Us.no]
            · rw [List.getD_eq_getElem?_getD, List.getElem?_set_ne (fun e2 => e e2.symm), ← List.getD_eq_getElem?_getD]
              exact ih k
theorem linkP_low {f : Fr} {own per segs : Nat} {c : List Us} (h : linkP f own per segs = some c) : ∀ k, 0 ≤ (c.getD k Us.no).e := by
  unfold linkP at h
  split at h
  · exact linkTo_low f own per segs c h
  · cases h
structure FoundOk (per segs : Nat) (m : Found) : Prop where
  e1 : 1 ≤ m.epoch
  e2 : m.epoch ≤ 16777215
  seg : m.seg < segs
  use : (m.chain.getD m.seg Us.no).e = m.epoch
  us : ∀ k, 0 ≤ (m.chain.getD k Us.no).e ∧ (m.chain.getD k Us.no).e ≤ 16777215 ∧ 0 ≤ (m.chain.getD k Us.no).c ∧ (m.chain.getD k Us.no).c ≤ 64
theorem look_facts (d : D) {per segs : Nat} (hper : per ≤ 64) (h4 : 4 ≤ per) (hs : segs ≤ 12) {m : Found} (h : look (frAt d per) per segs = .inl m) (h0 : m.epoch ≠ 0) : FoundOk per segs m := by
  have hb := newest_e (frAt d per) (fun s k => frOf_e _ k) per segs
  unfold look at h
  simp only at h
  split at h
  · obtain rfl := Sum.inl.inj h
    exact absurd rfl h0
  · rename_i hn
    cases hl : (if (frAt d per (newest (frAt d per) per segs).2 0).e = (newest (frAt d per) per segs).1 then linkP (frAt d per (newest (frAt d per) per segs).2 0) (newest (frAt d per) per segs).2 per segs else none) with
    | none => rw [hl] at h; cases h
    | some c =>
      rw [hl] at h
      simp only at h
      cases hsd : soundAll (frAt d per) per c (orderL c) with
      | some x => rw [hsd] at h; cases h
      | none =>
        rw [hsd] at h
        simp only at h
        cases hso : sound (frAt d per (newest (frAt d per) per segs).2) (newest (frAt d per) per segs).1 1 (sealedTo (frAt d per (newest (frAt d per) per segs).2) (newest (frAt d per) per segs).1 per) with
        | some x => rw [hso] at h; cases h
        | none =>
          rw [hso] at h
          obtain rfl := Sum.inl.inj h
          split at hl
          · rename_i hee
            obtain ⟨f1, f2⟩ := linkP_facts hs hl
            have hseg := newest_seg (frAt d per) per segs hn
            have hrun : (runOf (frAt d per (newest (frAt d per) per segs).2) (newest (frAt d per) per segs).1 1 per).length ≤ per - 1 := by
              unfold runOf
              refine Nat.le_trans (List.takeWhile_prefix _).length_le ?_
              simp [frames]
            have hj := joinF_snd_le (runOf (frAt d per (newest (frAt d per) per segs).2) (newest (frAt d per) per segs).1 1 per)
            unfold take
            refine ⟨by show 1 ≤ (newest (frAt d per) per segs).1; omega, hb.2, hseg, ?_, fun k => ?_⟩
            · show ((c.set (newest (frAt d per) per segs).2 _).getD (newest (frAt d per) per segs).2 Us.no).e = _
              rw [List.getD_eq_getElem?_getD, List.getElem?_set_self (by omega)]
              rfl
            · show _ ∧ _
              simp only
              by_cases hk : k = (newest (frAt d per) per segs).2
              · subst hk
                rw [List.getD_eq_getElem?_getD, List.getElem?_set_self (by omega)]
                simp only [Option.getD_some]
                omega
              · rw [List.getD_eq_getElem?_getD, List.getElem?_set_ne (fun e => hk e.symm), ← List.getD_eq_getElem?_getD]
                rcases f2 k with e | ⟨g1, g2, g3, g4, g5, _⟩
                · rw [e]; simp [Us.no]
                · have := linkP_low hl k
                  omega
          · cases hl

/-! ### Open -/
def OpenPost (w : World) (p kb : Nat) (pv : Value) (r : Opened) (e : Ending) (w' : World) : Prop := match r with
  | .rot x => e = .returned (.tuple #[.pointer none, .slice none 0 0, .int .i64 (x : Int), .int .i64 131]) ∧ Only (fun _ => False) w w'
  | .err d e1 => ∃ pv', e = .returned (.tuple #[.pointer none, .slice none 0 0, .int .i64 0, .int .i64 e1]) ∧ DStep w w' p kb pv pv' d
  | .ok d l ps => ∃ pv' lb psv, e = .returned (.tuple #[.pointer (some ⟨lb, 0, none⟩), psv, .int .i64 0, .int .i64 0]) ∧ w.heap.size ≤ lb ∧ DStep w w' p kb pv pv' d ∧ LgAt w' lb p kb pv' d l ∧ w'.ownsRow w.heap.size 50 2 psv ps.length (pieceCells ps) ∧ psv.ownBlock ≠ some lb
def lg0Cells (p per segs : Nat) : List Value := [.pointer (some ⟨p, 0, none⟩), .int .i64 (per : Int), .int .i64 (segs : Int), .int .i64 0, .int .i64 0, .int .i64 0, .int .i64 0, .int .i64 0, .int .i64 0, .int .i64 0, .int .i64 0, .int .i64 0, .int .i64 0, .int .i64 0, .int .i64 0, .int .i64 0, .int .i64 0, .int .i64 0, .int .i64 0, .int .i64 0, .int .i64 0, .int .i64 0, .int .i64 0, .int .i64 0, .int .i64 0, .int .i64 0, .int .i64 0, .int .i64 0, .int .i64 0, .bool false, .bool false, .bool false]
theorem lg0_is (p per segs : Nat) : lgCells p (Lg.new per segs) = lg0Cells p per segs := rfl
theorem Tryd.buildGround (p per segs : Nat) (w : World) : (Instr.build 56 #[(0, .pointer (some ⟨p, 0, none⟩)), (1, .int .i64 (per : Int)), (2, .int .i64 (segs : Int))]).run Tryd.prog w = .ok (.agg #[.pointer (some ⟨p, 0, none⟩), .int .i64 (per : Int), .int .i64 (segs : Int)]) w := by kernel_rfl
theorem Tryd.buildLog (p per segs : Nat) (w : World) : (Instr.build 62 #[(0, .agg #[.pointer (some ⟨p, 0, none⟩), .int .i64 (per : Int), .int .i64 (segs : Int)])]).run Tryd.prog w = .ok (.agg (lg0Cells p per segs).toArray) w := by kernel_rfl
theorem Tryd.infoLog : (Tryd.prog.info? 62).map (·.size) = some 32 := by kernel_rfl

theorem results_tmp4 {fn : Func} {t u v x : Tmp} (h : fn.results = #[.tmp t, .tmp u, .tmp v, .tmp x]) (tmps : Array Value) (P : Program) (w : World) :
    (results fn tmps).run P w = .ok (.tuple #[tmps.getD t undef, tmps.getD u undef, tmps.getD v undef, tmps.getD x undef]) w := by
  simp [results, h]
theorem open_nil (w : World) (per : Int) : Calls Tryd.prog 6 #[.pointer none, .int .i64 per] w fun e w' => e = .returned (.tuple #[.pointer none, .slice none 0 0, .int .i64 0, .int .i64 1]) ∧ w = w' := by
  go_enter Tryd.func6, Tryd.ntmps6
  go_wp2_with fail
  ((try simp only [Exit.inBlock, Exit.then]); refine bodyPost_ret (results_tmp4 rfl _ _ _) rfl ?_)
  exact ⟨rfl, rfl⟩
theorem open_arg (w : World) (p : Nat) (per : Int) (h : per < 4) : Calls Tryd.prog 6 #[.pointer (some ⟨p, 0, none⟩), .int .i64 per] w fun e w' => e = .returned (.tuple #[.pointer none, .slice none 0 0, .int .i64 0, .int .i64 2]) ∧ w = w' := by
  go_enter Tryd.func6, Tryd.ntmps6
  go_wp2_with fail
  ((try simp only [Exit.inBlock, Exit.then]); refine bodyPost_ret (results_tmp4 rfl _ _ _) rfl ?_)
  exact ⟨rfl, rfl⟩
/-- errors.As at a rot: the target has it behind the call -/
theorem as_rot (w : World) (rb tb : Nat) (hg : w.cell? ⟨0, 0, none⟩ = some (.iface 138 (.agg #[.pointer (some ⟨1, 66, none⟩)]))) (ht : w.heap[tb]? = some (.cells #[.pointer none] 69 (0, 0))) :
    Calls Tryd.prog 18 #[.iface 69 (.pointer (some ⟨rb, 0, none⟩)), .iface 71 (.pointer (some ⟨tb, 0, none⟩))] w fun ev w' => ev = .returned (.bool true) ∧ Only (fun b => b = tb) w w' ∧ w'.heap[tb]? = some (.cells #[.pointer (some ⟨rb, 0, none⟩)] 69 (0, 0)) := by
  refine (as_hit ⟨rb, 0, none⟩ ⟨tb, 0, none⟩ (.pointer none) w hg (cell_at ht 0) (free_at ht 0)).mono ?_
  rintro ev w' ⟨rfl, rfl⟩
  have o1 := Only.alloc w (.cells #[.pointer (some ⟨tb, 0, none⟩)] 71) (fun _ => False)
  generalize hw1 : w.alloc (.cells #[.pointer (some ⟨tb, 0, none⟩)] 71) = w1 at *
  have o2 := o1.trans (Only.alloc w1 (.cells #[.pointer (some ⟨1, 71, none⟩), .pointer (some ⟨w.heap.size, 0, none⟩), .int .u64 150] 100) (fun _ => False))
  generalize w1.alloc (.cells #[.pointer (some ⟨1, 71, none⟩), .pointer (some ⟨w.heap.size, 0, none⟩), .int .u64 150] 100) = w2 at *
  have o3 := o2.trans (Only.alloc w2 (.cells #[.pointer (some ⟨1, 71, none⟩), .pointer (some ⟨w.heap.size, 0, none⟩), .int .u64 150] 100) (fun _ => False))
  generalize w2.alloc (.cells #[.pointer (some ⟨1, 71, none⟩), .pointer (some ⟨w.heap.size, 0, none⟩), .int .u64 150] 100) = w3 at *
  have o4 := o3.trans (Only.alloc w3 (.cells #[.pointer (some ⟨rb, 0, none⟩)] 69) (fun _ => False))
  generalize w3.alloc (.cells #[.pointer (some ⟨rb, 0, none⟩)] 69) = w4 at *
  exact ⟨rfl, (o4.mono fun _ _ => False.elim).trans (Only.one w4 tb 0 (.pointer (some ⟨rb, 0, none⟩))), heap_setCell_same w4 tb 0 _ _ _ (o4.keep ht id)⟩

theorem alloc_setRow (W : World) (c0 cs : Array Value) (t : TypeId) : Only (fun _ => False) W ((W.alloc (.cells c0 t)).setRow W.heap.size cs) ∧ ((W.alloc (.cells c0 t)).setRow W.heap.size cs).heap[W.heap.size]? = some (.cells cs t (0, 0)) := by
  have h1 := Only.alloc W (.cells c0 t) (fun _ => False)
  have h2 := Only.setRow (W.alloc (.cells c0 t)) W.heap.size cs (S := fun x => x = W.heap.size) rfl
  exact ⟨h1.trans' h2 (fun y hy e => by have e' : y = W.heap.size := e; omega), setRow_heap _ W.heap.size _ cs _ _ (heap_alloc_any W (.cells c0 t))⟩

theorem lgCells_setChain (p : Nat) (l : Lg) (c : List Us) (h : l.chain.length = 12) (hc : c.length = 12) : laid (lgCells p l) 3 (usCells c) = lgCells p { l with chain := c } := by
  have h1 : (lgHead p l).length = 3 := rfl
  have h2 : (usCells l.chain).length = 24 := by rw [usCells_length, h]
  have h3 : (usCells c).length = 24 := by rw [usCells_length, hc]
  unfold laid lgCells
  rw [h3, List.take_left' h1, ← List.drop_drop, List.drop_left' h1, List.drop_left' h2]
  rfl
theorem has_front {W : World} {b : Nat} {t : TypeId} {cs post : List Value} (h : W.heap[b]? = some (.cells (cs ++ post).toArray t (0, 0))) : Has W b 0 cs := has_of_block (pre := []) h
theorem row_one {W : World} {base : Nat} {e : TypeId} {size : Nat} {v : Value} {n : Nat} {xs : List Value} (h : W.ownsRow base e size v n xs) : v.oneCell' = true := by
  rcases h.2 with ⟨e, _⟩ | ⟨g, cap, cur, e, _⟩ <;> rw [e] <;> rfl

def lgOf (per segs : Nat) (m : Found) : Lg := { Lg.new per segs with chain := m.chain, last := m.seg, top := m.epoch }
def openOut (r : D × Lg × Int) (ps : List (Int × List UInt8)) : Opened := if r.2.2 = 0 then .ok r.1 r.2.1 ps else .err r.1 r.2.2
def openM (d : D) (per segs : Nat) (m : Found) : Opened := if m.epoch = 0 then .ok d (Lg.new per segs) [] else openOut ((lgOf per segs m).clean d m.loose) m.pieces

set_option maxHeartbeats 8000000 in
theorem open_any (w : World) (p kb : Nat) (pv : Value) (d : D) (per : Nat) (hd : DAt w p kb pv d) (h4 : 4 ≤ per) (h64 : per ≤ 64) (hs4 : 4 ≤ d.kept.length / per) (hs12 : d.kept.length / per ≤ 12) (hroom : d.pend.length + 200 ≤ 1000000)
    (hg : (∃ x, look (frAt d per) per (d.kept.length / per) = .inr x) → w.cell? ⟨0, 0, none⟩ = some (.iface 138 (.agg #[.pointer (some ⟨1, 66, none⟩)]))) :
    Calls Tryd.prog 6 #[.pointer (some ⟨p, 0, none⟩), .int .i64 (per : Int)] w (OpenPost w p kb pv (openL d per)) := by
  have hO : openL d per = (match look (frAt d per) per (d.kept.length / per) with
    | .inr x => .rot x
    | .inl m => openM d per (d.kept.length / per) m) := by
    unfold openL openM openOut lgOf
    simp only
    cases look (frAt d per) per (d.kept.length / per) <;> rfl
  have hdiv : (d.kept.length : Int) / (per : Int) = ((d.kept.length / per : Nat) : Int) := by omega
  have hroom2 : (d.kept.length / per) * per ≤ d.kept.length := Nat.div_mul_le_self _ _
  have hfacts := fun m => @look_facts d per (d.kept.length / per) h64 h4 hs12 m
  have hlook := fun (W : World) (gb : Nat) (h : GAt W gb p kb pv d per (d.kept.length / per)) => look_any W gb p kb pv d per (d.kept.length / per) h
  generalize openL d per = R at hO ⊢
  generalize d.kept.length / per = segs at *
  generalize look (frAt d per) per segs = K at *
  have HO := Lib.hid hO
  have HF := Lib.hid hfacts
  have hA := Only.alloc w (.cells (lg0Cells p per segs).toArray 62) (fun _ => False)
  have hb := heap_alloc_any w (.cells (lg0Cells p per segs).toArray 62)
  have hz : (w.alloc (.cells (lg0Cells p per segs).toArray 62)).heap.size = w.heap.size + 1 := World.size_alloc _ _
  obtain ⟨w1, hw1⟩ : ∃ w1, w1 = w.alloc (.cells (lg0Cells p per segs).toArray 62) := ⟨_, rfl⟩
  rw [← hw1] at hA hb hz
  have hL1 : LgAt w1 w.heap.size p kb pv d (Lg.new per segs) := ⟨hb, rfl, hd.only hA (fun _ _ => id), fun hf => by have := hd.fp_lt _ hf; omega, h4, h64, hs12, hroom2, by simp [Lg.new], by simp [Lg.new], fun k => by
    show 0 ≤ (Ch.no.getD k Us.no).e ∧ _
    unfold Lg.new Ch.no
    simp only
    rw [List.getD_eq_getElem?_getD, List.getElem?_replicate]
    split <;> simp [Us.no]⟩
  have HK := Lib.hid (hlook w1 w.heap.size hL1.gat)
  have c2 : w1.cell? ⟨w.heap.size, 2, none⟩ = some (.int .i64 (segs : Int)) := hL1.c2
  have HL1 := Lib.hid hL1
  have HA := Lib.hid hA
  have HZ := Lib.hid hz
  have hgl : w.cell? ⟨0, 0, none⟩ = some (.iface 138 (.agg #[.pointer (some ⟨1, 66, none⟩)])) → w1.cell? ⟨0, 0, none⟩ = some (.iface 138 (.agg #[.pointer (some ⟨1, 66, none⟩)])) := fun h => by rw [hA.cell (World.block_lt_of_cell? _ _ h) id]; exact h
  have HG := Lib.hid (fun h => hgl (hg h))
  have HSZ := Lib.hid (size_any w p kb pv d hd)
  have hpI : ¬ (per : Int) < 4 := by omega
  have hpI2 : ¬ (64 : Int) < (per : Int) := by omega
  have hsI : ¬ (segs : Int) < 4 := by omega
  have hsI2 : ¬ (12 : Int) < (segs : Int) := by omega
  have hbg := fun W => Tryd.buildGround p per segs W
  have hbl := fun W => Tryd.buildLog p per segs W
  unfold lg0Cells at hw1
  have HW1 := Lib.hid hw1
  clear hO hfacts hlook hb hA hz hL1 hg hgl hw1
  go_enter Tryd.func6, Tryd.ntmps6
  go_upto_region 6 with ((refine HSZ.out.mono ?_); rintro ev W1 ⟨rfl, rfl⟩)
  rw [← HW1.out]
  clear hbg hbl HSZ HW1 hdiv
  go_upto_region 8 with fail
  have hfs := Tryd.sizeFound
  have hf1 := found0_one
  have hKP := HK.out
  unfold LookPost at hKP
  have hfl : (foundCells Found.no zeroPv).length = 29 := rfl
  generalize hFC : foundCells Found.no zeroPv = FC at hf1 hKP hfl
  have HFC := Lib.hid hFC
  have HFS := Lib.hid hfs
  have HF1 := Lib.hid hf1
  have HFL := Lib.hid hfl
  clear hFC hfs hf1 HK hfl
  cases K with
  | inr x =>
    have HR := Lib.hid (show R = .rot x from HO.out)
    have hg1 := HG.out ⟨x, rfl⟩
    have HG1 := Lib.hid hg1
    simp only at hKP
    have HK := Lib.hid hKP
    clear HO HF HG hg1 hKP
    go_wp2_with fail
    refine HK.out.mono ?_
    rintro ev W2 ⟨⟨rb, rfl, hrb, hb2⟩, ho2⟩
    have HB2 := Lib.hid hb2
    have HRB := Lib.hid hrb
    have HO2 := Lib.hid ho2
    clear hb2 hrb ho2 HK c2
    go_upto_region 9 with ((with_reducible refine wpList_store_block W2.heap.size 64 FC [.int .i64 0, .int .i64 0, .int .i64 0, .int .i64 0, .int .i64 0, .int .i64 0, .int .i64 0, .int .i64 0, .int .i64 0, .int .i64 0, .int .i64 0, .int .i64 0, .int .i64 0, .int .i64 0, .int .i64 0, .int .i64 0, .int .i64 0, .int .i64 0, .int .i64 0, .int .i64 0, .int .i64 0, .int .i64 0, .int .i64 0, .int .i64 0, .int .i64 0, .int .i64 0, .int .i64 0, .bool false, .slice none 0 0] ?_ ?_ ?_ ?_ ?_ ?_ ?_); (· rw [HFL.out]; exact HFS.out); (· exact heap_alloc_any W2 _); (· rw [HFL.out]; rfl); (· exact HF1.out); (· rfl); (· rfl))
    obtain ⟨hoA, hbA⟩ := alloc_setRow W2 #[.int .i64 0, .int .i64 0, .int .i64 0, .int .i64 0, .int .i64 0, .int .i64 0, .int .i64 0, .int .i64 0, .int .i64 0, .int .i64 0, .int .i64 0, .int .i64 0, .int .i64 0, .int .i64 0, .int .i64 0, .int .i64 0, .int .i64 0, .int .i64 0, .int .i64 0, .int .i64 0, .int .i64 0, .int .i64 0, .int .i64 0, .int .i64 0, .int .i64 0, .int .i64 0, .int .i64 0, .bool false, .slice none 0 0] FC.toArray 64
    generalize (W2.alloc (.cells #[.int .i64 0, .int .i64 0, .int .i64 0, .int .i64 0, .int .i64 0, .int .i64 0, .int .i64 0, .int .i64 0, .int .i64 0, .int .i64 0, .int .i64 0, .int .i64 0, .int .i64 0, .int .i64 0, .int .i64 0, .int .i64 0, .int .i64 0, .int .i64 0, .int .i64 0, .int .i64 0, .int .i64 0, .int .i64 0, .int .i64 0, .int .i64 0, .int .i64 0, .int .i64 0, .int .i64 0, .bool false, .slice none 0 0] 64)).setRow W2.heap.size FC.toArray = w3 at hoA hbA ⊢
    have hlt0 : 0 < w1.heap.size := World.block_lt_of_cell? _ _ HG1.out
    have ho3 := HO2.out.trans hoA
    have hg3 : w3.cell? ⟨0, 0, none⟩ = some (.iface 138 (.agg #[.pointer (some ⟨1, 66, none⟩)])) := by rw [ho3.cell hlt0 id]; exact HG1.out
    have hb3 := hoA.keep HB2.out id
    have hoN := Only.alloc w3 (.cells #[.pointer none] 69) (fun _ => False)
    have hbN := heap_alloc_any w3 (.cells #[.pointer none] 69)
    have hg4 : (w3.alloc (.cells #[.pointer none] 69)).cell? ⟨0, 0, none⟩ = some (.iface 138 (.agg #[.pointer (some ⟨1, 66, none⟩)])) := by rw [hoN.cell (Nat.lt_of_lt_of_le hlt0 ho3.size) id]; exact hg3
    have HAS := Lib.hid (as_rot _ rb w3.heap.size hg4 hbN)
    have HO4 := Lib.hid (ho3.trans hoN)
    have HB4 := Lib.hid (hoN.keep hb3 id)
    have HRL := Lib.hid (show rb < w3.heap.size from lt_of_block hb3)
    have HWS := Lib.hid (show w1.heap.size ≤ w3.heap.size from ho3.size)
    clear hoA hbA hlt0 hg3 hb3 hoN hbN hg4 ho3
    go_upto_region 10 with fail
    go_wp2_with fail
    refine HAS.out.mono ?_
    rintro ev W5 ⟨rfl, ho5, hb5⟩
    have HO5 := Lib.hid ho5
    have HB5 := Lib.hid hb5
    clear ho5 hb5 HAS
    go_upto_region 11 with fail
    have ho5 := HO5.out
    have hb5 := HB5.out
    clear HO5 HB5
    have hrn : rb ≠ w3.heap.size := by have := HRL.out; omega
    have hrb5 := ho5.keep HB4.out (fun e => hrn e)
    have HQ := Lib.hid (show ∀ W, Only (fun _ => False) W5 W → W.cell? ⟨w3.heap.size, 0, none⟩ = some (.pointer (some ⟨rb, 0, none⟩)) ∧ W.cell? ⟨rb, 0, none⟩ = some (.int .i64 (x : Int)) ∧ True ∧ True from fun W hW => ⟨cell_at (hW.keep hb5 id) 0, cell_at (hW.keep hrb5 id) 0, trivial, trivial⟩)
    have hoF := (HA.out.trans HO4.out).trans' ho5 (fun y hy e => by have e' : y = w3.heap.size := e; have := HWS.out; have := HZ.out; omega)
    have HOF := Lib.hid hoF
    clear hoF hrb5 ho5 hb5
    refine wp_region_pick (fun W => Only (fun _ => False) W5 W) [(0, 1), (1, 0), (2, 0), (3, 1), (4, 0), (5, 0), (6, 0), (7, 0)] (by kernel_rfl) (by kernel_rfl) (fun _ _ d _ _ h => by cases d <;> exact h) (Only.drew W5 _) ?_
    have ho6 := Only.drew W5 (fun _ => False)
    generalize W5.drew = W6 at ho6 ⊢
    simp only [pickOps, List.getElem?_cons_zero, List.getElem?_cons_succ]
    iterate 8 (first | (refine wpL_pure (a' := ?_) ?_ rfl (fun W => ?_) ?_ ?_; rotate_left 2; (· go_simp; first | (go_bits; with_reducible rfl) | with_reducible rfl); (· simp only [put_some, List.setIfInBounds_toArray, List.set_cons_zero, List.set_cons_succ]; rfl)) | (refine wpL_held (a' := ?_) ?_ rfl (fun W hW => ?_) ?_ ?_; rotate_left 2; (· obtain ⟨q1, q2, q3, q4⟩ := HQ.out W hW; go_simp; first | (go_bits; with_reducible rfl) | with_reducible rfl); (· simp only [put_some, List.setIfInBounds_toArray, List.set_cons_zero, List.set_cons_succ]; rfl)))
    refine wpL_nil ?_
    have HO6 := Lib.hid (HOF.out.trans ho6)
    clear ho6 HOF HQ
    go_wp2_with fail
    ((try simp only [Exit.inBlock, Exit.then]); refine bodyPost_ret (results_tmp4 rfl _ _ _) rfl ?_)
    rw [HR.out]
    exact ⟨rfl, HO6.out⟩
  | inl m =>
    simp only at hKP
    have HR := Lib.hid (show R = openM d per segs m from HO.out)
    have HF' := Lib.hid (HF.out m rfl)
    have HK := Lib.hid hKP
    clear HO HF HG hKP c2
    go_wp2_with fail
    refine HK.out.mono ?_
    rintro ev W2 ⟨⟨psv, rfl, hrow, hcl⟩, ho2⟩
    have hF2 : ∀ v ∈ foundCells m psv, v.oneCell' = true := found_one m psv (row_one hrow)
    have hFL2 : (foundCells m psv).length = 29 := foundCells_length m psv hcl
    generalize hFM : foundCells m psv = FM at hF2 hFL2 ⊢
    have HFM := Lib.hid hFM
    have HF2 := Lib.hid hF2
    have HFL2 := Lib.hid hFL2
    have HROW := Lib.hid hrow
    have HCL := Lib.hid hcl
    have HO2 := Lib.hid ho2
    have HMB := Lib.hid (show w.heap.size < W2.heap.size by have := ho2.size; have := HZ.out; omega)
    clear hrow hcl ho2 HK hFM hF2 hFL2
    go_upto_region 9 with ((with_reducible refine wpList_store_block W2.heap.size 64 FM [.int .i64 0, .int .i64 0, .int .i64 0, .int .i64 0, .int .i64 0, .int .i64 0, .int .i64 0, .int .i64 0, .int .i64 0, .int .i64 0, .int .i64 0, .int .i64 0, .int .i64 0, .int .i64 0, .int .i64 0, .int .i64 0, .int .i64 0, .int .i64 0, .int .i64 0, .int .i64 0, .int .i64 0, .int .i64 0, .int .i64 0, .int .i64 0, .int .i64 0, .int .i64 0, .int .i64 0, .bool false, .slice none 0 0] ?_ ?_ ?_ ?_ ?_ ?_ ?_); (· rw [HFL2.out]; exact HFS.out); (· exact heap_alloc_any W2 _); (· rw [HFL2.out]; rfl); (· exact HF2.out); (· rfl); (· rfl))
    obtain ⟨hoA, hbA⟩ := alloc_setRow W2 #[.int .i64 0, .int .i64 0, .int .i64 0, .int .i64 0, .int .i64 0, .int .i64 0, .int .i64 0, .int .i64 0, .int .i64 0, .int .i64 0, .int .i64 0, .int .i64 0, .int .i64 0, .int .i64 0, .int .i64 0, .int .i64 0, .int .i64 0, .int .i64 0, .int .i64 0, .int .i64 0, .int .i64 0, .int .i64 0, .int .i64 0, .int .i64 0, .int .i64 0, .int .i64 0, .int .i64 0, .bool false, .slice none 0 0] FM.toArray 64
    generalize (W2.alloc (.cells #[.int .i64 0, .int .i64 0, .int .i64 0, .int .i64 0, .int .i64 0, .int .i64 0, .int .i64 0, .int .i64 0, .int .i64 0, .int .i64 0, .int .i64 0, .int .i64 0, .int .i64 0, .int .i64 0, .int .i64 0, .int .i64 0, .int .i64 0, .int .i64 0, .int .i64 0, .int .i64 0, .int .i64 0, .int .i64 0, .int .i64 0, .int .i64 0, .int .i64 0, .int .i64 0, .int .i64 0, .bool false, .slice none 0 0] 64)).setRow W2.heap.size FM.toArray = w3 at hoA hbA ⊢
    rw [← HFM.out] at hbA
    have HO3 := Lib.hid (HO2.out.trans hoA)
    have HROW3 := Lib.hid (ownsRow_only HROW.out hoA (fun _ _ h => h))
    have HB3 := Lib.hid hbA
    clear hoA hbA HROW HO2 HFM HF2 HFL2 HFC HFS HF1 HFL
    have hoN := Only.alloc w3 (.cells #[.pointer none] 69) (fun _ => False)
    have HON := Lib.hid hoN
    clear hoN
    go_upto_region 10 with fail
    generalize w3.alloc (.cells #[.pointer none] 69) = w4 at HON ⊢
    have HO4 := Lib.hid (HO3.out.trans HON.out)
    have HROW4 := Lib.hid (ownsRow_only HROW3.out HON.out (fun _ _ h => h))
    have HFA := Lib.hid (FAt.mk HCL.out (HON.out.keep HB3.out id) HROW4.out : FAt w4 W2.heap.size w1.heap.size m psv)
    clear HROW3 HB3 HON HO3
    go_wp2_with fail
    refine (as_nil _ _).mono ?_
    rintro ev w5 ⟨rfl, rfl⟩
    have c24 := HFA.out.c24
    by_cases he0 : m.epoch = 0
    · rw [he0] at c24
      have HN := Lib.hid (show R = .ok d (Lg.new per segs) [] by rw [HR.out]; unfold openM; rw [if_pos he0])
      clear he0 HR HF'
      go_wp2_with fail
      ((try simp only [Exit.inBlock, Exit.then]); refine bodyPost_ret (results_tmp4 rfl _ _ _) rfl ?_)
      rw [HN.out]
      have ho5 := HA.out.trans HO4.out
      exact ⟨pv, w.heap.size, .slice none 0 0, rfl, Nat.le_refl _, ⟨hd.only ho5 (fun _ _ => id), ho5.mono fun _ _ => False.elim, fun g hg => .inl hg⟩, HL1.out.quiet HO4.out, nil_row _ _ _ _, by simp [Value.ownBlock]⟩
    · have HN := Lib.hid (show R = openOut ((lgOf per segs m).clean d m.loose) m.pieces by rw [HR.out]; unfold openM; rw [if_neg he0])
      obtain ⟨f1, f2, f3, f4, f5⟩ := HF'.out he0
      have hne : ¬ m.epoch = 0 := he0
      clear HR HF' he0
      have HL5 := Lib.hid (HL1.out.quiet HO4.out)
      go_upto_region 14 with fail
      have hlen := HCL.out
      have HQ := Lib.hid (show ∀ W, Only (fun b => b = w.heap.size) w5 W → W.cell? ⟨W2.heap.size, 25, none⟩ = some (.int .i64 (m.seg : Int)) ∧ W.cell? ⟨W2.heap.size, 24, none⟩ = some (.int .i64 m.epoch) ∧ True ∧ True from fun W hW => by
        have hne : ¬ W2.heap.size = w.heap.size := by have := HMB.out; omega
        refine ⟨?_, ?_, trivial, trivial⟩
        · rw [hW.cell (World.block_lt_of_cell? _ _ HFA.out.c25) hne]; exact HFA.out.c25
        · rw [hW.cell (World.block_lt_of_cell? _ _ HFA.out.c24) hne]; exact HFA.out.c24)
      have HCH := Lib.hid (show ∀ W, Only (fun b => b = w.heap.size) w5 W → (Instr.loadAt 60 (.pointer (some ⟨W2.heap.size, 0, none⟩))).run Tryd.prog W = .ok (.agg (usCells m.chain).toArray) W from fun W hW => by
        have hne : ¬ W2.heap.size = w.heap.size := by have := HMB.out; omega
        have hb := hW.keep HFA.out.head hne
        exact run_load_part W W2.heap.size 0 24 (usCells m.chain) 60 _ Tryd.underlying60 rfl Tryd.sizeChain (by rw [usCells_length, hlen]) (has_front (post := [.int .i64 m.epoch, .int .i64 (m.seg : Int), .int .i64 (m.sealed : Int), .bool m.loose, psv]) hb))
      refine wp_region_pick (fun W => Only (fun b => b = w.heap.size) w5 W) [(0, 0), (1, 0), (2, 0), (3, 0), (4, 1), (5, 0), (6, 1), (7, 0), (8, 1), (9, 0), (10, 0), (11, 2), (12, 0), (13, 0), (14, 2), (15, 0), (16, 0), (17, 3)] (by kernel_rfl) (by kernel_rfl) (fun _ _ d _ _ h => by cases d <;> exact h) (Only.drew w5 _) ?_
      have ho6 := Only.drew w5 (fun b => b = w.heap.size)
      have hq6 := Only.drew w5 (fun _ => False)
      have hL6 := HL5.out.quiet hq6
      have hd6 := HO4.out.trans hq6
      generalize w5.drew = w6 at ho6 hq6 hL6 hd6 ⊢
      simp only [pickOps, List.getElem?_cons_zero, List.getElem?_cons_succ]
      iterate 4 (first | (refine wpL_pure (a' := ?_) ?_ rfl (fun W => ?_) ?_ ?_; rotate_left 2; (· go_simp; first | (go_bits; with_reducible rfl) | with_reducible rfl); (· simp only [put_some, List.setIfInBounds_toArray, List.set_cons_zero, List.set_cons_succ]; rfl)) | (refine wpL_held (a' := ?_) ?_ rfl (fun W hW => ?_) ?_ ?_; rotate_left 2; (· obtain ⟨q1, q2, q3, q4⟩ := HQ.out W hW; go_simp; first | (go_bits; with_reducible rfl) | with_reducible rfl); (· simp only [put_some, List.setIfInBounds_toArray, List.set_cons_zero, List.set_cons_succ]; rfl)))
      refine wpL_held (a' := ?_) (.agg (usCells m.chain).toArray) rfl (fun W hW => exec_load rfl (p := .pointer (some ⟨W2.heap.size, 0, none⟩)) rfl (HCH.out W hW)) ?_ ?_; rotate_left; (· simp only [put_some, List.setIfInBounds_toArray, List.set_cons_zero, List.set_cons_succ]; rfl)
      iterate 6 (first | (refine wpL_pure (a' := ?_) ?_ rfl (fun W => ?_) ?_ ?_; rotate_left 2; (· go_simp; first | (go_bits; with_reducible rfl) | with_reducible rfl); (· simp only [put_some, List.setIfInBounds_toArray, List.set_cons_zero, List.set_cons_succ]; rfl)) | (refine wpL_held (a' := ?_) ?_ rfl (fun W hW => ?_) ?_ ?_; rotate_left 2; (· obtain ⟨q1, q2, q3, q4⟩ := HQ.out W hW; go_simp; first | (go_bits; with_reducible rfl) | with_reducible rfl); (· simp only [put_some, List.setIfInBounds_toArray, List.set_cons_zero, List.set_cons_succ]; rfl)))
      have hA1 : laid (lgCells p (Lg.new per segs)) 3 (usCells m.chain) = lgCells p { Lg.new per segs with chain := m.chain } := lgCells_setChain p (Lg.new per segs) m.chain rfl hlen
      have hST := run_store_part (P := Tryd.prog) w6 w.heap.size 3 24 62 60 (lgCells p (Lg.new per segs)) (usCells m.chain) Tryd.sizeChain (by rw [usCells_length, hlen]) hL6.head (by rw [lgCells_length p _ hL6.len, usCells_length, hlen]; omega) (usCells_one m.chain)
      have hoS := Only.setRow w6 w.heap.size (laid (lgCells p (Lg.new per segs)) 3 (usCells m.chain)).toArray (S := fun b => b = w.heap.size) rfl
      have hb7 := setRow_heap _ w.heap.size _ (laid (lgCells p (Lg.new per segs)) 3 (usCells m.chain)).toArray _ _ hL6.head
      rw [hA1] at hST hoS hb7
      refine wpL_stepDone (a' := ?_) (w' := w6.setRow w.heap.size (lgCells p { Lg.new per segs with chain := m.chain }).toArray) rfl (exec_store rfl (p := .pointer (some ⟨w.heap.size, 3, none⟩)) (v := .agg (usCells m.chain).toArray) rfl rfl hST) (ho6.trans hoS) ?_ ?_; rotate_left; (· simp only [put_none]; rfl)
      have ho7 := ho6.trans hoS
      generalize w6.setRow w.heap.size (lgCells p { Lg.new per segs with chain := m.chain }).toArray = w7 at hb7 hoS ho7 ⊢
      have hs7 := hoS
      iterate 2 (first | (refine wpL_pure (a' := ?_) ?_ rfl (fun W => ?_) ?_ ?_; rotate_left 2; (· go_simp; first | (go_bits; with_reducible rfl) | with_reducible rfl); (· simp only [put_some, List.setIfInBounds_toArray, List.set_cons_zero, List.set_cons_succ]; rfl)) | (refine wpL_held (a' := ?_) ?_ rfl (fun W hW => ?_) ?_ ?_; rotate_left 2; (· obtain ⟨q1, q2, q3, q4⟩ := HQ.out W hW; go_simp; first | (go_bits; with_reducible rfl) | with_reducible rfl); (· simp only [put_some, List.setIfInBounds_toArray, List.set_cons_zero, List.set_cons_succ]; rfl)))
      have hST2 := run_store_one (P := Tryd.prog) w7 ⟨w.heap.size, 27, none⟩ (.int .i64 (m.seg : Int)) _ 3 rfl rfl Tryd.sizeInt (by rw [cell_at hb7, List.getElem?_toArray]; exact lgCells_tail p _ hlen 0) (free_at hb7 27)
      have hb8 := heap_setCell_same w7 w.heap.size 27 _ _ (.int .i64 (m.seg : Int)) hb7
      have hoS8 := Only.one w7 w.heap.size 27 (.int .i64 (m.seg : Int))
      refine wpL_stepDone (a' := ?_) (w' := w7.setCell ⟨w.heap.size, 27, none⟩ (.int .i64 (m.seg : Int))) rfl (exec_store rfl (p := .pointer (some ⟨w.heap.size, 27, none⟩)) (v := .int .i64 (m.seg : Int)) rfl rfl hST2) (ho7.trans hoS8) ?_ ?_; rotate_left; (· simp only [put_none]; rfl)
      rw [List.setIfInBounds_toArray, lgCells_setTail p _ hlen 0] at hb8
      have hs8 := hs7.trans hoS8
      have hb8' : (w7.setCell ⟨w.heap.size, 27, none⟩ (.int .i64 (m.seg : Int))).heap[w.heap.size]? = some (.cells (lgCells p { Lg.new per segs with chain := m.chain, last := m.seg }).toArray 62 (0, 0)) := hb8
      generalize w7.setCell ⟨w.heap.size, 27, none⟩ (.int .i64 (m.seg : Int)) = w8 at hb8' hs8 ⊢
      clear hb8
      iterate 2 (first | (refine wpL_pure (a' := ?_) ?_ rfl (fun W => ?_) ?_ ?_; rotate_left 2; (· go_simp; first | (go_bits; with_reducible rfl) | with_reducible rfl); (· simp only [put_some, List.setIfInBounds_toArray, List.set_cons_zero, List.set_cons_succ]; rfl)) | (refine wpL_held (a' := ?_) ?_ rfl (fun W hW => ?_) ?_ ?_; rotate_left 2; (· obtain ⟨q1, q2, q3, q4⟩ := HQ.out W hW; go_simp; first | (go_bits; with_reducible rfl) | with_reducible rfl); (· simp only [put_some, List.setIfInBounds_toArray, List.set_cons_zero, List.set_cons_succ]; rfl)))
      have hST3 := run_store_one (P := Tryd.prog) w8 ⟨w.heap.size, 28, none⟩ (.int .i64 m.epoch) _ 3 rfl rfl Tryd.sizeInt (by rw [cell_at hb8', List.getElem?_toArray]; exact lgCells_tail p _ hlen 1) (free_at hb8' 28)
      have hb9 := heap_setCell_same w8 w.heap.size 28 _ _ (.int .i64 m.epoch) hb8'
      have hoS9 := Only.one w8 w.heap.size 28 (.int .i64 m.epoch)
      refine wpL_lastDone (a' := ?_) (w' := w8.setCell ⟨w.heap.size, 28, none⟩ (.int .i64 m.epoch)) rfl (exec_store rfl (p := .pointer (some ⟨w.heap.size, 28, none⟩)) (v := .int .i64 m.epoch) rfl rfl hST3) ?_ ?_; rotate_left; (· simp only [put_none]; rfl)
      rw [List.setIfInBounds_toArray, lgCells_setTail p _ hlen 1] at hb9
      have hs9 := hs8.trans hoS9
      have hb9' : (w8.setCell ⟨w.heap.size, 28, none⟩ (.int .i64 m.epoch)).heap[w.heap.size]? = some (.cells (lgCells p (lgOf per segs m)).toArray 62 (0, 0)) := hb9
      generalize w8.setCell ⟨w.heap.size, 28, none⟩ (.int .i64 m.epoch) = w9 at hb9' hs9 ⊢
      refine wpL_nil ?_
      have hL9 : LgAt w9 w.heap.size p kb pv d (lgOf per segs m) := hL6.with hs9 hb9' hlen rfl rfl (show m.seg < 12 by omega) (show 0 ≤ m.epoch ∧ m.epoch ≤ 16777215 by omega) f5
      have HL9 := Lib.hid hL9
      have HD9 := Lib.hid ((HA.out.trans hd6).trans' hs9 (fun y hy e => by have e' : y = w.heap.size := e; omega))
      have hrge : ∀ x, psv.ownBlock = some x → w1.heap.size ≤ x := fun x hx => ownBlock_ge HROW4.out hx
      have hz1 := HZ.out
      have hF9 : FAt w9 W2.heap.size w1.heap.size m psv := ⟨HCL.out, (ho6.trans hs9).keep HFA.out.head (fun e => by have e' : W2.heap.size = w.heap.size := e; have := HMB.out; omega), ownsRow_only HROW4.out (ho6.trans hs9) (fun x hx e => by have e' : x = w.heap.size := e; have := hrge x hx; omega)⟩
      have c27 := hF9.c27
      have HF9 := Lib.hid hF9
      have HRG := Lib.hid hrge
      have HCE := Lib.hid (clean_any w9 w.heap.size p kb pv d (lgOf per segs m) m.loose hL9 (show 1 ≤ (m.chain.getD m.seg Us.no).e by rw [f4]; exact f1) f3 (by omega))
      clear HQ HCH ho6 hq6 hL6 hd6 hA1 hST hoS hb7 ho7 hs7 hST2 hoS8 hs8 hb8' hST3 hb9 hoS9 hs9 hb9' hL9 f5 hF9 hrge HFA HROW4 HO4 HA HL5 HL1 c24 f1 f2 f4 hne
      generalize (lgOf per segs m).clean d m.loose = CL at HCE HN
      obtain ⟨dC, lC, eC⟩ := CL
      have hfp := fun b => hd.fp_lt b
      have HFP := Lib.hid hfp
      clear hfp
      go_wp2_with fail
      refine HCE.out.mono ?_
      rintro ev w10 ⟨pv10, rfl, hLC⟩
      have HLC := Lib.hid hLC
      have hDS : DStep w w10 p kb pv pv10 dC := ⟨hLC.at_.da, ((HD9.out.mono fun _ _ => False.elim : Only (fp p kb pv) w w9)).trans' hLC.only (fun y hy e => by
        rcases e with e | e
        · omega
        · exact e), fun g hg => by
        rcases hLC.fresh g hg with e | e
        · exact .inl e
        · exact .inr (Nat.le_trans HD9.out.size e)⟩
      have HDS := Lib.hid hDS
      have hF10 := LStep.row hLC HL9.out HF9.out.row (by decide) (fun x hx => by
        have h1 := HRG.out x hx
        have h2 := HFP.out p (.inl rfl)
        have h3 := HFP.out kb (.inr (.inl rfl))
        omega)
      have HF10 := Lib.hid hF10
      have c28 : w10.cell? ⟨W2.heap.size, 28, none⟩ = some psv := by
        rw [hLC.only.cell (World.block_lt_of_cell? _ _ HF9.out.c28) (fun e => by
          have h1 := HMB.out
          rcases e with e | e
          · have e' : W2.heap.size = w.heap.size := e
            omega
          · have h2 : W2.heap.size < w.heap.size := HFP.out W2.heap.size e
            omega)]
        exact HF9.out.c28
      clear hLC hDS hF10 HCE c27
      by_cases hec : eC = 0
      · subst hec
        have HN2 := Lib.hid (show R = .ok dC lC m.pieces by rw [HN.out]; rfl)
        clear HN
        go_upto_region 18 with fail
        have HQ := Lib.hid (show ∀ W, Only (fun _ => False) w10 W → W.cell? ⟨W2.heap.size, 28, none⟩ = some psv ∧ True ∧ True ∧ True from fun W hW => ⟨by rw [hW.cell (World.block_lt_of_cell? _ _ c28) id]; exact c28, trivial, trivial, trivial⟩)
        clear c28
        refine wp_region_pick (fun W => Only (fun _ => False) w10 W) [(0, 0), (1, 0), (2, 1), (3, 0), (4, 0), (5, 0), (6, 0)] (by kernel_rfl) (by kernel_rfl) (fun _ _ d _ _ h => by cases d <;> exact h) (Only.drew w10 _) ?_
        have ho11 := Only.drew w10 (fun _ => False)
        generalize w10.drew = w11 at ho11 ⊢
        simp only [pickOps, List.getElem?_cons_zero, List.getElem?_cons_succ]
        iterate 7 (first | (refine wpL_pure (a' := ?_) ?_ rfl (fun W => ?_) ?_ ?_; rotate_left 2; (· go_simp; first | (go_bits; with_reducible rfl) | with_reducible rfl); (· simp only [put_some, List.setIfInBounds_toArray, List.set_cons_zero, List.set_cons_succ]; rfl)) | (refine wpL_held (a' := ?_) ?_ rfl (fun W hW => ?_) ?_ ?_; rotate_left 2; (· obtain ⟨q1, q2, q3, q4⟩ := HQ.out W hW; go_simp; first | (go_bits; with_reducible rfl) | with_reducible rfl); (· simp only [put_some, List.setIfInBounds_toArray, List.set_cons_zero, List.set_cons_succ]; rfl)))
        refine wpL_nil ?_
        have HO11 := Lib.hid ho11
        clear ho11 HQ
        go_wp2_with fail
        ((try simp only [Exit.inBlock, Exit.then]); refine bodyPost_ret (results_tmp4 rfl _ _ _) rfl ?_)
        rw [HN2.out]
        exact ⟨pv10, w.heap.size, psv, rfl, Nat.le_refl _, HDS.out.quiet HO11.out, HLC.out.at_.quiet HO11.out, ownsRow_down (ownsRow_only HF10.out HO11.out (fun _ _ h => h)) (by have := HZ.out; omega), fun e => by have := HRG.out _ e; have := HZ.out; omega⟩
      · have HN2 := Lib.hid (show R = .err dC eC by rw [HN.out]; unfold openOut; rw [if_neg hec])
        have heb : (eC == 0) = false := by simp [hec]
        have heb2 : (eC != 0) = true := by simp [hec]
        clear HN hec
        go_wp2_with fail
        ((try simp only [Exit.inBlock, Exit.then]); refine bodyPost_ret (results_tmp4 rfl _ _ _) rfl ?_)
        rw [HN2.out]
        exact ⟨pv10, rfl, HDS.out⟩
end Go.Proofs.YtlgefjcfnnjkbaaDoor
/- The laws' own helpers: pick, few, begins, SamePieces, SameUses. No conditions. -/
namespace Go.Proofs.YtlgefjcfnnjkbaaDoor
set_option maxRecDepth 100000
open Go.RowKit

def fewL (s : List (List UInt8)) : List (List UInt8) := (s.take 5).map (·.take 250)
theorem fewL_length (s : List (List UInt8)) : (fewL s).length ≤ 5 := by simp [fewL]; omega
theorem fewL_len (s : List (List UInt8)) : ∀ b ∈ fewL s, b.length ≤ 250 := by
  intro b hb
  obtain ⟨x, _, rfl⟩ := List.mem_map.1 hb
  simp; omega

set_option maxHeartbeats 4000000 in
theorem few_any (w : World) (v : Value) (s : List (List UInt8)) (ao : Option Addr) (cap : Nat) (hv : SliceOf w v s.length (txts s) ao cap) (hs : ∀ b ∈ s, b.length ≤ maxLen) :
    Calls Tryd.prog 9 #[v] w fun e w' => ∃ v', e = .returned v' ∧ w'.ownsRow w.heap.size 9 1 v' (fewL s).length (txts (fewL s)) ∧ Only (fun _ => False) w w' := by
  obtain rfl := hv.val
  have hlen := hv.len
  have HV := Lib.hid hv
  have HS := Lib.hid hs
  clear hv hs
  go_enter Tryd.func9, Tryd.ntmps9
  go_wp2_with fail
  go_loopw [3, 4] (fun v i wr => ∃ k : Nat, k ≤ s.length ∧ k ≤ 5 ∧ i = .int .i64 (k : Int) ∧ Hid (wr.ownsRow w.heap.size 9 1 v k (txts ((s.take k).map (·.take 250)))) ∧ Only (fun _ => False) w wr) (fun v i _ => 6 - (intOf i).toNat)
  case atStart => exact ⟨0, by omega, by omega, rfl, Lib.hid (nil_row _ _ _ _), Only.refl _ _⟩
  case round =>
    obtain ⟨k, hk, hk5, rfl, hrow, hor⟩ := hrel
    by_cases hkl : k < s.length
    · have hI : (k : Int) < (s.length : Int) := by omega
      by_cases h5 : k < 5
      · have hI5 : (k : Int) < 5 := by omega
        obtain ⟨gb, go, hao, hcell⟩ := HV.out.cell k (.string ⟨s[k].toArray⟩) (by rw [txts, List.getElem?_map, List.getElem?_eq_getElem hkl]; rfl)
        have htk : s.take (k + 1) = s.take k ++ [s[k]] := by rw [List.take_add_one, List.getElem?_eq_getElem hkl]; rfl
        have hbl := HS.out _ (List.getElem_mem hkl)
        subst hao
        generalize s[k] = b at hcell htk hbl
        have HTK := Lib.hid (show txts ((s.take (k + 1)).map (·.take 250)) = txts ((s.take k).map (·.take 250)) ++ txts [b.take 250] by rw [htk, List.map_append]; simp [txts])
        have HQ := Lib.hid (show ∀ W, Only (fun _ => False) wr W → W.cell? ⟨gb, go + k, none⟩ = some (.string ⟨b.toArray⟩) ∧ True ∧ True ∧ True from fun W hW => ⟨by
          have ho := hor.trans hW
          rw [ho.cell (World.block_lt_of_cell? _ _ hcell) id]; exact hcell, trivial, trivial, trivial⟩)
        unfold maxLen at hbl
        have hzx := size_toArray b
        have hex : ∀ m : Nat, m = min b.length 250 → (⟨b.toArray⟩ : ByteArray).extract 0 m = ⟨(b.take 250).toArray⟩ := by
          intro m hm
          rw [extract_list, List.drop_zero, hm]
          congr 2
          by_cases hh : b.length ≤ 250
          · rw [Nat.min_eq_left hh, List.take_of_length_le (Nat.le_refl _), List.take_of_length_le hh]
          · rw [Nat.min_eq_right (by omega)]
        generalize b.take 250 = b2 at HTK hex
        clear htk hcell
        go_upto_region 5 with fail
        refine wp_region_pick (fun W => Only (fun _ => False) wr W) [(0, 0), (1, 0), (2, 0), (3, 0), (4, 1), (5, 0), (6, 0), (7, 0), (8, 1), (9, 0), (10, 0), (11, 0), (12, 2), (13, 3), (14, 0)] (by kernel_rfl) (by kernel_rfl) (fun _ _ d _ _ h => by cases d <;> exact h) (Only.drew wr _) ?_
        have ho3 := Only.drew wr (fun _ => False)
        have hrow3 := ownsRow_only hrow.out ho3 (fun _ _ h => h)
        have hsz3 : w.heap.size ≤ wr.drew.heap.size := hor.size
        clear hrow
        generalize wr.drew = w3 at ho3 hrow3 hsz3 ⊢
        simp only [pickOps, List.getElem?_cons_zero, List.getElem?_cons_succ]
        iterate 10 (first | (refine wpL_pure (a' := ?_) ?_ rfl (fun W => ?_) ?_ ?_; rotate_left 2; (· go_simp; first | (go_bits; with_reducible rfl) | with_reducible rfl); (· simp only [put_some, List.setIfInBounds_toArray, List.set_cons_zero, List.set_cons_succ]; rfl)) | (refine wpL_held (a' := ?_) ?_ rfl (fun W hW => ?_) ?_ ?_; rotate_left 2; (· obtain ⟨q1, q2, q3, q4⟩ := HQ.out W hW; go_simp; first | (go_bits; with_reducible rfl) | with_reducible rfl); (· simp only [put_some, List.setIfInBounds_toArray, List.set_cons_zero, List.set_cons_succ]; rfl)))
        obtain ⟨m, hm⟩ : ∃ m, m = min b.length 250 := ⟨_, rfl⟩
        have hex' := hex m hm
        have hm1 : m ≤ b.length := by omega
        clear hex
        refine wpL_pure (a' := ?_) (.int .i64 (m : Int)) rfl (fun W => ?_) ?_ ?_; rotate_left 1
        · rcases Nat.lt_or_ge b.length 250 with hq | hq
          · have e1 : m = b.length := by omega
            rw [e1]
            clear hex' hm
            go_simp
            omega
          · have e1 : m = 250 := by omega
            rw [e1]
            clear hex' hm
            go_simp
            omega
        · simp only [put_some, List.setIfInBounds_toArray, List.set_cons_zero, List.set_cons_succ]; rfl
        clear hm
        (refine wpL_pure (a' := ?_) ?_ rfl (fun W => ?_) ?_ ?_; rotate_left 2; (· go_simp; first | (go_bits; with_reducible rfl) | with_reducible rfl); (· simp only [put_some, List.setIfInBounds_toArray, List.set_cons_zero, List.set_cons_succ]; rfl))
        have hoA := Only.alloc w3 (.cells #[.string ⟨b2.toArray⟩] 9) (fun _ => False)
        refine wpL_stepRun (a' := ?_) (w' := w3.alloc (.cells #[.string ⟨b2.toArray⟩] 9)) (.slice (some ⟨w3.heap.size, 0, none⟩) 1 1) rfl (exec_buildSlice_one rfl (v := .string ⟨b2.toArray⟩) rfl (run_buildSlice_one w3 35 9 _ _ #[.string ⟨b2.toArray⟩] 1 16 rfl rfl (by decide) (by decide) Tryd.underlying35 Tryd.info9)) (ho3.trans hoA) ?_ ?_; rotate_left; (· simp only [put_some, List.setIfInBounds_toArray, List.set_cons_zero, List.set_cons_succ]; rfl)
        obtain ⟨v6, w6, hrun6, hown6, ho6, hfr6⟩ := append_one_row2 (P := Tryd.prog) w3 w.heap.size 35 35 9 _ 1 16 Tryd.underlying35 Tryd.info9 rfl (by decide) u3 k _ hrow3 (txts [b2]) rfl (txts_one _) (by omega) (by decide) hsz3
        refine wpL_lastRun (a' := ?_) v6 rfl (exec_append rfl (vs := u3) (vx := .slice (some ⟨w3.heap.size, 0, none⟩) 1 1) rfl rfl hrun6) ?_ ?_; rotate_left; (· simp only [put_some, List.setIfInBounds_toArray, List.set_cons_zero, List.set_cons_succ]; rfl)
        (refine wpL_pure (a' := ?_) ?_ rfl (fun W => ?_) ?_ ?_; rotate_left 2; (· go_simp; first | (go_bits; with_reducible rfl) | with_reducible rfl); (· simp only [put_some, List.setIfInBounds_toArray, List.set_cons_zero, List.set_cons_succ]; rfl))
        refine wpL_nil ?_
        rw [← HTK.out] at hown6
        have HOWN := Lib.hid hown6
        have HOO := Lib.hid ((hor.trans ho3).trans' ho6 (fun y hy e => row_own_new hrow3 hy e))
        clear hrun6 hown6 ho6 hfr6 hrow3 hoA ho3 hor HQ HTK hex' hzx
        go_wp2_with fail
        exact ⟨⟨k + 1, by omega, by omega, rfl, HOWN, HOO.out⟩, by simp [intOf]; omega⟩
      · obtain rfl : k = 5 := by omega
        have hr := hrow.out
        have HR := Lib.hid (show wr.ownsRow w.heap.size 9 1 u3 (fewL s).length (txts (fewL s)) by
          have : (fewL s).length = 5 := by simp [fewL]; omega
          rw [this]; exact hr)
        clear hr hrow
        go_wp2_with fail
        go_ret
        exact ⟨u3, rfl, HR.out, hor⟩
    · obtain rfl : k = s.length := by omega
      have hI : ¬ (s.length : Int) < (s.length : Int) := by omega
      have hr := hrow.out
      have HR := Lib.hid (show wr.ownsRow w.heap.size 9 1 u3 (fewL s).length (txts (fewL s)) by
        have e1 : fewL s = (s.take s.length).map (·.take 250) := by unfold fewL; rw [List.take_length, List.take_of_length_le hk5]
        have : (fewL s).length = s.length := by rw [e1]; simp
        rw [this, e1]; exact hr)
      clear hr hrow
      go_wp2_with fail
      go_ret
      exact ⟨u3, rfl, HR.out, hor⟩

theorem pieces_get : ∀ (ps : List (Int × List UInt8)) (k : Nat) (hk : k < ps.length), (pieceCells ps)[k * 2]? = some (.int .i64 ps[k].1) ∧ (pieceCells ps)[k * 2 + 1]? = some (.string ⟨ps[k].2.toArray⟩)
  | [], k, hk => absurd hk (by simp)
  | x :: r, 0, _ => ⟨rfl, rfl⟩
  | x :: r, k + 1, hk => by
    have ih := pieces_get r k (by simpa using hk)
    have e : ∀ j, (pieceCells (x :: r))[(k + 1) * 2 + j]? = (pieceCells r)[k * 2 + j]? := fun j => by
      show ([Value.int .i64 x.1, Value.string ⟨x.2.toArray⟩] ++ pieceCells r)[_]? = _
      rw [List.getElem?_append_right (by simp; omega)]
      congr 1
      simp; omega
    exact ⟨by have := e 0; simp only [Nat.add_zero] at this; rw [this]; exact ih.1, by rw [e 1]; exact ih.2⟩
theorem SliceOf.piece_at {w : World} {v : Value} {l : List (Int × List UInt8)} {ao : Option Addr} {cap : Nat} (h : SliceOf w v l.length (pieceCells l) ao cap) (k : Nat) (hk : k < l.length) :
    ∃ b o, ao = some ⟨b, o, none⟩ ∧ w.cell? ⟨b, o + k * 2, none⟩ = some (.int .i64 l[k].1) ∧ w.cell? ⟨b, o + k * 2 + 1, none⟩ = some (.string ⟨l[k].2.toArray⟩) := by
  obtain ⟨h1, h2⟩ := pieces_get l k hk
  obtain ⟨b, o, e, c1⟩ := h.cell (k * 2) _ h1
  obtain ⟨b', o', e', c2⟩ := h.cell (k * 2 + 1) _ h2
  rw [e] at e'
  cases e'
  exact ⟨b, o, e, c1, by rw [Nat.add_assoc]; exact c2⟩

theorem Tryd.neqPiece (a : Int) (s : ByteArray) (W : World) : (binOp .neq 50 (.agg #[.int .i64 a, .string s]) (.agg #[.int .i64 a, .string s])).run Tryd.prog W = .ok (.bool false) W := by
  simp [go_sem]
theorem Tryd.neqUse (a b : Int) (W : World) : (binOp .neq 43 (.agg #[.int .i64 a, .int .i64 b]) (.agg #[.int .i64 a, .int .i64 b])).run Tryd.prog W = .ok (.bool false) W := by
  simp [go_sem]
theorem Tryd.sizePiece : (Tryd.prog.info? 50).map (·.size) = some 2 := by kernel_rfl
theorem Tryd.sizeApiUse : (Tryd.prog.info? 43).map (·.size) = some 2 := by kernel_rfl
theorem SliceOf.use_at {w : World} {v : Value} {l : List Us} {ao : Option Addr} {cap : Nat} (h : SliceOf w v l.length (usCells l) ao cap) (k : Nat) (hk : k < l.length) :
    ∃ b o, ao = some ⟨b, o, none⟩ ∧ w.cell? ⟨b, o + k * 2, none⟩ = some (.int .i64 (l.getD k Us.no).e) ∧ w.cell? ⟨b, o + k * 2 + 1, none⟩ = some (.int .i64 (l.getD k Us.no).c) := by
  obtain ⟨h1, h2⟩ := usCells_get l k hk
  rw [Nat.mul_comm] at h1 h2
  obtain ⟨b, o, e, c1⟩ := h.cell (k * 2) _ h1
  obtain ⟨b', o', e', c2⟩ := h.cell (k * 2 + 1) _ h2
  rw [e] at e'
  cases e'
  exact ⟨b, o, e, c1, by rw [Nat.add_assoc]; exact c2⟩
theorem has_two {W : World} {b o : Nat} {x y : Value} (h1 : W.cell? ⟨b, o, none⟩ = some x) (h2 : W.cell? ⟨b, o + 1, none⟩ = some y) : Has W b o [x, y] := by
  intro j u hu
  match j, hu with
  | 0, hu => simp only [List.getElem?_cons_zero, Option.some.injEq] at hu; subst hu; exact h1
  | 1, hu => simp only [List.getElem?_cons_succ, List.getElem?_cons_zero, Option.some.injEq] at hu; subst hu; exact h2
  | n + 2, hu => simp at hu

set_option maxHeartbeats 4000000 in
theorem samePieces_any (w : World) (va vb : Value) (ps : List (Int × List UInt8)) (ao bo : Option Addr) (ac bc : Nat) (ha : SliceOf w va ps.length (pieceCells ps) ao ac) (hb : SliceOf w vb ps.length (pieceCells ps) bo bc) :
    Calls Tryd.prog 15 #[va, vb] w fun e w' => e = .returned (.bool true) ∧ Only (fun _ => False) w w' := by
  obtain rfl := ha.val
  obtain rfl := hb.val
  have hl1 := ha.len
  have HA := Lib.hid ha
  have HB := Lib.hid hb
  clear ha hb
  go_enter Tryd.func15, Tryd.ntmps15
  go_wp2_with fail
  go_loopw [5] (fun i wr => ∃ k : Nat, k ≤ ps.length ∧ i = .int .i64 k ∧ Only (fun _ => False) w wr) (fun i _ => ps.length - (intOf i).toNat)
  case atStart => exact ⟨0, by omega, rfl, Only.refl _ _⟩
  case round =>
    obtain ⟨k, hk, rfl, hor⟩ := hrel
    by_cases hlt : k < ps.length
    · have hI : (k : Int) < (ps.length : Int) := by omega
      obtain ⟨g1, o1, rfl, hc0, hc1⟩ := (HA.out.only (hor.trans (Only.drew _ _))).piece_at k hlt
      obtain ⟨g2, o2, rfl, hd0, hd1⟩ := (HB.out.only (hor.trans (Only.drew _ _))).piece_at k hlt
      generalize ps[k].2 = x at hc1 hd1
      generalize ps[k].1 = z at hc0 hd0
      have HL1 := Lib.hid (run_load_part (P := Tryd.prog) wr.drew g1 (o1 + k * 2) 2 [.int .i64 z, .string ⟨x.toArray⟩] 50 _ Tryd.underlying50 rfl Tryd.sizePiece rfl (has_two hc0 hc1))
      have HL2 := Lib.hid (run_load_part (P := Tryd.prog) wr.drew g2 (o2 + k * 2) 2 [.int .i64 z, .string ⟨x.toArray⟩] 50 _ Tryd.underlying50 rfl Tryd.sizePiece rfl (has_two hd0 hd1))
      clear hc0 hc1 hd0 hd1
      go_upto_region 6 with fail
      refine wp_region_pick (fun W => W = wr.drew) [(0, 0), (1, 0), (2, 0), (3, 1), (4, 0), (5, 0), (6, 0), (7, 1), (8, 0)] (by kernel_rfl) (by kernel_rfl) (fun _ _ d _ _ h => by cases d <;> exact h) rfl ?_
      simp only [pickOps, List.getElem?_cons_zero, List.getElem?_cons_succ]
      iterate 3 (first | (refine wpL_pure (a' := ?_) ?_ rfl (fun W => ?_) ?_ ?_; rotate_left 2; (· go_simp; first | (go_bits; with_reducible rfl) | with_reducible rfl); (· simp only [put_some, List.setIfInBounds_toArray, List.set_cons_zero, List.set_cons_succ]; rfl)))
      refine wpL_held (a' := ?_) (.agg #[.int .i64 z, .string ⟨x.toArray⟩]) rfl (fun W hW => by subst hW; exact exec_load rfl (p := .pointer (some ⟨g1, o1 + k * 2, none⟩)) rfl HL1.out) ?_ ?_; rotate_left; (· simp only [put_some, List.setIfInBounds_toArray, List.set_cons_zero, List.set_cons_succ]; rfl)
      iterate 3 (first | (refine wpL_pure (a' := ?_) ?_ rfl (fun W => ?_) ?_ ?_; rotate_left 2; (· go_simp; first | (go_bits; with_reducible rfl) | with_reducible rfl); (· simp only [put_some, List.setIfInBounds_toArray, List.set_cons_zero, List.set_cons_succ]; rfl)))
      refine wpL_held (a' := ?_) (.agg #[.int .i64 z, .string ⟨x.toArray⟩]) rfl (fun W hW => by subst hW; exact exec_load rfl (p := .pointer (some ⟨g2, o2 + k * 2, none⟩)) rfl HL2.out) ?_ ?_; rotate_left; (· simp only [put_some, List.setIfInBounds_toArray, List.set_cons_zero, List.set_cons_succ]; rfl)
      refine wpL_pure (a' := ?_) (.bool false) rfl (fun W => exec_binOp rfl (vx := .agg #[.int .i64 z, .string ⟨x.toArray⟩]) (vy := .agg #[.int .i64 z, .string ⟨x.toArray⟩]) rfl rfl (by kernel_rfl) (Tryd.neqPiece z ⟨x.toArray⟩ W)) ?_ ?_; rotate_left; (· simp only [put_some, List.setIfInBounds_toArray, List.set_cons_zero, List.set_cons_succ]; rfl)
      refine wpL_nil ?_
      go_wp2_with fail
      exact ⟨⟨k + 1, by omega, by go_num, hor.trans (Only.drew _ _)⟩, by simp [intOf]; omega⟩
    · obtain rfl : k = ps.length := by omega
      have hI : ¬ (ps.length : Int) < (ps.length : Int) := by omega
      go_wp2_with fail
      go_ret
      exact ⟨rfl, hor⟩

set_option maxHeartbeats 4000000 in
theorem sameUses_any (w : World) (va vb : Value) (l : List Us) (ao bo : Option Addr) (ac bc : Nat) (ha : SliceOf w va l.length (usCells l) ao ac) (hb : SliceOf w vb l.length (usCells l) bo bc) :
    Calls Tryd.prog 11 #[va, vb] w fun e w' => e = .returned (.bool true) ∧ Only (fun _ => False) w w' := by
  obtain rfl := ha.val
  obtain rfl := hb.val
  have hl1 := ha.len
  have HA := Lib.hid ha
  have HB := Lib.hid hb
  clear ha hb
  go_enter Tryd.func11, Tryd.ntmps11
  go_wp2_with fail
  go_loopw [5] (fun i wr => ∃ k : Nat, k ≤ l.length ∧ i = .int .i64 k ∧ Only (fun _ => False) w wr) (fun i _ => l.length - (intOf i).toNat)
  case atStart => exact ⟨0, by omega, rfl, Only.refl _ _⟩
  case round =>
    obtain ⟨k, hk, rfl, hor⟩ := hrel
    by_cases hlt : k < l.length
    · have hI : (k : Int) < (l.length : Int) := by omega
      obtain ⟨g1, o1, rfl, hc0, hc1⟩ := (HA.out.only (hor.trans (Only.drew _ _))).use_at k hlt
      obtain ⟨g2, o2, rfl, hd0, hd1⟩ := (HB.out.only (hor.trans (Only.drew _ _))).use_at k hlt
      generalize (l.getD k Us.no).c = x at hc1 hd1
      generalize (l.getD k Us.no).e = z at hc0 hd0
      have HL1 := Lib.hid (run_load_part (P := Tryd.prog) wr.drew g1 (o1 + k * 2) 2 [.int .i64 z, .int .i64 x] 43 _ Tryd.underlying43 rfl Tryd.sizeApiUse rfl (has_two hc0 hc1))
      have HL2 := Lib.hid (run_load_part (P := Tryd.prog) wr.drew g2 (o2 + k * 2) 2 [.int .i64 z, .int .i64 x] 43 _ Tryd.underlying43 rfl Tryd.sizeApiUse rfl (has_two hd0 hd1))
      clear hc0 hc1 hd0 hd1
      go_upto_region 6 with fail
      refine wp_region_pick (fun W => W = wr.drew) [(0, 0), (1, 0), (2, 0), (3, 1), (4, 0), (5, 0), (6, 0), (7, 1), (8, 0)] (by kernel_rfl) (by kernel_rfl) (fun _ _ d _ _ h => by cases d <;> exact h) rfl ?_
      simp only [pickOps, List.getElem?_cons_zero, List.getElem?_cons_succ]
      iterate 3 (first | (refine wpL_pure (a' := ?_) ?_ rfl (fun W => ?_) ?_ ?_; rotate_left 2; (· go_simp; first | (go_bits; with_reducible rfl) | with_reducible rfl); (· simp only [put_some, List.setIfInBounds_toArray, List.set_cons_zero, List.set_cons_succ]; rfl)))
      refine wpL_held (a' := ?_) (.agg #[.int .i64 z, .int .i64 x]) rfl (fun W hW => by subst hW; exact exec_load rfl (p := .pointer (some ⟨g1, o1 + k * 2, none⟩)) rfl HL1.out) ?_ ?_; rotate_left; (· simp only [put_some, List.setIfInBounds_toArray, List.set_cons_zero, List.set_cons_succ]; rfl)
      iterate 3 (first | (refine wpL_pure (a' := ?_) ?_ rfl (fun W => ?_) ?_ ?_; rotate_left 2; (· go_simp; first | (go_bits; with_reducible rfl) | with_reducible rfl); (· simp only [put_some, List.setIfInBounds_toArray, List.set_cons_zero, List.set_cons_succ]; rfl)))
      refine wpL_held (a' := ?_) (.agg #[.int .i64 z, .int .i64 x]) rfl (fun W hW => by subst hW; exact exec_load rfl (p := .pointer (some ⟨g2, o2 + k * 2, none⟩)) rfl HL2.out) ?_ ?_; rotate_left; (· simp only [put_some, List.setIfInBounds_toArray, List.set_cons_zero, List.set_cons_succ]; rfl)
      refine wpL_pure (a' := ?_) (.bool false) rfl (fun W => exec_binOp rfl (vx := .agg #[.int .i64 z, .int .i64 x]) (vy := .agg #[.int .i64 z, .int .i64 x]) rfl rfl (by kernel_rfl) (Tryd.neqUse z x W)) ?_ ?_; rotate_left; (· simp only [put_some, List.setIfInBounds_toArray, List.set_cons_zero, List.set_cons_succ]; rfl)
      refine wpL_nil ?_
      go_wp2_with fail
      exact ⟨⟨k + 1, by omega, by go_num, hor.trans (Only.drew _ _)⟩, by simp [intOf]; omega⟩
    · obtain rfl : k = l.length := by omega
      have hI : ¬ (l.length : Int) < (l.length : Int) := by omega
      go_wp2_with fail
      go_ret
      exact ⟨rfl, hor⟩
end Go.Proofs.YtlgefjcfnnjkbaaDoor
