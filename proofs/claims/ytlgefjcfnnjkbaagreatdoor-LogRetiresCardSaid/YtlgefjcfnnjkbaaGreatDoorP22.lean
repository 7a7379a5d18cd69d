/- Parts of the proof, one behind the other: LogCj. Each part's own words say what it proves; no conditions. -/
import Derived.Test.YtlgefjcfnnjkbaaGreatDoorP20
import Derived.Test.YtlgefjcfnnjkbaaGreatDoorP21
set_option linter.unusedVariables false
set_option linter.unusedSimpArgs false
set_option linter.unusedSectionVars false
/- A log is opened. No conditions. -/
namespace Go.Proofs.YtlgefjcfnnjkbaaGreatDoor
set_option maxRecDepth 100000
open Go.RowKit

/-! ### What is found: its bounds -/
theorem frOf_e (t : List UInt8) (a : Nat) : 0 ≤ (frOf t a).e ∧ (frOf t a).e ≤ 16777215 := by
  rcases frOf_cases t a with ⟨f, h, _, e⟩ | ⟨f, _, _, e⟩ | ⟨_, e⟩
  · rw [e]
    have := (readF_some h).2.1
    simp only [Fr.right, decide_eq_true_eq] at this
    omega
  · rw [e]; simp [zeroFr]
  · rw [e]; simp [zeroFr]
theorem newRow_e (g : Nat → Fr) (hg : ∀ k, 0 ≤ (g k).e ∧ (g k).e ≤ 16777215) (seg : Nat) (p : Int × Nat) (hp : 0 ≤ p.1 ∧ p.1 ≤ 16777215) : ∀ n, 0 ≤ (newRow g seg n p).1 ∧ (newRow g seg n p).1 ≤ 16777215
  | 0 => by simpa [newRow] using hp
  | n + 1 => by
    rw [newRow_succ]
    simp only
    split
    · exact hg n
    · exact newRow_e g hg seg p hp n
theorem newest_e (g : Nat → Nat → Fr) (hg : ∀ s k, 0 ≤ (g s k).e ∧ (g s k).e ≤ 16777215) (per : Nat) : ∀ n, 0 ≤ (newest g per n).1 ∧ (newest g per n).1 ≤ 16777215
  | 0 => by simp [newest]
  | n + 1 => by
    rw [newest_succ]
    exact newRow_e (g n) (hg n) n _ (newest_e g hg per n) per
theorem linkTo_low (f : Fr) (own per : Nat) : ∀ (m : Nat) (c : List Us), linkTo f own per m = some c → ∀ k, 0 ≤ (c.getD k Us.no).e
  | 0, c, h => by
    rw [linkTo] at h
    obtain rfl := Option.some.inj h
    intro k
    unfold Ch.no
    rw [List.getD_eq_getElem?_getD, List.getElem?_replicate]
    split <;> simp [Us.no]
  | m + 1, c, h => by
    rw [linkTo] at h
    cases hc : linkTo f own per m with
    | none => rw [hc] at h; cases h
    | some c0 =>
      rw [hc, Option.bind_some] at h
      have ih := linkTo_low f own per m c0 hc
      unfold linkStep at h
      simp only at h
      split at h
      · obtain rfl := Option.some.inj h; exact ih
      · split at h
        · cases h
        · split at h
          · cases h
          · obtain rfl := Option.some.inj h
            intro k
            by_cases e : k = m
            · subst e
              by_cases hl : k < c0.length
              · rw [List.getD_eq_getElem?_getD, List.getElem?_set_self hl]
                simp only [Option.getD_some, useAt]
                exact Int.natCast_nonneg _
              · rw [List.getD_eq_getElem?_getD, List.getElem?_eq_none (by rw [List.length_set]; omega)]
                simp [Us.no]
            · rw [List.getD_eq_getElem?_getD, List.getElem?_set_ne (fun e2 => e e2.symm), ← List.getD_eq_getElem?_getD]
              exact ih k
theorem linkP_low {f : Fr} {own per segs : Nat} {c : List Us} (h : linkP f own per segs = some c) : ∀ k, 0 ≤ (c.getD k Us.no).e := by
  unfold linkP at h
  split at h
  · exact linkTo_low f own per segs c h
  · cases h
structure FoundOk (per segs : Nat) (m : Found) : Prop where
  e1 : 1 ≤ m.epoch
  e2 : m.epoch ≤ 16777215
  seg : m.seg < segs
  use : (m.chain.getD m.seg Us.no).e = m.epoch
  us : ∀ k, 0 ≤ (m.chain.getD k Us.no).e ∧ (m.chain.getD k Us.no).e ≤ 16777215 ∧ 0 ≤ (m.chain.getD k Us.no).c ∧ (m.chain.getD k Us.no).c ≤ 64
theorem look_facts (d : D) {per segs : Nat} (hper : per ≤ 64) (h4 : 4 ≤ per) (hs : segs ≤ 12) {m : Found} (h : look (frAt d per) per segs = .inl m) (h0 : m.epoch ≠ 0) : FoundOk per segs m := by
  have hb := newest_e (frAt d per) (fun s k => frOf_e _ k) per segs
  unfold look at h
  simp only at h
  split at h
  · obtain rfl := Sum.inl.inj h
    exact absurd rfl h0
  · rename_i hn
    cases hl : (if (frAt d per (newest (frAt d per) per segs).2 0).e = (newest (frAt d per) per segs).1 then linkP (frAt d per (newest (frAt d per) per segs).2 0) (newest (frAt d per) per segs).2 per segs else none) with
    | none => rw [hl] at h; cases h
    | some c =>
      rw [hl] at h
      simp only at h
      cases hsd : soundAll (frAt d per) per c (orderL c) with
      | some x => rw [hsd] at h; cases h
      | none =>
        rw [hsd] at h
        simp only at h
        cases hso : sound (frAt d per (newest (frAt d per) per segs).2) (newest (frAt d per) per segs).1 1 (sealedTo (frAt d per (newest (frAt d per) per segs).2) (newest (frAt d per) per segs).1 per) with
        | some x => rw [hso] at h; cases h
        | none =>
          rw [hso] at h
          obtain rfl := Sum.inl.inj h
          split at hl
          · rename_i hee
            obtain ⟨f1, f2⟩ := linkP_facts hs hl
            have hseg := newest_seg (frAt d per) per segs hn
            have hrun : (runOf (frAt d per (newest (frAt d per) per segs).2) (newest (frAt d per) per segs).1 1 per).length ≤ per - 1 := by
              unfold runOf
              refine Nat.le_trans (List.takeWhile_prefix _).length_le ?_
              simp [frames]
            have hj := joinF_snd_le (runOf (frAt d per (newest (frAt d per) per segs).2) (newest (frAt d per) per segs).1 1 per)
            unfold take
            refine ⟨by show 1 ≤ (newest (frAt d per) per segs).1; omega, hb.2, hseg, ?_, fun k => ?_⟩
            · show ((c.set (newest (frAt d per) per segs).2 _).getD (newest (frAt d per) per segs).2 Us.no).e = _
              rw [List.getD_eq_getElem?_getD, List.getElem?_set_self (by omega)]
              rfl
            · show _ ∧ _
              simp only
              by_cases hk : k = (newest (frAt d per) per segs).2
              · subst hk
                rw [List.getD_eq_getElem?_getD, List.getElem?_set_self (by omega)]
                simp only [Option.getD_some]
                omega
              · rw [List.getD_eq_getElem?_getD, List.getElem?_set_ne (fun e => hk e.symm), ← List.getD_eq_getElem?_getD]
                rcases f2 k with e | ⟨g1, g2, g3, g4, g5, _⟩
                · rw [e]; simp [Us.no]
                · have := linkP_low hl k
                  omega
          · cases hl

/-! ### Open -/
def OpenPost (w : World) (p kb : Nat) (pv : Value) (r : Opened) (e : Ending) (w' : World) : Prop := match r with
  | .rot x => e = .returned (.tuple #[.pointer none, .slice none 0 0, .int .i64 (x : Int), .int .i64 131]) ∧ Only (fun _ => False) w w'
  | .err d e1 => ∃ pv', e = .returned (.tuple #[.pointer none, .slice none 0 0, .int .i64 0, .int .i64 e1]) ∧ DStep w w' p kb pv pv' d
  | .ok d l ps => ∃ pv' lb psv, e = .returned (.tuple #[.pointer (some ⟨lb, 0, none⟩), psv, .int .i64 0, .int .i64 0]) ∧ w.heap.size ≤ lb ∧ DStep w w' p kb pv pv' d ∧ LgAt w' lb p kb pv' d l ∧ w'.ownsRow w.heap.size 46 2 psv ps.length (pieceCells ps) ∧ psv.ownBlock ≠ some lb
def lg0Cells (p per segs : Nat) : List Value := [.pointer (some ⟨p, 0, none⟩), .int .i64 (per : Int), .int .i64 (segs : Int), .int .i64 0, .int .i64 0, .int .i64 0, .int .i64 0, .int .i64 0, .int .i64 0, .int .i64 0, .int .i64 0, .int .i64 0, .int .i64 0, .int .i64 0, .int .i64 0, .int .i64 0, .int .i64 0, .int .i64 0, .int .i64 0, .int .i64 0, .int .i64 0, .int .i64 0, .int .i64 0, .int .i64 0, .int .i64 0, .int .i64 0, .int .i64 0, .int .i64 0, .int .i64 0, .bool false, .bool false, .bool false]
theorem lg0_is (p per segs : Nat) : lgCells p (Lg.new per segs) = lg0Cells p per segs := rfl
theorem Tryz.buildGround (p per segs : Nat) (w : World) : (Instr.build 65 #[(0, .pointer (some ⟨p, 0, none⟩)), (1, .int .i64 (per : Int)), (2, .int .i64 (segs : Int))]).run Tryz.prog w = .ok (.agg #[.pointer (some ⟨p, 0, none⟩), .int .i64 (per : Int), .int .i64 (segs : Int)]) w := by kernel_rfl
theorem Tryz.buildLog (p per segs : Nat) (w : World) : (Instr.build 71 #[(0, .agg #[.pointer (some ⟨p, 0, none⟩), .int .i64 (per : Int), .int .i64 (segs : Int)])]).run Tryz.prog w = .ok (.agg (lg0Cells p per segs).toArray) w := by kernel_rfl
theorem Tryz.infoLog : (Tryz.prog.info? 71).map (·.size) = some 32 := by kernel_rfl

theorem results_tmp4 {fn : Func} {t u v x : Tmp} (h : fn.results = #[.tmp t, .tmp u, .tmp v, .tmp x]) (tmps : Array Value) (P : Program) (w : World) :
    (results fn tmps).run P w = .ok (.tuple #[tmps.getD t undef, tmps.getD u undef, tmps.getD v undef, tmps.getD x undef]) w := by
  simp [results, h]
theorem open_nil (w : World) (per : Int) : Calls Tryz.prog 13 #[.pointer none, .int .i64 per] w fun e w' => e = .returned (.tuple #[.pointer none, .slice none 0 0, .int .i64 0, .int .i64 1]) ∧ w = w' := by
  go_enter Tryz.func13, Tryz.ntmps13
  go_wp2_with fail
  ((try simp only [Exit.inBlock, Exit.then]); refine bodyPost_ret (results_tmp4 rfl _ _ _) rfl ?_)
  exact ⟨rfl, rfl⟩
theorem open_arg (w : World) (p : Nat) (per : Int) (h : per < 4) : Calls Tryz.prog 13 #[.pointer (some ⟨p, 0, none⟩), .int .i64 per] w fun e w' => e = .returned (.tuple #[.pointer none, .slice none 0 0, .int .i64 0, .int .i64 2]) ∧ w = w' := by
  go_enter Tryz.func13, Tryz.ntmps13
  go_wp2_with fail
  ((try simp only [Exit.inBlock, Exit.then]); refine bodyPost_ret (results_tmp4 rfl _ _ _) rfl ?_)
  exact ⟨rfl, rfl⟩
/-- errors.As at a rot: the target has it behind the call -/
theorem as_rot (w : World) (rb tb : Nat) (hg : w.cell? ⟨0, 0, none⟩ = some (.iface 148 (.agg #[.pointer (some ⟨1, 76, none⟩)]))) (ht : w.heap[tb]? = some (.cells #[.pointer none] 79 (0, 0))) :
    Calls Tryz.prog 31 #[.iface 79 (.pointer (some ⟨rb, 0, none⟩)), .iface 81 (.pointer (some ⟨tb, 0, none⟩))] w fun ev w' => ev = .returned (.bool true) ∧ Only (fun b => b = tb) w w' ∧ w'.heap[tb]? = some (.cells #[.pointer (some ⟨rb, 0, none⟩)] 79 (0, 0)) := by
  refine (as_hit ⟨rb, 0, none⟩ ⟨tb, 0, none⟩ (.pointer none) w hg (cell_at ht 0) (free_at ht 0)).mono ?_
  rintro ev w' ⟨rfl, rfl⟩
  have o1 := Only.alloc w (.cells #[.pointer (some ⟨tb, 0, none⟩)] 81) (fun _ => False)
  generalize hw1 : w.alloc (.cells #[.pointer (some ⟨tb, 0, none⟩)] 81) = w1 at *
  have o2 := o1.trans (Only.alloc w1 (.cells #[.pointer (some ⟨1, 81, none⟩), .pointer (some ⟨w.heap.size, 0, none⟩), .int .u64 150] 113) (fun _ => False))
  generalize w1.alloc (.cells #[.pointer (some ⟨1, 81, none⟩), .pointer (some ⟨w.heap.size, 0, none⟩), .int .u64 150] 113) = w2 at *
  have o3 := o2.trans (Only.alloc w2 (.cells #[.pointer (some ⟨1, 81, none⟩), .pointer (some ⟨w.heap.size, 0, none⟩), .int .u64 150] 113) (fun _ => False))
  generalize w2.alloc (.cells #[.pointer (some ⟨1, 81, none⟩), .pointer (some ⟨w.heap.size, 0, none⟩), .int .u64 150] 113) = w3 at *
  have o4 := o3.trans (Only.alloc w3 (.cells #[.pointer (some ⟨rb, 0, none⟩)] 79) (fun _ => False))
  generalize w3.alloc (.cells #[.pointer (some ⟨rb, 0, none⟩)] 79) = w4 at *
  exact ⟨rfl, (o4.mono fun _ _ => False.elim).trans (Only.one w4 tb 0 (.pointer (some ⟨rb, 0, none⟩))), heap_setCell_same w4 tb 0 _ _ _ (o4.keep ht id)⟩

theorem alloc_setRow (W : World) (c0 cs : Array Value) (t : TypeId) : Only (fun _ => False) W ((W.alloc (.cells c0 t)).setRow W.heap.size cs) ∧ ((W.alloc (.cells c0 t)).setRow W.heap.size cs).heap[W.heap.size]? = some (.cells cs t (0, 0)) := by
  have h1 := Only.alloc W (.cells c0 t) (fun _ => False)
  have h2 := Only.setRow (W.alloc (.cells c0 t)) W.heap.size cs (S := fun x => x = W.heap.size) rfl
  exact ⟨h1.trans' h2 (fun y hy e => by have e' : y = W.heap.size := e; omega), setRow_heap _ W.heap.size _ cs _ _ (heap_alloc_any W (.cells c0 t))⟩

theorem lgCells_setChain (p : Nat) (l : Lg) (c : List Us) (h : l.chain.length = 12) (hc : c.length = 12) : laid (lgCells p l) 3 (usCells c) = lgCells p { l with chain := c } := by
  have h1 : (lgHead p l).length = 3 := rfl
  have h2 : (usCells l.chain).length = 24 := by rw [usCells_length, h]
  have h3 : (usCells c).length = 24 := by rw [usCells_length, hc]
  unfold laid lgCells
  rw [h3, List.take_left' h1, ← List.drop_drop, List.drop_left' h1, List.drop_left' h2]
  rfl
theorem has_front {W : World} {b : Nat} {t : TypeId} {cs post : List Value} (h : W.heap[b]? = some (.cells (cs ++ post).toArray t (0, 0))) : Has W b 0 cs := has_of_block (pre := []) h
theorem row_one {W : World} {base : Nat} {e : TypeId} {size : Nat} {v : Value} {n : Nat} {xs : List Value} (h : W.ownsRow base e size v n xs) : v.oneCell' = true := by
  rcases h.2 with ⟨e, _⟩ | ⟨g, cap, cur, e, _⟩ <;> rw [e] <;> rfl

def lgOf (per segs : Nat) (m : Found) : Lg := { Lg.new per segs with chain := m.chain, last := m.seg, top := m.epoch }
def openOut (r : D × Lg × Int) (ps : List (Int × List UInt8)) : Opened := if r.2.2 = 0 then .ok r.1 r.2.1 ps else .err r.1 r.2.2
def openM (d : D) (per segs : Nat) (m : Found) : Opened := if m.epoch = 0 then .ok d (Lg.new per segs) [] else openOut ((lgOf per segs m).clean d m.loose) m.pieces

set_option maxHeartbeats 8000000 in
theorem open_any (w : World) (p kb : Nat) (pv : Value) (d : D) (per : Nat) (hd : DAt w p kb pv d) (h4 : 4 ≤ per) (h64 : per ≤ 64) (hs4 : 4 ≤ d.kept.length / per) (hs12 : d.kept.length / per ≤ 12) (hroom : d.pend.length + 200 ≤ 1000000)
    (hg : (∃ x, look (frAt d per) per (d.kept.length / per) = .inr x) → w.cell? ⟨0, 0, none⟩ = some (.iface 148 (.agg #[.pointer (some ⟨1, 76, none⟩)]))) :
    Calls Tryz.prog 13 #[.pointer (some ⟨p, 0, none⟩), .int .i64 (per : Int)] w (OpenPost w p kb pv (openL d per)) := by
  have hO : openL d per = (match look (frAt d per) per (d.kept.length / per) with
    | .inr x => .rot x
    | .inl m => openM d per (d.kept.length / per) m) := by
    unfold openL openM openOut lgOf
    simp only
    cases look (frAt d per) per (d.kept.length / per) <;> rfl
  have hdiv : (d.kept.length : Int) / (per : Int) = ((d.kept.length / per : Nat) : Int) := by omega
  have hroom2 : (d.kept.length / per) * per ≤ d.kept.length := Nat.div_mul_le_self _ _
  have hfacts := fun m => @look_facts d per (d.kept.length / per) h64 h4 hs12 m
  have hlook := fun (W : World) (gb : Nat) (h : GAt W gb p kb pv d per (d.kept.length / per)) => look_any W gb p kb pv d per (d.kept.length / per) h
  generalize openL d per = R at hO ⊢
  generalize d.kept.length / per = segs at *
  generalize look (frAt d per) per segs = K at *
  have HO := Lib.hid hO
  have HF := Lib.hid hfacts
  have hA := Only.alloc w (.cells (lg0Cells p per segs).toArray 71) (fun _ => False)
  have hb := heap_alloc_any w (.cells (lg0Cells p per segs).toArray 71)
  have hz : (w.alloc (.cells (lg0Cells p per segs).toArray 71)).heap.size = w.heap.size + 1 := World.size_alloc _ _
  obtain ⟨w1, hw1⟩ : ∃ w1, w1 = w.alloc (.cells (lg0Cells p per segs).toArray 71) := ⟨_, rfl⟩
  rw [← hw1] at hA hb hz
  have hL1 : LgAt w1 w.heap.size p kb pv d (Lg.new per segs) := ⟨hb, rfl, hd.only hA (fun _ _ => id), fun hf => by have := hd.fp_lt _ hf; omega, h4, h64, hs12, hroom2, by simp [Lg.new], by simp [Lg.new], fun k => by
    show 0 ≤ (Ch.no.getD k Us.no).e ∧ _
    unfold Lg.new Ch.no
    simp only
    rw [List.getD_eq_getElem?_getD, List.getElem?_replicate]
    split <;> simp [Us.no]⟩
  have HK := Lib.hid (hlook w1 w.heap.size hL1.gat)
  have c2 : w1.cell? ⟨w.heap.size, 2, none⟩ = some (.int .i64 (segs : Int)) := hL1.c2
  have HL1 := Lib.hid hL1
  have HA := Lib.hid hA
  have HZ := Lib.hid hz
  have hgl : w.cell? ⟨0, 0, none⟩ = some (.iface 148 (.agg #[.pointer (some ⟨1, 76, none⟩)])) → w1.cell? ⟨0, 0, none⟩ = some (.iface 148 (.agg #[.pointer (some ⟨1, 76, none⟩)])) := fun h => by rw [hA.cell (World.block_lt_of_cell? _ _ h) id]; exact h
  have HG := Lib.hid (fun h => hgl (hg h))
  have HSZ := Lib.hid (size_any w p kb pv d hd)
  have hpI : ¬ (per : Int) < 4 := by omega
  have hpI2 : ¬ (64 : Int) < (per : Int) := by omega
  have hsI : ¬ (segs : Int) < 4 := by omega
  have hsI2 : ¬ (12 : Int) < (segs : Int) := by omega
  have hbg := fun W => Tryz.buildGround p per segs W
  have hbl := fun W => Tryz.buildLog p per segs W
  unfold lg0Cells at hw1
  have HW1 := Lib.hid hw1
  clear hO hfacts hlook hb hA hz hL1 hg hgl hw1
  go_enter Tryz.func13, Tryz.ntmps13
  go_upto_region 6 with ((refine HSZ.out.mono ?_); rintro ev W1 ⟨rfl, rfl⟩)
  rw [← HW1.out]
  clear hbg hbl HSZ HW1 hdiv
  go_upto_region 8 with fail
  have hfs := Tryz.sizeFound
  have hf1 := found0_one
  have hKP := HK.out
  unfold LookPost at hKP
  have hfl : (foundCells Found.no zeroPv).length = 29 := rfl
  generalize hFC : foundCells Found.no zeroPv = FC at hf1 hKP hfl
  have HFC := Lib.hid hFC
  have HFS := Lib.hid hfs
  have HF1 := Lib.hid hf1
  have HFL := Lib.hid hfl
  clear hFC hfs hf1 HK hfl
  cases K with
  | inr x =>
    have HR := Lib.hid (show R = .rot x from HO.out)
    have hg1 := HG.out ⟨x, rfl⟩
    have HG1 := Lib.hid hg1
    simp only at hKP
    have HK := Lib.hid hKP
    clear HO HF HG hg1 hKP
    go_wp2_with fail
    refine HK.out.mono ?_
    rintro ev W2 ⟨⟨rb, rfl, hrb, hb2⟩, ho2⟩
    have HB2 := Lib.hid hb2
    have HRB := Lib.hid hrb
    have HO2 := Lib.hid ho2
    clear hb2 hrb ho2 HK c2
    go_upto_region 9 with ((with_reducible refine wpList_store_block W2.heap.size 74 FC [.int .i64 0, .int .i64 0, .int .i64 0, .int .i64 0, .int .i64 0, .int .i64 0, .int .i64 0, .int .i64 0, .int .i64 0, .int .i64 0, .int .i64 0, .int .i64 0, .int .i64 0, .int .i64 0, .int .i64 0, .int .i64 0, .int .i64 0, .int .i64 0, .int .i64 0, .int .i64 0, .int .i64 0, .int .i64 0, .int .i64 0, .int .i64 0, .int .i64 0, .int .i64 0, .int .i64 0, .bool false, .slice none 0 0] ?_ ?_ ?_ ?_ ?_ ?_ ?_); (· rw [HFL.out]; exact HFS.out); (· exact heap_alloc_any W2 _); (· rw [HFL.out]; rfl); (· exact HF1.out); (· rfl); (· rfl))
    obtain ⟨hoA, hbA⟩ := alloc_setRow W2 #[.int .i64 0, .int .i64 0, .int .i64 0, .int .i64 0, .int .i64 0, .int .i64 0, .int .i64 0, .int .i64 0, .int .i64 0, .int .i64 0, .int .i64 0, .int .i64 0, .int .i64 0, .int .i64 0, .int .i64 0, .int .i64 0, .int .i64 0, .int .i64 0, .int .i64 0, .int .i64 0, .int .i64 0, .int .i64 0, .int .i64 0, .int .i64 0, .int .i64 0, .int .i64 0, .int .i64 0, .bool false, .slice none 0 0] FC.toArray 74
    generalize (W2.alloc (.cells #[.int .i64 0, .int .i64 0, .int .i64 0, .int .i64 0, .int .i64 0, .int .i64 0, .int .i64 0, .int .i64 0, .int .i64 0, .int .i64 0, .int .i64 0, .int .i64 0, .int .i64 0, .int .i64 0, .int .i64 0, .int .i64 0, .int .i64 0, .int .i64 0, .int .i64 0, .int .i64 0, .int .i64 0, .int .i64 0, .int .i64 0, .int .i64 0, .int .i64 0, .int .i64 0, .int .i64 0, .bool false, .slice none 0 0] 74)).setRow W2.heap.size FC.toArray = w3 at hoA hbA ⊢
    have hlt0 : 0 < w1.heap.size := World.block_lt_of_cell? _ _ HG1.out
    have ho3 := HO2.out.trans hoA
    have hg3 : w3.cell? ⟨0, 0, none⟩ = some (.iface 148 (.agg #[.pointer (some ⟨1, 76, none⟩)])) := by rw [ho3.cell hlt0 id]; exact HG1.out
    have hb3 := hoA.keep HB2.out id
    have hoN := Only.alloc w3 (.cells #[.pointer none] 79) (fun _ => False)
    have hbN := heap_alloc_any w3 (.cells #[.pointer none] 79)
    have hg4 : (w3.alloc (.cells #[.pointer none] 79)).cell? ⟨0, 0, none⟩ = some (.iface 148 (.agg #[.pointer (some ⟨1, 76, none⟩)])) := by rw [hoN.cell (Nat.lt_of_lt_of_le hlt0 ho3.size) id]; exact hg3
    have HAS := Lib.hid (as_rot _ rb w3.heap.size hg4 hbN)
    have HO4 := Lib.hid (ho3.trans hoN)
    have HB4 := Lib.hid (hoN.keep hb3 id)
    have HRL := Lib.hid (show rb < w3.heap.size from lt_of_block hb3)
    have HWS := Lib.hid (show w1.heap.size ≤ w3.heap.size from ho3.size)
    clear hoA hbA hlt0 hg3 hb3 hoN hbN hg4 ho3
    go_upto_region 10 with fail
    go_wp2_with fail
    refine HAS.out.mono ?_
    rintro ev W5 ⟨rfl, ho5, hb5⟩
    have HO5 := Lib.hid ho5
    have HB5 := Lib.hid hb5
    clear ho5 hb5 HAS
    go_upto_region 11 with fail
    have ho5 := HO5.out
    have hb5 := HB5.out
    clear HO5 HB5
    have hrn : rb ≠ w3.heap.size := by have := HRL.out; omega
    have hrb5 := ho5.keep HB4.out (fun e => hrn e)
    have HQ := Lib.hid (show ∀ W, Only (fun _ => False) W5 W → W.cell? ⟨w3.heap.size, 0, none⟩ = some (.pointer (some ⟨rb, 0, none⟩)) ∧ W.cell? ⟨rb, 0, none⟩ = some (.int .i64 (x : Int)) ∧ True ∧ True from fun W hW => ⟨cell_at (hW.keep hb5 id) 0, cell_at (hW.keep hrb5 id) 0, trivial, trivial⟩)
    have hoF := (HA.out.trans HO4.out).trans' ho5 (fun y hy e => by have e' : y = w3.heap.size := e; have := HWS.out; have := HZ.out; omega)
    have HOF := Lib.hid hoF
    clear hoF hrb5 ho5 hb5
    refine wp_region_pick (fun W => Only (fun _ => False) W5 W) [(0, 1), (1, 0), (2, 0), (3, 1), (4, 0), (5, 0), (6, 0), (7, 0)] (by kernel_rfl) (by kernel_rfl) (fun _ _ d _ _ h => by cases d <;> exact h) (Only.drew W5 _) ?_
    have ho6 := Only.drew W5 (fun _ => False)
    generalize W5.drew = W6 at ho6 ⊢
    simp only [pickOps, List.getElem?_cons_zero, List.getElem?_cons_succ]
    iterate 8 (first | (refine wpL_pure (a' := ?_) ?_ rfl (fun W => ?_) ?_ ?_; rotate_left 2; (· go_simp; first | (go_bits; with_reducible rfl) | with_reducible rfl); (· simp only [put_some, List.setIfInBounds_toArray, List.set_cons_zero, List.set_cons_succ]; rfl)) | (refine wpL_held (a' := ?_) ?_ rfl (fun W hW => ?_) ?_ ?_; rotate_left 2; (· obtain ⟨q1, q2, q3, q4⟩ := HQ.out W hW; go_simp; first | (go_bits; with_reducible rfl) | with_reducible rfl); (· simp only [put_some, List.setIfInBounds_toArray, List.set_cons_zero, List.set_cons_succ]; rfl)))
    refine wpL_nil ?_
    have HO6 := Lib.hid (HOF.out.trans ho6)
    clear ho6 HOF HQ
    go_wp2_with fail
    ((try simp only [Exit.inBlock, Exit.then]); refine bodyPost_ret (results_tmp4 rfl _ _ _) rfl ?_)
    rw [HR.out]
    exact ⟨rfl, HO6.out⟩
  | inl m =>
    simp only at hKP
    have HR := Lib.hid (show R = openM d per segs m from HO.out)
    have HF' := Lib.hid (HF.out m rfl)
    have HK := Lib.hid hKP
    clear HO HF HG hKP c2
    go_wp2_with fail
    refine HK.out.mono ?_
    rintro ev W2 ⟨⟨psv, rfl, hrow, hcl⟩, ho2⟩
    have hF2 : ∀ v ∈ foundCells m psv, v.oneCell' = true := found_one m psv (row_one hrow)
    have hFL2 : (foundCells m psv).length = 29 := foundCells_length m psv hcl
    generalize hFM : foundCells m psv = FM at hF2 hFL2 ⊢
    have HFM := Lib.hid hFM
    have HF2 := Lib.hid hF2
    have HFL2 := Lib.hid hFL2
    have HROW := Lib.hid hrow
    have HCL := Lib.hid hcl
    have HO2 := Lib.hid ho2
    have HMB := Lib.hid (show w.heap.size < W2.heap.size by have := ho2.size; have := HZ.out; omega)
    clear hrow hcl ho2 HK hFM hF2 hFL2
    go_upto_region 9 with ((with_reducible refine wpList_store_block W2.heap.size 74 FM [.int .i64 0, .int .i64 0, .int .i64 0, .int .i64 0, .int .i64 0, .int .i64 0, .int .i64 0, .int .i64 0, .int .i64 0, .int .i64 0, .int .i64 0, .int .i64 0, .int .i64 0, .int .i64 0, .int .i64 0, .int .i64 0, .int .i64 0, .int .i64 0, .int .i64 0, .int .i64 0, .int .i64 0, .int .i64 0, .int .i64 0, .int .i64 0, .int .i64 0, .int .i64 0, .int .i64 0, .bool false, .slice none 0 0] ?_ ?_ ?_ ?_ ?_ ?_ ?_); (· rw [HFL2.out]; exact HFS.out); (· exact heap_alloc_any W2 _); (· rw [HFL2.out]; rfl); (· exact HF2.out); (· rfl); (· rfl))
    obtain ⟨hoA, hbA⟩ := alloc_setRow W2 #[.int .i64 0, .int .i64 0, .int .i64 0, .int .i64 0, .int .i64 0, .int .i64 0, .int .i64 0, .int .i64 0, .int .i64 0, .int .i64 0, .int .i64 0, .int .i64 0, .int .i64 0, .int .i64 0, .int .i64 0, .int .i64 0, .int .i64 0, .int .i64 0, .int .i64 0, .int .i64 0, .int .i64 0, .int .i64 0, .int .i64 0, .int .i64 0, .int .i64 0, .int .i64 0, .int .i64 0, .bool false, .slice none 0 0] FM.toArray 74
    generalize (W2.alloc (.cells #[.int .i64 0, .int .i64 0, .int .i64 0, .int .i64 0, .int .i64 0, .int .i64 0, .int .i64 0, .int .i64 0, .int .i64 0, .int .i64 0, .int .i64 0, .int .i64 0, .int .i64 0, .int .i64 0, .int .i64 0, .int .i64 0, .int .i64 0, .int .i64 0, .int .i64 0, .int .i64 0, .int .i64 0, .int .i64 0, .int .i64 0, .int .i64 0, .int .i64 0, .int .i64 0, .int .i64 0, .bool false, .slice none 0 0] 74)).setRow W2.heap.size FM.toArray = w3 at hoA hbA ⊢
    rw [← HFM.out] at hbA
    have HO3 := Lib.hid (HO2.out.trans hoA)
    have HROW3 := Lib.hid (ownsRow_only HROW.out hoA (fun _ _ h => h))
    have HB3 := Lib.hid hbA
    clear hoA hbA HROW HO2 HFM HF2 HFL2 HFC HFS HF1 HFL
    have hoN := Only.alloc w3 (.cells #[.pointer none] 79) (fun _ => False)
    have HON := Lib.hid hoN
    clear hoN
    go_upto_region 10 with fail
    generalize w3.alloc (.cells #[.pointer none] 79) = w4 at HON ⊢
    have HO4 := Lib.hid (HO3.out.trans HON.out)
    have HROW4 := Lib.hid (ownsRow_only HROW3.out HON.out (fun _ _ h => h))
    have HFA := Lib.hid (FAt.mk HCL.out (HON.out.keep HB3.out id) HROW4.out : FAt w4 W2.heap.size w1.heap.size m psv)
    clear HROW3 HB3 HON HO3
    go_wp2_with fail
    refine (as_nil _ _).mono ?_
    rintro ev w5 ⟨rfl, rfl⟩
    have c24 := HFA.out.c24
    by_cases he0 : m.epoch = 0
    · rw [he0] at c24
      have HN := Lib.hid (show R = .ok d (Lg.new per segs) [] by rw [HR.out]; unfold openM; rw [if_pos he0])
      clear he0 HR HF'
      go_wp2_with fail
      ((try simp only [Exit.inBlock, Exit.then]); refine bodyPost_ret (results_tmp4 rfl _ _ _) rfl ?_)
      rw [HN.out]
      have ho5 := HA.out.trans HO4.out
      exact ⟨pv, w.heap.size, .slice none 0 0, rfl, Nat.le_refl _, ⟨hd.only ho5 (fun _ _ => id), ho5.mono fun _ _ => False.elim, fun g hg => .inl hg⟩, HL1.out.quiet HO4.out, nil_row _ _ _ _, by simp [Value.ownBlock]⟩
    · have HN := Lib.hid (show R = openOut ((lgOf per segs m).clean d m.loose) m.pieces by rw [HR.out]; unfold openM; rw [if_neg he0])
      obtain ⟨f1, f2, f3, f4, f5⟩ := HF'.out he0
      have hne : ¬ m.epoch = 0 := he0
      clear HR HF' he0
      have HL5 := Lib.hid (HL1.out.quiet HO4.out)
      go_upto_region 14 with fail
      have hlen := HCL.out
      have HQ := Lib.hid (show ∀ W, Only (fun b => b = w.heap.size) w5 W → W.cell? ⟨W2.heap.size, 25, none⟩ = some (.int .i64 (m.seg : Int)) ∧ W.cell? ⟨W2.heap.size, 24, none⟩ = some (.int .i64 m.epoch) ∧ True ∧ True from fun W hW => by
        have hne : ¬ W2.heap.size = w.heap.size := by have := HMB.out; omega
        refine ⟨?_, ?_, trivial, trivial⟩
        · rw [hW.cell (World.block_lt_of_cell? _ _ HFA.out.c25) hne]; exact HFA.out.c25
        · rw [hW.cell (World.block_lt_of_cell? _ _ HFA.out.c24) hne]; exact HFA.out.c24)
      have HCH := Lib.hid (show ∀ W, Only (fun b => b = w.heap.size) w5 W → (Instr.loadAt 69 (.pointer (some ⟨W2.heap.size, 0, none⟩))).run Tryz.prog W = .ok (.agg (usCells m.chain).toArray) W from fun W hW => by
        have hne : ¬ W2.heap.size = w.heap.size := by have := HMB.out; omega
        have hb := hW.keep HFA.out.head hne
        exact run_load_part W W2.heap.size 0 24 (usCells m.chain) 69 _ Tryz.underlying69 rfl Tryz.sizeChain (by rw [usCells_length, hlen]) (has_front (post := [.int .i64 m.epoch, .int .i64 (m.seg : Int), .int .i64 (m.sealed : Int), .bool m.loose, psv]) hb))
      refine wp_region_pick (fun W => Only (fun b => b = w.heap.size) w5 W) [(0, 0), (1, 0), (2, 0), (3, 0), (4, 1), (5, 0), (6, 1), (7, 0), (8, 1), (9, 0), (10, 0), (11, 2), (12, 0), (13, 0), (14, 2), (15, 0), (16, 0), (17, 3)] (by kernel_rfl) (by kernel_rfl) (fun _ _ d _ _ h => by cases d <;> exact h) (Only.drew w5 _) ?_
      have ho6 := Only.drew w5 (fun b => b = w.heap.size)
      have hq6 := Only.drew w5 (fun _ => False)
      have hL6 := HL5.out.quiet hq6
      have hd6 := HO4.out.trans hq6
      generalize w5.drew = w6 at ho6 hq6 hL6 hd6 ⊢
      simp only [pickOps, List.getElem?_cons_zero, List.getElem?_cons_succ]
      iterate 4 (first | (refine wpL_pure (a' := ?_) ?_ rfl (fun W => ?_) ?_ ?_; rotate_left 2; (· go_simp; first | (go_bits; with_reducible rfl) | with_reducible rfl); (· simp only [put_some, List.setIfInBounds_toArray, List.set_cons_zero, List.set_cons_succ]; rfl)) | (refine wpL_held (a' := ?_) ?_ rfl (fun W hW => ?_) ?_ ?_; rotate_left 2; (· obtain ⟨q1, q2, q3, q4⟩ := HQ.out W hW; go_simp; first | (go_bits; with_reducible rfl) | with_reducible rfl); (· simp only [put_some, List.setIfInBounds_toArray, List.set_cons_zero, List.set_cons_succ]; rfl)))
      refine wpL_held (a' := ?_) (.agg (usCells m.chain).toArray) rfl (fun W hW => exec_load rfl (p := .pointer (some ⟨W2.heap.size, 0, none⟩)) rfl (HCH.out W hW)) ?_ ?_; rotate_left; (· simp only [put_some, List.setIfInBounds_toArray, List.set_cons_zero, List.set_cons_succ]; rfl)
      iterate 6 (first | (refine wpL_pure (a' := ?_) ?_ rfl (fun W => ?_) ?_ ?_; rotate_left 2; (· go_simp; first | (go_bits; with_reducible rfl) | with_reducible rfl); (· simp only [put_some, List.setIfInBounds_toArray, List.set_cons_zero, List.set_cons_succ]; rfl)) | (refine wpL_held (a' := ?_) ?_ rfl (fun W hW => ?_) ?_ ?_; rotate_left 2; (· obtain ⟨q1, q2, q3, q4⟩ := HQ.out W hW; go_simp; first | (go_bits; with_reducible rfl) | with_reducible rfl); (· simp only [put_some, List.setIfInBounds_toArray, List.set_cons_zero, List.set_cons_succ]; rfl)))
      have hA1 : laid (lgCells p (Lg.new per segs)) 3 (usCells m.chain) = lgCells p { Lg.new per segs with chain := m.chain } := lgCells_setChain p (Lg.new per segs) m.chain rfl hlen
      have hST := run_store_part (P := Tryz.prog) w6 w.heap.size 3 24 71 69 (lgCells p (Lg.new per segs)) (usCells m.chain) Tryz.sizeChain (by rw [usCells_length, hlen]) hL6.head (by rw [lgCells_length p _ hL6.len, usCells_length, hlen]; omega) (usCells_one m.chain)
      have hoS := Only.setRow w6 w.heap.size (laid (lgCells p (Lg.new per segs)) 3 (usCells m.chain)).toArray (S := fun b => b = w.heap.size) rfl
      have hb7 := setRow_heap _ w.heap.size _ (laid (lgCells p (Lg.new per segs)) 3 (usCells m.chain)).toArray _ _ hL6.head
      rw [hA1] at hST hoS hb7
      refine wpL_stepDone (a' := ?_) (w' := w6.setRow w.heap.size (lgCells p { Lg.new per segs with chain := m.chain }).toArray) rfl (exec_store rfl (p := .pointer (some ⟨w.heap.size, 3, none⟩)) (v := .agg (usCells m.chain).toArray) rfl rfl hST) (ho6.trans hoS) ?_ ?_; rotate_left; (· simp only [put_none]; rfl)
      have ho7 := ho6.trans hoS
      generalize w6.setRow w.heap.size (lgCells p { Lg.new per segs with chain := m.chain }).toArray = w7 at hb7 hoS ho7 ⊢
      have hs7 := hoS
      iterate 2 (first | (refine wpL_pure (a' := ?_) ?_ rfl (fun W => ?_) ?_ ?_; rotate_left 2; (· go_simp; first | (go_bits; with_reducible rfl) | with_reducible rfl); (· simp only [put_some, List.setIfInBounds_toArray, List.set_cons_zero, List.set_cons_succ]; rfl)) | (refine wpL_held (a' := ?_) ?_ rfl (fun W hW => ?_) ?_ ?_; rotate_left 2; (· obtain ⟨q1, q2, q3, q4⟩ := HQ.out W hW; go_simp; first | (go_bits; with_reducible rfl) | with_reducible rfl); (· simp only [put_some, List.setIfInBounds_toArray, List.set_cons_zero, List.set_cons_succ]; rfl)))
      have hST2 := run_store_one (P := Tryz.prog) w7 ⟨w.heap.size, 27, none⟩ (.int .i64 (m.seg : Int)) _ 3 rfl rfl Tryz.sizeInt (by rw [cell_at hb7, List.getElem?_toArray]; exact lgCells_tail p _ hlen 0) (free_at hb7 27)
      have hb8 := heap_setCell_same w7 w.heap.size 27 _ _ (.int .i64 (m.seg : Int)) hb7
      have hoS8 := Only.one w7 w.heap.size 27 (.int .i64 (m.seg : Int))
      refine wpL_stepDone (a' := ?_) (w' := w7.setCell ⟨w.heap.size, 27, none⟩ (.int .i64 (m.seg : Int))) rfl (exec_store rfl (p := .pointer (some ⟨w.heap.size, 27, none⟩)) (v := .int .i64 (m.seg : Int)) rfl rfl hST2) (ho7.trans hoS8) ?_ ?_; rotate_left; (· simp only [put_none]; rfl)
      rw [List.setIfInBounds_toArray, lgCells_setTail p _ hlen 0] at hb8
      have hs8 := hs7.trans hoS8
      have hb8' : (w7.setCell ⟨w.heap.size, 27, none⟩ (.int .i64 (m.seg : Int))).heap[w.heap.size]? = some (.cells (lgCells p { Lg.new per segs with chain := m.chain, last := m.seg }).toArray 71 (0, 0)) := hb8
      generalize w7.setCell ⟨w.heap.size, 27, none⟩ (.int .i64 (m.seg : Int)) = w8 at hb8' hs8 ⊢
      clear hb8
      iterate 2 (first | (refine wpL_pure (a' := ?_) ?_ rfl (fun W => ?_) ?_ ?_; rotate_left 2; (· go_simp; first | (go_bits; with_reducible rfl) | with_reducible rfl); (· simp only [put_some, List.setIfInBounds_toArray, List.set_cons_zero, List.set_cons_succ]; rfl)) | (refine wpL_held (a' := ?_) ?_ rfl (fun W hW => ?_) ?_ ?_; rotate_left 2; (· obtain ⟨q1, q2, q3, q4⟩ := HQ.out W hW; go_simp; first | (go_bits; with_reducible rfl) | with_reducible rfl); (· simp only [put_some, List.setIfInBounds_toArray, List.set_cons_zero, List.set_cons_succ]; rfl)))
      have hST3 := run_store_one (P := Tryz.prog) w8 ⟨w.heap.size, 28, none⟩ (.int .i64 m.epoch) _ 3 rfl rfl Tryz.sizeInt (by rw [cell_at hb8', List.getElem?_toArray]; exact lgCells_tail p _ hlen 1) (free_at hb8' 28)
      have hb9 := heap_setCell_same w8 w.heap.size 28 _ _ (.int .i64 m.epoch) hb8'
      have hoS9 := Only.one w8 w.heap.size 28 (.int .i64 m.epoch)
      refine wpL_lastDone (a' := ?_) (w' := w8.setCell ⟨w.heap.size, 28, none⟩ (.int .i64 m.epoch)) rfl (exec_store rfl (p := .pointer (some ⟨w.heap.size, 28, none⟩)) (v := .int .i64 m.epoch) rfl rfl hST3) ?_ ?_; rotate_left; (· simp only [put_none]; rfl)
      rw [List.setIfInBounds_toArray, lgCells_setTail p _ hlen 1] at hb9
      have hs9 := hs8.trans hoS9
      have hb9' : (w8.setCell ⟨w.heap.size, 28, none⟩ (.int .i64 m.epoch)).heap[w.heap.size]? = some (.cells (lgCells p (lgOf per segs m)).toArray 71 (0, 0)) := hb9
      generalize w8.setCell ⟨w.heap.size, 28, none⟩ (.int .i64 m.epoch) = w9 at hb9' hs9 ⊢
      refine wpL_nil ?_
      have hL9 : LgAt w9 w.heap.size p kb pv d (lgOf per segs m) := hL6.with hs9 hb9' hlen rfl rfl (show m.seg < 12 by omega) (show 0 ≤ m.epoch ∧ m.epoch ≤ 16777215 by omega) f5
      have HL9 := Lib.hid hL9
      have HD9 := Lib.hid ((HA.out.trans hd6).trans' hs9 (fun y hy e => by have e' : y = w.heap.size := e; omega))
      have hrge : ∀ x, psv.ownBlock = some x → w1.heap.size ≤ x := fun x hx => ownBlock_ge HROW4.out hx
      have hz1 := HZ.out
      have hF9 : FAt w9 W2.heap.size w1.heap.size m psv := ⟨HCL.out, (ho6.trans hs9).keep HFA.out.head (fun e => by have e' : W2.heap.size = w.heap.size := e; have := HMB.out; omega), ownsRow_only HROW4.out (ho6.trans hs9) (fun x hx e => by have e' : x = w.heap.size := e; have := hrge x hx; omega)⟩
      have c27 := hF9.c27
      have HF9 := Lib.hid hF9
      have HRG := Lib.hid hrge
      have HCE := Lib.hid (clean_any w9 w.heap.size p kb pv d (lgOf per segs m) m.loose hL9 (show 1 ≤ (m.chain.getD m.seg Us.no).e by rw [f4]; exact f1) f3 (by omega))
      clear HQ HCH ho6 hq6 hL6 hd6 hA1 hST hoS hb7 ho7 hs7 hST2 hoS8 hs8 hb8' hST3 hb9 hoS9 hs9 hb9' hL9 f5 hF9 hrge HFA HROW4 HO4 HA HL5 HL1 c24 f1 f2 f4 hne
      generalize (lgOf per segs m).clean d m.loose = CL at HCE HN
      obtain ⟨dC, lC, eC⟩ := CL
      have hfp := fun b => hd.fp_lt b
      have HFP := Lib.hid hfp
      clear hfp
      go_wp2_with fail
      refine HCE.out.mono ?_
      rintro ev w10 ⟨pv10, rfl, hLC⟩
      have HLC := Lib.hid hLC
      have hDS : DStep w w10 p kb pv pv10 dC := ⟨hLC.at_.da, ((HD9.out.mono fun _ _ => False.elim : Only (fp p kb pv) w w9)).trans' hLC.only (fun y hy e => by
        rcases e with e | e
        · omega
        · exact e), fun g hg => by
        rcases hLC.fresh g hg with e | e
        · exact .inl e
        · exact .inr (Nat.le_trans HD9.out.size e)⟩
      have HDS := Lib.hid hDS
      have hF10 := LStep.row hLC HL9.out HF9.out.row (by decide) (fun x hx => by
        have h1 := HRG.out x hx
        have h2 := HFP.out p (.inl rfl)
        have h3 := HFP.out kb (.inr (.inl rfl))
        omega)
      have HF10 := Lib.hid hF10
      have c28 : w10.cell? ⟨W2.heap.size, 28, none⟩ = some psv := by
        rw [hLC.only.cell (World.block_lt_of_cell? _ _ HF9.out.c28) (fun e => by
          have h1 := HMB.out
          rcases e with e | e
          · have e' : W2.heap.size = w.heap.size := e
            omega
          · have h2 : W2.heap.size < w.heap.size := HFP.out W2.heap.size e
            omega)]
        exact HF9.out.c28
      clear hLC hDS hF10 HCE c27
      by_cases hec : eC = 0
      · subst hec
        have HN2 := Lib.hid (show R = .ok dC lC m.pieces by rw [HN.out]; rfl)
        clear HN
        go_upto_region 18 with fail
        have HQ := Lib.hid (show ∀ W, Only (fun _ => False) w10 W → W.cell? ⟨W2.heap.size, 28, none⟩ = some psv ∧ True ∧ True ∧ True from fun W hW => ⟨by rw [hW.cell (World.block_lt_of_cell? _ _ c28) id]; exact c28, trivial, trivial, trivial⟩)
        clear c28
        refine wp_region_pick (fun W => Only (fun _ => False) w10 W) [(0, 0), (1, 0), (2, 1), (3, 0), (4, 0), (5, 0), (6, 0)] (by kernel_rfl) (by kernel_rfl) (fun _ _ d _ _ h => by cases d <;> exact h) (Only.drew w10 _) ?_
        have ho11 := Only.drew w10 (fun _ => False)
        generalize w10.drew = w11 at ho11 ⊢
        simp only [pickOps, List.getElem?_cons_zero, List.getElem?_cons_succ]
        iterate 7 (first | (refine wpL_pure (a' := ?_) ?_ rfl (fun W => ?_) ?_ ?_; rotate_left 2; (· go_simp; first | (go_bits; with_reducible rfl) | with_reducible rfl); (· simp only [put_some, List.setIfInBounds_toArray, List.set_cons_zero, List.set_cons_succ]; rfl)) | (refine wpL_held (a' := ?_) ?_ rfl (fun W hW => ?_) ?_ ?_; rotate_left 2; (· obtain ⟨q1, q2, q3, q4⟩ := HQ.out W hW; go_simp; first | (go_bits; with_reducible rfl) | with_reducible rfl); (· simp only [put_some, List.setIfInBounds_toArray, List.set_cons_zero, List.set_cons_succ]; rfl)))
        refine wpL_nil ?_
        have HO11 := Lib.hid ho11
        clear ho11 HQ
        go_wp2_with fail
        ((try simp only [Exit.inBlock, Exit.then]); refine bodyPost_ret (results_tmp4 rfl _ _ _) rfl ?_)
        rw [HN2.out]
        exact ⟨pv10, w.heap.size, psv, rfl, Nat.le_refl _, HDS.out.quiet HO11.out, HLC.out.at_.quiet HO11.out, ownsRow_down (ownsRow_only HF10.out HO11.out (fun _ _ h => h)) (by have := HZ.out; omega), fun e => by have := HRG.out _ e; have := HZ.out; omega⟩
      · have HN2 := Lib.hid (show R = .err dC eC by rw [HN.out]; unfold openOut; rw [if_neg hec])
        have heb : (eC == 0) = false := by simp [hec]
        have heb2 : (eC != 0) = true := by simp [hec]
        clear HN hec
        go_wp2_with fail
        ((try simp only [Exit.inBlock, Exit.then]); refine bodyPost_ret (results_tmp4 rfl _ _ _) rfl ?_)
        rw [HN2.out]
        exact ⟨pv10, rfl, HDS.out⟩
end Go.Proofs.YtlgefjcfnnjkbaaGreatDoor
