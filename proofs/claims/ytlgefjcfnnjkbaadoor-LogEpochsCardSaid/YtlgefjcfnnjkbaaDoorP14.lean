/- Parts of the proof, one behind the other: LogX, LogLk. Each part's own words say what it proves; no conditions. -/
import Derived.Test.YtlgefjcfnnjkbaaDoorP09
import Derived.Test.YtlgefjcfnnjkbaaDoorP13
set_option linter.unusedVariables false
set_option linter.unusedSimpArgs false
set_option linter.unusedSectionVars false
/- What a right link, a newest epoch, a last seal are. Plain; no program is named; no conditions. -/
namespace Go.Proofs.YtlgefjcfnnjkbaaDoor
set_option maxRecDepth 100000

theorem newRow_seg (g : Nat → Fr) (seg m : Nat) (hs : seg < m) (p : Int × Nat) (hp : p.1 ≠ 0 → p.2 < m) : ∀ n, (newRow g seg n p).1 ≠ 0 → (newRow g seg n p).2 < m
  | 0 => by simpa [newRow] using hp
  | n + 1 => by
    have ih := newRow_seg g seg m hs p hp n
    rw [newRow_succ]
    simp only
    split
    · intro _; exact hs
    · exact ih
theorem newest_seg (g : Nat → Nat → Fr) (per : Nat) : ∀ m, (newest g per m).1 ≠ 0 → (newest g per m).2 < m
  | 0 => by simp [newest]
  | m + 1 => by
    rw [newest_succ]
    exact newRow_seg (g m) m (m + 1) (by omega) _ (fun h => by have := newest_seg g per m h; omega) per
theorem linkTo_facts (f : Fr) (own per : Nat) : ∀ (m : Nat) (c : List Us), m ≤ 12 → linkTo f own per m = some c → c.length = 12 ∧ ∀ k, c.getD k Us.no = Us.no ∨ (k < m ∧ (c.getD k Us.no).e ≠ 0 ∧ (c.getD k Us.no).e < f.e ∧ 1 ≤ (c.getD k Us.no).c ∧ (c.getD k Us.no).c ≤ (per : Int) ∧ k ≠ own)
  | 0, c, _, h => by
    rw [linkTo] at h
    obtain rfl := Option.some.inj h
    refine ⟨by simp [Ch.no], fun k => .inl ?_⟩
    unfold Ch.no
    rw [List.getD_eq_getElem?_getD, List.getElem?_replicate]
    split <;> rfl
  | m + 1, c, hm, h => by
    rw [linkTo] at h
    cases hc : linkTo f own per m with
    | none => rw [hc] at h; cases h
    | some c0 =>
      rw [hc, Option.bind_some] at h
      obtain ⟨i1, i2⟩ := linkTo_facts f own per m c0 (by omega) hc
      unfold linkStep at h
      simp only at h
      split at h
      · obtain rfl := Option.some.inj h
        refine ⟨i1, fun k => ?_⟩
        rcases i2 k with hk | ⟨h1, h2⟩
        · exact .inl hk
        · exact .inr ⟨by omega, h2⟩
      · split at h
        · cases h
        · split at h
          · cases h
          · rename_i hn ho _
            obtain rfl := Option.some.inj h
            simp only [not_or] at ho
            refine ⟨by rw [List.length_set]; exact i1, fun k => ?_⟩
            by_cases e : k = m
            · subst e
              right
              rw [List.getD_eq_getElem?_getD, List.getElem?_set_self (by omega)]
              exact ⟨by omega, ho.2.1, by simp only [Option.getD_some]; omega, by simp only [Option.getD_some]; omega, by simp only [Option.getD_some]; omega, ho.1⟩
            · rw [List.getD_eq_getElem?_getD, List.getElem?_set_ne (fun e2 => e e2.symm), ← List.getD_eq_getElem?_getD]
              rcases i2 k with hk | ⟨h1, h2⟩
              · exact .inl hk
              · exact .inr ⟨by omega, h2⟩
theorem linkP_facts {f : Fr} {own per segs : Nat} {c : List Us} (hs : segs ≤ 12) (h : linkP f own per segs = some c) : c.length = 12 ∧ ∀ k, c.getD k Us.no = Us.no ∨ (k < segs ∧ (c.getD k Us.no).e ≠ 0 ∧ (c.getD k Us.no).e < f.e ∧ 1 ≤ (c.getD k Us.no).c ∧ (c.getD k Us.no).c ≤ (per : Int) ∧ k ≠ own) := by
  unfold linkP at h
  split at h
  · exact linkTo_facts f own per segs c hs h
  · cases h
theorem sealed_facts (g : Nat → Fr) (e : Int) : ∀ N, sealedTo g e N = 0 ∨ (1 ≤ sealedTo g e N ∧ sealedTo g e N < N ∧ (g (sealedTo g e N)).e = e ∧ (g (sealedTo g e N)).k = 4)
  | 0 => .inl rfl
  | N + 1 => by
    unfold sealedTo
    split
    · rename_i h
      exact .inr ⟨h.1, by omega, h.2⟩
    · rcases sealed_facts g e N with h | ⟨h1, h2, h3⟩
      · exact .inl h
      · exact .inr ⟨h1, by omega, h3⟩
theorem sound_none_at {g : Nat → Fr} {e : Int} {a b : Nat} (h : sound g e a b = none) (k : Nat) (h1 : a ≤ k) (h2 : k < b) : badAt g e k = false := by
  unfold sound at h
  rw [List.find?_eq_none] at h
  have := h k (List.mem_range'.2 ⟨k - a, by omega, by omega⟩)
  simpa using this
theorem takeWhile_ge {α : Type} (P : α → Bool) : ∀ (s : Nat) (l : List α), s ≤ l.length → (∀ i x, i < s → l[i]? = some x → P x = true) → s ≤ (l.takeWhile P).length
  | 0, _, _, _ => Nat.zero_le _
  | s + 1, [], h, _ => by simp at h
  | s + 1, x :: l, h, hp => by
    rw [List.takeWhile_cons, hp 0 x (by omega) rfl]
    simp only [if_true, List.length_cons]
    have := takeWhile_ge P s l (by simpa using h) (fun i y hi hy => hp (i + 1) y (by omega) hy)
    omega
/-- what is sound up to its last seal is taken as far at least -/
theorem sealed_run {g : Nat → Fr} {e : Int} {per : Nat} (h : sound g e 1 (sealedTo g e per) = none) : sealedTo g e per ≤ (runOf g e 1 per).length := by
  rcases sealed_facts g e per with h0 | ⟨h1, h2, h3, h4⟩
  · rw [h0]; exact Nat.zero_le _
  · generalize sealedTo g e per = s at *
    unfold runOf
    refine takeWhile_ge _ s _ (by simp [frames]; omega) fun i x hi hx => ?_
    rw [frames_get _ _ _ _ (by omega)] at hx
    obtain rfl := Option.some.inj hx
    by_cases hs : 1 + i = s
    · rw [hs, h3, h4]; simp
    · have := sound_none_at h (1 + i) (by omega) (by omega)
      unfold badAt at this
      simp only [Bool.or_eq_false_iff, bne_eq_false_iff_eq] at this
      rw [this.1]
      have h0 : decide (1 + i = 0) = false := decide_eq_false (by omega)
      have h5 := this.2
      rw [h0] at h5
      simp only [decide_eq_false_iff_not] at h5
      simp [h5]
end Go.Proofs.YtlgefjcfnnjkbaaDoor
/- What is found on a disk. No conditions. -/
namespace Go.Proofs.YtlgefjcfnnjkbaaDoor
set_option maxRecDepth 100000
open Go.RowKit Go.Shelf
attribute [local go_sem] Oper.semAt_some

def zeroPv : Value := .slice none 0 0
theorem Tryd.buildFound0 (w : World) : (Instr.build 64 #[]).run Tryd.prog w = .ok (.agg (foundCells Found.no zeroPv).toArray) w := by kernel_rfl
theorem Tryd.allocFound (w : World) : (Instr.alloc 64 true (.tuple #[])).run Tryd.prog w = .ok (.pointer (some ⟨w.heap.size, 0, none⟩)) (w.alloc (.cells (foundCells Found.no zeroPv).toArray 64)) := by kernel_rfl
theorem len12 {α : Type} {l : List α} (h : l.length = 12) : ∃ u0 u1 u2 u3 u4 u5 u6 u7 u8 u9 u10 u11, l = [u0, u1, u2, u3, u4, u5, u6, u7, u8, u9, u10, u11] := by
  match l, h with
  | [u0, u1, u2, u3, u4, u5, u6, u7, u8, u9, u10, u11], _ => exact ⟨u0, u1, u2, u3, u4, u5, u6, u7, u8, u9, u10, u11, rfl⟩
theorem Tryd.buildFoundE (u0 u1 u2 u3 u4 u5 u6 u7 u8 u9 u10 u11 : Us) (e : Int) (n : Nat) (w : World) : (Instr.build 64 #[(0, .agg (usCells [u0, u1, u2, u3, u4, u5, u6, u7, u8, u9, u10, u11]).toArray), (1, .int .i64 e), (2, .int .i64 (n : Int))]).run Tryd.prog w = .ok (.agg (foundCells ⟨[u0, u1, u2, u3, u4, u5, u6, u7, u8, u9, u10, u11], e, n, 0, false, []⟩ zeroPv).toArray) w := by kernel_rfl
theorem Tryd.buildFound {c : List Us} (h : c.length = 12) (e : Int) (n : Nat) (w : World) : (Instr.build 64 #[(0, .agg (usCells c).toArray), (1, .int .i64 e), (2, .int .i64 (n : Int))]).run Tryd.prog w = .ok (.agg (foundCells ⟨c, e, n, 0, false, []⟩ zeroPv).toArray) w := by
  obtain ⟨u0, u1, u2, u3, u4, u5, u6, u7, u8, u9, u10, u11, rfl⟩ := len12 h
  exact Tryd.buildFoundE _ _ _ _ _ _ _ _ _ _ _ _ e n w
theorem wpList_buildN {P : Program} {ops : Array Oper} {rest : List Oper} {a : Act} {Q : Exit → Act → World → Prop} {W : World} {dst : Option Tmp} {t ty : TypeId} {xs : Array (Nat × Operand)} {pos : String} {after : Array Edge}
    (parts : Array (Nat × Value)) (r : Value) (hx : (xs.map fun (i, x) => (i, a.eval x)) = parts) (h : (Instr.build t parts).run P W = .ok r W) (hK : wpList P ops Q rest (a.put dst r) W) :
    wpList P ops Q ({ dst := dst, op := .build t xs, type := ty, pos := pos, after := after, guard := none } :: rest) a W :=
  wpList_run rfl (exec_buildN rfl hx h) hK
theorem Tryd.sizeFound : (Tryd.prog.info? 64).map (·.size) = some 29 := by kernel_rfl
theorem found0_one : ∀ v ∈ foundCells Found.no zeroPv, v.oneCell' = true := by
  intro v hv
  unfold foundCells at hv
  rcases List.mem_append.1 hv with hv | hv
  · exact usCells_one _ v hv
  · simp only [zeroPv, List.mem_cons, List.not_mem_nil, or_false] at hv
    rcases hv with rfl | rfl | rfl | rfl | rfl <;> rfl
theorem found_one (m : Found) (pv : Value) (h : pv.oneCell' = true) : ∀ v ∈ foundCells m pv, v.oneCell' = true := by
  intro v hv
  unfold foundCells at hv
  rcases List.mem_append.1 hv with hv | hv
  · exact usCells_one _ v hv
  · simp only [List.mem_cons, List.not_mem_nil, or_false] at hv
    rcases hv with rfl | rfl | rfl | rfl | rfl <;> first | rfl | exact h
theorem block_own {β : Type} (b : Nat) (f : β → Array Value) (t : TypeId) : Own (fun (x : β) (X : World) => X.heap[b]? = some (.cells (f x) t (0, 0))) := fun _ _ _ _ hs hg hr => (grownBy_keeps_cells hg hr hs rfl).trans hs
/-- the last seal so far -/
def sealPre (g : Nat → Fr) (e : Int) {m : Nat} (pre : List (Fin m)) : Nat := pre.foldl (fun s x => if (g (1 + x.val)).e = e ∧ (g (1 + x.val)).k = 4 then 1 + x.val else s) 0
theorem sealPre_snoc (g : Nat → Fr) (e : Int) {m : Nat} (pre : List (Fin m)) (x : Fin m) : sealPre g e (pre ++ [x]) = if (g (1 + x.val)).e = e ∧ (g (1 + x.val)).k = 4 then 1 + x.val else sealPre g e pre := by
  simp [sealPre]
theorem sealPre_all (g : Nat → Fr) (e : Int) (m : Nat) : sealPre g e (List.finRange m) = sealedTo g e (1 + m) := by
  have key : ∀ k, k ≤ m → sealPre g e ((List.finRange m).take k) = sealedTo g e (1 + k) := by
    intro k
    induction k with
    | zero => intro _; rfl
    | succ k ih =>
      intro hk
      rw [fin_take m k (by omega), sealPre_snoc, ih (by omega), show 1 + (k + 1) = (1 + k) + 1 by omega]
      show _ = if 1 ≤ 1 + k ∧ (g (1 + k)).e = e ∧ (g (1 + k)).k = 4 then 1 + k else sealedTo g e (1 + k)
      by_cases h : (g (1 + k)).e = e ∧ (g (1 + k)).k = 4
      · rw [if_pos h, if_pos ⟨by omega, h⟩]
      · rw [if_neg h, if_neg (fun h2 => h h2.2)]
  have := key m (Nat.le_refl _)
  rwa [fin_take_all] at this
theorem foundCells_sealed (m : Found) (pv : Value) (s : Nat) (h : m.chain.length = 12) : (foundCells m pv).set 26 (.int .i64 (s : Int)) = foundCells { m with sealed := s } pv := by
  unfold foundCells
  rw [List.set_append_right _ _ (by rw [usCells_length, h]; omega), usCells_length, h]
  rfl
theorem take_ok {g : Nat → Nat → Fr} {per segs : Nat} {c : List Us} (hs12 : segs ≤ 12) (h0 : (newest g per segs).1 ≠ 0) (hl : linkP (g (newest g per segs).2 0) (newest g per segs).2 per segs = some c)
    (hs : sound (g (newest g per segs).2) (newest g per segs).1 1 (sealedTo (g (newest g per segs).2) (newest g per segs).1 per) = none) :
    TakeOk g per segs ⟨c, (newest g per segs).1, (newest g per segs).2, sealedTo (g (newest g per segs).2) (newest g per segs).1 per, false, []⟩ := by
  obtain ⟨h1, h2⟩ := linkP_facts hs12 hl
  refine ⟨newest_seg g per segs h0, fun k hk => ?_, sealed_run hs, by simp⟩
  obtain ⟨_, hke⟩ := (mem_orderL c k).1 hk
  rcases h2 k with e | ⟨a, _, _, _, b, _⟩
  · rw [e] at hke; exact absurd rfl hke
  · exact ⟨a, b⟩
def LookPost (w : World) (r : Found ⊕ Nat) (e : Ending) (w' : World) : Prop := (match r with
  | .inl m => ∃ pv, e = .returned (.tuple #[.agg (foundCells m pv).toArray, .nilIface]) ∧ w'.ownsRow w.heap.size 50 2 pv m.pieces.length (pieceCells m.pieces) ∧ m.chain.length = 12
  | .inr x => ∃ rb, e = .returned (.tuple #[.agg (foundCells Found.no zeroPv).toArray, .iface 69 (.pointer (some ⟨rb, 0, none⟩))]) ∧ w.heap.size ≤ rb ∧ w'.heap[rb]? = some (.cells #[.int .i64 (x : Int)] 73 (0, 0))) ∧ Only (fun _ => False) w w'

set_option maxHeartbeats 8000000 in
theorem look_any (w : World) (gb p kb : Nat) (pv : Value) (d : D) (per segs : Nat) (hG : GAt w gb p kb pv d per segs) :
    Calls Tryd.prog 17 #[.pointer (some ⟨gb, 0, none⟩)] w (LookPost w (look (frAt d per) per segs)) := by
  have hper4 := hG.per4
  have hper64 := hG.per64
  have hs12 := hG.segs12
  have hgl := hG.lt
  have hlk : look (frAt d per) per segs = (let n := newest (frAt d per) per segs
      if n.1 = 0 then .inl Found.no
      else match (if (frAt d per n.2 0).e = n.1 then linkP (frAt d per n.2 0) n.2 per segs else none) with
        | none => .inr (n.2 * per)
        | some c => match soundAll (frAt d per) per c (orderL c) with
          | some x => .inr x
          | none =>
            let s := sealedTo (frAt d per n.2) n.1 per
            match sound (frAt d per n.2) n.1 1 s with
            | some x => .inr (n.2 * per + x)
            | none => .inl (take (frAt d per) per ⟨c, n.1, n.2, s, false, []⟩)) := rfl
  generalize look (frAt d per) per segs = LK at hlk ⊢
  have HLK0 := Lib.hid hlk
  clear hlk
  have hA := Only.alloc w (.cells (foundCells Found.no zeroPv).toArray 64) (fun _ => False)
  have hbF := heap_alloc_any w (.cells (foundCells Found.no zeroPv).toArray 64)
  have hG0 := hG.only hA
  have hs0 : (w.alloc (.cells (foundCells Found.no zeroPv).toArray 64)).heap.size = w.heap.size + 1 := World.size_alloc _ _
  refine (callsIn_wide (n := 6)).1 (callsIn_of_wp_marks (F := Fence.wide) Tryd.func17 rfl trivial ?_ rfl)
  refine wpIn_wide.2 ?_
  simp only [Tryd.ntmps17, List.size_toArray, List.length_cons, List.length_nil, Nat.reduceAdd, Nat.reduceSub, Array.replicate_succ, Array.replicate_zero, List.push_toArray, List.append_toArray, List.nil_append, List.cons_append]
  go_upto_region 1 with fail
  obtain ⟨w0, hw0⟩ : ∃ w0, w0 = w.alloc (.cells (foundCells Found.no zeroPv).toArray 64) := ⟨_, rfl⟩
  rw [← hw0] at hA hbF hG0 hs0
  rw [show w.alloc (.cells #[.int .i64 0, .int .i64 0, .int .i64 0, .int .i64 0, .int .i64 0, .int .i64 0, .int .i64 0, .int .i64 0, .int .i64 0, .int .i64 0, .int .i64 0, .int .i64 0, .int .i64 0, .int .i64 0, .int .i64 0, .int .i64 0, .int .i64 0, .int .i64 0, .int .i64 0, .int .i64 0, .int .i64 0, .int .i64 0, .int .i64 0, .int .i64 0, .int .i64 0, .int .i64 0, .int .i64 0, .bool false, .slice none 0 0] 64) = w0 from hw0.symm]
  clear hw0
  have HS0 := Lib.hid hs0
  have HBF := Lib.hid hbF
  have HA := Lib.hid hA
  clear hs0 hbF hA
  have HN := Lib.hid (newest_any w0 gb p kb pv d per segs hG0)
  have HSEG := Lib.hid (newest_seg (frAt d per) per segs)
  have HTO := Lib.hid (fun c => take_ok (g := frAt d per) (per := per) (segs := segs) (c := c) hs12)
  have hlk := HLK0.out
  clear HLK0
  generalize newest (frAt d per) per segs = NW at HN HSEG hlk HTO
  obtain ⟨e, n⟩ := NW
  simp only at hlk HSEG HTO
  have HLK := Lib.hid hlk
  clear hlk
  go_wp2_with fail
  refine HN.out.mono ?_
  rintro ev w1 ⟨rfl, ho1⟩
  have hG1 := hG0.only ho1
  have HO1 := Lib.hid (HA.out.trans ho1)
  have HB1 := Lib.hid (ho1.keep HBF.out id)
  clear hG0 ho1 HN HBF HA
  go_upto_region 2 with fail
  have hA2 := Only.alloc w1 (.cells #[.int .i64 e] 3) (fun _ => False)
  have hbE := heap_alloc_any w1 (.cells #[.int .i64 e] 3)
  have hs2 : (w1.alloc (.cells #[.int .i64 e] 3)).heap.size = w1.heap.size + 1 := World.size_alloc _ _
  have hG2 := hG1.only hA2
  have HO2 := Lib.hid (HO1.out.trans hA2)
  have HB2 := Lib.hid (hA2.keep HB1.out id)
  have hFE : w.heap.size < w1.heap.size := lt_of_block HB1.out
  generalize w1.alloc (.cells #[.int .i64 e] 3) = w2 at hbE hs2 hG2 HO2 HB2 ⊢
  have hcE : w2.cell? ⟨w1.heap.size, 0, none⟩ = some (.int .i64 e) := cell_at hbE 0
  have HBE := Lib.hid hbE
  have HS2 := Lib.hid hs2
  clear hA2 hs2 hbE hG1 HO1 HB1
  generalize w1.heap.size = E at *
  by_cases he : e = 0
  · have heb : (e == 0) = true := by simp [he]
    have HPOST := Lib.hid (show LK = .inl Found.no by rw [HLK.out, if_pos he])
    clear he HLK HTO HSEG
    go_wp2_with first
      | ((with_reducible refine wpList_store_block w.heap.size 64 (foundCells Found.no zeroPv) (foundCells Found.no zeroPv) ?_ ?_ ?_ ?_ ?_ ?_ ?_); (· exact Tryd.sizeFound); (· exact HB2.out); (· rfl); (· exact found0_one); (· rfl); (· rfl))
    refine ⟨_, results_cell_tmp rfl _ _ w.heap.size 64 (foundCells Found.no zeroPv).toArray (0, 0) _ rfl (setRow_heap _ _ _ _ _ _ HB2.out) Tryd.underlying64 rfl Tryd.sizeFound, ?_⟩
    rw [HPOST.out]
    exact ⟨⟨zeroPv, rfl, ⟨rfl, .inl ⟨rfl, rfl⟩⟩, rfl⟩, HO2.out.trans' (Only.setRow _ _ _ (S := fun x => x = w.heap.size) rfl) (fun y hy e => by have e' : y = w.heap.size := e; omega)⟩
  · have heb : (e == 0) = false := by simp [he]
    have HLK2 := HLK.out
    rw [if_neg he] at HLK2
    have hn := HSEG.out he
    have HTO2 := Lib.hid (fun c => HTO.out c he)
    clear HLK
    have HLK := Lib.hid HLK2
    clear he HTO HSEG HLK2
    have HFR := Lib.hid (fun W (hW : GAt W gb p kb pv d per segs) => frame_any W gb p kb pv d per segs n 0 hW hn (by omega))
    have hfl := frAt_len d per n 0
    generalize frAt d per n 0 = f0 at HFR HLK HTO2 hfl
    go_wp2_with fail
    refine (HFR.out _ hG2).mono ?_
    rintro ev w3 ⟨rfl, ho3⟩
    have hG3 := hG2.only ho3
    have HO3 := Lib.hid (HO2.out.trans ho3)
    have HB3 := Lib.hid (ho3.keep HB2.out id)
    have HE3 := Lib.hid (ho3.keep HBE.out id)
    have hs3 := ho3.size
    clear ho3 HO2 HB2 HBE HFR hG2 hcE heb
    go_upto_region 5 with fail
    have hA4 := Only.alloc w3 (.cells #[.int .i64 f0.e, .int .i64 f0.a, .int .i64 f0.k, .string ⟨f0.s.toArray⟩] 86) (fun _ => False)
    have hbf := heap_alloc_any w3 (.cells #[.int .i64 f0.e, .int .i64 f0.a, .int .i64 f0.k, .string ⟨f0.s.toArray⟩] 86)
    have hG4 := hG3.only hA4
    have HO4 := Lib.hid (HO3.out.trans hA4)
    have HB4 := Lib.hid (hA4.keep HB3.out id)
    have HE4 := Lib.hid (hA4.keep HE3.out id)
    have HS2' := HS2.out
    have hs4 : w3.heap.size < (w3.alloc (.cells #[.int .i64 f0.e, .int .i64 f0.a, .int .i64 f0.k, .string ⟨f0.s.toArray⟩] 86)).heap.size := by rw [World.size_alloc]; omega
    generalize w3.alloc (.cells #[.int .i64 f0.e, .int .i64 f0.a, .int .i64 f0.k, .string ⟨f0.s.toArray⟩] 86) = w4 at hA4 hbf hG4 HO4 HB4 HE4 hs4 ⊢
    obtain ⟨cL, bL, hcl, hlv, hlink⟩ : ∃ (cL : List Us) (bL : Bool), cL.length = 12 ∧ linkV (linkP f0 n per segs) = .tuple #[.agg (usCells cL).toArray, .bool bL] ∧ ((bL = true ∧ linkP f0 n per segs = some cL) ∨ (bL = false ∧ linkP f0 n per segs = none)) := by
      cases hL : linkP f0 n per segs with
      | none => exact ⟨Ch.no, false, rfl, rfl, .inr ⟨rfl, rfl⟩⟩
      | some c => exact ⟨c, true, (linkP_facts hs12 hL).1, rfl, .inl ⟨rfl, rfl⟩⟩
    have hLK := link_any w4 gb f0 n per segs hG4.c1 hG4.c2 hs12 (by omega)
    rw [hlv] at hLK
    have HLA := Lib.hid hLK
    have HLI := Lib.hid hlink
    have HBf := Lib.hid hbf
    have hEw : E < w3.heap.size := by omega
    clear hLK hlv hlink hA4 HO3 HB3 HE3 hbf hs3 HS2'
    generalize w3.heap.size = Bf at *
    go_wp2_with ((with_reducible refine wpList_load_block Bf 86 [.int .i64 f0.e, .int .i64 f0.a, .int .i64 f0.k, .string ⟨f0.s.toArray⟩] ?_ ?_ ?_ ?_ ?_); (· exact ⟨_, Tryd.underlying86, rfl⟩); (· exact Tryd.size23); (· exact HBf.out); (· rfl))
    refine HLA.out.mono ?_
    rintro ev w5 ⟨rfl, ho5⟩
    have hG5 := hG4.only ho5
    have HO5 := Lib.hid (HO4.out.trans ho5)
    have HB5 := Lib.hid (ho5.keep HB4.out id)
    have HE5 := Lib.hid (ho5.keep HE4.out id)
    have HBf5 := Lib.hid (ho5.keep HBf.out id)
    have hs5 := ho5.size
    have hal := heap_alloc_new w5 (.cells (usCells Ch.no).toArray 60)
    have HCL := Lib.hid hcl
    clear ho5 HO4 HB4 HE4 HLA hG4 hG3 HBf hcl
    go_upto_region 6 with ((with_reducible refine wpList_store_block w5.heap.size 60 (usCells cL) (usCells Ch.no) ?_ ?_ ?_ ?_ ?_ ?_ ?_); (· rw [usCells_length, HCL.out]; exact Tryd.sizeChain); (· exact hal); (· rw [usCells_length, usCells_length, HCL.out]; rfl); (· exact usCells_one _); (· rfl); (· rfl))
    have hg6 := setRow_heap _ w5.heap.size _ (usCells cL).toArray _ _ hal
    have hoS := ((Only.alloc w5 (.cells (usCells Ch.no).toArray 60) (fun _ => False)).trans' (Only.setRow (w5.alloc (.cells (usCells Ch.no).toArray 60)) w5.heap.size (usCells cL).toArray (S := fun x => x = w5.heap.size) rfl) (fun y hy e => by omega))
    obtain ⟨w6, hw6⟩ : ∃ w6, w6 = (w5.alloc (.cells (usCells Ch.no).toArray 60)).setRow w5.heap.size (usCells cL).toArray := ⟨_, rfl⟩
    rw [← hw6] at hg6 hoS
    rw [show (w5.alloc (.cells #[.int .i64 0, .int .i64 0, .int .i64 0, .int .i64 0, .int .i64 0, .int .i64 0, .int .i64 0, .int .i64 0, .int .i64 0, .int .i64 0, .int .i64 0, .int .i64 0, .int .i64 0, .int .i64 0, .int .i64 0, .int .i64 0, .int .i64 0, .int .i64 0, .int .i64 0, .int .i64 0, .int .i64 0, .int .i64 0, .int .i64 0, .int .i64 0] 60)).setRow w5.heap.size (usCells cL).toArray = w6 from hw6.symm]
    clear hw6 hal
    have hG6 := hG5.only hoS
    have HO6 := Lib.hid (HO5.out.trans hoS)
    have HB6 := Lib.hid (hoS.keep HB5.out id)
    have HE6 := Lib.hid (hoS.keep HE5.out id)
    have HBf6 := Lib.hid (hoS.keep HBf5.out id)
    have HBc6 := Lib.hid hg6
    have hs6 := lt_of_block hg6
    clear hoS hg6 HO5 HB5 HE5 HBf5 hG5
    generalize w5.heap.size = Bc at *
    have hc0 : w6.cell? ⟨Bf, 0, none⟩ = some (.int .i64 f0.e) := cell_at HBf6.out 0
    have hcE : w6.cell? ⟨E, 0, none⟩ = some (.int .i64 e) := cell_at HE6.out 0
    rcases HLI.out with ⟨rfl, hlink⟩ | ⟨rfl, hlink⟩
    rotate_left
    · have HPOST := Lib.hid (show LK = .inr (n * per) by rw [HLK.out, hlink]; simp only [ite_self])
      clear hlink HLI
      clear HLK hc0 hcE
      have HG6c := hG6.c1
      go_wp2_with fail
      refine (sector_any w6 gb per n 0 HG6c (by omega) (by omega) (by omega)).mono ?_
      rintro ev wv ⟨rfl, rfl⟩
      have hA7 := Only.alloc w6 (.cells #[.int .i64 ((n * per + 0 : Nat) : Int)] 73) (fun _ => False)
      have hb7 := heap_alloc_any w6 (.cells #[.int .i64 ((n * per + 0 : Nat) : Int)] 73)
      have hF7 := hA7.keep HB6.out id
      have hFl := lt_of_block HB6.out
      have HA7 := Lib.hid hA7
      clear HG6c hA7
      generalize hnp : n * per + 0 = np at *
      go_wp2_with ((with_reducible refine wpList_store_block w.heap.size 64 (foundCells Found.no zeroPv) (foundCells Found.no zeroPv) ?_ ?_ ?_ ?_ ?_ ?_ ?_); (· exact Tryd.sizeFound); (· exact hF7); (· rfl); (· exact found0_one); (· rfl); (· rfl))
      refine ⟨_, results_cell_tmp rfl _ _ w.heap.size 64 (foundCells Found.no zeroPv).toArray (0, 0) _ rfl (setRow_heap _ _ _ _ _ _ hF7) Tryd.underlying64 rfl Tryd.sizeFound, ?_⟩
      rw [HPOST.out]
      have hoR := Only.setRow (w6.alloc (.cells #[.int .i64 (np : Int)] 73)) w.heap.size (foundCells Found.no zeroPv).toArray (S := fun x => x = w.heap.size) rfl
      exact ⟨⟨w6.heap.size, rfl, by omega, by rw [show n * per = np by omega]; exact hoR.keep hb7 (fun e => by have e' : w6.heap.size = w.heap.size := e; omega)⟩, (HO6.out.trans HA7.out).trans' hoR (fun y hy e => by have e' : y = w.heap.size := e; omega)⟩
    by_cases hfe : f0.e = e
    rotate_left
    · have HPOST := Lib.hid (show LK = .inr (n * per) by rw [HLK.out, if_neg hfe])
      have hfb : (f0.e != e) = true := by simp [hfe]
      clear hlink HLI hfe
      clear HLK
      have HG6c := hG6.c1
      go_wp2_with fail
      refine (sector_any w6 gb per n 0 HG6c (by omega) (by omega) (by omega)).mono ?_
      rintro ev wv ⟨rfl, rfl⟩
      have hA7 := Only.alloc w6 (.cells #[.int .i64 ((n * per + 0 : Nat) : Int)] 73) (fun _ => False)
      have hb7 := heap_alloc_any w6 (.cells #[.int .i64 ((n * per + 0 : Nat) : Int)] 73)
      have hF7 := hA7.keep HB6.out id
      have hFl := lt_of_block HB6.out
      have HA7 := Lib.hid hA7
      clear HG6c hA7 hc0 hcE hfb
      generalize hnp : n * per + 0 = np at *
      go_wp2_with ((with_reducible refine wpList_store_block w.heap.size 64 (foundCells Found.no zeroPv) (foundCells Found.no zeroPv) ?_ ?_ ?_ ?_ ?_ ?_ ?_); (· exact Tryd.sizeFound); (· exact hF7); (· rfl); (· exact found0_one); (· rfl); (· rfl))
      refine ⟨_, results_cell_tmp rfl _ _ w.heap.size 64 (foundCells Found.no zeroPv).toArray (0, 0) _ rfl (setRow_heap _ _ _ _ _ _ hF7) Tryd.underlying64 rfl Tryd.sizeFound, ?_⟩
      rw [HPOST.out]
      have hoR := Only.setRow (w6.alloc (.cells #[.int .i64 (np : Int)] 73)) w.heap.size (foundCells Found.no zeroPv).toArray (S := fun x => x = w.heap.size) rfl
      exact ⟨⟨w6.heap.size, rfl, by omega, by rw [show n * per = np by omega]; exact hoR.keep hb7 (fun e => by have e' : w6.heap.size = w.heap.size := e; omega)⟩, (HO6.out.trans HA7.out).trans' hoR (fun y hy e => by have e' : y = w.heap.size := e; omega)⟩
    have hfb : (f0.e != e) = false := by simp [hfe]
    have HLK1 := Lib.hid (show LK = (match soundAll (frAt d per) per cL (orderL cL) with
          | some x => .inr x
          | none =>
            match sound (frAt d per n) e 1 (sealedTo (frAt d per n) e per) with
            | some x => .inr (n * per + x)
            | none => .inl (take (frAt d per) per ⟨cL, e, n, sealedTo (frAt d per n) e per, false, []⟩)) by rw [HLK.out, if_pos hfe, hlink])
    have HTOK := Lib.hid (HTO2.out cL hlink)
    have HCF := Lib.hid (linkP_facts hs12 hlink).2
    clear HLK HLI hlink HTO2 hfe
    have hcl := HCL.out
    go_upto_region 9 with first
      | ((with_reducible refine wpList_load_block Bc 60 (usCells cL) ?_ ?_ ?_ ?_ ?_); (· exact ⟨_, Tryd.underlying60, rfl⟩); (· rw [usCells_length, hcl]; exact Tryd.sizeChain); (· exact HBc6.out); (· rfl))
      | ((with_reducible refine wpList_buildN #[(0, .agg (usCells cL).toArray), (1, .int .i64 e), (2, .int .i64 (n : Int))] (.agg (foundCells ⟨cL, e, n, 0, false, []⟩ zeroPv).toArray) ?_ ?_ ?_); (· simp only [List.map_toArray, List.map_cons, List.map_nil]; go_simp); (· exact Tryd.buildFound hcl e n _))
      | ((with_reducible refine wpList_store_block w6.heap.size 64 (foundCells ⟨cL, e, n, 0, false, []⟩ zeroPv) (foundCells Found.no zeroPv) ?_ ?_ ?_ ?_ ?_ ?_ ?_); (· rw [foundCells_length ⟨cL, e, n, 0, false, []⟩ zeroPv hcl]; exact Tryd.sizeFound); (· exact heap_alloc_new w6 (.cells (foundCells Found.no zeroPv).toArray 64)); (· rw [foundCells_length ⟨cL, e, n, 0, false, []⟩ zeroPv hcl]; rfl); (· exact found_one _ _ rfl); (· rfl); (· rfl))
    have hal7 := heap_alloc_new w6 (.cells (foundCells Found.no zeroPv).toArray 64)
    have hg7 := setRow_heap _ w6.heap.size _ (foundCells ⟨cL, e, n, 0, false, []⟩ zeroPv).toArray _ _ hal7
    have hoS7 := ((Only.alloc w6 (.cells (foundCells Found.no zeroPv).toArray 64) (fun _ => False)).trans' (Only.setRow (w6.alloc (.cells (foundCells Found.no zeroPv).toArray 64)) w6.heap.size (foundCells ⟨cL, e, n, 0, false, []⟩ zeroPv).toArray (S := fun x => x = w6.heap.size) rfl) (fun y hy e => by omega))
    obtain ⟨w7, hw7⟩ : ∃ w7, w7 = (w6.alloc (.cells (foundCells Found.no zeroPv).toArray 64)).setRow w6.heap.size (foundCells ⟨cL, e, n, 0, false, []⟩ zeroPv).toArray := ⟨_, rfl⟩
    rw [← hw7] at hg7 hoS7
    rw [show (w6.alloc (.cells #[.int .i64 0, .int .i64 0, .int .i64 0, .int .i64 0, .int .i64 0, .int .i64 0, .int .i64 0, .int .i64 0, .int .i64 0, .int .i64 0, .int .i64 0, .int .i64 0, .int .i64 0, .int .i64 0, .int .i64 0, .int .i64 0, .int .i64 0, .int .i64 0, .int .i64 0, .int .i64 0, .int .i64 0, .int .i64 0, .int .i64 0, .int .i64 0, .int .i64 0, .int .i64 0, .int .i64 0, .bool false, .slice none 0 0] 64)).setRow w6.heap.size (foundCells ⟨cL, e, n, 0, false, []⟩ zeroPv).toArray = w7 from hw7.symm]
    clear hw7 hal7 hc0 hcE hfb
    have hG7 := hG6.only hoS7
    have HO7 := Lib.hid (HO6.out.trans hoS7)
    have HB7 := Lib.hid (hoS7.keep HB6.out id)
    have HE7 := Lib.hid (hoS7.keep HE6.out id)
    have HBc7 := Lib.hid (hoS7.keep HBc6.out id)
    have HM7 := Lib.hid hg7
    have hEM : E < w6.heap.size := lt_of_block HE6.out
    have hs7 := lt_of_block hg7
    clear hoS7 hg7 HO6 HB6 HE6 HBf6 HBc6 hG6
    generalize w6.heap.size = Mb at *
    have hCA : CAt w7 Bc 0 cL := ⟨hcl, fun j x hx => by rw [Nat.zero_add, cell_at HBc7.out, List.getElem?_toArray]; exact hx⟩
    have HORD := Lib.hid (order_any w7 Bc 0 cL hCA)
    have HLL := Lib.hid (show (orderL cL).length ≤ 12 by
      have h1 : (orderL cL).length = (usedL cL).length := (insAll_perm cL _).length_eq
      have := usedTo_le cL cL.length
      rw [hcl] at this
      rw [h1, usedL, hcl]
      exact this)
    have HLM := Lib.hid (fun (k : Nat) (hk : k ∈ orderL cL) => (show k < segs ∧ 1 ≤ (cL.getD k Us.no).c ∧ (cL.getD k Us.no).c ≤ (per : Int) by
      obtain ⟨_, hke⟩ := (mem_orderL cL k).1 hk
      rcases HCF.out k with e | ⟨a, _, _, b, c, _⟩
      · rw [e] at hke; exact absurd rfl hke
      · exact ⟨a, b, c⟩))
    generalize orderL cL = L at HLK1 HORD HLL HLM
    clear hCA
    go_wp2_with fail
    refine HORD.out.mono ?_
    rintro ev w8 ⟨v, rfl, hord, ho8⟩
    obtain ⟨ao, cap, hsl⟩ := sliceOf_own hord
    obtain rfl := hsl.val
    have HROW := Lib.hid hord
    have hG8 := hG7.only ho8
    have HO8 := Lib.hid (HO7.out.trans ho8)
    have HB8 := Lib.hid (ho8.keep HB7.out id)
    have HE8 := Lib.hid (ho8.keep HE7.out id)
    have HBc8 := Lib.hid (ho8.keep HBc7.out id)
    have HM8 := Lib.hid (ho8.keep HM7.out id)
    have hs8 := ho8.size
    clear ho8 hord hsl HORD HO7 HB7 HE7 HBc7 HM7 hG7
    go_wp2_with fail
    go_loopw [55] (fun i wr => ∃ k : Nat, k ≤ L.length ∧ i = .int .i64 (k : Int) ∧ Hid (soundAll (frAt d per) per cL L = soundAll (frAt d per) per cL (L.drop k)) ∧ Only (fun _ => False) w8 wr) (fun i _ => 13 - (intOf i).toNat)
    case atStart => exact ⟨0, by omega, rfl, Lib.hid rfl, Only.refl _ _⟩
    case round =>
      obtain ⟨k, hk, rfl, hsnd, hor⟩ := hrel
      by_cases hkl : k < L.length
      · have hI : (k : Int) < (L.length : Int) := by omega
        have hI0 : (0 : Int) ≤ (k : Int) := by omega
        have hrow := ownsRow_only HROW.out hor (fun _ _ h => h)
        obtain ⟨ao3, cap3, hsl⟩ := sliceOf_own hrow
        obtain ⟨gl, ol, hao, hcl3⟩ := hsl.cell k _ (natVs_get (List.getElem?_eq_getElem hkl))
        have hve := hsl.val
        simp only [Value.slice.injEq] at hve
        obtain ⟨rfl, _, rfl⟩ := hve
        subst hao
        have hdr : L.drop k = L[k] :: L.drop (k + 1) := List.drop_eq_getElem_cons hkl
        obtain ⟨hks, hc1, hc2⟩ := HLM.out _ (List.getElem_mem hkl)
        generalize L[k] = kk at hdr hcl3 hks hc1 hc2
        have hk12 : kk < 12 := by omega
        have hkI : (kk : Int) < 12 := by omega
        have hkI0 : (0 : Int) ≤ (kk : Int) := by omega
        generalize hu : cL.getD kk Us.no = u at hc1 hc2
        obtain ⟨cn, hcn⟩ : ∃ cn : Nat, u.c = (cn : Int) := ⟨u.c.toNat, by omega⟩
        have hsa : soundAll (frAt d per) per cL (L.drop k) = (match sound (frAt d per kk) u.e 0 cn with | some x => some (kk * per + x) | none => soundAll (frAt d per) per cL (L.drop (k + 1))) := by
          rw [hdr, soundAll, hu, hcn, Int.toNat_natCast]
          cases sound (frAt d per kk) u.e 0 cn <;> rfl
        have HSA := Lib.hid hsa
        have hkI3 : k < 12 := by have := HLL.out; omega
        clear hsa hdr hsl hrow
        go_upto_region 12 with fail
        refine wp_mono (Q := OnlyN _) ?_ onlyN_mono
        refine wp_region_pick (fun X => X = wr.drew) [(0, 0), (1, 0), (2, 0), (3, 0), (4, 0), (5, 1), (6, 0), (7, 0), (8, 0), (9, 1), (10, 3), (11, 0)] (by kernel_rfl) (by kernel_rfl) (fun _ _ _ _ _ h => h.elim) rfl ?_
        have hor2 := hor.trans (Only.drew wr _)
        clear hor hcl3
        generalize wr.drew = X1 at hor2 ⊢
        have hGX := hG8.only hor2
        have hCX : CAt X1 Bc 0 cL := ⟨hcl, fun j x hx => by rw [Nat.zero_add, cell_at (hor2.keep HBc8.out id), List.getElem?_toArray]; exact hx⟩
        obtain ⟨q0, q1⟩ := hCX.cells hk12
        rw [hu, Nat.zero_add] at q0 q1
        rw [hcn] at q1
        have HORX := Lib.hid hor2
        clear hCX hor2 hu
        simp only [pickOps, List.getElem?_cons_zero, List.getElem?_cons_succ]
        iterate 10 (first | (refine wpL_pure (a' := ?_) ?_ rfl (fun W => ?_) ?_ ?_; rotate_left 2; (· go_simp; first | (go_bits; with_reducible rfl) | with_reducible rfl); (· simp only [put_some, List.setIfInBounds_toArray, List.set_cons_zero, List.set_cons_succ]; rfl)) | (refine wpL_held (a' := ?_) ?_ rfl (fun W hW => ?_) ?_ ?_; rotate_left 2; (· subst hW; go_simp; first | (go_bits; with_reducible rfl) | with_reducible rfl); (· simp only [put_some, List.setIfInBounds_toArray, List.set_cons_zero, List.set_cons_succ]; rfl)))
        cases hsd : sound (frAt d per kk) u.e 0 cn with
        | none =>
          have HS := Lib.hid (show soundAll (frAt d per) per cL L = soundAll (frAt d per) per cL (L.drop (k + 1)) by rw [hsnd.out, HSA.out, hsd])
          have hsound := sound_any X1 gb p kb pv d per segs kk u.e 0 cn hGX hks (by omega) (by omega)
          rw [hsd] at hsound
          refine wpL_lastCall (f := 32) (args := #[.pointer (some ⟨gb, 0, none⟩), .int .i64 (kk : Int), .int .i64 u.e, .int .i64 0, .int .i64 (cn : Int)]) rfl (by kernel_rfl) (hsound.mono ?_)
          rintro ev Y ⟨rfl, hoY⟩
          refine ⟨_, rfl, ?_⟩
          simp only [put_some, List.setIfInBounds_toArray, List.set_cons_zero, List.set_cons_succ]
          (refine wpL_pure (a' := ?_) ?_ rfl (fun W => ?_) ?_ ?_; rotate_left 2; (· go_simp; first | (go_bits; with_reducible rfl) | with_reducible rfl); (· simp only [put_some, List.setIfInBounds_toArray, List.set_cons_zero, List.set_cons_succ]; rfl))
          refine wpL_nil ?_
          unfold OnlyN
          simp only
          have HOY := Lib.hid (HORX.out.trans hoY)
          clear hsound hoY q0 q1 hsd
          go_wp2_with fail
          exact ⟨⟨k + 1, by omega, rfl, HS, HOY.out⟩, by simp [intOf]; have := HLL.out; omega⟩
        | some x =>
          have HPOST := Lib.hid (show LK = .inr (kk * per + x) by rw [HLK1.out, hsnd.out, HSA.out, hsd])
          have hsound := sound_any X1 gb p kb pv d per segs kk u.e 0 cn hGX hks (by omega) (by omega)
          rw [hsd] at hsound
          refine wpL_lastCall (f := 32) (args := #[.pointer (some ⟨gb, 0, none⟩), .int .i64 (kk : Int), .int .i64 u.e, .int .i64 0, .int .i64 (cn : Int)]) rfl (by kernel_rfl) (hsound.mono ?_)
          rintro ev Y ⟨⟨rb, rfl, hrb, hb9⟩, hoY⟩
          refine ⟨_, rfl, ?_⟩
          simp only [put_some, List.setIfInBounds_toArray, List.set_cons_zero, List.set_cons_succ]
          (refine wpL_pure (a' := ?_) ?_ rfl (fun W => ?_) ?_ ?_; rotate_left 2; (· go_simp; first | (go_bits; with_reducible rfl) | with_reducible rfl); (· simp only [put_some, List.setIfInBounds_toArray, List.set_cons_zero, List.set_cons_succ]; rfl))
          refine wpL_nil ?_
          unfold OnlyN
          simp only
          have HOY := Lib.hid (HO8.out.trans (HORX.out.trans hoY))
          have hF9 := (HORX.out.trans hoY).keep HB8.out id
          have HRB := Lib.hid hb9
          have HRL := Lib.hid (show w.heap.size < rb by have := HORX.out.size; have := HO8.out.size; have := lt_of_block HB8.out; omega)
          clear hsound hoY q0 q1 hsd hb9 hrb
          go_wp2_with ((with_reducible refine wpList_store_block w.heap.size 64 (foundCells Found.no zeroPv) (foundCells Found.no zeroPv) ?_ ?_ ?_ ?_ ?_ ?_ ?_); (· exact Tryd.sizeFound); (· exact hF9); (· rfl); (· exact found0_one); (· rfl); (· rfl))
          refine ⟨_, results_cell_tmp rfl _ _ w.heap.size 64 (foundCells Found.no zeroPv).toArray (0, 0) _ rfl (setRow_heap _ _ _ _ _ _ hF9) Tryd.underlying64 rfl Tryd.sizeFound, ?_⟩
          rw [HPOST.out]
          have hoR := Only.setRow Y w.heap.size (foundCells Found.no zeroPv).toArray (S := fun x => x = w.heap.size) rfl
          exact ⟨⟨rb, rfl, by have := HRL.out; omega, hoR.keep HRB.out (fun e => by have e' : rb = w.heap.size := e; have := HRL.out; omega)⟩, HOY.out.trans' hoR (fun y hy e => by have e' : y = w.heap.size := e; omega)⟩
      · obtain rfl : k = L.length := by omega
        have hI : ¬ (L.length : Int) < (L.length : Int) := by omega
        have HLK3 := Lib.hid (show LK = (match sound (frAt d per n) e 1 (sealedTo (frAt d per n) e per) with
            | some x => .inr (n * per + x)
            | none => .inl (take (frAt d per) per ⟨cL, e, n, sealedTo (frAt d per n) e per, false, []⟩)) by
          rw [HLK1.out, hsnd.out, List.drop_length]; rfl)
        have hGr := hG8.only hor
        have HOr := Lib.hid (HO8.out.trans hor)
        have HBr := Lib.hid (hor.keep HB8.out id)
        have HEr := Lib.hid (hor.keep HE8.out id)
        have HMr := Lib.hid (hor.keep HM8.out id)
        have hsr := hor.size
        have hcp := hGr.c1
        clear hor hsnd HLK1 HO8 HB8 HE8 HM8 HBc8 HROW hG8
        go_wp2_with fail
        refine (frames_any wr gb (n : Int) 1 (per : Int)).mono ?_
        rintro ev W3 ⟨rfl, hW3⟩
        have ho3 := frBoxes_only wr gb (n : Int) 1 (per : Int)
        have hs3 := frBoxes_size wr gb (n : Int) 1 (per : Int)
        obtain ⟨c1, c2, c3, c4⟩ := frBoxes_cells wr gb (n : Int) 1 (per : Int)
        rw [← hW3] at ho3 hs3 c1 c2 c3 c4
        clear hW3
        unfold frFn
        have HS3 := Lib.hid hs3
        clear hs3
        go_wp2_with fail
        have hG3 := hGr.only ho3
        have HM3 := ho3.keep HMr.out id
        have HO3 := Lib.hid (HOr.out.trans ho3)
        have HB3 := Lib.hid (ho3.keep HBr.out id)
        have HE3 := Lib.hid (ho3.keep HEr.out id)
        have hMlt := lt_of_block HMr.out
        have hFlt : w.heap.size < Mb := by have := lt_of_block HB3.out; omega
        have z5 := HS3.out
        have hlowF : GLow Mb gb p kb pv := ⟨by omega, fun b hb => by have := hG.da.fp_lt b hb; omega⟩
        obtain ⟨m', hm'⟩ : ∃ m', per = 1 + m' := ⟨per - 1, by omega⟩
        have HM' := Lib.hid hm'
        have HSA := Lib.hid (sealPre_all (frAt d per n) e m')
        clear hm' ho3 hcp HOr HBr HEr HMr hGr
        refine wpIn_wide.1 (wpIn_rangeFunc_ownH (F := Fence.wide) (n := 6) rfl (by decide) (gf := 53) (lb := #[.pointer (some ⟨wr.heap.size + 2, 0, none⟩), .pointer (some ⟨wr.heap.size + 3, 0, none⟩), .pointer (some ⟨wr.heap.size, 0, none⟩), .pointer (some ⟨wr.heap.size + 1, 0, none⟩)]) rfl trivial (enters_of Tryd.func53 (by kernel_rfl) rfl)
          (frames_stops 5 (by decide) Mb wr.heap.size gb p kb pv d per segs n 1 m' (per : Int) (by have := HM'.out; omega) hlowF hn (by have := HM'.out; omega) W3 (by omega) hG3 c1 c2 c3 c4) kpF_t (kpF_b (by omega)) (Below.refl _ _) (by exact fun _ => rfl)
          (fun pre X => X.heap[Mb]? = some (.cells (foundCells ⟨cL, e, n, sealPre (frAt d per n) e pre, false, []⟩ zeroPv).toArray 64 (0, 0)) ∧ Below Mb W3 X)
          (fun _ _ _ => False)
          (OwnFrom.and (Own.from (block_own Mb (fun pre => (foundCells ⟨cL, e, n, sealPre (frAt d per n) e pre, false, []⟩ zeroPv).toArray) 64) _) (ownFrom_below (by omega) (by omega)))
          (fun _ _ _ _ _ hs _ _ => hs)
          ⟨HM3, Below.refl _ _⟩
          (fun x a' X => ∃ Bx, FrX (frAt d per n (1 + x.val)) Bx X ∧ a' = { tmps := #[.pointer (some ⟨gb, 0, none⟩), undef, .pointer (some ⟨w.heap.size, 0, none⟩), u3, .pointer (some ⟨E, 0, none⟩), .int .i64 (n : Int), .pointer (some ⟨Bf, 0, none⟩), .pointer (some ⟨Bc, 0, none⟩), .bool true, .pointer (some ⟨Mb, 0, none⟩), undef, u11, u12, .int .i64 ((1 + x.val : Nat) : Int), .pointer (some ⟨Bx, 0, none⟩), undef, .tuple #[.int .i64 e, .int .i64 (n : Int)], .pointer (some ⟨gb, 0, none⟩), .tuple #[.int .i64 e, .int .i64 (n : Int)], .int .i64 e, .int .i64 (n : Int), .int .i64 e, .bool false, undef, .pointer (some ⟨gb, 0, none⟩), .int .i64 (n : Int), .agg #[.int .i64 f0.e, .int .i64 f0.a, .int .i64 f0.k, .string ⟨f0.s.toArray⟩], .tuple #[.agg (usCells cL).toArray, .bool true], .pointer (some ⟨gb, 0, none⟩), .agg #[.int .i64 f0.e, .int .i64 f0.a, .int .i64 f0.k, .string ⟨f0.s.toArray⟩], .int .i64 (n : Int), .tuple #[.agg (usCells cL).toArray, .bool true], .agg (usCells cL).toArray, .bool true, .bool true, .bool false, .bool false, .pointer (some ⟨Bf, 0, none⟩), .int .i64 f0.e, .int .i64 e, .bool false, .bool false, undef, undef, undef, undef, undef, undef, undef, .agg (usCells cL).toArray, .int .i64 e, .int .i64 (n : Int), .agg (foundCells ⟨cL, e, n, 0, false, []⟩ zeroPv).toArray, .slice ao L.length cap, .int .i64 (L.length : Int), .int .i64 (L.length : Int), .bool false, u57, u58, u59, u60, u61, u62, u63, u64, u65, u66, u67, u68, u69, u70, u71, u72, u73, u74, .pointer (some ⟨gb, 0, none⟩), .int .i64 (n : Int), .pointer (some ⟨gb, 0, none⟩), .pointer (some ⟨gb, 0, none⟩), .pointer (some ⟨gb, 1, none⟩), .int .i64 (per : Int), .func (.func 53) #[] #[.pointer (some ⟨wr.heap.size + 2, 0, none⟩), .pointer (some ⟨wr.heap.size + 3, 0, none⟩), .pointer (some ⟨wr.heap.size, 0, none⟩), .pointer (some ⟨wr.heap.size + 1, 0, none⟩)], .int .i64 ((1 + x.val : Nat) : Int), .agg #[.int .i64 (frAt d per n (1 + x.val)).e, .int .i64 (frAt d per n (1 + x.val)).a, .int .i64 (frAt d per n (1 + x.val)).k, .string ⟨(frAt d per n (1 + x.val)).s.toArray⟩], undef, undef, undef, undef, undef, undef, undef, undef, undef, undef, undef, undef, undef, undef, undef, undef, undef, undef, undef, undef, undef, undef, undef, undef], defers := [] })
          (fun x a' _ X Y row hs hg hr => by obtain ⟨Bx, h2, h3⟩ := hs; exact ⟨Bx, (grownBy_keeps_cells hg (fun r e => (hr r e).2) h2 rfl).trans h2, h3⟩)
          ?assign ?body ?done ?stop)
        case assign =>
          rintro l pre x X K ⟨hM, hB⟩ hK
          unfold frEnc
          generalize ((1 + x.val : Nat) : Int) = z at hK ⊢
          generalize frAt d per n (1 + x.val) = f at hK ⊢
          clear c1 c2 c3 c4 z5
          gi_wp2
          have hal := World.alloc_heap_new X (.cells #[.int .i64 f.e, .int .i64 f.a, .int .i64 f.k, .string ⟨f.s.toArray⟩] 86)
          have hZ3 := HS3.out
          have hBs := hB.size
          exact hK _ _ ((KeepsOthers.alloc _ _).from _) (kpF_only (by omega) (Only.alloc _ _ _)) ⟨(Only.alloc X _ (fun _ => False)).keep hM id, hB.alloc (by omega) _⟩ ⟨X.heap.size, hal, rfl⟩
        case body =>
          rintro l pre x a' X hl ⟨r, hr⟩ ⟨hM, hB⟩ ⟨Bx, hX, rfl⟩ hlt'
          dsimp only
          have hBs := hB.size
          have hsn := sealPre_snoc (frAt d per n) e pre x
          have hE : X.cell? ⟨E, 0, none⟩ = some (.int .i64 e) := cell_at ((hB.block E (by omega)).trans HE3.out) 0
          generalize sealPre (frAt d per n) e pre = q at hsn hM
          generalize hf : frAt d per n (1 + x.val) = f at hX hsn
          have f0' : X.cell? ⟨Bx, 0, none⟩ = some (.int .i64 f.e) := cell_at hX 0
          have f2' : X.cell? ⟨Bx, 2, none⟩ = some (.int .i64 f.k) := cell_at hX 2
          have m26 : X.cell? ⟨Mb, 26, none⟩ = some (.int .i64 (q : Int)) := by
            rw [cell_at hM, List.getElem?_toArray, foundCells, List.getElem?_append_right (by rw [usCells_length, HCL.out]; omega), usCells_length, HCL.out]; rfl
          have m26f : X.frozen? ⟨Mb, 26, none⟩ = false := free_at hM 26
          have HSN := Lib.hid hsn
          have HMM := Lib.hid hM
          clear c1 c2 c3 c4 z5 hsn hM hf
          obtain ⟨z, hz⟩ : ∃ z : Nat, z = 1 + x.val := ⟨_, rfl⟩
          rw [← hz] at HSN ⊢
          have HZZ := Lib.hid hz
          clear hz
          have hnoop : KeepsFrom X.heap.size X X := KeepsFrom.refl _ _
          by_cases he' : f.e = e
          · have heb' : (f.e == e) = true := by simp [he']
            by_cases hk' : f.k = 4
            · have hkb' : (f.k == 4) = true := by simp [hk']
              have HQ := Lib.hid (show sealPre (frAt d per n) e (pre ++ [x]) = z by rw [HSN.out, if_pos ⟨he', hk'⟩])
              clear he' hk'
              have o1 := Only.setCell (S := fun k => k = Mb) X Mb 26 (.int .i64 (z : Int)) rfl
              have hset := heap_setCell_same X Mb 26 _ _ (.int .i64 (z : Int)) HMM.out
              rw [List.setIfInBounds_toArray, foundCells_sealed _ _ _ HCL.out] at hset
              have HOS := Lib.hid o1
              have HSET := Lib.hid hset
              clear o1 hset
              gi_wp2
              have hbl : Below Mb X (X.setCell ⟨Mb, 26, none⟩ (.int .i64 (z : Int))) := HOS.out.belowOf (by have := HS3.out; omega) (fun k hk e => by have e' : k = Mb := e; omega)
              exact ⟨(KeepsOthers.setCell X _ _).from _, ⟨hbl, fun b v hb1 _ hv => by rw [HOS.out.cell (World.block_lt_of_cell? _ _ hv) (fun e => by have e' : b = Mb := e; omega)]; exact hv⟩, ⟨by rw [HQ.out]; exact HSET.out, hB.trans hbl⟩⟩
            · have hkb' : (f.k == 4) = false := by simp [hk']
              have HQ := Lib.hid (show sealPre (frAt d per n) e (pre ++ [x]) = q by rw [HSN.out, if_neg (fun h => hk' h.2)])
              clear he' hk'
              gi_wp2
              exact ⟨KeepsFrom.refl _ _, ⟨Below.refl _ _, fun _ _ _ _ h => h⟩, ⟨by rw [HQ.out]; exact HMM.out, hB⟩⟩
          · have heb' : (f.e == e) = false := by simp [he']
            have HQ := Lib.hid (show sealPre (frAt d per n) e (pre ++ [x]) = q by rw [HSN.out, if_neg (fun h => he' h.1)])
            clear he'
            gi_wp2
            exact ⟨KeepsFrom.refl _ _, ⟨Below.refl _ _, fun _ _ _ _ h => h⟩, ⟨by rw [HQ.out]; exact HMM.out, hB⟩⟩
        case done =>
          rintro D ys X hD rfl ⟨hM, hB⟩ hK
          rw [HSA.out, ← HM'.out] at hM
          have hBs := hB.size
          have hoX : Only (fun _ => False) w X := Only.of_below ((HO3.out.below (fun _ _ => id)).trans (hB.mono (by omega))) _
          have hGX := hG3.below hlowF hB
          have HFX := Lib.hid ((hB.block w.heap.size (by omega)).trans HB3.out)
          have hEX : X.cell? ⟨E, 0, none⟩ = some (.int .i64 e) := cell_at ((hB.block E (by omega)).trans HE3.out) 0
          obtain ⟨sl, hsl⟩ : ∃ sl, sl = sealedTo (frAt d per n) e per := ⟨_, rfl⟩
          have hslp : sl < per := by
            rw [hsl]
            rcases sealed_facts (frAt d per n) e per with h | ⟨_, h, _⟩
            · rw [h]; omega
            · exact h
          rw [← hsl] at hM HLK3 HTOK
          have m26 : X.cell? ⟨Mb, 26, none⟩ = some (.int .i64 (sl : Int)) := by
            rw [cell_at hM, List.getElem?_toArray, foundCells, List.getElem?_append_right (by rw [usCells_length, HCL.out]; omega), usCells_length, HCL.out]; rfl
          have HOX := Lib.hid hoX
          have HMX := Lib.hid hM
          have HMK : Marks [D] X := (Marks.nil X).cons (B := 0) (fun x h => by cases h) (Nat.zero_le _) hK
          have hXs : w.heap.size < X.heap.size := by have := HO3.out.size; have := HS3.out; omega
          have HDL : Hid (∀ r ∈ [D], w.heap.size ≤ r) := Lib.hid (fun r hr => by
            obtain rfl := List.mem_singleton.1 hr
            have := HO3.out.size; omega)
          have hsound := Lib.hid (sound_any X gb p kb pv d per segs n e 1 sl hGX hn (by omega) (Nat.le_refl _))
          clear c1 c2 c3 c4 z5 hM hoX hsl hK
          go_wp2_with fail
          cases hsd : sound (frAt d per n) e 1 sl with
          | some x =>
            have HPOST := Lib.hid (show LK = .inr (n * per + x) by rw [HLK3.out, hsd])
            rw [hsd] at hsound
            clear hsd HLK3 HTOK
            refine hsound.out.mono ?_
            rintro ev Y ⟨⟨rb, rfl, hrb, hb9⟩, hoY⟩
            have hF9 := hoY.keep HFX.out id
            have HRB := Lib.hid hb9
            have HRL := Lib.hid hrb
            have HOY := Lib.hid (HOX.out.trans hoY)
            have HMY := HMK.only hoY
            clear hb9 hrb hoY hsound m26 hEX hGX
            go_wp2_with ((with_reducible refine wpList_store_block w.heap.size 64 (foundCells Found.no zeroPv) (foundCells Found.no zeroPv) ?_ ?_ ?_ ?_ ?_ ?_ ?_); (· exact Tryd.sizeFound); (· exact hF9); (· rfl); (· exact found0_one); (· rfl); (· rfl))
            have hoR := Only.setRow Y w.heap.size (foundCells Found.no zeroPv).toArray (S := fun x => x = w.heap.size) rfl
            have hsr9 := setRow_heap _ w.heap.size _ (foundCells Found.no zeroPv).toArray _ _ hF9
            refine leaves_marks [D] (Y.setRow w.heap.size (foundCells Found.no zeroPv).toArray) (HMY.keeps (keepsOthers_one hoR hF9)) HDL.out fun w' hl => ?_
            refine ⟨_, results_cell_tmp rfl _ _ w.heap.size 64 (foundCells Found.no zeroPv).toArray (0, 0) _ rfl (hl.cells _ _ _ _ hsr9) Tryd.underlying64 rfl Tryd.sizeFound, ?_⟩
            rw [HPOST.out]
            have hrn : rb ≠ w.heap.size := by have := HRL.out; omega
            exact ⟨⟨rb, rfl, by have := HRL.out; omega, hl.cells _ _ _ _ (hoR.keep HRB.out (fun e => hrn e))⟩, (HOY.out.trans' hoR (fun y hy e => by have e' : y = w.heap.size := e; omega)).trans' (only_of_below hl.below) (fun y hy e => by have e' : w.heap.size ≤ y := e; omega)⟩
          | none =>
            have HPOST := Lib.hid (show LK = .inl (take (frAt d per) per ⟨cL, e, n, sl, false, []⟩) by rw [HLK3.out, hsd])
            have hT := HTOK.out hsd
            rw [hsd] at hsound
            clear hsd HLK3 HTOK
            refine hsound.out.mono ?_
            rintro ev Y ⟨rfl, hoY⟩
            have hGY := hGX.only hoY
            have hFY : FAt Y Mb (Y.heap.size + 1) ⟨cL, e, n, sl, false, []⟩ zeroPv := ⟨HCL.out, hoY.keep HMX.out id, rfl, .inl ⟨rfl, rfl⟩⟩
            have HFY := Lib.hid (hoY.keep HFX.out id)
            have HOY := Lib.hid (HOX.out.trans hoY)
            have HMY := HMK.only hoY
            have HMYB := Lib.hid (hoY.keep HMX.out id)
            have hTK := take_any Y gb p kb pv d per segs Mb _ zeroPv hGY hFY hT (by omega) (fun b hb e => by have := hG.da.fp_lt b hb; omega)
            generalize take (frAt d per) per ⟨cL, e, n, sl, false, []⟩ = TK at hTK HPOST
            have HTK := Lib.hid hTK
            have hYs := hoY.size
            clear hoY hsound m26 hEX hGX hTK hFY hGY hT
            go_wp2_with fail
            refine HTK.out.mono ?_
            rintro ev Z ⟨rfl, ⟨pf', hFZ⟩, hoZ⟩
            have hlen := hFZ.len
            have hhd := hFZ.head
            have hFF := hoZ.keep HFY.out (fun e => by have e' : w.heap.size = Mb := e; omega)
            have HMZ := HMY.keeps (keepsOthers_one hoZ HMYB.out)
            have HFZ := Lib.hid hFZ
            have HOZ := Lib.hid hoZ
            clear hFZ hoZ HTK
            go_wp2_with first
              | ((with_reducible refine wpList_load_block Mb 64 (foundCells TK pf') ?_ ?_ ?_ ?_ ?_); (· exact ⟨_, Tryd.underlying64, rfl⟩); (· rw [foundCells_length TK pf' hlen]; exact Tryd.sizeFound); (· exact hhd); (· rfl))
              | ((with_reducible refine wpList_store_block w.heap.size 64 (foundCells TK pf') (foundCells Found.no zeroPv) ?_ ?_ ?_ ?_ ?_ ?_ ?_); (· rw [foundCells_length TK pf' hlen]; exact Tryd.sizeFound); (· exact hFF); (· rw [foundCells_length TK pf' hlen]; rfl); (· exact found_one _ _ (slice_cells HFZ.out.row).2); (· rfl); (· rfl))
            have hoR := Only.setRow Z w.heap.size (foundCells TK pf').toArray (S := fun x => x = w.heap.size) rfl
            have hsr9 := setRow_heap _ w.heap.size _ (foundCells TK pf').toArray _ _ hFF
            refine leaves_marks [D] (Z.setRow w.heap.size (foundCells TK pf').toArray) (HMZ.keeps (keepsOthers_one hoR hFF)) HDL.out fun w' hl => ?_
            refine ⟨_, results_cell_tmp rfl _ _ w.heap.size 64 (foundCells TK pf').toArray (0, 0) _ rfl (hl.cells _ _ _ _ hsr9) Tryd.underlying64 rfl (by rw [List.size_toArray, foundCells_length TK pf' hlen]; exact Tryd.sizeFound), ?_⟩
            rw [HPOST.out]
            have hrow := ownsRow_only HFZ.out.row hoR (fun x hx e => by have := ownBlock_ge HFZ.out.row hx; have e' : x = w.heap.size := e; omega)
            refine ⟨⟨pf', rfl, ownsRow_down (b := Y.heap.size + 1) ⟨hrow.1, ?_⟩ (by omega), hlen⟩, ((HOY.out.trans' HOZ.out (fun y hy e => by have e' : y = Mb := e; omega)).trans' hoR (fun y hy e => by have e' : y = w.heap.size := e; omega)).trans' (only_of_below hl.below) (fun y hy e => by have e' : w.heap.size ≤ y := e; omega)⟩
            rcases hrow.2 with h | ⟨g, c2, cur, e, hg, hc, r⟩
            · exact .inl h
            · exact .inr ⟨g, c2, cur, e, hg, hl.cells _ _ _ _ hc, r⟩
        case stop =>
          rintro D c pre X hD _ h
          exact h.elim
end Go.Proofs.YtlgefjcfnnjkbaaDoor
