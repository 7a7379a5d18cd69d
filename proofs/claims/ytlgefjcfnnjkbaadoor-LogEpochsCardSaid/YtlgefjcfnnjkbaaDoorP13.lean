/- Parts of the proof, one behind the other: LogT. Each part's own words say what it proves; no conditions. -/
import Derived.Test.YtlgefjcfnnjkbaaDoorP12
set_option linter.unusedVariables false
set_option linter.unusedSimpArgs false
set_option linter.unusedSectionVars false
/- What is taken off a segment's frames. No conditions. -/
namespace Go.Proofs.YtlgefjcfnnjkbaaDoor
set_option maxRecDepth 100000
open Go.RowKit Go.Shelf
attribute [local go_sem] Oper.semAt_some

theorem GAt.onlyS {w w' : World} {gb p kb : Nat} {pv : Value} {d : D} {per segs : Nat} {S : Nat → Prop} (h : GAt w gb p kb pv d per segs) (ho : Only S w w') (hg : ¬ S gb) (hf : ∀ b, fp p kb pv b → ¬ S b) : GAt w' gb p kb pv d per segs :=
  ⟨by rw [ho.cell (World.block_lt_of_cell? _ _ h.c0) hg]; exact h.c0, by rw [ho.cell (World.block_lt_of_cell? _ _ h.c1) hg]; exact h.c1, by rw [ho.cell (World.block_lt_of_cell? _ _ h.c2) hg]; exact h.c2, h.da.only ho hf, h.per4, h.per64, h.segs12, h.room⟩

theorem FAt.c24 {w : World} {mb base : Nat} {m : Found} {pv : Value} (h : FAt w mb base m pv) : w.cell? ⟨mb, 24, none⟩ = some (.int .i64 m.epoch) := by
  rw [cell_at h.head, List.getElem?_toArray, foundCells, List.getElem?_append_right (by rw [usCells_length, h.len]; omega), usCells_length, h.len]; rfl
theorem FAt.c25 {w : World} {mb base : Nat} {m : Found} {pv : Value} (h : FAt w mb base m pv) : w.cell? ⟨mb, 25, none⟩ = some (.int .i64 (m.seg : Int)) := by
  rw [cell_at h.head, List.getElem?_toArray, foundCells, List.getElem?_append_right (by rw [usCells_length, h.len]; omega), usCells_length, h.len]; rfl
theorem FAt.c26 {w : World} {mb base : Nat} {m : Found} {pv : Value} (h : FAt w mb base m pv) : w.cell? ⟨mb, 26, none⟩ = some (.int .i64 (m.sealed : Int)) := by
  rw [cell_at h.head, List.getElem?_toArray, foundCells, List.getElem?_append_right (by rw [usCells_length, h.len]; omega), usCells_length, h.len]; rfl
theorem frAt_len (d : D) (per seg a : Nat) : (frAt d per seg a).s.length ≤ 53 := by
  unfold frAt
  rcases frOf_cases (d.there (seg * per + a)) a with ⟨f, hr, _, he⟩ | ⟨f, hr, _, he⟩ | ⟨hr, he⟩
  · rw [he]
    obtain ⟨_, h, _⟩ := readF_some hr
    obtain ⟨h1, h2, h3, h4, h5, h6, h7⟩ := f.right_iff.1 h
    omega
  · rw [he]; simp [zeroFr]
  · rw [he]; simp [zeroFr]
theorem run_out_le : ∀ (l : List Fr) (j : Js), (j.run l).out.length ≤ j.out.length + l.length := by
  intro l
  induction l with
  | nil => intro j; exact Nat.le_refl _
  | cons f l ih =>
    intro j
    unfold Js.run
    cases hj : j.step f with
    | none => simp
    | some j' =>
      have h1 : j'.out.length ≤ j.out.length + 1 := by
        unfold Js.step at hj
        split at hj
        · cases hj
        · split at hj
          · cases hj; simp
          · split at hj
            · cases hj; simp
            · split at hj
              · cases hj
              · cases hj; simp
      have := ih j'
      simp only [List.length_cons]
      omega
theorem joinF_le (l : List Fr) : (joinF l).1.length ≤ l.length := by
  have := run_out_le l Js.new
  simpa [joinF, Js.new] using this
theorem oldPieces_le (g : Nat → Nat → Fr) (c : List Us) (per : Nat) : ∀ l : List Nat, (∀ k ∈ l, (c.getD k Us.no).c ≤ (per : Int)) → (oldPieces g c l).length ≤ l.length * per
  | [], _ => by simp [oldPieces]
  | k :: l, h => by
    have ih := oldPieces_le g c per l (fun x hx => h x (by simp [hx]))
    have h1 : (piecesOf (c.getD k Us.no).e (frames (g k) 1 (c.getD k Us.no).c.toNat)).length ≤ per := by
      have h2 := joinF_le (frames (g k) 1 (c.getD k Us.no).c.toNat)
      have h3 := h k (by simp)
      have h4 : (frames (g k) 1 (c.getD k Us.no).c.toNat).length = (c.getD k Us.no).c.toNat - 1 := by simp [frames]
      rw [h4] at h2
      unfold piecesOf
      rw [List.length_map]
      omega
    have h5 : oldPieces g c (k :: l) = piecesOf (c.getD k Us.no).e (frames (g k) 1 (c.getD k Us.no).c.toNat) ++ oldPieces g c l := by simp [oldPieces]
    rw [h5, List.length_append, List.length_cons, Nat.add_mul, Nat.one_mul]
    omega
theorem fin_frames (g : Nat → Fr) (c : Int) (m' : Nat) (h : c = 1 + (m' : Int) ∨ (m' = 0 ∧ c ≤ 1)) : ((List.finRange m').map fun x => g (1 + x.val)) = frames g 1 c.toNat := by
  have : c.toNat - 1 = m' := by omega
  unfold frames
  rw [this]
  apply List.ext_getElem
  · simp
  · intro i h1 h2
    simp
def goodF (e : Int) (f : Fr) : Bool := decide (f.e = e) && decide (f.k ≠ 1)
theorem run_frames (g : Nat → Fr) (e : Int) (per m' : Nat) (h : per = 1 + m') : runOf g e 1 per = ((List.finRange m').map fun x => g (1 + x.val)).takeWhile (goodF e) := by
  rw [fin_frames g (per : Int) m' (.inl (by omega)), Int.toNat_natCast]; rfl
theorem run_done (g : Nat → Fr) (e : Int) (per m' : Nat) (h : per = 1 + m') (hg : ∀ x ∈ List.finRange m', goodF e (g (1 + x.val)) = true) : runOf g e 1 per = (List.finRange m').map fun x => g (1 + x.val) := by
  rw [run_frames g e per m' h]
  have key : ∀ l : List Fr, (∀ f ∈ l, goodF e f = true) → l.takeWhile (goodF e) = l := by
    intro l
    induction l with
    | nil => intro _; rfl
    | cons f l ih =>
      intro hl
      rw [List.takeWhile_cons, hl f (by simp), if_pos rfl, ih (fun y hy => hl y (by simp [hy]))]
  refine key _ fun f hf => ?_
  obtain ⟨x, hx, rfl⟩ := List.mem_map.1 hf
  exact hg x hx
theorem run_stop (g : Nat → Fr) (e : Int) (per m' : Nat) (h : per = 1 + m') (pre : List (Fin m')) (x : Fin m') (hp : pre ++ [x] <+: List.finRange m') (hg : ∀ y ∈ pre, goodF e (g (1 + y.val)) = true) (hx : goodF e (g (1 + x.val)) = false) :
    runOf g e 1 per = pre.map fun x => g (1 + x.val) := by
  rw [run_frames g e per m' h]
  obtain ⟨r, hr⟩ := hp
  rw [← hr, List.map_append, List.map_append, List.append_assoc, List.takeWhile_append_of_pos]
  · simp [hx]
  · intro f hf
    obtain ⟨y, hy, rfl⟩ := List.mem_map.1 hf
    exact hg y hy
structure TakeOk (g : Nat → Nat → Fr) (per segs : Nat) (m : Found) : Prop where
  seg : m.seg < segs
  ord : ∀ k ∈ orderL m.chain, k < segs ∧ (m.chain.getD k Us.no).c ≤ (per : Int)
  sealed : m.sealed ≤ (runOf (g m.seg) m.epoch 1 per).length
  few : m.pieces.length ≤ 1000

theorem own_cap {w : World} {b : Nat} {e : TypeId} {size : Nat} {ao : Option Addr} {n cap : Nat} {xs : List Value} (h : w.ownsRow b e size (.slice ao n cap) n xs) : n ≤ cap ∧ cap ≤ maxLen := by
  rcases h.2 with ⟨e, h0⟩ | ⟨g, c2, cur, e, _, _, h1, h2, _⟩
  · simp only [Value.slice.injEq] at e; obtain ⟨_, _, rfl⟩ := e; rw [h0]; exact ⟨Nat.le_refl _, by unfold maxLen; omega⟩
  · simp only [Value.slice.injEq] at e; obtain ⟨_, _, rfl⟩ := e; exact ⟨h1, h2⟩
theorem keepsOthers_one {X Y : World} {b : Nat} {c : Array Value} {t : TypeId} {f : Nat × Nat} (ho : Only (fun k => k = b) X Y) (hb : X.heap[b]? = some (.cells c t f)) : KeepsOthers X Y :=
  ⟨ho.size, fun k o hk hc => ho.keep hk (fun e => by
    have e' : k = b := e
    subst e'; rw [hb] at hk; cases hk; cases hc)⟩
theorem foundCells_chain (m : Found) (pv : Value) (h : m.chain.length = 12) {k : Nat} (u : Us) (hk : k < 12) : laid (foundCells m pv) (k * 2) [.int .i64 u.e, .int .i64 u.c] = foundCells { m with chain := m.chain.set k u } pv := by
  have h1 := laid_usCells m.chain k u (by omega)
  have hl : (usCells m.chain).length = 24 := by rw [usCells_length, h]
  unfold foundCells
  simp only
  rw [← h1]
  unfold laid
  simp only [List.length_cons, List.length_nil]
  rw [List.take_append_of_le_length (by omega), List.drop_append_of_le_length (by omega)]
  simp only [List.append_assoc, List.cons_append, List.nil_append]
theorem foundCells_length (m : Found) (pv : Value) (h : m.chain.length = 12) : (foundCells m pv).length = 29 := by
  unfold foundCells
  rw [List.length_append, usCells_length, h]; rfl
theorem run_whole_le : ∀ (l : List Fr) (j : Js), (j.run l).whole ≤ max j.whole (j.i + l.length) := by
  intro l
  induction l with
  | nil => intro j; simp [Js.run]; omega
  | cons f l ih =>
    intro j
    unfold Js.run
    cases hj : j.step f with
    | none => simp; omega
    | some j' =>
      have h1 : j'.i = j.i + 1 ∧ (j'.whole = j.whole ∨ j'.whole = j.i + 1) := by
        unfold Js.step at hj
        split at hj
        · cases hj
        · split at hj
          · cases hj; simp
          · split at hj
            · cases hj; simp
            · split at hj
              · cases hj
              · cases hj; simp
      have := ih j'
      simp only [List.length_cons]
      omega
theorem joinF_snd_le (l : List Fr) : (joinF l).2 ≤ l.length := by
  have := run_whole_le l Js.new
  simpa [joinF, Js.new] using this
theorem SliceOf.frontF {w : World} {v : Value} {l : List Fr} {ao : Option Addr} {cap s : Nat} (h : SliceOf w v l.length (frs l) ao cap) (hs : s ≤ l.length) : SliceOf w (.slice ao s cap) (l.take s).length (frs (l.take s)) ao cap :=
  ⟨by rw [List.length_take, Nat.min_eq_left hs], by rw [List.length_take]; have := h.len; omega, fun j x hx => h.cell j x (by
    have e : frs l = frs (l.take s) ++ frs (l.drop s) := by rw [← frs_append, List.take_append_drop]
    rw [e, List.getElem?_append_left (List.getElem?_eq_some_iff.1 hx).1]
    exact hx)⟩
theorem FAt.c27 {w : World} {mb base : Nat} {m : Found} {pv : Value} (h : FAt w mb base m pv) : w.cell? ⟨mb, 27, none⟩ = some (.bool m.loose) := by
  rw [cell_at h.head, List.getElem?_toArray, foundCells, List.getElem?_append_right (by rw [usCells_length, h.len]; omega), usCells_length, h.len]; rfl
theorem foundCells_loose (m : Found) (pv : Value) (b : Bool) (h : m.chain.length = 12) : (foundCells m pv).set 27 (.bool b) = foundCells { m with loose := b } pv := by
  unfold foundCells
  rw [List.set_append_right _ _ (by rw [usCells_length, h]; omega), usCells_length, h]
  rfl

set_option maxHeartbeats 8000000 in
theorem take_any (w : World) (gb p kb : Nat) (pv : Value) (d : D) (per segs mb : Nat) (m : Found) (pf : Value) (hG : GAt w gb p kb pv d per segs) (hF : FAt w mb (w.heap.size + 1) m pf) (hT : TakeOk (frAt d per) per segs m) (hgm : gb ≠ mb) (hfm : ∀ b, fp p kb pv b → b ≠ mb) :
    Calls Tryd.prog 34 #[.pointer (some ⟨gb, 0, none⟩), .pointer (some ⟨mb, 0, none⟩)] w fun e w' => e = .returned (.tuple #[]) ∧ (∃ pf', FAt w' mb (w.heap.size + 1) (take (frAt d per) per m) pf') ∧ Only (fun k => k = mb) w w' := by
  have hper4 := hG.per4
  have hper64 := hG.per64
  have hs12 := hG.segs12
  have hgl := hG.lt
  have hml := lt_of_block hF.head
  have hA := Only.alloc w (.cells #[.pointer (some ⟨mb, 0, none⟩)] 96) (fun _ => False)
  have hbx := heap_alloc_any w (.cells #[.pointer (some ⟨mb, 0, none⟩)] 96)
  have hG0 := hG.only hA
  have hF0 := hF.only hA
  have hs0 : (w.alloc (.cells #[.pointer (some ⟨mb, 0, none⟩)] 96)).heap.size = w.heap.size + 1 := World.size_alloc _ _
  refine (callsIn_wide (n := 8)).1 (callsIn_of_wp_marks (F := Fence.wide) Tryd.func34 rfl trivial ?_ rfl)
  refine wpIn_wide.2 ?_
  simp only [Tryd.ntmps34, List.size_toArray, List.length_cons, List.length_nil, Nat.reduceAdd, Nat.reduceSub, Array.replicate_succ, Array.replicate_zero, List.push_toArray, List.append_toArray, List.nil_append, List.cons_append]
  have HS0 := Lib.hid hs0
  clear hs0
  go_upto_region 1 with fail
  generalize w.alloc (.cells #[.pointer (some ⟨mb, 0, none⟩)] 96) = w0 at hA hbx hG0 hF0 HS0 ⊢
  have hcx : w0.cell? ⟨w.heap.size, 0, none⟩ = some (.pointer (some ⟨mb, 0, none⟩)) := cell_at hbx 0
  have hCA : CAt w0 mb 0 m.chain := ⟨hF0.len, fun j x hx => by
    rw [Nat.zero_add, cell_at hF0.head, List.getElem?_toArray, foundCells, List.getElem?_append_left (List.getElem?_eq_some_iff.1 hx).1]; exact hx⟩
  have HORD := Lib.hid (order_any w0 mb 0 m.chain hCA)
  clear hCA
  go_step3
  go_wp2_with fail
  refine HORD.out.mono ?_
  rintro ev w1 ⟨v, rfl, hord, ho1⟩
  obtain ⟨ao, cap, hsl⟩ := sliceOf_own hord
  obtain rfl := hsl.val
  have hF1 := hF0.only ho1
  have hbx1 := ho1.keep hbx id
  have hO1 : Only (fun k => k = mb) w w1 := (hA.trans ho1).mono (fun _ _ h => h.elim)
  have HNS := Lib.hid (show (orderL m.chain).length ≤ 12 by
    have h1 : (orderL m.chain).length = (usedL m.chain).length := (insAll_perm m.chain _).length_eq
    have := usedTo_le m.chain m.chain.length
    rw [hF.len] at this
    rw [h1, usedL, hF.len]
    exact this)
  clear HORD hsl hF0 hG0 hA hcx hbx
  go_wp2_with fail
  refine wp_loop (fun a W => ∃ (q : Nat) (Ds : List Nat) (pf' : Value) (u6 u7 u8 u9 u10 u25 u26 u27 u28 u29 u30 u31 u32 u33 u34 u35 u36 u37 u38 u39 u40 u41 u42 u43 u44 u45 u46 u47 u48 u49 u50 : Value), q ≤ (orderL m.chain).length ∧ Hid (FAt W mb (w.heap.size + 1) { m with pieces := m.pieces ++ oldPieces (frAt d per) m.chain ((orderL m.chain).take q) } pf') ∧ Marks Ds W ∧ (∀ r ∈ Ds, w.heap.size ≤ r) ∧
      Hid (W.heap[w.heap.size]? = some (.cells #[.pointer (some ⟨mb, 0, none⟩)] 96 (0, 0))) ∧ Hid (W.ownsRow w0.heap.size 3 1 (.slice ao (orderL m.chain).length cap) (orderL m.chain).length (natVs (orderL m.chain))) ∧ Only (fun k => k = mb) w W ∧
      a = { tmps := #[.pointer (some ⟨gb, 0, none⟩), .pointer (some ⟨mb, 0, none⟩), undef, .pointer (some ⟨w.heap.size, 0, none⟩), .func (.func 54) #[] #[.pointer (some ⟨w.heap.size, 0, none⟩)], undef, u6, u7, u8, u9, u10, undef, undef, undef, undef, undef, undef, undef, .func (.func 54) #[] #[.pointer (some ⟨w.heap.size, 0, none⟩)], .pointer (some ⟨mb, 0, none⟩), .pointer (some ⟨mb, 0, none⟩), .pointer (some ⟨mb, 0, none⟩), .slice ao (orderL m.chain).length cap, .int .i64 ((orderL m.chain).length : Int), .int .i64 (q : Int), u25, u26, u27, u28, u29, u30, u31, u32, u33, u34, u35, u36, u37, u38, u39, u40, u41, u42, u43, u44, u45, u46, u47, u48, u49, u50, undef, undef, undef, undef, undef, undef, undef, undef, undef, undef, undef, undef, undef, undef, undef, undef, undef, undef, undef, undef, undef, undef, undef, undef, undef, undef, undef, undef, undef, undef, undef, undef, undef, undef, undef, undef, undef, undef, undef, undef, undef, undef, undef, undef, undef, undef, undef, undef, undef, undef, undef, undef, undef, undef, undef, undef, undef, undef, undef, undef, undef, undef, undef, undef, undef, undef, undef, undef, undef], defers := marks Ds }) (fun a _ => (orderL m.chain).length - (intOf (a.tmps.getD 24 undef)).toNat) ?_ ?_
  · exact ⟨0, [], pf, undef, undef, undef, undef, undef, undef, undef, undef, undef, undef, undef, undef, undef, undef, undef, undef, undef, undef, undef, undef, undef, undef, undef, undef, undef, undef, undef, undef, undef, undef, undef, by omega, Lib.hid (by simpa [oldPieces] using hF1), Marks.nil _, (fun r h => by cases h), Lib.hid hbx1, Lib.hid hord, hO1, rfl⟩
  rintro a W ⟨q, Ds, pf', u6, u7, u8, u9, u10, u25, u26, u27, u28, u29, u30, u31, u32, u33, u34, u35, u36, u37, u38, u39, u40, u41, u42, u43, u44, u45, u46, u47, u48, u49, u50, hq, hFW, hMk, hDs, hbW, hoW, hOW, rfl⟩
  clear hF1 hbx1 hO1 hord
  by_cases hlt : q < (orderL m.chain).length
  · have hI : (q : Int) < ((orderL m.chain).length : Int) := by omega
    have hI0 : (0 : Int) ≤ (q : Int) := by omega
    obtain ⟨ao3, cap3, hsl⟩ := sliceOf_own hoW.out
    obtain ⟨gl, ol, hao, hcl⟩ := hsl.cell q _ (natVs_get (List.getElem?_eq_getElem hlt))
    have hve := hsl.val
    simp only [Value.slice.injEq] at hve
    obtain ⟨rfl, _, rfl⟩ := hve
    subst hao
    have htk : (orderL m.chain).take (q + 1) = (orderL m.chain).take q ++ [(orderL m.chain)[q]] := by rw [List.take_add_one, List.getElem?_eq_getElem hlt]; rfl
    obtain ⟨hks, hkc⟩ := hT.ord _ (List.getElem_mem hlt)
    generalize (orderL m.chain)[q] = kk at htk hcl hks hkc
    have HTK := Lib.hid htk
    have hk12 : kk < 12 := by omega
    have hkI : (kk : Int) < 12 := by omega
    have hkI0 : (0 : Int) ≤ (kk : Int) := by omega
    have hcb : W.cell? ⟨w.heap.size, 0, none⟩ = some (.pointer (some ⟨mb, 0, none⟩)) := cell_at hbW.out 0
    have hCW : CAt W mb 0 m.chain := ⟨hF.len, fun j x hx => by
      rw [Nat.zero_add, cell_at hFW.out.head, List.getElem?_toArray, foundCells, List.getElem?_append_left (List.getElem?_eq_some_iff.1 hx).1]; exact hx⟩
    have hus := hCW.us hk12
    rw [Nat.zero_add] at hus
    generalize hu : m.chain.getD kk Us.no = u at hus hkc
    have HU := Lib.hid hu
    have hal := heap_alloc_new W (.cells #[.int .i64 0, .int .i64 0] 58)
    clear htk hsl hu hCW
    go_upto_region 6 with first
      | ((with_reducible refine wpList_load_part mb (kk * 2) [.int .i64 u.e, .int .i64 u.c] ?_ ?_ ?_ ?_ ?_); (· exact ⟨_, Tryd.underlying58, rfl⟩); (· exact Tryd.sizeUse); (· exact hus); (· rfl))
      | ((with_reducible refine wpList_store_block W.heap.size 58 [.int .i64 u.e, .int .i64 u.c] [.int .i64 0, .int .i64 0] ?_ ?_ ?_ ?_ ?_ ?_ ?_); (· exact Tryd.sizeUse); (· exact hal); (· rfl); (· simp [Value.oneCell']); (· rfl); (· rfl))
    have hsz1 : ((W.alloc (.cells #[.int .i64 0, .int .i64 0] 58)).setRow W.heap.size #[.int .i64 u.e, .int .i64 u.c]).heap.size = W.heap.size + 1 := by simp [World.setRow]
    have hg1 := setRow_heap _ W.heap.size _ #[.int .i64 u.e, .int .i64 u.c] _ _ hal
    have hoS := ((Only.alloc W (.cells #[.int .i64 0, .int .i64 0] 58) (fun _ => False)).trans' (Only.setRow (W.alloc (.cells #[.int .i64 0, .int .i64 0] 58)) W.heap.size #[.int .i64 u.e, .int .i64 u.c] (S := fun x => x = W.heap.size) rfl) (fun y hy e => by omega))
    clear hal hus hcl hcb
    go_upto_region 7 with fail
    generalize (W.alloc (.cells #[.int .i64 0, .int .i64 0] 58)).setRow W.heap.size #[.int .i64 u.e, .int .i64 u.c] = W1 at hsz1 hg1 hoS ⊢
    have hoA := Only.alloc W1 (.cells #[.slice none 0 0] 118) (fun _ => False)
    have hfb := heap_alloc_any W1 (.cells #[.slice none 0 0] 118)
    have hsz2 : (W1.alloc (.cells #[.slice none 0 0] 118)).heap.size = W1.heap.size + 1 := World.size_alloc _ _
    have hg2 := hoA.keep hg1 id
    generalize htb : W.heap.size = tb at hsz1 hg1 hg2 ⊢
    generalize hfbs : W1.heap.size = Fb at hsz1 hsz2 hfb ⊢
    have hoW2 := hoS.trans hoA
    generalize W1.alloc (.cells #[.slice none 0 0] 118) = W2 at hoA hfb hsz2 hg2 hoW2 ⊢
    have hu1 : W2.cell? ⟨tb, 1, none⟩ = some (.int .i64 u.c) := cell_at hg2 1
    have HSZ := Lib.hid (⟨htb, hfbs, hsz1, hsz2⟩ : W.heap.size = tb ∧ W1.heap.size = Fb ∧ Fb = tb + 1 ∧ W2.heap.size = Fb + 1)
    have hG2 := (hG.onlyS hOW hgm hfm).only hoW2
    clear htb hfbs hsz1 hsz2 hg1 hoS hoA
    go_wp2_with fail
    refine (frames_any W2 gb (kk : Int) 1 u.c).mono ?_
    rintro ev W3 ⟨rfl, hW3⟩
    have ho3 := frBoxes_only W2 gb (kk : Int) 1 u.c
    have hs3 := frBoxes_size W2 gb (kk : Int) 1 u.c
    obtain ⟨c1, c2, c3, c4⟩ := frBoxes_cells W2 gb (kk : Int) 1 u.c
    rw [← hW3] at ho3 hs3 c1 c2 c3 c4
    clear hW3 hu1
    unfold frFn
    have HS3 := Lib.hid hs3
    clear hs3
    go_wp2_with fail
    obtain ⟨z1, z2, z3, z4⟩ := HSZ.out
    have z5 := HS3.out
    subst z3
    have hlowF : GLow (tb + 1) gb p kb pv := ⟨by have := hOW.size; omega, fun b hb => by have := hG.da.fp_lt b hb; have := hOW.size; omega⟩
    obtain ⟨m', hm', hmp⟩ : ∃ m' : Nat, (u.c = 1 + (m' : Int) ∨ (m' = 0 ∧ u.c ≤ 1)) ∧ 1 + m' ≤ per := by
      by_cases h : 1 ≤ u.c
      · exact ⟨(u.c - 1).toNat, .inl (by omega), by omega⟩
      · exact ⟨0, .inr ⟨rfl, by omega⟩, by omega⟩
    have hG3 := hG2.only ho3
    have hfb3 := ho3.keep hfb id
    have HM' := Lib.hid hm'
    refine wpIn_wide.1 (wpIn_rangeFunc_ownH (F := Fence.wide) (n := 8) rfl (by decide) (gf := 53) (lb := #[.pointer (some ⟨W2.heap.size + 2, 0, none⟩), .pointer (some ⟨W2.heap.size + 3, 0, none⟩), .pointer (some ⟨W2.heap.size, 0, none⟩), .pointer (some ⟨W2.heap.size + 1, 0, none⟩)]) rfl trivial (enters_of Tryd.func53 (by kernel_rfl) rfl)
      (frames_stops 7 (by decide) (tb + 1) W2.heap.size gb p kb pv d per segs kk 1 m' u.c (by omega) hlowF hks hmp W3 (by omega) hG3 c1 c2 c3 c4) kpF_t (kpF_b (by omega)) (Below.refl _ _) (by exact fun _ => rfl)
      (fun pre X => (∃ pvf, Col X (tb + 1) (tb + 6) (pre.map fun x => frAt d per kk (1 + x.val)) pvf) ∧ Below (tb + 1) W3 X)
      (fun _ _ _ => False)
      (OwnFrom.and (Own.from (col_own _ _ _) _) (ownFrom_below (by omega) (by omega)))
      (fun _ _ _ _ _ hs _ _ => hs)
      ⟨⟨.slice none 0 0, hfb3, rfl, .inl ⟨rfl, rfl⟩⟩, Below.refl _ _⟩
      (fun x a' X => ∃ Bx, FrX (frAt d per kk (1 + x.val)) Bx X ∧ a' = { tmps := #[.pointer (some ⟨gb, 0, none⟩), .pointer (some ⟨mb, 0, none⟩), undef, .pointer (some ⟨w.heap.size, 0, none⟩), .func (.func 54) #[] #[.pointer (some ⟨w.heap.size, 0, none⟩)], undef, .int .i64 (kk : Int), .pointer (some ⟨tb, 0, none⟩), .pointer (some ⟨tb + 1, 0, none⟩), u9, .pointer (some ⟨Bx, 0, none⟩), undef, undef, undef, undef, undef, undef, undef, .func (.func 54) #[] #[.pointer (some ⟨w.heap.size, 0, none⟩)], .pointer (some ⟨mb, 0, none⟩), .pointer (some ⟨mb, 0, none⟩), .pointer (some ⟨mb, 0, none⟩), .slice (some ⟨gl, ol, none⟩) (orderL m.chain).length cap, .int .i64 ((orderL m.chain).length : Int), .int .i64 (q : Int), .bool true, .pointer (some ⟨gl, ol + q, none⟩), .int .i64 (kk : Int), .pointer (some ⟨mb, 0, none⟩), .int .i64 (kk : Int), .pointer (some ⟨mb, 0, none⟩), .pointer (some ⟨mb, 0, none⟩), .pointer (some ⟨mb, kk * 2, none⟩), .agg #[.int .i64 u.e, .int .i64 u.c], .pointer (some ⟨gb, 0, none⟩), .int .i64 (kk : Int), .pointer (some ⟨tb, 1, none⟩), .int .i64 u.c, .func (.func 53) #[] #[.pointer (some ⟨W2.heap.size + 2, 0, none⟩), .pointer (some ⟨W2.heap.size + 3, 0, none⟩), .pointer (some ⟨W2.heap.size, 0, none⟩), .pointer (some ⟨W2.heap.size + 1, 0, none⟩)], .int .i64 ((1 + x.val : Nat) : Int), .agg #[.int .i64 (frAt d per kk (1 + x.val)).e, .int .i64 (frAt d per kk (1 + x.val)).a, .int .i64 (frAt d per kk (1 + x.val)).k, .string ⟨(frAt d per kk (1 + x.val)).s.toArray⟩], u41, u42, u43, u44, u45, u46, u47, u48, u49, u50, undef, undef, undef, undef, undef, undef, undef, undef, undef, undef, undef, undef, undef, undef, undef, undef, undef, undef, undef, undef, undef, undef, undef, undef, undef, undef, undef, undef, undef, undef, undef, undef, undef, undef, undef, undef, undef, undef, undef, undef, undef, undef, undef, undef, undef, undef, undef, undef, undef, undef, undef, undef, undef, undef, undef, undef, undef, undef, undef, undef, undef, undef, undef, undef, undef, undef, undef, undef, undef], defers := [] })
      (fun x a' _ X Y row hs hg hr => by obtain ⟨Bx, h2, h3⟩ := hs; exact ⟨Bx, (grownBy_keeps_cells hg (fun r e => (hr r e).2) h2 rfl).trans h2, h3⟩)
      ?assign ?body ?done ?stop)
    case assign =>
      rintro l pre x X K ⟨⟨pvf, hcol⟩, hB⟩ hK
      unfold frEnc
      generalize ((1 + x.val : Nat) : Int) = z at hK ⊢
      generalize frAt d per kk (1 + x.val) = f at hK ⊢
      clear c1 c2 c3 c4 z1 z2 z4 z5
      gi_wp2
      have hal := World.alloc_heap_new X (.cells #[.int .i64 f.e, .int .i64 f.a, .int .i64 f.k, .string ⟨f.s.toArray⟩] 86)
      have HZ := HSZ.out
      have hBs := hB.size
      have hZ3 := HS3.out
      exact hK _ _ ((KeepsOthers.alloc _ _).from _) (kpF_only (by omega) (Only.alloc _ _ _)) ⟨⟨pvf, hcol.only (Only.alloc _ _ _)⟩, hB.alloc (by omega) _⟩ ⟨X.heap.size, hal, rfl⟩
    case body =>
      rintro l pre x a' X hl ⟨r, hr⟩ ⟨⟨pvf, hcol⟩, hB⟩ ⟨Bx, hX, rfl⟩ hlt'
      dsimp only
      have hBs := hB.size
      have hXs : tb + 6 ≤ X.heap.size := by omega
      have hpl : (pre.map fun x => frAt d per kk (1 + x.val)).length ≤ 1000 := by rw [List.length_map]; omega
      have hmo := fun f => hcol.more (f := f) (by omega) hXs hpl
      have hsn : ((pre ++ [x]).map fun x => frAt d per kk (1 + x.val)) = (pre.map fun x => frAt d per kk (1 + x.val)) ++ [frAt d per kk (1 + x.val)] := by rw [List.map_append]; rfl
      have HSN := Lib.hid hsn
      clear hsn hpl
      generalize (pre.map fun x => frAt d per kk (1 + x.val)) = l0 at hcol hmo HSN
      generalize frAt d per kk (1 + x.val) = f at hX HSN ⊢
      obtain ⟨v', X', hrun, hv1, hv2, hbx', hcol', hon, hko⟩ := hmo f
      obtain ⟨ao5, cap5, hsl5⟩ := sliceOf_own hcol'.row
      obtain rfl := hsl5.val
      clear hsl5
      have HRUN := Lib.hid hrun
      have hc0 : X.cell? ⟨tb + 1, 0, none⟩ = some pvf := cell_at hcol.box 0
      have hc1 : X'.cell? ⟨tb + 1, 0, none⟩ = some pvf := cell_at hbx' 0
      have hc1f : X'.frozen? ⟨tb + 1, 0, none⟩ = false := free_at hbx' 0
      have hHas : Has X Bx 0 [.int .i64 f.e, .int .i64 f.a, .int .i64 f.k, .string ⟨f.s.toArray⟩] := has_of_block' hX (by simp)
      have HZ := HSZ.out
      have HZ3 := HS3.out
      have HCOL' := Lib.hid hcol'
      have HON := Lib.hid hon
      have HKO := Lib.hid hko
      have HV1 := Lib.hid hv1
      have HV2 := Lib.hid hv2
      have hmix : Tryd.prog.follows .mixedOrders = true := by kernel_rfl
      generalize ((1 + x.val : Nat) : Int) = z
      clear c1 c2 c3 c4 z1 z2 z4 z5 hrun hcol' hon hko hv1 hv2 hmo HZ HZ3 hBs hXs
      gi_wp2_with first
        | ((with_reducible refine wpListIn_load_part Bx 0 [.int .i64 f.e, .int .i64 f.a, .int .i64 f.k, .string ⟨f.s.toArray⟩] ?_ ?_ ?_ ?_ ?_); (· exact ⟨_, Tryd.underlying86, rfl⟩); (· exact Tryd.size23); (· exact hHas); (· rfl))
        | ((with_reducible refine wpListIn_buildSlice_agg 86 _ (.agg #[.int .i64 f.e, .int .i64 f.a, .int .i64 f.k, .string ⟨f.s.toArray⟩]) #[.int .i64 f.e, .int .i64 f.a, .int .i64 f.k, .string ⟨f.s.toArray⟩] 4 40 ?_ ?_ ?_ ?_ ?_ ?_ ?_ ?_); (· rfl); (· rfl); (· decide); (· decide); (· exact Tryd.underlying118); (· exact Tryd.info23); (· rfl))
        | ((with_reducible refine wpListIn_append_run pvf (.slice (some ⟨X.heap.size, 0, none⟩) 1 1) (.slice ao5 (l0 ++ [f]).length cap5) HRUN.out ?_ ?_ ?_); (· rfl); (· rfl))
      have HZ := HSZ.out
      have HZ3 := HS3.out
      have hBs := hB.size
      have hbl : Below (tb + 1) X (X'.setCell ⟨tb + 1, 0, none⟩ (.slice ao5 (l0 ++ [f]).length cap5)) := HON.out.belowOf (by omega) (fun k hk e => by rcases e with e | e <;> omega)
      rw [show l0.length + 1 = (l0 ++ [f]).length by simp]
      exact ⟨HKO.out.from _, ⟨hbl, fun b v hb1 hb2 hv => by rw [HON.out.cell (World.block_lt_of_cell? _ _ hv) (fun e => by have e' : b = tb + 1 ∨ tb + 6 ≤ b := e; omega)]; exact hv⟩, ⟨⟨_, by rw [HSN.out]; exact HCOL'.out⟩, hB.trans hbl⟩⟩
    case done =>
      rintro D ys X hD rfl ⟨⟨pvf, hcol⟩, hB⟩ hK
      dsimp only
      rw [fin_frames (frAt d per kk) u.c m' HM'.out] at hcol
      have hWX : Only (fun _ => False) W X := Only.of_below (((hoW2.trans ho3).below (fun _ _ => id)).trans (hB.mono (by omega))) _
      have hFX := hFW.out.only hWX
      have hbX := hWX.keep hbW.out id
      have hoX := ownsRow_only hoW.out hWX (fun _ _ h => h)
      have hMX := hMk.only hWX
      have hOX := hOW.trans (hWX.mono (fun _ _ h => h.elim))
      have hgX : X.heap[tb]? = some (.cells #[.int .i64 u.e, .int .i64 u.c] 58 (0, 0)) := (hB.block tb (by omega)).trans (ho3.keep hg2 id)
      have hc0 : X.cell? ⟨tb, 0, none⟩ = some (.int .i64 u.e) := cell_at hgX 0
      have hc1 : X.cell? ⟨tb + 1, 0, none⟩ = some pvf := cell_at hcol.box 0
      obtain ⟨ao5, cap5, hsl5⟩ := sliceOf_own hcol.row
      obtain rfl := hsl5.val
      have hfl : (frames (frAt d per kk) 1 u.c.toNat).length ≤ 64 := by unfold frames; rw [List.length_map, List.length_range']; omega
      have hwf : ∀ f ∈ frames (frAt d per kk) 1 u.c.toNat, f.s.length ≤ maxLen := fun f hf => by
        unfold frames at hf
        obtain ⟨i, _, rfl⟩ := List.mem_map.1 hf
        have := frAt_len d per kk i
        unfold maxLen; omega
      have hold : oldPieces (frAt d per) m.chain ((orderL m.chain).take (q + 1)) = oldPieces (frAt d per) m.chain ((orderL m.chain).take q) ++ piecesOf u.e (frames (frAt d per kk) 1 u.c.toNat) := by
        rw [HTK.out, oldPieces, List.map_append, List.flatten_append]
        simp only [List.map_cons, List.map_nil, List.flatten_cons, List.flatten_nil, List.append_nil, HU.out]
        rfl
      have hpl : ({ m with pieces := m.pieces ++ oldPieces (frAt d per) m.chain ((orderL m.chain).take q) } : Found).pieces.length ≤ 1000000 := by
        have h1 := oldPieces_le (frAt d per) m.chain per ((orderL m.chain).take q) (fun k hk => (hT.ord k (List.mem_of_mem_take hk)).2)
        have h2 : ((orderL m.chain).take q).length ≤ 12 := by have := HNS.out; rw [List.length_take]; omega
        have h3 : ((orderL m.chain).take q).length * per ≤ 12 * 64 := Nat.mul_le_mul h2 hper64
        have h4 := hT.few
        simp only [List.length_append]
        omega
      have hbs := lt_of_block hbW.out
      have HPA := Lib.hid (pieces_any X u.e _ _ _ _ w.heap.size mb (w.heap.size + 1) _ pf' hsl5 hwf (by omega) (cell_at hbX 0) hFX (by omega) (by omega) (by omega) hpl (by have := joinF_le (frames (frAt d per kk) 1 u.c.toNat); omega) (by have := hWX.size; omega))
      have HOLD := Lib.hid hold
      have HFX := Lib.hid hFX
      have HBX := Lib.hid hbX
      have HOX := Lib.hid hoX
      have HDK := Lib.hid hK
      have hDl := hMk.lt
      have HM2 := Lib.hid (hMX.cons (r := D) (B := W.heap.size) hDl (by omega) hK)
      have HOL := Lib.hid hOX
      clear c1 c2 c3 c4 hcol hFX hbX hoX hMX hgX hsl5 hwf hold hpl hK hWX hOX
      go_wp2_with fail
      refine HPA.out.mono ?_
      rintro ev Y ⟨rfl, ⟨pf2, hFY⟩, hoY, hkY⟩
      have hpb := fun x hx => ownBlock_ge HFX.out.row (k := x) hx
      have hbY := hoY.keep HBX.out (fun e => by
        rcases e with e | e
        · omega
        · have := hpb _ e; omega)
      have hap := rows_apart HOX.out HFX.out.row (by decide)
      have hoY2 := ownsRow_only HOX.out hoY (fun x hx e => by
        rcases e with e | e
        · have h1 := ownBlock_ge HOX.out hx
          have h2 := HS0.out
          omega
        · exact hap x hx e)
      have hMY := HM2.out.keeps hkY
      have hOY := HOL.out.trans' (T := fun k => k = mb ∨ pf'.ownBlock = some k) hoY (fun y hy e => by
        rcases e with e | e
        · exact e
        · have := hpb _ e; omega)
      have HFY := Lib.hid hFY
      have HBY := Lib.hid hbY
      have HOY := Lib.hid hoY2
      have HMY := Lib.hid hMY
      have HOWY := Lib.hid hOY
      clear hFY hoY hkY hbY hap hoY2 hMY hOY HPA
      have hq12 : (q : Int) < 12 := by have := HNS.out; omega
      go_wp2_with fail
      refine ⟨⟨q + 1, D :: Ds, pf2, _, _, _, _, _, _, _, _, _, _, _, _, _, _, _, _, _, _, _, _, _, _, _, _, _, _, _, _, _, _, _, by omega, Lib.hid (by have := HFY.out; rw [List.append_assoc, ← HOLD.out] at this; exact this), HMY.out, fun r hr => ?_, HBY, HOY, HOWY.out, rfl⟩, ?_⟩
      · rcases List.mem_cons.1 hr with rfl | hr
        · have := hOW.size; omega
        · exact hDs r hr
      · simp [intOf]
        omega
    case stop =>
      rintro D c pre X hD _ h
      exact h.elim
  · obtain rfl : q = (orderL m.chain).length := by omega
    have hI : ¬ ((orderL m.chain).length : Int) < ((orderL m.chain).length : Int) := by omega
    have hF1 := hFW.out
    rw [List.take_length] at hF1
    generalize hM : ({ m with pieces := m.pieces ++ oldPieces (frAt d per) m.chain (orderL m.chain) } : Found) = M at hF1
    have hMs : M.seg = m.seg := by rw [← hM]
    have hMe : M.epoch = m.epoch := by rw [← hM]
    have hMd : M.sealed = m.sealed := by rw [← hM]
    have hMp : M.pieces.length ≤ 1000000 := by
      rw [← hM]
      have h1 := oldPieces_le (frAt d per) m.chain per (orderL m.chain) (fun k hk => (hT.ord k hk).2)
      have h3 : (orderL m.chain).length * per ≤ 12 * 64 := Nat.mul_le_mul HNS.out hper64
      have h4 := hT.few
      simp only [List.length_append]
      omega
    have HM0 := Lib.hid hM
    clear hM hFW
    go_upto_region 12 with fail
    have hoA := Only.alloc W (.cells #[.slice none 0 0] 118) (fun _ => False)
    have hfb := heap_alloc_any W (.cells #[.slice none 0 0] 118)
    have hsz2 : (W.alloc (.cells #[.slice none 0 0] 118)).heap.size = W.heap.size + 1 := World.size_alloc _ _
    go_wp2_with fail
    go_step3
    go_upto_region 13 with fail
    have hoA2 := hoA.trans (Only.drew _ (fun _ => False))
    replace hfb : (W.alloc (.cells #[.slice none 0 0] 118)).drew.heap[W.heap.size]? = _ := hfb
    replace hsz2 : (W.alloc (.cells #[.slice none 0 0] 118)).drew.heap.size = _ := hsz2
    refine wp_mono (Q := OnlyN _) ?_ onlyN_mono
    refine wp_region_pick (fun X => X = (W.alloc (.cells #[.slice none 0 0] 118)).drew) [(0, 0), (1, 1), (2, 0), (3, 0), (4, 1), (5, 0), (6, 0), (7, 0), (8, 1), (9, 3)] (by kernel_rfl) (by kernel_rfl) (fun _ _ _ _ _ h => h.elim) rfl ?_
    generalize (W.alloc (.cells #[.slice none 0 0] 118)).drew = W2 at hfb hsz2 hoA2 ⊢
    have hG2 := (hG.onlyS hOW hgm hfm).only hoA2
    have hF2 := hF1.only hoA2
    have hb2 := hoA2.keep hbW.out id
    have hcb : W2.cell? ⟨w.heap.size, 0, none⟩ = some (.pointer (some ⟨mb, 0, none⟩)) := cell_at hb2 0
    have hc25 : W2.cell? ⟨mb, 25, none⟩ = some (.int .i64 (m.seg : Int)) := by rw [hF2.c25, hMs]
    have hcp := hG2.c1
    have HSZ2 := Lib.hid hsz2
    clear hoA hsz2
    simp only [pickOps, List.getElem?_cons_zero, List.getElem?_cons_succ]
    iterate 9 (first | (refine wpL_pure (a' := ?_) ?_ rfl (fun W => ?_) ?_ ?_; rotate_left 2; (· go_simp; first | (go_bits; with_reducible rfl) | with_reducible rfl); (· simp only [put_some, List.setIfInBounds_toArray, List.set_cons_zero, List.set_cons_succ]; rfl)) | (refine wpL_held (a' := ?_) ?_ rfl (fun W hW => ?_) ?_ ?_; rotate_left 2; (· subst hW; go_simp; first | (go_bits; with_reducible rfl) | with_reducible rfl); (· simp only [put_some, List.setIfInBounds_toArray, List.set_cons_zero, List.set_cons_succ]; rfl)))
    refine wpL_lastCall (f := 33) (args := #[.pointer (some ⟨gb, 0, none⟩), .int .i64 (m.seg : Int), .int .i64 1, .int .i64 (per : Int)]) rfl (by kernel_rfl) ((frames_any W2 gb (m.seg : Int) 1 (per : Int)).mono ?_)
    rintro ev W3 ⟨rfl, hW3⟩
    refine ⟨_, rfl, ?_⟩
    unfold frFn
    simp only [put_some, List.setIfInBounds_toArray, List.set_cons_zero, List.set_cons_succ]
    refine wpL_nil ?_
    unfold OnlyN
    simp only
    have ho3 := frBoxes_only W2 gb (m.seg : Int) 1 (per : Int)
    have hs3 := frBoxes_size W2 gb (m.seg : Int) 1 (per : Int)
    obtain ⟨c1, c2, c3, c4⟩ := frBoxes_cells W2 gb (m.seg : Int) 1 (per : Int)
    rw [← hW3] at ho3 hs3 c1 c2 c3 c4
    clear hW3 hcb hc25 hcp
    have HS3 := Lib.hid hs3
    clear hs3
    go_wp2_with fail
    have z4 := HSZ2.out
    have z5 := HS3.out
    have hlowF : GLow W.heap.size gb p kb pv := ⟨by have := hOW.size; omega, fun b hb => by have := hG.da.fp_lt b hb; have := hOW.size; omega⟩
    have hG3 := hG2.only ho3
    have hfb3 := ho3.keep hfb id
    have hF3 := hF2.only ho3
    have hb3 := ho3.keep hb2 id
    have hbs := lt_of_block hbW.out
    have hOW2 := hOW.size
    have hseg := hT.seg
    obtain ⟨m', hm'⟩ : ∃ m', per = 1 + m' := ⟨per - 1, by omega⟩
    have HM' := Lib.hid hm'
    have HF3 := Lib.hid hF3
    have HB3 := Lib.hid hb3
    have HFM := Lib.hid (⟨hMs, hMe, hMd⟩ : M.seg = m.seg ∧ M.epoch = m.epoch ∧ M.sealed = m.sealed)
    clear hF3 hb3 hb2 hF2 hMs hMe hMd hm'
    refine wpIn_wide.1 (wpIn_rangeFunc_ownH (F := Fence.wide) (n := 8) rfl (by decide) (gf := 53) (lb := #[.pointer (some ⟨W2.heap.size + 2, 0, none⟩), .pointer (some ⟨W2.heap.size + 3, 0, none⟩), .pointer (some ⟨W2.heap.size, 0, none⟩), .pointer (some ⟨W2.heap.size + 1, 0, none⟩)]) rfl trivial (enters_of Tryd.func53 (by kernel_rfl) rfl)
      (frames_stops 7 (by decide) W.heap.size W2.heap.size gb p kb pv d per segs m.seg 1 m' (per : Int) (by have := HM'.out; omega) hlowF hseg (by have := HM'.out; omega) W3 (by omega) hG3 c1 c2 c3 c4) kpF_t (kpF_b (by omega)) (Below.refl _ _) (by exact fun _ => rfl)
      (fun pre X => ((∀ y ∈ pre, goodF m.epoch (frAt d per m.seg (1 + y.val)) = true) ∧ ∃ pvf, Col X W.heap.size (W.heap.size + 5) (pre.map fun x => frAt d per m.seg (1 + x.val)) pvf) ∧ Below W.heap.size W3 X)
      (fun c pre X => (c = .exit 4 ∧ ∃ pre' x, pre = pre' ++ [x] ∧ goodF m.epoch (frAt d per m.seg (1 + x.val)) = false ∧ (∀ y ∈ pre', goodF m.epoch (frAt d per m.seg (1 + y.val)) = true) ∧ ∃ pvf, Col X W.heap.size (W.heap.size + 5) (pre'.map fun x => frAt d per m.seg (1 + x.val)) pvf) ∧ Below W.heap.size W3 X)
      (OwnFrom.and (Own.from (fun s X Y row hs hg hr => ⟨hs.1, col_own _ _ _ s X Y row hs.2 hg hr⟩) _) (ownFrom_below (by omega) (by omega)))
      (fun c => OwnFrom.and (Own.from (fun s X Y row hs hg hr => by
        obtain ⟨hc, pre', x, h1, h2, h3, h4⟩ := hs
        exact ⟨hc, pre', x, h1, h2, h3, col_own W.heap.size (W.heap.size + 5) (fun s => s.map fun x => frAt d per m.seg (1 + x.val)) pre' X Y row h4 hg hr⟩) _) (ownFrom_below (by omega) (by omega)))
      ⟨⟨by simp, .slice none 0 0, hfb3, rfl, .inl ⟨rfl, rfl⟩⟩, Below.refl _ _⟩
      (fun x a' X => ∃ Bx, FrX (frAt d per m.seg (1 + x.val)) Bx X ∧ a' = { tmps := #[.pointer (some ⟨gb, 0, none⟩), .pointer (some ⟨mb, 0, none⟩), undef, .pointer (some ⟨w.heap.size, 0, none⟩), .func (.func 54) #[] #[.pointer (some ⟨w.heap.size, 0, none⟩)], undef, u6, u7, u8, u9, u10, .pointer (some ⟨W.heap.size, 0, none⟩), undef, .pointer (some ⟨Bx, 0, none⟩), undef, undef, undef, undef, .func (.func 54) #[] #[.pointer (some ⟨w.heap.size, 0, none⟩)], .pointer (some ⟨mb, 0, none⟩), .pointer (some ⟨mb, 0, none⟩), .pointer (some ⟨mb, 0, none⟩), .slice ao (orderL m.chain).length cap, .int .i64 ((orderL m.chain).length : Int), .int .i64 ((orderL m.chain).length : Int), .bool false, u26, u27, u28, u29, u30, u31, u32, u33, u34, u35, u36, u37, u38, u39, u40, u41, u42, u43, u44, u45, u46, u47, u48, u49, u50, .pointer (some ⟨gb, 0, none⟩), .pointer (some ⟨mb, 0, none⟩), .pointer (some ⟨mb, 0, none⟩), .pointer (some ⟨mb, 25, none⟩), .int .i64 (m.seg : Int), .pointer (some ⟨gb, 0, none⟩), .pointer (some ⟨gb, 0, none⟩), .pointer (some ⟨gb, 1, none⟩), .int .i64 (per : Int), .func (.func 53) #[] #[.pointer (some ⟨W2.heap.size + 2, 0, none⟩), .pointer (some ⟨W2.heap.size + 3, 0, none⟩), .pointer (some ⟨W2.heap.size, 0, none⟩), .pointer (some ⟨W2.heap.size + 1, 0, none⟩)], .int .i64 ((1 + x.val : Nat) : Int), .agg #[.int .i64 (frAt d per m.seg (1 + x.val)).e, .int .i64 (frAt d per m.seg (1 + x.val)).a, .int .i64 (frAt d per m.seg (1 + x.val)).k, .string ⟨(frAt d per m.seg (1 + x.val)).s.toArray⟩], undef, undef, undef, undef, undef, undef, undef, undef, undef, undef, undef, undef, undef, undef, undef, undef, undef, undef, undef, undef, undef, undef, undef, undef, undef, undef, undef, undef, undef, undef, undef, undef, undef, undef, undef, undef, undef, undef, undef, undef, undef, undef, undef, undef, undef, undef, undef, undef, undef, undef, undef, undef, undef, undef, undef, undef, undef], defers := [] })
      (fun x a' _ X Y row hs hg hr => by obtain ⟨Bx, h2, h3⟩ := hs; exact ⟨Bx, (grownBy_keeps_cells hg (fun r e => (hr r e).2) h2 rfl).trans h2, h3⟩)
      ?assign ?body ?done ?stop)
    case assign =>
      rintro l pre x X K ⟨⟨hgd, pvf, hcol⟩, hB⟩ hK
      unfold frEnc
      generalize ((1 + x.val : Nat) : Int) = z at hK ⊢
      generalize frAt d per m.seg (1 + x.val) = f at hK ⊢
      clear c1 c2 c3 c4 z4 z5
      gi_wp2
      have hal := World.alloc_heap_new X (.cells #[.int .i64 f.e, .int .i64 f.a, .int .i64 f.k, .string ⟨f.s.toArray⟩] 86)
      have HZ := HSZ2.out
      have hBs := hB.size
      have hZ3 := HS3.out
      exact hK _ _ ((KeepsOthers.alloc _ _).from _) (kpF_only (by omega) (Only.alloc _ _ _)) ⟨⟨hgd, pvf, hcol.only (Only.alloc _ _ _)⟩, hB.alloc (by omega) _⟩ ⟨X.heap.size, hal, rfl⟩
    case body =>
      rintro l pre x a' X hl ⟨r, hr⟩ ⟨⟨hgd, pvf, hcol⟩, hB⟩ ⟨Bx, hX, rfl⟩ hlt'
      dsimp only
      have hBs := hB.size
      have hXs : W.heap.size + 5 ≤ X.heap.size := by omega
      have hpl : (pre.map fun x => frAt d per m.seg (1 + x.val)).length ≤ 1000 := by rw [List.length_map]; have := HM'.out; omega
      have hmo := fun f => (hcol.only (Only.drew X (fun _ => False))).more (f := f) (by omega) hXs hpl
      have hsn : ((pre ++ [x]).map fun x => frAt d per m.seg (1 + x.val)) = (pre.map fun x => frAt d per m.seg (1 + x.val)) ++ [frAt d per m.seg (1 + x.val)] := by rw [List.map_append]; rfl
      have HSN := Lib.hid hsn
      have HGD := Lib.hid hgd
      have HCOL := Lib.hid hcol
      have hcb : X.cell? ⟨w.heap.size, 0, none⟩ = some (.pointer (some ⟨mb, 0, none⟩)) := cell_at ((hB.block w.heap.size (by omega)).trans HB3.out) 0
      have hce : X.cell? ⟨mb, 24, none⟩ = some (.int .i64 m.epoch) := by rw [hB.cell (p := ⟨mb, 24, none⟩) (show mb < W.heap.size by omega), HF3.out.c24, HFM.out.2.1]
      clear hsn hpl hgd hcol
      generalize hl0 : (pre.map fun x => frAt d per m.seg (1 + x.val)) = l0 at HCOL hmo HSN
      have HL0 := Lib.hid hl0
      clear hl0
      have hgf : goodF m.epoch (frAt d per m.seg (1 + x.val)) = (decide ((frAt d per m.seg (1 + x.val)).e = m.epoch) && decide ((frAt d per m.seg (1 + x.val)).k ≠ 1)) := rfl
      have HGF := Lib.hid hgf
      clear hgf
      generalize hff : frAt d per m.seg (1 + x.val) = f at hX HSN HGF ⊢
      have HFF := Lib.hid hff
      clear hff
      have f0 : X.cell? ⟨Bx, 0, none⟩ = some (.int .i64 f.e) := cell_at hX 0
      have f2 : X.cell? ⟨Bx, 2, none⟩ = some (.int .i64 f.k) := cell_at hX 2
      have hmix : Tryd.prog.follows .mixedOrders = true := by kernel_rfl
      have HBB := Lib.hid (hB.trans (((Only.drew X (fun _ => False)).below (fun _ _ => id)).mono (by omega)))
      generalize ((1 + x.val : Nat) : Int) = z
      clear c1 c2 c3 c4 z4 z5 hBs hXs
      by_cases he : f.e = m.epoch
      · have heb : (f.e != m.epoch) = false := by simp [he]
        by_cases hk : f.k = 1
        · have hkb : (f.k == 1) = true := by simp [hk]
          have HBAD := Lib.hid (show goodF m.epoch (frAt d per m.seg (1 + x.val)) = false by rw [HFF.out, HGF.out]; simp [hk])
          clear he hk hmo
          gi_wp2
          gi_region_with_o (fail)
          all_goals gi_wp2
          all_goals exact ⟨(KeepsOthers.drew X).from _, ⟨⟨rfl, pre, x, rfl, HBAD.out, HGD.out, pvf, by rw [HL0.out]; exact HCOL.out.only (Only.drew X _)⟩, HBB.out⟩⟩
        · have hkb : (f.k == 1) = false := by simp [hk]
          have HGOOD := Lib.hid (show goodF m.epoch (frAt d per m.seg (1 + x.val)) = true by rw [HFF.out, HGF.out]; simp [he, hk])
          obtain ⟨v', X', hrun, hv1, hv2, hbx', hcol', hon, hko⟩ := hmo f
          obtain ⟨ao5, cap5, hsl5⟩ := sliceOf_own hcol'.row
          obtain rfl := hsl5.val
          have HRUN := Lib.hid hrun
          have hc0 : X.drew.cell? ⟨W.heap.size, 0, none⟩ = some pvf := cell_at HCOL.out.box 0
          have f2d : X.drew.cell? ⟨Bx, 2, none⟩ = some (.int .i64 f.k) := f2
          have HXD := Lib.hid (⟨Only.drew X _, KeepsOthers.drew X⟩ : Only (fun k => k = W.heap.size ∨ W.heap.size + 5 ≤ k) X X.drew ∧ KeepsOthers X X.drew)
          have hc1 : X'.cell? ⟨W.heap.size, 0, none⟩ = some pvf := cell_at hbx' 0
          have hc1f : X'.frozen? ⟨W.heap.size, 0, none⟩ = false := free_at hbx' 0
          have hHas : Has X.drew Bx 0 [.int .i64 f.e, .int .i64 f.a, .int .i64 f.k, .string ⟨f.s.toArray⟩] := has_of_block' (w := X.drew) hX (by simp)
          have HCOL' := Lib.hid hcol'
          have HON := Lib.hid hon
          have HKO := Lib.hid hko
          clear he hk hmo hrun hcol' hon hko hv1 hv2 hsl5
          gi_wp2
          gi_region_with_o (fail)
          all_goals
            generalize X.drew = Xd at hHas hc0 f2d HRUN HON HKO HXD ⊢
            gi_wp2_with first
              | ((with_reducible refine wpListIn_load_part Bx 0 [.int .i64 f.e, .int .i64 f.a, .int .i64 f.k, .string ⟨f.s.toArray⟩] ?_ ?_ ?_ ?_ ?_); (· exact ⟨_, Tryd.underlying86, rfl⟩); (· exact Tryd.size23); (· exact hHas); (· rfl))
              | ((with_reducible refine wpListIn_buildSlice_agg 86 _ (.agg #[.int .i64 f.e, .int .i64 f.a, .int .i64 f.k, .string ⟨f.s.toArray⟩]) #[.int .i64 f.e, .int .i64 f.a, .int .i64 f.k, .string ⟨f.s.toArray⟩] 4 40 ?_ ?_ ?_ ?_ ?_ ?_ ?_ ?_); (· rfl); (· rfl); (· decide); (· decide); (· exact Tryd.underlying118); (· exact Tryd.info23); (· rfl))
              | ((with_reducible refine wpListIn_append_run pvf (.slice (some ⟨Xd.heap.size, 0, none⟩) 1 1) (.slice ao5 (l0 ++ [f]).length cap5) HRUN.out ?_ ?_ ?_); (· rfl); (· rfl))
            have HZ := HSZ2.out
            have HZ3 := HS3.out
            have hBs := hB.size
            have hon := HXD.out.1.trans HON.out
            have hbl : Below W.heap.size X (X'.setCell ⟨W.heap.size, 0, none⟩ (.slice ao5 (l0 ++ [f]).length cap5)) := hon.belowOf (by omega) (fun k hk e => by rcases e with e | e <;> omega)
            rw [show l0.length + 1 = (l0 ++ [f]).length by simp]
            exact ⟨(HXD.out.2.trans HKO.out).from _, ⟨hbl, fun b v hb1 hb2 hv => by rw [hon.cell (World.block_lt_of_cell? _ _ hv) (fun e => by have e' : b = W.heap.size ∨ W.heap.size + 5 ≤ b := e; omega)]; exact hv⟩, ⟨⟨fun y hy => (by
              rcases List.mem_append.1 hy with hy | hy
              · exact HGD.out y hy
              · obtain rfl : y = x := by simpa using hy
                exact HGOOD.out), _, by rw [HSN.out]; exact HCOL'.out⟩, hB.trans hbl⟩⟩
      · have heb : (f.e != m.epoch) = true := by simp [he]
        have HBAD := Lib.hid (show goodF m.epoch (frAt d per m.seg (1 + x.val)) = false by rw [HFF.out, HGF.out]; simp [he])
        clear he hmo
        gi_wp2
        gi_region_with_o (fail)
        all_goals gi_wp2
        all_goals exact ⟨(KeepsOthers.drew X).from _, ⟨⟨rfl, pre, x, rfl, HBAD.out, HGD.out, pvf, by rw [HL0.out]; exact HCOL.out.only (Only.drew X _)⟩, HBB.out⟩⟩
    case' done =>
      rintro D ys X hD rfl ⟨⟨hgd, pvf, hcol⟩, hB⟩ hK
      dsimp only
      rw [← run_done (frAt d per m.seg) m.epoch per m' HM'.out hgd] at hcol
      have hDB : W.heap.size ≤ D := by omega
    case' stop =>
      rintro D c pre X hD hpr ⟨⟨rfl, pre', x, rfl, hbad, hgd, pvf, hcol⟩, hB⟩ hK
      dsimp only
      rw [← run_stop (frAt d per m.seg) m.epoch per m' HM'.out pre' x hpr hgd hbad] at hcol
      refine wpIn_wide.2 ?_
      have hDB : W.heap.size ≤ D := by omega
    all_goals
      clear c1 c2 c3 c4
      have hWX : Only (fun _ => False) W X := Only.of_below (((hoA2.trans ho3).below (fun _ _ => id)).trans hB) _
      have hrl : (runOf (frAt d per m.seg) m.epoch 1 per).length ≤ 64 := by
        have h1 := List.takeWhile_prefix (l := frames (frAt d per m.seg) 1 per) (fun f => decide (f.e = m.epoch) && decide (f.k ≠ 1))
        have h2 := h1.length_le
        unfold runOf
        have h3 : (frames (frAt d per m.seg) 1 per).length = per - 1 := by simp [frames]
        omega
      have hrw : ∀ f ∈ runOf (frAt d per m.seg) m.epoch 1 per, f.s.length ≤ maxLen := fun f hf => by
        unfold runOf at hf
        have := (List.takeWhile_prefix (l := frames (frAt d per m.seg) 1 per) (fun f => decide (f.e = m.epoch) && decide (f.k ≠ 1))).subset hf
        unfold frames at this
        obtain ⟨i, _, rfl⟩ := List.mem_map.1 this
        have := frAt_len d per m.seg i
        unfold maxLen; omega
      have htk : take (frAt d per) per m = { M with pieces := M.pieces ++ piecesOf m.epoch (runOf (frAt d per m.seg) m.epoch 1 per), chain := M.chain.set m.seg ⟨m.epoch, 1 + (joinF (runOf (frAt d per m.seg) m.epoch 1 per)).2⟩, loose := decide ((joinF ((runOf (frAt d per m.seg) m.epoch 1 per).take m.sealed)).1.length < (joinF (runOf (frAt d per m.seg) m.epoch 1 per)).1.length) } := by
        rw [← HM0.out]; rfl
      have hsl0 := hT.sealed
      generalize runOf (frAt d per m.seg) m.epoch 1 per = R at hcol hrl hrw htk hsl0
      have HTK := Lib.hid htk
      clear htk
      have hbX := hWX.keep hbW.out id
      have hFX := hF1.only hWX
      have hMX := hMk.only hWX
      have hDl := hMk.lt
      have hM2 := hMX.cons (r := D) (B := W.heap.size) hDl hDB hK
      have hOX := hOW.trans (hWX.mono (fun _ _ h => h.elim))
      have hpb := fun x hx => hF1.row.lt x hx
      obtain ⟨ao5, cap5, hsl5⟩ := sliceOf_own hcol.row
      obtain rfl := hsl5.val
      have HOB := Lib.hid (fun (b o : Nat) (e : ao5 = some ⟨b, o, none⟩) => ownBlock_ge hcol.row (k := b) (by rw [e]; rfl))
      have hXz := hWX.size
      have hBz := hB.size
      have hz2 := HSZ2.out
      have hz3 := HS3.out
      have hs5 : m.sealed ≤ cap5 := Nat.le_trans hsl0 (own_cap hcol.row).1
      go_upto_region 18 with fail
      refine wp_mono (Q := OnlyN _) ?_ onlyN_mono
      refine wp_region_pick (fun Y => Y = X.drew) [(0, 0), (1, 1), (2, 0), (3, 0), (4, 1), (5, 1), (6, 3), (7, 0), (8, 0), (9, 0), (10, 0), (11, 0)] (by kernel_rfl) (by kernel_rfl) (fun _ _ _ _ _ h => h.elim) rfl ?_
      have hoD := Only.drew X (fun _ => False)
      have hcol1 := hcol.only hoD
      have hF2 := hFX.only hoD
      have hb2 := hoD.keep hbX id
      have hM3 := hM2.only hoD
      have hsl6 := hsl5.only hoD
      have hO2 := hOX.trans (Only.drew X _)
      have hzd : X.drew.heap.size = X.heap.size := rfl
      clear hcol hFX hbX hM2 hMX hOX hsl5 hoD
      generalize X.drew = X1 at hcol1 hF2 hb2 hM3 hsl6 hO2 hzd ⊢
      have q0 : X1.cell? ⟨w.heap.size, 0, none⟩ = some (.pointer (some ⟨mb, 0, none⟩)) := cell_at hb2 0
      have q24 : X1.cell? ⟨mb, 24, none⟩ = some (.int .i64 m.epoch) := by rw [hF2.c24, HFM.out.2.1]
      have qb : X1.cell? ⟨W.heap.size, 0, none⟩ = some (.slice ao5 R.length cap5) := cell_at hcol1.box 0
      simp only [pickOps, List.getElem?_cons_zero, List.getElem?_cons_succ]
      iterate 6 (first | (refine wpL_pure (a' := ?_) ?_ rfl (fun W => ?_) ?_ ?_; rotate_left 2; (· go_simp; first | (go_bits; with_reducible rfl) | with_reducible rfl); (· simp only [put_some, List.setIfInBounds_toArray, List.set_cons_zero, List.set_cons_succ]; rfl)) | (refine wpL_held (a' := ?_) ?_ rfl (fun W hW => ?_) ?_ ?_; rotate_left 2; (· subst hW; go_simp; first | (go_bits; with_reducible rfl) | with_reducible rfl); (· simp only [put_some, List.setIfInBounds_toArray, List.set_cons_zero, List.set_cons_succ]; rfl)))
      refine wpL_lastCall (f := 54) (args := #[.int .i64 m.epoch, .slice ao5 R.length cap5, .pointer (some ⟨w.heap.size, 0, none⟩)]) rfl (by kernel_rfl) ((pieces_any X1 m.epoch _ R ao5 cap5 w.heap.size mb (w.heap.size + 1) M pf' hsl6 hrw (by omega) q0 hF2 (by omega) (by omega) (by omega) hMp (by have := joinF_le R; omega) (by omega)).mono ?_)
      rintro ev Y ⟨rfl, ⟨pf2, hFY⟩, hoY, hkY⟩
      refine ⟨_, rfl, ?_⟩
      simp only [put_some, List.setIfInBounds_toArray, List.set_cons_zero, List.set_cons_succ]
      iterate 5 (first | (refine wpL_pure (a' := ?_) ?_ rfl (fun W => ?_) ?_ ?_; rotate_left 2; (· go_simp; first | (go_bits; with_reducible rfl) | with_reducible rfl); (· simp only [put_some, List.setIfInBounds_toArray, List.set_cons_zero, List.set_cons_succ]; rfl)) | (refine wpL_held (a' := ?_) ?_ rfl (fun W hW => ?_) ?_ ?_; rotate_left 2; (· subst hW; go_simp; first | (go_bits; with_reducible rfl) | with_reducible rfl); (· simp only [put_some, List.setIfInBounds_toArray, List.set_cons_zero, List.set_cons_succ]; rfl)))
      refine wpL_nil ?_
      unfold OnlyN
      simp only
      have hbY := hoY.keep hb2 (fun e => by
        rcases e with e | e
        · omega
        · have := hpb _ e; omega)
      have hcolb := hoY.keep hcol1.box (fun e => by
        rcases e with e | e
        · omega
        · have := hpb _ e; omega)
      have hslY : SliceOf Y (.slice ao5 R.length cap5) R.length (frs R) ao5 cap5 := ⟨rfl, hsl6.len, fun j x hx => by
        obtain ⟨b, o, e, hc⟩ := hsl6.cell j x hx
        refine ⟨b, o, e, ?_⟩
        have hbb := ownBlock_ge hcol1.row (k := b) (by rw [e]; rfl)
        rw [hoY.cell (World.block_lt_of_cell? _ _ hc) (fun e => by
          rcases e with e | e
          · have e' : b = mb := e
            omega
          · have := hpb _ e
            simp only at this; omega)]; exact hc⟩
      have hMY := hM3.keeps hkY
      have hOY := hO2.trans' (T := fun k => k = mb ∨ pf'.ownBlock = some k) hoY (fun y hy e => by
        rcases e with e | e
        · exact e
        · have := hpb _ e; omega)
      have hzY := hoY.size
      clear hcol1 hF2 hb2 hM3 hsl6 hO2 hoY hkY q0 q24 qb
      have hsegI : (m.seg : Int) < 12 := by omega
      have hsegI0 : (0 : Int) ≤ (m.seg : Int) := by omega
      go_upto_region 19 with fail
      have hh := hFY.head
      have hcY := hFY.len
      have hMs2 : M.seg = m.seg := HFM.out.1
      have hMd2 : M.sealed = m.sealed := HFM.out.2.2
      generalize hM2' : ({ M with pieces := M.pieces ++ piecesOf m.epoch R } : Found) = M2 at hFY hh hcY
      have hM2s : M2.seg = m.seg := by rw [← hM2', ← hMs2]
      have hM2e : M2.epoch = m.epoch := by rw [← hM2', ← HFM.out.2.1]
      have hM2d : M2.sealed = m.sealed := by rw [← hM2', ← hMd2]
      have HM2 := Lib.hid hM2'
      clear hM2'
      refine wp_mono (Q := OnlyN _) ?_ onlyN_mono
      refine wp_region_pick (fun Z => Z = Y.drew) [(0, 1), (1, 1), (2, 0), (3, 0), (4, 1), (5, 1), (6, 0), (7, 0), (8, 1), (9, 0), (10, 0), (11, 0), (12, 0), (13, 0), (14, 0), (15, 3)] (by kernel_rfl) (by kernel_rfl) (fun _ _ _ _ _ h => h.elim) rfl ?_
      have hoD := Only.drew Y (fun _ => False)
      have hF3 := hFY.only hoD
      have hb3 := hoD.keep hbY id
      have hcolb3 := hoD.keep hcolb id
      have hM4 := hMY.only hoD
      have hsl7 := hslY.only hoD
      have hO3 := hOY.trans (Only.drew Y _)
      have hzd3 : Y.drew.heap.size = Y.heap.size := rfl
      clear hFY hh hbY hcolb hMY hOY hslY hoD
      generalize Y.drew = Y1 at hF3 hb3 hcolb3 hM4 hsl7 hO3 hzd3 ⊢
      have q0 : Y1.cell? ⟨w.heap.size, 0, none⟩ = some (.pointer (some ⟨mb, 0, none⟩)) := cell_at hb3 0
      have q24 : Y1.cell? ⟨mb, 24, none⟩ = some (.int .i64 m.epoch) := by rw [hF3.c24, hM2e]
      have q25 : Y1.cell? ⟨mb, 25, none⟩ = some (.int .i64 (m.seg : Int)) := by rw [hF3.c25, hM2s]
      have hJ2 := joinF_snd_le R
      generalize hJn : (joinF R).2 = jn at hJ2 HTK ⊢
      have HJN := Lib.hid hJn
      clear hJn
      simp only [pickOps, List.getElem?_cons_zero, List.getElem?_cons_succ]
      iterate 11 (first | (refine wpL_pure (a' := ?_) ?_ rfl (fun W => ?_) ?_ ?_; rotate_left 2; (· go_simp; first | (go_bits; with_reducible rfl) | with_reducible rfl); (· simp only [put_some, List.setIfInBounds_toArray, List.set_cons_zero, List.set_cons_succ]; rfl)) | (refine wpL_held (a' := ?_) ?_ rfl (fun W hW => ?_) ?_ ?_; rotate_left 2; (· subst hW; go_simp; first | (go_bits; with_reducible rfl) | with_reducible rfl); (· simp only [put_some, List.setIfInBounds_toArray, List.set_cons_zero, List.set_cons_succ]; rfl)))
      refine wpL_pure (a' := ?_) (.agg #[.int .i64 m.epoch, .int .i64 (1 + (jn : Int))]) rfl (fun W => exec_buildN rfl (parts := #[(0, .int .i64 m.epoch), (1, .int .i64 (1 + (jn : Int)))]) (by simp only [List.map_toArray, List.map_cons, List.map_nil]; go_simp) (Tryd.buildUse _ _ W)) ?_ ?_; rotate_left; (· simp only [put_some, List.setIfInBounds_toArray, List.set_cons_zero, List.set_cons_succ]; rfl)
      iterate 3 (first | (refine wpL_pure (a' := ?_) ?_ rfl (fun W => ?_) ?_ ?_; rotate_left 2; (· go_simp; first | (go_bits; with_reducible rfl) | with_reducible rfl); (· simp only [put_some, List.setIfInBounds_toArray, List.set_cons_zero, List.set_cons_succ]; rfl)) | (refine wpL_held (a' := ?_) ?_ rfl (fun W hW => ?_) ?_ ?_; rotate_left 2; (· subst hW; go_simp; first | (go_bits; with_reducible rfl) | with_reducible rfl); (· simp only [put_some, List.setIfInBounds_toArray, List.set_cons_zero, List.set_cons_succ]; rfl)))
      have hST := run_store_part (P := Tryd.prog) Y1 mb (m.seg * 2) 2 64 58 (foundCells M2 pf2) [.int .i64 m.epoch, .int .i64 (1 + (jn : Int))] Tryd.sizeUse rfl hF3.head (by rw [foundCells_length _ _ hcY]; simp; omega) (by simp [Value.oneCell'])
      have hoS := Only.setRow Y1 mb (laid (foundCells M2 pf2) (m.seg * 2) [.int .i64 m.epoch, .int .i64 (1 + (jn : Int))]).toArray (S := fun x => x = mb) rfl
      have hh4 := setRow_heap _ mb _ (laid (foundCells M2 pf2) (m.seg * 2) [.int .i64 m.epoch, .int .i64 (1 + (jn : Int))]).toArray _ _ hF3.head
      refine wpL_lastDone (a' := ?_) (w' := Y1.setRow mb (laid (foundCells M2 pf2) (m.seg * 2) [.int .i64 m.epoch, .int .i64 (1 + (jn : Int))]).toArray) rfl (exec_store rfl (p := .pointer (some ⟨mb, m.seg * 2, none⟩)) (v := .agg #[.int .i64 m.epoch, .int .i64 (1 + (jn : Int))]) rfl rfl hST) ?_ ?_; rotate_left; (· simp only [put_none]; rfl)
      refine wpL_nil ?_
      unfold OnlyN
      simp only
      clear hST q0 q24 q25
      have e4 : laid (foundCells M2 pf2) (m.seg * 2) [.int .i64 m.epoch, .int .i64 (1 + (jn : Int))] = foundCells { M2 with chain := M2.chain.set m.seg ⟨m.epoch, 1 + (jn : Int)⟩ } pf2 := foundCells_chain M2 pf2 hcY ⟨m.epoch, 1 + (jn : Int)⟩ (by omega)
      rw [e4] at hoS hh4 ⊢
      have hM5 := hM4.keeps (keepsOthers_one hoS hF3.head)
      have hb4 := hoS.keep hb3 (fun e => by have e' : w.heap.size = mb := e; omega)
      have hcolb4 := hoS.keep hcolb3 (fun e => by have e' : W.heap.size = mb := e; omega)
      have hrow4 := ownsRow_only hF3.row hoS (fun x hx e => by have := ownBlock_ge hF3.row hx; have e' : x = mb := e; omega)
      have hF4 : FAt (Y1.setRow mb (foundCells { M2 with chain := M2.chain.set m.seg ⟨m.epoch, 1 + (jn : Int)⟩ } pf2).toArray) mb (w.heap.size + 1) { M2 with chain := M2.chain.set m.seg ⟨m.epoch, 1 + (jn : Int)⟩ } pf2 := ⟨by simp only [List.length_set]; exact hcY, hh4, hrow4⟩
      have hsl8 : SliceOf (Y1.setRow mb (foundCells { M2 with chain := M2.chain.set m.seg ⟨m.epoch, 1 + (jn : Int)⟩ } pf2).toArray) (.slice ao5 R.length cap5) R.length (frs R) ao5 cap5 := ⟨rfl, hsl7.len, fun j x hx => by
        obtain ⟨b, o, e, hc⟩ := hsl7.cell j x hx
        refine ⟨b, o, e, ?_⟩
        have hbb := HOB.out b o e
        rw [hoS.cell (World.block_lt_of_cell? _ _ hc) (fun e => by have e' : b = mb := e; omega)]; exact hc⟩
      have hO4 := hO3.trans hoS
      have hzS := hoS.size
      generalize hM3' : ({ M2 with chain := M2.chain.set m.seg ⟨m.epoch, 1 + (jn : Int)⟩ } : Found) = M3 at hF4 hoS hsl8 hO4 hM5 hb4 hcolb4 hzS
      have hM3d : M3.sealed = m.sealed := by rw [← hM3', ← hM2d]
      have HM3 := Lib.hid hM3'
      clear hM3' e4 hh4 hrow4 hF3 hb3 hcolb3 hM4 hsl7 hO3 hoS
      generalize Y1.setRow mb (foundCells M3 pf2).toArray = Z at hF4 hsl8 hO4 hM5 hb4 hcolb4 hzS ⊢
      go_upto_region 20 with fail
      refine wp_mono (Q := OnlyN _) ?_ onlyN_mono
      refine wp_region_pick (fun V => V = Z.drew) [(0, 1), (1, 1), (2, 0), (3, 0), (4, 1), (5, 0), (6, 3), (7, 0), (8, 0), (9, 0), (10, 0), (11, 0)] (by kernel_rfl) (by kernel_rfl) (fun _ _ _ _ _ h => h.elim) rfl ?_
      have hoD := Only.drew Z (fun _ => False)
      have hF5 := hF4.only hoD
      have hb5 := hoD.keep hb4 id
      have hcolb5 := hoD.keep hcolb4 id
      have hM6 := hM5.only hoD
      have hsl9 := hsl8.only hoD
      have hO5 := hO4.trans (Only.drew Z _)
      have hzd4 : Z.drew.heap.size = Z.heap.size := rfl
      clear hF4 hb4 hcolb4 hM5 hsl8 hO4 hoD
      generalize Z.drew = Z1 at hF5 hb5 hcolb5 hM6 hsl9 hO5 hzd4 ⊢
      have q0 : Z1.cell? ⟨w.heap.size, 0, none⟩ = some (.pointer (some ⟨mb, 0, none⟩)) := cell_at hb5 0
      have q26 : Z1.cell? ⟨mb, 26, none⟩ = some (.int .i64 (m.sealed : Int)) := by rw [hF5.c26, hM3d]
      have qb : Z1.cell? ⟨W.heap.size, 0, none⟩ = some (.slice ao5 R.length cap5) := cell_at hcolb5 0
      have hsI : (m.sealed : Int) ≤ (cap5 : Int) := by omega
      have hsI0 : (0 : Int) ≤ (m.sealed : Int) := by omega
      have hJ3 := joinF_le (R.take m.sealed)
      have hfr := SliceOf.frontF hsl9 hsl0
      simp only [pickOps, List.getElem?_cons_zero, List.getElem?_cons_succ]
      iterate 5 (first | (refine wpL_pure (a' := ?_) ?_ rfl (fun W => ?_) ?_ ?_; rotate_left 2; (· go_simp; first | (go_bits; with_reducible rfl) | with_reducible rfl); (· simp only [put_some, List.setIfInBounds_toArray, List.set_cons_zero, List.set_cons_succ]; rfl)) | (refine wpL_held (a' := ?_) ?_ rfl (fun W hW => ?_) ?_ ?_; rotate_left 2; (· subst hW; go_simp; first | (go_bits; with_reducible rfl) | with_reducible rfl); (· simp only [put_some, List.setIfInBounds_toArray, List.set_cons_zero, List.set_cons_succ]; rfl)))
      refine wpL_pure (a' := ?_) (.slice ao5 m.sealed cap5) rfl (fun W => ?_) ?_ ?_; rotate_left 1
      · go_simp
      (· simp only [put_some, List.setIfInBounds_toArray, List.set_cons_zero, List.set_cons_succ]; rfl)
      refine wpL_lastCall (f := 55) (args := #[.slice ao5 m.sealed cap5]) rfl (by kernel_rfl) ((join_any Z1 _ (R.take m.sealed) ao5 cap5 hfr (fun f hf => hrw f (List.mem_of_mem_take hf)) (by rw [List.length_take]; omega)).mono ?_)
      rintro ev V ⟨r, rfl, hr, hoV⟩
      refine ⟨_, rfl, ?_⟩
      simp only [put_some, List.setIfInBounds_toArray, List.set_cons_zero, List.set_cons_succ]
      iterate 5 (first | (refine wpL_pure (a' := ?_) ?_ rfl (fun W => ?_) ?_ ?_; rotate_left 2; (· go_simp; first | (go_bits; with_reducible rfl) | with_reducible rfl); (· simp only [put_some, List.setIfInBounds_toArray, List.set_cons_zero, List.set_cons_succ]; rfl)) | (refine wpL_held (a' := ?_) ?_ rfl (fun W hW => ?_) ?_ ?_; rotate_left 2; (· subst hW; go_simp; first | (go_bits; with_reducible rfl) | with_reducible rfl); (· simp only [put_some, List.setIfInBounds_toArray, List.set_cons_zero, List.set_cons_succ]; rfl)))
      refine wpL_nil ?_
      unfold OnlyN
      simp only
      obtain ⟨ao6, cap6, hsl10⟩ := sliceOf_own hr
      obtain rfl := hsl10.val
      have hF6 := hF5.only hoV
      have hb6 := hoV.keep hb5 id
      have hM7 := hM6.only hoV
      have hO6 := hO5.trans (hoV.mono (fun _ _ h => h.elim))
      have q0 : V.cell? ⟨w.heap.size, 0, none⟩ = some (.pointer (some ⟨mb, 0, none⟩)) := cell_at hb6 0
      have q27 : V.cell? ⟨mb, 27, none⟩ = some (.bool M3.loose) := hF6.c27
      have q27f : V.frozen? ⟨mb, 27, none⟩ = false := free_at hF6.head 27
      have hJ4 : (joinF (R.take m.sealed)).1.length ≤ 64 := by rw [List.length_take] at hJ3; omega
      have hJ5 : (joinF R).1.length ≤ 64 := by have := joinF_le R; omega
      have HDL : Hid (∀ r ∈ D :: Ds, w.heap.size ≤ r) := Lib.hid (fun r hr => by
        rcases List.mem_cons.1 hr with rfl | hr
        · omega
        · exact hDs r hr)
      clear hF5 hb5 hcolb5 hM6 hsl9 hO5 hfr hr hoV hsl10 hrw
      have HF6 := Lib.hid hF6
      have HO6 := Lib.hid hO6
      have HM7 := Lib.hid hM7
      clear hF6 hO6 hM7
      generalize hA : (joinF (R.take m.sealed)).1.length = A at *
      generalize hB2 : (joinF R).1.length = B2 at *
      have HA := Lib.hid hA
      have HB2 := Lib.hid hB2
      clear hA hB2
      go_wp2_with fail
      rw [Exit.noGoto_normal]
      refine leaves_marks (D :: Ds) (V.setCell ⟨mb, 27, none⟩ (.bool (decide (A < B2)))) (HM7.out.keeps (KeepsOthers.setCell _ _ _)) HDL.out fun w' hl => ?_
      have hset := heap_setCell_same V mb 27 _ _ (.bool (decide (A < B2))) HF6.out.head
      rw [List.setIfInBounds_toArray, foundCells_loose _ _ _ HF6.out.len] at hset
      have hrow := ownsRow_only HF6.out.row (Only.one V mb 27 (.bool (decide (A < B2)))) (fun x hx e => by have := ownBlock_ge HF6.out.row hx; have e' : x = mb := e; omega)
      have hfin : ({ M3 with loose := decide (A < B2) } : Found) = take (frAt d per) per m := by
        rw [HTK.out, ← HM3.out, ← HM2.out]
      refine ⟨.tuple #[], ?_, rfl, ⟨pf2, ?_⟩, ?_⟩
      · simp [results, Tryd.f34, go_sem]
      · rw [← hfin]
        refine ⟨HF6.out.len, hl.cells _ _ _ _ hset, hrow.1, ?_⟩
        rcases hrow.2 with h | ⟨g, c2, cur, e, hg, hc, r⟩
        · exact .inl h
        · exact .inr ⟨g, c2, cur, e, hg, hl.cells _ _ _ _ hc, r⟩
      · exact (HO6.out.trans (Only.setCell (S := fun k => k = mb) V mb 27 _ rfl)).trans' (only_of_below hl.below) (fun y hy e => by omega)
end Go.Proofs.YtlgefjcfnnjkbaaDoor
