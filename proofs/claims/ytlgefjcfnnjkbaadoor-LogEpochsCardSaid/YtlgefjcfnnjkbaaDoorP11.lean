/- Parts of the proof, one behind the other: LogN. Each part's own words say what it proves; no conditions. -/
import Derived.Test.YtlgefjcfnnjkbaaDoorP05
import Derived.Test.YtlgefjcfnnjkbaaDoorP10
set_option linter.unusedVariables false
set_option linter.unusedSimpArgs false
set_option linter.unusedSectionVars false
/- A link's text is read. No conditions. -/
namespace Go.Proofs.YtlgefjcfnnjkbaaDoor
set_option maxRecDepth 100000
open Go.RowKit

theorem Tryd.allocChain (w : World) : (Instr.alloc 60 true (.tuple #[])).run Tryd.prog w = .ok (.pointer (some ⟨w.heap.size, 0, none⟩)) (w.alloc (.cells (usCells Ch.no).toArray 60)) := by kernel_rfl
theorem Tryd.buildChain (w : World) : (Instr.build 60 #[]).run Tryd.prog w = .ok (.agg (usCells Ch.no).toArray) w := by kernel_rfl
theorem Tryd.sizeChain : (Tryd.prog.info? 60).map (·.size) = some 24 := by kernel_rfl
theorem usCells_one (c : List Us) : ∀ v ∈ usCells c, v.oneCell' = true := by
  intro v hv
  simp only [usCells, List.mem_flatten, List.mem_map] at hv
  obtain ⟨l, ⟨u, _, rfl⟩, hv⟩ := hv
  rcases List.mem_cons.1 hv with rfl | hv
  · rfl
  · obtain rfl : v = .int .i64 u.c := by simpa using hv
    rfl

theorem Tryd.buildUse (a b : Int) (w : World) : (Instr.build 58 #[(0, .int .i64 a), (1, .int .i64 b)]).run Tryd.prog w = .ok (.agg #[.int .i64 a, .int .i64 b]) w := by kernel_rfl
theorem exec_binOp {P : Program} {ρ : Operand → Value} {o : Oper} {op : BinOp} {t t' : TypeId} {x y : Operand} (ho : o.op = .binOp op t x y t') {W : World} {vx vy r : Value} (hx : ρ x = vx) (hy : ρ y = vy) (hg : (eqGuard op t x y vx vy).run P W = .ok () W) (h : (binOp op t vx vy).run P W = .ok r W) :
    (execOp ρ o).run P W = .ok (.value r) W := by
  simp [execOp, ho, hx, hy, hg, h]
theorem wpList_binOp_run {P : Program} {ops : Array Oper} {rest : List Oper} {a : Act} {Q : Exit → Act → World → Prop} {W : World} {dst : Option Tmp} {x y : Operand} {op : BinOp} {t t' ty : TypeId} {pos : String} {after : Array Edge}
    (vx vy r : Value) (hg : (eqGuard op t x y vx vy).run P W = .ok () W) (h : (binOp op t vx vy).run P W = .ok r W) (hx : a.eval x = vx) (hy : a.eval y = vy) (hK : wpList P ops Q rest (a.put dst r) W) :
    wpList P ops Q ({ dst := dst, op := .binOp op t x y t', type := ty, pos := pos, after := after, guard := none } :: rest) a W :=
  wpList_run rfl (exec_binOp rfl hx hy hg h) hK
theorem Tryd.eqlUse (a b : Int) (W : World) : (binOp .eql 58 (.agg #[.int .i64 a, .int .i64 b]) (.agg #[.int .i64 0, .int .i64 0])).run Tryd.prog W = .ok (.bool (decide (a = 0 ∧ b = 0))) W := by
  by_cases ha : a = 0 <;> by_cases hb : b = 0 <;> simp [go_sem, ha, hb]
theorem linkTo_none (f : Fr) (own per : Nat) {k : Nat} (h : linkTo f own per k = none) : ∀ n, k ≤ n → linkTo f own per n = none := by
  intro n hn
  induction n with
  | zero => obtain rfl : k = 0 := by omega
            exact h
  | succ n ih =>
    rcases Nat.eq_or_lt_of_le hn with rfl | hn
    · exact h
    · show (linkTo f own per n).bind _ = _
      rw [ih (by omega)]
      rfl
theorem laid_usCells (c : List Us) (k : Nat) (u : Us) (hk : k < c.length) : laid (usCells c) (k * 2) [.int .i64 u.e, .int .i64 u.c] = usCells (c.set k u) := by
  have key : ∀ (c : List Us) (k : Nat), k < c.length → (usCells c).take (2 * k) ++ [Value.int .i64 u.e, .int .i64 u.c] ++ (usCells c).drop (2 * k + 2) = usCells (c.set k u) := by
    intro c
    induction c with
    | nil => intro k h; simp at h
    | cons x c ih =>
      intro k hk
      cases k with
      | zero => simp [usCells]
      | succ k =>
        have := ih k (by simpa using hk)
        simp only [usCells, List.map_cons, List.flatten_cons, List.set_cons_succ] at this ⊢
        rw [← this, show 2 * (k + 1) = 2 * k + 1 + 1 by omega]
        simp
  have := key c k hk
  unfold laid
  rw [Nat.mul_comm 2 k, List.append_assoc] at this
  exact this
def linkV (r : Option (List Us)) : Value := match r with
  | some c => .tuple #[.agg (usCells c).toArray, .bool true]
  | none => .tuple #[.agg (usCells Ch.no).toArray, .bool false]

set_option maxHeartbeats 8000000 in
theorem link_any (w : World) (gb : Nat) (f : Fr) (own per segs : Nat) (h1 : w.cell? ⟨gb, 1, none⟩ = some (.int .i64 (per : Int))) (h2 : w.cell? ⟨gb, 2, none⟩ = some (.int .i64 (segs : Int))) (hs12 : segs ≤ 12) (hfs : f.s.length ≤ 1000) :
    Calls Tryd.prog 30 #[.pointer (some ⟨gb, 0, none⟩), .agg #[.int .i64 f.e, .int .i64 f.a, .int .i64 f.k, .string ⟨f.s.toArray⟩], .int .i64 (own : Int)] w fun e w' => e = .returned (linkV (linkP f own per segs)) ∧ Only (fun _ => False) w w' := by
  obtain ⟨W3, hW3⟩ : ∃ W3, W3 = ((w.alloc (.cells #[.int .i64 f.e, .int .i64 f.a, .int .i64 f.k, .string ⟨f.s.toArray⟩] 86)).alloc (.cells #[.int .i64 0, .int .i64 0, .int .i64 0, .int .i64 0, .int .i64 0, .int .i64 0, .int .i64 0, .int .i64 0, .int .i64 0, .int .i64 0, .int .i64 0, .int .i64 0, .int .i64 0, .int .i64 0, .int .i64 0, .int .i64 0, .int .i64 0, .int .i64 0, .int .i64 0, .int .i64 0, .int .i64 0, .int .i64 0, .int .i64 0, .int .i64 0] 60)).alloc (.cells #[.int .i64 0, .int .i64 0, .int .i64 0, .int .i64 0, .int .i64 0, .int .i64 0, .int .i64 0, .int .i64 0, .int .i64 0, .int .i64 0, .int .i64 0, .int .i64 0, .int .i64 0, .int .i64 0, .int .i64 0, .int .i64 0, .int .i64 0, .int .i64 0, .int .i64 0, .int .i64 0, .int .i64 0, .int .i64 0, .int .i64 0, .int .i64 0] 60) := ⟨_, rfl⟩
  obtain ⟨s1, o1, q0, q1, q2⟩ : W3.heap.size = w.heap.size + 3 ∧ Only (fun _ => False) w W3 ∧ W3.heap[w.heap.size]? = some (.cells #[.int .i64 f.e, .int .i64 f.a, .int .i64 f.k, .string ⟨f.s.toArray⟩] 86 (0, 0)) ∧ W3.heap[w.heap.size + 1]? = some (.cells (usCells Ch.no).toArray 60 (0, 0)) ∧ W3.heap[w.heap.size + 2]? = some (.cells (usCells Ch.no).toArray 60 (0, 0)) := by
    subst hW3
    have a1 := heap_alloc_any w (.cells #[.int .i64 f.e, .int .i64 f.a, .int .i64 f.k, .string ⟨f.s.toArray⟩] 86)
    have a2 := heap_alloc_any (w.alloc (.cells #[.int .i64 f.e, .int .i64 f.a, .int .i64 f.k, .string ⟨f.s.toArray⟩] 86)) (.cells #[.int .i64 0, .int .i64 0, .int .i64 0, .int .i64 0, .int .i64 0, .int .i64 0, .int .i64 0, .int .i64 0, .int .i64 0, .int .i64 0, .int .i64 0, .int .i64 0, .int .i64 0, .int .i64 0, .int .i64 0, .int .i64 0, .int .i64 0, .int .i64 0, .int .i64 0, .int .i64 0, .int .i64 0, .int .i64 0, .int .i64 0, .int .i64 0] 60)
    have a3 := heap_alloc_any ((w.alloc (.cells #[.int .i64 f.e, .int .i64 f.a, .int .i64 f.k, .string ⟨f.s.toArray⟩] 86)).alloc (.cells #[.int .i64 0, .int .i64 0, .int .i64 0, .int .i64 0, .int .i64 0, .int .i64 0, .int .i64 0, .int .i64 0, .int .i64 0, .int .i64 0, .int .i64 0, .int .i64 0, .int .i64 0, .int .i64 0, .int .i64 0, .int .i64 0, .int .i64 0, .int .i64 0, .int .i64 0, .int .i64 0, .int .i64 0, .int .i64 0, .int .i64 0, .int .i64 0] 60)) (.cells #[.int .i64 0, .int .i64 0, .int .i64 0, .int .i64 0, .int .i64 0, .int .i64 0, .int .i64 0, .int .i64 0, .int .i64 0, .int .i64 0, .int .i64 0, .int .i64 0, .int .i64 0, .int .i64 0, .int .i64 0, .int .i64 0, .int .i64 0, .int .i64 0, .int .i64 0, .int .i64 0, .int .i64 0, .int .i64 0, .int .i64 0, .int .i64 0] 60)
    have oo := fun (X : World) (y : Obj) => Only.alloc X y (fun _ => False)
    simp only [World.size_alloc] at a2 a3
    exact ⟨by simp only [World.size_alloc], ((oo _ _).trans (oo _ _)).trans (oo _ _), (oo _ _).keep ((oo _ _).keep a1 id) id, (oo _ _).keep a2 id, a3⟩
  have f0 : W3.cell? ⟨w.heap.size, 0, none⟩ = some (.int .i64 f.e) := cell_at q0 0
  have f2 : W3.cell? ⟨w.heap.size, 2, none⟩ = some (.int .i64 f.k) := cell_at q0 2
  have f3 : W3.cell? ⟨w.heap.size, 3, none⟩ = some (.string ⟨f.s.toArray⟩) := cell_at q0 3
  have p1 : W3.cell? ⟨gb, 1, none⟩ = some (.int .i64 (per : Int)) := by rw [o1.cell (World.block_lt_of_cell? _ _ h1) id]; exact h1
  have p2 : W3.cell? ⟨gb, 2, none⟩ = some (.int .i64 (segs : Int)) := by rw [o1.cell (World.block_lt_of_cell? _ _ h2) id]; exact h2
  have HW3 := Lib.hid hW3
  clear hW3
  go_enter Tryd.func30, Tryd.ntmps30
  go_upto_region 2 with fail
  rw [← HW3.out]
  refine wp_region_pick (fun W => W = W3.drew) [(0, 0), (1, 1), (2, 0), (3, 0), (4, 0), (5, 1), (6, 0), (7, 0), (8, 0), (9, 0), (10, 1), (11, 0), (12, 0), (13, 0)] (by kernel_rfl) (by kernel_rfl) (fun _ _ d _ _ h => by cases d <;> exact h) rfl ?_
  have o2 := o1.trans (Only.drew W3 _)
  replace s1 : W3.drew.heap.size = w.heap.size + 3 := s1
  replace q0 : W3.drew.heap[w.heap.size]? = _ := q0
  replace q1 : W3.drew.heap[w.heap.size + 1]? = _ := q1
  replace q2 : W3.drew.heap[w.heap.size + 2]? = _ := q2
  replace f0 : W3.drew.cell? ⟨w.heap.size, 0, none⟩ = _ := f0
  replace f2 : W3.drew.cell? ⟨w.heap.size, 2, none⟩ = _ := f2
  replace f3 : W3.drew.cell? ⟨w.heap.size, 3, none⟩ = _ := f3
  replace p1 : W3.drew.cell? ⟨gb, 1, none⟩ = _ := p1
  replace p2 : W3.drew.cell? ⟨gb, 2, none⟩ = _ := p2
  clear HW3 o1
  generalize W3.drew = W4 at s1 q0 q1 q2 f0 f2 f3 p1 p2 o2 ⊢
  have hsz := size_toArray f.s
  have hmul : (4 * segs : Nat) ≤ 48 := by omega
  by_cases hk : f.k = 1
  · have hkb : (f.k != 1) = false := by simp [hk]
    by_cases hlen : f.s.length = 4 * segs
    · have hlb : ((f.s.length : Int) != 4 * (segs : Int)) = false := by simp; omega
      have HPL := Lib.hid (show linkP f own per segs = linkTo f own per segs by unfold linkP; rw [if_pos ⟨hk, hlen⟩])
      have HS1 := Lib.hid s1
      have HLN := Lib.hid hlen
      clear s1 hk hlen
      simp only [pickOps, List.getElem?_cons_zero, List.getElem?_cons_succ]
      iterate 14 (first | (refine wpL_pure (a' := ?_) ?_ rfl (fun W => ?_) ?_ ?_; rotate_left 2; (· go_simp; first | (go_bits; with_reducible rfl) | with_reducible rfl); (· simp only [put_some, List.setIfInBounds_toArray, List.set_cons_zero, List.set_cons_succ]; rfl)) | (refine wpL_held (a' := ?_) ?_ rfl (fun W hW => ?_) ?_ ?_; rotate_left 2; (· subst hW; go_simp; first | (go_bits; with_reducible rfl) | with_reducible rfl); (· simp only [put_some, List.setIfInBounds_toArray, List.set_cons_zero, List.set_cons_succ]; rfl)) | (refine wpL_skip rfl (by simp only [put_some, List.setIfInBounds_toArray, List.set_cons_zero, List.set_cons_succ]; rfl) ?_) | (refine wpL_heldSkip rfl (by simp only [put_some, List.setIfInBounds_toArray, List.set_cons_zero, List.set_cons_succ]; rfl) ?_))
      refine wpL_nil ?_
      clear hkb hlb hsz
      go_wp2_with fail
      go_loopw [31] (fun i wr => ∃ (k : Nat) (c : List Us), k ≤ segs ∧ i = .int .i64 (k : Int) ∧ Hid (linkTo f own per k = some c) ∧ c.length = 12 ∧ Hid (wr.heap[w.heap.size + 2]? = some (.cells (usCells c).toArray 60 (0, 0))) ∧ Only (fun x => x = w.heap.size + 2) W4 wr) (fun i _ => 13 - (intOf i).toNat)
      case atStart => exact ⟨0, Ch.no, by omega, rfl, Lib.hid rfl, rfl, Lib.hid q2, Only.refl _ _⟩
      case round =>
        obtain ⟨k, c, hk, rfl, hto, hcl, hrow, hor⟩ := hrel
        by_cases hks : k < segs
        · have hI : (k : Int) < (segs : Int) := by omega
          have hb3 : wr.cell? ⟨w.heap.size, 3, none⟩ = some (.string ⟨f.s.toArray⟩) := cell_at (hor.keep q0 (fun e => by omega)) 3
          have hsz := size_toArray f.s
          rw [HLN.out] at hsz
          have hex := extract_list f.s (4 * k) (4 * segs)
          rw [List.take_of_length_le (by rw [HLN.out]; omega)] at hex
          have hu : useAt f.s k = ⟨((((f.s.drop (4 * k)).getD 0 0).toNat * 65536 + ((f.s.drop (4 * k)).getD 1 0).toNat * 256 + ((f.s.drop (4 * k)).getD 2 0).toNat : Nat) : Int), (((f.s.drop (4 * k)).getD 3 0).toNat : Int)⟩ := by
            unfold useAt
            simp only [List.getD, List.getElem?_drop, Nat.add_zero]
          obtain ⟨n4, hn4, hll⟩ : ∃ n4, 4 ≤ n4 ∧ (f.s.drop (4 * k)).length = n4 := ⟨4 * (segs - k), by omega, by rw [List.length_drop, HLN.out]; omega⟩
          generalize f.s.drop (4 * k) = l4 at hex hu hll
          have hlz := size_toArray l4
          rw [hll] at hlz
          have hx0 := byte_at l4 0 (by rw [hlz]; omega)
          have hx1 := byte_at l4 1 (by rw [hlz]; omega)
          have hx2 := byte_at l4 2 (by rw [hlz]; omega)
          have hx3 := byte_at l4 3 (by rw [hlz]; omega)
          have c0 := (l4.getD 0 0).toNat_lt
          have c1 := (l4.getD 1 0).toNat_lt
          have c2 := (l4.getD 2 0).toNat_lt
          have c3 := (l4.getD 3 0).toNat_lt
          generalize l4.getD 0 0 = b0 at hx0 c0 hu
          generalize l4.getD 1 0 = b1 at hx1 c1 hu
          generalize l4.getD 2 0 = b2 at hx2 c2 hu
          generalize l4.getD 3 0 = b3 at hx3 c3 hu
          have g0 : 0 < n4 := by omega
          have g1 : (1 : Int) < (n4 : Int) := by omega
          have g2 : (2 : Int) < (n4 : Int) := by omega
          have g3 : (3 : Int) < (n4 : Int) := by omega
          have hj1 : (0 : Int) ≤ 4 * (k : Int) := by omega
          have hj2 : (4 : Int) * (k : Int) ≤ ((4 * segs : Nat) : Int) := by omega
          have hj2' : (4 : Int) * (k : Int) ≤ 4 * (segs : Int) := by omega
          have hj3 : ((4 : Int) * (k : Int)).toNat = 4 * k := by omega
          have HU := Lib.hid hu
          clear hu
          have HLL := Lib.hid hll
          have HRW := Lib.hid hrow.out
          go_upto_region 8 with fail
          refine wp_region_pick (fun W => True) [(0, 0), (1, 0), (2, 0), (3, 0), (4, 0), (5, 0), (6, 0), (7, 0), (8, 0), (9, 0), (10, 0), (11, 0), (12, 0), (13, 0), (14, 0), (15, 0), (16, 0), (17, 2), (18, 3)] (by kernel_rfl) (by kernel_rfl) (fun _ _ d _ _ h => by cases d <;> exact h) trivial ?_
          have ho5 := hor.trans (Only.drew wr _)
          have hr5 : wr.drew.heap[w.heap.size + 2]? = _ := HRW.out
          generalize wr.drew = w5 at ho5 hr5 ⊢
          simp only [pickOps, List.getElem?_cons_zero, List.getElem?_cons_succ]
          iterate 16 (refine wpL_pure (a' := ?_) ?_ rfl (fun W => ?_) ?_ ?_; rotate_left 2; (· go_simp; first | (go_bits; with_reducible rfl) | with_reducible rfl); (· simp only [put_some, List.setIfInBounds_toArray, List.set_cons_zero, List.set_cons_succ]; rfl))
          have T3 := three_bytes b0.toNat b1.toNat b2.toNat c0 c1 c2
          rw [T3]
          clear T3
          obtain ⟨en, hen⟩ : ∃ en, en = b0.toNat * 65536 + b1.toNat * 256 + b2.toNat := ⟨_, rfl⟩
          have henl : en < 16777216 := by omega
          have HU2 := HU.out
          rw [← hen] at HU2 ⊢
          have HU3 := Lib.hid HU2
          clear hx0 hx1 hx2 hx3 hex hj1 hj2 hj2' hj3 hen HU HU2 hlz hll HLL g0 g1 g2 g3 hsz c0 c1 c2 hb3 hrow hor HRW
          refine wpL_pure (a' := ?_) (.agg #[.int .i64 (en : Int), .int .i64 (b3.toNat : Int)]) rfl (fun W => exec_buildN rfl (parts := #[(0, .int .i64 (en : Int)), (1, .int .i64 (b3.toNat : Int))]) (by simp only [List.map_toArray, List.map_cons, List.map_nil]; go_simp) (Tryd.buildUse _ _ W)) ?_ ?_; rotate_left; (· simp only [put_some, List.setIfInBounds_toArray, List.set_cons_zero, List.set_cons_succ]; rfl)
          have hal := heap_alloc_new w5 (.cells #[.int .i64 0, .int .i64 0] 58)
          refine wpL_stepRun (a' := ?_) (w' := w5.alloc (.cells #[.int .i64 0, .int .i64 0] 58)) (.pointer (some ⟨w5.heap.size, 0, none⟩)) rfl (exec_alloc rfl (Tryd.allocUse w5)) trivial ?_ ?_; rotate_left; (· simp only [put_some, List.setIfInBounds_toArray, List.set_cons_zero, List.set_cons_succ]; rfl)
          have hST := run_store_part (P := Tryd.prog) (w5.alloc (.cells #[.int .i64 0, .int .i64 0] 58)) w5.heap.size 0 2 58 58 [.int .i64 0, .int .i64 0] [.int .i64 (en : Int), .int .i64 (b3.toNat : Int)] Tryd.sizeUse rfl hal (by simp) (by simp [Value.oneCell'])
          refine wpL_lastDone (a' := ?_) (w' := (w5.alloc (.cells #[.int .i64 0, .int .i64 0] 58)).setRow w5.heap.size #[.int .i64 (en : Int), .int .i64 (b3.toNat : Int)]) rfl (exec_store rfl (p := .pointer (some ⟨w5.heap.size, 0, none⟩)) (v := .agg #[.int .i64 (en : Int), .int .i64 (b3.toNat : Int)]) rfl rfl hST) ?_ ?_; rotate_left; (· simp only [put_none]; rfl)
          refine wpL_nil ?_
          have hg6 := setRow_heap _ w5.heap.size _ #[.int .i64 (en : Int), .int .i64 (b3.toNat : Int)] _ _ hal
          have ho6 := ((Only.alloc w5 (.cells #[.int .i64 0, .int .i64 0] 58) (fun _ => False)).trans' (Only.setRow (w5.alloc (.cells #[.int .i64 0, .int .i64 0] 58)) w5.heap.size #[.int .i64 (en : Int), .int .i64 (b3.toNat : Int)] (S := fun x => x = w5.heap.size) rfl) (fun y hy e => by omega))
          have hs5 := ho5.size
          generalize (w5.alloc (.cells #[.int .i64 0, .int .i64 0] 58)).setRow w5.heap.size #[.int .i64 (en : Int), .int .i64 (b3.toNat : Int)] = w6 at hg6 ho6 ⊢
          have hr6 := ho6.keep hr5 id
          have ho7 := ho5.trans (ho6.mono (fun _ _ h => h.elim))
          have hq1 := ho7.keep q1 (fun e => by omega)
          have hf6 : w6.cell? ⟨w.heap.size, 0, none⟩ = some (.int .i64 f.e) := cell_at (ho7.keep q0 (fun e => by omega)) 0
          have hp6 : w6.cell? ⟨gb, 1, none⟩ = some (.int .i64 (per : Int)) := by rw [ho7.cell (World.block_lt_of_cell? _ _ p1) (fun e => by have hlt : gb < w.heap.size := World.block_lt_of_cell? _ _ h1; have e' : gb = w.heap.size + 2 := e; omega)]; exact p1
          generalize htb : w5.heap.size = tb at hg6 ⊢
          have htb2 : w.heap.size + 2 < tb := by have := lt_of_block q2; omega
          have u0 : w6.cell? ⟨tb, 0, none⟩ = some (.int .i64 (en : Int)) := cell_at hg6 0
          have u1 : w6.cell? ⟨tb, 1, none⟩ = some (.int .i64 (b3.toNat : Int)) := cell_at hg6 1
          have HTB := Lib.hid htb
          have HLS := Lib.hid (show linkTo f own per (k + 1) = linkStep f own per c k by show (linkTo f own per k).bind _ = _; rw [hto.out]; rfl)
          have HO7 := Lib.hid ho7
          have HS5 := Lib.hid hs5
          have HR6 := Lib.hid hr6
          have HG6 := Lib.hid hg6
          have HQ1 := Lib.hid hq1
          clear hST hal ho6 hr5 ho5 hs5 hr6 ho7 hg6 htb hq1 f0 f2 f3 p1 p2
          have HEQ := Lib.hid (Tryd.eqlUse (en : Int) (b3.toNat : Int) w6)
          generalize hB : decide ((en : Int) = 0 ∧ (b3.toNat : Int) = 0) = B at HEQ
          have HB := Lib.hid hB
          clear hB
          rcases Bool.eq_false_or_eq_true B with rfl | rfl
          · go_wp2_with (first | ((with_reducible refine wpList_binOp_run (.agg #[.int .i64 (en : Int), .int .i64 (b3.toNat : Int)]) (.agg #[.int .i64 0, .int .i64 0]) (.bool true) ?_ ?_ ?_ ?_ ?_); (· kernel_rfl); (· exact HEQ.out); (· rfl); (· rfl)) | ((with_reducible refine wpList_load_block tb 58 [.int .i64 (en : Int), .int .i64 (b3.toNat : Int)] ?_ ?_ ?_ ?_ ?_); (· exact ⟨_, Tryd.underlying58, rfl⟩); (· exact Tryd.sizeUse); (· exact HG6.out); (· rfl)))
            have HN := of_decide_eq_true HB.out
            have hun : useAt f.s k = Us.no := by rw [HU3.out, Us.no, HN.1, HN.2]
            refine ⟨⟨k + 1, c, by omega, rfl, Lib.hid (by rw [HLS.out]; unfold linkStep; simp [hun]), hcl, HR6, HO7.out⟩, by simp [intOf]; omega⟩
          · have HN := Lib.hid (of_decide_eq_false HB.out)
            go_upto_region 10 with (first | ((with_reducible refine wpList_binOp_run (.agg #[.int .i64 (en : Int), .int .i64 (b3.toNat : Int)]) (.agg #[.int .i64 0, .int .i64 0]) (.bool false) ?_ ?_ ?_ ?_ ?_); (· kernel_rfl); (· exact HEQ.out); (· rfl); (· rfl)) | ((with_reducible refine wpList_load_block tb 58 [.int .i64 (en : Int), .int .i64 (b3.toNat : Int)] ?_ ?_ ?_ ?_ ?_); (· exact ⟨_, Tryd.underlying58, rfl⟩); (· exact Tryd.sizeUse); (· exact HG6.out); (· rfl)))
            have HN2 := HN.out
            have hnz : useAt f.s k ≠ Us.no := fun h => HN2 (by rw [HU3.out, Us.no] at h; simpa using h)
            have HSTEP : Hid (linkStep f own per c k = if k = own ∨ (en : Int) = 0 ∨ f.e ≤ (en : Int) ∨ (b3.toNat : Int) < 1 ∨ (per : Int) < (b3.toNat : Int) then none else if c.any (fun o => o.e == (en : Int)) then none else some (c.set k (useAt f.s k))) := Lib.hid (by
              unfold linkStep
              simp only [if_neg hnz]
              rw [HU3.out])
            clear hnz HN2 HB HEQ HN
            refine wp_region_pick (fun W => W = w6.drew) [(0, 0), (1, 0), (2, 0), (3, 0), (4, 0), (5, 1), (6, 0), (7, 0), (8, 0), (9, 0), (10, 1), (11, 0), (12, 1), (13, 0), (14, 0), (15, 0), (16, 0), (17, 1), (18, 0), (19, 0), (20, 0), (21, 0), (22, 1), (23, 0), (24, 0), (25, 0), (26, 1), (27, 0), (28, 0)] (by kernel_rfl) (by kernel_rfl) (fun _ _ d _ _ h => by cases d <;> exact h) rfl ?_
            have HO8 := Lib.hid (HO7.out.trans (Only.drew w6 _))
            have HR8 : Hid (w6.drew.heap[w.heap.size + 2]? = some (.cells (usCells c).toArray 60 (0, 0))) := HR6
            have HG8 : Hid (w6.drew.heap[tb]? = _) := HG6
            have HQ8 : Hid (w6.drew.heap[w.heap.size + 1]? = _) := HQ1
            replace u0 : w6.drew.cell? ⟨tb, 0, none⟩ = _ := u0
            replace u1 : w6.drew.cell? ⟨tb, 1, none⟩ = _ := u1
            replace hf6 : w6.drew.cell? ⟨w.heap.size, 0, none⟩ = _ := hf6
            replace hp6 : w6.drew.cell? ⟨gb, 1, none⟩ = _ := hp6
            clear HO7 HR6 HG6 HQ1
            generalize w6.drew = w7 at HO8 HR8 HG8 HQ8 u0 u1 hf6 hp6 ⊢
            by_cases hbad : k = own ∨ (en : Int) = 0 ∨ f.e ≤ (en : Int) ∨ (b3.toNat : Int) < 1 ∨ (per : Int) < (b3.toNat : Int)
            · have HNO := Lib.hid (linkTo_none f own per (k := k + 1) (by rw [HLS.out, HSTEP.out, if_pos hbad]) segs (by omega))
              have hb1 : (((k : Int) == (own : Int)) = true) ∨ (((k : Int) == (own : Int)) = false ∧ (((en : Int) == 0) = true)) ∨ (((k : Int) == (own : Int)) = false ∧ (((en : Int) == 0) = false) ∧ f.e ≤ (en : Int)) ∨ (((k : Int) == (own : Int)) = false ∧ (((en : Int) == 0) = false) ∧ ¬ f.e ≤ (en : Int) ∧ (b3.toNat : Int) < 1) ∨
                  (((k : Int) == (own : Int)) = false ∧ (((en : Int) == 0) = false) ∧ ¬ f.e ≤ (en : Int) ∧ ¬ (b3.toNat : Int) < 1 ∧ (per : Int) < (b3.toNat : Int)) := by
                simp only [beq_iff_eq, beq_eq_false_iff_ne, ne_eq]
                omega
              clear hbad HSTEP HLS
              rcases hb1 with e1 | ⟨e1, e2⟩ | ⟨e1, e2, e3⟩ | ⟨e1, e2, e3, e4⟩ | ⟨e1, e2, e3, e4, e5⟩
              all_goals
                simp only [pickOps, List.getElem?_cons_zero, List.getElem?_cons_succ]
                iterate 29 (first | (refine wpL_pure (a' := ?_) ?_ rfl (fun W => ?_) ?_ ?_; rotate_left 2; (· go_simp; first | (go_bits; with_reducible rfl) | with_reducible rfl); (· simp only [put_some, List.setIfInBounds_toArray, List.set_cons_zero, List.set_cons_succ]; rfl)) | (refine wpL_held (a' := ?_) ?_ rfl (fun W hW => ?_) ?_ ?_; rotate_left 2; (· subst hW; go_simp; first | (go_bits; with_reducible rfl) | with_reducible rfl); (· simp only [put_some, List.setIfInBounds_toArray, List.set_cons_zero, List.set_cons_succ]; rfl)) | (refine wpL_skip rfl (by simp only [put_some, List.setIfInBounds_toArray, List.set_cons_zero, List.set_cons_succ]; rfl) ?_) | (refine wpL_heldSkip rfl (by simp only [put_some, List.setIfInBounds_toArray, List.set_cons_zero, List.set_cons_succ]; rfl) ?_))
                refine wpL_nil ?_
                clear u0 u1 hf6 hp6
                go_wp2_with ((with_reducible refine wpList_store_block (w.heap.size + 1) 60 (usCells Ch.no) (usCells Ch.no) ?_ ?_ ?_ ?_ ?_ ?_ ?_); (· exact Tryd.sizeChain); (· exact HQ8.out); (· rfl); (· exact usCells_one _); (· rfl); (· rfl))
                rw [HPL.out, HNO.out]
                refine bodyPost_ret (results_cell_tmp rfl _ _ (w.heap.size + 1) 60 (usCells Ch.no).toArray (0, 0) _ rfl (setRow_heap _ _ _ _ _ _ HQ8.out) Tryd.underlying60 rfl Tryd.sizeChain) rfl ?_
                exact ⟨rfl, (o2.trans' HO8.out (fun y hy e => by omega)).trans' (Only.setRow _ _ _ (S := fun x => x = w.heap.size + 1) rfl) (fun y hy e => by omega)⟩

            · have hb : ((k : Int) == (own : Int)) = false ∧ (((en : Int) == 0) = false) ∧ ¬ f.e ≤ (en : Int) ∧ ¬ (b3.toNat : Int) < 1 ∧ ¬ (per : Int) < (b3.toNat : Int) := by
                simp only [beq_eq_false_iff_ne, ne_eq]
                omega
              obtain ⟨e1, e2, e3, e4, e5⟩ := hb
              have HST2 := Lib.hid (HSTEP.out.trans (if_neg hbad))
              clear hbad HSTEP
              simp only [pickOps, List.getElem?_cons_zero, List.getElem?_cons_succ]
              iterate 29 (first | (refine wpL_pure (a' := ?_) ?_ rfl (fun W => ?_) ?_ ?_; rotate_left 2; (· go_simp; first | (go_bits; with_reducible rfl) | with_reducible rfl); (· simp only [put_some, List.setIfInBounds_toArray, List.set_cons_zero, List.set_cons_succ]; rfl)) | (refine wpL_held (a' := ?_) ?_ rfl (fun W hW => ?_) ?_ ?_; rotate_left 2; (· subst hW; go_simp; first | (go_bits; with_reducible rfl) | with_reducible rfl); (· simp only [put_some, List.setIfInBounds_toArray, List.set_cons_zero, List.set_cons_succ]; rfl)) | (refine wpL_skip rfl (by simp only [put_some, List.setIfInBounds_toArray, List.set_cons_zero, List.set_cons_succ]; rfl) ?_) | (refine wpL_heldSkip rfl (by simp only [put_some, List.setIfInBounds_toArray, List.set_cons_zero, List.set_cons_succ]; rfl) ?_))
              refine wpL_nil ?_
              clear e1 e2 e3 e4 e5 hf6 hp6 u1
              have hC8 : CAt w7 (w.heap.size + 2) 0 c := ⟨hcl, fun j x hx => by rw [Nat.zero_add, cell_at HR8.out, List.getElem?_toArray]; exact hx⟩
              have HCF := Lib.hid (contains_any w7 (w.heap.size + 2) c tb (en : Int) hC8 u0)
              clear hC8 u0
              go_wp2_with fail
              refine HCF.out.mono ?_
              rintro ev w9 ⟨rfl, ho9⟩
              have HO9 := Lib.hid (HO8.out.trans (ho9.mono (fun _ _ h => h.elim)))
              have HR9 := Lib.hid (ho9.keep HR8.out id)
              have HG9 := Lib.hid (ho9.keep HG8.out id)
              have HQ9 := Lib.hid (ho9.keep HQ8.out id)
              clear ho9 HCF HO8 HR8 HG8 HQ8
              by_cases hany : (c.any fun o => o.e == (en : Int)) = true
              · have HNO := Lib.hid (linkTo_none f own per (k := k + 1) (by rw [HLS.out, HST2.out, if_pos hany]) segs (by omega))
                rw [hany]
                clear hany HST2 HLS
                go_wp2_with ((with_reducible refine wpList_store_block (w.heap.size + 1) 60 (usCells Ch.no) (usCells Ch.no) ?_ ?_ ?_ ?_ ?_ ?_ ?_); (· exact Tryd.sizeChain); (· exact HQ9.out); (· rfl); (· exact usCells_one _); (· rfl); (· rfl))
                rw [HPL.out, HNO.out]
                refine bodyPost_ret (results_cell_tmp rfl _ _ (w.heap.size + 1) 60 (usCells Ch.no).toArray (0, 0) _ rfl (setRow_heap _ _ _ _ _ _ HQ9.out) Tryd.underlying60 rfl Tryd.sizeChain) rfl ?_
                exact ⟨rfl, (o2.trans' HO9.out (fun y hy e => by omega)).trans' (Only.setRow _ _ _ (S := fun x => x = w.heap.size + 1) rfl) (fun y hy e => by omega)⟩
              · have HTO := Lib.hid (show linkTo f own per (k + 1) = some (c.set k ⟨(en : Int), (b3.toNat : Int)⟩) by rw [HLS.out, HST2.out, if_neg hany, HU3.out])
                have hany' : (c.any fun o => o.e == (en : Int)) = false := by simpa using hany
                rw [hany']
                clear hany hany' HST2 HLS HU3
                have hk12 : k < 12 := by omega
                have hI3 : (k : Int) < 12 := by omega
                have hI4 : (0 : Int) ≤ (k : Int) := by omega
                have HLD := Lib.hid (laid_usCells c k ⟨(en : Int), (b3.toNat : Int)⟩ (by omega))
                have HCL := Lib.hid (show k * 2 + 2 ≤ (usCells c).length by rw [usCells_length]; omega)
                go_wp2_with first
                  | ((with_reducible refine wpList_load_block tb 58 [.int .i64 (en : Int), .int .i64 (b3.toNat : Int)] ?_ ?_ ?_ ?_ ?_); (· exact ⟨_, Tryd.underlying58, rfl⟩); (· exact Tryd.sizeUse); (· exact HG9.out); (· rfl))
                  | ((with_reducible refine wpList_store_part (w.heap.size + 2) (k * 2) 60 [.int .i64 (en : Int), .int .i64 (b3.toNat : Int)] (usCells c) ?_ ?_ ?_ ?_ ?_ ?_ ?_); (· exact Tryd.sizeUse); (· exact HR9.out); (· exact HCL.out); (· simp [Value.oneCell']); (· rfl); (· rfl))
                have hset := setRow_heap w9 (w.heap.size + 2) _ (laid (usCells c) (k * 2) [.int .i64 (en : Int), .int .i64 (b3.toNat : Int)]).toArray _ _ HR9.out
                rw [HLD.out] at hset ⊢
                exact ⟨⟨k + 1, c.set k ⟨(en : Int), (b3.toNat : Int)⟩, by omega, rfl, HTO, by rw [List.length_set]; exact hcl, Lib.hid hset, HO9.out.trans (Only.setRow _ _ _ (S := fun x => x = w.heap.size + 2) rfl)⟩, by simp [intOf]; omega⟩
        · obtain rfl : k = segs := by omega
          have hI : ¬ (k : Int) < (k : Int) := by omega
          have HQ1 := Lib.hid (hor.keep q1 (fun e => by omega))
          have HOr := Lib.hid hor
          have HTO := Lib.hid (HPL.out.trans hto.out)
          have hw2 : w.heap.size + 1 ≠ w.heap.size + 2 := by omega
          clear hor hto HPL
          go_wp2_with first
            | ((with_reducible refine wpList_load_block (w.heap.size + 2) 60 (usCells c) ?_ ?_ ?_ ?_ ?_); (· exact ⟨_, Tryd.underlying60, rfl⟩); (· rw [usCells_length, hcl]; exact Tryd.sizeChain); (· exact hrow.out); (· rfl))
            | ((with_reducible refine wpList_store_block (w.heap.size + 1) 60 (usCells c) (usCells Ch.no) ?_ ?_ ?_ ?_ ?_ ?_ ?_); (· rw [usCells_length, hcl]; exact Tryd.sizeChain); (· exact HQ1.out); (· rw [usCells_length, usCells_length, hcl]; rfl); (· exact usCells_one _); (· rfl); (· rfl))
          rw [HTO.out]
          refine bodyPost_ret (results_cell_tmp rfl _ _ (w.heap.size + 1) 60 (usCells c).toArray (0, 0) _ rfl (setRow_heap _ _ _ _ _ _ HQ1.out) Tryd.underlying60 rfl (by rw [List.size_toArray, usCells_length, hcl]; exact Tryd.sizeChain)) rfl ?_
          exact ⟨rfl, (o2.trans' HOr.out (fun y hy e => by omega)).trans' (Only.setRow _ _ _ (S := fun x => x = w.heap.size + 1) rfl) (fun y hy e => by omega)⟩
    · have hlb : ((f.s.length : Int) != 4 * (segs : Int)) = true := by simp; omega
      have HPL := Lib.hid (show linkP f own per segs = none by unfold linkP; rw [if_neg (fun h => hlen h.2)])
      have HS1 := Lib.hid s1
      clear s1 hk hlen
      simp only [pickOps, List.getElem?_cons_zero, List.getElem?_cons_succ]
      iterate 14 (first | (refine wpL_pure (a' := ?_) ?_ rfl (fun W => ?_) ?_ ?_; rotate_left 2; (· go_simp; first | (go_bits; with_reducible rfl) | with_reducible rfl); (· simp only [put_some, List.setIfInBounds_toArray, List.set_cons_zero, List.set_cons_succ]; rfl)) | (refine wpL_held (a' := ?_) ?_ rfl (fun W hW => ?_) ?_ ?_; rotate_left 2; (· subst hW; go_simp; first | (go_bits; with_reducible rfl) | with_reducible rfl); (· simp only [put_some, List.setIfInBounds_toArray, List.set_cons_zero, List.set_cons_succ]; rfl)) | (refine wpL_skip rfl (by simp only [put_some, List.setIfInBounds_toArray, List.set_cons_zero, List.set_cons_succ]; rfl) ?_) | (refine wpL_heldSkip rfl (by simp only [put_some, List.setIfInBounds_toArray, List.set_cons_zero, List.set_cons_succ]; rfl) ?_))
      refine wpL_nil ?_
      clear f0 f2 f3 p1 p2 hsz hkb hlb
      go_wp2_with ((with_reducible refine wpList_store_block (w.heap.size + 1) 60 (usCells Ch.no) (usCells Ch.no) ?_ ?_ ?_ ?_ ?_ ?_ ?_); (· exact Tryd.sizeChain); (· exact q1); (· rfl); (· exact usCells_one _); (· rfl); (· rfl))
      rw [HPL.out]
      refine bodyPost_ret (results_cell_tmp rfl _ _ (w.heap.size + 1) 60 (usCells Ch.no).toArray (0, 0) _ rfl (setRow_heap _ _ _ _ _ _ q1) Tryd.underlying60 rfl Tryd.sizeChain) rfl ?_
      exact ⟨rfl, o2.trans' (Only.setRow _ _ _ (S := fun x => x = w.heap.size + 1) rfl) (fun y hy e => by omega)⟩
  · have hkb : (f.k != 1) = true := by simp [hk]
    have HPL := Lib.hid (show linkP f own per segs = none by unfold linkP; rw [if_neg (fun h => hk h.1)])
    have HS1 := Lib.hid s1
    clear s1 hk
    simp only [pickOps, List.getElem?_cons_zero, List.getElem?_cons_succ]
    iterate 14 (first | (refine wpL_pure (a' := ?_) ?_ rfl (fun W => ?_) ?_ ?_; rotate_left 2; (· go_simp; first | (go_bits; with_reducible rfl) | with_reducible rfl); (· simp only [put_some, List.setIfInBounds_toArray, List.set_cons_zero, List.set_cons_succ]; rfl)) | (refine wpL_held (a' := ?_) ?_ rfl (fun W hW => ?_) ?_ ?_; rotate_left 2; (· subst hW; go_simp; first | (go_bits; with_reducible rfl) | with_reducible rfl); (· simp only [put_some, List.setIfInBounds_toArray, List.set_cons_zero, List.set_cons_succ]; rfl)) | (refine wpL_skip rfl (by simp only [put_some, List.setIfInBounds_toArray, List.set_cons_zero, List.set_cons_succ]; rfl) ?_) | (refine wpL_heldSkip rfl (by simp only [put_some, List.setIfInBounds_toArray, List.set_cons_zero, List.set_cons_succ]; rfl) ?_))
    refine wpL_nil ?_
    clear f0 f2 f3 p1 p2 hsz hkb 
    go_wp2_with ((with_reducible refine wpList_store_block (w.heap.size + 1) 60 (usCells Ch.no) (usCells Ch.no) ?_ ?_ ?_ ?_ ?_ ?_ ?_); (· exact Tryd.sizeChain); (· exact q1); (· rfl); (· exact usCells_one _); (· rfl); (· rfl))
    rw [HPL.out]
    refine bodyPost_ret (results_cell_tmp rfl _ _ (w.heap.size + 1) 60 (usCells Ch.no).toArray (0, 0) _ rfl (setRow_heap _ _ _ _ _ _ q1) Tryd.underlying60 rfl Tryd.sizeChain) rfl ?_
    exact ⟨rfl, o2.trans' (Only.setRow _ _ _ (S := fun x => x = w.heap.size + 1) rfl) (fun y hy e => by omega)⟩
end Go.Proofs.YtlgefjcfnnjkbaaDoor
