/- Parts of the proof, one behind the other: LogRe, LogHe. Each part's own words say what it proves; no conditions. -/
import Derived.Test.YtlgefjcfnnjkbaaGreatDoorP22
import Derived.Test.YtlgefjcfnnjkbaaGreatDoorP25
import Derived.Test.YtlgefjcfnnjkbaaGreatDoorP26
set_option linter.unusedVariables false
set_option linter.unusedSimpArgs false
set_option linter.unusedSectionVars false
/- A segment is taken out of the chain. No conditions. -/
namespace Go.Proofs.YtlgefjcfnnjkbaaGreatDoor
set_option maxRecDepth 100000
open Go.RowKit

theorem Tryz.indexUse {c : List Us} (h : c.length = 12) {k : Nat} (hk : k < 12) (w : World) : (Instr.index 69 (.agg (usCells c).toArray) (.int .i64 (k : Int))).run Tryz.prog w = .ok (.agg #[.int .i64 (c.getD k Us.no).e, .int .i64 (c.getD k Us.no).c]) w := by
  obtain ⟨u0, u1, u2, u3, u4, u5, u6, u7, u8, u9, u10, u11, rfl⟩ := len12 h
  have hk' : k = 0 ∨ k = 1 ∨ k = 2 ∨ k = 3 ∨ k = 4 ∨ k = 5 ∨ k = 6 ∨ k = 7 ∨ k = 8 ∨ k = 9 ∨ k = 10 ∨ k = 11 := by omega
  rcases hk' with rfl | rfl | rfl | rfl | rfl | rfl | rfl | rfl | rfl | rfl | rfl | rfl <;> (change _ = _; kernel_rfl)
theorem exec_indexR {P : Program} {ρ : Operand → Value} {o : Oper} {t : TypeId} {x y : Operand} (ho : o.op = .index t x y) {W W' : World} {vx vy r : Value} (hx : ρ x = vx) (hy : ρ y = vy) (h : (Instr.index t vx vy).run P W = .ok r W') : (execOp ρ o).run P W = .ok (.value r) W' := by
  simp [execOp, ho, hx, hy, h]
theorem wpList_indexR {P : Program} {ops : Array Oper} {rest : List Oper} {a : Act} {Q : Exit → Act → World → Prop} {W : World} {dst : Option Tmp} {x y : Operand} {t ty : TypeId} {pos : String} {after : Array Edge}
    (vx vy r : Value) (h : (Instr.index t vx vy).run P W = .ok r W) (hx : a.eval x = vx) (hy : a.eval y = vy) (hK : wpList P ops Q rest (a.put dst r) W) :
    wpList P ops Q ({ dst := dst, op := .index t x y, type := ty, pos := pos, after := after, guard := none } :: rest) a W :=
  wpList_run rfl (exec_indexR rfl hx hy h) hK
def RetPost (w : World) (lb p kb : Nat) (pv : Value) (d : D) (r : Lg × Int) (e : Ending) (w' : World) : Prop := e = .returned (.int .i64 r.2) ∧ LStep w w' lb p kb pv pv d r.1

theorem alloc_2set (W : World) (v0 v1 : Value) (t : TypeId) : Only (fun _ => False) W ((W.alloc (.cells #[.int .i64 0, .int .i64 0] t)).setRow W.heap.size #[v0, v1]) ∧ ((W.alloc (.cells #[.int .i64 0, .int .i64 0] t)).setRow W.heap.size #[v0, v1]).heap[W.heap.size]? = some (.cells #[v0, v1] t (0, 0)) := alloc_setRow W _ _ t

set_option maxHeartbeats 8000000 in
theorem retire_any (w : World) (lb p kb : Nat) (pv : Value) (d : D) (l : Lg) (epoch : Int) (h : LgAt w lb p kb pv d l) :
    Calls Tryz.prog 16 #[.pointer (some ⟨lb, 0, none⟩), .int .i64 epoch] w (RetPost w lb p kb pv d (l.retire epoch)) := by
  have hR : l.retire epoch = (if l.down ∨ epoch < 1 ∨ epoch = l.top then (l, (130 : Int))
    else match (List.range 12).find? fun k => (l.chain.getD k Us.no).e == epoch with
      | some k => ({ l with chain := l.chain.set k Us.no }, 0)
      | none => (l, 130)) := rfl
  generalize l.retire epoch = R at hR ⊢
  have HR := Lib.hid hR
  have c31 := h.c31
  have c28 := h.c28
  by_cases hbad : l.down = true ∨ epoch < 1 ∨ epoch = l.top
  · have HN := Lib.hid (show R = (l, 130) by rw [HR.out, if_pos hbad])
    have HL := Lib.hid (LStep.refl h)
    unfold RetPost
    rw [HN.out]
    clear HR hR HN
    rcases Bool.eq_false_or_eq_true l.down with hd | hd
    · rw [hd] at c31
      clear hbad
      go_enter Tryz.func16, Tryz.ntmps16
      go_wp2_with fail
      go_ret
      exact ⟨rfl, HL.out⟩
    · rw [hd] at c31
      have hb2 : epoch < 1 ∨ epoch = l.top := hbad.resolve_left (by rw [hd]; decide)
      clear hbad
      by_cases h1 : epoch < 1
      · clear hb2
        go_enter Tryz.func16, Tryz.ntmps16
        go_wp2_with fail
        go_ret
        exact ⟨rfl, HL.out⟩
      · have h2 : epoch = l.top := hb2.resolve_left h1
        subst h2
        have hbeq : (l.top == l.top) = true := by simp
        clear hb2
        go_enter Tryz.func16, Tryz.ntmps16
        go_wp2_with fail
        go_ret
        exact ⟨rfl, HL.out⟩
  · simp only [not_or] at hbad
    obtain ⟨hd, h1, h2⟩ := hbad
    have hd' : l.down = false := by simpa using hd
    have HR2 := Lib.hid (show R = (match (List.range 12).find? fun k => (l.chain.getD k Us.no).e == epoch with
      | some k => ({ l with chain := l.chain.set k Us.no }, (0 : Int))
      | none => (l, 130)) by rw [HR.out, if_neg (by simp only [not_or]; exact ⟨hd, h1, h2⟩)])
    rw [hd'] at c31
    have hbeq : (epoch == l.top) = false := by simpa using h2
    have HCH := Lib.hid (show Has w lb 3 (usCells l.chain) from fun j x hx => h.cat.2 j x hx)
    have HLEN := Lib.hid h.len
    have HH := Lib.hid h
    clear hR HR hd hd' h h2
    go_enter Tryz.func16, Tryz.ntmps16
    go_upto_region 5 with fail
    go_wp2_with ((with_reducible refine wpList_load_part lb 3 (usCells l.chain) ?_ ?_ ?_ ?_ ?_); (· exact ⟨_, Tryz.underlying69, rfl⟩); (· rw [usCells_length, HLEN.out]; exact Tryz.sizeChain); (· exact HCH.out); (· rfl))
    clear c31 c28 hbeq
    go_loopw [29] (fun i wr => ∃ k : Nat, k ≤ 12 ∧ i = .int .i64 (k : Int) ∧ Hid (∀ j, j < k → (l.chain.getD j Us.no).e ≠ epoch) ∧ Only (fun _ => False) w wr) (fun i _ => 13 - (intOf i).toNat)
    case atStart => exact ⟨0, by omega, rfl, Lib.hid (fun j hj => by omega), Only.refl _ _⟩
    case round =>
      obtain ⟨k, hk, rfl, hno, hor⟩ := hrel
      by_cases hlt : k < 12
      · have hI : (k : Int) < 12 := by omega
        have hI0 : (0 : Int) ≤ (k : Int) := by omega
        have HIX := Lib.hid (fun W => Tryz.indexUse HLEN.out hlt W)
        generalize hu : l.chain.getD k Us.no = u at HIX
        have HU := Lib.hid hu
        clear hu
        go_upto_region 8 with first
          | ((with_reducible refine wpList_indexR (.agg (usCells l.chain).toArray) (.int .i64 (k : Int)) (.agg #[.int .i64 u.e, .int .i64 u.c]) ?_ ?_ ?_ ?_); (· exact HIX.out _); (· rfl); (· rfl))
          | ((with_reducible refine wpList_store_block wr.heap.size 67 [.int .i64 u.e, .int .i64 u.c] [.int .i64 0, .int .i64 0] ?_ ?_ ?_ ?_ ?_ ?_ ?_); (· exact Tryz.sizeUse); (· exact heap_alloc_any wr _); (· rfl); (· simp [Value.oneCell']); (· rfl); (· rfl))
        obtain ⟨hoA, hbA⟩ := alloc_setRow wr #[.int .i64 0, .int .i64 0] #[.int .i64 u.e, .int .i64 u.c] 67
        generalize (wr.alloc (.cells #[.int .i64 0, .int .i64 0] 67)).setRow wr.heap.size #[.int .i64 u.e, .int .i64 u.c] = w3 at hoA hbA ⊢
        have e0 : w3.cell? ⟨wr.heap.size, 0, none⟩ = some (.int .i64 u.e) := cell_at hbA 0
        have HO3 := Lib.hid (hor.trans hoA)
        clear hoA hbA HIX
        by_cases he : u.e = epoch
        · have HN := Lib.hid (show R = ({ l with chain := l.chain.set k Us.no }, 0) by
            have hf : ((List.range 12).find? fun k => (l.chain.getD k Us.no).e == epoch) = some k := by
              rw [List.find?_range_eq_some]
              refine ⟨by rw [HU.out, he]; simp, by simpa using hlt, fun j hj => ?_⟩
              have := hno.out j hj
              simpa using this
            rw [HR2.out, hf])
          rw [he] at e0
          have hee : (epoch == epoch) = true := by simp
          have hL3 := (LStep.refl HH.out).quiet HO3.out
          have h3 := hL3.at_
          have hh3 := h3.head
          have hlc : 3 + k * 2 + 2 ≤ (lgCells p l).length := by rw [lgCells_length p l HLEN.out]; omega
          have HL3 := Lib.hid hL3
          have HH3 := Lib.hid hh3
          have HLC := Lib.hid hlc
          have hbu := fun W => Tryz.buildUse0 W
          clear he hno hL3 h3 hh3 hlc HR2
          go_upto_region 10 with ((with_reducible refine wpList_store_part lb (3 + k * 2) 71 [.int .i64 0, .int .i64 0] (lgCells p l) ?_ ?_ ?_ ?_ ?_ ?_ ?_); (· exact Tryz.sizeUse); (· exact HH3.out); (· exact HLC.out); (· simp [Value.oneCell']); (· rfl); (· rfl))
          have hA := lgCells_use p l HLEN.out Us.no hlt
          have hA' : laid (lgCells p l) (3 + k * 2) [.int .i64 0, .int .i64 0] = lgCells p { l with chain := l.chain.set k Us.no } := hA
          rw [hA']
          have hoS := Only.setRow w3 lb (lgCells p { l with chain := l.chain.set k Us.no }).toArray (S := fun b => b = lb) rfl
          have hsr := setRow_heap _ lb _ (lgCells p { l with chain := l.chain.set k Us.no }).toArray _ _ HH3.out
          have hus : ∀ j, 0 ≤ ((l.chain.set k Us.no).getD j Us.no).e ∧ ((l.chain.set k Us.no).getD j Us.no).e ≤ 16777215 ∧ 0 ≤ ((l.chain.set k Us.no).getD j Us.no).c ∧ ((l.chain.set k Us.no).getD j Us.no).c ≤ 64 := fun j => by
            by_cases ej : j = k
            · subst ej; rw [getD_set_eq (by rw [HLEN.out]; exact hlt)]; simp [Us.no]
            · rw [getD_set_ne ej]; exact HH.out.us j
          have hF := HL3.out.at_.with (l' := { l with chain := l.chain.set k Us.no }) hoS hsr (by simp only [List.length_set]; exact HLEN.out) rfl rfl HH.out.last HH.out.top hus
          have HF := Lib.hid (HL3.out.log hF hoS)
          generalize w3.setRow lb (lgCells p { l with chain := l.chain.set k Us.no }).toArray = w4 at HF ⊢
          clear hA hA' hoS hsr hus hF e0 hee hbu
          go_wp2_with fail
          go_ret
          unfold RetPost
          rw [HN.out]
          exact ⟨rfl, HF.out⟩
        · have hee : (u.e == epoch) = false := by simpa using he
          have HNO := Lib.hid (show ∀ j, j < k + 1 → (l.chain.getD j Us.no).e ≠ epoch from fun j hj => by
            by_cases ej : j = k
            · subst ej; rw [HU.out]; exact he
            · exact hno.out j (by omega))
          clear he hno
          go_wp2_with fail
          exact ⟨⟨k + 1, by omega, by go_num, HNO, HO3.out⟩, by simp [intOf]; omega⟩
      · obtain rfl : k = 12 := by omega
        have HN := Lib.hid (show R = (l, 130) by
          have hf : ((List.range 12).find? fun k => (l.chain.getD k Us.no).e == epoch) = none := by
            rw [List.find?_range_eq_none]
            intro j hj
            have := hno.out j hj
            simpa using this
          rw [HR2.out, hf])
        have HL3 := Lib.hid ((LStep.refl HH.out).quiet hor)
        clear hno HR2
        go_wp2_with fail
        go_ret
        unfold RetPost
        rw [HN.out]
        exact ⟨rfl, HL3.out⟩
end Go.Proofs.YtlgefjcfnnjkbaaGreatDoor
/- A power loss, whatever is to be kept. No conditions. -/
namespace Go.Proofs.YtlgefjcfnnjkbaaGreatDoor
set_option maxRecDepth 100000
open Go.RowKit

theorem crash_both {w0 w : World} {p kb : Nat} {pv : Value} {d : D} (h : Lw w0 w p kb pv d) {v : Value} {ns : List Int} {no : Option Addr} {nc : Nat} (hi : IntsAt w0 v ns no nc) (hp : d.pend.length ≤ 900000) :
    Calls Tryz.prog 19 #[.pointer (some ⟨p, 0, none⟩), v] w fun e w' => ∃ c pv' dc, e = .returned (.int .i64 c) ∧ DStep w w' p kb pv pv' dc ∧ ((c = 0 ∧ crashOk d.pend.length ns ∧ dc = d.crash (ns.map Int.toNat)) ∨ (c = 21 ∧ dc = d)) := by
  by_cases hok : crashOk d.pend.length ns
  · refine (crash_ok w p kb pv d ns v no nc h.da (h.ints hi) hok (by omega)).mono ?_
    rintro e w' ⟨rfl, hd, ho⟩
    exact ⟨_, _, _, rfl, ⟨hd, ho, fun g h => by cases h⟩, .inl ⟨rfl, hok, rfl⟩⟩
  · refine (crash_bad w p kb pv d ns v no nc h.da (h.ints hi) hok (by omega)).mono ?_
    rintro e w' ⟨rfl, ho⟩
    exact ⟨_, _, _, rfl, ⟨h.da.only ho (fun _ _ => id), ho.mono fun _ _ => False.elim, fun g h => .inl h⟩, .inr ⟨rfl, rfl⟩⟩
/-- a row of another kind than the log's own block -/
theorem LStep.rowT {w w' : World} {lb p kb : Nat} {pv pv' : Value} {d d' : D} {l l' : Lg} (hs : LStep w w' lb p kb pv pv' d' l') (h : LgAt w lb p kb pv d l) {base : Nat} {e : TypeId} {size : Nat} {v : Value} {n : Nat} {xs : List Value} (hr : w.ownsRow base e size v n xs) (he : e ≠ 134) (he2 : e ≠ 71)
    (h2 : p < base) (h3 : kb < base) : w'.ownsRow base e size v n xs :=
  hs.row h hr he fun x hx => by
    have := ownBlock_ge hr hx
    refine ⟨?_, by omega, by omega⟩
    rintro rfl
    rcases hr.2 with ⟨hn, _⟩ | ⟨g, c2, cur, hn, _, hb, _⟩
    · rw [hn] at hx; cases hx
    · rw [hn] at hx
      obtain rfl : g = x := by simpa [Value.ownBlock] using hx
      rw [h.head] at hb
      injection hb with hb
      injection hb with _ hb _
      exact he2 hb.symm
theorem Lw.rot {w0 w : World} {p kb : Nat} {pv : Value} {d : D} (h : Lw w0 w p kb pv d) {k place mask : Nat} (hk : k < d.kept.length) (hpl : place < 64) (hma : mask ≤ 255) :
    Calls Tryz.prog 25 #[.pointer (some ⟨p, 0, none⟩), .int .i64 (k : Int), .int .i64 (place : Int), .int .i64 (mask : Int)] w fun e w' => e = .returned (.int .i64 0) ∧ DStep w w' p kb pv pv (d.rot k place mask) := by
  refine (rot_any w p kb pv d k place mask h.da hk hpl hma).mono ?_
  rintro e w' ⟨rfl, hd', ho, _⟩
  exact ⟨rfl, hd', ho.mono fun _ _ e => .inr (.inl e), fun g hg => .inl hg⟩
theorem Lw.cut {w0 w : World} {p kb : Nat} {pv : Value} {d : D} (h : Lw w0 w p kb pv d) (n : Nat) (hn : (n : Int) ≤ 9223372036854775807) :
    Calls Tryz.prog 24 #[.pointer (some ⟨p, 0, none⟩), .int .i64 (n : Int)] w fun e w' => e = .returned (.int .i64 0) ∧ DStep w w' p kb pv pv (d.cutAt n) := by
  have := diskCut_any w p kb pv d n h.da hn
  rw [if_neg (by omega), if_neg (by omega), Int.toNat_natCast] at this
  refine this.mono ?_
  rintro e w' ⟨rfl, hd', ho, _⟩
  exact ⟨rfl, hd', ho.mono fun _ _ e => .inl e, fun g hg => .inl hg⟩
theorem wpList_append_runG {P : Program} {ops : Array Oper} {rest : List Oper} {a : Act} {Q : Exit → Act → World → Prop} {W W' : World} {dst : Option Tmp} {t t' ty : TypeId} {x y : Operand} {pos : String} {after : Array Edge} {g : Nat × Bool}
    (vs vx r : Value) (h : (Builtin.append_ #[t, t'] ty #[vs, vx]).run P W = .ok r W')
    (hw : Region.wanted { dst := dst, op := .call { callee := .builtin .append, args := #[x, y], argTypes := #[t, t'] }, type := ty, pos := pos, after := after, guard := some g } (yielded ops a.tmps) = true)
    (hs : a.eval x = vs) (hx : a.eval y = vx) (hK : wpList P ops Q rest (a.put dst r) W') :
    wpList P ops Q ({ dst := dst, op := .call { callee := .builtin .append, args := #[x, y], argTypes := #[t, t'] }, type := ty, pos := pos, after := after, guard := some g } :: rest) a W := by
  unfold wpList
  rw [if_pos hw]
  left
  unfold Oper.wp
  rw [exec_append rfl hs hx h]
  exact hK
/-- a slice of no texts, in a block of its own -/
theorem empty_row (w : World) : (w.alloc (.cells #[] 9)).ownsRow w.heap.size 9 1 (.slice (some ⟨w.heap.size, 0, none⟩) 0 0) 0 [] :=
  ⟨rfl, .inr ⟨w.heap.size, 0, #[], rfl, Nat.le_refl _, heap_alloc_new w (.cells #[] 9), Nat.le_refl _, Nat.zero_le _, rfl, rfl⟩⟩
/-- append(append([]string{}, a...), b...) -/
theorem append_two (w : World) (va vb : Value) (a b : List (List UInt8)) (ao bo : Option Addr) (ac bc : Nat) (ha : SliceOf w va a.length (txts a) ao ac) (hb : SliceOf w vb b.length (txts b) bo bc) (hl : a.length + b.length ≤ 1000) :
    ∃ v1 w1 v2 w2, (Builtin.append_ #[29, 29] 29 #[.slice (some ⟨w.heap.size, 0, none⟩) 0 0, va]).run Tryz.prog (w.alloc (.cells #[] 9)) = .ok v1 w1 ∧
      (Builtin.append_ #[29, 29] 29 #[v1, vb]).run Tryz.prog w1 = .ok v2 w2 ∧ Only (fun _ => False) w w2 ∧ w2.ownsRow w.heap.size 9 1 v2 (a ++ b).length (txts (a ++ b)) := by
  have hA := Only.alloc w (.cells #[] 9) (fun _ => False)
  obtain ⟨v1, w1, r1, o1, n1, _⟩ := append_src_row2 (P := Tryz.prog) (w.alloc (.cells #[] 9)) w.heap.size 29 29 29 9 _ 1 16 Tryz.underlying29 Tryz.info9 rfl (by decide) _ 0 [] (empty_row w) va a.length (txts a) (src_slice Tryz.underlying29 (ha.only hA) (by simp [txts]) (by decide) (txts_one a)) (by omega) (by decide) hA.size
  have hO1 : Only (fun _ => False) w w1 := hA.trans' n1 fun y hy e => by
    have : y = w.heap.size := by simpa [Value.ownBlock] using e.symm
    omega
  obtain ⟨v2, w2, r2, o2, n2, _⟩ := append_src_row2 (P := Tryz.prog) w1 w.heap.size 29 29 29 9 _ 1 16 Tryz.underlying29 Tryz.info9 rfl (by decide) v1 (0 + a.length) ([] ++ txts a) o1 vb b.length (txts b) (src_slice Tryz.underlying29 (hb.only hO1) (by simp [txts]) (by decide) (txts_one b)) (by omega) (by decide) hO1.size
  refine ⟨v1, w1, v2, w2, r1, r2, hO1.trans' n2 fun y hy e => by have := ownBlock_ge o1 e; omega, ?_⟩
  have e1 : ([] ++ txts a ++ txts b : List Value) = txts (a ++ b) := by simp [txts]
  rw [e1, Nat.zero_add, show a.length + b.length = (a ++ b).length by simp] at o2
  exact o2
theorem pick_nat (c n : Int) (hn : 0 < n) : ∃ k : Nat, (k : Int) = pickI c n ∧ (k : Int) < n := by
  have := pickI_lt c n hn
  exact ⟨(pickI c n).toNat, by omega, by omega⟩
end Go.Proofs.YtlgefjcfnnjkbaaGreatDoor
