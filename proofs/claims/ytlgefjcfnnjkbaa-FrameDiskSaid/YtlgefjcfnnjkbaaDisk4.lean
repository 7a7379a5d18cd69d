/- The functions of package disk: Crash, and what can't be done. No conditions. -/
import Derived.Test.YtlgefjcfnnjkbaaDisk3
namespace Go.Proofs.Ytlgefjcfnnjkbaa
open Go.RowKit

/-- v is a slice that reads as the numbers l -/
structure IntsAt (w : World) (v : Value) (l : List Int) (ao : Option Addr) (cap : Nat) : Prop where
  val : v = .slice ao l.length cap
  len : l.length ≤ 9223372036854775807
  cell : ∀ j x, l[j]? = some x → ∃ b o, ao = some ⟨b, o, none⟩ ∧ w.cell? ⟨b, o + j, none⟩ = some (.int .i64 x)
  wf : ∀ x ∈ l, -9223372036854775808 ≤ x ∧ x ≤ 9223372036854775807

theorem IntsAt.only {w w' : World} {v : Value} {l : List Int} {ao : Option Addr} {cap : Nat} {S : Nat → Prop} (h : IntsAt w v l ao cap) (ho : Only S w w') (hs : ∀ b o j x, ao = some ⟨b, o, none⟩ → w.cell? ⟨b, o + j, none⟩ = some (.int .i64 x) → ¬ S b) : IntsAt w' v l ao cap := by
  refine ⟨h.val, h.len, fun j x hx => ?_, h.wf⟩
  obtain ⟨b, o, e, hc⟩ := h.cell j x hx
  exact ⟨b, o, e, by rw [ho.cell (World.block_lt_of_cell? _ _ hc) (hs b o j x e hc)]; exact hc⟩

/-- the rows hold bytes -/
theorem DAt.not_row {w : World} {p kb : Nat} {pv : Value} {d : D} (h : DAt w p kb pv d) (o : Nat) (x : Int) : w.cell? ⟨kb, o, none⟩ ≠ some (.int .i64 x) := by
  rw [cell_at h.rows]
  intro e
  rw [List.getElem?_toArray] at e
  have := List.mem_of_getElem? e
  obtain ⟨c, _, hc⟩ := List.mem_map.1 this
  simp [bv] at hc

def crashOk (n : Nat) (l : List Int) : Prop := (∀ x ∈ l, 0 ≤ x ∧ x < n) ∧ l.Nodup
def metCells (n : Nat) (l : List Int) : List Value := (List.range n).map fun (j : Nat) => Value.bool (decide ((j : Int) ∈ l))

theorem Try.info4 : (Try.prog.info? 4).map (fun i => (i.zero, i.size, i.bytes)) = some (some (.bool false), 1, 1) := by kernel_rfl

theorem met_new (n : Nat) : (List.replicate (n * 1) (Value.bool false)) = metCells n [] := by
  simp only [metCells, Nat.mul_one, List.not_mem_nil, decide_false]
  apply List.ext_getElem <;> simp

theorem met_set (n : Nat) (l : List Int) (x : Int) (h0 : 0 ≤ x) : (metCells n l).toArray.setIfInBounds x.toNat (.bool true) = (metCells n (l ++ [x])).toArray := by
  apply Array.ext'
  simp only [Array.toList_setIfInBounds, metCells]
  apply List.ext_getElem
  · simp
  · intro j h1 h2
    simp only [List.getElem_set, List.getElem_map, List.getElem_range]
    by_cases e : x.toNat = j
    · rw [if_pos e]
      have : (j : Int) = x := by omega
      simp [this]
    · rw [if_neg e]
      have : ¬ (j : Int) = x := by omega
      simp [this]

theorem met_at (n : Nat) (l : List Int) (x : Int) (h0 : 0 ≤ x) (h1 : x < n) : (metCells n l).toArray[x.toNat]? = some (.bool (decide (x ∈ l))) := by
  have h2 : x.toNat < n := by omega
  have h3 : (x.toNat : Int) = x := by omega
  simp [metCells, h2, h3]

theorem take_snoc' {α : Type} (l : List α) (k : Nat) (h : k < l.length) : l.take (k + 1) = l.take k ++ [l[k]] := List.take_succ_eq_append_getElem h

theorem nodup_take_next {l : List Int} (h : l.Nodup) (k : Nat) (hk : k < l.length) : l[k] ∉ l.take k := by
  intro hm
  obtain ⟨j, hj, e⟩ := List.mem_iff_getElem.1 hm
  rw [List.length_take] at hj
  rw [List.getElem_take] at e
  have := (List.nodup_iff_pairwise_ne.1 h)
  have h2 := List.pairwise_iff_getElem.1 this j k (by omega) hk (by omega)
  exact h2 e

set_option maxHeartbeats 2000000 in
theorem crash_ok (w : World) (p kb : Nat) (pv : Value) (d : D) (l : List Int) (v : Value) (ao : Option Addr) (cap : Nat) (hd : DAt w p kb pv d) (hi : IntsAt w v l ao cap) (hok : crashOk d.pend.length l) (hroom : d.pend.length ≤ 1000000) :
    Calls Try.prog 38 #[.pointer (some ⟨p, 0, none⟩), v] w fun e w' => e = .returned (.int .i64 0) ∧ DAt w' p kb (.slice none 0 0) (d.crash (l.map Int.toNat)) ∧ Only (fp p kb pv) w w' := by
  obtain ⟨ao', cap', rfl, hn⟩ := hd.pv_slice
  have hv := hi.val
  subst hv
  have c1 := hd.c1
  have hl := hi.len
  have E := Lib.hid ((madeCells_same (Value.bool false).cells (.bool false) 1 (d.pend.length * 1) rfl (by decide)).trans (congrArg List.toArray (met_new d.pend.length)))
  go_enter Try.func38, Try.ntmps38
  go_wp2_with (at_make; refine wpList_make_any (n := d.pend.length) rfl _ _ 78 rfl 4 (.bool false) 1 1 Try.underlying78 Try.info4 rfl rfl (by omega) (by unfold maxLen; omega) ?_; rw [E.out])
  have HM := Lib.hid (heap_alloc_new w (.cells (metCells d.pend.length []).toArray 4))
  clear E
  go_loopw [20] (fun i wr => ∃ k : Nat, k ≤ l.length ∧ i = .int .i64 k ∧ Hid (wr.heap[w.heap.size]? = some (.cells (metCells d.pend.length (l.take k)).toArray 4 (0, 0))) ∧ Only (fun _ => False) w wr) (fun i _ => l.length - (intOf i).toNat)
  case atStart => exact ⟨0, by omega, rfl, HM, Only.alloc _ _ _⟩
  case round =>
    obtain ⟨k, hk, rfl, HMr, hor⟩ := hrel
    by_cases hlt : k < l.length
    · obtain ⟨b, o, rfl, hc⟩ := hi.cell k l[k] (List.getElem?_eq_getElem hlt)
      have hc' : wr.cell? ⟨b, o + k, none⟩ = some (.int .i64 l[k]) := by rw [hor.cell (World.block_lt_of_cell? _ _ hc) id]; exact hc
      obtain ⟨h0, h1⟩ := hok.1 l[k] (List.getElem_mem hlt)
      have hnot := nodup_take_next hok.2 k hlt
      have hset := met_set d.pend.length (l.take k) l[k] h0
      have hat := met_at d.pend.length (l.take k) l[k] h0 h1
      rw [decide_eq_false hnot] at hat
      have hmet := hat
      rw [← cell_at HMr.out] at hmet
      have hfr := free_at HMr.out l[k].toNat
      have hsnoc := take_snoc' l k hlt
      obtain ⟨x, hx⟩ : ∃ x, x = l[k] := ⟨_, rfl⟩
      rw [← hx] at hc' h0 h1 hset hmet hfr hsnoc
      have HSET := Lib.hid hset
      have HSN := Lib.hid hsnoc
      clear hset hat hsnoc hnot hx hc
      go_wp2
      go_roundw
      case rel =>
        refine ⟨k + 1, by omega, by go_num, ?_, hor.trans' (Only.one _ _ _ _) (fun y hy e => by omega)⟩
        show _ = _
        rw [heap_setCell_same wr w.heap.size _ _ _ _ HMr.out, HSET.out, HSN.out]
      case measure => simp [intOf]; omega
    · obtain rfl : k = l.length := by omega
      go_wp2_with fail
      have hd0 : DAt wr p kb (.slice ao' d.pend.length cap') d := hd.only hor (fun _ _ => id)
      rename World => wm
      go_loopw [44] (fun i wr => ∃ k : Nat, k ≤ l.length ∧ i = .int .i64 k ∧ DAt wr p kb (.slice ao' d.pend.length cap') (d.laidTo ((l.take k).map Int.toNat)) ∧ Only (fun x => x = kb) wm wr) (fun i _ => l.length - (intOf i).toNat)
      case atStart => exact ⟨0, by omega, rfl, hd0, Only.refl _ _⟩
      case round =>
        obtain ⟨k, hk, rfl, hdr, hor2⟩ := hrel
        by_cases hlt : k < l.length
        · obtain ⟨b, o, rfl, hc⟩ := hi.cell k l[k] (List.getElem?_eq_getElem hlt)
          have hc1 : wm.cell? ⟨b, o + k, none⟩ = some (.int .i64 l[k]) := by rw [hor.cell (World.block_lt_of_cell? _ _ hc) id]; exact hc
          have hbk : b ≠ kb := by intro e; rw [e] at hc; exact hd.not_row _ _ hc
          have hc' : wr.cell? ⟨b, o + k, none⟩ = some (.int .i64 l[k]) := by rw [hor2.cell (World.block_lt_of_cell? _ _ hc1) hbk]; exact hc1
          obtain ⟨h0, h1⟩ := hok.1 l[k] (List.getElem_mem hlt)
          have hsnoc := take_snoc' l k hlt
          obtain ⟨m, hm⟩ := Int.eq_ofNat_of_zero_le h0
          rw [hm] at hc' h1 hsnoc
          have hml : m < d.pend.length := by omega
          have HSN := Lib.hid hsnoc
          clear hsnoc hm hc hc1
          go_wp2_with (go_at_call 57; refine (diskLay_any wr p kb _ _ m hdr hml).mono ?_; rintro e w2 ⟨rfl, hd2, ho2, hs2⟩; clear hs2)
          go_roundw
          case rel =>
            refine ⟨k + 1, by omega, by go_num, ?_, hor2.trans ho2⟩
            have e : (({ d.laidTo ((l.take k).map Int.toNat) with kept := layK (d.laidTo ((l.take k).map Int.toNat)).kept (d.laidTo ((l.take k).map Int.toNat)).pend[m] } : D)) = d.laidTo ((l.take (k + 1)).map Int.toNat) := by
              rw [HSN.out, List.map_append]
              simp only [D.laidTo, D.layAll, List.foldl_append, List.map_cons, List.map_nil, List.foldl_cons, List.foldl_nil, Int.toNat_natCast]
              simp [hml]
            rw [e] at hd2
            exact hd2
          case measure => simp [intOf]; omega
        · obtain rfl : k = l.length := by omega
          have c1' := hdr.c1
          have c2' := hdr.c2
          have c3' := hdr.c3
          have f1 := hdr.f 1
          have f2 := hdr.f 2
          have f3 := hdr.f 3
          go_wp2
          go_ret
          refine ⟨rfl, ?_, ?_⟩
          · have hks : ∀ x ∈ l.map Int.toNat, x < d.pend.length := by
              intro x hx
              obtain ⟨y, hy, rfl⟩ := List.mem_map.1 hx
              have := hok.1 y hy
              omega
            have e3 := heap_setCell_same _ p 3 _ _ (.int .i64 0) (heap_setCell_same _ p 2 _ _ (.bool false) (heap_setCell_same wr p 1 _ _ (.slice none 0 0) hdr.head))
            refine ⟨?_, ?_, ?_, hd.ok.crash hks⟩
            · rw [e3]
              simp [headOf, D.crash, D.laidTo, D.layAll_length]
            · rw [Below.heap_setCell _ _ _ _ hdr.kb_ne, Below.heap_setCell _ _ _ _ hdr.kb_ne, Below.heap_setCell _ _ _ _ hdr.kb_ne]
              have := hdr.rows
              rw [List.take_of_length_le (Nat.le_refl _)] at this
              exact this
            · simpa [D.crash, pendCells] using World.ownsRow_nil _ _ _ _
          · have o1 : Only (fp p kb (.slice ao' d.pend.length cap')) w wm := hor.mono (fun _ _ => False.elim)
            have o2 : Only (fp p kb (.slice ao' d.pend.length cap')) wm wr := hor2.mono (fun _ _ e => .inr (.inl e))
            exact (((o1.trans o2).trans (Only.setCell _ _ _ _ (.inl rfl))).trans (Only.setCell _ _ _ _ (.inl rfl))).trans (Only.setCell _ _ _ _ (.inl rfl))

/-- the first place at which the list is refused -/
theorem crash_split {n : Nat} {l : List Int} {k : Nat} (hk : k < l.length) (h : crashOk n (l.take k)) (h0 : 0 ≤ l[k]) (h1 : l[k] < n) (h2 : l[k] ∉ l.take k) : crashOk n (l.take (k + 1)) := by
  rw [take_snoc' l k hk]
  refine ⟨fun x hx => ?_, ?_⟩
  · rcases List.mem_append.1 hx with hx | hx
    · exact h.1 x hx
    · rw [List.mem_singleton.1 hx]; exact ⟨h0, h1⟩
  · rw [List.nodup_append]
    refine ⟨h.2, by simp, fun a ha b hb e => ?_⟩
    rw [List.mem_singleton.1 hb] at e
    exact h2 (e ▸ ha)

set_option maxHeartbeats 2000000 in
theorem crash_bad (w : World) (p kb : Nat) (pv : Value) (d : D) (l : List Int) (v : Value) (ao : Option Addr) (cap : Nat) (hd : DAt w p kb pv d) (hi : IntsAt w v l ao cap) (hok : ¬ crashOk d.pend.length l) (hroom : d.pend.length ≤ 1000000) :
    Calls Try.prog 38 #[.pointer (some ⟨p, 0, none⟩), v] w fun e w' => e = .returned (.int .i64 21) ∧ Only (fun _ => False) w w' := by
  obtain ⟨ao', cap', rfl, hn⟩ := hd.pv_slice
  have hv := hi.val
  subst hv
  have c1 := hd.c1
  have hl := hi.len
  have E := Lib.hid ((madeCells_same (Value.bool false).cells (.bool false) 1 (d.pend.length * 1) rfl (by decide)).trans (congrArg List.toArray (met_new d.pend.length)))
  go_enter Try.func38, Try.ntmps38
  go_wp2_with (at_make; refine wpList_make_any (n := d.pend.length) rfl _ _ 78 rfl 4 (.bool false) 1 1 Try.underlying78 Try.info4 rfl rfl (by omega) (by unfold maxLen; omega) ?_; rw [E.out])
  have HM := Lib.hid (heap_alloc_new w (.cells (metCells d.pend.length []).toArray 4))
  clear E
  go_loopw [20] (fun i wr => ∃ k : Nat, k ≤ l.length ∧ i = .int .i64 k ∧ Hid (wr.heap[w.heap.size]? = some (.cells (metCells d.pend.length (l.take k)).toArray 4 (0, 0))) ∧ Only (fun _ => False) w wr ∧ crashOk d.pend.length (l.take k)) (fun i _ => l.length - (intOf i).toNat)
  case atStart => exact ⟨0, by omega, rfl, HM, Only.alloc _ _ _, ⟨fun x hx => (by simp at hx), by simp⟩⟩
  case round =>
    obtain ⟨k, hk, rfl, HMr, hor, hokk⟩ := hrel
    have HOKK := Lib.hid hokk
    clear hokk
    have hlt : k < l.length := by
      rcases Nat.lt_or_ge k l.length with h | h
      · exact h
      · exact absurd (by have := HOKK.out; rwa [List.take_of_length_le h] at this) hok
    obtain ⟨b, o, rfl, hc⟩ := hi.cell k l[k] (List.getElem?_eq_getElem hlt)
    have hc' : wr.cell? ⟨b, o + k, none⟩ = some (.int .i64 l[k]) := by rw [hor.cell (World.block_lt_of_cell? _ _ hc) id]; exact hc
    have hwf := hi.wf l[k] (List.getElem_mem hlt)
    have SP := Lib.hid (crash_split (n := d.pend.length) hlt HOKK.out)
    have AT := Lib.hid (met_at d.pend.length (l.take k) l[k])
    have ST := Lib.hid (met_set d.pend.length (l.take k) l[k])
    have hsnoc := take_snoc' l k hlt
    obtain ⟨x, hx⟩ : ∃ x, x = l[k] := ⟨_, rfl⟩
    rw [← hx] at hc' SP AT ST hsnoc hwf
    have HSN := Lib.hid hsnoc
    clear hsnoc hx hc hok
    obtain ⟨hwf1, hwf2⟩ := hwf
    by_cases h0 : x < 0
    · go_wp2
      go_ret
      exact ⟨rfl, hor⟩
    · have h0' : 0 ≤ x := by omega
      by_cases h1 : x < (d.pend.length : Int)
      · have hat := AT.out h0' h1
        rw [← cell_at HMr.out] at hat
        have hfr := free_at HMr.out x.toNat
        by_cases hm : x ∈ l.take k
        · rw [decide_eq_true hm] at hat
          clear hm
          go_wp2
          go_ret
          exact ⟨rfl, hor⟩
        · rw [decide_eq_false hm] at hat
          have HN := Lib.hid (SP.out h0' h1 hm)
          clear hm
          go_wp2
          go_roundw
          case rel =>
            refine ⟨k + 1, by omega, by go_num, ?_, hor.trans' (Only.one _ _ _ _) (fun y hy e => by omega), HN.out⟩
            show _ = _
            rw [heap_setCell_same wr w.heap.size _ _ _ _ HMr.out, ST.out h0', HSN.out]
          case measure => simp [intOf]; omega
      · have h1' : (d.pend.length : Int) ≤ x := by omega
        go_wp2
        go_ret
        exact ⟨rfl, hor⟩

/-! ### What can't be done -/
set_option maxHeartbeats 1000000 in
theorem write_badAt (w : World) (p kb : Nat) (pv : Value) (d : D) (k : Int) (s : ByteArray) (hd : DAt w p kb pv d) (hk : ¬ (0 ≤ k ∧ k < d.kept.length)) :
    Calls Try.prog 46 #[.pointer (some ⟨p, 0, none⟩), .int .i64 k, .string s] w fun e w' => e = .returned (.int .i64 20) ∧ w = w' := by
  have hd0 : decide ((0 : Int) ≤ (k : Int) ∧ (k : Int) < d.kept.length) = false := decide_eq_false hk
  go_enter Try.func46, Try.ntmps46
  go_wp2_with (go_at_call 58; refine (has_any w p kb _ d _ hd).mono ?_; rintro e w1 ⟨rfl, rfl⟩; rw [hd0])
  go_ret
  exact ⟨rfl, rfl⟩

set_option maxHeartbeats 1000000 in
theorem write_badLen (w : World) (p kb : Nat) (pv : Value) (d : D) (k : Int) (s : ByteArray) (hd : DAt w p kb pv d) (hs : s.size ≠ 64) :
    Calls Try.prog 46 #[.pointer (some ⟨p, 0, none⟩), .int .i64 k, .string s] w fun e w' => e = .returned (.int .i64 20) ∧ w = w' := by
  have hs' : ((s.size : Int) == 64) = false := by simp; omega
  have hs3 : ((s.size : Int) != 64) = true := by simp; omega
  by_cases hk : (0 ≤ k ∧ k < d.kept.length)
  · have hd0 : decide ((0 : Int) ≤ (k : Int) ∧ (k : Int) < d.kept.length) = true := decide_eq_true hk
    clear hk hs
    go_enter Try.func46, Try.ntmps46
    go_wp2_with (go_at_call 58; refine (has_any w p kb _ d _ hd).mono ?_; rintro e w1 ⟨rfl, rfl⟩; rw [hd0])
    go_ret
    exact ⟨rfl, rfl⟩
  · exact write_badAt w p kb pv d k s hd hk

set_option maxHeartbeats 1000000 in
theorem write_nopower (w : World) (p kb : Nat) (pv : Value) (d : D) (k : Nat) (s : ByteArray) (hd : DAt w p kb pv d) (hk : k < d.kept.length) (hs : s.size = 64) (hp : d.power = false) :
    Calls Try.prog 46 #[.pointer (some ⟨p, 0, none⟩), .int .i64 (k : Int), .string s] w fun e w' => e = .returned (.int .i64 22) ∧ DAt w' p kb pv d ∧ Only (fun x => x = p) w w' ∧ w'.heap.size = w.heap.size := by
  have hd0 : decide ((0 : Int) ≤ (k : Int) ∧ (k : Int) < d.kept.length) = true := by simp; omega
  have hs' : (s.size : Int) = 64 := by omega
  go_enter Try.func46, Try.ntmps46
  go_wp2_with (first | (go_at_call 58; refine (has_any w p kb _ d _ hd).mono ?_; rintro e w1 ⟨rfl, rfl⟩; rw [hd0]) | (go_at_call 60; refine (power_any w p kb _ d hd).mono ?_; rintro e w1 ⟨rfl, hd1, ho1, hs1⟩; rw [hp]))
  go_ret
  exact ⟨rfl, by rw [D.paid_no hp] at hd1; exact hd1, ho1, hs1⟩

set_option maxHeartbeats 1000000 in
theorem rot_badAt (w : World) (p kb : Nat) (pv : Value) (d : D) (k a b : Int) (hd : DAt w p kb pv d) (hk : ¬ (0 ≤ k ∧ k < d.kept.length)) :
    Calls Try.prog 47 #[.pointer (some ⟨p, 0, none⟩), .int .i64 k, .int .i64 a, .int .i64 b] w fun e w' => e = .returned (.int .i64 20) ∧ w = w' := by
  have hd0 : decide ((0 : Int) ≤ (k : Int) ∧ (k : Int) < d.kept.length) = false := decide_eq_false hk
  go_enter Try.func47, Try.ntmps47
  go_wp2_with (go_at_call 58; refine (has_any w p kb _ d _ hd).mono ?_; rintro e w1 ⟨rfl, rfl⟩; rw [hd0])
  go_ret
  exact ⟨rfl, rfl⟩

set_option maxHeartbeats 1000000 in
theorem rot_badPlace (w : World) (p kb : Nat) (pv : Value) (d : D) (k a b : Int) (hd : DAt w p kb pv d) (hk : (0 ≤ k ∧ k < d.kept.length)) (ha : 64 ≤ a) :
    Calls Try.prog 47 #[.pointer (some ⟨p, 0, none⟩), .int .i64 k, .int .i64 a, .int .i64 b] w fun e w' => e = .returned (.int .i64 2) ∧ w = w' := by
  have hd0 : decide ((0 : Int) ≤ (k : Int) ∧ (k : Int) < d.kept.length) = true := decide_eq_true hk
  clear hk
  go_enter Try.func47, Try.ntmps47
  go_wp2_with (go_at_call 58; refine (has_any w p kb _ d _ hd).mono ?_; rintro e w1 ⟨rfl, rfl⟩; rw [hd0])
  go_ret
  exact ⟨rfl, rfl⟩

set_option maxHeartbeats 1000000 in
theorem rot_badMask (w : World) (p kb : Nat) (pv : Value) (d : D) (k b : Int) (hd : DAt w p kb pv d) (hk : (0 ≤ k ∧ k < d.kept.length)) (hb : 256 ≤ b) :
    Calls Try.prog 47 #[.pointer (some ⟨p, 0, none⟩), .int .i64 k, .int .i64 0, .int .i64 b] w fun e w' => e = .returned (.int .i64 2) ∧ w = w' := by
  have hd0 : decide ((0 : Int) ≤ (k : Int) ∧ (k : Int) < d.kept.length) = true := decide_eq_true hk
  clear hk
  have hb2 : 255 < b := by omega
  have hb3 : 0 ≤ b := by omega
  go_enter Try.func47, Try.ntmps47
  go_wp2_with (go_at_call 58; refine (has_any w p kb _ d _ hd).mono ?_; rintro e w1 ⟨rfl, rfl⟩; rw [hd0])
  go_ret
  exact ⟨rfl, rfl⟩

/-! ### Of a disk that is nil -/
theorem write_nil (w : World) (k : Int) (s : ByteArray) : Calls Try.prog 46 #[.pointer none, .int .i64 k, .string s] w fun e w' => e = .returned (.int .i64 1) ∧ w = w' := by
  go_enter Try.func46, Try.ntmps46
  go_wp2
  go_ret
  exact ⟨rfl, rfl⟩
theorem sync_nil (w : World) : Calls Try.prog 45 #[.pointer none] w fun e w' => e = .returned (.int .i64 1) ∧ w = w' := by
  go_enter Try.func45, Try.ntmps45
  go_wp2
  go_ret
  exact ⟨rfl, rfl⟩
theorem crash_nil (w : World) (v : Value) : Calls Try.prog 38 #[.pointer none, v] w fun e w' => e = .returned (.int .i64 1) ∧ w = w' := by
  go_enter Try.func38, Try.ntmps38
  go_wp2
  go_ret
  exact ⟨rfl, rfl⟩
theorem rot_nil (w : World) (k a b : Int) : Calls Try.prog 47 #[.pointer none, .int .i64 k, .int .i64 a, .int .i64 b] w fun e w' => e = .returned (.int .i64 1) ∧ w = w' := by
  go_enter Try.func47, Try.ntmps47
  go_wp2
  go_ret
  exact ⟨rfl, rfl⟩
theorem cut_nil (w : World) (k : Int) : Calls Try.prog 48 #[.pointer none, .int .i64 k] w fun e w' => e = .returned (.int .i64 1) ∧ w = w' := by
  go_enter Try.func48, Try.ntmps48
  go_wp2
  go_ret
  exact ⟨rfl, rfl⟩
theorem pending_nil (w : World) : Calls Try.prog 40 #[.pointer none] w fun e w' => e = .returned (.int .i64 0) ∧ w = w' := by
  go_enter Try.func40, Try.ntmps40
  go_wp2
  go_ret
  exact ⟨rfl, rfl⟩
theorem size_nil (w : World) : Calls Try.prog 49 #[.pointer none] w fun e w' => e = .returned (.int .i64 0) ∧ w = w' := by
  go_enter Try.func49, Try.ntmps49
  go_wp2
  go_ret
  exact ⟨rfl, rfl⟩
end Go.Proofs.Ytlgefjcfnnjkbaa
