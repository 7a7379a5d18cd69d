/- Parts of the proof, one behind the other: LogZh, LogHc, LogHb, LogZi, LogCe. Each part's own words say what it proves; no conditions. -/
import Derived.Test.YtlgefjcfnnjkbaaGreatDoorP06
import Derived.Test.YtlgefjcfnnjkbaaGreatDoorP07
import Derived.Test.YtlgefjcfnnjkbaaGreatDoorP17
import Derived.Test.YtlgefjcfnnjkbaaGreatDoorP23
import Derived.Test.YtlgefjcfnnjkbaaGreatDoorP24
set_option linter.unusedVariables false
set_option linter.unusedSimpArgs false
set_option linter.unusedSectionVars false
/- The laws of a log in plain terms. Plain; no program is named; no conditions. -/
namespace Go.Proofs.YtlgefjcfnnjkbaaGreatDoor
set_option maxRecDepth 100000

theorem Ap.zero {d : D} {l : Lg} {sure : Nat} {all s : List (List UInt8)} {deep : Bool} {d' : D} {l' : Lg} {es : List Int} {e : Int} (h : Ap d l sure all s deep d' l' es e) (he : e = 0) :
    LSt d' l' sure (all ++ s) ∧ Stp d d' (65 * s.length) ∧ l'.per = l.per ∧ l'.segs = l.segs := by
  cases h with
  | ok d' l' es h hl n ha hd st => exact ⟨h, st, ha.per, ha.segs⟩
  | cut d' l' hc cr st => cases he
  | no e h => omega
theorem Wr.cutAt {S : Sh} {s j : Nat} {d : D} (h : Wr S s j d) {n : Nat} (hn : (n : Int) ≤ 9223372036854775807) : Wr S s j (d.cutAt n) :=
  ⟨⟨h.cr.ok, h.cr.dok.cutAt n hn, h.cr.room, h.cr.kept, h.cr.pend⟩, h.le, h.full, h.ahead⟩
theorem LSt.cutAt {d : D} {l : Lg} {sure : Nat} {all : List (List UInt8)} (h : LSt d l sure all) {n : Nat} (hn : (n : Int) ≤ 9223372036854775807) : LSt (d.cutAt n) l sure all := by
  cases h with
  | new h hs ha => exact .new ⟨h.is, h.per4, h.per64, h.segs12, h.dok.cutAt n hn, h.room, h.pend, h.zero⟩ hs ha
  | old S s m0 h hw hm hs hn' ha hh hne => exact .old S s m0 ⟨h.inv.cutAt hn, h.per, h.segs, h.top, h.last, h.len, h.use, h.sub, h.down, h.loose, h.tight⟩ hw hm hs hn' ha hh hne

/-- what is opened behind a power loss -/
structure Opd (d d' : D) (l' : Lg) (ps : List (Int × List UInt8)) (sure : Nat) (all : List (List UInt8)) : Prop where
  is : openL d 8 = .ok d' l' ps
  sure : sure ≤ ps.length
  all : ps.map Prod.snd <+: all
  st : OpSt 8 6 d' l' ps
  few : d'.pend.length ≤ d.pend.length
  cut : d'.cut = false
  len : d'.kept.length = 48
  ok : d'.Ok
theorem opd_of {d : D} {sure : Nat} {all : List (List UInt8)} (dok : d.Ok) (hlen : d.kept.length = 48) (hcut : d.cut = false) (hF : Fnd 8 6 d.there sure all) : ∃ d' l' ps, Opd d d' l' ps sure all := by
  obtain ⟨d', l', ps, h1, h2, h3, h4, h5, h6, h7, h8⟩ := fnd_open (per := 8) (segs := 6) (by decide) dok hlen hcut hF
  exact ⟨d', l', ps, h1, h2, h3, h4, h5, h6, by rw [h7]; exact hlen, h8⟩
theorem Cr.crash {d : D} {sure : Nat} {all : List (List UInt8)} (h : Cr 8 6 d sure all) (hlen : d.kept.length = 48) {L : List Nat} (hL : ∀ x ∈ L, x < d.pend.length) : ∃ d' l' ps, Opd (d.crash L) d' l' ps sure all :=
  opd_of (h.dok.crash hL) (by rw [D.crash_len]; exact hlen) rfl (h.mix _ (mix_crash d L hL))
theorem Cr.still {d : D} {sure : Nat} {all : List (List UInt8)} (h : Cr 8 6 d sure all) (hlen : d.kept.length = 48) (hcut : d.cut = false) : ∃ d' l' ps, Opd d d' l' ps sure all :=
  opd_of h.dok hlen hcut (h.mix _ (mix_there d))
theorem LSt.cr8 {d : D} {l : Lg} {sure : Nat} {all : List (List UInt8)} (h : LSt d l sure all) (h8 : l.per = 8) (h6 : l.segs = 6) : Cr 8 6 d sure all := by
  have := h.cr
  rwa [h8, h6] at this

/-- behind an append and, perhaps, a seal while power may go: what is left of it -/
structure CutOut (d : D) (all s : List (List UInt8)) (sealed : Bool) : Prop where
  cr : Cr 8 6 d (all.length + if sealed then s.length else 0) (all ++ s)
  len : d.kept.length = 48
  few : d.pend.length ≤ 5000
end Go.Proofs.YtlgefjcfnnjkbaaGreatDoor
/- A law's disk and its logs: all in blocks newer than the inputs. Inputs opened: groups of texts. No conditions. -/
namespace Go.Proofs.YtlgefjcfnnjkbaaGreatDoor
set_option maxRecDepth 100000
open Go.ChangeShapes Go.WideShapes Go.ChangeAt Go.RowKit Go.Joins Go.Deep

def GroupsAt (w : World) (v : Value) (gs : List (List (List UInt8))) : Prop := ∃ ao cap, v = .slice ao gs.length cap ∧ gs.length ≤ 9223372036854775807 ∧ ∀ k (hk : k < gs.length), ∃ b o vv ao' cap', ao = some ⟨b, o, none⟩ ∧ w.cell? ⟨b, o + k, none⟩ = some vv ∧ SliceOf w vv gs[k].length (txts gs[k]) ao' cap' ∧ ∀ x ∈ gs[k], x.length ≤ maxLen
section
variable {H : Type} {enc : TypeId × Value → H} {W : World} {base : Nat}
theorem texts_of_cells {n : Nat} {cs : List Value} {x : DataW H × List MemPlace} (h : DataW.trod enc Tryz.prog W base (fun _ => true) true n 29 cs = some x) :
    ∃ (vv : Value) (l : List (List UInt8)) (ao : Option Addr) (cap : Nat), cs = [vv] ∧ SliceOf W vv l.length (txts l) ao cap ∧ ∀ x ∈ l, x.length ≤ maxLen := by
  rcases open_strings Tryz.underlying29 Tryz.underlying9 (by kernel_rfl) h with ⟨hcs, _⟩ | ⟨a, len, cap, ss, hcs, hb, hl, hm, hlen, _, hcell, hws⟩
  · exact ⟨_, [], none, 0, hcs, ⟨rfl, by simp, fun j x hx => by simp [txts] at hx⟩, fun x hx => by cases hx⟩
  · simp only [if_true] at hlen
    have hll : ((ss.take len).map fun s => s.data.toList).length = len := by simp; omega
    refine ⟨_, (ss.take len).map fun s => s.data.toList, some a, cap, hcs, ?_, ?_⟩
    · rw [hll]
      refine sliceOf_addr (by unfold maxLen at hm; omega) (fun j x hx => ?_)
      have hj : j < len := by
        have := (List.getElem?_eq_some_iff.1 hx).1
        simp [txts] at this
        omega
      have e1 := hcell j (by omega)
      rw [e1]
      simp only [txts, List.map_map, List.getElem?_map, List.getElem?_take, hj, if_true, Option.map_eq_some_iff, Function.comp_apply] at hx
      obtain ⟨s, hs, rfl⟩ := hx
      rw [List.getD_eq_getElem?_getD, hs]
      rfl
    · intro x hx
      obtain ⟨s, hs, rfl⟩ := List.mem_map.1 hx
      have := hws s (List.mem_of_mem_take hs)
      simpa using this
theorem law_groups {r : Reach} {b0 : Nat} {v : Value} {d : DataW H} {ps : List MemPlace} (hval : Value.okWide Tryz.prog W r b0 22 v) (hd : DataW.Trod enc Tryz.prog W base (fun _ => true) true 22 v d ps) :
    ∃ gs : List (List (List UInt8)), GroupsAt W v gs := by
  obtain ⟨a0, n0, c0, rfl⟩ := okWide_slice Tryz.underlying22 hval
  obtain ⟨fuel, hf⟩ := hd
  rcases open_slice Tryz.underlying22 hf with ⟨hcs, _⟩ | ⟨a, len, cap, m, n, D, Pl, hcs, hb, hl, hm, hmm, _, hi⟩
  · simp only [Value.cells, List.cons.injEq, and_true] at hcs
    rw [hcs]
    exact ⟨[], none, 0, rfl, by simp, fun k hk => by simp at hk⟩
  · simp only [Value.cells, List.cons.injEq, and_true] at hcs
    rw [hcs]
    simp only [if_true] at hmm
    have hce : Tryz.prog.cellsOf 29 = 1 := by kernel_rfl
    rw [hce] at hi
    have each : ∀ i, i < len → ∃ l : List (List UInt8), ∃ (vv : Value) (ao : Option Addr) (cap : Nat), W.cell? (a.add i) = some vv ∧ SliceOf W vv l.length (txts l) ao cap ∧ ∀ x ∈ l, x.length ≤ maxLen := by
      intro i hil
      obtain ⟨cs', hc, ht⟩ := hi i (by omega)
      obtain ⟨_, hcl, hat⟩ := World.cells?_some hc
      obtain ⟨vv, l, ao, cap, rfl, h1, h2⟩ := texts_of_cells ht
      refine ⟨l, vv, ao, cap, ?_, h1, h2⟩
      have := hat 0 (by omega)
      rw [Go.Deep.add_add, Nat.mul_one, Nat.add_zero] at this
      exact this
    obtain ⟨gs, rfl, hp⟩ := exists_list len each
    refine ⟨gs, some a, cap, rfl, by unfold maxLen at hm; omega, fun k hk => ?_⟩
    obtain ⟨vv, ao, cp, h1, h2, h3⟩ := hp k hk
    have h0 : ∃ b o, a = ⟨b, o, none⟩ := by
      obtain ⟨v0, _, _, q1, _⟩ := hp 0 (by omega)
      rw [add_zero_addr] at q1
      exact addr_of_cell q1
    obtain ⟨b, o, rfl⟩ := h0
    exact ⟨b, o, vv, ao, cp, rfl, by rw [← add_mk]; exact h1, h2, h3⟩
end
theorem GroupsAt.only {w w' : World} {v : Value} {gs : List (List (List UInt8))} (h : GroupsAt w v gs) (ho : Only (fun _ => False) w w') : GroupsAt w' v gs := by
  obtain ⟨ao, cap, rfl, hl, hc⟩ := h
  refine ⟨ao, cap, rfl, hl, fun k hk => ?_⟩
  obtain ⟨b, o, vv, ao', cap', e, h1, h2, h3⟩ := hc k hk
  exact ⟨b, o, vv, ao', cap', e, by rw [ho.cell (World.block_lt_of_cell? _ _ h1) id]; exact h1, h2.only ho, h3⟩

/-- a law's disk: in blocks newer than those of the world that the law began in -/
structure Lw (w0 w : World) (p kb : Nat) (pv : Value) (d : D) : Prop where
  only : Only (fun _ => False) w0 w
  da : DAt w p kb pv d
  new : ∀ b, fp p kb pv b → w0.heap.size ≤ b
section
variable {w0 w w' : World} {p kb : Nat} {pv pv' : Value} {d d' : D} (h : Lw w0 w p kb pv d)
include h
theorem Lw.quiet (ho : Only (fun _ => False) w w') : Lw w0 w' p kb pv d := ⟨h.only.trans ho, h.da.only ho (fun _ _ => id), h.new⟩
theorem Lw.old (ho : Only (fp p kb pv) w w') : Only (fun _ => False) w0 w' := h.only.trans' ho fun y hy e => by have := h.new y e; omega
theorem Lw.step (k : DStep w w' p kb pv pv' d') : Lw w0 w' p kb pv' d' := ⟨h.old k.only, k.da, fun b hb => by
  rcases hb with e | e | e
  · exact h.new b (.inl e)
  · exact h.new b (.inr (.inl e))
  · rcases k.fresh b e with e2 | e2
    · exact h.new b (.inr (.inr e2))
    · exact Nat.le_trans h.only.size e2⟩
theorem Lw.lstep {lb : Nat} {l' : Lg} (hlb : w0.heap.size ≤ lb) (k : LStep w w' lb p kb pv pv' d' l') : Lw w0 w' p kb pv' d' := ⟨h.only.trans' k.only fun y hy e => by
  rcases e with e | e
  · omega
  · have := h.new y e; omega, k.at_.da, fun b hb => by
  rcases hb with e | e | e
  · exact h.new b (.inl e)
  · exact h.new b (.inr (.inl e))
  · rcases k.fresh b e with e2 | e2
    · exact h.new b (.inr (.inr e2))
    · exact Nat.le_trans h.only.size e2⟩
/-- a call that turns the disk's own blocks only -/
theorem Lw.turn (hd : DAt w' p kb pv' d') (ho : Only (fp p kb pv) w w') (hv : ∀ g, pv'.ownBlock = some g → pv.ownBlock = some g ∨ w.heap.size ≤ g) : Lw w0 w' p kb pv' d' := h.step ⟨hd, ho, hv⟩
theorem Lw.row {base : Nat} {e : TypeId} {size : Nat} {v : Value} {n : Nat} {xs : List Value} (hr : w.ownsRow base e size v n xs) (he : e ≠ 134) (h1 : p < base) (h2 : kb < base) (ho : Only (fp p kb pv) w w') : w'.ownsRow base e size v n xs :=
  ownsRow_only hr ho fun x hx e2 => by
    have := ownBlock_ge hr hx
    rcases e2 with e2 | e2 | e2
    · omega
    · omega
    · exact rows_apart hr h.da.pend he x hx e2
end
theorem crash_lt {n : Nat} {ns : List Int} (h : crashOk n ns) : ∀ x ∈ ns.map Int.toNat, x < n := fun x hx => by
  obtain ⟨y, hy, rfl⟩ := List.mem_map.1 hx
  have := h.1 y hy
  omega
abbrev errHandle (w : World) : Prop := w.cell? ⟨0, 0, none⟩ = some (.iface 148 (.agg #[.pointer (some ⟨1, 76, none⟩)]))
theorem Lw.handle {w0 w : World} {p kb : Nat} {pv : Value} {d : D} (h : Lw w0 w p kb pv d) (hg : errHandle w0) : errHandle w := by
  unfold errHandle at *
  rw [h.only.cell (World.block_lt_of_cell? _ _ hg) id]; exact hg
/-- a disk of 48 sectors is opened -/
theorem lw_open {w0 w : World} {p kb : Nat} {pv : Value} {d : D} (h : Lw w0 w p kb pv d) (hg : errHandle w0) (hlen : d.kept.length = 48) (hroom : d.pend.length ≤ 900000) :
    Calls Tryz.prog 13 #[.pointer (some ⟨p, 0, none⟩), .int .i64 8] w (OpenPost w p kb pv (openL d 8)) :=
  open_any w p kb pv d 8 h.da (by decide) (by decide) (by rw [hlen]; decide) (by rw [hlen]; decide) (by omega) (fun _ => h.handle hg)
theorem lw_new {w0 w1 w2 : World} {p kb n : Nat} (ho : Only (fun _ => False) w0 w1) (hd : DAt w2 p kb (.slice none 0 0) (D.new n)) (hp : w1.heap.size ≤ p) (hk : w1.heap.size ≤ kb) (ho2 : Only (fun _ => False) w1 w2) : Lw w0 w2 p kb (.slice none 0 0) (D.new n) :=
  ⟨ho.trans ho2, hd, fun b hb => by
    have := ho.size
    rcases hb with e | e | e
    · omega
    · omega
    · cases e⟩
/-- a row in a block newer than the log's and the disk's own -/
theorem LStep.rowB {w w' : World} {lb p kb : Nat} {pv pv' : Value} {d d' : D} {l l' : Lg} (hs : LStep w w' lb p kb pv pv' d' l') (h : LgAt w lb p kb pv d l) {base : Nat} {e : TypeId} {size : Nat} {v : Value} {n : Nat} {xs : List Value} (hr : w.ownsRow base e size v n xs) (he : e ≠ 134)
    (h1 : lb < base) (h2 : p < base) (h3 : kb < base) : w'.ownsRow base e size v n xs :=
  hs.row h hr he fun x hx => by have := ownBlock_ge hr hx; omega
theorem row_quiet {w w' : World} {base : Nat} {e : TypeId} {size : Nat} {v : Value} {n : Nat} {xs : List Value} (hr : w.ownsRow base e size v n xs) (ho : Only (fun _ => False) w w') : w'.ownsRow base e size v n xs := ownsRow_only hr ho (fun _ _ h => h)
theorem slice_alloc_cells (w : World) (cs : List Value) (t : TypeId) (n : Nat) (hn : n ≤ 9223372036854775807) : SliceOf (w.alloc (.cells cs.toArray t)) (.slice (some ⟨w.heap.size, 0, none⟩) n n) n cs (some ⟨w.heap.size, 0, none⟩) n :=
  ⟨rfl, hn, fun j x hx => ⟨_, _, rfl, by
    rw [Nat.zero_add, cell_at (heap_alloc_new w (.cells cs.toArray t)), List.getElem?_toArray]
    exact hx⟩⟩
theorem slice_alloc_one (w : World) (b : List UInt8) : SliceOf (w.alloc (.cells #[.string ⟨b.toArray⟩] 9)) (.slice (some ⟨w.heap.size, 0, none⟩) 1 1) [b].length (txts [b]) (some ⟨w.heap.size, 0, none⟩) 1 :=
  ⟨rfl, by simp, fun j x hx => ⟨_, _, rfl, by
    rw [Nat.zero_add, cell_at (heap_alloc_new w (.cells #[.string ⟨b.toArray⟩] 9)), List.getElem?_toArray]
    exact hx⟩⟩
theorem Lw.ints {w0 w : World} {p kb : Nat} {pv : Value} {d : D} (h : Lw w0 w p kb pv d) {v : Value} {ns : List Int} {ao : Option Addr} {cap : Nat} (hi : IntsAt w0 v ns ao cap) : IntsAt w v ns ao cap := hi.only h.only fun _ _ _ _ _ _ hn => hn
end Go.Proofs.YtlgefjcfnnjkbaaGreatDoor
/- A log in which groups of batches were appended. No conditions. -/
namespace Go.Proofs.YtlgefjcfnnjkbaaGreatDoor
set_option maxRecDepth 100000
open Go.RowKit

structure Made (w' : World) (base lb p kb : Nat) (pv' : Value) (d : D) (l : Lg) (sure : Nat) (all : List (List UInt8)) (vs va : Value) : Prop where
  at_ : LgAt w' lb p kb pv' d l
  st : LSt d l sure all
  row : w'.ownsRow base 9 1 va all.length (txts all)
  vs : ∃ ao cap, vs = .slice ao sure cap
  cut : d.cut = false
  len : d.kept.length = 48
  pend : d.pend.length ≤ 2500
  per : l.per = 8
  segs : l.segs = 6
  few : all.length ≤ 25
  sect : Sect d
  top : l.top ≤ 30
theorem shut_top (l : Lg) (d : D) : (l.shut d).2.1.top = l.top := by
  unfold Lg.shut
  split
  · rfl
  · generalize syncP d = r
    obtain ⟨d1, _ | _⟩ := r
    · rfl
    · simp only
      split
      · rfl
      · generalize l.sealD d1 = q
        obtain ⟨d2, _ | _⟩ := q <;> rfl
theorem top_few {d' : D} {l l' : Lg} {sure n : Nat} {all : List (List UInt8)} {m : Int} (h : LSt d' l' sure all) (ha : Adv l l' n m) : l'.top ≤ l.top + l.segs := by
  have h1 := used_le h.chOk.1
  have h2 := ha.used
  have h3 := ha.segs
  rw [ha.top]; omega
def MadePost (w : World) (p kb : Nat) (e : Ending) (w' : World) : Prop := ∃ lb pv' d l sure all vs va, e = .returned (.tuple #[.pointer (some ⟨lb, 0, none⟩), vs, va]) ∧ w.heap.size ≤ lb ∧ DStep w w' p kb (.slice none 0 0) pv' d ∧ Made w' w.heap.size lb p kb pv' d l sure all vs va

theorem LStep.dstep {w w1 wr : World} {lb p kb : Nat} {pv0 pv1 pvk : Value} {D0 dk : D} {lk : Lg} (h : DStep w w1 p kb pv0 pv1 D0) (hl : w.heap.size ≤ lb) (k : LStep w1 wr lb p kb pv1 pvk dk lk) : DStep w wr p kb pv0 pvk dk :=
  ⟨k.at_.da, h.only.trans' k.only (fun y hy e => by
    rcases e with e | e
    · omega
    · rcases h.fp y e with e2 | e2
      · exact e2
      · omega), fun g hg => by
    rcases k.fresh g hg with e | e
    · exact h.fresh g e
    · exact .inr (Nat.le_trans h.only.size e)⟩
theorem made_end {w w1 wr : World} {lb p kb : Nat} {pv1 pvk : Value} {D0 dk : D} {lk : Lg} {sure : Nat} {all : List (List UInt8)} {ao : Option Addr} {cap : Nat} {va : Value} (h : DStep w w1 p kb (.slice none 0 0) pv1 D0) (hl : w.heap.size ≤ lb) (hL : LStep w1 wr lb p kb pv1 pvk dk lk) (hst : LSt dk lk sure all)
    (hrow : wr.ownsRow w1.heap.size 9 1 va all.length (txts all)) (hcut : dk.cut = false) (hlen : dk.kept.length = 48) (hp : dk.pend.length ≤ 2500) (hper : lk.per = 8) (hsegs : lk.segs = 6) (hall : all.length ≤ 25) (hsect : Sect dk) (htop : lk.top ≤ 30) :
    MadePost w p kb (.returned (.tuple #[.pointer (some ⟨lb, 0, none⟩), .slice ao sure cap, va])) wr :=
  ⟨lb, pvk, dk, lk, sure, all, _, va, rfl, hl, hL.dstep h hl, hL.at_, hst, ownsRow_down hrow h.only.size, ⟨ao, cap, rfl⟩, hcut, hlen, hp, hper, hsegs, hall, hsect, htop⟩

set_option maxHeartbeats 16000000 in
theorem made_any (w : World) (p kb : Nat) (v : Value) (gs : List (List (List UInt8))) (hd : DAt w p kb (.slice none 0 0) (D.new 48)) (hgs : ∀ W, Only (fp p kb (.slice none 0 0)) w W → GroupsAt W v gs) :
    Calls Tryz.prog 11 #[.pointer (some ⟨p, 0, none⟩), v] w (MadePost w p kb) := by
  have hop := open_any w p kb (.slice none 0 0) (D.new 48) 8 hd (by decide) (by decide) (by simp [D.new]) (by simp [D.new]) (by simp [D.new]) (fun ⟨x, hx⟩ => by
    have h1 := look_blank (g := frAt (D.new 48) 8) (per := 8) (segs := (D.new 48).kept.length / 8) (fun k a hk ha => new_at 48 8 6 (by decide) k a (by simpa [D.new] using hk) ha)
    rw [h1] at hx; cases hx)
  rw [open_new 48 8] at hop
  have HOP := Lib.hid hop
  have hst0 : LSt (D.new 48) (Lg.new 8 6) 0 [] := .new (lnew_new 48 8 (by decide) (by decide) (by decide) (by decide)) rfl rfl
  have HST0 := Lib.hid hst0
  obtain ⟨ao, cap, rfl, hgl, _⟩ := hgs w (Only.refl _ _)
  have HGS := Lib.hid hgs
  have hkl : (D.new 48).kept.length = 48 := by simp [D.new]
  have hpl : (D.new 48).pend.length = 0 := rfl
  have hct : (D.new 48).cut = false := rfl
  have hsc : Sect (D.new 48) := Sect.new 48
  generalize D.new 48 = D0 at HOP HST0 hkl hpl hct hd hsc
  have HKL := Lib.hid hkl
  have HPL := Lib.hid hpl
  have HCT := Lib.hid hct
  have HSC := Lib.hid hsc
  clear hop hst0 hgs hkl hpl hct hsc
  go_enter Tryz.func11, Tryz.ntmps11
  go_wp2_with fail
  refine HOP.out.mono ?_
  rintro ev w1 ⟨pv1, lb, psv, rfl, hlb, hDS, hLg, _, _⟩
  have HDS := Lib.hid hDS
  have HLB := Lib.hid hlb
  have HLG := Lib.hid hLg
  clear hDS hLg hlb HOP
  go_wp2_with fail
  go_loopw [11, 12, 13] (fun s11 s12 i wr => ∃ (k : Nat) (pvk : Value) (dk : D) (lk : Lg) (sure : Nat) (all : List (List UInt8)) (ao : Option Addr) (cap : Nat), i = .int .i64 (k : Int) ∧ k ≤ gs.length ∧ k ≤ 5 ∧ s11 = .slice ao sure cap ∧ LStep w1 wr lb p kb pv1 pvk dk lk ∧ LSt dk lk sure all ∧
    Hid (wr.ownsRow w1.heap.size 9 1 s12 all.length (txts all)) ∧ dk.cut = false ∧ dk.kept.length = 48 ∧ dk.pend.length ≤ 400 * k ∧ lk.per = 8 ∧ lk.segs = 6 ∧ all.length ≤ 5 * k ∧ Hid (Sect dk) ∧ lk.top ≤ 6 * k) (fun _ _ i _ => 6 - (intOf i).toNat)
  case atStart => exact ⟨0, pv1, D0, Lg.new 8 6, 0, [], none, 0, rfl, by omega, by omega, rfl, LStep.refl HLG.out, HST0.out, Lib.hid (nil_row _ _ _ _), HCT.out, HKL.out, by rw [HPL.out]; omega, rfl, rfl, by simp, HSC, by simp [Lg.new]⟩
  case round =>
    obtain ⟨k, pvk, dk, lk, sure, all, ao1, cap1, rfl, hk, hk5, rfl, hL, hst, hrow, hcut, hlen, hpend, hper, hsegs, hall, hsect, htop⟩ := hrel
    by_cases hkl : k < gs.length
    · by_cases h5 : k < 5
      · have hI : (k : Int) < (gs.length : Int) := by omega
        have hI5 : (k : Int) < 5 := by omega
        have hbk : Only (fp p kb (.slice none 0 0)) w wr := HDS.out.only.trans' hL.only (fun y hy e => by
          rcases e with e | e
          · have := HLB.out; omega
          · rcases HDS.out.fp y e with e2 | e2
            · exact e2
            · omega)
        obtain ⟨ao2, cap2, e2, _, hcells⟩ := HGS.out wr hbk
        obtain ⟨rfl, rfl⟩ : ao = ao2 ∧ cap = cap2 := by simpa using e2
        obtain ⟨gb, go, vv, ao', cap', rfl, hcell, hslg, hml⟩ := hcells k hkl
        have HFW := Lib.hid (few_any wr vv gs[k] ao' cap' hslg hml)
        have hfl := fewL_length gs[k]
        have hf2 := fewL_len gs[k]
        generalize fewL gs[k] = s at HFW hfl hf2
        have HF2 := Lib.hid hf2
        have HLS := Lib.hid hL
        have HST := Lib.hid hst
        clear e2 hcells hslg hml hbk hf2 hL hst
        go_wp2_with fail
        refine HFW.out.mono ?_
        rintro ev x1 ⟨v', rfl, hr1, ho1⟩
        obtain ⟨ao3, cap3, hsl3⟩ := sliceOf_own hr1
        have hL1 := HLS.out.quiet ho1
        have hge1 : ∀ b, v'.ownBlock = some b → wr.heap.size ≤ b := fun b hb => ownBlock_ge hr1 hb
        have hAP := append_steps HST.out HST.out.down s true
        have HS2 := Lib.hid (Sect.append hsect.out lk s true)
        have HAW := Lib.hid (append_any x1 lb p kb pvk dk lk hL1.at_ s v' ao3 cap3 true hsl3 (fun b hb => by have := HF2.out b hb; omega) (by omega) (fun b o e => by
          have hb : v'.ownBlock = some b := by rw [hsl3.val, e]; rfl
          have h1 := hge1 b hb
          have h2 := HLS.out.at_.lt
          exact ⟨by omega, fun h3 => by have := HLS.out.at_.da.fp_lt b h3; omega⟩) (HST.out.appendOk s true (by omega)))
        generalize lk.append dk s true = AP at hAP HAW HS2
        obtain ⟨d2, l2, es, e⟩ := AP
        simp only at hAP
        have HR1 := Lib.hid hr1
        have HRW := Lib.hid (ownsRow_only hrow.out ho1 (fun _ _ h => h))
        have HL1 := Lib.hid hL1
        have HO1 := Lib.hid ho1
        have HGE := Lib.hid hge1
        have HAP := Lib.hid hAP
        clear hr1 hrow hL1 ho1 hge1 hAP HFW hsl3 hcell
        go_wp2_with fail
        refine HAW.out.mono ?_
        rintro ev x2 ⟨pv2, v2, rfl, _, hL2⟩
        have HL2 := Lib.hid hL2
        clear hL2 HAW
        have hm := HAP.out
        clear HAP
        cases hm with
        | cut d' l' hc cr stp => rw [hcut] at hc; cases hc
        | no e he =>
          have HLE := Lib.hid (HL1.out.trans HL2.out)
          have HRE := Lib.hid (HL2.out.row HL1.out.at_ HRW.out (by decide) (fun x hx => by
            have h1 := ownBlock_ge HRW.out hx
            have h2 := HLG.out.lt
            have h3 := HLG.out.da.fp_lt p (.inl rfl)
            have h4 := HLG.out.da.fp_lt kb (.inr (.inl rfl))
            omega))
          have hne : (e != 0) = true := by rcases he with rfl | rfl | rfl <;> decide
          clear he HL1 HL2 HRW HR1
          go_wp2_with fail
          refine bodyPost_ret (results_tmp3 rfl _ _ _) rfl ?_
          exact made_end HDS.out HLB.out HLE.out HST.out HRE.out hcut hlen (by omega) hper hsegs (by omega) hsect.out (by omega)
        | ok d' l' es h hl n ha hdp stp =>
          have htop2 : l2.top ≤ 6 * ((k : Int) + 1) := by have := top_few h ha; omega
          have hLE := HL1.out.trans HL2.out
          have hpk := HLG.out.da.fp_lt p (.inl rfl)
          have hkk := HLG.out.da.fp_lt kb (.inr (.inl rfl))
          have hlbl := HLG.out.lt
          have hwr := HLS.out.only.size
          have hR2 := HL2.out.row HL1.out.at_ HRW.out (by decide) (fun x hx => by
            have h1 := ownBlock_ge HRW.out hx
            omega)
          have hS2 := HL2.out.row HL1.out.at_ HR1.out (by decide) (fun x hx => by
            have h1 := ownBlock_ge HR1.out hx
            omega)
          obtain ⟨ao5, cap5, hsl5⟩ := sliceOf_own hS2
          obtain ⟨v6, w6, hrun6, hown6, ho6, hfr6⟩ := append_src_row2 (P := Tryz.prog) x2 w1.heap.size 29 29 29 9 _ 1 16 Tryz.underlying29 Tryz.info9 rfl (by decide) u12 all.length (txts all) hR2 v' s.length (txts s) (src_slice Tryz.underlying29 hsl5 (by simp [txts]) (by decide) (txts_one s)) (by omega) (by decide) hLE.only.size
          have hL6 := hLE.aside ho6 (fun x hx => by
            have h1 := ownBlock_ge hR2 hx
            refine ⟨by omega, fun hf => ?_⟩
            rcases hf with e | e | e
            · omega
            · omega
            · exact rows_apart hR2 hLE.at_.da.pend (by decide) x hx e) (fun x hx => ownBlock_ge hR2 hx)
          have hA2 : (txts all ++ txts s : List Value) = txts (all ++ s) := by simp [txts]
          rw [hA2, show all.length + s.length = (all ++ s).length by simp] at hown6
          have HRUN := Lib.hid hrun6
          have HOWN := Lib.hid hown6
          have HL6 := Lib.hid hL6
          have HH := Lib.hid h
          have hall2 : (all ++ s).length ≤ 5 * (k + 1) := by rw [List.length_append]; omega
          have hcut2 := stp.cut hcut
          have hlen2 : d2.kept.length = 48 := by rw [stp.len]; exact hlen
          have hpend2 : d2.pend.length ≤ 400 * k + 325 := by have := stp.few; omega
          have hper2 : l2.per = 8 := by rw [ha.per]; exact hper
          have hsegs2 : l2.segs = 6 := by rw [ha.segs]; exact hsegs
          generalize all ++ s = all2 at HOWN HH hall2
          clear hLE hR2 hS2 hsl5 hrun6 hown6 ho6 hfr6 hL6 hA2 h HL1 HL2 HRW HR1 HST hl ha hdp stp HLS HF2 HO1 HGE
          go_upto_region 11 with ((with_reducible refine wpList_append_run u12 v' v6 HRUN.out ?_ ?_ ?_); (· rfl); (· rfl))
          by_cases hc1 : k + 1 < gs.length ∧ k < 4
          · obtain ⟨hca, hcb⟩ := hc1
            have hJ1 : (k : Int) + 1 < (gs.length : Int) := by omega
            have hJ2 : (k : Int) < 4 := by omega
            have htop3 := shut_top l2 d2
            have hS4 := HS2.out.shut l2
            have hSH := shut_any w6 lb p kb pv2 d2 l2 HL6.out.at_ HH.out.shutOk (by omega)
            obtain ⟨d3, l3, e3, q1, q2, q3, q4, q5, q6, q7, q8⟩ := shut_steps HH.out
            rw [q1] at hSH htop3 hS4
            simp only at htop3 hS4
            have HS4 := Lib.hid hS4
            obtain rfl : e3 = 0 := q2 hcut2
            have hS3 := (q8 rfl).st
            have hcut3 := q4.cut hcut2
            have hlen3 : d3.kept.length = 48 := by rw [q4.len]; exact hlen2
            have hpend3 : d3.pend.length ≤ 400 * (k + 1) := by have := q4.few; omega
            have HSH := Lib.hid hSH
            have HS3 := Lib.hid hS3
            clear hSH hS3 hS4 q1 q2 q3 q4 q5 q8 HRUN
            go_wp2_with fail
            refine HSH.out.mono ?_
            rintro ev w7 ⟨pv7, rfl, hL7⟩
            have hR7 := hL7.row HL6.out.at_ HOWN.out (by decide) (fun x hx => by
              have h1 := ownBlock_ge HOWN.out hx
              omega)
            have HL7 := Lib.hid (HL6.out.trans hL7)
            have HR7 := Lib.hid hR7
            obtain ⟨ao6, cap6, hsl6⟩ := sliceOf_own hR7
            obtain rfl := hsl6.val
            obtain ⟨hcp1, hcp2⟩ := own_cap hR7
            unfold maxLen at hcp2
            rcases hR7.2 with ⟨e, _⟩ | ⟨g, c2, cur, e, _⟩
            · obtain ⟨rfl, e1, rfl⟩ : ao6 = none ∧ all2.length = 0 ∧ cap6 = 0 := by simpa using e
              have HE1 := Lib.hid e1
              clear hL7 hR7 hsl6 HSH e
              obtain rfl : all2 = [] := List.eq_nil_of_length_eq_zero HE1.out
              clear HE1
              go_wp2_with fail
              exact ⟨⟨k + 1, pv7, d3, l3, 0, [], none, 0, by go_num, by omega, by omega, rfl, HL7.out, HS3.out, HR7, hcut3, hlen3, hpend3, by rw [q6]; exact hper2, by rw [q7]; exact hsegs2, hall2, HS4, by rw [htop3]; omega⟩, by simp [intOf]; omega⟩
            · obtain ⟨rfl, rfl⟩ : ao6 = some ⟨g, 0, none⟩ ∧ cap6 = c2 := by simpa using e
              clear hL7 hR7 hsl6 HSH e
              go_wp2_with fail
              exact ⟨⟨k + 1, pv7, d3, l3, all2.length, all2, _, _, by go_num, by omega, by omega, rfl, HL7.out, HS3.out, HR7, hcut3, hlen3, hpend3, by rw [q6]; exact hper2, by rw [q7]; exact hsegs2, hall2, HS4, by rw [htop3]; omega⟩, by simp [intOf]; omega⟩
          · have hpend3 : d2.pend.length ≤ 400 * (k + 1) := by omega
            by_cases hca : k + 1 < gs.length
            · have hJ1 : (k : Int) + 1 < (gs.length : Int) := by omega
              have hJ2 : ¬ (k : Int) < 4 := by omega
              clear hc1 HRUN
              go_wp2_with fail
              exact ⟨⟨k + 1, pv2, d2, l2, sure, all2, _, _, by go_num, by omega, by omega, rfl, HL6.out, HH.out, HOWN, hcut2, hlen2, hpend3, hper2, hsegs2, hall2, HS2, by omega⟩, by simp [intOf]; omega⟩
            · have hJ1 : ¬ (k : Int) + 1 < (gs.length : Int) := by omega
              clear hc1 HRUN
              go_wp2_with fail
              exact ⟨⟨k + 1, pv2, d2, l2, sure, all2, _, _, by go_num, by omega, by omega, rfl, HL6.out, HH.out, HOWN, hcut2, hlen2, hpend3, hper2, hsegs2, hall2, HS2, by omega⟩, by simp [intOf]; omega⟩
      · obtain rfl : k = 5 := by omega
        have HLE := Lib.hid hL
        have HST := Lib.hid hst
        clear hL hst
        go_wp2_with fail
        refine bodyPost_ret (results_tmp3 rfl _ _ _) rfl ?_
        exact made_end HDS.out HLB.out HLE.out HST.out hrow.out hcut hlen (by omega) hper hsegs (by omega) hsect.out (by omega)
    · obtain rfl : k = gs.length := by omega
      have hI : ¬ (gs.length : Int) < (gs.length : Int) := by omega
      have HLE := Lib.hid hL
      have HST := Lib.hid hst
      clear hL hst
      go_wp2_with fail
      refine bodyPost_ret (results_tmp3 rfl _ _ _) rfl ?_
      exact made_end HDS.out HLB.out HLE.out HST.out hrow.out hcut hlen (by omega) hper hsegs (by omega) hsect.out (by omega)
end Go.Proofs.YtlgefjcfnnjkbaaGreatDoor
/- A small log, reckoned: one batch is appended and sealed, another one appended, power goes. Plain; no program is named; no conditions. -/
namespace Go.Proofs.YtlgefjcfnnjkbaaGreatDoor
set_option maxRecDepth 100000

def shA : D × Lg × List Int × Int := (Lg.new 4 4).append (D.new 16) [[97]] false
def shB : D × Lg × Int := shA.2.1.shut shA.1
def shC : D × Lg × List Int × Int := shB.2.1.append shB.1 [[98]] false
def shE : D := shC.1.crash []
def piecesOpt : Opened → Option (List (Int × List UInt8))
  | .ok _ _ p => some p
  | _ => none
theorem sh_a : shA.2.2.1 = [1] ∧ shA.2.2.2 = 0 := by decide +kernel
theorem sh_b : shB.2.2 = 0 := by decide +kernel
theorem sh_u : shB.2.1.uses = [⟨1, 3⟩] := by decide +kernel
theorem sh_f : shB.2.1.free = 3 := by decide +kernel
theorem sh_c : shC.2.2.1 = [2] ∧ shC.2.2.2 = 0 := by decide +kernel
theorem sh_o : piecesOpt (openL shE 4) = some [(1, [97])] := by decide +kernel
theorem sh_p : shC.1.pend.length ≤ 100 ∧ shA.1.pend.length ≤ 100 ∧ shB.1.pend.length ≤ 100 := by decide +kernel
theorem sh_k : shE.kept.length = 16 ∧ shA.1.kept.length = 16 ∧ shB.1.kept.length = 16 ∧ shC.1.kept.length = 16 := by decide +kernel
theorem sh_st0 : LSt (D.new 16) (Lg.new 4 4) 0 [] := .new (lnew_new 16 4 (by decide) (by decide) (by decide) (by decide)) rfl rfl
theorem sh_stA : LSt shA.1 shA.2.1 0 [[97]] := ((append_steps sh_st0 rfl [[97]] false).zero sh_a.2).1
theorem sh_stB : LSt shB.1 shB.2.1 1 [[97]] := by
  obtain ⟨d', l', e', h1, _, _, _, _, _, _, h⟩ := shut_steps sh_stA
  have h2 : shB = (d', l', e') := h1
  have h0 := sh_b
  rw [h2] at h0 ⊢
  exact (h h0).st
theorem sh_stC : LSt shC.1 shC.2.1 1 [[97], [98]] := ((append_steps sh_stB sh_stB.down [[98]] false).zero sh_c.2).1
theorem sh_E : shE.pend = [] ∧ shE.cut = false := ⟨rfl, rfl⟩
theorem sh_per : shC.2.1.per = 4 := by decide +kernel
def lenOpt : Opened → Nat
  | .ok d _ _ => d.kept.length
  | _ => 0
theorem sh_n : lenOpt (openL shE 4) = 16 := by decide +kernel
theorem sh_s : shE.kept.length = 16 ∧ shE.pend.length = 0 := by decide +kernel
theorem piecesOpt_some {r : Opened} {p : List (Int × List UInt8)} (h : piecesOpt r = some p) : ∃ d l, r = .ok d l p := by
  cases r with
  | ok d l q => exact ⟨d, l, by rw [show q = p from Option.some.inj h]⟩
  | rot x => cases h
  | err d e => cases h
theorem piecesOpt_rot {d : D} {per : Nat} {x : Nat} (h : look (frAt d per) per (d.kept.length / per) = .inr x) : piecesOpt (openL d per) = none := by
  unfold openL
  simp only
  rw [h]; rfl
end Go.Proofs.YtlgefjcfnnjkbaaGreatDoor
/- A log's chain, as it is told. No conditions. -/
namespace Go.Proofs.YtlgefjcfnnjkbaaGreatDoor
set_option maxRecDepth 100000
open Go.RowKit

theorem Tryz.buildApiUse (a b : Int) (w : World) : (Instr.build 39 #[(0, .int .i64 a), (1, .int .i64 b)]).run Tryz.prog w = .ok (.agg #[.int .i64 a, .int .i64 b]) w := by kernel_rfl
theorem Tryz.infoApiUse : (Tryz.prog.info? 39).map (fun i => (i.zero, i.size, i.bytes)) = some (some (.agg #[.int .i64 0, .int .i64 0]), 2, 16) := by kernel_rfl
theorem usCells_append (a b : List Us) : usCells (a ++ b) = usCells a ++ usCells b := by simp [usCells]
def ChainPost (w : World) (us : List Us) (e : Ending) (w' : World) : Prop := ∃ v, e = .returned v ∧ w'.ownsRow w.heap.size 39 2 v us.length (usCells us) ∧ Only (fun _ => False) w w'

set_option maxHeartbeats 8000000 in
theorem chain_any (w : World) (lb p kb : Nat) (pv : Value) (d : D) (l : Lg) (h : LgAt w lb p kb pv d l) :
    Calls Tryz.prog 14 #[.pointer (some ⟨lb, 0, none⟩)] w (ChainPost w l.uses) := by
  have HB := Lib.hid (show l.uses = (if l.down then [] else (orderL l.chain).map fun k => l.chain.getD k Us.no) from rfl)
  generalize l.uses = B at HB ⊢
  have h31 := h.c31
  cases hd : l.down with
  | true =>
    rw [hd] at h31 HB
    have HN := Lib.hid (show B = [] from HB.out)
    clear hd HB
    go_enter Tryz.func14, Tryz.ntmps14
    go_wp2_with fail
    go_ret
    exact ⟨.slice none 0 0, rfl, by rw [HN.out]; exact ⟨rfl, .inl ⟨rfl, rfl⟩⟩, Only.refl _ _⟩
  | false =>
    rw [hd] at h31 HB
    have HN := Lib.hid (show B = (orderL l.chain).map fun k => l.chain.getD k Us.no from HB.out)
    clear hd HB
    have hol : (orderL l.chain).length ≤ 12 := by
      have h1 : (orderL l.chain).length = (usedL l.chain).length := (insAll_perm l.chain _).length_eq
      have := usedTo_le l.chain l.chain.length
      rw [h.len] at this
      rw [h1, usedL, h.len]
      exact this
    have hom : ∀ k ∈ orderL l.chain, k < 12 := fun k hk => by have := ((mem_orderL _ k).1 hk).1; rw [h.len] at this; exact this
    have HORD := Lib.hid (order_any w lb 3 l.chain h.cat)
    generalize orderL l.chain = L at HN hol hom HORD
    have HOM := Lib.hid hom
    clear hom
    go_enter Tryz.func14, Tryz.ntmps14
    go_wp2_with fail
    refine HORD.out.mono ?_
    rintro ev w1 ⟨v, rfl, hord, ho1⟩
    obtain ⟨ao, cap, hsl⟩ := sliceOf_own hord
    obtain rfl := hsl.val
    have h1 := h.quiet ho1
    have HROW := Lib.hid hord
    have HO1 := Lib.hid ho1
    clear hord hsl HORD ho1 h31
    go_wp2_with fail
    go_loopw [3, 19] (fun v i wr => ∃ k : Nat, k ≤ L.length ∧ i = .int .i64 (k : Int) ∧ Hid (wr.ownsRow w1.heap.size 39 2 v k (usCells ((L.take k).map fun k => l.chain.getD k Us.no))) ∧ Only (fun _ => False) w1 wr) (fun v i _ => 13 - (intOf i).toNat)
    case atStart => exact ⟨0, by omega, rfl, Lib.hid ⟨rfl, .inl ⟨rfl, rfl⟩⟩, Only.refl _ _⟩
    case round =>
      obtain ⟨k, hk, rfl, hrow, hor⟩ := hrel
      by_cases hkl : k < L.length
      · have hI : (k : Int) < (L.length : Int) := by omega
        have hI0 : (0 : Int) ≤ (k : Int) := by omega
        obtain ⟨ao3, cap3, hsl⟩ := sliceOf_own (ownsRow_only HROW.out hor (fun _ _ h => h))
        obtain ⟨gl, ol, hao, hcl3⟩ := hsl.cell k _ (natVs_get (List.getElem?_eq_getElem hkl))
        have hve := hsl.val
        simp only [Value.slice.injEq] at hve
        obtain ⟨rfl, _, rfl⟩ := hve
        subst hao
        have htk : L.take (k + 1) = L.take k ++ [L[k]] := by rw [List.take_add_one, List.getElem?_eq_getElem hkl]; rfl
        have hk12 := HOM.out _ (List.getElem_mem hkl)
        generalize L[k] = kk at htk hcl3 hk12
        have hkI : (kk : Int) < 12 := by omega
        have hkI0 : (0 : Int) ≤ (kk : Int) := by omega
        generalize hu : l.chain.getD kk Us.no = u at *
        have HTK := Lib.hid (show usCells ((L.take (k + 1)).map fun k => l.chain.getD k Us.no) = usCells ((L.take k).map fun k => l.chain.getD k Us.no) ++ [.int .i64 u.e, .int .i64 u.c] by
          rw [htk, List.map_append, usCells_append]
          simp only [List.map_cons, List.map_nil, hu]
          rfl)
        have HU := Lib.hid hu
        clear htk hsl hu
        have HQ := Lib.hid (show ∀ W, Only (fun _ => False) wr W → W.cell? ⟨lb, 3 + kk * 2, none⟩ = some (.int .i64 u.e) ∧ W.cell? ⟨lb, 3 + kk * 2 + 1, none⟩ = some (.int .i64 u.c) ∧ True ∧ True from fun W hW => by
          have h' := h1.quiet (hor.trans hW)
          obtain ⟨c1, c2⟩ := h'.cat.cells hk12
          rw [HU.out] at c1 c2
          exact ⟨c1, c2, trivial, trivial⟩)
        go_upto_region 7 with fail
        refine wp_region_pick (fun W => Only (fun _ => False) wr W) [(0, 0), (1, 0), (2, 0), (3, 0), (4, 0), (5, 0), (6, 0), (7, 1), (8, 0), (9, 0), (10, 0), (11, 0), (12, 0), (13, 0), (14, 1), (15, 0), (16, 2), (17, 3), (18, 0)] (by kernel_rfl) (by kernel_rfl) (fun _ _ d _ _ h => by cases d <;> exact h) (Only.drew wr _) ?_
        have ho3 := Only.drew wr (fun _ => False)
        have hrow3 := ownsRow_only hrow.out ho3 (fun _ _ h => h)
        have hsz3 : w1.heap.size ≤ wr.drew.heap.size := hor.size
        clear hcl3 hrow
        generalize wr.drew = w3 at ho3 hrow3 hsz3 ⊢
        simp only [pickOps, List.getElem?_cons_zero, List.getElem?_cons_succ]
        iterate 15 (first | (refine wpL_pure (a' := ?_) ?_ rfl (fun W => ?_) ?_ ?_; rotate_left 2; (· go_simp; first | (go_bits; with_reducible rfl) | with_reducible rfl); (· simp only [put_some, List.setIfInBounds_toArray, List.set_cons_zero, List.set_cons_succ]; rfl)) | (refine wpL_held (a' := ?_) ?_ rfl (fun W hW => ?_) ?_ ?_; rotate_left 2; (· obtain ⟨q1, q2, q3, q4⟩ := HQ.out W hW; go_simp; first | (go_bits; with_reducible rfl) | with_reducible rfl); (· simp only [put_some, List.setIfInBounds_toArray, List.set_cons_zero, List.set_cons_succ]; rfl)))
        refine wpL_pure (a' := ?_) (.agg #[.int .i64 u.e, .int .i64 u.c]) rfl (fun W => exec_buildN rfl (parts := #[(0, .int .i64 u.e), (1, .int .i64 u.c)]) (by simp only [List.map_toArray, List.map_cons, List.map_nil]; go_simp) (Tryz.buildApiUse _ _ W)) ?_ ?_; rotate_left; (· simp only [put_some, List.setIfInBounds_toArray, List.set_cons_zero, List.set_cons_succ]; rfl)
        have hoA := Only.alloc w3 (.cells #[.int .i64 u.e, .int .i64 u.c] 39) (fun _ => False)
        refine wpL_stepRun (a' := ?_) (w' := w3.alloc (.cells #[.int .i64 u.e, .int .i64 u.c] 39)) (.slice (some ⟨w3.heap.size, 0, none⟩) 1 1) rfl (exec_buildSlice_one rfl (v := .agg #[.int .i64 u.e, .int .i64 u.c]) rfl (run_buildSlice_one w3 36 39 _ _ #[.int .i64 u.e, .int .i64 u.c] 2 16 rfl rfl (by decide) (by decide) Tryz.underlying36 Tryz.infoApiUse)) (ho3.trans hoA) ?_ ?_; rotate_left; (· simp only [put_some, List.setIfInBounds_toArray, List.set_cons_zero, List.set_cons_succ]; rfl)
        obtain ⟨v6, w6, hrun6, hown6, ho6, hfr6⟩ := append_one_row2 (P := Tryz.prog) w3 w1.heap.size 36 36 39 _ 2 16 Tryz.underlying36 Tryz.infoApiUse rfl (by decide) u3 k _ hrow3 [.int .i64 u.e, .int .i64 u.c] rfl (by simp [Value.oneCell']) (by omega) (by decide) hsz3
        refine wpL_lastRun (a' := ?_) v6 rfl (exec_append rfl (vs := u3) (vx := .slice (some ⟨w3.heap.size, 0, none⟩) 1 1) rfl rfl hrun6) ?_ ?_; rotate_left; (· simp only [put_some, List.setIfInBounds_toArray, List.set_cons_zero, List.set_cons_succ]; rfl)
        (refine wpL_pure (a' := ?_) ?_ rfl (fun W => ?_) ?_ ?_; rotate_left 2; (· go_simp; first | (go_bits; with_reducible rfl) | with_reducible rfl); (· simp only [put_some, List.setIfInBounds_toArray, List.set_cons_zero, List.set_cons_succ]; rfl))
        refine wpL_nil ?_
        rw [← HTK.out] at hown6
        have HOWN := Lib.hid hown6
        have HOO := Lib.hid ((hor.trans ho3).trans' ho6 (fun y hy e => row_own_new hrow3 hy e))
        clear hrun6 hown6 ho6 hfr6 hrow3 hoA ho3 hor HQ HTK
        go_wp2_with fail
        exact ⟨⟨k + 1, by omega, rfl, HOWN, HOO.out⟩, by simp [intOf]; omega⟩
      · obtain rfl : k = L.length := by omega
        have hI : ¬ (L.length : Int) < (L.length : Int) := by omega
        have hr := hrow.out
        rw [List.take_length] at hr
        have HR := Lib.hid hr
        clear hr hrow
        go_wp2_with fail
        go_ret
        exact ⟨u3, rfl, by rw [HN.out]; exact ownsRow_down (b := w1.heap.size) (by rw [List.length_map]; exact HR.out) HO1.out.size, HO1.out.trans hor⟩
end Go.Proofs.YtlgefjcfnnjkbaaGreatDoor
