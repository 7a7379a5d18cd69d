/- Parts of the proof, one behind the other: LogW, LogB, LogC, LogCa. Each part's own words say what it proves; no conditions. -/
import Derived.Test.YtlgefjcfnnjkbaaDoorP15
import Derived.Test.YtlgefjcfnnjkbaaDoorP16
set_option linter.unusedVariables false
set_option linter.unusedSimpArgs false
set_option linter.unusedSectionVars false
/- A log's calls in plain terms: an append of several batches, a seal. Plain; no program is named; no conditions. -/
namespace Go.Proofs.YtlgefjcfnnjkbaaDoor
set_option maxRecDepth 100000

/-! ### What a plan says -/
def opensR (per : Nat) : Int → Bool → List (List UInt8) → List Bool
  | _, _, [] => []
  | c, o, b :: r => if o = false ∨ (per : Int) < c + (need b.length : Nat) + 1 then true :: opensR per (1 + (need b.length : Nat)) true r else false :: opensR per (c + (need b.length : Nat)) true r
theorem opensR_cons (per : Nat) (c : Int) (o : Bool) (b : List UInt8) (r : List (List UInt8)) : opensR per c o (b :: r) = if o = false ∨ (per : Int) < c + (need b.length : Nat) + 1 then true :: opensR per (1 + (need b.length : Nat)) true r else false :: opensR per (c + (need b.length : Nat)) true r := rfl
def manyR (l : List Bool) : Nat := (l.filter id).length
theorem plan_fold (per : Nat) : ∀ (s : List (List UInt8)) (p : Pl), s.foldl (fun p b => p.step per (need b.length)) p = (let q := s.foldl (fun p b => p.step per (need b.length)) p; { q with opens := p.opens ++ opensR per p.count p.opn s, many := p.many + manyR (opensR per p.count p.opn s) })
  | [], p => by simp [opensR, manyR]
  | b :: s, p => by
    have ih := plan_fold per s (p.step per (need b.length))
    simp only [List.foldl_cons]
    generalize List.foldl (fun p b => p.step per (need b.length)) (p.step per (need b.length)) s = q at ih ⊢
    rw [ih, opensR_cons]
    unfold Pl.step
    by_cases h : p.opn = false ∨ (per : Int) < p.count + (need b.length : Nat) + 1
    · rw [if_pos h, if_pos h]
      simp only [List.append_assoc, manyR, List.filter_cons, id, if_true, List.length_cons, List.singleton_append, Pl.mk.injEq, true_and]
      omega
    · rw [if_neg h, if_neg h]
      simp only [List.append_assoc, manyR, List.filter_cons, id, List.singleton_append, Bool.false_eq_true, if_false]
theorem plan_is (l : Lg) (s : List (List UInt8)) : (l.plan s).opens = opensR l.per l.use.c l.opn s ∧ (l.plan s).many = manyR (opensR l.per l.use.c l.opn s) := by
  have h := plan_fold l.per s ⟨l.use.c, l.opn, [], 0⟩
  unfold Lg.plan Lg.planTo
  rw [List.take_length, h]
  simp
theorem opensR_length (per : Nat) : ∀ (s : List (List UInt8)) (c : Int) (o : Bool), (opensR per c o s).length = s.length
  | [], _, _ => rfl
  | b :: s, c, o => by
    unfold opensR
    split <;> simp [opensR_length per s]

/-! ### How many segments are in use, how many sectors -/
def used (c : List Us) : Nat := (orderL c).length
def totC (c : List Us) : Int := ((orderL c).map fun k => (c.getD k Us.no).c).sum
theorem ins_length (c : List Us) (x : Nat) : ∀ l, (ins c x l).length = l.length + 1
  | [] => rfl
  | y :: l => by unfold ins; split <;> simp [ins_length c x l]
theorem insAll_length (c : List Us) : ∀ u l : List Nat, (u.foldl (fun l x => ins c x l) l).length = l.length + u.length
  | [], l => by simp
  | x :: u, l => by rw [List.foldl_cons, insAll_length c u, ins_length]; simp; omega
theorem used_eq (c : List Us) : used c = (usedL c).length := by
  unfold used orderL
  rw [insAll_length]; simp
theorem free_of {c : List Us} {segs : Nat} (hl : segs ≤ c.length) (hc : ∀ k, k < segs → (c.getD k Us.no).e = 0 → c.getD k Us.no = Us.no) (h : used c < segs) : ∃ k, k < segs ∧ c.getD k Us.no = Us.no := by
  rw [used_eq] at h
  have h1 : ¬ ∀ k, k < segs → (c.getD k Us.no).e ≠ 0 := fun hall => by
    have e : (List.range segs).filter (fun k => (c.getD k Us.no).e != 0) = List.range segs := by
      rw [List.filter_eq_self]
      intro k hk
      simpa using hall k (by simpa using hk)
    have e2 : usedL c = List.range segs ++ ((List.range (c.length - segs)).map (segs + ·)).filter (fun k => (c.getD k Us.no).e != 0) := by
      unfold usedL usedTo
      rw [← e]
      conv => lhs; rw [show c.length = segs + (c.length - segs) by omega, List.range_add, List.filter_append, e]
      rw [e]
    rw [e2, List.length_append, List.length_range] at h
    omega
  obtain ⟨k, hk⟩ := Classical.not_forall.1 h1
  obtain ⟨hk, h2⟩ := Classical.not_imp.1 hk
  exact ⟨k, hk, hc k hk (Classical.byContradiction h2)⟩
theorem sum_one (f g : Nat → Int) (n : Nat) (δ : Int) (hn : g n = f n + δ) (ho : ∀ k, k ≠ n → g k = f k) : ∀ l : List Nat, l.Nodup → (l.map g).sum = (l.map f).sum + (if n ∈ l then δ else 0)
  | [], _ => by simp
  | x :: l, h => by
    rw [List.nodup_cons] at h
    have ih := sum_one f g n δ hn ho l h.2
    simp only [List.map_cons, List.sum_cons, ih]
    by_cases e : x = n
    · subst e
      rw [hn, if_neg h.1, if_pos (by simp)]; omega
    · rw [ho x e]
      by_cases hm : n ∈ l
      · rw [if_pos hm, if_pos (by simp [hm])]; omega
      · rw [if_neg hm, if_neg (by simp [hm]; exact fun e2 => e e2.symm)]; omega
theorem order_nodup (c : List Us) (hc : Apart c) : (orderL c).Nodup := (order_sorted c hc).imp fun h e => by subst e; omega
/-- a log behind a step: so many segments more, so many sectors -/
structure Adv (l l' : Lg) (o : Nat) (n : Int) : Prop where
  per : l'.per = l.per
  segs : l'.segs = l.segs
  top : l'.top = l.top + (o : Nat)
  used : used l'.chain = used l.chain + o
  tot : totC l'.chain = totC l.chain + n
  order : orderL l.chain <+: orderL l'.chain
  down : l'.down = l.down
theorem Adv.refl (l : Lg) : Adv l l 0 0 := ⟨rfl, rfl, by simp, rfl, by omega, List.prefix_rfl, rfl⟩
theorem Adv.trans {a b c : Lg} {o p : Nat} {m n : Int} (h : Adv a b o m) (k : Adv b c p n) : Adv a c (o + p) (m + n) :=
  ⟨k.per.trans h.per, k.segs.trans h.segs, by rw [k.top, h.top]; push_cast; omega, by rw [k.used, h.used]; omega, by rw [k.tot, h.tot]; omega, h.order.trans k.order, k.down.trans h.down⟩

/-- what the chain of a log over a shape is like -/
theorem LInv.chOk {S : Sh} {s : Nat} {d : D} {l : Lg} (h : LInv S s d l) : ChOk l.chain l.segs l.per (l.top + 1) := by
  have := (h.inv.sync).cr.kept.base h.inv.cr.ok l.chain h.len h.sub
  rw [h.segs, h.per, h.top]; exact this.ch
theorem LSt.chOk {d : D} {l : Lg} {sure : Nat} {all : List (List UInt8)} (h : LSt d l sure all) : ChOk l.chain l.segs l.per (l.top + 1) ∧ l.segs ≤ 12 := by
  obtain ⟨B, h1, _⟩ := h.base
  exact ⟨h1.ch, h1.segs12⟩
theorem adv_begin {l : Lg} {seg : Nat} (hc : ChOk l.chain l.segs l.per (l.top + 1)) (hs12 : l.segs ≤ 12) (hs : seg < l.segs) (hf : l.chain.getD seg Us.no = Us.no) (ht : 0 ≤ l.top) : Adv l (l.begun seg) 1 1 := by
  have hl : seg < l.chain.length := by rw [hc.len]; omega
  have ho : orderL (l.begun seg).chain = orderL l.chain ++ [seg] := order_new hc.apart hl hf (by simp only; omega) fun k => by
    rcases hc.use k with hu | ⟨_, _, h, _, _⟩
    · rw [hu]; simp only [Us.no]; omega
    · exact h
  refine ⟨rfl, rfl, rfl, by unfold used; rw [ho]; simp, ?_, by rw [ho]; exact List.prefix_append _ _, rfl⟩
  unfold totC
  rw [ho, List.map_append, List.sum_append]
  simp only [List.map_cons, List.map_nil, List.sum_cons, List.sum_nil]
  have e1 : ((l.begun seg).chain.getD seg Us.no).c = 1 := by show ((l.chain.set seg _).getD seg Us.no).c = 1; rw [getD_set_eq hl]
  have e2 : (orderL l.chain).map (fun k => ((l.begun seg).chain.getD k Us.no).c) = (orderL l.chain).map (fun k => (l.chain.getD k Us.no).c) := by
    refine List.map_congr_left fun k hk => ?_
    have := ((mem_orderL _ k).1 hk).2
    show ((l.chain.set seg _).getD k Us.no).c = _
    rw [getD_set_ne (by rintro rfl; rw [hf] at this; exact this rfl)]
  rw [e1, e2]; omega
theorem adv_more {l l' : Lg} {n : Int} (hc : ChOk l.chain l.segs l.per (l.top + 1)) (hn : l.last < l.chain.length) (hu : l.use.e ≠ 0) (hl' : l'.chain = l.chain.set l.last ⟨l.use.e, l.use.c + n⟩) (h1 : l'.per = l.per) (h2 : l'.segs = l.segs) (h3 : l'.top = l.top) (h4 : l'.down = l.down) : Adv l l' 0 n := by
  have ho : orderL l'.chain = orderL l.chain := by rw [hl']; exact order_one l.chain l.last hn l.use _ rfl rfl
  refine ⟨h1, h2, by rw [h3]; simp, by unfold used; rw [ho]; rfl, ?_, by rw [ho]; exact List.prefix_rfl, h4⟩
  unfold totC
  rw [ho, sum_one (fun k => (l.chain.getD k Us.no).c) (fun k => (l'.chain.getD k Us.no).c) l.last n (by simp only [hl', getD_set_eq hn]; rfl) (fun k hk => by simp only [hl', getD_set_ne hk]) _ (order_nodup _ hc.apart), if_pos]
  exact (mem_orderL _ _).2 ⟨hn, hu⟩

/-! ### One batch, all batches -/
theorem cr_all {per segs : Nat} {d : D} {sure : Nat} {all x : List (List UInt8)} (h : Cr per segs d sure all) : Cr per segs d sure (all ++ x) := h.mono (List.prefix_append _ _)
/-- one batch of an append -/
theorem one_step {d : D} {l : Lg} {sure : Nat} {all : List (List UInt8)} (h : LSt d l sure all) (b : List UInt8) (o : Bool) (hb : need b.length + 2 ≤ l.per) (ho : o = true → used l.chain < l.segs ∧ l.top + 1 ≤ 16777215)
    (hno : o = false → l.opn = true ∧ l.use.c + need b.length + 1 ≤ l.per) :
    ∃ d' l' e', l.one d b o = (d', l', e') ∧ (e' = 0 ∨ e' = 22) ∧ (d.cut = false → e' = 0) ∧ Stp d d' 65 ∧ Cr l.per l.segs d' sure (all ++ [b]) ∧
      (e' = 0 → LSt d' l' sure (all ++ [b]) ∧ Adv l l' (if o then 1 else 0) ((need b.length : Nat) + (if o then 1 else 0)) ∧ l'.opn = (if o then true else l.opn) ∧ l'.use.c = (if o then 1 else l.use.c) + (need b.length : Nat)) := by
  obtain ⟨hch, hs12⟩ := h.chOk
  unfold Lg.one
  cases o with
  | true =>
    simp only [if_true]
    obtain ⟨hu, ht⟩ := ho rfl
    have hfree := free_of (segs := l.segs) (by rw [hch.len]; exact hs12) (fun k _ h0 => by
      rcases hch.use k with hu | ⟨_, h1, _⟩
      · exact hu
      · omega) hu
    obtain ⟨d1, seg, e1, r1, r2, r3, r4, r5, r6, r7, r8⟩ := begin_step h hfree ht
    rw [r1]
    simp only
    by_cases he1 : e1 = 0
    · subst he1
      obtain ⟨S, a1, a2, a3, a4, a5, a6⟩ := r8 rfl
      have hp : S.per = l.per := a1.per.symm
      obtain ⟨d2, e2, q1, q2, q3, q4, q5, q6⟩ := add_step a1 a2 (m0 := 0) (Nat.zero_le _) (by simp [iLen]) a4 a5 a6 b (by rw [a3, hp]; simp [iLen]; omega)
      simp only [if_true]
      rw [q1]
      simp only
      have ht0 : 0 ≤ l.top := by
        obtain ⟨B, hB, _⟩ := h.base
        exact hB.top0
      refine ⟨d2, _, e2, rfl, q2, fun e => q3 (r4.cut e), (r4.trans q4), ?_, fun e => ?_⟩
      · exact q5
      · subst e
        have hbu := a1.u
        rw [a3] at hbu
        have hadv := (adv_begin hch hs12 r6 r7 ht0).trans (adv_more (n := ((need b.length : Nat) : Int)) (l := l.begun seg) (l' := (l.begun seg).added b) a1.chOk (by
          show seg < (l.chain.set seg _).length
          rw [List.length_set, hch.len]; omega) (by rw [hbu]; have := a1.inv.cr.ok.epos; simp only; omega) rfl rfl rfl rfl rfl)
        rw [show (1 : Int) + ((need b.length : Nat) : Int) = (need b.length : Nat) + 1 by omega] at hadv
        refine ⟨q6 rfl, hadv, rfl, ?_⟩
        · show ((l.begun seg).chain.set seg ⟨(l.begun seg).use.e, (l.begun seg).use.c + _⟩ |>.getD seg Us.no).c = _
          rw [getD_set_eq (by show seg < (l.chain.set seg _).length; rw [List.length_set, hch.len]; omega), hbu]
          simp [iLen]
    · rw [if_neg he1]
      rcases r2 with r2 | r2
      · exact absurd r2 he1
      · subst r2
        exact ⟨d1, _, 22, rfl, .inr rfl, fun e => absurd (r3 e) (by decide), r4.mono (by omega), cr_all r5, fun e => by cases e⟩
  | false =>
    simp only [Bool.false_eq_true, if_false]
    obtain ⟨hop, hf⟩ := hno rfl
    cases h with
    | new h hs ha => rw [h.is] at hop; cases hop
    | old S s m0 h hw hm hs hn ha hh hne =>
      have hu := h.u
      rw [hu] at hf
      simp only at hf
      obtain ⟨d2, e2, q1, q2, q3, q4, q5, q6⟩ := add_step h hw hm hs hn ha hh b (by have := h.per; omega)
      rw [q1]
      simp only
      refine ⟨d2, _, e2, rfl, q2, q3, q4.mono (by omega), q5, fun e => ?_⟩
      subst e
      have hl : l.last < l.chain.length := by rw [h.last, h.len]; have := h.inv.cr.ok.nlt; have := h.inv.cr.ok.segs; omega
      refine ⟨q6 rfl, ?_, rfl, ?_⟩
      · have := adv_more (n := ((need b.length : Nat) : Int)) (l' := l.added b) hch hl (by rw [hu]; have := h.inv.cr.ok.epos; simp only; omega) rfl rfl rfl rfl rfl
        rw [Int.add_zero]; exact this
      · show ((l.chain.set l.last ⟨l.use.e, l.use.c + _⟩).getD l.last Us.no).c = _
        rw [getD_set_eq hl]
/-- the batches of an append -/
theorem go_steps : ∀ (s : List (List UInt8)) (d : D) (l : Lg) (sure : Nat) (all : List (List UInt8)) (es : List Int), LSt d l sure all → (∀ b ∈ s, need b.length + 2 ≤ l.per) →
    used l.chain + manyR (opensR l.per l.use.c l.opn s) ≤ l.segs → l.top + (manyR (opensR l.per l.use.c l.opn s) : Nat) ≤ 16777215 →
    ∃ d' l' es' e', Lg.go l d (s.zip (opensR l.per l.use.c l.opn s)) es = (d', l', es', e') ∧ (e' = 0 ∨ e' = 22) ∧ (d.cut = false → e' = 0) ∧ Stp d d' (65 * s.length) ∧ Cr l.per l.segs d' sure (all ++ s) ∧
      (e' = 0 → LSt d' l' sure (all ++ s) ∧ es'.length = es.length + s.length ∧ Adv l l' (manyR (opensR l.per l.use.c l.opn s)) (((s.map fun b => need b.length).sum + manyR (opensR l.per l.use.c l.opn s) : Nat) : Int)) ∧ (e' ≠ 0 → es' = [])
  | [], d, l, sure, all, es, h, _, _, _ => ⟨d, l, es, 0, rfl, .inl rfl, fun _ => rfl, Stp.refl d, cr_all h.cr, fun _ => ⟨by simpa using h, rfl, Adv.refl l⟩, fun e => absurd rfl e⟩
  | b :: s, d, l, sure, all, es, h, hb, hu, ht => by
    have hopt : ∀ (c : Prop) [Decidable c] (x y : List Bool), (if c then true :: x else false :: y) = (decide c) :: (if c then x else y) := fun c _ x y => by split <;> simp [*]
    rw [opensR_cons, hopt] at hu ht ⊢
    generalize ho : decide (l.opn = false ∨ (l.per : Int) < l.use.c + (need b.length : Nat) + 1) = o at hu ht ⊢
    have hb0 := hb b (by simp)
    have hmany : ∀ x : List Bool, manyR (o :: x) = (if o then 1 else 0) + manyR x := fun x => by
      cases o <;> simp [manyR]; omega
    rw [hmany] at hu ht ⊢
    have hrest : (if l.opn = false ∨ (l.per : Int) < l.use.c + (need b.length : Nat) + 1 then opensR l.per (1 + (need b.length : Nat)) true s else opensR l.per (l.use.c + (need b.length : Nat)) true s) = opensR l.per ((if o then 1 else l.use.c) + (need b.length : Nat)) true s := by
      by_cases hc : l.opn = false ∨ (l.per : Int) < l.use.c + (need b.length : Nat) + 1
      · rw [if_pos hc, ← ho, decide_eq_true hc]; rfl
      · rw [if_neg hc, ← ho, decide_eq_false hc]; rfl
    rw [hrest] at hu ht ⊢
    obtain ⟨d1, l1, e1, r1, r2, r3, r4, r5, r6⟩ := one_step h b o hb0 (fun e => by subst e; simp only [if_true] at hu ht; constructor <;> omega) (fun e => by
      subst e
      have := of_decide_eq_false ho
      rw [not_or] at this
      exact ⟨by simpa using this.1, by omega⟩)
    simp only [List.zip_cons_cons, Lg.go, r1]
    by_cases he1 : e1 = 0
    · subst he1
      obtain ⟨q1, q2, q3, q4⟩ := r6 rfl
      have hop1 : l1.opn = true := by
        rw [q3]
        cases o with
        | true => rfl
        | false =>
          have := of_decide_eq_false ho
          rw [not_or] at this
          simpa using this.1
      obtain ⟨E, hE⟩ : ∃ E, E = es ++ [l1.top] := ⟨_, rfl⟩
      have hEl : E.length = es.length + 1 := by rw [hE]; simp
      have ih := go_steps s d1 l1 sure (all ++ [b]) E q1 (fun x hx => by rw [q2.per]; exact hb x (by simp [hx]))
      rw [q4, hop1, q2.per, q2.segs, q2.used, q2.top] at ih
      obtain ⟨d', l', es', e', p1, p2, p3, p4, p5, p6, p7⟩ := ih (by cases o <;> simp_all <;> omega) (by cases o <;> simp_all <;> omega)
      simp only [if_true]
      rw [← hE, p1]
      refine ⟨d', l', es', e', rfl, p2, fun e => p3 (r4.cut e), (r4.trans p4).mono (by simp only [List.length_cons]; omega), by simpa using p5, fun e => ?_, p7⟩
      obtain ⟨z1, z2, z3⟩ := p6 e
      refine ⟨by simpa using z1, by simp only [List.length_cons]; omega, ?_⟩
      have := q2.trans z3
      simp only [List.map_cons, List.sum_cons]
      have e4 : (((need b.length : Nat) : Int) + (if o = true then 1 else 0)) + (((s.map fun b => need b.length).sum + manyR (opensR l.per ((if o = true then 1 else l.use.c) + (need b.length : Nat)) true s) : Nat) : Int) = ((need b.length + (s.map fun b => need b.length).sum + ((if o = true then 1 else 0) + manyR (opensR l.per ((if o = true then 1 else l.use.c) + (need b.length : Nat)) true s)) : Nat) : Int) := by
        cases o <;> simp <;> omega
      rw [e4] at this
      exact this
    · rw [if_neg he1]
      rcases r2 with r2 | r2
      · exact absurd r2 he1
      · subst r2
        refine ⟨d1, l1, [], 22, rfl, .inr rfl, fun e => absurd (r3 e) (by decide), r4.mono (by simp only [List.length_cons]; omega), ?_, fun e => (by cases e), fun _ => rfl⟩
        have := cr_all (x := s) r5
        simpa using this
end Go.Proofs.YtlgefjcfnnjkbaaDoor
/- The disk's calls as steps; frames written one behind the other. No conditions. -/
namespace Go.Proofs.YtlgefjcfnnjkbaaDoor
set_option maxRecDepth 100000
open Go.RowKit

/-- a disk behind a step -/
structure DStep (w w' : World) (p kb : Nat) (pv pv' : Value) (d' : D) : Prop where
  da : DAt w' p kb pv' d'
  only : Only (fp p kb pv) w w'
  fresh : ∀ g, pv'.ownBlock = some g → pv.ownBlock = some g ∨ w.heap.size ≤ g
theorem DStep.refl {w : World} {p kb : Nat} {pv : Value} {d : D} (h : DAt w p kb pv d) : DStep w w p kb pv pv d := ⟨h, Only.refl _ _, fun _ h => .inl h⟩
theorem DStep.trans {w w1 w2 : World} {p kb : Nat} {pv pv1 pv2 : Value} {d1 d2 : D} (h : DStep w w1 p kb pv pv1 d1) (k : DStep w1 w2 p kb pv1 pv2 d2) : DStep w w2 p kb pv pv2 d2 :=
  ⟨k.da, h.only.trans' k.only (fun y hy e => by
    rcases e with e | e | e
    · exact .inl e
    · exact .inr (.inl e)
    · rcases h.fresh y e with e | e
      · exact .inr (.inr e)
      · omega), fun g hg => by
    rcases k.fresh g hg with e | e
    · exact h.fresh g e
    · exact .inr (Nat.le_trans h.only.size e)⟩
theorem DStep.quiet {w w1 w2 : World} {p kb : Nat} {pv pv1 : Value} {d1 : D} (h : DStep w w1 p kb pv pv1 d1) (ho : Only (fun _ => False) w1 w2) : DStep w w2 p kb pv pv1 d1 :=
  ⟨h.da.only ho (fun _ _ => id), h.only.trans (ho.mono fun _ _ => False.elim), h.fresh⟩
theorem DStep.after {w w1 w2 : World} {p kb : Nat} {pv pv2 : Value} {d2 : D} (ho : Only (fun _ => False) w w1) (k : DStep w1 w2 p kb pv pv2 d2) : DStep w w2 p kb pv pv2 d2 :=
  ⟨k.da, (ho.mono fun _ _ => False.elim).trans k.only, fun g hg => by
    rcases k.fresh g hg with e | e
    · exact .inl e
    · exact .inr (Nat.le_trans ho.size e)⟩
theorem DStep.fp {w w1 : World} {p kb : Nat} {pv pv1 : Value} {d1 : D} (h : DStep w w1 p kb pv pv1 d1) (b : Nat) (hb : fp p kb pv1 b) : Go.Proofs.YtlgefjcfnnjkbaaDoor.fp p kb pv b ∨ w.heap.size ≤ b := by
  rcases hb with e | e | e
  · exact .inl (.inl e)
  · exact .inl (.inr (.inl e))
  · rcases h.fresh b e with e | e
    · exact .inl (.inr (.inr e))
    · exact .inr e
def wrP (d : D) (k : Nat) (s : List UInt8) : D × Bool := if d.power then (d.write k s, true) else (d, false)
theorem dwrite_any (w : World) (p kb : Nat) (pv : Value) (d : D) (k : Nat) (s : List UInt8) (hd : DAt w p kb pv d) (hk : k < d.kept.length) (hs : s.length = 64) (hroom : d.pend.length < 1000000) :
    Calls Tryd.prog 39 #[.pointer (some ⟨p, 0, none⟩), .int .i64 (k : Int), .string ⟨s.toArray⟩] w fun e w' => ∃ pv', e = .returned (.int .i64 (errP (wrP d k s).2)) ∧ DStep w w' p kb pv pv' (wrP d k s).1 := by
  unfold wrP
  by_cases hp : d.power = true
  · rw [if_pos hp]
    refine (write_any w p kb pv d k ⟨s.toArray⟩ hd hk (by rw [size_toArray]; exact hs) hp hroom).mono ?_
    rintro e w' ⟨pv', rfl, h1, h2, h3⟩
    exact ⟨pv', rfl, h1, h2, h3⟩
  · rw [if_neg hp]
    refine (write_nopower w p kb pv d k ⟨s.toArray⟩ hd hk (by rw [size_toArray]; exact hs) (by simpa using hp)).mono ?_
    rintro e w' ⟨rfl, h1, h2, _⟩
    exact ⟨pv, rfl, h1, h2.mono fun _ _ e => .inl e, fun g h => .inl h⟩
theorem dsync_any (w : World) (p kb : Nat) (pv : Value) (d : D) (hd : DAt w p kb pv d) :
    Calls Tryd.prog 25 #[.pointer (some ⟨p, 0, none⟩)] w fun e w' => ∃ pv', e = .returned (.int .i64 (errP (syncP d).2)) ∧ DStep w w' p kb pv pv' (syncP d).1 := by
  unfold syncP
  by_cases hp : d.power = true
  · rw [if_pos hp]
    refine (sync_any w p kb pv d hd hp).mono ?_
    rintro e w' ⟨rfl, h1, h2, _⟩
    exact ⟨_, rfl, h1, h2, fun g h => by cases h⟩
  · rw [if_neg hp]
    refine (sync_nopower w p kb pv d hd (by simpa using hp)).mono ?_
    rintro e w' ⟨rfl, h1, h2, _⟩
    exact ⟨pv, rfl, h1, h2.mono fun _ _ e => .inl e, fun g h => .inl h⟩
theorem wrAll_cons (per seg : Nat) (d : D) (f : Fr) (l : List Fr) : wrAll per seg d (f :: l) = (if (wrP d (seg * per + f.a.toNat) f.lay).2 then wrAll per seg (wrP d (seg * per + f.a.toNat) f.lay).1 l else ((wrP d (seg * per + f.a.toNat) f.lay).1, false)) := by
  unfold wrP
  rw [wrAll]
  by_cases hp : d.power = true
  · rw [if_pos hp, if_pos hp]; rfl
  · rw [if_neg hp, if_neg hp]; rfl
theorem wrP_facts (d : D) (k : Nat) (s : List UInt8) : (wrP d k s).1.kept = d.kept ∧ (wrP d k s).1.pend.length ≤ d.pend.length + 1 := by
  unfold wrP
  split
  · exact ⟨D.write_kept _ _ _, by rw [D.write_pend]; simp⟩
  · exact ⟨rfl, Nat.le_succ _⟩
/-- a ground over the disk behind a step -/
theorem GAt.step {w w' : World} {gb p kb : Nat} {pv pv' : Value} {d d' : D} {per segs : Nat} (h : GAt w gb p kb pv d per segs) (hs : DStep w w' p kb pv pv' d') (hg : ¬ fp p kb pv gb) (hl : d'.kept.length = d.kept.length) : GAt w' gb p kb pv' d' per segs :=
  ⟨by rw [hs.only.cell (World.block_lt_of_cell? _ _ h.c0) hg]; exact h.c0, by rw [hs.only.cell (World.block_lt_of_cell? _ _ h.c1) hg]; exact h.c1, by rw [hs.only.cell (World.block_lt_of_cell? _ _ h.c2) hg]; exact h.c2, hs.da, h.per4, h.per64, h.segs12, by rw [hl]; exact h.room⟩

def WrPost (w : World) (p kb : Nat) (pv : Value) (r : D × Bool) (e : Ending) (w' : World) : Prop := ∃ pv', e = .returned (.int .i64 (errP r.2)) ∧ DStep w w' p kb pv pv' r.1

set_option maxHeartbeats 8000000 in
theorem gwrite_any (w : World) (gb p kb : Nat) (pv : Value) (d : D) (per segs seg : Nat) (v : Value) (fs : List Fr) (ao : Option Addr) (cap : Nat) (hG : GAt w gb p kb pv d per segs) (hv : SliceOf w v fs.length (frs fs) ao cap)
    (hfs : ∀ f ∈ fs, f.right = true ∧ f.a < (per : Int)) (hseg : seg < segs) (hgb : ¬ fp p kb pv gb) (hsl : ∀ b o, ao = some ⟨b, o, none⟩ → ¬ fp p kb pv b) (hroom : d.pend.length + fs.length ≤ 1000000) (hlen : fs.length ≤ 1000) :
    Calls Tryd.prog 46 #[.pointer (some ⟨gb, 0, none⟩), .int .i64 (seg : Int), v] w (WrPost w p kb pv (wrAll per seg d fs)) := by
  have hper4 := hG.per4
  have hper64 := hG.per64
  have hs12 := hG.segs12
  have hvv := hv.val
  subst hvv
  obtain ⟨R, hR⟩ : ∃ R, R = wrAll per seg d fs := ⟨_, rfl⟩
  rw [← hR]
  have HR := Lib.hid hR
  clear hR
  go_enter Tryd.func46, Tryd.ntmps46
  go_wp2_with fail
  go_loopw [14] (fun i wr => ∃ (k : Nat) (pvk : Value) (dk : D), k ≤ fs.length ∧ i = .int .i64 (k : Int) ∧ Hid (R = wrAll per seg dk (fs.drop k)) ∧ DStep w wr p kb pv pvk dk ∧ dk.kept.length = d.kept.length ∧ dk.pend.length ≤ d.pend.length + k) (fun i _ => 1001 - (intOf i).toNat)
  case atStart => exact ⟨0, pv, d, by omega, rfl, Lib.hid (by rw [HR.out]; rfl), DStep.refl hG.da, rfl, by omega⟩
  case round =>
    obtain ⟨k, pvk, dk, hk, rfl, hRk, hst, hkl, hpl⟩ := hrel
    by_cases hks : k < fs.length
    · have hI : (k : Int) < (fs.length : Int) := by omega
      have hI0 : (0 : Int) ≤ (k : Int) := by omega
      have hdr : fs.drop k = fs[k] :: fs.drop (k + 1) := List.drop_eq_getElem_cons hks
      obtain ⟨hfr, hfa⟩ := hfs _ (List.getElem_mem hks)
      have hat := frs_at fs k hks
      generalize fs[k] = f at hdr hfr hfa hat
      obtain ⟨r1, r2, r3, r4, r5, r6, r7⟩ := f.right_iff.1 hfr
      obtain ⟨fe, fA, fk, fS⟩ := f
      simp only at r1 r2 r3 r4 r5 r6 r7 hfa
      obtain ⟨fa, rfl⟩ : ∃ fa : Nat, fA = (fa : Int) := ⟨fA.toNat, by omega⟩
      have hcell : ∃ b o, ao = some ⟨b, o, none⟩ ∧ Has wr b (o + k * 4) [.int .i64 fe, .int .i64 (fa : Int), .int .i64 fk, .string ⟨fS.toArray⟩] := by
        obtain ⟨b, o, hbo, hc⟩ := hv.cell (k * 4 + 0) _ (hat 0 (.int .i64 fe) rfl)
        refine ⟨b, o, hbo, fun j u hu => ?_⟩
        obtain ⟨b', o', hbo', hc'⟩ := hv.cell (k * 4 + j) u (hat j u hu)
        rw [hbo] at hbo'
        cases hbo'
        rw [Nat.add_assoc, hst.only.cell (World.block_lt_of_cell? _ _ hc') (hsl b o hbo)]; exact hc'
      obtain ⟨sb, so, hao, hhas⟩ := hcell
      subst hao
      have hGr := hG.step hst hgb hkl
      obtain ⟨F, hF⟩ : ∃ F : Fr, F = ⟨fe, (fa : Int), fk, fS⟩ := ⟨_, rfl⟩
      have HRR := Lib.hid (show R = (if (wrP dk (seg * per + fa) F.lay).2 then wrAll per seg (wrP dk (seg * per + fa) F.lay).1 (fs.drop (k + 1)) else ((wrP dk (seg * per + fa) F.lay).1, false)) by
        rw [hRk.out, hdr, wrAll_cons, hF, Int.toNat_natCast])
      have hFv : F.val = .agg #[.int .i64 fe, .int .i64 (fa : Int), .int .i64 fk, .string ⟨fS.toArray⟩] := by rw [hF]; rfl
      rw [← hF] at hfr
      have hFl := Fr.lay_length hfr
      have hA2 := Only.alloc wr (.cells #[.int .i64 fe, .int .i64 (fa : Int), .int .i64 fk, .string ⟨fS.toArray⟩] 86) (fun _ => False)
      have hb2 := heap_alloc_any wr (.cells #[.int .i64 fe, .int .i64 (fa : Int), .int .i64 fk, .string ⟨fS.toArray⟩] 86)
      have HFV := Lib.hid hFv
      clear hdr hat hRk hF hFv
      go_upto_region 4 with ((with_reducible refine wpList_load_part sb (so + k * 4) [.int .i64 fe, .int .i64 (fa : Int), .int .i64 fk, .string ⟨fS.toArray⟩] ?_ ?_ ?_ ?_ ?_); (· exact ⟨_, Tryd.underlying86, rfl⟩); (· exact Tryd.size23); (· exact hhas); (· rfl))
      generalize wr.alloc (.cells #[.int .i64 fe, .int .i64 (fa : Int), .int .i64 fk, .string ⟨fS.toArray⟩] 86) = w2 at hA2 hb2 ⊢
      have hst2 := hst.quiet hA2
      have hgb0 : gb < w.heap.size := hG.lt
      generalize wr.heap.size = bx at hb2
      have LG := lay_good w2 F hfr
      rw [HFV.out] at LG
      have HLG := Lib.hid LG
      have HB2 := Lib.hid hb2
      clear LG hst hA2 hb2 hhas hGr
      go_wp2_with ((with_reducible refine wpList_load_block bx 86 [.int .i64 fe, .int .i64 (fa : Int), .int .i64 fk, .string ⟨fS.toArray⟩] ?_ ?_ ?_ ?_ ?_); (· exact ⟨_, Tryd.underlying86, rfl⟩); (· exact Tryd.size23); (· exact HB2.out); (· rfl))
      refine HLG.out.mono ?_
      rintro ev w3 ⟨rfl, ho3⟩
      have hst3 := hst2.quiet ho3
      have HB3 := Lib.hid (ho3.keep HB2.out id)
      clear ho3 hst2 HB2 HLG
      go_upto_region 7 with fail
      refine wp_region_pick (fun X => X = w3.drew) [(0, 0), (1, 0), (2, 0), (3, 1), (4, 0), (5, 0), (6, 0), (7, 1), (9, 0), (8, 2), (10, 3), (11, 0)] (by kernel_rfl) (by kernel_rfl) (fun _ _ d _ _ h => by cases d <;> exact h) rfl ?_
      have hst4 := hst3.quiet (Only.drew w3 _)
      have hb4 := (Only.drew w3 (fun _ => False)).keep HB3.out id
      clear hst3 HB3
      generalize w3.drew = w4 at hst4 hb4 ⊢
      have hG4 := hG.step hst4 hgb hkl
      have hc0 := hG4.c0
      have hc1 := hG4.c1
      have hf1 : w4.cell? ⟨bx, 1, none⟩ = some (.int .i64 (fa : Int)) := cell_at hb4 1
      have hsec := sec_lt (k := seg) (show fa < per by omega) hseg hG4.room
      simp only [pickOps, List.getElem?_cons_zero, List.getElem?_cons_succ]
      iterate 9 (first | (refine wpL_pure (a' := ?_) ?_ rfl (fun W => ?_) ?_ ?_; rotate_left 2; (· go_simp; first | (go_bits; with_reducible rfl) | with_reducible rfl); (· simp only [put_some, List.setIfInBounds_toArray, List.set_cons_zero, List.set_cons_succ]; rfl)) | (refine wpL_held (a' := ?_) ?_ rfl (fun W hW => ?_) ?_ ?_; rotate_left 2; (· subst hW; go_simp; first | (go_bits; with_reducible rfl) | with_reducible rfl); (· simp only [put_some, List.setIfInBounds_toArray, List.set_cons_zero, List.set_cons_succ]; rfl)))
      refine wpL_stepCall (f := 31) (args := #[.pointer (some ⟨gb, 0, none⟩), .int .i64 (seg : Int), .int .i64 (fa : Int)]) rfl (by kernel_rfl) ((sector_any w4 gb per seg fa hc1 (by omega) (by omega) (by omega)).mono ?_)
      rintro ev wv ⟨rfl, rfl⟩
      refine ⟨_, rfl, rfl, ?_⟩
      simp only [put_some, List.setIfInBounds_toArray, List.set_cons_zero, List.set_cons_succ]
      refine wpL_lastCall (f := 39) (args := #[.pointer (some ⟨p, 0, none⟩), .int .i64 ((seg * per + fa : Nat) : Int), .string ⟨F.lay.toArray⟩]) rfl (by kernel_rfl) ((dwrite_any w4 p kb pvk dk (seg * per + fa) F.lay hst4.da hsec hFl (by omega)).mono ?_)
      rintro ev w5 ⟨pv5, rfl, hst5⟩
      refine ⟨_, rfl, ?_⟩
      simp only [put_some, List.setIfInBounds_toArray, List.set_cons_zero, List.set_cons_succ]
      (refine wpL_pure (a' := ?_) ?_ rfl (fun W => ?_) ?_ ?_; rotate_left 2; (· go_simp; first | (go_bits; with_reducible rfl) | with_reducible rfl); (· simp only [put_some, List.setIfInBounds_toArray, List.set_cons_zero, List.set_cons_succ]; rfl))
      refine wpL_nil ?_
      have hst6 := hst4.trans hst5
      obtain ⟨hkw, hpw⟩ := wrP_facts dk (seg * per + fa) F.lay
      generalize wrP dk (seg * per + fa) F.lay = RW at HRR hst6 hkw hpw ⊢
      obtain ⟨d6, ok6⟩ := RW
      simp only at HRR hst6 hkw hpw ⊢
      clear hst4 hst5 hG4 hc0 hc1 hf1 hb4
      cases ok6 with
      | true =>
        have HN := Lib.hid (show R = wrAll per seg d6 (fs.drop (k + 1)) by rw [HRR.out, if_pos rfl])
        unfold errP
        simp only [if_true]
        go_wp2_with fail
        exact ⟨⟨k + 1, pv5, d6, by omega, rfl, HN, hst6, by rw [hkw]; exact hkl, by omega⟩, by simp [intOf]; omega⟩
      | false =>
        have HN := Lib.hid (show R = (d6, false) by rw [HRR.out]; rfl)
        unfold errP
        simp only [Bool.false_eq_true, if_false]
        go_wp2_with fail
        go_ret
        exact ⟨pv5, by rw [HN.out]; rfl, by rw [HN.out]; exact hst6⟩
    · obtain rfl : k = fs.length := by omega
      have hI : ¬ (fs.length : Int) < (fs.length : Int) := by omega
      have HN := Lib.hid (show R = (dk, true) by rw [hRk.out, List.drop_length]; rfl)
      clear hRk
      go_wp2_with fail
      go_ret
      exact ⟨pvk, by rw [HN.out]; rfl, by rw [HN.out]; exact hst⟩
end Go.Proofs.YtlgefjcfnnjkbaaDoor
/- A log in memory; what puts it down; a seal. No conditions. -/
namespace Go.Proofs.YtlgefjcfnnjkbaaDoor
set_option maxRecDepth 100000
open Go.RowKit

def lgHead (p : Nat) (l : Lg) : List Value := [.pointer (some ⟨p, 0, none⟩), .int .i64 (l.per : Int), .int .i64 (l.segs : Int)]
def lgTail (l : Lg) : List Value := [.int .i64 (l.last : Int), .int .i64 l.top, .bool l.opn, .bool l.loose, .bool l.down]
def lgCells (p : Nat) (l : Lg) : List Value := lgHead p l ++ (usCells l.chain ++ lgTail l)
theorem lgCells_length (p : Nat) (l : Lg) (h : l.chain.length = 12) : (lgCells p l).length = 32 := by
  simp only [lgCells, lgHead, lgTail, List.length_append, usCells_length, h, List.length_cons, List.length_nil]
theorem lgCells_tail (p : Nat) (l : Lg) (h : l.chain.length = 12) (i : Nat) : (lgCells p l)[27 + i]? = (lgTail l)[i]? := by
  unfold lgCells
  rw [List.getElem?_append_right (by simp [lgHead]; omega), List.getElem?_append_right (by rw [usCells_length, h]; simp [lgHead]; omega)]
  congr 1
  rw [usCells_length, h]
  simp [lgHead]; omega
theorem lgCells_chain (p : Nat) (l : Lg) (j : Nat) (x : Value) (hx : (usCells l.chain)[j]? = some x) : (lgCells p l)[3 + j]? = some x := by
  unfold lgCells
  have hj := (List.getElem?_eq_some_iff.1 hx).1
  rw [List.getElem?_append_right (by simp [lgHead]), List.getElem?_append_left (by simp [lgHead]; omega)]
  simpa [lgHead] using hx
theorem lgCells_setTail (p : Nat) (l : Lg) (h : l.chain.length = 12) (i : Nat) (v : Value) : (lgCells p l).set (27 + i) v = lgHead p l ++ (usCells l.chain ++ (lgTail l).set i v) := by
  unfold lgCells
  rw [List.set_append_right _ _ (by simp [lgHead]; omega), List.set_append_right _ _ (by rw [usCells_length, h]; simp [lgHead]; omega)]
  congr 3
  rw [usCells_length, h]
  simp [lgHead]; omega
theorem lgCells_use (p : Nat) (l : Lg) (h : l.chain.length = 12) {k : Nat} (u : Us) (hk : k < 12) : laid (lgCells p l) (3 + k * 2) [.int .i64 u.e, .int .i64 u.c] = lgCells p { l with chain := l.chain.set k u } := by
  have h1 := laid_usCells l.chain k u (by omega)
  have hl : (usCells l.chain).length = 24 := by rw [usCells_length, h]
  unfold lgCells
  show _ = lgHead p l ++ (usCells (l.chain.set k u) ++ lgTail l)
  rw [← h1]
  unfold laid
  simp only [List.length_cons, List.length_nil]
  have e3 : (lgHead p l).length = 3 := rfl
  rw [List.take_append, List.take_of_length_le (by omega), e3, show 3 + k * 2 - 3 = k * 2 by omega, List.take_append_of_le_length (by omega), List.drop_append, List.drop_eq_nil_of_le (by omega), e3, List.nil_append,
    show 3 + k * 2 + (0 + 1 + 1) - 3 = k * 2 + (0 + 1 + 1) by omega, List.drop_append_of_le_length (by omega)]
  simp only [List.append_assoc, List.cons_append, List.nil_append]
theorem usCells_setC (c : List Us) (k : Nat) (n : Int) (hk : k < c.length) : (usCells c).set (k * 2 + 1) (.int .i64 n) = usCells (c.set k ⟨(c.getD k Us.no).e, n⟩) := by
  have key : ∀ (c : List Us) (k : Nat), k < c.length → (usCells c).set (2 * k + 1) (.int .i64 n) = usCells (c.set k ⟨(c.getD k Us.no).e, n⟩) := by
    intro c
    induction c with
    | nil => intro k h; simp at h
    | cons x c ih =>
      intro k hk
      cases k with
      | zero => simp [usCells]
      | succ k =>
        have := ih k (by simpa using hk)
        simp only [usCells, List.map_cons, List.flatten_cons, List.set_cons_succ, List.getD_cons_succ] at this ⊢
        rw [show 2 * (k + 1) + 1 = (2 * k + 1) + 1 + 1 by omega]
        simp only [List.cons_append, List.nil_append, List.set_cons_succ]
        rw [this]
  rw [Nat.mul_comm]; exact key c k hk
theorem lgCells_count (p : Nat) (l : Lg) (h : l.chain.length = 12) {k : Nat} (n : Int) (hk : k < 12) : (lgCells p l).set (3 + k * 2 + 1) (.int .i64 n) = lgCells p { l with chain := l.chain.set k ⟨(l.chain.getD k Us.no).e, n⟩ } := by
  have h1 := usCells_setC l.chain k n (by omega)
  have hl : (usCells l.chain).length = 24 := by rw [usCells_length, h]
  unfold lgCells
  show _ = lgHead p l ++ (usCells (l.chain.set k ⟨(l.chain.getD k Us.no).e, n⟩) ++ lgTail l)
  have e3 : (lgHead p l).length = 3 := rfl
  rw [← h1, List.set_append_right _ _ (by omega), e3, show 3 + k * 2 + 1 - 3 = k * 2 + 1 by omega, List.set_append_left _ _ (by omega)]

/-- a log over its disk, in a block of its own -/
structure LgAt (w : World) (lb p kb : Nat) (pv : Value) (d : D) (l : Lg) : Prop where
  head : w.heap[lb]? = some (.cells (lgCells p l).toArray 62 (0, 0))
  len : l.chain.length = 12
  da : DAt w p kb pv d
  apart : ¬ fp p kb pv lb
  per4 : 4 ≤ l.per
  per64 : l.per ≤ 64
  segs12 : l.segs ≤ 12
  room : l.segs * l.per ≤ d.kept.length
  last : l.last < 12
  top : 0 ≤ l.top ∧ l.top ≤ 16777215
  us : ∀ k, 0 ≤ (l.chain.getD k Us.no).e ∧ (l.chain.getD k Us.no).e ≤ 16777215 ∧ 0 ≤ (l.chain.getD k Us.no).c ∧ (l.chain.getD k Us.no).c ≤ 64
section
variable {w : World} {lb p kb : Nat} {pv : Value} {d : D} {l : Lg} (h : LgAt w lb p kb pv d l)
include h
theorem LgAt.lt : lb < w.heap.size := lt_of_block h.head
theorem LgAt.c0 : w.cell? ⟨lb, 0, none⟩ = some (.pointer (some ⟨p, 0, none⟩)) := by rw [cell_at h.head]; rfl
theorem LgAt.c1 : w.cell? ⟨lb, 1, none⟩ = some (.int .i64 (l.per : Int)) := by rw [cell_at h.head]; rfl
theorem LgAt.c2 : w.cell? ⟨lb, 2, none⟩ = some (.int .i64 (l.segs : Int)) := by rw [cell_at h.head]; rfl
theorem LgAt.c27 : w.cell? ⟨lb, 27, none⟩ = some (.int .i64 (l.last : Int)) := by rw [cell_at h.head, List.getElem?_toArray]; exact lgCells_tail p l h.len 0
theorem LgAt.c28 : w.cell? ⟨lb, 28, none⟩ = some (.int .i64 l.top) := by rw [cell_at h.head, List.getElem?_toArray]; exact lgCells_tail p l h.len 1
theorem LgAt.c29 : w.cell? ⟨lb, 29, none⟩ = some (.bool l.opn) := by rw [cell_at h.head, List.getElem?_toArray]; exact lgCells_tail p l h.len 2
theorem LgAt.c30 : w.cell? ⟨lb, 30, none⟩ = some (.bool l.loose) := by rw [cell_at h.head, List.getElem?_toArray]; exact lgCells_tail p l h.len 3
theorem LgAt.c31 : w.cell? ⟨lb, 31, none⟩ = some (.bool l.down) := by rw [cell_at h.head, List.getElem?_toArray]; exact lgCells_tail p l h.len 4
theorem LgAt.cat : CAt w lb 3 l.chain := ⟨h.len, fun j x hx => by rw [cell_at h.head, List.getElem?_toArray]; exact lgCells_chain p l j x hx⟩
theorem LgAt.gat : GAt w lb p kb pv d l.per l.segs := ⟨h.c0, h.c1, h.c2, h.da, h.per4, h.per64, h.segs12, h.room⟩
theorem LgAt.step {w' : World} {pv' : Value} {d' : D} (hs : DStep w w' p kb pv pv' d') (hl : d'.kept.length = d.kept.length) : LgAt w' lb p kb pv' d' l :=
  ⟨hs.only.keep h.head h.apart, h.len, hs.da, fun hb => by
    rcases hs.fp lb hb with e | e
    · exact h.apart e
    · have := h.lt; omega, h.per4, h.per64, h.segs12, by rw [hl]; exact h.room, h.last, h.top, h.us⟩
theorem LgAt.quiet {w' : World} (ho : Only (fun _ => False) w w') : LgAt w' lb p kb pv d l :=
  ⟨ho.keep h.head id, h.len, h.da.only ho (fun _ _ => id), h.apart, h.per4, h.per64, h.segs12, h.room, h.last, h.top, h.us⟩
theorem LgAt.with {w' : World} {l' : Lg} (ho : Only (fun b => b = lb) w w') (hh : w'.heap[lb]? = some (.cells (lgCells p l').toArray 62 (0, 0))) (h1 : l'.chain.length = 12) (h2 : l'.per = l.per) (h3 : l'.segs = l.segs) (h4 : l'.last < 12)
    (h5 : 0 ≤ l'.top ∧ l'.top ≤ 16777215) (h6 : ∀ k, 0 ≤ (l'.chain.getD k Us.no).e ∧ (l'.chain.getD k Us.no).e ≤ 16777215 ∧ 0 ≤ (l'.chain.getD k Us.no).c ∧ (l'.chain.getD k Us.no).c ≤ 64) : LgAt w' lb p kb pv d l' :=
  ⟨hh, h1, h.da.only ho (fun b hb e => h.apart (by have e' : b = lb := e; subst e'; exact hb)), h.apart, by rw [h2]; exact h.per4, by rw [h2]; exact h.per64, by rw [h3]; exact h.segs12, by rw [h2, h3]; exact h.room, h4, h5, h6⟩
end
/-- a log behind a step -/
structure LStep (w w' : World) (lb p kb : Nat) (pv pv' : Value) (d' : D) (l' : Lg) : Prop where
  at_ : LgAt w' lb p kb pv' d' l'
  only : Only (fun b => b = lb ∨ fp p kb pv b) w w'
  fresh : ∀ g, pv'.ownBlock = some g → pv.ownBlock = some g ∨ w.heap.size ≤ g
theorem LStep.refl {w : World} {lb p kb : Nat} {pv : Value} {d : D} {l : Lg} (h : LgAt w lb p kb pv d l) : LStep w w lb p kb pv pv d l := ⟨h, Only.refl _ _, fun _ h => .inl h⟩
theorem LStep.trans {w w1 w2 : World} {lb p kb : Nat} {pv pv1 pv2 : Value} {d1 d2 : D} {l1 l2 : Lg} (h : LStep w w1 lb p kb pv pv1 d1 l1) (k : LStep w1 w2 lb p kb pv1 pv2 d2 l2) : LStep w w2 lb p kb pv pv2 d2 l2 :=
  ⟨k.at_, h.only.trans' k.only (fun y hy e => by
    rcases e with e | e | e | e
    · exact .inl e
    · exact .inr (.inl e)
    · exact .inr (.inr (.inl e))
    · rcases h.fresh y e with e | e
      · exact .inr (.inr (.inr e))
      · omega), fun g hg => by
    rcases k.fresh g hg with e | e
    · exact h.fresh g e
    · exact .inr (Nat.le_trans h.only.size e)⟩
theorem LStep.quiet {w w1 w2 : World} {lb p kb : Nat} {pv pv1 : Value} {d1 : D} {l1 : Lg} (h : LStep w w1 lb p kb pv pv1 d1 l1) (ho : Only (fun _ => False) w1 w2) : LStep w w2 lb p kb pv pv1 d1 l1 :=
  ⟨h.at_.quiet ho, h.only.trans (ho.mono fun _ _ => False.elim), h.fresh⟩
theorem LStep.disk {w w1 w2 : World} {lb p kb : Nat} {pv pv1 pv2 : Value} {d1 d2 : D} {l1 : Lg} (h : LStep w w1 lb p kb pv pv1 d1 l1) (k : DStep w1 w2 p kb pv1 pv2 d2) (hl : d2.kept.length = d1.kept.length) : LStep w w2 lb p kb pv pv2 d2 l1 :=
  h.trans ⟨h.at_.step k hl, k.only.mono fun _ _ e => .inr e, k.fresh⟩
theorem LStep.log {w w1 w2 : World} {lb p kb : Nat} {pv pv1 : Value} {d1 : D} {l1 l2 : Lg} (h : LStep w w1 lb p kb pv pv1 d1 l1) (k : LgAt w2 lb p kb pv1 d1 l2) (ho : Only (fun b => b = lb) w1 w2) : LStep w w2 lb p kb pv pv1 d1 l2 :=
  h.trans ⟨k, ho.mono fun _ _ e => .inl e, fun _ h => .inl h⟩

theorem fail_any (w : World) (lb p kb : Nat) (pv : Value) (d : D) (l : Lg) (e : Int) (h : LgAt w lb p kb pv d l) :
    Calls Tryd.prog 22 #[.pointer (some ⟨lb, 0, none⟩), .int .i64 e] w fun x w' => x = .returned (.int .i64 e) ∧ LStep w w' lb p kb pv pv d (fallen l e) := by
  have h31 := h.c31
  have h31f : w.frozen? ⟨lb, 31, none⟩ = false := free_at h.head 31
  have key : ∀ b : Bool, LStep w (w.setCell ⟨lb, 31, none⟩ (.bool b)) lb p kb pv pv d { l with down := b } := fun b => by
    have ho := Only.one w lb 31 (.bool b)
    have hs := heap_setCell_same w lb 31 _ _ (.bool b) h.head
    rw [List.setIfInBounds_toArray, lgCells_setTail p l h.len 4] at hs
    exact (LStep.refl h).log (h.with ho hs h.len rfl rfl h.last h.top h.us) ho
  have HK := Lib.hid key
  clear key
  by_cases hd : l.down = true
  · have HF := Lib.hid (show fallen l e = { l with down := true } by
      unfold fallen
      split
      · cases l; simp only at hd; rw [hd]
      · rfl)
    rw [hd] at h31
    clear hd
    go_enter Tryd.func22, Tryd.ntmps22
    go_wp2_with fail
    go_ret
    exact ⟨rfl, by rw [HF.out]; exact HK.out true⟩
  · have hd' : l.down = false := by simpa using hd
    rw [hd'] at h31
    by_cases he : e = 0
    · have HF := Lib.hid (show fallen l e = { l with down := false } by
        unfold fallen
        rw [if_pos he]
        cases l; simp only at hd'; rw [hd'])
      subst he
      clear hd hd'
      go_enter Tryd.func22, Tryd.ntmps22
      go_wp2_with fail
      go_ret
      exact ⟨rfl, by rw [HF.out]; exact HK.out false⟩
    · have HF := Lib.hid (show fallen l e = { l with down := true } by
        unfold fallen
        rw [if_neg he])
      have heb : (e != 0) = true := by simp [he]
      clear hd hd' he
      go_enter Tryd.func22, Tryd.ntmps22
      go_wp2_with fail
      go_ret
      exact ⟨rfl, by rw [HF.out]; exact HK.out true⟩
end Go.Proofs.YtlgefjcfnnjkbaaDoor
/- A seal. No conditions. -/
namespace Go.Proofs.YtlgefjcfnnjkbaaDoor
set_option maxRecDepth 100000
open Go.RowKit

theorem Tryd.buildSeal (a b : Int) (w : World) : (Instr.build 86 #[(0, .int .i64 a), (1, .int .i64 b), (2, .int .i64 4)]).run Tryd.prog w = .ok (.agg #[.int .i64 a, .int .i64 b, .int .i64 4, .string ⟨#[]⟩]) w := by kernel_rfl
def LPost (w : World) (lb p kb : Nat) (pv : Value) (r : Value) (d' : D) (l' : Lg) (e : Ending) (w' : World) : Prop := ∃ pv', e = .returned r ∧ LStep w w' lb p kb pv pv' d' l'
theorem Tryd.sizeInt : (Tryd.prog.info? 3).map (·.size) = some 1 := by kernel_rfl
def sealOut (l : Lg) (b : Bool) : Lg := if b then l.sealed else l
theorem sliceOf_new {w : World} {g : Nat} {t : TypeId} (fs : List Fr) (h : w.heap[g]? = some (.cells (frs fs).toArray t (0, 0))) (hl : fs.length ≤ 1000) : SliceOf w (.slice (some ⟨g, 0, none⟩) fs.length fs.length) fs.length (frs fs) (some ⟨g, 0, none⟩) fs.length :=
  ⟨rfl, by omega, fun j x hx => ⟨g, 0, rfl, by rw [cell_at h, List.getElem?_toArray, Nat.zero_add]; exact hx⟩⟩
theorem fp_new {p kb g : Nat} {pv : Value} {w : World} {d : D} (h : DAt w p kb pv d) (hg : w.heap.size ≤ g) : ¬ fp p kb pv g := fun hb => by have := h.fp_lt g hb; omega

set_option maxHeartbeats 8000000 in
theorem seal_any (w : World) (lb p kb : Nat) (pv : Value) (d : D) (l : Lg) (h : LgAt w lb p kb pv d l) (hu1 : 1 ≤ l.use.e) (huc : l.use.c < l.per) (hls : l.last < l.segs) (hroom : d.pend.length + 1 ≤ 1000000) :
    Calls Tryd.prog 26 #[.pointer (some ⟨lb, 0, none⟩)] w (LPost w lb p kb pv (.int .i64 (errP (l.sealD d).2)) (l.sealD d).1 (sealOut l (l.sealD d).2)) := by
  obtain ⟨u0, u1, u2, u3⟩ := h.us l.last
  have hper := h.per64
  have hlast := h.last
  have hLI : (l.last : Int) < 12 := by omega
  have hLI0 : (0 : Int) ≤ (l.last : Int) := by omega
  have hue : l.use = l.chain.getD l.last Us.no := rfl
  rw [hue] at hu1 huc
  have HUE := Lib.hid hue
  clear hue
  have HSD := Lib.hid (show l.sealD d = thenP (wrAll l.per l.last d [sealFrOf l.use]) syncP from rfl)
  generalize l.sealD d = SD at HSD ⊢
  generalize hu : l.chain.getD l.last Us.no = u at u0 u1 u2 u3 hu1 huc HUE
  have HU := Lib.hid hu
  clear hu
  have HQ := Lib.hid (show ∀ W, Only (fun _ => False) w W → W.cell? ⟨lb, 27, none⟩ = some (.int .i64 (l.last : Int)) ∧ W.cell? ⟨lb, 3 + l.last * 2, none⟩ = some (.int .i64 u.e) ∧ W.cell? ⟨lb, 3 + l.last * 2 + 1, none⟩ = some (.int .i64 u.c) ∧ True from fun W hW => by
    have h' := h.quiet hW
    obtain ⟨c1, c2⟩ := h'.cat.cells hlast
    rw [HU.out] at c1 c2
    exact ⟨h'.c27, c1, c2, trivial⟩)
  go_enter Tryd.func26, Tryd.ntmps26
  go_upto_region 1 with fail
  refine wp_region_pick (fun W => Only (fun _ => False) w W) [(0, 0), (1, 0), (2, 0), (3, 0), (4, 1), (5, 0), (6, 0), (7, 0), (8, 1), (9, 2), (10, 3)] (by kernel_rfl) (by kernel_rfl) (fun _ _ d _ _ h => by cases d <;> exact h) (Only.drew w _) ?_
  have ho1 := Only.drew w (fun _ => False)
  generalize w.drew = w1 at ho1 ⊢
  simp only [pickOps, List.getElem?_cons_zero, List.getElem?_cons_succ]
  iterate 9 (first | (refine wpL_pure (a' := ?_) ?_ rfl (fun W => ?_) ?_ ?_; rotate_left 2; (· go_simp; first | (go_bits; with_reducible rfl) | with_reducible rfl); (· simp only [put_some, List.setIfInBounds_toArray, List.set_cons_zero, List.set_cons_succ]; rfl)) | (refine wpL_held (a' := ?_) ?_ rfl (fun W hW => ?_) ?_ ?_; rotate_left 2; (· obtain ⟨q1, q2, q3, q4⟩ := HQ.out W hW; go_simp; first | (go_bits; with_reducible rfl) | with_reducible rfl); (· simp only [put_some, List.setIfInBounds_toArray, List.set_cons_zero, List.set_cons_succ]; rfl)))
  have hoA := Only.alloc w1 (.cells #[.int .i64 0, .int .i64 0] 58) (fun _ => False)
  have hal := heap_alloc_new w1 (.cells #[.int .i64 0, .int .i64 0] 58)
  refine wpL_stepRun (a' := ?_) (w' := w1.alloc (.cells #[.int .i64 0, .int .i64 0] 58)) (.pointer (some ⟨w1.heap.size, 0, none⟩)) rfl (exec_alloc rfl (Tryd.allocUse w1)) (ho1.trans hoA) ?_ ?_; rotate_left; (· simp only [put_some, List.setIfInBounds_toArray, List.set_cons_zero, List.set_cons_succ]; rfl)
  have hST := run_store_part (P := Tryd.prog) (w1.alloc (.cells #[.int .i64 0, .int .i64 0] 58)) w1.heap.size 0 2 58 58 [.int .i64 0, .int .i64 0] [.int .i64 u.e, .int .i64 u.c] Tryd.sizeUse rfl hal (by simp) (by simp [Value.oneCell'])
  refine wpL_lastDone (a' := ?_) (w' := (w1.alloc (.cells #[.int .i64 0, .int .i64 0] 58)).setRow w1.heap.size #[.int .i64 u.e, .int .i64 u.c]) rfl (exec_store rfl (p := .pointer (some ⟨w1.heap.size, 0, none⟩)) (v := .agg #[.int .i64 u.e, .int .i64 u.c]) rfl rfl hST) ?_ ?_; rotate_left; (· simp only [put_none]; rfl)
  refine wpL_nil ?_
  have hg1 := setRow_heap _ w1.heap.size _ #[.int .i64 u.e, .int .i64 u.c] _ _ hal
  have hoS := (hoA.trans' (Only.setRow (w1.alloc (.cells #[.int .i64 0, .int .i64 0] 58)) w1.heap.size #[.int .i64 u.e, .int .i64 u.c] (S := fun x => x = w1.heap.size) rfl) (fun y hy e => by omega))
  clear hST hal hoA
  generalize (w1.alloc (.cells #[.int .i64 0, .int .i64 0] 58)).setRow w1.heap.size #[.int .i64 u.e, .int .i64 u.c] = w2 at hg1 hoS ⊢
  have ho2 := ho1.trans hoS
  generalize w1.heap.size = ub at *
  have HG1 := Lib.hid hg1
  clear hoS ho1 hg1 HQ
  go_upto_region 2 with fail
  have HQ := Lib.hid (show ∀ W, Only (fun _ => False) w2 W → W.cell? ⟨lb, 27, none⟩ = some (.int .i64 (l.last : Int)) ∧ W.cell? ⟨ub, 0, none⟩ = some (.int .i64 u.e) ∧ W.cell? ⟨ub, 1, none⟩ = some (.int .i64 u.c) ∧ True from fun W hW =>
    ⟨(h.quiet (ho2.trans hW)).c27, cell_at (hW.keep HG1.out id) 0, cell_at (hW.keep HG1.out id) 1, trivial⟩)
  refine wp_region_pick (fun W => Only (fun _ => False) w2 W) [(0, 0), (1, 0), (2, 0), (3, 0), (4, 0), (5, 0), (6, 1), (7, 0), (8, 1), (9, 0), (10, 1), (11, 0), (12, 2), (13, 3), (14, 0)] (by kernel_rfl) (by kernel_rfl) (fun _ _ d _ _ h => by cases d <;> exact h) (Only.drew w2 _) ?_
  have ho3 := Only.drew w2 (fun _ => False)
  generalize w2.drew = w3 at ho3 ⊢
  simp only [pickOps, List.getElem?_cons_zero, List.getElem?_cons_succ]
  iterate 11 (first | (refine wpL_pure (a' := ?_) ?_ rfl (fun W => ?_) ?_ ?_; rotate_left 2; (· go_simp; first | (go_bits; with_reducible rfl) | with_reducible rfl); (· simp only [put_some, List.setIfInBounds_toArray, List.set_cons_zero, List.set_cons_succ]; rfl)) | (refine wpL_held (a' := ?_) ?_ rfl (fun W hW => ?_) ?_ ?_; rotate_left 2; (· obtain ⟨q1, q2, q3, q4⟩ := HQ.out W hW; go_simp; first | (go_bits; with_reducible rfl) | with_reducible rfl); (· simp only [put_some, List.setIfInBounds_toArray, List.set_cons_zero, List.set_cons_succ]; rfl)))
  refine wpL_pure (a' := ?_) (.agg #[.int .i64 u.e, .int .i64 u.c, .int .i64 4, .string ⟨#[]⟩]) rfl (fun W => exec_buildN rfl (parts := #[(0, .int .i64 u.e), (1, .int .i64 u.c), (2, .int .i64 4)]) (by simp only [List.map_toArray, List.map_cons, List.map_nil]; go_simp) (Tryd.buildSeal _ _ W)) ?_ ?_; rotate_left; (· simp only [put_some, List.setIfInBounds_toArray, List.set_cons_zero, List.set_cons_succ]; rfl)
  have hoB := Only.alloc w3 (.cells #[.int .i64 u.e, .int .i64 u.c, .int .i64 4, .string ⟨#[]⟩] 86) (fun _ => False)
  have hbB := heap_alloc_any w3 (.cells #[.int .i64 u.e, .int .i64 u.c, .int .i64 4, .string ⟨#[]⟩] 86)
  refine wpL_stepRun (a' := ?_) (w' := w3.alloc (.cells #[.int .i64 u.e, .int .i64 u.c, .int .i64 4, .string ⟨#[]⟩] 86)) (.slice (some ⟨w3.heap.size, 0, none⟩) 1 1) rfl (exec_buildSlice_one rfl (v := .agg #[.int .i64 u.e, .int .i64 u.c, .int .i64 4, .string ⟨#[]⟩]) rfl (run_buildSlice_one w3 118 86 _ _ #[.int .i64 u.e, .int .i64 u.c, .int .i64 4, .string ⟨#[]⟩] 4 40 rfl rfl (by decide) (by decide) Tryd.underlying118 Tryd.info23)) (ho3.trans hoB) ?_ ?_; rotate_left; (· simp only [put_some, List.setIfInBounds_toArray, List.set_cons_zero, List.set_cons_succ]; rfl)
  have ho4 := (ho2.trans ho3).trans hoB
  have hfn : w.heap.size ≤ w3.heap.size := (ho2.trans ho3).size
  generalize w3.alloc (.cells #[.int .i64 u.e, .int .i64 u.c, .int .i64 4, .string ⟨#[]⟩] 86) = w4 at hoB hbB ho4 ⊢
  have hL4 := h.quiet ho4
  have hSl := sliceOf_new [(⟨u.e, u.c, 4, []⟩ : Fr)] (w := w4) hbB (by simp)
  have hw := gwrite_any w4 lb p kb pv d l.per l.segs l.last _ [(⟨u.e, u.c, 4, []⟩ : Fr)] _ _ hL4.gat hSl (fun f hf => by
    obtain rfl := List.mem_singleton.1 hf
    refine ⟨?_, by simpa using huc⟩
    rw [Fr.right_iff]; simp; omega) hls hL4.apart (fun b o e => by cases e; exact fp_new h.da hfn) hroom (by simp)
  refine wpL_lastCall (f := 46) (args := #[.pointer (some ⟨lb, 0, none⟩), .int .i64 (l.last : Int), .slice (some ⟨w3.heap.size, 0, none⟩) 1 1]) rfl (by kernel_rfl) (hw.mono ?_)
  rintro ev w5 ⟨pv5, rfl, hst5⟩
  refine ⟨_, rfl, ?_⟩
  simp only [put_some, List.setIfInBounds_toArray, List.set_cons_zero, List.set_cons_succ]
  (refine wpL_pure (a' := ?_) ?_ rfl (fun W => ?_) ?_ ?_; rotate_left 2; (· go_simp; first | (go_bits; with_reducible rfl) | with_reducible rfl); (· simp only [put_some, List.setIfInBounds_toArray, List.set_cons_zero, List.set_cons_succ]; rfl))
  refine wpL_nil ?_
  have HSD2 := Lib.hid (show SD = thenP (wrAll l.per l.last d [(⟨u.e, u.c, 4, []⟩ : Fr)]) syncP by rw [HSD.out, HUE.out]; rfl)
  have hkl := (wrAll_facts l.per l.last [(⟨u.e, u.c, 4, []⟩ : Fr)] d).1
  generalize wrAll l.per l.last d [(⟨u.e, u.c, 4, []⟩ : Fr)] = R at HSD2 hst5 hkl ⊢
  obtain ⟨d5, ok5⟩ := R
  simp only at hst5 hkl ⊢
  have hL := (LStep.refl h).quiet ho4 |>.disk hst5 (by rw [hkl])
  clear hw hSl hL4 hbB hoB ho4 hst5 HSD HQ HG1 ho3 ho2
  cases ok5 with
  | false =>
    have HN := Lib.hid (show SD = (d5, false) by rw [HSD2.out]; rfl)
    unfold errP
    simp only [Bool.false_eq_true, if_false]
    go_wp2_with fail
    go_ret
    exact ⟨pv5, by rw [HN.out]; rfl, by rw [HN.out]; exact hL⟩
  | true =>
    have HN := Lib.hid (show SD = syncP d5 by rw [HSD2.out]; rfl)
    have hc0 := hL.at_.c0
    have HSY := Lib.hid (fun W (hW : DAt W p kb pv5 d5) => dsync_any W p kb pv5 d5 hW)
    have hsl : (syncP d5).1.kept.length = d5.kept.length := by unfold syncP; split; exact D.sync_len d5; rfl
    generalize syncP d5 = R at HN HSY hsl
    obtain ⟨d6, ok6⟩ := R
    simp only at HSY hsl
    unfold errP
    simp only [if_true]
    go_wp2_with fail
    refine (HSY.out _ hL.at_.da).mono ?_
    rintro ev w6 ⟨pv6, rfl, hst6⟩
    have hL6 := hL.disk hst6 hsl
    clear HSY hL hc0 hst6
    cases ok6 with
    | false =>
      unfold errP
      simp only [Bool.false_eq_true, if_false]
      go_wp2_with fail
      go_ret
      exact ⟨pv6, by rw [HN.out]; rfl, by rw [HN.out]; exact hL6⟩
    | true =>
      unfold errP
      simp only [if_true]
      have h6 := hL6.at_
      have HQ := Lib.hid (show ∀ W, Only (fun _ => False) w6 W → W.cell? ⟨lb, 27, none⟩ = some (.int .i64 (l.last : Int)) ∧ W.cell? ⟨lb, 3 + l.last * 2 + 1, none⟩ = some (.int .i64 u.c) ∧ True ∧ True from fun W hW => by
        have h' := h6.quiet hW
        obtain ⟨c1, c2⟩ := h'.cat.cells hlast
        rw [HU.out] at c2
        exact ⟨h'.c27, c2, trivial, trivial⟩)
      go_upto_region 8 with fail
      refine wp_region_pick (fun W => Only (fun _ => False) w6 W) [(0, 0), (1, 0), (2, 0), (3, 0), (4, 1), (5, 0), (6, 0), (7, 0), (8, 0), (9, 1), (10, 0), (11, 0), (12, 0), (13, 0), (14, 0), (15, 3)] (by kernel_rfl) (by kernel_rfl) (fun _ _ d _ _ h => by cases d <;> exact h) (Only.drew w6 _) ?_
      have hL7 := hL6.quiet (Only.drew w6 _)
      have ho7 := Only.drew w6 (fun _ => False)
      clear h6 hL6
      generalize w6.drew = w7 at hL7 ho7 ⊢
      simp only [pickOps, List.getElem?_cons_zero, List.getElem?_cons_succ]
      iterate 15 (first | (refine wpL_pure (a' := ?_) ?_ rfl (fun W => ?_) ?_ ?_; rotate_left 2; (· go_simp; first | (go_bits; with_reducible rfl) | with_reducible rfl); (· simp only [put_some, List.setIfInBounds_toArray, List.set_cons_zero, List.set_cons_succ]; rfl)) | (refine wpL_held (a' := ?_) ?_ rfl (fun W hW => ?_) ?_ ?_; rotate_left 2; (· obtain ⟨q1, q2, q3, q4⟩ := HQ.out W hW; go_simp; first | (go_bits; with_reducible rfl) | with_reducible rfl); (· simp only [put_some, List.setIfInBounds_toArray, List.set_cons_zero, List.set_cons_succ]; rfl)))
      have h7 := hL7.at_
      have hst8 := run_store_one (P := Tryd.prog) w7 ⟨lb, 3 + l.last * 2 + 1, none⟩ (.int .i64 (u.c + 1)) (.int .i64 u.c) 3 rfl rfl Tryd.sizeInt (HQ.out w7 ho7).2.1 (free_at h7.head _)
      refine wpL_lastDone (a' := ?_) (w' := w7.setCell ⟨lb, 3 + l.last * 2 + 1, none⟩ (.int .i64 (u.c + 1))) rfl (exec_store rfl (p := .pointer (some ⟨lb, 3 + l.last * 2 + 1, none⟩)) (v := .int .i64 (u.c + 1)) rfl rfl hst8) ?_ ?_; rotate_left; (· simp only [put_none]; rfl)
      refine wpL_nil ?_
      have hset := heap_setCell_same w7 lb (3 + l.last * 2 + 1) _ _ (.int .i64 (u.c + 1)) h7.head
      rw [List.setIfInBounds_toArray, lgCells_count p l h7.len (u.c + 1) hlast, HU.out] at hset
      have hus : ∀ k, 0 ≤ ((l.chain.set l.last ⟨u.e, u.c + 1⟩).getD k Us.no).e ∧ ((l.chain.set l.last ⟨u.e, u.c + 1⟩).getD k Us.no).e ≤ 16777215 ∧ 0 ≤ ((l.chain.set l.last ⟨u.e, u.c + 1⟩).getD k Us.no).c ∧ ((l.chain.set l.last ⟨u.e, u.c + 1⟩).getD k Us.no).c ≤ 64 := fun k => by
        by_cases ek : k = l.last
        · subst ek; rw [getD_set_eq (by rw [h7.len]; exact hlast)]; simp only; omega
        · rw [getD_set_ne ek]; exact h7.us k
      have ho8 := Only.one w7 lb (3 + l.last * 2 + 1) (.int .i64 (u.c + 1))
      have h8 : LgAt (w7.setCell ⟨lb, 3 + l.last * 2 + 1, none⟩ (.int .i64 (u.c + 1))) lb p kb pv6 d6 { l with chain := l.chain.set l.last ⟨u.e, u.c + 1⟩ } := h7.with ho8 hset (by simp only [List.length_set]; exact h7.len) rfl rfl h7.last h7.top hus
      have hL8 := hL7.log h8 ho8
      clear hst8 hset hus h7 hL7 ho7 ho8 HQ
      generalize w7.setCell ⟨lb, 3 + l.last * 2 + 1, none⟩ (.int .i64 (u.c + 1)) = w8 at h8 hL8 ⊢
      have h30 : w8.cell? ⟨lb, 30, none⟩ = some (.bool l.loose) := h8.c30
      have h30f : w8.frozen? ⟨lb, 30, none⟩ = false := free_at h8.head 30
      have ho9 := Only.one w8 lb 30 (.bool false)
      have hset := heap_setCell_same w8 lb 30 _ _ (.bool false) h8.head
      rw [List.setIfInBounds_toArray, lgCells_setTail p _ h8.len 3] at hset
      have h9 : LgAt (w8.setCell ⟨lb, 30, none⟩ (.bool false)) lb p kb pv6 d6 l.sealed := by
        have e : l.sealed = { l with chain := l.chain.set l.last ⟨u.e, u.c + 1⟩, loose := false } := by unfold Lg.sealed; rw [HUE.out]
        rw [e]
        exact h8.with ho9 hset h8.len rfl rfl h8.last h8.top h8.us
      have HL9 := Lib.hid (hL8.log h9 ho9)
      clear ho9 hset h9 hL8 h8
      go_wp2_with fail
      go_ret
      exact ⟨pv6, by rw [HN.out]; rfl, by rw [HN.out]; exact HL9.out⟩
end Go.Proofs.YtlgefjcfnnjkbaaDoor
