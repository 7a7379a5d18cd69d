/- Parts of the proof, one behind the other: LogZa, LogZb, LogZc, LogZd. Each part's own words say what it proves; no conditions. -/
import Derived.Test.YtlgefjcfnnjkbaaDoorP17
import Derived.Test.YtlgefjcfnnjkbaaDoorP20
set_option linter.unusedVariables false
set_option linter.unusedSimpArgs false
set_option linter.unusedSectionVars false
/- An append, a seal: what they make of a log and its disk. Plain; no program is named; no conditions. -/
namespace Go.Proofs.YtlgefjcfnnjkbaaDoor
set_option maxRecDepth 100000

theorem filter_range_le (P : Nat → Bool) (n : Nat) (h : ∀ k, P k = true → k < n) : ∀ m, ((List.range m).filter P).length ≤ m ∧ ((List.range m).filter P).length ≤ n
  | 0 => by simp
  | m + 1 => by
    have ih := filter_range_le P n h m
    rw [List.range_succ, List.filter_append, List.length_append]
    cases hp : P m with
    | true =>
      have := h m hp
      have e1 : ([m].filter P).length = 1 := by simp [hp]
      omega
    | false =>
      have e1 : ([m].filter P).length = 0 := by simp [hp]
      omega
theorem used_le {c : List Us} {segs per : Nat} {top : Int} (h : ChOk c segs per top) : used c ≤ segs := by
  rw [used_eq]
  refine (filter_range_le _ segs (fun k hk => ?_) _).2
  rcases h.use k with e | e
  · rw [e] at hk; simp [Us.no] at hk
  · exact e.1
/-- what an append makes -/
inductive Ap (d : D) (l : Lg) (sure : Nat) (all s : List (List UInt8)) (deep : Bool) : D → Lg → List Int → Int → Prop where
  | ok (d' l' es) (h : LSt d' l' sure (all ++ s)) (hl : es.length = s.length) (n : Nat) (ha : Adv l l' n (((s.map fun b => need b.length).sum + n : Nat) : Int)) (hd : deep = false → 0 < n → 2 ≤ l.free - n) (st : Stp d d' (65 * s.length)) : Ap d l sure all s deep d' l' es 0
  | cut (d' l') (hc : d.cut = true) (cr : Cr l.per l.segs d' sure (all ++ s)) (st : Stp d d' (65 * s.length)) : Ap d l sure all s deep d' l' [] 22
  | no (e : Int) (he : e = 130 ∨ e = 132 ∨ e = 133) : Ap d l sure all s deep d l [] e
theorem append_steps {d : D} {l : Lg} {sure : Nat} {all : List (List UInt8)} (h : LSt d l sure all) (hdn : l.down = false) (s : List (List UInt8)) (deep : Bool) :
    Ap d l sure all s deep (l.append d s deep).1 (l.append d s deep).2.1 (l.append d s deep).2.2.1 (l.append d s deep).2.2.2 := by
  unfold Lg.append
  rw [if_neg (by rw [hdn]; decide)]
  by_cases hb : (s.any fun b => decide ((l.per : Int) - 2 < need b.length)) = true
  · rw [if_pos hb]; exact .no _ (.inr (.inr rfl))
  · rw [if_neg hb]
    have hb' : ∀ b ∈ s, need b.length + 2 ≤ l.per := fun b hm => by
      have h2 : ¬ ((l.per : Int) - 2 < need b.length) := fun e => hb (List.any_eq_true.2 ⟨b, hm, by simpa using e⟩)
      omega
    obtain ⟨hpo, hpm⟩ := plan_is l s
    simp only
    by_cases ht : 16777215 - l.top < (l.plan s).many
    · rw [if_pos ht]; exact .no _ (.inl rfl)
    · rw [if_neg ht]
      by_cases hf : 0 < (l.plan s).many ∧ (l.free - (l.plan s).many < 0 ∨ (deep = false ∧ l.free - (l.plan s).many < 2))
      · rw [if_pos hf]; exact .no _ (.inr (.inl rfl))
      · rw [if_neg hf, hpo]
        rw [hpm] at ht hf
        have hfr : l.free = (l.segs : Int) - used l.chain := by unfold Lg.free used; rw [hdn]; rfl
        have hu := used_le h.chOk.1
        obtain ⟨d', l', es', e', q1, q2, q3, q4, q5, q6, q7⟩ := go_steps s d l sure all [] h hb' (by
          rw [hfr] at hf
          generalize manyR (opensR l.per l.use.c l.opn s) = n at *
          by_cases hn : 0 < n
          · rw [not_and] at hf
            have := hf hn
            rw [not_or] at this
            omega
          · omega) (by omega)
        rw [q1]
        simp only
        by_cases he : e' = 0
        · subst he
          obtain ⟨r1, r2, r3⟩ := q6 rfl
          refine .ok d' l' es' r1 (by simpa using r2) _ r3 (fun e1 e2 => ?_) q4
          rw [not_and] at hf
          have := hf e2
          rw [not_or, not_and] at this
          have := this.2 e1
          omega
        · have e2 : e' = 22 := by omega
          subst e2
          rw [q7 he]
          exact .cut d' l' (by cases hc : d.cut with
            | true => rfl
            | false => exact absurd (q3 hc) he) q5 q4
theorem LSt.down {d : D} {l : Lg} {sure : Nat} {all : List (List UInt8)} (h : LSt d l sure all) : l.down = false := by
  cases h with
  | new h hs ha => rw [h.is]; rfl
  | old S s m0 h hw hm hs hn ha hh hne => exact h.down

/-! ### A seal -/
theorem LInv.synced {S : Sh} {s : Nat} {d : D} {l : Lg} (h : LInv S s d l) : LInv S (iLen (S.B S.n)) d.sync l := { h with inv := h.inv.sync }
theorem LInv.hist {S : Sh} {s : Nat} {d : D} {l : Lg} (h : LInv S s d l) (hh : Hist S (frKept d S.per)) : Hist S (frKept d.sync S.per) :=
  hh.congr rfl rfl rfl rfl fun k a hk ha hne => by rw [frKept_sync h.inv.cr.room hk ha]; exact h.inv.cr.same (mix_there d) ha (.inl hne)
theorem sync_pend (d : D) : d.sync.pend = [] := by simp [D.sync]
/-- a log that is sealed, and synced -/
inductive Shut (d : D) (l : Lg) (all : List (List UInt8)) : Prop where
  | new (h : LNew d l) (ha : all = [])
  | old (S : Sh) (h : LInv S (iLen (S.B S.n)) d l) (hw : l.chain = wholeC S) (hp : d.pend = []) (hl : looseI (S.B S.n) = false) (ha : allT S = all) (hh : Hist S (frKept d S.per)) (hne : S.B S.n ≠ [])
theorem Shut.st {d : D} {l : Lg} {all : List (List UInt8)} (h : Shut d l all) : LSt d l all.length all := by
  cases h with
  | new h ha => exact .new h (by rw [ha]; rfl) ha
  | old S h hw hp hl ha hh hne =>
    refine .old S _ (S.B S.n).length h hw (Nat.le_refl _) (by rw [List.take_length]) ?_ ha hh hne
    rw [nP_all, ← ha]; simp [allT]
theorem shut_steps {d : D} {l : Lg} {sure : Nat} {all : List (List UInt8)} (h : LSt d l sure all) :
    ∃ d' l' e', l.shut d = (d', l', e') ∧ (d.cut = false → e' = 0) ∧ (e' = 0 ∨ e' = 22) ∧ Stp d d' 1 ∧ Cr l.per l.segs d' sure all ∧ l'.per = l.per ∧ l'.segs = l.segs ∧ (e' = 0 → Shut d' l' all) := by
  have hcr := h.cr
  unfold Lg.shut
  rw [if_neg (by rw [h.down]; decide)]
  unfold syncP
  by_cases hp : d.power = true
  · rw [if_pos hp]
    simp only
    cases h with
    | new h hs ha =>
      have hl : l.loose = false := by rw [h.is]; rfl
      rw [if_pos hl]
      have hz : LNew d.sync l := ⟨h.is, h.per4, h.per64, h.segs12, h.dok.sync, by rw [D.sync_len]; exact h.room, sync_pend d, fun k a hk ha => by rw [frKept_nosync h.pend]; exact h.zero k a hk ha⟩
      exact ⟨_, _, 0, rfl, fun _ => rfl, .inl rfl, (stp_sync d).mono (by omega), by rw [hs]; exact cr_blank hz.dok hz.room hz.pend hz.zero all, rfl, rfl, fun _ => .new hz ha⟩
    | old S s m0 h hw hm hs hn ha hh hne =>
      have h1 := h.synced
      have hh1 := h.hist hh
      have hall : sure ≤ nP S (S.B S.n).length := by
        rw [nP_all]
        unfold nP at hn
        unfold allP newP
        rw [List.length_append, List.length_map]
        have : (((S.B S.n).take m0).filterMap id).length ≤ ((S.B S.n).filterMap id).length := ((List.take_sublist m0 (S.B S.n)).filterMap id).length_le
        omega
      have hcr1 : Cr l.per l.segs d.sync sure all := by
        rw [h.per, h.segs]
        exact cr_of h1.inv.cr (Nat.le_refl _) (by rw [List.take_length]) hall (by rw [ha]; exact List.prefix_rfl) hh1 h.tight
      by_cases hlo : l.loose = false
      · rw [if_pos hlo]
        exact ⟨_, _, 0, rfl, fun _ => rfl, .inl rfl, (stp_sync d).mono (by omega), hcr1, rfl, rfl, fun _ => .old S h1 hw (sync_pend d) (by rw [← h.loose]; exact hlo) ha hh1 hne⟩
      · rw [if_neg hlo]
        have hloo : looseI (S.B S.n) = true := by rw [← h.loose]; simpa using hlo
        have ht := h.tight hloo
        have ok := h.inv.cr.ok
        have e1 : iLen [(none : It)] = 1 := rfl
        have hi := h1.item (l' := l.sealed) none (fun _ => rfl) (by rw [e1]; omega) (fun e => absurd rfl e) (by rw [e1]; rfl)
        have hit : items S.e (1 + iLen (S.B S.n)) [none] = [sealFrOf l.use] := by
          rw [h.u]; simp [items, sealFrOf, sealAt]
        rw [hit] at hi
        have hfa := wrAll_facts l.per l.last [sealFrOf l.use] d.sync
        have hst := stp_wrAll l.per l.last d.sync [sealFrOf l.use]
        have hkt := wrAll_keptT l.per l.last d.sync [sealFrOf l.use]
        unfold Lg.sealD thenP
        generalize wrAll l.per l.last d.sync [sealFrOf l.use] = r at hi hfa hst hkt
        obtain ⟨d2, ok2⟩ := r
        simp only at hi hfa hst hkt ⊢
        have hall2 : allT (S.push none) = all := by unfold allT; rw [allP_push ok, List.map_append, ← ha]; simp [allT]
        have hmB : (S.B S.n).length ≤ ((S.push none).B (S.push none).n).length := by rw [Sh.push_B, List.length_append]; omega
        have hsB : iLen (S.B S.n) = iLen (((S.push none).B (S.push none).n).take (S.B S.n).length) := by rw [Sh.push_B, take_push_le _ _ (Nat.le_refl _), List.take_length]
        have hnB : sure ≤ nP (S.push none) (S.B S.n).length := by rw [nP_push ok _ (Nat.le_refl _)]; exact hall
        have hhB : Hist (S.push none) (frKept d2 (S.push none).per) := hh1.congr rfl rfl rfl (oldP_push ok _) fun k a hk ha' hne => by
          show frKept d2 S.per k a = _
          rw [h.per] at hkt; rw [hkt]
        have hcr2 : Cr l.per l.segs d2 sure all := by
          have := cr_of hi.1 hmB hsB hnB (by rw [hall2]; exact List.prefix_rfl) hhB hi.2.1
          rw [h.per, h.segs]; exact this
        have hst2 : Stp d d2 1 := ((stp_sync d).trans hst).mono (by simp)
        cases ok2 with
        | false =>
          simp only [Bool.false_eq_true, if_false]
          exact ⟨_, _, 22, rfl, fun e => absurd (hfa.2.2.2 (by rw [sync_cut]; exact e)) (by simp), .inr rfl, hst2, hcr2, rfl, rfl, fun e => by cases e⟩
        | true =>
          simp only [if_true]
          have hv := hi.2.2 rfl
          unfold syncP
          by_cases hp2 : d2.power = true
          · rw [if_pos hp2]
            simp only
            have hv2 := hv.synced
            have hh2 := hv.hist hhB
            have hll : looseI ((S.push none).B (S.push none).n) = false := by rw [Sh.push_B]; exact looseI_none _
            have hwh := h.whole_item hw none
            rw [e1] at hwh
            have hsh : Shut d2.sync l.sealed all := .old (S.push none) hv2 hwh (sync_pend d2) hll hall2 hh2 (by rw [Sh.push_B]; simp)
            refine ⟨_, _, 0, rfl, fun _ => rfl, .inl rfl, (hst2.trans (stp_sync d2)).mono (by omega), ?_, rfl, rfl, fun _ => hsh⟩
            have hcr3 := cr_of hv2.inv.cr (m0 := ((S.push none).B (S.push none).n).length) (sure := sure) (all := all) (Nat.le_refl _) (by rw [List.take_length]) (by
              rw [nP_all]; rw [nP_all] at hall
              have e2 : allP (S.push none) = allP S := by rw [allP_push ok]; simp
              rw [e2]; exact hall) (by rw [hall2]; exact List.prefix_rfl) hh2 hv.tight
            rw [h.per, h.segs]; exact hcr3
          · rw [if_neg hp2]
            simp only
            exact ⟨_, _, 22, rfl, fun e => absurd (power_of (by rw [hst2.cut e])) hp2, .inr rfl, hst2, hcr2, rfl, rfl, fun e => by cases e⟩
  · rw [if_neg hp]
    simp only
    exact ⟨_, _, 22, rfl, fun e => absurd (power_of e) hp, .inr rfl, (Stp.refl d).mono (by omega), hcr, rfl, rfl, fun e => by cases e⟩
end Go.Proofs.YtlgefjcfnnjkbaaDoor
/- What the walk of an append, of a seal asks for holds of a log that goes on. No conditions. -/
namespace Go.Proofs.YtlgefjcfnnjkbaaDoor
set_option maxRecDepth 100000
open Go.RowKit

theorem LInv.addOk {S : Sh} {s : Nat} {d : D} {l : Lg} (h : LInv S s d l) (b : List UInt8) (hc : l.use.c + (need b.length : Nat) ≤ l.per) (hp : d.pend.length + 64 ≤ 1000000) : AddOk l d b := by
  have ok := h.inv.cr.ok
  refine ⟨by rw [h.u]; exact ok.epos.1, hc, by rw [h.last, h.segs]; exact ok.nlt, hp⟩
theorem oneOk_of {d : D} {l : Lg} {sure : Nat} {all : List (List UInt8)} (h : LSt d l sure all) (b : List UInt8) (o : Bool) (hb : need b.length + 2 ≤ l.per) (ho : o = true → used l.chain < l.segs ∧ l.top + 1 ≤ 16777215)
    (hno : o = false → l.opn = true ∧ l.use.c + need b.length + 1 ≤ l.per) (hp : d.pend.length + 65 ≤ 1000000) : OneOk l d b o := by
  unfold OneOk
  cases o with
  | true =>
    simp only [if_true]
    obtain ⟨hu, ht⟩ := ho rfl
    refine ⟨ht, by omega, fun e => ?_⟩
    obtain ⟨hch, hs12⟩ := h.chOk
    have hfree := free_of (c := l.chain) (segs := l.segs) (by rw [hch.len]; omega) (fun k _ e => by
      rcases hch.use k with e2 | e2
      · exact e2
      · omega) hu
    obtain ⟨d', seg, e', r1, r2, r3, r4, r5, r6, r7, r8⟩ := begin_step h hfree ht
    rw [r1] at e ⊢
    simp only at e ⊢
    subst e
    obtain ⟨S, q1, q2, q3, q4, q5, q6⟩ := r8 rfl
    simp only [if_true]
    refine q1.addOk b ?_ (by have := r4.few; omega)
    rw [q1.u, q3]
    show ((1 + iLen [] : Nat) : Int) + _ ≤ ((l.begun seg).per : Int)
    have e2 : (l.begun seg).per = l.per := rfl
    have e3 : iLen ([] : List It) = 0 := rfl
    rw [e2, e3]
    omega
  | false =>
    simp only [Bool.false_eq_true, if_false]
    obtain ⟨h1, h2⟩ := hno rfl
    cases h with
    | new h hs ha => rw [h.is] at h1; simp [Lg.new] at h1
    | old S s m0 h hw hm hs hn ha hh hne => exact h.addOk b (by omega) (by omega)
theorem goOk_of : ∀ (s : List (List UInt8)) (d : D) (l : Lg) (sure : Nat) (all : List (List UInt8)), LSt d l sure all → (∀ b ∈ s, need b.length + 2 ≤ l.per) →
    used l.chain + manyR (opensR l.per l.use.c l.opn s) ≤ l.segs → l.top + (manyR (opensR l.per l.use.c l.opn s) : Nat) ≤ 16777215 → d.pend.length + 65 * s.length + 65 ≤ 1000000 → GoOk l d (s.zip (opensR l.per l.use.c l.opn s))
  | [], d, l, sure, all, h, _, _, _, _ => trivial
  | b :: s, d, l, sure, all, h, hb, hu, ht, hp => by
    have hopt : ∀ (c : Prop) [Decidable c] (x y : List Bool), (if c then true :: x else false :: y) = (decide c) :: (if c then x else y) := fun c _ x y => by split <;> simp [*]
    rw [opensR_cons, hopt] at hu ht ⊢
    generalize ho : decide (l.opn = false ∨ (l.per : Int) < l.use.c + (need b.length : Nat) + 1) = o at hu ht ⊢
    have hb0 := hb b (by simp)
    have hmany : ∀ x : List Bool, manyR (o :: x) = (if o then 1 else 0) + manyR x := fun x => by
      cases o <;> simp [manyR]; omega
    rw [hmany] at hu ht
    have hrest : (if l.opn = false ∨ (l.per : Int) < l.use.c + (need b.length : Nat) + 1 then opensR l.per (1 + (need b.length : Nat)) true s else opensR l.per (l.use.c + (need b.length : Nat)) true s) = opensR l.per ((if o then 1 else l.use.c) + (need b.length : Nat)) true s := by
      by_cases hc : l.opn = false ∨ (l.per : Int) < l.use.c + (need b.length : Nat) + 1
      · rw [if_pos hc, ← ho, decide_eq_true hc]; rfl
      · rw [if_neg hc, ← ho, decide_eq_false hc]; rfl
    rw [hrest] at hu ht ⊢
    have ho1 : o = true → used l.chain < l.segs ∧ l.top + 1 ≤ 16777215 := fun e => by subst e; simp only [if_true] at hu ht; constructor <;> omega
    have ho2 : o = false → l.opn = true ∧ l.use.c + need b.length + 1 ≤ l.per := fun e => by
      subst e
      have := of_decide_eq_false ho
      rw [not_or] at this
      exact ⟨by simpa using this.1, by omega⟩
    simp only [List.length_cons] at hp
    refine ⟨oneOk_of h b o hb0 ho1 ho2 (by omega), fun e => ?_⟩
    obtain ⟨d1, l1, e1, r1, r2, r3, r4, r5, r6⟩ := one_step h b o hb0 ho1 ho2
    rw [r1] at e ⊢
    simp only at e ⊢
    subst e
    obtain ⟨q1, q2, q3, q4⟩ := r6 rfl
    have hop1 : l1.opn = true := by
      rw [q3]
      cases o with
      | true => rfl
      | false => exact (ho2 rfl).1
    have ih := goOk_of s d1 l1 sure (all ++ [b]) q1 (fun x hx => by rw [q2.per]; exact hb x (by simp [hx]))
    rw [q4, hop1, q2.per, q2.segs, q2.used, q2.top] at ih
    exact ih (by cases o <;> simp_all <;> omega) (by cases o <;> simp_all <;> omega) (by have := r4.few; omega)
theorem LSt.appendOk {d : D} {l : Lg} {sure : Nat} {all : List (List UInt8)} (h : LSt d l sure all) (s : List (List UInt8)) (deep : Bool) (hp : d.pend.length + 65 * s.length + 65 ≤ 1000000) : AppendOk l d s deep := by
  intro h1 h2 h3 h4
  obtain ⟨hpo, hpm⟩ := plan_is l s
  rw [hpo]
  rw [hpm] at h3 h4
  have hb' : ∀ b ∈ s, need b.length + 2 ≤ l.per := fun b hm => by
    have h5 : ¬ ((l.per : Int) - 2 < need b.length) := fun e => by
      have : anyBig l.per s = true := List.any_eq_true.2 ⟨b, hm, by simpa using e⟩
      rw [this] at h2; cases h2
    omega
  have hfr : l.free = (l.segs : Int) - used l.chain := by unfold Lg.free used; rw [h1]; rfl
  have hu := used_le h.chOk.1
  have hf := of_decide_eq_false h4
  refine goOk_of s d l sure all h hb' ?_ (by omega) hp
  rw [hfr] at hf
  generalize manyR (opensR l.per l.use.c l.opn s) = n at *
  by_cases hn : 0 < n
  · rw [not_and] at hf
    have := hf hn
    rw [not_or] at this
    omega
  · omega
theorem LSt.shutOk {d : D} {l : Lg} {sure : Nat} {all : List (List UInt8)} (h : LSt d l sure all) : l.loose = true → 1 ≤ l.use.e ∧ l.use.c < l.per ∧ l.last < l.segs := by
  intro hlo
  cases h with
  | new h hs ha => rw [h.is] at hlo; simp [Lg.new] at hlo
  | old S s m0 h hw hm hs hn ha hh hne =>
    have ok := h.inv.cr.ok
    have ht := h.tight (by rw [← h.loose]; exact hlo)
    refine ⟨by rw [h.u]; exact ok.epos.1, ?_, by rw [h.last, h.segs]; exact ok.nlt⟩
    rw [h.u, h.per]
    show ((1 + iLen (S.B S.n) : Nat) : Int) < _
    omega
end Go.Proofs.YtlgefjcfnnjkbaaDoor
/- A disk is opened: blank, or with what stands there. Plain; no program is named; no conditions. -/
namespace Go.Proofs.YtlgefjcfnnjkbaaDoor
set_option maxRecDepth 100000

theorem noughts_none' : readF noughts = none := by
  have : (Fr.of noughts).right = false := by decide +kernel
  unfold readF
  rw [if_neg (by rw [this]; simp)]
theorem frOf_noughts (a : Nat) : frOf noughts a = zeroFr := by unfold frOf; rw [noughts_none']
theorem look_blank {g : Nat → Nat → Fr} {per segs : Nat} (h : ∀ k a, k < segs → a < per → (g k a).e = 0) : look g per segs = .inl Found.no := by
  unfold look
  simp only
  rw [newest_none g per segs h]
  rfl
theorem open_blank {d : D} {per : Nat} (h : ∀ k a, k < d.kept.length / per → a < per → (frAt d per k a).e = 0) : openL d per = .ok d (Lg.new per (d.kept.length / per)) [] := by
  unfold openL
  simp only
  rw [look_blank h]
  rfl
theorem new_zero (n per segs : Nat) (hr : segs * per ≤ n) (k a : Nat) (hk : k < segs) (ha : a < per) : frKept (D.new n) per k a = zeroFr := by
  unfold frKept
  have hl := sec_lt ha hk hr
  have : (D.new n).kept.getD (k * per + a) [] = noughts := by
    simp only [D.new, List.getD_eq_getElem?_getD, List.getElem?_replicate, if_pos hl]
    rfl
  rw [this, frOf_noughts]
theorem new_at (n per segs : Nat) (hr : segs * per ≤ n) (k a : Nat) (hk : k < segs) (ha : a < per) : (frAt (D.new n) per k a).e = 0 := by
  have hl := sec_lt ha hk hr
  unfold frAt
  rw [D.new_there n _ hl, frOf_noughts]
  rfl
theorem lnew_new (n per : Nat) (h4 : 4 ≤ per) (h64 : per ≤ 64) (hs : n / per ≤ 12) (hn : n ≤ 768) : LNew (D.new n) (Lg.new per (n / per)) :=
  ⟨rfl, h4, h64, hs, D.new_ok n hn, by
    have : (D.new n).kept.length = n := by simp [D.new]
    rw [this]; exact Nat.div_mul_le_self n per, rfl, fun k a hk ha => by
    show (frKept (D.new n) per k a).e = 0
    rw [new_zero n per (n / per) (Nat.div_mul_le_self n per) k a hk ha]; rfl⟩
theorem open_new (n per : Nat) : openL (D.new n) per = .ok (D.new n) (Lg.new per (n / per)) [] := by
  have hl : (D.new n).kept.length = n := by simp [D.new]
  have := open_blank (d := D.new n) (per := per) (fun k a hk ha => new_at n per _ (by rw [hl]; exact Nat.div_mul_le_self n per) k a hk ha)
  rw [hl] at this
  exact this

/-! ### Noughts behind what counts -/
structure Nt (d d' : D) (sec n : Nat) : Prop where
  cut : d'.cut = false
  kept : d'.kept = d.kept
  ok : d.Ok → sec + n ≤ d.kept.length → d'.Ok
  few : d'.pend.length = d.pend.length + n
  there : ∀ j, d'.there j = if sec ≤ j ∧ j < sec + n then noughts else d.there j
theorem wrNought_is (sec : Nat) (d : D) (hc : d.cut = false) : ∀ n, ∃ d', wrNought sec d n = (d', true) ∧ Nt d d' sec n
  | 0 => ⟨d, rfl, hc, rfl, fun h _ => h, rfl, fun j => by rw [if_neg (by omega)]⟩
  | n + 1 => by
    obtain ⟨d1, h1, h2⟩ := wrNought_is sec d hc n
    refine ⟨d1.write (sec + n) noughts, ?_, ?_, ?_, ?_, ?_, fun j => ?_⟩
    · rw [wrNought, h1]
      simp only
      rw [if_pos (power_of h2.cut)]
    · simp only [D.write, D.spent_cut]; exact h2.cut
    · rw [D.write_kept, h2.kept]
    · intro h3 h4
      exact (h2.ok h3 (by omega)).write (by rw [h2.kept]; omega) (by simp [noughts])
    · rw [D.write_pend, List.length_append, h2.few]; simp; omega
    · rw [D.there_write, h2.there j]
      by_cases e : sec + n = j
      · rw [if_pos e, if_pos (by omega)]
      · rw [if_neg e]
        by_cases e2 : sec ≤ j ∧ j < sec + n
        · rw [if_pos e2, if_pos (by omega)]
        · rw [if_neg e2, if_neg (by omega)]

/-! ### What stands is opened -/
def closeB (l : List It) : List It := l ++ (if looseI l then [none] else [])
def Sh.close (S : Sh) (m : Nat) : Sh := { S with B := fun k => if k = S.n then closeB ((S.B S.n).take m) else S.B k }
theorem Sh.close_B (S : Sh) (m : Nat) : (S.close m).B (S.close m).n = closeB ((S.B S.n).take m) := by simp [Sh.close]
theorem closeB_loose (l : List It) : looseI (closeB l) = false := by
  unfold closeB
  split
  · exact looseI_none l
  · rename_i h; simpa using h
theorem closeB_some (l : List It) : (closeB l).filterMap id = l.filterMap id := by
  unfold closeB
  split <;> simp
theorem oldP_close {S : Sh} (ok : S.Ok) (m : Nat) : oldP (S.close m) = oldP S := by
  unfold oldP
  congr 1
  refine List.map_congr_left fun k hk => ?_
  have hne : k ≠ S.n := fun e => by
    have := ((mem_orderL S.c k).1 hk).2
    rw [e, ok.own] at this; exact this rfl
  show (((if k = S.n then _ else S.B k).filterMap id).map _) = _
  rw [if_neg hne]; rfl
theorem allP_close {S : Sh} (ok : S.Ok) (m : Nat) : allP (S.close m) = oldP S ++ (((S.B S.n).take m).filterMap id).map fun s => (S.e, s) := by
  unfold allP newP
  rw [oldP_close ok, Sh.close_B, closeB_some]
  rfl
theorem closeB_fits {S : Sh} (ok : S.Ok) {m : Nat} (h : m < (S.B S.n).length → iLen ((S.B S.n).take m) < iLen ((S.B S.n).take (m + 1))) (hm : m ≤ (S.B S.n).length) (tight : looseI (S.B S.n) = true → 2 + iLen (S.B S.n) ≤ S.per) :
    1 + iLen (closeB ((S.B S.n).take m)) ≤ S.per ∧ (looseI ((S.B S.n).take m) = true → 2 + iLen ((S.B S.n).take m) ≤ S.per) := by
  have hf := ok.fits
  have key : looseI ((S.B S.n).take m) = true → 2 + iLen ((S.B S.n).take m) ≤ S.per := fun hl => by
    by_cases e : m < (S.B S.n).length
    · have := h e
      have := iLen_take_le (S.B S.n) (m + 1)
      omega
    · have e2 : (S.B S.n).take m = S.B S.n := List.take_of_length_le (by omega)
      rw [e2] at hl ⊢; exact tight hl
  refine ⟨?_, key⟩
  unfold closeB
  by_cases hl : looseI ((S.B S.n).take m) = true
  · rw [if_pos hl, iLen_append]
    have := key hl
    have e1 : iLen [(none : It)] = 1 := rfl
    omega
  · rw [if_neg hl, List.append_nil]
    have := iLen_take_le (S.B S.n) m
    omega
theorem Sh.Ok.close {S : Sh} (ok : S.Ok) {m : Nat} (hf : 1 + iLen (closeB ((S.B S.n).take m)) ≤ S.per) : (S.close m).Ok :=
  ⟨ok.per4, ok.per64, ok.segs, ok.ch, ok.nlt, ok.epos, ok.own, fun k hk => by
    have hne : k ≠ S.n := fun e => by
      have h2 : (S.c.getD k Us.no).e ≠ 0 := hk
      rw [e, ok.own] at h2; exact h2 rfl
    show (S.c.getD k Us.no).c = ((1 + iLen (if k = S.n then _ else S.B k) : Nat) : Int)
    rw [if_neg hne]; exact ok.count k hk, by rw [Sh.close_B]; exact hf⟩

/-- the shape, cut behind some items -/
def Sh.cutB (S : Sh) (m : Nat) : Sh := { S with B := fun k => if k = S.n then (S.B S.n).take m else S.B k }
theorem Sh.cutB_B (S : Sh) (m : Nat) : (S.cutB m).B (S.cutB m).n = (S.B S.n).take m := by simp [Sh.cutB]
theorem Sh.Ok.cutB {S : Sh} (ok : S.Ok) (m : Nat) : (S.cutB m).Ok :=
  ⟨ok.per4, ok.per64, ok.segs, ok.ch, ok.nlt, ok.epos, ok.own, fun k hk => by
    have hne : k ≠ S.n := fun e => by
      have h2 : (S.c.getD k Us.no).e ≠ 0 := hk
      rw [e, ok.own] at h2; exact h2 rfl
    show (S.c.getD k Us.no).c = ((1 + iLen (if k = S.n then _ else S.B k) : Nat) : Int)
    rw [if_neg hne]; exact ok.count k hk, by rw [Sh.cutB_B]; have := iLen_take_le (S.B S.n) m; have := ok.fits; show _ ≤ S.per; omega⟩
theorem Sh.Stands.cutB {S : Sh} (ok : S.Ok) {g g' : Nat → Nat → Fr} {p m : Nat} (st : S.Stands g p) (hm : iLen ((S.B S.n).take m) ≤ p) (hn : ∀ a, a < 1 + iLen ((S.B S.n).take m) → g' S.n a = g S.n a)
    (hz : ∀ a, 1 + iLen ((S.B S.n).take m) ≤ a → a < S.per → g' S.n a = zeroFr) (ho : ∀ k a, k < S.segs → a < S.per → k ≠ S.n → g' k a = g k a) : (S.cutB m).Std g' (iLen ((S.B S.n).take m)) := by
  have h4 := ok.per4
  have hone : ∀ k, (S.c.getD k Us.no).e ≠ 0 → (S.cutB m).B k = S.B k := fun k hk => by
    show (if k = S.n then _ else S.B k) = _
    rw [if_neg (ok.count_le hk).2.2.1]
  have hfar : ∀ i, iLen ((S.B S.n).take m) ≤ i → 1 + i < S.per → (g' S.n (1 + i)).e < S.e := fun i hi hi2 => by
    rw [hz _ (by omega) hi2]; have := ok.epos; show (0 : Int) < _; omega
  refine ⟨⟨by rw [Sh.cutB_B]; exact Nat.le_refl _, ?_, fun k hk => ?_, fun k hk i hi => ?_, fun i hi => ?_, fun i hi hi2 => .inl (hfar i hi hi2), fun k a hk ha hne => ?_⟩, hfar⟩
  · show g' S.n 0 = _
    rw [hn 0 (by omega)]; exact st.link
  · have hk' : (S.c.getD k Us.no).e ≠ 0 := hk
    have := ok.count_le hk'
    rw [ho k 0 this.1 (by omega) this.2.2.1]; exact st.old0 k hk'
  · have hk' : (S.c.getD k Us.no).e ≠ 0 := hk
    have hc := ok.count_le hk'
    rw [hone k hk'] at hi ⊢
    rw [ho k _ hc.1 (by omega) hc.2.2.1]; exact st.old k hk' i hi
  · show g' S.n (1 + i) = (items S.e 1 ((S.cutB m).B (S.cutB m).n)).getD i zeroFr
    rw [Sh.cutB_B, hn _ (by omega), st.new i (by omega)]
    have e1 : S.B S.n = (S.B S.n).take m ++ (S.B S.n).drop m := (List.take_append_drop m _).symm
    have e2 : items S.e 1 (S.B S.n) = items S.e 1 ((S.B S.n).take m) ++ items S.e (1 + iLen ((S.B S.n).take m)) ((S.B S.n).drop m) := by
      conv => lhs; rw [e1]
      rw [items_append]
    rw [e2, List.getD_eq_getElem?_getD, List.getD_eq_getElem?_getD, List.getElem?_append_left (by rw [items_length]; exact hi)]
  · have hk' : k < S.segs := hk
    rw [ho k a hk' ha hne]; exact st.rest k a hk' ha hne

/-- what an opening makes of a shape that stands -/
structure OpenedAt (S : Sh) (d : D) (m : Nat) (d' : D) (l' : Lg) (S' : Sh) : Prop where
  inv : LInv S' (iLen (S'.B S'.n)) d' l'
  whole : l'.chain = wholeC S'
  pend : d'.pend = []
  cut : d'.cut = false
  len : d'.kept.length = d.kept.length
  B : S'.B S'.n = closeB ((S.B S.n).take m)
  per : S'.per = S.per
  segs : S'.segs = S.segs
  n : S'.n = S.n
  e : S'.e = S.e
  c : S'.c = S.c
  Bo : ∀ k, k ≠ S.n → S'.B k = S.B k
  other : ∀ k a, k < S.segs → a < S.per → k ≠ S.n → frKept d' S.per k a = frAt d S.per k a
  zero : ∀ a, 1 + iLen (S'.B S'.n) ≤ a → a < S.per → frKept d' S.per S.n a = zeroFr
  opn : l'.opn = false
theorem sec_out {per a k n c : Nat} (ha : a < per) (hc : c ≤ per) : (n * per + c ≤ k * per + a ∧ k * per + a < n * per + c + (per - c)) ↔ (k = n ∧ c ≤ a) := by
  constructor
  · rintro ⟨h1, h2⟩
    by_cases e : k = n
    · subst e; exact ⟨rfl, by omega⟩
    · exfalso
      rcases Nat.lt_or_gt_of_ne e with h | h
      · have := Nat.mul_le_mul_right per (show k + 1 ≤ n from h)
        rw [Nat.add_mul] at this; omega
      · have := Nat.mul_le_mul_right per (show n + 1 ≤ k from h)
        rw [Nat.add_mul] at this; omega
  · rintro ⟨rfl, h⟩; omega
theorem open_stands {S : Sh} (ok : S.Ok) {d : D} (dok : d.Ok) (room : S.segs * S.per ≤ d.kept.length) (hseg : d.kept.length / S.per = S.segs) (hcut : d.cut = false) {p : Nat} (st : S.Stands (frAt d S.per) p) (tight : looseI (S.B S.n) = true → 2 + iLen (S.B S.n) ≤ S.per) :
    ∃ m d' l' S', m ≤ (S.B S.n).length ∧ iLen ((S.B S.n).take m) ≤ p ∧ (m < (S.B S.n).length → p < iLen ((S.B S.n).take (m + 1))) ∧
      openL d S.per = .ok d' l' (oldP S ++ (((S.B S.n).take m).filterMap id).map fun s => (S.e, s)) ∧ OpenedAt S d m d' l' S' := by
  obtain ⟨m, m1, m2, m3, hlook⟩ := st.look_is ok
  have hn12 : S.n < S.c.length := by rw [ok.ch.len]; have := ok.nlt; have := ok.segs; omega
  have hfit := closeB_fits ok (m := m) (fun h => by have := m3 h; omega) m1 tight
  obtain ⟨hf1, hf2⟩ := hfit
  have hcl : 1 + iLen ((S.B S.n).take m) ≤ S.per := by have := iLen_take_le (S.B S.n) m; have := ok.fits; omega
  obtain ⟨c, hc⟩ : ∃ c, c = 1 + iLen ((S.B S.n).take m) := ⟨_, rfl⟩
  obtain ⟨l0, hl0⟩ : ∃ l0 : Lg, l0 = { Lg.new S.per S.segs with chain := S.c.set S.n ⟨S.e, (c : Int)⟩, last := S.n, top := S.e } := ⟨_, rfl⟩
  have hue : l0.use = ⟨S.e, (c : Int)⟩ := by subst hl0; unfold Lg.use; exact getD_set_eq hn12
  obtain ⟨d1, hd1, nt⟩ := wrNought_is (S.n * S.per + c) d hcut (S.per - c)
  have hsec : S.n * S.per + c + (S.per - c) ≤ d.kept.length := by
    have h1 := Nat.mul_le_mul_right S.per (show S.n + 1 ≤ S.segs from ok.nlt)
    rw [Nat.add_mul] at h1; omega
  have ok1 := nt.ok dok hsec
  have room1 : S.segs * S.per ≤ d1.kept.length := by rw [nt.kept]; exact room
  have hfr : ∀ k a, k < S.segs → a < S.per → frKept d1.sync S.per k a = if k = S.n ∧ c ≤ a then zeroFr else frAt d S.per k a := fun k a hk ha => by
    rw [frKept_sync room1 hk ha]
    unfold frAt
    rw [nt.there]
    by_cases h : k = S.n ∧ c ≤ a
    · rw [if_pos ((sec_out ha (by omega)).2 h), if_pos h]; exact frOf_noughts a
    · rw [if_neg (fun e => h ((sec_out ha (by omega)).1 e)), if_neg h]
  have hstd : (S.cutB m).Std (frKept d1.sync S.per) (iLen ((S.B S.n).take m)) := st.cutB ok m2 (fun a ha => by
      rw [hfr _ _ ok.nlt (by omega), if_neg (by omega)]) (fun a ha hap => by rw [hfr _ _ ok.nlt hap, if_pos ⟨rfl, by omega⟩]) (fun k a hk ha hne => by rw [hfr k a hk ha, if_neg (fun e => hne e.1)])
  have hBl : iLen ((S.cutB m).B (S.cutB m).n) = iLen ((S.B S.n).take m) := by rw [Sh.cutB_B]
  have hinv : Inv (S.cutB m) (iLen ((S.cutB m).B (S.cutB m).n)) d1.sync := inv_of (ok.cutB m) ok1.sync (by rw [D.sync_len]; exact room1) (sync_pend d1) (by rw [hBl]; exact hstd)
  have hwh : S.c.set S.n ⟨S.e, (c : Int)⟩ = wholeC (S.cutB m) := by unfold wholeC; rw [Sh.cutB_B, hc]; rfl
  have hLA : LInv (S.cutB m) (iLen ((S.cutB m).B (S.cutB m).n)) d1.sync { l0 with loose := looseI ((S.B S.n).take m) } := by
    subst hl0
    refine ⟨hinv, rfl, rfl, rfl, rfl, by simp only [List.length_set]; exact ok.ch.len, ?_, fun k => .inr ?_, rfl, by rw [Sh.cutB_B], fun h => ?_⟩
    · show (S.c.set S.n ⟨S.e, (c : Int)⟩).getD S.n Us.no = _
      rw [getD_set_eq hn12, Sh.cutB_B, hc]; rfl
    · show (S.c.set S.n ⟨S.e, (c : Int)⟩).getD k Us.no = _
      rw [hwh]
    · rw [Sh.cutB_B] at h ⊢; exact hf2 h
  have hclean : openL d S.per = (match l0.clean d (looseI ((S.B S.n).take m)) with
      | (d1, l1, e) => if e = 0 then .ok d1 l1 (oldP S ++ (((S.B S.n).take m).filterMap id).map fun s => (S.e, s)) else .err d1 e) := by
    unfold openL
    simp only
    rw [hseg, hlook]
    simp only
    rw [if_neg (by have := ok.epos; omega), hl0, hc]
  have hcl2 : l0.clean d (looseI ((S.B S.n).take m)) = (if looseI ((S.B S.n).take m) = false ∨ (S.per : Int) ≤ (c : Int) then (d1.sync, l0, (0 : Int)) else match l0.sealD d1.sync with
      | (d2, true) => (d2, l0.sealed, 0)
      | (d2, false) => (d2, l0, 22)) := by
    unfold Lg.clean
    rw [hue]
    have e1 : l0.last = S.n := by rw [hl0]
    have e2 : l0.per = S.per := by rw [hl0]; rfl
    rw [e1, e2, Int.toNat_natCast, hd1]
    unfold thenP syncP
    simp only [if_true]
    rw [if_pos (power_of nt.cut)]
    rfl
  rw [hcl2] at hclean
  by_cases hlo : looseI ((S.B S.n).take m) = true
  · rw [if_neg (by
      rw [not_or]
      have := hf2 hlo
      exact ⟨by rw [hlo]; decide, by omega⟩)] at hclean
    have okc := ok.cutB m
    have e1 : iLen [(none : It)] = 1 := rfl
    have hi := hLA.item (l' := l0.sealed) none (fun _ => rfl) (by rw [hBl, e1]; have := hf2 hlo; show _ ≤ S.per; omega) (fun e => absurd rfl e) (by rw [e1]; rfl)
    have hit : items (S.cutB m).e (1 + iLen ((S.cutB m).B (S.cutB m).n)) [none] = [sealFrOf l0.use] := by
      rw [hue, hBl, hc]; simp [items, sealFrOf, sealAt]; rfl
    rw [hit] at hi
    have e3 : ({ l0 with loose := looseI ((S.B S.n).take m) } : Lg).per = l0.per := rfl
    have e4 : ({ l0 with loose := looseI ((S.B S.n).take m) } : Lg).last = l0.last := rfl
    rw [e3, e4] at hi
    have hfa := wrAll_facts l0.per l0.last [sealFrOf l0.use] d1.sync
    have hkt := wrAll_keptT l0.per l0.last d1.sync [sealFrOf l0.use]
    have hsd : l0.sealD d1.sync = thenP (wrAll l0.per l0.last d1.sync [sealFrOf l0.use]) syncP := rfl
    have hc1 : d1.sync.cut = false := by rw [sync_cut]; exact nt.cut
    rw [hsd] at hclean
    generalize wrAll l0.per l0.last d1.sync [sealFrOf l0.use] = r at hi hfa hkt hclean
    obtain ⟨d3, ok3⟩ := r
    simp only at hi hfa hkt hclean
    obtain rfl : ok3 = true := hfa.2.2.2 hc1
    have hc3 : d3.cut = false := by rw [hfa.2.1]; exact hc1
    unfold thenP syncP at hclean
    simp only [if_true] at hclean
    rw [if_pos (power_of hc3)] at hclean
    simp only [if_true] at hclean
    have hv := hi.2.2 rfl
    have hv2 := hv.synced
    have ep : l0.per = S.per := by rw [hl0]; rfl
    rw [ep] at hkt
    have hwh2 := hLA.whole_item (by rw [← hwh]; subst hl0; rfl) none
    rw [e1] at hwh2
    have hBc : ((S.cutB m).push none).B ((S.cutB m).push none).n = closeB ((S.B S.n).take m) := by
      rw [Sh.push_B, Sh.cutB_B]; unfold closeB; rw [if_pos hlo]
    have hroom3 : S.segs * S.per ≤ d3.kept.length := by rw [hfa.1, D.sync_len]; exact room1
    refine ⟨m, d3.sync, l0.sealed, (S.cutB m).push none, m1, m2, m3, hclean, hv2, hwh2, sync_pend d3, by rw [sync_cut]; exact hc3, by rw [D.sync_len, hfa.1, D.sync_len, nt.kept], hBc, rfl, rfl, rfl, rfl, rfl, fun k hk => ?_, fun k a hk ha hne => ?_, fun a ha hap => ?_, by subst hl0; rfl⟩
    · rw [Sh.push_Bo (S.cutB m) none hk]
      show (if k = S.n then _ else S.B k) = _
      rw [if_neg hk]
    · have h1 := hv.inv.cr.same (mix_there d3) (k := k) (a := a) ha (.inl hne)
      rw [frKept_sync hroom3 hk ha, frAt_eq]
      refine Eq.trans h1 ?_
      show frKept d3 S.per k a = _
      rw [hkt, hfr k a hk ha, if_neg (fun e => hne e.1)]
    · have h1 := hv.inv.cr.same (mix_there d3) (k := S.n) (a := a) hap (.inr (.inr ha))
      rw [frKept_sync hroom3 ok.nlt hap, frAt_eq]
      refine Eq.trans h1 ?_
      show frKept d3 S.per S.n a = _
      rw [hBc] at ha
      have : iLen ((S.B S.n).take m) ≤ iLen (closeB ((S.B S.n).take m)) := by unfold closeB; rw [iLen_append]; omega
      rw [hkt, hfr _ a ok.nlt hap, if_pos ⟨rfl, by omega⟩]
  · have hlo' : looseI ((S.B S.n).take m) = false := by simpa using hlo
    rw [if_pos (.inl hlo')] at hclean
    simp only [if_true] at hclean
    have hBc : (S.cutB m).B (S.cutB m).n = closeB ((S.B S.n).take m) := by
      rw [Sh.cutB_B]; unfold closeB; rw [if_neg hlo, List.append_nil]
    have hl1 : ({ l0 with loose := looseI ((S.B S.n).take m) } : Lg) = l0 := by rw [hlo']; subst hl0; rfl
    rw [hl1] at hLA
    refine ⟨m, d1.sync, l0, S.cutB m, m1, m2, m3, hclean, hLA, by rw [← hwh]; subst hl0; rfl, sync_pend d1, by rw [sync_cut]; exact nt.cut, by rw [D.sync_len, nt.kept], hBc, rfl, rfl, rfl, rfl, rfl, fun k hk => ?_, fun k a hk ha hne => ?_, fun a ha hap => ?_, by subst hl0; rfl⟩
    · show (if k = S.n then _ else S.B k) = _
      rw [if_neg hk]
    · rw [hfr k a hk ha, if_neg (fun e => hne e.1)]
    · rw [hBl] at ha
      rw [hfr _ a ok.nlt hap, if_pos ⟨rfl, by omega⟩]
end Go.Proofs.YtlgefjcfnnjkbaaDoor
/- Texts of sectors: noughts, or frames that are laid; one of them that is turned says nothing. Plain; no program is named; no conditions. -/
namespace Go.Proofs.YtlgefjcfnnjkbaaDoor
set_option maxRecDepth 100000

def GoodT (t : List UInt8) : Prop := t = noughts ∨ ∃ f : Fr, t = f.lay
theorem readF_turnedG {f : Fr} (hll : f.lay.length = 64) (k : Nat) (hk : k < 64) (b : UInt8) (hb : b ≠ f.lay[k]'(by omega)) : readF (f.lay.set k b) = none := by
  cases hr : readF (f.lay.set k b) with
  | none => rfl
  | some g =>
    exfalso
    obtain ⟨_, hg, he⟩ := readF_some hr
    have hfl : f.body.length = 60 := by simp only [Fr.lay, List.length_append, be_length] at hll; omega
    have hgl := Fr.body_length hg
    have e1 : (f.lay.set k b).take 60 = g.body := by rw [← he, Fr.lay]; exact List.take_left' hgl
    have e2 : (f.lay.set k b).drop 60 = be 4 (sum g.body) := by rw [← he, Fr.lay]; exact List.drop_left' hgl
    have f1 : f.lay.take 60 = f.body := by rw [Fr.lay]; exact List.take_left' hfl
    have f2 : f.lay.drop 60 = be 4 (sum f.body) := by rw [Fr.lay]; exact List.drop_left' hfl
    by_cases h60 : k < 60
    · have d : (f.lay.set k b).drop 60 = f.lay.drop 60 := by rw [List.drop_set_of_lt h60]
      rw [e2, f2] at d
      have es : sum g.body = sum f.body := be_inj (m := 4) (by have := sum_lt g.body; omega) (by have := sum_lt f.body; omega) d
      have eg : g.body = f.body.set k b := by rw [← e1, List.take_set, f1]
      rw [eg] at es
      have := sum_set f.body k (by omega) b es
      apply hb
      rw [this]
      simp only [Fr.lay]
      rw [List.getElem_append_left (by omega)]
    · have d : (f.lay.set k b).take 60 = f.lay.take 60 := by rw [List.take_set_of_le (by omega)]
      rw [e1, f1] at d
      have e3 : f.lay.set k b = f.lay := by rw [← he]; simp only [Fr.lay, d]
      apply hb
      have : (f.lay.set k b)[k]'(by simpa using (by omega : k < f.lay.length)) = b := List.getElem_set_self _
      rw [← this]
      simp only [e3]
theorem noughts_turned (k : Nat) (b : UInt8) : readF (noughts.set k b) = none := by
  unfold readF
  refine if_neg fun h => ?_
  have hr := (Fr.right_iff _).1 h.2.2.1
  by_cases hk : k < 3
  · have e : (noughts.set k b).getD 4 0 = 0 := by
      rw [List.getD_eq_getElem?_getD, List.getElem?_set_ne (by omega)]; rfl
    have h5 : (1 : Int) ≤ (((noughts.set k b).getD 4 0).toNat : Int) := hr.2.2.2.2.1
    rw [e] at h5
    exact absurd h5 (by decide)
  · have e : (noughts.set k b).take 3 = [0, 0, 0] := by rw [List.take_set_of_le (by omega)]; rfl
    have h1 : (1 : Int) ≤ ((unbe ((noughts.set k b).take 3) : Nat) : Int) := hr.1
    rw [e] at h1
    exact absurd h1 (by decide)
def turnT (t : List UInt8) (p m : Nat) : List UInt8 := t.set p (t.getD p 0 ^^^ UInt8.ofNat m)
theorem turn_zero (t : List UInt8) (p : Nat) : turnT t p 0 = t := by
  unfold turnT
  have e : t.getD p 0 ^^^ UInt8.ofNat 0 = t.getD p 0 := by
    show t.getD p 0 ^^^ 0 = _
    exact UInt8.xor_zero
  rw [e]
  apply List.ext_getElem?
  intro i
  by_cases h : p = i
  · subst h
    by_cases hl : p < t.length
    · rw [List.getElem?_set_self hl, List.getD_eq_getElem?_getD, List.getElem?_eq_getElem hl]; rfl
    · rw [List.getElem?_eq_none (by rw [List.length_set]; omega), List.getElem?_eq_none (by omega)]
  · rw [List.getElem?_set_ne h]
theorem good_turned {t : List UInt8} (h : GoodT t) (hl : t.length = 64) (p m : Nat) (hp : p < 64) (h1 : 1 ≤ m) (h2 : m ≤ 255) : readF (turnT t p m) = none := by
  unfold turnT
  rcases h with rfl | ⟨f, rfl⟩
  · exact noughts_turned p _
  · refine readF_turnedG hl p hp _ fun e => ?_
    have e2 : f.lay.getD p 0 = f.lay[p] := by rw [List.getD_eq_getElem?_getD, List.getElem?_eq_getElem (by omega)]; rfl
    rw [e2] at e
    exact xor_other _ m h1 h2 e
theorem good_noughts : GoodT noughts := .inl rfl
theorem good_lay (f : Fr) : GoodT f.lay := .inr ⟨f, rfl⟩

/-- what a log has written -/
structure Sect (d : D) : Prop where
  kept : ∀ x ∈ d.kept, GoodT x
  pend : ∀ x ∈ d.pend, GoodT x.2
theorem Sect.new (n : Nat) : Sect (D.new n) := ⟨fun x hx => by rw [List.eq_of_mem_replicate hx]; exact good_noughts, fun x hx => by cases hx⟩
theorem Sect.write {d : D} (h : Sect d) (k : Nat) {s : List UInt8} (hs : GoodT s) : Sect (d.write k s) := ⟨by rw [D.write_kept]; exact h.kept, fun x hx => by
  rw [D.write_pend] at hx
  rcases List.mem_append.1 hx with hx | hx
  · exact h.pend x hx
  · rw [List.mem_singleton] at hx; subst hx; exact hs⟩
theorem Sect.lay {d : D} (h : Sect d) (ks : List Nat) (hk : ∀ k ∈ ks, k < d.pend.length) : ∀ x ∈ d.layAll ks, GoodT x := by
  unfold D.layAll
  have key : ∀ (ks : List Nat) (kept : List (List UInt8)), (∀ k ∈ ks, k < d.pend.length) → (∀ x ∈ kept, GoodT x) → ∀ x ∈ ks.foldl (fun kept k => layK kept (d.pend.getD k (0, []))) kept, GoodT x := by
    intro ks
    induction ks with
    | nil => intro kept _ h x hx; exact h x hx
    | cons k ks ih =>
      intro kept hk hl
      refine ih _ (fun j hj => hk j (List.mem_cons_of_mem _ hj)) ?_
      intro x hx
      have hkl := hk k (List.mem_cons_self)
      rcases List.mem_or_eq_of_mem_set hx with hx | hx
      · exact hl x hx
      · rw [hx]
        have : d.pend.getD k (0, []) = d.pend[k] := by simp [hkl]
        rw [this]
        exact h.pend _ (List.getElem_mem hkl)
  exact key ks d.kept hk h.kept
theorem Sect.sync {d : D} (h : Sect d) : Sect d.sync := ⟨h.lay _ (fun k hk => List.mem_range.1 hk), fun x hx => by simp [D.sync] at hx⟩
theorem Sect.crash {d : D} (h : Sect d) {ks : List Nat} (hk : ∀ k ∈ ks, k < d.pend.length) : Sect (d.crash ks) := ⟨h.lay _ hk, fun x hx => by simp [D.crash] at hx⟩
theorem Sect.wrAll (per seg : Nat) : ∀ (fs : List Fr) {d : D}, Sect d → Sect (wrAll per seg d fs).1
  | [], _, h => h
  | f :: fs, d, h => by
    unfold Go.Proofs.YtlgefjcfnnjkbaaDoor.wrAll
    split
    · exact Sect.wrAll per seg fs (h.write _ (good_lay f))
    · exact h
theorem Sect.nought (sec : Nat) {d : D} (h : Sect d) : ∀ n, Sect (wrNought sec d n).1
  | 0 => h
  | n + 1 => by
    have ih := Sect.nought sec h n
    unfold wrNought
    generalize wrNought sec d n = r at ih ⊢
    obtain ⟨d', _ | _⟩ := r
    · exact ih
    · simp only
      split
      · exact ih.write _ good_noughts
      · exact ih
theorem Sect.syncP {d : D} (h : Sect d) : Sect (syncP d).1 := by
  unfold Go.Proofs.YtlgefjcfnnjkbaaDoor.syncP
  split
  · exact h.sync
  · exact h
theorem Sect.thenP {r : D × Bool} {f : D → D × Bool} (h : Sect r.1) (hf : ∀ d, Sect d → Sect (f d).1) : Sect (thenP r f).1 := by
  unfold Go.Proofs.YtlgefjcfnnjkbaaDoor.thenP
  split
  · exact hf _ h
  · exact h
theorem Sect.sealD {d : D} (h : Sect d) (l : Lg) : Sect (l.sealD d).1 := Sect.thenP (Sect.wrAll _ _ _ h) fun _ h => h.syncP
theorem Sect.begin_ {d : D} (h : Sect d) (l : Lg) : Sect (l.begin_ d).1 := by
  have h1 := h.syncP
  unfold Lg.begin_
  generalize Go.Proofs.YtlgefjcfnnjkbaaDoor.syncP d = r at h1 ⊢
  obtain ⟨d1, _ | _⟩ := r
  · exact h1
  · simp only
    cases firstFree l.chain l.segs with
    | none => exact h1
    | some seg =>
      simp only
      have h2 : Sect (Go.Proofs.YtlgefjcfnnjkbaaDoor.thenP (Go.Proofs.YtlgefjcfnnjkbaaDoor.wrAll l.per seg d1 [linkFr l]) Go.Proofs.YtlgefjcfnnjkbaaDoor.syncP).1 := Sect.thenP (Sect.wrAll _ _ _ h1) fun _ h => h.syncP
      generalize Go.Proofs.YtlgefjcfnnjkbaaDoor.thenP (Go.Proofs.YtlgefjcfnnjkbaaDoor.wrAll l.per seg d1 [linkFr l]) Go.Proofs.YtlgefjcfnnjkbaaDoor.syncP = q at h2 ⊢
      obtain ⟨d2, _ | _⟩ := q <;> exact h2
theorem Sect.add {d : D} (h : Sect d) (l : Lg) (s : List UInt8) : Sect (l.add d s).1 := by
  have h2 := Sect.wrAll l.per l.last (cutF l.use.e l.use.c s) h
  unfold Lg.add
  generalize Go.Proofs.YtlgefjcfnnjkbaaDoor.wrAll l.per l.last d (cutF l.use.e l.use.c s) = q at h2 ⊢
  obtain ⟨d2, _ | _⟩ := q <;> exact h2
theorem Sect.one {d : D} (h : Sect d) (l : Lg) (b : List UInt8) (o : Bool) : Sect (l.one d b o).1 := by
  unfold Lg.one
  cases o with
  | false => exact h.add l b
  | true =>
    have h1 := h.begin_ l
    simp only [if_true]
    generalize l.begin_ d = r at h1 ⊢
    obtain ⟨d1, l1, e⟩ := r
    simp only
    split
    · exact Sect.add h1 l1 b
    · exact h1
theorem Sect.go : ∀ (r : List (List UInt8 × Bool)) {d : D} (l : Lg) (es : List Int), Sect d → Sect (Lg.go l d r es).1
  | [], _, _, _, h => h
  | (b, o) :: r, d, l, es, h => by
    have h1 := h.one l b o
    unfold Lg.go
    generalize l.one d b o = q at h1 ⊢
    obtain ⟨d1, l1, e⟩ := q
    simp only
    split
    · exact Sect.go r l1 _ h1
    · exact h1
theorem Sect.append {d : D} (h : Sect d) (l : Lg) (s : List (List UInt8)) (deep : Bool) : Sect (l.append d s deep).1 := by
  unfold Lg.append
  simp only
  repeat' split
  all_goals first | exact h | exact Sect.go _ _ _ h
theorem Sect.shut {d : D} (h : Sect d) (l : Lg) : Sect (l.shut d).1 := by
  unfold Lg.shut
  split
  · exact h
  · have h1 := h.syncP
    generalize Go.Proofs.YtlgefjcfnnjkbaaDoor.syncP d = r at h1 ⊢
    obtain ⟨d1, _ | _⟩ := r
    · exact h1
    · simp only
      split
      · exact h1
      · have h2 := Sect.sealD h1 l
        generalize l.sealD d1 = q at h2 ⊢
        obtain ⟨d2, _ | _⟩ := q <;> exact h2
theorem Sect.clean {d : D} (h : Sect d) (l : Lg) (b : Bool) : Sect (l.clean d b).1 := by
  have h1 : Sect (Go.Proofs.YtlgefjcfnnjkbaaDoor.thenP (wrNought (l.last * l.per + l.use.c.toNat) d (l.per - l.use.c.toNat)) Go.Proofs.YtlgefjcfnnjkbaaDoor.syncP).1 := Sect.thenP (h.nought _ _) fun _ h => h.syncP
  unfold Lg.clean
  generalize Go.Proofs.YtlgefjcfnnjkbaaDoor.thenP (wrNought (l.last * l.per + l.use.c.toNat) d (l.per - l.use.c.toNat)) Go.Proofs.YtlgefjcfnnjkbaaDoor.syncP = r at h1 ⊢
  obtain ⟨d1, _ | _⟩ := r
  · exact h1
  · simp only
    split
    · exact h1
    · have h2 := Sect.sealD h1 l
      generalize l.sealD d1 = q at h2 ⊢
      obtain ⟨d2, _ | _⟩ := q <;> exact h2
theorem Sect.openL {d d' : D} {per : Nat} {l : Lg} {p : List (Int × List UInt8)} (h : Sect d) (ho : openL d per = .ok d' l p) : Sect d' := by
  unfold Go.Proofs.YtlgefjcfnnjkbaaDoor.openL at ho
  simp only at ho
  cases hl : look (frAt d per) per (d.kept.length / per) with
  | inr x => rw [hl] at ho; cases ho
  | inl m =>
    rw [hl] at ho
    simp only at ho
    split at ho
    · cases ho; exact h
    · have h2 := h.clean { Lg.new per (d.kept.length / per) with chain := m.chain, last := m.seg, top := m.epoch } m.loose
      generalize Lg.clean { Lg.new per (d.kept.length / per) with chain := m.chain, last := m.seg, top := m.epoch } d m.loose = q at ho h2
      obtain ⟨d1, l1, e⟩ := q
      simp only at ho
      split at ho
      · cases ho; exact h2
      · cases ho
/-- behind a byte that rots: what stood there, or nothing -/
theorem Sect.rot {d : D} (h : Sect d) (dok : d.Ok) (hp : d.pend = []) (per k p m : Nat) (hk : k < d.kept.length) (hpl : p < 64) (hm : m ≤ 255) (seg a : Nat) :
    (seg * per + a ≠ k → frAt (d.rot k p m) per seg a = frAt d per seg a) ∧ (frAt (d.rot k p m) per seg a = frAt d per seg a ∨ frAt (d.rot k p m) per seg a = zeroFr) := by
  have key : seg * per + a ≠ k → frAt (d.rot k p m) per seg a = frAt d per seg a := fun e => by
    unfold frAt; rw [D.there_rot d hp k p m _ hk, if_neg (fun e2 => e e2.symm)]
  refine ⟨key, ?_⟩
  by_cases e : seg * per + a = k
  · by_cases h0 : m = 0
    · left
      unfold frAt
      rw [D.there_rot d hp k p m _ hk, if_pos e.symm, e, h0]
      have := turn_zero (d.there k) p
      unfold turnT at this
      rw [this]
    · right
      unfold frAt
      rw [D.there_rot d hp k p m _ hk, if_pos e.symm]
      have hg : GoodT (d.there k) := by
        rw [D.there_nopend d k (fun x hx => by rw [hp] at hx; cases hx), List.getD_eq_getElem?_getD, List.getElem?_eq_getElem hk]
        exact h.kept _ (List.getElem_mem hk)
      have := good_turned hg (D.there_len dok hk) p m hpl (by omega) hm
      unfold turnT at this
      unfold frOf
      rw [this]
  · exact .inl (key e)
end Go.Proofs.YtlgefjcfnnjkbaaDoor
