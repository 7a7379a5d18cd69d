/- Parts of the proof, one behind the other: LogE, LogU, LogV. Each part's own words say what it proves; no conditions. -/
import Derived.Test.YtlgefjcfnnjkbaaDoorP15
set_option linter.unusedVariables false
set_option linter.unusedSimpArgs false
set_option linter.unusedSectionVars false
/- A segment is opened: what the disk holds before and behind it. The order of a chain. Plain; no program is named; no conditions. -/
namespace Go.Proofs.YtlgefjcfnnjkbaaDoor
set_option maxRecDepth 100000

/-! ### The order of a chain -/
theorem pairwise_ins (c : List Us) (x : Nat) : ∀ l : List Nat, l.Pairwise (fun a b => (c.getD a Us.no).e < (c.getD b Us.no).e) → (∀ y ∈ l, (c.getD y Us.no).e ≠ (c.getD x Us.no).e) → (ins c x l).Pairwise (fun a b => (c.getD a Us.no).e < (c.getD b Us.no).e)
  | [], _, _ => by simp [ins]
  | y :: l, h, hne => by
    rw [List.pairwise_cons] at h
    unfold ins
    split
    · rename_i hlt
      refine List.pairwise_cons.2 ⟨fun z hz => ?_, List.pairwise_cons.2 h⟩
      rcases List.mem_cons.1 hz with rfl | hz
      · exact hlt
      · have := h.1 z hz; omega
    · rename_i hge
      have h0 := hne y (by simp)
      refine List.pairwise_cons.2 ⟨fun z hz => ?_, pairwise_ins c x l h.2 (fun z hz => hne z (by simp [hz]))⟩
      rcases (mem_ins c x z l).1 hz with rfl | hz
      · omega
      · exact h.1 z hz
def Apart (c : List Us) : Prop := ∀ i j, (c.getD i Us.no).e ≠ 0 → (c.getD i Us.no).e = (c.getD j Us.no).e → i = j
theorem pairwise_all (c : List Us) (hc : Apart c) : ∀ (u l : List Nat), u.Nodup → (∀ x ∈ u, (c.getD x Us.no).e ≠ 0) → (∀ x ∈ u, x ∉ l) → l.Pairwise (fun a b => (c.getD a Us.no).e < (c.getD b Us.no).e) →
    (u.foldl (fun l x => ins c x l) l).Pairwise (fun a b => (c.getD a Us.no).e < (c.getD b Us.no).e)
  | [], l, _, _, _, h => h
  | x :: u, l, hn, he, hd, h => by
    rw [List.nodup_cons] at hn
    rw [List.foldl_cons]
    refine pairwise_all c hc u _ hn.2 (fun y hy => he y (by simp [hy])) (fun y hy hy2 => ?_) (pairwise_ins c x l h (fun y hy e => ?_))
    · rcases (mem_ins c x y l).1 hy2 with rfl | hy2
      · exact hn.1 hy
      · exact hd y (by simp [hy]) hy2
    · have := hc x y (he x (by simp)) e.symm
      subst this
      exact hd x (by simp) hy
theorem order_sorted (c : List Us) (hc : Apart c) : (orderL c).Pairwise (fun a b => (c.getD a Us.no).e < (c.getD b Us.no).e) := by
  unfold orderL
  refine pairwise_all c hc _ _ ?_ (fun x hx => ?_) (fun x _ => by simp) (by simp)
  · exact List.Pairwise.filter _ List.nodup_range
  · have := (List.mem_filter.1 hx).2
    simpa using this
theorem sorted_unique (f : Nat → Int) : ∀ l m : List Nat, l.Pairwise (fun a b => f a < f b) → m.Pairwise (fun a b => f a < f b) → (∀ x, x ∈ l ↔ x ∈ m) → l = m
  | [], [], _, _, _ => rfl
  | [], y :: m, _, _, h => by have := (h y).2 (by simp); cases this
  | x :: l, [], _, _, h => by have := (h x).1 (by simp); cases this
  | x :: l, y :: m, h1, h2, h => by
    rw [List.pairwise_cons] at h1 h2
    have hxy : x = y := by
      rcases List.mem_cons.1 ((h x).1 (by simp)) with e | hx
      · exact e
      · rcases List.mem_cons.1 ((h y).2 (by simp)) with e | hy
        · exact e.symm
        · have := h1.1 y hy; have := h2.1 x hx; omega
    subst hxy
    rw [sorted_unique f l m h1.2 h2.2 fun z => ?_]
    constructor
    · intro hz
      rcases List.mem_cons.1 ((h z).1 (by simp [hz])) with rfl | h3
      · have := h1.1 z hz; omega
      · exact h3
    · intro hz
      rcases List.mem_cons.1 ((h z).2 (by simp [hz])) with rfl | h3
      · have := h2.1 z hz; omega
      · exact h3
theorem getD_set_ne {c : List Us} {n k : Nat} {u : Us} (h : k ≠ n) : (c.set n u).getD k Us.no = c.getD k Us.no := by
  rw [List.getD_eq_getElem?_getD, List.getElem?_set_ne (fun e => h e.symm), ← List.getD_eq_getElem?_getD]
theorem getD_set_eq {c : List Us} {n : Nat} {u : Us} (h : n < c.length) : (c.set n u).getD n Us.no = u := by
  rw [List.getD_eq_getElem?_getD, List.getElem?_set_self h]; rfl
/-- the newest one comes last -/
theorem order_new {c : List Us} (hc : Apart c) {n : Nat} (hn : n < c.length) (h0 : c.getD n Us.no = Us.no) {u : Us} (hu : 0 < u.e) (hlt : ∀ k, (c.getD k Us.no).e < u.e) : orderL (c.set n u) = orderL c ++ [n] := by
  have hap : Apart (c.set n u) := by
    intro i j hi hij
    by_cases ein : i = n
    · by_cases ejn : j = n
      · omega
      · subst ein
        rw [getD_set_eq hn, getD_set_ne ejn] at hij
        have := hlt j; omega
    · by_cases ejn : j = n
      · subst ejn
        rw [getD_set_eq hn, getD_set_ne ein] at hij
        have := hlt i; omega
      · rw [getD_set_ne ein] at hi
        rw [getD_set_ne ein, getD_set_ne ejn] at hij
        exact hc i j hi hij
  have hm : ∀ x, x ∈ orderL c → x ≠ n := by
    rintro x hx rfl
    have := ((mem_orderL c x).1 hx).2
    rw [h0] at this
    exact this rfl
  refine sorted_unique (fun k => ((c.set n u).getD k Us.no).e) _ _ (order_sorted _ hap) ?_ fun x => ?_
  · rw [List.pairwise_append]
    refine ⟨?_, by simp, fun a ha b hb => ?_⟩
    · refine (order_sorted c hc).imp_of_mem fun {a b} ha hb h => ?_
      simp only [getD_set_ne (u := u) (hm a ha), getD_set_ne (u := u) (hm b hb)]; exact h
    · obtain rfl := List.mem_singleton.1 hb
      simp only [getD_set_ne (u := u) (hm a ha), getD_set_eq (u := u) hn]
      exact hlt a
  · rw [mem_orderL, List.length_set, List.mem_append, mem_orderL, List.mem_singleton]
    by_cases e : x = n
    · subst e
      rw [getD_set_eq hn]
      constructor
      · intro _; exact .inr rfl
      · intro _; exact ⟨hn, by omega⟩
    · rw [getD_set_ne e]
      constructor
      · intro h; exact .inl h
      · rintro (h | h)
        · exact h
        · exact absurd h e
/-- one that is taken out -/
theorem order_out {c : List Us} (hc : Apart c) {r : Nat} (hr : r < c.length) : orderL (c.set r Us.no) = (orderL c).filter (fun k => k != r) := by
  have hap : Apart (c.set r Us.no) := by
    intro i j hi hij
    by_cases ei : i = r
    · subst ei; rw [getD_set_eq hr] at hi; exact absurd rfl hi
    · by_cases ej : j = r
      · subst ej
        rw [getD_set_ne ei] at hi
        rw [getD_set_ne ei, getD_set_eq hr] at hij
        exact absurd hij hi
      · rw [getD_set_ne ei] at hi
        rw [getD_set_ne ei, getD_set_ne ej] at hij
        exact hc i j hi hij
  have hm : ∀ x, x ∈ (orderL c).filter (fun k => k != r) → x ≠ r := fun x hx => by simpa using (List.mem_filter.1 hx).2
  refine sorted_unique (fun k => ((c.set r Us.no).getD k Us.no).e) _ _ (order_sorted _ hap) ?_ fun x => ?_
  · refine ((order_sorted c hc).filter (fun k => k != r)).imp_of_mem fun {a b} ha hb h => ?_
    simp only [getD_set_ne (u := Us.no) (hm a ha), getD_set_ne (u := Us.no) (hm b hb)]; exact h
  · rw [mem_orderL, List.length_set, List.mem_filter, mem_orderL]
    by_cases e : x = r
    · subst e
      rw [getD_set_eq hr]
      simp [Us.no]
    · rw [getD_set_ne e]
      simp [e]
theorem order_one (c : List Us) (n : Nat) (hn : n < c.length) (u v : Us) (he : (c.getD n Us.no) = u) (hv : u.e = v.e) : orderL (c.set n v) = orderL c := by
  have key : ∀ k, ((c.set n v).getD k Us.no).e = (c.getD k Us.no).e := fun k => by
    by_cases e : k = n
    · subst e; rw [getD_set_eq hn, he, hv]
    · rw [getD_set_ne e]
  have hi : ∀ (x : Nat) (l : List Nat), ins (c.set n v) x l = ins c x l := by
    intro x l
    induction l with
    | nil => rfl
    | cons y l ih => unfold ins; rw [key, key, ih]
  unfold orderL usedL usedTo
  rw [List.length_set]
  have hf : (fun k => ((c.set n v).getD k Us.no).e != 0) = (fun k => (c.getD k Us.no).e != 0) := by funext k; rw [key]
  have hg : (fun l x => ins (c.set n v) x l) = (fun l x => ins c x l) := by funext l x; exact hi x l
  rw [hf, hg]
theorem chno_get (k : Nat) : Ch.no.getD k Us.no = Us.no := by
  unfold Ch.no
  rw [List.getD_eq_getElem?_getD, List.getElem?_replicate]
  split <;> rfl
theorem order_none : orderL Ch.no = [] := by
  have : ∀ x, x ∉ orderL Ch.no := fun x hx => ((mem_orderL _ x).1 hx).2 (by rw [chno_get]; rfl)
  exact List.eq_nil_iff_forall_not_mem.2 this

/-! ### What lies there when a segment is opened -/
structure Base (per segs : Nat) (c : List Us) (B : Nat → List It) (top : Int) (g : Nat → Nat → Fr) : Prop where
  per4 : 4 ≤ per
  per64 : per ≤ 64
  segs12 : segs ≤ 12
  ch : ChOk c segs per (top + 1)
  top0 : 0 ≤ top
  count : ∀ k, (c.getD k Us.no).e ≠ 0 → (c.getD k Us.no).c = ((1 + iLen (B k) : Nat) : Int)
  old0 : ∀ k, (c.getD k Us.no).e ≠ 0 → (g k 0).e = (c.getD k Us.no).e ∧ (g k 0).k = 1
  old : ∀ k, (c.getD k Us.no).e ≠ 0 → ∀ i, i < iLen (B k) → g k (1 + i) = (items (c.getD k Us.no).e 1 (B k)).getD i zeroFr
  le : ∀ k a, k < segs → a < per → (g k a).e ≤ top
/-- the shape behind that -/
def shNew (per segs : Nat) (c : List Us) (B : Nat → List It) (top : Int) (seg : Nat) : Sh := ⟨per, segs, c, fun k => if k = seg then [] else B k, seg, top + 1⟩
def lkFr (c : List Us) (segs : Nat) (top : Int) : Fr := { e := top + 1, a := 0, k := 1, s := chainText c segs }
section
variable {per segs : Nat} {c : List Us} {B : Nat → List It} {top : Int} {g g' : Nat → Nat → Fr} {seg : Nat}
theorem Base.lt (h : Base per segs c B top g) {k : Nat} (hk : (c.getD k Us.no).e ≠ 0) : k < segs ∧ 1 + iLen (B k) ≤ per ∧ 1 ≤ (c.getD k Us.no).e ∧ (c.getD k Us.no).e ≤ top := by
  have hc := h.count k hk
  rcases h.ch.use k with hu | ⟨h0, h1, h2, h3, h4⟩
  · rw [hu] at hk; exact absurd rfl hk
  · exact ⟨h0, by omega, h1, by omega⟩
theorem Base.ok (h : Base per segs c B top g) (hs : seg < segs) (hf : c.getD seg Us.no = Us.no) (ht : top + 1 ≤ 16777215) : (shNew per segs c B top seg).Ok :=
  ⟨h.per4, h.per64, h.segs12, h.ch, hs, ⟨by show 1 ≤ top + 1; have := h.top0; omega, ht⟩, hf, fun k hk => by
    show _ = ((1 + iLen (if k = seg then [] else B k) : Nat) : Int)
    rw [if_neg (by rintro rfl; exact hk (by show (c.getD k Us.no).e = 0; rw [hf]; rfl))]; exact h.count k hk, by
    show 1 + iLen (if seg = seg then [] else B seg) ≤ per
    rw [if_pos rfl]; have := h.per4; simp [iLen]; omega⟩
theorem Base.std (h : Base per segs c B top g) (hs : seg < segs) (hf : c.getD seg Us.no = Us.no) (hl : g' seg 0 = lkFr c segs top) (hg : ∀ k a, k < segs → a < per → ¬ (k = seg ∧ a = 0) → g' k a = g k a) : (shNew per segs c B top seg).Std g' 0 := by
  have h4 := h.per4
  have hne : ∀ k, (c.getD k Us.no).e ≠ 0 → k ≠ seg := fun k hk e => hk (by rw [e, hf]; rfl)
  have hfar : ∀ i, 0 ≤ i → 1 + i < per → (g' seg (1 + i)).e < top + 1 := fun i _ hi => by
    rw [hg _ _ hs hi (by omega)]; have := h.le seg (1 + i) hs hi; omega
  refine ⟨⟨Nat.zero_le _, hl, fun k hk => ?_, fun k hk i hi => ?_, fun i hi => by omega, fun i hi hi2 => .inl (hfar i hi hi2), fun k a hk ha hks => ?_⟩, hfar⟩
  · have := h.lt hk
    show (g' k 0).e = (c.getD k Us.no).e ∧ (g' k 0).k = 1
    rw [hg k 0 this.1 (by omega) (fun e => hne k hk e.1)]; exact h.old0 k hk
  · have hi' : i < iLen (B k) := by
      have e : (shNew per segs c B top seg).B k = B k := if_neg (hne k hk)
      rwa [e] at hi
    have := h.lt hk
    show g' k (1 + i) = (items (c.getD k Us.no).e 1 (if k = seg then [] else B k)).getD i zeroFr
    rw [hg k (1 + i) this.1 (by omega) (by omega), if_neg (hne k hk)]; exact h.old k hk i hi'
  · show (g' k a).e < top + 1
    rw [hg k a hk ha (fun e => hks e.1)]; have := h.le k a hk ha; omega
theorem lkFr_right (h : Base per segs c B top g) (ht : top + 1 ≤ 16777215) : (lkFr c segs top).right = true := by
  have := chainText_length c segs (by rw [h.ch.len]; exact h.segs12)
  have := h.top0
  have := h.segs12
  rw [Fr.right_iff]
  simp only [lkFr]
  omega
/-- the link is written: it is there, or what was there before; behind a sync it stands -/
theorem Base.link {d : D} (h : Base per segs c B top (frKept d per)) (dok : d.Ok) (room : segs * per ≤ d.kept.length) (hp : d.pend = []) (hs : seg < segs) (hf : c.getD seg Us.no = Us.no) (ht : top + 1 ≤ 16777215) :
    Inv (shNew per segs c B top seg) 0 (d.write (seg * per + 0) (lkFr c segs top).lay).sync ∧
      ∀ T, Mix (d.write (seg * per + 0) (lkFr c segs top).lay) T → (∀ j, T j = d.kept.getD j []) ∨ (shNew per segs c B top seg).Stands (frT T per) 0 := by
  have hr := lkFr_right h ht
  have h4 := h.per4
  have hlt := sec_lt (show 0 < per by omega) hs room
  have hpend : (d.write (seg * per + 0) (lkFr c segs top).lay).pend = [(seg * per + 0, (lkFr c segs top).lay)] := by rw [D.write_pend, hp]; rfl
  have hst : ∀ T : Nat → List UInt8, T (seg * per + 0) = (lkFr c segs top).lay → (∀ j, j ≠ seg * per + 0 → T j = d.kept.getD j []) → (shNew per segs c B top seg).Std (frT T per) 0 := fun T h1 h2 => by
    refine h.std hs hf ?_ fun k a hk ha hne => ?_
    · unfold frT
      rw [h1]; exact frOf_lay hr rfl
    · unfold frT frKept
      rw [h2 _ (fun e => hne (sec_inj ha (by omega) e))]
  constructor
  · have ok := h.ok hs hf ht
    have dok2 := (dok.write hlt (Fr.lay_length hr)).sync
    have room2 : segs * per ≤ (d.write (seg * per + 0) (lkFr c segs top).lay).kept.length := by rw [D.write_kept]; exact room
    have e0 : iLen ((shNew per segs c B top seg).B (shNew per segs c B top seg).n) = 0 := by simp [shNew, iLen]
    have := inv_of (S := shNew per segs c B top seg) ok dok2 (by rw [D.sync_len]; exact room2) rfl (by
      rw [e0]
      refine (hst _ ?_ ?_).congr ok fun k a hk ha => frKept_sync (segs := segs) room2 hk ha
      · rw [D.there_write, if_pos rfl]
      · intro j hj
        rw [D.there_write, if_neg (fun e => hj e.symm)]
        exact D.there_nopend d j (fun x hx => by rw [hp] at hx; cases hx))
    rw [e0] at this
    exact this
  · intro T hT
    have hcase : ∀ j, T j = d.kept.getD j [] ∨ (j = seg * per + 0 ∧ T j = (lkFr c segs top).lay) := fun j => by
      rcases hT j with e | ⟨x, hx, e, e2⟩
      · rw [D.write_kept] at e; exact .inl e
      · rw [hpend, List.mem_singleton] at hx
        subst hx
        exact .inr ⟨e.symm, e2⟩
    rcases hcase (seg * per + 0) with e | ⟨_, e⟩
    · left
      intro j
      rcases hcase j with e2 | ⟨rfl, _⟩
      · exact e2
      · exact e
    · right
      refine (hst T e fun j hj => ?_).st
      rcases hcase j with e2 | ⟨e2, _⟩
      · exact e2
      · exact absurd e2 hj
end
/-- out of a shape all of which stands; what is in use may have been taken out of the chain -/
theorem Sh.Std.base {S : Sh} (ok : S.Ok) {g : Nat → Nat → Fr} (h : S.Std g (iLen (S.B S.n))) (c : List Us) (hl : c.length = 12)
    (hc : ∀ k, c.getD k Us.no = Us.no ∨ c.getD k Us.no = (S.c.set S.n ⟨S.e, ((1 + iLen (S.B S.n) : Nat) : Int)⟩).getD k Us.no) : Base S.per S.segs c S.B S.e g := by
  have hn12 : S.n < S.c.length := by rw [ok.ch.len]; have := ok.nlt; have := ok.segs; omega
  have he := ok.epos
  have hf := ok.fits
  have key : ∀ k, (c.getD k Us.no).e ≠ 0 → (k = S.n ∧ c.getD k Us.no = ⟨S.e, ((1 + iLen (S.B S.n) : Nat) : Int)⟩) ∨ (k ≠ S.n ∧ c.getD k Us.no = S.c.getD k Us.no) := fun k hk => by
    rcases hc k with e | e
    · rw [e] at hk; exact absurd rfl hk
    · by_cases ek : k = S.n
      · subst ek; rw [getD_set_eq hn12] at e; exact .inl ⟨rfl, e⟩
      · rw [getD_set_ne ek] at e; exact .inr ⟨ek, e⟩
  refine ⟨ok.per4, ok.per64, ok.segs, ⟨hl, fun k => ?_, fun i j hi hij => ?_⟩, by omega, fun k hk => ?_, fun k hk => ?_, fun k hk i hi => ?_, fun k a hk ha => ?_⟩
  · by_cases hk : (c.getD k Us.no).e = 0
    · rcases hc k with e | e
      · exact .inl e
      · by_cases ek : k = S.n
        · subst ek
          rw [getD_set_eq hn12] at e
          rw [e] at hk; simp only at hk; omega
        · rw [getD_set_ne ek] at e
          rcases ok.ch.use k with hu | hu
          · exact .inl (e.trans hu)
          · rw [e] at hk; omega
    · right
      rcases key k hk with ⟨rfl, e⟩ | ⟨ek, e⟩
      · rw [e]; exact ⟨ok.nlt, by simp only; omega, by simp only; omega, by simp only; omega, by simp only; omega⟩
      · rw [e] at hk ⊢
        have := ok.ch.use k
        rcases this with hu | ⟨a1, a2, a3, a4, a5⟩
        · rw [hu] at hk; exact absurd rfl hk
        · exact ⟨a1, a2, by omega, a4, a5⟩
  · have hj : (c.getD j Us.no).e ≠ 0 := by rw [← hij]; exact hi
    rcases key i hi with ⟨rfl, ei⟩ | ⟨ni, ei⟩ <;> rcases key j hj with ⟨rfl, ej⟩ | ⟨nj, ej⟩
    · rfl
    · rw [ei, ej] at hij; rw [ej] at hj
      have := (ok.count_le hj).2.2.2.2
      simp only at hij; omega
    · rw [ei, ej] at hij; rw [ei] at hi
      have := (ok.count_le hi).2.2.2.2
      simp only at hij; omega
    · rw [ei, ej] at hij; rw [ei] at hi
      exact ok.ch.apart i j hi hij
  · rcases key k hk with ⟨rfl, e⟩ | ⟨ek, e⟩
    · rw [e]
    · rw [e] at hk ⊢; exact ok.count k hk
  · rcases key k hk with ⟨rfl, e⟩ | ⟨ek, e⟩
    · rw [e, h.st.link]; exact ⟨rfl, rfl⟩
    · rw [e] at hk ⊢; exact h.st.old0 k hk
  · rcases key k hk with ⟨rfl, e⟩ | ⟨ek, e⟩
    · rw [e]; exact h.st.new i hi
    · rw [e] at hk ⊢; exact h.st.old k hk i hi
  · by_cases e : k = S.n
    · subst e; exact h.st.le ok a ha
    · have := h.st.rest k a hk ha e; omega
theorem base_blank {per segs : Nat} (h4 : 4 ≤ per) (h64 : per ≤ 64) (h12 : segs ≤ 12) {g : Nat → Nat → Fr} (hg : ∀ k a, k < segs → a < per → (g k a).e = 0) (B : Nat → List It) : Base per segs Ch.no B 0 g :=
  ⟨h4, h64, h12, ⟨by simp [Ch.no], fun k => .inl (chno_get k), fun i j hi => absurd (by rw [chno_get]; rfl) hi⟩, Int.le_refl _, fun k hk => absurd (by rw [chno_get]; rfl) hk, fun k hk => absurd (by rw [chno_get]; rfl) hk, fun k hk => absurd (by rw [chno_get]; rfl) hk, fun k a hk ha => by rw [hg k a hk ha]; exact Int.le_refl _⟩

/-! ### The batches of a shape -/
def newP (S : Sh) : List (Int × List UInt8) := ((S.B S.n).filterMap id).map fun s => (S.e, s)
def allP (S : Sh) : List (Int × List UInt8) := oldP S ++ newP S
theorem oldP_push {S : Sh} (ok : S.Ok) (x : It) : oldP (S.push x) = oldP S := by
  unfold oldP
  congr 1
  refine List.map_congr_left fun k hk => ?_
  obtain ⟨_, hke⟩ := (mem_orderL S.c k).1 hk
  rw [Sh.push_Bo S x (ok.count_le hke).2.2.1]
  rfl
theorem allP_push {S : Sh} (ok : S.Ok) (x : It) : allP (S.push x) = allP S ++ x.toList.map fun s => (S.e, s) := by
  unfold allP newP
  rw [oldP_push ok, Sh.push_B]
  cases x <;> simp [Sh.push]
theorem Sh.Ok.apart {S : Sh} (ok : S.Ok) : Apart S.c := ok.ch.apart
theorem order_whole {S : Sh} (ok : S.Ok) : orderL (S.c.set S.n ⟨S.e, ((1 + iLen (S.B S.n) : Nat) : Int)⟩) = orderL S.c ++ [S.n] := by
  have := ok.epos
  refine order_new ok.apart (by rw [ok.ch.len]; have := ok.nlt; have := ok.segs; omega) ok.own (by simp only; omega) fun k => ?_
  rcases ok.ch.use k with hu | ⟨_, _, h, _, _⟩
  · rw [hu]; simp only [Us.no]; omega
  · exact h
/-- nothing is lost when a segment is opened -/
theorem oldP_new {S : Sh} (ok : S.Ok) {seg : Nat} (hf : (S.c.set S.n ⟨S.e, ((1 + iLen (S.B S.n) : Nat) : Int)⟩).getD seg Us.no = Us.no) :
    oldP (shNew S.per S.segs (S.c.set S.n ⟨S.e, ((1 + iLen (S.B S.n) : Nat) : Int)⟩) S.B S.e seg) = allP S := by
  have hn12 : S.n < S.c.length := by rw [ok.ch.len]; have := ok.nlt; have := ok.segs; omega
  have he := ok.epos
  have hsn : seg ≠ S.n := by
    rintro rfl
    rw [getD_set_eq hn12] at hf
    have := (Us.e_no hf).1
    simp only at this; omega
  unfold oldP
  show ((orderL (S.c.set S.n _)).map _).flatten = _
  rw [order_whole ok, List.map_append, List.flatten_append]
  unfold allP
  congr 1
  · unfold oldP
    congr 1
    refine List.map_congr_left fun k hk => ?_
    obtain ⟨_, hke⟩ := (mem_orderL S.c k).1 hk
    have hkn := (ok.count_le hke).2.2.1
    rw [getD_set_ne hsn] at hf
    have hks : k ≠ seg := by rintro rfl; rw [hf] at hke; exact hke rfl
    simp only [shNew, getD_set_ne hkn, if_neg hks]
  · simp only [shNew, List.map_cons, List.map_nil, List.flatten_cons, List.flatten_nil, List.append_nil, newP, getD_set_eq hn12, if_neg (fun e => hsn e.symm : ¬ S.n = seg)]
theorem shNew_B (per segs : Nat) (c : List Us) (B : Nat → List It) (top : Int) (seg : Nat) : (shNew per segs c B top seg).B (shNew per segs c B top seg).n = [] := by simp [shNew]
end Go.Proofs.YtlgefjcfnnjkbaaDoor
/- A log and its disk: what holds behind an opening, an append, a seal; what a power loss leaves. Plain; no program is named; no conditions. -/
namespace Go.Proofs.YtlgefjcfnnjkbaaDoor
set_option maxRecDepth 100000

def wholeC (S : Sh) : List Us := S.c.set S.n ⟨S.e, ((1 + iLen (S.B S.n) : Nat) : Int)⟩
/-- how many batches stand ahead of an item of the newest segment -/
def nP (S : Sh) (m : Nat) : Nat := (oldP S).length + (((S.B S.n).take m).filterMap id).length
theorem nP_all (S : Sh) : nP S (S.B S.n).length = (allP S).length := by simp [nP, allP, newP]
def allT (S : Sh) : List (List UInt8) := (allP S).map (·.2)

/-- a log over its shape -/
structure LInv (S : Sh) (s : Nat) (d : D) (l : Lg) : Prop where
  inv : Inv S s d
  per : l.per = S.per
  segs : l.segs = S.segs
  top : l.top = S.e
  last : l.last = S.n
  len : l.chain.length = 12
  use : l.chain.getD S.n Us.no = ⟨S.e, ((1 + iLen (S.B S.n) : Nat) : Int)⟩
  sub : ∀ k, l.chain.getD k Us.no = Us.no ∨ l.chain.getD k Us.no = (wholeC S).getD k Us.no
  down : l.down = false
  loose : l.loose = looseI (S.B S.n)
  tight : looseI (S.B S.n) = true → 2 + iLen (S.B S.n) ≤ S.per
theorem LInv.u {S : Sh} {s : Nat} {d : D} {l : Lg} (h : LInv S s d l) : l.use = ⟨S.e, ((1 + iLen (S.B S.n) : Nat) : Int)⟩ := by
  unfold Lg.use; rw [h.last]; exact h.use
/-- a log of a disk on which there is nothing -/
structure LNew (d : D) (l : Lg) : Prop where
  is : l = Lg.new l.per l.segs
  per4 : 4 ≤ l.per
  per64 : l.per ≤ 64
  segs12 : l.segs ≤ 12
  dok : d.Ok
  room : l.segs * l.per ≤ d.kept.length
  pend : d.pend = []
  zero : ∀ k a, k < l.segs → a < l.per → (frKept d l.per k a).e = 0

/-- what lies in the segment behind the newest one's, were that one's frames gone -/
def Hist (S : Sh) (g : Nat → Nat → Fr) : Prop :=
  (oldP S = [] ∧ ∀ k a, k < S.segs → a < S.per → k ≠ S.n → (g k a).e = 0) ∨
  ∃ P : Sh, P.per = S.per ∧ P.segs = S.segs ∧ P.Ok ∧ (looseI (P.B P.n) = true → 2 + iLen (P.B P.n) ≤ P.per) ∧ allP P = oldP S ∧ ∀ g' : Nat → Nat → Fr, (∀ k a, k < S.segs → a < S.per → k ≠ S.n → g' k a = g k a) → (∀ a, a < S.per → (g' S.n a).e = 0) → P.Stands g' (iLen (P.B P.n))
theorem Hist.congr {S S' : Sh} {g g' : Nat → Nat → Fr} (h : Hist S g) (h1 : S'.per = S.per) (h2 : S'.segs = S.segs) (h3 : S'.n = S.n) (h4 : oldP S' = oldP S) (hg : ∀ k a, k < S.segs → a < S.per → k ≠ S.n → g' k a = g k a) : Hist S' g' := by
  rcases h with ⟨a, b⟩ | ⟨P, p1, p2, p3, p0, p4, p5⟩
  · refine .inl ⟨by rw [h4]; exact a, fun k x hk hx hne => ?_⟩
    rw [h1] at hx; rw [h2] at hk; rw [h3] at hne
    rw [hg k x hk hx hne]; exact b k x hk hx hne
  · refine .inr ⟨P, by rw [p1, h1], by rw [p2, h2], p3, p0, by rw [p4, h4], fun g2 q1 q2 => p5 g2 (fun k x hk hx hne => ?_) (fun x hx => ?_)⟩
    · rw [q1 k x (by rw [h2]; exact hk) (by rw [h1]; exact hx) (by rw [h3]; exact hne)]; exact hg k x hk hx hne
    · have := q2 x (by rw [h1]; exact hx)
      rwa [h3] at this

/-- what is found whatever a power loss keeps: a beginning of some batches, so many of them at least -/
def Fnd (per segs : Nat) (T : Nat → List UInt8) (sure : Nat) (all : List (List UInt8)) : Prop :=
  (sure = 0 ∧ ∀ k a, k < segs → a < per → (frT T per k a).e = 0) ∨
  ∃ (S : Sh) (p m0 : Nat), S.per = per ∧ S.segs = segs ∧ S.Ok ∧ S.Stands (frT T per) p ∧ m0 ≤ (S.B S.n).length ∧ iLen ((S.B S.n).take m0) ≤ p ∧ sure ≤ nP S m0 ∧ allT S <+: all ∧
    (looseI (S.B S.n) = true → 2 + iLen (S.B S.n) ≤ S.per) ∧ Hist S (frT T per)
theorem Fnd.mono {per segs : Nat} {T : Nat → List UInt8} {sure : Nat} {all all' : List (List UInt8)} (h : Fnd per segs T sure all) (ha : all <+: all') : Fnd per segs T sure all' := by
  rcases h with h | ⟨S, p, m0, h1, h2, h3, h4, h5, h6, h7, h8, h9⟩
  · exact .inl h
  · exact .inr ⟨S, p, m0, h1, h2, h3, h4, h5, h6, h7, h8.trans ha, h9⟩
structure Cr (per segs : Nat) (d : D) (sure : Nat) (all : List (List UInt8)) : Prop where
  dok : d.Ok
  room : segs * per ≤ d.kept.length
  mix : ∀ T, Mix d T → Fnd per segs T sure all
theorem Cr.mono {per segs : Nat} {d : D} {sure : Nat} {all all' : List (List UInt8)} (h : Cr per segs d sure all) (ha : all <+: all') : Cr per segs d sure all' := ⟨h.dok, h.room, fun T hT => (h.mix T hT).mono ha⟩

/-- a log that goes on: so many batches are synced for sure; all batches -/
inductive LSt (d : D) (l : Lg) (sure : Nat) (all : List (List UInt8)) : Prop where
  | new (h : LNew d l) (hs : sure = 0) (ha : all = [])
  | old (S : Sh) (s m0 : Nat) (h : LInv S s d l) (hw : l.chain = wholeC S) (hm : m0 ≤ (S.B S.n).length) (hs : s = iLen ((S.B S.n).take m0)) (hn : sure ≤ nP S m0) (ha : allT S = all) (hh : Hist S (frKept d S.per)) (hne : S.B S.n ≠ [])

theorem cr_of {S : Sh} {s m0 : Nat} {d : D} {sure : Nat} {all : List (List UInt8)} (h : CrInv S s d) (hm : m0 ≤ (S.B S.n).length) (hs : s = iLen ((S.B S.n).take m0)) (hn : sure ≤ nP S m0) (ha : allT S <+: all) (hh : Hist S (frKept d S.per))
    (ht : looseI (S.B S.n) = true → 2 + iLen (S.B S.n) ≤ S.per) : Cr S.per S.segs d sure all := by
  refine ⟨h.dok, h.room, fun T hT => ?_⟩
  obtain ⟨p, hp, hst⟩ := h.stands hT
  exact .inr ⟨S, p, m0, rfl, rfl, h.ok, hst, hm, by omega, hn, ha, ht, hh.congr rfl rfl rfl rfl fun k a hk ha hne => h.same hT ha (.inl hne)⟩
theorem cr_blank {per segs : Nat} {d : D} (dok : d.Ok) (room : segs * per ≤ d.kept.length) (hp : d.pend = []) (hz : ∀ k a, k < segs → a < per → (frKept d per k a).e = 0) (all : List (List UInt8)) : Cr per segs d 0 all :=
  ⟨dok, room, fun T hT => .inl ⟨rfl, fun k a hk ha => by
    unfold frT; rw [mix_nil hp hT]; exact hz k a hk ha⟩⟩
theorem LSt.cr {d : D} {l : Lg} {sure : Nat} {all : List (List UInt8)} (h : LSt d l sure all) : Cr l.per l.segs d sure all := by
  cases h with
  | new h hs ha => rw [hs]; exact cr_blank h.dok h.room h.pend h.zero all
  | old S s m0 h hw hm hs hn ha hh hne =>
    rw [h.per, h.segs]
    exact cr_of h.inv.cr hm hs hn (by rw [ha]; exact List.prefix_rfl) hh h.tight

/-! ### Writing one item -/
theorem looseI_some (l : List It) (b : List UInt8) : looseI (l ++ [some b]) = true := by
  unfold looseI
  rw [upSeal_snoc_some]
  have := upSeal_length l
  simp; omega
theorem looseI_none (l : List It) : looseI (l ++ [none]) = false := by
  unfold looseI
  rw [upSeal_snoc_none]
  simp
theorem take_push_le {α : Type} (l : List α) (x : α) {m : Nat} (h : m ≤ l.length) : (l ++ [x]).take m = l.take m := List.take_append_of_le_length h
theorem nP_push {S : Sh} (ok : S.Ok) (x : It) {m : Nat} (h : m ≤ (S.B S.n).length) : nP (S.push x) m = nP S m := by
  unfold nP
  rw [oldP_push ok, Sh.push_B, take_push_le _ _ h]
theorem wrAll_keptT (per seg : Nat) (d : D) (fs : List Fr) : frKept (wrAll per seg d fs).1 per = frKept d per := by
  funext k a; unfold frKept; rw [(wrAll_facts per seg fs d).1]
theorem wholeC_push {S : Sh} (x : It) (u : Us) (hu : u = ⟨S.e, ((1 + iLen (S.B S.n ++ [x]) : Nat) : Int)⟩) : wholeC (S.push x) = (wholeC S).set S.n u := by
  unfold wholeC
  rw [Sh.push_B, List.set_set, hu]
  rfl
/-- an item is written: what a power loss leaves at whatever place it goes; and behind it -/
theorem LInv.item {S : Sh} {s : Nat} {d : D} {l l' : Lg} (h : LInv S s d l) (x : It) (hx : x = none → s = iLen (S.B S.n)) (hf : 1 + iLen (S.B S.n) + iLen [x] ≤ S.per) (htx : x ≠ none → 2 + iLen (S.B S.n) + iLen [x] ≤ S.per)
    (hl' : l' = { l with chain := l.chain.set l.last ⟨l.use.e, l.use.c + ((iLen [x] : Nat) : Int)⟩, loose := x.isSome }) :
    CrInv (S.push x) s (wrAll l.per l.last d (items S.e (1 + iLen (S.B S.n)) [x])).1 ∧ (looseI ((S.push x).B (S.push x).n) = true → 2 + iLen ((S.push x).B (S.push x).n) ≤ (S.push x).per) ∧
      ((wrAll l.per l.last d (items S.e (1 + iLen (S.B S.n)) [x])).2 = true → LInv (S.push x) s (wrAll l.per l.last d (items S.e (1 + iLen (S.B S.n)) [x])).1 l') := by
  have hw := h.inv.put x hx hf
  have hn12 : S.n < l.chain.length := by rw [h.len]; have := h.inv.cr.ok.nlt; have := h.inv.cr.ok.segs; omega
  have hn12' : S.n < (wholeC S).length := by unfold wholeC; rw [List.length_set, h.inv.cr.ok.ch.len]; rw [h.len] at hn12; exact hn12
  have hl : iLen (S.B S.n ++ [x]) = iLen (S.B S.n) + iLen [x] := iLen_append _ _
  have htight : looseI ((S.push x).B (S.push x).n) = true → 2 + iLen ((S.push x).B (S.push x).n) ≤ (S.push x).per := by
    rw [Sh.push_B]
    cases x with
    | none => rw [looseI_none]; intro e; cases e
    | some b => intro _; rw [hl]; have := htx (by simp); show _ ≤ S.per; omega
  rw [h.per, h.last]
  refine ⟨hw.1, htight, fun e => ?_⟩
  have hu' : (⟨S.e, ((1 + iLen (S.B S.n) : Nat) : Int) + ((iLen [x] : Nat) : Int)⟩ : Us) = ⟨S.e, ((1 + iLen (S.B S.n ++ [x]) : Nat) : Int)⟩ := by
    rw [hl]; simp only [Us.mk.injEq, true_and]; omega
  rw [h.u, h.last, hu'] at hl'
  subst hl'
  refine ⟨hw.2 e, h.per, h.segs, h.top, rfl, by simp only [List.length_set]; exact h.len, ?_, fun k => ?_, h.down, ?_, htight⟩
  · show (l.chain.set S.n _).getD S.n Us.no = _
    rw [getD_set_eq hn12, Sh.push_B]; rfl
  · show (l.chain.set S.n _).getD k Us.no = _ ∨ (l.chain.set S.n _).getD k Us.no = _
    rw [wholeC_push x _ rfl]
    by_cases ek : k = S.n
    · subst ek; rw [getD_set_eq hn12, getD_set_eq hn12']; exact .inr rfl
    · rw [getD_set_ne ek, getD_set_ne ek]; exact h.sub k
  · rw [Sh.push_B]
    cases x with
    | none => rw [looseI_none]; rfl
    | some b => rw [looseI_some]; rfl
theorem LInv.whole_item {S : Sh} {s : Nat} {d : D} {l : Lg} (h : LInv S s d l) (hw : l.chain = wholeC S) (x : It) : l.chain.set l.last ⟨l.use.e, l.use.c + ((iLen [x] : Nat) : Int)⟩ = wholeC (S.push x) := by
  have hl : iLen (S.B S.n ++ [x]) = iLen (S.B S.n) + iLen [x] := iLen_append _ _
  rw [wholeC_push x _ rfl, hw, h.last, h.u, hl]
  congr 2
  push_cast; omega

/-- a disk behind a step: what power loss leaves; how much is pending -/
structure Stp (d d' : D) (N : Nat) : Prop where
  cut : d.cut = false → d'.cut = false
  len : d'.kept.length = d.kept.length
  few : d'.pend.length ≤ d.pend.length + N
theorem Stp.refl (d : D) : Stp d d 0 := ⟨id, rfl, Nat.le_refl _⟩
theorem Stp.trans {a b c : D} {M N : Nat} (h : Stp a b M) (k : Stp b c N) : Stp a c (M + N) := ⟨fun e => k.cut (h.cut e), k.len.trans h.len, by have := h.few; have := k.few; omega⟩
theorem Stp.mono {a b : D} {M N : Nat} (h : Stp a b M) (hMN : M ≤ N) : Stp a b N := ⟨h.cut, h.len, Nat.le_trans h.few (by omega)⟩
theorem stp_wrAll (per seg : Nat) (d : D) (fs : List Fr) : Stp d (wrAll per seg d fs).1 fs.length := by
  obtain ⟨h1, h2, h3, _⟩ := wrAll_facts per seg fs d
  exact ⟨fun e => by rw [h2, e], by rw [h1], h3⟩
theorem stp_sync (d : D) : Stp d d.sync 0 := ⟨fun e => by rw [sync_cut, e], D.sync_len d, by simp [D.sync]⟩
theorem stp_write (d : D) (k : Nat) (s : List UInt8) : Stp d (d.write k s) 1 := ⟨fun e => by simp only [D.write, D.spent_cut]; exact e, by rw [D.write_kept], by rw [D.write_pend]; simp⟩

/-- a batch is added -/
theorem add_step {S : Sh} {s m0 : Nat} {d : D} {l : Lg} {sure : Nat} {all : List (List UInt8)} (h : LInv S s d l) (hw : l.chain = wholeC S) (hm : m0 ≤ (S.B S.n).length) (hs : s = iLen ((S.B S.n).take m0)) (hn : sure ≤ nP S m0) (ha : allT S = all) (hh : Hist S (frKept d S.per))
    (b : List UInt8) (hf : 2 + iLen (S.B S.n) + need b.length ≤ S.per) :
    ∃ d' e', l.add d b = (d', (if e' = 0 then l.added b else l), e') ∧ (e' = 0 ∨ e' = 22) ∧ (d.cut = false → e' = 0) ∧ Stp d d' 64 ∧ Cr l.per l.segs d' sure (all ++ [b]) ∧ (e' = 0 → LSt d' (l.added b) sure (all ++ [b])) := by
  have ok := h.inv.cr.ok
  have e1 : iLen [some b] = need b.length := by simp [iLen]
  have hi := h.item (l' := l.added b) (some b) (by simp) (by rw [e1]; omega) (fun _ => by rw [e1]; omega) (by rw [e1]; rfl)
  have hit : items S.e (1 + iLen (S.B S.n)) [some b] = cutF l.use.e l.use.c b := by
    rw [h.u]; simp [items]
  rw [hit] at hi
  have hfa := wrAll_facts l.per l.last (cutF l.use.e l.use.c b) d
  have hst := stp_wrAll l.per l.last d (cutF l.use.e l.use.c b)
  have hkt := wrAll_keptT l.per l.last d (cutF l.use.e l.use.c b)
  rw [cutF_length] at hst
  have hst : Stp d (wrAll l.per l.last d (cutF l.use.e l.use.c b)).1 64 := hst.mono (by have := ok.per64; omega)
  unfold Lg.add
  generalize wrAll l.per l.last d (cutF l.use.e l.use.c b) = r at hi hfa hst hkt
  obtain ⟨d', ok'⟩ := r
  simp only at hi hfa hst hkt
  have hall : allT (S.push (some b)) = all ++ [b] := by unfold allT; rw [allP_push ok, List.map_append, ← ha]; rfl
  have hmB : m0 ≤ ((S.push (some b)).B (S.push (some b)).n).length := by rw [Sh.push_B, List.length_append]; omega
  have hsB : s = iLen (((S.push (some b)).B (S.push (some b)).n).take m0) := by rw [Sh.push_B, take_push_le _ _ hm]; exact hs
  have hnB : sure ≤ nP (S.push (some b)) m0 := by rw [nP_push ok _ hm]; exact hn
  have hhB : Hist (S.push (some b)) (frKept d' (S.push (some b)).per) := hh.congr rfl rfl rfl (oldP_push ok _) fun k a hk ha' hne => by
    show frKept d' S.per k a = _
    rw [h.per] at hkt; rw [hkt]
  have hcr : Cr l.per l.segs d' sure (all ++ [b]) := by
    have := cr_of hi.1 hmB hsB hnB (by rw [hall]; exact List.prefix_rfl) hhB hi.2.1
    rw [h.per, h.segs]; exact this
  cases ok' with
  | false => exact ⟨d', 22, rfl, .inr rfl, fun e => absurd (hfa.2.2.2 e) (by simp), hst, hcr, fun e => by cases e⟩
  | true =>
    refine ⟨d', 0, rfl, .inl rfl, fun _ => rfl, hst, hcr, fun _ => .old (S.push (some b)) s m0 (hi.2.2 rfl) ?_ hmB hsB hnB hall hhB (by rw [Sh.push_B]; simp)⟩
    have := h.whole_item hw (some b)
    rw [e1] at this
    exact this
end Go.Proofs.YtlgefjcfnnjkbaaDoor
/- A log's calls in plain terms: opening a segment, appending, sealing. Plain; no program is named; no conditions. -/
namespace Go.Proofs.YtlgefjcfnnjkbaaDoor
set_option maxRecDepth 100000

theorem Sh.Stands.swap {S : Sh} (ok : S.Ok) {g g' : Nat → Nat → Fr} {p seg : Nat} (st : S.Stands g p) (hn : seg ≠ S.n) (hc : S.c.getD seg Us.no = Us.no) (h : ∀ k a, k < S.segs → a < S.per → k ≠ seg → g' k a = g k a) (h0 : ∀ a, a < S.per → (g' seg a).e = 0) : S.Stands g' p := by
  have h4 := ok.per4
  have hf := ok.fits
  have he := ok.epos
  have hne : ∀ k, (S.c.getD k Us.no).e ≠ 0 → k ≠ seg := fun k hk e => hk (by rw [e, hc]; rfl)
  have hn' : S.n ≠ seg := fun e => hn e.symm
  refine ⟨st.ple, by rw [h _ _ ok.nlt (by omega) hn']; exact st.link, fun k hk => ?_, fun k hk i hi => ?_, fun i hi => ?_, fun i hi hi2 => ?_, fun k a hk ha hks => ?_⟩
  · rw [h _ _ (ok.count_le hk).1 (by omega) (hne k hk)]; exact st.old0 k hk
  · have := (ok.count_le hk).2.1
    rw [h _ _ (ok.count_le hk).1 (by omega) (hne k hk)]; exact st.old k hk i hi
  · have := st.ple
    rw [h _ _ ok.nlt (by omega) hn']; exact st.new i hi
  · rw [h _ _ ok.nlt hi2 hn']; exact st.far i hi hi2
  · by_cases e : k = seg
    · subst e; rw [h0 a ha]; omega
    · rw [h _ _ hk ha e]; exact st.rest k a hk ha hks

theorem firstFree_some {c : List Us} {segs : Nat} (h : ∃ k, k < segs ∧ c.getD k Us.no = Us.no) : ∃ seg, firstFree c segs = some seg ∧ seg < segs ∧ c.getD seg Us.no = Us.no := by
  obtain ⟨k, hk, h0⟩ := h
  unfold firstFree
  cases hf : (List.range segs).find? fun k => c.getD k Us.no == Us.no with
  | none =>
    have := List.find?_eq_none.1 hf k (by simpa using hk)
    simp only [h0, beq_self_eq_true, not_true] at this
  | some seg =>
    have h1 := List.mem_of_find?_eq_some hf
    have h2 := List.find?_some hf
    exact ⟨seg, rfl, by simpa using h1, by simpa using h2⟩

/-- a segment is opened -/
theorem begin_core {d : D} {l : Lg} {B : Nat → List It} {sure : Nat} {all : List (List UInt8)} (hB : Base l.per l.segs l.chain B l.top (frKept d.sync l.per)) (dok : d.Ok) (room : l.segs * l.per ≤ d.kept.length) (hdown : l.down = false)
    (hcr0 : Cr l.per l.segs d sure all) (hcr1 : Cr l.per l.segs d.sync sure all) (hfree : ∃ k, k < l.segs ∧ l.chain.getD k Us.no = Us.no) (ht : l.top + 1 ≤ 16777215)
    (hnew : ∀ seg, seg < l.segs → l.chain.getD seg Us.no = Us.no → allT (shNew l.per l.segs l.chain B l.top seg) = all ∧ sure ≤ nP (shNew l.per l.segs l.chain B l.top seg) 0 ∧
      ∀ g', (∀ k a, k < l.segs → a < l.per → k ≠ seg → g' k a = frKept d.sync l.per k a) → Hist (shNew l.per l.segs l.chain B l.top seg) g') :
    ∃ d' seg e', l.begin_ d = (d', (if e' = 0 then l.begun seg else l), e') ∧ (e' = 0 ∨ e' = 22) ∧ (d.cut = false → e' = 0) ∧ Stp d d' 1 ∧ Cr l.per l.segs d' sure all ∧ seg < l.segs ∧ l.chain.getD seg Us.no = Us.no ∧
      (e' = 0 → ∃ S, LInv S 0 d' (l.begun seg) ∧ (l.begun seg).chain = wholeC S ∧ S.B S.n = [] ∧ sure ≤ nP S 0 ∧ allT S = all ∧ Hist S (frKept d' S.per) ∧ S = shNew l.per l.segs l.chain B l.top seg) := by
  obtain ⟨seg, hff, hs, hf⟩ := firstFree_some hfree
  obtain ⟨n1, n2, n3⟩ := hnew seg hs hf
  have h4 := hB.per4
  have dok1 := dok.sync
  have room1 : l.segs * l.per ≤ d.sync.kept.length := by rw [D.sync_len]; exact room
  obtain ⟨hinv, hmix⟩ := hB.link dok1 room1 rfl hs hf ht
  have hlt := sec_lt (show 0 < l.per by omega) hs room1
  have hr := lkFr_right hB ht
  have hpend2 : (d.sync.write (seg * l.per + 0) (lkFr l.chain l.segs l.top).lay).pend = [(seg * l.per + 0, (lkFr l.chain l.segs l.top).lay)] := by rw [D.write_pend]; rfl
  have hcr2 : Cr l.per l.segs (d.sync.write (seg * l.per + 0) (lkFr l.chain l.segs l.top).lay) sure all := by
    refine ⟨dok1.write hlt (Fr.lay_length hr), by rw [D.write_kept]; exact room1, fun T hT => ?_⟩
    rcases hmix T hT with h | h
    · exact hcr1.mix T (fun j => .inl (h j))
    · refine .inr ⟨_, 0, 0, rfl, rfl, hB.ok hs hf ht, h, Nat.zero_le _, by simp [iLen], n2, by rw [n1]; exact List.prefix_rfl, ?_, n3 _ fun k a hk ha hne => ?_⟩
      · rw [shNew_B]; intro e; cases e
      · unfold frT frKept
        rcases hT (k * l.per + a) with e | ⟨x, hx, e, _⟩
        · rw [e, D.write_kept]
        · rw [hpend2, List.mem_singleton] at hx
          subst hx
          exact absurd (sec_inj (by omega) ha e).1.symm hne
  have hs12 := hB.segs12
  have hfin : LInv (shNew l.per l.segs l.chain B l.top seg) 0 (d.sync.write (seg * l.per + 0) (lkFr l.chain l.segs l.top).lay).sync (l.begun seg) := by
    have hw : (l.begun seg).chain = wholeC (shNew l.per l.segs l.chain B l.top seg) := by
      unfold wholeC; rw [shNew_B]; rfl
    refine ⟨hinv, rfl, rfl, rfl, rfl, ?_, ?_, fun k => by rw [hw]; exact .inr rfl, hdown, ?_, ?_⟩
    · show (l.chain.set seg _).length = 12
      rw [List.length_set]; exact hB.ch.len
    · rw [hw, shNew_B]
      unfold wholeC
      rw [shNew_B]
      exact getD_set_eq (by show seg < l.chain.length; rw [hB.ch.len]; omega)
    · rw [shNew_B]; rfl
    · rw [shNew_B]; intro e; cases e
  have hkept : ∀ k a, k < l.segs → a < l.per → k ≠ seg → frKept (d.sync.write (seg * l.per + 0) (lkFr l.chain l.segs l.top).lay).sync l.per k a = frKept d.sync l.per k a := fun k a hk ha hne => by
    rw [frKept_sync (segs := l.segs) (by rw [D.write_kept]; exact room1) hk ha]
    unfold frAt frKept
    rw [D.there_write, if_neg (fun e => hne (sec_inj (by omega) ha e).1.symm), D.there_nopend _ _ (fun x hx => by simp [D.sync] at hx)]
  have hw : (l.begun seg).chain = wholeC (shNew l.per l.segs l.chain B l.top seg) := by
    unfold wholeC; rw [shNew_B]; rfl
  have hpost : ∃ S, LInv S 0 (d.sync.write (seg * l.per + 0) (lkFr l.chain l.segs l.top).lay).sync (l.begun seg) ∧ (l.begun seg).chain = wholeC S ∧ S.B S.n = [] ∧ sure ≤ nP S 0 ∧ allT S = all ∧ Hist S (frKept (d.sync.write (seg * l.per + 0) (lkFr l.chain l.segs l.top).lay).sync S.per) ∧ S = shNew l.per l.segs l.chain B l.top seg :=
    ⟨_, hfin, hw, shNew_B .., n2, n1, n3 _ hkept, rfl⟩
  have hcr3 : Cr l.per l.segs (d.sync.write (seg * l.per + 0) (lkFr l.chain l.segs l.top).lay).sync sure all :=
    cr_of (S := shNew l.per l.segs l.chain B l.top seg) hinv.cr (Nat.zero_le _) (by simp [iLen]) n2 (by rw [n1]; exact List.prefix_rfl) (n3 _ hkept) (by rw [shNew_B]; intro e; cases e)
  have hcutw : (d.sync.write (seg * l.per + 0) (lkFr l.chain l.segs l.top).lay).cut = d.cut := by simp only [D.write, D.spent_cut, sync_cut]
  have hst1 : Stp d (d.sync.write (seg * l.per + 0) (lkFr l.chain l.segs l.top).lay) 1 := (stp_sync d).trans (stp_write _ _ _)
  unfold Lg.begin_ syncP
  by_cases hp : d.power = true
  · rw [if_pos hp]
    simp only [hff]
    have e1 : wrAll l.per seg d.sync [linkFr l] = if d.sync.power then (d.sync.write (seg * l.per + 0) (lkFr l.chain l.segs l.top).lay, true) else (d.sync, false) := by
      unfold wrAll
      rfl
    rw [e1]
    by_cases hp1 : d.sync.power = true
    · rw [if_pos hp1]
      unfold thenP
      simp only [if_true]
      by_cases hp2 : (d.sync.write (seg * l.per + 0) (lkFr l.chain l.segs l.top).lay).power = true
      · rw [if_pos hp2]
        exact ⟨_, seg, 0, rfl, .inl rfl, fun _ => rfl, hst1.trans (stp_sync _), hcr3, hs, hf, fun _ => hpost⟩
      · rw [if_neg hp2]
        exact ⟨_, seg, 22, rfl, .inr rfl, fun e => absurd (power_of (by rw [hcutw, e])) hp2, hst1, hcr2, hs, hf, fun e => by cases e⟩
    · rw [if_neg hp1]
      exact ⟨_, seg, 22, rfl, .inr rfl, fun e => absurd (power_of (by rw [sync_cut, e])) hp1, (stp_sync d).mono (by omega), hcr1, hs, hf, fun e => by cases e⟩
  · rw [if_neg hp]
    exact ⟨d, seg, 22, rfl, .inr rfl, fun e => absurd (power_of e) hp, (Stp.refl d).mono (by omega), hcr0, hs, hf, fun e => by cases e⟩

theorem frKept_nosync {d : D} (h : d.pend = []) (per : Nat) : frKept d.sync per = frKept d per := by
  funext k a
  unfold frKept D.sync D.layAll
  rw [h]; rfl
theorem looseI_nil : looseI [] = false := rfl
/-- what an opening starts from -/
theorem LSt.base {d : D} {l : Lg} {sure : Nat} {all : List (List UInt8)} (h : LSt d l sure all) :
    ∃ B, Base l.per l.segs l.chain B l.top (frKept d.sync l.per) ∧ d.Ok ∧ l.segs * l.per ≤ d.kept.length ∧ l.down = false ∧ Cr l.per l.segs d.sync sure all ∧
      ∀ seg, seg < l.segs → l.chain.getD seg Us.no = Us.no → allT (shNew l.per l.segs l.chain B l.top seg) = all ∧ sure ≤ nP (shNew l.per l.segs l.chain B l.top seg) 0 ∧
      ∀ g', (∀ k a, k < l.segs → a < l.per → k ≠ seg → g' k a = frKept d.sync l.per k a) → Hist (shNew l.per l.segs l.chain B l.top seg) g' := by
  cases h with
  | new h hs ha =>
    have hc : l.chain = Ch.no := by rw [h.is]; rfl
    have ht : l.top = 0 := by rw [h.is]; rfl
    have hz := h.zero
    rw [← frKept_nosync h.pend] at hz
    have hb : Base l.per l.segs l.chain (fun _ => []) l.top (frKept d.sync l.per) := by
      rw [hc, ht]; exact base_blank h.per4 h.per64 h.segs12 hz _
    have ho : ∀ seg, oldP (shNew l.per l.segs l.chain (fun _ => []) l.top seg) = [] := fun seg => by
      unfold oldP
      show ((orderL l.chain).map _).flatten = []
      rw [hc, order_none]; rfl
    refine ⟨_, hb, h.dok, h.room, by rw [h.is]; rfl, ?_, fun seg hs1 hs2 => ⟨?_, by rw [hs]; exact Nat.zero_le _, fun g' hg => .inl ⟨ho seg, fun k a hk ha' hne => ?_⟩⟩⟩
    · rw [hs]; exact cr_blank h.dok.sync (by rw [D.sync_len]; exact h.room) rfl hz all
    · unfold allT allP newP
      rw [ho, shNew_B, ha]; rfl
    · rw [hg k a hk ha' hne]; exact hz k a hk ha'
  | old S s m0 h hw hm hs hn ha hh hne =>
    have ok := h.inv.cr.ok
    have h1 := h.inv.sync
    have hb := h1.cr.kept.base ok l.chain h.len h.sub
    have hhs : Hist S (frKept d.sync S.per) := hh.congr rfl rfl rfl rfl fun k a hk ha' hne' => by
      rw [frKept_sync h.inv.cr.room hk ha', frAt_eq]
      exact h.inv.cr.same (mix_there d) ha' (.inl hne')
    rw [← h.per, ← h.segs, ← h.top] at hb
    have hcut := h.inv.cr
    have hcr : Cr l.per l.segs d.sync sure all := by
      have hle : sure ≤ nP S (S.B S.n).length := by
        refine Nat.le_trans hn ?_
        unfold nP
        have := congrArg List.length (List.filterMap_append (f := id) (l := (S.B S.n).take m0) (l' := (S.B S.n).drop m0))
        rw [List.take_append_drop, List.length_append] at this
        rw [List.take_length]
        omega
      rw [h.per, h.segs]
      exact cr_of h1.cr (Nat.le_refl _) (by rw [List.take_length]) hle (by rw [ha]; exact List.prefix_rfl) hhs h.tight
    refine ⟨S.B, hb, h.inv.cr.dok, by rw [h.per, h.segs]; exact h.inv.cr.room, h.down, hcr, fun seg hs1 hs2 => ?_⟩
    rw [hw] at hs2
    have hold := oldP_new ok hs2
    have hn12 : S.n < S.c.length := by rw [ok.ch.len]; have := ok.nlt; have := ok.segs; omega
    have hsn : seg ≠ S.n := by
      rintro rfl
      unfold wholeC at hs2
      rw [getD_set_eq hn12] at hs2
      have := (Us.e_no hs2).1
      have := ok.epos
      simp only at *; omega
    have hsc : S.c.getD seg Us.no = Us.no := by
      unfold wholeC at hs2
      rwa [getD_set_ne hsn] at hs2
    have he : shNew l.per l.segs l.chain S.B l.top seg = shNew S.per S.segs (wholeC S) S.B S.e seg := by rw [h.per, h.segs, hw, h.top]
    rw [he]
    refine ⟨?_, ?_, fun g' hg => .inr ⟨S, rfl, rfl, ok, h.tight, ?_, fun g2 q1 q2 => ?_⟩⟩
    · have : allP (shNew S.per S.segs (wholeC S) S.B S.e seg) = allP S := by
        unfold allP newP
        rw [shNew_B]
        simp only [List.filterMap_nil, List.map_nil, List.append_nil]
        exact hold
      unfold allT
      rw [this]; exact ha
    · have : nP (shNew S.per S.segs (wholeC S) S.B S.e seg) 0 = (allP S).length := by
        unfold nP
        rw [show oldP (shNew S.per S.segs (wholeC S) S.B S.e seg) = allP S from hold]; simp
      rw [this, ← nP_all]
      refine Nat.le_trans hn ?_
      unfold nP
      have := congrArg List.length (List.filterMap_append (f := id) (l := (S.B S.n).take m0) (l' := (S.B S.n).drop m0))
      rw [List.take_append_drop, List.length_append] at this
      rw [List.take_length]
      omega
    · exact hold.symm
    · refine h1.cr.kept.st.swap ok hsn hsc (fun k a hk ha' hne' => ?_) q2
      rw [q1 k a hk ha' hne', hg k a (by rw [h.segs]; exact hk) (by rw [h.per]; exact ha') hne', h.per]
theorem begin_step {d : D} {l : Lg} {sure : Nat} {all : List (List UInt8)} (h : LSt d l sure all) (hfree : ∃ k, k < l.segs ∧ l.chain.getD k Us.no = Us.no) (ht : l.top + 1 ≤ 16777215) :
    ∃ d' seg e', l.begin_ d = (d', (if e' = 0 then l.begun seg else l), e') ∧ (e' = 0 ∨ e' = 22) ∧ (d.cut = false → e' = 0) ∧ Stp d d' 1 ∧ Cr l.per l.segs d' sure all ∧ seg < l.segs ∧ l.chain.getD seg Us.no = Us.no ∧
      (e' = 0 → ∃ S, LInv S 0 d' (l.begun seg) ∧ (l.begun seg).chain = wholeC S ∧ S.B S.n = [] ∧ sure ≤ nP S 0 ∧ allT S = all ∧ Hist S (frKept d' S.per)) := by
  obtain ⟨B, h1, h2, h3, h4, h5, h6⟩ := h.base
  obtain ⟨d', seg, e', r1, r2, r3, r4, r5, r6, r7, r8⟩ := begin_core h1 h2 h3 h4 h.cr h5 hfree ht h6
  refine ⟨d', seg, e', r1, r2, r3, r4, r5, r6, r7, fun e => ?_⟩
  obtain ⟨S, a, b, c, f, g, i, _⟩ := r8 e
  exact ⟨S, a, b, c, f, g, i⟩
end Go.Proofs.YtlgefjcfnnjkbaaDoor
