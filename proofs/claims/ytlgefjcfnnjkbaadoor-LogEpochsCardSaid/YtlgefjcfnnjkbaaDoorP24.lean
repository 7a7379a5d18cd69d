/- Parts of the proof, one behind the other: LogZe, LogZf, LogZg, LogZh, LogHc. Each part's own words say what it proves; no conditions. -/
import Derived.Test.YtlgefjcfnnjkbaaDoorP06
import Derived.Test.YtlgefjcfnnjkbaaDoorP07
import Derived.Test.YtlgefjcfnnjkbaaDoorP14
import Derived.Test.YtlgefjcfnnjkbaaDoorP22
import Derived.Test.YtlgefjcfnnjkbaaDoorP23
set_option linter.unusedVariables false
set_option linter.unusedSimpArgs false
set_option linter.unusedSectionVars false
/- A byte rots on a disk whose log is closed: it is told, or what is found is the same. Plain; no program is named; no conditions. -/
namespace Go.Proofs.YtlgefjcfnnjkbaaDoor
set_option maxRecDepth 100000

/-! ### The newest epoch, wherever it stands -/
theorem newRow_inv (g : Nat → Fr) (seg : Nat) (e : Int) (p : Int × Nat) (hp : p.1 < e) : ∀ n, (∀ k, k < n → (g k).e ≤ e) → (newRow g seg n p).1 < e ∨ newRow g seg n p = (e, seg)
  | 0, _ => .inl (by simpa [newRow] using hp)
  | n + 1, h => by
    have ih := newRow_inv g seg e p hp n (fun k hk => h k (by omega))
    have h2 := h n (by omega)
    rw [newRow_succ]
    simp only
    split
    · by_cases e2 : (g n).e = e
      · rw [e2]; exact .inr rfl
      · left; simp only; omega
    · exact ih
theorem newRow_ge (g : Nat → Fr) (seg : Nat) (p : Int × Nat) : ∀ n k, k < n → (g k).e ≤ (newRow g seg n p).1
  | 0, _, h => by omega
  | n + 1, k, h => by
    rw [newRow_succ]
    simp only
    by_cases hk : k < n
    · have ih := newRow_ge g seg p n k hk
      split
      · simp only; omega
      · exact ih
    · obtain rfl : k = n := by omega
      split
      · exact Int.le_refl _
      · omega
theorem newRow_hit2 (g : Nat → Fr) (seg : Nat) (e : Int) (p : Int × Nat) (hp : p.1 < e) (n a : Nat) (ha : a < n) (h0 : (g a).e = e) (h : ∀ k, k < n → (g k).e ≤ e) : newRow g seg n p = (e, seg) := by
  rcases newRow_inv g seg e p hp n h with h1 | h1
  · have := newRow_ge g seg p n a ha; omega
  · exact h1
theorem newest_is2 (g : Nat → Nat → Fr) (per n : Nat) (e : Int) (he : 0 < e) (a0 : Nat) (ha0 : a0 < per) (h0 : (g n a0).e = e) (hn : ∀ k, k < per → (g n k).e ≤ e) : ∀ segs, (∀ k a, k < segs → a < per → k ≠ n → (g k a).e < e) →
    (segs ≤ n → (newest g per segs).1 < e) ∧ (n < segs → newest g per segs = (e, n))
  | 0, _ => ⟨fun _ => by simpa [newest] using he, fun h => by omega⟩
  | m + 1, h => by
    obtain ⟨i1, i2⟩ := newest_is2 g per n e he a0 ha0 h0 hn m (fun k a hk ha hne => h k a (by omega) ha hne)
    rw [newest_succ]
    refine ⟨fun hle => newRow_lt _ _ e _ (i1 (by omega)) per (fun k hk => h m k (by omega) hk (by omega)), fun hlt => ?_⟩
    by_cases hm : m = n
    · subst hm
      exact newRow_hit2 _ _ e _ (i1 (Nat.le_refl _)) per a0 ha0 h0 hn
    · have hlt' : n < m := by omega
      rw [i2 hlt']
      exact newRow_stay _ _ _ per (fun k hk => by have := h m k (by omega) hk hm; simp only; omega)
theorem sound_ne {g : Nat → Fr} {e : Int} {a b k : Nat} (h1 : a ≤ k) (h2 : k < b) (h : badAt g e k = true) : ∃ y, sound g e a b = some y ∧ a ≤ y ∧ y < b := by
  unfold sound
  cases hf : (List.range' a (b - a)).find? (badAt g e) with
  | none =>
    have := List.find?_eq_none.1 hf k (List.mem_range'.2 ⟨k - a, by omega, by omega⟩)
    exact absurd h this
  | some y =>
    obtain ⟨i, q1, q2⟩ := List.mem_range'.1 (List.mem_of_find?_eq_some hf)
    exact ⟨y, rfl, by omega, by omega⟩
theorem sound_lt {g : Nat → Fr} {e : Int} {a b y : Nat} (h : sound g e a b = some y) : y < b := by
  unfold sound at h
  obtain ⟨i, q1, q2⟩ := List.mem_range'.1 (List.mem_of_find?_eq_some h)
  omega
theorem soundAll_some {g : Nat → Nat → Fr} {per : Nat} {c : List Us} (k : Nat) : ∀ l : List Nat, k ∈ l → sound (g k) (c.getD k Us.no).e 0 (c.getD k Us.no).c.toNat ≠ none →
    ∃ x, soundAll g per c l = some x ∧ ∃ j, j ∈ l ∧ ∃ y, y < (c.getD j Us.no).c.toNat ∧ x = j * per + y
  | [], h, _ => by cases h
  | j :: r, h, hs => by
    unfold soundAll
    cases hj : sound (g j) (c.getD j Us.no).e 0 (c.getD j Us.no).c.toNat with
    | some y => exact ⟨_, rfl, j, by simp, y, sound_lt hj, rfl⟩
    | none =>
      have hm : k ∈ r := by
        rcases List.mem_cons.1 h with rfl | h
        · exact absurd hj hs
        · exact h
      obtain ⟨x, h1, i, h2, h3⟩ := soundAll_some k r hm hs
      exact ⟨x, h1, i, by simp [h2], h3⟩

/-- what is found behind a byte that rots -/
inductive Rotted (S : Sh) (g' : Nat → Nat → Fr) : Prop where
  | told (x : Nat) (h : look g' S.per S.segs = .inr x) (hx : x < S.segs * S.per)
  | same (P : Sh) (p : Nat) (hper : P.per = S.per) (hsegs : P.segs = S.segs) (ok : P.Ok) (st : P.Stands g' p) (tight : looseI (P.B P.n) = true → 2 + iLen (P.B P.n) ≤ P.per)
      (hm : ∀ m, m ≤ (P.B P.n).length → iLen ((P.B P.n).take m) ≤ p → (m < (P.B P.n).length → p < iLen ((P.B P.n).take (m + 1))) → oldP P ++ (((P.B P.n).take m).filterMap id).map (fun s => (P.e, s)) = allP S)
  | blank (h : ∀ k a, k < S.segs → a < S.per → (g' k a).e = 0) (ha : allP S = [])

theorem take_whole {P : Sh} {m : Nat} (_ : m ≤ (P.B P.n).length) (h3 : m < (P.B P.n).length → iLen (P.B P.n) < iLen ((P.B P.n).take (m + 1))) : (P.B P.n).take m = P.B P.n := by
  refine List.take_of_length_le ?_
  rcases Nat.lt_or_ge m (P.B P.n).length with h | h
  · have := h3 h
    have := iLen_take_le (P.B P.n) (m + 1)
    omega
  · exact h
theorem Rotted.stay {S : Sh} {g' : Nat → Nat → Fr} (ok : S.Ok) (cl : looseI (S.B S.n) = false) (st : S.Stands g' (iLen (S.B S.n))) : Rotted S g' :=
  .same S _ rfl rfl ok st (fun e => by rw [cl] at e; cases e) fun m h1 _ h3 => by rw [take_whole h1 h3]; rfl
theorem badAt_zero {g : Nat → Fr} {e : Int} {k : Nat} (h : g k = zeroFr) (he : 1 ≤ e) : badAt g e k = true := by
  unfold badAt
  rw [h]
  have : ((zeroFr.e != e) : Bool) = true := by
    rw [bne_iff_ne]; show (0 : Int) ≠ e; omega
  rw [this]; rfl

section
variable {S : Sh} (ok : S.Ok) {g g' : Nat → Nat → Fr} (st : S.Stands g (iLen (S.B S.n))) (cl : looseI (S.B S.n) = false) {k0 a0 : Nat} (hk0 : k0 < S.segs) (ha0 : a0 < S.per)
  (hg : ∀ k a, k < S.segs → a < S.per → ¬ (k = k0 ∧ a = a0) → g' k a = g k a) (hz : g' k0 a0 = zeroFr)
include ok st cl hk0 ha0 hg hz
theorem rot_other (hn : k0 ≠ S.n) : Rotted S g' := by
  have h4 := ok.per4
  have hf := ok.fits
  have he := ok.epos
  have hsame : ∀ a, a < S.per → g' S.n a = g S.n a := fun a ha => hg _ _ ok.nlt ha (fun e => hn e.1.symm)
  have hlek : ∀ k a, k < S.segs → a < S.per → k ≠ S.n → (g' k a).e < S.e := fun k a hk ha hne => by
    by_cases e : k = k0 ∧ a = a0
    · obtain ⟨rfl, rfl⟩ := e
      rw [hz]; show (0 : Int) < _; omega
    · rw [hg k a hk ha e]; exact st.rest k a hk ha hne
  by_cases hc : (S.c.getD k0 Us.no).e ≠ 0 ∧ a0 < 1 + iLen (S.B k0)
  · obtain ⟨hc0, hc1⟩ := hc
    have hnew : newest g' S.per S.segs = (S.e, S.n) := (newest_is g' S.per S.n S.e (by omega) (by omega) (by rw [hsame 0 (by omega), st.link]) (fun k hk => by rw [hsame k hk]; exact st.le ok k hk) S.segs hlek).2 ok.nlt
    have hlink : linkP (g' S.n 0) S.n S.per S.segs = some S.c := by rw [hsame 0 (by omega)]; exact st.link_is ok
    have hkl : k0 < S.c.length := by rw [ok.ch.len]; have := ok.segs; omega
    obtain ⟨y0, hy0, _⟩ := sound_ne (g := g' k0) (e := (S.c.getD k0 Us.no).e) (a := 0) (b := (S.c.getD k0 Us.no).c.toNat) (k := a0) (Nat.zero_le _) (by rw [ok.count k0 hc0]; omega) (badAt_zero hz (ok.count_le hc0).2.2.2.1)
    obtain ⟨x, hx, j, hj, y, hy, rfl⟩ := soundAll_some (g := g') (per := S.per) (c := S.c) k0 (orderL S.c) ((mem_orderL _ _).2 ⟨hkl, hc0⟩) (by rw [hy0]; simp)
    have hje := ((mem_orderL _ _).1 hj).2
    have hjl := ok.count_le hje
    rw [ok.count j hje] at hy
    refine .told (j * S.per + y) ?_ (sec_lt (by omega) hjl.1 (Nat.le_refl _))
    unfold look
    simp only [hnew]
    rw [if_neg (by omega), if_pos (by rw [hsame 0 (by omega), st.link]), hlink]
    simp only [hx]
  · refine .stay ok cl ⟨Nat.le_refl _, ?_, fun k hk => ?_, fun k hk i hi => ?_, fun i hi => ?_, fun i hi hi2 => ?_, hlek⟩
    · rw [hsame 0 (by omega)]; exact st.link
    · have hkc := ok.count_le hk
      rw [hg k 0 hkc.1 (by omega) (fun e => hc ⟨by rw [← e.1]; exact hk, by omega⟩)]; exact st.old0 k hk
    · have hkc := ok.count_le hk
      rw [hg k (1 + i) hkc.1 (by omega) (fun e => hc ⟨by rw [← e.1]; exact hk, by rw [← e.2, ← e.1]; omega⟩)]; exact st.old k hk i hi
    · rw [hsame _ (by omega)]; exact st.new i hi
    · rw [hsame _ hi2]; exact st.far i hi hi2
omit hk0 in
theorem rot_newest (hn : k0 = S.n) (hh : Hist S g) (h0 : S.B S.n = [] → ∀ a, 1 ≤ a → a < S.per → (g S.n a).e = 0) : Rotted S g' := by
  have h4 := ok.per4
  have hf := ok.fits
  have he := ok.epos
  have hoth : ∀ k a, k < S.segs → a < S.per → k ≠ S.n → g' k a = g k a := fun k a hk ha hne => hg k a hk ha (fun e => hne (e.1.trans hn))
  have hown : ∀ a, a < S.per → a ≠ a0 → g' S.n a = g S.n a := fun a ha hne => hg _ a ok.nlt ha (fun e => hne e.2)
  have hz' : g' S.n a0 = zeroFr := by rw [← hn]; exact hz
  have hlek : ∀ k a, k < S.segs → a < S.per → k ≠ S.n → (g' k a).e < S.e := fun k a hk ha hne => by
    rw [hoth k a hk ha hne]; exact st.rest k a hk ha hne
  have hleo : ∀ a, a < S.per → (g' S.n a).e ≤ S.e := fun a ha => by
    by_cases e : a = a0
    · subst e; rw [hz']; show (0 : Int) ≤ _; omega
    · rw [hown a ha e]; exact st.le ok a ha
  have hold : ∀ k, (S.c.getD k Us.no).e ≠ 0 → ((g' k 0).e = (S.c.getD k Us.no).e ∧ (g' k 0).k = 1) ∧ ∀ i, i < iLen (S.B k) → g' k (1 + i) = (items (S.c.getD k Us.no).e 1 (S.B k)).getD i zeroFr := fun k hk => by
    have hkc := ok.count_le hk
    refine ⟨?_, fun i hi => ?_⟩
    · rw [hoth k 0 hkc.1 (by omega) hkc.2.2.1]; exact st.old0 k hk
    · rw [hoth k (1 + i) hkc.1 (by omega) hkc.2.2.1]; exact st.old k hk i hi
  by_cases ha : a0 = 0
  · subst ha
    cases hB : S.B S.n with
    | nil =>
      have hzz : ∀ a, a < S.per → (g' S.n a).e = 0 := fun a ha => by
        by_cases e : a = 0
        · subst e; rw [hz']; rfl
        · rw [hown a ha e]; exact h0 hB a (by omega) ha
      have hal : allP S = oldP S := by unfold allP newP; rw [hB]; simp
      rcases hh with ⟨hn0, hb⟩ | ⟨P, p1, p2, p3, p0, p4, p5⟩
      · refine .blank (fun k a hk ha => ?_) (by rw [hal]; exact hn0)
        by_cases e : k = S.n
        · subst e; exact hzz a ha
        · rw [hoth k a hk ha e]; exact hb k a hk ha e
      · exact .same P _ p1 p2 p3 (p5 g' hoth hzz) p0 fun m h1 _ h3 => by rw [take_whole h1 h3, hal, ← p4]; rfl
    | cons x r =>
      have hl1 : 1 ≤ iLen (S.B S.n) := by rw [hB]; exact Nat.le_trans (by simp) (iLen_ge (x :: r))
      have hit := ok.itemN 0 hl1
      have h1 : (g' S.n 1).e = S.e := by
        rw [hown 1 (by omega) (by omega)]
        have := st.new 0 hl1
        rw [this]; exact hit.1
      have hnew : newest g' S.per S.segs = (S.e, S.n) := (newest_is2 g' S.per S.n S.e (by omega) 1 (by omega) h1 hleo S.segs hlek).2 ok.nlt
      refine .told (S.n * S.per) ?_ (by have := sec_lt (show 0 < S.per by omega) ok.nlt (Nat.le_refl _); omega)
      unfold look
      simp only [hnew]
      rw [if_neg (by omega), if_neg (by rw [hz']; show ¬ (0 : Int) = _; omega)]
  · obtain ⟨i, rfl⟩ : ∃ i, a0 = 1 + i := ⟨a0 - 1, by omega⟩
    have hlink : g' S.n 0 = { e := S.e, a := 0, k := 1, s := chainText S.c S.segs } := by rw [hown 0 (by omega) (by omega)]; exact st.link
    by_cases hi : i < iLen (S.B S.n)
    · have hup := looseI_not cl
      have hq : ∃ q, S.B S.n = q ++ [none] := by
        rcases upSeal_last (S.B S.n) with h | ⟨q, h⟩
        · rw [hup] at h; rw [h] at hi; simp [iLen] at hi
        · exact ⟨q, by rw [← h, hup]⟩
      obtain ⟨q, hq⟩ := hq
      have hlq : iLen (S.B S.n) = iLen q + 1 := by rw [hq, iLen_append]; rfl
      by_cases hl : i = iLen q
      · -- the seal itself
        refine .same S i rfl rfl ok ⟨by omega, hlink, fun k hk => (hold k hk).1, fun k hk j hj => (hold k hk).2 j hj, fun j hj => ?_, fun j hj hj2 => ?_, hlek⟩ (fun e => by rw [cl] at e; cases e) fun m h1 h2 h3 => ?_
        · rw [hown _ (by omega) (by omega)]; exact st.new j (by omega)
        · by_cases e : j = i
          · subst e; left; rw [hz']; show (0 : Int) < _; omega
          · rw [hown _ hj2 (by omega)]
            rcases st.far j (by omega) hj2 with h | ⟨_, h, h'⟩
            · exact .inl h
            · exact .inr ⟨e, h, h'⟩
        · have hlen : (S.B S.n).length = q.length + 1 := by rw [hq]; simp
          have htq : ∀ n, n ≤ q.length → (S.B S.n).take n = q.take n := fun n hn => by rw [hq, List.take_append_of_le_length hn]
          have hmq : m = q.length := by
            rcases Nat.lt_trichotomy m q.length with h | h | h
            · have h5 := h3 (by omega)
              rw [htq _ (by omega)] at h5
              have := iLen_take_le q (m + 1)
              omega
            · exact h
            · have e : (S.B S.n).take m = S.B S.n := List.take_of_length_le (by omega)
              rw [e] at h2; omega
          rw [hmq, htq _ (Nat.le_refl _), List.take_length]
          unfold allP newP
          rw [hq]; simp
      · have hil : i < iLen q := by omega
        have hsl := st.sealed_is ok (S.B S.n).length (by rw [List.take_length]; exact Nat.le_refl _) (fun h => absurd h (Nat.lt_irrefl _))
        rw [List.take_length, hup] at hsl
        have hsf := sealed_facts (g S.n) S.e S.per
        rw [hsl] at hsf
        have hs2 : sealedTo (g' S.n) S.e S.per = iLen (S.B S.n) := by
          refine sealedTo_is S.per (.inl (by omega)) ?_ (fun x hx hx2 => ?_)
          · rcases hsf with h | ⟨h1, h2, h3, h4⟩
            · omega
            · right
              rw [hown _ h2 (by omega)]; exact ⟨h1, h3, h4⟩
          · obtain ⟨j, rfl⟩ : ∃ j, x = 1 + j := ⟨x - 1, by omega⟩
            rw [hown _ hx2 (by omega)]
            rintro ⟨q1, q2⟩
            rcases st.far j (by omega) hx2 with h | ⟨_, _, h'⟩
            · omega
            · exact h' q2
        have hnew : newest g' S.per S.segs = (S.e, S.n) := (newest_is g' S.per S.n S.e (by omega) (by omega) (by rw [hlink]) hleo S.segs hlek).2 ok.nlt
        have hln : linkP (g' S.n 0) S.n S.per S.segs = some S.c := by
          have := st.link_is ok
          rw [st.link] at this
          rw [hlink]; exact this
        have hso : soundAll g' S.per S.c (orderL S.c) = none := by
          refine soundAll_none _ fun k hk => ?_
          obtain ⟨_, hke⟩ := (mem_orderL S.c k).1 hk
          obtain ⟨o1, o2⟩ := hold k hke
          refine sound_none fun a _ ha => ?_
          rw [ok.count k hke] at ha
          rcases a with _ | j
          · simp [badAt, o1.1, o1.2]
          · obtain ⟨h1, h2⟩ := ok.item k hke j (by omega)
            unfold badAt
            rw [Nat.add_comm j 1, o2 j (by omega), h1, decide_eq_false h2, decide_eq_false (by omega)]
            simp
        obtain ⟨y, hy, hy1, hy2⟩ := sound_ne (g := g' S.n) (e := S.e) (a := 1) (b := iLen (S.B S.n)) (k := 1 + i) (by omega) (by omega) (badAt_zero hz' he.1)
        refine .told (S.n * S.per + y) ?_ (sec_lt (by omega) ok.nlt (Nat.le_refl _))
        unfold look
        simp only [hnew]
        rw [if_neg (by omega), if_pos (by rw [hlink]), hln]
        simp only [hso, hs2, hy]
    · refine .stay ok cl ⟨Nat.le_refl _, hlink, fun k hk => (hold k hk).1, fun k hk j hj => (hold k hk).2 j hj, fun j hj => ?_, fun j hj hj2 => ?_, hlek⟩
      · rw [hown _ (by omega) (by omega)]; exact st.new j hj
      · by_cases e : j = i
        · subst e; left; rw [hz']; show (0 : Int) < _; omega
        · rw [hown _ hj2 (by omega)]; exact st.far j hj hj2
end

/-! ### Opening behind a byte that rots -/
def RotOut (S : Sh) (n : Nat) : Opened → Prop
  | .rot x => x < n
  | .ok _ _ p => p = allP S
  | .err _ _ => False
theorem rot_cut (d : D) (k p m : Nat) : (d.rot k p m).cut = d.cut := rfl
theorem rot_len (d : D) (k p m : Nat) : (d.rot k p m).kept.length = d.kept.length := by simp [D.rot]
theorem rotted_open {S : Sh} {d : D} (h4 : 4 ≤ S.per) (dok : d.Ok) (hlen : d.kept.length = S.segs * S.per) (hcut : d.cut = false) (h : Rotted S (frAt d S.per)) : RotOut S d.kept.length (openL d S.per) := by
  have hseg : d.kept.length / S.per = S.segs := by rw [hlen]; exact Nat.mul_div_cancel _ (by omega)
  cases h with
  | told x h hx =>
    have : openL d S.per = .rot x := by
      unfold openL
      simp only
      rw [hseg, h]
    rw [this, hlen]; exact hx
  | same P p hper hsegs ok st tight hm =>
    rw [← hper] at st hseg ⊢
    rw [← hsegs] at hseg
    obtain ⟨m, d', l', S', m1, m2, m3, ho, _⟩ := open_stands ok dok (by rw [hlen, hper, hsegs]; exact Nat.le_refl _) hseg hcut st tight
    rw [ho]; exact hm m m1 m2 m3
  | blank h ha =>
    rw [open_blank (fun k a hk ha => h k a (by rw [← hseg]; exact hk) ha)]; exact ha.symm
theorem rot_open {S : Sh} (ok : S.Ok) {d : D} (dok : d.Ok) (hlen : d.kept.length = S.segs * S.per) (hcut : d.cut = false) (hp : d.pend = []) (st : S.Stands (frAt d S.per) (iLen (S.B S.n))) (cl : looseI (S.B S.n) = false) (hh : Hist S (frAt d S.per))
    (h0 : S.B S.n = [] → ∀ a, 1 ≤ a → a < S.per → (frAt d S.per S.n a).e = 0) (sect : Sect d) (k p m : Nat) (hk : k < d.kept.length) (hpl : p < 64) (hm : m ≤ 255) : RotOut S d.kept.length (openL (d.rot k p m) S.per) := by
  have h4 := ok.per4
  have hk0 : k / S.per < S.segs := Nat.div_lt_of_lt_mul (by rw [Nat.mul_comm]; omega)
  have ha0 : k % S.per < S.per := Nat.mod_lt _ (by omega)
  have hkk : k / S.per * S.per + k % S.per = k := Nat.div_add_mod' k S.per
  have hs := fun seg a => sect.rot dok hp S.per k p m hk hpl hm seg a
  have hg : ∀ a b, a < S.segs → b < S.per → ¬ (a = k / S.per ∧ b = k % S.per) → frAt (d.rot k p m) S.per a b = frAt d S.per a b := fun a b ha hb hne => (hs a b).1 fun e => by
    rw [← hkk] at e
    exact hne (sec_inj hb ha0 e)
  have hR : Rotted S (frAt (d.rot k p m) S.per) := by
    rcases (hs (k / S.per) (k % S.per)).2 with e | e
    · refine .stay ok cl (st.congr ok fun a b ha hb => ?_)
      by_cases hc : a = k / S.per ∧ b = k % S.per
      · rw [hc.1, hc.2]; exact e
      · exact hg a b ha hb hc
    · by_cases hn : k / S.per = S.n
      · exact rot_newest ok st cl ha0 hg e hn hh h0
      · exact rot_other ok st cl hk0 ha0 hg e hn
  have := rotted_open h4 (dok.rot k p m hk) (by rw [rot_len]; exact hlen) (by rw [rot_cut]; exact hcut) hR
  rw [rot_len] at this
  exact this
theorem rot_blank {d : D} {per : Nat} (_ : 4 ≤ per) (dok : d.Ok) (hp : d.pend = []) (sect : Sect d) (hz : ∀ k a, k < d.kept.length / per → a < per → (frAt d per k a).e = 0) (k p m : Nat) (hk : k < d.kept.length) (hpl : p < 64) (hm : m ≤ 255) :
    openL (d.rot k p m) per = .ok (d.rot k p m) (Lg.new per (d.kept.length / per)) [] := by
  have := open_blank (d := d.rot k p m) (per := per) (fun a b ha hb => by
    rw [rot_len] at ha
    rcases (sect.rot dok hp per k p m hk hpl hm a b).2 with e | e
    · rw [e]; exact hz a b ha hb
    · rw [e]; rfl)
  rw [rot_len] at this
  exact this
end Go.Proofs.YtlgefjcfnnjkbaaDoor
/- What an opening makes of what is found; opened again; a byte that rots then. Plain; no program is named; no conditions. -/
namespace Go.Proofs.YtlgefjcfnnjkbaaDoor
set_option maxRecDepth 100000

/-- a log that was opened -/
inductive OpSt (per segs : Nat) (d : D) (l : Lg) (ps : List (Int × List UInt8)) : Prop where
  | new (hl : l = Lg.new per segs) (hz : ∀ k a, k < segs → a < per → (frAt d per k a).e = 0) (hp : ps = [])
  | old (S : Sh) (hper : S.per = per) (hsegs : S.segs = segs) (h : LInv S (iLen (S.B S.n)) d l) (hw : l.chain = wholeC S) (hp : d.pend = []) (cl : looseI (S.B S.n) = false) (ha : allP S = ps) (hh : Hist S (frKept d S.per))
      (h0 : S.B S.n = [] → ∀ a, 1 ≤ a → a < S.per → (frKept d S.per S.n a).e = 0) (opn : l.opn = false)
theorem frAt_kept {d : D} (hp : d.pend = []) (per : Nat) : frAt d per = frKept d per := by
  funext k a
  unfold frAt frKept
  rw [D.there_nopend d _ (fun x hx => by rw [hp] at hx; cases hx)]
theorem LInv.std {S : Sh} {d : D} {l : Lg} (h : LInv S (iLen (S.B S.n)) d l) : S.Std (frKept d S.per) (iLen (S.B S.n)) := h.inv.cr.kept
/-- what is opened of a shape that stands -/
theorem opened_st {S : Sh} (ok : S.Ok) {d : D} (dok : d.Ok) (hlen : d.kept.length = S.segs * S.per) (hcut : d.cut = false) {p : Nat} (st : S.Stands (frAt d S.per) p) (tight : looseI (S.B S.n) = true → 2 + iLen (S.B S.n) ≤ S.per) (hh : Hist S (frAt d S.per)) :
    ∃ m d' l', m ≤ (S.B S.n).length ∧ iLen ((S.B S.n).take m) ≤ p ∧ (m < (S.B S.n).length → p < iLen ((S.B S.n).take (m + 1))) ∧
      openL d S.per = .ok d' l' (oldP S ++ (((S.B S.n).take m).filterMap id).map fun s => (S.e, s)) ∧ OpSt S.per S.segs d' l' (oldP S ++ (((S.B S.n).take m).filterMap id).map fun s => (S.e, s)) ∧ d'.pend = [] ∧ d'.cut = false ∧ d'.kept.length = d.kept.length ∧ l'.top = S.e := by
  have h4 := ok.per4
  have hseg : d.kept.length / S.per = S.segs := by rw [hlen]; exact Nat.mul_div_cancel _ (by omega)
  obtain ⟨m, d', l', S', m1, m2, m3, ho, hS⟩ := open_stands ok dok (by rw [hlen]; exact Nat.le_refl _) hseg hcut st tight
  have hold : oldP S' = oldP S := by
    unfold oldP
    rw [hS.c]
    congr 1
    refine List.map_congr_left fun k hk => ?_
    have hke := ((mem_orderL S.c k).1 hk).2
    rw [hS.Bo k (ok.count_le hke).2.2.1]
  have hall : allP S' = oldP S ++ (((S.B S.n).take m).filterMap id).map fun s => (S.e, s) := by
    unfold allP newP
    rw [hold, hS.B, closeB_some, hS.e]
  have hB : looseI (S'.B S'.n) = false := by rw [hS.B]; exact closeB_loose _
  refine ⟨m, d', l', m1, m2, m3, ho, .old S' hS.per hS.segs hS.inv hS.whole hS.pend hB hall ?_ ?_ hS.opn, hS.pend, hS.cut, hS.len, by rw [hS.inv.top, hS.e]⟩
  · exact hh.congr hS.per hS.segs hS.n hold fun k a hk ha hne => by rw [hS.per]; exact hS.other k a hk ha hne
  · intro e a ha1 hap
    rw [hS.per] at hap ⊢
    rw [hS.n, hS.zero a (by rw [e]; simpa [iLen] using ha1) hap]; rfl
theorem nP_eq (S : Sh) (m : Nat) : (oldP S ++ (((S.B S.n).take m).filterMap id).map fun s => (S.e, s)).length = nP S m := by simp [nP]
theorem nP_mono (S : Sh) {m n : Nat} (h : m ≤ n) : nP S m ≤ nP S n := by
  unfold nP
  have e : (S.B S.n).take m = ((S.B S.n).take n).take m := by rw [List.take_take, Nat.min_eq_left h]
  rw [e]
  have := ((List.take_sublist m ((S.B S.n).take n)).filterMap id).length_le
  omega
theorem part_prefix (S : Sh) (m : Nat) : (oldP S ++ (((S.B S.n).take m).filterMap id).map fun s => (S.e, s)).map Prod.snd <+: allT S := by
  unfold allT allP newP
  rw [List.map_append, List.map_append, List.map_map, List.map_map]
  refine List.prefix_append_right_inj _ |>.2 ?_
  have : (S.B S.n).filterMap id = ((S.B S.n).take m).filterMap id ++ ((S.B S.n).drop m).filterMap id := by rw [← List.filterMap_append, List.take_append_drop]
  rw [this, List.map_append]
  exact List.prefix_append _ _
/-- what is opened of what is found -/
theorem fnd_open {per segs : Nat} {d : D} {sure : Nat} {all : List (List UInt8)} (h4 : 4 ≤ per) (dok : d.Ok) (hlen : d.kept.length = segs * per) (hcut : d.cut = false) (hF : Fnd per segs d.there sure all) :
    ∃ d' l' ps, openL d per = .ok d' l' ps ∧ sure ≤ ps.length ∧ ps.map Prod.snd <+: all ∧ OpSt per segs d' l' ps ∧ d'.pend.length ≤ d.pend.length ∧ d'.cut = false ∧ d'.kept.length = d.kept.length ∧ d'.Ok := by
  have hseg : d.kept.length / per = segs := by rw [hlen]; exact Nat.mul_div_cancel _ (by omega)
  rcases hF with ⟨h0, hz⟩ | ⟨S, p, m0, rfl, rfl, ok, st, hm0, hp, hs, ha, ht, hh⟩
  · have := open_blank (d := d) (per := per) (fun k a hk ha => hz k a (by rw [← hseg]; exact hk) ha)
    rw [hseg] at this
    exact ⟨d, _, [], this, by omega, by simp, .new rfl hz rfl, Nat.le_refl _, hcut, rfl, dok⟩
  · obtain ⟨m, d', l', m1, m2, m3, ho, hO, h1, h2, h3, _⟩ := opened_st ok dok hlen hcut st ht hh
    have hd : d'.Ok := by
      cases hO with
      | new hl hz hp =>
        have e : openL d S.per = .ok d' l' _ := ho
        exfalso
        have hx := hz S.n 0 ok.nlt (by omega)
        have := st.link
        obtain ⟨m, d1, l1, S1, _, _, _, ho1, hS1⟩ := open_stands ok dok (by rw [hlen]; exact Nat.le_refl _) hseg hcut st ht
        rw [ho1] at ho
        obtain ⟨rfl, rfl, _⟩ := Opened.ok.inj ho
        have := hS1.inv.top
        rw [hl] at this
        have hh := hS1.inv.inv.cr.ok.epos
        have : (0 : Int) = S1.e := this
        omega
      | old S' hper hsegs h hw hp cl ha hh h0 opn => exact h.inv.cr.dok
    refine ⟨d', l', _, ho, ?_, (part_prefix S m).trans ha, hO, by rw [h1]; simp, h2, h3, hd⟩
    rw [nP_eq]
    refine Nat.le_trans hs (nP_mono S ?_)
    rcases Nat.lt_or_ge m m0 with h | h
    · have h5 := m3 (by omega)
      have := iLen_mono (S.B S.n) (m + 1) m0 (by omega)
      omega
    · exact h
/-- opened again -/
theorem open_again {per segs : Nat} {d : D} {l : Lg} {ps : List (Int × List UInt8)} (h4 : 4 ≤ per) (hlen : d.kept.length = segs * per) (hcut : d.cut = false) (h : OpSt per segs d l ps) :
    ∃ d' l', openL d per = .ok d' l' ps ∧ l'.uses = l.uses ∧ l'.free = l.free ∧ OpSt per segs d' l' ps ∧ d'.cut = false ∧ d'.kept.length = d.kept.length ∧ (d.pend = [] → d'.pend = []) ∧ l'.top = l.top := by
  have hseg : d.kept.length / per = segs := by rw [hlen]; exact Nat.mul_div_cancel _ (by omega)
  cases h with
  | new hl hz hp =>
    have := open_blank (d := d) (per := per) (fun k a hk ha => hz k a (by rw [← hseg]; exact hk) ha)
    rw [hseg] at this
    subst hl; subst hp
    exact ⟨d, _, this, rfl, rfl, .new rfl hz rfl, hcut, rfl, id, rfl⟩
  | old S hper hsegs h hw hp cl ha hh h0 opn =>
    subst hper; subst hsegs
    have ok := h.inv.cr.ok
    have e := frAt_kept hp S.per
    have hst := h.std.st
    rw [← e] at hst hh
    obtain ⟨m, d', l', S', m1, m2, m3, ho, hS⟩ := open_stands ok h.inv.cr.dok (by rw [hlen]; exact Nat.le_refl _) hseg hcut hst (fun e => by rw [cl] at e; cases e)
    obtain ⟨m', d2, l2, q1, q2, q3, q4, q5, q6, q7, q8, q9⟩ := opened_st ok h.inv.cr.dok hlen hcut hst (fun e => by rw [cl] at e; cases e) hh
    rw [ho] at q4
    obtain ⟨rfl, rfl, _⟩ := Opened.ok.inj q4
    have hm : (S.B S.n).take m = S.B S.n := take_whole m1 m3
    have hm' : (S.B S.n).take m' = S.B S.n := take_whole q1 q3
    have hps : oldP S ++ (((S.B S.n).take m').filterMap id).map (fun s => (S.e, s)) = ps := by rw [hm', ← ha]; rfl
    have hB : S'.B S'.n = S.B S.n := by
      rw [hS.B, hm]
      unfold closeB
      rw [cl]; simp
    have hch : l'.chain = l.chain := by
      rw [hS.whole, hw]
      unfold wholeC
      rw [hB, hS.c, hS.n, hS.e]
    rw [hps] at q5
    refine ⟨d', l', ?_, ?_, ?_, q5, q7, q8, fun _ => q6, by rw [q9, h.top]⟩
    · rw [ho]
      have : oldP S ++ (((S.B S.n).take m).filterMap id).map (fun s => (S.e, s)) = ps := by rw [hm, ← ha]; rfl
      rw [this]
    · unfold Lg.uses
      rw [hS.inv.down, h.down, hch]
    · unfold Lg.free
      rw [hS.inv.down, h.down, hch, hS.inv.segs, hS.segs, h.segs]
/-- a byte rots -/
def RotPs (ps : List (Int × List UInt8)) (n : Nat) : Opened → Prop
  | .rot x => x < n
  | .ok _ _ p => p = ps
  | .err _ _ => False
theorem rot_opst {per segs : Nat} {d : D} {l : Lg} {ps : List (Int × List UInt8)} (h4 : 4 ≤ per) (dok : d.Ok) (hlen : d.kept.length = segs * per) (hcut : d.cut = false) (hp : d.pend = []) (sect : Sect d) (h : OpSt per segs d l ps) (k p m : Nat) (hk : k < d.kept.length) (hpl : p < 64) (hm : m ≤ 255) :
    RotPs ps d.kept.length (openL (d.rot k p m) per) := by
  have hseg : d.kept.length / per = segs := by rw [hlen]; exact Nat.mul_div_cancel _ (by omega)
  cases h with
  | new hl hz hp' =>
    rw [rot_blank h4 dok hp sect (fun a b ha hb => hz a b (by rw [← hseg]; exact ha) hb) k p m hk hpl hm]
    exact hp'.symm
  | old S hper hsegs h hw hp cl ha hh h0 opn =>
    subst hper; subst hsegs
    have e := frAt_kept hp S.per
    have hst := h.std.st
    rw [← e] at hst hh h0
    have := rot_open h.inv.cr.ok dok hlen hcut hp hst cl hh h0 sect k p m hk hpl hm
    rw [← ha]
    revert this
    cases openL (d.rot k p m) S.per <;> exact id
/-- a log that is shut, opened -/
theorem Shut.opst {d : D} {l : Lg} {all : List (List UInt8)} (h : Shut d l all) : ∃ l' ps, OpSt l.per l.segs d l' ps ∧ ps.map Prod.snd = all ∧ l'.top = l.top ∧ d.Ok ∧ d.pend = [] := by
  cases h with
  | new h ha =>
    refine ⟨Lg.new l.per l.segs, [], .new rfl (fun k a hk ha => ?_) rfl, by rw [ha]; rfl, ?_, h.dok, h.pend⟩
    · rw [frAt_kept h.pend]; exact h.zero k a hk ha
    · rw [h.is]; rfl
  | old S h hw hp hl ha hh hne =>
    have hc : LInv S (iLen (S.B S.n)) d { l with opn := false } := ⟨h.inv, h.per, h.segs, h.top, h.last, h.len, h.use, h.sub, h.down, h.loose, h.tight⟩
    exact ⟨{ l with opn := false }, allP S, .old S h.per.symm h.segs.symm hc hw hp hl rfl hh (fun e => absurd e hne) rfl, ha, rfl, h.inv.cr.dok, hp⟩
end Go.Proofs.YtlgefjcfnnjkbaaDoor
/- A segment is taken out of a chain, another one is opened: what is found then. Plain; no program is named; no conditions. -/
namespace Go.Proofs.YtlgefjcfnnjkbaaDoor
set_option maxRecDepth 100000

theorem wholeC_len {S : Sh} (ok : S.Ok) : (wholeC S).length = 12 := by unfold wholeC; rw [List.length_set, ok.ch.len]
theorem wholeC_ne {S : Sh} {k : Nat} (h : k ≠ S.n) : (wholeC S).getD k Us.no = S.c.getD k Us.no := getD_set_ne h
theorem wholeC_n {S : Sh} (ok : S.Ok) : (wholeC S).getD S.n Us.no = ⟨S.e, ((1 + iLen (S.B S.n) : Nat) : Int)⟩ := getD_set_eq (by rw [ok.ch.len]; have := ok.nlt; have := ok.segs; omega)
theorem wholeC_apart {S : Sh} (ok : S.Ok) : Apart (wholeC S) := fun i j hi hij => by
  have he := ok.epos
  by_cases ei : i = S.n
  · by_cases ej : j = S.n
    · omega
    · subst ei
      rw [wholeC_n ok, wholeC_ne ej] at hij
      have h2 : (S.c.getD j Us.no).e ≠ 0 := by simp only at hij; omega
      have := (ok.count_le h2).2.2.2.2
      simp only at hij; omega
  · by_cases ej : j = S.n
    · subst ej
      rw [wholeC_n ok, wholeC_ne ei] at hij
      rw [wholeC_ne ei] at hi
      have := (ok.count_le hi).2.2.2.2
      simp only at hij; omega
    · rw [wholeC_ne ei] at hi
      rw [wholeC_ne ei, wholeC_ne ej] at hij
      exact ok.ch.apart i j hi hij
def segP (c : List Us) (B : Nat → List It) (k : Nat) : List (Int × List UInt8) := ((B k).filterMap id).map fun s => ((c.getD k Us.no).e, s)
theorem allP_flat {S : Sh} (ok : S.Ok) : allP S = ((orderL (wholeC S)).map (segP (wholeC S) S.B)).flatten := by
  show _ = ((orderL (S.c.set S.n ⟨S.e, _⟩)).map (segP (wholeC S) S.B)).flatten
  rw [order_whole ok, List.map_append, List.flatten_append]
  unfold allP
  congr 1
  · unfold oldP
    congr 1
    refine List.map_congr_left fun k hk => ?_
    have hke := ((mem_orderL S.c k).1 hk).2
    unfold segP
    rw [wholeC_ne (ok.count_le hke).2.2.1]
  · simp only [List.map_cons, List.map_nil, List.flatten_cons, List.flatten_nil, List.append_nil, newP, segP, wholeC_n ok]
theorem filter_flat (F : Nat → List (Int × List UInt8)) (E : Nat → Int) (hF : ∀ j, ∀ q ∈ F j, q.1 = E j) (x : Int) (k : Nat) : ∀ L : List Nat, (∀ j ∈ L, (E j = x ↔ j = k)) → ((L.map F).flatten).filter (fun q => q.1 != x) = ((L.filter (fun j => j != k)).map F).flatten
  | [], _ => rfl
  | j :: L, h => by
    have ih := filter_flat F E hF x k L (fun i hi => h i (by simp [hi]))
    have hj := h j (by simp)
    rw [List.map_cons, List.flatten_cons, List.filter_append, ih]
    by_cases e : j = k
    · rw [List.filter_cons_of_neg (by simp [e])]
      have : (F j).filter (fun q => q.1 != x) = [] := by
        rw [List.filter_eq_nil_iff]
        intro q hq
        have := hF j q hq
        rw [this, hj.2 e]; simp
      rw [this, List.nil_append]
    · rw [List.filter_cons_of_pos (by simp [e]), List.map_cons, List.flatten_cons]
      have : (F j).filter (fun q => q.1 != x) = F j := by
        rw [List.filter_eq_self]
        intro q hq
        have := hF j q hq
        rw [this]
        have : E j ≠ x := fun h2 => e (hj.1 h2)
        simpa using this
      rw [this]

section
variable {S : Sh} {d : D} {l : Lg} (h : LInv S (iLen (S.B S.n)) d l)
include h
theorem LInv.retire (hw : l.chain = wholeC S) {k : Nat} (hk : (S.c.getD k Us.no).e ≠ 0) : l.retire (S.c.getD k Us.no).e = ({ l with chain := l.chain.set k Us.no }, 0) ∧ LInv S (iLen (S.B S.n)) d { l with chain := l.chain.set k Us.no } := by
  have ok := h.inv.cr.ok
  have hc := ok.count_le hk
  have hs := ok.segs
  have hkk : (l.chain.getD k Us.no) = S.c.getD k Us.no := by rw [hw, wholeC_ne hc.2.2.1]
  constructor
  · unfold Lg.retire
    rw [if_neg (by
      rw [h.down, h.top]
      rintro (h1 | h1 | h1)
      · cases h1
      · omega
      · omega)]
    have : ((List.range 12).find? fun j => (l.chain.getD j Us.no).e == (S.c.getD k Us.no).e) = some k := by
      rw [List.find?_range_eq_some]
      refine ⟨by rw [hkk]; simp, by simp; omega, fun j hj => ?_⟩
      have : (l.chain.getD j Us.no).e ≠ (S.c.getD k Us.no).e := fun e => by
        rw [← hkk, hw] at e
        have := wholeC_apart ok j k (by rw [e, wholeC_ne hc.2.2.1]; exact hk) e
        omega
      simpa using this
    rw [this]
  · refine ⟨h.inv, h.per, h.segs, h.top, h.last, by simp only [List.length_set]; exact h.len, ?_, fun j => ?_, h.down, h.loose, h.tight⟩
    · show (l.chain.set k Us.no).getD S.n Us.no = _
      rw [getD_set_ne (fun e => hc.2.2.1 e.symm)]; exact h.use
    · show (l.chain.set k Us.no).getD j Us.no = _ ∨ (l.chain.set k Us.no).getD j Us.no = _
      by_cases e : j = k
      · subst e; rw [getD_set_eq (by rw [h.len]; omega)]; exact .inl rfl
      · rw [getD_set_ne e]; exact h.sub j
/-- a segment is opened while there is power -/
theorem LInv.begun (hcut : d.cut = false) (hlen : d.kept.length = S.segs * S.per) (hfree : ∃ k, k < l.segs ∧ l.chain.getD k Us.no = Us.no) (ht : S.e + 1 ≤ 16777215) :
    ∃ d' seg, l.begin_ d = (d', l.begun seg, 0) ∧ seg < l.segs ∧ l.chain.getD seg Us.no = Us.no ∧ d'.cut = false ∧ d'.pend = [] ∧ d'.kept.length = d.kept.length ∧ LInv (shNew S.per S.segs l.chain S.B S.e seg) 0 d' (l.begun seg) ∧ (l.begun seg).chain = wholeC (shNew S.per S.segs l.chain S.B S.e seg) := by
  have ok := h.inv.cr.ok
  have h1 := h.inv.sync
  have hB := h1.cr.kept.base ok l.chain h.len h.sub
  have dok := h.inv.cr.dok
  obtain ⟨seg, hff, hs, hf⟩ := firstFree_some hfree
  have hs' : seg < S.segs := by rw [← h.segs]; exact hs
  have h4 := hB.per4
  have dok1 := dok.sync
  have room1 : S.segs * S.per ≤ d.sync.kept.length := by rw [D.sync_len]; omega
  obtain ⟨hinv, hmix⟩ := hB.link dok1 room1 rfl hs' hf ht
  have hw : (l.begun seg).chain = wholeC (shNew S.per S.segs l.chain S.B S.e seg) := by
    unfold wholeC
    rw [shNew_B]
    show l.chain.set seg ⟨l.top + 1, 1⟩ = _
    rw [h.top]; rfl
  have hfin : LInv (shNew S.per S.segs l.chain S.B S.e seg) 0 (d.sync.write (seg * S.per + 0) (lkFr l.chain S.segs S.e).lay).sync (l.begun seg) := by
    refine ⟨hinv, h.per, h.segs, ?_, rfl, ?_, ?_, fun k => by rw [hw]; exact .inr rfl, h.down, ?_, ?_⟩
    · show l.top + 1 = S.e + 1
      rw [h.top]
    · show (l.chain.set seg _).length = 12
      rw [List.length_set]; exact h.len
    · rw [hw, shNew_B]
      unfold wholeC
      rw [shNew_B]
      exact getD_set_eq (by show seg < l.chain.length; rw [h.len]; have := ok.segs; omega)
    · rw [shNew_B]; rfl
    · rw [shNew_B]; intro e; cases e
  have hlk : linkFr l = lkFr l.chain S.segs S.e := by unfold linkFr lkFr; rw [h.top, h.segs]
  have hc1 : d.sync.cut = false := by rw [sync_cut]; exact hcut
  have hc2 : (d.sync.write (seg * S.per + 0) (lkFr l.chain S.segs S.e).lay).cut = false := by simp only [D.write, D.spent_cut]; exact hc1
  refine ⟨_, seg, ?_, hs, hf, by rw [sync_cut]; exact hc2, sync_pend _, by rw [D.sync_len, D.write_kept, D.sync_len], hfin, hw⟩
  unfold Lg.begin_ syncP
  rw [if_pos (power_of hcut)]
  simp only [hff]
  have e1 : wrAll l.per seg d.sync [linkFr l] = (d.sync.write (seg * S.per + 0) (lkFr l.chain S.segs S.e).lay, true) := by
    unfold wrAll
    rw [if_pos (power_of hc1), hlk, h.per]
    rfl
  rw [e1]
  unfold thenP
  simp only [if_true]
  rw [if_pos (power_of hc2)]
end
theorem LInv.added {S : Sh} {s : Nat} {d : D} {l : Lg} (h : LInv S s d l) (hw : l.chain = wholeC S) (hcut : d.cut = false) (b : List UInt8) (hf : 2 + iLen (S.B S.n) + need b.length ≤ S.per) :
    ∃ d', l.add d b = (d', l.added b, 0) ∧ d'.cut = false ∧ d'.kept.length = d.kept.length ∧ d'.pend.length ≤ d.pend.length + need b.length ∧ LInv (S.push (some b)) s d' (l.added b) ∧ (l.added b).chain = wholeC (S.push (some b)) := by
  have e1 : iLen [some b] = need b.length := by simp [iLen]
  have hi := h.item (l' := l.added b) (some b) (by simp) (by rw [e1]; omega) (fun _ => by rw [e1]; omega) (by rw [e1]; rfl)
  have hit : items S.e (1 + iLen (S.B S.n)) [some b] = cutF l.use.e l.use.c b := by
    rw [h.u]; simp [items]
  rw [hit] at hi
  have hfa := wrAll_facts l.per l.last (cutF l.use.e l.use.c b) d
  rw [cutF_length] at hfa
  unfold Lg.add
  generalize wrAll l.per l.last d (cutF l.use.e l.use.c b) = r at hi hfa
  obtain ⟨d', ok'⟩ := r
  simp only at hi hfa ⊢
  obtain rfl := hfa.2.2.2 hcut
  have := h.whole_item hw (some b)
  rw [e1] at this
  exact ⟨d', rfl, by rw [hfa.2.1]; exact hcut, by rw [hfa.1], hfa.2.2.1, hi.2.2 rfl, this⟩
theorem LInv.shuts {S : Sh} {s : Nat} {d : D} {l : Lg} (h : LInv S s d l) (hw : l.chain = wholeC S) (hcut : d.cut = false) (hlo : looseI (S.B S.n) = true) :
    ∃ d', l.shut d = (d', l.sealed, 0) ∧ d'.cut = false ∧ d'.kept.length = d.kept.length ∧ d'.pend = [] ∧ LInv (S.push none) (iLen ((S.push none).B (S.push none).n)) d' l.sealed ∧ l.sealed.chain = wholeC (S.push none) := by
  have h1 := h.synced
  have ht := h.tight hlo
  have e1 : iLen [(none : It)] = 1 := rfl
  have hi := h1.item (l' := l.sealed) none (fun _ => rfl) (by rw [e1]; omega) (fun e => absurd rfl e) (by rw [e1]; rfl)
  have hit : items S.e (1 + iLen (S.B S.n)) [none] = [sealFrOf l.use] := by
    rw [h.u]; simp [items, sealFrOf, sealAt]
  rw [hit] at hi
  have hfa := wrAll_facts l.per l.last [sealFrOf l.use] d.sync
  unfold Lg.shut
  rw [if_neg (by rw [h.down]; decide)]
  unfold syncP
  rw [if_pos (power_of hcut)]
  simp only
  rw [if_neg (by rw [h.loose, hlo]; decide)]
  unfold Lg.sealD thenP
  generalize wrAll l.per l.last d.sync [sealFrOf l.use] = r at hi hfa
  obtain ⟨d2, ok2⟩ := r
  simp only at hi hfa ⊢
  have hc1 : d.sync.cut = false := by rw [sync_cut]; exact hcut
  obtain rfl := hfa.2.2.2 hc1
  have hc2 : d2.cut = false := by rw [hfa.2.1]; exact hc1
  unfold syncP
  rw [if_pos rfl, if_pos (power_of hc2)]
  have hwh := h.whole_item hw none
  rw [e1] at hwh
  exact ⟨d2.sync, rfl, by rw [sync_cut]; exact hc2, by rw [D.sync_len, hfa.1, D.sync_len], sync_pend d2, (hi.2.2 rfl).synced, hwh⟩

/-- what the statement asks -/
structure Retd (S : Sh) (d : D) (l : Lg) (k : Nat) (b : List UInt8) (l1 : Lg) (d2 : D) (l2 : Lg) (d3 : D) (l3 : Lg) (d4 : D) (l4 : Lg) : Prop where
  ret : l.retire (S.c.getD k Us.no).e = (l1, 0)
  app : l1.append d [b] true = (d2, l2, [S.e + 1], 0)
  shut : l2.shut d2 = (d3, l3, 0)
  opn : openL d3 S.per = .ok d4 l4 ((allP S).filter (fun q => q.1 != (S.c.getD k Us.no).e) ++ [(S.e + 1, b)])
  inv1 : LInv S (iLen (S.B S.n)) d l1
  opn1 : l1.opn = false
  seal2 : 1 ≤ l2.use.e ∧ l2.use.c < l2.per ∧ l2.last < l2.segs
  pend2 : d2.pend.length ≤ 100
  len3 : d3.kept.length = d.kept.length
  pend3 : d3.pend = []
  free1 : l1.chain.getD k Us.no = Us.no ∧ k < l1.segs
theorem retire_law {S : Sh} {d : D} {l : Lg} (h : LInv S (iLen (S.B S.n)) d l) (hw : l.chain = wholeC S) (hcut : d.cut = false) (hlen : d.kept.length = S.segs * S.per) (opn : l.opn = false) {k : Nat} (hk : (S.c.getD k Us.no).e ≠ 0) (ht : S.e + 1 ≤ 16777215) (b : List UInt8) (hb : need b.length + 3 ≤ S.per) :
    ∃ l1 d2 l2 d3 l3 d4 l4, Retd S d l k b l1 d2 l2 d3 l3 d4 l4 := by
  have ok := h.inv.cr.ok
  have hc := ok.count_le hk
  have h4 := ok.per4
  have h64 := ok.per64
  have hs12 := ok.segs
  obtain ⟨hr, hi1⟩ := h.retire hw hk
  obtain ⟨l1, hl1⟩ : ∃ l1 : Lg, l1 = { l with chain := l.chain.set k Us.no } := ⟨_, rfl⟩
  rw [← hl1] at hr hi1
  have hl1c : l1.chain = (wholeC S).set k Us.no := by rw [hl1, ← hw]
  have hk0 : l1.chain.getD k Us.no = Us.no := by rw [hl1c]; exact getD_set_eq (by rw [wholeC_len ok]; omega)
  have hks : k < l1.segs := by rw [hi1.segs]; exact hc.1
  obtain ⟨d1, seg, hbg, hsg, hsf, hc1, hp1, hn1, hi2, hw2⟩ := hi1.begun hcut hlen ⟨k, hks, hk0⟩ ht
  have hop : l1.opn = false := by rw [hl1]; exact opn
  have hB0 := shNew_B S.per S.segs l1.chain S.B S.e seg
  obtain ⟨d2, had, hc2, hn2, hp2, hi3, hw3⟩ := hi2.added hw2 hc1 b (by rw [hB0]; show 2 + 0 + _ ≤ S.per; omega)
  obtain ⟨d3, hsh, hc3, hn3, hp3, hi4, hw4⟩ := hi3.shuts hw3 hc2 (by rw [Sh.push_B]; exact looseI_some _ _)
  have ok4 := hi4.inv.cr.ok
  have hBf : (((shNew S.per S.segs l1.chain S.B S.e seg).push (some b)).push none).B (((shNew S.per S.segs l1.chain S.B S.e seg).push (some b)).push none).n = [some b, none] := by
    rw [Sh.push_B, Sh.push_B, hB0]; rfl
  have hlen3 : d3.kept.length = S.segs * S.per := by rw [hn3, hn2, hn1, hlen]
  have hcl : looseI ((((shNew S.per S.segs l1.chain S.B S.e seg).push (some b)).push none).B (((shNew S.per S.segs l1.chain S.B S.e seg).push (some b)).push none).n) = false := by rw [Sh.push_B]; exact looseI_none _
  have hst := hi4.std.st
  rw [← frAt_kept hp3] at hst
  have hseg : d3.kept.length / S.per = S.segs := by rw [hlen3]; exact Nat.mul_div_cancel _ (by omega)
  obtain ⟨m, d4, l4, S', m1, m2, m3, ho, _⟩ := open_stands ok4 hi4.inv.cr.dok (show S.segs * S.per ≤ d3.kept.length by omega) hseg hc3 hst (fun e => by rw [hcl] at e; cases e)
  rw [take_whole m1 m3] at ho
  have hold : oldP (((shNew S.per S.segs l1.chain S.B S.e seg).push (some b)).push none) = (allP S).filter (fun q => q.1 != (S.c.getD k Us.no).e) := by
    rw [oldP_push hi3.inv.cr.ok, oldP_push hi2.inv.cr.ok, allP_flat ok, filter_flat (segP (wholeC S) S.B) (fun j => ((wholeC S).getD j Us.no).e) (fun j q hq => by
      obtain ⟨s, _, rfl⟩ := List.mem_map.1 hq; rfl) (S.c.getD k Us.no).e k _ (fun j hj => by
      rw [← wholeC_ne hc.2.2.1]
      constructor
      · intro e
        exact wholeC_apart ok j k ((mem_orderL _ j).1 hj).2 e
      · rintro rfl; rfl)]
    unfold oldP
    show ((orderL l1.chain).map _).flatten = _
    rw [hl1c, order_out (wholeC_apart ok) (by rw [wholeC_len ok]; omega)]
    congr 1
    refine List.map_congr_left fun j hj => ?_
    obtain ⟨hj1, hj2⟩ := List.mem_filter.1 hj
    have hjk : j ≠ k := by simpa using hj2
    have hje := ((mem_orderL _ j).1 hj1).2
    have hjs : j ≠ seg := by
      rintro rfl
      rw [hl1c, getD_set_ne hjk] at hsf
      rw [hsf] at hje; exact hje rfl
    simp only [shNew, segP, if_neg hjs, getD_set_ne hjk]
  have hps : oldP (((shNew S.per S.segs l1.chain S.B S.e seg).push (some b)).push none) ++ (((((shNew S.per S.segs l1.chain S.B S.e seg).push (some b)).push none).B (((shNew S.per S.segs l1.chain S.B S.e seg).push (some b)).push none).n).filterMap id).map (fun s => ((((shNew S.per S.segs l1.chain S.B S.e seg).push (some b)).push none).e, s)) = (allP S).filter (fun q => q.1 != (S.c.getD k Us.no).e) ++ [(S.e + 1, b)] := by
    rw [hold, hBf]; rfl
  rw [hps] at ho
  have hu2 := hi3.u
  have hBu : ((shNew S.per S.segs l1.chain S.B S.e seg).push (some b)).B ((shNew S.per S.segs l1.chain S.B S.e seg).push (some b)).n = [some b] := by rw [Sh.push_B, hB0]; rfl
  rw [hBu] at hu2
  refine ⟨l1, d2, _, d3, _, d4, l4, hr, ?_, hsh, ho, hi1, hop, ⟨?_, ?_, ?_⟩, ?_, by rw [hlen3, hlen], hp3, hk0, hks⟩
  · obtain ⟨hpo, hpm⟩ := plan_is l1 [b]
    have hop2 : opensR l1.per l1.use.c l1.opn [b] = [true] := by rw [opensR_cons, if_pos (.inl hop)]; rfl
    rw [hop2] at hpo hpm
    have hm1 : (l1.plan [b]).many = 1 := hpm
    have hadv := adv_begin hi1.chOk (by rw [hi1.segs]; exact hs12) hsg hsf (by rw [hi1.top]; have := ok.epos; omega)
    have hul := used_le hi2.chOk
    rw [hadv.used] at hul
    have hsb : (l1.begun seg).segs = l1.segs := rfl
    have hpb : l1.per = S.per := hi1.per
    have hfr : l1.free = (l1.segs : Int) - used l1.chain := by unfold Lg.free used; rw [hi1.down]; rfl
    unfold Lg.append
    rw [if_neg (by rw [hi1.down]; decide), if_neg (by
      simp only [List.any_cons, List.any_nil, Bool.or_false, decide_eq_true_eq]
      rw [hpb]; omega)]
    simp only
    rw [hm1, if_neg (by rw [hi1.top]; omega), if_neg (by
      rintro ⟨_, e | ⟨e, _⟩⟩
      · rw [hfr] at e; omega
      · cases e), hpo]
    simp only [List.zip_cons_cons, List.zip_nil_right, Lg.go, Lg.one, if_true, hbg, had]
    simp only [fallen, if_true, List.nil_append]
    have : ((l1.begun seg).added b).top = S.e + 1 := by
      show l1.top + 1 = S.e + 1
      rw [hi1.top]
    rw [this]
  · rw [hu2]; show 1 ≤ S.e + 1; have := ok.epos; omega
  · rw [hu2]
    show ((1 + iLen [some b] : Nat) : Int) < (l1.per : Int)
    have : iLen [some b] = need b.length := by simp [iLen]
    rw [this, hi1.per]; omega
  · exact hsg
  · rw [hp1] at hp2
    simp only [List.length_nil] at hp2
    omega
end Go.Proofs.YtlgefjcfnnjkbaaDoor
/- The laws of a log in plain terms. Plain; no program is named; no conditions. -/
namespace Go.Proofs.YtlgefjcfnnjkbaaDoor
set_option maxRecDepth 100000

theorem Ap.zero {d : D} {l : Lg} {sure : Nat} {all s : List (List UInt8)} {deep : Bool} {d' : D} {l' : Lg} {es : List Int} {e : Int} (h : Ap d l sure all s deep d' l' es e) (he : e = 0) :
    LSt d' l' sure (all ++ s) ∧ Stp d d' (65 * s.length) ∧ l'.per = l.per ∧ l'.segs = l.segs := by
  cases h with
  | ok d' l' es h hl n ha hd st => exact ⟨h, st, ha.per, ha.segs⟩
  | cut d' l' hc cr st => cases he
  | no e h => omega
theorem Wr.cutAt {S : Sh} {s j : Nat} {d : D} (h : Wr S s j d) {n : Nat} (hn : (n : Int) ≤ 9223372036854775807) : Wr S s j (d.cutAt n) :=
  ⟨⟨h.cr.ok, h.cr.dok.cutAt n hn, h.cr.room, h.cr.kept, h.cr.pend⟩, h.le, h.full, h.ahead⟩
theorem LSt.cutAt {d : D} {l : Lg} {sure : Nat} {all : List (List UInt8)} (h : LSt d l sure all) {n : Nat} (hn : (n : Int) ≤ 9223372036854775807) : LSt (d.cutAt n) l sure all := by
  cases h with
  | new h hs ha => exact .new ⟨h.is, h.per4, h.per64, h.segs12, h.dok.cutAt n hn, h.room, h.pend, h.zero⟩ hs ha
  | old S s m0 h hw hm hs hn' ha hh hne => exact .old S s m0 ⟨h.inv.cutAt hn, h.per, h.segs, h.top, h.last, h.len, h.use, h.sub, h.down, h.loose, h.tight⟩ hw hm hs hn' ha hh hne

/-- what is opened behind a power loss -/
structure Opd (d d' : D) (l' : Lg) (ps : List (Int × List UInt8)) (sure : Nat) (all : List (List UInt8)) : Prop where
  is : openL d 8 = .ok d' l' ps
  sure : sure ≤ ps.length
  all : ps.map Prod.snd <+: all
  st : OpSt 8 6 d' l' ps
  few : d'.pend.length ≤ d.pend.length
  cut : d'.cut = false
  len : d'.kept.length = 48
  ok : d'.Ok
theorem opd_of {d : D} {sure : Nat} {all : List (List UInt8)} (dok : d.Ok) (hlen : d.kept.length = 48) (hcut : d.cut = false) (hF : Fnd 8 6 d.there sure all) : ∃ d' l' ps, Opd d d' l' ps sure all := by
  obtain ⟨d', l', ps, h1, h2, h3, h4, h5, h6, h7, h8⟩ := fnd_open (per := 8) (segs := 6) (by decide) dok hlen hcut hF
  exact ⟨d', l', ps, h1, h2, h3, h4, h5, h6, by rw [h7]; exact hlen, h8⟩
theorem Cr.crash {d : D} {sure : Nat} {all : List (List UInt8)} (h : Cr 8 6 d sure all) (hlen : d.kept.length = 48) {L : List Nat} (hL : ∀ x ∈ L, x < d.pend.length) : ∃ d' l' ps, Opd (d.crash L) d' l' ps sure all :=
  opd_of (h.dok.crash hL) (by rw [D.crash_len]; exact hlen) rfl (h.mix _ (mix_crash d L hL))
theorem Cr.still {d : D} {sure : Nat} {all : List (List UInt8)} (h : Cr 8 6 d sure all) (hlen : d.kept.length = 48) (hcut : d.cut = false) : ∃ d' l' ps, Opd d d' l' ps sure all :=
  opd_of h.dok hlen hcut (h.mix _ (mix_there d))
theorem LSt.cr8 {d : D} {l : Lg} {sure : Nat} {all : List (List UInt8)} (h : LSt d l sure all) (h8 : l.per = 8) (h6 : l.segs = 6) : Cr 8 6 d sure all := by
  have := h.cr
  rwa [h8, h6] at this

/-- behind an append and, perhaps, a seal while power may go: what is left of it -/
structure CutOut (d : D) (all s : List (List UInt8)) (sealed : Bool) : Prop where
  cr : Cr 8 6 d (all.length + if sealed then s.length else 0) (all ++ s)
  len : d.kept.length = 48
  few : d.pend.length ≤ 5000
end Go.Proofs.YtlgefjcfnnjkbaaDoor
/- A law's disk and its logs: all in blocks newer than the inputs. Inputs opened: groups of texts. No conditions. -/
namespace Go.Proofs.YtlgefjcfnnjkbaaDoor
set_option maxRecDepth 100000
open Go.ChangeShapes Go.WideShapes Go.ChangeAt Go.RowKit Go.Joins Go.Deep

def GroupsAt (w : World) (v : Value) (gs : List (List (List UInt8))) : Prop := ∃ ao cap, v = .slice ao gs.length cap ∧ gs.length ≤ 9223372036854775807 ∧ ∀ k (hk : k < gs.length), ∃ b o vv ao' cap', ao = some ⟨b, o, none⟩ ∧ w.cell? ⟨b, o + k, none⟩ = some vv ∧ SliceOf w vv gs[k].length (txts gs[k]) ao' cap' ∧ ∀ x ∈ gs[k], x.length ≤ maxLen
section
variable {H : Type} {enc : TypeId × Value → H} {W : World} {base : Nat}
theorem texts_of_cells {n : Nat} {cs : List Value} {x : DataW H × List MemPlace} (h : DataW.trod enc Tryd.prog W base (fun _ => true) true n 35 cs = some x) :
    ∃ (vv : Value) (l : List (List UInt8)) (ao : Option Addr) (cap : Nat), cs = [vv] ∧ SliceOf W vv l.length (txts l) ao cap ∧ ∀ x ∈ l, x.length ≤ maxLen := by
  rcases open_strings Tryd.underlying35 Tryd.underlying9 (by kernel_rfl) h with ⟨hcs, _⟩ | ⟨a, len, cap, ss, hcs, hb, hl, hm, hlen, _, hcell, hws⟩
  · exact ⟨_, [], none, 0, hcs, ⟨rfl, by simp, fun j x hx => by simp [txts] at hx⟩, fun x hx => by cases hx⟩
  · simp only [if_true] at hlen
    have hll : ((ss.take len).map fun s => s.data.toList).length = len := by simp; omega
    refine ⟨_, (ss.take len).map fun s => s.data.toList, some a, cap, hcs, ?_, ?_⟩
    · rw [hll]
      refine sliceOf_addr (by unfold maxLen at hm; omega) (fun j x hx => ?_)
      have hj : j < len := by
        have := (List.getElem?_eq_some_iff.1 hx).1
        simp [txts] at this
        omega
      have e1 := hcell j (by omega)
      rw [e1]
      simp only [txts, List.map_map, List.getElem?_map, List.getElem?_take, hj, if_true, Option.map_eq_some_iff, Function.comp_apply] at hx
      obtain ⟨s, hs, rfl⟩ := hx
      rw [List.getD_eq_getElem?_getD, hs]
      rfl
    · intro x hx
      obtain ⟨s, hs, rfl⟩ := List.mem_map.1 hx
      have := hws s (List.mem_of_mem_take hs)
      simpa using this
theorem law_groups {r : Reach} {b0 : Nat} {v : Value} {d : DataW H} {ps : List MemPlace} (hval : Value.okWide Tryd.prog W r b0 22 v) (hd : DataW.Trod enc Tryd.prog W base (fun _ => true) true 22 v d ps) :
    ∃ gs : List (List (List UInt8)), GroupsAt W v gs := by
  obtain ⟨a0, n0, c0, rfl⟩ := okWide_slice Tryd.underlying22 hval
  obtain ⟨fuel, hf⟩ := hd
  rcases open_slice Tryd.underlying22 hf with ⟨hcs, _⟩ | ⟨a, len, cap, m, n, D, Pl, hcs, hb, hl, hm, hmm, _, hi⟩
  · simp only [Value.cells, List.cons.injEq, and_true] at hcs
    rw [hcs]
    exact ⟨[], none, 0, rfl, by simp, fun k hk => by simp at hk⟩
  · simp only [Value.cells, List.cons.injEq, and_true] at hcs
    rw [hcs]
    simp only [if_true] at hmm
    have hce : Tryd.prog.cellsOf 35 = 1 := by kernel_rfl
    rw [hce] at hi
    have each : ∀ i, i < len → ∃ l : List (List UInt8), ∃ (vv : Value) (ao : Option Addr) (cap : Nat), W.cell? (a.add i) = some vv ∧ SliceOf W vv l.length (txts l) ao cap ∧ ∀ x ∈ l, x.length ≤ maxLen := by
      intro i hil
      obtain ⟨cs', hc, ht⟩ := hi i (by omega)
      obtain ⟨_, hcl, hat⟩ := World.cells?_some hc
      obtain ⟨vv, l, ao, cap, rfl, h1, h2⟩ := texts_of_cells ht
      refine ⟨l, vv, ao, cap, ?_, h1, h2⟩
      have := hat 0 (by omega)
      rw [Go.Deep.add_add, Nat.mul_one, Nat.add_zero] at this
      exact this
    obtain ⟨gs, rfl, hp⟩ := exists_list len each
    refine ⟨gs, some a, cap, rfl, by unfold maxLen at hm; omega, fun k hk => ?_⟩
    obtain ⟨vv, ao, cp, h1, h2, h3⟩ := hp k hk
    have h0 : ∃ b o, a = ⟨b, o, none⟩ := by
      obtain ⟨v0, _, _, q1, _⟩ := hp 0 (by omega)
      rw [add_zero_addr] at q1
      exact addr_of_cell q1
    obtain ⟨b, o, rfl⟩ := h0
    exact ⟨b, o, vv, ao, cp, rfl, by rw [← add_mk]; exact h1, h2, h3⟩
end
theorem GroupsAt.only {w w' : World} {v : Value} {gs : List (List (List UInt8))} (h : GroupsAt w v gs) (ho : Only (fun _ => False) w w') : GroupsAt w' v gs := by
  obtain ⟨ao, cap, rfl, hl, hc⟩ := h
  refine ⟨ao, cap, rfl, hl, fun k hk => ?_⟩
  obtain ⟨b, o, vv, ao', cap', e, h1, h2, h3⟩ := hc k hk
  exact ⟨b, o, vv, ao', cap', e, by rw [ho.cell (World.block_lt_of_cell? _ _ h1) id]; exact h1, h2.only ho, h3⟩

/-- a law's disk: in blocks newer than those of the world that the law began in -/
structure Lw (w0 w : World) (p kb : Nat) (pv : Value) (d : D) : Prop where
  only : Only (fun _ => False) w0 w
  da : DAt w p kb pv d
  new : ∀ b, fp p kb pv b → w0.heap.size ≤ b
section
variable {w0 w w' : World} {p kb : Nat} {pv pv' : Value} {d d' : D} (h : Lw w0 w p kb pv d)
include h
theorem Lw.quiet (ho : Only (fun _ => False) w w') : Lw w0 w' p kb pv d := ⟨h.only.trans ho, h.da.only ho (fun _ _ => id), h.new⟩
theorem Lw.old (ho : Only (fp p kb pv) w w') : Only (fun _ => False) w0 w' := h.only.trans' ho fun y hy e => by have := h.new y e; omega
theorem Lw.step (k : DStep w w' p kb pv pv' d') : Lw w0 w' p kb pv' d' := ⟨h.old k.only, k.da, fun b hb => by
  rcases hb with e | e | e
  · exact h.new b (.inl e)
  · exact h.new b (.inr (.inl e))
  · rcases k.fresh b e with e2 | e2
    · exact h.new b (.inr (.inr e2))
    · exact Nat.le_trans h.only.size e2⟩
theorem Lw.lstep {lb : Nat} {l' : Lg} (hlb : w0.heap.size ≤ lb) (k : LStep w w' lb p kb pv pv' d' l') : Lw w0 w' p kb pv' d' := ⟨h.only.trans' k.only fun y hy e => by
  rcases e with e | e
  · omega
  · have := h.new y e; omega, k.at_.da, fun b hb => by
  rcases hb with e | e | e
  · exact h.new b (.inl e)
  · exact h.new b (.inr (.inl e))
  · rcases k.fresh b e with e2 | e2
    · exact h.new b (.inr (.inr e2))
    · exact Nat.le_trans h.only.size e2⟩
/-- a call that turns the disk's own blocks only -/
theorem Lw.turn (hd : DAt w' p kb pv' d') (ho : Only (fp p kb pv) w w') (hv : ∀ g, pv'.ownBlock = some g → pv.ownBlock = some g ∨ w.heap.size ≤ g) : Lw w0 w' p kb pv' d' := h.step ⟨hd, ho, hv⟩
theorem Lw.row {base : Nat} {e : TypeId} {size : Nat} {v : Value} {n : Nat} {xs : List Value} (hr : w.ownsRow base e size v n xs) (he : e ≠ 125) (h1 : p < base) (h2 : kb < base) (ho : Only (fp p kb pv) w w') : w'.ownsRow base e size v n xs :=
  ownsRow_only hr ho fun x hx e2 => by
    have := ownBlock_ge hr hx
    rcases e2 with e2 | e2 | e2
    · omega
    · omega
    · exact rows_apart hr h.da.pend he x hx e2
end
theorem crash_lt {n : Nat} {ns : List Int} (h : crashOk n ns) : ∀ x ∈ ns.map Int.toNat, x < n := fun x hx => by
  obtain ⟨y, hy, rfl⟩ := List.mem_map.1 hx
  have := h.1 y hy
  omega
abbrev errHandle (w : World) : Prop := w.cell? ⟨0, 0, none⟩ = some (.iface 138 (.agg #[.pointer (some ⟨1, 66, none⟩)]))
theorem Lw.handle {w0 w : World} {p kb : Nat} {pv : Value} {d : D} (h : Lw w0 w p kb pv d) (hg : errHandle w0) : errHandle w := by
  unfold errHandle at *
  rw [h.only.cell (World.block_lt_of_cell? _ _ hg) id]; exact hg
/-- a disk of 48 sectors is opened -/
theorem lw_open {w0 w : World} {p kb : Nat} {pv : Value} {d : D} (h : Lw w0 w p kb pv d) (hg : errHandle w0) (hlen : d.kept.length = 48) (hroom : d.pend.length ≤ 900000) :
    Calls Tryd.prog 6 #[.pointer (some ⟨p, 0, none⟩), .int .i64 8] w (OpenPost w p kb pv (openL d 8)) :=
  open_any w p kb pv d 8 h.da (by decide) (by decide) (by rw [hlen]; decide) (by rw [hlen]; decide) (by omega) (fun _ => h.handle hg)
theorem lw_new {w0 w1 w2 : World} {p kb n : Nat} (ho : Only (fun _ => False) w0 w1) (hd : DAt w2 p kb (.slice none 0 0) (D.new n)) (hp : w1.heap.size ≤ p) (hk : w1.heap.size ≤ kb) (ho2 : Only (fun _ => False) w1 w2) : Lw w0 w2 p kb (.slice none 0 0) (D.new n) :=
  ⟨ho.trans ho2, hd, fun b hb => by
    have := ho.size
    rcases hb with e | e | e
    · omega
    · omega
    · cases e⟩
/-- a row in a block newer than the log's and the disk's own -/
theorem LStep.rowB {w w' : World} {lb p kb : Nat} {pv pv' : Value} {d d' : D} {l l' : Lg} (hs : LStep w w' lb p kb pv pv' d' l') (h : LgAt w lb p kb pv d l) {base : Nat} {e : TypeId} {size : Nat} {v : Value} {n : Nat} {xs : List Value} (hr : w.ownsRow base e size v n xs) (he : e ≠ 125)
    (h1 : lb < base) (h2 : p < base) (h3 : kb < base) : w'.ownsRow base e size v n xs :=
  hs.row h hr he fun x hx => by have := ownBlock_ge hr hx; omega
theorem row_quiet {w w' : World} {base : Nat} {e : TypeId} {size : Nat} {v : Value} {n : Nat} {xs : List Value} (hr : w.ownsRow base e size v n xs) (ho : Only (fun _ => False) w w') : w'.ownsRow base e size v n xs := ownsRow_only hr ho (fun _ _ h => h)
theorem slice_alloc_cells (w : World) (cs : List Value) (t : TypeId) (n : Nat) (hn : n ≤ 9223372036854775807) : SliceOf (w.alloc (.cells cs.toArray t)) (.slice (some ⟨w.heap.size, 0, none⟩) n n) n cs (some ⟨w.heap.size, 0, none⟩) n :=
  ⟨rfl, hn, fun j x hx => ⟨_, _, rfl, by
    rw [Nat.zero_add, cell_at (heap_alloc_new w (.cells cs.toArray t)), List.getElem?_toArray]
    exact hx⟩⟩
theorem slice_alloc_one (w : World) (b : List UInt8) : SliceOf (w.alloc (.cells #[.string ⟨b.toArray⟩] 9)) (.slice (some ⟨w.heap.size, 0, none⟩) 1 1) [b].length (txts [b]) (some ⟨w.heap.size, 0, none⟩) 1 :=
  ⟨rfl, by simp, fun j x hx => ⟨_, _, rfl, by
    rw [Nat.zero_add, cell_at (heap_alloc_new w (.cells #[.string ⟨b.toArray⟩] 9)), List.getElem?_toArray]
    exact hx⟩⟩
theorem Lw.ints {w0 w : World} {p kb : Nat} {pv : Value} {d : D} (h : Lw w0 w p kb pv d) {v : Value} {ns : List Int} {ao : Option Addr} {cap : Nat} (hi : IntsAt w0 v ns ao cap) : IntsAt w v ns ao cap := hi.only h.only fun _ _ _ _ _ _ hn => hn
end Go.Proofs.YtlgefjcfnnjkbaaDoor
