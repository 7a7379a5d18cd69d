/- Several disks at once. No conditions. -/
import Derived.Test.YtlgefjcfnnjkbaaDL4
namespace Go.Proofs.Ytlgefjcfnnjkbaa
open Go.RowKit

structure Dk where
  p : Nat
  kb : Nat
  pv : Value
  d : D

/-- disks of a law that began in the world w0, none in a block of another or in those that are set aside -/
structure Disks (w0 w : World) (F : Nat → Prop) (l : List Dk) : Prop where
  only : Only (fun _ => False) w0 w
  at_ : ∀ (i : Nat) (x : Dk), l[i]? = some x → DAt w x.p x.kb x.pv x.d
  new : ∀ (i : Nat) (x : Dk), l[i]? = some x → ∀ b, fp x.p x.kb x.pv b → w0.heap.size ≤ b ∧ ¬ F b
  apart : ∀ (i j : Nat) (x y : Dk), i ≠ j → l[i]? = some x → l[j]? = some y → ∀ b, fp x.p x.kb x.pv b → ¬ fp y.p y.kb y.pv b
  froz : ∀ b, F b → b < w.heap.size

section
variable {w0 w w' : World} {F : Nat → Prop} {l : List Dk}

theorem Disks.start (w : World) : Disks w w (fun _ => False) [] :=
  ⟨Only.refl _ _, fun i x h => by simp at h, fun i x h => by simp at h, fun i j x y _ h => by simp at h, fun _ h => h.elim⟩

theorem Disks.quiet (h : Disks w0 w F l) (ho : Only (fun _ => False) w w') : Disks w0 w' F l :=
  ⟨h.only.trans ho, fun i x hx => (h.at_ i x hx).only ho (fun _ _ => id), h.new, h.apart, fun b hb => Nat.lt_of_lt_of_le (h.froz b hb) ho.size⟩

theorem Disks.upd (h : Disks w0 w F l) {i : Nat} {p kb p' kb' : Nat} {pv pv' : Value} {d d' : D} (hi : l[i]? = some ⟨p, kb, pv, d⟩) (hd : DAt w' p' kb' pv' d') (ho : Only (fp p kb pv) w w') (hf : ∀ b, fp p' kb' pv' b → fp p kb pv b ∨ w.heap.size ≤ b) :
    Disks w0 w' F (l.set i ⟨p', kb', pv', d'⟩) ∧ Only (fun b => ¬ F b) w w' := by
  have hN : ∀ b, fp p' kb' pv' b → w0.heap.size ≤ b ∧ ¬ F b := fun b hb => by
    rcases hf b hb with h1 | h1
    · exact h.new i _ hi b h1
    · exact ⟨Nat.le_trans h.only.size h1, fun hF => by have := h.froz b hF; omega⟩
  have hA : ∀ (j : Nat) (y : Dk), i ≠ j → l[j]? = some y → ∀ b, fp p' kb' pv' b → ¬ fp y.p y.kb y.pv b := fun j y hij hj b hb hy => by
    rcases hf b hb with h1 | h1
    · exact h.apart i j _ y hij hi hj b h1 hy
    · have := (h.at_ j y hj).fp_lt b hy; omega
  have key : ∀ (j : Nat) (y : Dk), (l.set i ⟨p', kb', pv', d'⟩)[j]? = some y → (i = j ∧ y = ⟨p', kb', pv', d'⟩) ∨ (i ≠ j ∧ l[j]? = some y) := fun j y hy => by
    rw [List.getElem?_set] at hy
    by_cases e : i = j
    · subst e
      have hlt : i < l.length := (List.getElem?_eq_some_iff.1 hi).1
      simp [hlt] at hy
      exact .inl ⟨rfl, hy.symm⟩
    · simp [e] at hy
      exact .inr ⟨e, hy⟩
  refine ⟨⟨?_, ?_, ?_, ?_, fun b hb => Nat.lt_of_lt_of_le (h.froz b hb) ho.size⟩, ho.mono fun k _ hk => (h.new i _ hi k hk).2⟩
  · exact h.only.trans' ho (fun y hy hy' => by have := (h.new i _ hi y hy').1; omega)
  · intro j y hy
    rcases key j y hy with ⟨rfl, rfl⟩ | ⟨hij, hj⟩
    · exact hd
    · exact (h.at_ j y hj).only ho (fun b hb hb' => h.apart i j _ y hij hi hj b hb' hb)
  · intro j y hy
    rcases key j y hy with ⟨rfl, rfl⟩ | ⟨hij, hj⟩
    · exact hN
    · exact h.new j y hj
  · intro a b x y hab hx hy
    rcases key a x hx with ⟨rfl, rfl⟩ | ⟨hia, ha⟩ <;> rcases key b y hy with ⟨rfl, rfl⟩ | ⟨hib, hb⟩
    · exact absurd rfl hab
    · exact hA b y hib hb
    · exact fun c hc hc' => hA a x hia ha c hc' hc
    · exact h.apart a b x y hab ha hb

theorem Disks.push (h : Disks w0 w F l) {p kb : Nat} {pv : Value} {d : D} (hd : DAt w' p kb pv d) (hn : ∀ b, fp p kb pv b → w.heap.size ≤ b) (ho : Only (fun _ => False) w w') : Disks w0 w' F (l ++ [⟨p, kb, pv, d⟩]) := by
  have h' := h.quiet ho
  have key : ∀ (j : Nat) (y : Dk), (l ++ [(⟨p, kb, pv, d⟩ : Dk)])[j]? = some y → l[j]? = some y ∨ (l.length = j ∧ y = ⟨p, kb, pv, d⟩) := fun j y hy => by
    rw [List.getElem?_append] at hy
    split at hy
    · exact .inl hy
    · next hlt =>
      rw [List.getElem?_singleton] at hy
      split at hy
      · exact .inr ⟨by omega, (Option.some.inj hy).symm⟩
      · cases hy
  have hlt : ∀ (j : Nat) (y : Dk), l[j]? = some y → j < l.length := fun j y hj => (List.getElem?_eq_some_iff.1 hj).1
  have hA : ∀ (j : Nat) (y : Dk), l[j]? = some y → ∀ b, fp y.p y.kb y.pv b → ¬ fp p kb pv b := fun j y hj b hb hb' => by
    have := (h.at_ j y hj).fp_lt b hb
    have := hn b hb'
    omega
  refine ⟨h'.only, ?_, ?_, ?_, h'.froz⟩
  · intro j y hy
    rcases key j y hy with hj | ⟨rfl, rfl⟩
    · exact h'.at_ j y hj
    · exact hd
  · intro j y hy
    rcases key j y hy with hj | ⟨rfl, rfl⟩
    · exact h.new j y hj
    · exact fun b hb => ⟨Nat.le_trans h.only.size (hn b hb), fun hF => by have := h.froz b hF; have := hn b hb; omega⟩
  · intro a b x y hab hx hy
    rcases key a x hx with ha | ⟨rfl, rfl⟩ <;> rcases key b y hy with hb | ⟨rfl, rfl⟩
    · exact h.apart a b x y hab ha hb
    · exact hA a x ha
    · exact fun c hc hc' => hA b y hb c hc' hc
    · exact absurd rfl hab

/-- a block that came behind the disks is set aside -/
theorem Disks.freeze (h : Disks w0 w F l) (b : Nat) (ho : Only (fun _ => False) w w') (hb : w.heap.size ≤ b) (hb' : b < w'.heap.size) : Disks w0 w' (fun x => F x ∨ x = b) l :=
  ⟨h.only.trans ho, (h.quiet ho).at_, fun i x hx c hc => ⟨(h.new i x hx c hc).1, by
    rintro (h1 | rfl)
    · exact (h.new i x hx c hc).2 h1
    · have := (h.at_ i x hx).fp_lt _ hc; omega⟩, h.apart, by
    rintro c (h1 | rfl)
    · exact (h.quiet ho).froz c h1
    · exact hb'⟩

theorem Disks.freezeP (h : Disks w0 w F l) (G : Nat → Prop) (ho : Only (fun _ => False) w w') (hG : ∀ b, G b → w.heap.size ≤ b ∧ b < w'.heap.size) : Disks w0 w' (fun x => F x ∨ G x) l :=
  ⟨h.only.trans ho, (h.quiet ho).at_, fun i x hx c hc => ⟨(h.new i x hx c hc).1, by
    rintro (h1 | h1)
    · exact (h.new i x hx c hc).2 h1
    · have := (h.at_ i x hx).fp_lt _ hc; have := (hG c h1).1; omega⟩, h.apart, by
    rintro c (h1 | h1)
    · exact (h.quiet ho).froz c h1
    · exact (hG c h1).2⟩

theorem IntsAt.held {v : Value} {ns : List Int} {ao : Option Addr} {cap : Nat} (h : IntsAt w v ns ao cap) (ho : Only (fun b => ¬ F b) w w') (hF : ∀ b o, ao = some ⟨b, o, none⟩ → F b) : IntsAt w' v ns ao cap :=
  h.only ho fun b o _ _ e _ hn => hn (hF b o e)

theorem ints_block {g : Nat} {t : TypeId} (l : List Int) (h : w.heap[g]? = some (.cells (l.map (Value.int .i64)).toArray t (0, 0))) (hl : l.length ≤ 9223372036854775807) (hw : ∀ x ∈ l, -9223372036854775808 ≤ x ∧ x ≤ 9223372036854775807) (c : Nat) :
    IntsAt w (.slice (some ⟨g, 0, none⟩) l.length c) l (some ⟨g, 0, none⟩) c :=
  ⟨rfl, hl, fun j x hx => ⟨g, 0, rfl, by
    rw [cell_at h, List.getElem?_toArray, List.getElem?_map, Nat.zero_add, hx]; rfl⟩, hw⟩

/-- a row of numbers that was kept -/
theorem nats_own {base : Nat} {r : Value} {l : List Nat} (h : w.ownsRow base 3 1 r l.length (natCells l)) (hl : l.length ≤ 1000000) (hw : ∀ x ∈ l, x ≤ 1000000) :
    ∃ ao cap, IntsAt w r (l.map fun (x : Nat) => (x : Int)) ao cap ∧ ∀ b o, ao = some ⟨b, o, none⟩ → base ≤ b ∧ r.ownBlock = some b := by
  obtain ⟨ao, cap, hs⟩ := sliceOf_own h
  refine ⟨ao, cap, ⟨by rw [hs.val]; simp, by simp; omega, fun j x hx => ?_, fun x hx => ?_⟩, fun b o e => ?_⟩
  · rw [List.getElem?_map] at hx
    obtain ⟨y, hy, rfl⟩ := Option.map_eq_some_iff.1 hx
    exact hs.cell j (.int .i64 (y : Int)) (by simp [natCells, hy])
  · obtain ⟨y, hy, rfl⟩ := List.mem_map.1 hx
    have := hw y hy
    omega
  · have hv := hs.val
    subst hv
    subst e
    have := h.lt b rfl
    exact ⟨this.1, rfl⟩
end

theorem set_same {l : List Dk} (i : Nat) {x : Dk} (hx : l[i]? = some x) : l.set i x = l := by
  apply List.ext_getElem?
  intro j
  rw [List.getElem?_set]
  by_cases e : i = j
  · subst e
    have hlt : i < l.length := (List.getElem?_eq_some_iff.1 hx).1
    simp [hlt]
    exact ((List.getElem?_eq_some_iff.1 hx).2).symm
  · simp [e]

section
variable {w0 w : World} {F : Nat → Prop} {l : List Dk} (h : Disks w0 w F l) (i : Nat) {p kb : Nat} {pv : Value} {d : D} (hi : l[i]? = some ⟨p, kb, pv, d⟩)
include h

theorem dk_write (hi : l[i]? = some ⟨p, kb, pv, d⟩) (k : Nat) (s : List UInt8) (hk : k < d.kept.length) (hs : s.length = 64) (hp : d.power = true) (hroom : d.pend.length < 1000000) :
    Calls Try.prog 46 #[.pointer (some ⟨p, 0, none⟩), .int .i64 (k : Int), .string ⟨s.toArray⟩] w fun e w' => ∃ pv', e = .returned (.int .i64 0) ∧ Disks w0 w' F (l.set i ⟨p, kb, pv', d.write k s⟩) ∧ Only (fun b => ¬ F b) w w' := by
  refine (write_any w p kb pv d k ⟨s.toArray⟩ (h.at_ i _ hi) hk (by rw [size_toArray]; exact hs) hp hroom).mono ?_
  rintro e w' ⟨pv', rfl, hd', ho, hf⟩
  refine ⟨pv', rfl, h.upd hi hd' ho fun b hb => ?_⟩
  rcases hb with h | h | h
  · exact .inl (.inl h)
  · exact .inl (.inr (.inl h))
  · rcases hf b h with h | h
    · exact .inl (.inr (.inr h))
    · exact .inr h
theorem dk_head {w' : World} {d' : D} (hi : l[i]? = some ⟨p, kb, pv, d⟩) (hd : DAt w' p kb pv d') (ho : Only (fun k => k = p) w w') : Disks w0 w' F (l.set i ⟨p, kb, pv, d'⟩) ∧ Only (fun b => ¬ F b) w w' :=
  h.upd hi hd (ho.mono fun _ _ e => .inl e) fun _ hb => .inl hb
theorem dk_write_nopower (hi : l[i]? = some ⟨p, kb, pv, d⟩) (k : Nat) (s : List UInt8) (hk : k < d.kept.length) (hs : s.length = 64) (hp : d.power = false) :
    Calls Try.prog 46 #[.pointer (some ⟨p, 0, none⟩), .int .i64 (k : Int), .string ⟨s.toArray⟩] w fun e w' => e = .returned (.int .i64 22) ∧ Disks w0 w' F l ∧ Only (fun b => ¬ F b) w w' := by
  refine (write_nopower w p kb pv d k ⟨s.toArray⟩ (h.at_ i _ hi) hk (by rw [size_toArray]; exact hs) hp).mono ?_
  rintro e w' ⟨rfl, hd', ho, _⟩
  have := dk_head h i hi hd' ho
  rw [set_same i hi] at this
  exact ⟨rfl, this⟩
theorem dk_sync (hi : l[i]? = some ⟨p, kb, pv, d⟩) (hp : d.power = true) :
    Calls Try.prog 45 #[.pointer (some ⟨p, 0, none⟩)] w fun e w' => e = .returned (.int .i64 0) ∧ Disks w0 w' F (l.set i ⟨p, kb, .slice none 0 0, d.sync⟩) ∧ Only (fun b => ¬ F b) w w' := by
  refine (sync_any w p kb pv d (h.at_ i _ hi) hp).mono ?_
  rintro e w' ⟨rfl, hd', ho, _⟩
  refine ⟨rfl, h.upd hi hd' ho fun b hb => ?_⟩
  rcases hb with h | h | h
  · exact .inl (.inl h)
  · exact .inl (.inr (.inl h))
  · cases h
theorem dk_sync_nopower (hi : l[i]? = some ⟨p, kb, pv, d⟩) (hp : d.power = false) :
    Calls Try.prog 45 #[.pointer (some ⟨p, 0, none⟩)] w fun e w' => e = .returned (.int .i64 22) ∧ Disks w0 w' F l ∧ Only (fun b => ¬ F b) w w' := by
  refine (sync_nopower w p kb pv d (h.at_ i _ hi) hp).mono ?_
  rintro e w' ⟨rfl, hd', ho, _⟩
  have := dk_head h i hi hd' ho
  rw [set_same i hi] at this
  exact ⟨rfl, this⟩
theorem dk_crash (hi : l[i]? = some ⟨p, kb, pv, d⟩) (ns : List Int) (v : Value) (ao : Option Addr) (cap : Nat) (hv : IntsAt w v ns ao cap) (hok : crashOk d.pend.length ns) (hroom : d.pend.length ≤ 1000000) :
    Calls Try.prog 38 #[.pointer (some ⟨p, 0, none⟩), v] w fun e w' => e = .returned (.int .i64 0) ∧ Disks w0 w' F (l.set i ⟨p, kb, .slice none 0 0, d.crash (ns.map Int.toNat)⟩) ∧ Only (fun b => ¬ F b) w w' := by
  refine (crash_ok w p kb pv d ns v ao cap (h.at_ i _ hi) hv hok hroom).mono ?_
  rintro e w' ⟨rfl, hd', ho⟩
  refine ⟨rfl, h.upd hi hd' ho fun b hb => ?_⟩
  rcases hb with h | h | h
  · exact .inl (.inl h)
  · exact .inl (.inr (.inl h))
  · cases h
theorem dk_crash_bad (hi : l[i]? = some ⟨p, kb, pv, d⟩) (ns : List Int) (v : Value) (ao : Option Addr) (cap : Nat) (hv : IntsAt w v ns ao cap) (hok : ¬ crashOk d.pend.length ns) (hroom : d.pend.length ≤ 1000000) :
    Calls Try.prog 38 #[.pointer (some ⟨p, 0, none⟩), v] w fun e w' => e = .returned (.int .i64 21) ∧ Disks w0 w' F l ∧ Only (fun b => ¬ F b) w w' := by
  refine (crash_bad w p kb pv d ns v ao cap (h.at_ i _ hi) hv hok hroom).mono ?_
  rintro e w' ⟨rfl, ho⟩
  exact ⟨rfl, h.quiet ho, ho.mono fun _ _ => False.elim⟩
theorem dk_rot (hi : l[i]? = some ⟨p, kb, pv, d⟩) (k place mask : Nat) (hk : k < d.kept.length) (hpl : place < 64) (hma : mask ≤ 255) :
    Calls Try.prog 47 #[.pointer (some ⟨p, 0, none⟩), .int .i64 (k : Int), .int .i64 (place : Int), .int .i64 (mask : Int)] w fun e w' => e = .returned (.int .i64 0) ∧ Disks w0 w' F (l.set i ⟨p, kb, pv, d.rot k place mask⟩) ∧ Only (fun b => ¬ F b) w w' := by
  refine (rot_any w p kb pv d k place mask (h.at_ i _ hi) hk hpl hma).mono ?_
  rintro e w' ⟨rfl, hd', ho, _⟩
  exact ⟨rfl, h.upd hi hd' (ho.mono fun _ _ e => .inr (.inl e)) fun _ hb => .inl hb⟩
theorem dk_cut (hi : l[i]? = some ⟨p, kb, pv, d⟩) (n : Nat) (hn : (n : Int) ≤ 9223372036854775807) :
    Calls Try.prog 48 #[.pointer (some ⟨p, 0, none⟩), .int .i64 (n : Int)] w fun e w' => e = .returned (.int .i64 0) ∧ Disks w0 w' F (l.set i ⟨p, kb, pv, d.cutAt n⟩) ∧ Only (fun b => ¬ F b) w w' := by
  have := diskCut_any w p kb pv d n (h.at_ i _ hi) hn
  rw [if_neg (by omega), if_neg (by omega), Int.toNat_natCast] at this
  refine this.mono ?_
  rintro e w' ⟨rfl, hd', ho, _⟩
  exact ⟨rfl, dk_head h i hi hd' ho⟩
theorem dk_cut_bad (hi : l[i]? = some ⟨p, kb, pv, d⟩) (n : Int) (hn : n < 0) :
    Calls Try.prog 48 #[.pointer (some ⟨p, 0, none⟩), .int .i64 n] w fun e w' => e = .returned (.int .i64 2) ∧ Disks w0 w' F l ∧ Only (fun b => ¬ F b) w w' := by
  have := diskCut_any w p kb pv d n (h.at_ i _ hi) (by omega)
  rw [if_pos hn, if_pos hn] at this
  refine this.mono ?_
  rintro e w' ⟨rfl, hd', ho, _⟩
  have := dk_head h i hi hd' ho
  rw [set_same i hi] at this
  exact ⟨rfl, this⟩
theorem dk_read (hi : l[i]? = some ⟨p, kb, pv, d⟩) (k : Nat) (hk : k < d.kept.length) :
    Calls Try.prog 41 #[.pointer (some ⟨p, 0, none⟩), .int .i64 (k : Int)] w fun e w' => e = .returned (.tuple #[.string ⟨(d.there k).toArray⟩, .int .i64 0]) ∧ Disks w0 w' F l ∧ Only (fun b => ¬ F b) w w' :=
  (read_has w p kb pv d k (h.at_ i _ hi) hk).mono fun _ _ ⟨he, ho⟩ => ⟨he, h.quiet ho, ho.mono fun _ _ => False.elim⟩
theorem dk_all (hi : l[i]? = some ⟨p, kb, pv, d⟩) :
    Calls Try.prog 44 #[.pointer (some ⟨p, 0, none⟩)] w fun e w' => e = .returned (.string ⟨(allL d).toArray⟩) ∧ Disks w0 w' F l ∧ Only (fun b => ¬ F b) w w' :=
  (all_any w p kb pv d (h.at_ i _ hi)).mono fun _ _ ⟨he, ho⟩ => ⟨he, h.quiet ho, ho.mono fun _ _ => False.elim⟩
omit h i in
theorem dk_full (h : Disks w0 w F l) (s : List UInt8) (hs : s.length ≤ maxLen) :
    Calls Try.prog 43 #[.string ⟨s.toArray⟩] w fun e w' => e = .returned (.string ⟨(fullL s).toArray⟩) ∧ Disks w0 w' F l ∧ Only (fun b => ¬ F b) w w' :=
  (full_any w s hs).mono fun _ _ ⟨he, ho⟩ => ⟨he, h.quiet ho, ho.mono fun _ _ => False.elim⟩
omit i in
theorem dk_keep (v : Value) (ns : List Int) (ao : Option Addr) (cap n : Nat) (hv : SliceOf w v ns.length (ns.map (Value.int .i64)) ao cap) (hl : ∀ x ∈ ns, I64 x) (hn : n ≤ 100000) :
    Calls Try.prog 39 #[v, .int .i64 (n : Int)] w fun e w' => ∃ (r : Value) (F' : Nat → Prop) (bo : Option Addr) (bc : Nat), e = .returned r ∧ Disks w0 w' F' l ∧ (∀ x, F x → F' x) ∧
      IntsAt w' r ((keepL ns n).map fun (x : Nat) => (x : Int)) bo bc ∧ (∀ b o, bo = some ⟨b, o, none⟩ → F' b) ∧ Only (fun _ => False) w w' := by
  refine (keep_any w v ns ao cap n hv hl hn).mono ?_
  rintro e w' ⟨r, rfl, hown, ho⟩
  obtain ⟨bo, bc, hi, hb⟩ := nats_own hown (by have := keepL_length ns n; omega) (fun x hx => by have := (keepL_ok ns n).1 x hx; omega)
  refine ⟨r, fun x => F x ∨ r.ownBlock = some x, bo, bc, rfl, h.freezeP (fun x => r.ownBlock = some x) ho (fun b hb => ?_), fun x hx => .inl hx, hi, fun b o e => .inr (hb b o e).2, ho⟩
  have := hown.lt b hb
  exact ⟨by omega, this.2⟩
omit i in
theorem dk_new (n : Nat) (h1 : 1 ≤ n) (h2 : n ≤ 768) :
    Calls Try.prog 50 #[.int .i64 (n : Int)] w fun e w' => ∃ p kb, e = .returned (.tuple #[.pointer (some ⟨p, 0, none⟩), .int .i64 0]) ∧ Disks w0 w' F (l ++ [⟨p, kb, .slice none 0 0, D.new n⟩]) := by
  refine (new_any w n h1 h2).mono ?_
  rintro e w' ⟨p, kb, rfl, hd, hp, hk, ho⟩
  refine ⟨p, kb, rfl, h.push hd (fun b hb => ?_) ho⟩
  rcases hb with rfl | rfl | h
  · exact hp
  · exact hk
  · cases h
omit i in
theorem dk_filled (va vb : Value) (a b : List Cl) (ao bo : Option Addr) (ac bc : Nat) (hsA : SliceOf w va a.length (cls a) ao ac) (hsB : SliceOf w vb b.length (cls b) bo bc) (awf : ∀ c ∈ a, c.Wf) (bwf : ∀ c ∈ b, c.Wf) :
    Calls Try.prog 37 #[va, vb] w fun e w' => ∃ p kb pv, e = .returned (.pointer (some ⟨p, 0, none⟩)) ∧ Disks w0 w' F (l ++ [⟨p, kb, pv, filledD a b⟩]) := by
  refine (filled_any w va vb a b ao bo ac bc hsA hsB awf bwf).mono ?_
  rintro e w' ⟨p, kb, pv, rfl, hd, hn, ho⟩
  exact ⟨p, kb, pv, rfl, h.push hd hn ho⟩
end
end Go.Proofs.Ytlgefjcfnnjkbaa
