/- The helpers of the disk statements: filled. No conditions. -/
import Derived.Test.YtlgefjcfnnjkbaaDL2
namespace Go.Proofs.Ytlgefjcfnnjkbaa
open Go.RowKit

/-- raw numbers of a call -/
structure Cl where
  k : Value
  at_ : Int
  s : List UInt8
  p : Value
  m : Value
  kp : Value
def Cl.cells (c : Cl) : List Value := [c.k, .int .i64 c.at_, .string ⟨c.s.toArray⟩, c.p, c.m, c.kp]
structure Cl.Wf (c : Cl) : Prop where
  at_ : I64 c.at_
  s : c.s.length ≤ maxLen
  one : ∀ v ∈ c.cells, v.oneCell' = true
def cls (l : List Cl) : List Value := (l.map Cl.cells).flatten
theorem cls_length (l : List Cl) : (cls l).length = l.length * 6 := by
  induction l with
  | nil => rfl
  | cons f l ih =>
    have : cls (f :: l) = f.cells ++ cls l := rfl
    rw [this, List.length_append, ih, show f.cells.length = 6 from rfl, List.length_cons]; omega
theorem cls_at (l : List Cl) (k : Nat) (hk : k < l.length) : ∀ j u, l[k].cells[j]? = some u → (cls l)[k * 6 + j]? = some u := by
  intro j u hu
  induction l generalizing k with
  | nil => simp at hk
  | cons f l ih =>
    simp only [cls, List.map_cons, List.flatten_cons]
    have hf : f.cells.length = 6 := rfl
    cases k with
    | zero =>
      have hj : j < f.cells.length := (List.getElem?_eq_some_iff.1 hu).1
      simp only [Nat.zero_mul, Nat.zero_add]
      rw [List.getElem?_append_left hj]; exact hu
    | succ k =>
      rw [List.getElem?_append_right (by rw [hf]; omega), hf, show (k + 1) * 6 + j - 6 = k * 6 + j by omega]
      exact ih k (by simpa using hk) hu
theorem cl_at {w : World} {v : Value} {l : List Cl} {ao : Option Addr} {cap : Nat} (h : SliceOf w v l.length (cls l) ao cap) (k : Nat) (hk : k < l.length) :
    ∃ b o, ao = some ⟨b, o, none⟩ ∧ Has w b (o + k * 6) l[k].cells := by
  obtain ⟨b, o, e, _⟩ := h.cell (k * 6 + 0) _ (cls_at l k hk 0 _ rfl)
  refine ⟨b, o, e, fun j u hu => ?_⟩
  obtain ⟨b', o', e', hc⟩ := h.cell (k * 6 + j) u (cls_at l k hk j u hu)
  rw [e] at e'
  cases e'
  rw [show o + k * 6 + j = o + (k * 6 + j) by omega]
  exact hc

/-- a write of a disk of six sectors -/
def wrC (d : D) (c : Cl) : D := d.write (pickI c.at_ 6).toNat (fullL c.s)
def fillTo (d : D) (l : List Cl) (k : Nat) : D := (l.take k).foldl wrC d
theorem fillTo_succ (d : D) (l : List Cl) (k : Nat) (h : k < l.length) : fillTo d l (k + 1) = wrC (fillTo d l k) l[k] := by
  unfold fillTo
  rw [List.take_succ_eq_append_getElem h, List.foldl_append]; rfl
theorem fillTo_facts (d : D) (l : List Cl) (hd : d.cut = false) : ∀ k, k ≤ l.length → (fillTo d l k).kept = d.kept ∧ (fillTo d l k).cut = false ∧ (fillTo d l k).pend.length = d.pend.length + k
  | 0, _ => ⟨rfl, hd, rfl⟩
  | k + 1, h => by
    obtain ⟨h1, h2, h3⟩ := fillTo_facts d l hd k (by omega)
    rw [fillTo_succ d l k (by omega)]
    simp only [wrC, D.write, D.spent_kept, D.spent_cut]
    exact ⟨h1, h2, by simp only [List.length_append, List.length_singleton]; omega⟩
def filledD (a b : List Cl) : D := fillTo (fillTo (D.new 6) a (min 8 a.length)).sync b (min 8 b.length)

/-- one write in the round of a statement -/
theorem round_write (w wr : World) (B p kb : Nat) (pv : Value) (d : D) (k : Nat) (s : List UInt8) (hd : DAt wr p kb pv d) (hb : ∀ x, fp p kb pv x → B ≤ x) (hw : w.heap.size = B) (hor : Only (fun _ => False) w wr) (hk : k < d.kept.length) (hs : s.length = 64) (hp : d.cut = false) (hroom : d.pend.length < 1000000) :
    Calls Try.prog 46 #[.pointer (some ⟨p, 0, none⟩), .int .i64 (k : Int), .string ⟨s.toArray⟩] wr fun e w' => ∃ pv', e = .returned (.int .i64 0) ∧ DAt w' p kb pv' (d.write k s) ∧ (∀ x, fp p kb pv' x → B ≤ x) ∧ Only (fun _ => False) w w' ∧ Only (fp p kb pv) wr w' ∧ (∀ g, pv'.ownBlock = some g → pv.ownBlock = some g ∨ wr.heap.size ≤ g) := by
  refine (write_any wr p kb pv d k ⟨s.toArray⟩ hd hk (by rw [size_toArray]; exact hs) (by simp [D.power, hp]) hroom).mono ?_
  rintro e w' ⟨pv', rfl, hd', ho, hf⟩
  refine ⟨pv', rfl, hd', fun x hx => ?_, hor.trans' ho (fun y hy h => by have := hb y h; omega), ho, hf⟩
  rcases hx with h | h | h
  · exact hb x (.inl h)
  · exact hb x (.inr (.inl h))
  · rcases hf x h with h | h
    · exact hb x (.inr (.inr h))
    · have := hor.size; omega
end Go.Proofs.Ytlgefjcfnnjkbaa
