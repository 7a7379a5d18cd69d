/- Plain models of frames: their bytes, what is read of bytes, how many a batch takes, how it is cut, what is joined. No conditions. -/
import Derived.Test.YtlgefjcfnnjkbaaCrc
namespace Go.Proofs.Ytlgefjcfnnjkbaa

/-- a frame: epoch, place, kind, bytes -/
structure Fr where
  e : Int
  a : Int
  k : Int
  s : List UInt8
deriving DecidableEq

/-- n in so many bytes, the greatest one first -/
def be : Nat → Nat → List UInt8
  | 0, _ => []
  | m + 1, n => be m (n / 256) ++ [UInt8.ofNat (n % 256)]

theorem be_length (m n : Nat) : (be m n).length = m := by
  induction m generalizing n with
  | zero => rfl
  | succ m ih => simp [be, ih]

theorem be_front (m n : Nat) : be (m + 1) n = UInt8.ofNat (n / 256 ^ m % 256) :: be m n := by
  induction m generalizing n with
  | zero => simp [be]
  | succ m ih =>
    rw [be, ih]
    simp only [List.cons_append]
    rw [show be (m + 1) n = be m (n / 256) ++ [UInt8.ofNat (n % 256)] from rfl, Nat.div_div_eq_div_mul]
    congr 4
    rw [Nat.pow_succ, Nat.mul_comm]

def unbe (l : List UInt8) : Nat := l.foldl (fun n b => n * 256 + b.toNat) 0

theorem unbe_snoc (l : List UInt8) (b : UInt8) : unbe (l ++ [b]) = unbe l * 256 + b.toNat := by simp [unbe]

theorem unbe_be (m n : Nat) (h : n < 256 ^ m) : unbe (be m n) = n := by
  induction m generalizing n with
  | zero => simp only [Nat.pow_zero] at h; have : n = 0 := by omega
            subst this; rfl
  | succ m ih =>
    rw [be, unbe_snoc, ih _ (by rw [Nat.pow_succ] at h; exact Nat.div_lt_of_lt_mul (by omega))]
    have : (UInt8.ofNat (n % 256)).toNat = n % 256 := by simp
    omega

theorem be_inj {m n n' : Nat} (h : n < 256 ^ m) (h' : n' < 256 ^ m) (e : be m n = be m n') : n = n' := by
  rw [← unbe_be m n h, ← unbe_be m n' h', e]

def Fr.right (f : Fr) : Bool := decide (1 ≤ f.e ∧ f.e ≤ 16777215 ∧ 0 ≤ f.a ∧ f.a < 64 ∧ 1 ≤ f.k ∧ f.k ≤ 4 ∧ f.s.length ≤ 53)
theorem Fr.right_iff (f : Fr) : f.right = true ↔ (1 ≤ f.e ∧ f.e ≤ 16777215 ∧ 0 ≤ f.a ∧ f.a < 64 ∧ 1 ≤ f.k ∧ f.k ≤ 4 ∧ f.s.length ≤ 53) := by simp [Fr.right]

/-- the seven bytes ahead -/
def Fr.head (f : Fr) : List UInt8 := be 3 f.e.toNat ++ be 1 f.a.toNat ++ be 1 f.k.toNat ++ be 1 f.s.length ++ be 1 0
def Fr.body (f : Fr) : List UInt8 := f.head ++ f.s ++ List.replicate (53 - f.s.length) 0
def Fr.lay (f : Fr) : List UInt8 := f.body ++ be 4 (sum f.body)

theorem Fr.head_length (f : Fr) : f.head.length = 7 := by simp [Fr.head, be_length]
theorem Fr.body_length {f : Fr} (h : f.right = true) : f.body.length = 60 := by
  have := (f.right_iff.1 h).2.2.2.2.2.2
  simp [Fr.body, Fr.head_length]; omega
theorem Fr.lay_length {f : Fr} (h : f.right = true) : f.lay.length = 64 := by simp [Fr.lay, Fr.body_length h, be_length]

theorem Fr.head_eq (f : Fr) : f.head = [UInt8.ofNat (f.e.toNat / 65536 % 256), UInt8.ofNat (f.e.toNat / 256 % 256), UInt8.ofNat (f.e.toNat % 256), UInt8.ofNat (f.a.toNat % 256), UInt8.ofNat (f.k.toNat % 256), UInt8.ofNat (f.s.length % 256), 0] := by
  simp [Fr.head, be, Nat.div_div_eq_div_mul]

/-- what a sector says -/
def Fr.of (l : List UInt8) : Fr := { e := (unbe (l.take 3) : Nat), a := (l.getD 3 0).toNat, k := (l.getD 4 0).toNat, s := (l.drop 7).take (l.getD 5 0).toNat }
def readF (l : List UInt8) : Option Fr := if l.length = 64 ∧ (l.getD 5 0).toNat ≤ 53 ∧ (Fr.of l).right = true ∧ (Fr.of l).lay = l then some (Fr.of l) else none

theorem Fr.of_lay {f : Fr} (h : f.right = true) : Fr.of f.lay = f ∧ (f.lay.getD 5 0).toNat ≤ 53 := by
  obtain ⟨h1, h2, h3, h4, h5, h6, h7⟩ := f.right_iff.1 h
  have el : f.lay = f.head ++ (f.s ++ (List.replicate (53 - f.s.length) 0 ++ be 4 (sum f.body))) := by simp [Fr.lay, Fr.body]
  have e3 : f.lay.take 3 = be 3 f.e.toNat := by
    rw [el, Fr.head]
    simp only [List.append_assoc]
    exact List.take_left' (be_length _ _)
  have eu : unbe (be 3 f.e.toNat) = f.e.toNat := unbe_be _ _ (by omega)
  have g3 : f.lay.getD 3 0 = UInt8.ofNat (f.a.toNat % 256) := by rw [el, Fr.head_eq]; rfl
  have g4 : f.lay.getD 4 0 = UInt8.ofNat (f.k.toNat % 256) := by rw [el, Fr.head_eq]; rfl
  have g5 : f.lay.getD 5 0 = UInt8.ofNat (f.s.length % 256) := by rw [el, Fr.head_eq]; rfl
  have n3 : (UInt8.ofNat (f.a.toNat % 256)).toNat = f.a.toNat := by simp; omega
  have n4 : (UInt8.ofNat (f.k.toNat % 256)).toNat = f.k.toNat := by simp; omega
  have n5 : (UInt8.ofNat (f.s.length % 256)).toNat = f.s.length := by simp; omega
  have e7 : f.lay.drop 7 = f.s ++ (List.replicate (53 - f.s.length) 0 ++ be 4 (sum f.body)) := by rw [el]; exact List.drop_left' f.head_length
  refine ⟨?_, by rw [g5, n5]; exact h7⟩
  unfold Fr.of
  rw [e3, eu, g3, g4, g5, n3, n4, n5, e7, List.take_left' rfl]
  cases f
  simp only [Fr.mk.injEq]
  simp only at h1 h3 h5
  exact ⟨by omega, by omega, by omega, trivial⟩

theorem readF_lay {f : Fr} (h : f.right = true) : readF f.lay = some f := by
  obtain ⟨e1, e2⟩ := Fr.of_lay h
  unfold readF
  rw [e1]
  exact if_pos ⟨Fr.lay_length h, e2, h, rfl⟩

theorem readF_some {l : List UInt8} {f : Fr} (h : readF l = some f) : l.length = 64 ∧ f.right = true ∧ f.lay = l := by
  unfold readF at h
  split at h
  · rename_i c; cases h; exact ⟨c.1, c.2.2.1, c.2.2.2⟩
  · cases h

theorem lay_inj {f g : Fr} (hf : f.right = true) (hg : g.right = true) (e : f.lay = g.lay) : f = g := by
  have := readF_lay hf
  rw [e, readF_lay hg] at this
  exact (Option.some.inj this).symm

/-! ### How many -/
def need (n : Nat) : Nat := max 1 (n / 53 + min 1 (n % 53))
def needI (n : Int) : Int := if n < 0 then 0 else (need n.toNat : Nat)

/-! ### Cut -/
def cutL (e : Int) (a : Int) (l : List UInt8) (n : Nat) (i : Nat) : Fr := { e := e, a := a + i, k := if i + 1 = n then 3 else 2, s := (l.drop (i * 53)).take 53 }
def cutF (e a : Int) (l : List UInt8) : List Fr := (List.range (need l.length)).map (cutL e a l (need l.length))

/-! ### Join: the batches behind a list of frames, and how many frames they take -/
structure Js where
  out : List (List UInt8)
  begun : Option (List UInt8)
  whole : Nat
  i : Nat
def Js.new : Js := ⟨[], none, 0, 0⟩
/-- one frame more; none: it ends here -/
def Js.step (j : Js) (f : Fr) : Option Js :=
  if f.right = false then none
  else if f.k = 2 then some { j with begun := some (j.begun.getD [] ++ f.s), i := j.i + 1 }
  else if f.k = 3 then some { out := j.out ++ [j.begun.getD [] ++ f.s], begun := none, whole := j.i + 1, i := j.i + 1 }
  else if f.k = 1 ∨ j.begun ≠ none then none
  else some { j with whole := j.i + 1, i := j.i + 1 }
def Js.run : Js → List Fr → Js
  | j, [] => j
  | j, f :: l => match j.step f with
    | none => j
    | some j' => j'.run l
def joinF (l : List Fr) : List (List UInt8) × Nat := let j := Js.new.run l; (j.out, j.whole)
end Go.Proofs.Ytlgefjcfnnjkbaa
