/- The sum of bytes (CRC-32) as a plain function on lists of bytes; one byte turned turns the sum. No conditions. -/
namespace Go.Proofs.Ytlgefjcfnnjkbaa

theorem xor_rc {a b c : Nat} (h : a ^^^ c = b ^^^ c) : a = b := by
  have := congrArg (· ^^^ c) h
  simpa [Nat.xor_assoc] using this
theorem xor_lc {a b c : Nat} (h : c ^^^ a = c ^^^ b) : a = b := xor_rc (c := c) (by rw [Nat.xor_comm a, Nat.xor_comm b]; exact h)

def crcBit (c : Nat) : Nat := if c % 2 = 1 then (c / 2) ^^^ 3988292384 else c / 2
def crcBits : Nat → Nat → Nat
  | 0, c => c
  | k + 1, c => crcBits k (crcBit c)
def crcByte (c b : Nat) : Nat := crcBits 8 (c ^^^ b)
def crc (l : List UInt8) (c : Nat) : Nat := l.foldl (fun c b => crcByte c b.toNat) c
def sum (l : List UInt8) : Nat := crc l 4294967295 ^^^ 4294967295

theorem crcBit_lt {c : Nat} (h : c < 4294967296) : crcBit c < 4294967296 := by
  unfold crcBit
  split
  · exact Nat.xor_lt_two_pow (n := 32) (by omega) (by omega)
  · omega

theorem crcBit_inj {c d : Nat} (hc : c < 4294967296) (hd : d < 4294967296) (h : crcBit c = crcBit d) : c = d := by
  have t : ∀ x, x < 4294967296 → (x / 2).testBit 31 = false := fun x hx => Nat.testBit_lt_two_pow (by omega)
  have p : Nat.testBit 3988292384 31 = true := by decide
  have hb : (crcBit c).testBit 31 = (crcBit d).testBit 31 := by rw [h]
  unfold crcBit at h hb
  split at h <;> split at h <;> rename_i h1 h2 <;> simp only [h1, h2, if_true, if_false] at hb
  · have := xor_rc h; omega
  · simp [Nat.testBit_xor, t c hc, t d hd, p] at hb
  · simp [Nat.testBit_xor, t c hc, t d hd, p] at hb
  · omega

theorem crcBits_lt (k : Nat) : ∀ {c : Nat}, c < 4294967296 → crcBits k c < 4294967296 := by
  induction k with
  | zero => intro c h; exact h
  | succ k ih => intro c h; exact ih (crcBit_lt h)

theorem crcBits_inj (k : Nat) : ∀ {c d : Nat}, c < 4294967296 → d < 4294967296 → crcBits k c = crcBits k d → c = d := by
  induction k with
  | zero => intro c d _ _ h; exact h
  | succ k ih => intro c d hc hd h; exact crcBit_inj hc hd (ih (crcBit_lt hc) (crcBit_lt hd) h)

theorem xor_lt {c b : Nat} (hc : c < 4294967296) (hb : b < 256) : c ^^^ b < 4294967296 := Nat.xor_lt_two_pow (n := 32) hc (by omega)

theorem crcByte_lt {c : Nat} (hc : c < 4294967296) (b : UInt8) : crcByte c b.toNat < 4294967296 := crcBits_lt 8 (xor_lt hc b.toNat_lt)

theorem crcByte_inj {c d : Nat} (hc : c < 4294967296) (hd : d < 4294967296) (b : UInt8) (h : crcByte c b.toNat = crcByte d b.toNat) : c = d :=
  xor_rc (crcBits_inj 8 (xor_lt hc b.toNat_lt) (xor_lt hd b.toNat_lt) h)

theorem crcByte_byte {c : Nat} (hc : c < 4294967296) (a b : UInt8) (h : crcByte c a.toNat = crcByte c b.toNat) : a = b := by
  have := xor_lc (crcBits_inj 8 (xor_lt hc a.toNat_lt) (xor_lt hc b.toNat_lt) h)
  exact UInt8.toNat_inj.1 this

theorem crc_lt (l : List UInt8) : ∀ {c : Nat}, c < 4294967296 → crc l c < 4294967296 := by
  induction l with
  | nil => intro c h; exact h
  | cons b l ih => intro c h; exact ih (crcByte_lt h b)

theorem crc_inj (l : List UInt8) : ∀ {c d : Nat}, c < 4294967296 → d < 4294967296 → crc l c = crc l d → c = d := by
  induction l with
  | nil => intro c d _ _ h; exact h
  | cons b l ih => intro c d hc hd h; exact crcByte_inj hc hd b (ih (crcByte_lt hc b) (crcByte_lt hd b) h)

theorem crc_append (a b : List UInt8) (c : Nat) : crc (a ++ b) c = crc b (crc a c) := by simp [crc]

theorem sum_lt (l : List UInt8) : sum l < 4294967296 :=
  Nat.xor_lt_two_pow (n := 32) (crc_lt l (by omega)) (by omega)

/-- One byte turned turns the sum. -/
theorem sum_turned (l r : List UInt8) (a b : UInt8) (h : sum (l ++ a :: r) = sum (l ++ b :: r)) : a = b := by
  have h1 := xor_rc h
  rw [crc_append, crc_append] at h1
  have hl : crc l 4294967295 < 4294967296 := crc_lt l (by omega)
  exact crcByte_byte hl a b (crc_inj r (crcByte_lt hl a) (crcByte_lt hl b) h1)

theorem set_eq_append (l : List UInt8) (k : Nat) (hk : k < l.length) (b : UInt8) : l.set k b = l.take k ++ b :: l.drop (k + 1) := by
  rw [List.set_eq_take_append_cons_drop, if_pos hk]

theorem sum_set (l : List UInt8) (k : Nat) (hk : k < l.length) (b : UInt8) (h : sum (l.set k b) = sum l) : b = l[k] := by
  have e : l = l.take k ++ l[k] :: l.drop (k + 1) := by
    have := set_eq_append l k hk l[k]; rw [List.set_getElem_self] at this; exact this
  rw [set_eq_append l k hk b] at h
  exact sum_turned _ _ _ _ (h.trans (congrArg sum e))

end Go.Proofs.Ytlgefjcfnnjkbaa
