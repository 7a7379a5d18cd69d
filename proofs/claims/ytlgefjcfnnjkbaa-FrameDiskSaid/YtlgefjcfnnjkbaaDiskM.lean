/- A disk as plain data: what each call makes of it. No program, no conditions. -/
namespace Go.Proofs.Ytlgefjcfnnjkbaa

/-- A disk: what is kept, what is pending, whether power is about to go, how many calls there are ahead of that. -/
structure D where
  kept : List (List UInt8)
  pend : List (Nat × List UInt8)
  cut : Bool
  left : Nat

def noughts : List UInt8 := List.replicate 64 0

def layK (kept : List (List UInt8)) (x : Nat × List UInt8) : List (List UInt8) := kept.set x.1 x.2

namespace D
def new (n : Nat) : D := ⟨List.replicate n noughts, [], false, 0⟩
def power (d : D) : Bool := !d.cut || d.left != 0
def spent (d : D) : D := if d.cut then { d with left := d.left - 1 } else d
/-- behind one more call of Write or Sync -/
def paid (d : D) : D := if d.power then d.spent else d
def there (d : D) (k : Nat) : List UInt8 := ((d.pend.reverse.find? (fun x => x.1 == k)).map (·.2)).getD (d.kept.getD k [])
def write (d : D) (k : Nat) (s : List UInt8) : D := { d.spent with pend := d.pend ++ [(k, s)] }
def layAll (d : D) (ks : List Nat) : List (List UInt8) := ks.foldl (fun kept k => layK kept (d.pend.getD k (0, []))) d.kept
def sync (d : D) : D := { d.spent with kept := d.layAll (List.range d.pend.length), pend := [] }
def crash (d : D) (ks : List Nat) : D := { kept := d.layAll ks, pend := [], cut := false, left := 0 }
def rot (d : D) (k place mask : Nat) : D := { d with kept := d.kept.set k ((d.kept.getD k []).set place ((d.kept.getD k []).getD place 0 ^^^ UInt8.ofNat mask)) }
def cutAt (d : D) (n : Nat) : D := { d with cut := true, left := n }

/-- what holds of each disk that calls made -/
structure Ok (d : D) : Prop where
  len : ∀ x ∈ d.kept, x.length = 64
  plen : ∀ x ∈ d.pend, x.2.length = 64 ∧ x.1 < d.kept.length
  many : d.kept.length ≤ 768
  leftLe : (d.left : Int) ≤ 9223372036854775807

theorem spent_kept (d : D) : d.spent.kept = d.kept := by unfold spent; split <;> rfl
theorem spent_pend (d : D) : d.spent.pend = d.pend := by unfold spent; split <;> rfl
theorem spent_cut (d : D) : d.spent.cut = d.cut := by unfold spent; split <;> rfl
theorem spent_left_le (d : D) : d.spent.left ≤ d.left := by unfold spent; split <;> simp

theorem paid_yes {d : D} (h : d.power = true) : d.paid = d.spent := by simp [paid, h]
theorem paid_no {d : D} (h : d.power = false) : d.paid = d := by simp [paid, h]
theorem new_ok (n : Nat) (h : n ≤ 768) : (D.new n).Ok :=
  ⟨fun x hx => by rw [List.eq_of_mem_replicate hx]; simp [noughts], fun x hx => (by simp [new] at hx), by simpa [new] using h, by simp [new]⟩
theorem Ok.spent {d : D} (h : d.Ok) : d.spent.Ok :=
  ⟨by rw [spent_kept]; exact h.len, by rw [spent_kept, spent_pend]; exact h.plen, by rw [spent_kept]; exact h.many, by have := spent_left_le d; have := h.leftLe; omega⟩
theorem Ok.write {d : D} (h : d.Ok) {k : Nat} {s : List UInt8} (hk : k < d.kept.length) (hs : s.length = 64) : (d.write k s).Ok :=
  ⟨by simp only [D.write, spent_kept]; exact h.len, by
    simp only [D.write, spent_kept]
    intro x hx
    rcases List.mem_append.1 hx with hx | hx
    · exact h.plen x hx
    · rw [List.mem_singleton.1 hx]; exact ⟨hs, hk⟩, by simp only [D.write, spent_kept]; exact h.many, h.spent.leftLe⟩

theorem layK_length (kept : List (List UInt8)) (x : Nat × List UInt8) : (layK kept x).length = kept.length := by simp [layK]

theorem layAll_length (d : D) (ks : List Nat) : (d.layAll ks).length = d.kept.length := by
  unfold layAll
  generalize d.kept = kept
  induction ks generalizing kept with
  | nil => rfl
  | cons k ks ih => simp only [List.foldl_cons]; rw [ih, layK_length]

theorem layAll_len {d : D} (h : d.Ok) (ks : List Nat) (hk : ∀ k ∈ ks, k < d.pend.length) : ∀ x ∈ d.layAll ks, x.length = 64 := by
  unfold layAll
  have key : ∀ (ks : List Nat) (kept : List (List UInt8)), (∀ k ∈ ks, k < d.pend.length) → (∀ x ∈ kept, x.length = 64) → ∀ x ∈ ks.foldl (fun kept k => layK kept (d.pend.getD k (0, []))) kept, x.length = 64 := by
    intro ks
    induction ks with
    | nil => intro kept _ h x hx; exact h x hx
    | cons k ks ih =>
      intro kept hk hl
      refine ih _ (fun j hj => hk j (List.mem_cons_of_mem _ hj)) ?_
      intro x hx
      have hkl := hk k (List.mem_cons_self)
      rcases List.mem_or_eq_of_mem_set hx with hx | hx
      · exact hl x hx
      · rw [hx]
        have : d.pend.getD k (0, []) = d.pend[k] := by simp [hkl]
        rw [this]
        exact (h.plen _ (List.getElem_mem hkl)).1
  exact key ks d.kept hk h.len

theorem Ok.sync {d : D} (h : d.Ok) : d.sync.Ok :=
  ⟨layAll_len h _ (fun k hk => List.mem_range.1 hk), fun x hx => (by simp [D.sync] at hx), by simp only [D.sync, layAll_length]; exact h.many, h.spent.leftLe⟩
theorem Ok.crash {d : D} (h : d.Ok) {ks : List Nat} (hk : ∀ k ∈ ks, k < d.pend.length) : (d.crash ks).Ok :=
  ⟨layAll_len h _ hk, fun x hx => (by simp [D.crash] at hx), by simp only [D.crash, layAll_length]; exact h.many, by simp [D.crash]⟩
theorem Ok.rot {d : D} (h : d.Ok) (k p m : Nat) (hk : k < d.kept.length) : (d.rot k p m).Ok :=
  ⟨by
    intro x hx
    rcases List.mem_or_eq_of_mem_set hx with hx | hx
    · exact h.len x hx
    · rw [hx, List.length_set]
      have : d.kept.getD k [] = d.kept[k] := by simp [hk]
      rw [this]; exact h.len _ (List.getElem_mem hk), by simp only [D.rot, List.length_set]; exact h.plen, by simp only [D.rot, List.length_set]; exact h.many, h.leftLe⟩
theorem Ok.cutAt {d : D} (h : d.Ok) (n : Nat) (hn : (n : Int) ≤ 9223372036854775807) : (d.cutAt n).Ok := ⟨h.len, h.plen, h.many, hn⟩

theorem there_len {d : D} (h : d.Ok) {k : Nat} (hk : k < d.kept.length) : (d.there k).length = 64 := by
  unfold there
  cases hf : d.pend.reverse.find? (fun x => x.1 == k) with
  | none =>
    have : d.kept.getD k [] = d.kept[k] := by simp [hk]
    simp only [Option.map_none, Option.getD_none, this]
    exact h.len _ (List.getElem_mem hk)
  | some x =>
    have := List.mem_of_find?_eq_some hf
    simp only [Option.map_some, Option.getD_some]
    exact (h.plen x (by simpa using this)).1
end D
end Go.Proofs.Ytlgefjcfnnjkbaa
