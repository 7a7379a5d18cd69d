/- Parts of the proof, one behind the other: Seq, SeqC. Each part's own words say what it proves; no conditions. -/
import Derived.OrdersHeld
import Derived.WalkKit
set_option linter.unusedVariables false
set_option linter.unusedSimpArgs false
set_option linter.unusedSectionVars false
/- A region that draws its order, walked in ONE order that the prover names: what is asked so that every order of the region ends alike. No program is named; no conditions. -/
namespace Go.Proofs.YtlgefjcfnnjkbaaDoor
set_option maxRecDepth 100000
open Go.RowKit

section
variable {P : Program} {ops : Array Oper} {Q : Exit → Act → World → Prop} {S : World → Prop}

/-- The kinds of steps: 0: yields in every world · 1: yields in every world that meets S · 2: whatever it does, alone in its turn; S holds behind it · 3: the same, and nothing behind it asks for S. -/
abbrev Step := Nat × Nat

/-- no step of the list asks for S -/
def noS (r : List Step) : Bool := r.all fun x => x.2 == 0 || x.2 == 3

/-- what comes ahead of number j: j itself is marked, too -/
def marksOf (ops : Array Oper) (j : Nat) : Array Bool :=
  (List.range (j + 1)).reverse.foldl (fun m k => if m.getD k false then
    (match ops[k]? with
     | some o => o.after.toList.foldl (fun m e => if Region.binds .any e then m.setIfInBounds e.on true else m) m
     | none => m) else m) ((Array.replicate ops.size false).setIfInBounds j true)

def seqOk (ops : Array Oper) : List Step → Array Bool → Bool
  | [], listed => (Region.ready .any ops listed).isEmpty
  | (i, k) :: r, listed =>
    (if k == 0 || k == 1 then (Region.ready .any ops listed).contains i && Region.free .any ops listed i
     else decide (Region.ready .any ops listed = [i])) &&
    (if k == 3 then noS r else true) &&
    decide (i < ops.size) && decide (k < 4) &&
    seqOk ops r (listed.setIfInBounds i true)

/-- each step of kind 3 has all those of kind 1 ahead of it -/
def lastOk (ops : Array Oper) (r : List Step) : Bool :=
  r.all fun x => x.2 != 3 || (let m := marksOf ops x.1; r.all fun y => y.2 != 1 || (m.getD y.1 false && y.1 != x.1))

def wpSeq (P : Program) (ops : Array Oper) (Q : Exit → Act → World → Prop) (S : World → Prop) : List Step → Act → World → Prop
  | [], a, w => Q .normal a w
  | (i, k) :: r, a, w =>
    match ops[i]? with
    | none => False
    | some o =>
      if k = 0 then ∃ v, Yields P ops o v a ∧ wpSeq P ops Q S r (a.put o.dst v) w
      else if k = 1 then ∃ v, YieldsIf P ops S o v a ∧ wpSeq P ops Q S r (a.put o.dst v) w
      else if k = 2 then wpOp P ops Q i (fun a' w' => S w' ∧ wpSeq P ops Q S r a' w') a w
      else wpOp P ops Q i (fun a' w' => wpSeq P ops Q S r a' w') a w

/-- the list without the step of number j -/
def without (j : Nat) : List Step → List Step
  | [] => []
  | (i, k) :: r => if i = j then r else (i, k) :: without j r

def Closed (ops : Array Oper) (listed : Array Bool) : Prop :=
  ∀ j oj, ops[j]? = some oj → listed.getD j false = true → ∀ e ∈ oj.after, Region.binds .any e = true → listed.getD e.on false = true

theorem getD_size {listed : Array Bool} {i : Nat} (hi : i < listed.size) (d d' : Bool) : listed.getD i d = listed.getD i d' := by simp [hi]

theorem Closed.set {listed : Array Bool} {i : Nat} (h : Closed ops listed) (hi : i ∈ Region.ready .any ops listed) : Closed ops (listed.setIfInBounds i true) := by
  obtain ⟨_, oi, hoi, hall⟩ := mem_ready.1 hi
  intro j oj hj hl e he hb
  by_cases hij : i = j
  · subst hij
    have : oj = oi := Option.some.inj (hj.symm.trans hoi)
    subst this
    exact getD_set_true (hall e he hb)
  · rw [getD_set_ne false hij] at hl
    exact getD_set_true (h j oj hj hl e he hb)

theorem marksOf_listed {listed : Array Bool} {j : Nat} (hc : Closed ops listed) (hj : j ∈ Region.ready .any ops listed) (i : Nat) (hm : (marksOf ops j).getD i false = true) : i = j ∨ listed.getD i false = true := by
  obtain ⟨_, oj, hoj, hall⟩ := mem_ready.1 hj
  have inner : ∀ (es : List Edge) (m : Array Bool), (∀ e ∈ es, Region.binds .any e = true → listed.getD e.on false = true) → (∀ i, m.getD i false = true → i = j ∨ listed.getD i false = true) →
      ∀ i, (es.foldl (fun m e => if Region.binds .any e then m.setIfInBounds e.on true else m) m).getD i false = true → i = j ∨ listed.getD i false = true := by
    intro es
    induction es with
    | nil => intro m _ h i hi; exact h i hi
    | cons e es ih =>
      intro m he h i hi
      simp only [List.foldl_cons] at hi
      refine ih _ (fun e' h' => he e' (List.mem_cons_of_mem _ h')) ?_ i hi
      intro i' hi'
      by_cases hb : Region.binds .any e = true
      · rw [if_pos hb] at hi'
        by_cases heq : e.on = i'
        · subst heq; exact .inr (he e (List.mem_cons_self) hb)
        · rw [getD_set_ne false heq] at hi'; exact h i' hi'
      · rw [if_neg hb] at hi'; exact h i' hi'
  have outer : ∀ (ks : List Nat) (m : Array Bool), (∀ i, m.getD i false = true → i = j ∨ listed.getD i false = true) →
      ∀ i, (ks.foldl (fun m k => if m.getD k false then
        (match ops[k]? with
         | some o => o.after.toList.foldl (fun m e => if Region.binds .any e then m.setIfInBounds e.on true else m) m
         | none => m) else m) m).getD i false = true → i = j ∨ listed.getD i false = true := by
    intro ks
    induction ks with
    | nil => intro m h i hi; exact h i hi
    | cons k ks ih =>
      intro m h i hi
      simp only [List.foldl_cons] at hi
      refine ih _ ?_ i hi
      intro i' hi'
      by_cases hk : m.getD k false = true
      · rw [if_pos hk] at hi'
        cases ho : ops[k]? with
        | none => rw [ho] at hi'; exact h i' hi'
        | some o =>
          rw [ho] at hi'
          refine inner o.after.toList m ?_ h i' hi'
          intro e he hb
          rcases h k hk with rfl | hl
          · have : o = oj := Option.some.inj (ho.symm.trans hoj)
            subst this
            exact hall e (by simpa using he) hb
          · exact hc k o ho hl e (by simpa using he) hb
      · rw [if_neg hk] at hi'; exact h i' hi'
  refine outer _ _ ?_ i hm
  intro i' hi'
  by_cases heq : j = i'
  · exact .inl heq.symm
  · rw [getD_set_ne false heq] at hi'
    rcases Nat.lt_or_ge i' ops.size with h | h <;> simp [h] at hi'

theorem seqOk_unlisted : ∀ (r : List Step) (listed : Array Bool), seqOk ops r listed = true → ∀ x ∈ r, listed.getD x.1 true = false
  | [], _, _, x, hx => by cases hx
  | (i, k) :: r, listed, h, x, hx => by
    simp only [seqOk, Bool.and_eq_true] at h
    obtain ⟨⟨⟨⟨h1, _⟩, hlt⟩, _⟩, h2⟩ := h
    have hr : i ∈ Region.ready .any ops listed := by
      by_cases hk : (k == 0 || k == 1) = true
      · rw [if_pos hk] at h1; simp only [Bool.and_eq_true] at h1; simpa using h1.1
      · rw [if_neg hk] at h1; rw [decide_eq_true_eq] at h1; rw [h1]; exact List.mem_singleton.2 rfl
    rcases List.mem_cons.1 hx with rfl | hx
    · exact (mem_ready.1 hr).1
    · have := seqOk_unlisted r _ h2 x hx
      by_cases heq : i = x.1
      · have hri := (mem_ready.1 hr).1
        subst heq
        exact hri
      · rwa [getD_set_ne true heq] at this

theorem without_noS (j : Nat) : ∀ r : List Step, noS r = true → noS (without j r) = true
  | [], _ => rfl
  | (i, k) :: r, h => by
    simp only [noS, List.all_cons, Bool.and_eq_true] at h
    unfold without
    split
    · exact h.2
    · simp only [noS, List.all_cons, Bool.and_eq_true]; exact ⟨h.1, without_noS j r h.2⟩

theorem length_without {j : Nat} : ∀ r : List Step, j ∈ r.map (·.1) → (without j r).length + 1 = r.length
  | [], h => by cases h
  | (i, k) :: r, h => by
    unfold without
    by_cases hij : i = j
    · rw [if_pos hij]; rfl
    · rw [if_neg hij]
      have : j ∈ r.map (·.1) := by
        rcases List.mem_cons.1 h with e | e
        · exact absurd e.symm hij
        · exact e
      simp [length_without r this]

/-- Reading the check at a list whose head is a taken step. -/
theorem seqOk_cons {i k : Nat} {r : List Step} {listed : Array Bool} (h : seqOk ops ((i, k) :: r) listed = true) :
    i ∈ Region.ready .any ops listed ∧ (k = 0 ∨ k = 1 → Region.free .any ops listed i = true) ∧ (k ≠ 0 ∧ k ≠ 1 → Region.ready .any ops listed = [i]) ∧ (k = 3 → noS r = true) ∧ i < ops.size ∧ k < 4 ∧ seqOk ops r (listed.setIfInBounds i true) = true := by
  simp only [seqOk, Bool.and_eq_true, decide_eq_true_eq] at h
  obtain ⟨⟨⟨⟨h1, h3⟩, hlt⟩, h4⟩, h2⟩ := h
  by_cases hk : (k == 0 || k == 1) = true
  · rw [if_pos hk] at h1
    simp only [Bool.and_eq_true] at h1
    have hk' : k = 0 ∨ k = 1 := by simpa using hk
    refine ⟨by simpa using h1.1, fun _ => h1.2, fun hh => ?_, fun h3' => ?_, hlt, h4, h2⟩
    · rcases hk' with e | e
      · exact absurd e hh.1
      · exact absurd e hh.2
    · subst h3'; simpa using h3
  · rw [if_neg hk] at h1
    rw [decide_eq_true_eq] at h1
    refine ⟨by rw [h1]; exact List.mem_singleton.2 rfl, fun hh => ?_, fun _ => h1, fun h3' => ?_, hlt, h4, h2⟩
    · exfalso; apply hk; rcases hh with rfl | rfl <;> rfl
    · subst h3'; simpa using h3

theorem Yields.if' {o : Oper} {v : Value} {a : Act} (h : YieldsIf P ops (fun _ => True) o v a) : Yields P ops o v a :=
  h.imp (fun ⟨hw, hv⟩ => ⟨hw, fun w => hv w trivial⟩) id

/-- A step that may come up now is brought to the front: T: what holds of the world (S, or nothing where no step asks for it). -/
theorem wpSeq_front {T : World → Prop} {j kj : Nat} (hsel : ∀ (j : Nat) (o : Oper) cs b, ops[j]? = some o → o.op ≠ .select cs b)
    (hQ : ∀ c a d v w, Q (.panic c) (a.put d v) w → Q (.panic c) a w) :
    ∀ (r : List Step) (listed : Array Bool) (a : Act) (w : World), seqOk ops r listed = true → j ∈ Region.ready .any ops listed → (j, kj) ∈ r →
      (∀ x ∈ r, x.2 = 1 → ∀ w, T w → S w) → (kj = 2 → ∀ w, S w → T w) → (kj = 3 → ∀ w, T w) → T w → wpSeq P ops Q S r a w →
      wpOp P ops Q j (fun a' w' => T w' ∧ wpSeq P ops Q S (without j r) a' w') a w := by
  intro r
  induction r with
  | nil => intro listed a w _ _ hm; cases hm
  | cons x r ih =>
    obtain ⟨i, k⟩ := x
    intro listed a w hok hj hm h1 h2 h3 hTw hw
    obtain ⟨hir, hfree, hone, _, hlt, hk4, hok'⟩ := seqOk_cons hok
    have hoi : ops[i]? = some ops[i] := by simp [hlt]
    by_cases hij : i = j
    · subst hij
      have hk : k = kj := by
        rcases List.mem_cons.1 hm with e | e
        · exact ((Prod.mk.inj e).2).symm
        · have := seqOk_unlisted r _ hok' _ e
          simp only at this
          rcases Nat.lt_or_ge i listed.size with h | h
          · simp [h] at this
          · have h' := (mem_ready.1 hir).1
            simp [Array.getElem?_eq_none h] at h'
      subst hk
      simp only [wpSeq, hoi] at hw
      have e : without i ((i, k) :: r) = r := by simp [without]
      rw [e]
      by_cases k0 : k = 0
      · subst k0
        rw [if_pos rfl] at hw
        obtain ⟨v, hy, hrest⟩ := hw
        exact hy.wpOp hoi ⟨hTw, hrest⟩
      · rw [if_neg k0] at hw
        by_cases k1 : k = 1
        · subst k1
          rw [if_pos rfl] at hw
          obtain ⟨v, hy, hrest⟩ := hw
          exact hy.wpOp hoi (h1 (i, 1) (List.mem_cons_self) rfl w hTw) ⟨hTw, hrest⟩
        · rw [if_neg k1] at hw
          by_cases k2 : k = 2
          · rw [if_pos k2] at hw
            exact wpOp_mono (fun a' w' h => ⟨h2 k2 w' h.1, h.2⟩) hw
          · rw [if_neg k2] at hw
            exact wpOp_mono (fun a' w' h => ⟨h3 (by omega) w', h⟩) hw
    · have hmr : (j, kj) ∈ r := by
        rcases List.mem_cons.1 hm with e | e
        · exact absurd (Prod.mk.inj e).1.symm hij
        · exact e
      have hk01 : k = 0 ∨ k = 1 := by
        rcases Nat.decEq k 0 with h0 | h0
        · rcases Nat.decEq k 1 with h1' | h1'
          · have := hone ⟨h0, h1'⟩
            rw [this] at hj
            exact absurd (List.mem_singleton.1 hj) (Ne.symm hij)
          · exact .inr h1'
        · exact .inl h0
      have hj' : j ∈ Region.ready .any ops (listed.setIfInBounds i true) := ready_mono hj (Ne.symm hij)
      obtain ⟨hjun, oj, hoj, hall⟩ := mem_ready.1 hj
      have hnot : ∀ e ∈ oj.after, Region.binds .any e = true → e.on ≠ i := fun e he hb heq => by
        have h1 := hall e he hb
        have h0 := (mem_ready.1 hir).1
        rw [heq] at h1
        rcases Nat.lt_or_ge i listed.size with h' | h'
        · simp [h'] at h0 h1; rw [h0] at h1; cases h1
        · simp [Array.getElem?_eq_none h'] at h1
      have hap : (ops[i]).apart ops oj = true := Region.free_spec hoi (hfree hk01) j oj hoj (Ne.symm hij) hjun hnot
      have e : without j ((i, k) :: r) = (i, k) :: without j r := by simp [without, hij]
      rw [e]
      simp only [wpSeq, hoi] at hw
      by_cases k0 : k = 0
      · subst k0
        rw [if_pos rfl] at hw
        obtain ⟨v, hy, hrest⟩ := hw
        have h := ih (listed.setIfInBounds i true) _ w hok' hj' hmr (fun x hx => h1 x (List.mem_cons_of_mem _ hx)) h2 h3 hTw hrest
        have := wpOp_putIf (S := fun _ => True) hoj hap (fun cs b => hsel i _ cs b hoi) (fun cs b => hsel j oj cs b hoj) (fun c a w => hQ c a _ _ w) hy.yieldsIf h
        refine wpOp_mono (fun a' w' hh => ⟨hh.2.1, ?_⟩) this
        simp only [wpSeq, hoi]
        rw [if_pos trivial]
        exact ⟨v, Yields.if' hh.1, hh.2.2⟩
      · have k1 : k = 1 := hk01.resolve_left k0
        subst k1
        rw [if_neg k0, if_pos rfl] at hw
        obtain ⟨v, hy, hrest⟩ := hw
        have h := ih (listed.setIfInBounds i true) _ w hok' hj' hmr (fun x hx => h1 x (List.mem_cons_of_mem _ hx)) h2 h3 hTw hrest
        have := wpOp_putIf hoj hap (fun cs b => hsel i _ cs b hoi) (fun cs b => hsel j oj cs b hoj) (fun c a w => hQ c a _ _ w) hy h
        refine wpOp_mono (fun a' w' hh => ⟨hh.2.1, ?_⟩) this
        simp only [wpSeq, hoi]
        rw [if_neg (by decide), if_pos trivial]
        exact ⟨v, hh.1, hh.2.2⟩

theorem mem_of_ready {j : Nat} : ∀ (r : List Step) (listed : Array Bool), seqOk ops r listed = true → j ∈ Region.ready .any ops listed → ∃ kj, (j, kj) ∈ r
  | [], listed, hok, hj => by
    simp only [seqOk, List.isEmpty_iff] at hok
    rw [hok] at hj; cases hj
  | (i, k) :: r, listed, hok, hj => by
    by_cases hij : i = j
    · subst hij; exact ⟨k, List.mem_cons_self⟩
    · obtain ⟨kj, h⟩ := mem_of_ready r _ (seqOk_cons hok).2.2.2.2.2.2 (ready_mono hj (Ne.symm hij))
      exact ⟨kj, List.mem_cons_of_mem _ h⟩

theorem free_mono {listed : Array Bool} {i j : Nat} (h : Region.free .any ops listed i = true) : Region.free .any ops (listed.setIfInBounds j true) i = true := by
  unfold Region.free at *
  split
  · rename_i hn; simp [hn] at h
  · rename_i oi hoi
    simp only [hoi, List.all_eq_true, List.mem_range] at h ⊢
    intro x hx
    have h1 := h x hx
    simp only [Bool.or_eq_true] at h1 ⊢
    rcases h1 with (h1 | h1) | h1
    · exact .inl (.inl h1)
    · refine .inl (.inr ?_)
      by_cases hjx : j = x
      · subst hjx
        rcases Nat.lt_or_ge j listed.size with h2 | h2 <;> simp [h2]
      · rw [getD_set_ne true hjx]; exact h1
    · exact .inr h1

theorem seqOk_without {j kj : Nat} : ∀ (r : List Step) (listed : Array Bool), seqOk ops r listed = true → j ∈ Region.ready .any ops listed → (j, kj) ∈ r → seqOk ops (without j r) (listed.setIfInBounds j true) = true
  | [], _, _, _, hm => by cases hm
  | (i, k) :: r, listed, hok, hj, hm => by
    obtain ⟨hir, hfree, hone, hno, hlt, hk4, hok'⟩ := seqOk_cons hok
    by_cases hij : i = j
    · subst hij; simpa [without] using hok'
    · have hmr : (j, kj) ∈ r := by
        rcases List.mem_cons.1 hm with e | e
        · exact absurd (Prod.mk.inj e).1.symm hij
        · exact e
      have hk01 : k = 0 ∨ k = 1 := by
        rcases Nat.decEq k 0 with h0 | h0
        · rcases Nat.decEq k 1 with h1' | h1'
          · have := hone ⟨h0, h1'⟩
            rw [this] at hj
            exact absurd (List.mem_singleton.1 hj) (Ne.symm hij)
          · exact .inr h1'
        · exact .inl h0
      have hrec := seqOk_without r _ hok' (ready_mono hj (Ne.symm hij)) hmr
      rw [Array.setIfInBounds_comm _ _ hij] at hrec
      have hkb : (k == 0 || k == 1) = true := by rcases hk01 with rfl | rfl <;> rfl
      have hk3 : (k == 3) = false := by rcases hk01 with rfl | rfl <;> rfl
      have hc : (Region.ready .any ops (listed.setIfInBounds j true)).contains i = true := by simpa using ready_mono hir hij
      have e : without j ((i, k) :: r) = (i, k) :: without j r := by simp [without, hij]
      rw [e]
      simp only [seqOk, hkb, hk3, if_true, Bool.and_eq_true, decide_eq_true_eq, hrec, and_true]
      exact ⟨⟨⟨⟨hc, free_mono (hfree hk01)⟩, rfl⟩, hlt⟩, hk4⟩

theorem mem_without {j : Nat} : ∀ (r : List Step) (x : Step), x ∈ without j r → x ∈ r
  | [], _, h => h
  | (i, k) :: r, x, h => by
    unfold without at h
    split at h
    · exact List.mem_cons_of_mem _ h
    · rcases List.mem_cons.1 h with e | e
      · rw [e]; exact List.mem_cons_self
      · exact List.mem_cons_of_mem _ (mem_without r x e)

theorem lastOk_without {j : Nat} {r : List Step} (h : lastOk ops r = true) : lastOk ops (without j r) = true := by
  simp only [lastOk, List.all_eq_true] at h ⊢
  intro x hx
  have h1 := h x (mem_without r x hx)
  simp only [Bool.or_eq_true] at h1 ⊢
  rcases h1 with h1 | h1
  · exact .inl h1
  · refine .inr ?_
    rw [List.all_eq_true] at h1 ⊢
    exact fun y hy => h1 y (mem_without r y hy)

theorem noS_of_last {j : Nat} : ∀ (r : List Step) (listed : Array Bool), seqOk ops r listed = true → j ∈ Region.ready .any ops listed → (j, 3) ∈ r → (∀ x ∈ r, x.2 ≠ 1) → noS r = true
  | [], _, _, _, hm, _ => by cases hm
  | (i, k) :: r, listed, hok, hj, hm, h1 => by
    obtain ⟨hir, hfree, hone, hno, hlt, hk4, hok'⟩ := seqOk_cons hok
    by_cases hij : i = j
    · subst hij
      have hk : k = 3 := by
        rcases List.mem_cons.1 hm with e | e
        · exact ((Prod.mk.inj e).2).symm
        · have := seqOk_unlisted r _ hok' _ e
          simp only at this
          rcases Nat.lt_or_ge i listed.size with h | h
          · simp [h] at this
          · have h' := (mem_ready.1 hir).1
            simp [Array.getElem?_eq_none h] at h'
      subst hk
      have := hno rfl
      simp only [noS, List.all_cons, Bool.and_eq_true]
      exact ⟨rfl, this⟩
    · have hmr : (j, 3) ∈ r := by
        rcases List.mem_cons.1 hm with e | e
        · exact absurd (Prod.mk.inj e).1.symm hij
        · exact e
      have hk0 : k = 0 := by
        rcases Nat.decEq k 0 with h0 | h0
        · have := hone ⟨h0, h1 (i, k) List.mem_cons_self⟩
          rw [this] at hj
          exact absurd (List.mem_singleton.1 hj) (Ne.symm hij)
        · exact h0
      subst hk0
      simp only [noS, List.all_cons, Bool.and_eq_true]
      exact ⟨rfl, noS_of_last r _ hok' (ready_mono hj (Ne.symm hij)) hmr (fun x hx => h1 x (List.mem_cons_of_mem _ hx))⟩

theorem seqOk_kind : ∀ (r : List Step) (listed : Array Bool), seqOk ops r listed = true → ∀ x ∈ r, x.2 < 4
  | [], _, _, x, hx => by cases hx
  | (i, k) :: r, listed, h, x, hx => by
    obtain ⟨_, _, _, _, _, hk4, hok'⟩ := seqOk_cons h
    rcases List.mem_cons.1 hx with rfl | hx
    · exact hk4
    · exact seqOk_kind r _ hok' x hx

theorem wpAny_of_wpSeq (hsel : ∀ (j : Nat) (o : Oper) cs b, ops[j]? = some o → o.op ≠ .select cs b)
    (hQ : ∀ c a d v w, Q (.panic c) (a.put d v) w → Q (.panic c) a w) :
    ∀ (fuel : Nat) (r : List Step) (listed : Array Bool) (a : Act) (w : World), r.length = fuel → seqOk ops r listed = true → Closed ops listed → lastOk ops r = true →
      (S w ∨ noS r = true) → wpSeq P ops Q S r a w → wpAny P .any ops Q fuel listed a w := by
  intro fuel
  induction fuel with
  | zero =>
    intro r listed a w hl hok _ _ _ h
    have : r = [] := List.eq_nil_of_length_eq_zero hl
    subst this
    exact ⟨by simpa [seqOk] using hok, h⟩
  | succ fuel ih =>
    intro r listed a w hl hok hc hlast hinv h
    refine ⟨fun h0 => ?_, fun j hj => ?_⟩
    · cases r with
      | nil => cases hl
      | cons x r =>
        have := (seqOk_cons (i := x.1) (k := x.2) hok).1
        rw [h0] at this; cases this
    · obtain ⟨kj, hm⟩ := mem_of_ready r listed hok hj
      have hlen : (without j r).length = fuel := by
        have := length_without (j := j) r (List.mem_map.2 ⟨_, hm, rfl⟩)
        omega
      have hok2 := seqOk_without r listed hok hj hm
      have go : ∀ (a' : Act) (w' : World), (S w' ∨ noS (without j r) = true) → wpSeq P ops Q S (without j r) a' w' → wpAny P .any ops Q fuel (listed.setIfInBounds j true) a' w' :=
        fun a' w' hi hh => ih (without j r) _ a' w' hlen hok2 (hc.set hj) (lastOk_without hlast) hi hh
      by_cases hno : noS r = true
      · have hk : ∀ x ∈ r, x.2 = 0 ∨ x.2 = 3 := by
          intro x hx
          have := List.all_eq_true.1 hno x hx
          simpa using this
        have h2 := wpSeq_front (T := fun _ => True) hsel hQ r listed a w hok hj hm (fun x hx h1 => by rcases hk x hx with e | e <;> omega) (fun _ _ _ => trivial) (fun _ _ => trivial) trivial h
        exact wpOp_mono (fun a' w' hh => go a' w' (.inr (without_noS j r hno)) hh.2) h2
      · have hS : S w := hinv.resolve_right hno
        by_cases hk3 : kj = 3
        · subst hk3
          exfalso
          apply hno
          refine noS_of_last r listed hok hj hm ?_
          intro y hy hy1
          have h1 := List.all_eq_true.1 hlast _ hm
          simp only [Bool.or_eq_true] at h1
          rcases h1 with h1 | h1
          · exact absurd h1 (by decide)
          · have h2 := List.all_eq_true.1 h1 y hy
            simp only [hy1, Bool.or_eq_true, Bool.and_eq_true] at h2
            rcases h2 with h2 | ⟨h2, h3⟩
            · exact absurd h2 (by decide)
            · rcases marksOf_listed hc hj y.1 h2 with e | e
              · simp [e] at h3
              · have hu := seqOk_unlisted r listed hok y hy
                rcases Nat.lt_or_ge y.1 listed.size with h | h
                · rw [getD_size h true false] at hu; rw [hu] at e; cases e
                · simp [Array.getElem?_eq_none h] at hu
        · have h2 := wpSeq_front (T := S) hsel hQ r listed a w hok hj hm (fun _ _ _ _ h => h) (fun _ _ h => h) (fun h => absurd h hk3) hS h
          exact wpOp_mono (fun a' w' hh => go a' w' (.inl hh.1) hh.2) h2

theorem replicate_getD (n j : Nat) : (Array.replicate n false).getD j false = false := by
  rcases Nat.lt_or_ge j n with h | h
  · simp [h]
  · simp [h]

def regionOk (ops : Array Oper) (r : List Step) : Bool := Region.noSelect ops && (decide (r.length = ops.size) && (seqOk ops r (Array.replicate ops.size false) && lastOk ops r))

/-- A REGION THAT DRAWS ITS ORDER, WALKED IN THE ORDER r. -/
theorem wp_region_seq {id : Nat} {a : Act} {w : World} {l : List Oper} (S : World → Prop) (r : List Step) (hm : P.follows .mixedOrders = true) (hB : regionOk l.toArray r = true)
    (hQ : ∀ c a d v w, Q (.panic c) (a.put d v) w → Q (.panic c) a w) (hS : S w.drew) (h : wpSeq P l.toArray Q S r a w.drew) : (Code.region id l.toArray true).wp P Q a w := by
  simp only [regionOk, Bool.and_eq_true, decide_eq_true_eq] at hB
  obtain ⟨hsel, hlen, hseq, hlast⟩ := hB
  refine wp_region_any hm ?_
  have := wpAny_of_wpSeq (S := S) (Region.noSelect_spec hsel) hQ _ r (Array.replicate l.toArray.size false) a w.drew rfl hseq (by
    intro j oj _ hl
    rw [replicate_getD] at hl
    cases hl) hlast (.inl hS) h
  rw [hlen] at this
  exact this

theorem put_some (t : Array Value) (ds : List Deferred) (d : Tmp) (v : Value) : (⟨t, ds⟩ : Act).put (some d) v = ⟨t.setIfInBounds d v, ds⟩ := rfl
theorem put_none (a : Act) (v : Value) : a.put none v = a := rfl

/-- The same walk, the operations themselves in the list. -/
def wpL (P : Program) (ops : Array Oper) (Q : Exit → Act → World → Prop) (S : World → Prop) : List (Oper × Nat) → Act → World → Prop
  | [], a, w => Q .normal a w
  | (o, k) :: r, a, w =>
      if k = 0 then ∃ v, Yields P ops o v a ∧ wpL P ops Q S r (a.put o.dst v) w
      else if k = 1 then ∃ v, YieldsIf P ops S o v a ∧ wpL P ops Q S r (a.put o.dst v) w
      else if k = 2 then (if Region.wanted o (yielded ops a.tmps) then o.wp P a w (fun a' w' => S w' ∧ wpL P ops Q S r a' w') Q else S w ∧ wpL P ops Q S r (a.put o.dst undef) w)
      else (if Region.wanted o (yielded ops a.tmps) then o.wp P a w (fun a' w' => wpL P ops Q S r a' w') Q else wpL P ops Q S r (a.put o.dst undef) w)

def pickOps (l : List Oper) : List Step → List (Oper × Nat)
  | [] => []
  | (i, k) :: r => match l[i]? with
    | some o => (o, k) :: pickOps l r
    | none => []

theorem wpSeq_of_wpL {l : List Oper} : ∀ (r : List Step) (listed : Array Bool) (a : Act) (w : World), seqOk l.toArray r listed = true → wpL P l.toArray Q S (pickOps l r) a w → wpSeq P l.toArray Q S r a w
  | [], _, _, _, _, h => h
  | (i, k) :: r, listed, a, w, hok, h => by
    obtain ⟨_, _, _, _, hlt, _, hok'⟩ := seqOk_cons hok
    have hlt' : i < l.length := by simpa using hlt
    have hl : l[i]? = some l[i] := List.getElem?_eq_getElem hlt'
    have hi : l.toArray[i]? = some l[i] := by simp
    simp only [pickOps, hl] at h
    simp only [wpSeq, hi]
    simp only [wpL] at h
    split
    · rename_i k0; rw [if_pos k0] at h; obtain ⟨v, hy, hr⟩ := h; exact ⟨v, hy, wpSeq_of_wpL r _ _ _ hok' hr⟩
    · rename_i k0; rw [if_neg k0] at h
      split
      · rename_i k1; rw [if_pos k1] at h; obtain ⟨v, hy, hr⟩ := h; exact ⟨v, hy, wpSeq_of_wpL r _ _ _ hok' hr⟩
      · rename_i k1; rw [if_neg k1] at h
        split
        · rename_i k2; rw [if_pos k2] at h
          unfold wpOp
          simp only [hi]
          split
          · rename_i hw; rw [if_pos hw] at h; exact .inl (Oper.wp_mono (fun a' w' hh => ⟨hh.1, wpSeq_of_wpL r _ _ _ hok' hh.2⟩) h)
          · rename_i hw; rw [if_neg hw] at h; exact ⟨h.1, wpSeq_of_wpL r _ _ _ hok' h.2⟩
        · rename_i k2; rw [if_neg k2] at h
          unfold wpOp
          simp only [hi]
          split
          · rename_i hw; rw [if_pos hw] at h; exact .inl (Oper.wp_mono (fun a' w' hh => wpSeq_of_wpL r _ _ _ hok' hh) h)
          · rename_i hw; rw [if_neg hw] at h; exact wpSeq_of_wpL r _ _ _ hok' h

/-- A REGION THAT DRAWS ITS ORDER, WALKED IN THE ORDER r, its operations written out in L. -/
theorem wp_region_pick {id : Nat} {a : Act} {w : World} {l : List Oper} (S : World → Prop) (r : List Step) (hm : P.follows .mixedOrders = true) (hB : regionOk l.toArray r = true)
    (hQ : ∀ c a d v w, Q (.panic c) (a.put d v) w → Q (.panic c) a w) (hS : S w.drew) (h : wpL P l.toArray Q S (pickOps l r) a w.drew) : (Code.region id l.toArray true).wp P Q a w := by
  refine wp_region_seq S r hm hB hQ hS ?_
  simp only [regionOk, Bool.and_eq_true, decide_eq_true_eq] at hB
  exact wpSeq_of_wpL r _ a _ hB.2.2.1 h

section moves
variable {r : List (Oper × Nat)} {a a' : Act} {w w' : World} {o : Oper}
/-! ### The moves (a': the frame behind the step, written out) -/
theorem wpL_nil (h : Q .normal a w) : wpL P ops Q S [] a w := h
/-- yields in every world -/
theorem wpL_pure (v : Value) (hw : Region.wanted o (yielded ops a.tmps) = true)
    (hrun : ∀ W, (execOp a.eval o).run P W = .ok (.value v) W) (ha : a.put o.dst v = a') (h : wpL P ops Q S r a' w) : wpL P ops Q S ((o, 0) :: r) a w := by
  subst ha; exact ⟨v, .inl ⟨hw, hrun⟩, h⟩
/-- passed over -/
theorem wpL_skip (hw : Region.wanted o (yielded ops a.tmps) = false)
    (ha : a.put o.dst undef = a') (h : wpL P ops Q S r a' w) : wpL P ops Q S ((o, 0) :: r) a w := by
  subst ha; exact ⟨undef, .inr ⟨hw, rfl⟩, h⟩
/-- yields in every world that meets S -/
theorem wpL_held (v : Value) (hw : Region.wanted o (yielded ops a.tmps) = true)
    (hrun : ∀ W, S W → (execOp a.eval o).run P W = .ok (.value v) W) (ha : a.put o.dst v = a') (h : wpL P ops Q S r a' w) : wpL P ops Q S ((o, 1) :: r) a w := by
  subst ha; exact ⟨v, .inl ⟨hw, hrun⟩, h⟩
theorem wpL_heldSkip (hw : Region.wanted o (yielded ops a.tmps) = false)
    (ha : a.put o.dst undef = a') (h : wpL P ops Q S r a' w) : wpL P ops Q S ((o, 1) :: r) a w := by
  subst ha; exact ⟨undef, .inr ⟨hw, rfl⟩, h⟩
/-- whatever it does; S holds behind it -/
theorem wpL_step (hw : Region.wanted o (yielded ops a.tmps) = true)
    (h : ∀ K : Act → World → Prop, (∀ a' w', S w' → wpL P ops Q S r a' w' → K a' w') → o.wp P a w K Q) : wpL P ops Q S ((o, 2) :: r) a w := by
  show (if Region.wanted o (yielded ops a.tmps) = true then _ else _)
  rw [if_pos hw]
  exact h _ fun a' w' h1 h2 => ⟨h1, h2⟩
theorem wpL_last (hw : Region.wanted o (yielded ops a.tmps) = true)
    (h : ∀ K : Act → World → Prop, (∀ a' w', wpL P ops Q S r a' w' → K a' w') → o.wp P a w K Q) : wpL P ops Q S ((o, 3) :: r) a w := by
  show (if Region.wanted o (yielded ops a.tmps) = true then _ else _)
  rw [if_pos hw]
  exact h _ fun a' w' h1 => h1
/-- a step whose run is known -/
theorem wpL_stepRun (v : Value) (hw : Region.wanted o (yielded ops a.tmps) = true)
    (hrun : (execOp a.eval o).run P w = .ok (.value v) w') (hS : S w') (ha : a.put o.dst v = a') (h : wpL P ops Q S r a' w') : wpL P ops Q S ((o, 2) :: r) a w :=
  wpL_step hw fun K hK => by subst ha; unfold Oper.wp; rw [hrun]; exact hK _ _ hS h
theorem wpL_lastRun (v : Value) (hw : Region.wanted o (yielded ops a.tmps) = true)
    (hrun : (execOp a.eval o).run P w = .ok (.value v) w') (ha : a.put o.dst v = a') (h : wpL P ops Q S r a' w') : wpL P ops Q S ((o, 3) :: r) a w :=
  wpL_last hw fun K hK => by subst ha; unfold Oper.wp; rw [hrun]; exact hK _ _ h
theorem wpL_stepDone (hw : Region.wanted o (yielded ops a.tmps) = true)
    (hrun : (execOp a.eval o).run P w = .ok .skip w') (hS : S w') (ha : a.put o.dst undef = a') (h : wpL P ops Q S r a' w') : wpL P ops Q S ((o, 2) :: r) a w :=
  wpL_step hw fun K hK => by subst ha; unfold Oper.wp; rw [hrun]; exact hK _ _ hS h
theorem wpL_lastDone (hw : Region.wanted o (yielded ops a.tmps) = true)
    (hrun : (execOp a.eval o).run P w = .ok .skip w') (ha : a.put o.dst undef = a') (h : wpL P ops Q S r a' w') : wpL P ops Q S ((o, 3) :: r) a w :=
  wpL_last hw fun K hK => by subst ha; unfold Oper.wp; rw [hrun]; exact hK _ _ h
theorem wpL_stepSkip (hw : Region.wanted o (yielded ops a.tmps) = false)
    (hS : S w) (ha : a.put o.dst undef = a') (h : wpL P ops Q S r a' w) : wpL P ops Q S ((o, 2) :: r) a w := by
  subst ha
  show (if Region.wanted o (yielded ops a.tmps) = true then _ else _)
  rw [if_neg (by rw [hw]; decide)]
  exact ⟨hS, h⟩
theorem wpL_lastSkip (hw : Region.wanted o (yielded ops a.tmps) = false)
    (ha : a.put o.dst undef = a') (h : wpL P ops Q S r a' w) : wpL P ops Q S ((o, 3) :: r) a w := by
  subst ha
  show (if Region.wanted o (yielded ops a.tmps) = true then _ else _)
  rw [if_neg (by rw [hw]; decide)]
  exact h
/-- a call of a Go function by its contract -/
theorem wpL_stepCall {f : FuncId} {args : Array Value} (hw : Region.wanted o (yielded ops a.tmps) = true)
    (hrun : (execOp a.eval o).run P w = .ok (.enter f args) w) (hc : Calls P f args w fun e w' => ∃ v, e = .returned v ∧ S w' ∧ wpL P ops Q S r (a.put o.dst v) w') : wpL P ops Q S ((o, 2) :: r) a w :=
  wpL_step hw fun K hK => by
    unfold Oper.wp
    rw [hrun, Oper.upon_enter]
    refine hc.mono fun e w' hh => ?_
    obtain ⟨v, rfl, hs, hr⟩ := hh
    exact hK _ _ hs hr
theorem wpL_lastCall {f : FuncId} {args : Array Value} (hw : Region.wanted o (yielded ops a.tmps) = true)
    (hrun : (execOp a.eval o).run P w = .ok (.enter f args) w) (hc : Calls P f args w fun e w' => ∃ v, e = .returned v ∧ wpL P ops Q S r (a.put o.dst v) w') : wpL P ops Q S ((o, 3) :: r) a w :=
  wpL_last hw fun K hK => by
    unfold Oper.wp
    rw [hrun, Oper.upon_enter]
    refine hc.mono fun e w' hh => ?_
    obtain ⟨v, rfl, hr⟩ := hh
    exact hK _ _ hr
end moves
end
end Go.Proofs.YtlgefjcfnnjkbaaDoor
/- A region that draws its order, walked in ONE order that the prover names; a call that leaves the world as it is counts with the loads. No program is named; no conditions. -/
namespace Go.Proofs.YtlgefjcfnnjkbaaDoor
set_option maxRecDepth 100000
open Go.RowKit

section
variable {P : Program} {ops : Array Oper} {Q : Exit → Act → World → Prop} {S : World → Prop}

/-- in every world that meets S the operation leaves v and nothing else: by itself, or as a call that leaves the world as it is -/
def QuietIf (P : Program) (ops : Array Oper) (S : World → Prop) (o : Oper) (v : Value) (a : Act) : Prop :=
  (Region.wanted o (yielded ops a.tmps) = true ∧ ∀ W, S W → ((execOp a.eval o).run P W = .ok (.value v) W ∨ ∃ f args, (execOp a.eval o).run P W = .ok (.enter f args) W ∧ Calls P f args W (fun e W' => e = .returned v ∧ W' = W))) ∨
  (Region.wanted o (yielded ops a.tmps) = false ∧ v = undef)
theorem QuietIf.wpOp {i : Nat} {o : Oper} {v : Value} {a : Act} (hi : ops[i]? = some o) (hy : QuietIf P ops S o v a) {K : Act → World → Prop} {w : World} (hS : S w) (h : K (a.put o.dst v) w) : wpOp P ops Q i K a w := by
  unfold Go.wpOp
  simp only [hi]
  rcases hy with ⟨hw, hv⟩ | ⟨hw, rfl⟩
  · simp only [hw, if_true]
    refine .inl ?_
    unfold Oper.wp
    rcases hv w hS with hv | ⟨f, args, hv, hc⟩
    · rw [hv]; exact h
    · rw [hv, Oper.upon_enter]
      refine hc.mono fun e w' he => ?_
      obtain ⟨rfl, rfl⟩ := he
      exact h
  · simp only [hw, Bool.false_eq_true, if_false]; exact h
theorem QuietIf.same {o : Oper} {v : Value} {a a' : Act} (hy : QuietIf P ops S o v a) (he : execOp a'.eval o = execOp a.eval o) (hw : Region.wanted o (yielded ops a'.tmps) = Region.wanted o (yielded ops a.tmps)) : QuietIf P ops S o v a' := by
  unfold QuietIf at *
  rw [he, hw]; exact hy
/-- an operation apart from a quiet one, ahead of it instead of behind it -/
theorem wpOp_putQ {j : Nat} {oi oj : Oper} {v : Value} (hj : ops[j]? = some oj) (hap : oi.apart ops oj = true) (hsi : ∀ cs b, oi.op ≠ .select cs b) (hsj : ∀ cs b, oj.op ≠ .select cs b)
    (hQ : ∀ c a w, Q (.panic c) (a.put oi.dst v) w → Q (.panic c) a w) {K : Act → World → Prop} {a : Act} {w : World} (hy : QuietIf P ops S oi v a) (h : wpOp P ops Q j K (a.put oi.dst v) w) :
    wpOp P ops Q j (fun a' w' => QuietIf P ops S oi v a' ∧ K (a'.put oi.dst v) w') a w := by
  obtain ⟨h1, h2, h3⟩ := Oper.apart_spec hap
  have stays : ∀ b : Act, QuietIf P ops S oi v b → ∀ u, QuietIf P ops S oi v (b.put oj.dst u) := fun b hb u => hb.same (execOp_put oi hsi b oj.dst u h3) (wanted_put oi b oj.dst u h3)
  unfold wpOp at *
  simp only [hj] at *
  rw [wanted_put oj a oi.dst v h1] at h
  by_cases hw : Region.wanted oj (yielded ops a.tmps) = true
  · rw [if_pos hw] at h ⊢
    rcases h with h | ⟨ha, hl⟩
    · left
      unfold Oper.wp at *
      rw [execOp_put oj hsj a oi.dst v h1] at h
      cases hr : (execOp a.eval oj).run P w with
      | ok n w' =>
        rw [hr] at h
        cases n with
        | value u =>
          simp only [Oper.upon] at h ⊢
          exact ⟨stays a hy u, by rw [← Act.put_comm a v u h2]; exact h⟩
        | skip =>
          simp only [Oper.upon] at h ⊢
          exact ⟨stays a hy _, by rw [← Act.put_comm a v undef h2]; exact h⟩
        | defer d =>
          simp only [Oper.upon] at h ⊢
          refine ⟨stays { a with defers := d :: a.defers } (hy.same rfl rfl) _, ?_⟩
          rw [← Act.put_comm _ v undef h2, ← Act.put_defers]
          exact h
        | enter f args =>
          simp only [Oper.upon] at h ⊢
          refine h.mono fun e w2 he => ?_
          cases e with
          | returned u => exact ⟨stays a hy u, by rw [← Act.put_comm a v u h2]; exact he⟩
          | panicked c => exact hQ _ _ _ he
          | outgrown => exact he
        | row q args =>
          simp only [Oper.upon] at h ⊢
          exact Rows.mono h fun u w2 he => ⟨stays a hy u, by rw [← Act.put_comm a v u h2]; exact he⟩
        | _ => simp only [Oper.upon] at h ⊢
      | halt x w' =>
        rw [hr] at h
        cases x <;> simp only [Oper.upon] at h ⊢
        case panic u => exact hQ _ _ _ h
    · exact .inr ⟨by unfold Oper.asks at *; rw [execOp_put oj hsj a oi.dst v h1] at ha; exact ha, hl⟩
  · rw [if_neg hw] at h ⊢
    exact ⟨stays a hy _, by rw [← Act.put_comm a v undef h2]; exact h⟩

def wpSeqC (P : Program) (ops : Array Oper) (Q : Exit → Act → World → Prop) (S : World → Prop) : List Step → Act → World → Prop
  | [], a, w => Q .normal a w
  | (i, k) :: r, a, w =>
    match ops[i]? with
    | none => False
    | some o =>
      if k = 0 then ∃ v, QuietIf P ops (fun _ => True) o v a ∧ wpSeqC P ops Q S r (a.put o.dst v) w
      else if k = 1 then ∃ v, QuietIf P ops S o v a ∧ wpSeqC P ops Q S r (a.put o.dst v) w
      else if k = 2 then wpOp P ops Q i (fun a' w' => S w' ∧ wpSeqC P ops Q S r a' w') a w
      else wpOp P ops Q i (fun a' w' => wpSeqC P ops Q S r a' w') a w

/-- A step that may come up now is brought to the front: T: what holds of the world (S, or nothing where no step asks for it). -/
theorem wpSeqC_front {T : World → Prop} {j kj : Nat} (hsel : ∀ (j : Nat) (o : Oper) cs b, ops[j]? = some o → o.op ≠ .select cs b)
    (hQ : ∀ c a d v w, Q (.panic c) (a.put d v) w → Q (.panic c) a w) :
    ∀ (r : List Step) (listed : Array Bool) (a : Act) (w : World), seqOk ops r listed = true → j ∈ Region.ready .any ops listed → (j, kj) ∈ r →
      (∀ x ∈ r, x.2 = 1 → ∀ w, T w → S w) → (kj = 2 → ∀ w, S w → T w) → (kj = 3 → ∀ w, T w) → T w → wpSeqC P ops Q S r a w →
      wpOp P ops Q j (fun a' w' => T w' ∧ wpSeqC P ops Q S (without j r) a' w') a w := by
  intro r
  induction r with
  | nil => intro listed a w _ _ hm; cases hm
  | cons x r ih =>
    obtain ⟨i, k⟩ := x
    intro listed a w hok hj hm h1 h2 h3 hTw hw
    obtain ⟨hir, hfree, hone, _, hlt, hk4, hok'⟩ := seqOk_cons hok
    have hoi : ops[i]? = some ops[i] := by simp [hlt]
    by_cases hij : i = j
    · subst hij
      have hk : k = kj := by
        rcases List.mem_cons.1 hm with e | e
        · exact ((Prod.mk.inj e).2).symm
        · have := seqOk_unlisted r _ hok' _ e
          simp only at this
          rcases Nat.lt_or_ge i listed.size with h | h
          · simp [h] at this
          · have h' := (mem_ready.1 hir).1
            simp [Array.getElem?_eq_none h] at h'
      subst hk
      simp only [wpSeqC, hoi] at hw
      have e : without i ((i, k) :: r) = r := by simp [without]
      rw [e]
      by_cases k0 : k = 0
      · subst k0
        rw [if_pos rfl] at hw
        obtain ⟨v, hy, hrest⟩ := hw
        exact hy.wpOp hoi trivial ⟨hTw, hrest⟩
      · rw [if_neg k0] at hw
        by_cases k1 : k = 1
        · subst k1
          rw [if_pos rfl] at hw
          obtain ⟨v, hy, hrest⟩ := hw
          exact hy.wpOp hoi (h1 (i, 1) (List.mem_cons_self) rfl w hTw) ⟨hTw, hrest⟩
        · rw [if_neg k1] at hw
          by_cases k2 : k = 2
          · rw [if_pos k2] at hw
            exact wpOp_mono (fun a' w' h => ⟨h2 k2 w' h.1, h.2⟩) hw
          · rw [if_neg k2] at hw
            exact wpOp_mono (fun a' w' h => ⟨h3 (by omega) w', h⟩) hw
    · have hmr : (j, kj) ∈ r := by
        rcases List.mem_cons.1 hm with e | e
        · exact absurd (Prod.mk.inj e).1.symm hij
        · exact e
      have hk01 : k = 0 ∨ k = 1 := by
        rcases Nat.decEq k 0 with h0 | h0
        · rcases Nat.decEq k 1 with h1' | h1'
          · have := hone ⟨h0, h1'⟩
            rw [this] at hj
            exact absurd (List.mem_singleton.1 hj) (Ne.symm hij)
          · exact .inr h1'
        · exact .inl h0
      have hj' : j ∈ Region.ready .any ops (listed.setIfInBounds i true) := ready_mono hj (Ne.symm hij)
      obtain ⟨hjun, oj, hoj, hall⟩ := mem_ready.1 hj
      have hnot : ∀ e ∈ oj.after, Region.binds .any e = true → e.on ≠ i := fun e he hb heq => by
        have h1 := hall e he hb
        have h0 := (mem_ready.1 hir).1
        rw [heq] at h1
        rcases Nat.lt_or_ge i listed.size with h' | h'
        · simp [h'] at h0 h1; rw [h0] at h1; cases h1
        · simp [Array.getElem?_eq_none h'] at h1
      have hap : (ops[i]).apart ops oj = true := Region.free_spec hoi (hfree hk01) j oj hoj (Ne.symm hij) hjun hnot
      have e : without j ((i, k) :: r) = (i, k) :: without j r := by simp [without, hij]
      rw [e]
      simp only [wpSeqC, hoi] at hw
      by_cases k0 : k = 0
      · subst k0
        rw [if_pos rfl] at hw
        obtain ⟨v, hy, hrest⟩ := hw
        have h := ih (listed.setIfInBounds i true) _ w hok' hj' hmr (fun x hx => h1 x (List.mem_cons_of_mem _ hx)) h2 h3 hTw hrest
        have := wpOp_putQ (S := fun _ => True) hoj hap (fun cs b => hsel i _ cs b hoi) (fun cs b => hsel j oj cs b hoj) (fun c a w => hQ c a _ _ w) hy h
        refine wpOp_mono (fun a' w' hh => ⟨hh.2.1, ?_⟩) this
        simp only [wpSeqC, hoi]
        rw [if_pos trivial]
        exact ⟨v, hh.1, hh.2.2⟩
      · have k1 : k = 1 := hk01.resolve_left k0
        subst k1
        rw [if_neg k0, if_pos rfl] at hw
        obtain ⟨v, hy, hrest⟩ := hw
        have h := ih (listed.setIfInBounds i true) _ w hok' hj' hmr (fun x hx => h1 x (List.mem_cons_of_mem _ hx)) h2 h3 hTw hrest
        have := wpOp_putQ hoj hap (fun cs b => hsel i _ cs b hoi) (fun cs b => hsel j oj cs b hoj) (fun c a w => hQ c a _ _ w) hy h
        refine wpOp_mono (fun a' w' hh => ⟨hh.2.1, ?_⟩) this
        simp only [wpSeqC, hoi]
        rw [if_neg (by decide), if_pos trivial]
        exact ⟨v, hh.1, hh.2.2⟩

theorem wpAny_of_wpSeqC (hsel : ∀ (j : Nat) (o : Oper) cs b, ops[j]? = some o → o.op ≠ .select cs b)
    (hQ : ∀ c a d v w, Q (.panic c) (a.put d v) w → Q (.panic c) a w) :
    ∀ (fuel : Nat) (r : List Step) (listed : Array Bool) (a : Act) (w : World), r.length = fuel → seqOk ops r listed = true → Closed ops listed → lastOk ops r = true →
      (S w ∨ noS r = true) → wpSeqC P ops Q S r a w → wpAny P .any ops Q fuel listed a w := by
  intro fuel
  induction fuel with
  | zero =>
    intro r listed a w hl hok _ _ _ h
    have : r = [] := List.eq_nil_of_length_eq_zero hl
    subst this
    exact ⟨by simpa [seqOk] using hok, h⟩
  | succ fuel ih =>
    intro r listed a w hl hok hc hlast hinv h
    refine ⟨fun h0 => ?_, fun j hj => ?_⟩
    · cases r with
      | nil => cases hl
      | cons x r =>
        have := (seqOk_cons (i := x.1) (k := x.2) hok).1
        rw [h0] at this; cases this
    · obtain ⟨kj, hm⟩ := mem_of_ready r listed hok hj
      have hlen : (without j r).length = fuel := by
        have := length_without (j := j) r (List.mem_map.2 ⟨_, hm, rfl⟩)
        omega
      have hok2 := seqOk_without r listed hok hj hm
      have go : ∀ (a' : Act) (w' : World), (S w' ∨ noS (without j r) = true) → wpSeqC P ops Q S (without j r) a' w' → wpAny P .any ops Q fuel (listed.setIfInBounds j true) a' w' :=
        fun a' w' hi hh => ih (without j r) _ a' w' hlen hok2 (hc.set hj) (lastOk_without hlast) hi hh
      by_cases hno : noS r = true
      · have hk : ∀ x ∈ r, x.2 = 0 ∨ x.2 = 3 := by
          intro x hx
          have := List.all_eq_true.1 hno x hx
          simpa using this
        have h2 := wpSeqC_front (T := fun _ => True) hsel hQ r listed a w hok hj hm (fun x hx h1 => by rcases hk x hx with e | e <;> omega) (fun _ _ _ => trivial) (fun _ _ => trivial) trivial h
        exact wpOp_mono (fun a' w' hh => go a' w' (.inr (without_noS j r hno)) hh.2) h2
      · have hS : S w := hinv.resolve_right hno
        by_cases hk3 : kj = 3
        · subst hk3
          exfalso
          apply hno
          refine noS_of_last r listed hok hj hm ?_
          intro y hy hy1
          have h1 := List.all_eq_true.1 hlast _ hm
          simp only [Bool.or_eq_true] at h1
          rcases h1 with h1 | h1
          · exact absurd h1 (by decide)
          · have h2 := List.all_eq_true.1 h1 y hy
            simp only [hy1, Bool.or_eq_true, Bool.and_eq_true] at h2
            rcases h2 with h2 | ⟨h2, h3⟩
            · exact absurd h2 (by decide)
            · rcases marksOf_listed hc hj y.1 h2 with e | e
              · simp [e] at h3
              · have hu := seqOk_unlisted r listed hok y hy
                rcases Nat.lt_or_ge y.1 listed.size with h | h
                · rw [getD_size h true false] at hu; rw [hu] at e; cases e
                · simp [Array.getElem?_eq_none h] at hu
        · have h2 := wpSeqC_front (T := S) hsel hQ r listed a w hok hj hm (fun _ _ _ _ h => h) (fun _ _ h => h) (fun h => absurd h hk3) hS h
          exact wpOp_mono (fun a' w' hh => go a' w' (.inl hh.1) hh.2) h2


/-- A REGION THAT DRAWS ITS ORDER, WALKED IN THE ORDER r. -/
theorem wp_region_seqC {id : Nat} {a : Act} {w : World} {l : List Oper} (S : World → Prop) (r : List Step) (hm : P.follows .mixedOrders = true) (hB : regionOk l.toArray r = true)
    (hQ : ∀ c a d v w, Q (.panic c) (a.put d v) w → Q (.panic c) a w) (hS : S w.drew) (h : wpSeqC P l.toArray Q S r a w.drew) : (Code.region id l.toArray true).wp P Q a w := by
  simp only [regionOk, Bool.and_eq_true, decide_eq_true_eq] at hB
  obtain ⟨hsel, hlen, hseq, hlast⟩ := hB
  refine wp_region_any hm ?_
  have := wpAny_of_wpSeqC (S := S) (Region.noSelect_spec hsel) hQ _ r (Array.replicate l.toArray.size false) a w.drew rfl hseq (by
    intro j oj _ hl
    rw [replicate_getD] at hl
    cases hl) hlast (.inl hS) h
  rw [hlen] at this
  exact this

/-- The same walk, the operations themselves in the list. -/
def wpC (P : Program) (ops : Array Oper) (Q : Exit → Act → World → Prop) (S : World → Prop) : List (Oper × Nat) → Act → World → Prop
  | [], a, w => Q .normal a w
  | (o, k) :: r, a, w =>
      if k = 0 then ∃ v, QuietIf P ops (fun _ => True) o v a ∧ wpC P ops Q S r (a.put o.dst v) w
      else if k = 1 then ∃ v, QuietIf P ops S o v a ∧ wpC P ops Q S r (a.put o.dst v) w
      else if k = 2 then (if Region.wanted o (yielded ops a.tmps) then o.wp P a w (fun a' w' => S w' ∧ wpC P ops Q S r a' w') Q else S w ∧ wpC P ops Q S r (a.put o.dst undef) w)
      else (if Region.wanted o (yielded ops a.tmps) then o.wp P a w (fun a' w' => wpC P ops Q S r a' w') Q else wpC P ops Q S r (a.put o.dst undef) w)

theorem wpSeqC_of_wpC {l : List Oper} : ∀ (r : List Step) (listed : Array Bool) (a : Act) (w : World), seqOk l.toArray r listed = true → wpC P l.toArray Q S (pickOps l r) a w → wpSeqC P l.toArray Q S r a w
  | [], _, _, _, _, h => h
  | (i, k) :: r, listed, a, w, hok, h => by
    obtain ⟨_, _, _, _, hlt, _, hok'⟩ := seqOk_cons hok
    have hlt' : i < l.length := by simpa using hlt
    have hl : l[i]? = some l[i] := List.getElem?_eq_getElem hlt'
    have hi : l.toArray[i]? = some l[i] := by simp
    simp only [pickOps, hl] at h
    simp only [wpSeqC, hi]
    simp only [wpC] at h
    split
    · rename_i k0; rw [if_pos k0] at h; obtain ⟨v, hy, hr⟩ := h; exact ⟨v, hy, wpSeqC_of_wpC r _ _ _ hok' hr⟩
    · rename_i k0; rw [if_neg k0] at h
      split
      · rename_i k1; rw [if_pos k1] at h; obtain ⟨v, hy, hr⟩ := h; exact ⟨v, hy, wpSeqC_of_wpC r _ _ _ hok' hr⟩
      · rename_i k1; rw [if_neg k1] at h
        split
        · rename_i k2; rw [if_pos k2] at h
          unfold wpOp
          simp only [hi]
          split
          · rename_i hw; rw [if_pos hw] at h; exact .inl (Oper.wp_mono (fun a' w' hh => ⟨hh.1, wpSeqC_of_wpC r _ _ _ hok' hh.2⟩) h)
          · rename_i hw; rw [if_neg hw] at h; exact ⟨h.1, wpSeqC_of_wpC r _ _ _ hok' h.2⟩
        · rename_i k2; rw [if_neg k2] at h
          unfold wpOp
          simp only [hi]
          split
          · rename_i hw; rw [if_pos hw] at h; exact .inl (Oper.wp_mono (fun a' w' hh => wpSeqC_of_wpC r _ _ _ hok' hh) h)
          · rename_i hw; rw [if_neg hw] at h; exact wpSeqC_of_wpC r _ _ _ hok' h

/-- A REGION THAT DRAWS ITS ORDER, WALKED IN THE ORDER r, its operations written out in L. -/
theorem wp_region_pickC {id : Nat} {a : Act} {w : World} {l : List Oper} (S : World → Prop) (r : List Step) (hm : P.follows .mixedOrders = true) (hB : regionOk l.toArray r = true)
    (hQ : ∀ c a d v w, Q (.panic c) (a.put d v) w → Q (.panic c) a w) (hS : S w.drew) (h : wpC P l.toArray Q S (pickOps l r) a w.drew) : (Code.region id l.toArray true).wp P Q a w := by
  refine wp_region_seqC S r hm hB hQ hS ?_
  simp only [regionOk, Bool.and_eq_true, decide_eq_true_eq] at hB
  exact wpSeqC_of_wpC r _ a _ hB.2.2.1 h

section moves
variable {r : List (Oper × Nat)} {a a' : Act} {w w' : World} {o : Oper}
/-! ### The moves (a': the frame behind the step, written out) -/
theorem wpC_nil (h : Q .normal a w) : wpC P ops Q S [] a w := h
/-- yields in every world -/
theorem wpC_pure (v : Value) (hw : Region.wanted o (yielded ops a.tmps) = true)
    (hrun : ∀ W, (execOp a.eval o).run P W = .ok (.value v) W) (ha : a.put o.dst v = a') (h : wpC P ops Q S r a' w) : wpC P ops Q S ((o, 0) :: r) a w := by
  subst ha; exact ⟨v, .inl ⟨hw, fun W hW => .inl (hrun W)⟩, h⟩
/-- passed over -/
theorem wpC_skip (hw : Region.wanted o (yielded ops a.tmps) = false)
    (ha : a.put o.dst undef = a') (h : wpC P ops Q S r a' w) : wpC P ops Q S ((o, 0) :: r) a w := by
  subst ha; exact ⟨undef, .inr ⟨hw, rfl⟩, h⟩
/-- yields in every world that meets S -/
theorem wpC_held (v : Value) (hw : Region.wanted o (yielded ops a.tmps) = true)
    (hrun : ∀ W, S W → (execOp a.eval o).run P W = .ok (.value v) W) (ha : a.put o.dst v = a') (h : wpC P ops Q S r a' w) : wpC P ops Q S ((o, 1) :: r) a w := by
  subst ha; exact ⟨v, .inl ⟨hw, fun W hW => .inl (hrun W hW)⟩, h⟩
theorem wpC_heldSkip (hw : Region.wanted o (yielded ops a.tmps) = false)
    (ha : a.put o.dst undef = a') (h : wpC P ops Q S r a' w) : wpC P ops Q S ((o, 1) :: r) a w := by
  subst ha; exact ⟨undef, .inr ⟨hw, rfl⟩, h⟩
/-- whatever it does; S holds behind it -/
theorem wpC_step (hw : Region.wanted o (yielded ops a.tmps) = true)
    (h : ∀ K : Act → World → Prop, (∀ a' w', S w' → wpC P ops Q S r a' w' → K a' w') → o.wp P a w K Q) : wpC P ops Q S ((o, 2) :: r) a w := by
  show (if Region.wanted o (yielded ops a.tmps) = true then _ else _)
  rw [if_pos hw]
  exact h _ fun a' w' h1 h2 => ⟨h1, h2⟩
theorem wpC_last (hw : Region.wanted o (yielded ops a.tmps) = true)
    (h : ∀ K : Act → World → Prop, (∀ a' w', wpC P ops Q S r a' w' → K a' w') → o.wp P a w K Q) : wpC P ops Q S ((o, 3) :: r) a w := by
  show (if Region.wanted o (yielded ops a.tmps) = true then _ else _)
  rw [if_pos hw]
  exact h _ fun a' w' h1 => h1
/-- a step whose run is known -/
theorem wpC_stepRun (v : Value) (hw : Region.wanted o (yielded ops a.tmps) = true)
    (hrun : (execOp a.eval o).run P w = .ok (.value v) w') (hS : S w') (ha : a.put o.dst v = a') (h : wpC P ops Q S r a' w') : wpC P ops Q S ((o, 2) :: r) a w :=
  wpC_step hw fun K hK => by subst ha; unfold Oper.wp; rw [hrun]; exact hK _ _ hS h
theorem wpC_lastRun (v : Value) (hw : Region.wanted o (yielded ops a.tmps) = true)
    (hrun : (execOp a.eval o).run P w = .ok (.value v) w') (ha : a.put o.dst v = a') (h : wpC P ops Q S r a' w') : wpC P ops Q S ((o, 3) :: r) a w :=
  wpC_last hw fun K hK => by subst ha; unfold Oper.wp; rw [hrun]; exact hK _ _ h
theorem wpC_stepDone (hw : Region.wanted o (yielded ops a.tmps) = true)
    (hrun : (execOp a.eval o).run P w = .ok .skip w') (hS : S w') (ha : a.put o.dst undef = a') (h : wpC P ops Q S r a' w') : wpC P ops Q S ((o, 2) :: r) a w :=
  wpC_step hw fun K hK => by subst ha; unfold Oper.wp; rw [hrun]; exact hK _ _ hS h
theorem wpC_lastDone (hw : Region.wanted o (yielded ops a.tmps) = true)
    (hrun : (execOp a.eval o).run P w = .ok .skip w') (ha : a.put o.dst undef = a') (h : wpC P ops Q S r a' w') : wpC P ops Q S ((o, 3) :: r) a w :=
  wpC_last hw fun K hK => by subst ha; unfold Oper.wp; rw [hrun]; exact hK _ _ h
theorem wpC_stepSkip (hw : Region.wanted o (yielded ops a.tmps) = false)
    (hS : S w) (ha : a.put o.dst undef = a') (h : wpC P ops Q S r a' w) : wpC P ops Q S ((o, 2) :: r) a w := by
  subst ha
  show (if Region.wanted o (yielded ops a.tmps) = true then _ else _)
  rw [if_neg (by rw [hw]; decide)]
  exact ⟨hS, h⟩
theorem wpC_lastSkip (hw : Region.wanted o (yielded ops a.tmps) = false)
    (ha : a.put o.dst undef = a') (h : wpC P ops Q S r a' w) : wpC P ops Q S ((o, 3) :: r) a w := by
  subst ha
  show (if Region.wanted o (yielded ops a.tmps) = true then _ else _)
  rw [if_neg (by rw [hw]; decide)]
  exact h
/-- a call of a Go function by its contract -/
theorem wpC_stepCall {f : FuncId} {args : Array Value} (hw : Region.wanted o (yielded ops a.tmps) = true)
    (hrun : (execOp a.eval o).run P w = .ok (.enter f args) w) (hc : Calls P f args w fun e w' => ∃ v, e = .returned v ∧ S w' ∧ wpC P ops Q S r (a.put o.dst v) w') : wpC P ops Q S ((o, 2) :: r) a w :=
  wpC_step hw fun K hK => by
    unfold Oper.wp
    rw [hrun, Oper.upon_enter]
    refine hc.mono fun e w' hh => ?_
    obtain ⟨v, rfl, hs, hr⟩ := hh
    exact hK _ _ hs hr
theorem wpC_lastCall {f : FuncId} {args : Array Value} (hw : Region.wanted o (yielded ops a.tmps) = true)
    (hrun : (execOp a.eval o).run P w = .ok (.enter f args) w) (hc : Calls P f args w fun e w' => ∃ v, e = .returned v ∧ wpC P ops Q S r (a.put o.dst v) w') : wpC P ops Q S ((o, 3) :: r) a w :=
  wpC_last hw fun K hK => by
    unfold Oper.wp
    rw [hrun, Oper.upon_enter]
    refine hc.mono fun e w' hh => ?_
    obtain ⟨v, rfl, hr⟩ := hh
    exact hK _ _ hr
/-- a call that leaves the world as it is, whenever it comes -/
theorem wpC_quiet (v : Value) {f : FuncId} {args : Array Value} (hw : Region.wanted o (yielded ops a.tmps) = true)
    (hrun : ∀ W, (execOp a.eval o).run P W = .ok (.enter f args) W) (hc : ∀ W, S W → Calls P f args W fun e W' => e = .returned v ∧ W' = W) (ha : a.put o.dst v = a') (h : wpC P ops Q S r a' w) : wpC P ops Q S ((o, 1) :: r) a w := by
  subst ha; exact ⟨v, .inl ⟨hw, fun W hW => .inr ⟨f, args, hrun W, hc W hW⟩⟩, h⟩
theorem wpC_quiet0 (v : Value) {f : FuncId} {args : Array Value} (hw : Region.wanted o (yielded ops a.tmps) = true)
    (hrun : ∀ W, (execOp a.eval o).run P W = .ok (.enter f args) W) (hc : ∀ W, Calls P f args W fun e W' => e = .returned v ∧ W' = W) (ha : a.put o.dst v = a') (h : wpC P ops Q S r a' w) : wpC P ops Q S ((o, 0) :: r) a w := by
  subst ha; exact ⟨v, .inl ⟨hw, fun W _ => .inr ⟨f, args, hrun W, hc W⟩⟩, h⟩
end moves
end
end Go.Proofs.YtlgefjcfnnjkbaaDoor
