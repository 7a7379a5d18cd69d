/- Rows that are set aside while a disk is written; eight batches of a statement, as frames. No conditions. -/
import Derived.Test.YtlgefjcfnnjkbaaDK
import Derived.Test.YtlgefjcfnnjkbaaFrameDP
import Derived.Test.YtlgefjcfnnjkbaaApp2
namespace Go.Proofs.Ytlgefjcfnnjkbaa
open Go.RowKit

theorem SliceOf.held {w w' : World} {F : Nat → Prop} {v : Value} {n : Nat} {cs : List Value} {ao : Option Addr} {cap : Nat} (h : SliceOf w v n cs ao cap) (ho : Only (fun b => ¬ F b) w w') (hF : ∀ b o, ao = some ⟨b, o, none⟩ → F b) : SliceOf w' v n cs ao cap := by
  refine ⟨h.val, h.len, fun j x hx => ?_⟩
  obtain ⟨b, o, e, hc⟩ := h.cell j x hx
  exact ⟨b, o, e, by rw [ho.cell (World.block_lt_of_cell? _ _ hc) (fun hn => hn (hF b o e))]; exact hc⟩
theorem own_at {w : World} {base size n cap : Nat} {e : TypeId} {ao : Option Addr} {cs : List Value} (h : w.ownsRow base e size (.slice ao n cap) n cs) : ∀ b o, ao = some ⟨b, o, none⟩ → (Value.slice ao n cap).ownBlock = some b := by
  intro b o e
  subst e
  rcases h.2 with ⟨hv, _⟩ | ⟨g, _, _, hv, _⟩
  · cases hv
  · cases hv; rfl

theorem Disks.fewer {w0 w : World} {F F' : Nat → Prop} {l : List Dk} (h : Disks w0 w F l) (hF : ∀ b, F' b → F b) : Disks w0 w F' l :=
  ⟨h.only, h.at_, fun i x hx b hb => ⟨(h.new i x hx b hb).1, fun hf => (h.new i x hx b hb).2 (hF b hf)⟩, h.apart, fun b hb => h.froz b (hF b hb)⟩
/-- a row that is set aside grows: it lies where it lay, or in a new block -/
theorem Disks.row {w0 w w' : World} {F : Nat → Prop} {l : List Dk} {v v' : Value} (h : Disks w0 w (fun b => F b ∨ v.ownBlock = some b) l) (ho : Only (fun b => v.ownBlock = some b) w w') (hnew : ∀ b, v.ownBlock = some b → w0.heap.size ≤ b)
    (hv' : ∀ b, v'.ownBlock = some b → (v.ownBlock = some b ∨ w.heap.size ≤ b) ∧ b < w'.heap.size) : Disks w0 w' (fun b => F b ∨ v'.ownBlock = some b) l := by
  refine ⟨h.only.trans' ho (fun k hk e => by have := hnew k e; omega), fun i x hx => (h.at_ i x hx).only ho (fun b hb hb' => (h.new i x hx b hb).2 (.inr hb')), fun i x hx b hb => ⟨(h.new i x hx b hb).1, ?_⟩, h.apart, fun b hb => ?_⟩
  · rintro (hF | hF)
    · exact (h.new i x hx b hb).2 (.inl hF)
    · rcases (hv' b hF).1 with h1 | h1
      · exact (h.new i x hx b hb).2 (.inr h1)
      · have := (h.at_ i x hx).fp_lt b hb; omega
  · rcases hb with hb | hb
    · exact Nat.lt_of_lt_of_le (h.froz b (.inl hb)) ho.size
    · exact (hv' b hb).2
/-- the batches of a statement: eight at most, so many bytes each at most -/
def cutB (l : List (List UInt8)) (m : Nat) : List (List UInt8) := (l.take 8).map (·.take m)
theorem cutB_length (l : List (List UInt8)) (m : Nat) : (cutB l m).length = min 8 l.length := by simp [cutB]
theorem cutB_get (l : List (List UInt8)) (m k : Nat) (h : k < l.length) (h8 : k < 8) : (cutB l m).getD k [] = l[k].take m := by
  simp [cutB, List.getD_eq_getElem?_getD, h8, List.getElem?_eq_getElem h]
theorem cutB_small (l : List (List UInt8)) (m k : Nat) : ((cutB l m).getD k []).length ≤ m := by
  simp only [cutB, List.getD_eq_getElem?_getD, List.getElem?_map, List.getElem?_take]
  split
  · cases l[k]? with
    | none => simp
    | some x => simp; omega
  · simp
theorem frs_ones (q : List Fr) : ∀ u ∈ frs q, u.oneCell' = true := by
  intro u hu
  simp only [frs, List.mem_flatten, List.mem_map] at hu
  obtain ⟨_, ⟨f, _, rfl⟩, hu⟩ := hu
  exact cells_one f u hu
theorem own_cap {w : World} {base e s n cap : Nat} {ao : Option Addr} {xs : List Value} (h : w.ownsRow base e s (.slice ao n cap) n xs) : n ≤ cap := by
  rcases h.2 with ⟨hv, h0⟩ | ⟨g, cp, cur, hv, _, _, hc, _⟩
  · omega
  · cases hv; exact hc

section
variable {w0 w : World} {F : Nat → Prop} {l : List Dk} (h : Disks w0 w F l)
include h
theorem dk_lay (f : Fr) (hf : f.right = true) : Calls Try.prog 33 #[f.val] w fun e w' => e = .returned (.tuple #[.string ⟨f.lay.toArray⟩, .int .i64 0]) ∧ Disks w0 w' F l ∧ Only (fun b => ¬ F b) w w' :=
  (lay_good w f hf).mono fun _ _ ⟨he, ho⟩ => ⟨he, h.quiet ho, ho.mono fun _ _ => False.elim⟩
theorem dk_readF (t : List UInt8) (ht : t.length ≤ maxLen) : Calls Try.prog 34 #[.string ⟨t.toArray⟩] w fun e w' => e = .returned (readV t) ∧ Disks w0 w' F l ∧ Only (fun b => ¬ F b) w w' :=
  (read_any w t ht).mono fun _ _ ⟨he, ho⟩ => ⟨he, h.quiet ho, ho.mono fun _ _ => False.elim⟩
end
theorem readV_some {t : List UInt8} {f : Fr} (h : readF t = some f) : readV t = .tuple #[f.val, .int .i64 0] := by
  rw [readV_eq]
  simp [readF', readE, h]
theorem readV_none {t : List UInt8} (h : readF t = none) : readV t = .tuple #[noFr.val, .int .i64 120] := by
  rw [readV_eq]
  simp [readF', readE, h]
  rfl
end Go.Proofs.Ytlgefjcfnnjkbaa
