/- What a statement's proof wants of its inputs and of its end: inputs opened to lists; a call that answers true and leaves all as it was meets the row. No conditions. -/
import Derived.Test.YtlgefjcfnnjkbaaSl
import Derived.ProofKit
import Derived.Lib.SmallJoins
import Derived.Deep.Slices
import Derived.Deep.Fields
namespace Go.Proofs.Ytlgefjcfnnjkbaa
open Go.ChangeShapes Go.WideShapes Go.ChangeAt Go.RowKit Go.Joins

theorem Try.own : ownKnob Try.prog.godebug = none := by kernel_rfl
theorem Try.laidOut : laidOutB Try.prog = true := by kernel_rfl
theorem Try.mapsRow : mapsRowed Try.prog = true := by kernel_rfl
theorem Try.kids : Kids Try.prog (· < Try.prog.types.size) := kids_rows Try.laidOut Try.mapsRow
theorem Try.full : ∀ t e, t < Try.prog.types.size → Try.prog.underlying t = some (.slice e) → 0 < Try.prog.cellsOf e := slices_full_of Try.prog (by kernel_rfl)

section
variable {H : Type} {enc : TypeId × Value → H} {W W' : World} {base : Nat}

theorem sameAt_only (ho : Only (fun _ => False) W W') {p : MemPlace} (hp : p.block < W.heap.size) : W.sameAt W' p := by
  cases p with
  | cell b off => exact ho.cell (p := ⟨b, off, none⟩) hp id
  | map b => exact ho.block b hp id

theorem trodAll_stays (ho : Only (fun _ => False) W W') (sp : Nat → Bool) : ∀ {ts : List TypeId} {vs : List Value} {ds : List (DataW H)} {ps : List MemPlace}, (∀ t ∈ ts, t < Try.prog.types.size) →
    DataW.TrodAll enc Try.prog W 0 (fun _ => true) true ts vs ds ps → (∀ p ∈ ps, p.block < W.heap.size) → (∀ p ∈ ps, sp p.block = true) → DataW.TrodAll enc Try.prog W' 0 sp true ts vs ds ps
  | [], [], [], _, _, h, _, _ => h
  | _ :: _, _ :: _, _ :: _, _, hT, ⟨p, q, h1, h2, e⟩, hl, hs => by
    subst e
    obtain ⟨n, hn⟩ := h1
    refine ⟨p, q, ⟨n, ?_⟩, trodAll_stays ho sp (fun t ht => hT t (List.mem_cons_of_mem _ ht)) h2 (fun x hx => hl x (List.mem_append_right _ hx)) (fun x hx => hs x (List.mem_append_right _ hx)), rfl⟩
    exact DataW.trod_stays Try.kids (fun {t e} ht hu => Try.full t e ht hu) (fun h => by cases h) (hT _ List.mem_cons_self) hn (fun x hx => sameAt_only ho (hl x (List.mem_append_left _ hx))) (fun x hx => hs x (List.mem_append_left _ hx))

theorem keptBut_only (ho : Only (fun _ => False) W W') (may : MemPlace → Prop) : W.keptBut W' may := by
  refine ⟨ho.os, ho.output, fun i hi => ?_⟩
  rw [ho.block i hi id]
  cases W.heap[i]? with
  | none => rfl
  | some o => cases o <;> first | exact ⟨rfl, rfl, rfl, fun _ _ => rfl⟩ | exact .inr ⟨rfl, rfl⟩ | rfl

theorem law_post {f : Func} {s : ChangeSpec} {args : Array Value} {ds gs : List (DataW H)} {before : List MemPlace} (hv : s.vars = []) (hW : DataW.Whole enc Try.prog f.params.toList s.vars false W args.toList ds gs before)
    (hr : f.resultTypes = #[4]) (hp : ∀ t ∈ f.params.toList, t < Try.prog.types.size) (hf : (s.fn H (ds ++ gs)).results = [.lit (.bool true)]) (ha : (s.fn H (ds ++ gs)).args = ds) (hvs : (s.fn H (ds ++ gs)).vars = [])
    (ho : Only (fun _ => False) W W') : s.post enc Try.prog f false true false false W args (.bool true) W' := by
  have hlt := hW.lt
  have hW' := hW
  obtain ⟨p, q, hA, hV, rfl, hfz, hnd⟩ := hW
  have hV' := hV
  rw [hv] at hV'
  obtain ⟨rfl, rfl⟩ := trodVars_none hV'
  refine ⟨ds, [], p ++ [], [], p, [], hW', ?_, ?_, ?_, keptBut_only ho _, fun h => by cases h⟩
  · rw [hf, hr]
    exact trodAll_mk1 (shut_bool Try.underlying4 _)
  · rw [ha]
    exact trodAll_stays ho _ hp hA (fun x hx => hlt x (by simpa using hx)) (fun x hx => by simpa using hlt x (by simpa using hx))
  · rw [hv, hvs]
    trivial

theorem front_extract (s : List UInt8) (c : Int) (m : Nat) (hc : c = m) : (⟨s.toArray⟩ : ByteArray).extract 0 (if c < (s.length : Int) then c else (s.length : Int)).toNat = ⟨(s.take m).toArray⟩ := by
  subst hc
  rw [extract_list, List.drop_zero]
  congr 2
  by_cases h : (m : Int) < (s.length : Int)
  · rw [if_pos h, Int.toNat_natCast]
  · rw [if_neg h, Int.toNat_natCast, List.take_of_length_le (Nat.le_refl _), List.take_of_length_le (by omega)]

theorem need_nat (w : World) (n : Nat) (h : n ≤ 9223372036854775807) : Calls Try.prog 25 #[.int .i64 (n : Int)] w fun e w' => e = .returned (.int .i64 (need n : Nat)) ∧ w = w' := by
  have := need_any w n (by omega)
  have hni : needI n = (need n : Nat) := by simp [needI]; omega
  rwa [hni] at this

/-! ### Inputs -/
theorem law_str {r : Reach} {b0 : Nat} {t : TypeId} {v : Value} {d : DataW H} {ps : List MemPlace} (ht : Try.prog.underlying t = some .string) (hval : Value.okWide Try.prog W r b0 t v) (hd : DataW.Trod enc Try.prog W base (fun _ => true) true t v d ps) :
    ∃ l : List UInt8, v = .string ⟨l.toArray⟩ ∧ l.length ≤ maxLen := by
  obtain ⟨s, rfl, _, _, hs⟩ := Go.ChangeMaps.open_string ht hval hd
  exact ⟨s.data.toList, rfl, by simpa using hs⟩

theorem i64_of_wf {n : Int} (h : (Lit.int .i64 n).wf = true) : I64 n := bounds_i64 h

theorem law_frame {r : Reach} {b0 : Nat} {v : Value} {d : DataW H} {ps : List MemPlace} (hval : Value.okWide Try.prog W r b0 23 v) (hd : DataW.Trod enc Try.prog W base (fun _ => true) true 23 v d ps) :
    ∃ f : Fr, v = f.val ∧ f.Wf := by
  obtain ⟨v0, v1, v2, v3, y0, y1, y2, y3, n, rfl, _, _, h0, h1, h2, h3⟩ := open_agg4 Try.underlying23 (by kernel_rfl) (by kernel_rfl) hval hd
  obtain ⟨e, he, _, we⟩ := DataW.trod_int Try.underlying3 h0
  obtain ⟨a, ha, _, wa⟩ := DataW.trod_int Try.underlying3 h1
  obtain ⟨k, hk, _, wk⟩ := DataW.trod_int Try.underlying3 h2
  obtain ⟨s, hs, _, ws⟩ := DataW.trod_string Try.underlying9 h3
  simp only [List.cons.injEq, and_true] at he ha hk hs
  subst he ha hk hs
  exact ⟨⟨e, a, k, s.data.toList⟩, rfl, ⟨bounds_i64 we, bounds_i64 wa, bounds_i64 wk, by simpa using ws⟩⟩

theorem addr_of_cell {a : Addr} {v : Value} (h : W.cell? a = some v) : ∃ b o, a = ⟨b, o, none⟩ := by
  obtain ⟨b, o, sp⟩ := a
  cases sp with
  | none => exact ⟨b, o, rfl⟩
  | some x =>
    exfalso
    unfold World.cell? at h
    split at h
    · simp at h
    · cases h
theorem add_zero_addr (a : Addr) : a.add 0 = a := by simp [Addr.add]

/-- cells behind an address as a slice -/
theorem sliceOf_addr {a : Addr} {n cap : Nat} {cs : List Value} (hn : n ≤ 9223372036854775807) (h : ∀ j x, cs[j]? = some x → W.cell? (a.add j) = some x) : SliceOf W (.slice (some a) n cap) n cs (some a) cap := by
  refine ⟨rfl, hn, fun j x hx => ?_⟩
  have hj : j < cs.length := (List.getElem?_eq_some_iff.1 hx).1
  have h0 := h 0 _ (List.getElem?_eq_getElem (by omega))
  rw [add_zero_addr] at h0
  obtain ⟨b, o, rfl⟩ := addr_of_cell h0
  exact ⟨b, o, rfl, by rw [← add_mk]; exact h j x hx⟩

theorem law_texts {r : Reach} {b0 : Nat} {t e : TypeId} {v : Value} {d : DataW H} {ps : List MemPlace} (ht : Try.prog.underlying t = some (.slice e)) (he : Try.prog.underlying e = some .string) (hc : Try.prog.cellsOf e = 1)
    (hval : Value.okWide Try.prog W r b0 t v) (hd : DataW.Trod enc Try.prog W base (fun _ => true) true t v d ps) :
    ∃ (l : List (List UInt8)) (ao : Option Addr) (cap : Nat), SliceOf W v l.length (txts l) ao cap ∧ ∀ x ∈ l, x.length ≤ maxLen := by
  obtain ⟨a0, n0, c0, rfl⟩ := okWide_slice ht hval
  obtain ⟨fuel, hf⟩ := hd
  rcases open_strings ht he hc hf with ⟨hcs, _⟩ | ⟨a, len, cap, ss, hcs, hb, hl, hm, hlen, _, hcell, hws⟩
  · simp only [Value.cells, List.cons.injEq, and_true] at hcs
    rw [hcs]
    exact ⟨[], none, 0, ⟨rfl, by simp, fun j x hx => by simp [txts] at hx⟩, fun x hx => by cases hx⟩
  · simp only [Value.cells, List.cons.injEq, and_true] at hcs
    rw [hcs]
    simp only [if_true] at hlen
    have hll : ((ss.take len).map fun s => s.data.toList).length = len := by simp; omega
    refine ⟨(ss.take len).map fun s => s.data.toList, some a, cap, ?_, ?_⟩
    · rw [hll]
      refine sliceOf_addr (by unfold maxLen at hm; omega) (fun j x hx => ?_)
      have hj : j < len := by
        have := (List.getElem?_eq_some_iff.1 hx).1
        simp [txts] at this
        omega
      have e1 := hcell j (by omega)
      rw [e1]
      simp only [txts, List.map_map, List.getElem?_map, List.getElem?_take, hj, if_true, Option.map_eq_some_iff, Function.comp_apply] at hx
      obtain ⟨s, hs, rfl⟩ := hx
      rw [List.getD_eq_getElem?_getD, hs]
      rfl
    · intro x hx
      obtain ⟨s, hs, rfl⟩ := List.mem_map.1 hx
      have := hws s (List.mem_of_mem_take hs)
      simpa using this

theorem law_ints {r : Reach} {b0 : Nat} {t e : TypeId} {k : IntKind} {v : Value} {d : DataW H} {ps : List MemPlace} (ht : Try.prog.underlying t = some (.slice e)) (he : Try.prog.underlying e = some (.int k)) (hc : Try.prog.cellsOf e = 1)
    (hval : Value.okWide Try.prog W r b0 t v) (hd : DataW.Trod enc Try.prog W base (fun _ => true) true t v d ps) :
    ∃ (l : List Int) (ao : Option Addr) (cap : Nat), SliceOf W v l.length (l.map (Value.int k)) ao cap ∧ ∀ x ∈ l, (Lit.int k x).wf = true := by
  obtain ⟨a0, n0, c0, rfl⟩ := okWide_slice ht hval
  obtain ⟨fuel, hf⟩ := hd
  rcases open_ints ht he hc hf with ⟨hcs, _⟩ | ⟨a, len, cap, zs, hcs, hb, hl, hm, hlen, _, hcell, hws⟩
  · simp only [Value.cells, List.cons.injEq, and_true] at hcs
    rw [hcs]
    exact ⟨[], none, 0, ⟨rfl, by simp, fun j x hx => by simp at hx⟩, fun x hx => by cases hx⟩
  · simp only [Value.cells, List.cons.injEq, and_true] at hcs
    rw [hcs]
    simp only [if_true] at hlen
    have hll : (zs.take len).length = len := by simp; omega
    refine ⟨zs.take len, some a, cap, ?_, fun x hx => hws x (List.mem_of_mem_take hx)⟩
    rw [hll]
    refine sliceOf_addr (by unfold maxLen at hm; omega) (fun j x hx => ?_)
    have hj : j < len := by
      have := (List.getElem?_eq_some_iff.1 hx).1
      simp at this
      omega
    rw [hcell j (by omega)]
    simp only [List.getElem?_map, List.getElem?_take, hj, if_true, Option.map_eq_some_iff] at hx
    obtain ⟨s, hs, rfl⟩ := hx
    rw [List.getD_eq_getElem?_getD, hs]
    rfl
end
end Go.Proofs.Ytlgefjcfnnjkbaa
