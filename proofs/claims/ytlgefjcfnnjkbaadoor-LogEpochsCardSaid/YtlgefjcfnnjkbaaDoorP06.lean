/- Parts of the proof, one behind the other: Law, FrameP, Join, Frame9, Frame10, Frame11, Frame12. Each part's own words say what it proves; no conditions. -/
import Derived.ProofKit
import Derived.Lib.SmallJoins
import Derived.Deep.Slices
import Derived.Deep.Fields
import Derived.Outline
import Derived.Test.YtlgefjcfnnjkbaaDoorP04
import Derived.Test.YtlgefjcfnnjkbaaDoorP05
set_option linter.unusedVariables false
set_option linter.unusedSimpArgs false
set_option linter.unusedSectionVars false
/- What a statement's proof wants of its inputs and of its end: inputs opened to lists; a call that answers true and leaves all as it was meets the row. No conditions. -/
namespace Go.Proofs.YtlgefjcfnnjkbaaDoor
set_option maxRecDepth 100000
open Go.ChangeShapes Go.WideShapes Go.ChangeAt Go.RowKit Go.Joins

theorem Tryd.own : ownKnob Tryd.prog.godebug = none := by kernel_rfl
theorem Tryd.laidOut : laidOutB Tryd.prog = true := by kernel_rfl
theorem Tryd.mapsRow : mapsRowed Tryd.prog = true := by kernel_rfl
theorem Tryd.kids : Kids Tryd.prog (· < Tryd.prog.types.size) := kids_rows Tryd.laidOut Tryd.mapsRow
theorem Tryd.full : ∀ t e, t < Tryd.prog.types.size → Tryd.prog.underlying t = some (.slice e) → 0 < Tryd.prog.cellsOf e := slices_full_of Tryd.prog (by kernel_rfl)

section
variable {H : Type} {enc : TypeId × Value → H} {W W' : World} {base : Nat}

theorem sameAt_only (ho : Only (fun _ => False) W W') {p : MemPlace} (hp : p.block < W.heap.size) : W.sameAt W' p := by
  cases p with
  | cell b off => exact ho.cell (p := ⟨b, off, none⟩) hp id
  | map b => exact ho.block b hp id

theorem trodAll_stays (ho : Only (fun _ => False) W W') (sp : Nat → Bool) : ∀ {ts : List TypeId} {vs : List Value} {ds : List (DataW H)} {ps : List MemPlace}, (∀ t ∈ ts, t < Tryd.prog.types.size) →
    DataW.TrodAll enc Tryd.prog W 0 (fun _ => true) true ts vs ds ps → (∀ p ∈ ps, p.block < W.heap.size) → (∀ p ∈ ps, sp p.block = true) → DataW.TrodAll enc Tryd.prog W' 0 sp true ts vs ds ps
  | [], [], [], _, _, h, _, _ => h
  | _ :: _, _ :: _, _ :: _, _, hT, ⟨p, q, h1, h2, e⟩, hl, hs => by
    subst e
    obtain ⟨n, hn⟩ := h1
    refine ⟨p, q, ⟨n, ?_⟩, trodAll_stays ho sp (fun t ht => hT t (List.mem_cons_of_mem _ ht)) h2 (fun x hx => hl x (List.mem_append_right _ hx)) (fun x hx => hs x (List.mem_append_right _ hx)), rfl⟩
    exact DataW.trod_stays Tryd.kids (fun {t e} ht hu => Tryd.full t e ht hu) (fun h => by cases h) (hT _ List.mem_cons_self) hn (fun x hx => sameAt_only ho (hl x (List.mem_append_left _ hx))) (fun x hx => hs x (List.mem_append_left _ hx))

theorem keptBut_only (ho : Only (fun _ => False) W W') (may : MemPlace → Prop) : W.keptBut W' may := by
  refine ⟨ho.os, ho.output, fun i hi => ?_⟩
  rw [ho.block i hi id]
  cases W.heap[i]? with
  | none => rfl
  | some o => cases o <;> first | exact ⟨rfl, rfl, rfl, fun _ _ => rfl⟩ | exact .inr ⟨rfl, rfl⟩ | rfl

theorem law_post {f : Func} {s : ChangeSpec} {args : Array Value} {ds gs : List (DataW H)} {before : List MemPlace} (hv : s.vars = []) (hW : DataW.Whole enc Tryd.prog f.params.toList s.vars false W args.toList ds gs before)
    (hr : f.resultTypes = #[4]) (hp : ∀ t ∈ f.params.toList, t < Tryd.prog.types.size) (hf : (s.fn H (ds ++ gs)).results = [.lit (.bool true)]) (ha : (s.fn H (ds ++ gs)).args = ds) (hvs : (s.fn H (ds ++ gs)).vars = [])
    (ho : Only (fun _ => False) W W') : s.post enc Tryd.prog f false true false false W args (.bool true) W' := by
  have hlt := hW.lt
  have hW' := hW
  obtain ⟨p, q, hA, hV, rfl, hfz, hnd⟩ := hW
  have hV' := hV
  rw [hv] at hV'
  obtain ⟨rfl, rfl⟩ := trodVars_none hV'
  refine ⟨ds, [], p ++ [], [], p, [], hW', ?_, ?_, ?_, keptBut_only ho _, fun h => by cases h⟩
  · rw [hf, hr]
    exact trodAll_mk1 (shut_bool Tryd.underlying4 _)
  · rw [ha]
    exact trodAll_stays ho _ hp hA (fun x hx => hlt x (by simpa using hx)) (fun x hx => by simpa using hlt x (by simpa using hx))
  · rw [hv, hvs]
    trivial

theorem front_extract (s : List UInt8) (c : Int) (m : Nat) (hc : c = m) : (⟨s.toArray⟩ : ByteArray).extract 0 (if c < (s.length : Int) then c else (s.length : Int)).toNat = ⟨(s.take m).toArray⟩ := by
  subst hc
  rw [extract_list, List.drop_zero]
  congr 2
  by_cases h : (m : Int) < (s.length : Int)
  · rw [if_pos h, Int.toNat_natCast]
  · rw [if_neg h, Int.toNat_natCast, List.take_of_length_le (Nat.le_refl _), List.take_of_length_le (by omega)]

theorem need_nat (w : World) (n : Nat) (h : n ≤ 9223372036854775807) : Calls Tryd.prog 12 #[.int .i64 (n : Int)] w fun e w' => e = .returned (.int .i64 (need n : Nat)) ∧ w = w' := by
  have := need_any w n (by omega)
  have hni : needI n = (need n : Nat) := by simp [needI]; omega
  rwa [hni] at this

/-! ### Inputs -/
theorem law_str {r : Reach} {b0 : Nat} {t : TypeId} {v : Value} {d : DataW H} {ps : List MemPlace} (ht : Tryd.prog.underlying t = some .string) (hval : Value.okWide Tryd.prog W r b0 t v) (hd : DataW.Trod enc Tryd.prog W base (fun _ => true) true t v d ps) :
    ∃ l : List UInt8, v = .string ⟨l.toArray⟩ ∧ l.length ≤ maxLen := by
  obtain ⟨s, rfl, _, _, hs⟩ := Go.ChangeMaps.open_string ht hval hd
  exact ⟨s.data.toList, rfl, by simpa using hs⟩

theorem i64_of_wf {n : Int} (h : (Lit.int .i64 n).wf = true) : I64 n := bounds_i64 h

theorem law_frame {r : Reach} {b0 : Nat} {v : Value} {d : DataW H} {ps : List MemPlace} (hval : Value.okWide Tryd.prog W r b0 86 v) (hd : DataW.Trod enc Tryd.prog W base (fun _ => true) true 86 v d ps) :
    ∃ f : Fr, v = f.val ∧ f.Wf := by
  obtain ⟨v0, v1, v2, v3, y0, y1, y2, y3, n, rfl, _, _, h0, h1, h2, h3⟩ := open_agg4 Tryd.underlying86 (by kernel_rfl) (by kernel_rfl) hval hd
  obtain ⟨e, he, _, we⟩ := DataW.trod_int Tryd.underlying3 h0
  obtain ⟨a, ha, _, wa⟩ := DataW.trod_int Tryd.underlying3 h1
  obtain ⟨k, hk, _, wk⟩ := DataW.trod_int Tryd.underlying3 h2
  obtain ⟨s, hs, _, ws⟩ := DataW.trod_string Tryd.underlying9 h3
  simp only [List.cons.injEq, and_true] at he ha hk hs
  subst he ha hk hs
  exact ⟨⟨e, a, k, s.data.toList⟩, rfl, ⟨bounds_i64 we, bounds_i64 wa, bounds_i64 wk, by simpa using ws⟩⟩

theorem addr_of_cell {a : Addr} {v : Value} (h : W.cell? a = some v) : ∃ b o, a = ⟨b, o, none⟩ := by
  obtain ⟨b, o, sp⟩ := a
  cases sp with
  | none => exact ⟨b, o, rfl⟩
  | some x =>
    exfalso
    unfold World.cell? at h
    split at h
    · simp at h
    · cases h
theorem add_zero_addr (a : Addr) : a.add 0 = a := by simp [Addr.add]

/-- cells behind an address as a slice -/
theorem sliceOf_addr {a : Addr} {n cap : Nat} {cs : List Value} (hn : n ≤ 9223372036854775807) (h : ∀ j x, cs[j]? = some x → W.cell? (a.add j) = some x) : SliceOf W (.slice (some a) n cap) n cs (some a) cap := by
  refine ⟨rfl, hn, fun j x hx => ?_⟩
  have hj : j < cs.length := (List.getElem?_eq_some_iff.1 hx).1
  have h0 := h 0 _ (List.getElem?_eq_getElem (by omega))
  rw [add_zero_addr] at h0
  obtain ⟨b, o, rfl⟩ := addr_of_cell h0
  exact ⟨b, o, rfl, by rw [← add_mk]; exact h j x hx⟩

theorem law_texts {r : Reach} {b0 : Nat} {t e : TypeId} {v : Value} {d : DataW H} {ps : List MemPlace} (ht : Tryd.prog.underlying t = some (.slice e)) (he : Tryd.prog.underlying e = some .string) (hc : Tryd.prog.cellsOf e = 1)
    (hval : Value.okWide Tryd.prog W r b0 t v) (hd : DataW.Trod enc Tryd.prog W base (fun _ => true) true t v d ps) :
    ∃ (l : List (List UInt8)) (ao : Option Addr) (cap : Nat), SliceOf W v l.length (txts l) ao cap ∧ ∀ x ∈ l, x.length ≤ maxLen := by
  obtain ⟨a0, n0, c0, rfl⟩ := okWide_slice ht hval
  obtain ⟨fuel, hf⟩ := hd
  rcases open_strings ht he hc hf with ⟨hcs, _⟩ | ⟨a, len, cap, ss, hcs, hb, hl, hm, hlen, _, hcell, hws⟩
  · simp only [Value.cells, List.cons.injEq, and_true] at hcs
    rw [hcs]
    exact ⟨[], none, 0, ⟨rfl, by simp, fun j x hx => by simp [txts] at hx⟩, fun x hx => by cases hx⟩
  · simp only [Value.cells, List.cons.injEq, and_true] at hcs
    rw [hcs]
    simp only [if_true] at hlen
    have hll : ((ss.take len).map fun s => s.data.toList).length = len := by simp; omega
    refine ⟨(ss.take len).map fun s => s.data.toList, some a, cap, ?_, ?_⟩
    · rw [hll]
      refine sliceOf_addr (by unfold maxLen at hm; omega) (fun j x hx => ?_)
      have hj : j < len := by
        have := (List.getElem?_eq_some_iff.1 hx).1
        simp [txts] at this
        omega
      have e1 := hcell j (by omega)
      rw [e1]
      simp only [txts, List.map_map, List.getElem?_map, List.getElem?_take, hj, if_true, Option.map_eq_some_iff, Function.comp_apply] at hx
      obtain ⟨s, hs, rfl⟩ := hx
      rw [List.getD_eq_getElem?_getD, hs]
      rfl
    · intro x hx
      obtain ⟨s, hs, rfl⟩ := List.mem_map.1 hx
      have := hws s (List.mem_of_mem_take hs)
      simpa using this

theorem law_ints {r : Reach} {b0 : Nat} {t e : TypeId} {k : IntKind} {v : Value} {d : DataW H} {ps : List MemPlace} (ht : Tryd.prog.underlying t = some (.slice e)) (he : Tryd.prog.underlying e = some (.int k)) (hc : Tryd.prog.cellsOf e = 1)
    (hval : Value.okWide Tryd.prog W r b0 t v) (hd : DataW.Trod enc Tryd.prog W base (fun _ => true) true t v d ps) :
    ∃ (l : List Int) (ao : Option Addr) (cap : Nat), SliceOf W v l.length (l.map (Value.int k)) ao cap ∧ ∀ x ∈ l, (Lit.int k x).wf = true := by
  obtain ⟨a0, n0, c0, rfl⟩ := okWide_slice ht hval
  obtain ⟨fuel, hf⟩ := hd
  rcases open_ints ht he hc hf with ⟨hcs, _⟩ | ⟨a, len, cap, zs, hcs, hb, hl, hm, hlen, _, hcell, hws⟩
  · simp only [Value.cells, List.cons.injEq, and_true] at hcs
    rw [hcs]
    exact ⟨[], none, 0, ⟨rfl, by simp, fun j x hx => by simp at hx⟩, fun x hx => by cases hx⟩
  · simp only [Value.cells, List.cons.injEq, and_true] at hcs
    rw [hcs]
    simp only [if_true] at hlen
    have hll : (zs.take len).length = len := by simp; omega
    refine ⟨zs.take len, some a, cap, ?_, fun x hx => hws x (List.mem_of_mem_take hx)⟩
    rw [hll]
    refine sliceOf_addr (by unfold maxLen at hm; omega) (fun j x hx => ?_)
    have hj : j < len := by
      have := (List.getElem?_eq_some_iff.1 hx).1
      simp at this
      omega
    rw [hcell j (by omega)]
    simp only [List.getElem?_map, List.getElem?_take, hj, if_true, Option.map_eq_some_iff] at hx
    obtain ⟨s, hs, rfl⟩ := hx
    rw [List.getD_eq_getElem?_getD, hs]
    rfl
end
end Go.Proofs.YtlgefjcfnnjkbaaDoor
/- Plain laws of frames: a turned sector is none; batches that are cut are joined again, cut off anywhere. No program is named; no conditions. -/
namespace Go.Proofs.YtlgefjcfnnjkbaaDoor
set_option maxRecDepth 100000

/-! ### A byte is another one -/
theorem readF_turned {f : Fr} (h : f.right = true) (k : Nat) (hk : k < 64) (b : UInt8) (hb : b ≠ f.lay[k]'(by rw [Fr.lay_length h]; exact hk)) : readF (f.lay.set k b) = none := by
  cases hr : readF (f.lay.set k b) with
  | none => rfl
  | some g =>
    exfalso
    obtain ⟨_, hg, he⟩ := readF_some hr
    have hfl := Fr.body_length h
    have hgl := Fr.body_length hg
    have hll := Fr.lay_length h
    have e1 : (f.lay.set k b).take 60 = g.body := by rw [← he, Fr.lay]; exact List.take_left' hgl
    have e2 : (f.lay.set k b).drop 60 = be 4 (sum g.body) := by rw [← he, Fr.lay]; exact List.drop_left' hgl
    have f1 : f.lay.take 60 = f.body := by rw [Fr.lay]; exact List.take_left' hfl
    have f2 : f.lay.drop 60 = be 4 (sum f.body) := by rw [Fr.lay]; exact List.drop_left' hfl
    by_cases h60 : k < 60
    · have d : (f.lay.set k b).drop 60 = f.lay.drop 60 := by rw [List.drop_set_of_lt h60]
      rw [e2, f2] at d
      have es : sum g.body = sum f.body := be_inj (m := 4) (by have := sum_lt g.body; omega) (by have := sum_lt f.body; omega) d
      have eg : g.body = f.body.set k b := by rw [← e1, List.take_set, f1]
      rw [eg] at es
      have := sum_set f.body k (by omega) b es
      apply hb
      rw [this]
      simp only [Fr.lay]
      rw [List.getElem_append_left (by omega)]
    · have d : (f.lay.set k b).take 60 = f.lay.take 60 := by rw [List.take_set_of_le (by omega)]
      rw [e1, f1] at d
      have e3 : f.lay.set k b = f.lay := by rw [← he]; simp only [Fr.lay, d]
      apply hb
      have : (f.lay.set k b)[k]'(by simpa using (by omega : k < f.lay.length)) = b := List.getElem_set_self _
      rw [← this]
      simp only [e3]

/-! ### What is joined -/
theorem Js.run_nil (j : Js) : j.run [] = j := rfl
theorem Js.run_some {j j' : Js} {f : Fr} {l : List Fr} (h : j.step f = some j') : j.run (f :: l) = j'.run l := by simp [Js.run, h]
theorem Js.run_none {j : Js} {f : Fr} {l : List Fr} (h : j.step f = none) : j.run (f :: l) = j := by simp [Js.run, h]

theorem Js.step_part {j : Js} {f : Fr} (hr : f.right = true) (hk : f.k = 2) : j.step f = some { j with begun := some (j.begun.getD [] ++ f.s), i := j.i + 1 } := by simp [Js.step, hr, hk]
theorem Js.step_end {j : Js} {f : Fr} (hr : f.right = true) (hk : f.k = 3) : j.step f = some { out := j.out ++ [j.begun.getD [] ++ f.s], begun := none, whole := j.i + 1, i := j.i + 1 } := by simp [Js.step, hr, hk]
theorem Js.step_seal {j : Js} {f : Fr} (hr : f.right = true) (hk : f.k = 4) (hb : j.begun = none) : j.step f = some { j with whole := j.i + 1, i := j.i + 1 } := by simp [Js.step, hr, hk, hb]

theorem needP_pos (n : Nat) : 1 ≤ need n := by unfold need; omega
theorem needP_le (n : Nat) : (need n - 1) * 53 ≤ n ∧ n ≤ need n * 53 := by unfold need; omega

theorem cutF_length (e a : Int) (s : List UInt8) : (cutF e a s).length = need s.length := by simp [cutF]
theorem cutF_get (e a : Int) (s : List UInt8) (i : Nat) (h : i < (cutF e a s).length) : (cutF e a s)[i] = cutL e a s (need s.length) i := by simp [cutF]

theorem cutL_right (e a : Int) (s : List UInt8) (n i : Nat) (he : 1 ≤ e ∧ e ≤ 16777215) (ha : 0 ≤ a) (hi : a + i < 64) : (cutL e a s n i).right = true := by
  rw [Fr.right_iff]
  simp only [cutL, List.length_take]
  split <;> omega

/-- t frames of a batch, none begun ahead of them -/
theorem run_cut (e a : Int) (s : List UInt8) (he : 1 ≤ e ∧ e ≤ 16777215) (ha : 0 ≤ a) (hn : a + need s.length ≤ 64) (j : Js) (hj : j.begun = none) :
    ∀ t, t < need s.length → j.run ((cutF e a s).take t) = { j with begun := if t = 0 then none else some (s.take (t * 53)), i := j.i + t } ∧
      ∀ r, j.run ((cutF e a s).take t ++ r) = Js.run { j with begun := if t = 0 then none else some (s.take (t * 53)), i := j.i + t } r := by
  intro t ht
  have key : ∀ r, j.run ((cutF e a s).take t ++ r) = Js.run { j with begun := if t = 0 then none else some (s.take (t * 53)), i := j.i + t } r := by
    induction t with
    | zero => intro r; simp [← hj]
    | succ t ih =>
      intro r
      have hlt : t < (cutF e a s).length := by rw [cutF_length]; omega
      rw [List.take_succ_eq_append_getElem hlt, List.append_assoc, ih (by omega), cutF_get, List.singleton_append]
      have hr := cutL_right e a s (need s.length) t he ha (by omega)
      have hk : (cutL e a s (need s.length) t).k = 2 := by simp only [cutL]; rw [if_neg (by omega)]
      rw [Js.run_some (Js.step_part hr hk)]
      congr 1
      simp only [Js.mk.injEq, Nat.add_one_ne_zero, if_false, true_and, Option.some.injEq]
      refine ⟨?_, by omega⟩
      have ec : (cutL e a s (need s.length) t).s = (s.drop (t * 53)).take 53 := rfl
      rw [ec, Nat.succ_mul, List.take_add]
      by_cases h0 : t = 0
      · subst h0; simp
      · simp [h0]
  exact ⟨by have := key []; simpa [Js.run_nil] using this, key⟩

/-- a whole batch -/
theorem run_cut_all (e a : Int) (s : List UInt8) (he : 1 ≤ e ∧ e ≤ 16777215) (ha : 0 ≤ a) (hn : a + need s.length ≤ 64) (j : Js) (hj : j.begun = none) (r : List Fr) :
    j.run (cutF e a s ++ r) = Js.run { out := j.out ++ [s], begun := none, whole := j.i + need s.length, i := j.i + need s.length } r := by
  have hp := needP_pos s.length
  have hb := needP_le s.length
  obtain ⟨m, hm⟩ : ∃ m, need s.length = m + 1 := ⟨need s.length - 1, by omega⟩
  have hlt : m < (cutF e a s).length := by rw [cutF_length]; omega
  have e1 : cutF e a s = (cutF e a s).take m ++ [(cutF e a s)[m]] := by
    rw [← List.take_succ_eq_append_getElem hlt, List.take_of_length_le (by rw [cutF_length]; omega)]
  rw [e1, List.append_assoc, (run_cut e a s he ha hn j hj m (by omega)).2, cutF_get, List.singleton_append]
  have hr := cutL_right e a s (need s.length) m he ha (by omega)
  have hk : (cutL e a s (need s.length) m).k = 3 := by simp only [cutL]; rw [if_pos (by omega)]
  rw [Js.run_some (Js.step_end hr hk)]
  congr 1
  simp only [Js.mk.injEq, true_and]
  refine ⟨?_, by omega, by omega⟩
  congr 1
  have ec : (cutL e a s (need s.length) m).s = s.drop (m * 53) := by
    simp only [cutL]
    rw [List.take_of_length_le (by rw [List.length_drop]; omega)]
  rw [ec]
  by_cases h0 : m = 0
  · subst h0; simp
  · simp [h0]

/-! ### Batches one behind the other, with seals or without -/
def sealFr : Fr := { e := 3, a := 0, k := 4, s := [] }
theorem sealFr_right : sealFr.right = true := rfl
/-- behind k batches; sl: is a seal behind the one of that number? -/
def jall (l : List (List UInt8)) (sl : Nat → Bool) : Nat → List Fr
  | 0 => []
  | k + 1 => jall l sl k ++ (cutF 3 ((jall l sl k).length % 50 : Nat) (l.getD k []) ++ (if sl k then [sealFr] else []))
def jend (l : List (List UInt8)) (sl : Nat → Bool) (k : Nat) : Nat := (jall l sl k).length + need (l.getD k []).length
/-- how many of the first k end at p, or ahead of it -/
def jmany (l : List (List UInt8)) (sl : Nat → Bool) (p : Nat) : Nat → Nat
  | 0 => 0
  | k + 1 => jmany l sl p k + (if jend l sl k ≤ p then 1 else 0)

theorem jall_succ_length (l : List (List UInt8)) (sl : Nat → Bool) (k : Nat) : (jall l sl (k + 1)).length = jend l sl k + (if sl k then 1 else 0) := by
  simp only [jall, jend, List.length_append, cutF_length]
  split
  · simp only [List.length_singleton]; omega
  · simp only [List.length_nil]; omega

theorem jmany_all (l : List (List UInt8)) (sl : Nat → Bool) (p : Nat) : ∀ k, (jall l sl k).length ≤ p → jmany l sl p k = k
  | 0, _ => rfl
  | k + 1, h => by
    rw [jall_succ_length] at h
    have h2 : (jall l sl k).length ≤ p := by unfold jend at h; omega
    rw [jmany, jmany_all l sl p k h2, if_pos (by omega)]

theorem jmany_le (l : List (List UInt8)) (sl : Nat → Bool) (p : Nat) : ∀ k, jmany l sl p k ≤ k
  | 0 => Nat.le_refl _
  | k + 1 => by
    have := jmany_le l sl p k
    rw [jmany]; split <;> omega

section
variable {l : List (List UInt8)} {sl : Nat → Bool}

theorem run_jall (hl : ∀ k, (l.getD k []).length ≤ 300) : ∀ k, k ≤ l.length → ∀ r, Js.new.run (jall l sl k ++ r) = Js.run ⟨l.take k, none, (jall l sl k).length, (jall l sl k).length⟩ r
  | 0, _, r => by simp [jall, Js.new]
  | k + 1, hk, r => by
    have hn : need (l.getD k []).length ≤ 6 := by have := hl k; unfold need; omega
    have ih := run_jall hl k (by omega)
    have hlen := jall_succ_length l sl k
    conv => lhs; rw [jall]
    rw [List.append_assoc, ih, List.append_assoc, run_cut_all 3 _ _ (by omega) (by omega) (by omega) _ rfl]
    have ht : l.take (k + 1) = l.take k ++ [l.getD k []] := by
      rw [List.take_succ_eq_append_getElem (by omega)]
      simp [List.getD_eq_getElem?_getD, List.getElem?_eq_getElem (show k < l.length by omega)]
    rw [ht, hlen]
    cases hs : sl k with
    | false => simp [jend]
    | true =>
      simp only [if_true, List.singleton_append]
      rw [Js.run_some (Js.step_seal sealFr_right rfl rfl)]
      rfl

/-- cut off anywhere -/
theorem run_jall_take (hl : ∀ k, (l.getD k []).length ≤ 300) : ∀ k, k ≤ l.length → ∀ p, p ≤ (jall l sl k).length →
    (Js.new.run ((jall l sl k).take p)).out = l.take (jmany l sl p k) ∧ (Js.new.run ((jall l sl k).take p)).whole ≤ p ∧
      (jmany l sl p k = 0 ∨ jend l sl (jmany l sl p k - 1) ≤ (Js.new.run ((jall l sl k).take p)).whole)
  | 0, _, p, hp => by
    simp [jall, jmany, Js.run, Js.new]
  | k + 1, hk, p, hp => by
    have hn : need (l.getD k []).length ≤ 6 := by have := hl k; unfold need; omega
    have hnp := needP_pos (l.getD k []).length
    have hlen := jall_succ_length l sl k
    by_cases hle : p ≤ (jall l sl k).length
    · have ih := run_jall_take hl k (by omega) p hle
      have e1 : (jall l sl (k + 1)).take p = (jall l sl k).take p := by rw [jall, List.take_append_of_le_length hle]
      have e2 : jmany l sl p (k + 1) = jmany l sl p k := by rw [jmany, if_neg (by unfold jend; omega), Nat.add_zero]
      rw [e1, e2]
      exact ih
    · obtain ⟨t, rfl⟩ : ∃ t, p = (jall l sl k).length + t := ⟨p - (jall l sl k).length, by omega⟩
      have e1 : (jall l sl (k + 1)).take ((jall l sl k).length + t) = jall l sl k ++ (cutF 3 ((jall l sl k).length % 50 : Nat) (l.getD k []) ++ (if sl k then [sealFr] else [])).take t := by
        rw [jall, List.take_length_add_append]
      have hmk : jmany l sl ((jall l sl k).length + t) k = k := jmany_all l sl _ k (by omega)
      have hJ : ∀ m, m < k → jend l sl m ≤ (jall l sl k).length := by
        intro m hm
        have mono : ∀ a b, a ≤ b → (jall l sl a).length ≤ (jall l sl b).length := by
          intro a b hab
          induction hab with
          | refl => exact Nat.le_refl _
          | step _ ih => refine Nat.le_trans ih ?_; rw [jall_succ_length]; unfold jend; omega
        have h1 := mono (m + 1) k hm
        rw [jall_succ_length] at h1
        omega
      rw [e1, run_jall hl k (by omega)]
      by_cases htn : t < need (l.getD k []).length
      · have e2 : (cutF 3 ((jall l sl k).length % 50 : Nat) (l.getD k []) ++ (if sl k then [sealFr] else [])).take t = (cutF 3 ((jall l sl k).length % 50 : Nat) (l.getD k [])).take t :=
          List.take_append_of_le_length (by rw [cutF_length]; omega)
        have e3 : jmany l sl ((jall l sl k).length + t) (k + 1) = k := by rw [jmany, hmk, if_neg (by unfold jend; omega), Nat.add_zero]
        rw [e2, e3, (run_cut 3 _ _ (by omega) (by omega) (by omega) _ rfl t htn).1]
        refine ⟨rfl, by simp, ?_⟩
        rcases Nat.eq_zero_or_pos k with h0 | h0
        · exact .inl h0
        · exact .inr (hJ (k - 1) (by omega))
      · have e3 : jmany l sl ((jall l sl k).length + t) (k + 1) = k + 1 := by rw [jmany, hmk, if_pos (by unfold jend; omega)]
        have e2 : (cutF 3 ((jall l sl k).length % 50 : Nat) (l.getD k []) ++ (if sl k then [sealFr] else [])).take t = cutF 3 ((jall l sl k).length % 50 : Nat) (l.getD k []) ++ (if sl k then [sealFr] else []).take (t - need (l.getD k []).length) := by
          rw [List.take_append, cutF_length, List.take_of_length_le (by rw [cutF_length]; omega)]
        have ht : l.take (k + 1) = l.take k ++ [l.getD k []] := by
          rw [List.take_succ_eq_append_getElem (by omega)]
          simp [List.getD_eq_getElem?_getD, List.getElem?_eq_getElem (show k < l.length by omega)]
        rw [e2, e3, run_cut_all 3 _ _ (by omega) (by omega) (by omega) _ rfl, ht, Nat.add_sub_cancel]
        cases hs : sl k with
        | false =>
          rw [hs] at hlen
          have : t = need (l.getD k []).length := by unfold jend at hlen; simp only [if_true, if_false, Bool.false_eq_true] at hlen; omega
          subst this
          simp [Js.run, jend]
        | true =>
          rw [hs] at hlen
          rcases Nat.lt_or_ge (need (l.getD k []).length) t with hgt | hge
          · have : t = need (l.getD k []).length + 1 := by unfold jend at hlen; simp only [if_true, if_false, Bool.false_eq_true] at hlen; omega
            subst this
            rw [Nat.add_sub_cancel_left]
            simp only [if_true, List.take_succ_cons, List.take_zero]
            rw [Js.run_some (Js.step_seal sealFr_right rfl rfl), Js.run_nil]
            refine ⟨rfl, ?_, .inr ?_⟩
            · simp only; omega
            · simp only [Nat.add_sub_cancel, jend]; omega
          · have : t = need (l.getD k []).length := by omega
            subst this
            simp [Js.run, jend]

theorem joinF_jall (hl : ∀ k, (l.getD k []).length ≤ 300) (k : Nat) (hk : k ≤ l.length) : joinF (jall l sl k) = (l.take k, (jall l sl k).length) := by
  have := run_jall (sl := sl) hl k hk []
  rw [List.append_nil] at this
  simp [joinF, this, Js.run]
end
end Go.Proofs.YtlgefjcfnnjkbaaDoor
/- frame.Join. Conditions: as many frames as stand in the statements, at most. -/
namespace Go.Proofs.YtlgefjcfnnjkbaaDoor
set_option maxRecDepth 100000
open Go.RowKit

theorem Tryd.info9 : (Tryd.prog.info? 9).map (fun i => (i.zero, i.size, i.bytes)) = some (some (.string ⟨#[]⟩), 1, 16) := by kernel_rfl

theorem txts_append (a b : List (List UInt8)) : txts (a ++ b) = txts a ++ txts b := by simp [txts]
theorem txts_one (l : List (List UInt8)) : ∀ v ∈ txts l, v.oneCell' = true := by
  intro v hv; obtain ⟨_, _, rfl⟩ := List.mem_map.1 hv; rfl
theorem txts_cells (l : List UInt8) : txts [l] = [.string ⟨l.toArray⟩] := rfl

/-- how long what is begun is, and how many are out -/
structure Js.Small (j : Js) : Prop where
  begun : (j.begun.getD []).length ≤ 53 * j.i
  out : j.out.length ≤ j.i
theorem Js.Small.step {j j' : Js} {f : Fr} (h : j.Small) (hs : j.step f = some j') : j'.Small ∧ j'.i = j.i + 1 := by
  obtain ⟨h1, h2⟩ := h
  unfold Js.step at hs
  split at hs
  · cases hs
  · rename_i hr
    have hr' : f.right = true := by simpa using hr
    have hl := (f.right_iff.1 hr').2.2.2.2.2.2
    split at hs
    · cases hs
      refine ⟨⟨?_, ?_⟩, rfl⟩
      · simp only [Option.getD_some, List.length_append]; omega
      · simp only; omega
    · split at hs
      · cases hs
        refine ⟨⟨?_, ?_⟩, rfl⟩
        · simp
        · simp only [List.length_append, List.length_singleton]; omega
      · split at hs
        · cases hs
        · cases hs
          refine ⟨⟨?_, ?_⟩, rfl⟩
          · simp only; omega
          · simp only; omega

theorem joinF_of {l : List Fr} {j : Js} (h : j = Js.new.run l) : (joinF l).1 = j.out ∧ (joinF l).2 = j.whole := by subst h; exact ⟨rfl, rfl⟩

theorem bvs_byteCells (l : List UInt8) : byteCells ⟨l.toArray⟩ = bvs l := by simp [byteCells, bvs, bv]

set_option maxRecDepth 100000 in
set_option maxHeartbeats 4000000 in
theorem join_any (w : World) (v : Value) (l : List Fr) (ao : Option Addr) (cap : Nat) (hv : SliceOf w v l.length (frs l) ao cap) (hwf : ∀ f ∈ l, f.s.length ≤ maxLen) (hlen : l.length ≤ 100000) :
    Calls Tryd.prog 55 #[v] w fun e w' => ∃ r, e = .returned (.tuple #[r, .int .i64 ((joinF l).2 : Nat)]) ∧ w'.ownsRow w.heap.size 9 1 r (joinF l).1.length (txts (joinF l).1) ∧ Only (fun _ => False) w w' := by
  have hvv := hv.val
  subst hvv
  go_enter Tryd.func55, Tryd.ntmps55
  go_wp2_with fail
  go_step3
  go_wp2_with fail
  go_step3
  go_wp2_with fail
  go_loopw [4, 5, 6, 7, 12] (fun b g wh op i wr => ∃ (k : Nat) (j : Js), k ≤ l.length ∧ i = .int .i64 k ∧ wh = .int .i64 (j.whole : Nat) ∧ op = .bool j.begun.isSome ∧ Hid (j.i = k) ∧ j.Small ∧ Hid (j.run (l.drop k) = Js.new.run l) ∧
      wr.ownsRow w.heap.size 9 1 b j.out.length (txts j.out) ∧ wr.ownsRow w.heap.size 5 1 g (j.begun.getD []).length (bvs (j.begun.getD [])) ∧ Only (fun _ => False) w wr) (fun b g wh op i _ => l.length - (intOf i).toNat)
  case atStart => exact ⟨0, Js.new, by omega, rfl, rfl, rfl, rfl, ⟨by simp [Js.new], by simp [Js.new]⟩, rfl, World.ownsRow_nil _ _ _ _, World.ownsRow_nil _ _ _ _, Only.refl _ _⟩
  case round =>
    obtain ⟨k, j, hk, rfl, rfl, rfl, hji, hsm, hrun, hb, hg, hor⟩ := hrel
    have HB := Lib.hid hb
    have HG := Lib.hid hg
    clear hb hg
    by_cases hlt : k < l.length
    · obtain ⟨gl, ol, rfl, hc⟩ := (hv.only hor).fr_at k hlt
      have HW := Lib.hid (hwf _ (List.getElem_mem hlt))
      have HD := Lib.hid (List.drop_eq_getElem_cons hlt)
      generalize l[k] = f at hc HW HD
      obtain ⟨fe, fa, fk, fs⟩ := f
      have HL := Lib.hid (heap_alloc_new wr (.cells #[.int .i64 fe, .int .i64 fa, .int .i64 fk, .string ⟨fs.toArray⟩] 86))
      have RA := Lib.hid (fun W => right_any W ⟨fe, fa, fk, fs⟩ HW.out)
      have hor1 := hor.trans (Only.alloc wr (.cells #[.int .i64 fe, .int .i64 fa, .int .i64 fk, .string ⟨fs.toArray⟩] 86) _)
      have HB1 := Lib.hid (HB.out.alloc (.cells #[.int .i64 fe, .int .i64 fa, .int .i64 fk, .string ⟨fs.toArray⟩] 86))
      have HG1 := Lib.hid (HG.out.alloc (.cells #[.int .i64 fe, .int .i64 fa, .int .i64 fk, .string ⟨fs.toArray⟩] 86))
      have HO1 := Lib.hid hor1
      clear hor1
      by_cases hr : (⟨fe, fa, fk, fs⟩ : Fr).right = true
      · rw [hr] at RA
        have HR := Lib.hid hr
        obtain ⟨_, _, _, _, hk1, hk4, hfs⟩ := (Fr.right_iff _).1 hr
        simp only at hk1 hk4 hfs
        clear hr
        go_upto_region 8 with (first
          | ((with_reducible refine wpList_load_part gl (ol + k * 4) [.int .i64 fe, .int .i64 fa, .int .i64 fk, .string ⟨fs.toArray⟩] ?_ ?_ ?_ ?_ ?_); (· exact ⟨_, Tryd.underlying86, rfl⟩); (· exact Tryd.size23); (· exact hc); (· rfl))
          | (go_at_call 66; refine (RA.out _).mono ?_; rintro e w1 ⟨rfl, ho1⟩))
        have hbl := ho1.keep HL.out id
        have c2 := cell_at hbl 2
        have c3 := cell_at hbl 3
        have HB2 := Lib.hid (ownsRow_only HB1.out ho1 (fun _ _ => id))
        have HG2 := Lib.hid (ownsRow_only HG1.out ho1 (fun _ _ => id))
        have HO2 := Lib.hid (HO1.out.trans ho1)
        clear HL HB HG HB1 HG1 HO1 hbl ho1 hc
        by_cases e2 : fk = 2
        · subst e2
          have HST := Lib.hid (Js.step_part (j := j) HR.out rfl)
          have hbg := rows_apart HB2.out HG2.out (by decide)
          obtain ⟨v', w5, hrun5, hown5, ho5⟩ := append_src_row (P := Tryd.prog) w1 w.heap.size 47 9 47 5 _ 1 1 Tryd.underlying47 Tryd.info5 rfl (by decide) _ _ _ HG2.out _ _ _ (Src.ofString w1 Tryd.underlying9 ⟨fs.toArray⟩) (by rw [size_toArray]; have := hsm.begun; have := hji.out; omega) (by decide) HO2.out.size
          rw [size_toArray, bvs_byteCells, ← bvs_append, ← List.length_append] at hown5
          have HOWN := Lib.hid hown5
          have HRUN := Lib.hid hrun5
          have HB5 := Lib.hid (ownsRow_only HB2.out ho5 hbg)
          have HO5 := Lib.hid (HO2.out.trans' ho5 (fun y hy e => row_own_new HG2.out hy e))
          clear hown5 hrun5 hbg ho5
          go_wp2_with ((with_reducible refine wpList_append_run u5 (.string ⟨fs.toArray⟩) v' HRUN.out ?_ ?_ ?_); (· rfl); (· rfl))
          go_roundw
          case rel =>
            have hss := hsm.step HST.out
            exact ⟨k + 1, { j with begun := some (j.begun.getD [] ++ fs), i := j.i + 1 }, by omega, by go_num, rfl, rfl, Lib.hid (by simp only [hji.out]), hss.1, Lib.hid (by rw [← hrun.out, HD.out, Js.run_some HST.out]), HB5.out, HOWN.out, HO5.out⟩
          case measure => simp [intOf] <;> omega
        · have e2' : (fk == 2) = false := by simpa using e2
          by_cases e3 : fk = 3
          · subst e3
            have HST := Lib.hid (Js.step_end (j := j) HR.out rfl)
            have hbg := rows_apart HB2.out HG2.out (by decide)
            have HCV := Lib.hid (run_bytes_string_own (P := Tryd.prog) w1 47 9 5 w.heap.size _ u5 (j.begun.getD []) Tryd.underlying47 Tryd.underlying5 Tryd.underlying9 HG2.out)
            have happ := append_list (j.begun.getD []) fs
            obtain ⟨v', w5, hrun5, hown5, ho5⟩ := append_one_row (P := Tryd.prog) w1 w.heap.size 35 35 9 _ 1 16 Tryd.underlying35 Tryd.info9 rfl (by decide) _ _ _ HB2.out (txts [j.begun.getD [] ++ fs]) rfl (txts_one _) (by have := hsm.out; have := hji.out; omega) (by decide) HO2.out.size
            rw [← txts_append] at hown5
            have hl5 : (j.out ++ [j.begun.getD [] ++ fs]).length = j.out.length + 1 := by simp
            rw [← hl5] at hown5
            have HOWN := Lib.hid hown5
            have HRUN := Lib.hid hrun5
            have HO5 := Lib.hid (HO2.out.trans' ho5 (fun y hy e => row_own_new HB2.out hy e))
            clear hown5 hrun5 hbg ho5 hl5
            rw [txts_cells] at HRUN
            have hcat : (j.begun.getD []).length + fs.length ≤ 9223372036854775807 := by have := hsm.begun; have := hji.out; omega
            generalize j.begun.getD [] ++ fs = bf at happ HRUN HOWN HST
            generalize j.begun.getD [] = bg at happ HCV HG2 hcat
            go_wp2_with (first
              | ((with_reducible refine wpList_convert_run u5 (.string ⟨bg.toArray⟩) HCV.out ?_ ?_); (· rfl))
              | ((with_reducible refine wpList_append_run u4 (.slice (some ⟨w1.heap.size, 0, none⟩) 1 1) v' HRUN.out ?_ ?_ ?_); (· rfl); (· rfl)))
            go_roundw
            case rel =>
              have hss := hsm.step HST.out
              exact ⟨k + 1, { out := j.out ++ [bf], begun := none, whole := j.i + 1, i := j.i + 1 }, by omega, by go_num, by simp only [hji.out]; go_num, rfl, Lib.hid (by simp only [hji.out]), hss.1, Lib.hid (by rw [← hrun.out, HD.out, Js.run_some HST.out]), HOWN.out, World.ownsRow_nil _ _ _ _, HO5.out⟩
            case measure => simp [intOf] <;> omega
          · have e3' : (fk == 3) = false := by simpa using e3
            by_cases e1 : fk = 1
            · subst e1
              have HST : Hid (j.step ⟨fe, fa, 1, fs⟩ = none) := Lib.hid (by unfold Js.step; rw [if_neg (by rw [HR.out]; decide), if_neg (by simp), if_neg (by simp), if_pos (.inl rfl)])
              have hj : j = Js.new.run l := by rw [← hrun.out, HD.out, Js.run_none HST.out]
              have HJ := Lib.hid (joinF_of hj)
              clear hj
              go_wp2_with fail
              rw [Exit.noGoto_ret]
              go_ret2
              exact ⟨u4, by rw [HJ.out.2]; rfl, by rw [HJ.out.1]; exact HB2.out, HO2.out⟩
            · have e1' : (fk == 1) = false := by simpa using e1
              rcases hbeg : j.begun with _ | bg
              · have HST : Hid (j.step ⟨fe, fa, fk, fs⟩ = some { j with whole := j.i + 1, i := j.i + 1 }) := Lib.hid (by unfold Js.step; rw [if_neg (by rw [HR.out]; decide), if_neg e2, if_neg e3, if_neg (by simp [e1, hbeg])])
                rw [hbeg] at HG2
                have HBG := Lib.hid hbeg
                clear hbeg e1 e2 e3
                simp only [Option.isSome_none]
                go_wp2_with fail
                go_roundw
                case rel =>
                  have hss := hsm.step HST.out
                  exact ⟨k + 1, { j with whole := j.i + 1, i := j.i + 1 }, by omega, by go_num, by simp only [hji.out]; go_num, by simp only [HBG.out]; rfl, Lib.hid (by simp only [hji.out]), hss.1, Lib.hid (by rw [← hrun.out, HD.out, Js.run_some HST.out]), HB2.out, by simp only [HBG.out]; exact HG2.out, HO2.out⟩
                case measure => simp [intOf] <;> omega
              · have HST : Hid (j.step ⟨fe, fa, fk, fs⟩ = none) := Lib.hid (by unfold Js.step; rw [if_neg (by rw [HR.out]; decide), if_neg e2, if_neg e3, if_pos (.inr (by simp [hbeg]))])
                have hj : j = Js.new.run l := by rw [← hrun.out, HD.out, Js.run_none HST.out]
                have HJ := Lib.hid (joinF_of hj)
                clear hj hbeg e1 e2 e3
                simp only [Option.isSome_some]
                go_wp2_with fail
                rw [Exit.noGoto_ret]
                go_ret2
                exact ⟨u4, by rw [HJ.out.2]; rfl, by rw [HJ.out.1]; exact HB2.out, HO2.out⟩
      · have hr' : (⟨fe, fa, fk, fs⟩ : Fr).right = false := by simpa using hr
        rw [hr'] at RA
        have HST : Hid (j.step ⟨fe, fa, fk, fs⟩ = none) := Lib.hid (by unfold Js.step; rw [if_pos hr'])
        have hj : j = Js.new.run l := by rw [← hrun.out, HD.out, Js.run_none HST.out]
        have HJ := Lib.hid (joinF_of hj)
        clear hj hr hr'
        go_wp2_with (first
          | ((with_reducible refine wpList_load_part gl (ol + k * 4) [.int .i64 fe, .int .i64 fa, .int .i64 fk, .string ⟨fs.toArray⟩] ?_ ?_ ?_ ?_ ?_); (· exact ⟨_, Tryd.underlying86, rfl⟩); (· exact Tryd.size23); (· exact hc); (· rfl))
          | (go_at_call 66; refine (RA.out _).mono ?_; rintro e w1 ⟨rfl, ho1⟩; have HB2 := Lib.hid (ownsRow_only HB1.out ho1 (fun _ _ => id)); have HO2 := Lib.hid (HO1.out.trans ho1); clear ho1))
        rw [Exit.noGoto_ret]
        go_ret2
        exact ⟨u4, by rw [HJ.out.2]; rfl, by rw [HJ.out.1]; exact HB2.out, HO2.out⟩
    · obtain rfl : k = l.length := by omega
      go_wp2_with fail
      have hj : j = Js.new.run l := by rw [← hrun.out, List.drop_of_length_le (Nat.le_refl _)]; rfl
      have HJ := Lib.hid (joinF_of hj)
      rw [Exit.noGoto_ret]
      go_ret2
      exact ⟨u4, by rw [HJ.out.2]; rfl, by rw [HJ.out.1]; exact HB.out, hor⟩
end Go.Proofs.YtlgefjcfnnjkbaaDoor
/- told and read: the program's answers on one frame and one sector are the reference's. No conditions. -/
namespace Go.Proofs.YtlgefjcfnnjkbaaDoor
set_option maxRecDepth 100000
open Go.RowKit

def layS (f : Fr) : List UInt8 := if f.right then f.lay else []
def layE (f : Fr) : Int := if f.right then 0 else 120

theorem lay_any (w : World) (f : Fr) (hs : f.s.length ≤ maxLen) :
    Calls Tryd.prog 63 #[f.val] w fun e w' => e = .returned (.tuple #[.string ⟨(layS f).toArray⟩, .int .i64 (layE f)]) ∧ Only (fun _ => False) w w' := by
  unfold layS layE
  rcases Bool.eq_false_or_eq_true f.right with hr | hr
  · rw [hr]; exact lay_good w f hr
  · rw [hr]; exact lay_bad w f hs hr
def readF' (l : List UInt8) : Fr := (readF l).getD Fr.zero
def readE (l : List UInt8) : Int := if (readF l).isSome then 0 else 120
theorem readV_eq (l : List UInt8) : readV l = .tuple #[(readF' l).val, .int .i64 (readE l)] := by
  unfold readV readF' readE
  cases readF l <;> rfl

end Go.Proofs.YtlgefjcfnnjkbaaDoor
/- Cutting a batch into frames: frame.Cut. No conditions. -/
namespace Go.Proofs.YtlgefjcfnnjkbaaDoor
set_option maxRecDepth 100000
open Go.RowKit

theorem frs_append (a b : List Fr) : frs (a ++ b) = frs a ++ frs b := by simp [frs]
theorem frs_length (l : List Fr) : (frs l).length = l.length * 4 := by
  induction l with
  | nil => rfl
  | cons f l ih =>
    have : frs (f :: l) = f.cells ++ frs l := rfl
    rw [this, List.length_append, ih, show f.cells.length = 4 from rfl, List.length_cons]; omega
theorem frs_split (l : List Fr) (k : Nat) (hk : k < l.length) : frs l = frs (l.take k) ++ (l[k].cells ++ frs (l.drop (k + 1))) ∧ (frs (l.take k)).length = k * 4 := by
  refine ⟨?_, by rw [frs_length, List.length_take]; omega⟩
  have e : l = l.take k ++ ([l[k]] ++ l.drop (k + 1)) := by rw [List.singleton_append, ← List.drop_eq_getElem_cons hk]; simp
  have e' := congrArg frs e
  rw [frs_append, frs_append] at e'
  rw [e']; rfl
theorem frs_set_split (l : List Fr) (k : Nat) (f : Fr) (hk : k < l.length) : frs (l.set k f) = frs (l.take k) ++ (f.cells ++ frs (l.drop (k + 1))) := by
  obtain ⟨e1, _⟩ := frs_split (l.set k f) k (by simpa using hk)
  rw [e1]
  have ht : (l.set k f).take k = l.take k := by simp [List.take_set_of_le]
  have hd : (l.set k f).drop (k + 1) = l.drop (k + 1) := by simp [List.drop_set_of_lt]
  rw [ht, hd, List.getElem_set_self]
theorem laid_frs (l : List Fr) (k : Nat) (f : Fr) (hk : k < l.length) : laid (frs l) (k * 4) f.cells = frs (l.set k f) := by
  obtain ⟨e1, e2⟩ := frs_split l k hk
  rw [frs_set_split l k f hk]
  conv => lhs; rw [e1]
  unfold laid
  rw [List.take_left' e2]
  congr 2
  rw [show k * 4 + f.cells.length = (frs (l.take k) ++ l[k].cells).length by rw [List.length_append, e2]; rfl, ← List.append_assoc, List.drop_left]
theorem set_text (l : List Fr) (k : Nat) (t : List UInt8) (hk : k < l.length) : (frs l).toArray.setIfInBounds (k * 4 + 3) (.string ⟨t.toArray⟩) = (frs (l.set k { l[k] with s := t })).toArray := by
  obtain ⟨e1, e2⟩ := frs_split l k hk
  rw [frs_set_split l k _ hk]
  apply Array.ext'
  rw [Array.toList_setIfInBounds]
  simp only
  conv => lhs; rw [e1]
  rw [List.set_append_right _ _ (by rw [e2]; omega), e2, show k * 4 + 3 - k * 4 = 3 by omega, List.set_append_left _ _ (by show 3 < 4; omega)]
  rfl
theorem set_kind (l : List Fr) (k : Nat) (t : Int) (hk : k < l.length) : (frs l).toArray.setIfInBounds (k * 4 + 2) (.int .i64 t) = (frs (l.set k { l[k] with k := t })).toArray := by
  obtain ⟨e1, e2⟩ := frs_split l k hk
  rw [frs_set_split l k _ hk]
  apply Array.ext'
  rw [Array.toList_setIfInBounds]
  simp only
  conv => lhs; rw [e1]
  rw [List.set_append_right _ _ (by rw [e2]; omega), e2, show k * 4 + 2 - k * 4 = 2 by omega, List.set_append_left _ _ (by show 2 < 4; omega)]
  rfl

/-- the frames behind k rounds; n: how many there are to be -/
def midFr (e a : Int) (s : List UInt8) (n j : Nat) : Fr := { e := e, a := a + j, k := 2, s := if j + 1 < n then (s.drop (j * 53)).take 53 else [] }
def midL (e a : Int) (s : List UInt8) (n k : Nat) : List Fr := (List.range k).map (midFr e a s n) ++ List.replicate (n - k) Fr.zero
theorem midL_length (e a : Int) (s : List UInt8) (n k : Nat) (h : k ≤ n) : (midL e a s n k).length = n := by simp [midL]; omega
theorem midL_zero (e a : Int) (s : List UInt8) (n : Nat) : midL e a s n 0 = List.replicate n Fr.zero := by simp [midL]
theorem midL_succ (e a : Int) (s : List UInt8) (n k : Nat) (h : k < n) : (midL e a s n k).set k (midFr e a s n k) = midL e a s n (k + 1) := by
  unfold midL
  rw [List.set_append_right _ _ (by simp)]
  simp only [List.length_map, List.length_range, Nat.sub_self]
  rw [show n - k = (n - (k + 1)) + 1 by omega, List.replicate_succ, List.set_cons_zero, List.range_succ, List.map_append]
  simp

theorem need_pos (n : Nat) : 1 ≤ need n := by unfold need; omega
theorem need_le (n : Nat) : (need n - 1) * 53 ≤ n ∧ n ≤ need n * 53 := by unfold need; omega

theorem midL_last (e a : Int) (s : List UInt8) (h : 1 ≤ need s.length) :
    (midL e a s (need s.length) (need s.length)).set (need s.length - 1) { e := e, a := a + (need s.length - 1 : Nat), k := 3, s := s.drop ((need s.length - 1) * 53) } = cutF e a s := by
  have hb := need_le s.length
  unfold midL cutF
  apply List.ext_getElem
  · simp
  · intro j h1 h2
    simp only [Nat.sub_self, List.replicate_zero, List.append_nil] at h1 ⊢
    simp only [List.getElem_set, List.getElem_map, List.getElem_range]
    simp at h2
    split
    · rename_i e1
      subst e1
      simp only [cutL]
      rw [if_pos (by omega), List.take_of_length_le (by rw [List.length_drop]; omega)]
    · rename_i e1
      simp only [cutL, midFr]
      rw [if_pos (show j + 1 < need s.length by omega), if_neg (show ¬ j + 1 = need s.length by omega)]

theorem cut_shape (e a : Int) (n : Nat) (h1 : 1 ≤ n) : (1 ≤ e ∧ e ≤ 16777215 ∧ 0 ≤ a ∧ a ≤ 64 - (n : Int)) ∨ (e < 1 ∨ 16777215 < e ∨ a < 0 ∨ 64 - (n : Int) < a) := by omega

set_option maxHeartbeats 1000000 in
theorem cut_bad (w : World) (e a : Int) (s : List UInt8) (we : I64 e) (wa : I64 a) (hs : s.length ≤ maxLen) (hbad : ¬ (1 ≤ e ∧ e ≤ 16777215 ∧ 0 ≤ a ∧ a ≤ 64 - (need s.length : Int))) :
    Calls Tryd.prog 47 #[.int .i64 e, .int .i64 a, .string ⟨s.toArray⟩] w fun e w' => e = .returned (.tuple #[.slice none 0 0, .int .i64 2]) ∧ w = w' := by
  have hz := size_toArray s
  unfold maxLen at hs
  have N := Lib.hid (need_any w s.length (by omega))
  have hni : needI s.length = (need s.length : Nat) := by simp [needI]; omega
  rw [hni] at N
  have hb := need_le s.length
  have hp := need_pos s.length
  generalize need s.length = n at N hb hp hbad
  obtain ⟨we1, we2⟩ := we
  obtain ⟨wa1, wa2⟩ := wa
  by_cases c1 : 1 ≤ e
  · by_cases c2 : e ≤ 16777215
    · by_cases c3 : 0 ≤ a
      · have c4 : 64 - (n : Int) < a := by omega
        clear hbad
        go_enter Tryd.func47, Tryd.ntmps47
        go_wp2_with (go_at_call 12; refine N.out.mono ?_; rintro e w1 ⟨rfl, rfl⟩)
        go_ret2
        exact ⟨rfl, rfl⟩
      · have c4 : a < 0 := by omega
        clear hbad
        go_enter Tryd.func47, Tryd.ntmps47
        go_wp2_with (go_at_call 12; refine N.out.mono ?_; rintro e w1 ⟨rfl, rfl⟩)
        go_ret2
        exact ⟨rfl, rfl⟩
    · have c4 : 16777215 < e := by omega
      clear hbad
      go_enter Tryd.func47, Tryd.ntmps47
      go_wp2_with (go_at_call 12; refine N.out.mono ?_; rintro e w1 ⟨rfl, rfl⟩)
      go_ret2
      exact ⟨rfl, rfl⟩
  · have c4 : e < 1 := by omega
    clear hbad
    go_enter Tryd.func47, Tryd.ntmps47
    go_wp2_with (go_at_call 12; refine N.out.mono ?_; rintro e w1 ⟨rfl, rfl⟩)
    go_ret2
    exact ⟨rfl, rfl⟩
end Go.Proofs.YtlgefjcfnnjkbaaDoor
/- frame.Cut, where it cuts. No conditions. -/
namespace Go.Proofs.YtlgefjcfnnjkbaaDoor
set_option maxRecDepth 100000
open Go.RowKit

theorem Tryd.info23 : (Tryd.prog.info? 86).map (fun i => (i.zero, i.size, i.bytes)) = some (some (.agg #[.int .i64 0, .int .i64 0, .int .i64 0, .string ⟨#[]⟩]), 4, 40) := by kernel_rfl

theorem Tryd.size9 : (Tryd.prog.info? 9).map (·.size) = some 1 := by kernel_rfl

theorem frs_zero (n : Nat) : madeCells (Value.agg #[.int .i64 0, .int .i64 0, .int .i64 0, .string ⟨#[]⟩]).cells (n * 4) = (frs (List.replicate n Fr.zero)).toArray := by
  apply Array.ext
  · simp [madeCells, frs_length]
  · intro j h1 h2
    have hj : j / 4 < (List.replicate n Fr.zero).length := by simp [madeCells] at h1 ⊢; omega
    have hm : j % 4 < 4 := Nat.mod_lt _ (by decide)
    have hc : Fr.zero.cells[j % 4]? = some (Fr.zero.cells[j % 4]'hm) := List.getElem?_eq_getElem hm
    have := frs_at (List.replicate n Fr.zero) (j / 4) hj (j % 4) (Fr.zero.cells[j % 4]'hm) (by rw [List.getElem_replicate]; exact hc)
    rw [show j / 4 * 4 + j % 4 = j by omega] at this
    have e := List.getElem?_eq_some_iff.1 this
    obtain ⟨e1, e2⟩ := e
    simp only [List.getElem_toArray]
    rw [e2]
    have e4 : ∀ i, i < 4 → ∀ (h : i < Fr.zero.cells.length), (#[Value.int .i64 0, .int .i64 0, .int .i64 0, .string ⟨#[]⟩] : Array Value)[i]! = Fr.zero.cells[i] := by
      intro i hi _
      match i, hi with
      | 0, _ => rfl
      | 1, _ => rfl
      | 2, _ => rfl
      | 3, _ => rfl
    simpa [madeCells, Value.cells] using e4 (j % 4) hm hm

/-- the frame before its text is laid -/
def bareFr (e a : Int) (k : Nat) : Fr := { e := e, a := a + k, k := 2, s := [] }
theorem mid_text (e a : Int) (s : List UInt8) (n k : Nat) (h : k < n) (hl : k < (midL e a s n k).length) (hn : k + 1 < n) :
    ∀ (h' : k < ((midL e a s n k).set k (bareFr e a k)).length), ((midL e a s n k).set k (bareFr e a k)).set k { ((midL e a s n k).set k (bareFr e a k))[k] with s := (s.drop (k * 53)).take 53 } = midL e a s n (k + 1) := by
  intro h'
  rw [List.getElem_set_self, List.set_set, ← midL_succ e a s n k h]
  congr 1
  simp [midFr, bareFr, hn]
theorem mid_bare (e a : Int) (s : List UInt8) (n k : Nat) (h : k < n) (hn : ¬ k + 1 < n) : (midL e a s n k).set k (bareFr e a k) = midL e a s n (k + 1) := by
  rw [← midL_succ e a s n k h]
  congr 1
  simp [midFr, bareFr, hn]

set_option maxRecDepth 100000 in
set_option maxHeartbeats 2000000 in
theorem cut_ok (w : World) (e a : Int) (s : List UInt8) (hs : s.length ≤ maxLen) (c1 : 1 ≤ e) (c2 : e ≤ 16777215) (c3 : 0 ≤ a) (c4 : a ≤ 64 - (need s.length : Int)) :
    Calls Tryd.prog 47 #[.int .i64 e, .int .i64 a, .string ⟨s.toArray⟩] w fun x w' => ∃ g, x = .returned (.tuple #[.slice (some ⟨g, 0, none⟩) (need s.length) (need s.length), .int .i64 0]) ∧
      w'.heap[g]? = some (.cells (frs (cutF e a s)).toArray 86 (0, 0)) ∧ w.heap.size ≤ g ∧ Only (fun _ => False) w w' := by
  have hz := size_toArray s
  unfold maxLen at hs
  have N := Lib.hid (need_any w s.length (by omega))
  have hni : needI s.length = (need s.length : Nat) := by simp [needI]; omega
  rw [hni] at N
  have hb := need_le s.length
  have hp := need_pos s.length
  have LAST := Lib.hid (midL_last e a s hp)
  obtain ⟨hb1, hb2⟩ := hb
  obtain ⟨n, hn⟩ : ∃ n, n = need s.length := ⟨_, rfl⟩
  rw [← hn] at N hb1 hb2 hp c4 LAST ⊢
  have HN := Lib.hid hn
  clear hn hni
  have hn64 : n ≤ 64 := by omega
  have E := Lib.hid ((frs_zero n).trans (congrArg (fun l => (frs l).toArray) (midL_zero e a s n).symm))
  go_enter Tryd.func47, Tryd.ntmps47
  go_wp2_with (first | (go_at_call 12; refine N.out.mono ?_; rintro e w1 ⟨rfl, rfl⟩) | (at_make; refine wpList_make_any (n := n) rfl _ _ 118 rfl 86 (.agg #[.int .i64 0, .int .i64 0, .int .i64 0, .string ⟨#[]⟩]) 4 40 Tryd.underlying118 Tryd.info23 rfl rfl (by omega) (by unfold maxLen; omega) ?_; rw [E.out]))
  have HM := Lib.hid (heap_alloc_new w (.cells (frs (midL e a s n 0)).toArray 86))
  clear E
  go_loopw [2, 34] (fun x i wr => ∃ k : Nat, k ≤ n ∧ i = .int .i64 k ∧ x = .string ⟨(s.drop (min k (n - 1) * 53)).toArray⟩ ∧ Hid (wr.heap[w.heap.size]? = some (.cells (frs (midL e a s n k)).toArray 86 (0, 0))) ∧ Only (fun _ => False) w wr) (fun x i _ => n - (intOf i).toNat)
  case atStart => exact ⟨0, by omega, rfl, by simp, HM, Only.alloc _ _ _⟩
  case round =>
    obtain ⟨k, hk, rfl, rfl, hrow, hor⟩ := hrel
    by_cases hlt : k < n
    · rw [show min k (n - 1) = k by omega]
      have hml := midL_length e a s n k hk
      have HL := Lib.hid (laid_frs (midL e a s n k) k (bareFr e a k) (by omega))
      have hfl : (frs (midL e a s n k)).length = n * 4 := by rw [frs_length, hml]
      have hrow2 := setRow_heap wr w.heap.size _ (frs ((midL e a s n k).set k (bareFr e a k))).toArray _ _ hrow.out
      have hor2 := hor.trans' (Only.setRow wr w.heap.size (frs ((midL e a s n k).set k (bareFr e a k))).toArray (S := fun x => x = w.heap.size) rfl) (fun y hy e => by omega)
      have HR2 := Lib.hid hrow2
      have HO2 := Lib.hid hor2
      clear hrow2 hor2
      by_cases hk1 : k + 1 < n
      · have hq : (k : Int) < (n : Int) - 1 := by omega
        go_upto_region 10 with ((with_reducible refine wpList_store_part w.heap.size (k * 4) 86 (bareFr e a k).cells (frs (midL e a s n k)) ?_ ?_ ?_ ?_ ?_ ?_ ?_); (· exact Tryd.size23); (· exact hrow.out); (· rw [hfl]; show k * 4 + 4 ≤ n * 4; omega); (· simp [Fr.cells, Value.oneCell']); (· rfl); (· rfl); rw [HL.out])
        have hrow2 := HR2.out
        have hor2 := HO2.out
        generalize wr.setRow w.heap.size (frs ((midL e a s n k).set k (bareFr e a k))).toArray = wm at hrow2 hor2 ⊢
        have hbl : k < ((midL e a s n k).set k (bareFr e a k)).length := by rw [List.length_set]; omega
        have ST := Lib.hid (set_text _ k ((s.drop (k * 53)).take 53) hbl)
        have MT := Lib.hid (mid_text e a s n k hlt (by omega) hk1 hbl)
        have hdl : (s.drop (k * 53)).length = s.length - k * 53 := List.length_drop
        have hx1 := extract_list (s.drop (k * 53)) 0 53
        have hx2 := extract_list (s.drop (k * 53)) 53 (s.drop (k * 53)).length
        have hdz := size_toArray (s.drop (k * 53))
        rw [List.take_of_length_le (Nat.le_refl _), List.drop_drop, show k * 53 + 53 = (k + 1) * 53 by omega] at hx2
        rw [List.drop_zero] at hx1
        have hge : (53 : Int) ≤ ((s.drop (k * 53)).length : Int) := by
          have : (k + 1) * 53 ≤ (n - 1) * 53 := Nat.mul_le_mul_right _ (by omega)
          omega
        clear hdl
        have hrc := cell_at hrow2 (k * 4 + 3)
        have hfr := free_at hrow2 (k * 4 + 3)
        obtain ⟨old, hold⟩ : ∃ v, (frs ((midL e a s n k).set k (bareFr e a k))).toArray[k * 4 + 3]? = some v := by
          refine ⟨_, Array.getElem?_eq_getElem ?_⟩
          simp [frs_length, hml]; omega
        rw [hold] at hrc
        have HSET := Lib.hid (heap_setCell_same wm w.heap.size (k * 4 + 3) _ _ (.string ⟨((s.drop (k * 53)).take 53).toArray⟩) hrow2)
        clear hold hrow2
        obtain ⟨cur, hcur⟩ : ∃ c, c = s.drop (k * 53) := ⟨_, rfl⟩
        obtain ⟨nxt, hnxt⟩ : ∃ c, c = s.drop ((k + 1) * 53) := ⟨_, rfl⟩
        rw [← hcur] at hx1 hx2 hdz hge ST MT HSET ⊢
        rw [← hnxt] at hx2
        have HNXT := Lib.hid hnxt
        clear hnxt hcur
        have hwm : w.heap.size < wm.heap.size := World.block_lt_of_cell? _ _ hrc
        refine wp_region_pick (fun W => W = wm.drew) [(0, 0), (1, 0), (2, 0), (3, 0), (4, 0), (5, 0), (6, 0), (7, 0), (8, 3), (9, 0)] (by kernel_rfl) (by kernel_rfl) (fun _ _ d _ _ h => by cases d <;> exact h) rfl ?_
        simp only [pickOps, List.getElem?_cons_zero, List.getElem?_cons_succ]
        iterate 8 (refine wpL_pure (a' := ?_) ?_ rfl (fun W => ?_) ?_ ?_; rotate_left 2; (· go_simp; first | (go_bits; with_reducible rfl) | with_reducible rfl); (· simp only [put_some, List.setIfInBounds_toArray, List.set_cons_zero, List.set_cons_succ]; rfl))
        have STORE := run_store_one (P := Tryd.prog) wm.drew ⟨w.heap.size, k * 4 + 3, none⟩ (.string ⟨(cur.take 53).toArray⟩) old 9 rfl rfl Tryd.size9 hrc hfr
        refine wpL_lastDone (a' := ?_) (w' := wm.drew.setCell ⟨w.heap.size, k * 4 + 3, none⟩ (.string ⟨(cur.take 53).toArray⟩)) rfl (exec_store rfl rfl rfl STORE) ?_ ?_
        rotate_left
        · simp only [put_none]; rfl
        (refine wpL_pure (a' := ?_) ?_ rfl (fun W => ?_) ?_ ?_; rotate_left 2; (· go_simp; first | (go_bits; with_reducible rfl) | with_reducible rfl); (· simp only [put_some, List.setIfInBounds_toArray, List.set_cons_zero, List.set_cons_succ]; rfl))
        refine wpL_nil ?_
        clear STORE hrc hfr hx1 hx2 hdz hge
        have hrow3 : (wm.drew.setCell ⟨w.heap.size, k * 4 + 3, none⟩ (.string ⟨(cur.take 53).toArray⟩)).heap[w.heap.size]? = _ := HSET.out
        rw [ST.out, MT.out] at hrow3
        have hor3 := (hor2.trans (Only.drew _ _)).trans' (Only.one wm.drew w.heap.size (k * 4 + 3) (.string ⟨(cur.take 53).toArray⟩)) (fun y hy e => by omega)
        generalize wm.drew.setCell ⟨w.heap.size, k * 4 + 3, none⟩ (.string ⟨(cur.take 53).toArray⟩) = wn at hrow3 hor3 ⊢
        have HR3 := Lib.hid hrow3
        clear hrow3 hor2 HSET
        go_wp2_with fail
        go_roundw
        case rel =>
          refine ⟨k + 1, by omega, by go_num, ?_, HR3, hor3⟩
          rw [HNXT.out, show min (k + 1) (n - 1) = k + 1 by omega]
        case measure => simp [intOf]; omega
      · have hq : (n : Int) - 1 ≤ (k : Int) := by omega
        have HB := Lib.hid (mid_bare e a s n k hlt hk1)
        go_wp2_with ((with_reducible refine wpList_store_part w.heap.size (k * 4) 86 (bareFr e a k).cells (frs (midL e a s n k)) ?_ ?_ ?_ ?_ ?_ ?_ ?_); (· exact Tryd.size23); (· exact hrow.out); (· rw [hfl]; show k * 4 + 4 ≤ n * 4; omega); (· simp [Fr.cells, Value.oneCell']); (· rfl); (· rfl); rw [HL.out])
        go_roundw
        case rel =>
          refine ⟨k + 1, by omega, by go_num, ?_, ?_, HO2.out⟩
          · rw [show min (k + 1) (n - 1) = k by omega]
          · have e1 := HR2.out
            rw [HB.out] at e1
            exact Lib.hid (by rw [HB.out]; exact e1)
        case measure => simp [intOf]; omega
    · obtain rfl : k = n := by omega
      rw [show min k (k - 1) = k - 1 by omega]
      have hml := midL_length e a s k k (Nat.le_refl _)
      have hrow0 := hrow.out
      obtain ⟨m, hm⟩ : ∃ m, k = m + 1 := ⟨k - 1, by omega⟩
      have hki : (k : Int) - 1 = (m : Int) := by omega
      rw [show k - 1 = m by omega] at LAST hb1 ⊢
      have hrc := cell_at hrow0 (m * 4 + 2)
      have hrc3 := cell_at hrow0 (m * 4 + 3)
      have hfr := free_at hrow0 (m * 4 + 2)
      have hfr3 := free_at hrow0 (m * 4 + 3)
      obtain ⟨o2, ho2⟩ : ∃ v, (frs (midL e a s k k)).toArray[m * 4 + 2]? = some v := ⟨_, Array.getElem?_eq_getElem (by simp [frs_length, hml]; omega)⟩
      obtain ⟨o3, ho3⟩ : ∃ v, (frs (midL e a s k k)).toArray[m * 4 + 3]? = some v := ⟨_, Array.getElem?_eq_getElem (by simp [frs_length, hml]; omega)⟩
      rw [ho2] at hrc
      rw [ho3] at hrc3
      clear ho2 ho3
      have S1 := heap_setCell_same wr w.heap.size (m * 4 + 2) _ _ (.int .i64 3) hrow0
      rw [set_kind (midL e a s k k) m 3 (by omega)] at S1
      have S2 := heap_setCell_same _ w.heap.size (m * 4 + 3) _ _ (.string ⟨(s.drop (m * 53)).toArray⟩) S1
      rw [set_text _ m (s.drop (m * 53)) (by rw [List.length_set]; omega), List.getElem_set_self, List.set_set] at S2
      have hget : (midL e a s k k)[m]'(by omega) = midFr e a s k m := by
        simp only [midL, Nat.sub_self, List.replicate_zero, List.append_nil]
        simp
      rw [hget] at S2
      have SF : Hid (((wr.setCell ⟨w.heap.size, m * 4 + 2, none⟩ (.int .i64 3)).setCell ⟨w.heap.size, m * 4 + 3, none⟩ (.string ⟨(s.drop (m * 53)).toArray⟩)).heap[w.heap.size]? = some (.cells (frs (cutF e a s)).toArray 86 (0, 0))) := Lib.hid (by rw [← LAST.out]; exact S2)
      clear S1 S2 hrow0 hget
      have hwr : w.heap.size < wr.heap.size := World.block_lt_of_cell? _ _ hrc
      clear hm
      go_wp2_with fail
      go_ret2
      exact ⟨w.heap.size, rfl, SF.out, Nat.le_refl _, (hor.trans' (Only.one wr w.heap.size (m * 4 + 2) (.int .i64 3)) (fun y hy e => by omega)).trans' (Only.one _ w.heap.size (m * 4 + 3) _) (fun y hy e => by omega)⟩
end Go.Proofs.YtlgefjcfnnjkbaaDoor
/- The reference's Cut. No conditions. -/
namespace Go.Proofs.YtlgefjcfnnjkbaaDoor
set_option maxRecDepth 100000
open Go.RowKit

def cutTo (e a : Int) (s : List UInt8) (k : Nat) : List Fr := (List.range k).map (cutL e a s (need s.length))
theorem cutTo_succ (e a : Int) (s : List UInt8) (k : Nat) : cutTo e a s (k + 1) = cutTo e a s k ++ [cutL e a s (need s.length) k] := by simp [cutTo, List.range_succ]
theorem cells_one (f : Fr) : ∀ v ∈ f.cells, v.oneCell' = true := by simp [Fr.cells, Value.oneCell']

theorem frs_one (f : Fr) : frs [f] = f.cells := by simp [frs]

end Go.Proofs.YtlgefjcfnnjkbaaDoor
