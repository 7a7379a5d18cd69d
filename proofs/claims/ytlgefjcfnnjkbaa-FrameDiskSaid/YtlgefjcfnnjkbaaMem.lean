/- Loads and stores of whole arrays and structs inside a block, copies out of a string, bytes as a string, a made slice. No program is named; no conditions. -/
import Derived.Test.YtlgefjcfnnjkbaaBase
import Derived.Test.YtlgefjcfnnjkbaaSeq
import Derived.Deep.AppendLies
import Derived.Laws.CopyRow
import Derived.Great.BuildSlice
namespace Go.Proofs.Ytlgefjcfnnjkbaa
open Go.RowKit

variable {P : Program}

/-- the cells cs lie in block b from place o on -/
def Has (w : World) (b o : Nat) (cs : List Value) : Prop := ∀ j u, cs[j]? = some u → w.cell? ⟨b, o + j, none⟩ = some u

theorem add_mk (b o j : Nat) : (⟨b, o, none⟩ : Addr).add j = ⟨b, o + j, none⟩ := by unfold Addr.add; split <;> simp_all

theorem Has.adds {w : World} {b o : Nat} {cs : List Value} (h : Has w b o cs) : ∀ j u, cs[j]? = some u → w.cell? ((⟨b, o, none⟩ : Addr).add j) = some u := by
  intro j u hu; rw [add_mk]; exact h j u hu

theorem has_of_block {w : World} {b : Nat} {t : TypeId} {pre cs post : List Value} (h : w.heap[b]? = some (.cells (pre ++ (cs ++ post)).toArray t (0, 0))) : Has w b pre.length cs := by
  intro j u hu
  have hj : j < cs.length := (List.getElem?_eq_some_iff.1 hu).1
  rw [cell_at h]
  simp only [List.getElem?_toArray]
  rw [List.getElem?_append_right (by omega), Nat.add_sub_cancel_left, List.getElem?_append_left hj]
  exact hu

theorem has_of_block' {w : World} {b o : Nat} {t : TypeId} {l cs : List Value} (h : w.heap[b]? = some (.cells l.toArray t (0, 0))) (hl : (l.drop o).take cs.length = cs) : Has w b o cs := by
  intro j u hu
  have hj : j < cs.length := (List.getElem?_eq_some_iff.1 hu).1
  rw [cell_at h]
  simp only [List.getElem?_toArray]
  rw [← hl, List.getElem?_take, if_pos hj, List.getElem?_drop] at hu
  exact hu

theorem Has.only {w w' : World} {b o : Nat} {cs : List Value} {S : Nat → Prop} (h : Has w b o cs) (ho : Only S w w') (hs : ¬ S b) : Has w' b o cs := by
  intro j u hu
  have := h j u hu
  rw [ho.cell (World.block_lt_of_cell? _ _ this) hs]
  exact this

theorem run_load_part (W : World) (b o n : Nat) (cs : List Value) (T : TypeId) (d : TypeDesc) (hu : P.underlying T = some d) (hd : (match d with | .struct _ | .array _ _ => true | _ => false) = true)
    (hi : (P.info? T).map (·.size) = some n) (hn : cs.length = n) (h : Has W b o cs) :
    (Instr.loadAt T (.pointer (some ⟨b, o, none⟩))).run P W = .ok (.agg cs.toArray) W := by
  have hl := run_loadCells_list (P := P) W ⟨b, o, none⟩ cs h.adds
  cases hq : P.info? T with
  | none => simp [hq] at hi
  | some i =>
    have hs : i.size = cs.length := by rw [hn]; simpa [hq] using hi
    have hagg : (isAgg T).run P W = .ok true W := by
      unfold isAgg
      rw [Sem.run_bind, run_underlying hu W]
      cases d <;> simp_all
    simp [Instr.loadAt, Instr.sureAddr, loadVar, Sem.run_bind, hagg, sizeOf, typeInfo, hq, hs, hl]

theorem run_load_one (W : World) (a : Addr) (v : Value) (T : TypeId) (d : TypeDesc) (hu : P.underlying T = some d) (hd : (match d with | .struct _ | .array _ _ => true | _ => false) = false)
    (h : W.cell? a = some v) : (Instr.loadAt T (.pointer (some a))).run P W = .ok v W := by
  have hagg : (isAgg T).run P W = .ok false W := by
    unfold isAgg
    rw [Sem.run_bind, run_underlying hu W]
    cases d <;> simp_all
  simp [Instr.loadAt, Instr.sureAddr, loadVar, Sem.run_bind, hagg, run_load, h]

/-- what lies in the block behind the store of vs at place o -/
def laid (cur : List Value) (o : Nat) (vs : List Value) : List Value := cur.take o ++ (vs ++ cur.drop (o + vs.length))
theorem length_laid (cur : List Value) (o : Nat) (vs : List Value) (h : o + vs.length ≤ cur.length) : (laid cur o vs).length = cur.length := by simp [laid]; omega

theorem run_store_part (W : World) (b o n : Nat) (t T : TypeId) (cur vs : List Value) (hi : (P.info? T).map (·.size) = some n) (hn : vs.length = n)
    (hb : W.heap[b]? = some (.cells cur.toArray t (0, 0))) (hfit : o + vs.length ≤ cur.length) (h1 : ∀ v ∈ vs, v.oneCell' = true) :
    (Instr.storeAt T (.pointer (some ⟨b, o, none⟩)) (.agg vs.toArray)).run P W = .ok () (W.setRow b (laid cur o vs).toArray) := by
  cases hq : P.info? T with
  | none => simp [hq] at hi
  | some i =>
    have hs : i.size = vs.length := by rw [hn]; simpa [hq] using hi
    have hst := run_storeCells_at P b o t vs 0 cur.toArray W hb (by simpa using hfit) h1
    simp only [Nat.add_zero] at hst
    simp [Instr.storeAt, Instr.sureAddr, storeVar, Sem.run_bind, sizeOf, typeInfo, hq, hs, Value.cells, hst, laid]

theorem exec_load {ρ : Operand → Value} {o : Oper} {T : TypeId} {x : Operand} (ho : o.op = .load T x) {W : World} {p v : Value} (hx : ρ x = p) (h : (Instr.loadAt T p).run P W = .ok v W) :
    (execOp ρ o).run P W = .ok (.value v) W := by
  simp [execOp, ho, hx, h]

theorem wp_load {o : Oper} {a : Act} {W : World} {K : Act → World → Prop} {Q : Exit → Act → World → Prop} {T : TypeId} {x : Operand} (ho : o.op = .load T x) {p v : Value} (hx : a.eval x = p) (h : (Instr.loadAt T p).run P W = .ok v W)
    (hK : K (a.put o.dst v) W) : o.wp P a W K Q := by
  unfold Oper.wp
  rw [exec_load ho hx h]
  exact hK

theorem wp_store {o : Oper} {a : Act} {W W' : World} {K : Act → World → Prop} {Q : Exit → Act → World → Prop} {T : TypeId} {x y : Operand} (ho : o.op = .store T x y) {p v : Value} (hx : a.eval x = p) (hy : a.eval y = v)
    (h : (Instr.storeAt T p v).run P W = .ok () W') (hK : K (a.put o.dst undef) W') : o.wp P a W K Q := by
  unfold Oper.wp
  have : (execOp a.eval o).run P W = .ok .skip W' := by simp [execOp, ho, hx, hy, h]
  rw [this]
  exact hK

section list
variable {ops : Array Oper} {rest : List Oper} {o : Oper} {a : Act} {Q : Exit → Act → World → Prop} {W : World}
theorem wpList_load (hg : o.guard = none) {T : TypeId} {x : Operand} (ho : o.op = .load T x) {p v : Value} (hx : a.eval x = p) (h : (Instr.loadAt T p).run P W = .ok v W)
    (hK : wpList P ops Q rest (a.put o.dst v) W) : wpList P ops Q (o :: rest) a W := wpList_plain hg fun _ hk => wp_load ho hx h (hk _ _ hK)
theorem wpList_store (hg : o.guard = none) {T : TypeId} {x y : Operand} (ho : o.op = .store T x y) {p v : Value} {W' : World} (hx : a.eval x = p) (hy : a.eval y = v)
    (h : (Instr.storeAt T p v).run P W = .ok () W') (hK : wpList P ops Q rest (a.put o.dst undef) W') : wpList P ops Q (o :: rest) a W := wpList_plain hg fun _ hk => wp_store ho hx hy h (hk _ _ hK)
/-- any operation whose run is known -/
theorem wpList_run (hg : o.guard = none) {v : Value} {W' : World} (h : (execOp a.eval o).run P W = .ok (.value v) W') (hK : wpList P ops Q rest (a.put o.dst v) W') : wpList P ops Q (o :: rest) a W :=
  wpList_plain hg fun _ hk => by unfold Oper.wp; rw [h]; exact hk _ _ hK
end list

/-- copy out of a string into a block -/
theorem run_copy_string (W : World) (dT sT ty elem : TypeId) (b o dLen dCap m : Nat) (s : ByteArray) (t : TypeId) (cur : List Value)
    (hu : P.underlying dT = some (.slice elem)) (hs : (P.info? elem).map (·.size) = some 1) (hb : W.heap[b]? = some (.cells cur.toArray t (0, 0))) (hm : Nat.min s.size dLen = m) (hfit : o + m ≤ cur.length) :
    (Builtin.copy_ #[dT, sT] ty #[.slice (some ⟨b, o, none⟩) dLen dCap, .string s]).run P W = .ok (goInt m) (W.setRow b (laid cur o (bvs (s.data.toList.take m))).toArray) := by
  cases hq : P.info? elem with
  | none => simp [hq] at hs
  | some i =>
    have hi : i.size = 1 := by simpa [hq] using hs
    have hms : m ≤ s.size := by rw [← hm]; exact Nat.min_le_left _ _
    have hlen : (bvs (s.data.toList.take m)).length = m := by
      simp only [bvs, List.length_map, List.length_take, Array.length_toList]
      exact Nat.min_eq_left hms
    have hst := run_storeCells_at P b o t (bvs (s.data.toList.take m)) 0 cur.toArray W hb (by rw [hlen]; simpa using hfit) (bvs_one _)
    simp only [Nat.add_zero] at hst
    have hbm : List.take m (List.map (fun b => Value.int .u8 (b.toNat : Int)) s.data.toList) = bvs (s.data.toList.take m) := by rw [bvs, List.map_take]; rfl
    simp [Builtin.copy_, Builtin.firstCells, sizeOf, typeInfo, hq, hbm, hst, laid, Builtin.lenOf, hm, run_underlying hu]

/-- bytes of a block as a string -/
theorem run_bytes_string (W : World) (src dst e : TypeId) (b o len cap : Nat) (l : List UInt8) (hs : P.underlying src = some (.slice e)) (he : P.underlying e = some (.int .u8)) (hd : P.underlying dst = some .string)
    (hl : l.length = len) (h : Has W b o (bvs l)) : (convert src dst (.slice (some ⟨b, o, none⟩) len cap)).run P W = .ok (.string ⟨l.toArray⟩) W := by
  rw [run_convert_bytes_string W src dst e _ len cap hs he hd]
  have hc := run_loadCells_list (P := P) W ⟨b, o, none⟩ (bvs l) h.adds
  rw [length_bvs, hl] at hc
  have e1 : bvs l = (l.map fun c => (c.toNat : Int)).map (Value.int .u8) := by simp [bvs, bv, Function.comp_def]
  rw [e1] at hc
  rw [run_bytesToString W _ len cap _ hc]
  congr 2
  have key : ∀ (l : List UInt8) (acc : ByteArray), (l.map fun c => (c.toNat : Int)).foldl (fun r n => r.push (UInt8.ofNat n.toNat)) acc = ⟨acc.data ++ l.toArray⟩ := by
    intro l
    induction l with
    | nil => intro acc; simp
    | cons c l ih =>
      intro acc
      simp only [List.map_cons, List.foldl_cons, Int.toNat_natCast, UInt8.ofNat_toNat]
      rw [ih]
      simp [ByteArray.push]
  rw [key]
  simp

theorem madeCells_same (z : Array Value) (v : Value) (k n : Nat) (hz : z = Array.replicate k v) (hk : 0 < k) : madeCells z n = (List.replicate n v).toArray := by
  subst hz
  apply Array.ext
  · simp [madeCells]
  · intro j h1 h2
    have hm : j % k < k := Nat.mod_lt _ hk
    simp [madeCells, hm]

/-- 'make([]T, n)' -/
theorem wpList_make_any {ops : Array Oper} {rest : List Oper} {o : Oper} {a : Act} {Q : Exit → Act → World → Prop} {W : World} (hg : o.guard = none) (l c : Operand) (t : TypeId) (hop : o.op = Op.makeSlice t l c)
    (e : TypeId) (z : Value) (size bytes : Nat) (ht : P.underlying t = some (.slice e)) (hi : (P.info? e).map (fun i => (i.zero, i.size, i.bytes)) = some (some z, size, bytes)) (n : Nat) (hl : a.eval l = .int .i64 (n : Int)) (hc : a.eval c = .int .i64 (n : Int))
    (hb : bytes * n ≤ 281474976710656) (h63 : n ≤ maxLen)
    (hK : wpList P ops Q rest (a.put o.dst (.slice (some ⟨W.heap.size, 0, none⟩) n n)) (W.alloc (.cells (madeCells z.cells (n * size)) e))) : wpList P ops Q (o :: rest) a W := by
  obtain ⟨i, hi', hz, hs, hby⟩ := info_parts hi
  subst hs; subst hby
  have h63' : (n : Int) ≤ 9223372036854775807 := by have h := h63; simp [maxLen] at h; omega
  have hb' : (i.bytes : Int) * (n : Int) ≤ 281474976710656 := by
    have h : ((i.bytes * n : Nat) : Int) ≤ 281474976710656 := by omega
    rwa [Int.natCast_mul] at h
  have hr := run_make (P := P) W t e i z ht hi' hz .i64 .i64 n n (by omega) (Int.le_refl _) hb' h63'
  simp only [Int.toNat_natCast] at hr
  refine wpList_run hg (v := .slice (some ⟨W.heap.size, 0, none⟩) n n) (W' := W.alloc (.cells (madeCells z.cells (n * i.size)) e)) ?_ hK
  simp [execOp, hop, hl, hc, hr]

theorem foldl_set (l : List Value) : ∀ (k : Nat) (arr : Array Value), k + l.length ≤ arr.size →
    (l.zipIdx k).foldl (fun cs (x : Value × Nat) => cs.setIfInBounds (0 + x.2) x.1) arr = (arr.toList.take k ++ (l ++ arr.toList.drop (k + l.length))).toArray := by
  induction l with
  | nil => intro k arr _; simp
  | cons v l ih =>
    intro k arr h
    simp only [List.length_cons] at h
    simp only [List.zipIdx_cons, List.foldl_cons]
    rw [ih (k + 1) _ (by simp; omega)]
    congr 1
    have hk : k < arr.toList.length := by simp; omega
    simp only [Nat.zero_add, Array.toList_setIfInBounds]
    rw [List.take_set, List.drop_set_of_lt (by omega)]
    have e : ((arr.toList.take (k + 1)).set k v) = arr.toList.take k ++ [v] := by
      rw [List.take_succ_eq_append_getElem hk, List.set_append_right _ _ (by simp; omega)]
      have hm : min k arr.size = k := by rw [Array.length_toList] at hk; omega
      simp [hm]
    rw [e]
    simp [Nat.add_assoc, Nat.add_comm 1]

theorem fill_one (zero cells : Array Value) (size : Nat) (v : Value) (hv : v.cells = cells) (hs : cells.size = size) (hz : zero.size = size) :
    Instr.fill (fun i => some (i * size, size)) zero [(0, v)] = some cells := by
  subst hv
  subst hs
  have hf := foldl_set v.cells.toList 0 zero (by simp [hz])
  have e : v.cells.zipIdx.foldl (fun cs (x : Value × Nat) => cs.setIfInBounds (0 + x.2) x.1) zero = v.cells := by
    rw [← Array.foldl_toList, Array.toList_zipIdx, hf]
    apply Array.ext'
    simp [hz]
  simp only [Instr.fill, Nat.zero_mul]
  rw [if_neg (by simp [hz])]
  simpa using e

/-- '[]T{v}' -/
theorem run_buildSlice_one (W : World) (t e : TypeId) (z v : Value) (cells : Array Value) (size bytes : Nat) (hv : v.cells = cells) (hs : cells.size = size) (h0 : 0 < size) (h1 : size ≤ 16777216)
    (hu : P.underlying t = some (.slice e)) (hi : (P.info? e).map (fun i => (i.zero, i.size, i.bytes)) = some (some z, size, bytes)) :
    (Instr.buildSlice t 1 #[(0, v)]).run P W = .ok (.slice (some ⟨W.heap.size, 0, none⟩) 1 1) (W.alloc (.cells cells e)) := by
  obtain ⟨i, hi', hz, hsz, hby⟩ := info_parts hi
  have hf := fill_one ((Array.range size).map (z.cells[· % z.cells.size]!)) cells size v hv hs (by simp)
  have h2 : ¬ 2 ^ 24 < size := by omega
  have h3 : ¬ size = 0 := by omega
  simp [Instr.buildSlice, run_underlying hu, sizeOf, typeInfo, hi', hsz, h2, h3, zeroValue, hz, hf, newRow]

theorem exec_buildSlice_one {ρ : Operand → Value} {o : Oper} {t : TypeId} {x : Operand} (ho : o.op = .buildSlice t 1 #[(0, x)]) {W W' : World} {v r : Value} (hx : ρ x = v) (h : (Instr.buildSlice t 1 #[(0, v)]).run P W = .ok r W') :
    (execOp ρ o).run P W = .ok (.value r) W' := by
  simp [execOp, ho, hx, h]

/-- an append, its run known -/
theorem exec_append {ρ : Operand → Value} {o : Oper} {t t' : TypeId} {s x : Operand} (ho : o.op = .call { callee := .builtin .append, args := #[s, x], argTypes := #[t, t'] }) {W W' : World} {vs vx r : Value} (hs : ρ s = vs) (hx : ρ x = vx)
    (h : (Builtin.append_ #[t, t'] o.type #[vs, vx]).run P W = .ok r W') : (execOp ρ o).run P W = .ok (.value r) W' := by
  simp [execOp, ho, resolve, invoke, builtin, hs, hx, h]

theorem exec_copy {ρ : Operand → Value} {o : Oper} {t t' : TypeId} {s x : Operand} (ho : o.op = .call { callee := .builtin .copy, args := #[s, x], argTypes := #[t, t'] }) {W W' : World} {vs vx r : Value} (hs : ρ s = vs) (hx : ρ x = vx)
    (h : (Builtin.copy_ #[t, t'] o.type #[vs, vx]).run P W = .ok r W') : (execOp ρ o).run P W = .ok (.value r) W' := by
  simp [execOp, ho, resolve, invoke, builtin, hs, hx, h]

theorem exec_store {ρ : Operand → Value} {o : Oper} {T : TypeId} {x y : Operand} (ho : o.op = .store T x y) {W W' : World} {p v : Value} (hx : ρ x = p) (hy : ρ y = v) (h : (Instr.storeAt T p v).run P W = .ok () W') :
    (execOp ρ o).run P W = .ok .skip W' := by
  simp [execOp, ho, hx, hy, h]

theorem run_store_one (W : World) (a : Addr) (v u : Value) (T : TypeId) (hv : v.cells = #[v]) (h1 : v.oneCell' = true) (hi : (P.info? T).map (·.size) = some 1) (hc : W.cell? a = some u) (hf : W.frozen? a = false) :
    (Instr.storeAt T (.pointer (some a)) v).run P W = .ok () (W.setCell a v) := by
  cases hq : P.info? T with
  | none => simp [hq] at hi
  | some i =>
    have hs : i.size = 1 := by simpa [hq] using hi
    have hst := run_store P W a v .plain h1
    rw [hc] at hst
    simp only [hf, Bool.false_eq_true, if_false] at hst
    simp [Instr.storeAt, Instr.sureAddr, storeVar, Sem.run_bind, sizeOf, typeInfo, hq, hs, hv, storeCells, Addr.add, hst]

/-- 'copy(dst, s)', s a string, dst in a known block -/
theorem wpList_copy_string {ops : Array Oper} {rest : List Oper} {a : Act} {Q : Exit → Act → World → Prop} {W : World} {dst : Option Tmp} {x y : Operand} {dT sT ty : TypeId} {pos : String} {after : Array Edge}
    (elem : TypeId) (b o dLen dCap m : Nat) (s : ByteArray) (t : TypeId) (cur : List Value) (hu : P.underlying dT = some (.slice elem)) (hs : (P.info? elem).map (·.size) = some 1)
    (hb : W.heap[b]? = some (.cells cur.toArray t (0, 0))) (hm : Nat.min s.size dLen = m) (hfit : o + m ≤ cur.length) (hx : a.eval x = .slice (some ⟨b, o, none⟩) dLen dCap) (hy : a.eval y = .string s)
    (hK : wpList P ops Q rest (a.put dst (goInt m)) (W.setRow b (laid cur o (bvs (s.data.toList.take m))).toArray)) :
    wpList P ops Q ({ dst := dst, op := .call { callee := .builtin .copy, args := #[x, y], argTypes := #[dT, sT] }, type := ty, pos := pos, after := after, guard := none } :: rest) a W :=
  wpList_run rfl (exec_copy rfl hx hy (run_copy_string W dT sT ty elem b o dLen dCap m s t cur hu hs hb hm hfit)) hK

theorem exec_convert {ρ : Operand → Value} {o : Oper} {src dst : TypeId} {x : Operand} (ho : o.op = .convert src dst x) {W W' : World} {v r : Value} (hx : ρ x = v) (h : (convert src dst v).run P W = .ok r W') :
    (execOp ρ o).run P W = .ok (.value r) W' := by
  simp [execOp, ho, hx, h]

/-- a slice literal of bytes (any number), its parts read already -/
theorem run_buildSlice_flat (W : World) (t e : TypeId) (z : Value) (bytes n : Nat) (cs : List Value) (hn : cs.length = n) (h1 : ∀ v ∈ cs, v.cells = #[v]) (hu : P.underlying t = some (.slice e))
    (hi : (P.info? e).map (fun i => (i.zero, i.size, i.bytes)) = some (some z, 1, bytes)) (h0 : 0 < n) (hb : n ≤ 2 ^ 24) :
    (Instr.buildSlice t n ((cs.zipIdx 0).map fun x => (x.2, x.1)).toArray).run P W = .ok (.slice (some ⟨W.heap.size, 0, none⟩) n n) (W.alloc (.cells cs.toArray e)) := by
  obtain ⟨i, hi', hz, hsz, hby⟩ := info_parts hi
  refine run_buildSlice W t e n _ _ i z hu hi' hz (by rw [hsz]; omega) (by rw [hsz]; omega) ?_
  rw [hsz]
  exact Great.fill_flat _ _ h1 (by simp [hn])

theorem bvs_cells (l : List UInt8) : ∀ v ∈ bvs l, v.cells = #[v] := by
  intro v hv; obtain ⟨_, _, rfl⟩ := List.mem_map.1 hv; rfl

theorem exec_buildSlice {ρ : Operand → Value} {o : Oper} {t : TypeId} {n : Nat} {xs : Array (Nat × Operand)} {parts : Array (Nat × Value)} (ho : o.op = .buildSlice t n xs) {W W' : World} {r : Value} (hx : (xs.map fun (i, x) => (i, ρ x)) = parts) (h : (Instr.buildSlice t n parts).run P W = .ok r W') :
    (execOp ρ o).run P W = .ok (.value r) W' := by
  subst hx
  simp [execOp, ho, h]

/-- 'string(b)', b in a known block -/
theorem wpList_bytes_string {ops : Array Oper} {rest : List Oper} {a : Act} {Q : Exit → Act → World → Prop} {W : World} {dst : Option Tmp} {x : Operand} {src dT ty : TypeId} {pos : String} {after : Array Edge}
    (e : TypeId) (b o len cap : Nat) (l : List UInt8) (hs : P.underlying src = some (.slice e)) (he : P.underlying e = some (.int .u8)) (hd : P.underlying dT = some .string) (hl : l.length = len) (h : Has W b o (bvs l))
    (hx : a.eval x = .slice (some ⟨b, o, none⟩) len cap) (hK : wpList P ops Q rest (a.put dst (.string ⟨l.toArray⟩)) W) :
    wpList P ops Q ({ dst := dst, op := .convert src dT x, type := ty, pos := pos, after := after, guard := none } :: rest) a W :=
  wpList_run rfl (exec_convert rfl hx (run_bytes_string W src dT e b o len cap l hs he hd hl h)) hK

/-- a literal of bytes -/
theorem wpList_buildSlice_bytes {ops : Array Oper} {rest : List Oper} {a : Act} {Q : Exit → Act → World → Prop} {W : World} {dst : Option Tmp} {t ty : TypeId} {n : Nat} {xs : Array (Nat × Operand)} {pos : String} {after : Array Edge}
    (e : TypeId) (z : Value) (bytes : Nat) (l : List UInt8) (hn : l.length = n) (hu : P.underlying t = some (.slice e)) (hi : (P.info? e).map (fun i => (i.zero, i.size, i.bytes)) = some (some z, 1, bytes)) (h0 : 0 < n) (hb : n ≤ 2 ^ 24)
    (hx : (xs.map fun (i, x) => (i, a.eval x)) = (((bvs l).zipIdx 0).map fun x => (x.2, x.1)).toArray)
    (hK : wpList P ops Q rest (a.put dst (.slice (some ⟨W.heap.size, 0, none⟩) n n)) (W.alloc (.cells (bvs l).toArray e))) :
    wpList P ops Q ({ dst := dst, op := .buildSlice t n xs, type := ty, pos := pos, after := after, guard := none } :: rest) a W :=
  wpList_run rfl (exec_buildSlice rfl hx (run_buildSlice_flat W t e z bytes n (bvs l) (by rw [length_bvs, hn]) (bvs_cells l) hu hi h0 hb)) hK

/-- 'copy(dst, src)' of bytes between two known blocks -/
theorem wpList_copy_row' {ops : Array Oper} {rest : List Oper} {a : Act} {Q : Exit → Act → World → Prop} {W : World} {dst : Option Tmp} {x y : Operand} {dT sT ty : TypeId} {pos : String} {after : Array Edge}
    (elem : TypeId) (b o dLen dCap b' o' sLen sCap : Nat) (t : TypeId) (cur cs : List Value) (hu : P.underlying dT = some (.slice elem)) (hs : (P.info? elem).map (·.size) = some 1)
    (hb : W.heap[b]? = some (.cells cur.toArray t (0, 0))) (hn : cs.length = Nat.min sLen dLen) (hsrc : Has W b' o' cs) (hfit : o + cs.length ≤ cur.length) (h1 : ∀ v ∈ cs, v.oneCell' = true)
    (hx : a.eval x = .slice (some ⟨b, o, none⟩) dLen dCap) (hy : a.eval y = .slice (some ⟨b', o', none⟩) sLen sCap)
    (hK : wpList P ops Q rest (a.put dst (goInt cs.length)) (W.setRow b (laid cur o cs).toArray)) :
    wpList P ops Q ({ dst := dst, op := .call { callee := .builtin .copy, args := #[x, y], argTypes := #[dT, sT] }, type := ty, pos := pos, after := after, guard := none } :: rest) a W :=
  wpList_run rfl (exec_copy rfl hx hy (run_copy_row (P := P) W dT sT ty elem b o dLen dCap ⟨b', o', none⟩ sLen sCap cur.toArray t cs hu hs hb hn hsrc.adds (by simpa using hfit) h1)) (by simpa [laid] using hK)

theorem exec_build {ρ : Operand → Value} {o : Oper} {t : TypeId} {x : Operand} (ho : o.op = .build t #[(0, x)]) {W W' : World} {v r : Value} (hx : ρ x = v) (h : (Instr.build t #[(0, v)]).run P W = .ok r W') :
    (execOp ρ o).run P W = .ok (.value r) W' := by
  simp [execOp, ho, hx, h]
theorem exec_alloc {ρ : Operand → Value} {o : Oper} {t : TypeId} (ho : o.op = .alloc t) {W W' : World} {r : Value} (h : (Instr.alloc t true (.tuple #[])).run P W = .ok r W') :
    (execOp ρ o).run P W = .ok (.value r) W' := by
  simp [execOp, ho, h]

/-- a struct of several parts -/
theorem exec_buildN {ρ : Operand → Value} {o : Oper} {t : TypeId} {xs : Array (Nat × Operand)} {parts : Array (Nat × Value)} (ho : o.op = .build t xs) {W W' : World} {r : Value} (hx : (xs.map fun (i, x) => (i, ρ x)) = parts) (h : (Instr.build t parts).run P W = .ok r W') :
    (execOp ρ o).run P W = .ok (.value r) W' := by
  subst hx
  simp [execOp, ho, h]

/-- a whole block is stored, is loaded -/
theorem wpList_store_block {ops : Array Oper} {rest : List Oper} {a : Act} {Q : Exit → Act → World → Prop} {W : World} {dst : Option Tmp} {x y : Operand} {T ty : TypeId} {pos : String} {after : Array Edge}
    (g : Nat) (t : TypeId) (cs cur : List Value) (hi : (P.info? T).map (·.size) = some cs.length) (hb : W.heap[g]? = some (.cells cur.toArray t (0, 0))) (hl : cur.length = cs.length) (h1 : ∀ v ∈ cs, v.oneCell' = true)
    (hx : a.eval x = .pointer (some ⟨g, 0, none⟩)) (hy : a.eval y = .agg cs.toArray) (hK : wpList P ops Q rest (a.put dst undef) (W.setRow g cs.toArray)) :
    wpList P ops Q ({ dst := dst, op := .store T x y, type := ty, pos := pos, after := after, guard := none } :: rest) a W :=
  wpList_store rfl rfl hx hy (by
    have := run_store_part (P := P) W g 0 cs.length t T cur cs hi rfl hb (by omega) h1
    rwa [show laid cur 0 cs = cs from by simp [laid, ← hl]] at this) hK

theorem wpList_load_block {ops : Array Oper} {rest : List Oper} {a : Act} {Q : Exit → Act → World → Prop} {W : World} {dst : Option Tmp} {x : Operand} {T ty : TypeId} {pos : String} {after : Array Edge}
    (g : Nat) (t : TypeId) (cs : List Value) (hu : ∃ d, P.underlying T = some d ∧ (match d with | .struct _ | .array _ _ => true | _ => false) = true) (hi : (P.info? T).map (·.size) = some cs.length)
    (hb : W.heap[g]? = some (.cells cs.toArray t (0, 0))) (hx : a.eval x = .pointer (some ⟨g, 0, none⟩)) (hK : wpList P ops Q rest (a.put dst (.agg cs.toArray)) W) :
    wpList P ops Q ({ dst := dst, op := .load T x, type := ty, pos := pos, after := after, guard := none } :: rest) a W :=
  let ⟨d, hu, hd⟩ := hu
  wpList_load rfl rfl hx (run_load_part W g 0 cs.length cs T d hu (by revert hd; cases d <;> simp) hi rfl (has_of_block' hb (by simp))) hK

theorem wpList_store_part {ops : Array Oper} {rest : List Oper} {a : Act} {Q : Exit → Act → World → Prop} {W : World} {dst : Option Tmp} {x y : Operand} {T ty : TypeId} {pos : String} {after : Array Edge}
    (g o : Nat) (t : TypeId) (cs cur : List Value) (hi : (P.info? T).map (·.size) = some cs.length) (hb : W.heap[g]? = some (.cells cur.toArray t (0, 0))) (hl : o + cs.length ≤ cur.length) (h1 : ∀ v ∈ cs, v.oneCell' = true)
    (hx : a.eval x = .pointer (some ⟨g, o, none⟩)) (hy : a.eval y = .agg cs.toArray) (hK : wpList P ops Q rest (a.put dst undef) (W.setRow g (laid cur o cs).toArray)) :
    wpList P ops Q ({ dst := dst, op := .store T x y, type := ty, pos := pos, after := after, guard := none } :: rest) a W :=
  wpList_store rfl rfl hx hy (run_store_part (P := P) W g o cs.length t T cur cs hi rfl hb hl h1) hK

theorem wpList_buildSlice_agg {ops : Array Oper} {rest : List Oper} {a : Act} {Q : Exit → Act → World → Prop} {W : World} {dst : Option Tmp} {t ty : TypeId} {x : Operand} {pos : String} {after : Array Edge}
    (e : TypeId) (z v : Value) (cells : Array Value) (size bytes : Nat) (hv : v.cells = cells) (hs : cells.size = size) (h0 : 0 < size) (h1 : size ≤ 16777216) (hu : P.underlying t = some (.slice e))
    (hi : (P.info? e).map (fun i => (i.zero, i.size, i.bytes)) = some (some z, size, bytes)) (hx : a.eval x = v) (hK : wpList P ops Q rest (a.put dst (.slice (some ⟨W.heap.size, 0, none⟩) 1 1)) (W.alloc (.cells cells e))) :
    wpList P ops Q ({ dst := dst, op := .buildSlice t 1 #[(0, x)], type := ty, pos := pos, after := after, guard := none } :: rest) a W :=
  wpList_run rfl (exec_buildSlice_one rfl hx (run_buildSlice_one W t e z v cells size bytes hv hs h0 h1 hu hi)) hK

theorem wpList_append_run {ops : Array Oper} {rest : List Oper} {a : Act} {Q : Exit → Act → World → Prop} {W W' : World} {dst : Option Tmp} {t t' ty : TypeId} {x y : Operand} {pos : String} {after : Array Edge}
    (vs vx r : Value) (h : (Builtin.append_ #[t, t'] ty #[vs, vx]).run P W = .ok r W') (hs : a.eval x = vs) (hx : a.eval y = vx) (hK : wpList P ops Q rest (a.put dst r) W') :
    wpList P ops Q ({ dst := dst, op := .call { callee := .builtin .append, args := #[x, y], argTypes := #[t, t'] }, type := ty, pos := pos, after := after, guard := none } :: rest) a W :=
  wpList_run rfl (exec_append rfl hs hx h) hK

end Go.Proofs.Ytlgefjcfnnjkbaa
