/- Parts of the proof, one behind the other: Base, Mem, DiskM, Disk. Each part's own words say what it proves; no conditions. -/
import Derived.WalkKit
import Derived.WalkSpells
import Derived.WalkLawsBesides
import Derived.Lib.Hide
import Derived.Laws.CopyOwn
import Derived.BigRegion
import Derived.Deep.Cut
import Derived.Deep.CutRange
import Derived.Deep.DeepCutAuto
import Derived.Deep.CutBlock
import Derived.Deep.AppendLies
import Derived.Laws.CopyRow
import Derived.Great.BuildSlice
import Derived.Test.YtlgefjcfnnjkbaaDoorProg
import Derived.Test.YtlgefjcfnnjkbaaDoorP01
set_option linter.unusedVariables false
set_option linter.unusedSimpArgs false
set_option linter.unusedSectionVars false
/- Small laws on worlds, blocks, bytes, lists and appends that the other texts use; no program is named. No conditions. -/
namespace Go.Proofs.YtlgefjcfnnjkbaaDoor
set_option maxRecDepth 100000
open Go.RowKit

/-- Of the blocks that were there only those in S may have turned. -/
structure Only (S : Nat → Prop) (w w' : World) : Prop where
  os : w'.os = w.os
  tape : w'.tape = w.tape
  output : w'.output = w.output
  size : w.heap.size ≤ w'.heap.size
  block : ∀ k, k < w.heap.size → ¬ S k → w'.heap[k]? = w.heap[k]?

namespace Only
variable {S T : Nat → Prop} {a b c w w' : World}
theorem refl (S : Nat → Prop) (w : World) : Only S w w := ⟨rfl, rfl, rfl, Nat.le_refl _, fun _ _ _ => rfl⟩
theorem trans (h : Only S a b) (h' : Only S b c) : Only S a c :=
  ⟨h'.os.trans h.os, h'.tape.trans h.tape, h'.output.trans h.output, Nat.le_trans h.size h'.size, fun k hk hs => (h'.block k (Nat.lt_of_lt_of_le hk h.size) hs).trans (h.block k hk hs)⟩
theorem mono (h : Only S a b) (hs : ∀ k, k < a.heap.size → S k → T k) : Only T a b := ⟨h.os, h.tape, h.output, h.size, fun k hk ht => h.block k hk (fun s => ht (hs k hk s))⟩
/-- Behind a step that turned S: what turns next may turn new blocks, too. -/
theorem trans' (h : Only S a b) (h' : Only T b c) (ht : ∀ k, k < a.heap.size → T k → S k) : Only S a c :=
  ⟨h'.os.trans h.os, h'.tape.trans h.tape, h'.output.trans h.output, Nat.le_trans h.size h'.size, fun k hk hs => (h'.block k (Nat.lt_of_lt_of_le hk h.size) (fun t => hs (ht k hk t))).trans (h.block k hk hs)⟩
theorem of_below (h : Below a.heap.size a b) (S : Nat → Prop) : Only S a b := ⟨h.os, h.tape, h.output, h.size, fun k hk _ => h.block k hk⟩
theorem below (h : Only S a b) (hs : ∀ k, k < a.heap.size → ¬ S k) : Below a.heap.size a b := ⟨h.os, h.tape, h.output, h.size, fun k hk => h.block k hk (hs k hk)⟩
theorem belowOf {B : Nat} (h : Only S a b) (hB : B ≤ a.heap.size) (hs : ∀ k, k < B → ¬ S k) : Below B a b := ⟨h.os, h.tape, h.output, h.size, fun k hk => h.block k (Nat.lt_of_lt_of_le hk hB) (hs k hk)⟩
theorem of_grown {r : Option Nat} (h : a.grownBy b r) (hr : ∀ k, r = some k → S k) : Only S a b := ⟨h.os, h.tape, h.output, h.size, fun k hk hs => h.block k hk (fun e => hs (hr k e.symm))⟩
theorem setCell (w : World) (b o : Nat) (v : Value) (hb : S b) : Only S w (w.setCell ⟨b, o, none⟩ v) :=
  ⟨rfl, rfl, rfl, by simp, fun k _ hr => Below.heap_setCell _ _ _ _ (fun e => hr (by rw [e]; exact hb))⟩
theorem one (w : World) (b o : Nat) (v : Value) : Only (fun k => k = b) w (w.setCell ⟨b, o, none⟩ v) := setCell w b o v rfl
theorem setRow (w : World) (b : Nat) (cs : Array Value) (hb : S b) : Only S w (w.setRow b cs) :=
  ⟨rfl, rfl, rfl, by simp, fun k _ hr => setRow_other w b k cs (fun e => hr (e ▸ hb))⟩
theorem alloc (w : World) (o : Obj) (S : Nat → Prop) : Only S w (w.alloc o) := ⟨rfl, rfl, rfl, by simp, fun k hk _ => Below.heap_alloc w o k hk⟩
theorem drew (w : World) (S : Nat → Prop) : Only S w w.drew := ⟨rfl, rfl, rfl, Nat.le_refl _, fun _ _ _ => rfl⟩
theorem keep {o : Obj} (h : Only S a b) {k : Nat} (hk : a.heap[k]? = some o) (hs : ¬ S k) : b.heap[k]? = some o := (h.block k (lt_of_block hk) hs).trans hk
theorem cell (h : Only S a b) {p : Addr} (hp : p.block < a.heap.size) (hs : ¬ S p.block) : b.cell? p = a.cell? p := World.cell?_of_block (h.block p.block hp hs)
end Only

theorem ownsRow_only {w w' : World} {base : Nat} {e : TypeId} {size : Nat} {v : Value} {n : Nat} {xs : List Value} {S : Nat → Prop}
    (h : w.ownsRow base e size v n xs) (ho : Only S w w') (hs : ∀ k, v.ownBlock = some k → ¬ S k) : w'.ownsRow base e size v n xs := by
  refine ⟨h.1, ?_⟩
  rcases h.2 with hn | ⟨g, cap, cur, rfl, hb, hg, r⟩
  · exact .inl hn
  · exact .inr ⟨g, cap, cur, rfl, hb, ho.keep hg (hs g rfl), r⟩

/-- What an append leaves: the row, and where it lies: where it lay, or in a new block. -/
theorem run_append_fresh {P : Program} (w : World) (base : Nat) (t ty e : TypeId) (i : TypeInfo) (z : Value) (size bytes : Nat) (ht : P.underlying t = some (.slice e)) (hi : P.info? e = some i) (hz : i.zero = some z)
    (hsize : i.size = size) (hby : i.bytes = bytes) (hzs : z.cells.size = size) (hsz : 0 < size)
    (v : Value) (n : Nat) (xs : List Value) (hown : w.ownsRow base e size v n xs)
    (a : Addr) (m c : Nat) (news : List Value) (hl : news.length = m * size) (hnews : ∀ j u, news[j]? = some u → w.cell? (a.add j) = some u) (h1 : ∀ u ∈ news, u.oneCell' = true)
    (h63 : n + m ≤ maxLen) (hbytes : (n + m) * bytes ≤ 140737488355328) (hbase : base ≤ w.heap.size) :
    ∃ v' w', (Builtin.append_ #[t, t] ty #[v, .slice (some a) m c]).run P w = .ok v' w' ∧ w'.ownsRow base e size v' (n + m) (xs ++ news) ∧ w.grownBy w' v.ownBlock ∧
      (v' = .slice none 0 0 ↔ v = .slice none 0 0 ∧ m = 0) ∧ (∀ k, v'.ownBlock = some k → v.ownBlock = some k ∨ w.heap.size ≤ k) := by
  obtain ⟨v', w', hr, h2, h3, h4⟩ := run_append_own (P := P) w base t ty e i z size bytes ht hi hz hsize hby hzs hsz v n xs hown a m c news hl hnews h1 h63 hbytes hbase
  refine ⟨v', w', hr, h2, h3, h4, ?_⟩
  -- the same append, its owner asked for a row that begins where the heap ends, or is the old one
  subst hsize
  subst hby
  have hbytes' : (n + m) * i.bytes ≤ 140737488355328 := hbytes
  rcases hown.2 with ⟨rfl, rfl⟩ | ⟨g, cap, cur, rfl, hbg, hg, hnc, hcm, hcs, htake⟩
  · have hx : xs = [] := List.eq_nil_of_length_eq_zero (by simpa using hown.1)
    subst hx
    obtain ⟨v'', w'', hr', h2', _, _⟩ := run_append_own (P := P) w w.heap.size t ty e i z i.size i.bytes ht hi hz rfl rfl hzs hsz _ 0 [] (World.ownsRow_nil w _ e i.size) a m c news hl hnews h1 h63 hbytes (Nat.le_refl _)
    rw [hr] at hr'
    cases hr'
    exact fun k hk => .inr (h2'.lt k hk).1
  · by_cases hroom : n + m ≤ cap
    · have hfit : n * i.size + news.length ≤ cur.size := by rw [hl, hcs, ← Nat.add_mul]; exact Nat.mul_le_mul_right _ hroom
      have hr' := run_append_room (P := P) w t ty e i ht hi g n cap cur hg a m c news hl hnews h1 hroom hfit
      rw [hr] at hr'
      cases hr'
      exact fun k hk => .inl hk
    · have holds : ∀ j u, xs[j]? = some u → w.cell? ((⟨g, 0, none⟩ : Addr).add j) = some u := hown.cells (g := g) rfl
      have hr' := run_append_grow (P := P) w t ty e i z ht hi hz ⟨g, 0, none⟩ n cap xs hown.1 holds a m c news hl hnews (by omega) (by simp only [maxLen] at h63; omega) (growslice_fits (by omega) hbytes)
      rw [hr] at hr'
      cases hr'
      intro k hk
      simp [Value.ownBlock] at hk
      right
      omega

/-- a byte as a value; a list of bytes as cells -/
def bv (b : UInt8) : Value := .int .u8 (b.toNat : Int)
def bvs (l : List UInt8) : List Value := l.map bv
theorem length_bvs (l : List UInt8) : (bvs l).length = l.length := by simp [bvs]
theorem bvs_append (a b : List UInt8) : bvs (a ++ b) = bvs a ++ bvs b := by simp [bvs]
theorem bvs_one (l : List UInt8) : ∀ v ∈ bvs l, v.oneCell' = true := by
  intro v hv; obtain ⟨_, _, rfl⟩ := List.mem_map.1 hv; rfl

theorem cell_at {w : World} {b : Nat} {c : Array Value} {t : TypeId} (h : w.heap[b]? = some (.cells c t (0, 0))) (i : Nat) : w.cell? ⟨b, i, none⟩ = c[i]? := by simp [World.cell?, h]
theorem free_at {w : World} {b : Nat} {c : Array Value} {t : TypeId} (h : w.heap[b]? = some (.cells c t (0, 0))) (i : Nat) : w.frozen? ⟨b, i, none⟩ = false := by simp [World.frozen?, h]

theorem grownBy_trans {a b c : World} {r : Option Nat} (h : a.grownBy b r) (h' : b.grownBy c r) : a.grownBy c r :=
  ⟨h'.os.trans h.os, h'.tape.trans h.tape, h'.output.trans h.output, Nat.le_trans h.size h'.size, fun k hk hr => (h'.block k (Nat.lt_of_lt_of_le hk h.size) hr).trans (h.block k hk hr)⟩

theorem grownBy_setCell (w : World) (b o : Nat) (v : Value) : w.grownBy (w.setCell ⟨b, o, none⟩ v) (some b) :=
  ⟨rfl, rfl, rfl, by simp, fun k _ hr => Below.heap_setCell _ _ _ _ (fun e => hr (by rw [e]))⟩

end Go.Proofs.YtlgefjcfnnjkbaaDoor
/- Loads and stores of whole arrays and structs inside a block, copies out of a string, bytes as a string, a made slice. No program is named; no conditions. -/
namespace Go.Proofs.YtlgefjcfnnjkbaaDoor
set_option maxRecDepth 100000
open Go.RowKit

variable {P : Program}

/-- the cells cs lie in block b from place o on -/
def Has (w : World) (b o : Nat) (cs : List Value) : Prop := ∀ j u, cs[j]? = some u → w.cell? ⟨b, o + j, none⟩ = some u

theorem add_mk (b o j : Nat) : (⟨b, o, none⟩ : Addr).add j = ⟨b, o + j, none⟩ := by unfold Addr.add; split <;> simp_all

theorem Has.adds {w : World} {b o : Nat} {cs : List Value} (h : Has w b o cs) : ∀ j u, cs[j]? = some u → w.cell? ((⟨b, o, none⟩ : Addr).add j) = some u := by
  intro j u hu; rw [add_mk]; exact h j u hu

theorem has_of_block {w : World} {b : Nat} {t : TypeId} {pre cs post : List Value} (h : w.heap[b]? = some (.cells (pre ++ (cs ++ post)).toArray t (0, 0))) : Has w b pre.length cs := by
  intro j u hu
  have hj : j < cs.length := (List.getElem?_eq_some_iff.1 hu).1
  rw [cell_at h]
  simp only [List.getElem?_toArray]
  rw [List.getElem?_append_right (by omega), Nat.add_sub_cancel_left, List.getElem?_append_left hj]
  exact hu

theorem has_of_block' {w : World} {b o : Nat} {t : TypeId} {l cs : List Value} (h : w.heap[b]? = some (.cells l.toArray t (0, 0))) (hl : (l.drop o).take cs.length = cs) : Has w b o cs := by
  intro j u hu
  have hj : j < cs.length := (List.getElem?_eq_some_iff.1 hu).1
  rw [cell_at h]
  simp only [List.getElem?_toArray]
  rw [← hl, List.getElem?_take, if_pos hj, List.getElem?_drop] at hu
  exact hu

theorem Has.only {w w' : World} {b o : Nat} {cs : List Value} {S : Nat → Prop} (h : Has w b o cs) (ho : Only S w w') (hs : ¬ S b) : Has w' b o cs := by
  intro j u hu
  have := h j u hu
  rw [ho.cell (World.block_lt_of_cell? _ _ this) hs]
  exact this

theorem run_load_part (W : World) (b o n : Nat) (cs : List Value) (T : TypeId) (d : TypeDesc) (hu : P.underlying T = some d) (hd : (match d with | .struct _ | .array _ _ => true | _ => false) = true)
    (hi : (P.info? T).map (·.size) = some n) (hn : cs.length = n) (h : Has W b o cs) :
    (Instr.loadAt T (.pointer (some ⟨b, o, none⟩))).run P W = .ok (.agg cs.toArray) W := by
  have hl := run_loadCells_list (P := P) W ⟨b, o, none⟩ cs h.adds
  cases hq : P.info? T with
  | none => simp [hq] at hi
  | some i =>
    have hs : i.size = cs.length := by rw [hn]; simpa [hq] using hi
    have hagg : (isAgg T).run P W = .ok true W := by
      unfold isAgg
      rw [Sem.run_bind, run_underlying hu W]
      cases d <;> simp_all
    simp [Instr.loadAt, Instr.sureAddr, loadVar, Sem.run_bind, hagg, sizeOf, typeInfo, hq, hs, hl]

theorem run_load_one (W : World) (a : Addr) (v : Value) (T : TypeId) (d : TypeDesc) (hu : P.underlying T = some d) (hd : (match d with | .struct _ | .array _ _ => true | _ => false) = false)
    (h : W.cell? a = some v) : (Instr.loadAt T (.pointer (some a))).run P W = .ok v W := by
  have hagg : (isAgg T).run P W = .ok false W := by
    unfold isAgg
    rw [Sem.run_bind, run_underlying hu W]
    cases d <;> simp_all
  simp [Instr.loadAt, Instr.sureAddr, loadVar, Sem.run_bind, hagg, run_load, h]

/-- what lies in the block behind the store of vs at place o -/
def laid (cur : List Value) (o : Nat) (vs : List Value) : List Value := cur.take o ++ (vs ++ cur.drop (o + vs.length))
theorem length_laid (cur : List Value) (o : Nat) (vs : List Value) (h : o + vs.length ≤ cur.length) : (laid cur o vs).length = cur.length := by simp [laid]; omega

theorem run_store_part (W : World) (b o n : Nat) (t T : TypeId) (cur vs : List Value) (hi : (P.info? T).map (·.size) = some n) (hn : vs.length = n)
    (hb : W.heap[b]? = some (.cells cur.toArray t (0, 0))) (hfit : o + vs.length ≤ cur.length) (h1 : ∀ v ∈ vs, v.oneCell' = true) :
    (Instr.storeAt T (.pointer (some ⟨b, o, none⟩)) (.agg vs.toArray)).run P W = .ok () (W.setRow b (laid cur o vs).toArray) := by
  cases hq : P.info? T with
  | none => simp [hq] at hi
  | some i =>
    have hs : i.size = vs.length := by rw [hn]; simpa [hq] using hi
    have hst := run_storeCells_at P b o t vs 0 cur.toArray W hb (by simpa using hfit) h1
    simp only [Nat.add_zero] at hst
    simp [Instr.storeAt, Instr.sureAddr, storeVar, Sem.run_bind, sizeOf, typeInfo, hq, hs, Value.cells, hst, laid]

theorem exec_load {ρ : Operand → Value} {o : Oper} {T : TypeId} {x : Operand} (ho : o.op = .load T x) {W : World} {p v : Value} (hx : ρ x = p) (h : (Instr.loadAt T p).run P W = .ok v W) :
    (execOp ρ o).run P W = .ok (.value v) W := by
  simp [execOp, ho, hx, h]

theorem wp_load {o : Oper} {a : Act} {W : World} {K : Act → World → Prop} {Q : Exit → Act → World → Prop} {T : TypeId} {x : Operand} (ho : o.op = .load T x) {p v : Value} (hx : a.eval x = p) (h : (Instr.loadAt T p).run P W = .ok v W)
    (hK : K (a.put o.dst v) W) : o.wp P a W K Q := by
  unfold Oper.wp
  rw [exec_load ho hx h]
  exact hK

theorem wp_store {o : Oper} {a : Act} {W W' : World} {K : Act → World → Prop} {Q : Exit → Act → World → Prop} {T : TypeId} {x y : Operand} (ho : o.op = .store T x y) {p v : Value} (hx : a.eval x = p) (hy : a.eval y = v)
    (h : (Instr.storeAt T p v).run P W = .ok () W') (hK : K (a.put o.dst undef) W') : o.wp P a W K Q := by
  unfold Oper.wp
  have : (execOp a.eval o).run P W = .ok .skip W' := by simp [execOp, ho, hx, hy, h]
  rw [this]
  exact hK

section list
variable {ops : Array Oper} {rest : List Oper} {o : Oper} {a : Act} {Q : Exit → Act → World → Prop} {W : World}
theorem wpList_load (hg : o.guard = none) {T : TypeId} {x : Operand} (ho : o.op = .load T x) {p v : Value} (hx : a.eval x = p) (h : (Instr.loadAt T p).run P W = .ok v W)
    (hK : wpList P ops Q rest (a.put o.dst v) W) : wpList P ops Q (o :: rest) a W := wpList_plain hg fun _ hk => wp_load ho hx h (hk _ _ hK)
theorem wpList_store (hg : o.guard = none) {T : TypeId} {x y : Operand} (ho : o.op = .store T x y) {p v : Value} {W' : World} (hx : a.eval x = p) (hy : a.eval y = v)
    (h : (Instr.storeAt T p v).run P W = .ok () W') (hK : wpList P ops Q rest (a.put o.dst undef) W') : wpList P ops Q (o :: rest) a W := wpList_plain hg fun _ hk => wp_store ho hx hy h (hk _ _ hK)
/-- any operation whose run is known -/
theorem wpList_run (hg : o.guard = none) {v : Value} {W' : World} (h : (execOp a.eval o).run P W = .ok (.value v) W') (hK : wpList P ops Q rest (a.put o.dst v) W') : wpList P ops Q (o :: rest) a W :=
  wpList_plain hg fun _ hk => by unfold Oper.wp; rw [h]; exact hk _ _ hK
end list

/-- copy out of a string into a block -/
theorem run_copy_string (W : World) (dT sT ty elem : TypeId) (b o dLen dCap m : Nat) (s : ByteArray) (t : TypeId) (cur : List Value)
    (hu : P.underlying dT = some (.slice elem)) (hs : (P.info? elem).map (·.size) = some 1) (hb : W.heap[b]? = some (.cells cur.toArray t (0, 0))) (hm : Nat.min s.size dLen = m) (hfit : o + m ≤ cur.length) :
    (Builtin.copy_ #[dT, sT] ty #[.slice (some ⟨b, o, none⟩) dLen dCap, .string s]).run P W = .ok (goInt m) (W.setRow b (laid cur o (bvs (s.data.toList.take m))).toArray) := by
  cases hq : P.info? elem with
  | none => simp [hq] at hs
  | some i =>
    have hi : i.size = 1 := by simpa [hq] using hs
    have hms : m ≤ s.size := by rw [← hm]; exact Nat.min_le_left _ _
    have hlen : (bvs (s.data.toList.take m)).length = m := by
      simp only [bvs, List.length_map, List.length_take, Array.length_toList]
      exact Nat.min_eq_left hms
    have hst := run_storeCells_at P b o t (bvs (s.data.toList.take m)) 0 cur.toArray W hb (by rw [hlen]; simpa using hfit) (bvs_one _)
    simp only [Nat.add_zero] at hst
    have hbm : List.take m (List.map (fun b => Value.int .u8 (b.toNat : Int)) s.data.toList) = bvs (s.data.toList.take m) := by rw [bvs, List.map_take]; rfl
    simp [Builtin.copy_, Builtin.firstCells, sizeOf, typeInfo, hq, hbm, hst, laid, Builtin.lenOf, hm, run_underlying hu]

/-- bytes of a block as a string -/
theorem run_bytes_string (W : World) (src dst e : TypeId) (b o len cap : Nat) (l : List UInt8) (hs : P.underlying src = some (.slice e)) (he : P.underlying e = some (.int .u8)) (hd : P.underlying dst = some .string)
    (hl : l.length = len) (h : Has W b o (bvs l)) : (convert src dst (.slice (some ⟨b, o, none⟩) len cap)).run P W = .ok (.string ⟨l.toArray⟩) W := by
  rw [run_convert_bytes_string W src dst e _ len cap hs he hd]
  have hc := run_loadCells_list (P := P) W ⟨b, o, none⟩ (bvs l) h.adds
  rw [length_bvs, hl] at hc
  have e1 : bvs l = (l.map fun c => (c.toNat : Int)).map (Value.int .u8) := by simp [bvs, bv, Function.comp_def]
  rw [e1] at hc
  rw [run_bytesToString W _ len cap _ hc]
  congr 2
  have key : ∀ (l : List UInt8) (acc : ByteArray), (l.map fun c => (c.toNat : Int)).foldl (fun r n => r.push (UInt8.ofNat n.toNat)) acc = ⟨acc.data ++ l.toArray⟩ := by
    intro l
    induction l with
    | nil => intro acc; simp
    | cons c l ih =>
      intro acc
      simp only [List.map_cons, List.foldl_cons, Int.toNat_natCast, UInt8.ofNat_toNat]
      rw [ih]
      simp [ByteArray.push]
  rw [key]
  simp

theorem madeCells_same (z : Array Value) (v : Value) (k n : Nat) (hz : z = Array.replicate k v) (hk : 0 < k) : madeCells z n = (List.replicate n v).toArray := by
  subst hz
  apply Array.ext
  · simp [madeCells]
  · intro j h1 h2
    have hm : j % k < k := Nat.mod_lt _ hk
    simp [madeCells, hm]

/-- 'make([]T, n)' -/
theorem wpList_make_any {ops : Array Oper} {rest : List Oper} {o : Oper} {a : Act} {Q : Exit → Act → World → Prop} {W : World} (hg : o.guard = none) (l c : Operand) (t : TypeId) (hop : o.op = Op.makeSlice t l c)
    (e : TypeId) (z : Value) (size bytes : Nat) (ht : P.underlying t = some (.slice e)) (hi : (P.info? e).map (fun i => (i.zero, i.size, i.bytes)) = some (some z, size, bytes)) (n : Nat) (hl : a.eval l = .int .i64 (n : Int)) (hc : a.eval c = .int .i64 (n : Int))
    (hb : bytes * n ≤ 281474976710656) (h63 : n ≤ maxLen)
    (hK : wpList P ops Q rest (a.put o.dst (.slice (some ⟨W.heap.size, 0, none⟩) n n)) (W.alloc (.cells (madeCells z.cells (n * size)) e))) : wpList P ops Q (o :: rest) a W := by
  obtain ⟨i, hi', hz, hs, hby⟩ := info_parts hi
  subst hs; subst hby
  have h63' : (n : Int) ≤ 9223372036854775807 := by have h := h63; simp [maxLen] at h; omega
  have hb' : (i.bytes : Int) * (n : Int) ≤ 281474976710656 := by
    have h : ((i.bytes * n : Nat) : Int) ≤ 281474976710656 := by omega
    rwa [Int.natCast_mul] at h
  have hr := run_make (P := P) W t e i z ht hi' hz .i64 .i64 n n (by omega) (Int.le_refl _) hb' h63'
  simp only [Int.toNat_natCast] at hr
  refine wpList_run hg (v := .slice (some ⟨W.heap.size, 0, none⟩) n n) (W' := W.alloc (.cells (madeCells z.cells (n * i.size)) e)) ?_ hK
  simp [execOp, hop, hl, hc, hr]

theorem foldl_set (l : List Value) : ∀ (k : Nat) (arr : Array Value), k + l.length ≤ arr.size →
    (l.zipIdx k).foldl (fun cs (x : Value × Nat) => cs.setIfInBounds (0 + x.2) x.1) arr = (arr.toList.take k ++ (l ++ arr.toList.drop (k + l.length))).toArray := by
  induction l with
  | nil => intro k arr _; simp
  | cons v l ih =>
    intro k arr h
    simp only [List.length_cons] at h
    simp only [List.zipIdx_cons, List.foldl_cons]
    rw [ih (k + 1) _ (by simp; omega)]
    congr 1
    have hk : k < arr.toList.length := by simp; omega
    simp only [Nat.zero_add, Array.toList_setIfInBounds]
    rw [List.take_set, List.drop_set_of_lt (by omega)]
    have e : ((arr.toList.take (k + 1)).set k v) = arr.toList.take k ++ [v] := by
      rw [List.take_succ_eq_append_getElem hk, List.set_append_right _ _ (by simp; omega)]
      have hm : min k arr.size = k := by rw [Array.length_toList] at hk; omega
      simp [hm]
    rw [e]
    simp [Nat.add_assoc, Nat.add_comm 1]

theorem fill_one (zero cells : Array Value) (size : Nat) (v : Value) (hv : v.cells = cells) (hs : cells.size = size) (hz : zero.size = size) :
    Instr.fill (fun i => some (i * size, size)) zero [(0, v)] = some cells := by
  subst hv
  subst hs
  have hf := foldl_set v.cells.toList 0 zero (by simp [hz])
  have e : v.cells.zipIdx.foldl (fun cs (x : Value × Nat) => cs.setIfInBounds (0 + x.2) x.1) zero = v.cells := by
    rw [← Array.foldl_toList, Array.toList_zipIdx, hf]
    apply Array.ext'
    simp [hz]
  simp only [Instr.fill, Nat.zero_mul]
  rw [if_neg (by simp [hz])]
  simpa using e

/-- '[]T{v}' -/
theorem run_buildSlice_one (W : World) (t e : TypeId) (z v : Value) (cells : Array Value) (size bytes : Nat) (hv : v.cells = cells) (hs : cells.size = size) (h0 : 0 < size) (h1 : size ≤ 16777216)
    (hu : P.underlying t = some (.slice e)) (hi : (P.info? e).map (fun i => (i.zero, i.size, i.bytes)) = some (some z, size, bytes)) :
    (Instr.buildSlice t 1 #[(0, v)]).run P W = .ok (.slice (some ⟨W.heap.size, 0, none⟩) 1 1) (W.alloc (.cells cells e)) := by
  obtain ⟨i, hi', hz, hsz, hby⟩ := info_parts hi
  have hf := fill_one ((Array.range size).map (z.cells[· % z.cells.size]!)) cells size v hv hs (by simp)
  have h2 : ¬ 2 ^ 24 < size := by omega
  have h3 : ¬ size = 0 := by omega
  simp [Instr.buildSlice, run_underlying hu, sizeOf, typeInfo, hi', hsz, h2, h3, zeroValue, hz, hf, newRow]

theorem exec_buildSlice_one {ρ : Operand → Value} {o : Oper} {t : TypeId} {x : Operand} (ho : o.op = .buildSlice t 1 #[(0, x)]) {W W' : World} {v r : Value} (hx : ρ x = v) (h : (Instr.buildSlice t 1 #[(0, v)]).run P W = .ok r W') :
    (execOp ρ o).run P W = .ok (.value r) W' := by
  simp [execOp, ho, hx, h]

/-- an append, its run known -/
theorem exec_append {ρ : Operand → Value} {o : Oper} {t t' : TypeId} {s x : Operand} (ho : o.op = .call { callee := .builtin .append, args := #[s, x], argTypes := #[t, t'] }) {W W' : World} {vs vx r : Value} (hs : ρ s = vs) (hx : ρ x = vx)
    (h : (Builtin.append_ #[t, t'] o.type #[vs, vx]).run P W = .ok r W') : (execOp ρ o).run P W = .ok (.value r) W' := by
  simp [execOp, ho, resolve, invoke, builtin, hs, hx, h]

theorem exec_copy {ρ : Operand → Value} {o : Oper} {t t' : TypeId} {s x : Operand} (ho : o.op = .call { callee := .builtin .copy, args := #[s, x], argTypes := #[t, t'] }) {W W' : World} {vs vx r : Value} (hs : ρ s = vs) (hx : ρ x = vx)
    (h : (Builtin.copy_ #[t, t'] o.type #[vs, vx]).run P W = .ok r W') : (execOp ρ o).run P W = .ok (.value r) W' := by
  simp [execOp, ho, resolve, invoke, builtin, hs, hx, h]

theorem exec_store {ρ : Operand → Value} {o : Oper} {T : TypeId} {x y : Operand} (ho : o.op = .store T x y) {W W' : World} {p v : Value} (hx : ρ x = p) (hy : ρ y = v) (h : (Instr.storeAt T p v).run P W = .ok () W') :
    (execOp ρ o).run P W = .ok .skip W' := by
  simp [execOp, ho, hx, hy, h]

theorem run_store_one (W : World) (a : Addr) (v u : Value) (T : TypeId) (hv : v.cells = #[v]) (h1 : v.oneCell' = true) (hi : (P.info? T).map (·.size) = some 1) (hc : W.cell? a = some u) (hf : W.frozen? a = false) :
    (Instr.storeAt T (.pointer (some a)) v).run P W = .ok () (W.setCell a v) := by
  cases hq : P.info? T with
  | none => simp [hq] at hi
  | some i =>
    have hs : i.size = 1 := by simpa [hq] using hi
    have hst := run_store P W a v .plain h1
    rw [hc] at hst
    simp only [hf, Bool.false_eq_true, if_false] at hst
    simp [Instr.storeAt, Instr.sureAddr, storeVar, Sem.run_bind, sizeOf, typeInfo, hq, hs, hv, storeCells, Addr.add, hst]

/-- 'copy(dst, s)', s a string, dst in a known block -/
theorem wpList_copy_string {ops : Array Oper} {rest : List Oper} {a : Act} {Q : Exit → Act → World → Prop} {W : World} {dst : Option Tmp} {x y : Operand} {dT sT ty : TypeId} {pos : String} {after : Array Edge}
    (elem : TypeId) (b o dLen dCap m : Nat) (s : ByteArray) (t : TypeId) (cur : List Value) (hu : P.underlying dT = some (.slice elem)) (hs : (P.info? elem).map (·.size) = some 1)
    (hb : W.heap[b]? = some (.cells cur.toArray t (0, 0))) (hm : Nat.min s.size dLen = m) (hfit : o + m ≤ cur.length) (hx : a.eval x = .slice (some ⟨b, o, none⟩) dLen dCap) (hy : a.eval y = .string s)
    (hK : wpList P ops Q rest (a.put dst (goInt m)) (W.setRow b (laid cur o (bvs (s.data.toList.take m))).toArray)) :
    wpList P ops Q ({ dst := dst, op := .call { callee := .builtin .copy, args := #[x, y], argTypes := #[dT, sT] }, type := ty, pos := pos, after := after, guard := none } :: rest) a W :=
  wpList_run rfl (exec_copy rfl hx hy (run_copy_string W dT sT ty elem b o dLen dCap m s t cur hu hs hb hm hfit)) hK

theorem exec_convert {ρ : Operand → Value} {o : Oper} {src dst : TypeId} {x : Operand} (ho : o.op = .convert src dst x) {W W' : World} {v r : Value} (hx : ρ x = v) (h : (convert src dst v).run P W = .ok r W') :
    (execOp ρ o).run P W = .ok (.value r) W' := by
  simp [execOp, ho, hx, h]

/-- a slice literal of bytes (any number), its parts read already -/
theorem run_buildSlice_flat (W : World) (t e : TypeId) (z : Value) (bytes n : Nat) (cs : List Value) (hn : cs.length = n) (h1 : ∀ v ∈ cs, v.cells = #[v]) (hu : P.underlying t = some (.slice e))
    (hi : (P.info? e).map (fun i => (i.zero, i.size, i.bytes)) = some (some z, 1, bytes)) (h0 : 0 < n) (hb : n ≤ 2 ^ 24) :
    (Instr.buildSlice t n ((cs.zipIdx 0).map fun x => (x.2, x.1)).toArray).run P W = .ok (.slice (some ⟨W.heap.size, 0, none⟩) n n) (W.alloc (.cells cs.toArray e)) := by
  obtain ⟨i, hi', hz, hsz, hby⟩ := info_parts hi
  refine run_buildSlice W t e n _ _ i z hu hi' hz (by rw [hsz]; omega) (by rw [hsz]; omega) ?_
  rw [hsz]
  exact Great.fill_flat _ _ h1 (by simp [hn])

theorem bvs_cells (l : List UInt8) : ∀ v ∈ bvs l, v.cells = #[v] := by
  intro v hv; obtain ⟨_, _, rfl⟩ := List.mem_map.1 hv; rfl

theorem exec_buildSlice {ρ : Operand → Value} {o : Oper} {t : TypeId} {n : Nat} {xs : Array (Nat × Operand)} {parts : Array (Nat × Value)} (ho : o.op = .buildSlice t n xs) {W W' : World} {r : Value} (hx : (xs.map fun (i, x) => (i, ρ x)) = parts) (h : (Instr.buildSlice t n parts).run P W = .ok r W') :
    (execOp ρ o).run P W = .ok (.value r) W' := by
  subst hx
  simp [execOp, ho, h]

/-- 'string(b)', b in a known block -/
theorem wpList_bytes_string {ops : Array Oper} {rest : List Oper} {a : Act} {Q : Exit → Act → World → Prop} {W : World} {dst : Option Tmp} {x : Operand} {src dT ty : TypeId} {pos : String} {after : Array Edge}
    (e : TypeId) (b o len cap : Nat) (l : List UInt8) (hs : P.underlying src = some (.slice e)) (he : P.underlying e = some (.int .u8)) (hd : P.underlying dT = some .string) (hl : l.length = len) (h : Has W b o (bvs l))
    (hx : a.eval x = .slice (some ⟨b, o, none⟩) len cap) (hK : wpList P ops Q rest (a.put dst (.string ⟨l.toArray⟩)) W) :
    wpList P ops Q ({ dst := dst, op := .convert src dT x, type := ty, pos := pos, after := after, guard := none } :: rest) a W :=
  wpList_run rfl (exec_convert rfl hx (run_bytes_string W src dT e b o len cap l hs he hd hl h)) hK

/-- a literal of bytes -/
theorem wpList_buildSlice_bytes {ops : Array Oper} {rest : List Oper} {a : Act} {Q : Exit → Act → World → Prop} {W : World} {dst : Option Tmp} {t ty : TypeId} {n : Nat} {xs : Array (Nat × Operand)} {pos : String} {after : Array Edge}
    (e : TypeId) (z : Value) (bytes : Nat) (l : List UInt8) (hn : l.length = n) (hu : P.underlying t = some (.slice e)) (hi : (P.info? e).map (fun i => (i.zero, i.size, i.bytes)) = some (some z, 1, bytes)) (h0 : 0 < n) (hb : n ≤ 2 ^ 24)
    (hx : (xs.map fun (i, x) => (i, a.eval x)) = (((bvs l).zipIdx 0).map fun x => (x.2, x.1)).toArray)
    (hK : wpList P ops Q rest (a.put dst (.slice (some ⟨W.heap.size, 0, none⟩) n n)) (W.alloc (.cells (bvs l).toArray e))) :
    wpList P ops Q ({ dst := dst, op := .buildSlice t n xs, type := ty, pos := pos, after := after, guard := none } :: rest) a W :=
  wpList_run rfl (exec_buildSlice rfl hx (run_buildSlice_flat W t e z bytes n (bvs l) (by rw [length_bvs, hn]) (bvs_cells l) hu hi h0 hb)) hK

/-- 'copy(dst, src)' of bytes between two known blocks -/
theorem wpList_copy_row' {ops : Array Oper} {rest : List Oper} {a : Act} {Q : Exit → Act → World → Prop} {W : World} {dst : Option Tmp} {x y : Operand} {dT sT ty : TypeId} {pos : String} {after : Array Edge}
    (elem : TypeId) (b o dLen dCap b' o' sLen sCap : Nat) (t : TypeId) (cur cs : List Value) (hu : P.underlying dT = some (.slice elem)) (hs : (P.info? elem).map (·.size) = some 1)
    (hb : W.heap[b]? = some (.cells cur.toArray t (0, 0))) (hn : cs.length = Nat.min sLen dLen) (hsrc : Has W b' o' cs) (hfit : o + cs.length ≤ cur.length) (h1 : ∀ v ∈ cs, v.oneCell' = true)
    (hx : a.eval x = .slice (some ⟨b, o, none⟩) dLen dCap) (hy : a.eval y = .slice (some ⟨b', o', none⟩) sLen sCap)
    (hK : wpList P ops Q rest (a.put dst (goInt cs.length)) (W.setRow b (laid cur o cs).toArray)) :
    wpList P ops Q ({ dst := dst, op := .call { callee := .builtin .copy, args := #[x, y], argTypes := #[dT, sT] }, type := ty, pos := pos, after := after, guard := none } :: rest) a W :=
  wpList_run rfl (exec_copy rfl hx hy (run_copy_row (P := P) W dT sT ty elem b o dLen dCap ⟨b', o', none⟩ sLen sCap cur.toArray t cs hu hs hb hn hsrc.adds (by simpa using hfit) h1)) (by simpa [laid] using hK)

theorem exec_build {ρ : Operand → Value} {o : Oper} {t : TypeId} {x : Operand} (ho : o.op = .build t #[(0, x)]) {W W' : World} {v r : Value} (hx : ρ x = v) (h : (Instr.build t #[(0, v)]).run P W = .ok r W') :
    (execOp ρ o).run P W = .ok (.value r) W' := by
  simp [execOp, ho, hx, h]
theorem exec_alloc {ρ : Operand → Value} {o : Oper} {t : TypeId} (ho : o.op = .alloc t) {W W' : World} {r : Value} (h : (Instr.alloc t true (.tuple #[])).run P W = .ok r W') :
    (execOp ρ o).run P W = .ok (.value r) W' := by
  simp [execOp, ho, h]

/-- a struct of several parts -/
theorem exec_buildN {ρ : Operand → Value} {o : Oper} {t : TypeId} {xs : Array (Nat × Operand)} {parts : Array (Nat × Value)} (ho : o.op = .build t xs) {W W' : World} {r : Value} (hx : (xs.map fun (i, x) => (i, ρ x)) = parts) (h : (Instr.build t parts).run P W = .ok r W') :
    (execOp ρ o).run P W = .ok (.value r) W' := by
  subst hx
  simp [execOp, ho, h]

/-- a whole block is stored, is loaded -/
theorem wpList_store_block {ops : Array Oper} {rest : List Oper} {a : Act} {Q : Exit → Act → World → Prop} {W : World} {dst : Option Tmp} {x y : Operand} {T ty : TypeId} {pos : String} {after : Array Edge}
    (g : Nat) (t : TypeId) (cs cur : List Value) (hi : (P.info? T).map (·.size) = some cs.length) (hb : W.heap[g]? = some (.cells cur.toArray t (0, 0))) (hl : cur.length = cs.length) (h1 : ∀ v ∈ cs, v.oneCell' = true)
    (hx : a.eval x = .pointer (some ⟨g, 0, none⟩)) (hy : a.eval y = .agg cs.toArray) (hK : wpList P ops Q rest (a.put dst undef) (W.setRow g cs.toArray)) :
    wpList P ops Q ({ dst := dst, op := .store T x y, type := ty, pos := pos, after := after, guard := none } :: rest) a W :=
  wpList_store rfl rfl hx hy (by
    have := run_store_part (P := P) W g 0 cs.length t T cur cs hi rfl hb (by omega) h1
    rwa [show laid cur 0 cs = cs from by simp [laid, ← hl]] at this) hK

theorem wpList_load_block {ops : Array Oper} {rest : List Oper} {a : Act} {Q : Exit → Act → World → Prop} {W : World} {dst : Option Tmp} {x : Operand} {T ty : TypeId} {pos : String} {after : Array Edge}
    (g : Nat) (t : TypeId) (cs : List Value) (hu : ∃ d, P.underlying T = some d ∧ (match d with | .struct _ | .array _ _ => true | _ => false) = true) (hi : (P.info? T).map (·.size) = some cs.length)
    (hb : W.heap[g]? = some (.cells cs.toArray t (0, 0))) (hx : a.eval x = .pointer (some ⟨g, 0, none⟩)) (hK : wpList P ops Q rest (a.put dst (.agg cs.toArray)) W) :
    wpList P ops Q ({ dst := dst, op := .load T x, type := ty, pos := pos, after := after, guard := none } :: rest) a W :=
  let ⟨d, hu, hd⟩ := hu
  wpList_load rfl rfl hx (run_load_part W g 0 cs.length cs T d hu (by revert hd; cases d <;> simp) hi rfl (has_of_block' hb (by simp))) hK

theorem wpList_store_part {ops : Array Oper} {rest : List Oper} {a : Act} {Q : Exit → Act → World → Prop} {W : World} {dst : Option Tmp} {x y : Operand} {T ty : TypeId} {pos : String} {after : Array Edge}
    (g o : Nat) (t : TypeId) (cs cur : List Value) (hi : (P.info? T).map (·.size) = some cs.length) (hb : W.heap[g]? = some (.cells cur.toArray t (0, 0))) (hl : o + cs.length ≤ cur.length) (h1 : ∀ v ∈ cs, v.oneCell' = true)
    (hx : a.eval x = .pointer (some ⟨g, o, none⟩)) (hy : a.eval y = .agg cs.toArray) (hK : wpList P ops Q rest (a.put dst undef) (W.setRow g (laid cur o cs).toArray)) :
    wpList P ops Q ({ dst := dst, op := .store T x y, type := ty, pos := pos, after := after, guard := none } :: rest) a W :=
  wpList_store rfl rfl hx hy (run_store_part (P := P) W g o cs.length t T cur cs hi rfl hb hl h1) hK

theorem wpList_buildSlice_agg {ops : Array Oper} {rest : List Oper} {a : Act} {Q : Exit → Act → World → Prop} {W : World} {dst : Option Tmp} {t ty : TypeId} {x : Operand} {pos : String} {after : Array Edge}
    (e : TypeId) (z v : Value) (cells : Array Value) (size bytes : Nat) (hv : v.cells = cells) (hs : cells.size = size) (h0 : 0 < size) (h1 : size ≤ 16777216) (hu : P.underlying t = some (.slice e))
    (hi : (P.info? e).map (fun i => (i.zero, i.size, i.bytes)) = some (some z, size, bytes)) (hx : a.eval x = v) (hK : wpList P ops Q rest (a.put dst (.slice (some ⟨W.heap.size, 0, none⟩) 1 1)) (W.alloc (.cells cells e))) :
    wpList P ops Q ({ dst := dst, op := .buildSlice t 1 #[(0, x)], type := ty, pos := pos, after := after, guard := none } :: rest) a W :=
  wpList_run rfl (exec_buildSlice_one rfl hx (run_buildSlice_one W t e z v cells size bytes hv hs h0 h1 hu hi)) hK

theorem wpList_append_run {ops : Array Oper} {rest : List Oper} {a : Act} {Q : Exit → Act → World → Prop} {W W' : World} {dst : Option Tmp} {t t' ty : TypeId} {x y : Operand} {pos : String} {after : Array Edge}
    (vs vx r : Value) (h : (Builtin.append_ #[t, t'] ty #[vs, vx]).run P W = .ok r W') (hs : a.eval x = vs) (hx : a.eval y = vx) (hK : wpList P ops Q rest (a.put dst r) W') :
    wpList P ops Q ({ dst := dst, op := .call { callee := .builtin .append, args := #[x, y], argTypes := #[t, t'] }, type := ty, pos := pos, after := after, guard := none } :: rest) a W :=
  wpList_run rfl (exec_append rfl hs hx h) hK

end Go.Proofs.YtlgefjcfnnjkbaaDoor
/- A disk as plain data: what each call makes of it. No program, no conditions. -/
namespace Go.Proofs.YtlgefjcfnnjkbaaDoor
set_option maxRecDepth 100000

/-- A disk: what is kept, what is pending, whether power is about to go, how many calls there are ahead of that. -/
structure D where
  kept : List (List UInt8)
  pend : List (Nat × List UInt8)
  cut : Bool
  left : Nat

def noughts : List UInt8 := List.replicate 64 0

def layK (kept : List (List UInt8)) (x : Nat × List UInt8) : List (List UInt8) := kept.set x.1 x.2

namespace D
def new (n : Nat) : D := ⟨List.replicate n noughts, [], false, 0⟩
def power (d : D) : Bool := !d.cut || d.left != 0
def spent (d : D) : D := if d.cut then { d with left := d.left - 1 } else d
/-- behind one more call of Write or Sync -/
def paid (d : D) : D := if d.power then d.spent else d
def there (d : D) (k : Nat) : List UInt8 := ((d.pend.reverse.find? (fun x => x.1 == k)).map (·.2)).getD (d.kept.getD k [])
def write (d : D) (k : Nat) (s : List UInt8) : D := { d.spent with pend := d.pend ++ [(k, s)] }
def layAll (d : D) (ks : List Nat) : List (List UInt8) := ks.foldl (fun kept k => layK kept (d.pend.getD k (0, []))) d.kept
def sync (d : D) : D := { d.spent with kept := d.layAll (List.range d.pend.length), pend := [] }
def crash (d : D) (ks : List Nat) : D := { kept := d.layAll ks, pend := [], cut := false, left := 0 }
def rot (d : D) (k place mask : Nat) : D := { d with kept := d.kept.set k ((d.kept.getD k []).set place ((d.kept.getD k []).getD place 0 ^^^ UInt8.ofNat mask)) }
def cutAt (d : D) (n : Nat) : D := { d with cut := true, left := n }

/-- what holds of each disk that calls made -/
structure Ok (d : D) : Prop where
  len : ∀ x ∈ d.kept, x.length = 64
  plen : ∀ x ∈ d.pend, x.2.length = 64 ∧ x.1 < d.kept.length
  many : d.kept.length ≤ 768
  leftLe : (d.left : Int) ≤ 9223372036854775807

theorem spent_kept (d : D) : d.spent.kept = d.kept := by unfold spent; split <;> rfl
theorem spent_pend (d : D) : d.spent.pend = d.pend := by unfold spent; split <;> rfl
theorem spent_cut (d : D) : d.spent.cut = d.cut := by unfold spent; split <;> rfl
theorem spent_left_le (d : D) : d.spent.left ≤ d.left := by unfold spent; split <;> simp

theorem paid_yes {d : D} (h : d.power = true) : d.paid = d.spent := by simp [paid, h]
theorem paid_no {d : D} (h : d.power = false) : d.paid = d := by simp [paid, h]
theorem new_ok (n : Nat) (h : n ≤ 768) : (D.new n).Ok :=
  ⟨fun x hx => by rw [List.eq_of_mem_replicate hx]; simp [noughts], fun x hx => (by simp [new] at hx), by simpa [new] using h, by simp [new]⟩
theorem Ok.spent {d : D} (h : d.Ok) : d.spent.Ok :=
  ⟨by rw [spent_kept]; exact h.len, by rw [spent_kept, spent_pend]; exact h.plen, by rw [spent_kept]; exact h.many, by have := spent_left_le d; have := h.leftLe; omega⟩
theorem Ok.write {d : D} (h : d.Ok) {k : Nat} {s : List UInt8} (hk : k < d.kept.length) (hs : s.length = 64) : (d.write k s).Ok :=
  ⟨by simp only [D.write, spent_kept]; exact h.len, by
    simp only [D.write, spent_kept]
    intro x hx
    rcases List.mem_append.1 hx with hx | hx
    · exact h.plen x hx
    · rw [List.mem_singleton.1 hx]; exact ⟨hs, hk⟩, by simp only [D.write, spent_kept]; exact h.many, h.spent.leftLe⟩

theorem layK_length (kept : List (List UInt8)) (x : Nat × List UInt8) : (layK kept x).length = kept.length := by simp [layK]

theorem layAll_length (d : D) (ks : List Nat) : (d.layAll ks).length = d.kept.length := by
  unfold layAll
  generalize d.kept = kept
  induction ks generalizing kept with
  | nil => rfl
  | cons k ks ih => simp only [List.foldl_cons]; rw [ih, layK_length]

theorem layAll_len {d : D} (h : d.Ok) (ks : List Nat) (hk : ∀ k ∈ ks, k < d.pend.length) : ∀ x ∈ d.layAll ks, x.length = 64 := by
  unfold layAll
  have key : ∀ (ks : List Nat) (kept : List (List UInt8)), (∀ k ∈ ks, k < d.pend.length) → (∀ x ∈ kept, x.length = 64) → ∀ x ∈ ks.foldl (fun kept k => layK kept (d.pend.getD k (0, []))) kept, x.length = 64 := by
    intro ks
    induction ks with
    | nil => intro kept _ h x hx; exact h x hx
    | cons k ks ih =>
      intro kept hk hl
      refine ih _ (fun j hj => hk j (List.mem_cons_of_mem _ hj)) ?_
      intro x hx
      have hkl := hk k (List.mem_cons_self)
      rcases List.mem_or_eq_of_mem_set hx with hx | hx
      · exact hl x hx
      · rw [hx]
        have : d.pend.getD k (0, []) = d.pend[k] := by simp [hkl]
        rw [this]
        exact (h.plen _ (List.getElem_mem hkl)).1
  exact key ks d.kept hk h.len

theorem Ok.sync {d : D} (h : d.Ok) : d.sync.Ok :=
  ⟨layAll_len h _ (fun k hk => List.mem_range.1 hk), fun x hx => (by simp [D.sync] at hx), by simp only [D.sync, layAll_length]; exact h.many, h.spent.leftLe⟩
theorem Ok.crash {d : D} (h : d.Ok) {ks : List Nat} (hk : ∀ k ∈ ks, k < d.pend.length) : (d.crash ks).Ok :=
  ⟨layAll_len h _ hk, fun x hx => (by simp [D.crash] at hx), by simp only [D.crash, layAll_length]; exact h.many, by simp [D.crash]⟩
theorem Ok.rot {d : D} (h : d.Ok) (k p m : Nat) (hk : k < d.kept.length) : (d.rot k p m).Ok :=
  ⟨by
    intro x hx
    rcases List.mem_or_eq_of_mem_set hx with hx | hx
    · exact h.len x hx
    · rw [hx, List.length_set]
      have : d.kept.getD k [] = d.kept[k] := by simp [hk]
      rw [this]; exact h.len _ (List.getElem_mem hk), by simp only [D.rot, List.length_set]; exact h.plen, by simp only [D.rot, List.length_set]; exact h.many, h.leftLe⟩
theorem Ok.cutAt {d : D} (h : d.Ok) (n : Nat) (hn : (n : Int) ≤ 9223372036854775807) : (d.cutAt n).Ok := ⟨h.len, h.plen, h.many, hn⟩

theorem there_len {d : D} (h : d.Ok) {k : Nat} (hk : k < d.kept.length) : (d.there k).length = 64 := by
  unfold there
  cases hf : d.pend.reverse.find? (fun x => x.1 == k) with
  | none =>
    have : d.kept.getD k [] = d.kept[k] := by simp [hk]
    simp only [Option.map_none, Option.getD_none, this]
    exact h.len _ (List.getElem_mem hk)
  | some x =>
    have := List.mem_of_find?_eq_some hf
    simp only [Option.map_some, Option.getD_some]
    exact (h.plen x (by simpa using this)).1
end D
end Go.Proofs.YtlgefjcfnnjkbaaDoor
/- The functions of package disk: what each call makes of a disk's blocks. No conditions. -/
namespace Go.Proofs.YtlgefjcfnnjkbaaDoor
set_option maxRecDepth 100000
open Go.RowKit

def rowsOf (l : List (List UInt8)) : List Value := bvs l.flatten
def pendCells (l : List (Nat × List UInt8)) : List Value := (l.map fun x => Value.int .i64 (x.1 : Int) :: bvs x.2).flatten
def headOf (kb : Nat) (pv : Value) (d : D) : Array Value := #[.slice (some ⟨kb, 0, none⟩) d.kept.length d.kept.length, pv, .bool d.cut, .int .i64 (d.left : Int)]

/-- The disk d lies in the world w at block p: its sectors in block kb, its pending writes behind the value pv. -/
structure DAt (w : World) (p kb : Nat) (pv : Value) (d : D) : Prop where
  head : w.heap[p]? = some (.cells (headOf kb pv d) 54 (0, 0))
  rows : w.heap[kb]? = some (.cells (rowsOf d.kept).toArray 123 (0, 0))
  pend : w.ownsRow 0 125 65 pv d.pend.length (pendCells d.pend)
  ok : d.Ok

/-- the blocks of a disk -/
def fp (p kb : Nat) (pv : Value) : Nat → Prop := fun k => k = p ∨ k = kb ∨ pv.ownBlock = some k

section
variable {w : World} {p kb : Nat} {pv : Value} {d : D} (h : DAt w p kb pv d)
include h
theorem DAt.c0 : w.cell? ⟨p, 0, none⟩ = some (.slice (some ⟨kb, 0, none⟩) d.kept.length d.kept.length) := by rw [cell_at h.head]; rfl
theorem DAt.c1 : w.cell? ⟨p, 1, none⟩ = some pv := by rw [cell_at h.head]; rfl
theorem DAt.c2 : w.cell? ⟨p, 2, none⟩ = some (.bool d.cut) := by rw [cell_at h.head]; rfl
theorem DAt.c3 : w.cell? ⟨p, 3, none⟩ = some (.int .i64 (d.left : Int)) := by rw [cell_at h.head]; rfl
theorem DAt.f (i : Nat) : w.frozen? ⟨p, i, none⟩ = false := free_at h.head i
theorem DAt.p_lt : p < w.heap.size := lt_of_block h.head
theorem DAt.kb_lt : kb < w.heap.size := lt_of_block h.rows
theorem DAt.kb_ne : kb ≠ p := by
  intro e; have := h.head; rw [← e, h.rows] at this; simp at this
theorem DAt.pv_shape : (pv = .slice none 0 0 ∧ d.pend = []) ∨ ∃ g cap cur, pv = .slice (some ⟨g, 0, none⟩) d.pend.length cap ∧ g ≠ p ∧ g ≠ kb ∧ w.heap[g]? = some (.cells cur 125 (0, 0)) ∧ d.pend.length ≤ cap ∧ cap ≤ maxLen ∧ cur.size = cap * 65 ∧ cur.toList.take (d.pend.length * 65) = pendCells d.pend := by
  rcases h.pend.2 with ⟨e, hn⟩ | ⟨g, cap, cur, e, _, hg, r⟩
  · exact .inl ⟨e, List.eq_nil_of_length_eq_zero hn⟩
  · refine .inr ⟨g, cap, cur, e, ?_, ?_, hg, r⟩
    · intro e; have := h.head; rw [← e, hg] at this; simp at this
    · intro e; have := h.rows; rw [← e, hg] at this; simp at this
theorem DAt.pv_slice : ∃ ao cap, pv = .slice ao d.pend.length cap ∧ d.pend.length ≤ 9223372036854775807 := by
  rcases h.pv_shape with ⟨rfl, hz⟩ | ⟨g, cap, cur, rfl, _, _, _, h1, h2, _⟩
  · exact ⟨none, 0, by rw [hz]; rfl, by rw [hz]; simp⟩
  · exact ⟨_, _, rfl, by unfold maxLen at h2; omega⟩
theorem DAt.pv_ne : pv.ownBlock ≠ some p ∧ pv.ownBlock ≠ some kb := by
  rcases h.pv_shape with ⟨rfl, _⟩ | ⟨g, cap, cur, rfl, h1, h2, _⟩
  · simp [Value.ownBlock]
  · simp [Value.ownBlock, h1, h2]
theorem DAt.fp_lt : ∀ k, fp p kb pv k → k < w.heap.size := by
  rintro k (rfl | rfl | e)
  · exact h.p_lt
  · exact h.kb_lt
  · exact (h.pend.lt k e).2
/-- what turns other blocks leaves the disk as it is -/
theorem DAt.only {w' : World} {S : Nat → Prop} (ho : Only S w w') (hs : ∀ k, fp p kb pv k → ¬ S k) : DAt w' p kb pv d :=
  ⟨ho.keep h.head (hs p (.inl rfl)), ho.keep h.rows (hs kb (.inr (.inl rfl))), ownsRow_only h.pend ho (fun k e => hs k (.inr (.inr e))), h.ok⟩
/-- a store into the head -/
theorem DAt.setHead (i : Nat) (v : Value) {d' : D} (hk : d'.kept = d.kept) (hp : d'.pend = d.pend) (ho : d'.Ok) (hc : (headOf kb pv d).setIfInBounds i v = headOf kb pv d') : DAt (w.setCell ⟨p, i, none⟩ v) p kb pv d' := by
  refine ⟨?_, ?_, ?_, ho⟩
  · rw [heap_setCell_same w p i _ _ v h.head, hc]
  · rw [Below.heap_setCell _ _ _ _ h.kb_ne, hk]; exact h.rows
  · rw [hp]; exact ownsRow_setCell_other h.pend h.pv_ne.1 v
end

set_option maxHeartbeats 1000000 in
theorem has_any (w : World) (p kb : Nat) (pv : Value) (d : D) (k : Int) (hd : DAt w p kb pv d) :
    Calls Tryd.prog 59 #[.pointer (some ⟨p, 0, none⟩), .int .i64 k] w fun e w' => e = .returned (.bool (decide (0 ≤ k ∧ k < d.kept.length))) ∧ w = w' := by
  have c0 := hd.c0
  go_enter Tryd.func59, Tryd.ntmps59
  go_wp2
  · go_ret
    have h0 : 0 ≤ k := by assumption
    exact ⟨by simp [h0], rfl⟩
  · go_ret
    have h0 : k < 0 := by assumption
    exact ⟨by simp; omega, rfl⟩

set_option maxHeartbeats 1000000 in
theorem power_any (w : World) (p kb : Nat) (pv : Value) (d : D) (hd : DAt w p kb pv d) :
    Calls Tryd.prog 48 #[.pointer (some ⟨p, 0, none⟩)] w fun e w' => e = .returned (.bool d.power) ∧ DAt w' p kb pv d.paid ∧ Only (fun k => k = p) w w' ∧ w'.heap.size = w.heap.size := by
  have c2 := hd.c2
  have c3 := hd.c3
  have f3 := hd.f 3
  have hl := hd.ok.leftLe
  cases hc : d.cut with
  | false =>
    rw [hc] at c2
    have hp : d.power = true := by simp [D.power, hc]
    have HC := Lib.hid hc
    clear hc
    go_enter Tryd.func48, Tryd.ntmps48
    go_wp2
    go_ret
    exact ⟨by rw [hp]; rfl, by simpa [D.paid, D.spent, hp, HC.out] using hd, Only.refl _ _, rfl⟩
  | true =>
    rw [hc] at c2
    by_cases h0 : d.left = 0
    · have hp : d.power = false := by simp [D.power, hc, h0]
      clear c3
      have c3 : w.cell? ⟨p, 3, none⟩ = some (.int .i64 0) := by rw [hd.c3, h0]; rfl
      have HC := Lib.hid hc
      have H0 := Lib.hid h0
      clear hc h0
      go_enter Tryd.func48, Tryd.ntmps48
      go_wp2
      go_ret
      exact ⟨by rw [hp]; rfl, by rw [D.paid_no hp]; exact hd, Only.refl _ _, rfl⟩
    · have hp : d.power = true := by simp [D.power, hc, h0]
      have hb : ((d.left : Int) == 0) = false := by simp; omega
      have hs : ((d.left : Int) - 1) = ((d.left - 1 : Nat) : Int) := by omega
      have HS := Lib.hid hs
      have HC := Lib.hid hc
      clear hc hs
      go_enter Tryd.func48, Tryd.ntmps48
      go_wp2
      go_ret
      refine ⟨by rw [hp]; rfl, ?_, Only.one _ _ _ _, by simp⟩
      rw [D.paid_yes hp, HS.out]
      exact hd.setHead 3 _ (D.spent_kept d) (D.spent_pend d) hd.ok.spent (by simp [headOf, D.spent, HC.out])

set_option maxHeartbeats 1000000 in
theorem size_any (w : World) (p kb : Nat) (pv : Value) (d : D) (hd : DAt w p kb pv d) :
    Calls Tryd.prog 16 #[.pointer (some ⟨p, 0, none⟩)] w fun e w' => e = .returned (.int .i64 (d.kept.length : Int)) ∧ w = w' := by
  have c0 := hd.c0
  have hm := hd.ok.many
  clear hd
  go_enter Tryd.func16, Tryd.ntmps16
  go_wp2
  go_ret
  exact ⟨rfl, rfl⟩

end Go.Proofs.YtlgefjcfnnjkbaaDoor
