/- Parts of the proof, one behind the other: LogG, LogP, LogH. Each part's own words say what it proves; no conditions. -/
import Derived.Test.YtlgefjcfnnjkbaaDoorP07
import Derived.Test.YtlgefjcfnnjkbaaDoorP08
set_option linter.unusedVariables false
set_option linter.unusedSimpArgs false
set_option linter.unusedSectionVars false
/- What is sound of a segment. No conditions. -/
namespace Go.Proofs.YtlgefjcfnnjkbaaDoor
set_option maxRecDepth 100000
open Go.RowKit Go.Shelf
attribute [local go_sem] Oper.semAt_some

theorem blk_own {β : Type} (b : Nat) (cs : β → Array Value) (t : TypeId) : Own (fun (x : β) W => W.heap[b]? = some (.cells (cs x) t (0, 0))) := fun _ _ _ _ hs hg hr => (grownBy_keeps_cells hg hr hs rfl).trans hs
theorem frAt_zero {d : D} {per seg k : Nat} (h : readF (d.there (seg * per + k)) = none) : frAt d per seg k = zeroFr := by unfold frAt frOf; rw [h]

def frCells (f : Fr) : Array Value := #[.int .i64 f.e, .int .i64 f.a, .int .i64 f.k, .string ⟨f.s.toArray⟩]
/-- between two rounds of sound -/
def SndI (B gb : Nat) (seg epoch : Int) (bad : Nat → Bool) (a m : Nat) (pre : List (Fin m)) (W : World) : Prop :=
  (∀ x ∈ pre, bad (a + x.val) = false) ∧ W.heap[B]? = some (.cells #[.pointer (some ⟨gb, 0, none⟩)] 82 (0, 0)) ∧ W.heap[B + 1]? = some (.cells #[.int .i64 seg] 3 (0, 0)) ∧ W.heap[B + 2]? = some (.cells #[.int .i64 epoch] 3 (0, 0)) ∧ W.heap[B + 3]? = some (.cells #[.nilIface] 66 (0, 0))
def SndX (B per seg : Nat) (bad : Nat → Bool) (a m : Nat) (c : Code) (pre : List (Fin m)) (W : World) : Prop :=
  c = .ret ∧ ∃ (pre' : List (Fin m)) (x : Fin m) (rb : Nat), pre = pre' ++ [x] ∧ (∀ y ∈ pre', bad (a + y.val) = false) ∧ bad (a + x.val) = true ∧ B ≤ rb ∧
    W.heap[B + 3]? = some (.cells #[.iface 69 (.pointer (some ⟨rb, 0, none⟩))] 66 (0, 0)) ∧ W.heap[rb]? = some (.cells #[.int .i64 ((seg * per + (a + x.val) : Nat) : Int)] 73 (0, 0))
theorem sndI_own (B gb : Nat) (seg epoch : Int) (bad : Nat → Bool) (a m : Nat) : Own (SndI B gb seg epoch bad a m) := fun _ _ _ _ hs hg hr =>
  ⟨hs.1, (grownBy_keeps_cells hg hr hs.2.1 rfl).trans hs.2.1, (grownBy_keeps_cells hg hr hs.2.2.1 rfl).trans hs.2.2.1, (grownBy_keeps_cells hg hr hs.2.2.2.1 rfl).trans hs.2.2.2.1, (grownBy_keeps_cells hg hr hs.2.2.2.2 rfl).trans hs.2.2.2.2⟩
theorem SndI.only {B gb : Nat} {seg epoch : Int} {bad : Nat → Bool} {a m : Nat} {pre : List (Fin m)} {W W' : World} (h : SndI B gb seg epoch bad a m pre W) (ho : Only (fun _ => False) W W') : SndI B gb seg epoch bad a m pre W' := ⟨h.1, ho.keep h.2.1 id, ho.keep h.2.2.1 id, ho.keep h.2.2.2.1 id, ho.keep h.2.2.2.2 id⟩
theorem sndX_own (B per seg : Nat) (bad : Nat → Bool) (a m : Nat) (c : Code) : Own (SndX B per seg bad a m c) := fun _ _ _ _ hs hg hr => by
  obtain ⟨h0, pre', x, rb, h1, h2, h3, h4, h5, h6⟩ := hs
  exact ⟨h0, pre', x, rb, h1, h2, h3, h4, (grownBy_keeps_cells hg hr h5 rfl).trans h5, (grownBy_keeps_cells hg hr h6 rfl).trans h6⟩

theorem heap_alloc_any (w : World) (o : Obj) : (w.alloc o).heap[w.heap.size]? = some o := World.alloc_heap_new w o
/-- a frame's variable, as the round has it -/
def FrX (f : Fr) (Bx : Nat) (W : World) : Prop := W.heap[Bx]? = some (.cells (frCells f) 86 (0, 0))

theorem alloc4 (w : World) (o0 o1 o2 o3 : Obj) : (((w.alloc o0).alloc o1).alloc o2 |>.alloc o3).heap.size = w.heap.size + 4 ∧ Only (fun _ => False) w ((((w.alloc o0).alloc o1).alloc o2).alloc o3) ∧
    ((((w.alloc o0).alloc o1).alloc o2).alloc o3).heap[w.heap.size]? = some o0 ∧ ((((w.alloc o0).alloc o1).alloc o2).alloc o3).heap[w.heap.size + 1]? = some o1 ∧ ((((w.alloc o0).alloc o1).alloc o2).alloc o3).heap[w.heap.size + 2]? = some o2 ∧ ((((w.alloc o0).alloc o1).alloc o2).alloc o3).heap[w.heap.size + 3]? = some o3 := by
  have e1 := heap_alloc_any w o0
  have e2 := heap_alloc_any (w.alloc o0) o1
  have e3 := heap_alloc_any ((w.alloc o0).alloc o1) o2
  have e4 := heap_alloc_any (((w.alloc o0).alloc o1).alloc o2) o3
  simp only [World.size_alloc, Nat.add_assoc, Nat.reduceAdd] at e2 e3 e4
  refine ⟨by simp, (((Only.alloc w _ _).trans (Only.alloc _ _ _)).trans (Only.alloc _ _ _)).trans (Only.alloc _ _ _), ?_, ?_, ?_, e4⟩
  · exact (((Only.alloc _ _ (fun _ => False)).trans (Only.alloc _ _ _)).trans (Only.alloc _ _ _)).keep e1 id
  · exact ((Only.alloc _ _ (fun _ => False)).trans (Only.alloc _ _ _)).keep e2 id
  · exact (Only.alloc _ _ (fun _ => False)).keep e3 id
theorem fin_prefix {m : Nat} {pre : List (Fin m)} {x : Fin m} (h : pre ++ [x] <+: List.finRange m) : pre.length = x.val ∧ ∀ i (hi : i < x.val), (⟨i, by omega⟩ : Fin m) ∈ pre := by
  obtain ⟨r, hr⟩ := h
  have hget : ∀ i (hi : i < (List.finRange m).length), (List.finRange m)[i] = ⟨i, by simpa using hi⟩ := fun i hi => by simp
  have hl : pre.length < (List.finRange m).length := by rw [← hr]; simp
  have e1 : (List.finRange m)[pre.length] = x := by simp [← hr]
  rw [hget] at e1
  have hv : pre.length = x.val := by rw [← e1]
  refine ⟨hv, fun i hi => ?_⟩
  have hi2 : i < pre.length := by omega
  have e2 := hget i (by omega)
  have e3 : (List.finRange m)[i]? = some pre[i] := by
    rw [← hr, List.append_assoc, List.getElem?_append_left hi2, List.getElem?_eq_getElem hi2]
  rw [List.getElem?_eq_getElem (by omega), e2] at e3
  rw [Option.some.inj e3]
  exact List.getElem_mem hi2
theorem sound_at {g : Nat → Fr} {e : Int} {a b j : Nat} (hj : j < b - a) (h1 : badAt g e (a + j) = true) (h2 : ∀ i, i < j → badAt g e (a + i) = false) : sound g e a b = some (a + j) := by
  unfold sound
  rw [List.find?_eq_some_iff_getElem]
  refine ⟨h1, j, by simpa using hj, by simp, fun i hi => ?_⟩
  have := h2 i hi
  simp [this]
theorem sound_all {g : Nat → Fr} {e : Int} {a b : Nat} (h : ∀ i, i < b - a → badAt g e (a + i) = false) : sound g e a b = none := by
  unfold sound
  rw [List.find?_eq_none]
  intro k hk
  obtain ⟨i, h1, h2⟩ := List.mem_range'.1 hk
  rw [h2, Nat.one_mul, h i h1]
  simp
theorem good_snoc {m a : Nat} {bad : Nat → Bool} {pre : List (Fin m)} {x : Fin m} (h : ∀ y ∈ pre, bad (a + y.val) = false) (hx : bad (a + x.val) = false) : ∀ y ∈ pre ++ [x], bad (a + y.val) = false := by
  intro y hy
  rcases List.mem_append.1 hy with hy | hy
  · exact h y hy
  · rw [List.mem_singleton] at hy; rw [hy]; exact hx
theorem snd_b3 {W : World} {B : Nat} {t t' : TypeId} {u v : Value} {cs : Array Value} (h : W.heap[B]? = some (.cells #[u] t (0, 0))) : ((W.setCell ⟨B, 0, none⟩ v).alloc (.cells cs t')).heap[B]? = some (.cells #[v] t (0, 0)) :=
  (Only.alloc _ _ (fun _ => False)).keep (heap_setCell_same W B 0 _ _ v h) id
theorem snd_rb (W : World) (B : Nat) (t' : TypeId) (v : Value) (cs : Array Value) : ((W.setCell ⟨B, 0, none⟩ v).alloc (.cells cs t')).heap[W.heap.size]? = some (.cells cs t' (0, 0)) := by
  have := heap_alloc_any (W.setCell ⟨B, 0, none⟩ v) (.cells cs t')
  rwa [World.size_setCell] at this
theorem snd_below {w W : World} {t' : TypeId} {v : Value} {cs : Array Value} (hB : Below w.heap.size w W) : Below w.heap.size w ((W.setCell ⟨w.heap.size + 3, 0, none⟩ v).alloc (.cells cs t')) :=
  (hB.setCell (p := ⟨w.heap.size + 3, 0, none⟩) (by simp) v).alloc (by rw [World.size_setCell]; exact hB.size) _
theorem sec_cast (seg per k : Nat) : ((seg * per + k : Nat) : Int) = (seg : Int) * (per : Int) + (k : Int) := by push_cast; rfl
def SndPost (w : World) (per seg : Nat) (r : Option Nat) (e : Ending) (w' : World) : Prop := (match r with
      | none => e = .returned .nilIface
      | some k => ∃ rb, e = .returned (.iface 69 (.pointer (some ⟨rb, 0, none⟩))) ∧ w.heap.size ≤ rb ∧ w'.heap[rb]? = some (.cells #[.int .i64 ((seg * per + k : Nat) : Int)] 73 (0, 0))) ∧ Only (fun _ => False) w w'

set_option maxHeartbeats 8000000 in
theorem sound_any (w : World) (gb p kb : Nat) (pv : Value) (d : D) (per segs seg : Nat) (epoch : Int) (a b : Nat) (hG : GAt w gb p kb pv d per segs) (hseg : seg < segs) (hb : b ≤ per) (ha : a ≤ 1) :
    Calls Tryd.prog 32 #[.pointer (some ⟨gb, 0, none⟩), .int .i64 (seg : Int), .int .i64 epoch, .int .i64 (a : Int), .int .i64 (b : Int)] w (SndPost w per seg (sound (frAt d per seg) epoch a b)) := by
  have hper4 := hG.per4
  have hper64 := hG.per64
  have hs12 := hG.segs12
  have hlow := hG.low
  obtain ⟨s1, o1, q0, q1, q2, q3⟩ := alloc4 w (.cells #[.pointer (some ⟨gb, 0, none⟩)] 82) (.cells #[.int .i64 (seg : Int)] 3) (.cells #[.int .i64 epoch] 3) (.cells #[.nilIface] 66)
  refine (callsIn_wide (n := 6)).1 (callsIn_of_wp_marks (F := Fence.wide) Tryd.func32 rfl trivial ?_ rfl)
  refine wpIn_wide.2 ?_
  simp only [Tryd.ntmps32, List.size_toArray, List.length_cons, List.length_nil, Nat.reduceAdd, Nat.reduceSub, Array.replicate_succ, Array.replicate_zero, List.push_toArray, List.append_toArray, List.nil_append, List.cons_append]
  have HQ := Lib.hid (⟨q0, q1, q2, q3⟩ : _ ∧ _ ∧ _ ∧ _)
  have HS1 := Lib.hid s1
  clear q0 q1 q2 q3 s1
  go_wp2_with fail
  generalize (((w.alloc (.cells #[.pointer (some ⟨gb, 0, none⟩)] 82)).alloc (.cells #[.int .i64 (seg : Int)] 3)).alloc (.cells #[.int .i64 epoch] 3)).alloc (.cells #[.nilIface] 66) = w1 at o1 HQ HS1 ⊢
  refine (frames_any w1 gb seg a b).mono ?_
  rintro e w2 ⟨rfl, hw2⟩
  have ho2 := frBoxes_only w1 gb (seg : Int) (a : Int) (b : Int)
  have hs2 := frBoxes_size w1 gb (seg : Int) (a : Int) (b : Int)
  obtain ⟨c1, c2, c3, c4⟩ := frBoxes_cells w1 gb (seg : Int) (a : Int) (b : Int)
  rw [← hw2] at ho2 hs2 c1 c2 c3 c4
  clear hw2
  unfold frFn
  go_wp2_with fail
  have hG2 := (hG.only o1).only ho2
  have r0 := ho2.keep HQ.out.1 id
  have r1 := ho2.keep HQ.out.2.1 id
  have r2 := ho2.keep HQ.out.2.2.1 id
  have r3 := ho2.keep HQ.out.2.2.2 id
  have hB2 : Below w.heap.size w w2 := (o1.trans ho2).below (fun _ _ => id)
  have hsz2 : w2.heap.size = w.heap.size + 8 := by rw [hs2, HS1.out]
  have hsz1 := HS1.out
  refine wpIn_wide.1 (wpIn_rangeFunc_ownH (F := Fence.wide) (n := 6) rfl (by decide) (gf := 53) (lb := #[.pointer (some ⟨w1.heap.size + 2, 0, none⟩), .pointer (some ⟨w1.heap.size + 3, 0, none⟩), .pointer (some ⟨w1.heap.size, 0, none⟩), .pointer (some ⟨w1.heap.size + 1, 0, none⟩)]) rfl trivial (enters_of Tryd.func53 (by kernel_rfl) rfl)
    (frames_stops 5 (by decide) w.heap.size w1.heap.size gb p kb pv d per segs seg a (b - a) (b : Int) (by omega) hlow hseg (by omega) w2 (by omega) hG2 c1 c2 c3 c4) kpF_t (kpF_b (by omega)) (Below.refl _ _) (by exact fun _ => rfl)
    (fun pre W => SndI w.heap.size gb seg epoch (badAt (frAt d per seg) epoch) a (b - a) pre W ∧ Below w.heap.size w W)
    (fun c pre W => SndX w.heap.size per seg (badAt (frAt d per seg) epoch) a (b - a) c pre W ∧ Below w.heap.size w W)
    (OwnFrom.and (Own.from (sndI_own _ _ _ _ _ _ _) _) (ownFrom_below (Nat.le_refl _) (by omega)))
    (fun c => OwnFrom.and (Own.from (sndX_own _ _ _ _ _ _ _) _) (ownFrom_below (Nat.le_refl _) (by omega)))
    ⟨⟨by simp, r0, r1, r2, r3⟩, hB2⟩
    (fun x a' W => ∃ Bx, FrX (frAt d per seg (a + x.val)) Bx W ∧ a' = { tmps := #[.pointer (some ⟨gb, 0, none⟩), .int .i64 (seg : Int), .int .i64 epoch, .int .i64 (a : Int), .int .i64 (b : Int), .pointer (some ⟨w.heap.size, 0, none⟩), .pointer (some ⟨w.heap.size + 1, 0, none⟩), .pointer (some ⟨w.heap.size + 1 + 1, 0, none⟩), undef, undef, .pointer (some ⟨w.heap.size + 1 + 1 + 1, 0, none⟩), .int .i64 ((a + x.val : Nat) : Int), .pointer (some ⟨Bx, 0, none⟩), .pointer (some ⟨gb, 0, none⟩), .int .i64 (seg : Int), .int .i64 (a : Int), .int .i64 (b : Int), .func (.func 53) #[] #[.pointer (some ⟨w1.heap.size + 2, 0, none⟩), .pointer (some ⟨w1.heap.size + 3, 0, none⟩), .pointer (some ⟨w1.heap.size, 0, none⟩), .pointer (some ⟨w1.heap.size + 1, 0, none⟩)], .int .i64 ((a + x.val : Nat) : Int), .agg #[.int .i64 (frAt d per seg (a + x.val)).e, .int .i64 (frAt d per seg (a + x.val)).a, .int .i64 (frAt d per seg (a + x.val)).k, .string ⟨(frAt d per seg (a + x.val)).s.toArray⟩], undef, undef, undef, undef, undef, undef, undef, undef, undef, undef, undef, undef, undef, undef, undef, undef, undef, undef, undef], defers := [] })
    (fun x a' _ X Y row hs hg hr => by obtain ⟨Bx, h2, h3⟩ := hs; exact ⟨Bx, (grownBy_keeps_cells hg (fun r e => (hr r e).2) h2 rfl).trans h2, h3⟩)
    ?assign ?body ?done ?stop)
  case assign =>
    rintro l pre x W K ⟨hI, hB⟩ hK
    unfold frEnc
    generalize ((a + x.val : Nat) : Int) = z at hK ⊢
    clear hs2 hsz1 hsz2 c1 c2 c3 c4 r0 r1 r2 r3
    gi_wp2
    have hal := World.alloc_heap_new W (.cells #[.int .i64 (frAt d per seg (a + x.val)).e, .int .i64 (frAt d per seg (a + x.val)).a, .int .i64 (frAt d per seg (a + x.val)).k, .string ⟨(frAt d per seg (a + x.val)).s.toArray⟩] 86)
    exact hK _ _ ((KeepsOthers.alloc _ _).from _) (kpF_only hB.size (Only.alloc _ _ _)) ⟨hI.only (Only.alloc _ _ _), hB.alloc hB.size _⟩ ⟨W.heap.size, hal, rfl⟩
  case body =>
    rintro l pre x a' W hl ⟨r, hr⟩ ⟨hI, hB⟩ ⟨Bx, hX, rfl⟩ hlt
    obtain ⟨hgood, i0, i1, i2, i3⟩ := hI
    have hxl := x.isLt
    obtain ⟨k, hk⟩ : ∃ k, k = a + x.val := ⟨_, rfl⟩
    have hkp : k < per := by omega
    have HGOOD := Lib.hid hgood
    have hbad : Hid (badAt (frAt d per seg) epoch (a + x.val) = ((frAt d per seg k).e != epoch || (decide ((frAt d per seg k).k = 1) != decide (k = 0)))) := Lib.hid (by unfold badAt; rw [← hk])
    rw [← hk] at hX ⊢
    have HK := Lib.hid hk
    clear hk hgood
    generalize hf : frAt d per seg k = f at hX hbad ⊢
    clear hf
    have f0 : W.cell? ⟨Bx, 0, none⟩ = some (.int .i64 f.e) := cell_at hX 0
    have f2 : W.cell? ⟨Bx, 2, none⟩ = some (.int .i64 f.k) := cell_at hX 2
    have e0 : W.cell? ⟨w.heap.size, 0, none⟩ = some (.pointer (some ⟨gb, 0, none⟩)) := cell_at i0 0
    have e1 : W.cell? ⟨w.heap.size + 1, 0, none⟩ = some (.int .i64 (seg : Int)) := cell_at i1 0
    have e2 : W.cell? ⟨w.heap.size + 2, 0, none⟩ = some (.int .i64 epoch) := cell_at i2 0
    clear hs2 hsz1 hsz2 c1 c2 c3 c4 r0 r1 r2 r3
    have hlt3 := lt_of_block i3
    have e3 : W.cell? ⟨w.heap.size + 3, 0, none⟩ = some .nilIface := cell_at i3 0
    have e3f : W.frozen? ⟨w.heap.size + 3, 0, none⟩ = false := free_at i3 0
    have hGW := hG.below hlow hB
    have hgc := hGW.c1
    have SEC := Lib.hid (fun W h => sector_any W gb per seg k h (by omega) (by omega) (by omega))
    clear hGW
    have he0 : f.e = epoch ∨ f.e ≠ epoch := by omega
    have hk0 : f.k = 1 ∨ f.k ≠ 1 := by omega
    have hz0 : k = 0 ∨ k ≠ 0 := by omega
    rcases he0 with he | he
    · have q1 : (f.e != epoch) = false := by simp [he]
      rcases hk0 with hk | hk
      · have q2 : (f.k == 1) = true := by simp [hk]
        rcases hz0 with hz | hz
        · have q3 : ((k : Int) == 0) = true := by simp [hz]
          have HB2 : badAt (frAt d per seg) epoch (a + x.val) = false := by rw [hbad.out]; simp [he, hk, hz]
          have HB3 := Lib.hid HB2
          clear HB2 he hk hz hbad
          gi_wp2
          exact ⟨KeepsFrom.refl _ _, ⟨Below.refl _ _, fun _ _ _ _ h => h⟩, ⟨good_snoc HGOOD.out HB3.out, i0, i1, i2, i3⟩, hB⟩
        · have q3 : ((k : Int) == 0) = false := by simp; omega
          have HB2 : badAt (frAt d per seg) epoch (a + x.val) = true := by rw [hbad.out]; simp [he, hk, hz]
          have HB3 := Lib.hid HB2
          clear HB2 he hk hz hbad
          gi_wp2
          refine ⟨trivial, ?_⟩
          refine (CallsIn.inRound l (callsIn_wide.2 (SEC.out W hgc))).mono ?_
          rintro e W3 ⟨rfl, rfl⟩
          gi_wp2
          exact ⟨((KeepsOthers.setCell W _ _).trans (KeepsOthers.alloc _ _)).from _, ⟨rfl, pre, x, W.heap.size, rfl, HGOOD.out, HB3.out, hB.size, snd_b3 i3, by rw [← HK.out, sec_cast]; exact snd_rb W _ _ _ _⟩, snd_below hB⟩
      · have q2 : (f.k == 1) = false := by simp [hk]
        rcases hz0 with hz | hz
        · have q3 : ((k : Int) == 0) = true := by simp [hz]
          have HB2 : badAt (frAt d per seg) epoch (a + x.val) = true := by rw [hbad.out]; simp [he, hk, hz]
          have HB3 := Lib.hid HB2
          clear HB2 he hk hz hbad
          gi_wp2
          refine ⟨trivial, ?_⟩
          refine (CallsIn.inRound l (callsIn_wide.2 (SEC.out W hgc))).mono ?_
          rintro e W3 ⟨rfl, rfl⟩
          gi_wp2
          exact ⟨((KeepsOthers.setCell W _ _).trans (KeepsOthers.alloc _ _)).from _, ⟨rfl, pre, x, W.heap.size, rfl, HGOOD.out, HB3.out, hB.size, snd_b3 i3, by rw [← HK.out, sec_cast]; exact snd_rb W _ _ _ _⟩, snd_below hB⟩
        · have q3 : ((k : Int) == 0) = false := by simp; omega
          have HB2 : badAt (frAt d per seg) epoch (a + x.val) = false := by rw [hbad.out]; simp [he, hk, hz]
          have HB3 := Lib.hid HB2
          clear HB2 he hk hz hbad
          gi_wp2
          exact ⟨KeepsFrom.refl _ _, ⟨Below.refl _ _, fun _ _ _ _ h => h⟩, ⟨good_snoc HGOOD.out HB3.out, i0, i1, i2, i3⟩, hB⟩
    · have q1 : (f.e != epoch) = true := by simp [he]
      have HB2 : badAt (frAt d per seg) epoch (a + x.val) = true := by rw [hbad.out]; simp [he]
      have HB3 := Lib.hid HB2
      clear HB2 he hbad
      gi_wp2
      refine ⟨trivial, ?_⟩
      refine (CallsIn.inRound l (callsIn_wide.2 (SEC.out W hgc))).mono ?_
      rintro e W3 ⟨rfl, rfl⟩
      gi_wp2
      exact ⟨((KeepsOthers.setCell W _ _).trans (KeepsOthers.alloc _ _)).from _, ⟨rfl, pre, x, W.heap.size, rfl, HGOOD.out, HB3.out, hB.size, snd_b3 i3, by rw [← HK.out, sec_cast]; exact snd_rb W _ _ _ _⟩, snd_below hB⟩
  case done =>
    rintro D ys W hD rfl ⟨⟨hgood, i0, i1, i2, i3⟩, hB⟩ hK
    have HN := Lib.hid (sound_all (g := frAt d per seg) (e := epoch) (a := a) (b := b) (fun i hi => hgood ⟨i, hi⟩ (by simp)))
    have e3 : W.cell? ⟨w.heap.size + 3, 0, none⟩ = some .nilIface := cell_at i3 0
    have e3f : W.frozen? ⟨w.heap.size + 3, 0, none⟩ = false := free_at i3 0
    clear hs2 hsz1 c1 c2 c3 c4 r0 r1 r2 r3 hgood
    go_wp2_with fail
    have hK1 := (KeepsOthers.setCell W ⟨w.heap.size + 3, 0, none⟩ .nilIface).same D _ hK rfl
    have hb3 := heap_setCell_same W (w.heap.size + 3) 0 _ _ .nilIface i3
    have hB1 := hB.setCell (p := ⟨w.heap.size + 3, 0, none⟩) (by simp) .nilIface
    have hc3 : ((W.setCell ⟨w.heap.size + 1 + 1 + 1, 0, none⟩ .nilIface).putObj D (.deferred none)).cell? ⟨w.heap.size + 1 + 1 + 1, 0, none⟩ = some .nilIface := cell_kept (cell_at hb3 0) (grownBy_putObj' _ D _) (fun r e => by cases e; exact ⟨_, hK1, rfl⟩)
    refine ⟨by simp, .inl ⟨D, _, rfl, run_takeDeferred hK1, ?_⟩⟩
    refine ⟨.nilIface, ?_, ?_⟩
    · simp [results, Tryd.f32, go_sem]
      rw [hc3]
    · unfold SndPost
      rw [HN.out]
      exact ⟨rfl, Only.of_below (hB1.trans (belowK_b (w := w) (Nat.le_refl _) _ D _ _ (by omega) hK1 rfl rfl)) _⟩
  case stop =>
    rintro D c pre W hD hpre ⟨⟨rfl, pre', x, rb, rfl, hgood, hbad, hle, i3, irb⟩, hB⟩ hK
    obtain ⟨_, hfp⟩ := fin_prefix hpre
    have HN := Lib.hid (sound_at (g := frAt d per seg) (e := epoch) (a := a) (b := b) (j := x.val) x.isLt hbad (fun i hi => hgood ⟨i, by have := x.isLt; omega⟩ (hfp i hi)))
    clear hs2 hsz1 c1 c2 c3 c4 r0 r1 r2 r3 hgood hbad hfp
    refine wpIn_wide.2 ?_
    go_wp2_with fail
    have hc3 : (W.putObj D (.deferred none)).cell? ⟨w.heap.size + 1 + 1 + 1, 0, none⟩ = some (.iface 69 (.pointer (some ⟨rb, 0, none⟩))) := cell_kept (cell_at i3 0) (grownBy_putObj' _ D _) (fun r e => by cases e; exact ⟨_, hK, rfl⟩)
    refine ⟨by simp, .inl ⟨D, _, rfl, run_takeDeferred hK, ?_⟩⟩
    refine ⟨.iface 69 (.pointer (some ⟨rb, 0, none⟩)), ?_, ?_⟩
    · simp [results, Tryd.f32, go_sem]
      rw [hc3]
    · unfold SndPost
      rw [HN.out]
      refine ⟨⟨rb, rfl, hle, ?_⟩, Only.of_below (hB.trans (belowK_b (w := w) (Nat.le_refl _) _ D _ _ (by omega) hK rfl rfl)) _⟩
      exact (grownBy_keeps_cells (grownBy_putObj' W D (.deferred none)) (fun r e => by cases e; exact ⟨_, hK, rfl⟩) irb rfl).trans irb
end Go.Proofs.YtlgefjcfnnjkbaaDoor
/- What is found on a disk that a log has written. Plain; no program is named; no conditions. -/
namespace Go.Proofs.YtlgefjcfnnjkbaaDoor
set_option maxRecDepth 100000

/-! ### Lists of items: up to the last seal -/
abbrev It := Option (List UInt8)
/-- up to the last seal -/
def upSeal : List It → List It
  | [] => []
  | x :: r => match upSeal r with
    | [] => if x.isNone then [x] else []
    | y :: z => x :: y :: z
def looseI (l : List It) : Bool := decide ((upSeal l).length < l.length)
theorem upSeal_split : ∀ l : List It, ∃ r, l = upSeal l ++ r ∧ ∀ x ∈ r, x.isSome = true
  | [] => ⟨[], rfl, by simp⟩
  | x :: l => by
    obtain ⟨r, h1, h2⟩ := upSeal_split l
    unfold upSeal
    cases hu : upSeal l with
    | nil =>
      rw [hu, List.nil_append] at h1
      cases x with
      | none => exact ⟨r, by simp [h1], h2⟩
      | some s => exact ⟨some s :: r, by simp [h1], fun x hx => by rcases List.mem_cons.1 hx with rfl | hx; exact rfl; exact h2 x hx⟩
    | cons y z =>
      rw [hu] at h1
      exact ⟨r, by rw [h1]; rfl, h2⟩
theorem upSeal_length (l : List It) : (upSeal l).length ≤ l.length := by
  obtain ⟨r, h, _⟩ := upSeal_split l
  have := congrArg List.length h
  rw [List.length_append] at this; omega
theorem upSeal_take (l : List It) : upSeal l = l.take (upSeal l).length := by
  obtain ⟨r, h, _⟩ := upSeal_split l
  have h2 := congrArg (List.take (upSeal l).length) h
  rw [List.take_left' rfl] at h2
  exact h2.symm
/-- its last one is a seal -/
theorem upSeal_last : ∀ l : List It, upSeal l = [] ∨ ∃ q, upSeal l = q ++ [none]
  | [] => .inl rfl
  | x :: l => by
    unfold upSeal
    cases hu : upSeal l with
    | nil =>
      cases x with
      | none => exact .inr ⟨[], rfl⟩
      | some s => exact .inl rfl
    | cons y z =>
      rcases upSeal_last l with h | ⟨q, h⟩
      · rw [hu] at h; cases h
      · exact .inr ⟨x :: q, by rw [← hu, h]; cases q <;> rfl⟩
theorem upSeal_snoc_none (l : List It) : upSeal (l ++ [none]) = l ++ [none] := by
  induction l with
  | nil => rfl
  | cons x l ih =>
    show (match upSeal (l ++ [none]) with | [] => _ | y :: z => _) = _
    rw [ih]
    cases l <;> rfl
theorem upSeal_snoc_some (l : List It) (s : List UInt8) : upSeal (l ++ [some s]) = upSeal l := by
  induction l with
  | nil => rfl
  | cons x l ih =>
    show (match upSeal (l ++ [some s]) with | [] => _ | y :: z => _) = (match upSeal l with | [] => _ | y :: z => _)
    rw [ih]
theorem upSeal_up (l : List It) : upSeal (upSeal l) = upSeal l := by
  rcases upSeal_last l with h | ⟨q, h⟩
  · rw [h]; rfl
  · rw [h, upSeal_snoc_none]
theorem looseI_not {l : List It} (h : looseI l = false) : upSeal l = l := by
  obtain ⟨r, h1, _⟩ := upSeal_split l
  have h2 := congrArg List.length h1
  rw [List.length_append] at h2
  simp only [looseI, decide_eq_false_iff_not, Nat.not_lt] at h
  have : r = [] := List.eq_nil_of_length_eq_zero (by omega)
  rw [this, List.append_nil] at h1
  exact h1.symm
theorem some_count (r : List It) (h : ∀ x ∈ r, x.isSome = true) : (r.filterMap id).length = r.length := by
  induction r with
  | nil => rfl
  | cons x r ih =>
    have hx := h x (by simp)
    cases x with
    | none => cases hx
    | some s => simp [ih (fun y hy => h y (by simp [hy]))]

/-! ### The newest epoch -/
theorem newRow_succ (g : Nat → Fr) (seg n : Nat) (p : Int × Nat) : newRow g seg (n + 1) p = (let q := newRow g seg n p; if q.1 < (g n).e then ((g n).e, seg) else q) := by
  unfold newRow
  rw [List.range_succ, List.foldl_append]; rfl
theorem newest_succ (g : Nat → Nat → Fr) (per n : Nat) : newest g per (n + 1) = newRow (g n) n per (newest g per n) := by
  simp [newest, List.range_succ, List.foldl_append]
theorem newRow_lt (g : Nat → Fr) (seg : Nat) (e : Int) (p : Int × Nat) (hp : p.1 < e) : ∀ n, (∀ k, k < n → (g k).e < e) → (newRow g seg n p).1 < e
  | 0, _ => by simpa [newRow] using hp
  | n + 1, h => by
    have ih := newRow_lt g seg e p hp n (fun k hk => h k (by omega))
    have h2 := h n (by omega)
    rw [newRow_succ]
    simp only
    split <;> assumption
theorem newRow_stay (g : Nat → Fr) (seg : Nat) (p : Int × Nat) : ∀ n, (∀ k, k < n → (g k).e ≤ p.1) → newRow g seg n p = p
  | 0, _ => rfl
  | n + 1, h => by
    have ih := newRow_stay g seg p n (fun k hk => h k (by omega))
    have h2 := h n (by omega)
    rw [newRow_succ, ih]
    simp only
    rw [if_neg (by omega)]
theorem newRow_hit (g : Nat → Fr) (seg : Nat) (e : Int) (p : Int × Nat) (hp : p.1 < e) (h0 : (g 0).e = e) : ∀ n, 0 < n → (∀ k, k < n → (g k).e ≤ e) → newRow g seg n p = (e, seg)
  | 0, h, _ => by omega
  | n + 1, _, h => by
    rw [newRow_succ]
    rcases Nat.eq_zero_or_pos n with rfl | hn
    · simp [newRow, h0, hp]
    · rw [newRow_hit g seg e p hp h0 n hn (fun k hk => h k (by omega))]
      have h2 := h n (by omega)
      simp only
      rw [if_neg (by omega)]
theorem newest_is (g : Nat → Nat → Fr) (per n : Nat) (e : Int) (hper : 0 < per) (he : 0 < e) (h0 : (g n 0).e = e) (hn : ∀ k, k < per → (g n k).e ≤ e) : ∀ segs, (∀ k a, k < segs → a < per → k ≠ n → (g k a).e < e) →
    (segs ≤ n → (newest g per segs).1 < e) ∧ (n < segs → newest g per segs = (e, n))
  | 0, _ => ⟨fun _ => by simpa [newest] using he, fun h => by omega⟩
  | m + 1, h => by
    obtain ⟨i1, i2⟩ := newest_is g per n e hper he h0 hn m (fun k a hk ha hne => h k a (by omega) ha hne)
    rw [newest_succ]
    refine ⟨fun hle => newRow_lt _ _ e _ (i1 (by omega)) per (fun k hk => h m k (by omega) hk (by omega)), fun hlt => ?_⟩
    by_cases hm : m = n
    · subst hm
      exact newRow_hit _ _ e _ (i1 (Nat.le_refl _)) h0 per hper hn
    · have hlt' : n < m := by omega
      rw [i2 hlt']
      exact newRow_stay _ _ _ per (fun k hk => by have := h m k (by omega) hk hm; simp only; omega)
theorem newest_none (g : Nat → Nat → Fr) (per : Nat) : ∀ segs, (∀ k a, k < segs → a < per → (g k a).e = 0) → newest g per segs = (0, 0)
  | 0, _ => rfl
  | m + 1, h => by
    rw [newest_succ, newest_none g per m (fun k a hk ha => h k a (by omega) ha)]
    exact newRow_stay _ _ _ per (fun k hk => by rw [h m k (by omega) hk]; exact Int.le_refl _)

/-! ### Links -/
theorem chainText_length (c : List Us) (segs : Nat) (h : segs ≤ c.length) : (chainText c segs).length = 4 * segs := by
  have key : ∀ l : List Us, ((l.map useText).flatten).length = 4 * l.length := by
    intro l
    induction l with
    | nil => rfl
    | cons u l ih => simp only [List.map_cons, List.flatten_cons, List.length_append, List.length_cons, ih]; simp [useText, be_length]; omega
  unfold chainText
  rw [key, List.length_take, Nat.min_eq_left h]
theorem flat_four : ∀ (l : List Us) (k i : Nat), i < 4 → k < l.length → ((l.map useText).flatten).getD (4 * k + i) 0 = (useText (l.getD k Us.no)).getD i 0
  | [], k, i, _, hk => by simp at hk
  | u :: l, 0, i, hi, _ => by
    have : (useText u).length = 4 := by simp [useText, be_length]
    simp only [List.map_cons, List.flatten_cons, List.getD_eq_getElem?_getD, Nat.mul_zero, Nat.zero_add]
    rw [List.getElem?_append_left (by omega)]; simp
  | u :: l, k + 1, i, hi, hk => by
    have hu : (useText u).length = 4 := by simp [useText, be_length]
    have ih := flat_four l k i hi (by simpa using hk)
    simp only [List.map_cons, List.flatten_cons, List.getD_eq_getElem?_getD] at ih ⊢
    rw [List.getElem?_append_right (by omega), hu, show 4 * (k + 1) + i - 4 = 4 * k + i by omega, ih]
    simp
theorem useText_eq (u : Us) : useText u = [UInt8.ofNat (u.e.toNat / 65536 % 256), UInt8.ofNat (u.e.toNat / 256 % 256), UInt8.ofNat (u.e.toNat % 256), UInt8.ofNat (u.c.toNat % 256)] := by
  simp [useText, be, Nat.div_div_eq_div_mul]
theorem useAt_text (c : List Us) (segs k : Nat) (hs : segs ≤ c.length) (hk : k < segs) (h1 : 0 ≤ (c.getD k Us.no).e) (h2 : (c.getD k Us.no).e ≤ 16777215) (h3 : 0 ≤ (c.getD k Us.no).c) (h4 : (c.getD k Us.no).c ≤ 255) :
    useAt (chainText c segs) k = c.getD k Us.no := by
  have hl : k < (c.take segs).length := by rw [List.length_take]; omega
  have e0 : (c.take segs).getD k Us.no = c.getD k Us.no := by
    simp only [List.getD_eq_getElem?_getD]
    rw [List.getElem?_take_of_lt hk]
  have f : ∀ i, i < 4 → (chainText c segs).getD (4 * k + i) 0 = (useText (c.getD k Us.no)).getD i 0 := fun i hi => by
    unfold chainText; rw [flat_four _ k i hi hl, e0]
  have f0 := f 0 (by omega)
  rw [Nat.add_zero] at f0
  unfold useAt
  rw [f0, f 1 (by omega), f 2 (by omega), f 3 (by omega), useText_eq]
  generalize c.getD k Us.no = u at h1 h2 h3 h4
  cases u with
  | mk e c =>
    simp only at h1 h2 h3 h4
    have g1 : (UInt8.ofNat (e.toNat / 65536 % 256)).toNat = e.toNat / 65536 % 256 := by simp
    have g2 : (UInt8.ofNat (e.toNat / 256 % 256)).toNat = e.toNat / 256 % 256 := by simp
    have g3 : (UInt8.ofNat (e.toNat % 256)).toNat = e.toNat % 256 := by simp
    have g4 : (UInt8.ofNat (c.toNat % 256)).toNat = c.toNat % 256 := by simp
    simp only [List.getD_eq_getElem?_getD, List.getElem?_cons_zero, List.getElem?_cons_succ, Option.getD_some, g1, g2, g3, g4, Us.mk.injEq]
    omega

/-- what a chain looks like -/
structure ChOk (c : List Us) (segs per : Nat) (top : Int) : Prop where
  len : c.length = 12
  use : ∀ k, c.getD k Us.no = Us.no ∨ (k < segs ∧ 1 ≤ (c.getD k Us.no).e ∧ (c.getD k Us.no).e < top ∧ 1 ≤ (c.getD k Us.no).c ∧ (c.getD k Us.no).c ≤ (per : Int))
  apart : ∀ i j, (c.getD i Us.no).e ≠ 0 → (c.getD i Us.no).e = (c.getD j Us.no).e → i = j

theorem Us.e_no {u : Us} (h : u = Us.no) : u.e = 0 ∧ u.c = 0 := by subst h; exact ⟨rfl, rfl⟩
def chTo (c : List Us) (m : Nat) : List Us := (List.range 12).map fun k => if k < m then c.getD k Us.no else Us.no
theorem chTo_get (c : List Us) (m k : Nat) : (chTo c m).getD k Us.no = if k < 12 ∧ k < m then c.getD k Us.no else Us.no := by
  simp only [chTo, List.getD_eq_getElem?_getD, List.getElem?_map]
  by_cases h : k < 12
  · simp only [List.getElem?_range h, Option.map_some, Option.getD_some, h, true_and]
  · rw [List.getElem?_eq_none (by simpa using h)]; simp [h]
theorem ch_ext {a b : List Us} (ha : a.length = 12) (hb : b.length = 12) (h : ∀ k, k < 12 → a.getD k Us.no = b.getD k Us.no) : a = b := by
  apply List.ext_getElem (by omega)
  intro i h1 h2
  have := h i (by omega)
  simpa [List.getD_eq_getElem?_getD, h1, h2] using this
theorem linkTo_ok {c : List Us} {segs per own : Nat} {top : Int} (h : ChOk c segs per top) (hs : segs ≤ 12) (hper : per ≤ 255) (htop : top ≤ 16777215) (hown : c.getD own Us.no = Us.no) (f : Fr) (hf : f.e = top) (hfs : f.s = chainText c segs) :
    ∀ m, m ≤ segs → linkTo f own per m = some (chTo c m)
  | 0, _ => by
    rw [linkTo]
    congr 1
  | m + 1, hm => by
    have ih := linkTo_ok h hs hper htop hown f hf hfs m (by omega)
    have hu := h.use m
    have hat : useAt f.s m = c.getD m Us.no := by
      rw [hfs]
      refine useAt_text c segs m (by rw [h.len]; exact hs) (by omega) ?_ ?_ ?_ ?_ <;>
      · rcases hu with hu | ⟨_, h1, h2, h3, h4⟩
        · rw [hu]; decide
        · omega
    rw [linkTo, ih, Option.bind_some, linkStep]
    simp only [hat]
    by_cases e0 : c.getD m Us.no = Us.no
    · rw [if_pos e0]
      congr 1
      refine ch_ext (by simp [chTo]) (by simp [chTo]) fun k hk => ?_
      rw [chTo_get, chTo_get]
      by_cases hkm : k < m
      · rw [if_pos ⟨hk, hkm⟩, if_pos ⟨hk, by omega⟩]
      · rw [if_neg (by omega)]
        by_cases hk2 : k = m
        · subst hk2; rw [if_pos ⟨hk, by omega⟩, e0]
        · rw [if_neg (by omega)]
    · rcases hu with hu | ⟨_, h1, h2, h3, h4⟩
      · exact absurd hu e0
      rw [if_neg e0, if_neg (by
        rintro (rfl | h | h | h | h)
        · exact e0 hown
        all_goals omega)]
      rw [if_neg (by
        intro hany
        rw [List.any_eq_true] at hany
        obtain ⟨o, ho, heq⟩ := hany
        obtain ⟨i, hi, ho2⟩ := List.getElem_of_mem ho
        have hi12 : i < 12 := by simpa [chTo] using hi
        have hg : (chTo c m).getD i Us.no = o := by rw [List.getD_eq_getElem?_getD, List.getElem?_eq_getElem hi, ho2]; rfl
        rw [← hg, chTo_get] at heq
        by_cases him : i < m
        · rw [if_pos ⟨hi12, him⟩] at heq
          have := h.apart m i (by omega) (eq_of_beq heq).symm
          omega
        · rw [if_neg (by omega)] at heq
          have : (0 : Int) = (c.getD m Us.no).e := by simpa [Us.no] using heq
          omega)]
      congr 1
      refine ch_ext (by simp [chTo]) (by simp [chTo]) fun k hk => ?_
      rw [chTo_get]
      by_cases hkm : k = m
      · subst hkm
        rw [if_pos ⟨hk, by omega⟩, List.getD_eq_getElem?_getD, List.getElem?_set_self (by simpa [chTo] using hk)]; rfl
      · rw [List.getD_eq_getElem?_getD, List.getElem?_set_ne (fun e => hkm e.symm), ← List.getD_eq_getElem?_getD, chTo_get]
        by_cases hlt : k < m
        · rw [if_pos ⟨hk, hlt⟩, if_pos ⟨hk, by omega⟩]
        · rw [if_neg (by omega), if_neg (by omega)]
theorem linkP_ok {c : List Us} {segs per own : Nat} {top : Int} (h : ChOk c segs per top) (hs : segs ≤ 12) (hper : per ≤ 255) (htop : top ≤ 16777215) (hown : c.getD own Us.no = Us.no) (f : Fr) (hk : f.k = 1) (hf : f.e = top) (hfs : f.s = chainText c segs) :
    linkP f own per segs = some c := by
  unfold linkP
  rw [if_pos ⟨hk, by rw [hfs]; exact chainText_length c segs (by rw [h.len]; exact hs)⟩, linkTo_ok h hs hper htop hown f hf hfs segs (Nat.le_refl _)]
  congr 1
  refine ch_ext (by simp [chTo]) h.len fun k hk => ?_
  rw [chTo_get]
  by_cases hks : k < segs
  · rw [if_pos ⟨hk, hks⟩]
  · rw [if_neg (by omega)]
    rcases h.use k with hu | ⟨h1, _⟩
    · rw [hu]
    · omega

/-! ### The order -/
theorem mem_ins (c : List Us) (x y : Nat) : ∀ l, y ∈ ins c x l ↔ y = x ∨ y ∈ l
  | [] => by simp [ins]
  | z :: l => by
    unfold ins
    split
    · simp
    · rw [List.mem_cons, mem_ins c x y l, List.mem_cons]
      constructor
      · rintro (h | h | h) <;> simp [h]
      · rintro (h | h | h) <;> simp [h]
theorem mem_insAll (c : List Us) (y : Nat) : ∀ (u l : List Nat), y ∈ u.foldl (fun l x => ins c x l) l ↔ y ∈ u ∨ y ∈ l
  | [], l => by simp
  | x :: u, l => by
    rw [List.foldl_cons, mem_insAll c y u, mem_ins]
    constructor
    · rintro (h | h | h) <;> simp [h]
    · rintro h
      rcases h with h | h
      · rcases List.mem_cons.1 h with h | h <;> simp [h]
      · simp [h]
theorem mem_orderL (c : List Us) (k : Nat) : k ∈ orderL c ↔ k < c.length ∧ (c.getD k Us.no).e ≠ 0 := by
  unfold orderL
  rw [mem_insAll]
  simp [usedL, usedTo]

/-! ### Sound -/
theorem sound_none {g : Nat → Fr} {e : Int} {a b : Nat} (h : ∀ k, a ≤ k → k < b → badAt g e k = false) : sound g e a b = none := by
  unfold sound
  rw [List.find?_eq_none]
  intro k hk
  obtain ⟨i, h1, h2⟩ := List.mem_range'.1 hk
  rw [h k (by omega) (by omega)]
  simp
theorem soundAll_none {g : Nat → Nat → Fr} {per : Nat} {c : List Us} : ∀ l : List Nat, (∀ k ∈ l, sound (g k) (c.getD k Us.no).e 0 (c.getD k Us.no).c.toNat = none) → soundAll g per c l = none
  | [], _ => rfl
  | k :: l, h => by
    unfold soundAll
    rw [h k (by simp)]
    exact soundAll_none l (fun x hx => h x (by simp [hx]))

/-! ### The last seal -/
theorem sealedTo_is {g : Nat → Fr} {e : Int} {s : Nat} : ∀ N, s < N ∨ s = 0 → (s = 0 ∨ (1 ≤ s ∧ (g s).e = e ∧ (g s).k = 4)) → (∀ x, s < x → x < N → ¬ ((g x).e = e ∧ (g x).k = 4)) → sealedTo g e N = s
  | 0, h, _, _ => by rcases h with h | h; omega; exact h.symm
  | N + 1, h, h1, h2 => by
    unfold sealedTo
    by_cases hs : s = N
    · subst hs
      rcases h1 with h1 | ⟨a, b, c⟩
      · subst h1
        rw [if_neg (by omega)]; rfl
      · rw [if_pos ⟨a, b, c⟩]
    · rw [if_neg (by
        rintro ⟨_, a, b⟩
        by_cases hlt : s < N
        · exact h2 N hlt (by omega) ⟨a, b⟩
        · rcases h with h | h <;> omega)]
      exact sealedTo_is N (by omega) h1 (fun x hx hx2 => h2 x hx (by omega))

/-! ### Rows of frames -/
theorem frames_get (g : Nat → Fr) (a b i : Nat) (h : i < b - a) : (frames g a b)[i]? = some (g (a + i)) := by
  simp [frames, h]
theorem frames_is {g : Nat → Fr} {a b : Nat} {A : List Fr} (hl : A.length = b - a) (h : ∀ i, i < A.length → g (a + i) = A.getD i zeroFr) : frames g a b = A := by
  apply List.ext_getElem?
  intro i
  by_cases hi : i < A.length
  · rw [frames_get g a b i (by omega), h i hi]
    simp [List.getD_eq_getElem?_getD, hi]
  · rw [List.getElem?_eq_none (by simpa [frames] using (by omega)), List.getElem?_eq_none (by omega)]
theorem takeWhile_is {α : Type} (P : α → Bool) : ∀ (p : Nat) (l : List α), (∀ i x, i < p → l[i]? = some x → P x = true) → (∀ x, l[p]? = some x → P x = false) → p ≤ l.length → l.takeWhile P = l.take p
  | 0, l, _, h2, _ => by
    cases l with
    | nil => rfl
    | cons x l => rw [List.takeWhile_cons, h2 x rfl]; rfl
  | p + 1, [], _, _, h => by simp at h
  | p + 1, x :: l, h1, h2, h3 => by
    rw [List.takeWhile_cons, h1 0 x (by omega) rfl]
    simp only [if_true, List.take_succ_cons]
    rw [takeWhile_is P p l (fun i y hi hy => h1 (i + 1) y (by omega) hy) (fun y hy => h2 y hy) (by simpa using h3)]
end Go.Proofs.YtlgefjcfnnjkbaaDoor
/- The newest epoch. No conditions. -/
namespace Go.Proofs.YtlgefjcfnnjkbaaDoor
set_option maxRecDepth 100000
open Go.RowKit Go.Shelf
attribute [local go_sem] Oper.semAt_some

/-! ### A function in which loops over functions ran, one behind the other, leaves -/
def marks (l : List Nat) : List Deferred := l.map fun r => { target := .collected r, args := #[] }
structure Marks (l : List Nat) (w : World) : Prop where
  nodup : l.Nodup
  at_ : ∀ r ∈ l, w.heap[r]? = some (.deferred (some []))
theorem Marks.nil (w : World) : Marks [] w := ⟨List.nodup_nil, fun r h => by cases h⟩
theorem Marks.cons {l : List Nat} {w : World} (h : Marks l w) {r B : Nat} (hl : ∀ x ∈ l, x < B) (hr : B ≤ r) (hk : w.heap[r]? = some (.deferred (some []))) : Marks (r :: l) w :=
  ⟨List.nodup_cons.2 ⟨fun hm => by have := hl r hm; omega, h.nodup⟩, fun x hx => by rcases List.mem_cons.1 hx with rfl | hx; exact hk; exact h.at_ x hx⟩
theorem Marks.keeps {l : List Nat} {w w' : World} (h : Marks l w) (k : KeepsOthers w w') : Marks l w' := ⟨h.nodup, fun r hr => k.same r _ (h.at_ r hr) rfl⟩
theorem Marks.only {l : List Nat} {w w' : World} (h : Marks l w) (ho : Only (fun _ => False) w w') : Marks l w' := ⟨h.nodup, fun r hr => ho.keep (h.at_ r hr) id⟩
theorem Marks.lt {l : List Nat} {w : World} (h : Marks l w) : ∀ r ∈ l, r < w.heap.size := fun r hr => lt_of_block (h.at_ r hr)
theorem marks_own {β : Type} (l : List Nat) (B : Nat) (hl : ∀ x ∈ l, x < B) : OwnFrom B (fun (_ : β) W => Marks l W) := fun _ W W' row hs hg hr =>
  ⟨hs.nodup, fun r hm => (hg.block r (hs.lt r hm) (fun e => by have := (hr r e.symm).1; have := hl r hm; omega)).trans (hs.at_ r hm)⟩
/-- what leaving turns: no cells -/
structure GoneBy (B : Nat) (w w' : World) : Prop where
  below : Below B w w'
  cells : ∀ (b : Nat) (c : Array Value) (t : TypeId) (f : Nat × Nat), w.heap[b]? = some (Obj.cells c t f) → w'.heap[b]? = some (Obj.cells c t f)
theorem leaves_marks {F : Fence} {n : Nat} {P : Program} {fn : Func} {tmps : Array Value} {R : Ending → World → Prop} {B : Nat} : ∀ (l : List Nat) (w : World), Marks l w → (∀ r ∈ l, B ≤ r) → (∀ w', GoneBy B w w' → LeavesInM F n P fn tmps R [] .returning w') → LeavesInM F n P fn tmps R (marks l) .returning w
  | [], w, _, _, h => h w ⟨Below.refl _ _, fun _ _ _ _ h => h⟩
  | r :: l, w, hM, hB, h => by
    have hk := hM.at_ r (by simp)
    have hnd := List.nodup_cons.1 hM.nodup
    have hother : ∀ b o, b ≠ r → w.heap[b]? = some o → (w.putObj r (.deferred none)).heap[b]? = some o := fun b o hne hb =>
      ((grownBy_putObj' w r (.deferred none)).block b (lt_of_block hb) (fun e => hne (Option.some.inj e))).trans hb
    have hBr := hB r (by simp)
    refine ⟨by simp, .inl ⟨r, _, rfl, run_takeDeferred hk, ?_⟩⟩
    refine leaves_marks l _ ⟨hnd.2, fun x hx => hother x _ (fun e => hnd.1 (e ▸ hx)) (hM.at_ x (by simp [hx]))⟩ (fun x hx => hB x (by simp [hx])) fun w' hl => h w' ⟨?_, ?_⟩
    · have hg := grownBy_putObj' w r (.deferred none)
      exact Below.trans ⟨hg.os, hg.tape, hg.output, hg.size, fun k hk2 => hg.block k (by have := lt_of_block hk; omega) (fun e => by have := Option.some.inj e; omega)⟩ hl.below
    · intro b c t f hb
      exact hl.cells b c t f (hother b _ (fun e => by rw [e, hk] at hb; cases hb) hb)

structure NewM (w : World) (q : Int × Nat) (W : World) : Prop where
  b0 : W.heap[w.heap.size]? = some (.cells #[.int .i64 q.1] 3 (0, 0))
  b1 : W.heap[w.heap.size + 1]? = some (.cells #[.int .i64 (q.2 : Int)] 3 (0, 0))
  below : Below w.heap.size w W
/-- between two frames -/
def newPre (g : Nat → Fr) (seg : Nat) (q0 : Int × Nat) {m : Nat} (pre : List (Fin m)) : Int × Nat := pre.foldl (fun p x => if p.1 < (g (0 + x.val)).e then ((g (0 + x.val)).e, seg) else p) q0
theorem newPre_snoc (g : Nat → Fr) (seg : Nat) (q0 : Int × Nat) {m : Nat} (pre : List (Fin m)) (x : Fin m) : newPre g seg q0 (pre ++ [x]) = if (newPre g seg q0 pre).1 < (g (0 + x.val)).e then ((g (0 + x.val)).e, seg) else newPre g seg q0 pre := by
  simp [newPre]
theorem newPre_all (g : Nat → Fr) (seg : Nat) (q0 : Int × Nat) (m : Nat) : newPre g seg q0 (List.finRange m) = newRow g seg m q0 := by
  have key : ∀ k, k ≤ m → newPre g seg q0 ((List.finRange m).take k) = newRow g seg k q0 := by
    intro k
    induction k with
    | zero => intro _; rfl
    | succ k ih =>
      intro hk
      rw [fin_take m k (by omega), newPre_snoc, ih (by omega), newRow_succ]
      simp
  have := key m (Nat.le_refl _)
  rwa [fin_take_all] at this
theorem two_set (X : World) (b : Nat) (u v u' v' : Value) (t t' : TypeId) (h0 : X.heap[b]? = some (.cells #[u] t (0, 0))) (h1 : X.heap[b + 1]? = some (.cells #[v] t' (0, 0))) :
    KeepsOthers X ((X.setCell ⟨b, 0, none⟩ u').setCell ⟨b + 1, 0, none⟩ v').drew ∧ Only (fun k => k = b ∨ k = b + 1) X ((X.setCell ⟨b, 0, none⟩ u').setCell ⟨b + 1, 0, none⟩ v').drew ∧
      ((X.setCell ⟨b, 0, none⟩ u').setCell ⟨b + 1, 0, none⟩ v').drew.heap[b]? = some (.cells #[u'] t (0, 0)) ∧ ((X.setCell ⟨b, 0, none⟩ u').setCell ⟨b + 1, 0, none⟩ v').drew.heap[b + 1]? = some (.cells #[v'] t' (0, 0)) := by
  have o1 := Only.setCell (S := fun k => k = b ∨ k = b + 1) X b 0 u' (.inl rfl)
  have o2 := Only.setCell (S := fun k => k = b ∨ k = b + 1) (X.setCell ⟨b, 0, none⟩ u') (b + 1) 0 v' (.inr rfl)
  have e0 := heap_setCell_same X b 0 _ _ u' h0
  have e1 := (Only.one X b 0 u').keep h1 (fun e => by omega)
  refine ⟨((KeepsOthers.setCell X _ _).trans (KeepsOthers.setCell _ _ _)).trans (KeepsOthers.drew _), (o1.trans o2).trans (Only.drew _ _), ?_, ?_⟩
  · exact (Only.drew _ (fun _ => False)).keep ((Only.one (X.setCell ⟨b, 0, none⟩ u') (b + 1) 0 v').keep e0 (fun e => by omega)) id
  · exact (Only.drew _ (fun _ => False)).keep (heap_setCell_same _ (b + 1) 0 _ _ v' e1) id
theorem below_only {n₀ gb p kb : Nat} {pv : Value} (_ : GLow n₀ gb p kb pv) {X Y : World} (hs : n₀ ≤ X.heap.size) (ho : Only (fun k => k = n₀ ∨ k = n₀ + 1) X Y) : Below n₀ X Y :=
  ho.belowOf hs (fun k hk e => by rcases e with e | e <;> omega)
structure NewB (B S seg : Nat) (q : Int × Nat) (X : World) : Prop where
  b0 : X.heap[B]? = some (.cells #[.int .i64 q.1] 3 (0, 0))
  b1 : X.heap[B + 1]? = some (.cells #[.int .i64 (q.2 : Int)] 3 (0, 0))
  bs : X.heap[S]? = some (.cells #[.int .i64 (seg : Int)] 3 (0, 0))
theorem NewB.only {B S seg : Nat} {q : Int × Nat} {X Y : World} (h : NewB B S seg q X) (ho : Only (fun _ => False) X Y) : NewB B S seg q Y := ⟨ho.keep h.b0 id, ho.keep h.b1 id, ho.keep h.bs id⟩
theorem newB_own {β : Type} (B S seg : Nat) (f : β → Int × Nat) : Own (fun (x : β) X => NewB B S seg (f x) X) := fun _ _ _ _ hs hg hr =>
  ⟨(grownBy_keeps_cells hg hr hs.b0 rfl).trans hs.b0, (grownBy_keeps_cells hg hr hs.b1 rfl).trans hs.b1, (grownBy_keeps_cells hg hr hs.bs rfl).trans hs.bs⟩
def NewPost (w : World) (r : Int × Nat) (e : Ending) (w' : World) : Prop := e = .returned (.tuple #[.int .i64 r.1, .int .i64 (r.2 : Int)]) ∧ Only (fun _ => False) w w'

set_option maxHeartbeats 8000000 in
theorem newest_any (w : World) (gb p kb : Nat) (pv : Value) (d : D) (per segs : Nat) (hG : GAt w gb p kb pv d per segs) :
    Calls Tryd.prog 28 #[.pointer (some ⟨gb, 0, none⟩)] w (NewPost w (newest (frAt d per) per segs)) := by
  have hper4 := hG.per4
  have hper64 := hG.per64
  have hs12 := hG.segs12
  have hlow := hG.low
  have hgl := hG.lt
  have hW0 := Only.alloc w (.cells #[.int .i64 0] 3) (fun _ => False) |>.trans (Only.alloc _ (.cells #[.int .i64 0] 3) _)
  have hG0 := hG.only hW0
  have hb0 := (Only.alloc (w.alloc (.cells #[.int .i64 0] 3)) (.cells #[.int .i64 0] 3) (fun _ => False)).keep (heap_alloc_any w (.cells #[.int .i64 0] 3)) id
  have hb1 := heap_alloc_any (w.alloc (.cells #[.int .i64 0] 3)) (.cells #[.int .i64 0] 3)
  rw [World.size_alloc] at hb1
  have hc2 := hG0.c2
  refine (callsIn_wide (n := 6)).1 (callsIn_of_wp_marks (F := Fence.wide) Tryd.func28 rfl trivial ?_ rfl)
  refine wpIn_wide.2 ?_
  simp only [Tryd.ntmps28, List.size_toArray, List.length_cons, List.length_nil, Nat.reduceAdd, Nat.reduceSub, Array.replicate_succ, Array.replicate_zero, List.push_toArray, List.append_toArray, List.nil_append, List.cons_append]
  go_wp2_with fail
  clear hc2
  generalize (w.alloc (.cells #[.int .i64 0] 3)).alloc (.cells #[.int .i64 0] 3) = w0 at hW0 hG0 hb0 hb1 ⊢
  refine wp_loop (fun a W => ∃ (seg : Nat) (Ds : List Nat) (u6 u7 u8 u14 u15 u16 u17 u18 u19 u20 u21 u22 u23 u24 u25 u26 u27 u28 u29 u30 u31 u32 : Value), seg ≤ segs ∧ NewM w (newest (frAt d per) per seg) W ∧ Marks Ds W ∧ (∀ r ∈ Ds, w.heap.size ≤ r) ∧
      a = { tmps := #[.pointer (some ⟨gb, 0, none⟩), undef, .int .i64 0, .int .i64 0, .pointer (some ⟨w.heap.size, 0, none⟩), .pointer (some ⟨w.heap.size + 1, 0, none⟩), u6, u7, u8, .pointer (some ⟨gb, 0, none⟩), .pointer (some ⟨gb, 0, none⟩), .pointer (some ⟨gb, 2, none⟩), .int .i64 (segs : Int), .int .i64 (seg : Int), u14, u15, u16, u17, u18, u19, u20, u21, u22, u23, u24, u25, u26, u27, u28, u29, u30, u31, u32, undef, undef], defers := marks Ds }) (fun a _ => segs - (intOf (a.tmps.getD 13 undef)).toNat) ?_ ?_
  · exact ⟨0, [], undef, undef, undef, undef, undef, undef, undef, undef, undef, undef, undef, undef, undef, undef, undef, undef, undef, undef, undef, undef, undef, undef, by omega, ⟨hb0, hb1, hW0.below (fun _ _ => id)⟩, Marks.nil _, (fun r h => by cases h), rfl⟩
  rintro a W ⟨seg, Ds, u6, u7, u8, u14, u15, u16, u17, u18, u19, u20, u21, u22, u23, u24, u25, u26, u27, u28, u29, u30, u31, u32, hseg, hM, hMk, hDs, rfl⟩
  by_cases hlt : seg < segs
  · have hI : (seg : Int) < (segs : Int) := by omega
    have hGW := hG.below hlow hM.below
    have hoA := Only.alloc W (.cells #[.int .i64 (seg : Int)] 3) (fun _ => False)
    have hbs := heap_alloc_any W (.cells #[.int .i64 (seg : Int)] 3)
    go_upto_region 5 with fail
    have hoD := hoA.trans (Only.drew _ _)
    have hbsD := (Only.drew (W.alloc (.cells #[.int .i64 (seg : Int)] 3)) (fun _ => False)).keep hbs id
    have hGD := hGW.only hoD
    have hz1 : (W.alloc (.cells #[.int .i64 (seg : Int)] 3)).drew.heap.size = W.heap.size + 1 := by show (W.alloc (.cells #[.int .i64 (seg : Int)] 3)).heap.size = _; simp
    refine wp_mono (Q := OnlyN _) ?_ onlyN_mono
    refine wp_region_pick (fun X => X = (W.alloc (.cells #[.int .i64 (seg : Int)] 3)).drew) [(0, 0), (1, 1), (2, 0), (3, 0), (4, 0), (5, 1), (6, 3)] (by kernel_rfl) (by kernel_rfl) (fun _ _ _ _ _ h => h.elim) rfl ?_
    generalize (W.alloc (.cells #[.int .i64 (seg : Int)] 3)).drew = W1 at hoD hbsD hGD hz1 ⊢
    have hcs : W1.cell? ⟨W.heap.size, 0, none⟩ = some (.int .i64 (seg : Int)) := cell_at hbsD 0
    have hcp := hGD.c1
    have HZ1 := Lib.hid hz1
    clear hbs hoA hz1
    simp only [pickOps, List.getElem?_cons_zero, List.getElem?_cons_succ]
    iterate 6 (first | (refine wpL_pure (a' := ?_) ?_ rfl (fun W => ?_) ?_ ?_; rotate_left 2; (· go_simp; first | (go_bits; with_reducible rfl) | with_reducible rfl); (· simp only [put_some, List.setIfInBounds_toArray, List.set_cons_zero, List.set_cons_succ]; rfl)) | (refine wpL_held (a' := ?_) ?_ rfl (fun W hW => ?_) ?_ ?_; rotate_left 2; (· subst hW; go_simp; first | (go_bits; with_reducible rfl) | with_reducible rfl); (· simp only [put_some, List.setIfInBounds_toArray, List.set_cons_zero, List.set_cons_succ]; rfl)))
    refine wpL_lastCall (f := 33) (args := #[.pointer (some ⟨gb, 0, none⟩), .int .i64 (seg : Int), .int .i64 0, .int .i64 (per : Int)]) rfl (by kernel_rfl) ((frames_any W1 gb (seg : Int) 0 (per : Int)).mono ?_)
    rintro ev w2 ⟨rfl, hw2⟩
    refine ⟨_, rfl, ?_⟩
    unfold frFn
    simp only [put_some, List.setIfInBounds_toArray, List.set_cons_zero, List.set_cons_succ]
    refine wpL_nil ?_
    unfold OnlyN
    simp only
    have ho2 := frBoxes_only W1 gb (seg : Int) 0 (per : Int)
    have hs2 := frBoxes_size W1 gb (seg : Int) 0 (per : Int)
    obtain ⟨c1, c2, c3, c4⟩ := frBoxes_cells W1 gb (seg : Int) 0 (per : Int)
    rw [← hw2] at ho2 hs2 c1 c2 c3 c4
    clear hw2
    go_wp2_with fail
    have hMk2 := (hMk.only hoD).only ho2
    have hB2 : Below w.heap.size w w2 := hM.below.trans (((hoD.trans ho2).below (fun _ _ => id)).mono hM.below.size)
    have r0 := (hoD.trans ho2).keep hM.b0 id
    have r1 := (hoD.trans ho2).keep hM.b1 id
    have rs := ho2.keep hbsD id
    have hlt1 := lt_of_block hM.b1
    have hDl := hMk.lt
    refine wpIn_wide.1 (wpIn_rangeFunc_ownH (F := Fence.wide) (n := 6) rfl (by decide) (gf := 53) (lb := #[.pointer (some ⟨W1.heap.size + 2, 0, none⟩), .pointer (some ⟨W1.heap.size + 3, 0, none⟩), .pointer (some ⟨W1.heap.size, 0, none⟩), .pointer (some ⟨W1.heap.size + 1, 0, none⟩)]) rfl trivial (enters_of Tryd.func53 (by kernel_rfl) rfl)
      (frames_stops 5 (by decide) w.heap.size W1.heap.size gb p kb pv d per segs seg 0 per (per : Int) (by omega) hlow hlt (by omega) w2 hB2.size (hGD.only ho2) c1 c2 c3 c4) kpF_t (kpF_b hB2.size) (Below.refl _ _) (by exact fun _ => rfl)
      (fun pre X => NewB w.heap.size W.heap.size seg (newPre (frAt d per seg) seg (newest (frAt d per) per seg) pre) X ∧ Marks Ds X ∧ Below w.heap.size w X)
      (fun _ _ _ => False)
      (OwnFrom.and (Own.from (newB_own _ _ _ _) _) (OwnFrom.and (marks_own Ds _ (fun r hr => by have := hDl r hr; have := HZ1.out; omega)) (ownFrom_below (Nat.le_refl _) hB2.size)))
      (fun _ _ _ _ _ hs _ _ => hs)
      ⟨⟨r0, r1, rs⟩, hMk2, hB2⟩
      (fun x a' X => ∃ Bx, FrX (frAt d per seg (0 + x.val)) Bx X ∧ a' = { tmps := #[.pointer (some ⟨gb, 0, none⟩), undef, .int .i64 0, .int .i64 0, .pointer (some ⟨w.heap.size, 0, none⟩), .pointer (some ⟨w.heap.size + 1, 0, none⟩), .pointer (some ⟨W.heap.size, 0, none⟩), u7, .pointer (some ⟨Bx, 0, none⟩), .pointer (some ⟨gb, 0, none⟩), .pointer (some ⟨gb, 0, none⟩), .pointer (some ⟨gb, 2, none⟩), .int .i64 (segs : Int), .int .i64 (seg : Int), .bool true, .int .i64 (seg : Int), .pointer (some ⟨gb, 0, none⟩), .int .i64 (seg : Int), .pointer (some ⟨gb, 0, none⟩), .pointer (some ⟨gb, 0, none⟩), .pointer (some ⟨gb, 1, none⟩), .int .i64 (per : Int), .func (.func 53) #[] #[.pointer (some ⟨W1.heap.size + 2, 0, none⟩), .pointer (some ⟨W1.heap.size + 3, 0, none⟩), .pointer (some ⟨W1.heap.size, 0, none⟩), .pointer (some ⟨W1.heap.size + 1, 0, none⟩)], .int .i64 ((0 + x.val : Nat) : Int), .agg #[.int .i64 (frAt d per seg (0 + x.val)).e, .int .i64 (frAt d per seg (0 + x.val)).a, .int .i64 (frAt d per seg (0 + x.val)).k, .string ⟨(frAt d per seg (0 + x.val)).s.toArray⟩], u25, u26, u27, u28, u29, u30, u31, u32, undef, undef], defers := [] })
      (fun x a' _ X Y row hs hg hr => by obtain ⟨Bx, h2, h3⟩ := hs; exact ⟨Bx, (grownBy_keeps_cells hg (fun r e => (hr r e).2) h2 rfl).trans h2, h3⟩)
      ?assign ?body ?done ?stop)
    case assign =>
      rintro l pre x X K ⟨hb, hmk, hB⟩ hK
      unfold frEnc
      generalize ((0 + x.val : Nat) : Int) = z at hK ⊢
      generalize frAt d per seg (0 + x.val) = f at hK ⊢
      clear hs2 c1 c2 c3 c4 r0 r1 rs hcs hcp hbsD
      gi_wp2
      have hal := World.alloc_heap_new X (.cells #[.int .i64 f.e, .int .i64 f.a, .int .i64 f.k, .string ⟨f.s.toArray⟩] 86)
      exact hK _ _ ((KeepsOthers.alloc _ _).from _) (kpF_only hB.size (Only.alloc _ _ _)) ⟨hb.only (Only.alloc _ _ _), hmk.only (Only.alloc _ _ _), hB.alloc hB.size _⟩ ⟨X.heap.size, hal, rfl⟩
    case body =>
      rintro l pre x a' X hl ⟨r, hr⟩ ⟨hb, hmk, hB⟩ ⟨Bx, hX, rfl⟩ hlt
      obtain ⟨i0, i1, is⟩ := hb
      have hsn := newPre_snoc (frAt d per seg) seg (newest (frAt d per) per seg) pre x
      generalize newPre (frAt d per seg) seg (newest (frAt d per) per seg) pre = q at hsn i0 i1
      generalize hf : frAt d per seg (0 + x.val) = f at hX hsn ⊢
      clear hf
      generalize ((0 + x.val : Nat) : Int) = z
      have f0 : X.cell? ⟨Bx, 0, none⟩ = some (.int .i64 f.e) := cell_at hX 0
      have e0 : X.cell? ⟨w.heap.size, 0, none⟩ = some (.int .i64 q.1) := cell_at i0 0
      have e1 : X.cell? ⟨w.heap.size + 1, 0, none⟩ = some (.int .i64 (q.2 : Int)) := cell_at i1 0
      have es : X.cell? ⟨W.heap.size, 0, none⟩ = some (.int .i64 (seg : Int)) := cell_at is 0
      have e0f : X.frozen? ⟨w.heap.size, 0, none⟩ = false := free_at i0 0
      have e1f : X.frozen? ⟨w.heap.size + 1, 0, none⟩ = false := free_at i1 0
      have hmix : Tryd.prog.follows .mixedOrders = true := by kernel_rfl
      clear hs2 c1 c2 c3 c4 r0 r1 rs hcs hcp hbsD
      have HSN := Lib.hid hsn
      clear hsn
      by_cases hgt : q.1 < f.e
      · gi_wp2
        gi_region_with_o (fail)
        all_goals gi_wp2
        all_goals
          obtain ⟨t1, t2, t3, t4⟩ := two_set X w.heap.size _ _ (.int .i64 f.e) (.int .i64 (seg : Int)) _ _ i0 i1
          exact ⟨t1.from _, ⟨below_only hlow hB.size t2, fun b v hb1 _ hv => by rw [t2.cell (World.block_lt_of_cell? _ _ hv) (fun e => by have := HZ1.out; rcases e with e | e <;> simp only at e <;> omega)]; exact hv⟩,
            ⟨by rw [HSN.out, if_pos hgt]; exact ⟨t3, t4, t2.keep is (fun e => by rcases e with e | e <;> omega)⟩, hmk.keeps t1, hB.trans (below_only hlow hB.size t2)⟩⟩
      · have hle : f.e ≤ q.1 := by omega
        gi_wp2
        exact ⟨KeepsFrom.refl _ _, ⟨Below.refl _ _, fun _ _ _ _ h => h⟩, ⟨by rw [HSN.out, if_neg (by omega)]; exact ⟨i0, i1, is⟩, hmk, hB⟩⟩
    case done =>
      rintro D ys X hD rfl ⟨hb, hmk, hB⟩ hK
      rw [newPre_all] at hb
      obtain ⟨i0, i1, is⟩ := hb
      clear hs2 c1 c2 c3 c4 r0 r1 rs hcs hcp hbsD
      go_wp2_with fail
      refine ⟨⟨seg + 1, D :: Ds, _, _, _, _, _, _, _, _, _, _, _, _, _, _, _, _, _, _, _, _, _, _, by omega, ⟨by rw [newest_succ]; exact i0, by rw [newest_succ]; exact i1, hB⟩, hmk.cons (B := W.heap.size) hDl (by have := (hoD.trans ho2).size; omega) hK, fun r hr => ?_, rfl⟩, ?_⟩
      · rcases List.mem_cons.1 hr with rfl | hr
        · have := hB2.size; omega
        · exact hDs r hr
      · simp [intOf]
        omega
    case stop =>
      rintro D c pre X hD _ h
      exact h.elim
  · obtain rfl : seg = segs := by omega
    have hI : ¬ (seg : Int) < (seg : Int) := by omega
    go_upto_region 10 with fail
    refine wp_mono (Q := OnlyN _) ?_ onlyN_mono
    refine wp_region_pick (fun X => X = W.drew) [(0, 1), (1, 1), (2, 0), (3, 0)] (by kernel_rfl) (by kernel_rfl) (fun _ _ _ _ _ h => h.elim) rfl ?_
    have hM1 : NewM w (newest (frAt d per) per seg) W.drew := ⟨hM.b0, hM.b1, hM.below.trans ((Only.drew W (fun _ => False)).below (fun _ _ => id) |>.mono hM.below.size)⟩
    have hMk1 := hMk.only (Only.drew W _)
    generalize W.drew = W1 at hM1 hMk1 ⊢
    have e0 : W1.cell? ⟨w.heap.size, 0, none⟩ = some (.int .i64 (newest (frAt d per) per seg).1) := cell_at hM1.b0 0
    have e1 : W1.cell? ⟨w.heap.size + 1, 0, none⟩ = some (.int .i64 ((newest (frAt d per) per seg).2 : Int)) := cell_at hM1.b1 0
    simp only [pickOps, List.getElem?_cons_zero, List.getElem?_cons_succ]
    iterate 4 (first | (refine wpL_pure (a' := ?_) ?_ rfl (fun W => ?_) ?_ ?_; rotate_left 2; (· go_simp; first | (go_bits; with_reducible rfl) | with_reducible rfl); (· simp only [put_some, List.setIfInBounds_toArray, List.set_cons_zero, List.set_cons_succ]; rfl)) | (refine wpL_held (a' := ?_) ?_ rfl (fun W hW => ?_) ?_ ?_; rotate_left 2; (· subst hW; go_simp; first | (go_bits; with_reducible rfl) | with_reducible rfl); (· simp only [put_some, List.setIfInBounds_toArray, List.set_cons_zero, List.set_cons_succ]; rfl)))
    refine wpL_nil ?_
    unfold OnlyN
    simp only
    go_wp2_with fail
    refine leaves_marks Ds W1 hMk1 hDs fun w' hl => ?_
    refine ⟨.tuple #[.int .i64 (newest (frAt d per) per seg).1, .int .i64 ((newest (frAt d per) per seg).2 : Int)], ?_, rfl, Only.of_below (hM1.below.trans hl.below) _⟩
    simp [results, Tryd.f28, go_sem]
end Go.Proofs.YtlgefjcfnnjkbaaDoor
