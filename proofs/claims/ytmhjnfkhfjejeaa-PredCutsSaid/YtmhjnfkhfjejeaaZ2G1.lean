import Derived.Test.YtmhjnfkhfjejeaaProg
import Derived.WalkKit
import Derived.WalkLawsBesides
import Derived.Lib.Hide
import Derived.KernelRfl
import Derived.Deep.LoopGhost
import Derived.Deep.QuietTactic
import Derived.BigQuiet
import Derived.OwnWalk
import Derived.ChangeKeysEq
import Derived.Deep.DeepCutAuto
namespace Go.Proofs.Ytmhjnfkhfjejeaa
set_option linter.unusedVariables false
set_option linter.unusedSimpArgs false
open Go.RowKit

/-! ### Boxes: twenty cells -/
/-- A box's cells: what it asks of each field, and as what. -/
def bxc (m v : Nat → Nat) : Array Value := #[.int .u64 (m 0), .int .u64 (m 1), .int .u64 (m 2), .int .u64 (m 3), .int .u64 (m 4), .int .u64 (m 5), .int .u64 (m 6), .int .u64 (m 7), .int .u64 (m 8), .int .u64 (m 9),
  .int .u64 (v 0), .int .u64 (v 1), .int .u64 (v 2), .int .u64 (v 3), .int .u64 (v 4), .int .u64 (v 5), .int .u64 (v 6), .int .u64 (v 7), .int .u64 (v 8), .int .u64 (v 9)]
/-- Ten numbers' cells. -/
def arc (m : Nat → Nat) : Array Value := #[.int .u64 (m 0), .int .u64 (m 1), .int .u64 (m 2), .int .u64 (m 3), .int .u64 (m 4), .int .u64 (m 5), .int .u64 (m 6), .int .u64 (m 7), .int .u64 (m 8), .int .u64 (m 9)]
def upd (m : Nat → Nat) (i x : Nat) : Nat → Nat := fun j => if j = i then x else m j
theorem cases10 {P : Nat → Prop} (h0 : P 0) (h1 : P 1) (h2 : P 2) (h3 : P 3) (h4 : P 4) (h5 : P 5) (h6 : P 6) (h7 : P 7) (h8 : P 8) (h9 : P 9) : ∀ i, i < 10 → P i := by
  intro i hi
  rcases i with _ | _ | _ | _ | _ | _ | _ | _ | _ | _ | i
  all_goals first | assumption | omega
theorem bxc_m (m v : Nat → Nat) : ∀ i, i < 10 → (bxc m v)[i]? = some (.int .u64 (m i)) := by apply cases10 <;> rfl
theorem bxc_v (m v : Nat → Nat) : ∀ i, i < 10 → (bxc m v)[10 + i]? = some (.int .u64 (v i)) := by apply cases10 <;> rfl
theorem arc_at (m : Nat → Nat) : ∀ i, i < 10 → (arc m)[i]? = some (.int .u64 (m i)) := by apply cases10 <;> rfl
theorem bxc_set_m (m v : Nat → Nat) (x : Nat) : ∀ i, i < 10 → (bxc m v).setIfInBounds i (.int .u64 x) = bxc (upd m i x) v := by apply cases10 <;> rfl
theorem bxc_set_v (m v : Nat → Nat) (x : Nat) : ∀ i, i < 10 → (bxc m v).setIfInBounds (10 + i) (.int .u64 x) = bxc m (upd v i x) := by apply cases10 <;> rfl
theorem arc_set (m : Nat → Nat) (x : Nat) : ∀ i, i < 10 → (arc m).setIfInBounds i (.int .u64 x) = arc (upd m i x) := by apply cases10 <;> rfl
theorem bxc_congr {m v m' v' : Nat → Nat} (h1 : ∀ i, i < 10 → m i = m' i) (h2 : ∀ i, i < 10 → v i = v' i) : bxc m v = bxc m' v' := by
  unfold bxc
  rw [h1 0 (by omega), h1 1 (by omega), h1 2 (by omega), h1 3 (by omega), h1 4 (by omega), h1 5 (by omega), h1 6 (by omega), h1 7 (by omega), h1 8 (by omega), h1 9 (by omega),
    h2 0 (by omega), h2 1 (by omega), h2 2 (by omega), h2 3 (by omega), h2 4 (by omega), h2 5 (by omega), h2 6 (by omega), h2 7 (by omega), h2 8 (by omega), h2 9 (by omega)]

/-- Block g holds a box. -/
def BoxAt (w : World) (g : Nat) (m v : Nat → Nat) : Prop := w.heap[g]? = some (.cells (bxc m v) 67 (0, 0))
def ArrAt (w : World) (g : Nat) (m : Nat → Nat) : Prop := w.heap[g]? = some (.cells (arc m) 65 (0, 0))
theorem BoxAt.m {w : World} {g : Nat} {m v : Nat → Nat} (h : BoxAt w g m v) {i : Nat} (hi : i < 10) : w.cell? ⟨g, i, none⟩ = some (.int .u64 (m i)) := by
  unfold World.cell?; simp only [show w.heap[g]? = _ from h]; exact bxc_m m v i hi
theorem BoxAt.v {w : World} {g : Nat} {m v : Nat → Nat} (h : BoxAt w g m v) {i : Nat} (hi : i < 10) : w.cell? ⟨g, 10 + i, none⟩ = some (.int .u64 (v i)) := by
  unfold World.cell?; simp only [show w.heap[g]? = _ from h]; exact bxc_v m v i hi
theorem ArrAt.at_ {w : World} {g : Nat} {m : Nat → Nat} (h : ArrAt w g m) {i : Nat} (hi : i < 10) : w.cell? ⟨g, i, none⟩ = some (.int .u64 (m i)) := by
  unfold World.cell?; simp only [show w.heap[g]? = _ from h]; exact arc_at m i hi
theorem BoxAt.free {w : World} {g : Nat} {m v : Nat → Nat} (h : BoxAt w g m v) (k : Nat) : w.frozen? ⟨g, k, none⟩ = false := by
  unfold World.frozen?; simp [show w.heap[g]? = _ from h]
theorem ArrAt.free {w : World} {g : Nat} {m : Nat → Nat} (h : ArrAt w g m) (k : Nat) : w.frozen? ⟨g, k, none⟩ = false := by
  unfold World.frozen?; simp [show w.heap[g]? = _ from h]
theorem BoxAt.lt {w : World} {g : Nat} {m v : Nat → Nat} (h : BoxAt w g m v) : g < w.heap.size := by
  rcases Nat.lt_or_ge g w.heap.size with hlt | hge
  · exact hlt
  · have := Array.getElem?_eq_none hge; rw [show w.heap[g]? = _ from h] at this; cases this
theorem set_at {w : World} {g i : Nat} {cs : Array Value} {t : TypeId} {u : Value} (h : w.heap[g]? = some (.cells cs t (0, 0))) : (w.setCell ⟨g, i, none⟩ u).heap[g]? = some (.cells (cs.setIfInBounds i u) t (0, 0)) := by
  simp [World.setCell, Array.getElem?_modify, h]
theorem BoxAt.set_m {w : World} {g : Nat} {m v : Nat → Nat} (h : BoxAt w g m v) {i : Nat} (hi : i < 10) (x : Nat) : BoxAt (w.setCell ⟨g, i, none⟩ (.int .u64 x)) g (upd m i x) v := by
  unfold BoxAt; rw [set_at h, bxc_set_m m v x i hi]
theorem BoxAt.set_v {w : World} {g : Nat} {m v : Nat → Nat} (h : BoxAt w g m v) {i : Nat} (hi : i < 10) (x : Nat) : BoxAt (w.setCell ⟨g, 10 + i, none⟩ (.int .u64 x)) g m (upd v i x) := by
  unfold BoxAt; rw [set_at h, bxc_set_v m v x i hi]
theorem ArrAt.set_ {w : World} {g : Nat} {m : Nat → Nat} (h : ArrAt w g m) {i : Nat} (hi : i < 10) (x : Nat) : ArrAt (w.setCell ⟨g, i, none⟩ (.int .u64 x)) g (upd m i x) := by
  unfold ArrAt; rw [set_at h, arc_set m x i hi]
theorem BoxAt.far {w : World} {g : Nat} {m v : Nat → Nat} (h : BoxAt w g m v) {p : Addr} (hp : g ≠ p.block) (u : Value) : BoxAt (w.setCell p u) g m v := (Below.heap_setCell w p u g hp).trans h
theorem ArrAt.far {w : World} {g : Nat} {m : Nat → Nat} (h : ArrAt w g m) {p : Addr} (hp : g ≠ p.block) (u : Value) : ArrAt (w.setCell p u) g m := (Below.heap_setCell w p u g hp).trans h
theorem info67 : (Try.prog.info? 67).map (·.size) = some 20 := by kernel_rfl
theorem info65 : (Try.prog.info? 65).map (·.size) = some 10 := by kernel_rfl
theorem info45 : (Try.prog.info? 45).map (·.size) = some 1 := by kernel_rfl
theorem part45 (x : Nat → Nat) (w : World) (i : Nat) (hi : i < 10) : (part 45 (arc x) (i * 1)).run Try.prog w = .ok (.int .u64 (x i)) w := by
  have h : (arc x)[i]? = some (.int .u64 (x i)) := arc_at x i hi
  have hu := Try.underlying45
  rw [Nat.mul_one]
  simp [part, isAgg, run_underlying hu, Sem.run_bind, h]
theorem eqItems_arr (d : Nat) (x y : Nat → Nat) (w : World) : ∀ is : List Nat, (∀ i ∈ is, i < 10) → (Op.eqItems (d + 1) 45 1 (arc x) (arc y) is).run Try.prog w = .ok (is.all fun i => x i == y i) w := by
  intro is
  induction is with
  | nil => intro _; simp [Op.eqItems]
  | cons j is ih =>
    intro h
    have hj := h j (by simp)
    have e : (Op.equalIn (d + 1) 45 (.int .u64 (x j : Int)) (.int .u64 (y j : Int))).run Try.prog w = .ok ((x j : Int) == (y j : Int)) w := run_equalIn_int w d 45 .u64 .u64 _ _ Try.underlying45
    simp only [Op.eqItems, Sem.run_bind, part45 x w j hj, part45 y w j hj, Result.andThen_ok, e]
    have e2 : ((x j : Int) == (y j : Int)) = (x j == y j) := by
      rw [Bool.eq_iff_iff, beq_iff_eq, beq_iff_eq]; omega
    rw [e2]
    cases hq : (x j == y j)
    · simp [hq]
    · simp [hq, ih (fun i hi => h i (by simp [hi]))]
/-- Are ten numbers the same? -/
def sameA (x y : Nat → Nat) : Bool := (List.range 10).all fun i => x i == y i
theorem sameA_iff (x y : Nat → Nat) : sameA x y = true ↔ ∀ i, i < 10 → x i = y i := by
  unfold sameA; simp
@[go_sem] theorem eqArr (d : Nat) (w : World) (x y : Nat → Nat) : (Op.equalIn (d + 2) 65 (.agg (arc x)) (.agg (arc y))).run Try.prog w = .ok (sameA x y) w := by
  obtain ⟨i, hi, hs⟩ : ∃ i, Try.prog.info? 45 = some i ∧ i.size = 1 := by
    have h := info45
    cases hq : Try.prog.info? 45 with
    | none => rw [hq] at h; cases h
    | some i => rw [hq] at h; exact ⟨i, rfl, Option.some.inj h⟩
  have hc : Try.prog.cellsOf 45 = 1 := by simp [Program.cellsOf, hi, hs]
  rw [run_equalIn_array w (d + 1) (arc x) (arc y) Try.underlying65 hi, hc]
  exact eqItems_arr d x y w _ (fun i hi => by simpa using hi)
theorem wp_store_row {P : Program} {o : Oper} {a : Act} {w : World} {K : Act → World → Prop} {Q : Exit → Act → World → Prop} (ty : TypeId) (x v : Operand) (ho : o.op = .store ty x v) (hN : o.dst = none)
    (g : Nat) (hx : a.eval x = .pointer (some ⟨g, 0, none⟩)) (c' : Array Value) (hv : a.eval v = .agg c') (cs : Array Value) (t : TypeId) (hg : w.heap[g]? = some (.cells cs t (0, 0)))
    (hi : (P.info? ty).map (·.size) = some c'.size) (hs : cs.size = c'.size) (h1 : c'.all (·.oneCell') = true)
    (h : K a (w.setRow g c')) : o.wp P a w K Q := by
  have hst : (storeVar ty ⟨g, 0, none⟩ (.agg c')).run P w = .ok () (w.setRow g c') := by
    first | exact run_storeVar_row w g t ty cs c' hg hi hs h1 | exact run_storeVar_row w g ty t cs c' hg hi hs h1 | exact run_storeVar_row _ _ _ _ _ _ hg hi hs h1
  unfold Oper.wp execOp
  simp only [ho, hx, hv, Instr.storeAt, Instr.sureAddr, Sem.run_bind, Sem.run_pure, Result.andThen_ok, hst]
  show K (a.put o.dst undef) (w.setRow g c')
  rw [hN]
  exact h
theorem wpList_store_row {P : Program} {ops : Array Oper} {rest : List Oper} {o : Oper} {a : Act} {w : World} {Q : Exit → Act → World → Prop} (hgd : o.guard = none) (ty : TypeId) (x v : Operand) (ho : o.op = .store ty x v) (hN : o.dst = none)
    (g : Nat) (hx : a.eval x = .pointer (some ⟨g, 0, none⟩)) (c' : Array Value) (hv : a.eval v = .agg c') (cs : Array Value) (t : TypeId) (hg : w.heap[g]? = some (.cells cs t (0, 0)))
    (hi : (P.info? ty).map (·.size) = some c'.size) (hs : cs.size = c'.size) (h1 : c'.all (·.oneCell') = true)
    (h : wpList P ops Q rest a (w.setRow g c')) : wpList P ops Q (o :: rest) a w :=
  wpList_plain hgd fun _ hK => wp_store_row ty x v ho hN g hx c' hv cs t hg hi hs h1 (hK _ _ h)
theorem bxc_one (m v : Nat → Nat) : (bxc m v).all (·.oneCell') = true := by simp [bxc, Value.oneCell']
theorem BoxAt.row {w : World} {g : Nat} {m v : Nat → Nat} (h : BoxAt w g m v) (m' v' : Nat → Nat) : BoxAt (w.setRow g (bxc m' v')) g m' v' := setRow_heap w g _ _ _ _ h
end Go.Proofs.Ytmhjnfkhfjejeaa
namespace Go.Proofs.Ytmhjnfkhfjejeaa
set_option linter.unusedVariables false
set_option linter.unusedSimpArgs false
open Go.RowKit

/-- The first k of what both ask. -/
def orTo (k : Nat) (m o : Nat → Nat) : Nat → Nat := fun j => if j < k then m j ||| o j else m j
def andTo (k : Nat) (v m o : Nat → Nat) : Nat → Nat := fun j => if j < k then v j &&& (m j &&& o j) else 0
structure MeetC (w : World) (m v o p : Nat → Nat) (k j i : Nat) (wr : World) : Prop where
  hb : BoxAt wr w.heap.size (orTo k m o) (orTo j v p)
  ho : BoxAt wr (w.heap.size + 1) o p
  hz : BoxAt wr (w.heap.size + 1 + 1) (fun _ => 0) (fun _ => 0)
  hx : ArrAt wr (w.heap.size + 1 + 1 + 1) (andTo i v m o)
  hy : ArrAt wr (w.heap.size + 1 + 1 + 1 + 1) (andTo i p m o)
  below : Below w.heap.size w wr
abbrev MeetW (w : World) (m v o p : Nat → Nat) (k : Nat) (wr : World) : Prop := MeetC w m v o p k k k wr
theorem heap_new (w : World) (o : Obj) : (w.alloc o).heap[w.heap.size]? = some o := by
  show (w.heap.push o)[w.heap.size]? = some o
  simp
theorem Below.row_new {w : World} {B g : Nat} (h : B ≤ g) (cs : Array Value) : Below B w (w.setRow g cs) :=
  ⟨rfl, rfl, rfl, by simp, fun k hk => setRow_other w g k cs (by omega)⟩
theorem BoxAt.alloc {w : World} {g : Nat} {m v : Nat → Nat} (h : BoxAt w g m v) (o : Obj) : BoxAt (w.alloc o) g m v := (Below.heap_alloc w o g h.lt).trans h
theorem BoxAt.new (w : World) (m v : Nat → Nat) : BoxAt (w.alloc (.cells (bxc m v) 67)) w.heap.size m v := heap_new w _
theorem ArrAt.new (w : World) (m : Nat → Nat) : ArrAt (w.alloc (.cells (arc m) 65)) w.heap.size m := heap_new w _
theorem meet_start (m v o p : Nat → Nat) (w : World) : MeetW w m v o p 0 (((((w.alloc (.cells (bxc m v) 67)).alloc (.cells (bxc o p) 67)).alloc (.cells #[.int .u64 0, .int .u64 0, .int .u64 0, .int .u64 0, .int .u64 0, .int .u64 0, .int .u64 0, .int .u64 0, .int .u64 0, .int .u64 0, .int .u64 0, .int .u64 0, .int .u64 0, .int .u64 0, .int .u64 0, .int .u64 0, .int .u64 0, .int .u64 0, .int .u64 0, .int .u64 0] 67)).alloc (.cells #[.int .u64 0, .int .u64 0, .int .u64 0, .int .u64 0, .int .u64 0, .int .u64 0, .int .u64 0, .int .u64 0, .int .u64 0, .int .u64 0] 65)).alloc (.cells #[.int .u64 0, .int .u64 0, .int .u64 0, .int .u64 0, .int .u64 0, .int .u64 0, .int .u64 0, .int .u64 0, .int .u64 0, .int .u64 0] 65)) := by
  have s1 : (w.alloc (.cells (bxc m v) 67)).heap.size = w.heap.size + 1 := by simp
  have s2 : ((w.alloc (.cells (bxc m v) 67)).alloc (.cells (bxc o p) 67)).heap.size = w.heap.size + 1 + 1 := by simp
  have s3 : (((w.alloc (.cells (bxc m v) 67)).alloc (.cells (bxc o p) 67)).alloc (.cells #[.int .u64 0, .int .u64 0, .int .u64 0, .int .u64 0, .int .u64 0, .int .u64 0, .int .u64 0, .int .u64 0, .int .u64 0, .int .u64 0, .int .u64 0, .int .u64 0, .int .u64 0, .int .u64 0, .int .u64 0, .int .u64 0, .int .u64 0, .int .u64 0, .int .u64 0, .int .u64 0] 67)).heap.size = w.heap.size + 1 + 1 + 1 := by simp
  have s4 : ((((w.alloc (.cells (bxc m v) 67)).alloc (.cells (bxc o p) 67)).alloc (.cells #[.int .u64 0, .int .u64 0, .int .u64 0, .int .u64 0, .int .u64 0, .int .u64 0, .int .u64 0, .int .u64 0, .int .u64 0, .int .u64 0, .int .u64 0, .int .u64 0, .int .u64 0, .int .u64 0, .int .u64 0, .int .u64 0, .int .u64 0, .int .u64 0, .int .u64 0, .int .u64 0] 67)).alloc (.cells #[.int .u64 0, .int .u64 0, .int .u64 0, .int .u64 0, .int .u64 0, .int .u64 0, .int .u64 0, .int .u64 0, .int .u64 0, .int .u64 0] 65)).heap.size = w.heap.size + 1 + 1 + 1 + 1 := by simp
  refine ⟨?_, ?_, ?_, ?_, ?_, ?_⟩
  · exact ((((BoxAt.new w m v).alloc _).alloc _).alloc _).alloc _
  · have h := BoxAt.new (w.alloc (.cells (bxc m v) 67)) o p
    rw [s1] at h
    exact ((h.alloc _).alloc _).alloc _
  · have h := BoxAt.new ((w.alloc (.cells (bxc m v) 67)).alloc (.cells (bxc o p) 67)) (fun _ => 0) (fun _ => 0)
    rw [s2] at h
    exact (h.alloc _).alloc _
  · have h := ArrAt.new (((w.alloc (.cells (bxc m v) 67)).alloc (.cells (bxc o p) 67)).alloc (.cells #[.int .u64 0, .int .u64 0, .int .u64 0, .int .u64 0, .int .u64 0, .int .u64 0, .int .u64 0, .int .u64 0, .int .u64 0, .int .u64 0, .int .u64 0, .int .u64 0, .int .u64 0, .int .u64 0, .int .u64 0, .int .u64 0, .int .u64 0, .int .u64 0, .int .u64 0, .int .u64 0] 67)) (fun _ => 0)
    rw [s3] at h
    exact (Below.heap_alloc _ _ _ (by rw [s4]; omega)).trans h
  · have h := ArrAt.new ((((w.alloc (.cells (bxc m v) 67)).alloc (.cells (bxc o p) 67)).alloc (.cells #[.int .u64 0, .int .u64 0, .int .u64 0, .int .u64 0, .int .u64 0, .int .u64 0, .int .u64 0, .int .u64 0, .int .u64 0, .int .u64 0, .int .u64 0, .int .u64 0, .int .u64 0, .int .u64 0, .int .u64 0, .int .u64 0, .int .u64 0, .int .u64 0, .int .u64 0, .int .u64 0] 67)).alloc (.cells #[.int .u64 0, .int .u64 0, .int .u64 0, .int .u64 0, .int .u64 0, .int .u64 0, .int .u64 0, .int .u64 0, .int .u64 0, .int .u64 0] 65)) (fun _ => 0)
    rw [s4] at h
    exact h
  · exact (((((Below.refl _ _).alloc (by simp) _).alloc (by simp) _).alloc (by simp; omega) _).alloc (by simp; omega) _).alloc (by simp; omega) _
theorem orTo_step {k : Nat} (m o : Nat → Nat) : ∀ i, upd (orTo k m o) k (m k ||| o k) i = orTo (k + 1) m o i := by
  intro i; unfold upd orTo
  (repeat' split) <;> first | rfl | (exfalso; omega) | (subst_vars; rfl)
theorem andTo_step {k : Nat} (v m o : Nat → Nat) : ∀ i, upd (andTo k v m o) k (v k &&& (m k &&& o k)) i = andTo (k + 1) v m o i := by
  intro i; unfold upd andTo
  (repeat' split) <;> first | rfl | (exfalso; omega) | (subst_vars; rfl)
theorem MeetC.drewN {w : World} {m v o p : Nat → Nat} {k j i : Nat} {wr : World} (h : MeetC w m v o p k j i wr) (n : Nat) : MeetC w m v o p k j i (wr.drewN n) := ⟨h.hb, h.ho, h.hz, h.hx, h.hy, ⟨h.below.os, h.below.tape, h.below.output, h.below.size, h.below.block⟩⟩
theorem and_lt {a b : Nat} (h : a < 18446744073709551616) : a &&& b < 18446744073709551616 := Nat.lt_of_le_of_lt Nat.and_le_left h
theorem bits_and {a b : Nat} (ha : a < 18446744073709551616) (hb : b < 18446744073709551616) : Go.bits .and .u64 (a : Int) (b : Int) = ((a &&& b : Nat) : Int) := Go.u64_and_nat a b ha hb
theorem BoxAt.congr {w : World} {g : Nat} {m v m' v' : Nat → Nat} (h : BoxAt w g m v) (h1 : ∀ i, i < 10 → m i = m' i) (h2 : ∀ i, i < 10 → v i = v' i) : BoxAt w g m' v' := by
  unfold BoxAt; rw [← bxc_congr h1 h2]; exact h
theorem ArrAt.congr {w : World} {g : Nat} {m m' : Nat → Nat} (h : ArrAt w g m) (h1 : ∀ i, i < 10 → m i = m' i) : ArrAt w g m' := by
  unfold ArrAt at *; rw [h]; unfold arc
  rw [h1 0 (by omega), h1 1 (by omega), h1 2 (by omega), h1 3 (by omega), h1 4 (by omega), h1 5 (by omega), h1 6 (by omega), h1 7 (by omega), h1 8 (by omega), h1 9 (by omega)]
set_option maxHeartbeats 4000000 in
set_option maxRecDepth 100000 in
theorem meet_any (m v o p : Nat → Nat) (hm : ∀ i, m i < 18446744073709551616) (hv : ∀ i, v i < 18446744073709551616) (hmo : ∀ i, o i < 18446744073709551616) (hp : ∀ i, p i < 18446744073709551616) (w : World) :
    Calls Try.prog 49 #[.agg (bxc m v), .agg (bxc o p)] w fun e w' => e = .returned (.tuple #[.agg (if sameA (andTo 10 v m o) (andTo 10 p m o) then bxc (orTo 10 m o) (orTo 10 v p) else bxc (fun _ => 0) (fun _ => 0)), .bool (sameA (andTo 10 v m o) (andTo 10 p m o))]) ∧ Below w.heap.size w w' := by
  have h0 := meet_start m v o p w
  go_enter Try.func49, Try.ntmps49
  go_wp2_with fail
  generalize (((((w.alloc (.cells (bxc m v) 67)).alloc (.cells (bxc o p) 67)).alloc (.cells #[.int .u64 0, .int .u64 0, .int .u64 0, .int .u64 0, .int .u64 0, .int .u64 0, .int .u64 0, .int .u64 0, .int .u64 0, .int .u64 0, .int .u64 0, .int .u64 0, .int .u64 0, .int .u64 0, .int .u64 0, .int .u64 0, .int .u64 0, .int .u64 0, .int .u64 0, .int .u64 0] 67)).alloc (.cells #[.int .u64 0, .int .u64 0, .int .u64 0, .int .u64 0, .int .u64 0, .int .u64 0, .int .u64 0, .int .u64 0, .int .u64 0, .int .u64 0] 65)).alloc (.cells #[.int .u64 0, .int .u64 0, .int .u64 0, .int .u64 0, .int .u64 0, .int .u64 0, .int .u64 0, .int .u64 0, .int .u64 0, .int .u64 0] 65)) = W at h0 ⊢
  have H0 := Lib.hid h0
  clear h0
  go_loopw [10] (fun vk wr => ∃ k : Nat, vk = .int .i64 k ∧ k ≤ 10 ∧ MeetW w m v o p k wr) (fun vk _ => 10 - (intOf vk).toNat)
  case atStart => exact ⟨0, rfl, by omega, H0.out⟩
  case round =>
    obtain ⟨k, rfl, hk, H⟩ := hrel
    by_cases hlt : k < 10
    · have c1 := H.hb.m hlt
      have c2 := H.hb.v hlt
      have c3 := H.ho.m hlt
      have c4 := H.ho.v hlt
      have e1 : orTo k m o k = m k := by unfold orTo; rw [if_neg (by omega)]
      have e2 : orTo k v p k = v k := by unfold orTo; rw [if_neg (by omega)]
      rw [e1] at c1
      rw [e2] at c2
      have q1 : (k : Int) < 10 := by omega
      have B1 : Go.bits .and .u64 (m k : Int) (o k : Int) = ((m k &&& o k : Nat) : Int) := bits_and (hm k) (hmo k)
      have B2 : Go.bits .and .u64 (v k : Int) ((m k &&& o k : Nat) : Int) = ((v k &&& (m k &&& o k) : Nat) : Int) := bits_and (hv k) (and_lt (hm k))
      have B3 : Go.bits .and .u64 (p k : Int) ((m k &&& o k : Nat) : Int) = ((p k &&& (m k &&& o k) : Nat) : Int) := bits_and (hp k) (and_lt (hm k))
      go_wp2
      go_quiet (fail)
      generalize hW2 : wr.drewN _ = W2
      have H2 : MeetW w m v o p k W2 := hW2 ▸ H.drewN _
      have d1 := H2.hb.v hlt
      rw [show orTo k v p k = v k from e2] at d1
      have d2 := H2.ho.v hlt
      have d3 := H2.hx.at_ hlt
      have d4 := H2.hy.at_ hlt
      have f3 := H2.hx.free k
      have f4 := H2.hy.free k
      have H2' := Lib.hid H2
      clear hW2 H H2 c1 c2 c3 c4
      go_wp2
      go_region
      generalize hW3 : World.drew _ = W3
      have k3 : MeetC w m v o p k k (k + 1) W3 := by
        rw [← hW3]
        have x1 := (H2'.out.hx.set_ hlt (v k &&& (m k &&& o k))).far (p := ⟨w.heap.size + 1 + 1 + 1 + 1, k, none⟩) (by simp) (.int .u64 ((p k &&& (m k &&& o k) : Nat) : Int))
        have y1 := (H2'.out.hy.far (p := ⟨w.heap.size + 1 + 1 + 1, k, none⟩) (by simp) (.int .u64 ((v k &&& (m k &&& o k) : Nat) : Int))).set_ hlt (p k &&& (m k &&& o k))
        refine ⟨(H2'.out.hb.far (by simp <;> omega) _).far (by simp <;> omega) _, (H2'.out.ho.far (by simp <;> omega) _).far (by simp <;> omega) _, (H2'.out.hz.far (by simp <;> omega) _).far (by simp <;> omega) _, ?_, ?_, ((H2'.out.below.setCell (by simp; omega) _).setCell (by simp; omega) _).drew⟩
        · exact x1.congr (fun i _ => andTo_step v m o i)
        · exact y1.congr (fun i _ => andTo_step p m o i)
      have c1 := k3.hb.m hlt
      rw [show orTo k m o k = m k from e1] at c1
      have c2 := k3.ho.m hlt
      have f1 := k3.hb.free k
      have K3 := Lib.hid k3
      clear k3 hW3 H2' d1 d2 d3 d4 f3 f4
      have B4 : Go.bits .or .u64 (m k : Int) (o k : Int) = ((m k ||| o k : Nat) : Int) := Go.u64_or_nat _ _ (hm k) (hmo k)
      have B5 : Go.bits .or .u64 (v k : Int) (p k : Int) = ((v k ||| p k : Nat) : Int) := Go.u64_or_nat _ _ (hv k) (hp k)
      go_wp2
      go_region
      generalize hW4 : World.drew _ = W4
      have k4 : MeetC w m v o p (k + 1) k (k + 1) W4 := by
        rw [← hW4]
        have b1 := K3.out.hb.set_m hlt (m k ||| o k)
        exact ⟨b1.congr (fun i _ => orTo_step m o i) (fun _ _ => rfl), K3.out.ho.far (by simp) _, K3.out.hz.far (by simp; omega) _, K3.out.hx.far (by simp; omega) _, K3.out.hy.far (by simp; omega) _, (K3.out.below.setCell (by simp) _).drew⟩
      have c3 := k4.hb.v hlt
      rw [show orTo k v p k = v k from e2] at c3
      have c4 := k4.ho.v hlt
      have f2 := k4.hb.free (10 + k)
      have K4 := Lib.hid k4
      clear k4 hW4 K3 c1 c2 f1
      go_wp2
      go_region
      generalize hW5 : World.drew _ = W5
      have k5 : MeetC w m v o p (k + 1) (k + 1) (k + 1) W5 := by
        rw [← hW5]
        have b1 := K4.out.hb.set_v hlt (v k ||| p k)
        exact ⟨b1.congr (fun _ _ => rfl) (fun i _ => orTo_step v p i), K4.out.ho.far (by simp) _, K4.out.hz.far (by simp; omega) _, K4.out.hx.far (by simp; omega) _, K4.out.hy.far (by simp; omega) _, (K4.out.below.setCell (by simp) _).drew⟩
      have K5 := Lib.hid k5
      clear k5 hW5 K4
      go_wp2
      go_roundw
      case rel => exact ⟨k + 1, by go_num, by omega, K5.out⟩
      case measure => simp [intOf] <;> omega
    · obtain rfl : k = 10 := by omega
      have HX := Lib.hid H.hx
      have HY := Lib.hid H.hy
      have HH := Lib.hid H
      clear H
      cases hq : sameA (andTo 10 v m o) (andTo 10 p m o) with
      | true =>
        go_wp2_with (first
          | (refine wpList_load_row rfl 65 (.tmp 6) rfl (w.heap.size + 1 + 1 + 1) rfl 65 (arc (andTo 10 v m o)) (0, 0) _ HX.out Try.underlying65 rfl info65 ?_)
          | (refine wpList_load_row rfl 65 (.tmp 7) rfl (w.heap.size + 1 + 1 + 1 + 1) rfl 65 (arc (andTo 10 p m o)) (0, 0) _ HY.out Try.underlying65 rfl info65 ?_)
          | (refine wpList_load_row rfl 67 (.tmp 2) rfl w.heap.size rfl 67 (bxc (orTo 10 m o) (orTo 10 v p)) (0, 0) _ HH.out.hb Try.underlying67 rfl info67 ?_)
          | (refine wpList_store_row rfl 67 (.tmp 4) (.tmp 65) rfl rfl (w.heap.size + 1 + 1) rfl (bxc (orTo 10 m o) (orTo 10 v p)) rfl (bxc (fun _ => 0) (fun _ => 0)) 67 HH.out.hz info67 rfl (bxc_one _ _) ?_))
        have hz2 := HH.out.hz.row (orTo 10 m o) (orTo 10 v p)
        have hbl := HH.out.below.trans (Below.row_new (w := wr) (B := w.heap.size) (by omega : w.heap.size ≤ w.heap.size + 1 + 1) (bxc (orTo 10 m o) (orTo 10 v p)))
        have hlr : (loadVar 67 ⟨w.heap.size + 1 + 1, 0, none⟩).run Try.prog (wr.setRow (w.heap.size + 1 + 1) (bxc (orTo 10 m o) (orTo 10 v p))) = .ok (.agg (bxc (orTo 10 m o) (orTo 10 v p))) _ := run_loadVar_row _ _ 67 67 _ (0, 0) _ hz2 Try.underlying67 rfl info67
        refine bodyPost_ret (v := .tuple #[.agg (bxc (orTo 10 m o) (orTo 10 v p)), .bool true]) ?_ rfl ⟨by simp [hq], hbl⟩
        rw [results_cell_tmp (fn := Try.f49) (p := 4) (u := 5) (ty := 67) rfl]
        simp [asAddr, Result.andThen, hlr]
      | false =>
        go_wp2_with (first
          | (refine wpList_load_row rfl 65 (.tmp 6) rfl (w.heap.size + 1 + 1 + 1) rfl 65 (arc (andTo 10 v m o)) (0, 0) _ HX.out Try.underlying65 rfl info65 ?_)
          | (refine wpList_load_row rfl 65 (.tmp 7) rfl (w.heap.size + 1 + 1 + 1 + 1) rfl 65 (arc (andTo 10 p m o)) (0, 0) _ HY.out Try.underlying65 rfl info65 ?_)
          | (refine wpList_load_row rfl 67 (.tmp 2) rfl w.heap.size rfl 67 (bxc (orTo 10 m o) (orTo 10 v p)) (0, 0) _ HH.out.hb Try.underlying67 rfl info67 ?_)
          | (refine wpList_store_row rfl 67 (.tmp 4) (.tmp 64) rfl rfl (w.heap.size + 1 + 1) rfl (bxc (fun _ => 0) (fun _ => 0)) rfl (bxc (fun _ => 0) (fun _ => 0)) 67 HH.out.hz info67 rfl (bxc_one (fun _ => 0) (fun _ => 0)) ?_))
        all_goals
          have hz2 := HH.out.hz.row (fun _ => 0) (fun _ => 0)
          have hbl := HH.out.below.trans (Below.row_new (w := wr) (B := w.heap.size) (by omega : w.heap.size ≤ w.heap.size + 1 + 1) (bxc (fun _ => 0) (fun _ => 0)))
          have hlr : (loadVar 67 ⟨w.heap.size + 1 + 1, 0, none⟩).run Try.prog (wr.setRow (w.heap.size + 1 + 1) (bxc (fun _ => 0) (fun _ => 0))) = .ok (.agg (bxc (fun _ => 0) (fun _ => 0))) _ := run_loadVar_row _ _ 67 67 _ (0, 0) _ hz2 Try.underlying67 rfl info67
          refine bodyPost_ret (v := .tuple #[.agg (bxc (fun _ => 0) (fun _ => 0)), .bool false]) ?_ rfl ⟨by simp [hq], hbl⟩
          rw [results_cell_tmp (fn := Try.f49) (p := 4) (u := 5) (ty := 67) rfl]
          simp [asAddr, Result.andThen, hlr]
end Go.Proofs.Ytmhjnfkhfjejeaa
namespace Go.Proofs.Ytmhjnfkhfjejeaa
set_option linter.unusedVariables false
set_option linter.unusedSimpArgs false
open Go.RowKit

/-- A row of n elements of one cell each, of which the k-th is f k. -/
def RowF (w : World) (a : Option Addr) (n : Nat) (f : Nat → Value) : Prop := ∀ k, k < n → ∃ b off, a = some ⟨b, off, none⟩ ∧ w.cell? ⟨b, off + k, none⟩ = some (f k)
theorem RowF.below {w w' : World} {a : Option Addr} {n : Nat} {f : Nat → Value} (h : RowF w a n f) (hb : Below w.heap.size w w') : RowF w' a n f := fun k hk => by
  obtain ⟨b, off, e, hc⟩ := h k hk
  exact ⟨b, off, e, (hb.cell (p := ⟨b, off + k, none⟩) (World.block_lt_of_cell? w _ hc)).trans hc⟩
/-- The k-th of a list. -/
def at0 (l : List Nat) (k : Nat) : Nat := l.getD k 0
def lt64 (l : List Nat) : Prop := ∀ x ∈ l, x < 18446744073709551616
theorem at0_lt (l : List Nat) (hl : lt64 l) (k : Nat) : at0 l k < 18446744073709551616 := by
  unfold at0
  rw [List.getD_eq_getElem?_getD]
  rcases Nat.lt_or_ge k l.length with h | h
  · rw [List.getElem?_eq_getElem h]; exact hl _ (List.getElem_mem h)
  · rw [List.getElem?_eq_none h]; simp
theorem ret_bool {a b : Bool} (h : a = b) : Ending.returned (.bool a) = .returned (.bool b) := by rw [h]
theorem nat_eq (a b : Nat) : ((a : Int) == (b : Int)) = decide (a = b) := by
  rw [Bool.eq_iff_iff, beq_iff_eq, decide_eq_true_eq]; omega
theorem nat_zero (a : Nat) : ((a : Int) == 0) = decide (a = 0) := nat_eq a 0

/-- May a test be? -/
def testB (f : Int) (v m : Nat) : Bool := decide (1 ≤ f) && (decide (f < 10) && decide (v &&& (18446744073709551615 - m) = 0))
theorem testB_iff (f : Int) (v m : Nat) : testB f v m = true ↔ 1 ≤ f ∧ f < 10 ∧ v &&& (18446744073709551615 - m) = 0 := by
  unfold testB; simp
/-- Does a test hold of values? -/
def holdsB (l : List Nat) (f : Int) (v m : Nat) : Bool := decide (at0 l f.toNat &&& m = v)

set_option maxHeartbeats 4000000 in
set_option maxRecDepth 100000 in
theorem testRight_any (f : Int) (v m : Nat) (hv : v < 18446744073709551616) (hm : m < 18446744073709551616) (w : World) :
    Calls Try.prog 51 #[.agg #[.int .i64 f, .int .u64 v, .int .u64 m]] w fun e w' => e = .returned (.bool (testB f v m)) ∧ Below w.heap.size w w' := by
  have B1 := Go.u64_andNot_nat v m hv hm
  have hb : Below w.heap.size w (w.alloc (.cells #[.int .i64 f, .int .u64 v, .int .u64 m] 47)) := (Below.refl _ _).alloc (Nat.le_refl _) _
  have HB := Lib.hid hb
  clear hb
  by_cases h1 : 1 ≤ f
  · by_cases h2 : f < 10
    · have e : testB f v m = decide (v &&& (18446744073709551615 - m) = 0) := by unfold testB; simp [h1, h2]
      rw [e]
      clear e
      go_enter Try.func51, Try.ntmps51
      go_wp2
      go_ret
      exact ⟨ret_bool (nat_zero _), HB.out⟩
    · have e : testB f v m = false := by unfold testB; simp [h2]
      rw [e]
      clear e
      go_enter Try.func51, Try.ntmps51
      go_wp2
      go_ret
      exact ⟨rfl, HB.out⟩
  · have e : testB f v m = false := by unfold testB; simp [h1]
    rw [e]
    clear e
    go_enter Try.func51, Try.ntmps51
    go_wp2
    go_ret
    exact ⟨rfl, HB.out⟩

set_option maxHeartbeats 4000000 in
set_option maxRecDepth 100000 in
theorem rtestRight_any (f : Int) (v m : Nat) (hv : v < 18446744073709551616) (hm : m < 18446744073709551616) (w : World) :
    Calls Try.prog 57 #[.agg #[.int .i64 f, .int .u64 v, .int .u64 m]] w fun e w' => e = .returned (.bool (testB f v m)) ∧ Below w.heap.size w w' := by
  have B1 := Go.u64_andNot_nat v m hv hm
  have hb : Below w.heap.size w (w.alloc (.cells #[.int .i64 f, .int .u64 v, .int .u64 m] 47)) := (Below.refl _ _).alloc (Nat.le_refl _) _
  have HB := Lib.hid hb
  clear hb
  by_cases h1 : 1 ≤ f
  · by_cases h2 : f < 10
    · have e : testB f v m = decide (v &&& (18446744073709551615 - m) = 0) := by unfold testB; simp [h1, h2]
      rw [e]
      clear e
      have h9 : f ≤ 9 := by omega
      go_enter Try.func57, Try.ntmps57
      go_wp2
      go_ret
      exact ⟨ret_bool (nat_zero _), HB.out⟩
    · have e : testB f v m = false := by unfold testB; simp [h2]
      rw [e]
      clear e
      have h9 : ¬ f ≤ 9 := by omega
      go_enter Try.func57, Try.ntmps57
      go_wp2
      go_ret
      exact ⟨rfl, HB.out⟩
  · have e : testB f v m = false := by unfold testB; simp [h1]
    rw [e]
    clear e
    go_enter Try.func57, Try.ntmps57
    go_wp2
    go_ret
    exact ⟨rfl, HB.out⟩

set_option maxHeartbeats 4000000 in
set_option maxRecDepth 100000 in
theorem holds_any (f : Int) (v m : Nat) (hf : 0 ≤ f) (hm : m < 18446744073709551616) (A : Option Addr) (c : Nat) (l : List Nat) (hl : lt64 l) (w : World) (hr : RowF w A l.length (fun k => .int .u64 (at0 l k))) :
    Calls Try.prog 45 #[.agg #[.int .i64 f, .int .u64 v, .int .u64 m], .slice A l.length c] w fun e w' => e = .returned (.bool (holdsB l f v m)) ∧ Below w.heap.size w w' := by
  obtain ⟨k, rfl⟩ := Int.eq_ofNat_of_zero_le hf
  have B1 := Go.u64_and_nat (at0 l k) m (at0_lt l hl k) hm
  have B2 := Go.u64_and_nat 0 m (by omega) hm
  have hb : Below w.heap.size w (w.alloc (.cells #[.int .i64 k, .int .u64 v, .int .u64 m] 47)) := (Below.refl _ _).alloc (Nat.le_refl _) _
  have HB := Lib.hid hb
  clear hb
  by_cases h1 : k < l.length
  · obtain ⟨b, off, rfl, c1⟩ := hr.below ((Below.refl w.heap.size w).alloc (Nat.le_refl _) (.cells #[.int .i64 k, .int .u64 v, .int .u64 m] 47)) k h1
    have q1 : (k : Int) < (l.length : Int) := by omega
    have HL := Lib.hid hl
    have HR := Lib.hid hr
    clear hl hr
    go_enter Try.func45, Try.ntmps45
    go_wp2
    go_ret
    exact ⟨ret_bool (nat_eq _ _), HB.out⟩
  · have e : at0 l k = 0 := by unfold at0; rw [List.getD_eq_getElem?_getD, List.getElem?_eq_none (by omega)]; rfl
    have q1 : ¬ (k : Int) < (l.length : Int) := by omega
    have HE := Lib.hid e
    have B3 : Go.bits .and .u64 0 (m : Int) = ((0 &&& m : Nat) : Int) := B2
    have HL := Lib.hid hl
    have HR := Lib.hid hr
    clear hl hr e B1 B2
    go_enter Try.func45, Try.ntmps45
    go_wp2
    go_ret
    refine ⟨ret_bool ?_, HB.out⟩
    unfold holdsB
    rw [Int.toNat_natCast, HE.out]
    simp only [Nat.zero_and]
    exact nat_eq 0 v

end Go.Proofs.Ytmhjnfkhfjejeaa
namespace Go.Proofs.Ytmhjnfkhfjejeaa
set_option linter.unusedVariables false
set_option linter.unusedSimpArgs false
open Go.RowKit
/-- L is how many bits x takes. -/
def IsLen (x L : Nat) : Prop := x < 2 ^ L ∧ (0 < x → 1 ≤ L ∧ 2 ^ (L - 1) ≤ x)
instance (x L : Nat) : Decidable (IsLen x L) := by unfold IsLen; infer_instance
theorem IsLen.shr {x k L : Nat} (h : IsLen (x / 2 ^ k) L) (hx : 2 ^ k ≤ x) : IsLen x (k + L) := by
  obtain ⟨h1, h2⟩ := h
  have hp : 0 < 2 ^ k := Nat.two_pow_pos k
  have h0 : 0 < x / 2 ^ k := Nat.div_pos hx hp
  obtain ⟨h3, h4⟩ := h2 h0
  refine ⟨?_, fun _ => ⟨by omega, ?_⟩⟩
  · rw [Nat.add_comm, Nat.pow_add]
    exact (Nat.div_lt_iff_lt_mul hp).1 h1
  · rw [show k + L - 1 = (L - 1) + k by omega, Nat.pow_add]
    exact (Nat.le_div_iff_mul_le hp).1 h4
theorem tab_at (S : ByteArray) (i : Nat) (h : i < S.size) : S[i]'h = S.data.toList.getD i 0 := by
  have h' : i < S.data.toList.length := by rw [Array.length_toList]; exact h
  rw [List.getD_eq_getElem?_getD, List.getElem?_eq_getElem h', Option.getD_some, Array.getElem_toList]
  rfl
theorem wrap_small {a : Int} (h0 : 0 ≤ a) (h1 : a < 9223372036854775808) : wrap64 a = a := by unfold wrap64; omega
theorem ret_int {a b : Int} (h : a = b) : Ending.returned (.int .i64 a) = .returned (.int .i64 b) := by rw [h]
set_option maxHeartbeats 4000000 in
set_option maxRecDepth 100000 in
theorem len64_any (x : Nat) (hx : x < 18446744073709551616) (w : World) :
    Calls Try.prog 64 #[.int .u64 x] w fun e w' => ∃ L : Nat, e = .returned (.int .i64 L) ∧ L ≤ 64 ∧ IsLen x L ∧ w = w' := by
  by_cases h0 : 4294967296 ≤ x
  · obtain ⟨x1, e1⟩ : ∃ x1 : Nat, x / 4294967296 = x1 := ⟨_, rfl⟩
    have i1 : (x : Int) / 4294967296 = (x1 : Int) := by omega
    have p1 : (4294967296 : Int) ≤ (x : Int) := by omega
    by_cases h1 : 65536 ≤ x1
    · obtain ⟨x2, e2⟩ : ∃ x2 : Nat, x1 / 65536 = x2 := ⟨_, rfl⟩
      have i2 : (x1 : Int) / 65536 = (x2 : Int) := by omega
      have p2 : (65536 : Int) ≤ (x1 : Int) := by omega
      by_cases h2 : 256 ≤ x2
      · obtain ⟨x3, e3⟩ : ∃ x3 : Nat, x2 / 256 = x3 := ⟨_, rfl⟩
        have i3 : (x2 : Int) / 256 = (x3 : Int) := by omega
        have p3 : (256 : Int) ≤ (x2 : Int) := by omega
        have q4 : x3 < 256 := by omega
        have q5 : (x3 : Int) % 256 = (x3 : Int) := by omega
        go_enter Try.func64, Try.ntmps64
        generalize hS : (ByteArray.mk _) = S
        have hsz : S.size = 256 := by rw [← hS]; kernel_rfl
        have htab : ∀ y, y < 256 → IsLen y (S.data.toList.getD y 0).toNat ∧ (S.data.toList.getD y 0).toNat ≤ 8 := by rw [← hS]; decide +kernel
        obtain ⟨hl, hl8⟩ := htab x3 (by omega)
        have HAT : Hid (∀ h : x3 < S.size, (S[x3]'h).toNat = (S.data.toList.getD x3 0).toNat) := Lib.hid fun h => by rw [tab_at]
        obtain ⟨L, hL⟩ : ∃ L, (S.data.toList.getD x3 0).toNat = L := ⟨_, rfl⟩
        rw [hL] at hl hl8 HAT
        have HIL := Lib.hid hl
        clear hS htab hl hL
        have HX := Lib.hid hx
        have HE1 := Lib.hid e1
        have HE2 := Lib.hid e2
        have HE3 := Lib.hid e3
        go_upto_region 10 with (fail)
        have HH0 := Lib.hid h0
        have HH1 := Lib.hid h1
        have HH2 := Lib.hid h2
        clear hx h0 h1 h2 e1 i1 p1 e2 i2 p2 e3 i3 p3
        go_wp2
        go_ret
        have hx := HX.out
        have e1 := HE1.out
        have e2 := HE2.out
        have e3 := HE3.out
        have h0 := HH0.out
        have h1 := HH1.out
        have h2 := HH2.out
        refine ⟨(32 + (16 + (8 + L))), ?_, by omega, IsLen.shr (k := 32) (by rw [show x / 2 ^ 32 = x1 from e1]; exact IsLen.shr (k := 16) (by rw [show x1 / 2 ^ 16 = x2 from e2]; exact IsLen.shr (k := 8) (by rw [show x2 / 2 ^ 8 = x3 from e3]; exact HIL.out) (by omega)) (by omega)) (by omega), rfl⟩
        have hh := HAT.out (by omega)
        refine ret_int ?_
        rw [hh]
        rw [wrap_small (a := (L : Int)) (by omega) (by omega)]
        first | (rw [wrap_small (by omega) (by omega)]; omega) | omega | (rw [wrap_small (by omega) (by omega)])
      · have p2n : ¬ (256 : Int) ≤ (x2 : Int) := by omega
        have q4 : x2 < 256 := by omega
        have q5 : (x2 : Int) % 256 = (x2 : Int) := by omega
        go_enter Try.func64, Try.ntmps64
        generalize hS : (ByteArray.mk _) = S
        have hsz : S.size = 256 := by rw [← hS]; kernel_rfl
        have htab : ∀ y, y < 256 → IsLen y (S.data.toList.getD y 0).toNat ∧ (S.data.toList.getD y 0).toNat ≤ 8 := by rw [← hS]; decide +kernel
        obtain ⟨hl, hl8⟩ := htab x2 (by omega)
        have HAT : Hid (∀ h : x2 < S.size, (S[x2]'h).toNat = (S.data.toList.getD x2 0).toNat) := Lib.hid fun h => by rw [tab_at]
        obtain ⟨L, hL⟩ : ∃ L, (S.data.toList.getD x2 0).toNat = L := ⟨_, rfl⟩
        rw [hL] at hl hl8 HAT
        have HIL := Lib.hid hl
        clear hS htab hl hL
        have HX := Lib.hid hx
        have HE1 := Lib.hid e1
        have HE2 := Lib.hid e2
        go_upto_region 10 with (fail)
        have HH0 := Lib.hid h0
        have HH1 := Lib.hid h1
        have HH2 := Lib.hid h2
        clear hx h0 h1 h2 e1 i1 p1 e2 i2 p2 p2n
        go_wp2
        go_ret
        have hx := HX.out
        have e1 := HE1.out
        have e2 := HE2.out
        have h0 := HH0.out
        have h1 := HH1.out
        have h2 := HH2.out
        refine ⟨(32 + (16 + L)), ?_, by omega, IsLen.shr (k := 32) (by rw [show x / 2 ^ 32 = x1 from e1]; exact IsLen.shr (k := 16) (by rw [show x1 / 2 ^ 16 = x2 from e2]; exact HIL.out) (by omega)) (by omega), rfl⟩
        have hh := HAT.out (by omega)
        refine ret_int ?_
        rw [hh]
        rw [wrap_small (a := (L : Int)) (by omega) (by omega)]
        first | (rw [wrap_small (by omega) (by omega)]; omega) | omega | (rw [wrap_small (by omega) (by omega)])
    · have p1n : ¬ (65536 : Int) ≤ (x1 : Int) := by omega
      by_cases h2 : 256 ≤ x1
      · obtain ⟨x2, e2⟩ : ∃ x2 : Nat, x1 / 256 = x2 := ⟨_, rfl⟩
        have i2 : (x1 : Int) / 256 = (x2 : Int) := by omega
        have p2 : (256 : Int) ≤ (x1 : Int) := by omega
        have q4 : x2 < 256 := by omega
        have q5 : (x2 : Int) % 256 = (x2 : Int) := by omega
        go_enter Try.func64, Try.ntmps64
        generalize hS : (ByteArray.mk _) = S
        have hsz : S.size = 256 := by rw [← hS]; kernel_rfl
        have htab : ∀ y, y < 256 → IsLen y (S.data.toList.getD y 0).toNat ∧ (S.data.toList.getD y 0).toNat ≤ 8 := by rw [← hS]; decide +kernel
        obtain ⟨hl, hl8⟩ := htab x2 (by omega)
        have HAT : Hid (∀ h : x2 < S.size, (S[x2]'h).toNat = (S.data.toList.getD x2 0).toNat) := Lib.hid fun h => by rw [tab_at]
        obtain ⟨L, hL⟩ : ∃ L, (S.data.toList.getD x2 0).toNat = L := ⟨_, rfl⟩
        rw [hL] at hl hl8 HAT
        have HIL := Lib.hid hl
        clear hS htab hl hL
        have HX := Lib.hid hx
        have HE1 := Lib.hid e1
        have HE2 := Lib.hid e2
        go_upto_region 10 with (fail)
        have HH0 := Lib.hid h0
        have HH1 := Lib.hid h1
        have HH2 := Lib.hid h2
        clear hx h0 h1 h2 e1 i1 p1 e2 i2 p2 p1n
        go_wp2
        go_ret
        have hx := HX.out
        have e1 := HE1.out
        have e2 := HE2.out
        have h0 := HH0.out
        have h1 := HH1.out
        have h2 := HH2.out
        refine ⟨(32 + (8 + L)), ?_, by omega, IsLen.shr (k := 32) (by rw [show x / 2 ^ 32 = x1 from e1]; exact IsLen.shr (k := 8) (by rw [show x1 / 2 ^ 8 = x2 from e2]; exact HIL.out) (by omega)) (by omega), rfl⟩
        have hh := HAT.out (by omega)
        refine ret_int ?_
        rw [hh]
        rw [wrap_small (a := (L : Int)) (by omega) (by omega)]
        first | (rw [wrap_small (by omega) (by omega)]; omega) | omega | (rw [wrap_small (by omega) (by omega)])
      · have p2n : ¬ (256 : Int) ≤ (x1 : Int) := by omega
        have q4 : x1 < 256 := by omega
        have q5 : (x1 : Int) % 256 = (x1 : Int) := by omega
        go_enter Try.func64, Try.ntmps64
        generalize hS : (ByteArray.mk _) = S
        have hsz : S.size = 256 := by rw [← hS]; kernel_rfl
        have htab : ∀ y, y < 256 → IsLen y (S.data.toList.getD y 0).toNat ∧ (S.data.toList.getD y 0).toNat ≤ 8 := by rw [← hS]; decide +kernel
        obtain ⟨hl, hl8⟩ := htab x1 (by omega)
        have HAT : Hid (∀ h : x1 < S.size, (S[x1]'h).toNat = (S.data.toList.getD x1 0).toNat) := Lib.hid fun h => by rw [tab_at]
        obtain ⟨L, hL⟩ : ∃ L, (S.data.toList.getD x1 0).toNat = L := ⟨_, rfl⟩
        rw [hL] at hl hl8 HAT
        have HIL := Lib.hid hl
        clear hS htab hl hL
        have HX := Lib.hid hx
        have HE1 := Lib.hid e1
        go_upto_region 10 with (fail)
        have HH0 := Lib.hid h0
        have HH1 := Lib.hid h1
        have HH2 := Lib.hid h2
        clear hx h0 h1 h2 e1 i1 p1 p1n p2n
        go_wp2
        go_ret
        have hx := HX.out
        have e1 := HE1.out
        have h0 := HH0.out
        have h1 := HH1.out
        have h2 := HH2.out
        refine ⟨(32 + L), ?_, by omega, IsLen.shr (k := 32) (by rw [show x / 2 ^ 32 = x1 from e1]; exact HIL.out) (by omega), rfl⟩
        have hh := HAT.out (by omega)
        refine ret_int ?_
        rw [hh]
        rw [wrap_small (a := (L : Int)) (by omega) (by omega)]
        first | (rw [wrap_small (by omega) (by omega)]; omega) | omega | (rw [wrap_small (by omega) (by omega)])
  · have p0n : ¬ (4294967296 : Int) ≤ (x : Int) := by omega
    by_cases h1 : 65536 ≤ x
    · obtain ⟨x1, e1⟩ : ∃ x1 : Nat, x / 65536 = x1 := ⟨_, rfl⟩
      have i1 : (x : Int) / 65536 = (x1 : Int) := by omega
      have p1 : (65536 : Int) ≤ (x : Int) := by omega
      by_cases h2 : 256 ≤ x1
      · obtain ⟨x2, e2⟩ : ∃ x2 : Nat, x1 / 256 = x2 := ⟨_, rfl⟩
        have i2 : (x1 : Int) / 256 = (x2 : Int) := by omega
        have p2 : (256 : Int) ≤ (x1 : Int) := by omega
        have q4 : x2 < 256 := by omega
        have q5 : (x2 : Int) % 256 = (x2 : Int) := by omega
        go_enter Try.func64, Try.ntmps64
        generalize hS : (ByteArray.mk _) = S
        have hsz : S.size = 256 := by rw [← hS]; kernel_rfl
        have htab : ∀ y, y < 256 → IsLen y (S.data.toList.getD y 0).toNat ∧ (S.data.toList.getD y 0).toNat ≤ 8 := by rw [← hS]; decide +kernel
        obtain ⟨hl, hl8⟩ := htab x2 (by omega)
        have HAT : Hid (∀ h : x2 < S.size, (S[x2]'h).toNat = (S.data.toList.getD x2 0).toNat) := Lib.hid fun h => by rw [tab_at]
        obtain ⟨L, hL⟩ : ∃ L, (S.data.toList.getD x2 0).toNat = L := ⟨_, rfl⟩
        rw [hL] at hl hl8 HAT
        have HIL := Lib.hid hl
        clear hS htab hl hL
        have HX := Lib.hid hx
        have HE1 := Lib.hid e1
        have HE2 := Lib.hid e2
        go_upto_region 10 with (fail)
        have HH0 := Lib.hid h0
        have HH1 := Lib.hid h1
        have HH2 := Lib.hid h2
        clear hx h0 h1 h2 e1 i1 p1 e2 i2 p2 p0n
        go_wp2
        go_ret
        have hx := HX.out
        have e1 := HE1.out
        have e2 := HE2.out
        have h0 := HH0.out
        have h1 := HH1.out
        have h2 := HH2.out
        refine ⟨(16 + (8 + L)), ?_, by omega, IsLen.shr (k := 16) (by rw [show x / 2 ^ 16 = x1 from e1]; exact IsLen.shr (k := 8) (by rw [show x1 / 2 ^ 8 = x2 from e2]; exact HIL.out) (by omega)) (by omega), rfl⟩
        have hh := HAT.out (by omega)
        refine ret_int ?_
        rw [hh]
        rw [wrap_small (a := (L : Int)) (by omega) (by omega)]
        first | (rw [wrap_small (by omega) (by omega)]; omega) | omega | (rw [wrap_small (by omega) (by omega)])
      · have p2n : ¬ (256 : Int) ≤ (x1 : Int) := by omega
        have q4 : x1 < 256 := by omega
        have q5 : (x1 : Int) % 256 = (x1 : Int) := by omega
        go_enter Try.func64, Try.ntmps64
        generalize hS : (ByteArray.mk _) = S
        have hsz : S.size = 256 := by rw [← hS]; kernel_rfl
        have htab : ∀ y, y < 256 → IsLen y (S.data.toList.getD y 0).toNat ∧ (S.data.toList.getD y 0).toNat ≤ 8 := by rw [← hS]; decide +kernel
        obtain ⟨hl, hl8⟩ := htab x1 (by omega)
        have HAT : Hid (∀ h : x1 < S.size, (S[x1]'h).toNat = (S.data.toList.getD x1 0).toNat) := Lib.hid fun h => by rw [tab_at]
        obtain ⟨L, hL⟩ : ∃ L, (S.data.toList.getD x1 0).toNat = L := ⟨_, rfl⟩
        rw [hL] at hl hl8 HAT
        have HIL := Lib.hid hl
        clear hS htab hl hL
        have HX := Lib.hid hx
        have HE1 := Lib.hid e1
        go_upto_region 10 with (fail)
        have HH0 := Lib.hid h0
        have HH1 := Lib.hid h1
        have HH2 := Lib.hid h2
        clear hx h0 h1 h2 e1 i1 p1 p0n p2n
        go_wp2
        go_ret
        have hx := HX.out
        have e1 := HE1.out
        have h0 := HH0.out
        have h1 := HH1.out
        have h2 := HH2.out
        refine ⟨(16 + L), ?_, by omega, IsLen.shr (k := 16) (by rw [show x / 2 ^ 16 = x1 from e1]; exact HIL.out) (by omega), rfl⟩
        have hh := HAT.out (by omega)
        refine ret_int ?_
        rw [hh]
        rw [wrap_small (a := (L : Int)) (by omega) (by omega)]
        first | (rw [wrap_small (by omega) (by omega)]; omega) | omega | (rw [wrap_small (by omega) (by omega)])
    · have p1n : ¬ (65536 : Int) ≤ (x : Int) := by omega
      by_cases h2 : 256 ≤ x
      · obtain ⟨x1, e1⟩ : ∃ x1 : Nat, x / 256 = x1 := ⟨_, rfl⟩
        have i1 : (x : Int) / 256 = (x1 : Int) := by omega
        have p1 : (256 : Int) ≤ (x : Int) := by omega
        have q4 : x1 < 256 := by omega
        have q5 : (x1 : Int) % 256 = (x1 : Int) := by omega
        go_enter Try.func64, Try.ntmps64
        generalize hS : (ByteArray.mk _) = S
        have hsz : S.size = 256 := by rw [← hS]; kernel_rfl
        have htab : ∀ y, y < 256 → IsLen y (S.data.toList.getD y 0).toNat ∧ (S.data.toList.getD y 0).toNat ≤ 8 := by rw [← hS]; decide +kernel
        obtain ⟨hl, hl8⟩ := htab x1 (by omega)
        have HAT : Hid (∀ h : x1 < S.size, (S[x1]'h).toNat = (S.data.toList.getD x1 0).toNat) := Lib.hid fun h => by rw [tab_at]
        obtain ⟨L, hL⟩ : ∃ L, (S.data.toList.getD x1 0).toNat = L := ⟨_, rfl⟩
        rw [hL] at hl hl8 HAT
        have HIL := Lib.hid hl
        clear hS htab hl hL
        have HX := Lib.hid hx
        have HE1 := Lib.hid e1
        go_upto_region 10 with (fail)
        have HH0 := Lib.hid h0
        have HH1 := Lib.hid h1
        have HH2 := Lib.hid h2
        clear hx h0 h1 h2 e1 i1 p1 p0n p1n
        go_wp2
        go_ret
        have hx := HX.out
        have e1 := HE1.out
        have h0 := HH0.out
        have h1 := HH1.out
        have h2 := HH2.out
        refine ⟨(8 + L), ?_, by omega, IsLen.shr (k := 8) (by rw [show x / 2 ^ 8 = x1 from e1]; exact HIL.out) (by omega), rfl⟩
        have hh := HAT.out (by omega)
        refine ret_int ?_
        rw [hh]
        rw [wrap_small (a := (L : Int)) (by omega) (by omega)]
        first | (rw [wrap_small (by omega) (by omega)]; omega) | omega | (rw [wrap_small (by omega) (by omega)])
      · have p2n : ¬ (256 : Int) ≤ (x : Int) := by omega
        have q4 : x < 256 := by omega
        have q5 : (x : Int) % 256 = (x : Int) := by omega
        go_enter Try.func64, Try.ntmps64
        generalize hS : (ByteArray.mk _) = S
        have hsz : S.size = 256 := by rw [← hS]; kernel_rfl
        have htab : ∀ y, y < 256 → IsLen y (S.data.toList.getD y 0).toNat ∧ (S.data.toList.getD y 0).toNat ≤ 8 := by rw [← hS]; decide +kernel
        obtain ⟨hl, hl8⟩ := htab x (by omega)
        have HAT : Hid (∀ h : x < S.size, (S[x]'h).toNat = (S.data.toList.getD x 0).toNat) := Lib.hid fun h => by rw [tab_at]
        obtain ⟨L, hL⟩ : ∃ L, (S.data.toList.getD x 0).toNat = L := ⟨_, rfl⟩
        rw [hL] at hl hl8 HAT
        have HIL := Lib.hid hl
        clear hS htab hl hL
        have HX := Lib.hid hx
        go_upto_region 10 with (fail)
        have HH0 := Lib.hid h0
        have HH1 := Lib.hid h1
        have HH2 := Lib.hid h2
        clear hx h0 h1 h2 p0n p1n p2n
        go_wp2
        go_ret
        have hx := HX.out
        have h0 := HH0.out
        have h1 := HH1.out
        have h2 := HH2.out
        refine ⟨L, ?_, by omega, HIL.out, rfl⟩
        have hh := HAT.out (by omega)
        refine ret_int ?_
        rw [hh]
        rw [wrap_small (a := (L : Int)) (by omega) (by omega)]
        first | (rw [wrap_small (by omega) (by omega)]; omega) | omega | (rw [wrap_small (by omega) (by omega)])
end Go.Proofs.Ytmhjnfkhfjejeaa
