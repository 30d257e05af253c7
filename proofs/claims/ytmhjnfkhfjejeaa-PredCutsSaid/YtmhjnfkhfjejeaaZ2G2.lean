import Derived.Test.YtmhjnfkhfjejeaaZ2G1
import Derived.Deep.MidRow
import Derived.Great.Walk
import Derived.Test.YtmhjnfkhfjejeaaZ2PPredCubesx0
namespace Go.Proofs.Ytmhjnfkhfjejeaa
set_option linter.unusedVariables false
set_option linter.unusedSimpArgs false
open Go.RowKit Go.Proofs.YtmhjnfkhfjejeaaW.PrintWords Go.Proofs.YtmhjnfkhfjejeaaW.PrintLast Go.Proofs.YtmhjnfkhfjejeaaW.PrintMore
open PPredCubes

/-- A box: what it asks of each field, and as what. -/
structure Bx where
  m : Nat → Nat
  v : Nat → Nat
def Bx.ok (b : Bx) : Prop := ∀ i, b.m i < 18446744073709551616 ∧ b.v i < 18446744073709551616
/-- Its cells. -/
def Bx.cs (b : Bx) : Array Value := bxc b.m b.v
theorem Bx.cs_size (b : Bx) : b.cs.size = 20 := rfl
theorem Bx.cs_one (b : Bx) : ∀ u ∈ b.cs.toList, u.oneCell' = true := by
  have h := bxc_one b.m b.v
  rw [Array.all_eq_true'] at h
  intro u hu
  exact h u (by simpa [Bx.cs] using hu)
/-- Boxes as a kind. -/
def k67 : Kd Bx where
  sz := 20
  E := []
  K := fun _ b cs => cs = b.cs.toList
  M := fun _ _ _ b cs => cs = b.cs.toList
  K_len := fun h => by rw [h]; rfl
  K_one := fun {w x cs} h u hu => by rw [h] at hu; exact x.cs_one u hu
  K_below := fun _ h => h
  K_of_M := fun h => h
  M_mono := fun _ h => h
  M_bound := fun h => h
  M_move := fun _ h => h
  M_lower := fun _ h => h
def z67 : Bx := ⟨fun _ => 0, fun _ => 0⟩
theorem info67z : (Try.prog.info? 67).map (fun i => (i.zero, i.size, i.bytes)) = some (some (.agg z67.cs), 20, 160) := by kernel_rfl
theorem info62z : (Try.prog.info? 62).map (fun i => (i.zero, i.size, i.bytes)) = some (some (.slice none 0 0), 1, 24) := by kernel_rfl
/-- The cells that lie behind one another from p on. -/
def Lies (w : World) (p : Addr) (cs : List Value) : Prop := ∀ (j : Nat) (v : Value), cs[j]? = some v → w.cell? (p.add j) = some v
theorem add_add (p : Addr) (i j : Nat) : (p.add i).add j = p.add (i + j) := by
  unfold Addr.add
  by_cases hi : i = 0 <;> by_cases hj : j = 0 <;> simp [hi, hj, Nat.add_assoc]
theorem run_loadVar_at {P : Program} (w : World) (p : Addr) (ty : TypeId) (cs : List Value) (d : TypeDesc) (hc : Lies w p cs)
    (hu : P.underlying ty = some d) (hd : d.isRow = true) (hi : (P.info? ty).map (·.size) = some cs.length) :
    (loadVar ty p).run P w = .ok (.agg cs.toArray) w := by
  have hl : (loadCells p cs.length).run P w = .ok cs.toArray w := run_loadCells_list (P := P) w p cs hc
  cases hq : P.info? ty with
  | none => simp [hq] at hi
  | some i =>
    have hs : i.size = cs.length := by simpa [hq] using hi
    have hagg : (isAgg ty).run P w = .ok true w := by
      unfold isAgg
      rw [Sem.run_bind, run_underlying hu w]
      cases d <;> simp_all
    simp [loadVar, Sem.run_bind, hagg, sizeOf, typeInfo, hq, hs, hl]
theorem wp_load_at {P : Program} {op : Oper} {a : Act} {w : World} {K : Act → World → Prop} {Q : Exit → Act → World → Prop} (ty : TypeId) (x : Operand) (ho : op.op = .load ty x)
    (p : Addr) (hx : a.eval x = .pointer (some p)) (cs : Array Value) (d : TypeDesc) (hc : Lies w p cs.toList)
    (hu : P.underlying ty = some d) (hd : d.isRow = true) (hi : (P.info? ty).map (·.size) = some cs.size)
    (h : K (a.put op.dst (.agg cs)) w) : op.wp P a w K Q := by
  have hr := run_loadVar_at (P := P) w p ty cs.toList d hc hu hd (by rw [hi]; simp)
  rw [Array.toArray_toList] at hr
  unfold Oper.wp execOp
  simp only [ho, hx, Instr.loadAt, Instr.sureAddr, Sem.run_bind, Sem.run_pure, Result.andThen_ok, hr]
  exact h
/-- A whole box (array, struct) is loaded, wherever it lies. -/
theorem wpList_load_at {P : Program} {ops : Array Oper} {rest : List Oper} {op : Oper} {a : Act} {w : World} {Q : Exit → Act → World → Prop} (hgd : op.guard = none) (ty : TypeId) (x : Operand) (ho : op.op = .load ty x)
    (p : Addr) (hx : a.eval x = .pointer (some p)) (cs : Array Value) (d : TypeDesc) (hc : Lies w p cs.toList)
    (hu : P.underlying ty = some d) (hd : d.isRow = true) (hi : (P.info? ty).map (·.size) = some cs.size)
    (h : wpList P ops Q rest (a.put op.dst (.agg cs)) w) : wpList P ops Q (op :: rest) a w :=
  wpList_plain hgd fun _ hK => wp_load_at ty x ho p hx cs d hc hu hd hi (hK _ _ h)
theorem Lies.of_block {w : World} {g : Nat} {cs : Array Value} {t : TypeId} (h : w.heap[g]? = some (.cells cs t (0, 0))) : Lies w ⟨g, 0, none⟩ cs.toList := fun j v hv => by
  rw [Addr.add_mid, Nat.zero_add]
  unfold World.cell?
  simp only [h]
  simpa using hv
theorem Lies.part {w : World} {g : Nat} {cs : Array Value} {t : TypeId} (h : w.heap[g]? = some (.cells cs t (0, 0))) (o : Nat) (c' : List Value) (hc : ∀ (j : Nat) (v : Value), c'[j]? = some v → cs[o + j]? = some v) : Lies w ⟨g, o, none⟩ c' := fun j v hv => by
  rw [Addr.add_mid]
  unfold World.cell?
  simp only [h]
  exact hc j v hv
theorem Lies.below {w w' : World} {p : Addr} {cs : List Value} (h : Lies w p cs) (hb : Below w.heap.size w w') : Lies w' p cs := fun j v hv =>
  (hb.cell (World.block_lt_of_cell? w _ (h j v hv))).trans (h j v hv)
/-- The k-th box of a row. -/
def atB (xs : List Bx) (k : Nat) : Bx := xs.getD k z67
theorem atB_lt {xs : List Bx} {k : Nat} (h : k < xs.length) : xs[k]? = some (atB xs k) := by
  unfold atB; rw [List.getD_eq_getElem?_getD, List.getElem?_eq_getElem h]; rfl
theorem rd67 {w : World} {A : Option Addr} {n : Nat} {xs : List Bx} (h : k67.C w A n xs) {i : Nat} (hi : i < n) : ∃ ad, A = some ad ∧ Lies w (ad.add (i * 20)) (atB xs i).cs.toList := by
  obtain ⟨ad, c, rfl, hcl, hK, hcc⟩ := Kd.C_get h z67 i (by omega) (by omega)
  have hc : c = (atB xs i).cs.toList := hK
  subst hc
  exact ⟨ad, rfl, fun j v hv => by rw [add_add]; exact hcc j v hv⟩
/-- The k-th test of a cube. -/
def atT (xs : List S47) (k : Nat) : S47 := xs.getD k z47
def S47.cs (t : S47) : Array Value := #[.int .i64 t.f0, .int .u64 t.f1, .int .u64 t.f2]
theorem rd47 {w : World} {A : Option Addr} {n : Nat} {xs : List S47} (h : k47.C w A n xs) {i : Nat} (hi : i < n) : ∃ ad, A = some ad ∧ Lies w (ad.add (i * 3)) (S47.cs (atT xs i)).toList := by
  obtain ⟨ad, c, rfl, hcl, hK, hcc⟩ := Kd.C_get h z47 i (by omega) (by omega)
  obtain rfl := k47_open hK
  exact ⟨ad, rfl, fun j v hv => by rw [add_add]; exact hcc j v hv⟩

/-- A variable of a struct or array that is declared and at once given a value: the block g is new, the world W a variable. -/
theorem wpList_new {P : Program} {ops : Array Oper} {rest : List Oper} {o1 o2 : Oper} {a : Act} {w : World} {Q : Exit → Act → World → Prop} (hg1 : o1.guard = none) (hg2 : o2.guard = none) (N : Tmp) (hd : o1.dst = some N)
    (ty : TypeId) (x : Operand) (ho2 : o2.op = .store ty (.tmp N) x) (hd2 : o2.dst = none) (zs cs : Array Value)
    (hrun : (execOp a.eval o1).run P w = .ok (.value (.pointer (some ⟨w.heap.size, 0, none⟩))) (w.alloc (.cells zs ty)))
    (hp : (a.put (some N) (.pointer (some ⟨w.heap.size, 0, none⟩))).eval (.tmp N) = .pointer (some ⟨w.heap.size, 0, none⟩))
    (hx : (a.put (some N) (.pointer (some ⟨w.heap.size, 0, none⟩))).eval x = .agg cs) (hi : (P.info? ty).map (·.size) = some cs.size) (hs : zs.size = cs.size) (h1 : cs.all (·.oneCell') = true)
    (h : ∀ g W, Hid (g = w.heap.size) → W.heap[g]? = some (.cells cs ty (0, 0)) → Below w.heap.size w W → wpList P ops Q rest (a.put (some N) (.pointer (some ⟨g, 0, none⟩))) W) : wpList P ops Q (o1 :: o2 :: rest) a w := by
  refine wpList_plain hg1 fun K hK => ?_
  unfold Oper.wp
  rw [hrun, Oper.upon_value, hd]
  refine hK _ _ ?_
  have hz : (w.alloc (.cells zs ty)).heap[w.heap.size]? = some (.cells zs ty (0, 0)) := heap_new w _
  refine wpList_store_row hg2 ty (.tmp N) x ho2 hd2 w.heap.size hp cs hx zs ty hz hi hs h1 ?_
  exact h w.heap.size _ (Lib.hid rfl) (setRow_heap _ _ _ _ _ _ hz) (((Below.refl _ _).alloc (Nat.le_refl _) _).trans (Below.row_new (Nat.le_refl _) _))
/-- A parameter's box: the block g is new, the world W a variable. -/
theorem wpList_box {P : Program} {ops : Array Oper} {rest : List Oper} {o : Oper} {a : Act} {w : World} {Q : Exit → Act → World → Prop} (hgd : o.guard = none) (N : Tmp) (hd : o.dst = some N) (cs : Array Value) (t : TypeId)
    (hrun : (execOp a.eval o).run P w = .ok (.value (.pointer (some ⟨w.heap.size, 0, none⟩))) (w.alloc (.cells cs t (0, 0))))
    (h : ∀ g W, Hid (g = w.heap.size) → W.heap[g]? = some (.cells cs t (0, 0)) → Below w.heap.size w W → wpList P ops Q rest (a.put (some N) (.pointer (some ⟨g, 0, none⟩))) W) : wpList P ops Q (o :: rest) a w := by
  refine wpList_plain hgd fun K hK => ?_
  unfold Oper.wp
  rw [hrun, Oper.upon_value, hd]
  refine hK _ _ ?_
  exact h _ _ (Lib.hid rfl) (heap_new w _) ((Below.refl _ _).alloc (Nat.le_refl _) _)
theorem info47s : (Try.prog.info? 47).map (·.size) = some 3 := by kernel_rfl
theorem Bx.all_one (b : Bx) : b.cs.all (·.oneCell') = true := bxc_one b.m b.v

theorem fold_set (l : List Value) : ∀ (k : Nat) (cs : Array Value), k + l.length ≤ cs.size → ((l.zipIdx k).foldl (fun cs (x : Value × Nat) => cs.setIfInBounds (0 + x.2) x.1) cs).toList = cs.toList.take k ++ l ++ cs.toList.drop (k + l.length) := by
  induction l with
  | nil => intro k cs _; simp
  | cons a l ih =>
    intro k cs h
    simp only [List.length_cons] at h
    rw [List.zipIdx_cons, List.foldl_cons, ih (k + 1) _ (by simp; omega)]
    simp only [Nat.zero_add, Array.toList_setIfInBounds, List.length_cons]
    rw [List.drop_set_of_lt (by omega), List.take_set, List.take_succ_eq_append_getElem (by simpa using (by omega : k < cs.size)), List.set_append_right _ _ (by simp; omega)]
    simp only [List.length_take, Array.length_toList, Nat.min_eq_left (show k ≤ cs.size by omega), Nat.sub_self, List.set_cons_zero, List.append_assoc, List.singleton_append, List.cons_append, List.nil_append]
    rw [show k + 1 + l.length = k + (l.length + 1) by omega]
theorem fill_one (Z cs : Array Value) (n : Nat) (hZ : Z.size = n) (hc : cs.size = n) : Instr.fill (fun i => some (i * n, n)) Z [(0, .agg cs)] = some cs := by
  have hsz : (Value.agg cs).cells = cs := rfl
  unfold Instr.fill
  simp only [hsz, hc, hZ]
  unfold Instr.fill
  rw [if_neg (by simp)]
  congr 1
  apply Array.ext'
  rw [← Array.foldl_toList, Array.toList_zipIdx]
  have h := fold_set cs.toList 0 Z (by simp [hZ, hc])
  simp only [Nat.zero_add, List.take_zero, List.nil_append] at h
  rw [List.drop_of_length_le (by simp [hZ, hc]), List.append_nil] at h
  simp only [Nat.zero_mul, Nat.zero_add]
  exact h
theorem fill67 (b : Bx) : Instr.fill (fun i => some (i * 20, 20)) ((Array.range (1 * 20)).map (z67.cs[· % z67.cs.size]!)) [(0, .agg b.cs)] = some b.cs :=
  fill_one _ b.cs 20 (by simp) rfl
theorem built67 (b : Bx) : Try.prog.builtSlice 67 1 [(0, .agg b.cs)] = some b.cs := by
  obtain ⟨i0, hi, hzz⟩ := Option.map_eq_some_iff.1 info67z
  simp only [Prod.mk.injEq] at hzz
  obtain ⟨hz0, hz1, hz2⟩ := hzz
  unfold Program.builtSlice
  simp only [hi, hz0, hz1]
  exact fill67 b
/-- A literal of one box (as append's last argument too). -/
theorem wpList_lit67 {ops : Array Oper} {rest : List Oper} {o : Oper} {a : Act} {w : World} {Q : Exit → Act → World → Prop} (hg : o.guard = none) (x : Operand) (ho : o.op = .buildSlice 62 1 #[(0, x)])
    (dst : Option Tmp) (hdst : o.dst = dst) (b : Bx) (hx : a.eval x = .agg b.cs)
    (h : wpList Try.prog ops Q rest (a.put dst (.slice (some ⟨w.heap.size, 0, none⟩) 1 1)) (w.alloc (.cells b.cs 67))) : wpList Try.prog ops Q (o :: rest) a w := by
  refine Great.wpList_buildSliceTo hg 62 67 1 #[(0, x)] ho w.heap.size rfl dst hdst Try.underlying62 b.cs ?_ h
  simp only [List.map_toArray, List.map_cons, List.map_nil, hx]
  exact built67 b
end Go.Proofs.Ytmhjnfkhfjejeaa
namespace Go.Proofs.Ytmhjnfkhfjejeaa
set_option linter.unusedVariables false
set_option linter.unusedSimpArgs false
open Go.RowKit Go.Proofs.YtmhjnfkhfjejeaaW.PrintWords Go.Proofs.YtmhjnfkhfjejeaaW.PrintLast Go.Proofs.YtmhjnfkhfjejeaaW.PrintMore
open PPredCubes

/-- A box as a cube: of the first k fields. -/
def cubeTo (b : Bx) : Nat → List S47
  | 0 => []
  | k + 1 => if b.m k = 0 then cubeTo b k else cubeTo b k ++ [⟨(k : Int), (b.v k : Int), (b.m k : Int)⟩]
def cubeL (b : Bx) : List S47 := cubeTo b 10
theorem cubeTo_len (b : Bx) (k : Nat) : (cubeTo b k).length ≤ k := by
  induction k with
  | zero => simp [cubeTo]
  | succ k ih => simp only [cubeTo]; split <;> (try simp) <;> omega
theorem Lies.arc {w : World} {g : Nat} {b : Bx} (h : BoxAt w g b.m b.v) : Lies w ⟨g, 0, none⟩ (arc b.m).toList :=
  Lies.part h 0 _ fun j v hv => by
    have hj : j < 10 := (List.getElem?_eq_some_iff.1 hv).1
    have h1 := arc_at b.m j hj
    have h2 : (some v : Option Value) = some (.int .u64 (b.m j)) := by rw [← hv, ← h1]; simp
    rw [Nat.zero_add, h2]
    exact bxc_m b.m b.v j hj
@[go_sem] theorem run_index65 (x : Nat → Nat) (k : Nat) (hk : k < 10) (w : World) : (Instr.index 65 (.agg (arc x)) (.int .i64 k)).run Try.prog w = .ok (.int .u64 (x k)) w := by
  have hu := Try.underlying65
  have hk' : (k : Int) < 10 := by omega
  have hp := part45 x w k hk
  obtain ⟨i, hi, hs⟩ : ∃ i, Try.prog.info? 45 = some i ∧ i.size = 1 := by
    have h := info45
    cases hq : Try.prog.info? 45 with
    | none => rw [hq] at h; cases h
    | some i => rw [hq] at h; exact ⟨i, rfl, Option.some.inj h⟩
  simp [Instr.index, run_underlying hu, asIntOf, hk', Sem.run_bind, sizeOf, typeInfo, hi, hs]
  rw [Nat.mul_one] at hp
  rw [if_pos hk, hp]
set_option maxHeartbeats 4000000 in
set_option maxRecDepth 100000 in
theorem cube_any (b : Bx) (hb : b.ok) (w : World) :
    Calls Try.prog 43 #[.agg b.cs] w fun e w' => ∃ v, e = .returned v ∧ k47.R 47 w' w.heap.size (fun _ => True) v (cubeL b) ∧ Below w.heap.size w w' := by
  have h0 : BoxAt (w.alloc (.cells b.cs 67)) w.heap.size b.m b.v := BoxAt.new w b.m b.v
  have hb0 : Below w.heap.size w (w.alloc (.cells b.cs 67)) := (Below.refl _ _).alloc (Nat.le_refl _) _
  go_enter Try.func43, Try.ntmps43
  go_wp2_with (refine wpList_load_at rfl 65 (.tmp 6) rfl ⟨w.heap.size, 0, none⟩ rfl (arc b.m) _ (Lies.arc h0) Try.underlying65 rfl info65 ?_)
  have H0 := Lib.hid h0
  have HB := Lib.hid hb0
  clear h0 hb0
  generalize w.alloc (.cells b.cs 67) = W at H0 HB ⊢
  go_loopw [3, 8] (fun vc vk wr => ∃ k : Nat, vk = .int .i64 k ∧ k ≤ 10 ∧ k47.R 47 wr w.heap.size (fun k => k ≠ w.heap.size) vc (cubeTo b k) ∧ BoxAt wr w.heap.size b.m b.v ∧ Below w.heap.size w wr) (fun _ vk _ => 10 - (intOf vk).toNat)
  case atStart => exact ⟨0, rfl, by omega, Kd.R_nil _ _ _ _ _, H0.out, HB.out⟩
  case round =>
    obtain ⟨k, rfl, hk, HR, HX, HW⟩ := hrel
    clear H0 HB
    by_cases hlt : k < 10
    · have c2 := HX.v hlt
      have q1 : (k : Int) < 10 := by omega
      by_cases hz : b.m k = 0
      · have z1 : ((b.m k : Int) != 0) = false := by simp [hz]
        have HZ := Lib.hid hz
        clear hz
        go_wp2
        go_roundw
        case rel => exact ⟨k + 1, by go_num, by omega, by simp only [cubeTo]; rw [if_pos HZ.out]; exact HR, HX, HW⟩
        case measure => simp [intOf] <;> omega
      · have z1 : ((b.m k : Int) != 0) = true := by simp; omega
        have HZ := Lib.hid hz
        clear hz
        have hl := cubeTo_len b k
        have HL := Lib.hid hl
        clear hl
        go_wp2_with (at_builtin; refine Kd.R_append k47 (w0 := w) (W := wr) w.heap.size rfl (.tmp 14) (.tmp 22) 33 47 _ 24 rfl Try.underlying33 info47 rfl (by decide) (by decide) _ (cubeTo b k) ⟨(k : Int), (b.v k : Int), (b.m k : Int)⟩ _ (fun k => k ≠ w.heap.size) (fun _ => False) rfl rfl (k47_mkM _ _ _ _) ?c1 ?c2 HR HW ?c3 ?c4 ?_)
        case c1 => exact fun _ h => h.elim
        case c2 => intro j hj he; have := HX.lt; omega
        case c3 => exact HW.size
        case c4 => have := HL.out; omega
        intro v1 w1 hr1 hb1 hg1 _
        have hx1 : BoxAt w1 w.heap.size b.m b.v := blk_grown HX hg1 (fun e => HR.1 _ e.symm rfl)
        have HR1 : Hid (k47.R 47 w1 w.heap.size (fun k => k ≠ w.heap.size) v1 (cubeTo b (k + 1))) := Lib.hid (by simp only [cubeTo]; rw [if_neg HZ.out]; exact hr1)
        have HX1 := Lib.hid hx1
        have HB1 := Lib.hid hb1
        clear hr1 hx1 hb1 hg1 HR HX HW c2
        go_wp2_with fail
        go_roundw
        case rel => exact ⟨k + 1, by go_num, by omega, HR1.out, HX1.out, HB1.out⟩
        case measure => simp [intOf] <;> omega
    · go_wp2
      go_ret
      obtain rfl : k = 10 := by omega
      exact ⟨_, rfl, Kd.R_mono HR (fun _ _ => trivial), HW⟩
end Go.Proofs.Ytmhjnfkhfjejeaa
namespace Go.Proofs.Ytmhjnfkhfjejeaa
set_option linter.unusedVariables false
set_option linter.unusedSimpArgs false
open Go.RowKit Go.Proofs.YtmhjnfkhfjejeaaW.PrintWords Go.Proofs.YtmhjnfkhfjejeaaW.PrintLast Go.Proofs.YtmhjnfkhfjejeaaW.PrintMore
open PPredCubes

/-- A test whose numbers are of their kinds. -/
def okT (t : S47) : Prop := 0 ≤ t.f1 ∧ t.f1 < 18446744073709551616 ∧ 0 ≤ t.f2 ∧ t.f2 < 18446744073709551616
def okC (c : List S47) : Prop := ∀ t ∈ c, okT t
theorem okT_z : okT z47 := by unfold okT z47; simp
theorem okC_at {c : List S47} (h : okC c) (k : Nat) : okT (atT c k) := by
  unfold atT
  rw [List.getD_eq_getElem?_getD]
  rcases Nat.lt_or_ge k c.length with h1 | h1
  · rw [List.getElem?_eq_getElem h1]; exact h _ (List.getElem_mem h1)
  · rw [List.getElem?_eq_none h1]; exact okT_z
/-- May a test stand in a cube behind a field? -/
def tOK (t : S47) (last : Int) : Bool := testB t.f0 t.f1.toNat t.f2.toNat && (decide (t.f2 ≠ 0) && decide (last < t.f0))
def lastF (c : List S47) (k : Nat) : Int := if k = 0 then 0 else (atT c (k - 1)).f0
def wholeTo (c : List S47) : Nat → Bool
  | 0 => true
  | k + 1 => wholeTo c k && tOK (atT c k) (lastF c k)
/-- Is a cube whole? -/
def wholeC (c : List S47) : Bool := wholeTo c c.length
/-- The box of the first k tests. -/
def boxTo (c : List S47) : Nat → Bx
  | 0 => z67
  | k + 1 => ⟨upd (boxTo c k).m (atT c k).f0.toNat (atT c k).f2.toNat, upd (boxTo c k).v (atT c k).f0.toNat (atT c k).f1.toNat⟩
def boxC (c : List S47) : Bx := boxTo c c.length
theorem wholeTo_mono (c : List S47) (k : Nat) (h : wholeTo c k = false) (j : Nat) : wholeTo c (k + j) = false := by
  induction j with
  | zero => exact h
  | succ j ih => show (wholeTo c (k + j) && _) = false; rw [ih]; rfl
theorem wholeC_false {c : List S47} {k : Nat} (h : wholeTo c k = false) (hk : k ≤ c.length) : wholeC c = false := by
  have := wholeTo_mono c k h (c.length - k)
  rwa [show k + (c.length - k) = c.length by omega] at this
/-- What boxed answers. -/
def boxOr (c : List S47) : Bx := if wholeC c then boxC c else z67
def boxRes (c : List S47) : Ending := .returned (.tuple #[.agg (boxOr c).cs, .bool (wholeC c)])
theorem boxRes_no {c : List S47} (h : wholeC c = false) : Ending.returned (.tuple #[.agg (bxc (fun _ => 0) (fun _ => 0)), .bool false]) = boxRes c := by unfold boxRes boxOr; rw [h]; rfl
theorem boxRes_yes {c : List S47} (h : wholeC c = true) : Ending.returned (.tuple #[.agg (boxC c).cs, .bool true]) = boxRes c := by unfold boxRes boxOr; rw [h]; rfl
/-- The end of a function whose results are a box in memory and a slot. -/
theorem ct_post {fn : Func} {R : Ending → World → Prop} {a : Act} {W : World} {p u : Tmp} {g : Nat} {m v : Nat → Nat} {x : Value} (hres : fn.results = #[.cell p 67, .tmp u])
    (hp : a.tmps.getD p undef = .pointer (some ⟨g, 0, none⟩)) (hu : a.tmps.getD u undef = x) (hz : BoxAt W g m v) (hd : a.defers = []) (hR : R (.returned (.tuple #[.agg (bxc m v), x])) W) : bodyPost Try.prog fn R .ret a W :=
  bodyPost_ret (by rw [results_ct hres a.tmps W g 67 _ (0, 0) _ hp hz Try.underlying67 rfl info67, hu]) hd hR
set_option maxHeartbeats 4000000 in
set_option maxRecDepth 100000 in
theorem boxed_any (A : Option Addr) (cap : Nat) (c : List S47) (hc : okC c) (w : World) (hr : k47.C w A c.length c) :
    Calls Try.prog 44 #[.slice A c.length cap] w fun e w' => e = boxRes c ∧ Below w.heap.size w w' := by
  have HR := Lib.hid hr
  have HC := Lib.hid hc
  have HM := Lib.hid hr.2.1
  clear hr hc
  go_enter Try.func44, Try.ntmps44
  have s1 : (w.alloc (.cells (bxc (fun _ => 0) (fun _ => 0)) 67)).heap.size = w.heap.size + 1 := by simp
  have h2 : BoxAt ((w.alloc (.cells (bxc (fun _ => 0) (fun _ => 0)) 67)).alloc (.cells (bxc (fun _ => 0) (fun _ => 0)) 67)) w.heap.size (fun _ => 0) (fun _ => 0) := (BoxAt.new w _ _).alloc _
  have h4 : BoxAt ((w.alloc (.cells (bxc (fun _ => 0) (fun _ => 0)) 67)).alloc (.cells (bxc (fun _ => 0) (fun _ => 0)) 67)) (w.heap.size + 1) (fun _ => 0) (fun _ => 0) := by
    have h := BoxAt.new (w.alloc (.cells (bxc (fun _ => 0) (fun _ => 0)) 67)) (fun _ => 0) (fun _ => 0)
    rw [s1] at h
    exact h
  have hb : Below w.heap.size w ((w.alloc (.cells (bxc (fun _ => 0) (fun _ => 0)) 67)).alloc (.cells (bxc (fun _ => 0) (fun _ => 0)) 67)) := ((Below.refl _ _).alloc (Nat.le_refl _) _).alloc (by simp) _
  go_wp2_with fail
  change BoxAt ((w.alloc (.cells _ 67)).alloc (.cells _ 67)) _ _ _ at h2
  have H2 := Lib.hid h2
  have H4 := Lib.hid h4
  have HB := Lib.hid hb
  clear h2 h4 hb s1
  go_loopw [5, 10] (fun vl vk wr => ∃ k : Nat, vk = .int .i64 k ∧ k ≤ c.length ∧ vl = .int .i64 (lastF c k) ∧ wholeTo c k = true ∧ BoxAt wr w.heap.size (fun _ => 0) (fun _ => 0) ∧ BoxAt wr (w.heap.size + 1) (boxTo c k).m (boxTo c k).v ∧ Below w.heap.size w wr) (fun _ vk _ => c.length - (intOf vk).toNat)
  case atStart => exact ⟨0, rfl, by omega, rfl, rfl, H2.out, H4.out, HB.out⟩
  case round =>
    obtain ⟨k, rfl, hk, rfl, hwt, hz, hx, hb⟩ := hrel
    clear H2 H4 HB
    have HW := Lib.hid hwt
    have HZ := Lib.hid hz
    have HX := Lib.hid hx
    have HB := Lib.hid hb
    clear hwt hz hx hb
    by_cases hlt : k < c.length
    · obtain ⟨ad, rfl, hl⟩ := rd47 (Kd.C_below HR.out HB.out) hlt
      have ho := okC_at HC.out k
      obtain ⟨t, ht⟩ : ∃ t, atT c k = t := ⟨_, rfl⟩
      rw [ht] at hl ho
      obtain ⟨f, v, m⟩ := t
      obtain ⟨v1, v2, m1, m2⟩ : 0 ≤ v ∧ v < 18446744073709551616 ∧ 0 ≤ m ∧ m < 18446744073709551616 := ho
      obtain ⟨v, rfl⟩ := Int.eq_ofNat_of_zero_le v1
      obtain ⟨m, rfl⟩ := Int.eq_ofNat_of_zero_le m1
      have HT := Lib.hid ht
      have HL := Lib.hid hl
      have hv : v < 18446744073709551616 := by omega
      have hm : m < 18446744073709551616 := by omega
      obtain ⟨l, hlq⟩ : ∃ l, lastF c k = l := ⟨_, rfl⟩
      rw [hlq]
      have HLQ := Lib.hid hlq
      clear ht hl v1 v2 m1 m2 hlq
      have q1 : (k : Int) < (c.length : Int) := by omega
      have hb7 : Below wr.heap.size wr (wr.alloc (.cells #[.int .i64 f, .int .u64 v, .int .u64 m] 47)) := (Below.refl _ _).alloc (Nat.le_refl _) _
      have k7 : (wr.alloc (.cells #[.int .i64 f, .int .u64 v, .int .u64 m] 47)).heap[wr.heap.size]? = some (.cells #[.int .i64 f, .int .u64 v, .int .u64 m] 47 (0, 0)) := heap_new _ _
      have K7 := Lib.hid k7
      have HB7 := Lib.hid hb7
      clear hb7 k7
      go_wp2_with (refine wpList_load_at rfl 47 (.tmp 12) rfl (ad.add (k * 3)) rfl #[.int .i64 f, .int .u64 v, .int .u64 m] _ HL.out Try.underlying47 rfl info47s ?_)
      generalize wr.alloc (.cells #[.int .i64 f, .int .u64 v, .int .u64 m] 47) = W7 at K7 HB7 ⊢
      obtain ⟨g7, hg7⟩ : ∃ g7, wr.heap.size = g7 := ⟨_, rfl⟩
      rw [hg7]
      have K7' : Hid (W7.heap[g7]? = some (.cells #[.int .i64 f, .int .u64 v, .int .u64 m] 47 (0, 0))) := Lib.hid (hg7 ▸ K7.out)
      have HG7 : Hid (w.heap.size + 1 < g7) := Lib.hid (by have := HX.out.lt; omega)
      have HB8 := Lib.hid (HB.out.trans (HB7.out.mono HB.out.size))
      have HZ8 := Lib.hid (show BoxAt W7 w.heap.size (fun _ => 0) (fun _ => 0) from (HB7.out.block _ HZ.out.lt).trans HZ.out)
      have HX8 := Lib.hid (show BoxAt W7 (w.heap.size + 1) (boxTo c k).m (boxTo c k).v from (HB7.out.block _ HX.out.lt).trans HX.out)
      clear K7 hg7 HZ HX HL HB7
      go_at_call 51
      refine (testRight_any f v m hv hm _).mono ?_
      rintro e w8 ⟨rfl, hb⟩
      have c7 := blk_cell ((hb.block _ (blk_lt K7'.out)).trans K7'.out)
      have d0 : w8.cell? ⟨g7, 0, none⟩ = some (.int .i64 f) := c7 0
      have d1 : w8.cell? ⟨g7, 1, none⟩ = some (.int .u64 v) := c7 1
      have d2 : w8.cell? ⟨g7, 2, none⟩ = some (.int .u64 m) := c7 2
      have hx : BoxAt w8 (w.heap.size + 1) (boxTo c k).m (boxTo c k).v := (hb.block _ HX8.out.lt).trans HX8.out
      have hz : BoxAt w8 w.heap.size (fun _ => 0) (fun _ => 0) := (hb.block _ HZ8.out.lt).trans HZ8.out
      have hbb := HB8.out.trans (hb.mono HB8.out.size)
      have HX := Lib.hid hx
      have HZ := Lib.hid hz
      have HBB := Lib.hid hbb
      clear c7 hx hz hbb hb HX8 HZ8 HB8 K7'
      by_cases htb : testB f v m = true
      · obtain ⟨hf1, hf2, -⟩ := (testB_iff f v m).1 htb
        obtain ⟨fn, rfl⟩ := Int.eq_ofNat_of_zero_le (show 0 ≤ f by omega)
        rw [htb]
        by_cases hm0 : m = 0
        · subst hm0
          have HF : Hid (wholeTo c (k + 1) = false) := Lib.hid (by simp only [wholeTo, tOK]; rw [HT.out]; simp)
          go_wp2_with (refine wpList_store_row rfl 67 (.tmp 2) (.tmp 28) rfl rfl w.heap.size rfl (bxc (fun _ => 0) (fun _ => 0)) rfl (bxc (fun _ => 0) (fun _ => 0)) 67 HZ.out info67 rfl (bxc_one (fun _ => 0) (fun _ => 0)) ?_)
          exact ct_post (fn := Try.f44) rfl rfl rfl (HZ.out.row _ _) rfl ⟨boxRes_no (wholeC_false (k := k + 1) HF.out hlt), HBB.out.trans (Below.row_new (Nat.le_refl _) _)⟩
        · have q2 : ((m : Int) == 0) = false := by simp; omega
          by_cases hlf : (fn : Int) ≤ l
          · have HF : Hid (wholeTo c (k + 1) = false) := Lib.hid (by simp only [wholeTo, tOK]; rw [HT.out, HLQ.out]; simp; omega)
            go_wp2_with (refine wpList_store_row rfl 67 (.tmp 2) (.tmp 28) rfl rfl w.heap.size rfl (bxc (fun _ => 0) (fun _ => 0)) rfl (bxc (fun _ => 0) (fun _ => 0)) 67 HZ.out info67 rfl (bxc_one (fun _ => 0) (fun _ => 0)) ?_)
            exact ct_post (fn := Try.f44) rfl rfl rfl (HZ.out.row _ _) rfl ⟨boxRes_no (wholeC_false (k := k + 1) HF.out hlt), HBB.out.trans (Below.row_new (Nat.le_refl _) _)⟩
          · have hw1 : wholeTo c (k + 1) = true := by
              simp only [wholeTo, tOK]; rw [HT.out, HLQ.out, HW.out]; simp only [Int.toNat_natCast, htb]; simp; omega
            have HF := Lib.hid hw1
            have hfn : fn < 10 := by omega
            have f1 := HX.out.free fn
            have f2 := HX.out.free (10 + fn)
            have e1 := HX.out.m hfn
            have e2 := HX.out.v hfn
            have hx9 : BoxAt ((w8.setCell ⟨w.heap.size + 1, fn, none⟩ (.int .u64 m)).setCell ⟨w.heap.size + 1, 10 + fn, none⟩ (.int .u64 v)) (w.heap.size + 1) (boxTo c (k + 1)).m (boxTo c (k + 1)).v := by
              have := (HX.out.set_m hfn m).set_v hfn v
              simp only [boxTo]; rw [HT.out]; simpa using this
            have HX9 := Lib.hid hx9
            clear hx9 hw1 htb
            have q5 : g7 ≠ w.heap.size + 1 := by have := HG7.out; omega
            go_wp2_with fail
            go_region
            generalize hW9 : World.drew _ = W9
            have HX10 : Hid (BoxAt W9 (w.heap.size + 1) (boxTo c (k + 1)).m (boxTo c (k + 1)).v) := Lib.hid (hW9 ▸ HX9.out)
            have HZ10 : Hid (BoxAt W9 w.heap.size (fun _ => 0) (fun _ => 0)) := Lib.hid (hW9 ▸ ((HZ.out.far (by simp) _).far (by simp) _))
            have HB10 : Hid (Below w.heap.size w W9) := Lib.hid (hW9 ▸ ((HBB.out.setCell (by simp) _).setCell (by simp) _).drew)
            have HLF : Hid (lastF c (k + 1) = fn) := Lib.hid (by unfold lastF; rw [if_neg (by omega), Nat.add_sub_cancel, HT.out])
            clear hW9 HX9 HX HZ HBB f1 f2 e1 e2 d0 d1 d2 q5 HG7
            have hcm := HM.out
            go_wp2
            go_roundw
            case rel => exact ⟨k + 1, by go_num, by omega, by rw [HLF.out], HF.out, HZ10.out, HX10.out, HB10.out⟩
            case measure => simp [intOf] <;> omega
      · have htb' : testB f v m = false := by simpa using htb
        have HF : Hid (wholeTo c (k + 1) = false) := Lib.hid (by simp only [wholeTo, tOK]; rw [HT.out]; simp [htb'])
        rw [htb']
        clear htb htb'
        go_wp2_with (refine wpList_store_row rfl 67 (.tmp 2) (.tmp 28) rfl rfl w.heap.size rfl (bxc (fun _ => 0) (fun _ => 0)) rfl (bxc (fun _ => 0) (fun _ => 0)) 67 HZ.out info67 rfl (bxc_one (fun _ => 0) (fun _ => 0)) ?_)
        exact ct_post (fn := Try.f44) rfl rfl rfl (HZ.out.row _ _) rfl ⟨boxRes_no (wholeC_false (k := k + 1) HF.out hlt), HBB.out.trans (Below.row_new (Nat.le_refl _) _)⟩
    · obtain rfl : k = c.length := by omega
      go_wp2_with (first
        | (refine wpList_load_at rfl 67 (.tmp 4) rfl ⟨w.heap.size + 1, 0, none⟩ rfl (boxC c).cs _ (Lies.of_block HX.out) Try.underlying67 rfl info67 ?_)
        | (refine wpList_store_row rfl 67 (.tmp 2) (.tmp 44) rfl rfl w.heap.size rfl (bxc (boxC c).m (boxC c).v) rfl (bxc (fun _ => 0) (fun _ => 0)) 67 HZ.out info67 rfl (bxc_one _ _) ?_))
      exact ct_post (fn := Try.f44) rfl rfl rfl (HZ.out.row _ _) rfl ⟨boxRes_yes HW.out, HB.out.trans (Below.row_new (Nat.le_refl _) _)⟩
end Go.Proofs.Ytmhjnfkhfjejeaa
namespace Go.Proofs.Ytmhjnfkhfjejeaa
set_option linter.unusedVariables false
set_option linter.unusedSimpArgs false
open Go.RowKit Go.Proofs.YtmhjnfkhfjejeaaW.PrintWords Go.Proofs.YtmhjnfkhfjejeaaW.PrintLast Go.Proofs.YtmhjnfkhfjejeaaW.PrintMore
open PPredCubes

/-- Do two boxes meet? What both ask. -/
def meetB (b o : Bx) : Bool := sameA (andTo 10 b.v b.m o.m) (andTo 10 o.v b.m o.m)
def meetX (b o : Bx) : Bx := ⟨orTo 10 b.m o.m, orTo 10 b.v o.v⟩
def meetRes (b o : Bx) : Ending := .returned (.tuple #[.agg (if meetB b o then meetX b o else z67).cs, .bool (meetB b o)])
theorem meet_b (b o : Bx) (hb : b.ok) (ho : o.ok) (w : World) : Calls Try.prog 49 #[.agg b.cs, .agg o.cs] w fun e w' => e = meetRes b o ∧ Below w.heap.size w w' :=
  (meet_any b.m b.v o.m o.v (fun i => (hb i).1) (fun i => (hb i).2) (fun i => (ho i).1) (fun i => (ho i).2) w).mono fun e w' ⟨h1, h2⟩ => ⟨by
    rw [h1]; unfold meetRes meetB meetX
    cases sameA (andTo 10 b.v b.m o.m) (andTo 10 o.v b.m o.m) <;> rfl, h2⟩
theorem meet_yes (b o : Bx) (hb : b.ok) (ho : o.ok) (h : meetB b o = true) (w : World) : Calls Try.prog 49 #[.agg b.cs, .agg o.cs] w fun e w' => e = .returned (.tuple #[.agg (meetX b o).cs, .bool true]) ∧ Below w.heap.size w w' :=
  (meet_b b o hb ho w).mono fun e w' ⟨h1, h2⟩ => ⟨by rw [h1]; unfold meetRes; rw [h]; rfl, h2⟩
theorem meet_no (b o : Bx) (hb : b.ok) (ho : o.ok) (h : meetB b o = false) (w : World) : Calls Try.prog 49 #[.agg b.cs, .agg o.cs] w fun e w' => e = .returned (.tuple #[.agg z67.cs, .bool false]) ∧ Below w.heap.size w w' :=
  (meet_b b o hb ho w).mono fun e w' ⟨h1, h2⟩ => ⟨by rw [h1]; unfold meetRes; rw [h]; rfl, h2⟩

/-- The cell g holds a row of boxes of one's own. -/
def St (g B : Nat) (ok : Nat → Prop) (L : List Bx) (W : World) : Prop := ∃ v, W.heap[g]? = some (.cells #[v] 62 (0, 0)) ∧ k67.R 67 W B (fun k => ok k ∧ k ≠ g) v L
/-- What is not the row's is as it was. -/
def Keep (ok : Nat → Prop) (g : Nat) (w w' : World) : Prop := ∀ k, k < w.heap.size → ¬ ok k → k ≠ g → w'.heap[k]? = w.heap[k]?

set_option maxHeartbeats 4000000 in
set_option maxRecDepth 100000 in
theorem left1_any (b : Bx) (g B : Nat) (ok : Nat → Prop) (L : List Bx) (w : World) (hS : St g B ok L w) (hg : B ≤ g) (hB : B ≤ w.heap.size) (hok : ∀ k, w.heap.size ≤ k → ok k) (hl : L.length < 100000000000) :
    Calls Try.prog 68 #[.agg b.cs, .pointer (some ⟨g, 0, none⟩)] w fun e w' => e = .returned (.tuple #[]) ∧ St g B ok (L ++ [b]) w' ∧ Keep ok g w w' ∧ Below B w w' := by
  obtain ⟨v, hv, hR⟩ := hS
  have HV := Lib.hid hv
  have HR := Lib.hid hR
  have HOK := Lib.hid hok
  clear hv hR hok
  go_enter Try.func68, Try.ntmps68
  go_wp2_with (first
    | (refine wpList_box rfl 2 rfl b.cs 67 ?hr ?_; (case hr => first | (go_simp; done) | (go_simp; rfl)); intro g2 w2 hg2 k2 hb2; have K2 := Lib.hid k2; have HB2 := Lib.hid hb2; have HV2 := Lib.hid (blk_below HV.out hb2); have c1 : w2.cell? ⟨g, 0, none⟩ = some v := (blk_cell HV2.out 0).trans rfl; clear k2 hb2)
    | (refine wpList_load_at rfl 67 (.tmp 2) rfl ⟨g2, 0, none⟩ rfl b.cs _ (Lies.of_block K2.out) Try.underlying67 rfl info67 ?_)
    | (refine wpList_lit67 rfl (.tmp 4) rfl (some 5) rfl b rfl ?_)
    | (at_builtin; refine Kd.R_append k67 (w0 := w) (W := w2) B rfl (.tmp 3) (.tmp 5) 62 67 _ 160 rfl Try.underlying62 info67z rfl (by decide) (by decide) v L b b.cs.toList (fun k => ok k ∧ k ≠ g) (fun _ => False) rfl rfl rfl (fun _ h => h.elim) ?c2 (Kd.R_below HR.out HB2.out) (HB2.out.mono hB) ?c3 ?c4 ?_))
  case c2 => exact fun k hk => ⟨HOK.out k (Nat.le_trans HB2.out.size hk), fun e => by have := blk_lt HV2.out; omega⟩
  case c3 => exact Nat.le_trans hB HB2.out.size
  case c4 => omega
  intro v1 w1 hr1 hb1 hg1 _
  obtain ⟨A1, n1, e1⟩ := Kd.R_slice hr1
  rw [List.length_append, List.length_singleton] at e1
  subst e1
  have hv1 : w1.heap[g]? = some (.cells #[v] 62 (0, 0)) := blk_grown HV2.out hg1 (fun e => (HR.out.1 _ e.symm).2 rfl)
  have f1 := blk_frozen hv1 0
  have c1' : w1.cell? ⟨g, 0, none⟩ = some v := (blk_cell hv1 0).trans rfl
  have HR1 := Lib.hid hr1
  have HB1 := Lib.hid hb1
  have HG1 := Lib.hid hg1
  have HV1 := Lib.hid hv1
  clear hr1 hb1 hg1 hv1 c1
  go_wp2_with fail
  go_end0
  refine ⟨rfl, ⟨_, blk_put HV1.out 0 _ rfl, Kd.R_far (p := ⟨g, 0, none⟩) HR1.out (fun k hk => hk.2) _⟩, fun k hk ho hkg => ?_, HB1.out.setCell hg _⟩
  rw [Below.heap_setCell w1 ⟨g, 0, none⟩ _ k hkg, HG1.out.block k (Nat.lt_of_lt_of_le hk HB2.out.size) (fun e => ho (HR.out.1 k e.symm).1)]
  exact HB2.out.block k hk
end Go.Proofs.Ytmhjnfkhfjejeaa
