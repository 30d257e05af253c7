import Derived.Test.YtmhjnfkhfjejeaaZ2G3
namespace Go.Proofs.Ytmhjnfkhfjejeaa
set_option linter.unusedVariables false
set_option linter.unusedSimpArgs false
open Go.RowKit Go.Proofs.YtmhjnfkhfjejeaaW.PrintWords Go.Proofs.YtmhjnfkhfjejeaaW.PrintLast Go.Proofs.YtmhjnfkhfjejeaaW.PrintMore
open PPredCubes
theorem reps_app {α : Type} {R : α → List Value → Prop} {size : Nat} {ps qs : List α} {cs ds : List Value} (h : Reps R size ps cs) (k : Reps R size qs ds) : Reps R size (ps ++ qs) (cs ++ ds) := by
  refine ⟨by rw [List.length_append, h.1, k.1, List.length_append, Nat.add_mul], fun j q hq => ?_⟩
  rcases Nat.lt_or_ge j ps.length with hj | hj
  · rw [List.getElem?_append_left hj] at hq
    have h1 : j * size + size ≤ cs.length := by rw [h.1, ← Nat.succ_mul]; exact Nat.mul_le_mul_right _ hj
    have h2 := h.2 j q hq
    rw [List.drop_append_of_le_length (by omega), List.take_append_of_le_length (by rw [List.length_drop]; omega)]
    exact h2
  · rw [List.getElem?_append_right hj] at hq
    have h2 := k.2 _ q hq
    rw [List.drop_append, List.drop_of_length_le (by rw [h.1]; exact Nat.mul_le_mul_right _ hj), List.nil_append, h.1, ← Nat.sub_mul]
    exact h2
theorem C_inner {w : World} {A : Option Addr} {n : Nat} {xs : List Bx} (h : k67.C w A n xs) : ∃ inner, Reps (k67.K w) 20 xs inner ∧ ∀ b, A = some b → ∀ j u, inner[j]? = some u → w.cell? (b.add j) = some u := by
  rcases A with _ | ad
  · have hn : n = 0 := by
      rcases Nat.eq_zero_or_pos n with h0 | h0
      · exact h0
      · obtain ⟨ad, e, _⟩ := h.2.2 h0
        cases e
    have hx : xs = [] := List.eq_nil_of_length_eq_zero (by rw [h.1, hn])
    subst hx
    exact ⟨[], Reps.none _ _, fun b e => by cases e⟩
  · obtain ⟨inner, h1, h2⟩ := ReadsRow.inner_ h
    exact ⟨inner, h1, fun b e => by cases e; exact h2⟩
theorem reps_one {w : World} {xs : List Bx} {inner : List Value} (h : Reps (k67.K w) 20 xs inner) : ∀ u ∈ inner, u.oneCell' = true := by
  intro u hu
  obtain ⟨j, hj, rfl⟩ := List.mem_iff_getElem.1 hu
  have hl := h.1
  have h1 : j / 20 < xs.length := by omega
  have h2 : (inner.drop (j / 20 * 20)).take 20 = (atB xs (j / 20)).cs.toList := h.2 (j / 20) _ (atB_lt h1)
  have h3 : ((inner.drop (j / 20 * 20)).take 20)[j % 20]? = some inner[j] := by
    rw [List.getElem?_take_of_lt (by omega), List.getElem?_drop, show j / 20 * 20 + j % 20 = j by omega, List.getElem?_eq_getElem hj]
  rw [h2] at h3
  exact Bx.cs_one _ _ (List.mem_of_getElem? h3)
/-- append(s, x...) of a slice s without room: nothing old is written. -/
theorem wpList_append_cap {ops : Array Oper} {rest : List Oper} {o : Oper} {a : Act} {W : World} {Q : Exit → Act → World → Prop} (hg : o.guard = none) (s x : Operand)
    (hop : o.op = Op.call { callee := Callee.builtin Builtin.append, args := #[s, x], argTypes := #[62, 62] }) (base : Nat) (ok : Nat → Prop) (ao A2 : Option Addr) (c2 : Nat) (xs ys : List Bx)
    (hs : a.eval s = .slice ao xs.length xs.length) (hx : a.eval x = .slice A2 ys.length c2) (hV : Kd.V k67 67 W base ok (.slice ao xs.length xs.length) xs) (hC : k67.C W A2 ys.length ys) (hl : (xs.length + ys.length) * 160 ≤ 140737488355328)
    (h : ∀ v1 w1, Kd.V k67 67 w1 base (fun k => ok k ∨ W.heap.size ≤ k) v1 (xs ++ ys) → Below W.heap.size W w1 → wpList Try.prog ops Q rest (a.put o.dst v1) w1) : wpList Try.prog ops Q (o :: rest) a W := by
  obtain ⟨i0, hi, hzz⟩ := Option.map_eq_some_iff.1 info67z
  simp only [Prod.mk.injEq] at hzz
  obtain ⟨hz0, hz1, hz2⟩ := hzz
  rcases Nat.eq_zero_or_pos ys.length with h0 | h0
  · have hy : ys = [] := List.eq_nil_of_length_eq_zero h0
    subst hy
    refine wpList_plain hg fun K hK' => ?_
    have hrun : (Builtin.append_ #[62, 62] o.type #[.slice ao xs.length xs.length, .slice A2 0 c2]).run Try.prog W = .ok (.slice ao xs.length xs.length) W := by
      have hfc : (Builtin.firstCells 20 0 (.slice A2 0 c2)).run Try.prog W = .ok #[] W := by
        rcases A2 with _ | ad
        · simp [Builtin.firstCells]
        · exact run_firstCells_some (P := Try.prog) W 20 0 ad 0 c2 [] rfl (by simp)
      cases ao <;> simp [Builtin.append_, run_underlying Try.underlying62, sizeOf, typeInfo, hi, hz1, Builtin.lenOf, hfc, storeCells]
    unfold Oper.wp
    simp only [List.length_nil] at hx
    simp [execOp, hop, resolve, invoke, builtin, hs, hx, hrun, Result.andThen]
    refine hK' _ _ (h _ _ ?_ (Below.refl _ _))
    rw [List.append_nil]
    exact Kd.V_mono hV (fun _ hk => .inl hk)
  · obtain ⟨ad, hA, _⟩ := hC.2.2 h0
    subst hA
    obtain ⟨news, hr2, hn2⟩ := C_inner hC
    have hC1 := (Kd.V_reads' hV).2.2
    obtain ⟨olds, hr1, hn1⟩ := C_inner hC1
    refine wpList_append_grows W hg s x 62 hop 67 i0 (.agg z67.cs) 20 160 Try.underlying62 hi hz0 hz1 hz2 rfl (by decide) ao xs.length xs.length olds hs (fun e => ?_) hr1.1 hn1 ad ys.length c2 news hx hr2.1 (hn2 ad rfl) (reps_one hr2) (by omega) (by unfold maxLen; omega) hl ?_
    · subst e
      rcases Nat.eq_zero_or_pos xs.length with h1 | h1
      · exact ⟨h1, h1⟩
      · obtain ⟨ad, e, _⟩ := hC1.2.2 h1
        cases e
    · intro v' w' hown hgb
      have hb : Below W.heap.size W w' := ((Below.refl _ W).grown hgb (Nat.le_refl _) (fun g hg => by cases hg))
      refine h v' w' ?_ hb
      have hR : k67.R 67 w' W.heap.size (fun k => W.heap.size ≤ k) v' (xs ++ ys) := ⟨fun k hk => own_base hown k hk, olds ++ news, by rw [List.length_append]; exact hown, reps_app hr1 hr2⟩
      exact Kd.V_mono (Kd.R_V hR) (fun k hk => .inr hk)
theorem rdI {w : World} {A : Option Addr} {n : Nat} {xs : List Int} (h : (Kd.int .i64).C w A n xs) {i : Nat} (hi : i < n) : ∃ ad, A = some ad ∧ w.cell? (ad.add i) = some (.int .i64 (xs.getD i 0)) := by
  obtain ⟨ad, c, rfl, hcl, hK, hcc⟩ := Kd.C_get h (0 : Int) i (by omega) (by omega)
  have hc : c = [.int .i64 (xs.getD i 0)] := hK
  subst hc
  refine ⟨ad, rfl, ?_⟩
  have := hcc 0 _ rfl
  simpa [Kd.int, Kd.scalar] using this
/-- The i-th row of boxes. -/
def rowAt (hs : List (List Bx)) (i : Nat) : List Bx := hs.getD i []
/-- Rows of boxes that can be read, what each leads to in P. -/
def Rows (w : World) (P : Nat → Prop) (A : Option Addr) (hs : List (List Bx)) : Prop := ∀ i, i < hs.length →
  ∃ ad A1 c1, A = some ad ∧ w.cell? (ad.add i) = some (.slice A1 (rowAt hs i).length c1) ∧ Kd.V k67 67 w w.heap.size P (.slice A1 (rowAt hs i).length c1) (rowAt hs i)
theorem Rows.below {w w' : World} {P : Nat → Prop} {A : Option Addr} {hs : List (List Bx)} (h : Rows w P A hs) (hb : Below w.heap.size w w') : Rows w' P A hs := fun i hi => by
  obtain ⟨ad, A1, c1, e, hc, hv⟩ := h i hi
  exact ⟨ad, A1, c1, e, pw_cell_below hb hc, Kd.V_below hv hb⟩
theorem Rows.of_N {W : World} {base c : Nat} {ok : Nat → Prop} {A : Option Addr} {hs : List (List Bx)} (h : Kd.N (Kd.slice 67 k67) 62 W base ok (.slice A hs.length c) hs) :
    Rows W (fun k => ok k ∧ some k ≠ (Value.slice A hs.length c).ownBlock) A hs := fun i hi => by
  obtain ⟨ad, hA, _⟩ := (Kd.N_reads' h).2.2.2.2 (by omega)
  subst hA
  obtain ⟨cs, hcl, hF, hcc⟩ := Kd.N_get h ([] : List Bx) (i : Int) (by omega) (by omega)
  obtain ⟨A1, c1, rfl, hle, hf⟩ := Kd.FK_slice_open hF
  refine ⟨ad, A1, c1, rfl, ?_, A1, c1, rfl, hle, hf⟩
  have := hcc 0 _ rfl
  simpa [Kd.slice, rowAt] using this

/-- A literal of one box, the world a variable. -/
theorem wpList_lit67e {ops : Array Oper} {rest : List Oper} {o : Oper} {a : Act} {w : World} {Q : Exit → Act → World → Prop} (hg : o.guard = none) (x : Operand) (ho : o.op = .buildSlice 62 1 #[(0, x)])
    (N : Tmp) (hdst : o.dst = some N) (b : Bx) (hx : a.eval x = .agg b.cs)
    (h : ∀ g W, Hid (g = w.heap.size) → k67.R 67 W w.heap.size (fun k => k = g) (.slice (some ⟨g, 0, none⟩) 1 1) [b] → Below w.heap.size w W → wpList Try.prog ops Q rest (a.put (some N) (.slice (some ⟨g, 0, none⟩) 1 1)) W) : wpList Try.prog ops Q (o :: rest) a w := by
  refine wpList_lit67 hg x ho (some N) hdst b hx (h w.heap.size _ (Lib.hid rfl) ?_ ((Below.refl _ _).alloc (Nat.le_refl _) _))
  refine ⟨fun k hk => by simpa [Value.ownBlock] using hk.symm, b.cs.toList, ?_, ?_⟩
  · have h1 := World.ownsRow_lit (base := w.heap.size) (e := 67) (size := 20) w b.cs 1 (Nat.le_refl _) (by simp [maxLen]) rfl
    have h3 : [b].length = 1 := rfl
    rw [h3]
    exact h1
  · have h2 := (Reps.none (k67.M (w.alloc (.cells b.cs 67)) w.heap.size (fun k => k = w.heap.size ∧ some k ≠ (Value.slice (some ⟨w.heap.size, 0, none⟩) 1 1).ownBlock)) 20).snoc (p := b) (c := b.cs.toList) rfl rfl
    rw [List.nil_append, List.nil_append] at h2
    exact h2
theorem run_alloc_op {P : Program} {ρ : Operand → Value} {o : Oper} {ty : TypeId} (ho : o.op = .alloc ty) {z : Value} (hz : (P.info? ty).map (·.zero) = some (some z)) (w : World) :
    (execOp ρ o).run P w = .ok (.value (.pointer (some ⟨w.heap.size, 0, none⟩))) (w.alloc (.cells z.cells ty)) := by
  obtain ⟨i0, hi, hzz⟩ := Option.map_eq_some_iff.1 hz
  unfold execOp
  simp [ho, zeroValue, typeInfo, hi, hzz, go_sem]
/-- A struct variable that is declared and at once given a value (of any type). -/
theorem wpList_newz {P : Program} {ops : Array Oper} {rest : List Oper} {o1 o2 : Oper} {a : Act} {w : World} {Q : Exit → Act → World → Prop} (hg1 : o1.guard = none) (hg2 : o2.guard = none) (N : Tmp) (hd : o1.dst = some N)
    (ty : TypeId) (x : Operand) (ho1 : o1.op = .alloc ty) (ho2 : o2.op = .store ty (.tmp N) x) (hd2 : o2.dst = none) (z : Value) (cs : Array Value)
    (hz : (P.info? ty).map (·.zero) = some (some z))
    (hp : (a.put (some N) (.pointer (some ⟨w.heap.size, 0, none⟩))).eval (.tmp N) = .pointer (some ⟨w.heap.size, 0, none⟩))
    (hx : (a.put (some N) (.pointer (some ⟨w.heap.size, 0, none⟩))).eval x = .agg cs) (hi : (P.info? ty).map (·.size) = some cs.size) (hs : z.cells.size = cs.size) (h1 : cs.all (·.oneCell') = true)
    (h : ∀ g W, Hid (g = w.heap.size) → W.heap[g]? = some (.cells cs ty (0, 0)) → Below w.heap.size w W → wpList P ops Q rest (a.put (some N) (.pointer (some ⟨g, 0, none⟩))) W) : wpList P ops Q (o1 :: o2 :: rest) a w :=
  wpList_new hg1 hg2 N hd ty x ho2 hd2 z.cells cs (run_alloc_op ho1 hz w) hp hx hi hs h1 h
theorem info52z : (Try.prog.info? 52).map (·.zero) = some (some (.agg #[.int .i64 0, .int .i64 0, .int .u64 0, .int .u64 0, .slice none 0 0])) := by kernel_rfl
theorem info24z : (Try.prog.info? 24).map (·.zero) = some (some (.agg #[.slice none 0 0])) := by kernel_rfl
/-- A row of one box: its block. -/
theorem one_box {W : World} {base g : Nat} {ok : Nat → Prop} {b : Bx} (h : k67.R 67 W base ok (.slice (some ⟨g, 0, none⟩) 1 1) [b]) : BoxAt W g b.m b.v := by
  obtain ⟨_, inner, ho, hr⟩ := h
  have h0 := hr.2 0 b rfl
  have hi : inner.length = 20 := ho.1
  have hin : inner = b.cs.toList := by
    have h1 : (inner.drop (0 * 20)).take 20 = b.cs.toList := h0
    rw [Nat.zero_mul, List.drop_zero, List.take_of_length_le (by omega)] at h1
    exact h1
  rcases ho.2 with ⟨hv, _⟩ | ⟨g', cap, cur, hv, _, hh, _, _, hsz, hx⟩
  · cases hv
  · injection hv with h1 h2 h3
    injection h1 with h1
    injection h1 with h1
    subst h1 h3
    have hcur : cur = b.cs := by
      have h4 : cur.size = 1 * 20 := hsz
      have h5 : cur.toList.take (1 * 20) = inner := hx
      rw [List.take_of_length_le (by simp; omega), hin] at h5
      exact Array.toList_inj.1 h5
    rw [hcur] at hh
    exact hh
theorem box_one {W : World} {g : Nat} {b : Bx} (h : BoxAt W g b.m b.v) : k67.R 67 W 0 (fun q => q = g) (.slice (some ⟨g, 0, none⟩) 1 1) [b] := by
  refine ⟨fun k hk => by simpa [Value.ownBlock] using hk.symm, b.cs.toList, ⟨rfl, .inr ⟨g, 1, b.cs, rfl, Nat.zero_le _, h, Nat.le_refl _, by simp [maxLen], rfl, ?_⟩⟩, ?_⟩
  · show b.cs.toList.take (1 * 20) = b.cs.toList
    exact List.take_of_length_le (by simp [Bx.cs_size])
  · have h2 := (Reps.none (k67.M W 0 (fun k => k = g ∧ some k ≠ (Value.slice (some ⟨g, 0, none⟩) 1 1).ownBlock)) 20).snoc (p := b) (c := b.cs.toList) rfl rfl
    rw [List.nil_append, List.nil_append] at h2
    exact h2
end Go.Proofs.Ytmhjnfkhfjejeaa
namespace Go.Proofs.Ytmhjnfkhfjejeaa
set_option linter.unusedVariables false
set_option linter.unusedSimpArgs false
open Go.RowKit Go.Proofs.YtmhjnfkhfjejeaaW.PrintWords Go.Proofs.YtmhjnfkhfjejeaaW.PrintLast Go.Proofs.YtmhjnfkhfjejeaaW.PrintMore
open PPredCubes
def subAt (subs : List Int) (k : Nat) : Nat := (subs.getD k 0).toNat
/-- What two lists of boxes ask together, where they meet. -/
def meetRow (a : Bx) (bs : List Bx) : Nat → List Bx
  | 0 => []
  | j + 1 => if meetB a (atB bs j) then meetRow a bs j ++ [meetX a (atB bs j)] else meetRow a bs j
def bothTo (l bs : List Bx) : Nat → List Bx
  | 0 => []
  | i + 1 => bothTo l bs i ++ meetRow (atB l i) bs bs.length
def bothL (l bs : List Bx) : List Bx := bothTo l bs l.length
/-- The node And (of the first k of its subs). -/
def allTo (subs : List Int) (hs : List (List Bx)) : Nat → List Bx
  | 0 => [z67]
  | k + 1 => bothL (allTo subs hs k) (rowAt hs (subAt subs k))
def allOk (subs : List Int) (hs : List (List Bx)) : Nat → Bool
  | 0 => true
  | k + 1 => allOk subs hs k && decide ((allTo subs hs (k + 1)).length ≤ 128)
/-- The node Or. -/
def anyTo (subs : List Int) (hs : List (List Bx)) : Nat → List Bx
  | 0 => []
  | k + 1 => anyTo subs hs k ++ withL (rowAt hs (subAt subs k)) (anyTo subs hs k)
def anyOk (subs : List Int) (hs : List (List Bx)) : Nat → Bool
  | 0 => true
  | k + 1 => anyOk subs hs k && (withOk (rowAt hs (subAt subs k)) (anyTo subs hs k) && decide ((anyTo subs hs (k + 1)).length ≤ 128))
theorem meetX_ok {b o : Bx} (hb : b.ok) (ho : o.ok) : (meetX b o).ok := fun i => by
  refine ⟨?_, ?_⟩
  · show (if _ then _ else _) < _
    split
    · exact lt_or (hb i).1 (ho i).1
    · exact (hb i).1
  · show (if _ then _ else _) < _
    split
    · exact lt_or (hb i).2 (ho i).2
    · exact (hb i).2
theorem meetRow_ok {a : Bx} {bs : List Bx} (ha : a.ok) (hb : okB bs) (j : Nat) : okB (meetRow a bs j) := by
  induction j with
  | zero => intro x hx; simp [meetRow] at hx
  | succ j ih =>
    simp only [meetRow]
    split
    · intro x hx
      rcases List.mem_append.1 hx with hx | hx
      · exact ih x hx
      · rw [List.mem_singleton.1 hx]; exact meetX_ok ha (okB_at hb j)
    · exact ih
theorem okB_app {l m : List Bx} (h : okB l) (k : okB m) : okB (l ++ m) := fun x hx => by
  rcases List.mem_append.1 hx with hx | hx
  · exact h x hx
  · exact k x hx
theorem okB_nil : okB [] := fun x hx => by simp at hx
theorem bothTo_ok {l bs : List Bx} (hl : okB l) (hb : okB bs) (i : Nat) : okB (bothTo l bs i) := by
  induction i with
  | zero => exact okB_nil
  | succ i ih => exact okB_app ih (meetRow_ok (okB_at hl i) hb _)
theorem meetRow_len (a : Bx) (bs : List Bx) (j : Nat) : (meetRow a bs j).length ≤ j := by
  induction j with
  | zero => simp [meetRow]
  | succ j ih => simp only [meetRow]; split <;> (try rw [List.length_append, List.length_singleton]) <;> omega
theorem bothTo_len (l bs : List Bx) (i : Nat) : (bothTo l bs i).length ≤ i * bs.length := by
  induction i with
  | zero => simp [bothTo]
  | succ i ih =>
    have := meetRow_len (atB l i) bs bs.length
    simp only [bothTo, List.length_append, Nat.succ_mul]; omega
def okH (hs : List (List Bx)) : Prop := ∀ h ∈ hs, okB h ∧ h.length ≤ 1000
theorem okH_at {hs : List (List Bx)} (h : okH hs) (i : Nat) : okB (rowAt hs i) ∧ (rowAt hs i).length ≤ 1000 := by
  unfold rowAt
  rw [List.getD_eq_getElem?_getD]
  rcases Nat.lt_or_ge i hs.length with h1 | h1
  · rw [List.getElem?_eq_getElem h1]; exact h _ (List.getElem_mem h1)
  · rw [List.getElem?_eq_none h1]; exact ⟨okB_nil, by simp⟩
theorem allTo_ok {subs : List Int} {hs : List (List Bx)} (h : okH hs) (k : Nat) : okB (allTo subs hs k) := by
  induction k with
  | zero => intro x hx; rw [List.mem_singleton.1 hx]; exact z67_ok
  | succ k ih => exact bothTo_ok ih (okH_at h _).1 _
theorem anyTo_ok {subs : List Int} {hs : List (List Bx)} (h : okH hs) (k : Nat) : okB (anyTo subs hs k) := by
  induction k with
  | zero => exact okB_nil
  | succ k ih => exact okB_app ih (withL_ok (okH_at h _).1)
theorem allOk_len {subs : List Int} {hs : List (List Bx)} (k : Nat) (h : allOk subs hs k = true) : (allTo subs hs k).length ≤ 128 := by
  cases k with
  | zero => simp [allTo]
  | succ k => simp only [allOk, Bool.and_eq_true] at h; exact of_decide_eq_true h.2
theorem anyOk_len {subs : List Int} {hs : List (List Bx)} (k : Nat) (h : anyOk subs hs k = true) : (anyTo subs hs k).length ≤ 128 := by
  cases k with
  | zero => simp [anyTo]
  | succ k => simp only [anyOk, Bool.and_eq_true] at h; exact of_decide_eq_true h.2.2
theorem allOk_mono {subs : List Int} {hs : List (List Bx)} (k : Nat) (h : allOk subs hs k = false) (j : Nat) : allOk subs hs (k + j) = false := by
  induction j with
  | zero => exact h
  | succ j ih => show (allOk subs hs (k + j) && _) = false; rw [ih]; rfl
theorem anyOk_mono {subs : List Int} {hs : List (List Bx)} (k : Nat) (h : anyOk subs hs k = false) (j : Nat) : anyOk subs hs (k + j) = false := by
  induction j with
  | zero => exact h
  | succ j ih => show (anyOk subs hs (k + j) && _) = false; rw [ih]; rfl
/-- The boxes of a node And, Or, Not over others'; false: too many. -/
def joinOk (kind : Int) (subs : List Int) (hs : List (List Bx)) : Bool :=
  if kind = 6 then withOk [z67] (rowAt hs (subAt subs 0)) else if kind = 5 then anyOk subs hs subs.length else allOk subs hs subs.length
def joinL (kind : Int) (subs : List Int) (hs : List (List Bx)) : List Bx :=
  if kind = 6 then withL [z67] (rowAt hs (subAt subs 0)) else if kind = 5 then (if anyOk subs hs subs.length then anyTo subs hs subs.length else []) else (if allOk subs hs subs.length then allTo subs hs subs.length else [])
def inH (subs : List Int) (n : Nat) : Prop := ∀ s ∈ subs, 0 ≤ s ∧ s < n
theorem inH_at {subs : List Int} {n : Nat} (h : inH subs n) {k : Nat} (hk : k < subs.length) : subs.getD k 0 = (subAt subs k : Int) ∧ subAt subs k < n := by
  unfold subAt
  rw [List.getD_eq_getElem?_getD, List.getElem?_eq_getElem hk]
  have := h _ (List.getElem_mem hk)
  simp only [Option.getD_some]
  omega

set_option maxHeartbeats 4000000 in
set_option maxRecDepth 100000 in
theorem joined_not (P : Nat → Prop) (As Ah : Option Addr) (cs ch : Nat) (f : Int) (v m : Int) (subs : List Int) (hs : List (List Bx)) (hH : okH hs) (hI : inH subs hs.length) (h1 : subs.length = 1) (w : World)
    (hr : (Kd.int .i64).C w As subs.length subs) (hV : Rows w P Ah hs) :
    Calls Try.prog 62 #[.agg #[.int .i64 6, .int .i64 f, .int .u64 v, .int .u64 m, .slice As subs.length cs], .slice Ah hs.length ch] w
      fun e w' => ∃ v, e = .returned (.tuple #[v, .bool (joinOk 6 subs hs)]) ∧ Kd.V k67 67 w' w.heap.size (fun k => P k ∨ w.heap.size ≤ k) v (joinL 6 subs hs) ∧ Below w.heap.size w w' := by
  have HR := Lib.hid hr
  have HH := Lib.hid hH
  have HV := Lib.hid hV
  obtain ⟨e0, hlt0⟩ := inH_at hI (k := 0) (by omega)
  obtain ⟨ads, rfl, hcs⟩ := rdI hr (i := 0) (by omega)
  rw [e0] at hcs
  have hcs' : w.cell? ads = some (.int .i64 (subAt subs 0 : Int)) := by simpa [Addr.add] using hcs
  have HCS := Lib.hid hcs'
  obtain ⟨n, hn⟩ : ∃ n, subs.length = n := ⟨_, rfl⟩
  have hn0 : (0 : Int) < (n : Int) := by omega
  rw [hn]
  obtain ⟨s, hsq⟩ : ∃ s, subAt subs 0 = s := ⟨_, rfl⟩
  rw [hsq] at hlt0 HCS
  have HSQ := Lib.hid hsq
  have hlt1 : (s : Int) < (hs.length : Int) := by omega
  obtain ⟨adh, A1, c1, rfl, hch, hVr⟩ := hV _ hlt0
  have HCH := Lib.hid hch
  have HVR := Lib.hid hVr
  clear hr hH hI hV e0 hcs hcs' hn h1 hsq hch hVr
  go_enter Try.func62, Try.ntmps62
  go_wp2_with (first
    | (refine wpList_box rfl 2 rfl #[.int .i64 6, .int .i64 f, .int .u64 v, .int .u64 m, .slice (some ads) n cs] 52 ?hr ?_; (case hr => first | (go_simp; done) | (go_simp; rfl)); intro g2 w2 hg2 k2 hb2; have K2 := Lib.hid k2; have HB2 := Lib.hid hb2; clear k2 hb2)
    | (refine wpList_lit67e rfl (.tmp 17) rfl 18 rfl z67 rfl ?_; intro g6 w6 hg6 hR6 hb6; have K26 := blk_cell (blk_below K2.out hb6); have d0 : w6.cell? ⟨g2, 0, none⟩ = some (.int .i64 6) := K26 0; have d4 : w6.cell? ⟨g2, 4, none⟩ = some (.slice (some ads) n cs) := K26 4; have hb26 := HB2.out.trans (hb6.mono HB2.out.size); have d5 : w6.cell? ads = some (.int .i64 (s : Int)) := pw_cell_below hb26 HCS.out; have d6 : w6.cell? (adh.add s) = some (.slice A1 (rowAt hs s).length c1) := pw_cell_below hb26 HCH.out; have HR6 := Lib.hid hR6; have HB6 := Lib.hid hb26; clear hR6 hb6 hb26 K26))
  have hle6 : Hid (w.heap.size ≤ g6) := Lib.hid (by rw [hg6.out]; exact HB2.out.size)
  go_at_call 66
  refine (without_any (fun k => w.heap.size ≤ k) (some ⟨g6, 0, none⟩) A1 1 c1 [z67] (rowAt hs s) (fun x hx => by rw [List.mem_singleton.1 hx]; exact z67_ok) (okH_at HH.out s).1 (by simp) (by have := (okH_at HH.out s).2; omega) w6
    (Kd.V_mono (Kd.R_V HR6.out) (fun k hk => by rw [hk]; exact hle6.out)) (Kd.C_below (Kd.V_reads' HVR.out).2.2 HB6.out)).mono ?_
  rintro e w7 ⟨v7, rfl, hv7, hb7⟩
  have HV7 : Hid (Kd.V k67 67 w7 w.heap.size (fun k => P k ∨ w.heap.size ≤ k) v7 (withL [z67] (rowAt hs s))) := Lib.hid (Kd.V_mono hv7 (fun k hk => .inr (hk.elim id (fun h => Nat.le_trans HB6.out.size h))))
  have HB7 := Lib.hid (HB6.out.trans (hb7.mono HB6.out.size))
  clear hv7 hb7
  go_wp2_with fail
  go_ret2
  exact ⟨_, ret_vb (by unfold joinOk; rw [if_pos rfl, HSQ.out]), by unfold joinL; rw [if_pos rfl, HSQ.out]; exact HV7.out, HB7.out⟩
set_option maxHeartbeats 4000000 in
set_option maxRecDepth 100000 in
theorem joined_or (P : Nat → Prop) (As Ah : Option Addr) (cs ch : Nat) (f : Int) (v m : Int) (subs : List Int) (hs : List (List Bx)) (hH : okH hs) (hI : inH subs hs.length) (w : World)
    (hr : (Kd.int .i64).C w As subs.length subs) (hV : Rows w P Ah hs) :
    Calls Try.prog 62 #[.agg #[.int .i64 5, .int .i64 f, .int .u64 v, .int .u64 m, .slice As subs.length cs], .slice Ah hs.length ch] w
      fun e w' => ∃ v, e = .returned (.tuple #[v, .bool (joinOk 5 subs hs)]) ∧ Kd.V k67 67 w' w.heap.size (fun k => P k ∨ w.heap.size ≤ k) v (joinL 5 subs hs) ∧ Below w.heap.size w w' := by
  have HR := Lib.hid hr
  have HH := Lib.hid hH
  have HV := Lib.hid hV
  have HI := Lib.hid hI
  have hM := hr.2.1
  clear hr hH hI hV
  go_enter Try.func62, Try.ntmps62
  go_wp2_with (first
    | (refine wpList_box rfl 2 rfl #[.int .i64 5, .int .i64 f, .int .u64 v, .int .u64 m, .slice As subs.length cs] 52 ?hr ?_; (case hr => first | (go_simp; done) | (go_simp; rfl)); intro g2 w2 hg2 k2 hb2; have K2 := Lib.hid k2; have HB2 := Lib.hid hb2; clear k2 hb2)
    | (refine wpList_lit67e rfl (.tmp 17) rfl 18 rfl z67 rfl ?_; intro g6 w6 hg6 hR6 hb6; have k26 := blk_below K2.out hb6; have d0 : w6.cell? ⟨g2, 0, none⟩ = some (.int .i64 5) := blk_cell k26 0; have d4 : w6.cell? ⟨g2, 4, none⟩ = some (.slice As subs.length cs) := blk_cell k26 4; have K26 := Lib.hid k26; have HB6 := Lib.hid (HB2.out.trans (hb6.mono HB2.out.size)); clear hR6 hb6 k26))
  clear d0 d4 K2 HB2 hg2 hg6
  go_loopw [6, 39] (fun v6 vk wr => ∃ k : Nat, vk = .int .i64 k ∧ k ≤ subs.length ∧ Hid (anyOk subs hs k = true) ∧ Hid (Kd.V k67 67 wr w.heap.size (fun k => P k ∨ w.heap.size ≤ k) v6 (anyTo subs hs k)) ∧ Hid (wr.heap[g2]? = some (.cells #[.int .i64 5, .int .i64 f, .int .u64 v, .int .u64 m, .slice As subs.length cs] 52 (0, 0))) ∧ Below w.heap.size w wr) (fun _ vk _ => subs.length - (intOf vk).toNat)
  case atStart => exact ⟨0, rfl, by omega, Lib.hid rfl, Lib.hid (Kd.V_nil _ _ _ _ _), K26, HB6.out⟩
  case round =>
    obtain ⟨k, rfl, hk, HK, HV1, K2, hw⟩ := hrel
    have HW := Lib.hid hw
    clear hw K26 HB6
    by_cases hlt : k < subs.length
    · obtain ⟨ads, rfl, hcs⟩ := rdI (Kd.C_below HR.out HW.out) hlt
      obtain ⟨e0, hlt0⟩ := inH_at HI.out hlt
      rw [e0] at hcs
      obtain ⟨s, hsq⟩ : ∃ s, subAt subs k = s := ⟨_, rfl⟩
      rw [hsq] at hlt0 hcs
      have HSQ := Lib.hid hsq
      have q1 : (k : Int) < (subs.length : Int) := by omega
      have q2 : (s : Int) < (hs.length : Int) := by omega
      obtain ⟨adh, A1, c1, rfl, hch, hVr⟩ := (HV.out.below HW.out) _ hlt0
      have HVR := Lib.hid hVr
      have d0 : wr.cell? ⟨g2, 0, none⟩ = some (.int .i64 5) := blk_cell K2.out 0
      obtain ⟨A2, c2, e2⟩ := Kd.V_slice HV1.out
      subst e2
      clear e0 hsq hVr
      go_wp2_with fail
      go_at_call 66
      refine (without_any P A1 A2 c1 c2 (rowAt hs s) (anyTo subs hs k) (okH_at HH.out s).1 (anyTo_ok HH.out k) (by have := (okH_at HH.out s).2; omega) (by have := anyOk_len k HK.out; omega) wr
        HVR.out (Kd.V_reads' HV1.out).2.2).mono ?_
      rintro e w7 ⟨v7, rfl, hv7, hb7⟩
      have HV7 : Hid (Kd.V k67 67 w7 w.heap.size (fun k => P k ∨ w.heap.size ≤ k) v7 (withL (rowAt hs s) (anyTo subs hs k))) := Lib.hid (Kd.V_mono hv7 (fun k hk => hk.elim .inl (fun h => .inr (Nat.le_trans HW.out.size h))))
      have HV17 := Lib.hid (Kd.V_below HV1.out hb7)
      have HB7 := Lib.hid (HW.out.trans (hb7.mono HW.out.size))
      have K27 := Lib.hid (blk_below K2.out hb7)
      clear hv7 hb7 HV1 HW K2 d0 hcs hch HVR
      cases hq : withOk (rowAt hs s) (anyTo subs hs k) with
      | false =>
        have HF : Hid (anyOk subs hs subs.length = false) := Lib.hid (by
          have h1 : anyOk subs hs (k + 1) = false := by simp only [anyOk]; rw [HSQ.out, hq]; simp
          have := anyOk_mono (k + 1) h1 (subs.length - (k + 1))
          rwa [show k + 1 + (subs.length - (k + 1)) = subs.length by omega] at this)
        clear hq
        go_wp2_with fail
        go_ret2
        exact ⟨_, ret_vb (by unfold joinOk; rw [if_neg (by decide), if_pos rfl, HF.out]), by unfold joinL; rw [if_neg (by decide), if_pos rfl, HF.out]; exact Kd.V_nil _ _ _ _ _, HB7.out⟩
      | true =>
        have HQ := Lib.hid hq
        clear hq
        obtain ⟨A7, c7, e7⟩ := Kd.V_slice HV7.out
        subst e7
        have hle2 := (Kd.V_reads' HV17.out).2.1
        have hl1 := anyOk_len k HK.out
        have hl2 : (withL (rowAt hs s) (anyTo subs hs k)).length ≤ 1000000 := by
          rw [withL_yes HQ.out]; exact wOk_len (by have := (okH_at HH.out s).2; omega) _ HQ.out
        go_wp2_with (at_builtin; refine wpList_append_cap rfl (.tmp 63) (.tmp 64) rfl w.heap.size (fun k => P k ∨ w.heap.size ≤ k) A2 A7 c7 (anyTo subs hs k) (withL (rowAt hs s) (anyTo subs hs k)) rfl rfl (Kd.V_mk (Nat.le_refl _) (Kd.V_at HV17.out).2.2) (Kd.V_reads' HV7.out).2.2 (by omega) ?_)
        intro v8 w8 hv8 hb8
        have HV8 : Hid (Kd.V k67 67 w8 w.heap.size (fun k => P k ∨ w.heap.size ≤ k) v8 (anyTo subs hs (k + 1))) := Lib.hid (by
          simp only [anyTo]; rw [HSQ.out]
          exact Kd.V_mono hv8 (fun j hj => hj.elim id (fun h => .inr (Nat.le_trans HB7.out.size h))))
        have HB8 := Lib.hid (HB7.out.trans (hb8.mono HB7.out.size))
        have K28 := Lib.hid (blk_below K27.out hb8)
        clear hv8 hb8 HV7 HV17 HB7 K27 hle2 hl1 hl2
        obtain ⟨A8, c8, e8⟩ := Kd.V_slice HV8.out
        subst e8
        by_cases hgt : (anyTo subs hs (k + 1)).length ≤ 128
        · have HK2 : Hid (anyOk subs hs (k + 1) = true) := Lib.hid (by
            simp only [anyOk]; rw [HK.out, HSQ.out, HQ.out]; simpa using hgt)
          have q3 : ¬ ((anyTo subs hs (k + 1)).length : Int) > 128 := by omega
          go_wp2_with fail
          go_roundw
          case rel => exact ⟨k + 1, by go_num, by omega, HK2, HV8, K28, HB8.out⟩
          case measure => simp [intOf] <;> omega
        · have HF : Hid (anyOk subs hs subs.length = false) := Lib.hid (by
            have h1 : anyOk subs hs (k + 1) = false := by simp only [anyOk]; rw [HSQ.out, decide_eq_false hgt]; simp
            have := anyOk_mono (k + 1) h1 (subs.length - (k + 1))
            rwa [show k + 1 + (subs.length - (k + 1)) = subs.length by omega] at this)
          have q3 : ((anyTo subs hs (k + 1)).length : Int) > 128 := by omega
          go_wp2_with fail
          go_ret2
          exact ⟨_, ret_vb (by unfold joinOk; rw [if_neg (by decide), if_pos rfl, HF.out]), by unfold joinL; rw [if_neg (by decide), if_pos rfl, HF.out]; exact Kd.V_nil _ _ _ _ _, HB8.out⟩
    · obtain rfl : k = subs.length := by omega
      go_wp2_with fail
      go_ret2
      exact ⟨_, ret_vb (by unfold joinOk; rw [if_neg (by decide), if_pos rfl, HK.out]), by unfold joinL; rw [if_neg (by decide), if_pos rfl, HK.out]; exact HV1.out, HW.out⟩
end Go.Proofs.Ytmhjnfkhfjejeaa
namespace Go.Proofs.Ytmhjnfkhfjejeaa
set_option linter.unusedVariables false
set_option linter.unusedSimpArgs false
open Go.RowKit Go.Proofs.YtmhjnfkhfjejeaaW.PrintWords Go.Proofs.YtmhjnfkhfjejeaaW.PrintLast Go.Proofs.YtmhjnfkhfjejeaaW.PrintMore
open PPredCubes
set_option maxHeartbeats 4000000 in
set_option maxRecDepth 100000 in
theorem joined_and (P : Nat → Prop) (As Ah : Option Addr) (cs ch : Nat) (f : Int) (v m : Int) (subs : List Int) (hs : List (List Bx)) (hH : okH hs) (hI : inH subs hs.length) (w : World)
    (hr : (Kd.int .i64).C w As subs.length subs) (hV : Rows w P Ah hs) :
    Calls Try.prog 62 #[.agg #[.int .i64 4, .int .i64 f, .int .u64 v, .int .u64 m, .slice As subs.length cs], .slice Ah hs.length ch] w
      fun e w' => ∃ v, e = .returned (.tuple #[v, .bool (joinOk 4 subs hs)]) ∧ Kd.V k67 67 w' w.heap.size (fun k => P k ∨ w.heap.size ≤ k) v (joinL 4 subs hs) ∧ Below w.heap.size w w' := by
  have HR := Lib.hid hr
  have HH := Lib.hid hH
  have HV := Lib.hid hV
  have HI := Lib.hid hI
  have hM := hr.2.1
  clear hr hH hI hV
  go_enter Try.func62, Try.ntmps62
  go_wp2_with (first
    | (refine wpList_box rfl 2 rfl #[.int .i64 4, .int .i64 f, .int .u64 v, .int .u64 m, .slice As subs.length cs] 52 ?hr ?_; (case hr => first | (go_simp; done) | (go_simp; rfl)); intro g2 w2 hg2 k2 hb2; have K2 := Lib.hid k2; have HB2 := Lib.hid hb2; clear k2 hb2)
    | (refine wpList_lit67e rfl (.tmp 17) rfl 18 rfl z67 rfl ?_; intro g6 w6 hg6 hR6 hb6; have k26 := blk_below K2.out hb6; have d0 : w6.cell? ⟨g2, 0, none⟩ = some (.int .i64 4) := blk_cell k26 0; have d4 : w6.cell? ⟨g2, 4, none⟩ = some (.slice As subs.length cs) := blk_cell k26 4; have K26 := Lib.hid k26; have HB6 := Lib.hid (HB2.out.trans (hb6.mono HB2.out.size)); have HR6 := Lib.hid hR6; clear hR6 hb6 k26))
  have HV6 : Hid (Kd.V k67 67 w6 w.heap.size (fun k => P k ∨ w.heap.size ≤ k) (.slice (some ⟨g6, 0, none⟩) 1 1) (allTo subs hs 0)) := Lib.hid (Kd.V_mono (Kd.R_V HR6.out) (fun k hk => .inr (by rw [hk, hg6.out]; exact HB2.out.size)))
  clear d0 d4 K2 HB2 hg2 hg6 HR6
  go_loopw [6, 39] (fun v6 vk wr => ∃ k : Nat, vk = .int .i64 k ∧ k ≤ subs.length ∧ Hid (allOk subs hs k = true) ∧ Hid (Kd.V k67 67 wr w.heap.size (fun k => P k ∨ w.heap.size ≤ k) v6 (allTo subs hs k)) ∧ Hid (wr.heap[g2]? = some (.cells #[.int .i64 4, .int .i64 f, .int .u64 v, .int .u64 m, .slice As subs.length cs] 52 (0, 0))) ∧ Below w.heap.size w wr) (fun _ vk _ => subs.length - (intOf vk).toNat)
  case atStart => exact ⟨0, rfl, by omega, Lib.hid rfl, HV6, K26, HB6.out⟩
  case round =>
    obtain ⟨k, rfl, hk, HK, HV1, K2, hw⟩ := hrel
    have HW := Lib.hid hw
    clear hw K26 HB6 HV6
    by_cases hlt : k < subs.length
    · obtain ⟨ads, rfl, hcs⟩ := rdI (Kd.C_below HR.out HW.out) hlt
      obtain ⟨e0, hlt0⟩ := inH_at HI.out hlt
      rw [e0] at hcs
      obtain ⟨s, hsq⟩ : ∃ s, subAt subs k = s := ⟨_, rfl⟩
      rw [hsq] at hlt0 hcs
      have HSQ := Lib.hid hsq
      have q1 : (k : Int) < (subs.length : Int) := by omega
      have q2 : (s : Int) < (hs.length : Int) := by omega
      obtain ⟨adh, A1, c1, rfl, hch, hVr⟩ := (HV.out.below HW.out) _ hlt0
      have HCB := Lib.hid (Kd.V_reads' hVr).2.2
      have HCH := Lib.hid hch
      have hbl := (okH_at HH.out s).2
      have d0 : wr.cell? ⟨g2, 0, none⟩ = some (.int .i64 4) := blk_cell K2.out 0
      obtain ⟨A2, c2, e2⟩ := Kd.V_slice HV1.out
      subst e2
      have HCA := Lib.hid (Kd.V_reads' HV1.out).2.2
      have hal := allOk_len k HK.out
      obtain ⟨bs, hbs⟩ : ∃ bs, rowAt hs s = bs := ⟨_, rfl⟩
      obtain ⟨al, hal2⟩ : ∃ al, allTo subs hs k = al := ⟨_, rfl⟩
      have HOB : Hid (okB bs) := Lib.hid (hbs ▸ (okH_at HH.out s).1)
      have HOA : Hid (okB al) := Lib.hid (hal2 ▸ allTo_ok HH.out k)
      rw [hbs] at HCB HCH hch hbl
      rw [hal2] at HCA HV1 hal ⊢
      have HBS := Lib.hid hbs
      have HAL := Lib.hid hal2
      clear e0 hsq hVr hbs hal2
      go_wp2_with fail
      clear d0 hcs hch
      obtain ⟨wo, rfl⟩ : ∃ wo : World, wo = wr := ⟨_, rfl⟩
      go_loopw [9, 68] (fun v9 vi wx => ∃ i : Nat, vi = .int .i64 i ∧ i ≤ al.length ∧ Hid (k67.R 67 wx wo.heap.size (fun _ => True) v9 (bothTo al bs i)) ∧ Below wo.heap.size wo wx) (fun _ vi _ => al.length - (intOf vi).toNat)
      case atStart => exact ⟨0, rfl, by omega, Lib.hid (Kd.R_nil _ _ _ _ _), Below.refl _ _⟩
      case round =>
        obtain ⟨i, rfl, hi, HN, hwx⟩ := hrel
        have HWX := Lib.hid hwx
        clear hwx
        by_cases hil : i < al.length
        · obtain ⟨ada, rfl, hlies⟩ := rd67 (Kd.C_below HCA.out HWX.out) hil
          have HL1 := Lib.hid hlies
          have d1 : wr.cell? (adh.add s) = some (.slice A1 bs.length c1) := pw_cell_below HWX.out HCH.out
          have q3 : (i : Int) < (al.length : Int) := by omega
          clear hlies
          go_wp2_with (first
            | (refine wpList_load_at rfl 67 (.tmp 70) rfl (ada.add (i * 20)) rfl (atB al i).cs _ HL1.out Try.underlying67 rfl info67 ?_)
            | (refine wpList_new rfl rfl 12 rfl 67 (.tmp 71) rfl rfl z67.cs (atB al i).cs ?hr rfl rfl info67 rfl (Bx.all_one _) ?_; (case hr => first | (go_simp; done) | (go_simp; rfl)); intro g12 w12 hg12 k12 hb12; have K12 := Lib.hid k12; have HB12 := Lib.hid hb12; have d2 : w12.cell? (adh.add s) = some (.slice A1 bs.length c1) := pw_cell_below hb12 d1; clear k12 hb12 d1))
          have HN12 : Hid (k67.R 67 w12 wo.heap.size (fun j => j ≠ g12) u9 (bothTo al bs i ++ meetRow (atB al i) bs 0)) := Lib.hid (by
            simp only [meetRow, List.append_nil]
            exact Kd.R_mono (Kd.R_below (Kd.R_elderB HN.out g12 (by rw [hg12.out]; omega)) HB12.out) (fun _ h => h.2))
          have HW12 := Lib.hid (HWX.out.trans (HB12.out.mono HWX.out.size))
          have HG12 : Hid (wo.heap.size ≤ g12) := Lib.hid (by rw [hg12.out]; exact HWX.out.size)
          clear HN HWX HB12 hg12 HL1 d2
          obtain ⟨wi, rfl⟩ : ∃ wi : World, wi = w12 := ⟨_, rfl⟩
          go_loopw [9, 77] (fun v9 vj wx => ∃ j : Nat, vj = .int .i64 j ∧ j ≤ bs.length ∧ Hid (k67.R 67 wx wo.heap.size (fun q => q ≠ g12) v9 (bothTo al bs i ++ meetRow (atB al i) bs j)) ∧ Hid (wx.heap[g12]? = some (.cells (atB al i).cs 67 (0, 0))) ∧ Below wo.heap.size wo wx) (fun _ vj _ => bs.length - (intOf vj).toNat)
          case atStart => exact ⟨0, rfl, by omega, HN12, K12, HW12.out⟩
          case round =>
            obtain ⟨j, rfl, hj, HN, K12, hwx⟩ := hrel
            have HWX := Lib.hid hwx
            clear hwx HN12 HW12
            by_cases hjl : j < bs.length
            · obtain ⟨adb, hadb, hlies⟩ := rd67 (Kd.C_below HCB.out HWX.out) hjl
              subst hadb
              have HL1 := Lib.hid hlies
              have q4 : (j : Int) < (bs.length : Int) := by omega
              clear hlies
              go_wp2_with (first
                | (refine wpList_load_at rfl 67 (.tmp 79) rfl (adb.add (j * 20)) rfl (atB bs j).cs _ HL1.out Try.underlying67 rfl info67 ?_)
                | (refine wpList_new rfl rfl 14 rfl 67 (.tmp 80) rfl rfl z67.cs (atB bs j).cs ?hr rfl rfl info67 rfl (Bx.all_one _) ?_; (case hr => first | (go_simp; done) | (go_simp; rfl)); intro g14 w14 hg14 k14 hb14; have K14 := Lib.hid k14; have HB14 := Lib.hid hb14; have K124 := Lib.hid (blk_below K12.out hb14); clear k14 hb14)
                | (refine wpList_load_at rfl 67 (.tmp 12) rfl ⟨g12, 0, none⟩ rfl (atB al i).cs _ (Lies.of_block K124.out) Try.underlying67 rfl info67 ?_)
                | (refine wpList_load_at rfl 67 (.tmp 14) rfl ⟨g14, 0, none⟩ rfl (atB bs j).cs _ (Lies.of_block K14.out) Try.underlying67 rfl info67 ?_))
              have HN14 := Lib.hid (Kd.R_below HN.out HB14.out)
              have HW14 := Lib.hid (HWX.out.trans (HB14.out.mono HWX.out.size))
              clear HN HWX HB14 hg14 HL1 K12 K14
              cases hmt : meetB (atB al i) (atB bs j) with
              | true =>
                go_at_call 49
                refine (meet_yes (atB al i) (atB bs j) (okB_at HOA.out i) (okB_at HOB.out j) hmt w14).mono ?_
                rintro e w15 ⟨rfl, hb15⟩
                have HN15 := Lib.hid (Kd.R_below HN14.out hb15)
                have HW15 := Lib.hid (HW14.out.trans (hb15.mono HW14.out.size))
                have K125 := Lib.hid (blk_below K124.out hb15)
                have HMT := Lib.hid hmt
                have HLN := Lib.hid (bothTo_len al bs i)
                have HLM := Lib.hid (meetRow_len (atB al i) bs j)
                have hz : i * bs.length ≤ 128 * 1000 := Nat.mul_le_mul (by omega) hbl
                have HZ := Lib.hid hz
                clear hb15 hmt HN14 HW14 K124 hz
                go_wp2_with (first
                  | (refine wpList_new rfl rfl 15 rfl 67 (.tmp 85) rfl rfl z67.cs (meetX (atB al i) (atB bs j)).cs ?hr rfl rfl info67 rfl (Bx.all_one _) ?_; (case hr => first | (go_simp; done) | (go_simp; rfl)); intro g15 w16 hg15 k15 hb16; have K15 := Lib.hid k15; have HB16 := Lib.hid hb16; have K126 := Lib.hid (blk_below K125.out hb16); have HN16 := Lib.hid (Kd.R_below HN15.out hb16); have HW16 := Lib.hid (HW15.out.trans (hb16.mono HW15.out.size)); clear k15 hb16 hg15)
                  | (refine wpList_load_at rfl 67 (.tmp 15) rfl ⟨g15, 0, none⟩ rfl (meetX (atB al i) (atB bs j)).cs _ (Lies.of_block K15.out) Try.underlying67 rfl info67 ?_)
                  | (refine wpList_lit67 rfl (.tmp 89) rfl (some 90) rfl (meetX (atB al i) (atB bs j)) rfl ?_)
                  | (at_builtin; refine Kd.R_append k67 (w0 := wo) (W := w16) wo.heap.size rfl (.tmp 88) (.tmp 90) 62 67 _ 160 rfl Try.underlying62 info67z rfl (by decide) (by decide) _ (bothTo al bs i ++ meetRow (atB al i) bs j) (meetX (atB al i) (atB bs j)) (meetX (atB al i) (atB bs j)).cs.toList (fun q => q ≠ g12) (fun _ => False) rfl rfl rfl (fun _ h => h.elim) ?c2 HN16.out HW16.out ?c3 ?c4 ?_))
                case c2 => exact fun q hq e => by have := blk_lt K126.out; omega
                case c3 => exact HW16.out.size
                case c4 => rw [List.length_append]; have := HLN.out; have := HLM.out; have := HZ.out; omega
                intro v1 w1 hr1 hb1 hg1 _
                have k1 : w1.heap[g12]? = some (.cells (atB al i).cs 67 (0, 0)) := blk_grown K126.out hg1 (fun e => HN16.out.1 _ e.symm rfl)
                have HR1 : Hid (k67.R 67 w1 wo.heap.size (fun q => q ≠ g12) v1 (bothTo al bs i ++ meetRow (atB al i) bs (j + 1))) := Lib.hid (by
                  simp only [meetRow]; rw [if_pos HMT.out]; exact hr1)
                have K1 := Lib.hid k1
                have HB1 := Lib.hid hb1
                clear hr1 hb1 hg1 k1 HN16 HW16 K126 HN15 HW15 K125
                go_wp2_with fail
                go_roundw
                case rel => exact ⟨j + 1, by go_num, by omega, HR1, K1, HB1.out⟩
                case measure => simp [intOf] <;> omega
              | false =>
                go_at_call 49
                refine (meet_no (atB al i) (atB bs j) (okB_at HOA.out i) (okB_at HOB.out j) hmt w14).mono ?_
                rintro e w15 ⟨rfl, hb15⟩
                have HN15 := Lib.hid (Kd.R_below HN14.out hb15)
                have HW15 := Lib.hid (HW14.out.trans (hb15.mono HW14.out.size))
                have K125 := Lib.hid (blk_below K124.out hb15)
                have HMT := Lib.hid hmt
                clear hb15 hmt HN14 HW14 K124
                go_wp2_with (refine wpList_new rfl rfl 15 rfl 67 (.tmp 85) rfl rfl z67.cs z67.cs ?hr rfl rfl info67 rfl (Bx.all_one _) ?_; (case hr => first | (go_simp; done) | (go_simp; rfl)); intro g15 w16 hg15 k15 hb16; have HB16 := Lib.hid hb16; have K126 := Lib.hid (blk_below K125.out hb16); have HN16 := Lib.hid (Kd.R_below HN15.out hb16); have HW16 := Lib.hid (HW15.out.trans (hb16.mono HW15.out.size)); clear k15 hb16 hg15)
                have HR1 : Hid (k67.R 67 w16 wo.heap.size (fun q => q ≠ g12) u9 (bothTo al bs i ++ meetRow (atB al i) bs (j + 1))) := Lib.hid (by
                  simp only [meetRow]; rw [if_neg (by rw [HMT.out]; decide)]; exact HN16.out)
                go_roundw
                case rel => exact ⟨j + 1, by go_num, by omega, HR1, K126, HW16.out⟩
                case measure => simp [intOf] <;> omega
            · obtain rfl : j = bs.length := by omega
              go_wp2_with fail
              exact ⟨⟨i + 1, by first | rfl | go_num, by omega, Lib.hid (Kd.R_mono HN.out (fun _ _ => trivial)), HWX.out⟩, by simp [intOf] <;> omega⟩
        · obtain rfl : i = al.length := by omega
          have HN2 : Hid (k67.R 67 wr wo.heap.size (fun _ => True) u9 (allTo subs hs (k + 1))) := Lib.hid (by simp only [allTo]; rw [HSQ.out, HBS.out, HAL.out]; exact HN.out)
          obtain ⟨A9, c9, e9⟩ := Kd.R_slice HN2.out
          subst e9
          have HV2 : Hid (Kd.V k67 67 wr w.heap.size (fun k => P k ∨ w.heap.size ≤ k) (.slice A9 (allTo subs hs (k + 1)).length c9) (allTo subs hs (k + 1))) := Lib.hid (Kd.V_mono (Kd.R_V (Kd.R_bound HN2.out)) (fun q hq => .inr (Nat.le_trans HW.out.size hq.2.1)))
          have HW2 := Lib.hid (HW.out.trans (HWX.out.mono HW.out.size))
          have K22 := Lib.hid (blk_below K2.out HWX.out)
          clear HN HN2
          by_cases hgt : (allTo subs hs (k + 1)).length ≤ 128
          · have HK2 : Hid (allOk subs hs (k + 1) = true) := Lib.hid (by
              simp only [allOk]; rw [HK.out]; simpa using hgt)
            have q5 : ¬ ((allTo subs hs (k + 1)).length : Int) > 128 := by omega
            go_wp2_with fail
            exact ⟨⟨k + 1, by first | rfl | go_num, by omega, HK2, HV2, K22, HW2.out⟩, by simp [intOf] <;> omega⟩
          · have HF : Hid (allOk subs hs subs.length = false) := Lib.hid (by
              have h1 : allOk subs hs (k + 1) = false := by simp only [allOk]; rw [decide_eq_false hgt]; simp
              have := allOk_mono (k + 1) h1 (subs.length - (k + 1))
              rwa [show k + 1 + (subs.length - (k + 1)) = subs.length by omega] at this)
            have q5 : ((allTo subs hs (k + 1)).length : Int) > 128 := by omega
            go_wp2_with fail
            go_ret2
            exact ⟨_, ret_vb (by unfold joinOk; rw [if_neg (by decide), if_neg (by decide), HF.out]), by unfold joinL; rw [if_neg (by decide), if_neg (by decide), HF.out]; exact Kd.V_nil _ _ _ _ _, HW2.out⟩
    · obtain rfl : k = subs.length := by omega
      go_wp2_with fail
      go_ret2
      exact ⟨_, ret_vb (by unfold joinOk; rw [if_neg (by decide), if_neg (by decide), HK.out]), by unfold joinL; rw [if_neg (by decide), if_neg (by decide), HK.out]; exact HV1.out, HW.out⟩
end Go.Proofs.Ytmhjnfkhfjejeaa
