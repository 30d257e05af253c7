import Derived.Test.YteilgnjjfebogaaL
import Derived.Laws.OwnMore
import Derived.Deep.AppendLies
import Derived.Deep.Draws
import Derived.Maps.AppendAt
import Derived.RegionTactic
import Derived.OwnWalk
import Derived.Deep.Onto
namespace Go.Proofs.Yteilgnjjfebogaa
set_option linter.unusedVariables false
set_option linter.unusedSimpArgs false
open Go.RowKit

/-! ### Words for memory, after the guide's page of words to copy -/
theorem block_of_add (a : Addr) (n : Nat) : (a.add n).block = a.block := by unfold Addr.add; split <;> rfl
theorem add_of_add (a : Addr) (i j : Nat) : (a.add i).add j = a.add (i + j) := by
  unfold Addr.add
  by_cases hi : i = 0 <;> by_cases hj : j = 0 <;> simp [hi, hj, Nat.add_assoc]

def Reads (w : World) (B size : Nat) (A : Option Addr) (n : Nat) (xs : List Value) : Prop :=
  xs.length = n * size ∧ (0 < n → ∃ ad, A = some ad ∧ ad.block < B ∧ ∀ j u, xs[j]? = some u → w.cell? (ad.add j) = some u)

section
variable {w w' : World} {B B' size n : Nat} {A : Option Addr} {xs : List Value}
theorem Reads.none_ : Reads w B size A 0 [] := ⟨by simp, fun h => absurd h (by omega)⟩
theorem Reads.at_ {k : Nat} (h : Reads w B 1 A n xs) (hk : k < n) : ∃ ad u, A = some ad ∧ ad.block < B ∧ xs[k]? = some u ∧ w.cell? (ad.add k) = some u := by
  obtain ⟨ad, e, hb, hc⟩ := h.2 (by omega)
  have hl : k < xs.length := by have := h.1; omega
  exact ⟨ad, xs[k], e, hb, List.getElem?_eq_getElem hl, hc k _ (List.getElem?_eq_getElem hl)⟩
theorem Reads.keep (h : Reads w B size A n xs) (hk : ∀ p : Addr, p.block < B → w'.cell? p = w.cell? p) : Reads w' B size A n xs :=
  ⟨h.1, fun hn => by
    obtain ⟨ad, e, hb, hc⟩ := h.2 hn
    exact ⟨ad, e, hb, fun j u hu => (hk _ (by rw [block_of_add]; exact hb)).trans (hc j u hu)⟩⟩
theorem Reads.more (h : Reads w B size A n xs) (hB : B ≤ B') : Reads w B' size A n xs :=
  ⟨h.1, fun hn => by
    obtain ⟨ad, e, hb, hc⟩ := h.2 hn
    exact ⟨ad, e, by omega, hc⟩⟩
theorem Reads.below (h : Reads w B size A n xs) (hb : Below B w w') : Reads w' B size A n xs := h.keep fun _ hp => hb.cell hp
theorem Reads.drew (h : Reads w B size A n xs) : Reads w.drew B size A n xs := h
theorem Reads.drewN (h : Reads w B size A n xs) (k : Nat) : Reads (w.drewN k) B size A n xs := h
theorem Reads.alloc (h : Reads w B size A n xs) (hB : B ≤ w.heap.size) (o : Obj) : Reads (w.alloc o) B size A n xs := h.keep fun p hp => World.cell?_alloc_lt w o p (by omega)
theorem Reads.setCell (h : Reads w B size A n xs) {p : Addr} (hB : B ≤ p.block) (u : Value) : Reads (w.setCell p u) B size A n xs :=
  h.keep fun q hq => World.cell?_setCell_other w p q u (fun e => by subst e; omega)
theorem Reads.grown (h : Reads w B size A n xs) {row : Option Nat} (hg : w.grownBy w' row) (hB : B ≤ w.heap.size) (hr : ∀ g, row = some g → B ≤ g) : Reads w' B size A n xs :=
  h.keep fun p hp => World.cell?_of_block (hg.block p.block (by omega) (fun e => by have := hr _ e.symm; omega))
theorem Reads.cut (h : Reads w B size A n xs) {k cap : Nat} (hk : k ≤ n) (hc : n ≤ cap) :
    Reads w B size (if cap = k then A else A.map (·.add (k * size))) (n - k) (xs.drop (k * size)) := by
  refine ⟨by rw [List.length_drop, h.1, Nat.sub_mul], fun hn => ?_⟩
  obtain ⟨ad, rfl, hb, hcell⟩ := h.2 (by omega)
  rw [if_neg (by omega)]
  refine ⟨ad.add (k * size), rfl, by rw [block_of_add]; exact hb, fun j u hu => ?_⟩
  rw [add_of_add]
  exact hcell _ u (by rw [← hu, List.getElem?_drop])
theorem Reads.of_own {base : Nat} {e : TypeId} {c : Nat} (h : w.ownsRow base e size (.slice A n c) n xs) : Reads w w.heap.size size A n xs := by
  refine ⟨h.1, fun hn => ?_⟩
  obtain ⟨g, cap, hv, _, hlt⟩ := h.form hn
  have hA : A = some ⟨g, 0, none⟩ := by injection hv
  subst hA
  exact ⟨_, rfl, hlt, h.cells (g := g) rfl⟩
end

section
variable {P : Program} (w : World)

theorem run_append_of_nil (base : Nat) (t ty e : TypeId) (i : TypeInfo) (size : Nat) (ht : P.underlying t = some (.slice e)) (hi : P.info? e = some i)
    (v : Value) (n : Nat) (xs : List Value) (hown : w.ownsRow base e size v n xs) (c : Nat) : (Builtin.append_ #[t, t] ty #[v, .slice none 0 c]).run P w = .ok v w := by
  rcases hown.2 with ⟨rfl, rfl⟩ | ⟨g, cap, cur, rfl, _, _, hnc, _⟩
  · simp [Builtin.append_, run_underlying ht, sizeOf, typeInfo, hi, Builtin.lenOf, Builtin.firstCells]
  · simp [Builtin.append_, run_underlying ht, sizeOf, typeInfo, hi, Builtin.lenOf, Builtin.firstCells, hnc, storeCells]

theorem run_append_any (base : Nat) (t ty e : TypeId) (i : TypeInfo) (z : Value) (size bytes : Nat) (ht : P.underlying t = some (.slice e)) (hi : P.info? e = some i) (hz : i.zero = some z)
    (hsize : i.size = size) (hby : i.bytes = bytes) (hzs : z.cells.size = size) (hsz : 0 < size)
    (v : Value) (n : Nat) (xs : List Value) (hown : w.ownsRow base e size v n xs)
    (B : Nat) (A : Option Addr) (m c : Nat) (news : List Value) (hr : Reads w B size A m news) (h1 : ∀ u ∈ news, u.oneCell' = true)
    (h63 : n + m ≤ maxLen) (hbytes : (n + m) * bytes ≤ 140737488355328) (hbase : base ≤ w.heap.size) :
    ∃ v' w', (Builtin.append_ #[t, t] ty #[v, .slice A m c]).run P w = .ok v' w' ∧ w'.ownsRow base e size v' (n + m) (xs ++ news) ∧ w.grownBy w' v.ownBlock ∧
      (v'.ownBlock = v.ownBlock ∨ v'.ownBlock = some w.heap.size) := by
  rcases A with _ | ad
  · have hm : m = 0 := by
      rcases Nat.eq_zero_or_pos m with h0 | h0
      · exact h0
      · obtain ⟨ad, h, _⟩ := hr.2 h0
        cases h
    subst hm
    have hn : news = [] := List.eq_nil_of_length_eq_zero (by simpa using hr.1)
    subst hn
    exact ⟨v, w, run_append_of_nil w base t ty e i size ht hi v n xs hown c, by simpa using hown, World.grownBy.refl w _, .inl rfl⟩
  · have hcells : ∀ j u, news[j]? = some u → w.cell? (ad.add j) = some u := by
      intro j u hu
      rcases Nat.eq_zero_or_pos m with h0 | h0
      · subst h0
        have hn : news = [] := List.eq_nil_of_length_eq_zero (by simpa using hr.1)
        subst hn
        simp at hu
      · obtain ⟨ad', h, _, hc⟩ := hr.2 h0
        injection h with h
        subst h
        exact hc j u hu
    obtain ⟨v', w', hrun, h2, h3, _, h5⟩ := run_append_own_at (P := P) w base t ty e i z size bytes ht hi hz hsize hby hzs hsz v n xs hown ad m c news hr.1 hcells h1 h63 hbytes hbase
    exact ⟨v', w', hrun, h2, h3, h5⟩

theorem wp_append_any {o : Oper} {a : Act} {K : Act → World → Prop} {Q : Exit → Act → World → Prop} (s x : Operand) (t : TypeId)
    (ho : o.op = .call { callee := .builtin .append, args := #[s, x], argTypes := #[t, t] })
    (base : Nat) (e : TypeId) (i : TypeInfo) (z : Value) (size bytes : Nat) (ht : P.underlying t = some (.slice e)) (hi : P.info? e = some i) (hz : i.zero = some z)
    (hsize : i.size = size) (hby : i.bytes = bytes) (hzs : z.cells.size = size) (hsz : 0 < size)
    (v : Value) (n : Nat) (xs : List Value) (hs : a.eval s = v) (hown : w.ownsRow base e size v n xs)
    (B : Nat) (A : Option Addr) (m c : Nat) (news : List Value) (hx : a.eval x = .slice A m c) (hr : Reads w B size A m news) (h1 : ∀ u ∈ news, u.oneCell' = true)
    (h63 : n + m ≤ maxLen) (hbytes : (n + m) * bytes ≤ 140737488355328) (hbase : base ≤ w.heap.size)
    (h : ∀ v' w', w'.ownsRow base e size v' (n + m) (xs ++ news) → w.grownBy w' v.ownBlock → (v'.ownBlock = v.ownBlock ∨ v'.ownBlock = some w.heap.size) → K (a.put o.dst v') w') : o.wp P a w K Q := by
  obtain ⟨v', w', hrun, h2, h3, h4⟩ := run_append_any (P := P) w base t o.type e i z size bytes ht hi hz hsize hby hzs hsz v n xs hown B A m c news hr h1 h63 hbytes hbase
  unfold Oper.wp execOp
  simp only [ho, resolve, invoke, builtin, Sem.run_bind, Sem.run_pure, Result.andThen_ok, List.map_toArray, List.map_cons, List.map_nil, hs, hx, hrun]
  exact h v' w' h2 h3 h4

theorem wpList_append_any {ops : Array Oper} {rest : List Oper} {o : Oper} {a : Act} {Q : Exit → Act → World → Prop} (hgd : o.guard = none) (s x : Operand) (t : TypeId)
    (ho : o.op = .call { callee := .builtin .append, args := #[s, x], argTypes := #[t, t] })
    (base : Nat) (e : TypeId) (i : TypeInfo) (z : Value) (size bytes : Nat) (ht : P.underlying t = some (.slice e)) (hi : P.info? e = some i) (hz : i.zero = some z)
    (hsize : i.size = size) (hby : i.bytes = bytes) (hzs : z.cells.size = size) (hsz : 0 < size)
    (v : Value) (n : Nat) (xs : List Value) (hs : a.eval s = v) (hown : w.ownsRow base e size v n xs)
    (B : Nat) (A : Option Addr) (m c : Nat) (news : List Value) (hx : a.eval x = .slice A m c) (hr : Reads w B size A m news) (h1 : ∀ u ∈ news, u.oneCell' = true)
    (h63 : n + m ≤ maxLen) (hbytes : (n + m) * bytes ≤ 140737488355328) (hbase : base ≤ w.heap.size)
    (h : ∀ v' w', w'.ownsRow base e size v' (n + m) (xs ++ news) → w.grownBy w' v.ownBlock → (v'.ownBlock = v.ownBlock ∨ v'.ownBlock = some w.heap.size) → wpList P ops Q rest (a.put o.dst v') w') : wpList P ops Q (o :: rest) a w :=
  wpList_plain hgd fun _ hK => wp_append_any w s x t ho base e i z size bytes ht hi hz hsize hby hzs hsz v n xs hs hown B A m c news hx hr h1 h63 hbytes hbase fun v' w' h2 h3 h4 => hK _ _ (h v' w' h2 h3 h4)

theorem step_append_any {ops : Array Oper} {o : Oper} {a : Act} {K : Act → World → Prop} {Q : Exit → Act → World → Prop} {E : Prop} (hgd : o.guard = none) (s x : Operand) (t : TypeId)
    (ho : o.op = .call { callee := .builtin .append, args := #[s, x], argTypes := #[t, t] })
    (base : Nat) (e : TypeId) (i : TypeInfo) (z : Value) (size bytes : Nat) (ht : P.underlying t = some (.slice e)) (hi : P.info? e = some i) (hz : i.zero = some z)
    (hsize : i.size = size) (hby : i.bytes = bytes) (hzs : z.cells.size = size) (hsz : 0 < size)
    (v : Value) (n : Nat) (xs : List Value) (hs : a.eval s = v) (hown : w.ownsRow base e size v n xs)
    (B : Nat) (A : Option Addr) (m c : Nat) (news : List Value) (hx : a.eval x = .slice A m c) (hr : Reads w B size A m news) (h1 : ∀ u ∈ news, u.oneCell' = true)
    (h63 : n + m ≤ maxLen) (hbytes : (n + m) * bytes ≤ 140737488355328) (hbase : base ≤ w.heap.size)
    (h : ∀ v' w', w'.ownsRow base e size v' (n + m) (xs ++ news) → w.grownBy w' v.ownBlock → (v'.ownBlock = v.ownBlock ∨ v'.ownBlock = some w.heap.size) → K (a.put o.dst v') w') :
    if Region.wanted o (yielded ops a.tmps) = true then Oper.wp P o a w K Q else E := by
  have hw : Region.wanted o (yielded ops a.tmps) = true := by simp [Region.wanted, hgd]
  rw [if_pos hw]
  exact wp_append_any w s x t ho base e i z size bytes ht hi hz hsize hby hzs hsz v n xs hs hown B A m c news hx hr h1 h63 hbytes hbase h
end

theorem Reads.take {w : World} {B n : Nat} {A : Option Addr} {xs : List Value} {k : Nat} (h : Reads w B 1 A n xs) (hk : k ≤ n) : Reads w B 1 A k (xs.take k) := by
  refine ⟨by rw [List.length_take, h.1]; omega, fun h0 => ?_⟩
  obtain ⟨ad, e, hb, hc⟩ := h.2 (by omega)
  refine ⟨ad, e, hb, fun j u hu => ?_⟩
  rw [List.getElem?_take] at hu
  split at hu
  · exact hc j u hu
  · cases hu

/-! ### The reference's order -/
theorem pairwise_ins {R : Int → Int → Prop} {l : List Int} {x : Int} {k : Nat} (hp : l.Pairwise R) (h1 : ∀ y ∈ l.take k, R y x) (h2 : ∀ y ∈ l.drop k, R x y) : (l.take k ++ [x] ++ l.drop k).Pairwise R := by
  have hl := hp
  rw [← List.take_append_drop k l, List.pairwise_append] at hl
  rw [List.append_assoc, List.pairwise_append]
  refine ⟨hl.1, ?_, ?_⟩
  · rw [List.singleton_append, List.pairwise_cons]; exact ⟨h2, hl.2.1⟩
  · intro y hy z hz
    rw [List.singleton_append, List.mem_cons] at hz
    rcases hz with rfl | hz
    · exact h1 y hy
    · exact hl.2.2 y hy z hz
theorem mem_ins {l : List Int} {x : Int} {k : Nat} (y : Int) : y ∈ l.take k ++ [x] ++ l.drop k ↔ y = x ∨ y ∈ l := by
  have h : y ∈ l ↔ y ∈ l.take k ∨ y ∈ l.drop k := by
    conv => lhs; rw [← List.take_append_drop k l]
    exact List.mem_append
  rw [h]
  simp only [List.mem_append, List.mem_singleton]
  constructor
  · rintro ((h | h) | h)
    · exact .inr (.inl h)
    · exact .inl h
    · exact .inr (.inr h)
  · rintro (h | h | h)
    · exact .inl (.inr h)
    · exact .inl (.inl h)
    · exact .inr h

theorem atI_mem {l : List Int} {k : Nat} (h : k < l.length) : atI l k ∈ l := by
  unfold atI; rw [List.getD_eq_getElem?_getD, List.getElem?_eq_getElem h]; exact List.getElem_mem h

/-- What the insertion has come to: the places of the first i, in order. -/
structure OrdL (l : List Nat) (i : Nat) (out : List Int) : Prop where
  len : out.length = i
  rise : out.Pairwise (RL l)
  mem : ∀ x, x ∈ out ↔ 0 ≤ x ∧ x < i

theorem OrdL.ins {l : List Nat} (hl : lt64 l) {i : Nat} {out : List Int} (h : OrdL l i out) {k : Nat} (hk : k ≤ i) (h1 : k = 0 ∨ lessB (at0 l i) (at0 l (atI out (k - 1)).toNat) = false)
    (h2 : ∀ j, k ≤ j → j < i → lessB (at0 l i) (at0 l (atI out j).toNat) = true) : OrdL l (i + 1) (out.take k ++ [(i : Int)] ++ out.drop k) := by
  have htr : ∀ x y z, RL l x y → RL l y z → RL l x z := (ord_ok l hl 0).trans
  have hlen := h.len
  refine ⟨by simp; omega, pairwise_ins h.rise (fun y hy => ?_) (fun y hy => ?_), fun x => ?_⟩
  · rcases h1 with h1 | h1
    · subst h1; simp at hy
    · by_cases hk0 : k = 0
      · subst hk0; simp at hy
      · have hlast : RL l (atI out (k - 1)) i := by
          have hm := (h.mem _).1 (atI_mem (l := out) (k := k - 1) (by omega))
          right
          refine ⟨?_, hm.2⟩
          simpa using h1
        obtain ⟨j, hj, rfl⟩ := List.mem_iff_getElem.1 hy
        rw [List.length_take] at hj
        rw [List.getElem_take]
        by_cases he : j = k - 1
        · subst he
          have : out[k - 1] = atI out (k - 1) := by unfold atI; rw [List.getD_eq_getElem?_getD, List.getElem?_eq_getElem (by omega)]; rfl
          rw [this]; exact hlast
        · have h3 := List.pairwise_iff_getElem.1 h.rise j (k - 1) (by omega) (by omega) (by omega)
          have : out[k - 1]'(by omega) = atI out (k - 1) := by unfold atI; rw [List.getD_eq_getElem?_getD, List.getElem?_eq_getElem (by omega)]; rfl
          rw [this] at h3
          exact htr _ _ _ h3 hlast
  · obtain ⟨j, hj, rfl⟩ := List.mem_iff_getElem.1 hy
    rw [List.length_drop] at hj
    rw [List.getElem_drop]
    have := h2 (k + j) (by omega) (by omega)
    have e : out[k + j]'(by omega) = atI out (k + j) := by unfold atI; rw [List.getD_eq_getElem?_getD, List.getElem?_eq_getElem (by omega)]; rfl
    rw [e]
    left; simpa using this
  · rw [mem_ins, h.mem]; omega

/-- The first k of what is owned, as values. -/
def intsV (l : List Int) : List Value := l.map (Value.int .i64)
theorem intsV_take (l : List Int) (k : Nat) : (intsV l).take k = intsV (l.take k) := by unfold intsV; rw [List.map_take]
theorem intsV_drop (l : List Int) (k : Nat) : (intsV l).drop k = intsV (l.drop k) := by unfold intsV; rw [List.map_drop]
theorem intsV_app (l m : List Int) : intsV l ++ intsV m = intsV (l ++ m) := by unfold intsV; rw [List.map_append]
theorem intsV_one (l : List Int) : ∀ u ∈ intsV l, u.oneCell' = true := by intro u hu; obtain ⟨x, _, rfl⟩ := List.mem_map.1 hu; rfl
theorem intsV_at (l : List Int) (k : Nat) (h : k < l.length) : (intsV l).getD k undef = .int .i64 (atI l k) := by
  unfold intsV atI
  rw [List.getD_eq_getElem?_getD, List.getElem?_map, List.getElem?_eq_getElem h]
  simp [List.getD_eq_getElem?_getD, List.getElem?_eq_getElem h]

set_option maxHeartbeats 4000000 in
set_option maxRecDepth 100000 in
theorem rorder_any (a : Option Addr) (cap : Nat) (l : List Nat) (hl : lt64 l) (hm : l.length * 8 ≤ 140737488351232) (w : World)
    (hr : RowF w a l.length (fun k => .int .u64 (at0 l k))) :
    Calls Try.prog 23 #[.slice a l.length cap] w fun e w' => ∃ v out, e = .returned v ∧ w'.ownsRow w.heap.size 3 1 v l.length (intsV out) ∧ OrdL l l.length out ∧ Below w.heap.size w w' := by
  have HR := Lib.hid hr
  have HL : Hid (∀ x ∈ l, x < 18446744073709551616) := hl
  have HM := Lib.hid hm
  obtain ⟨i0, hi, hz0, hz1, hz2⟩ := info_parts info3
  have hnb : l.length ≤ 17592186043904 := by omega
  clear hr hl hm
  go_enter Try.func23, Try.ntmps23
  go_wp2
  go_loopw [3, 4] (fun v vi wr => ∃ (i : Nat) (out : List Int), vi = .int .i64 i ∧ i ≤ l.length ∧ wr.ownsRow w.heap.size 3 1 v i (intsV out) ∧ OrdL l i out ∧ Below w.heap.size w wr) (fun _ vi _ => l.length - (intOf vi).toNat)
  case atStart => exact ⟨0, [], rfl, Nat.zero_le _, World.ownsRow_nil _ _ _ _, ⟨rfl, List.Pairwise.nil, fun x => by simp⟩, Below.refl _ _⟩
  case round =>
    obtain ⟨i, out, rfl, hin, hown, hord, hb⟩ := hrel
    obtain ⟨A, c, rfl, hc, hrow, hbl⟩ := own_row hown
    have HOWN := Lib.hid hown
    have HORD := Lib.hid hord
    have HB := Lib.hid hb
    have HROW : Hid (RowF wr A i (fun k => .int .i64 (atI out k))) := fun k hk => by
      obtain ⟨b, off, e1, h1⟩ := hrow k hk
      exact ⟨b, off, e1, h1.trans (congrArg some (intsV_at out k (by rw [hord.len]; exact hk)))⟩
    have HRA := Lib.hid (HR.out.below hb)
    clear hown hord hb hrow hbl
    by_cases hlt : i < l.length
    · go_wp2
      obtain ⟨wo, rfl⟩ : ∃ wo : World, wo = wr := ⟨_, rfl⟩
      go_loopw [5] (fun vk wr2 => ∃ k : Nat, vk = .int .i64 k ∧ k ≤ i ∧ Drw wo wr2 ∧ Hid (∀ j, k ≤ j → j < i → lessB (at0 l i) (at0 l (atI out j).toNat) = true)) (fun vk _ => (intOf vk).toNat)
      case atStart => exact ⟨i, rfl, Nat.le_refl _, Drw.refl _, fun j h1 h2 => by omega⟩
      case round =>
        obtain ⟨k, rfl, hki, HD, HK⟩ := hrel
        by_cases hk0 : 0 < k
        · obtain ⟨kp, rfl⟩ : ∃ kp, k = kp + 1 := ⟨k - 1, by omega⟩
          have hmem := (HORD.out.mem _).1 (atI_mem (l := out) (k := kp) (by rw [HORD.out.len]; omega))
          obtain ⟨x, hx⟩ : ∃ x, x = (atI out kp).toNat := ⟨_, rfl⟩
          have hxi : atI out kp = (x : Int) := by omega
          obtain ⟨b1, off1, e1, cA⟩ := HD.row HROW.out kp (by omega)
          subst e1
          obtain ⟨b2, off2, e2, cI⟩ := HD.row HRA.out i hlt
          subst e2
          obtain ⟨b3, off3, e3, cX⟩ := HD.row HRA.out x (by omega)
          cases e3
          have cA' : wr.cell? ⟨b1, off1 + kp, none⟩ = some (.int .i64 x) := by rw [cA]; simp only; rw [hxi]
          have q1 : (i : Int) < (l.length : Int) := by omega
          have q2 : (kp : Int) < (i : Int) := by omega
          have q3 : (x : Int) < (l.length : Int) := by omega
          have q4 : (0 : Int) < (kp : Int) + 1 := by omega
          have hlx := at0_lt l HL.out x
          have hli := at0_lt l HL.out i
          have HX := Lib.hid hx
          have HXI := Lib.hid hxi
          clear cA hx hxi hmem hk0
          cases hq : lessB (at0 l i) (at0 l x) with
          | true =>
            have HQ := Lib.hid hq
            clear hq
            go_wp2_with fail
            go_quiet ((go_at_call 15; exact Calls.quiet_eq ((rless_nat _ _ hli hlx _).mono fun e w' h => by rw [HQ.out] at h; exact h)))
            go_wp2
            have HK2 : Hid (∀ j, kp ≤ j → j < i → lessB (at0 l i) (at0 l (atI out j).toNat) = true) := fun j h1 h2 => by
              rcases Nat.lt_or_ge kp j with h3 | h3
              · exact HK.out j (by omega) h2
              · obtain rfl : j = kp := by omega
                rw [← HX.out]; exact HQ.out
            go_roundw
            case rel => exact ⟨kp, by first | rfl | go_num, by omega, HD.drewN _, HK2⟩
            case measure => simp [intOf] <;> omega
          | false =>
            have HQ := Lib.hid hq
            clear hq
            have hnew := HORD.out.ins HL.out hki (.inr (by rw [Nat.add_sub_cancel, ← HX.out]; exact HQ.out)) HK.out
            have HNEW := Lib.hid hnew
            clear hnew
            go_wp2_with fail
            go_quiet ((go_at_call 15; exact Calls.quiet_eq ((rless_nat _ _ hli hlx _).mono fun e w' h => by rw [HQ.out] at h; exact h)))
            have hkk : kp + 1 ≤ i := hki
            have hkk : kp + 1 ≤ i := hki
            have hkk : kp + 1 ≤ i := hki
            have HRD := Lib.hid (((Reads.of_own HOWN.out).take hkk).below (HD.below wo.heap.size))
            have HRF := Lib.hid ((Reads.of_own HOWN.out).below (HD.below wo.heap.size))
            have HSZ : Hid (wr.heap.size = wo.heap.size) := by obtain ⟨m, rfl⟩ := HD; rfl
            have hc1 : kp + 1 ≤ c := by omega
            go_wp2_with (first
              | (at_builtin; refine wpList_append_any _ rfl (.tmp 34) (.tmp 37) 39 rfl wo.heap.size 3 i0 (.int .i64 0) 1 8 Try.underlying39 hi hz0 hz1 hz2 rfl (by decide) _ _ _ rfl (World.ownsRow_nil _ _ _ _) wo.heap.size _ _ _ _ rfl (HRD.out.drewN _) ?c1 ?c2 ?c3 ?c4 ?_))
            case c1 => intro u hu; exact intsV_one out u (List.mem_of_mem_take hu)
            case c2 => unfold maxLen; omega
            case c3 => omega
            case c4 => show wo.heap.size ≤ wr.heap.size; exact Nat.le_of_eq HSZ.out.symm
            intro v2 wb hown2 hg2 _
            have hr2 : Reads wb wo.heap.size 1 _ i (intsV out) := (HRF.out.drewN _).grown hg2 (by show wo.heap.size ≤ wr.heap.size; exact Nat.le_of_eq HSZ.out.symm) (fun g hg => by cases hg)
            have hb2 : Below wo.heap.size wo wb := (HD.drewN _).below _ |>.grown hg2 (by show wo.heap.size ≤ wr.heap.size; exact Nat.le_of_eq HSZ.out.symm) (fun g hg => by cases hg)
            have HO2 := Lib.hid hown2
            have HR2 := Lib.hid hr2
            have HB2 := Lib.hid hb2
            clear hown2 hg2 hr2 hb2
            go_wp2_with (first
              | (at_builtin; refine wpList_append_own _ rfl _ _ 39 rfl wo.heap.size 3 i0 (.int .i64 0) 1 8 Try.underlying39 hi hz0 hz1 hz2 rfl (by decide) _ _ _ rfl (HO2.out.alloc _) ⟨wb.heap.size, 0, none⟩ 1 1 [.int .i64 i] rfl rfl ?c1 ?c2 ?c3 ?c4 ?c5 ?_))
            case c1 => intro j u hj; match j, hj with | 0, hj => simp at hj; subst hj; simp [Addr.add]
            case c2 => intro u hu; simp at hu; subst hu; rfl
            case c3 => unfold maxLen; omega
            case c4 => omega
            case c5 => have := HB2.out.size; simp; omega
            intro v3 wc hown3 hg3 _
            have hlt2 := HO2.out.lt
            have hs2 : wo.heap.size ≤ (wb.alloc (.cells #[.int .i64 i] 3)).heap.size := by have := HB2.out.size; simp; omega
            have hr3 : Reads wc wo.heap.size 1 _ i (intsV out) := (HR2.out.alloc HB2.out.size _).grown hg3 hs2 (fun g hg => (hlt2 g hg).1)
            have hb3 : Below wo.heap.size wo wc := (HB2.out.alloc HB2.out.size _).grown hg3 hs2 (fun g hg => (hlt2 g hg).1)
            have HO3 := Lib.hid hown3
            have HR3 := Lib.hid hr3
            have HB3 := Lib.hid hb3
            clear hown3 hg3 hr3 hb3 hlt2 hs2 HO2 HR2 HB2
            have q7 : (kp : Int) + 1 ≤ (i : Int) := by omega
            have hcut := HR3.out.cut hkk hc
            by_cases hce : c = kp + 1
            · rw [if_pos hce] at hcut
              have HCUT := Lib.hid hcut
              clear hcut
              go_wp2_with (first
                | (at_builtin; refine wpList_append_any _ rfl (.tmp 43) (.tmp 46) 39 rfl wo.heap.size 3 i0 (.int .i64 0) 1 8 Try.underlying39 hi hz0 hz1 hz2 rfl (by decide) _ _ _ rfl HO3.out wo.heap.size _ _ _ _ rfl HCUT.out ?c1 ?c2 ?c3 ?c4 ?_))
              case c1 => intro u hu; first | exact intsV_one out u (List.mem_of_mem_drop hu) | exact intsV_one out u hu
              case c2 => unfold maxLen; omega
              case c3 => omega
              case c4 => exact HB3.out.size
              intro v4 wd hown4 hg4 _
              have hlt3 := HO3.out.lt
              have hb4 : Below wo.heap.size wo wd := HB3.out.grown hg4 HB3.out.size (fun g hg => (hlt3 g hg).1)
              have hown5 : wd.ownsRow w.heap.size 3 1 v4 (i + 1) (intsV (out.take (kp + 1) ++ [(i : Int)] ++ out.drop (kp + 1))) := by
                have key : ∀ m xs, wd.ownsRow w.heap.size 3 1 v4 m xs → m = i + 1 → xs = intsV (out.take (kp + 1) ++ [(i : Int)] ++ out.drop (kp + 1)) → wd.ownsRow w.heap.size 3 1 v4 (i + 1) (intsV (out.take (kp + 1) ++ [(i : Int)] ++ out.drop (kp + 1))) := by
                  rintro m xs h rfl rfl; exact h
                exact key _ _ (hown4.mono HB.out.size) (by omega) (by simp [intsV, List.map_take, List.map_drop])
              have HO5 := Lib.hid hown5
              have HB5 := Lib.hid (HB.out.trans (hb4.mono HB.out.size))
              clear hown4 hg4 hlt3 hb4 hown5 HO3 HR3 HB3 HCUT
              go_wp2_with fail
              go_roundw
              case rel => exact ⟨i + 1, _, by first | rfl | go_num, by omega, HO5.out, HNEW.out, HB5.out⟩
              case measure => simp [intOf] <;> omega
            · rw [if_neg hce] at hcut
              have HCUT : Hid (Reads wc wo.heap.size 1 (some ⟨b1, off1 + (kp + 1), none⟩) (i - (kp + 1)) ((intsV out).drop (kp + 1))) := by
                show Reads _ _ _ _ _ _
                simpa [Addr.add] using hcut
              clear hcut
              go_wp2_with (first
                | (at_builtin; refine wpList_append_any _ rfl (.tmp 43) (.tmp 46) 39 rfl wo.heap.size 3 i0 (.int .i64 0) 1 8 Try.underlying39 hi hz0 hz1 hz2 rfl (by decide) _ _ _ rfl HO3.out wo.heap.size _ _ _ _ rfl HCUT.out ?c1 ?c2 ?c3 ?c4 ?_))
              case c1 => intro u hu; first | exact intsV_one out u (List.mem_of_mem_drop hu) | exact intsV_one out u hu
              case c2 => unfold maxLen; omega
              case c3 => omega
              case c4 => exact HB3.out.size
              intro v4 wd hown4 hg4 _
              have hlt3 := HO3.out.lt
              have hb4 : Below wo.heap.size wo wd := HB3.out.grown hg4 HB3.out.size (fun g hg => (hlt3 g hg).1)
              have hown5 : wd.ownsRow w.heap.size 3 1 v4 (i + 1) (intsV (out.take (kp + 1) ++ [(i : Int)] ++ out.drop (kp + 1))) := by
                have key : ∀ m xs, wd.ownsRow w.heap.size 3 1 v4 m xs → m = i + 1 → xs = intsV (out.take (kp + 1) ++ [(i : Int)] ++ out.drop (kp + 1)) → wd.ownsRow w.heap.size 3 1 v4 (i + 1) (intsV (out.take (kp + 1) ++ [(i : Int)] ++ out.drop (kp + 1))) := by
                  rintro m xs h rfl rfl; exact h
                exact key _ _ (hown4.mono HB.out.size) (by omega) (by simp [intsV, List.map_take, List.map_drop])
              have HO5 := Lib.hid hown5
              have HB5 := Lib.hid (HB.out.trans (hb4.mono HB.out.size))
              clear hown4 hg4 hlt3 hb4 hown5 HO3 HR3 HB3 HCUT
              go_wp2_with fail
              go_roundw
              case rel => exact ⟨i + 1, _, by first | rfl | go_num, by omega, HO5.out, HNEW.out, HB5.out⟩
              case measure => simp [intOf] <;> omega
        · obtain rfl : k = 0 := by omega
          have hnew := HORD.out.ins HL.out (Nat.zero_le i) (.inl rfl) HK.out
          have HNEW := Lib.hid hnew
          have hkk : 0 ≤ i := Nat.zero_le i
          have q1 : (i : Int) < (l.length : Int) := by omega
          clear hnew hk0
          rcases HOWN.out.2 with ⟨e, e2⟩ | ⟨g, cap2, cur, e, _, _, _, _, _, _⟩
          · cases e
            clear e2
            go_wp2_with fail
            go_quiet (fail)
            have HRD := Lib.hid (((Reads.of_own HOWN.out).take hkk).below (HD.below wo.heap.size))
            have HRF := Lib.hid ((Reads.of_own HOWN.out).below (HD.below wo.heap.size))
            have HSZ : Hid (wr.heap.size = wo.heap.size) := by obtain ⟨m, rfl⟩ := HD; rfl
            go_wp2_with (first
              | (at_builtin; refine wpList_append_any _ rfl (.tmp 34) (.tmp 37) 39 rfl wo.heap.size 3 i0 (.int .i64 0) 1 8 Try.underlying39 hi hz0 hz1 hz2 rfl (by decide) _ _ _ rfl (World.ownsRow_nil _ _ _ _) wo.heap.size _ _ _ _ rfl (HRD.out.drewN _) ?c1 ?c2 ?c3 ?c4 ?_))
            case c1 => intro u hu; exact intsV_one out u (List.mem_of_mem_take hu)
            case c2 => unfold maxLen; omega
            case c3 => omega
            case c4 => show wo.heap.size ≤ wr.heap.size; exact Nat.le_of_eq HSZ.out.symm
            intro v2 wb hown2 hg2 _
            have hr2 : Reads wb wo.heap.size 1 _ 0 (intsV out) := (HRF.out.drewN _).grown hg2 (by show wo.heap.size ≤ wr.heap.size; exact Nat.le_of_eq HSZ.out.symm) (fun g hg => by cases hg)
            have hb2 : Below wo.heap.size wo wb := (HD.drewN _).below _ |>.grown hg2 (by show wo.heap.size ≤ wr.heap.size; exact Nat.le_of_eq HSZ.out.symm) (fun g hg => by cases hg)
            have HO2 := Lib.hid hown2
            have HR2 := Lib.hid hr2
            have HB2 := Lib.hid hb2
            clear hown2 hg2 hr2 hb2
            go_wp2_with (first
              | (at_builtin; refine wpList_append_own _ rfl _ _ 39 rfl wo.heap.size 3 i0 (.int .i64 0) 1 8 Try.underlying39 hi hz0 hz1 hz2 rfl (by decide) _ _ _ rfl (HO2.out.alloc _) ⟨wb.heap.size, 0, none⟩ 1 1 [.int .i64 ((0 : Nat) : Int)] rfl rfl ?c1 ?c2 ?c3 ?c4 ?c5 ?_))
            case c1 => intro j u hj; match j, hj with | 0, hj => simp at hj; subst hj; simp [Addr.add]
            case c2 => intro u hu; simp at hu; subst hu; rfl
            case c3 => unfold maxLen; omega
            case c4 => omega
            case c5 => have := HB2.out.size; simp; omega
            intro v3 wc hown3 hg3 _
            have hlt2 := HO2.out.lt
            have hs2 : wo.heap.size ≤ (wb.alloc (.cells #[.int .i64 ((0 : Nat) : Int)] 3)).heap.size := by have := HB2.out.size; simp; omega
            have hr3 : Reads wc wo.heap.size 1 _ 0 (intsV out) := (HR2.out.alloc HB2.out.size _).grown hg3 hs2 (fun g hg => (hlt2 g hg).1)
            have hb3 : Below wo.heap.size wo wc := (HB2.out.alloc HB2.out.size _).grown hg3 hs2 (fun g hg => (hlt2 g hg).1)
            have HO3 := Lib.hid hown3
            have HR3 := Lib.hid hr3
            have HB3 := Lib.hid hb3
            clear hown3 hg3 hr3 hb3 hlt2 hs2 HO2 HR2 HB2
            have HCUT := Lib.hid HR3.out
            go_wp2_with (first
              | (at_builtin; refine wpList_append_any _ rfl (.tmp 43) (.tmp 46) 39 rfl wo.heap.size 3 i0 (.int .i64 0) 1 8 Try.underlying39 hi hz0 hz1 hz2 rfl (by decide) _ _ _ rfl HO3.out wo.heap.size _ _ _ _ rfl HCUT.out ?c1 ?c2 ?c3 ?c4 ?_))
            case c1 => intro u hu; first | exact intsV_one out u (List.mem_of_mem_drop hu) | exact intsV_one out u hu
            case c2 => unfold maxLen; omega
            case c3 => omega
            case c4 => exact HB3.out.size
            intro v4 wd hown4 hg4 _
            have hlt3 := HO3.out.lt
            have hb4 : Below wo.heap.size wo wd := HB3.out.grown hg4 HB3.out.size (fun g hg => (hlt3 g hg).1)
            have hown5 : wd.ownsRow w.heap.size 3 1 v4 (0 + 1) (intsV (out.take (0) ++ [((0 : Nat) : Int)] ++ out.drop (0))) := by
              have key : ∀ m xs, wd.ownsRow w.heap.size 3 1 v4 m xs → m = 0 + 1 → xs = intsV (out.take (0) ++ [((0 : Nat) : Int)] ++ out.drop (0)) → wd.ownsRow w.heap.size 3 1 v4 (0 + 1) (intsV (out.take (0) ++ [((0 : Nat) : Int)] ++ out.drop (0))) := by
                rintro m xs h rfl rfl; exact h
              exact key _ _ (hown4.mono HB.out.size) (by omega) (by simp [intsV, List.map_take, List.map_drop])
            have HO5 := Lib.hid hown5
            have HB5 := Lib.hid (HB.out.trans (hb4.mono HB.out.size))
            clear hown4 hg4 hlt3 hb4 hown5 HO3 HR3 HB3 HCUT
            go_wp2_with fail
            go_roundw
            case rel => exact ⟨0 + 1, _, by first | rfl | go_num, by omega, HO5.out, HNEW.out, HB5.out⟩
            case measure => simp [intOf] <;> omega
          · cases e
            go_wp2_with fail
            go_quiet (fail)
            have HRD := Lib.hid (((Reads.of_own HOWN.out).take hkk).below (HD.below wo.heap.size))
            have HRF := Lib.hid ((Reads.of_own HOWN.out).below (HD.below wo.heap.size))
            have HSZ : Hid (wr.heap.size = wo.heap.size) := by obtain ⟨m, rfl⟩ := HD; rfl
            have hc1 : 0 ≤ c := by omega
            go_wp2_with (first
              | (at_builtin; refine wpList_append_any _ rfl (.tmp 34) (.tmp 37) 39 rfl wo.heap.size 3 i0 (.int .i64 0) 1 8 Try.underlying39 hi hz0 hz1 hz2 rfl (by decide) _ _ _ rfl (World.ownsRow_nil _ _ _ _) wo.heap.size _ _ _ _ rfl (HRD.out.drewN _) ?c1 ?c2 ?c3 ?c4 ?_))
            case c1 => intro u hu; exact intsV_one out u (List.mem_of_mem_take hu)
            case c2 => unfold maxLen; omega
            case c3 => omega
            case c4 => show wo.heap.size ≤ wr.heap.size; exact Nat.le_of_eq HSZ.out.symm
            intro v2 wb hown2 hg2 _
            have hr2 : Reads wb wo.heap.size 1 _ i (intsV out) := (HRF.out.drewN _).grown hg2 (by show wo.heap.size ≤ wr.heap.size; exact Nat.le_of_eq HSZ.out.symm) (fun g hg => by cases hg)
            have hb2 : Below wo.heap.size wo wb := (HD.drewN _).below _ |>.grown hg2 (by show wo.heap.size ≤ wr.heap.size; exact Nat.le_of_eq HSZ.out.symm) (fun g hg => by cases hg)
            have HO2 := Lib.hid hown2
            have HR2 := Lib.hid hr2
            have HB2 := Lib.hid hb2
            clear hown2 hg2 hr2 hb2
            go_wp2_with (first
              | (at_builtin; refine wpList_append_own _ rfl _ _ 39 rfl wo.heap.size 3 i0 (.int .i64 0) 1 8 Try.underlying39 hi hz0 hz1 hz2 rfl (by decide) _ _ _ rfl (HO2.out.alloc _) ⟨wb.heap.size, 0, none⟩ 1 1 [.int .i64 i] rfl rfl ?c1 ?c2 ?c3 ?c4 ?c5 ?_))
            case c1 => intro j u hj; match j, hj with | 0, hj => simp at hj; subst hj; simp [Addr.add]
            case c2 => intro u hu; simp at hu; subst hu; rfl
            case c3 => unfold maxLen; omega
            case c4 => omega
            case c5 => have := HB2.out.size; simp; omega
            intro v3 wc hown3 hg3 _
            have hlt2 := HO2.out.lt
            have hs2 : wo.heap.size ≤ (wb.alloc (.cells #[.int .i64 i] 3)).heap.size := by have := HB2.out.size; simp; omega
            have hr3 : Reads wc wo.heap.size 1 _ i (intsV out) := (HR2.out.alloc HB2.out.size _).grown hg3 hs2 (fun g hg => (hlt2 g hg).1)
            have hb3 : Below wo.heap.size wo wc := (HB2.out.alloc HB2.out.size _).grown hg3 hs2 (fun g hg => (hlt2 g hg).1)
            have HO3 := Lib.hid hown3
            have HR3 := Lib.hid hr3
            have HB3 := Lib.hid hb3
            clear hown3 hg3 hr3 hb3 hlt2 hs2 HO2 HR2 HB2
            have q7 : (0 : Int) ≤ (i : Int) := by omega
            have hcut := HR3.out.cut hkk hc
            by_cases hce : c = 0
            · rw [if_pos hce] at hcut
              have HCUT := Lib.hid hcut
              clear hcut
              go_wp2_with (first
                | (at_builtin; refine wpList_append_any _ rfl (.tmp 43) (.tmp 46) 39 rfl wo.heap.size 3 i0 (.int .i64 0) 1 8 Try.underlying39 hi hz0 hz1 hz2 rfl (by decide) _ _ _ rfl HO3.out wo.heap.size _ _ _ _ rfl HCUT.out ?c1 ?c2 ?c3 ?c4 ?_))
              case c1 => intro u hu; first | exact intsV_one out u (List.mem_of_mem_drop hu) | exact intsV_one out u hu
              case c2 => unfold maxLen; omega
              case c3 => omega
              case c4 => exact HB3.out.size
              intro v4 wd hown4 hg4 _
              have hlt3 := HO3.out.lt
              have hb4 : Below wo.heap.size wo wd := HB3.out.grown hg4 HB3.out.size (fun g hg => (hlt3 g hg).1)
              have hown5 : wd.ownsRow w.heap.size 3 1 v4 (i + 1) (intsV (out.take (0) ++ [(i : Int)] ++ out.drop (0))) := by
                have key : ∀ m xs, wd.ownsRow w.heap.size 3 1 v4 m xs → m = i + 1 → xs = intsV (out.take (0) ++ [(i : Int)] ++ out.drop (0)) → wd.ownsRow w.heap.size 3 1 v4 (i + 1) (intsV (out.take (0) ++ [(i : Int)] ++ out.drop (0))) := by
                  rintro m xs h rfl rfl; exact h
                exact key _ _ (hown4.mono HB.out.size) (by omega) (by simp [intsV, List.map_take, List.map_drop])
              have HO5 := Lib.hid hown5
              have HB5 := Lib.hid (HB.out.trans (hb4.mono HB.out.size))
              clear hown4 hg4 hlt3 hb4 hown5 HO3 HR3 HB3 HCUT
              go_wp2_with fail
              go_roundw
              case rel => exact ⟨i + 1, _, by first | rfl | go_num, by omega, HO5.out, HNEW.out, HB5.out⟩
              case measure => simp [intOf] <;> omega
            · rw [if_neg hce] at hcut
              have HCUT : Hid (Reads wc wo.heap.size 1 (some ⟨g, 0, none⟩) (i - 0) ((intsV out).drop 0)) := by
                show Reads _ _ _ _ _ _
                simpa [Addr.add] using hcut
              clear hcut
              go_wp2_with (first
                | (at_builtin; refine wpList_append_any _ rfl (.tmp 43) (.tmp 46) 39 rfl wo.heap.size 3 i0 (.int .i64 0) 1 8 Try.underlying39 hi hz0 hz1 hz2 rfl (by decide) _ _ _ rfl HO3.out wo.heap.size _ _ _ _ rfl HCUT.out ?c1 ?c2 ?c3 ?c4 ?_))
              case c1 => intro u hu; first | exact intsV_one out u (List.mem_of_mem_drop hu) | exact intsV_one out u hu
              case c2 => unfold maxLen; omega
              case c3 => omega
              case c4 => exact HB3.out.size
              intro v4 wd hown4 hg4 _
              have hlt3 := HO3.out.lt
              have hb4 : Below wo.heap.size wo wd := HB3.out.grown hg4 HB3.out.size (fun g hg => (hlt3 g hg).1)
              have hown5 : wd.ownsRow w.heap.size 3 1 v4 (i + 1) (intsV (out.take (0) ++ [(i : Int)] ++ out.drop (0))) := by
                have key : ∀ m xs, wd.ownsRow w.heap.size 3 1 v4 m xs → m = i + 1 → xs = intsV (out.take (0) ++ [(i : Int)] ++ out.drop (0)) → wd.ownsRow w.heap.size 3 1 v4 (i + 1) (intsV (out.take (0) ++ [(i : Int)] ++ out.drop (0))) := by
                  rintro m xs h rfl rfl; exact h
                exact key _ _ (hown4.mono HB.out.size) (by omega) (by simp [intsV, List.map_take, List.map_drop])
              have HO5 := Lib.hid hown5
              have HB5 := Lib.hid (HB.out.trans (hb4.mono HB.out.size))
              clear hown4 hg4 hlt3 hb4 hown5 HO3 HR3 HB3 HCUT
              go_wp2_with fail
              go_roundw
              case rel => exact ⟨i + 1, _, by first | rfl | go_num, by omega, HO5.out, HNEW.out, HB5.out⟩
              case measure => simp [intOf] <;> omega
    · obtain rfl : i = l.length := by omega
      go_wp2
      go_ret
      exact ⟨_, out, rfl, HOWN.out, HORD.out, HB.out⟩
end Go.Proofs.Yteilgnjjfebogaa
