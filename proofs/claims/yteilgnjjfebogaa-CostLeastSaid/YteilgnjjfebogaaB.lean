import Derived.Test.YteilgnjjfebogaaA
import Derived.Test.YteilgnjjfebogaaG
import Derived.Deep.LoopGhost
import Derived.Deep.QuietTactic
import Derived.BigQuiet
import Derived.OwnWalk
namespace Go.Proofs.Yteilgnjjfebogaa
set_option linter.unusedVariables false
set_option linter.unusedSimpArgs false
open Go.RowKit

/-- A row of n elements of one cell each, of which the k-th is f k. -/
def RowF (w : World) (a : Option Addr) (n : Nat) (f : Nat → Value) : Prop := ∀ k, k < n → ∃ b off, a = some ⟨b, off, none⟩ ∧ w.cell? ⟨b, off + k, none⟩ = some (f k)

/-- Some draws on, and nothing else. -/
def Drw (w w' : World) : Prop := ∃ n, w' = w.drewN n
theorem Drw.refl (w : World) : Drw w w := ⟨0, rfl⟩
theorem Drw.drewN {w w' : World} (h : Drw w w') (n : Nat) : Drw w (w'.drewN n) := by
  obtain ⟨m, rfl⟩ := h
  exact ⟨m + n, World.drewN_drewN _ _ _⟩
theorem Drw.cell {w w' : World} (h : Drw w w') (p : Addr) : w'.cell? p = w.cell? p := by obtain ⟨m, rfl⟩ := h; rfl
theorem Drw.below {w w' : World} (h : Drw w w') (B : Nat) : Below B w w' := by
  obtain ⟨m, rfl⟩ := h
  exact ⟨rfl, rfl, rfl, Nat.le_refl _, fun _ _ => rfl⟩
theorem Drw.row {w w' : World} (h : Drw w w') {a : Option Addr} {n : Nat} {f : Nat → Value} (hr : RowF w a n f) : RowF w' a n f := fun k hk => by
  obtain ⟨b, off, e, hc⟩ := hr k hk
  exact ⟨b, off, e, (h.cell _).trans hc⟩
theorem Drw.trans {a b c : World} (h : Drw a b) (k : Drw b c) : Drw a c := by
  obtain ⟨m, rfl⟩ := k
  exact h.drewN m
/-- A callee that draws at most, met inside a region. -/
theorem Calls.quiet_drw {P : Program} {f : FuncId} {args : Array Value} {w : World} {n : Nat} {v : Value}
    (h : Calls P f args (w.drewN n) fun e w' => e = .returned v ∧ Drw (w.drewN n) w') : Calls P f args (w.drewN n) fun e w'' => e = .returned v ∧ ∃ m, w'' = w.drewN m :=
  Calls.quiet_of (h.mono fun _ _ ⟨he, m, hm⟩ => ⟨he, m, hm⟩)
theorem Calls.quiet_eq {P : Program} {f : FuncId} {args : Array Value} {w : World} {n : Nat} {v : Value}
    (h : Calls P f args (w.drewN n) fun e w' => e = .returned v ∧ w.drewN n = w') : Calls P f args (w.drewN n) fun e w'' => e = .returned v ∧ ∃ m, w'' = w.drewN m :=
  h.mono fun _ _ ⟨he, hm⟩ => ⟨he, n, hm.symm⟩

theorem add_nat (a b : Nat) (ha : a < 18446744073709551616) (hb : b < 18446744073709551616) (w : World) :
    Calls Try.prog 17 #[.float .f64 a, .float .f64 b] w fun e w' => e = .returned (.float .f64 (addN a b)) ∧ w = w' :=
  add_any a b w (add_some ha hb)

/-- The k-th of a list. -/
def at0 (l : List Nat) (k : Nat) : Nat := l.getD k 0
/-- What a row comes to. -/
def sumL (l : List Nat) : Nat := l.foldl addN 0
theorem foldl_lt (l : List Nat) : ∀ s, s < 18446744073709551616 → (∀ x ∈ l, x < 18446744073709551616) → l.foldl addN s < 18446744073709551616 := by
  induction l with
  | nil => intro s hs _; exact hs
  | cons x r ih =>
    intro s hs hl
    exact ih _ (by have := addN_lt hs (hl x (by simp)); omega) (fun y hy => hl y (by simp [hy]))
theorem sumL_lt (l : List Nat) (hl : ∀ x ∈ l, x < 18446744073709551616) : sumL l < 18446744073709551616 := foldl_lt l 0 (by omega) hl
theorem sumL_snoc (l : List Nat) (k : Nat) (h : k < l.length) : sumL (l.take (k + 1)) = addN (sumL (l.take k)) (at0 l k) := by
  unfold sumL at0
  rw [List.take_succ_eq_append_getElem h, List.foldl_append]
  simp [List.getD_eq_getElem?_getD, List.getElem?_eq_getElem h]
theorem at0_lt (l : List Nat) (hl : ∀ x ∈ l, x < 18446744073709551616) (k : Nat) : at0 l k < 18446744073709551616 := by
  unfold at0
  rw [List.getD_eq_getElem?_getD]
  rcases Nat.lt_or_ge k l.length with h | h
  · rw [List.getElem?_eq_getElem h]; exact hl _ (List.getElem_mem h)
  · rw [List.getElem?_eq_none h]; simp
theorem take_lt (l : List Nat) (hl : ∀ x ∈ l, x < 18446744073709551616) (k : Nat) : ∀ x ∈ l.take k, x < 18446744073709551616 := fun x hx => hl x (List.mem_of_mem_take hx)

theorem ret_bool {a b : Bool} (h : a = b) : Ending.returned (.bool a) = .returned (.bool b) := by rw [h]
theorem ret_float {a b : Nat} (h : a = b) : Ending.returned (.float .f64 a) = .returned (.float .f64 b) := by rw [h]

theorem sum_any (a : Option Addr) (cap : Nat) (l : List Nat) (hl : ∀ x ∈ l, x < 18446744073709551616) (hm : l.length ≤ 1152921504606846976) (w : World)
    (hr : RowF w a l.length (fun k => .float .f64 (at0 l k))) :
    Calls Try.prog 20 #[.slice a l.length cap] w fun e w' => e = .returned (.float .f64 (sumL l)) ∧ w = w' := by
  have HR := Lib.hid hr
  have HL := Lib.hid hl
  clear hr hl
  go_enter Try.func20, Try.ntmps20
  go_wp2
  go_loop [3, 8] (fun s i => ∃ k : Nat, k ≤ l.length ∧ i = .int .i64 k ∧ s = .float .f64 (sumL (l.take k))) (fun _ i => l.length - (intOf i).toNat)
  case atStart => exact ⟨0, Nat.zero_le _, rfl, rfl⟩
  case round =>
    obtain ⟨k, hk, rfl, rfl⟩ := hrel
    by_cases hlt : k < l.length
    · obtain ⟨b, off, rfl, hc⟩ := HR.out k hlt
      go_wp2_with (go_at_call 17; refine (add_nat _ _ (sumL_lt _ (take_lt l HL.out k)) (at0_lt l HL.out k) _).mono ?_; rintro e w' ⟨rfl, rfl⟩)
      go_round
      case rel => exact ⟨k + 1, by omega, by go_num, by rw [sumL_snoc l k hlt]⟩
      case measure => simp [intOf]; omega
    · go_wp2
      go_ret
      exact ⟨ret_float (by rw [List.take_of_length_le (by omega)]), rfl⟩

/-! ### Rows that the call itself makes -/
theorem info23 : (Try.prog.info? 23).map (fun i => (i.zero, i.size, i.bytes)) = some (some (.float .f64 0), 1, 8) := by kernel_rfl
theorem info3 : (Try.prog.info? 3).map (fun i => (i.zero, i.size, i.bytes)) = some (some (.int .i64 0), 1, 8) := by kernel_rfl

/-- An owned row of one-cell elements is a slice that reads as the list. -/
theorem own_row {w : World} {base : Nat} {e : TypeId} {v : Value} {n : Nat} {xs : List Value} (h : w.ownsRow base e 1 v n xs) :
    ∃ A c, v = .slice A n c ∧ n ≤ c ∧ RowF w A n (fun k => xs.getD k undef) ∧ (∀ b off s, A = some ⟨b, off, s⟩ → base ≤ b ∧ b < w.heap.size) := by
  rcases h.2 with ⟨rfl, rfl⟩ | ⟨g, cap, cur, rfl, hg, hh, hnc, _, _, hx⟩
  · exact ⟨none, 0, rfl, Nat.le_refl _, fun k hk => absurd hk (by omega), fun b off s hh => by cases hh⟩
  · have hlt : g < w.heap.size := by
      rcases Nat.lt_or_ge g w.heap.size with hlt | hge
      · exact hlt
      · rw [Array.getElem?_eq_none hge] at hh; cases hh
    refine ⟨_, cap, rfl, hnc, fun k hk => ⟨g, 0, rfl, ?_⟩, fun b off s hh => by cases hh; exact ⟨hg, hlt⟩⟩
    rw [Nat.zero_add, h.cellAt k (by omega)]
    have hk' : k < xs.length := by have := h.1; omega
    rw [List.getElem?_eq_getElem hk']; simp [List.getD_eq_getElem?_getD, List.getElem?_eq_getElem hk']

theorem RowF.below {w w' : World} {a : Option Addr} {n : Nat} {f : Nat → Value} (h : RowF w a n f) (hb : Below w.heap.size w w') : RowF w' a n f := fun k hk => by
  obtain ⟨b, off, e, hc⟩ := h k hk
  exact ⟨b, off, e, (hb.cell (p := ⟨b, off + k, none⟩) (World.block_lt_of_cell? w _ hc)).trans hc⟩

/-- The first k numbers of a row, as float64. -/
def flts (l : List Nat) (k : Nat) : List Value := (l.take k).map (Value.float .f64)
theorem flts_snoc (l : List Nat) (k : Nat) (h : k < l.length) : flts l (k + 1) = flts l k ++ [Value.float .f64 (at0 l k)] := by
  unfold flts at0
  rw [List.take_succ_eq_append_getElem h, List.map_append]
  congr 1
  simp [List.getD_eq_getElem?_getD, List.getElem?_eq_getElem h]
theorem flts_all (l : List Nat) : flts l l.length = l.map (Value.float .f64) := by unfold flts; rw [List.take_length]
theorem floats_any (a : Option Addr) (cap : Nat) (l : List Nat) (hm : l.length * 8 ≤ 140737488351232) (w : World)
    (hr : RowF w a l.length (fun k => .int .u64 (at0 l k))) :
    Calls Try.prog 21 #[.slice a l.length cap] w fun e w' => ∃ v, e = .returned v ∧ w'.ownsRow w.heap.size 23 1 v l.length (flts l l.length) ∧ Below w.heap.size w w' := by
  have HR := Lib.hid hr
  clear hr
  obtain ⟨i0, hi, hz0, hz1, hz2⟩ := info_parts info23
  go_enter Try.func21, Try.ntmps21
  go_wp2
  go_loopw [3, 4] (fun v i wr => ∃ k : Nat, k ≤ l.length ∧ i = .int .i64 k ∧ wr.ownsRow w.heap.size 23 1 v k (flts l k) ∧ Below w.heap.size w wr) (fun _ i _ => l.length - (intOf i).toNat)
  case atStart => exact ⟨0, Nat.zero_le _, rfl, World.ownsRow_nil _ _ _ _, Below.refl _ _⟩
  case round =>
    obtain ⟨k, hk, rfl, hown, hb⟩ := hrel
    by_cases hlt : k < l.length
    · obtain ⟨b, off, rfl, hc0⟩ := HR.out k hlt
      have hc := (hb.cell (p := ⟨b, off + k, none⟩) (World.block_lt_of_cell? w _ hc0)).trans hc0
      clear hc0
      have hkl : k ≤ 2305843009213693952 := by omega
      have HM := Lib.hid hm
      clear hm
      go_wp2_with (at_builtin; refine wpList_append_own _ rfl _ _ 35 rfl w.heap.size 23 i0 (.float .f64 0) 1 8 Try.underlying35 hi hz0 hz1 hz2 rfl (by decide) _ _ _ rfl (hown.alloc _) ⟨wr.heap.size, 0, none⟩ 1 1 [.float .f64 (at0 l k)] rfl rfl ?c1 ?c2 ?c3 ?c4 ?c5 ?_)
      case c2 => rfl
      case c3 => unfold maxLen; omega
      case c4 => have := HM.out; omega
      case c5 => have := hb.size; simp; omega
      · intro v' w1 hown' hgrow _
        have hlt2 := hown.lt
        have hb1 : Below w.heap.size w w1 := (hb.alloc hb.size _).grown hgrow (by have := hb.size; simp; omega) (fun g hg => (hlt2 g hg).1)
        have hown1 : w1.ownsRow w.heap.size 23 1 v' (k + 1) (flts l (k + 1)) := by rw [flts_snoc l k hlt]; exact hown'
        clear hown' hgrow hown hb hc
        go_wp2
        go_roundw
        case rel => exact ⟨k + 1, by omega, by go_num, hown1, hb1⟩
        case measure => simp [intOf]; omega
    · go_wp2
      go_ret
      have : k = l.length := by omega
      subst this
      exact ⟨_, rfl, hown, hb⟩

theorem radd_nat (a b : Nat) (ha : a < 18446744073709551616) (hb : b < 18446744073709551616) (w : World) :
    Calls Try.prog 19 #[.int .u64 a, .int .u64 b] w fun e w' => e = .returned (.int .u64 (addN a b : Nat)) ∧ w = w' := by
  have := radd_any a b (by omega) (by omega) (by omega) (by omega) w
  rw [radd_eq a b ha hb] at this
  exact this

theorem rsum_any (a : Option Addr) (cap : Nat) (l : List Nat) (hl : ∀ x ∈ l, x < 18446744073709551616) (hm : l.length ≤ 1152921504606846976) (w : World)
    (hr : RowF w a l.length (fun k => .int .u64 (at0 l k))) :
    Calls Try.prog 22 #[.slice a l.length cap] w fun e w' => e = .returned (.int .u64 (sumL l)) ∧ w = w' := by
  have HR := Lib.hid hr
  have HL := Lib.hid hl
  clear hr hl
  go_enter Try.func22, Try.ntmps22
  go_wp2
  go_loop [3, 4] (fun s i => ∃ k : Nat, k ≤ l.length ∧ i = .int .i64 k ∧ s = .int .u64 (sumL (l.take k))) (fun _ i => l.length - (intOf i).toNat)
  case atStart => exact ⟨0, Nat.zero_le _, rfl, rfl⟩
  case round =>
    obtain ⟨k, hk, rfl, rfl⟩ := hrel
    by_cases hlt : k < l.length
    · obtain ⟨b, off, rfl, hc⟩ := HR.out k hlt
      go_wp2_with (go_at_call 19; refine (radd_nat _ _ (sumL_lt _ (take_lt l HL.out k)) (at0_lt l HL.out k) _).mono ?_; rintro e w' ⟨rfl, rfl⟩)
      go_round
      case rel => exact ⟨k + 1, by omega, by go_num, by rw [sumL_snoc l k hlt]⟩
      case measure => simp [intOf]; omega
    · go_wp2
      go_ret
      exact ⟨ret_int (by rw [List.take_of_length_le (by omega)]), rfl⟩

/-- The k-th of a list of places. -/
def atI (l : List Int) (k : Nat) : Int := l.getD k 0
/-- Are the first k the same? -/
theorem atI_ext {l m : List Int} (h : l.length = m.length) (he : ∀ k, k < l.length → atI l k = atI m k) : l = m := by
  apply List.ext_getElem h
  intro i h1 h2
  have := he i h1
  unfold atI at this
  simpa [List.getD_eq_getElem?_getD, List.getElem?_eq_getElem h1, List.getElem?_eq_getElem h2] using this

theorem ints_any (a b : Option Addr) (c d : Nat) (l m : List Int) (hm : l.length ≤ 1152921504606846976) (hm2 : m.length ≤ 1152921504606846976) (w : World)
    (hr : RowF w a l.length (fun k => .int .i64 (atI l k))) (hs : RowF w b m.length (fun k => .int .i64 (atI m k))) :
    Calls Try.prog 25 #[.slice a l.length c, .slice b m.length d] w fun e w' => e = .returned (.bool (decide (l = m))) ∧ Drw w w' := by
  have HR := Lib.hid hr
  have HS := Lib.hid hs
  clear hr hs
  by_cases hlen : l.length = m.length
  · have hne : ((l.length : Int) != (m.length : Int)) = false := by simp [hlen]
    have HN := Lib.hid hlen
    clear hlen
    go_enter Try.func25, Try.ntmps25
    go_wp2
    go_loopw [5] (fun i wr => ∃ k : Nat, k ≤ l.length ∧ i = .int .i64 k ∧ (∀ j, j < k → Hid (atI l j = atI m j)) ∧ Drw w wr) (fun i _ => l.length - (intOf i).toNat)
    case atStart => exact ⟨0, Nat.zero_le _, rfl, fun j hj => absurd hj (by omega), Drw.refl _⟩
    case round =>
      obtain ⟨k, hk, rfl, hs0, HW⟩ := hrel
      have HS0 := Lib.hid hs0
      clear hs0
      by_cases hlt : k < l.length
      · have hlm : k < m.length := by have := HN.out; omega
        obtain ⟨ab, ao, rfl, hc⟩ := HW.row HR.out k hlt
        obtain ⟨bb, bo, rfl, hd⟩ := HW.row HS.out k hlm
        have p0 : (k : Int) < (l.length : Int) := by omega
        have p1 : (k : Int) < (m.length : Int) := by omega
        go_wp2
        go_quiet (fail)
        go_wp2
        · go_ret
          have hne : (atI l k != atI m k) = true := by assumption
          exact ⟨ret_bool (decide_eq_false (fun e => by subst e; simp at hne)).symm, HW.drewN _⟩
        · have heq : (atI l k != atI m k) = false := by assumption
          go_roundw
          case rel =>
            refine ⟨k + 1, by omega, by go_num, fun j hj => ?_, HW.drewN _⟩
            rcases Nat.lt_or_ge j k with h | h
            · exact HS0.out j h
            · obtain rfl : j = k := by omega
              show _ = _
              simpa using heq
          case measure => simp [intOf]; omega
      · go_wp2
        go_ret
        exact ⟨ret_bool (decide_eq_true (atI_ext HN.out (fun j hj => (HS0.out j (by omega)).out))).symm, HW⟩
  · have hne : ((l.length : Int) != (m.length : Int)) = true := by simp; omega
    have HN := Lib.hid hlen
    clear hlen
    go_enter Try.func25, Try.ntmps25
    go_wp2
    go_ret
    exact ⟨ret_bool (decide_eq_false (fun e => HN.out (by rw [e]))).symm, Drw.refl _⟩

/-! ### The least one's place -/
/-- The first of the first k places of which no other one (of them) is ahead; -1 of none. -/
def leastL (l : List Nat) : Nat → Int
  | 0 => -1
  | k + 1 => if leastL l k < 0 ∨ lessB (at0 l k) (at0 l (leastL l k).toNat) = true then (k : Int) else leastL l k
theorem leastL_bd (l : List Nat) (k : Nat) : -1 ≤ leastL l k ∧ leastL l k < k ∧ (0 < k → 0 ≤ leastL l k) := by
  induction k with
  | zero => simp [leastL]
  | succ k ih =>
    simp only [leastL]
    split <;> omega

theorem least_any (a : Option Addr) (cap : Nat) (l : List Nat) (hm : l.length ≤ 1152921504606846976) (w : World)
    (hr : RowF w a l.length (fun k => .float .f64 (at0 l k))) :
    Calls Try.prog 26 #[.slice a l.length cap] w fun e w' => e = .returned (.int .i64 (leastL l l.length)) ∧ w = w' := by
  have HR := Lib.hid hr
  clear hr
  go_enter Try.func26, Try.ntmps26
  go_wp2
  go_loop [3, 8] (fun s i => ∃ k : Nat, k ≤ l.length ∧ i = .int .i64 k ∧ s = .int .i64 (leastL l k)) (fun _ i => l.length - (intOf i).toNat)
  case atStart => exact ⟨0, Nat.zero_le _, rfl, rfl⟩
  case round =>
    obtain ⟨k, hk, rfl, rfl⟩ := hrel
    by_cases hlt : k < l.length
    · obtain ⟨b, off, rfl, hc⟩ := HR.out k hlt
      obtain ⟨l1, l2, l3⟩ := leastL_bd l k
      by_cases h0 : leastL l k < 0
      · go_wp2_with (go_at_call 14; refine (less_any _ _ _).mono ?_; rintro e w' ⟨rfl, rfl⟩)
        go_round
        case rel => exact ⟨k + 1, by omega, by go_num, by simp only [leastL]; rw [if_pos (.inl h0)]⟩
        case measure => simp [intOf]; omega
      · obtain ⟨b', off', e', hd⟩ := HR.out (leastL l k).toNat (by omega)
        cases e'
        have h1 : leastL l k < (l.length : Int) := by omega
        have h2 : 0 ≤ leastL l k := by omega
        cases hq : lessB (at0 l k) (at0 l (leastL l k).toNat) with
        | true =>
          have HQ := Lib.hid hq
          clear hq
          go_wp2_with (go_at_call 14; refine (less_any _ _ _).mono ?_; rintro e w' ⟨rfl, rfl⟩; rw [HQ.out])
          go_round
          case rel => exact ⟨k + 1, by omega, by go_num, by simp only [leastL]; rw [if_pos (.inr HQ.out)]⟩
          case measure => simp [intOf]; omega
        | false =>
          have HQ := Lib.hid hq
          clear hq
          go_wp2_with (go_at_call 14; refine (less_any _ _ _).mono ?_; rintro e w' ⟨rfl, rfl⟩; rw [HQ.out])
          go_round
          case rel => exact ⟨k + 1, by omega, by go_num, by simp only [leastL]; rw [if_neg (by rw [HQ.out]; simp; omega)]⟩
          case measure => simp [intOf]; omega
    · go_wp2
      go_ret
      exact ⟨ret_int (by congr 1; omega), rfl⟩

def lt64 (l : List Nat) : Prop := ∀ x ∈ l, x < 18446744073709551616
/-- The reference's Less, of words. -/
theorem rless_nat (a b : Nat) (ha : a < 18446744073709551616) (hb : b < 18446744073709551616) (w : World) :
    Calls Try.prog 15 #[.int .u64 a, .int .u64 b] w fun e w' => e = .returned (.bool (lessB a b)) ∧ w = w' := by
  have := rless_any a b (by omega) (by omega) (by omega) (by omega) w
  rw [← lessB_key a b ha hb] at this
  exact this

theorem rleast_any (a : Option Addr) (cap : Nat) (l : List Nat) (hl : ∀ x ∈ l, x < 18446744073709551616) (hm : l.length ≤ 1152921504606846976) (w : World)
    (hr : RowF w a l.length (fun k => .int .u64 (at0 l k))) :
    Calls Try.prog 27 #[.slice a l.length cap] w fun e w' => e = .returned (.int .i64 (leastL l l.length)) ∧ Drw w w' := by
  have HR := Lib.hid hr
  have HL := Lib.hid hl
  clear hr hl
  go_enter Try.func27, Try.ntmps27
  go_wp2
  go_loopw [3, 4] (fun s i wr => ∃ k : Nat, k ≤ l.length ∧ i = .int .i64 k ∧ s = .int .i64 (leastL l k) ∧ Drw w wr) (fun _ i _ => l.length - (intOf i).toNat)
  case atStart => exact ⟨0, Nat.zero_le _, rfl, rfl, Drw.refl _⟩
  case round =>
    obtain ⟨k, hk, rfl, rfl, HW⟩ := hrel
    by_cases hlt : k < l.length
    · obtain ⟨b, off, rfl, hc⟩ := HW.row HR.out k hlt
      obtain ⟨l1, l2, l3⟩ := leastL_bd l k
      have p0 : (k : Int) < (l.length : Int) := by omega
      by_cases h0 : leastL l k < 0
      · have hd : decide (leastL l k < 0) = true := decide_eq_true h0
        go_wp2
        go_quiet (fail)
        go_wp2
        go_roundw
        case rel => exact ⟨k + 1, by omega, by go_num, by simp only [leastL]; rw [if_pos (.inl h0)], HW.drewN _⟩
        case measure => simp [intOf]; omega
      · obtain ⟨b', off', e', hd⟩ := HW.row HR.out (leastL l k).toNat (by omega)
        cases e'
        have h1 : leastL l k < (l.length : Int) := by omega
        have h2 : 0 ≤ leastL l k := by omega
        have hdd : decide (leastL l k < 0) = false := decide_eq_false h0
        have hx := at0_lt l HL.out k
        have hy := at0_lt l HL.out (leastL l k).toNat
        cases hq : lessB (at0 l k) (at0 l (leastL l k).toNat) with
        | true =>
          have HQ := Lib.hid hq
          clear hq
          go_wp2
          go_quiet ((go_at_call 15; exact Calls.quiet_eq ((rless_nat _ _ hx hy _).mono fun e w' h => by rw [HQ.out] at h; exact h)))
          go_wp2
          go_roundw
          case rel => exact ⟨k + 1, by omega, by go_num, by simp only [leastL]; rw [if_pos (.inr HQ.out)], HW.drewN _⟩
          case measure => simp [intOf]; omega
        | false =>
          have HQ := Lib.hid hq
          clear hq
          go_wp2
          go_quiet ((go_at_call 15; exact Calls.quiet_eq ((rless_nat _ _ hx hy _).mono fun e w' h => by rw [HQ.out] at h; exact h)))
          go_wp2
          go_roundw
          case rel => exact ⟨k + 1, by omega, by go_num, by simp only [leastL]; rw [if_neg (by rw [HQ.out]; simp; omega)], HW.drewN _⟩
          case measure => simp [intOf]; omega
    · go_wp2
      go_ret
      exact ⟨ret_int (by congr 1; omega), HW⟩
end Go.Proofs.Yteilgnjjfebogaa
