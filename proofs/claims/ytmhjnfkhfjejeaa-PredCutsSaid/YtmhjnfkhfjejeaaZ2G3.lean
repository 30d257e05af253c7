import Derived.Test.YtmhjnfkhfjejeaaZ2G2
import Derived.IntWalk
import Derived.StillTailTactics
namespace Go.Proofs.Ytmhjnfkhfjejeaa
set_option linter.unusedVariables false
set_option linter.unusedSimpArgs false
open PPredCubes

/-! ### What is left of a box: the pieces, bit by bit -/
def pieceOf (b o : Bx) (f bit : Nat) : Bx := ⟨upd b.m f (b.m f ||| bit), upd b.v f (b.v f ||| ((18446744073709551615 - o.v f) &&& bit))⟩
def nextOf (b o : Bx) (f bit : Nat) : Bx := ⟨upd b.m f (b.m f ||| bit), upd b.v f (b.v f ||| (o.v f &&& bit))⟩
/-- The pieces at field f for the bits of left below 2^n, and the box that goes on. -/
def cutBits (o : Bx) (f : Nat) : Nat → Bx → Nat → List Bx × Bx
  | 0, b, _ => ([], b)
  | n + 1, b, left => if left.testBit n then (pieceOf b o f (2 ^ n) :: (cutBits o f n (nextOf b o f (2 ^ n)) left).1, (cutBits o f n (nextOf b o f (2 ^ n)) left).2) else cutBits o f n b left
def leftOf (b o : Bx) (f : Nat) : Nat := o.m f &&& (18446744073709551615 - b.m f)
/-- The pieces of n fields from f on. -/
def cutFrom (o : Bx) : Nat → Nat → Bx → List Bx
  | 0, _, _ => []
  | n + 1, f, b => (cutBits o f 64 b (leftOf b o f)).1 ++ cutFrom o n (f + 1) (cutBits o f 64 b (leftOf b o f)).2
/-- What is left of b without o. -/
def cutL (b o : Bx) : List Bx := if meetB b o then cutFrom o 10 0 b else [b]

theorem lt_or {a b : Nat} (ha : a < 18446744073709551616) (hb : b < 18446744073709551616) : a ||| b < 18446744073709551616 := Nat.or_lt_two_pow (n := 64) ha hb
theorem lt_and {a b : Nat} (ha : a < 18446744073709551616) : a &&& b < 18446744073709551616 := Nat.lt_of_le_of_lt Nat.and_le_left ha
theorem upd_lt {m : Nat → Nat} {f x : Nat} (hm : ∀ i, m i < 18446744073709551616) (hx : x < 18446744073709551616) (i : Nat) : upd m f x i < 18446744073709551616 := by unfold upd; split <;> first | exact hx | exact hm i
theorem pieceOf_ok {b o : Bx} (hb : b.ok) {f bit : Nat} (h : bit < 18446744073709551616) : (pieceOf b o f bit).ok := fun i =>
  ⟨upd_lt (fun i => (hb i).1) (lt_or (hb f).1 h) i, upd_lt (fun i => (hb i).2) (lt_or (hb f).2 (Nat.lt_of_le_of_lt Nat.and_le_right h)) i⟩
theorem nextOf_ok {b o : Bx} (hb : b.ok) {f bit : Nat} (h : bit < 18446744073709551616) : (nextOf b o f bit).ok := fun i =>
  ⟨upd_lt (fun i => (hb i).1) (lt_or (hb f).1 h) i, upd_lt (fun i => (hb i).2) (lt_or (hb f).2 (Nat.lt_of_le_of_lt Nat.and_le_right h)) i⟩
theorem cutBits_zero (o : Bx) (f n : Nat) (b : Bx) : cutBits o f n b 0 = ([], b) := by
  induction n with
  | zero => rfl
  | succ n ih => simp only [cutBits, Nat.zero_testBit]; exact ih
theorem cutBits_low (o : Bx) (f : Nat) (b : Bx) (left i : Nat) (h : left < 2 ^ i) (j : Nat) : cutBits o f (i + j) b left = cutBits o f i b left := by
  induction j with
  | zero => rfl
  | succ j ih =>
    show cutBits o f (i + j + 1) b left = _
    simp only [cutBits]
    rw [Nat.testBit_lt_two_pow (Nat.lt_of_lt_of_le h (Nat.pow_le_pow_right (by omega) (by omega)))]
    exact ih
theorem cutBits_congr (o : Bx) (f : Nat) (n : Nat) : ∀ (b : Bx) (l l' : Nat), (∀ i, i < n → l.testBit i = l'.testBit i) → cutBits o f n b l = cutBits o f n b l' := by
  induction n with
  | zero => intro b l l' _; rfl
  | succ n ih =>
    intro b l l' h
    simp only [cutBits]
    rw [h n (by omega), ih b l l' (fun i hi => h i (by omega)), ih (nextOf b o f (2 ^ n)) l l' (fun i hi => h i (by omega))]
theorem testBit_sub_top {l n i : Nat} (h1 : 2 ^ n ≤ l) (hi : i < n) : (l - 2 ^ n).testBit i = l.testBit i := by
  have : l = 2 ^ n + (l - 2 ^ n) := by omega
  conv => rhs; rw [this]
  rw [Nat.testBit_two_pow_add_gt hi]
theorem testBit_top {l n : Nat} (h1 : 2 ^ n ≤ l) (h2 : l < 2 ^ (n + 1)) : l.testBit n = true := by
  rw [Nat.testBit_eq_decide_div_mod_eq]
  have hp : 0 < 2 ^ n := Nat.two_pow_pos n
  have h3 : l / 2 ^ n = 1 := by
    apply Nat.div_eq_of_lt_le
    · omega
    · rw [Nat.pow_succ] at h2; omega
  rw [h3]; rfl
/-- One round of the inner loop. -/
theorem cutBits_step (o : Bx) (f : Nat) (b : Bx) (l n N : Nat) (h1 : 2 ^ n ≤ l) (h2 : l < 2 ^ (n + 1)) (hN : n + 1 ≤ N) :
    cutBits o f N b l = (pieceOf b o f (2 ^ n) :: (cutBits o f n (nextOf b o f (2 ^ n)) (l - 2 ^ n)).1, (cutBits o f n (nextOf b o f (2 ^ n)) (l - 2 ^ n)).2) := by
  obtain ⟨j, rfl⟩ : ∃ j, N = n + 1 + j := ⟨N - (n + 1), by omega⟩
  rw [cutBits_low o f b l (n + 1) h2 j]
  simp only [cutBits]
  rw [testBit_top h1 h2, if_pos rfl, cutBits_congr o f n _ l (l - 2 ^ n) (fun i hi => (testBit_sub_top h1 hi).symm)]
theorem leftOf_lt {b o : Bx} (ho : o.ok) (f : Nat) : leftOf b o f < 18446744073709551616 := lt_and (ho f).1
theorem cutBits_len (o : Bx) (f n : Nat) : ∀ (b : Bx) (l : Nat), (cutBits o f n b l).1.length ≤ n := by
  induction n with
  | zero => intro b l; simp [cutBits]
  | succ n ih =>
    intro b l
    simp only [cutBits]
    split
    · have := ih (nextOf b o f (2 ^ n)) l
      simp only [List.length_cons]; omega
    · have := ih b l; omega
theorem cutFrom_len (o : Bx) (n : Nat) : ∀ (f : Nat) (b : Bx), (cutFrom o n f b).length ≤ 64 * n := by
  induction n with
  | zero => intro f b; simp [cutFrom]
  | succ n ih =>
    intro f b
    simp only [cutFrom, List.length_append]
    have h1 := cutBits_len o f 64 b (leftOf b o f)
    have h2 := ih (f + 1) (cutBits o f 64 b (leftOf b o f)).2
    omega
theorem cutL_len (b o : Bx) : (cutL b o).length ≤ 640 := by
  unfold cutL; split
  · exact cutFrom_len o 10 0 b
  · simp
theorem cutBits_ok (o : Bx) (f n : Nat) (hn : n ≤ 64) : ∀ (b : Bx) (l : Nat), b.ok → (∀ x ∈ (cutBits o f n b l).1, x.ok) ∧ (cutBits o f n b l).2.ok := by
  induction n with
  | zero => intro b l hb; exact ⟨fun x hx => by simp [cutBits] at hx, hb⟩
  | succ n ih =>
    intro b l hb
    have hp : 2 ^ n < 18446744073709551616 := by
      have : 2 ^ n < 2 ^ 64 := Nat.pow_lt_pow_right (by omega) (by omega)
      omega
    simp only [cutBits]
    split
    · obtain ⟨h1, h2⟩ := ih (by omega) (nextOf b o f (2 ^ n)) l (nextOf_ok hb hp)
      refine ⟨fun x hx => ?_, h2⟩
      rcases List.mem_cons.1 hx with rfl | hx
      · exact pieceOf_ok hb hp
      · exact h1 x hx
    · exact ih (by omega) b l hb
theorem cutFrom_ok (o : Bx) (n : Nat) : ∀ (f : Nat) (b : Bx), b.ok → ∀ x ∈ cutFrom o n f b, x.ok := by
  induction n with
  | zero => intro f b _ x hx; simp [cutFrom] at hx
  | succ n ih =>
    intro f b hb x hx
    obtain ⟨h1, h2⟩ := cutBits_ok o f 64 (Nat.le_refl _) b (leftOf b o f) hb
    rcases List.mem_append.1 hx with hx | hx
    · exact h1 x hx
    · exact ih (f + 1) _ h2 x hx
theorem cutL_ok {b o : Bx} (hb : b.ok) : ∀ x ∈ cutL b o, x.ok := by
  unfold cutL; split
  · exact cutFrom_ok o 10 0 b hb
  · intro x hx; rw [List.mem_singleton.1 hx]; exact hb
end Go.Proofs.Ytmhjnfkhfjejeaa
namespace Go.Proofs.Ytmhjnfkhfjejeaa
set_option linter.unusedVariables false
set_option linter.unusedSimpArgs false
open Go.RowKit Go.Proofs.YtmhjnfkhfjejeaaW.PrintWords Go.Proofs.YtmhjnfkhfjejeaaW.PrintLast Go.Proofs.YtmhjnfkhfjejeaaW.PrintMore
open PPredCubes
theorem St.below {g B : Nat} {ok : Nat → Prop} {L : List Bx} {w w' : World} (h : St g B ok L w) (hb : Below w.heap.size w w') : St g B ok L w' := by
  obtain ⟨v, hv, hR⟩ := h
  exact ⟨v, blk_below hv hb, Kd.R_below hR hb⟩
theorem St.mono {g B : Nat} {ok ok' : Nat → Prop} {L : List Bx} {w : World} (h : St g B ok L w) (hok : ∀ k, ok k → ok' k) : St g B ok' L w := by
  obtain ⟨v, hv, hR⟩ := h
  exact ⟨v, hv, Kd.R_mono hR (fun k hk => ⟨hok k hk.1, hk.2⟩)⟩
theorem St.bound {g B : Nat} {ok : Nat → Prop} {L : List Bx} {w : World} (h : St g B ok L w) : St g B (fun k => ok k ∧ k < w.heap.size) L w := by
  obtain ⟨v, hv, hR⟩ := h
  exact ⟨v, hv, Kd.R_mono (Kd.R_bound hR) (fun k hk => ⟨⟨hk.1.1, hk.2.2.1⟩, hk.1.2⟩)⟩
theorem St.lt {g B : Nat} {ok : Nat → Prop} {L : List Bx} {w : World} (h : St g B ok L w) : g < w.heap.size := by
  obtain ⟨v, hv, _⟩ := h
  exact blk_lt hv
/-- A block that is not the row's has turned. -/
theorem St.step {g B : Nat} {ok : Nat → Prop} {L : List Bx} {w w' : World} (h : St g B ok L w) (hg : w'.heap[g]? = w.heap[g]?) (hk : ∀ k, ok k → k < w.heap.size → w'.heap[k]? = w.heap[k]?) : St g B ok L w' := by
  obtain ⟨v, hv, hR⟩ := h
  exact ⟨v, hg.trans hv, Kd.R_step hR (fun k ho hlt => hk k ho.1 hlt)⟩

theorem Keep.refl (ok : Nat → Prop) (g : Nat) (w : World) : Keep ok g w w := fun _ _ _ _ => rfl
theorem Keep.far {ok : Nat → Prop} {g : Nat} {w W : World} (h : Keep ok g w W) {p : Addr} (hp : w.heap.size ≤ p.block) (u : Value) : Keep ok g w (W.setCell p u) := fun k hk h1 h2 =>
  (Below.heap_setCell W p u k (by omega)).trans (h k hk h1 h2)
theorem Keep.below {ok : Nat → Prop} {g : Nat} {w W W' : World} (h : Keep ok g w W) (hs : w.heap.size ≤ W.heap.size) (hb : Below W.heap.size W W') : Keep ok g w W' := fun k hk h1 h2 =>
  (hb.block k (Nat.lt_of_lt_of_le hk hs)).trans (h k hk h1 h2)
theorem Keep.trans {ok ok' : Nat → Prop} {g : Nat} {w W W' : World} (h : Keep ok g w W) (hs : w.heap.size ≤ W.heap.size) (k : Keep ok' g W W') (ho : ∀ k, k < w.heap.size → ok' k → ok k) : Keep ok g w W' := fun j hj h1 h2 =>
  (k j (Nat.lt_of_lt_of_le hj hs) (fun h3 => h1 (ho j hj h3)) h2).trans (h j hj h1 h2)
theorem u64_not {a : Nat} (ha : a < 18446744073709551616) : Go.bits .xor .u64 18446744073709551615 (a : Int) = ((18446744073709551615 - a : Nat) : Int) := by
  have h := Go.u64_xor_nat 18446744073709551615 a (by omega) ha
  rw [show ((18446744073709551615 : Nat) : Int) = 18446744073709551615 from rfl] at h
  rw [h]
  congr 1
  apply Nat.eq_of_testBit_eq
  intro i
  have h1 : (18446744073709551615 : Nat) = 2 ^ 64 - 1 := by decide
  have h2 : 18446744073709551615 - a = 2 ^ 64 - (a + 1) := by omega
  rw [Nat.testBit_xor, h2, Nat.testBit_two_pow_sub_succ (by omega), h1, Nat.testBit_two_pow_sub_one]
  by_cases hi : i < 64
  · simp [hi]
  · have : a.testBit i = false := Nat.testBit_lt_two_pow (Nat.lt_of_lt_of_le ha (by
      have : 2 ^ 64 ≤ 2 ^ i := Nat.pow_le_pow_right (by omega) (by omega)
      omega))
    simp [hi, this]
set_option maxHeartbeats 4000000 in
set_option maxRecDepth 100000 in
theorem cut_any (b o : Bx) (hb : b.ok) (ho : o.ok) (g B : Nat) (ok : Nat → Prop) (L : List Bx) (w : World) (hok : ∀ k, w.heap.size ≤ k → ok k) (hS : St g B ok L w) (hg : B ≤ g) (hB : B ≤ w.heap.size) (hl : L.length < 1000000000) :
    Calls Try.prog 52 #[.agg b.cs, .agg o.cs, .func (.func 68) #[] #[.pointer (some ⟨g, 0, none⟩)]] w fun e w' => e = .returned (.tuple #[]) ∧ St g B ok (L ++ cutL b o) w' ∧ Keep ok g w w' ∧ Below B w w' := by
  have HS := Lib.hid hS
  have HBo := Lib.hid hb
  have HOo := Lib.hid ho
  have HOK := Lib.hid hok
  clear hS hb ho hok
  go_enter Try.func52, Try.ntmps52
  go_wp2_with (first
    | (refine wpList_box rfl 3 rfl b.cs 67 ?hr ?_; (case hr => first | (go_simp; done) | (go_simp; rfl)); intro g3 w3 hg3 k3 hb3; have K3 := Lib.hid k3; have HB3 := Lib.hid hb3; clear k3 hb3)
    | (refine wpList_box rfl 4 rfl o.cs 67 ?hr ?_; (case hr => first | (go_simp; done) | (go_simp; rfl)); intro g4 w4 hg4 k4 hb4; have K4 := Lib.hid k4; have HB4 := Lib.hid hb4; have K34 := Lib.hid (blk_below K3.out hb4); clear k4 hb4)
    | (refine wpList_load_at rfl 67 (.tmp 3) rfl ⟨g3, 0, none⟩ rfl b.cs _ (Lies.of_block K34.out) Try.underlying67 rfl info67 ?_)
    | (refine wpList_load_at rfl 67 (.tmp 4) rfl ⟨g4, 0, none⟩ rfl o.cs _ (Lies.of_block K4.out) Try.underlying67 rfl info67 ?_))
  have hS4 := HS.out.bound.below (HB3.out.trans (HB4.out.mono HB3.out.size))
  have hb4 := HB3.out.trans (HB4.out.mono HB3.out.size)
  have hne : g3 ≠ g4 ∧ w.heap.size ≤ g3 ∧ w.heap.size ≤ g4 := ⟨by have := blk_lt K3.out; rw [hg4.out]; omega, by rw [hg3.out]; omega, by rw [hg4.out]; exact HB3.out.size⟩
  have HN := Lib.hid hne
  have HG3 : Hid (g ≠ g3 ∧ g ≠ g4) := Lib.hid ⟨fun e => by have := HS.out.lt; have := HN.out.2.1; omega, fun e => by have := HS.out.lt; have := HN.out.2.2; omega⟩
  have HS4 := Lib.hid hS4
  have HW4 := Lib.hid hb4
  clear hS4 hb4 hne hg3 hg4 HB3 HB4 K3
  by_cases hm : meetB b o = true
  · go_at_call 49
    refine (meet_yes b o HBo.out HOo.out hm w4).mono ?_
    rintro e w5 ⟨rfl, hb5⟩
    have K35 := Lib.hid (blk_below K34.out hb5)
    have K45 := Lib.hid (blk_below K4.out hb5)
    have HS5 := Lib.hid (HS4.out.below hb5)
    have HW5 := Lib.hid (HW4.out.trans (hb5.mono HW4.out.size))
    have HM := Lib.hid hm
    clear hb5 hm K34 HS4 HW4 K4
    go_wp2_with (first
      | (refine wpList_new rfl rfl 6 rfl 67 (.tmp 16) rfl rfl z67.cs (meetX b o).cs ?hr rfl rfl info67 rfl (Bx.all_one _) ?_; (case hr => first | (go_simp; done) | (go_simp; rfl)); intro g6 w6 hg6 k6 hb6; have K36 := Lib.hid (blk_below K35.out hb6); have K46 := Lib.hid (blk_below K45.out hb6); have HS6 := Lib.hid (HS5.out.below hb6); have HW6 := Lib.hid (HW5.out.trans (hb6.mono HW5.out.size)); clear k6 hb6 hg6))
    have hs6 : St g B (fun k => ok k ∧ k ≠ g3 ∧ k ≠ g4) L w6 := HS6.out.mono fun k hk => ⟨hk.1, fun e => by have := HN.out.2.1; omega, fun e => by have := HN.out.2.2; omega⟩
    have HSS := Lib.hid hs6
    have HW := Lib.hid (HW6.out.mono hB)
    have HKP := Lib.hid ((Keep.refl ok g w).below (Nat.le_refl _) HW6.out)
    clear hs6 HS6 HW6 HS5 HW5 K35 K45
    have HEQ : Hid (L ++ cutFrom o 10 0 b = L ++ cutL b o) := Lib.hid (by unfold cutL; rw [if_pos HM.out])
    have HLEN := Lib.hid (cutL_len b o)
    obtain ⟨R, hR⟩ : ∃ R, R = L ++ cutL b o := ⟨_, rfl⟩
    have HRL : Hid (R.length < 1000001000) := Lib.hid (by rw [hR, List.length_append]; have := HLEN.out; omega)
    rw [← hR] at HEQ
    have HRQ := Lib.hid hR
    clear hR HLEN
    go_loopw [23] (fun vf wr => ∃ (f : Nat) (cur : Bx) (Lc : List Bx), vf = .int .i64 f ∧ f ≤ 10 ∧ BoxAt wr g3 cur.m cur.v ∧ BoxAt wr g4 o.m o.v ∧ St g B (fun k => ok k ∧ k ≠ g3 ∧ k ≠ g4) Lc wr ∧ Hid cur.ok ∧ Hid (Lc ++ cutFrom o (10 - f) f cur = R) ∧ Hid (Keep ok g w wr) ∧ Below B w wr) (fun vf _ => 10 - (intOf vf).toNat)
    case atStart => exact ⟨0, b, L, rfl, by omega, K36.out, K46.out, HSS.out, HBo, HEQ, HKP, HW.out⟩
    case round =>
      obtain ⟨f, cur, Lc, rfl, hf, hx, hy, hs, HCO, HE, HK1, hw⟩ := hrel
      have HX := Lib.hid hx
      have HY := Lib.hid hy
      have HS1 := Lib.hid hs
      have HW1 := Lib.hid hw
      clear hx hy hs hw K36 K46 HSS HW HEQ HS HBo HKP
      by_cases hlt : f < 10
      · have c1 := HX.out.m hlt
        have c2 := HY.out.m hlt
        have q1 : (f : Int) < 10 := by omega
        have B1 := Go.u64_andNot_nat (o.m f) (cur.m f) (HOo.out f).1 (HCO.out f).1
        go_wp2_with fail
        go_quiet (fail)
        generalize hW2 : wr.drewN _ = W2
        have HX2 : Hid (BoxAt W2 g3 cur.m cur.v) := Lib.hid (hW2 ▸ HX.out)
        have HY2 : Hid (BoxAt W2 g4 o.m o.v) := Lib.hid (hW2 ▸ HY.out)
        have HS2 : Hid (St g B (fun k => ok k ∧ k ≠ g3 ∧ k ≠ g4) Lc W2) := Lib.hid (hW2 ▸ HS1.out.below (pw_below_drewN (Below.refl _ _) _))
        have HW2 : Hid (Below B w W2) := Lib.hid (hW2 ▸ pw_below_drewN HW1.out _)
        have HK2 : Hid (Keep ok g w W2) := hW2 ▸ HK1
        have HL0 := Lib.hid (leftOf_lt (b := cur) HOo.out f)
        have HE2 : Hid (Lc ++ ((cutBits o f 64 cur (leftOf cur o f)).1 ++ cutFrom o (9 - f) (f + 1) (cutBits o f 64 cur (leftOf cur o f)).2) = R) := Lib.hid (by
          rw [← HE.out, show 10 - f = (9 - f) + 1 by omega]; rfl)
        clear hW2 HX HY HS1 HW1 HK1 c1 c2 B1 HE
        have e0 : (o.m f &&& 18446744073709551615 - cur.m f) = leftOf cur o f := rfl
        rw [e0]
        clear e0
        obtain ⟨left0, hl0⟩ : ∃ l, leftOf cur o f = l := ⟨_, rfl⟩
        rw [hl0] at HL0 HE2 ⊢
        clear hl0
        go_wp2_with fail
        obtain ⟨wo, rfl⟩ : ∃ wo : World, wo = W2 := ⟨_, rfl⟩
        go_loopw [9] (fun v9 wr => ∃ (n left : Nat) (c : Bx) (Lc : List Bx), v9 = .int .u64 left ∧ Hid (left < 2 ^ n) ∧ n ≤ 64 ∧ BoxAt wr g3 c.m c.v ∧ BoxAt wr g4 o.m o.v ∧ St g B (fun k => ok k ∧ k ≠ g3 ∧ k ≠ g4) Lc wr ∧ Hid c.ok ∧ Hid (Lc ++ ((cutBits o f n c left).1 ++ cutFrom o (9 - f) (f + 1) (cutBits o f n c left).2) = R) ∧ Hid (Keep ok g w wr) ∧ Below B w wr) (fun v9 _ => (intOf v9).toNat)
        case atStart => exact ⟨64, left0, cur, Lc, rfl, Lib.hid (by have := HL0.out; omega), by omega, HX2.out, HY2.out, HS2.out, HCO, HE2, HK2, HW2.out⟩
        case round =>
          obtain ⟨n, left, c, Lc, rfl, HLT, hn, hx, hy, hs, HCK, HE, HK1, hw⟩ := hrel
          have HX := Lib.hid hx
          have HY := Lib.hid hy
          have HS1 := Lib.hid hs
          have HW1 := Lib.hid hw
          clear hx hy hs hw HX2 HY2 HS2 HW2 HL0 HE2 HCO HK2
          rcases Nat.eq_zero_or_pos left with h0 | h0
          · subst h0
            go_wp2
            refine ⟨⟨f + 1, c, Lc, by first | rfl | go_num, by omega, HX.out, HY.out, HS1.out, HCK, Lib.hid ?_, HK1, HW1.out⟩, by simp [intOf] <;> omega⟩
            have h := HE.out
            rw [cutBits_zero] at h
            rw [← h, show 10 - (f + 1) = 9 - f by omega]
            rfl
          · have h64 : left < 18446744073709551616 := by
              have h1 := HLT.out
              have h2 : 2 ^ n ≤ 2 ^ 64 := Nat.pow_le_pow_right (by omega) hn
              omega
            have z1 : ((left : Int) != 0) = true := by simp; omega
            go_wp2_with fail
            go_at_call 64
            refine (len64_any left h64 _).mono ?_
            rintro e w' ⟨Ln, rfl, hl1, hl2, rfl⟩
            obtain ⟨hl3, hl4⟩ := hl2
            obtain ⟨hl5, hl6⟩ := hl4 h0
            obtain ⟨i, rfl⟩ : ∃ i, Ln = i + 1 := ⟨Ln - 1, by omega⟩
            rw [Nat.add_sub_cancel] at hl6
            have hin : i + 1 ≤ n := by
              rcases Nat.lt_or_ge i n with h | h
              · exact h
              · have h1 := HLT.out
                have h2 : 2 ^ n ≤ 2 ^ i := Nat.pow_le_pow_right (by omega) h
                omega
            have HST := Lib.hid (cutBits_step o f c left i n hl6 hl3 hin)
            obtain ⟨bit, hbit⟩ : ∃ bit, 2 ^ i = bit := ⟨_, rfl⟩
            have HBIT := Lib.hid hbit
            have hb64 : bit < 18446744073709551616 := by omega
            have H3 := Lib.hid hl3
            have hle : bit ≤ left := by omega
            have w1 : IntKind.u64.wrap ((2 : Int) ^ i) = (bit : Int) := by
              rw [show ((2 : Int) ^ i) = (bit : Int) by rw [← hbit]; simp]
              exact IntWalk.u64_in _ ⟨by omega, by omega⟩
            obtain ⟨lp, hlp⟩ : ∃ lp, left - bit = lp := ⟨_, rfl⟩
            have w2 : IntKind.u64.wrap ((left : Int) - (bit : Int)) = (lp : Int) := by
              rw [show (left : Int) - (bit : Int) = (lp : Int) by omega]
              exact IntWalk.u64_in _ ⟨by omega, by omega⟩
            have HLP := Lib.hid hlp
            have hlt2 : lp < left := by have := Nat.two_pow_pos i; omega
            clear hl3 hl4 hl5 hl6 hbit hlp
            have c1 := HX.out.m hlt
            have f1 := HX.out.free f
            have B2 : Go.bits .or .u64 (c.m f : Int) (bit : Int) = ((c.m f ||| bit : Nat) : Int) := Go.u64_or_nat _ _ (HCK.out f).1 hb64
            have hx6 := HX.out.set_m hlt (c.m f ||| bit)
            have hy6 := HY.out.far (p := ⟨g3, f, none⟩) (fun e => HN.out.1 e.symm) (.int .u64 ((c.m f ||| bit : Nat) : Int))
            have hs6 : St g B (fun k => ok k ∧ k ≠ g3 ∧ k ≠ g4) Lc (wr.setCell ⟨g3, f, none⟩ (.int .u64 ((c.m f ||| bit : Nat) : Int))) := HS1.out.step (Below.heap_setCell wr _ _ g HG3.out.1) (fun k hk _ => Below.heap_setCell wr _ _ k hk.2.1)
            have hw6 := HW1.out.setCell (p := ⟨g3, f, none⟩) (Nat.le_trans hB HN.out.2.1) (.int .u64 ((c.m f ||| bit : Nat) : Int))
            have HX6 := Lib.hid hx6
            have HY6 := Lib.hid hy6
            have HS6 := Lib.hid hs6
            have HW6 := Lib.hid hw6
            have HK6 := Lib.hid (HK1.out.far (p := ⟨g3, f, none⟩) HN.out.2.1 (.int .u64 ((c.m f ||| bit : Nat) : Int)))
            clear hx6 hy6 hs6 hw6
            go_wp2_with (first
              | (refine wpList_load_at rfl 67 (.tmp 3) rfl ⟨g3, 0, none⟩ rfl (bxc (upd c.m f (c.m f ||| bit)) c.v) _ (Lies.of_block HX6.out) Try.underlying67 rfl info67 ?_; generalize wr.setCell ⟨g3, f, none⟩ (.int .u64 ((c.m f ||| bit : Nat) : Int)) = W6 at HX6 HY6 HS6 HW6 HK6 ⊢; clear HX HY HS1 HW1 HK1 c1 f1 B2)
              | (refine wpList_new rfl rfl 11 rfl 67 (.tmp 52) rfl rfl z67.cs (bxc (upd c.m f (c.m f ||| bit)) c.v) ?hr rfl rfl info67 rfl (bxc_one _ _) ?_; (case hr => first | (go_simp; done) | (go_simp; rfl)); intro g11 W11 hg11 k11 hb11; have K11 := Lib.hid k11; have HB11 := Lib.hid hb11; clear k11 hb11))
            have hn11 : g11 ≠ g3 ∧ g11 ≠ g4 := ⟨fun e => by have := HX6.out.lt; have := hg11.out; omega, fun e => by have := HY6.out.lt; have := hg11.out; omega⟩
            have HN11 := Lib.hid hn11
            have hx7 : BoxAt W11 g3 (upd c.m f (c.m f ||| bit)) c.v := blk_below HX6.out HB11.out
            have hy7 : BoxAt W11 g4 o.m o.v := blk_below HY6.out HB11.out
            have hp7 : BoxAt W11 g11 (upd c.m f (c.m f ||| bit)) c.v := K11.out
            have hs7 : St g B (fun k => (ok k ∧ k ≠ g3 ∧ k ≠ g4) ∧ k ≠ g11) Lc W11 := (HS6.out.bound.below HB11.out).mono (fun k hk => ⟨hk.1, fun e => by have := hk.2; have := hg11.out; omega⟩)
            have HX7 := Lib.hid hx7
            have HY7 := Lib.hid hy7
            have HP7 := Lib.hid hp7
            have HS7 := Lib.hid hs7
            have HW7 := Lib.hid (HW6.out.trans (HB11.out.mono (Nat.le_trans hB (by have := HX6.out.lt; have := HN.out.2.1; omega))))
            have HK7 := Lib.hid (HK6.out.below HW6.out.size HB11.out)
            have HG11b : Hid (w.heap.size ≤ g11) := Lib.hid (by have := HX6.out.lt; have := HN.out.2.1; have := hg11.out; omega)
            have HG11 : Hid (B ≤ g11) := Lib.hid (by have := HX6.out.lt; have := HN.out.2.1; have := hg11.out; omega)
            have HGG : Hid (g ≠ g11) := Lib.hid (fun e => by have := HS6.out.lt; have := hg11.out; omega)
            have d1 := hp7.v hlt
            have d2 := hy7.v hlt
            have d3 := hp7.free (10 + f)
            clear hx7 hy7 hp7 hs7 hn11 HX6 HY6 HS6 HW6 HK6 K11 HB11
            have B3 : Go.bits .xor .u64 18446744073709551615 (o.v f : Int) = ((18446744073709551615 - o.v f : Nat) : Int) := u64_not (HOo.out f).2
            have B4 : Go.bits .and .u64 ((18446744073709551615 - o.v f : Nat) : Int) (bit : Int) = (((18446744073709551615 - o.v f) &&& bit : Nat) : Int) := Go.u64_and_nat _ _ (by omega) hb64
            have B5 : Go.bits .or .u64 (c.v f : Int) (((18446744073709551615 - o.v f) &&& bit : Nat) : Int) = ((c.v f ||| ((18446744073709551615 - o.v f) &&& bit) : Nat) : Int) := Go.u64_or_nat _ _ (HCK.out f).2 (lt_and (by omega))
            have E5 : Go.bits .or .u64 (c.v f : Int) (Go.bits .and .u64 (Go.bits .xor .u64 (if IntKind.u64.signed = true then -1 else IntKind.u64.max) (o.v f : Int)) (bit : Int)) = (((pieceOf c o f bit).v f : Nat) : Int) := by
              rw [show (if IntKind.u64.signed = true then -1 else IntKind.u64.max) = (18446744073709551615 : Int) from rfl, B3, B4, B5]
              unfold pieceOf upd; simp
            have HE5 := Lib.hid E5
            clear B3 B4 B5 E5
            go_wp2_with fail
            go_still_tail 14, (by kernel_rfl)
            change wpList _ _ _ _ _ W11.drew
            rw [HE5.out]
            have d4 : W11.drew.cell? ⟨g11, 10 + f, none⟩ = some (.int .u64 (c.v f)) := d1
            have d5 : W11.drew.frozen? ⟨g11, 10 + f, none⟩ = false := d3
            have HP7d : Hid (BoxAt W11.drew g11 (upd c.m f (c.m f ||| bit)) c.v) := HP7
            have HX7d : Hid (BoxAt W11.drew g3 (upd c.m f (c.m f ||| bit)) c.v) := HX7
            have HY7d : Hid (BoxAt W11.drew g4 o.m o.v) := HY7
            have HS7d : Hid (St g B (fun k => (ok k ∧ k ≠ g3 ∧ k ≠ g4) ∧ k ≠ g11) Lc W11.drew) := Lib.hid (HS7.out.below (below_drew (Below.refl _ _)))
            have HW7d : Hid (Below B w W11.drew) := Lib.hid HW7.out.drew
            have HK7d : Hid (Keep ok g w W11.drew) := HK7
            clear d1 d2 d3 HE5 HP7 HX7 HY7 HS7 HW7 HK7
            generalize W11.drew = Wd at d4 d5 HP7d HX7d HY7d HS7d HW7d HK7d ⊢
            have hp8 := HP7d.out.set_v hlt ((pieceOf c o f bit).v f)
            have hx8 := HX7d.out.far (p := ⟨g11, 10 + f, none⟩) (fun e => HN11.out.1 e.symm) (.int .u64 (((pieceOf c o f bit).v f : Nat) : Int))
            have hy8 := HY7d.out.far (p := ⟨g11, 10 + f, none⟩) (fun e => HN11.out.2 e.symm) (.int .u64 (((pieceOf c o f bit).v f : Nat) : Int))
            have hs8 : St g B (fun k => (ok k ∧ k ≠ g3 ∧ k ≠ g4) ∧ k ≠ g11) Lc (Wd.setCell ⟨g11, 10 + f, none⟩ (.int .u64 (((pieceOf c o f bit).v f : Nat) : Int))) := HS7d.out.step (Below.heap_setCell Wd _ _ g HGG.out) (fun k hk _ => Below.heap_setCell Wd _ _ k hk.2)
            have hw8 := HW7d.out.setCell (p := ⟨g11, 10 + f, none⟩) HG11.out (.int .u64 (((pieceOf c o f bit).v f : Nat) : Int))
            have HP8 : Hid ((Wd.setCell ⟨g11, 10 + f, none⟩ (.int .u64 (((pieceOf c o f bit).v f : Nat) : Int))).heap[g11]? = some (.cells (pieceOf c o f bit).cs 67 (0, 0))) := Lib.hid (hp8.congr (m' := (pieceOf c o f bit).m) (v' := (pieceOf c o f bit).v) (fun _ _ => rfl) (fun i _ => by unfold pieceOf upd; simp))
            have HX8 := Lib.hid hx8
            have HY8 := Lib.hid hy8
            have HS8 := Lib.hid hs8
            have HW8 := Lib.hid hw8
            have HK8 := Lib.hid (HK7d.out.far (p := ⟨g11, 10 + f, none⟩) HG11b.out (.int .u64 (((pieceOf c o f bit).v f : Nat) : Int)))
            clear hp8 hx8 hy8 hs8 hw8 HP7d HX7d HY7d HS7d HW7d HK7d
            have HLC : Hid (Lc.length < 1000001000) := Lib.hid (by have := HRL.out; rw [← HE.out, List.length_append] at this; omega)
            go_wp2_with (refine wpList_load_at rfl 67 (.tmp 11) rfl ⟨g11, 0, none⟩ rfl (pieceOf c o f bit).cs _ (Lies.of_block HP8.out) Try.underlying67 rfl info67 ?_; generalize Wd.setCell ⟨g11, 10 + f, none⟩ (.int .u64 (((pieceOf c o f bit).v f : Nat) : Int)) = W8 at HP8 HX8 HY8 HS8 HW8 HK8 ⊢)
            go_at_call 68
            refine (left1_any (pieceOf c o f bit) g B (fun k => (ok k ∧ k ≠ g3 ∧ k ≠ g4) ∧ k ≠ g11) Lc W8 HS8.out hg (by have := HX8.out.lt; have := HN.out.2.1; omega) (fun k hk => ⟨⟨HOK.out k (Nat.le_trans HW8.out.size hk), fun e => by have := HX8.out.lt; omega, fun e => by have := HY8.out.lt; omega⟩, fun e => by have := blk_lt HP8.out; omega⟩) (by have := HLC.out; omega)).mono ?_
            rintro e W9 ⟨rfl, hs9, hk9, hb9⟩
            have hx9 : BoxAt W9 g3 (upd c.m f (c.m f ||| bit)) c.v := (hk9 g3 HX8.out.lt (fun h => h.1.2.1 rfl) (fun e => HG3.out.1 e.symm)).trans HX8.out
            have hy9 : BoxAt W9 g4 o.m o.v := (hk9 g4 HY8.out.lt (fun h => h.1.2.2 rfl) (fun e => HG3.out.2 e.symm)).trans HY8.out
            have HX9 := Lib.hid hx9
            have HY9 := Lib.hid hy9
            have HS9 : Hid (St g B (fun k => ok k ∧ k ≠ g3 ∧ k ≠ g4) (Lc ++ [pieceOf c o f bit]) W9) := Lib.hid (hs9.mono (fun k hk => hk.1))
            have HW9 := Lib.hid (HW8.out.trans hb9)
            have HK9 : Hid (Keep ok g w W9) := Lib.hid (HK8.out.trans HW8.out.size hk9 (fun _ _ h => h.1.1))
            have d1 := hx9.v hlt
            have d2 := hy9.v hlt
            have d3 := hx9.free (10 + f)
            clear hs9 hk9 hb9 hx9 hy9 HX8 HY8 HS8 HW8 HP8 HK8
            have E6 : Go.bits .or .u64 (c.v f : Int) (Go.bits .and .u64 (o.v f : Int) (bit : Int)) = (((nextOf c o f bit).v f : Nat) : Int) := by
              rw [Go.u64_and_nat _ _ (HOo.out f).2 hb64, Go.u64_or_nat _ _ (HCK.out f).2 (lt_and (HOo.out f).2)]
              unfold nextOf upd; simp
            have HE6 := Lib.hid E6
            clear E6
            go_wp2_with fail
            go_still_tail 13, (by kernel_rfl)
            change wpList _ _ _ _ _ W9.drew
            rw [HE6.out]
            have d4 : W9.drew.cell? ⟨g3, 10 + f, none⟩ = some (.int .u64 (c.v f)) := d1
            have d5 : W9.drew.frozen? ⟨g3, 10 + f, none⟩ = false := d3
            have HX9d : Hid (BoxAt W9.drew g3 (upd c.m f (c.m f ||| bit)) c.v) := HX9
            have HY9d : Hid (BoxAt W9.drew g4 o.m o.v) := HY9
            have HS9d : Hid (St g B (fun k => ok k ∧ k ≠ g3 ∧ k ≠ g4) (Lc ++ [pieceOf c o f bit]) W9.drew) := Lib.hid (HS9.out.below (below_drew (Below.refl _ _)))
            have HW9d : Hid (Below B w W9.drew) := Lib.hid HW9.out.drew
            have HK9d : Hid (Keep ok g w W9.drew) := HK9
            clear d1 d2 d3 HE6 HX9 HY9 HS9 HW9 HK9
            generalize W9.drew = We at d4 d5 HX9d HY9d HS9d HW9d HK9d ⊢
            have hx10 := HX9d.out.set_v hlt ((nextOf c o f bit).v f)
            have HX10 : Hid (BoxAt (We.setCell ⟨g3, 10 + f, none⟩ (.int .u64 (((nextOf c o f bit).v f : Nat) : Int))) g3 (nextOf c o f bit).m (nextOf c o f bit).v) := Lib.hid (hx10.congr (fun _ _ => rfl) (fun i _ => by unfold nextOf upd; simp))
            have HY10 := Lib.hid (HY9d.out.far (p := ⟨g3, 10 + f, none⟩) (fun e => HN.out.1 e.symm) (.int .u64 (((nextOf c o f bit).v f : Nat) : Int)))
            have HS10 : Hid (St g B (fun k => ok k ∧ k ≠ g3 ∧ k ≠ g4) (Lc ++ [pieceOf c o f bit]) (We.setCell ⟨g3, 10 + f, none⟩ (.int .u64 (((nextOf c o f bit).v f : Nat) : Int)))) := Lib.hid (HS9d.out.step (Below.heap_setCell We _ _ g HG3.out.1) (fun k hk _ => Below.heap_setCell We _ _ k hk.2.1))
            have HW10 := Lib.hid (HW9d.out.setCell (p := ⟨g3, 10 + f, none⟩) (Nat.le_trans hB HN.out.2.1) (.int .u64 (((nextOf c o f bit).v f : Nat) : Int)))
            have HK10 := Lib.hid (HK9d.out.far (p := ⟨g3, 10 + f, none⟩) HN.out.2.1 (.int .u64 (((nextOf c o f bit).v f : Nat) : Int)))
            clear hx10 HX9d HY9d HS9d HW9d HK9d
            have HLT2 : Hid (lp < 2 ^ i) := Lib.hid (by have h1 := H3.out; have h2 := HBIT.out; have h3 := HLP.out; rw [Nat.pow_succ] at h1; omega)
            have HE10 : Hid (Lc ++ [pieceOf c o f bit] ++ ((cutBits o f i (nextOf c o f bit) lp).1 ++ cutFrom o (9 - f) (f + 1) (cutBits o f i (nextOf c o f bit) lp).2) = R) := Lib.hid (by
              have h1 := HE.out
              rw [HST.out, HBIT.out, HLP.out] at h1
              rw [← h1]; simp)
            go_wp2_with fail
            go_roundw
            case rel => exact ⟨i, lp, _, _, rfl, HLT2, by omega, HX10.out, HY10.out, HS10.out, Lib.hid (nextOf_ok HCK.out hb64), HE10, HK10, HW10.out⟩
            case measure => simp [intOf] <;> omega
      · obtain rfl : f = 10 := by omega
        go_wp2
        go_end0
        refine ⟨rfl, HS1.out.mono (fun _ h => h.1) |> fun h => ?_, HK1.out, HW1.out⟩
        have he := HE.out
        rw [show 10 - 10 = 0 from rfl] at he
        simp only [cutFrom, List.append_nil] at he
        rw [← HRQ.out, ← he]
        exact h
  · have hm' : meetB b o = false := by simpa using hm
    go_at_call 49
    refine (meet_no b o HBo.out HOo.out hm' w4).mono ?_
    rintro e w5 ⟨rfl, hb5⟩
    have K35 := Lib.hid (blk_below K34.out hb5)
    have K45 := Lib.hid (blk_below K4.out hb5)
    have HS5 := Lib.hid (HS4.out.below hb5)
    have HW5 := Lib.hid (HW4.out.trans (hb5.mono HW4.out.size))
    have HM := Lib.hid hm'
    clear hb5 hm hm' K34 HS4 HW4 K4
    go_wp2_with (first
      | (refine wpList_new rfl rfl 6 rfl 67 (.tmp 16) rfl rfl z67.cs z67.cs ?hr rfl rfl info67 rfl (Bx.all_one _) ?_; (case hr => first | (go_simp; done) | (go_simp; rfl)); intro g6 w6 hg6 k6 hb6; have K36 := Lib.hid (blk_below K35.out hb6); have K46 := Lib.hid (blk_below K45.out hb6); have HS6 := Lib.hid (HS5.out.below hb6); have HW6 := Lib.hid (HW5.out.trans (hb6.mono HW5.out.size)); clear k6 hb6 hg6)
      | (refine wpList_load_at rfl 67 (.tmp 3) rfl ⟨g3, 0, none⟩ rfl b.cs _ (Lies.of_block K36.out) Try.underlying67 rfl info67 ?_))
    go_at_call 68
    refine (left1_any b g B (fun k => ok k ∧ k ≠ g3 ∧ k ≠ g4) L w6 (HS6.out.mono fun k hk => ⟨hk.1, fun e => by have := HN.out.2.1; omega, fun e => by have := HN.out.2.2; omega⟩) hg (Nat.le_trans hB HW6.out.size) (fun k hk => ⟨HOK.out k (Nat.le_trans HW6.out.size hk), fun e => by have := blk_lt K36.out; omega, fun e => ?_⟩) (by omega)).mono ?_
    · have := blk_lt K46.out; omega
    rintro e w7 ⟨rfl, hs7, hk7, hb7⟩
    have HK7 : Hid (Keep ok g w w7) := Lib.hid (((Keep.refl ok g w).below (Nat.le_refl _) HW6.out).trans HW6.out.size hk7 (fun _ _ h => h.1))
    have HS7 := Lib.hid hs7
    have HB7 := Lib.hid ((HW6.out.mono hB).trans hb7)
    clear hs7 hb7 hk7
    go_wp2_with fail
    refine bodyPost_ret (v := .tuple #[]) (results_none rfl _ _ _) rfl ?_
    exact ⟨rfl, by unfold cutL; rw [HM.out]; exact HS7.out.mono (fun _ h => h.1), HK7.out, HB7.out⟩
end Go.Proofs.Ytmhjnfkhfjejeaa
namespace Go.Proofs.Ytmhjnfkhfjejeaa
set_option linter.unusedVariables false
set_option linter.unusedSimpArgs false
open Go.RowKit Go.Proofs.YtmhjnfkhfjejeaaW.PrintWords Go.Proofs.YtmhjnfkhfjejeaaW.PrintLast Go.Proofs.YtmhjnfkhfjejeaaW.PrintMore
open PPredCubes
/-- Boxes that are right. -/
def okB (l : List Bx) : Prop := ∀ x ∈ l, x.ok
theorem z67_ok : z67.ok := fun i => ⟨by show (0 : Nat) < _; decide, by show (0 : Nat) < _; decide⟩
theorem okB_at {l : List Bx} (h : okB l) (k : Nat) : (atB l k).ok := by
  unfold atB
  rw [List.getD_eq_getElem?_getD]
  rcases Nat.lt_or_ge k l.length with h1 | h1
  · rw [List.getElem?_eq_getElem h1]; exact h _ (List.getElem_mem h1)
  · rw [List.getElem?_eq_none h1]; exact z67_ok
/-- What is left of the first k boxes without o. -/
def leftTo (l : List Bx) (o : Bx) : Nat → List Bx
  | 0 => []
  | k + 1 => leftTo l o k ++ cutL (atB l k) o
def leftL (l : List Bx) (o : Bx) : List Bx := leftTo l o l.length
theorem leftTo_len (l : List Bx) (o : Bx) (k : Nat) : (leftTo l o k).length ≤ 640 * k := by
  induction k with
  | zero => simp [leftTo]
  | succ k ih =>
    have := cutL_len (atB l k) o
    simp only [leftTo, List.length_append]; omega
theorem leftTo_ok {l : List Bx} {o : Bx} (h : okB l) (k : Nat) : okB (leftTo l o k) := by
  induction k with
  | zero => intro x hx; simp [leftTo] at hx
  | succ k ih =>
    intro x hx
    rcases List.mem_append.1 hx with hx | hx
    · exact ih x hx
    · exact cutL_ok (okB_at h k) x hx
theorem ret_vb {v : Value} {a b : Bool} (h : a = b) : Ending.returned (.tuple #[v, .bool a]) = .returned (.tuple #[v, .bool b]) := by rw [h]
def leftOk (l : List Bx) (o : Bx) : Bool := decide ((leftL l o).length ≤ 128)

set_option maxHeartbeats 4000000 in
set_option maxRecDepth 100000 in
theorem left_any (A : Option Addr) (cap : Nat) (l : List Bx) (o : Bx) (hl : okB l) (ho : o.ok) (hn : l.length ≤ 1000000) (w : World) (hr : k67.C w A l.length l) :
    Calls Try.prog 67 #[.slice A l.length cap, .agg o.cs] w fun e w' => ∃ v, e = .returned (.tuple #[v, .bool (leftOk l o)]) ∧ k67.R 67 w' w.heap.size (fun _ => True) v (leftL l o) ∧ Below w.heap.size w w' := by
  have HR := Lib.hid hr
  have HL := Lib.hid hl
  have HO := Lib.hid ho
  clear hr hl ho
  go_enter Try.func67, Try.ntmps67
  go_wp2_with (first
    | (refine wpList_box rfl 3 rfl o.cs 67 ?hr ?_; (case hr => first | (go_simp; done) | (go_simp; rfl)); intro g3 w3 hg3 k3 hb3; have K3 := Lib.hid k3; have HB3 := Lib.hid hb3; clear k3 hb3)
    | (refine wpList_box rfl 6 rfl #[.slice none 0 0] 62 ?hr ?_; (case hr => first | (go_simp; done) | (go_simp; rfl)); intro g6 w6 hg6 k6 hb6; have K6 := Lib.hid k6; have HB6 := Lib.hid hb6; have K36 := Lib.hid (blk_below K3.out hb6); clear k6 hb6))
  have hst : St g6 w.heap.size (fun k => k ≠ g3) (leftTo l o 0) w6 := ⟨.slice none 0 0, K6.out, Kd.R_nil _ _ _ _ _⟩
  have HST := Lib.hid hst
  have HW6 := Lib.hid (HB3.out.trans (HB6.out.mono HB3.out.size))
  have HG6 : Hid (w.heap.size ≤ g6) := Lib.hid (by rw [hg6.out]; exact HB3.out.size)
  have HG3 : Hid (w.heap.size ≤ g3 ∧ g3 ≠ g6) := Lib.hid ⟨by rw [hg3.out]; omega, fun e => by have := blk_lt K3.out; have := hg6.out; omega⟩
  clear hst K3 HB3 K6 HB6 hg3 hg6
  go_loopw [11] (fun vk wr => ∃ k : Nat, vk = .int .i64 k ∧ k ≤ l.length ∧ St g6 w.heap.size (fun k => k ≠ g3) (leftTo l o k) wr ∧ Hid (wr.heap[g3]? = some (.cells o.cs 67 (0, 0))) ∧ Below w.heap.size w wr) (fun vk _ => l.length - (intOf vk).toNat)
  case atStart => exact ⟨0, rfl, by omega, HST.out, K36, HW6.out⟩
  case round =>
    obtain ⟨k, rfl, hk, hs, HB3, hw⟩ := hrel
    have HS := Lib.hid hs
    have HW := Lib.hid hw
    clear hs hw HST HW6 K36
    by_cases hlt : k < l.length
    · obtain ⟨ad, rfl, hlies⟩ := rd67 (Kd.C_below HR.out HW.out) hlt
      have HL1 := Lib.hid hlies
      clear hlies
      have q1 : (k : Int) < (l.length : Int) := by omega
      go_wp2_with (first
        | (refine wpList_load_at rfl 67 (.tmp 13) rfl (ad.add (k * 20)) rfl (atB l k).cs _ HL1.out Try.underlying67 rfl info67 ?_)
        | (refine wpList_new rfl rfl 8 rfl 67 (.tmp 14) rfl rfl z67.cs (atB l k).cs ?hr rfl rfl info67 rfl (Bx.all_one _) ?_; (case hr => first | (go_simp; done) | (go_simp; rfl)); intro g8 w8 hg8 k8 hb8; have K8 := Lib.hid k8; have HB8 := Lib.hid hb8; have K38 := Lib.hid (blk_below HB3.out hb8); clear k8 hb8)
        | (refine wpList_load_at rfl 67 (.tmp 8) rfl ⟨g8, 0, none⟩ rfl (atB l k).cs _ (Lies.of_block K8.out) Try.underlying67 rfl info67 ?_)
        | (refine wpList_load_at rfl 67 (.tmp 3) rfl ⟨g3, 0, none⟩ rfl o.cs _ (Lies.of_block K38.out) Try.underlying67 rfl info67 ?_))
      have HLEN := Lib.hid (leftTo_len l o k)
      go_at_call 52
      refine (cut_any (atB l k) o (okB_at HL.out k) HO.out g6 w.heap.size (fun k => k ≠ g3) (leftTo l o k) w8 (fun j hj e => by have := blk_lt K38.out; omega) (HS.out.below HB8.out) HG6.out (Nat.le_trans HW.out.size HB8.out.size) (by have := HLEN.out; omega)).mono ?_
      rintro e w9 ⟨rfl, hs9, hk9, hb9⟩
      have HS9 : Hid (St g6 w.heap.size (fun k => k ≠ g3) (leftTo l o (k + 1)) w9) := Lib.hid hs9
      have K39 : Hid (w9.heap[g3]? = some (.cells o.cs 67 (0, 0))) := Lib.hid ((hk9 g3 (blk_lt K38.out) (fun h => h rfl) HG3.out.2).trans K38.out)
      have HW9 := Lib.hid ((HW.out.trans (HB8.out.mono HW.out.size)).trans hb9)
      clear hs9 hk9 hb9 HS HW K8 HB8 K38 HL1 hg8
      go_wp2_with fail
      go_roundw
      case rel => exact ⟨k + 1, by go_num, by omega, HS9.out, K39, HW9.out⟩
      case measure => simp [intOf] <;> omega
    · obtain rfl : k = l.length := by omega
      obtain ⟨v, hv, hR⟩ := HS.out
      obtain ⟨A1, n1, rfl⟩ := Kd.R_slice hR
      have c1 : wr.cell? ⟨g6, 0, none⟩ = some (.slice A1 (leftTo l o l.length).length n1) := (blk_cell hv 0).trans rfl
      have HV := Lib.hid hv
      have HR2 := Lib.hid hR
      have HLEN := leftTo_len l o l.length
      clear hv hR
      have hq : ((leftTo l o l.length).length : Int) ≤ 128 ↔ (leftL l o).length ≤ 128 := by unfold leftL; omega
      have HQ := Lib.hid hq
      clear hq
      go_wp2_with fail
      go_quiet (fail)
      go_wp2_with fail
      go_ret2
      exact ⟨_, ret_vb (by unfold leftOk leftL; rw [decide_eq_decide]; omega), Kd.R_mono (Kd.R_drewN HR2.out nq) (fun _ _ => trivial), pw_below_drewN HW.out nq⟩
end Go.Proofs.Ytmhjnfkhfjejeaa
namespace Go.Proofs.Ytmhjnfkhfjejeaa
set_option linter.unusedVariables false
set_option linter.unusedSimpArgs false
open Go.RowKit Go.Proofs.YtmhjnfkhfjejeaaW.PrintWords Go.Proofs.YtmhjnfkhfjejeaaW.PrintLast Go.Proofs.YtmhjnfkhfjejeaaW.PrintMore
open PPredCubes
/-- What is left without each of the first k others, all going well. -/
def wTo (l os : List Bx) : Nat → List Bx
  | 0 => l
  | k + 1 => leftL (wTo l os k) (atB os k)
def wOk (l os : List Bx) : Nat → Bool
  | 0 => true
  | k + 1 => wOk l os k && leftOk (wTo l os k) (atB os k)
def withOk (l os : List Bx) : Bool := wOk l os os.length
def withL (l os : List Bx) : List Bx := if withOk l os then wTo l os os.length else []
theorem wTo_ok {l os : List Bx} (h : okB l) (k : Nat) : okB (wTo l os k) := by
  induction k with
  | zero => exact h
  | succ k ih => exact leftTo_ok ih _
theorem wOk_len {l os : List Bx} (h : l.length ≤ 1000000) (k : Nat) (hk : wOk l os k = true) : (wTo l os k).length ≤ 1000000 := by
  cases k with
  | zero => exact h
  | succ k =>
    simp only [wOk, Bool.and_eq_true] at hk
    have := of_decide_eq_true hk.2
    simp only [wTo]; omega
theorem wOk_mono {l os : List Bx} (k : Nat) (h : wOk l os k = false) (j : Nat) : wOk l os (k + j) = false := by
  induction j with
  | zero => exact h
  | succ j ih => show (wOk l os (k + j) && _) = false; rw [ih]; rfl
theorem withOk_false {l os : List Bx} {k : Nat} (h : wOk l os k = false) (hk : k ≤ os.length) : withOk l os = false := by
  have := wOk_mono k h (os.length - k)
  rwa [show k + (os.length - k) = os.length by omega] at this
theorem withL_no {l os : List Bx} (h : withOk l os = false) : withL l os = [] := by unfold withL; rw [h]; rfl
theorem withL_yes {l os : List Bx} (h : withOk l os = true) : withL l os = wTo l os os.length := by unfold withL; rw [h]; rfl
theorem withL_ok {l os : List Bx} (h : okB l) : okB (withL l os) := by
  unfold withL; split
  · exact wTo_ok h _
  · intro x hx; simp at hx

set_option maxHeartbeats 4000000 in
set_option maxRecDepth 100000 in
theorem without_any (P : Nat → Prop) (A A1 : Option Addr) (c c1 : Nat) (l os : List Bx) (hl : okB l) (ho : okB os) (hn : l.length ≤ 1000000) (hm : os.length ≤ 1000000) (w : World)
    (hV : Kd.V k67 67 w w.heap.size P (.slice A l.length c) l) (hr : k67.C w A1 os.length os) :
    Calls Try.prog 66 #[.slice A l.length c, .slice A1 os.length c1] w fun e w' => ∃ v, e = .returned (.tuple #[v, .bool (withOk l os)]) ∧ Kd.V k67 67 w' w.heap.size (fun k => P k ∨ w.heap.size ≤ k) v (withL l os) ∧ Below w.heap.size w w' := by
  have HR := Lib.hid hr
  have HL := Lib.hid hl
  have HO := Lib.hid ho
  have HV : Hid (Kd.V k67 67 w w.heap.size (fun k => P k ∨ w.heap.size ≤ k) (.slice A l.length c) (wTo l os 0)) := Lib.hid (Kd.V_mono hV (fun k h => .inl h))
  clear hr hl ho hV
  go_enter Try.func66, Try.ntmps66
  go_wp2_with fail
  go_loopw [0, 11] (fun v0 vk wr => ∃ k : Nat, vk = .int .i64 k ∧ k ≤ os.length ∧ Hid (wOk l os k = true) ∧ Hid (Kd.V k67 67 wr w.heap.size (fun k => P k ∨ w.heap.size ≤ k) v0 (wTo l os k)) ∧ Below w.heap.size w wr) (fun _ vk _ => os.length - (intOf vk).toNat)
  case atStart => exact ⟨0, rfl, by omega, Lib.hid rfl, HV, Below.refl _ _⟩
  case round =>
    obtain ⟨k, rfl, hk, HK, HV1, hw⟩ := hrel
    have HW := Lib.hid hw
    clear hw HV
    by_cases hlt : k < os.length
    · obtain ⟨ad, rfl, hlies⟩ := rd67 (Kd.C_below HR.out HW.out) hlt
      have HL1 := Lib.hid hlies
      clear hlies
      obtain ⟨A2, c2, e2⟩ := Kd.V_slice HV1.out
      subst e2
      have q1 : (k : Int) < (os.length : Int) := by omega
      go_wp2_with (first
        | (refine wpList_load_at rfl 67 (.tmp 13) rfl (ad.add (k * 20)) rfl (atB os k).cs _ HL1.out Try.underlying67 rfl info67 ?_)
        | (refine wpList_new rfl rfl 8 rfl 67 (.tmp 14) rfl rfl z67.cs (atB os k).cs ?hr rfl rfl info67 rfl (Bx.all_one _) ?_; (case hr => first | (go_simp; done) | (go_simp; rfl)); intro g8 w8 hg8 k8 hb8; have K8 := Lib.hid k8; have HB8 := Lib.hid hb8; clear k8 hb8)
        | (refine wpList_load_at rfl 67 (.tmp 8) rfl ⟨g8, 0, none⟩ rfl (atB os k).cs _ (Lies.of_block K8.out) Try.underlying67 rfl info67 ?_))
      go_at_call 67
      refine (left_any A2 c2 (wTo l os k) (atB os k) (wTo_ok HL.out k) (okB_at HO.out k) (wOk_len hn k HK.out) w8 (Kd.C_below (Kd.V_reads' HV1.out).2.2 HB8.out)).mono ?_
      rintro e w9 ⟨v9, rfl, hr9, hb9⟩
      have HW9 := Lib.hid ((HW.out.trans (HB8.out.mono HW.out.size)).trans (hb9.mono (Nat.le_trans HW.out.size HB8.out.size)))
      have HV9 : Hid (Kd.V k67 67 w9 w.heap.size (fun k => P k ∨ w.heap.size ≤ k) v9 (wTo l os (k + 1))) := Lib.hid (Kd.V_mono (Kd.R_V (Kd.R_bound hr9)) (fun j hj => .inr (Nat.le_trans (Nat.le_trans HW.out.size HB8.out.size) hj.2.1)))
      clear hr9 hb9 HV1 HB8 K8 HL1 hg8 HW
      cases hq : leftOk (wTo l os k) (atB os k) with
      | true =>
        have HK2 : Hid (wOk l os (k + 1) = true) := Lib.hid (by simp only [wOk]; rw [HK.out, hq]; rfl)
        clear hq
        go_wp2_with fail
        go_roundw
        case rel => exact ⟨k + 1, by go_num, by omega, HK2, HV9, HW9.out⟩
        case measure => simp [intOf] <;> omega
      | false =>
        have HK2 : Hid (withOk l os = false) := Lib.hid (withOk_false (k := k + 1) (by simp only [wOk]; rw [HK.out, hq]; rfl) hlt)
        clear hq
        go_wp2_with fail
        go_ret2
        exact ⟨_, ret_vb HK2.out.symm, by rw [withL_no HK2.out]; exact Kd.V_nil _ _ _ _ _, HW9.out⟩
    · obtain rfl : k = os.length := by omega
      go_wp2_with fail
      go_ret2
      exact ⟨_, ret_vb HK.out.symm, by rw [withL_yes HK.out]; exact HV1.out, HW.out⟩
end Go.Proofs.Ytmhjnfkhfjejeaa
