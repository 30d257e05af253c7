import Derived.Test.YtmhjnfkhfjejeaaZ1G6
namespace Go.Proofs.Ytmhjnfkhfjejeaa
set_option linter.unusedVariables false
set_option linter.unusedSimpArgs false
open PPredCubes
/-! ### Plain laws on boxes: which values are in one -/
theorem teq {a b : Nat} : a = b ↔ ∀ k, a.testBit k = b.testBit k := ⟨fun h k => by rw [h], fun h => Nat.eq_of_testBit_eq h⟩
/-- A box that asks no value bit that it does not ask at all, and nothing of field 0. -/
structure Nb (b : Bx) : Prop where
  ok : b.ok
  sub : ∀ i k, (b.v i).testBit k = true → (b.m i).testBit k = true
  m0 : b.m 0 = 0
theorem Nb.v0 {b : Bx} (h : Nb b) : b.v 0 = 0 := by
  rw [teq]; intro k
  cases hk : (b.v 0).testBit k with
  | false => simp
  | true => have := h.sub 0 k hk; rw [h.m0] at this; simp at this
theorem Nb_z : Nb z67 := ⟨z67_ok, fun i k h => by simp [z67] at h, rfl⟩
theorem meetB_iff (b o : Bx) : meetB b o = true ↔ ∀ i, i < 10 → ∀ k, ((b.v i).testBit k && ((b.m i).testBit k && (o.m i).testBit k)) = ((o.v i).testBit k && ((b.m i).testBit k && (o.m i).testBit k)) := by
  unfold meetB
  rw [sameA_iff]
  constructor
  · intro h i hi k
    have := h i hi
    unfold andTo at this
    rw [if_pos hi, if_pos hi] at this
    have h2 := teq.1 this k
    simpa [Nat.testBit_and] using h2
  · intro h i hi
    unfold andTo
    rw [if_pos hi, if_pos hi, teq]
    intro k
    simpa [Nat.testBit_and] using h i hi k
theorem meetX_m (b o : Bx) {i : Nat} (h : i < 10) : (meetX b o).m i = b.m i ||| o.m i := by show (if i < 10 then _ else _) = _; rw [if_pos h]
theorem meetX_v (b o : Bx) {i : Nat} (h : i < 10) : (meetX b o).v i = b.v i ||| o.v i := by show (if i < 10 then _ else _) = _; rw [if_pos h]
theorem Nb_meet {b o : Bx} (hb : Nb b) (ho : Nb o) : Nb (meetX b o) := by
  refine ⟨meetX_ok hb.ok ho.ok, fun i k => ?_, ?_⟩
  · show (if i < 10 then _ else _ : Nat).testBit k = true → (if i < 10 then _ else _ : Nat).testBit k = true
    split
    · rw [Nat.testBit_or, Nat.testBit_or, Bool.or_eq_true, Bool.or_eq_true]
      rintro (h | h)
      · exact .inl (hb.sub i k h)
      · exact .inr (ho.sub i k h)
    · exact hb.sub i k
  · rw [meetX_m _ _ (by omega), hb.m0, ho.m0]; rfl
/-! ### What is picked of a box is in it -/
/-! ### What is left of a box without another one -/
theorem tb_or_pow (a n k : Nat) : (a ||| 2 ^ n).testBit k = (a.testBit k || decide (n = k)) := by rw [Nat.testBit_or, Nat.testBit_two_pow]
theorem tb_and_pow (a n k : Nat) : (a &&& 2 ^ n).testBit k = (a.testBit k && decide (n = k)) := by rw [Nat.testBit_and, Nat.testBit_two_pow]
theorem tb_not (a n : Nat) (ha : a < 18446744073709551616) (hn : n < 64) : (18446744073709551615 - a).testBit n = !a.testBit n := by
  have h2 : 18446744073709551615 - a = 2 ^ 64 - (a + 1) := by omega
  rw [h2, Nat.testBit_two_pow_sub_succ (by omega)]
  simp [hn]
theorem Nb_piece {b o : Bx} (hb : Nb b) {f n : Nat} (hf : 1 ≤ f) (hn : n < 64) : Nb (pieceOf b o f (2 ^ n)) := by
  have h64 : 2 ^ n < 18446744073709551616 := Nat.pow_lt_pow_right (n := 64) (by omega) hn
  refine ⟨pieceOf_ok hb.ok h64, fun i k => ?_, ?_⟩
  · show (if i = f then _ else _ : Nat).testBit k = true → (if i = f then _ else _ : Nat).testBit k = true
    split
    · rw [Nat.testBit_or, Nat.testBit_or, Nat.testBit_and, Bool.or_eq_true, Bool.or_eq_true, Bool.and_eq_true]
      rintro (h | h)
      · exact .inl (hb.sub f k h)
      · exact .inr h.2
    · exact hb.sub i k
  · show (if 0 = f then _ else _) = 0
    rw [if_neg (by omega)]; exact hb.m0
theorem Nb_next {b o : Bx} (hb : Nb b) {f n : Nat} (hf : 1 ≤ f) (hn : n < 64) : Nb (nextOf b o f (2 ^ n)) := by
  have h64 : 2 ^ n < 18446744073709551616 := Nat.pow_lt_pow_right (n := 64) (by omega) hn
  refine ⟨nextOf_ok hb.ok h64, fun i k => ?_, ?_⟩
  · show (if i = f then _ else _ : Nat).testBit k = true → (if i = f then _ else _ : Nat).testBit k = true
    split
    · rw [Nat.testBit_or, Nat.testBit_or, Nat.testBit_and, Bool.or_eq_true, Bool.or_eq_true, Bool.and_eq_true]
      rintro (h | h)
      · exact .inl (hb.sub f k h)
      · exact .inr h.2
    · exact hb.sub i k
  · show (if 0 = f then _ else _) = 0
    rw [if_neg (by omega)]; exact hb.m0
theorem cutBits_Nb (o : Bx) (f : Nat) (hf : 1 ≤ f) (n : Nat) (hn : n ≤ 64) : ∀ (b : Bx) (l : Nat), Nb b → (∀ p ∈ (cutBits o f n b l).1, Nb p) ∧ Nb (cutBits o f n b l).2 := by
  induction n with
  | zero => intro b l hb; exact ⟨fun p hp => by simp [cutBits] at hp, hb⟩
  | succ n ih =>
    intro b l hb
    simp only [cutBits]
    split
    · obtain ⟨h1, h2⟩ := ih (by omega) (nextOf b o f (2 ^ n)) l (Nb_next hb hf (by omega))
      refine ⟨fun p hp => ?_, h2⟩
      rcases List.mem_cons.1 hp with rfl | hp
      · exact Nb_piece hb hf (by omega)
      · exact h1 p hp
    · exact ih (by omega) b l hb
theorem leftOf_bit {b o : Bx} (hb : b.ok) (f k : Nat) (hk : k < 64) : (leftOf b o f).testBit k = ((o.m f).testBit k && !(b.m f).testBit k) := by
  unfold leftOf; rw [Nat.testBit_and, tb_not _ _ (hb f).1 hk]
end Go.Proofs.Ytmhjnfkhfjejeaa
