import Derived.Test.YteilgnjjfebogaaF
namespace Go.Proofs.Yteilgnjjfebogaa
set_option linter.unusedVariables false
set_option linter.unusedSimpArgs false
open Ieee

/-! ### The laws of the order -/
theorem fO_eq (a b : Nat) : fO a b = if nanB a = true ∨ nanB b = true then none else some (compare (kz a) (kz b)) := order_eq a b

/-- The reference's key of a word. -/
theorem keyI_nat (a : Nat) (h : a < 18446744073709551616) : keyI a = if nanB a then 9223372036854775807 else kz a := by
  unfold keyI nanB kz negB rung
  by_cases h1 : a % 9223372036854775808 > 9218868437227405312
  · have hd : decide (a % 9223372036854775808 > 9218868437227405312) = true := decide_eq_true h1
    rw [hd, if_pos (by omega), if_pos rfl]
  · have hd : decide (a % 9223372036854775808 > 9218868437227405312) = false := decide_eq_false h1
    rw [hd, if_neg (by omega)]
    simp only [Bool.false_eq_true, if_false, beq_iff_eq]
    by_cases h2 : a ≥ 9223372036854775808
    · rw [if_pos (by omega), if_pos (by omega)]; omega
    · rw [if_neg (by omega), if_neg (by omega)]; omega

theorem kz_bd (a : Nat) (h : nanB a = false) : -9218868437227405312 ≤ kz a ∧ kz a ≤ 9218868437227405312 := by
  unfold nanB at h
  have := of_decide_eq_false h
  unfold kz
  split <;> omega

theorem lessB_key (a b : Nat) (ha : a < 18446744073709551616) (hb : b < 18446744073709551616) : lessB a b = decide (keyI a < keyI b) := by
  rw [keyI_nat a ha, keyI_nat b hb]
  unfold lessB
  rw [fO_eq, fO_eq, fO_eq]
  cases h1 : nanB a <;> cases h2 : nanB b
  · have k1 := kz_bd a h1
    have k2 := kz_bd b h2
    simp only [Bool.false_eq_true, or_self, if_false]
    rcases Int.lt_trichotomy (kz a) (kz b) with h | h | h
    · rw [Int.compare_eq_lt.2 h]; simp [h]
    · rw [h]; simp
    · rw [Int.compare_eq_gt.2 h]; simp; omega
  · have k1 := kz_bd a h1
    have k3 : kz a < 9223372036854775807 := by omega
    simp only [Bool.false_eq_true, or_true, or_self, if_true, if_false]
    rw [Int.compare_eq_eq.2 rfl]
    simp [k3]
  · have k2 := kz_bd b h2
    simp; omega
  · simp

theorem rightB_iff (a : Nat) (ha : a < 18446744073709551616) : rightB a = rrightB a := by
  unfold rightB infB rrightB
  rw [fO_eq, fO_eq]
  have h0 : nanB 0 = false := by decide
  have hm : nanB 9218868437227405311 = false := by decide
  have k0 : kz 0 = 0 := by decide
  have km : kz 9218868437227405311 = 9218868437227405311 := by decide
  rw [h0, hm, k0, km]
  cases h1 : nanB a
  · simp only [Bool.false_eq_true, or_self, if_false]
    have e : kz a = if a ≥ 9223372036854775808 then -((a : Int) - 9223372036854775808) else a := by
      unfold kz negB rung
      simp only [beq_iff_eq]
      by_cases h2 : a ≥ 9223372036854775808
      · rw [if_pos h2, if_pos (by omega)]; omega
      · rw [if_neg h2, if_neg (by omega)]; omega
    have e1 : (some (compare (kz a) 0) == some Ordering.gt || some (compare (kz a) 0) == some Ordering.eq) = decide (0 ≤ kz a) := by
      rcases Int.lt_trichotomy (kz a) 0 with h | h | h
      · rw [Int.compare_eq_lt.2 h]; simp; omega
      · rw [h]; rfl
      · rw [Int.compare_eq_gt.2 h]; simp; omega
    have e2 : (some (compare (kz a) 9218868437227405311) == some Ordering.gt) = decide (9218868437227405311 < kz a) := by
      rcases Int.lt_trichotomy (kz a) 9218868437227405311 with h | h | h
      · rw [Int.compare_eq_lt.2 h]; simp; omega
      · rw [h]; rfl
      · rw [Int.compare_eq_gt.2 h]; simp; omega
    rw [e1, e2, e, Bool.eq_iff_iff]
    simp only [Bool.and_eq_true, decide_eq_true_eq, Bool.not_eq_true', decide_eq_false_iff_not, Bool.or_eq_true, beq_iff_eq]
    split <;> omega
  · have h2 : rung a > 9218868437227405312 := by simpa [nanB] using h1
    unfold rung at h2
    simp; omega

/-! ### The sum -/
theorem right_fin {a : Nat} (ha : a < 18446744073709551616) (h : rightB a = true) : rung a < 9218868437227405312 ∧ (negB a = true → rung a = 0) := by
  rw [rightB_iff a ha] at h
  unfold rrightB at h
  simp only [Bool.or_eq_true, decide_eq_true_eq, beq_iff_eq] at h
  unfold rung negB
  simp only [beq_iff_eq]
  omega

theorem mag_eq (a p : Nat) (h : p ≤ pR (rung a)) : (mR (rung a) * 2 ^ (pR (rung a) - p)) * 2 ^ p = vR (rung a) := by
  rw [vR_mp, Nat.mul_assoc, ← Nat.pow_add]; congr 2; omega

theorem signed_nonneg (a k : Nat) (h : negB a = true → rung a = 0) : signed (negB a) (mR (rung a)) k = ((mR (rung a) * 2 ^ k : Nat) : Int) := by
  rw [signed_eq]
  cases hn : negB a
  · simp
  · rw [h hn]; simp [mR]

theorem add_right {a b : Nat} (ha : a < 18446744073709551616) (hb : b < 18446744073709551616) (ra : rightB a = true) (rb : rightB b = true) :
    double.add a b = some (if vR (rung a) + vR (rung b) = 0 then (if negB a && negB b then 9223372036854775808 else 0) else rnd (vR (rung a) + vR (rung b))) := by
  obtain ⟨fa, na⟩ := right_fin ha ra
  obtain ⟨fb, nb⟩ := right_fin hb rb
  unfold Format.add
  rw [read_fin fa, read_fin fb]
  simp only [Datum.sum, Option.map_some, Option.some.injEq]
  obtain ⟨p, hp⟩ : ∃ p, p = min (pR (rung a)) (pR (rung b)) := ⟨_, rfl⟩
  have hm : min (-1074 + (pR (rung a) : Int)) (-1074 + (pR (rung b) : Int)) = -1074 + (p : Int) := by omega
  rw [hm]
  have h1 : (-1074 + (pR (rung a) : Int) - (-1074 + (p : Int))).toNat = pR (rung a) - p := by omega
  have h2 : (-1074 + (pR (rung b) : Int) - (-1074 + (p : Int))).toNat = pR (rung b) - p := by omega
  rw [h1, h2, signed_nonneg a _ na, signed_nonneg b _ nb]
  obtain ⟨N, hN⟩ : ∃ N, N = mR (rung a) * 2 ^ (pR (rung a) - p) + mR (rung b) * 2 ^ (pR (rung b) - p) := ⟨_, rfl⟩
  have hsum : ((mR (rung a) * 2 ^ (pR (rung a) - p) : Nat) : Int) + ((mR (rung b) * 2 ^ (pR (rung b) - p) : Nat) : Int) = (N : Int) := by rw [hN]; exact_mod_cast rfl
  have hV : N * 2 ^ p = vR (rung a) + vR (rung b) := by rw [hN, Nat.add_mul, mag_eq _ _ (by omega), mag_eq _ _ (by omega)]
  rw [hsum, ← hV]
  by_cases h0 : N = 0
  · rw [h0]
    simp only [Int.natCast_zero, if_true, Nat.zero_mul, Format.write]
    unfold Format.nearest
    simp only [Int.natAbs_zero, if_true, Format.word, dbl_sw]
  · rw [if_neg (by omega), if_neg (by have := Nat.two_pow_pos p; exact Nat.mul_ne_zero h0 (by omega))]
    have hd : decide ((N : Int) < 0) = false := by simp
    rw [hd, Int.natAbs_natCast]
    exact nearest_rnd N p h0

theorem kz_rnd (V : Nat) : nanB (rnd V) = false ∧ kz (rnd V) = rnd V ∧ rung (rnd V) = rnd V ∧ negB (rnd V) = false := by
  have h := rnd_le V
  have e : rung (rnd V) = rnd V := by unfold rung; omega
  have en : negB (rnd V) = false := by unfold negB; simp; omega
  refine ⟨?_, ?_, e, en⟩
  · unfold nanB; rw [e]; simp; omega
  · unfold kz; rw [e, en]; simp

theorem add_some {a b : Nat} (ha : a < 18446744073709551616) (hb : b < 18446744073709551616) (ra : rightB a = true) (rb : rightB b = true) : double.add a b = some (sumN a b) := by
  unfold sumN
  have := add_right ha hb ra rb
  show _ = some ((double.add a b).getD 0)
  rw [this]; rfl

theorem addN_eq {a b : Nat} (ha : a < 18446744073709551616) (hb : b < 18446744073709551616) :
    addN a b = if rightB a = true ∧ rightB b = true then rnd (vR (rung a) + vR (rung b)) else 9218868437227405312 := by
  unfold addN
  by_cases hr : rightB a = true ∧ rightB b = true
  · rw [if_pos (by simp [hr]), if_pos hr]
    have hs : sumN a b = if vR (rung a) + vR (rung b) = 0 then (if negB a && negB b then 9223372036854775808 else 0) else rnd (vR (rung a) + vR (rung b)) := by
      have h1 := add_some ha hb hr.1 hr.2
      rw [add_right ha hb hr.1 hr.2] at h1
      exact (Option.some.inj h1).symm
    rw [hs, fO_eq]
    have h0 : nanB 0 = false := by decide
    have k0 : kz 0 = 0 := by decide
    rw [h0, k0]
    by_cases hv : vR (rung a) + vR (rung b) = 0
    · rw [if_pos hv, hv]
      have : rnd 0 = 0 := by decide
      rw [this]
      cases (negB a && negB b) <;> decide
    · rw [if_neg hv]
      obtain ⟨k1, k2, _, _⟩ := kz_rnd (vR (rung a) + vR (rung b))
      have hp := rnd_pos (V := vR (rung a) + vR (rung b)) (by omega)
      rw [k1, k2]
      have : compare ((rnd (vR (rung a) + vR (rung b)) : Nat) : Int) 0 = .gt := Int.compare_eq_gt.2 (by omega)
      simp [this]
  · rw [if_neg (by simpa using hr), if_neg hr]

theorem addN_lt {a b : Nat} (ha : a < 18446744073709551616) (hb : b < 18446744073709551616) : addN a b ≤ 9218868437227405312 := by
  rw [addN_eq ha hb]
  split
  · exact rnd_le _
  · omega

/-! ### The reference's sum, by digits that keep in their last one what was lost -/
def jam (X k : Nat) : Nat := X / 2 ^ k + if X % 2 ^ k ≠ 0 ∧ X / 2 ^ k % 2 = 0 then 1 else 0

theorem jam_jam (X a : Nat) : jam (jam X a) 1 = jam X (a + 1) := by
  have hd : X / 2 ^ (a + 1) = X / 2 ^ a / 2 := by rw [Nat.pow_succ, Nat.div_div_eq_div_mul]
  have hm : X % 2 ^ (a + 1) = X % 2 ^ a + 2 ^ a * (X / 2 ^ a % 2) := by rw [Nat.pow_succ]; exact Nat.mod_mul
  have hp := Nat.two_pow_pos a
  unfold jam
  rw [hd, hm]
  generalize X / 2 ^ a = q
  have hlt : X % 2 ^ a < 2 ^ a := Nat.mod_lt _ hp
  generalize X % 2 ^ a = r at *
  generalize 2 ^ a = P at *
  simp only [Nat.pow_one]
  have hc : q % 2 = 0 ∨ q % 2 = 1 := by omega
  rcases hc with h | h
  · rw [h, Nat.mul_zero, Nat.add_zero]
    (repeat' split) <;> omega
  · rw [h, Nat.mul_one]
    (repeat' split) <;> omega

theorem rhe_jam (X a : Nat) : rhe (jam X a) 10 = rhe X (a + 10) := by
  have hd : X / 2 ^ (a + 10) = X / 2 ^ a / 1024 := by rw [Nat.pow_add, Nat.div_div_eq_div_mul]
  have hm : X % 2 ^ (a + 10) = X % 2 ^ a + 2 ^ a * (X / 2 ^ a % 1024) := by rw [Nat.pow_add]; exact Nat.mod_mul
  have hw : (2 : Nat) ^ (a + 10) = 2 ^ a * 1024 := by rw [Nat.pow_add]
  have hp := Nat.two_pow_pos a
  unfold jam rhe
  rw [hd, hm, hw]
  generalize X / 2 ^ a = q
  have hlt : X % 2 ^ a < 2 ^ a := Nat.mod_lt _ hp
  generalize X % 2 ^ a = r at *
  generalize 2 ^ a = P at *
  have h10 : (2 : Nat) ^ 10 = 1024 := rfl
  rw [h10]
  obtain ⟨t, ht⟩ : ∃ t, t = q % 1024 := ⟨_, rfl⟩
  rw [← ht]
  obtain ⟨Y, hY⟩ : ∃ Y, Y = P * t := ⟨_, rfl⟩
  rw [← hY]
  rcases Nat.lt_trichotomy t 512 with h | h | h
  · have h1 : Y ≤ P * 511 := by rw [hY]; exact Nat.mul_le_mul_left _ (by omega)
    (repeat' split) <;> omega
  · have h1 : Y = P * 512 := by rw [hY, h]
    (repeat' split) <;> omega
  · have h1 : P * 513 ≤ Y := by rw [hY]; exact Nat.mul_le_mul_left _ (by omega)
    (repeat' split) <;> omega

theorem down_jam (x d : Nat) (hx : x < 18446744073709551616) : downI (x : Int) (d : Int) = (jam x d : Nat) := by
  unfold downI jam
  by_cases hd : 63 < d
  · rw [if_pos (by omega)]
    have hp : (18446744073709551616 : Nat) ≤ 2 ^ d := by
      calc (18446744073709551616 : Nat) = 2 ^ 64 := rfl
        _ ≤ _ := Nat.pow_le_pow_right (by omega) (by omega)
    rw [Nat.div_eq_of_lt (by omega), Nat.mod_eq_of_lt (by omega)]
    split <;> split <;> omega
  · rw [if_neg (by omega), Int.toNat_natCast]
    have e : (x : Int) / 2 ^ d = ((x / 2 ^ d : Nat) : Int) := by
      rw [Int.natCast_ediv]; congr 1
    have hm := Nat.div_add_mod x (2 ^ d)
    rw [e]
    have e2 : ((x / 2 ^ d : Nat) : Int) * 2 ^ d = ((x / 2 ^ d * 2 ^ d : Nat) : Int) := by rw [Int.natCast_mul]; congr 1
    rw [e2]
    rw [Nat.mul_comm] at hm
    generalize x / 2 ^ d * 2 ^ d = z at *
    generalize x / 2 ^ d = q at *
    split <;> split <;> omega

theorem wholeM_nat (a : Nat) (h : rung a < 9223372036854775808) : wholeM a = (mR (rung a) : Nat) := by
  unfold wholeM mR rung at *
  split <;> split <;> omega
theorem wholeE_nat (a : Nat) : wholeE a = ((pR (rung a) + 1 : Nat) : Int) := by
  unfold wholeE pR rung at *
  split <;> split <;> omega

theorem mR_bd (r : Nat) : mR r < 9007199254740992 ∧ (0 < pR r → 4503599627370496 ≤ mR r) ∧ (4503599627370496 ≤ r → 4503599627370496 ≤ mR r) := by
  unfold mR pR
  refine ⟨?_, ?_, ?_⟩ <;> (repeat' split) <;> omega

theorem raddQ_nat (s : Nat) : raddQ s = (rhe s 10 : Nat) := by
  unfold raddQ rhe
  have h10 : (2 : Nat) ^ 10 = 1024 := rfl
  rw [h10]
  (repeat' split) <;> omega

theorem raddO_nat (s E : Nat) : raddO s ((E + 1 : Nat) : Int) = (min (E * 4503599627370496 + rhe s 10) 9218868437227405312 : Nat) := by
  unfold raddO
  rw [raddQ_nat]
  split <;> omega

/-- V, its digits X ahead of the rounding, and the place of its last digit. -/
theorem rnd_of (V X f D E : Nat) (hVX : V * 1024 = X * 2 ^ f) (hE : E + 10 = (D + 10) + f) (h1 : V < 2 ^ (53 + E)) (h2 : E = 0 ∨ 2 ^ (52 + E) ≤ V) :
    rnd V = min (E * 4503599627370496 + rhe (jam X D) 10) 9218868437227405312 := by
  have e1 : rhe V E = rhe (jam X D) 10 := by
    rw [rhe_jam, ← rhe_scale V 10 E, show V * 2 ^ 10 = X * 2 ^ f from hVX, hE, rhe_scale]
  by_cases hv : V = 0
  · subst hv
    have hE0 : E = 0 := by
      rcases h2 with h2 | h2
      · exact h2
      · have h3 := Nat.two_pow_pos (52 + E); exact absurd h3 (Nat.not_lt.2 h2)
    subst hE0
    rw [← e1]; simp [rnd, rhe_zero]
  · unfold rnd
    rw [if_neg hv]
    have hl : V.log2 - 52 = E := by
      have l1 : V.log2 < 53 + E := (Nat.log2_lt hv).2 h1
      rcases h2 with h2 | h2
      · omega
      · have := (Nat.le_log2 hv).2 h2; omega
    rw [hl, e1]

theorem raddT_rnd (m n p k : Nat) (hpk : k ≤ p) (hm : m < 9007199254740992) (hn : n < 9007199254740992) (hp : 0 < p → 4503599627370496 ≤ m) :
    raddT m n ((p + 1 : Nat) : Int) ((k + 1 : Nat) : Int) = (rnd (m * 2 ^ p + n * 2 ^ k) : Nat) := by
  obtain ⟨d, hd⟩ : ∃ d, p = k + d := ⟨p - k, by omega⟩
  subst hd
  have hdk : ((k + d + 1 : Nat) : Int) - ((k + 1 : Nat) : Int) = (d : Int) := by omega
  have hn10 : (n : Int) * 1024 = ((n * 1024 : Nat) : Int) := by omega
  have hS : raddS m n ((k + d + 1 : Nat) : Int) ((k + 1 : Nat) : Int) = (jam (m * 1024 * 2 ^ d + n * 1024) d : Nat) := by
    unfold raddS
    rw [hdk, hn10, down_jam _ _ (by omega)]
    have hp := Nat.two_pow_pos d
    unfold jam
    rw [Nat.add_comm (m * 1024 * 2 ^ d), Nat.add_mul_div_right _ _ hp, Nat.add_mul_mod_self_right]
    generalize n * 1024 / 2 ^ d = q
    split <;> split <;> omega
  have hX : (m * 2 ^ (k + d) + n * 2 ^ k) * 1024 = (m * 1024 * 2 ^ d + n * 1024) * 2 ^ k := by
    rw [Nat.pow_add, Nat.add_mul, Nat.add_mul]
    generalize 2 ^ k = A
    generalize 2 ^ d = B
    congr 1
    · ac_rfl
    · ac_rfl
  obtain ⟨X, hXd⟩ : ∃ X, X = m * 1024 * 2 ^ d + n * 1024 := ⟨_, rfl⟩
  obtain ⟨V, hV⟩ : ∃ V, V = m * 2 ^ (k + d) + n * 2 ^ k := ⟨_, rfl⟩
  rw [← hXd] at hS hX
  rw [← hV] at hX ⊢
  -- how great X is
  have hpd := Nat.two_pow_pos d
  have hpk := Nat.two_pow_pos k
  have hkd : 2 ^ k ≤ 2 ^ (k + d) := Nat.pow_le_pow_right (by omega) (by omega)
  have hVlt : V < 2 ^ (54 + (k + d)) := by
    rw [hV, Nat.pow_add 2 54 (k + d)]
    have g1 : m * 2 ^ (k + d) ≤ 9007199254740991 * 2 ^ (k + d) := Nat.mul_le_mul_right _ (by omega)
    have g2 : n * 2 ^ k ≤ 9007199254740991 * 2 ^ (k + d) := Nat.mul_le_mul (by omega) hkd
    have g3 : (2 : Nat) ^ 54 = 18014398509481984 := rfl
    rw [g3]; have := Nat.two_pow_pos (k + d); omega
  have hVge : 0 < k + d → 2 ^ (52 + (k + d)) ≤ V := fun h => by
    rw [hV, Nat.pow_add 2 52 (k + d)]
    have g3 : (2 : Nat) ^ 52 = 4503599627370496 := rfl
    rw [g3]
    have := Nat.mul_le_mul_right (2 ^ (k + d)) (hp h)
    omega
  have e53 : (2 : Nat) ^ (53 + (k + d)) * 1024 = 9223372036854775808 * 2 ^ d * 2 ^ k := by
    rw [Nat.pow_add 2 53 (k + d), Nat.pow_add 2 k d]
    have g3 : (2 : Nat) ^ 53 = 9007199254740992 := rfl
    have g4 : (9223372036854775808 : Nat) = 9007199254740992 * 1024 := rfl
    rw [g3, g4]
    generalize 2 ^ k = A
    generalize 2 ^ d = B
    ac_rfl
  have hside : V < 2 ^ (53 + (k + d)) ↔ X / 2 ^ d < 9223372036854775808 := by
    rw [Nat.div_lt_iff_lt_mul hpd]
    constructor
    · intro h
      have : V * 1024 < 2 ^ (53 + (k + d)) * 1024 := by omega
      rw [hX, e53] at this
      exact Nat.lt_of_mul_lt_mul_right this
    · intro h
      have : X * 2 ^ k < 9223372036854775808 * 2 ^ d * 2 ^ k := Nat.mul_lt_mul_of_pos_right h hpk
      rw [← hX, ← e53] at this
      omega
  have hjam : jam X d < 9223372036854775808 ↔ X / 2 ^ d < 9223372036854775808 := by
    unfold jam; split <;> omega
  have hjlt : jam X d < 18446744073709551616 := by
    have : X / 2 ^ d < 18446744073709551614 := by
      rw [Nat.div_lt_iff_lt_mul hpd, hXd]
      have g1 : m * 1024 * 2 ^ d ≤ 9223372036854774784 * 2 ^ d := Nat.mul_le_mul_right _ (by omega)
      have g2 : n * 1024 ≤ 9223372036854774784 * 2 ^ d := Nat.le_trans (by omega) (Nat.le_mul_of_pos_right _ hpd)
      omega
    unfold jam; split <;> omega
  unfold raddT
  rw [hS]
  by_cases hc : jam X d < 9223372036854775808
  · rw [if_neg (by omega), raddO_nat]
    have := rnd_of V X k d (k + d) hX (by omega) (hside.2 (hjam.1 hc)) (by rcases Nat.eq_zero_or_pos (k + d) with h | h; exact .inl h; exact .inr (hVge h))
    rw [this]
  · rw [if_pos (by omega)]
    have h1 : downI ((jam X d : Nat) : Int) 1 = (jam X (d + 1) : Nat) := by
      have := down_jam (jam X d) 1 hjlt
      rw [jam_jam] at this
      exact this
    have h2 : ((k + d + 1 : Nat) : Int) + 1 = ((k + d + 1 + 1 : Nat) : Int) := by omega
    rw [h1, h2, raddO_nat]
    have h3 : ¬ V < 2 ^ (53 + (k + d)) := fun h => hc (hjam.2 (hside.1 h))
    have := rnd_of V X k (d + 1) (k + d + 1) hX (by omega) (by rw [show 53 + (k + d + 1) = 54 + (k + d) by omega]; exact hVlt) (.inr (by rw [show 52 + (k + d + 1) = 53 + (k + d) by omega]; omega))
    rw [this]

theorem pR_mono {r s : Nat} (h : ¬ pR r < pR s) : pR s ≤ pR r := by omega

/-- THE SUM, TO THE LAST BIT: the reference's is the program's. -/
theorem radd_eq (a b : Nat) (ha : a < 18446744073709551616) (hb : b < 18446744073709551616) : raddI a b = (addN a b : Nat) := by
  rw [addN_eq ha hb]
  unfold raddI
  rw [← rightB_iff a ha, ← rightB_iff b hb]
  by_cases hr : rightB a = true ∧ rightB b = true
  · rw [if_pos hr, if_pos hr]
    obtain ⟨fa, na⟩ := right_fin ha hr.1
    obtain ⟨fb, nb⟩ := right_fin hb hr.2
    obtain ⟨ma, mpa, _⟩ := mR_bd (rung a)
    obtain ⟨mb, mpb, _⟩ := mR_bd (rung b)
    rw [wholeM_nat a (by omega), wholeM_nat b (by omega), wholeE_nat, wholeE_nat, vR_mp, vR_mp]
    by_cases hl : pR (rung a) < pR (rung b)
    · rw [if_pos (by omega), raddT_rnd _ _ _ _ (by omega) mb ma mpb, Nat.add_comm]
    · rw [if_neg (by omega), raddT_rnd _ _ _ _ (by omega) ma mb mpa]
  · rw [if_neg hr, if_neg hr]; rfl
end Go.Proofs.Yteilgnjjfebogaa
