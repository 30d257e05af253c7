import GoSem.Core.Float
namespace Go.Proofs.Yteilgnjjfebogaa
set_option linter.unusedVariables false
set_option linter.unusedSimpArgs false
open Ieee

/-! ### The plain mathematics of float64: words, their order, their sum -/

/-- The lower 63 bits of a word. -/
def rung (a : Nat) : Nat := a % 9223372036854775808
def negB (a : Nat) : Bool := a / 9223372036854775808 % 2 == 1
/-- A rung's value, in units of the least subnormal number. -/
def vR (r : Nat) : Nat := if r < 4503599627370496 then r else (4503599627370496 + r % 4503599627370496) * 2 ^ (r / 4503599627370496 - 1)
def kz (a : Nat) : Int := if negB a then -(rung a : Int) else rung a
def nanB (a : Nat) : Bool := decide (rung a > 9218868437227405312)

theorem dbl_sw : double.signWeight = 9223372036854775808 := by decide
theorem dbl_bin : double.binade = 4503599627370496 := by decide
theorem dbl_inf : double.infRung = 9218868437227405312 := by decide

theorem vR_lt {r s : Nat} (h : r < s) : vR r < vR s := by
  unfold vR
  by_cases hs : s < 4503599627370496
  · rw [if_pos (by omega), if_pos hs]; exact h
  · rw [if_neg hs]
    have hq1 : 1 ≤ s / 4503599627370496 := by omega
    have hp : 1 ≤ 2 ^ (s / 4503599627370496 - 1) := Nat.one_le_two_pow
    by_cases hr : r < 4503599627370496
    · rw [if_pos hr]
      calc r < 4503599627370496 + s % 4503599627370496 := by omega
        _ ≤ _ := Nat.le_mul_of_pos_right _ hp
    · rw [if_neg hr]
      rcases Nat.lt_or_ge (r / 4503599627370496) (s / 4503599627370496) with hq | hq
      · have : 2 ^ (s / 4503599627370496 - 1) = 2 ^ (r / 4503599627370496 - 1) * 2 ^ (s / 4503599627370496 - r / 4503599627370496) := by
          rw [← Nat.pow_add]; congr 1; omega
        have h2 : 2 ≤ 2 ^ (s / 4503599627370496 - r / 4503599627370496) := by
          calc 2 = 2 ^ 1 := rfl
            _ ≤ _ := Nat.pow_le_pow_right (by omega) (by omega)
        have hpr : 1 ≤ 2 ^ (r / 4503599627370496 - 1) := Nat.one_le_two_pow
        calc (4503599627370496 + r % 4503599627370496) * 2 ^ (r / 4503599627370496 - 1) < (4503599627370496 * 2) * 2 ^ (r / 4503599627370496 - 1) := Nat.mul_lt_mul_of_pos_right (by omega) hpr
          _ = 4503599627370496 * (2 ^ (r / 4503599627370496 - 1) * 2) := by rw [Nat.mul_assoc, Nat.mul_comm 2]
          _ ≤ 4503599627370496 * 2 ^ (s / 4503599627370496 - 1) := by rw [this]; exact Nat.mul_le_mul_left _ (Nat.mul_le_mul_left _ h2)
          _ ≤ _ := Nat.mul_le_mul_right _ (by omega)
      · have he : r / 4503599627370496 = s / 4503599627370496 := by have := Nat.div_le_div_right (c := 4503599627370496) (Nat.le_of_lt h); omega
        rw [he]
        exact Nat.mul_lt_mul_of_pos_right (by omega) hp

theorem vR_le {r s : Nat} (h : r ≤ s) : vR r ≤ vR s := by
  rcases Nat.lt_or_ge r s with h' | h'
  · exact Nat.le_of_lt (vR_lt h')
  · rw [show r = s by omega]; exact Nat.le_refl _

/-- A finite word: its digits and its place. -/
def mR (r : Nat) : Nat := if r < 4503599627370496 then r else 4503599627370496 + r % 4503599627370496
def pR (r : Nat) : Nat := if r < 4503599627370496 then 0 else r / 4503599627370496 - 1
theorem vR_mp (r : Nat) : vR r = mR r * 2 ^ pR r := by unfold vR mR pR; split <;> simp

theorem lp_eq : double.leastPlace = -1074 := by decide

theorem read_fin {a : Nat} (h : rung a < 9218868437227405312) : double.read a = .number (negB a) (mR (rung a)) (-1074 + (pR (rung a) : Nat)) := by
  unfold Format.read
  simp only [dbl_sw, dbl_bin, dbl_inf, lp_eq]
  unfold mR pR rung negB
  by_cases h1 : a % 9223372036854775808 < 4503599627370496
  · simp [h1]
  · have h' : a % 9223372036854775808 < 9218868437227405312 := h
    simp [h1, h']
theorem read_inf {a : Nat} (h : rung a = 9218868437227405312) : double.read a = .infinity (negB a) := by
  unfold Format.read
  simp only [dbl_sw, dbl_bin, dbl_inf, lp_eq]
  have h' : a % 9223372036854775808 = 9218868437227405312 := h
  simp [h', negB]
theorem read_nan {a : Nat} (h : rung a > 9218868437227405312) : double.read a = .nan (negB a) (rung a - 9218868437227405312) := by
  unfold Format.read
  simp only [dbl_sw, dbl_bin, dbl_inf, lp_eq]
  have h' : a % 9223372036854775808 > 9218868437227405312 := h
  rw [if_neg (by omega), if_neg (by omega), if_neg (by omega)]
  rfl

theorem signed_eq (s : Bool) (m k : Nat) : signed s m k = if s then -((m * 2 ^ k : Nat) : Int) else ((m * 2 ^ k : Nat) : Int) := by
  unfold signed; rw [Nat.shiftLeft_eq]

/-- The value of a finite word, with its sign. -/
def sv (a : Nat) : Int := if negB a then -((vR (rung a) : Nat) : Int) else ((vR (rung a) : Nat) : Int)

theorem signed_sv (a : Nat) (p : Nat) (h : p ≤ pR (rung a)) : signed (negB a) (mR (rung a)) (pR (rung a) - p) * (2 ^ p : Nat) = sv a := by
  have e : (mR (rung a) * 2 ^ (pR (rung a) - p)) * 2 ^ p = vR (rung a) := by rw [vR_mp, Nat.mul_assoc, ← Nat.pow_add]; congr 2; omega
  rw [signed_eq]; unfold sv
  have e' : ((mR (rung a) * 2 ^ (pR (rung a) - p) : Nat) : Int) * ((2 ^ p : Nat) : Int) = ((vR (rung a) : Nat) : Int) := by rw [← e]; exact_mod_cast rfl
  split
  · rw [Int.neg_mul, e']
  · exact e'

theorem compare_scale (x y : Int) (k : Nat) : compare (x * (2 ^ k : Nat)) (y * (2 ^ k : Nat)) = compare x y := by
  have hp : (0 : Int) < ((2 ^ k : Nat) : Int) := by exact_mod_cast Nat.two_pow_pos k
  rcases Int.lt_trichotomy x y with h | h | h
  · have : x * (2 ^ k : Nat) < y * (2 ^ k : Nat) := Int.mul_lt_mul_of_pos_right h hp
    rw [Int.compare_eq_lt.2 h, Int.compare_eq_lt.2 this]
  · subst h; simp
  · have : y * (2 ^ k : Nat) < x * (2 ^ k : Nat) := Int.mul_lt_mul_of_pos_right h hp
    rw [Int.compare_eq_gt.2 h, Int.compare_eq_gt.2 this]


theorem order_fin {a b : Nat} (ha : rung a < 9218868437227405312) (hb : rung b < 9218868437227405312) : double.order a b = some (compare (sv a) (sv b)) := by
  unfold Format.order
  rw [read_fin ha, read_fin hb]
  simp only [Datum.order, Option.some.injEq]
  have hm : min (-1074 + (pR (rung a) : Int)) (-1074 + (pR (rung b) : Int)) = -1074 + ((min (pR (rung a)) (pR (rung b)) : Nat) : Int) := by omega
  rw [hm]
  have h1 : (-1074 + (pR (rung a) : Int) - (-1074 + ((min (pR (rung a)) (pR (rung b)) : Nat) : Int))).toNat = pR (rung a) - min (pR (rung a)) (pR (rung b)) := by omega
  have h2 : (-1074 + (pR (rung b) : Int) - (-1074 + ((min (pR (rung a)) (pR (rung b)) : Nat) : Int))).toNat = pR (rung b) - min (pR (rung a)) (pR (rung b)) := by omega
  rw [h1, h2, ← compare_scale _ _ (min (pR (rung a)) (pR (rung b))), signed_sv _ _ (Nat.min_le_left _ _), signed_sv _ _ (Nat.min_le_right _ _)]

theorem vR_pos {r : Nat} : 0 < vR r ↔ 0 < r := by
  constructor
  · intro h; rcases Nat.eq_zero_or_pos r with h0 | h0
    · subst h0; simp [vR] at h
    · exact h0
  · intro h; have := vR_lt h; omega

theorem compare_congr {x y u v : Int} (h1 : x < y ↔ u < v) (h2 : x = y ↔ u = v) : compare x y = compare u v := by
  rcases Int.lt_trichotomy x y with h | h | h
  · rw [Int.compare_eq_lt.2 h, Int.compare_eq_lt.2 (h1.1 h)]
  · rw [Int.compare_eq_eq.2 h, Int.compare_eq_eq.2 (h2.1 h)]
  · rw [Int.compare_eq_gt.2 h]
    have : v < u := by
      rcases Int.lt_trichotomy u v with g | g | g
      · have := h1.2 g; omega
      · have := h2.2 g; omega
      · exact g
    rw [Int.compare_eq_gt.2 this]

theorem sv_kz (a b : Nat) : compare (sv a) (sv b) = compare (kz a) (kz b) := by
  have l1 := @vR_lt (rung a) (rung b)
  have l2 := @vR_lt (rung b) (rung a)
  have p1 := @vR_pos (rung a)
  have p2 := @vR_pos (rung b)
  have e1 : rung a = rung b → vR (rung a) = vR (rung b) := fun h => by rw [h]
  refine compare_congr ?_ ?_ <;>
  · unfold sv kz
    cases negB a <;> cases negB b <;> simp only [if_true, Bool.false_eq_true, if_false] <;> omega

/-- How two words stand: by 'kz', unless one is no number. -/
theorem order_eq (a b : Nat) : double.order a b = if nanB a = true ∨ nanB b = true then none else some (compare (kz a) (kz b)) := by
  have key : ∀ c, nanB c = true ↔ rung c > 9218868437227405312 := fun c => by simp [nanB]
  rcases Nat.lt_trichotomy (rung a) 9218868437227405312 with ha | ha | ha
  · rcases Nat.lt_trichotomy (rung b) 9218868437227405312 with hb | hb | hb
    · rw [if_neg (by rw [key, key]; omega), order_fin ha hb, sv_kz]
    · rw [if_neg (by rw [key, key]; omega)]
      unfold Format.order
      rw [read_fin ha, read_inf hb]
      simp only [Datum.order, Option.some.injEq]
      unfold kz
      rw [hb]
      cases h : negB b
      · simp only [Bool.false_eq_true, if_false]; symm; rw [Int.compare_eq_lt]; split <;> omega
      · simp only [if_true]; symm; rw [Int.compare_eq_gt]; split <;> omega
    · rw [if_pos (by rw [key, key]; omega)]
      unfold Format.order
      rw [read_fin ha, read_nan hb]; rfl
  · rcases Nat.lt_trichotomy (rung b) 9218868437227405312 with hb | hb | hb
    · rw [if_neg (by rw [key, key]; omega)]
      unfold Format.order
      rw [read_inf ha, read_fin hb]
      simp only [Datum.order, Option.some.injEq]
      unfold kz
      rw [ha]
      cases h : negB a
      · simp only [Bool.false_eq_true, if_false]; symm; rw [Int.compare_eq_gt]; split <;> omega
      · simp only [if_true]; symm; rw [Int.compare_eq_lt]; split <;> omega
    · rw [if_neg (by rw [key, key]; omega)]
      unfold Format.order
      rw [read_inf ha, read_inf hb]
      simp only [Datum.order, Option.some.injEq]
      unfold kz
      rw [ha, hb]
      cases negB a <;> cases negB b <;> decide
    · rw [if_pos (by rw [key, key]; omega)]
      unfold Format.order
      rw [read_inf ha, read_nan hb]; rfl
  · rw [if_pos (by rw [key, key]; omega)]
    unfold Format.order
    rw [read_nan ha]
    cases double.read b <;> rfl

/-! ### Rounding -/
/-- 'V / 2^k' to the nearest whole number, between two the even one. -/
def rhe (V k : Nat) : Nat := V / 2 ^ k + if 2 ^ k < 2 * (V % 2 ^ k) ∨ 2 ^ k = 2 * (V % 2 ^ k) ∧ V / 2 ^ k % 2 = 1 then 1 else 0
/-- The rung nearest to the value V. -/
def rnd (V : Nat) : Nat := if V = 0 then 0 else min ((V.log2 - 52) * 4503599627370496 + rhe V (V.log2 - 52)) 9218868437227405312

theorem rhe_scale (Y j k : Nat) : rhe (Y * 2 ^ j) (k + j) = rhe Y k := by
  have hp := Nat.two_pow_pos j
  unfold rhe
  rw [Nat.pow_add, Nat.mul_div_mul_right _ _ hp, Nat.mul_mod_mul_right, ← Nat.mul_assoc]
  have h1 : (2 ^ k * 2 ^ j < 2 * (Y % 2 ^ k) * 2 ^ j) = (2 ^ k < 2 * (Y % 2 ^ k)) := propext (Nat.mul_lt_mul_right hp)
  have h2 : (2 ^ k * 2 ^ j = 2 * (Y % 2 ^ k) * 2 ^ j) = (2 ^ k = 2 * (Y % 2 ^ k)) := propext (Nat.mul_left_inj (by omega))
  simp only [h1, h2]

theorem rhe_zero (Y : Nat) : rhe Y 0 = Y := by unfold rhe; simp [Nat.mod_one]

theorem more_eq (g a q : Nat) : (decide (g < a) || (g == a && q % 2 == 1)).toNat = if g < a ∨ g = a ∧ q % 2 = 1 then 1 else 0 := by
  by_cases h1 : g < a
  · simp [h1]
  · by_cases h2 : g = a
    · by_cases h3 : q % 2 = 1
      · simp [h2, h3]
      · simp [h2, h3]
    · simp [h1, h2]
theorem cut_eq (s : Bool) (n drop : Nat) (h : drop ≤ n.log2 + 2) : Toward.even.cut s n drop = rhe n drop := by
  unfold Toward.cut rhe
  rw [Nat.min_eq_left h, Nat.one_shiftLeft]
  simp only
  rw [more_eq]

theorem log2_scale (N k : Nat) (h : N ≠ 0) : (N * 2 ^ k).log2 = N.log2 + k := by
  have hn : N * 2 ^ k ≠ 0 := Nat.mul_ne_zero h (by have := Nat.two_pow_pos k; omega)
  rw [Nat.log2_eq_iff hn]
  have h1 := Nat.log2_self_le h
  have h2 : N < 2 ^ (N.log2 + 1) := Nat.lt_log2_self
  refine ⟨?_, ?_⟩
  · rw [Nat.pow_add]; exact Nat.mul_le_mul_right _ h1
  · rw [show N.log2 + k + 1 = (N.log2 + 1) + k by omega, Nat.pow_add]; exact Nat.mul_lt_mul_of_pos_right h2 (Nat.two_pow_pos k)

theorem nearest_rnd (N k : Nat) (h : N ≠ 0) : double.nearest false N (-1074 + (k : Int)) = rnd (N * 2 ^ k) := by
  have hn : N * 2 ^ k ≠ 0 := Nat.mul_ne_zero h (by have := Nat.two_pow_pos k; omega)
  unfold Format.nearest rnd
  rw [if_neg h, if_neg hn, log2_scale N k h]
  simp only [dbl_bin, dbl_inf, lp_eq]
  have hfb : double.fractionBits = 52 := rfl
  rw [hfb]
  obtain ⟨E, hE⟩ : ∃ E, E = N.log2 + k - 52 := ⟨_, rfl⟩
  have hlast : max (-1074 + (k : Int) + (N.log2 : Int) - ((52 : Nat) : Int)) (-1074) = -1074 + (E : Int) := by omega
  rw [hlast, ← hE]
  have h1 : (-1074 + (k : Int) - (-1074 + (E : Int))).toNat = k - E := by omega
  have h2 : (-1074 + (E : Int) - (-1074 + (k : Int))).toNat = E - k := by omega
  have h3 : (-1074 + (E : Int) - (-1074)).toNat = E := by omega
  rw [h1, h2, h3]
  have hk : Toward.even.cut false (N <<< (k - E)) (E - k) = rhe (N * 2 ^ k) E := by
    rw [Nat.shiftLeft_eq]
    rcases Nat.le_total k E with hc | hc
    · rw [show k - E = 0 by omega, Nat.pow_zero, Nat.mul_one, cut_eq _ _ _ (by omega)]
      have := rhe_scale N k (E - k)
      rw [show E - k + k = E by omega] at this
      exact this.symm
    · rw [show E - k = 0 by omega, cut_eq _ _ _ (by omega)]
      have := rhe_scale (N * 2 ^ (k - E)) E 0
      rw [Nat.zero_add, Nat.mul_assoc, ← Nat.pow_add, show k - E + E = k by omega] at this
      exact this.symm
  rw [hk]
  simp only [Format.word, Bool.false_eq_true, if_false]

theorem rnd_pos {V : Nat} (h : 0 < V) : 0 < rnd V := by
  unfold rnd
  rw [if_neg (by omega)]
  by_cases hE : V.log2 - 52 = 0
  · rw [hE, rhe_zero]; omega
  · omega

theorem rnd_le (V : Nat) : rnd V ≤ 9218868437227405312 := by unfold rnd; split <;> omega

theorem rhe_mono {V W : Nat} (k : Nat) (h : V ≤ W) : rhe V k ≤ rhe W k := by
  have hq : V / 2 ^ k ≤ W / 2 ^ k := Nat.div_le_div_right h
  unfold rhe
  rcases Nat.lt_or_ge (V / 2 ^ k) (W / 2 ^ k) with hl | hl
  · split <;> split <;> omega
  · have he : V / 2 ^ k = W / 2 ^ k := by omega
    have h1 := Nat.div_add_mod V (2 ^ k)
    have h2 := Nat.div_add_mod W (2 ^ k)
    rw [he] at h1
    rw [he]
    split <;> split <;> omega

theorem rhe_bd (V : Nat) (h : 52 ≤ V.log2) (hv : V ≠ 0) : 4503599627370496 ≤ rhe V (V.log2 - 52) ∧ rhe V (V.log2 - 52) ≤ 9007199254740992 := by
  have h1 := Nat.log2_self_le hv
  have h2 : V < 2 ^ (V.log2 + 1) := Nat.lt_log2_self
  have hp := Nat.two_pow_pos (V.log2 - 52)
  have e1 : 2 ^ V.log2 = 4503599627370496 * 2 ^ (V.log2 - 52) := by rw [show (4503599627370496 : Nat) = 2 ^ 52 from rfl, ← Nat.pow_add]; congr 1; omega
  have e2 : 2 ^ (V.log2 + 1) = 9007199254740992 * 2 ^ (V.log2 - 52) := by rw [show (9007199254740992 : Nat) = 2 ^ 53 from rfl, ← Nat.pow_add]; congr 1; omega
  rw [e1] at h1
  rw [e2] at h2
  have q1 : 4503599627370496 ≤ V / 2 ^ (V.log2 - 52) := (Nat.le_div_iff_mul_le hp).2 h1
  have q2 : V / 2 ^ (V.log2 - 52) < 9007199254740992 := (Nat.div_lt_iff_lt_mul hp).2 h2
  unfold rhe
  split <;> omega

theorem log2_mono {V W : Nat} (hv : V ≠ 0) (h : V ≤ W) : V.log2 ≤ W.log2 := by
  have h1 := Nat.log2_self_le hv
  have h2 : W < 2 ^ (W.log2 + 1) := Nat.lt_log2_self
  have : 2 ^ V.log2 < 2 ^ (W.log2 + 1) := by omega
  have := (Nat.pow_lt_pow_iff_right (by omega : 1 < 2)).1 this
  omega

theorem rnd_mono {V W : Nat} (h : V ≤ W) : rnd V ≤ rnd W := by
  by_cases hv : V = 0
  · subst hv; simp [rnd]
  · have hw : W ≠ 0 := by omega
    have hl := log2_mono hv h
    unfold rnd
    rw [if_neg hv, if_neg hw]
    by_cases he : V.log2 - 52 = W.log2 - 52
    · have := rhe_mono (V.log2 - 52) h
      rw [← he]
      omega
    · obtain ⟨w1, w2⟩ := rhe_bd W (by omega) hw
      by_cases hs : 52 ≤ V.log2
      · obtain ⟨v1, v2⟩ := rhe_bd V hs hv
        omega
      · have h0 : V.log2 - 52 = 0 := by omega
        rw [h0, rhe_zero]
        have h2 : V < 2 ^ (V.log2 + 1) := Nat.lt_log2_self
        have h3 : 2 ^ (V.log2 + 1) ≤ 2 ^ 52 := Nat.pow_le_pow_right (by omega) (by omega)
        have h4 : (2 : Nat) ^ 52 = 4503599627370496 := rfl
        omega

theorem rnd_vR {r : Nat} (h : r ≤ 9218868437227405312) : rnd (vR r) = r := by
  by_cases h0 : r = 0
  · subst h0; rfl
  · have hv : vR r ≠ 0 := by have := (@vR_pos r).2 (by omega); omega
    unfold rnd
    rw [if_neg hv]
    by_cases hs : r < 4503599627370496
    · have e : vR r = r := by unfold vR; rw [if_pos hs]
      rw [e]
      have : r.log2 < 52 := (Nat.log2_lt (by omega)).2 (show r < 2 ^ 52 from hs)
      rw [show r.log2 - 52 = 0 by omega, rhe_zero]
      omega
    · have e : vR r = (4503599627370496 + r % 4503599627370496) * 2 ^ (r / 4503599627370496 - 1) := by unfold vR; rw [if_neg hs]
      have hl : (4503599627370496 + r % 4503599627370496).log2 = 52 := by
        rw [Nat.log2_eq_iff (by omega)]
        have h4 : (2 : Nat) ^ 52 = 4503599627370496 := rfl
        have h5 : (2 : Nat) ^ (52 + 1) = 9007199254740992 := rfl
        omega
      rw [e, log2_scale _ _ (by omega), hl]
      rw [show 52 + (r / 4503599627370496 - 1) - 52 = 0 + (r / 4503599627370496 - 1) by omega, rhe_scale, rhe_zero]
      omega

/-! ### What the two texts compute -/
/-- How two float64, by their bits, stand to each other. -/
def fO (a b : Nat) : Option Ordering := FloatKind.f64.format.order a b
def lessB (a b : Nat) : Bool := fO a b == some .lt || (fO a a == some .eq && fO b b != some .eq)
def infB (a : Nat) : Bool := fO a 9218868437227405311 == some .gt
def rightB (a : Nat) : Bool := (fO a 0 == some .gt || fO a 0 == some .eq) && !infB a
def sumN (a b : Nat) : Nat := (FloatKind.f64.format.add a b).getD 0
def addN (a b : Nat) : Nat := if rightB a && rightB b then (if fO (sumN a b) 0 != some .eq then sumN a b else 0) else 9218868437227405312

/-- Where a number stands in the order (the reference's Key). -/
def keyI (a : Int) : Int := if a % 9223372036854775808 > 9218868437227405312 then 9223372036854775807 else if a ≥ 9223372036854775808 then -(a % 9223372036854775808) else a % 9223372036854775808

def rrightB (a : Int) : Bool := decide (a < 9218868437227405312) || a == 9223372036854775808

def wholeM (a : Int) : Int := if a % 9223372036854775808 / 4503599627370496 = 0 then a % 4503599627370496 else a % 4503599627370496 + 4503599627370496
def wholeE (a : Int) : Int := if a % 9223372036854775808 / 4503599627370496 = 0 then 1 else a % 9223372036854775808 / 4503599627370496

def downI (a b : Int) : Int := if 63 < b then (if 0 < a then 1 else 0) else if ¬ (a / 2 ^ b.toNat * 2 ^ b.toNat = a) ∧ (a / 2 ^ b.toNat) % 2 = 0 then a / 2 ^ b.toNat + 1 else a / 2 ^ b.toNat

theorem div_mul_le_self (a : Int) (k : Nat) (h : 0 ≤ a) : 0 ≤ a / 2 ^ k * 2 ^ k ∧ a / 2 ^ k * 2 ^ k ≤ a := by
  have hp : (0 : Int) < 2 ^ k := by exact_mod_cast Nat.two_pow_pos k
  exact ⟨Int.mul_nonneg (Int.ediv_nonneg h (by omega)) (by omega), Int.ediv_mul_le a (by omega)⟩

theorem whole_bd (a : Int) (h0 : 0 ≤ a) (h1 : a ≤ 18446744073709551615) : 0 ≤ wholeM a ∧ wholeM a ≤ 9007199254740991 ∧ 1 ≤ wholeE a ∧ wholeE a ≤ 2047 := by
  unfold wholeM wholeE; split <;> omega
theorem down_bd (a b : Int) (h0 : 0 ≤ a) (hb : 0 ≤ b) : 0 ≤ downI a b ∧ downI a b ≤ a := by
  unfold downI
  split
  · split <;> omega
  · have h1 := div_mul_le_self a b.toNat h0
    have hp : (0 : Int) < 2 ^ b.toNat := by exact_mod_cast Nat.two_pow_pos b.toNat
    have h2 : 0 ≤ a / 2 ^ b.toNat := Int.ediv_nonneg h0 (by omega)
    have h3 : a / 2 ^ b.toNat ≤ a := Int.ediv_le_self _ h0
    split
    · rename_i hc
      refine ⟨by omega, ?_⟩
      have hk0 : b.toNat ≠ 0 := fun hk => hc.1 (by rw [hk]; simp)
      have hp3 : (2 : Int) ≤ 2 ^ b.toNat := by
        obtain ⟨k, hk⟩ : ∃ k, b.toNat = k + 1 := ⟨b.toNat - 1, by omega⟩
        have hp2 : (0 : Int) < 2 ^ k := by exact_mod_cast Nat.two_pow_pos k
        rw [hk, Int.pow_succ]; omega
      have hq : a / 2 ^ b.toNat * 2 ≤ a / 2 ^ b.toNat * 2 ^ b.toNat := Int.mul_le_mul_of_nonneg_left hp3 h2
      have h4 := hc.1
      omega
    · exact ⟨h2, h3⟩
/-- The reference's sum behind the point where the greater one stands first. -/
def raddS (m n e f : Int) : Int := m * 1024 + downI (n * 1024) (e - f)
def raddQ (s : Int) : Int := if s % 1024 > 512 ∨ s % 1024 = 512 ∧ s / 1024 % 2 = 1 then s / 1024 + 1 else s / 1024
def raddO (s e : Int) : Int := if (e - 1) * 4503599627370496 + raddQ s > 9218868437227405312 then 9218868437227405312 else (e - 1) * 4503599627370496 + raddQ s
def raddT (m n e f : Int) : Int := if raddS m n e f ≥ 9223372036854775808 then raddO (downI (raddS m n e f) 1) (e + 1) else raddO (raddS m n e f) e
def raddI (a b : Int) : Int := if rrightB a = true ∧ rrightB b = true then (if wholeE a < wholeE b then raddT (wholeM b) (wholeM a) (wholeE b) (wholeE a) else raddT (wholeM a) (wholeM b) (wholeE a) (wholeE b)) else 9218868437227405312
end Go.Proofs.Yteilgnjjfebogaa
