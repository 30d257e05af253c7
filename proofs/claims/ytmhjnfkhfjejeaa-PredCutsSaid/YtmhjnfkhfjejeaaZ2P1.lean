import Derived.Test.YtmhjnfkhfjejeaaZ2G6
namespace Go.Proofs.Ytmhjnfkhfjejeaa
set_option linter.unusedVariables false
set_option linter.unusedSimpArgs false
open PPredCubes
/-! ### Plain laws on boxes: which values are in one -/
theorem teq {a b : Nat} : a = b ↔ ∀ k, a.testBit k = b.testBit k := ⟨fun h k => by rw [h], fun h => Nat.eq_of_testBit_eq h⟩
/-- Are values in a box? -/
def inBb (b : Bx) (x : List Nat) : Bool := (List.range 10).all fun i => at0 x i &&& b.m i == b.v i
theorem inBb_iff (b : Bx) (x : List Nat) : inBb b x = true ↔ ∀ i, i < 10 → at0 x i &&& b.m i = b.v i := by unfold inBb; simp
theorem inBb_bits (b : Bx) (x : List Nat) : inBb b x = true ↔ ∀ i, i < 10 → ∀ k, ((at0 x i).testBit k && (b.m i).testBit k) = (b.v i).testBit k := by
  rw [inBb_iff]
  constructor
  · intro h i hi k; rw [← h i hi, Nat.testBit_and]
  · intro h i hi; rw [teq]; intro k; rw [Nat.testBit_and]; exact h i hi k
/-- A box that asks no value bit that it does not ask at all, and nothing of field 0. -/
structure Nb (b : Bx) : Prop where
  ok : b.ok
  sub : ∀ i k, (b.v i).testBit k = true → (b.m i).testBit k = true
  m0 : b.m 0 = 0
theorem Nb.v0 {b : Bx} (h : Nb b) : b.v 0 = 0 := by
  rw [teq]; intro k
  cases hk : (b.v 0).testBit k with
  | false => simp
  | true => have := h.sub 0 k hk; rw [h.m0] at this; simp at this
theorem Nb_z : Nb z67 := ⟨z67_ok, fun i k h => by simp [z67] at h, rfl⟩
theorem meetB_iff (b o : Bx) : meetB b o = true ↔ ∀ i, i < 10 → ∀ k, ((b.v i).testBit k && ((b.m i).testBit k && (o.m i).testBit k)) = ((o.v i).testBit k && ((b.m i).testBit k && (o.m i).testBit k)) := by
  unfold meetB
  rw [sameA_iff]
  constructor
  · intro h i hi k
    have := h i hi
    unfold andTo at this
    rw [if_pos hi, if_pos hi] at this
    have h2 := teq.1 this k
    simpa [Nat.testBit_and] using h2
  · intro h i hi
    unfold andTo
    rw [if_pos hi, if_pos hi, teq]
    intro k
    simpa [Nat.testBit_and] using h i hi k
theorem meetX_m (b o : Bx) {i : Nat} (h : i < 10) : (meetX b o).m i = b.m i ||| o.m i := by show (if i < 10 then _ else _) = _; rw [if_pos h]
theorem meetX_v (b o : Bx) {i : Nat} (h : i < 10) : (meetX b o).v i = b.v i ||| o.v i := by show (if i < 10 then _ else _) = _; rw [if_pos h]
theorem Nb_meet {b o : Bx} (hb : Nb b) (ho : Nb o) : Nb (meetX b o) := by
  refine ⟨meetX_ok hb.ok ho.ok, fun i k => ?_, ?_⟩
  · show (if i < 10 then _ else _ : Nat).testBit k = true → (if i < 10 then _ else _ : Nat).testBit k = true
    split
    · rw [Nat.testBit_or, Nat.testBit_or, Bool.or_eq_true, Bool.or_eq_true]
      rintro (h | h)
      · exact .inl (hb.sub i k h)
      · exact .inr (ho.sub i k h)
    · exact hb.sub i k
  · rw [meetX_m _ _ (by omega), hb.m0, ho.m0]; rfl
/-- Values in both: the boxes meet. -/
theorem meet_of_in {b o : Bx} {x : List Nat} (h1 : inBb b x = true) (h2 : inBb o x = true) : meetB b o = true := by
  rw [meetB_iff]
  rw [inBb_bits] at h1 h2
  intro i hi k
  rw [← h1 i hi k, ← h2 i hi k]
  cases (at0 x i).testBit k <;> cases (b.m i).testBit k <;> cases (o.m i).testBit k <;> rfl
theorem meet_in {b o : Bx} (hb : Nb b) (ho : Nb o) (hm : meetB b o = true) (x : List Nat) : inBb (meetX b o) x = (inBb b x && inBb o x) := by
  rw [Bool.eq_iff_iff, Bool.and_eq_true, inBb_bits, inBb_bits, inBb_bits]
  rw [meetB_iff] at hm
  have e1 : ∀ i k, i < 10 → ((meetX b o).m i).testBit k = ((b.m i).testBit k || (o.m i).testBit k) := fun i k hi => by rw [meetX_m _ _ hi, Nat.testBit_or]
  have e2 : ∀ i k, i < 10 → ((meetX b o).v i).testBit k = ((b.v i).testBit k || (o.v i).testBit k) := fun i k hi => by rw [meetX_v _ _ hi, Nat.testBit_or]
  constructor
  · intro h
    constructor
    · intro i hi k
      have h1 := h i hi k
      have h2 := hm i hi k
      have h3 := hb.sub i k
      have h4 := ho.sub i k
      rw [e1 i k hi, e2 i k hi] at h1
      cases hA : (at0 x i).testBit k <;> cases hB : (b.m i).testBit k <;> cases hC : (o.m i).testBit k <;> cases hD : (b.v i).testBit k <;> cases hE : (o.v i).testBit k <;> simp_all
    · intro i hi k
      have h1 := h i hi k
      have h2 := hm i hi k
      have h3 := hb.sub i k
      have h4 := ho.sub i k
      rw [e1 i k hi, e2 i k hi] at h1
      cases hA : (at0 x i).testBit k <;> cases hB : (b.m i).testBit k <;> cases hC : (o.m i).testBit k <;> cases hD : (b.v i).testBit k <;> cases hE : (o.v i).testBit k <;> simp_all
  · rintro ⟨h1, h2⟩ i hi k
    have h1 := h1 i hi k
    have h2 := h2 i hi k
    rw [e1 i k hi, e2 i k hi, ← h1, ← h2]
    cases (at0 x i).testBit k <;> cases (b.m i).testBit k <;> cases (o.m i).testBit k <;> rfl
/-! ### What is picked of a box is in it -/
/-! ### What is left of a box without another one -/
def cnt1 (b : Bx) (x : List Nat) : Nat := if inBb b x then 1 else 0
/-- How many boxes of a list have the values in them. -/
def cntB : List Bx → List Nat → Nat
  | [], _ => 0
  | b :: l, x => cnt1 b x + cntB l x
theorem cntB_app (l m : List Bx) (x : List Nat) : cntB (l ++ m) x = cntB l x + cntB m x := by
  induction l with
  | nil => simp [cntB]
  | cons b l ih => simp only [List.cons_append, cntB, ih]; omega
theorem cntB_one (b : Bx) (x : List Nat) : cntB [b] x = cnt1 b x := by simp [cntB]
theorem tb_or_pow (a n k : Nat) : (a ||| 2 ^ n).testBit k = (a.testBit k || decide (n = k)) := by rw [Nat.testBit_or, Nat.testBit_two_pow]
theorem tb_and_pow (a n k : Nat) : (a &&& 2 ^ n).testBit k = (a.testBit k && decide (n = k)) := by rw [Nat.testBit_and, Nat.testBit_two_pow]
theorem tb_not (a n : Nat) (ha : a < 18446744073709551616) (hn : n < 64) : (18446744073709551615 - a).testBit n = !a.testBit n := by
  have h2 : 18446744073709551615 - a = 2 ^ 64 - (a + 1) := by omega
  rw [h2, Nat.testBit_two_pow_sub_succ (by omega)]
  simp [hn]
/-- One bit more: the piece and what goes on part the box. -/
theorem step_in {b o : Bx} {f n : Nat} (hf : f < 10) (hn : n < 64) (ho : o.ok) (hb : (b.m f).testBit n = false) (hv : (b.v f).testBit n = false) (x : List Nat) :
    cnt1 b x = cnt1 (pieceOf b o f (2 ^ n)) x + cnt1 (nextOf b o f (2 ^ n)) x := by
  have hp : inBb (pieceOf b o f (2 ^ n)) x = (inBb b x && ((at0 x f).testBit n == !(o.v f).testBit n)) := by
    rw [Bool.eq_iff_iff, Bool.and_eq_true, inBb_bits, inBb_bits, beq_iff_eq]
    have em : ∀ i k, ((pieceOf b o f (2 ^ n)).m i).testBit k = ((b.m i).testBit k || (decide (i = f) && decide (n = k))) := fun i k => by
      show (if i = f then b.m f ||| 2 ^ n else b.m i).testBit k = _
      by_cases h : i = f
      · subst h; rw [if_pos rfl, tb_or_pow]; simp
      · rw [if_neg h]; simp [h]
    have ev : ∀ i k, ((pieceOf b o f (2 ^ n)).v i).testBit k = ((b.v i).testBit k || (decide (i = f) && (decide (n = k) && !(o.v f).testBit n))) := fun i k => by
      show (if i = f then b.v f ||| ((18446744073709551615 - o.v f) &&& 2 ^ n) else b.v i).testBit k = _
      by_cases h : i = f
      · subst h
        rw [if_pos rfl, Nat.testBit_or, tb_and_pow]
        by_cases h2 : n = k
        · subst h2; rw [tb_not _ _ (ho i).2 hn]; simp
        · simp [h2]
      · rw [if_neg h]; simp [h]
    constructor
    · intro h
      refine ⟨fun i hi k => ?_, ?_⟩
      · have h1 := h i hi k
        rw [em, ev] at h1
        by_cases hik : i = f ∧ n = k
        · obtain ⟨rfl, rfl⟩ := hik
          rw [hb, hv]; simp
        · have : (decide (i = f) && decide (n = k)) = false := by
            simp only [Bool.and_eq_false_iff, decide_eq_false_iff_not]
            by_cases h1 : i = f
            · exact .inr fun h2 => hik ⟨h1, h2⟩
            · exact .inl h1
          have h3 : (decide (i = f) && (decide (n = k) && !(o.v f).testBit n)) = false := by rw [← Bool.and_assoc, this]; rfl
          rw [this, h3] at h1
          simpa using h1
      · have h1 := h f hf n
        rw [em, ev, hb, hv] at h1
        simpa using h1
    · rintro ⟨h1, h2⟩ i hi k
      rw [em, ev]
      by_cases hik : i = f ∧ n = k
      · obtain ⟨rfl, rfl⟩ := hik
        rw [hb, hv]; simpa using h2
      · have : (decide (i = f) && decide (n = k)) = false := by
          simp only [Bool.and_eq_false_iff, decide_eq_false_iff_not]
          by_cases h1 : i = f
          · exact .inr fun h2 => hik ⟨h1, h2⟩
          · exact .inl h1
        have h3 : (decide (i = f) && (decide (n = k) && !(o.v f).testBit n)) = false := by rw [← Bool.and_assoc, this]; rfl
        rw [this, h3]
        simpa using h1 i hi k
  have hx : inBb (nextOf b o f (2 ^ n)) x = (inBb b x && ((at0 x f).testBit n == (o.v f).testBit n)) := by
    rw [Bool.eq_iff_iff, Bool.and_eq_true, inBb_bits, inBb_bits, beq_iff_eq]
    have em : ∀ i k, ((nextOf b o f (2 ^ n)).m i).testBit k = ((b.m i).testBit k || (decide (i = f) && decide (n = k))) := fun i k => by
      show (if i = f then b.m f ||| 2 ^ n else b.m i).testBit k = _
      by_cases h : i = f
      · subst h; rw [if_pos rfl, tb_or_pow]; simp
      · rw [if_neg h]; simp [h]
    have ev : ∀ i k, ((nextOf b o f (2 ^ n)).v i).testBit k = ((b.v i).testBit k || (decide (i = f) && (decide (n = k) && (o.v f).testBit n))) := fun i k => by
      show (if i = f then b.v f ||| (o.v f &&& 2 ^ n) else b.v i).testBit k = _
      by_cases h : i = f
      · subst h
        rw [if_pos rfl, Nat.testBit_or, tb_and_pow]
        by_cases h2 : n = k
        · subst h2; simp
        · simp [h2]
      · rw [if_neg h]; simp [h]
    constructor
    · intro h
      refine ⟨fun i hi k => ?_, ?_⟩
      · have h1 := h i hi k
        rw [em, ev] at h1
        by_cases hik : i = f ∧ n = k
        · obtain ⟨rfl, rfl⟩ := hik
          rw [hb, hv]; simp
        · have : (decide (i = f) && decide (n = k)) = false := by
            simp only [Bool.and_eq_false_iff, decide_eq_false_iff_not]
            by_cases h1 : i = f
            · exact .inr fun h2 => hik ⟨h1, h2⟩
            · exact .inl h1
          have h3 : (decide (i = f) && (decide (n = k) && (o.v f).testBit n)) = false := by rw [← Bool.and_assoc, this]; rfl
          rw [this, h3] at h1
          simpa using h1
      · have h1 := h f hf n
        rw [em, ev, hb, hv] at h1
        simpa using h1
    · rintro ⟨h1, h2⟩ i hi k
      rw [em, ev]
      by_cases hik : i = f ∧ n = k
      · obtain ⟨rfl, rfl⟩ := hik
        rw [hb, hv]; simpa using h2
      · have : (decide (i = f) && decide (n = k)) = false := by
          simp only [Bool.and_eq_false_iff, decide_eq_false_iff_not]
          by_cases h1 : i = f
          · exact .inr fun h2 => hik ⟨h1, h2⟩
          · exact .inl h1
        have h3 : (decide (i = f) && (decide (n = k) && (o.v f).testBit n)) = false := by rw [← Bool.and_assoc, this]; rfl
        rw [this, h3]
        simpa using h1 i hi k
  unfold cnt1
  rw [hp, hx]
  cases inBb b x <;> cases (at0 x f).testBit n <;> cases (o.v f).testBit n <;> rfl
theorem Nb_piece {b o : Bx} (hb : Nb b) {f n : Nat} (hf : 1 ≤ f) (hn : n < 64) : Nb (pieceOf b o f (2 ^ n)) := by
  have h64 : 2 ^ n < 18446744073709551616 := Nat.pow_lt_pow_right (n := 64) (by omega) hn
  refine ⟨pieceOf_ok hb.ok h64, fun i k => ?_, ?_⟩
  · show (if i = f then _ else _ : Nat).testBit k = true → (if i = f then _ else _ : Nat).testBit k = true
    split
    · rw [Nat.testBit_or, Nat.testBit_or, Nat.testBit_and, Bool.or_eq_true, Bool.or_eq_true, Bool.and_eq_true]
      rintro (h | h)
      · exact .inl (hb.sub f k h)
      · exact .inr h.2
    · exact hb.sub i k
  · show (if 0 = f then _ else _) = 0
    rw [if_neg (by omega)]; exact hb.m0
theorem Nb_next {b o : Bx} (hb : Nb b) {f n : Nat} (hf : 1 ≤ f) (hn : n < 64) : Nb (nextOf b o f (2 ^ n)) := by
  have h64 : 2 ^ n < 18446744073709551616 := Nat.pow_lt_pow_right (n := 64) (by omega) hn
  refine ⟨nextOf_ok hb.ok h64, fun i k => ?_, ?_⟩
  · show (if i = f then _ else _ : Nat).testBit k = true → (if i = f then _ else _ : Nat).testBit k = true
    split
    · rw [Nat.testBit_or, Nat.testBit_or, Nat.testBit_and, Bool.or_eq_true, Bool.or_eq_true, Bool.and_eq_true]
      rintro (h | h)
      · exact .inl (hb.sub f k h)
      · exact .inr h.2
    · exact hb.sub i k
  · show (if 0 = f then _ else _) = 0
    rw [if_neg (by omega)]; exact hb.m0
/-- The end box of a field: the bits of l below 2^n asked besides. -/
theorem cutBits_end (o : Bx) (f n : Nat) : ∀ (b : Bx) (l : Nat), (∀ i k, ((cutBits o f n b l).2.m i).testBit k = ((b.m i).testBit k || (decide (i = f) && (decide (k < n) && l.testBit k)))) ∧
    (∀ i k, ((cutBits o f n b l).2.v i).testBit k = ((b.v i).testBit k || (decide (i = f) && (decide (k < n) && (l.testBit k && (o.v f).testBit k))))) := by
  induction n with
  | zero => intro b l; simp [cutBits]
  | succ n ih =>
    intro b l
    simp only [cutBits]
    cases hl : l.testBit n with
    | false =>
      rw [if_neg (by simp)]
      obtain ⟨h1, h2⟩ := ih b l
      refine ⟨fun i k => ?_, fun i k => ?_⟩
      · rw [h1]
        by_cases hk : k = n
        · subst hk; simp [hl]
        · have : (k < n + 1) = (k < n) := by rw [eq_iff_iff]; omega
          simp only [this]
      · rw [h2]
        by_cases hk : k = n
        · subst hk; simp [hl]
        · have : (k < n + 1) = (k < n) := by rw [eq_iff_iff]; omega
          simp only [this]
    | true =>
      rw [if_pos rfl]
      obtain ⟨h1, h2⟩ := ih (nextOf b o f (2 ^ n)) l
      refine ⟨fun i k => ?_, fun i k => ?_⟩
      · show ((cutBits o f n (nextOf b o f (2 ^ n)) l).2.m i).testBit k = _
        rw [h1]
        have em : ((nextOf b o f (2 ^ n)).m i).testBit k = ((b.m i).testBit k || (decide (i = f) && decide (n = k))) := by
          show (if i = f then b.m f ||| 2 ^ n else b.m i).testBit k = _
          by_cases h : i = f
          · subst h; rw [if_pos rfl, tb_or_pow]; simp
          · rw [if_neg h]; simp [h]
        rw [em]
        by_cases hk : k = n
        · subst hk; simp [hl]
        · have : (k < n + 1) = (k < n) := by rw [eq_iff_iff]; omega
          have h3 : ¬ n = k := fun h => hk h.symm
          simp only [this, h3, decide_false, Bool.and_false, Bool.or_false]
      · show ((cutBits o f n (nextOf b o f (2 ^ n)) l).2.v i).testBit k = _
        rw [h2]
        have ev : ((nextOf b o f (2 ^ n)).v i).testBit k = ((b.v i).testBit k || (decide (i = f) && (decide (n = k) && (o.v f).testBit n))) := by
          show (if i = f then b.v f ||| (o.v f &&& 2 ^ n) else b.v i).testBit k = _
          by_cases h : i = f
          · subst h
            rw [if_pos rfl, Nat.testBit_or, tb_and_pow]
            by_cases h2 : n = k
            · subst h2; simp
            · simp [h2]
          · rw [if_neg h]; simp [h]
        rw [ev]
        by_cases hk : k = n
        · subst hk; simp [hl]
        · have : (k < n + 1) = (k < n) := by rw [eq_iff_iff]; omega
          have h3 : ¬ n = k := fun h => hk h.symm
          simp only [this, h3, decide_false, Bool.and_false, Bool.or_false, Bool.false_and]
/-- The pieces at a field and the box that goes on part the box. -/
theorem cutBits_cnt (o : Bx) (ho : o.ok) (f : Nat) (hf : f < 10) (x : List Nat) (n : Nat) (hn : n ≤ 64) : ∀ (b : Bx) (l : Nat), (∀ k, k < n → l.testBit k = true → (b.m f).testBit k = false ∧ (b.v f).testBit k = false) →
    cnt1 b x = cntB (cutBits o f n b l).1 x + cnt1 (cutBits o f n b l).2 x := by
  induction n with
  | zero => intro b l _; simp [cutBits, cntB]
  | succ n ih =>
    intro b l h
    simp only [cutBits]
    cases hl : l.testBit n with
    | false =>
      rw [if_neg (by simp)]
      exact ih (by omega) b l fun k hk => h k (by omega)
    | true =>
      rw [if_pos rfl]
      obtain ⟨h1, h2⟩ := h n (by omega) hl
      rw [step_in hf (by omega) ho h1 h2 x]
      have hi := ih (by omega) (nextOf b o f (2 ^ n)) l (fun k hk hlk => by
        obtain ⟨g1, g2⟩ := h k (by omega) hlk
        have hkn : ¬ n = k := by omega
        refine ⟨?_, ?_⟩
        · show (if f = f then b.m f ||| 2 ^ n else _).testBit k = _
          rw [if_pos rfl, tb_or_pow, g1]; simp [hkn]
        · show (if f = f then b.v f ||| (o.v f &&& 2 ^ n) else _).testBit k = _
          rw [if_pos rfl, Nat.testBit_or, tb_and_pow, g2]; simp [hkn])
      simp only [cntB]
      omega
theorem cutBits_Nb (o : Bx) (f : Nat) (hf : 1 ≤ f) (n : Nat) (hn : n ≤ 64) : ∀ (b : Bx) (l : Nat), Nb b → (∀ p ∈ (cutBits o f n b l).1, Nb p) ∧ Nb (cutBits o f n b l).2 := by
  induction n with
  | zero => intro b l hb; exact ⟨fun p hp => by simp [cutBits] at hp, hb⟩
  | succ n ih =>
    intro b l hb
    simp only [cutBits]
    split
    · obtain ⟨h1, h2⟩ := ih (by omega) (nextOf b o f (2 ^ n)) l (Nb_next hb hf (by omega))
      refine ⟨fun p hp => ?_, h2⟩
      rcases List.mem_cons.1 hp with rfl | hp
      · exact Nb_piece hb hf (by omega)
      · exact h1 p hp
    · exact ih (by omega) b l hb
/-- The box at the end of n fields from f on. -/
def cutEnd (o : Bx) : Nat → Nat → Bx → Bx
  | 0, _, b => b
  | n + 1, f, b => cutEnd o n (f + 1) (cutBits o f 64 b (leftOf b o f)).2
theorem leftOf_bit {b o : Bx} (hb : b.ok) (f k : Nat) (hk : k < 64) : (leftOf b o f).testBit k = ((o.m f).testBit k && !(b.m f).testBit k) := by
  unfold leftOf; rw [Nat.testBit_and, tb_not _ _ (hb f).1 hk]
theorem cutBits_ok2 (o : Bx) (f : Nat) (b : Bx) (l : Nat) (hb : b.ok) : (cutBits o f 64 b l).2.ok := (cutBits_ok o f 64 (Nat.le_refl _) b l hb).2
theorem cutFrom_cnt (o : Bx) (ho : o.ok) (x : List Nat) (n : Nat) : ∀ (f : Nat) (b : Bx), f + n ≤ 10 → b.ok → (∀ i k, (b.v i).testBit k = true → (b.m i).testBit k = true) →
    cnt1 b x = cntB (cutFrom o n f b) x + cnt1 (cutEnd o n f b) x := by
  induction n with
  | zero => intro f b _ _ _; simp [cutFrom, cutEnd, cntB]
  | succ n ih =>
    intro f b hf hb hs
    simp only [cutFrom, cutEnd]
    have h1 := cutBits_cnt o ho f (by omega) x 64 (Nat.le_refl _) b (leftOf b o f) fun k hk hl => by
      rw [leftOf_bit hb f k hk, Bool.and_eq_true, Bool.not_eq_true'] at hl
      refine ⟨hl.2, ?_⟩
      cases hv : (b.v f).testBit k with
      | false => rfl
      | true => rw [hs f k hv] at hl; exact absurd hl.2 (by simp)
    obtain ⟨e1, e2⟩ := cutBits_end o f 64 b (leftOf b o f)
    have h2 := ih (f + 1) (cutBits o f 64 b (leftOf b o f)).2 (by omega) (cutBits_ok2 o f b _ hb) (fun i k => by
      rw [e1, e2, Bool.or_eq_true, Bool.or_eq_true]
      rintro (h | h)
      · exact .inl (hs i k h)
      · simp only [Bool.and_eq_true, decide_eq_true_eq] at h ⊢
        exact .inr ⟨h.1, h.2.1, h.2.2.1⟩)
    rw [cntB_app]
    omega
theorem cutEnd_bits (o : Bx) (ho : o.ok) (n : Nat) : ∀ (f : Nat) (b : Bx), b.ok → (∀ i k, ((cutEnd o n f b).m i).testBit k = ((b.m i).testBit k || (decide (f ≤ i ∧ i < f + n) && (o.m i).testBit k))) ∧
    (∀ i k, ((cutEnd o n f b).v i).testBit k = ((b.v i).testBit k || (decide (f ≤ i ∧ i < f + n) && ((o.m i).testBit k && (!(b.m i).testBit k && (o.v i).testBit k))))) := by
  induction n with
  | zero =>
    intro f b hb
    refine ⟨fun i k => ?_, fun i k => ?_⟩
    · have : ¬ (f ≤ i ∧ i < f + 0) := by omega
      simp only [cutEnd, this, decide_false, Bool.false_and, Bool.or_false]
    · have : ¬ (f ≤ i ∧ i < f + 0) := by omega
      simp only [cutEnd, this, decide_false, Bool.false_and, Bool.or_false]
  | succ n ih =>
    intro f b hb
    simp only [cutEnd]
    obtain ⟨e1, e2⟩ := cutBits_end o f 64 b (leftOf b o f)
    obtain ⟨h1, h2⟩ := ih (f + 1) (cutBits o f 64 b (leftOf b o f)).2 (cutBits_ok2 o f b _ hb)
    have hb64 : ∀ {a : Nat} {k : Nat}, a < 18446744073709551616 → ¬ k < 64 → a.testBit k = false := fun {a k} ha hk => Nat.testBit_lt_two_pow (Nat.lt_of_lt_of_le ha (by
      have : 2 ^ 64 ≤ 2 ^ k := Nat.pow_le_pow_right (by omega) (by omega)
      omega))
    refine ⟨fun i k => ?_, fun i k => ?_⟩
    · rw [h1, e1]
      by_cases hi : i = f
      · subst hi
        have q1 : ¬ (i + 1 ≤ i ∧ i < i + 1 + n) := by omega
        have q2 : (i ≤ i ∧ i < i + (n + 1)) := by omega
        rw [decide_eq_false q1, decide_eq_true q2]; simp only [decide_true, Bool.false_and, Bool.or_false, Bool.true_and]
        by_cases hk : k < 64
        · rw [leftOf_bit hb i k hk]
          simp only [hk, decide_true, Bool.true_and]
          cases (b.m i).testBit k <;> cases (o.m i).testBit k <;> rfl
        · rw [hb64 (ho i).1 hk]; simp [hk]
      · have q : (f + 1 ≤ i ∧ i < f + 1 + n) = (f ≤ i ∧ i < f + (n + 1)) := by rw [eq_iff_iff]; omega
        simp only [q, hi, decide_false, Bool.false_and, Bool.or_false]
    · rw [h2, e1, e2]
      by_cases hi : i = f
      · subst hi
        have q1 : ¬ (i + 1 ≤ i ∧ i < i + 1 + n) := by omega
        have q2 : (i ≤ i ∧ i < i + (n + 1)) := by omega
        rw [decide_eq_false q1, decide_eq_true q2]; simp only [decide_true, Bool.false_and, Bool.or_false, Bool.true_and]
        by_cases hk : k < 64
        · rw [leftOf_bit hb i k hk]
          simp only [hk, decide_true, Bool.true_and, Bool.and_assoc]
        · rw [hb64 (ho i).1 hk]; simp [hk]
      · have q : (f + 1 ≤ i ∧ i < f + 1 + n) = (f ≤ i ∧ i < f + (n + 1)) := by rw [eq_iff_iff]; omega
        simp only [q, hi, decide_false, Bool.false_and, Bool.or_false]
/-- What is left of a box without another one: of any values just one piece has them in it where the box has, and the other one has not. -/
theorem cutL_cnt {b o : Bx} (hb : Nb b) (ho : Nb o) (x : List Nat) : cntB (cutL b o) x = if inBb b x && !inBb o x then 1 else 0 := by
  unfold cutL
  cases hm : meetB b o with
  | false =>
    rw [if_neg (by simp), cntB_one]
    unfold cnt1
    cases h1 : inBb b x with
    | false => simp
    | true =>
      cases h2 : inBb o x with
      | false => simp
      | true => rw [meet_of_in h1 h2] at hm; cases hm
  | true =>
    rw [if_pos rfl]
    have h1 := cutFrom_cnt o ho.ok x 10 0 b (by omega) hb.ok hb.sub
    obtain ⟨e1, e2⟩ := cutEnd_bits o ho.ok 10 0 b hb.ok
    have h2 : inBb (cutEnd o 10 0 b) x = inBb (meetX b o) x := by
      rw [Bool.eq_iff_iff, inBb_bits, inBb_bits]
      have hm' := (meetB_iff b o).1 hm
      constructor
      · intro h i hi k
        have := h i hi k
        rw [e1, e2] at this
        rw [meetX_m _ _ hi, meetX_v _ _ hi, Nat.testBit_or, Nat.testBit_or]
        have q : (0 ≤ i ∧ i < 0 + 10) := by omega
        rw [decide_eq_true q] at this; simp only [Bool.true_and] at this
        rw [this]
        have h3 := hm' i hi k
        have h4 := ho.sub i k
        have h5 := hb.sub i k
        cases hB : (b.m i).testBit k <;> cases hC : (o.m i).testBit k <;> cases hD : (b.v i).testBit k <;> cases hE : (o.v i).testBit k <;> simp_all
      · intro h i hi k
        have := h i hi k
        rw [meetX_m _ _ hi, meetX_v _ _ hi, Nat.testBit_or, Nat.testBit_or] at this
        rw [e1, e2]
        have q : (0 ≤ i ∧ i < 0 + 10) := by omega
        rw [decide_eq_true q]; simp only [Bool.true_and]
        rw [this]
        have h3 := hm' i hi k
        have h4 := ho.sub i k
        have h5 := hb.sub i k
        cases hB : (b.m i).testBit k <;> cases hC : (o.m i).testBit k <;> cases hD : (b.v i).testBit k <;> cases hE : (o.v i).testBit k <;> simp_all
    unfold cnt1 at h1
    rw [h2, meet_in hb ho hm] at h1
    cases h3 : inBb b x <;> cases h4 : inBb o x <;> rw [h3, h4] at h1 <;> simp only [Bool.and_true, Bool.and_false, Bool.true_and, Bool.false_and, Bool.not_true, Bool.not_false, if_true, Bool.false_eq_true, if_false] at h1 ⊢ <;> omega
theorem cutFrom_Nb (o : Bx) (n : Nat) : ∀ (f : Nat) (b : Bx), 1 ≤ f → Nb b → ∀ p ∈ cutFrom o n f b, Nb p := by
  induction n with
  | zero => intro f b _ _ p hp; simp [cutFrom] at hp
  | succ n ih =>
    intro f b hf hb p hp
    obtain ⟨h1, h2⟩ := cutBits_Nb o f hf 64 (Nat.le_refl _) b (leftOf b o f) hb
    rcases List.mem_append.1 hp with hp | hp
    · exact h1 p hp
    · exact ih (f + 1) _ (by omega) h2 p hp
theorem cutL_Nb {b o : Bx} (hb : Nb b) (ho : Nb o) : ∀ p ∈ cutL b o, Nb p := by
  unfold cutL
  split
  · have e : leftOf b o 0 = 0 := by unfold leftOf; rw [ho.m0]; simp
    show ∀ p ∈ (cutBits o 0 64 b (leftOf b o 0)).1 ++ cutFrom o 9 1 (cutBits o 0 64 b (leftOf b o 0)).2, Nb p
    rw [e, cutBits_zero]
    intro p hp
    exact cutFrom_Nb o 9 1 b (by omega) hb p (by simpa using hp)
  · intro p hp; rw [List.mem_singleton.1 hp]; exact hb
end Go.Proofs.Ytmhjnfkhfjejeaa
