import Derived.Test.YteilgnjjfebogaaH
namespace Go.Proofs.Yteilgnjjfebogaa
set_option linter.unusedVariables false
set_option linter.unusedSimpArgs false

/-! ### The stable sort by blocks -/
/-- Multiples of B: no two of them nearer than B. -/
theorem dvd_gap {B a c : Nat} (ha : B ∣ a) (hc : B ∣ c) (h1 : a < c) : a + B ≤ c := by
  obtain ⟨x, rfl⟩ := ha
  obtain ⟨y, rfl⟩ := hc
  have : x < y := Nat.lt_of_mul_lt_mul_left h1
  calc B * x + B = B * (x + 1) := by rw [Nat.mul_add, Nat.mul_one]
    _ ≤ B * y := Nat.mul_le_mul_left _ this

/-- All blocks of B are in order, and each one's places are ahead of those behind it, as numbers. -/
structure Blks (R : Int → Int → Prop) (n : Nat) (g : Nat → Int) (B : Nat) : Prop where
  s1 : ∀ c, B ∣ c → RiseOn R g c (min (c + B) n)
  s2 : ∀ c, B ∣ c → c ≤ n → Ahead (fun x y => x < y) g 0 c n

/-- On the way from blocks of B to blocks of D, all ahead of a done. -/
structure Mid (R : Int → Int → Prop) (n : Nat) (g : Nat → Int) (B D a : Nat) : Prop where
  s1a : ∀ c, D ∣ c → c < a → RiseOn R g c (c + D)
  s1b : ∀ c, B ∣ c → a ≤ c → RiseOn R g c (min (c + B) n)
  s2a : ∀ c, D ∣ c → c ≤ a → Ahead (fun x y => x < y) g 0 c n
  s2b : ∀ c, B ∣ c → a ≤ c → c ≤ n → Ahead (fun x y => x < y) g 0 c n

theorem Blks.mid {R : Int → Int → Prop} {n : Nat} {g : Nat → Int} {B : Nat} (h : Blks R n g B) : Mid R n g B (2 * B) 0 :=
  ⟨fun c _ hc => by omega, fun c hc _ => h.s1 c hc, fun c _ hc p q h1 h2 _ _ => by omega, fun c hc _ hn => h.s2 c hc hn⟩

/-- [a, b) put in another order, to rise. -/
theorem Mid.step {R : Int → Int → Prop} {n : Nat} {g g' : Nat → Int} {B D a : Nat} (h : Mid R n g B D a) (hB : B ∣ D) (hD : 0 < D) (ha : D ∣ a) (hb : a + D ≤ n) (p : PermOn g g' a (a + D)) (r : RiseOn R g' a (a + D)) :
    Mid R n g' B D (a + D) := by
  refine ⟨fun c hc hca => ?_, fun c hc hca => ?_, fun c hc hca => ?_, fun c hc hca hcn => ?_⟩
  · rcases Nat.lt_or_ge c a with hlt | hge
    · have := dvd_gap hc ha hlt
      exact (h.s1a c hc hlt).congr fun k h1 h2 => p.out (.inl (by omega))
    · rcases Nat.eq_or_lt_of_le hge with rfl | hlt
      · exact r
      · have := dvd_gap ha hc hlt; omega
  · exact (h.s1b c hc (by omega)).congr fun k h1 h2 => p.out (.inr (by omega))
  · rcases Nat.lt_or_ge a c with hlt | hge
    · have := dvd_gap ha hc hlt
      obtain rfl : c = a + D := by omega
      exact (h.s2b _ (Nat.dvd_trans hB hc) (by omega) hb).perm (p.mono (Nat.zero_le _) (Nat.le_refl _))
    · exact (h.s2a c hc hge).perm2 (p.mono hge hb)
  · exact (h.s2b c hc (by omega) hcn).perm (p.mono (Nat.zero_le _) hca)

/-- The rest, shorter than D, put in order. -/
theorem Mid.last {R : Int → Int → Prop} {n : Nat} {g g' : Nat → Int} {B D a : Nat} (h : Mid R n g B D a) (hD : 0 < D) (ha : D ∣ a) (han : a ≤ n) (hb : n < a + D) (p : PermOn g g' a n) (r : RiseOn R g' a n) : Blks R n g' D := by
  refine ⟨fun c hc => ?_, fun c hc hcn => ?_⟩
  · rcases Nat.lt_or_ge c a with hlt | hge
    · have := dvd_gap hc ha hlt
      rw [Nat.min_eq_left (by omega)]
      exact (h.s1a c hc hlt).congr fun k h1 h2 => p.out (.inl (by omega))
    · rcases Nat.eq_or_lt_of_le hge with rfl | hlt
      · rw [Nat.min_eq_right (by omega)]; exact r
      · have := dvd_gap ha hc hlt
        rw [Nat.min_eq_right (by omega)]
        intro i j h1 h2 h3; omega
  · rcases Nat.lt_or_ge a c with hlt | hge
    · have := dvd_gap ha hc hlt; omega
    · exact (h.s2a c hc hge).perm2 (p.mono hge (Nat.le_refl _))

/-- The two blocks from a on. -/
theorem Mid.runs {R : Int → Int → Prop} {n : Nat} {g : Nat → Int} {B a b : Nat} (h : Mid R n g B (2 * B) a) (hB : 0 < B) (ha : B ∣ a) (h1 : a + B < b) (hb : b ≤ n) (hb2 : b = a + 2 * B ∨ b = n ∧ n < a + 2 * B) : Runs R g a (a + B) b := by
  have hd : B ∣ a + B := Nat.dvd_add ha (Nat.dvd_refl _)
  refine ⟨?_, ?_, ?_⟩
  · have := h.s1b a ha (Nat.le_refl _); rw [Nat.min_eq_left (by omega)] at this; exact this
  · have := h.s1b _ hd (by omega); exact this.part (Nat.le_refl _) (by omega)
  · intro p q u1 u2 u3 u4
    exact h.s2b _ hd (by omega) (by omega) p q (Nat.zero_le _) u2 u3 (by omega)
theorem Mid.one {R : Int → Int → Prop} {n : Nat} {g : Nat → Int} {B D a : Nat} (h : Mid R n g B D a) (ha : B ∣ a) (hb : n ≤ a + B) : RiseOn R g a n := by
  have := h.s1b a ha (Nat.le_refl _); rw [Nat.min_eq_right hb] at this; exact this

/-- Rising numbers are blocks of one. -/
theorem mid_start {R : Int → Int → Prop} {n : Nat} {g : Nat → Int} (D : Nat) (h : ∀ i j, i < j → j < n → g i < g j) : Mid R n g 1 D 0 :=
  ⟨fun c _ hc => by omega, fun c _ _ i j h1 h2 h3 => by omega, fun c _ hc p q h1 h2 h3 h4 => by omega, fun c _ _ hn p q h1 h2 h3 h4 => h p q (by omega) h4⟩
theorem Mid.rising {R : Int → Int → Prop} {n : Nat} {g : Nat → Int} {D a : Nat} (h : Mid R n g 1 D a) : ∀ i j, a ≤ i → i < j → j < n → g i < g j :=
  fun i j h1 h2 h3 => h.s2b (i + 1) (Nat.one_dvd _) (by omega) (by omega) i j (Nat.zero_le _) (by omega) h2 h3
theorem Blks.all {R : Int → Int → Prop} {n : Nat} {g : Nat → Int} {B : Nat} (h : Blks R n g B) (hB : n ≤ B) : RiseOn R g 0 n := by
  have := h.s1 0 (Nat.dvd_zero _); rw [Nat.zero_add, Nat.min_eq_right hB] at this; exact this

/-! ### There is one such order alone -/
theorem strict_unique {R : Int → Int → Prop} (irr : ∀ x, ¬ R x x) (htr : ∀ x y z, R x y → R y z → R x z) {l m : List Int} (hl : l.Pairwise R) (hm : m.Pairwise R) (hp : ∀ x, x ∈ l ↔ x ∈ m) : l = m := by
  induction l generalizing m with
  | nil =>
    cases m with
    | nil => rfl
    | cons y r => exact absurd ((hp y).2 (by simp)) (by simp)
  | cons x l ih =>
    cases m with
    | nil => exact absurd ((hp x).1 (by simp)) (by simp)
    | cons y m =>
      rw [List.pairwise_cons] at hl hm
      have hxy : x = y := by
        have h1 := (hp x).1 (by simp)
        have h2 := (hp y).2 (by simp)
        simp only [List.mem_cons] at h1 h2
        rcases h1 with h1 | h1
        · exact h1
        · rcases h2 with h2 | h2
          · exact h2.symm
          · exact absurd (htr _ _ _ (hl.1 y h2) (hm.1 x h1)) (irr x)
      subst hxy
      congr 1
      refine ih hl.2 hm.2 fun z => ?_
      have := hp z
      simp only [List.mem_cons] at this
      constructor
      · intro hz
        rcases this.1 (.inr hz) with rfl | h
        · exact absurd (hl.1 z hz) (irr z)
        · exact h
      · intro hz
        rcases this.2 (.inr hz) with rfl | h
        · exact absurd (hm.1 z hz) (irr z)
        · exact h
end Go.Proofs.Yteilgnjjfebogaa
