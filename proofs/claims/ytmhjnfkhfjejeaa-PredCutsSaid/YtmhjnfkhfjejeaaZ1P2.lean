import Derived.Test.YtmhjnfkhfjejeaaZ1P1
import Derived.Test.YtmhjnfkhfjejeaaZ1H1
namespace Go.Proofs.Ytmhjnfkhfjejeaa
set_option linter.unusedVariables false
set_option linter.unusedSimpArgs false
open PPredCubes
/-! ### Cubes and their boxes -/
theorem sub_of_and {v m : Nat} (hm : m < 18446744073709551616) (hv : v < 18446744073709551616) (h : v &&& (18446744073709551615 - m) = 0) (k : Nat) (hk : v.testBit k = true) : m.testBit k = true := by
  have h1 : (v &&& (18446744073709551615 - m)).testBit k = false := by rw [h]; simp
  rw [Nat.testBit_and, hk, Bool.true_and] at h1
  by_cases h64 : k < 64
  · rw [tb_not _ _ hm h64] at h1; simpa using h1
  · rw [Nat.testBit_lt_two_pow (Nat.lt_of_lt_of_le hv (by
      have : 2 ^ 64 ≤ 2 ^ k := Nat.pow_le_pow_right (by omega) (by omega)
      omega))] at hk
    cases hk
theorem and_of_sub {v m : Nat} (hm : m < 18446744073709551616) (hv : v < 18446744073709551616) (h : ∀ k, v.testBit k = true → m.testBit k = true) : v &&& (18446744073709551615 - m) = 0 := by
  rw [teq]; intro k
  rw [Nat.testBit_and]
  by_cases h64 : k < 64
  · rw [tb_not _ _ hm h64]
    cases hk : v.testBit k with
    | false => simp
    | true => rw [h k hk]; simp
  · rw [Nat.testBit_lt_two_pow (x := v) (Nat.lt_of_lt_of_le hv (by
      have : 2 ^ 64 ≤ 2 ^ k := Nat.pow_le_pow_right (by omega) (by omega)
      omega))]
    simp
theorem upd_same (m : Nat → Nat) (i x : Nat) : upd m i x i = x := by unfold upd; rw [if_pos rfl]
theorem upd_ne (m : Nat → Nat) {i j : Nat} (x : Nat) (h : j ≠ i) : upd m i x j = m j := by unfold upd; rw [if_neg h]
/-- A box with a test's bits put into a field that it did not ask. -/
theorem Nb_upd {b : Bx} (hb : Nb b) {f v m : Nat} (hf : 1 ≤ f) (hv : v < 18446744073709551616) (hm : m < 18446744073709551616) (h : v &&& (18446744073709551615 - m) = 0) : Nb ⟨upd b.m f m, upd b.v f v⟩ := by
  refine ⟨fun i => ⟨upd_lt (fun i => (hb.ok i).1) hm i, upd_lt (fun i => (hb.ok i).2) hv i⟩, fun i k => ?_, ?_⟩
  · show (upd b.v f v i).testBit k = true → (upd b.m f m i).testBit k = true
    by_cases hi : i = f
    · subst hi; rw [upd_same, upd_same]; exact sub_of_and hm hv h k
    · rw [upd_ne _ _ hi, upd_ne _ _ hi]; exact hb.sub i k
  · show upd b.m f m 0 = 0
    rw [upd_ne _ _ (by omega)]; exact hb.m0
theorem lastF_succ (c : List S47) (k : Nat) : lastF c (k + 1) = (atT c k).f0 := by unfold lastF; rw [if_neg (by omega), Nat.add_sub_cancel]
/-- The boxes of a whole cube's first tests. -/
structure BoxW (c : List S47) (k : Nat) : Prop where
  nb : Nb (boxTo c k)
  high : ∀ i : Nat, lastF c k < (i : Int) → (boxTo c k).m i = 0 ∧ (boxTo c k).v i = 0
  last : 0 ≤ lastF c k ∧ lastF c k < 10
theorem boxW {c : List S47} (hc : okC c) : ∀ k, wholeTo c k = true → BoxW c k := by
  intro k
  induction k with
  | zero => intro _; exact ⟨Nb_z, fun i _ => ⟨rfl, rfl⟩, by simp [lastF]⟩
  | succ k ih =>
    intro h
    simp only [wholeTo, Bool.and_eq_true] at h
    obtain ⟨h1, h2, h3⟩ := ih h.1
    obtain ⟨f, v, m, e, hv, hm⟩ := okT_nat (okC_at hc k)
    obtain ⟨⟨g1, g2, g3⟩, g4, g5⟩ := (tOK_iff _ _).1 h.2
    rw [e] at g1 g2 g3 g4 g5
    obtain ⟨fn, rfl⟩ := Int.eq_ofNat_of_zero_le (show 0 ≤ f by have : (1 : Int) ≤ f := g1; omega)
    have hl : lastF c (k + 1) = (fn : Int) := by rw [lastF_succ, e]
    have e1 : boxTo c (k + 1) = ⟨upd (boxTo c k).m fn m, upd (boxTo c k).v fn v⟩ := by
      simp only [boxTo]; rw [e]; simp
    refine ⟨?_, fun i hi => ?_, ?_⟩
    · rw [e1]
      exact Nb_upd h1 (by have : (1 : Int) ≤ fn := g1; omega) hv hm (by simpa using g3)
    · rw [hl] at hi
      have hne : i ≠ fn := by omega
      have := h2 i (by have : lastF c k < (fn : Int) := g5; omega)
      rw [e1]
      exact ⟨(upd_ne _ _ hne).trans this.1, (upd_ne _ _ hne).trans this.2⟩
    · rw [hl]
      have : (fn : Int) < 10 := g2
      omega
theorem boxC_Nb {c : List S47} (hc : okC c) (h : wholeC c = true) : Nb (boxC c) := (boxW hc _ h).nb
/-! #### the cube of a box -/
theorem atT_left {c : List S47} (t : S47) {k : Nat} (h : k < c.length) : atT (c ++ [t]) k = atT c k := by
  unfold atT; rw [List.getD_eq_getElem?_getD, List.getElem?_append_left h, ← List.getD_eq_getElem?_getD]
theorem atT_last (c : List S47) (t : S47) : atT (c ++ [t]) c.length = t := by
  unfold atT; rw [List.getD_eq_getElem?_getD, List.getElem?_append_right (Nat.le_refl _)]; simp
theorem lastF_left {c : List S47} (t : S47) {k : Nat} (h : k ≤ c.length) : lastF (c ++ [t]) k = lastF c k := by
  unfold lastF; split
  · rfl
  · rw [atT_left t (by omega)]
theorem wholeTo_left {c : List S47} (t : S47) : ∀ k, k ≤ c.length → wholeTo (c ++ [t]) k = wholeTo c k := by
  intro k
  induction k with
  | zero => intro _; rfl
  | succ k ih => intro h; simp only [wholeTo]; rw [ih (by omega), atT_left t (by omega), lastF_left t (by omega)]
theorem boxTo_left {c : List S47} (t : S47) : ∀ k, k ≤ c.length → boxTo (c ++ [t]) k = boxTo c k := by
  intro k
  induction k with
  | zero => intro _; rfl
  | succ k ih => intro h; simp only [boxTo]; rw [ih (by omega), atT_left t (by omega)]
theorem wholeC_snoc (c : List S47) (t : S47) : wholeC (c ++ [t]) = (wholeC c && tOK t (lastF c c.length)) := by
  unfold wholeC
  rw [List.length_append, List.length_singleton]
  simp only [wholeTo]
  rw [wholeTo_left t _ (Nat.le_refl _), atT_last, lastF_left t (Nat.le_refl _)]
theorem boxC_snoc (c : List S47) (t : S47) : boxC (c ++ [t]) = ⟨upd (boxC c).m t.f0.toNat t.f2.toNat, upd (boxC c).v t.f0.toNat t.f1.toNat⟩ := by
  unfold boxC
  rw [List.length_append, List.length_singleton]
  simp only [boxTo]
  rw [boxTo_left t _ (Nat.le_refl _), atT_last]
structure CubeW (b : Bx) (k : Nat) : Prop where
  ok : okC (cubeTo b k)
  whole : wholeC (cubeTo b k) = true
  last : 0 ≤ lastF (cubeTo b k) (cubeTo b k).length ∧ (lastF (cubeTo b k) (cubeTo b k).length < k ∨ k = 0)
  box : ∀ i, (boxC (cubeTo b k)).m i = (if i < k then b.m i else 0) ∧ (boxC (cubeTo b k)).v i = (if i < k then b.v i else 0)
theorem Nb.v_zero {b : Bx} (h : Nb b) {i : Nat} (hm : b.m i = 0) : b.v i = 0 := by
  rw [teq]; intro k
  cases hk : (b.v i).testBit k with
  | false => simp
  | true => have := h.sub i k hk; rw [hm] at this; simp at this
theorem cubeW {b : Bx} (hb : Nb b) : ∀ k, k ≤ 10 → CubeW b k := by
  intro k
  induction k with
  | zero => intro _; exact ⟨(fun t ht => by cases ht), rfl, ⟨by simp [cubeTo, lastF], .inr rfl⟩, fun i => ⟨by simp [cubeTo, boxC, boxTo, z67], by simp [cubeTo, boxC, boxTo, z67]⟩⟩
  | succ k ih =>
    intro hk
    obtain ⟨h1, h2, h3, h4⟩ := ih (by omega)
    by_cases hm : b.m k = 0
    · have e : cubeTo b (k + 1) = cubeTo b k := by simp only [cubeTo]; rw [if_pos hm]
      have hv := hb.v_zero hm
      rw [← e] at h1 h2 h3 h4
      refine ⟨h1, h2, ⟨h3.1, .inl ?_⟩, fun i => ?_⟩
      · rcases h3.2 with h | h
        · omega
        · subst h; rw [e]; simp [cubeTo, lastF]
      · obtain ⟨g1, g2⟩ := h4 i
        rw [g1, g2]
        by_cases hi : i = k
        · subst hi; simp [hm, hv]
        · have : (i < k + 1) = (i < k) := by rw [eq_iff_iff]; omega
          simp only [this]; exact ⟨trivial, trivial⟩
    · have e : cubeTo b (k + 1) = cubeTo b k ++ [⟨(k : Int), (b.v k : Int), (b.m k : Int)⟩] := by simp only [cubeTo]; rw [if_neg hm]
      have hk0 : 1 ≤ k := by
        rcases Nat.eq_zero_or_pos k with h | h
        · subst h; exact absurd hb.m0 hm
        · exact h
      rw [show CubeW b (k + 1) = CubeW b (k + 1) from rfl]
      refine ⟨?_, ?_, ?_, fun i => ?_⟩
      · rw [e]
        intro t ht
        rcases List.mem_append.1 ht with ht | ht
        · exact h1 t ht
        · rw [List.mem_singleton.1 ht]
          have := hb.ok k
          show (0 : Int) ≤ (b.v k : Int) ∧ (b.v k : Int) < 18446744073709551616 ∧ (0 : Int) ≤ (b.m k : Int) ∧ (b.m k : Int) < 18446744073709551616
          omega
      · rw [e, wholeC_snoc, h2, Bool.true_and, tOK_iff]
        refine ⟨⟨?_, ?_, ?_⟩, ?_, ?_⟩
        · show (1 : Int) ≤ k; omega
        · show (k : Int) < 10; omega
        · show (b.v k : Int).toNat &&& (18446744073709551615 - (b.m k : Int).toNat) = 0
          exact and_of_sub (hb.ok k).1 (hb.ok k).2 (hb.sub k)
        · show (b.m k : Int) ≠ 0; omega
        · show lastF _ _ < (k : Int)
          rcases h3.2 with h | h <;> omega
      · rw [e, List.length_append, List.length_singleton, lastF_succ, atT_last]
        exact ⟨by show (0 : Int) ≤ k; omega, .inl (by show (k : Int) < ((k + 1 : Nat) : Int); omega)⟩
      · rw [e, boxC_snoc]
        obtain ⟨g1, g2⟩ := h4 i
        show upd (boxC (cubeTo b k)).m k (b.m k) i = _ ∧ upd (boxC (cubeTo b k)).v k (b.v k) i = _
        by_cases hi : i = k
        · subst hi; rw [upd_same, upd_same, if_pos (by omega), if_pos (by omega)]; exact ⟨rfl, rfl⟩
        · have : (i < k + 1) = (i < k) := by rw [eq_iff_iff]; omega
          rw [upd_ne _ _ hi, upd_ne _ _ hi, g1, g2]
          simp only [this]; exact ⟨trivial, trivial⟩
theorem cubeL_ok {b : Bx} (hb : Nb b) : okC (cubeL b) := (cubeW hb 10 (Nat.le_refl _)).ok
theorem cubeL_whole {b : Bx} (hb : Nb b) : wholeC (cubeL b) = true := (cubeW hb 10 (Nat.le_refl _)).whole
/-- Two boxes that ask the same of the ten fields. -/
def SameB (a b : Bx) : Prop := ∀ i, i < 10 → a.m i = b.m i ∧ a.v i = b.v i
theorem cubeL_box {b : Bx} (hb : Nb b) : SameB (boxC (cubeL b)) b := fun i hi => by
  have := (cubeW hb 10 (Nat.le_refl _)).box i
  rw [if_pos hi, if_pos hi] at this
  exact this
theorem SameB.meetX {a b c d : Bx} (h : SameB a b) (k : SameB c d) : SameB (meetX a c) (meetX b d) := fun i hi => by
  rw [meetX_m _ _ hi, meetX_m _ _ hi, meetX_v _ _ hi, meetX_v _ _ hi, (h i hi).1, (h i hi).2, (k i hi).1, (k i hi).2]
  exact ⟨rfl, rfl⟩
theorem SameB.cube {a b : Bx} (h : SameB a b) : cubeL a = cubeL b := by
  have : ∀ k, k ≤ 10 → cubeTo a k = cubeTo b k := by
    intro k
    induction k with
    | zero => intro _; rfl
    | succ k ih => intro hk; simp only [cubeTo]; rw [ih (by omega), (h k (by omega)).1, (h k (by omega)).2]
  exact this 10 (Nat.le_refl _)
/-! ### Lists of boxes -/
/-- The k-th of some cubes. -/
def atC (l : List (List S47)) (k : Nat) : List S47 := l.getD k []
theorem atC_map (l : List Bx) {k : Nat} (h : k < l.length) : atC (l.map cubeL) k = cubeL (atB l k) := by
  unfold atC atB
  rw [List.getD_eq_getElem?_getD, List.getElem?_map, List.getD_eq_getElem?_getD, List.getElem?_eq_getElem h]; rfl
end Go.Proofs.Ytmhjnfkhfjejeaa
