import Derived.Test.YtmhjnfkhfjejeaaZ2P1
import Derived.Test.YtmhjnfkhfjejeaaZ2H1
namespace Go.Proofs.Ytmhjnfkhfjejeaa
set_option linter.unusedVariables false
set_option linter.unusedSimpArgs false
open PPredCubes
/-! ### Cubes and their boxes -/
theorem sub_of_and {v m : Nat} (hm : m < 18446744073709551616) (hv : v < 18446744073709551616) (h : v &&& (18446744073709551615 - m) = 0) (k : Nat) (hk : v.testBit k = true) : m.testBit k = true := by
  have h1 : (v &&& (18446744073709551615 - m)).testBit k = false := by rw [h]; simp
  rw [Nat.testBit_and, hk, Bool.true_and] at h1
  by_cases h64 : k < 64
  · rw [tb_not _ _ hm h64] at h1; simpa using h1
  · rw [Nat.testBit_lt_two_pow (Nat.lt_of_lt_of_le hv (by
      have : 2 ^ 64 ≤ 2 ^ k := Nat.pow_le_pow_right (by omega) (by omega)
      omega))] at hk
    cases hk
theorem and_of_sub {v m : Nat} (hm : m < 18446744073709551616) (hv : v < 18446744073709551616) (h : ∀ k, v.testBit k = true → m.testBit k = true) : v &&& (18446744073709551615 - m) = 0 := by
  rw [teq]; intro k
  rw [Nat.testBit_and]
  by_cases h64 : k < 64
  · rw [tb_not _ _ hm h64]
    cases hk : v.testBit k with
    | false => simp
    | true => rw [h k hk]; simp
  · rw [Nat.testBit_lt_two_pow (x := v) (Nat.lt_of_lt_of_le hv (by
      have : 2 ^ 64 ≤ 2 ^ k := Nat.pow_le_pow_right (by omega) (by omega)
      omega))]
    simp
theorem upd_same (m : Nat → Nat) (i x : Nat) : upd m i x i = x := by unfold upd; rw [if_pos rfl]
theorem upd_ne (m : Nat → Nat) {i j : Nat} (x : Nat) (h : j ≠ i) : upd m i x j = m j := by unfold upd; rw [if_neg h]
/-- A box with a test's bits put into a field that it did not ask. -/
theorem Nb_upd {b : Bx} (hb : Nb b) {f v m : Nat} (hf : 1 ≤ f) (hv : v < 18446744073709551616) (hm : m < 18446744073709551616) (h : v &&& (18446744073709551615 - m) = 0) : Nb ⟨upd b.m f m, upd b.v f v⟩ := by
  refine ⟨fun i => ⟨upd_lt (fun i => (hb.ok i).1) hm i, upd_lt (fun i => (hb.ok i).2) hv i⟩, fun i k => ?_, ?_⟩
  · show (upd b.v f v i).testBit k = true → (upd b.m f m i).testBit k = true
    by_cases hi : i = f
    · subst hi; rw [upd_same, upd_same]; exact sub_of_and hm hv h k
    · rw [upd_ne _ _ hi, upd_ne _ _ hi]; exact hb.sub i k
  · show upd b.m f m 0 = 0
    rw [upd_ne _ _ (by omega)]; exact hb.m0
theorem inBb_upd {b : Bx} {f v m : Nat} (hf : f < 10) (h0 : b.m f = 0) (h1 : b.v f = 0) (x : List Nat) : inBb ⟨upd b.m f m, upd b.v f v⟩ x = (inBb b x && (at0 x f &&& m == v)) := by
  rw [Bool.eq_iff_iff, Bool.and_eq_true, inBb_iff, inBb_iff, beq_iff_eq]
  constructor
  · intro h
    refine ⟨fun i hi => ?_, ?_⟩
    · by_cases hif : i = f
      · subst hif; rw [h0, h1]; simp
      · have := h i hi
        simpa [upd_ne _ _ hif] using this
    · have := h f hf
      simpa [upd_same] using this
  · rintro ⟨h2, h3⟩ i hi
    show at0 x i &&& upd b.m f m i = upd b.v f v i
    by_cases hif : i = f
    · subst hif; rw [upd_same, upd_same]; exact h3
    · rw [upd_ne _ _ hif, upd_ne _ _ hif]; exact h2 i hi
theorem lastF_succ (c : List S47) (k : Nat) : lastF c (k + 1) = (atT c k).f0 := by unfold lastF; rw [if_neg (by omega), Nat.add_sub_cancel]
/-- The boxes of a whole cube's first tests. -/
structure BoxW (c : List S47) (k : Nat) : Prop where
  nb : Nb (boxTo c k)
  high : ∀ i : Nat, lastF c k < (i : Int) → (boxTo c k).m i = 0 ∧ (boxTo c k).v i = 0
  last : 0 ≤ lastF c k ∧ lastF c k < 10
theorem boxW {c : List S47} (hc : okC c) : ∀ k, wholeTo c k = true → BoxW c k := by
  intro k
  induction k with
  | zero => intro _; exact ⟨Nb_z, fun i _ => ⟨rfl, rfl⟩, by simp [lastF]⟩
  | succ k ih =>
    intro h
    simp only [wholeTo, Bool.and_eq_true] at h
    obtain ⟨h1, h2, h3⟩ := ih h.1
    obtain ⟨f, v, m, e, hv, hm⟩ := okT_nat (okC_at hc k)
    obtain ⟨⟨g1, g2, g3⟩, g4, g5⟩ := (tOK_iff _ _).1 h.2
    rw [e] at g1 g2 g3 g4 g5
    obtain ⟨fn, rfl⟩ := Int.eq_ofNat_of_zero_le (show 0 ≤ f by have : (1 : Int) ≤ f := g1; omega)
    have hl : lastF c (k + 1) = (fn : Int) := by rw [lastF_succ, e]
    have e1 : boxTo c (k + 1) = ⟨upd (boxTo c k).m fn m, upd (boxTo c k).v fn v⟩ := by
      simp only [boxTo]; rw [e]; simp
    refine ⟨?_, fun i hi => ?_, ?_⟩
    · rw [e1]
      exact Nb_upd h1 (by have : (1 : Int) ≤ fn := g1; omega) hv hm (by simpa using g3)
    · rw [hl] at hi
      have hne : i ≠ fn := by omega
      have := h2 i (by have : lastF c k < (fn : Int) := g5; omega)
      rw [e1]
      exact ⟨(upd_ne _ _ hne).trans this.1, (upd_ne _ _ hne).trans this.2⟩
    · rw [hl]
      have : (fn : Int) < 10 := g2
      omega
theorem boxC_Nb {c : List S47} (hc : okC c) (h : wholeC c = true) : Nb (boxC c) := (boxW hc _ h).nb
/-! #### the cube of a box -/
theorem atT_left {c : List S47} (t : S47) {k : Nat} (h : k < c.length) : atT (c ++ [t]) k = atT c k := by
  unfold atT; rw [List.getD_eq_getElem?_getD, List.getElem?_append_left h, ← List.getD_eq_getElem?_getD]
theorem atT_last (c : List S47) (t : S47) : atT (c ++ [t]) c.length = t := by
  unfold atT; rw [List.getD_eq_getElem?_getD, List.getElem?_append_right (Nat.le_refl _)]; simp
theorem lastF_left {c : List S47} (t : S47) {k : Nat} (h : k ≤ c.length) : lastF (c ++ [t]) k = lastF c k := by
  unfold lastF; split
  · rfl
  · rw [atT_left t (by omega)]
theorem wholeTo_left {c : List S47} (t : S47) : ∀ k, k ≤ c.length → wholeTo (c ++ [t]) k = wholeTo c k := by
  intro k
  induction k with
  | zero => intro _; rfl
  | succ k ih => intro h; simp only [wholeTo]; rw [ih (by omega), atT_left t (by omega), lastF_left t (by omega)]
theorem boxTo_left {c : List S47} (t : S47) : ∀ k, k ≤ c.length → boxTo (c ++ [t]) k = boxTo c k := by
  intro k
  induction k with
  | zero => intro _; rfl
  | succ k ih => intro h; simp only [boxTo]; rw [ih (by omega), atT_left t (by omega)]
theorem wholeC_snoc (c : List S47) (t : S47) : wholeC (c ++ [t]) = (wholeC c && tOK t (lastF c c.length)) := by
  unfold wholeC
  rw [List.length_append, List.length_singleton]
  simp only [wholeTo]
  rw [wholeTo_left t _ (Nat.le_refl _), atT_last, lastF_left t (Nat.le_refl _)]
theorem boxC_snoc (c : List S47) (t : S47) : boxC (c ++ [t]) = ⟨upd (boxC c).m t.f0.toNat t.f2.toNat, upd (boxC c).v t.f0.toNat t.f1.toNat⟩ := by
  unfold boxC
  rw [List.length_append, List.length_singleton]
  simp only [boxTo]
  rw [boxTo_left t _ (Nat.le_refl _), atT_last]
structure CubeW (b : Bx) (k : Nat) : Prop where
  ok : okC (cubeTo b k)
  whole : wholeC (cubeTo b k) = true
  last : 0 ≤ lastF (cubeTo b k) (cubeTo b k).length ∧ (lastF (cubeTo b k) (cubeTo b k).length < k ∨ k = 0)
  box : ∀ i, (boxC (cubeTo b k)).m i = (if i < k then b.m i else 0) ∧ (boxC (cubeTo b k)).v i = (if i < k then b.v i else 0)
theorem Nb.v_zero {b : Bx} (h : Nb b) {i : Nat} (hm : b.m i = 0) : b.v i = 0 := by
  rw [teq]; intro k
  cases hk : (b.v i).testBit k with
  | false => simp
  | true => have := h.sub i k hk; rw [hm] at this; simp at this
theorem cubeW {b : Bx} (hb : Nb b) : ∀ k, k ≤ 10 → CubeW b k := by
  intro k
  induction k with
  | zero => intro _; exact ⟨(fun t ht => by cases ht), rfl, ⟨by simp [cubeTo, lastF], .inr rfl⟩, fun i => ⟨by simp [cubeTo, boxC, boxTo, z67], by simp [cubeTo, boxC, boxTo, z67]⟩⟩
  | succ k ih =>
    intro hk
    obtain ⟨h1, h2, h3, h4⟩ := ih (by omega)
    by_cases hm : b.m k = 0
    · have e : cubeTo b (k + 1) = cubeTo b k := by simp only [cubeTo]; rw [if_pos hm]
      have hv := hb.v_zero hm
      rw [← e] at h1 h2 h3 h4
      refine ⟨h1, h2, ⟨h3.1, .inl ?_⟩, fun i => ?_⟩
      · rcases h3.2 with h | h
        · omega
        · subst h; rw [e]; simp [cubeTo, lastF]
      · obtain ⟨g1, g2⟩ := h4 i
        rw [g1, g2]
        by_cases hi : i = k
        · subst hi; simp [hm, hv]
        · have : (i < k + 1) = (i < k) := by rw [eq_iff_iff]; omega
          simp only [this]; exact ⟨trivial, trivial⟩
    · have e : cubeTo b (k + 1) = cubeTo b k ++ [⟨(k : Int), (b.v k : Int), (b.m k : Int)⟩] := by simp only [cubeTo]; rw [if_neg hm]
      have hk0 : 1 ≤ k := by
        rcases Nat.eq_zero_or_pos k with h | h
        · subst h; exact absurd hb.m0 hm
        · exact h
      rw [show CubeW b (k + 1) = CubeW b (k + 1) from rfl]
      refine ⟨?_, ?_, ?_, fun i => ?_⟩
      · rw [e]
        intro t ht
        rcases List.mem_append.1 ht with ht | ht
        · exact h1 t ht
        · rw [List.mem_singleton.1 ht]
          have := hb.ok k
          show (0 : Int) ≤ (b.v k : Int) ∧ (b.v k : Int) < 18446744073709551616 ∧ (0 : Int) ≤ (b.m k : Int) ∧ (b.m k : Int) < 18446744073709551616
          omega
      · rw [e, wholeC_snoc, h2, Bool.true_and, tOK_iff]
        refine ⟨⟨?_, ?_, ?_⟩, ?_, ?_⟩
        · show (1 : Int) ≤ k; omega
        · show (k : Int) < 10; omega
        · show (b.v k : Int).toNat &&& (18446744073709551615 - (b.m k : Int).toNat) = 0
          exact and_of_sub (hb.ok k).1 (hb.ok k).2 (hb.sub k)
        · show (b.m k : Int) ≠ 0; omega
        · show lastF _ _ < (k : Int)
          rcases h3.2 with h | h <;> omega
      · rw [e, List.length_append, List.length_singleton, lastF_succ, atT_last]
        exact ⟨by show (0 : Int) ≤ k; omega, .inl (by show (k : Int) < ((k + 1 : Nat) : Int); omega)⟩
      · rw [e, boxC_snoc]
        obtain ⟨g1, g2⟩ := h4 i
        show upd (boxC (cubeTo b k)).m k (b.m k) i = _ ∧ upd (boxC (cubeTo b k)).v k (b.v k) i = _
        by_cases hi : i = k
        · subst hi; rw [upd_same, upd_same, if_pos (by omega), if_pos (by omega)]; exact ⟨rfl, rfl⟩
        · have : (i < k + 1) = (i < k) := by rw [eq_iff_iff]; omega
          rw [upd_ne _ _ hi, upd_ne _ _ hi, g1, g2]
          simp only [this]; exact ⟨trivial, trivial⟩
theorem cubeL_ok {b : Bx} (hb : Nb b) : okC (cubeL b) := (cubeW hb 10 (Nat.le_refl _)).ok
theorem cubeL_whole {b : Bx} (hb : Nb b) : wholeC (cubeL b) = true := (cubeW hb 10 (Nat.le_refl _)).whole
/-- Two boxes that ask the same of the ten fields. -/
def SameB (a b : Bx) : Prop := ∀ i, i < 10 → a.m i = b.m i ∧ a.v i = b.v i
theorem cubeL_box {b : Bx} (hb : Nb b) : SameB (boxC (cubeL b)) b := fun i hi => by
  have := (cubeW hb 10 (Nat.le_refl _)).box i
  rw [if_pos hi, if_pos hi] at this
  exact this
theorem SameB.pick {a b : Bx} (h : SameB a b) : pickB a = pickB b := by
  unfold pickB
  rw [(h 0 (by omega)).2, (h 1 (by omega)).2, (h 2 (by omega)).2, (h 3 (by omega)).2, (h 4 (by omega)).2, (h 5 (by omega)).2, (h 6 (by omega)).2, (h 7 (by omega)).2, (h 8 (by omega)).2, (h 9 (by omega)).2]
theorem SameB.meet {a b c d : Bx} (h : SameB a b) (k : SameB c d) : meetB a c = meetB b d := by
  rw [Bool.eq_iff_iff, meetB_iff, meetB_iff]
  constructor
  · intro g i hi; rw [← (h i hi).1, ← (h i hi).2, ← (k i hi).1, ← (k i hi).2]; exact g i hi
  · intro g i hi; rw [(h i hi).1, (h i hi).2, (k i hi).1, (k i hi).2]; exact g i hi
theorem SameB.meetX {a b c d : Bx} (h : SameB a b) (k : SameB c d) : SameB (meetX a c) (meetX b d) := fun i hi => by
  rw [meetX_m _ _ hi, meetX_m _ _ hi, meetX_v _ _ hi, meetX_v _ _ hi, (h i hi).1, (h i hi).2, (k i hi).1, (k i hi).2]
  exact ⟨rfl, rfl⟩
theorem SameB.cube {a b : Bx} (h : SameB a b) : cubeL a = cubeL b := by
  have : ∀ k, k ≤ 10 → cubeTo a k = cubeTo b k := by
    intro k
    induction k with
    | zero => intro _; rfl
    | succ k ih => intro hk; simp only [cubeTo]; rw [ih (by omega), (h k (by omega)).1, (h k (by omega)).2]
  exact this 10 (Nat.le_refl _)
theorem cubeL_meetOk {a b : Bx} (ha : Nb a) (hb : Nb b) : meetOk (cubeL a) (cubeL b) = meetB a b := by
  unfold meetOk; rw [cubeL_whole ha, cubeL_whole hb, (cubeL_box ha).meet (cubeL_box hb)]; rfl
theorem cubeL_meetC {a b : Bx} (ha : Nb a) (hb : Nb b) (h : meetB a b = true) : meetC (cubeL a) (cubeL b) = cubeL (meetX a b) := by
  unfold meetC; rw [cubeL_meetOk ha hb, h, if_pos rfl, ((cubeL_box ha).meetX (cubeL_box hb)).cube]
/-! ### Lists of boxes -/
def NbL (l : List Bx) : Prop := ∀ b ∈ l, Nb b
theorem NbL_nil : NbL [] := fun b h => by cases h
theorem NbL_app {l m : List Bx} (h : NbL l) (k : NbL m) : NbL (l ++ m) := fun b hb => (List.mem_append.1 hb).elim (h b) (k b)
theorem NbL_one {b : Bx} (h : Nb b) : NbL [b] := fun a ha => by rw [List.mem_singleton.1 ha]; exact h
theorem NbL_at {l : List Bx} (h : NbL l) (k : Nat) : Nb (atB l k) := by
  unfold atB
  rw [List.getD_eq_getElem?_getD]
  rcases Nat.lt_or_ge k l.length with h1 | h1
  · rw [List.getElem?_eq_getElem h1]; exact h _ (List.getElem_mem h1)
  · rw [List.getElem?_eq_none h1]; exact Nb_z
theorem take_atB {l : List Bx} {k : Nat} (h : k < l.length) : l.take (k + 1) = l.take k ++ [atB l k] := by
  rw [List.take_succ_eq_append_getElem h]
  congr 2
  unfold atB; rw [List.getD_eq_getElem?_getD, List.getElem?_eq_getElem h]; rfl
theorem cntB_take {l : List Bx} {k : Nat} (h : k < l.length) (x : List Nat) : cntB (l.take (k + 1)) x = cntB (l.take k) x + cnt1 (atB l k) x := by rw [take_atB h, cntB_app, cntB_one]
theorem leftTo_Nb {l : List Bx} {o : Bx} (h : NbL l) (ho : Nb o) (k : Nat) : NbL (leftTo l o k) := by
  induction k with
  | zero => exact NbL_nil
  | succ k ih => exact NbL_app ih (cutL_Nb (NbL_at h k) ho)
theorem leftTo_cnt {l : List Bx} {o : Bx} (h : NbL l) (ho : Nb o) (x : List Nat) : ∀ k, k ≤ l.length → cntB (leftTo l o k) x = if inBb o x then 0 else cntB (l.take k) x := by
  intro k
  induction k with
  | zero => intro _; simp [leftTo, cntB]
  | succ k ih =>
    intro hk
    simp only [leftTo]
    rw [cntB_app, ih (by omega), cutL_cnt (NbL_at h k) ho, cntB_take (by omega)]
    unfold cnt1
    cases inBb o x <;> cases inBb (atB l k) x <;> simp
theorem leftL_cnt {l : List Bx} {o : Bx} (h : NbL l) (ho : Nb o) (x : List Nat) : cntB (leftL l o) x = if inBb o x then 0 else cntB l x := by
  unfold leftL; rw [leftTo_cnt h ho x _ (Nat.le_refl _), List.take_length]
theorem wTo_Nb {l os : List Bx} (h : NbL l) (ho : NbL os) (k : Nat) : NbL (wTo l os k) := by
  induction k with
  | zero => exact h
  | succ k ih => exact leftTo_Nb ih (NbL_at ho k) _
theorem wTo_cnt {l os : List Bx} (h : NbL l) (ho : NbL os) (x : List Nat) : ∀ k, k ≤ os.length → cntB (wTo l os k) x = if cntB (os.take k) x = 0 then cntB l x else 0 := by
  intro k
  induction k with
  | zero => intro _; simp [wTo, cntB]
  | succ k ih =>
    intro hk
    simp only [wTo]
    rw [leftL_cnt (wTo_Nb h ho k) (NbL_at ho k), ih (by omega), cntB_take (by omega)]
    unfold cnt1
    cases inBb (atB os k) x <;> simp
theorem withL_Nb {l os : List Bx} (h : NbL l) (ho : NbL os) : NbL (withL l os) := by
  unfold withL; split
  · exact wTo_Nb h ho _
  · exact NbL_nil
theorem withL_cnt {l os : List Bx} (h : NbL l) (ho : NbL os) (hk : withOk l os = true) (x : List Nat) : cntB (withL l os) x = if cntB os x = 0 then cntB l x else 0 := by
  rw [withL_yes hk, wTo_cnt h ho x _ (Nat.le_refl _), List.take_length]
theorem meetRow_Nb {a : Bx} {bs : List Bx} (ha : Nb a) (hb : NbL bs) (j : Nat) : NbL (meetRow a bs j) := by
  induction j with
  | zero => exact NbL_nil
  | succ j ih =>
    simp only [meetRow]; split
    · exact NbL_app ih (NbL_one (Nb_meet ha (NbL_at hb j)))
    · exact ih
theorem meetRow_cnt {a : Bx} {bs : List Bx} (ha : Nb a) (hb : NbL bs) (x : List Nat) : ∀ j, j ≤ bs.length → cntB (meetRow a bs j) x = cnt1 a x * cntB (bs.take j) x := by
  intro j
  induction j with
  | zero => intro _; simp [meetRow, cntB]
  | succ j ih =>
    intro hj
    simp only [meetRow]
    rw [cntB_take (by omega), Nat.mul_add]
    cases hm : meetB a (atB bs j) with
    | true =>
      rw [if_pos rfl, cntB_app, ih (by omega), cntB_one]
      congr 1
      unfold cnt1
      rw [meet_in ha (NbL_at hb j) hm]
      cases inBb a x <;> cases inBb (atB bs j) x <;> simp
    | false =>
      rw [if_neg (by simp), ih (by omega)]
      have : cnt1 a x * cnt1 (atB bs j) x = 0 := by
        unfold cnt1
        cases h1 : inBb a x with
        | false => simp
        | true =>
          cases h2 : inBb (atB bs j) x with
          | false => simp
          | true => rw [meet_of_in h1 h2] at hm; cases hm
      omega
theorem bothTo_Nb {l bs : List Bx} (hl : NbL l) (hb : NbL bs) (i : Nat) : NbL (bothTo l bs i) := by
  induction i with
  | zero => exact NbL_nil
  | succ i ih => exact NbL_app ih (meetRow_Nb (NbL_at hl i) hb _)
theorem bothTo_cnt {l bs : List Bx} (hl : NbL l) (hb : NbL bs) (x : List Nat) : ∀ i, i ≤ l.length → cntB (bothTo l bs i) x = cntB (l.take i) x * cntB bs x := by
  intro i
  induction i with
  | zero => intro _; simp [bothTo, cntB]
  | succ i ih =>
    intro hi
    simp only [bothTo]
    rw [cntB_app, ih (by omega), meetRow_cnt (NbL_at hl i) hb x _ (Nat.le_refl _), List.take_length, cntB_take (by omega), Nat.add_mul]
theorem bothL_cnt {l bs : List Bx} (hl : NbL l) (hb : NbL bs) (x : List Nat) : cntB (bothL l bs) x = cntB l x * cntB bs x := by
  unfold bothL; rw [bothTo_cnt hl hb x _ (Nat.le_refl _), List.take_length]
/-- What the lists ahead are: the parts of what is said ahead. -/
def Parts (hs : List (List Bx)) (said : List Bool) (x : List Nat) : Prop := ∀ i, NbL (rowAt hs i) ∧ cntB (rowAt hs i) x = if atS said i then 1 else 0
theorem take_any (subs : List Int) (p : Int → Bool) {k : Nat} (h : k < subs.length) : (subs.take (k + 1)).any p = ((subs.take k).any p || p (subs.getD k 0)) := by
  rw [List.take_add_one, List.getElem?_eq_getElem h, List.getD_eq_getElem?_getD, List.getElem?_eq_getElem h, List.any_append]
  simp
theorem allTo_Nb {subs : List Int} {hs : List (List Bx)} {said : List Bool} {x : List Nat} (h : Parts hs said x) (k : Nat) : NbL (allTo subs hs k) := by
  induction k with
  | zero => exact NbL_one Nb_z
  | succ k ih => exact bothTo_Nb ih (h _).1 _
theorem inBb_z (x : List Nat) : inBb z67 x = true := by
  rw [inBb_iff]; intro i _; show at0 x i &&& 0 = 0; simp
theorem allTo_cnt {subs : List Int} {hs : List (List Bx)} {said : List Bool} {x : List Nat} (h : Parts hs said x) : ∀ k, k ≤ subs.length → cntB (allTo subs hs k) x = if (subs.take k).any (fun s => !atS said s.toNat) then 0 else 1 := by
  intro k
  induction k with
  | zero => intro _; simp [allTo, cntB, cnt1, inBb_z]
  | succ k ih =>
    intro hk
    simp only [allTo]
    rw [bothL_cnt (allTo_Nb h k) (h _).1, ih (by omega), take_any subs _ (by omega), (h _).2]
    unfold subAt
    cases (subs.take k).any fun s => !atS said s.toNat <;> cases atS said (subs.getD k 0).toNat <;> simp
theorem anyTo_Nb {subs : List Int} {hs : List (List Bx)} {said : List Bool} {x : List Nat} (h : Parts hs said x) (k : Nat) : NbL (anyTo subs hs k) := by
  induction k with
  | zero => exact NbL_nil
  | succ k ih => exact NbL_app ih (withL_Nb (h _).1 ih)
theorem anyTo_cnt {subs : List Int} {hs : List (List Bx)} {said : List Bool} {x : List Nat} (h : Parts hs said x) : ∀ k, k ≤ subs.length → anyOk subs hs k = true → cntB (anyTo subs hs k) x = if (subs.take k).any (fun s => atS said s.toNat) then 1 else 0 := by
  intro k
  induction k with
  | zero => intro _ _; simp [anyTo, cntB]
  | succ k ih =>
    intro hk ho
    simp only [anyOk, Bool.and_eq_true] at ho
    simp only [anyTo]
    rw [cntB_app, withL_cnt (h _).1 (anyTo_Nb h k) ho.2.1, ih (by omega) ho.1, take_any subs _ (by omega), (h _).2]
    unfold subAt
    cases (subs.take k).any fun s => atS said s.toNat <;> cases atS said (subs.getD k 0).toNat <;> simp
theorem isBox_Nb {t : S47} (ht : okT t) (h : tstB t = true) : Nb (isBox t) := by
  obtain ⟨f, v, m, rfl, hv, hm⟩ := okT_nat ht
  obtain ⟨h1, h2, h3⟩ := (testB_iff _ _ _).1 h
  obtain ⟨fn, rfl⟩ := Int.eq_ofNat_of_zero_le (show 0 ≤ f by have : (1 : Int) ≤ f := h1; omega)
  have := Nb_upd Nb_z (f := fn) (v := v) (m := m) (by have : (1 : Int) ≤ fn := h1; omega) hv hm (by simpa using h3)
  simpa [isBox] using this
theorem isBox_in {t : S47} (ht : okT t) (h : tstB t = true) (x : List Nat) : inBb (isBox t) x = holdT x t := by
  obtain ⟨f, v, m, rfl, hv, hm⟩ := okT_nat ht
  obtain ⟨h1, h2, h3⟩ := (testB_iff _ _ _).1 h
  obtain ⟨fn, rfl⟩ := Int.eq_ofNat_of_zero_le (show 0 ≤ f by have : (1 : Int) ≤ f := h1; omega)
  have := inBb_upd (b := z67) (f := fn) (v := v) (m := m) (by have : (fn : Int) < 10 := h2; omega) rfl rfl x
  rw [inBb_z, Bool.true_and] at this
  have e : isBox ⟨(fn : Int), (v : Int), (m : Int)⟩ = ⟨upd z67.m fn m, upd z67.v fn v⟩ := by simp [isBox]
  rw [e, this]
  unfold holdT holdsB
  rw [Bool.eq_iff_iff]; simp
/-- A node's boxes are its parts. -/
theorem node_parts {n : S52} {i : Nat} {hs : List (List Bx)} {said : List Bool} {x : List Nat} (hn : NodeR n i) (ht : okT n.f1) (h : Parts hs said x) (ho : nodeOk n hs = true) :
    NbL (nodeL n hs) ∧ cntB (nodeL n hs) x = if sayN n said x then 1 else 0 := by
  obtain ⟨kd, t, sb⟩ := n
  obtain ⟨hk1, hk2⟩ : 1 ≤ kd ∧ kd ≤ 6 := hn.kind
  have hk : kd = 1 ∨ kd = 2 ∨ kd = 3 ∨ kd = 4 ∨ kd = 5 ∨ kd = 6 := by omega
  rcases hk with rfl | rfl | rfl | rfl | rfl | rfl
  · exact ⟨NbL_one Nb_z, by simp [nodeL, sayN, cntB, cnt1, inBb_z]⟩
  · exact ⟨NbL_nil, by simp [nodeL, sayN, cntB]⟩
  · have htst : tstB t = true := hn.test rfl
    refine ⟨NbL_one (isBox_Nb ht htst), ?_⟩
    have e : nodeL ⟨3, t, sb⟩ hs = [isBox t] := by simp [nodeL]
    have e2 : sayN ⟨3, t, sb⟩ said x = holdT x t := by simp [sayN, holdT]
    rw [e, e2, cntB_one]
    unfold cnt1
    rw [isBox_in ht htst]
  · have e : nodeOk ⟨4, t, sb⟩ hs = allOk sb hs sb.length := by simp [nodeOk, joinOk]
    rw [e] at ho
    have e2 : nodeL ⟨4, t, sb⟩ hs = allTo sb hs sb.length := by simp [nodeL, joinL, ho]
    have e3 : sayN ⟨4, t, sb⟩ said x = !(sb.any fun s => !atS said s.toNat) := by simp [sayN]
    rw [e2, e3]
    refine ⟨allTo_Nb h _, ?_⟩
    rw [allTo_cnt h _ (Nat.le_refl _), List.take_length]
    cases sb.any fun s => !atS said s.toNat <;> simp
  · have e : nodeOk ⟨5, t, sb⟩ hs = anyOk sb hs sb.length := by simp [nodeOk, joinOk]
    rw [e] at ho
    have e2 : nodeL ⟨5, t, sb⟩ hs = anyTo sb hs sb.length := by simp [nodeL, joinL, ho]
    have e3 : sayN ⟨5, t, sb⟩ said x = (sb.any fun s => atS said s.toNat) := by simp [sayN]
    rw [e2, e3]
    refine ⟨anyTo_Nb h _, ?_⟩
    rw [anyTo_cnt h _ (Nat.le_refl _) ho, List.take_length]
  · have e : nodeOk ⟨6, t, sb⟩ hs = withOk [z67] (rowAt hs (subAt sb 0)) := by simp [nodeOk, joinOk]
    rw [e] at ho
    have e2 : nodeL ⟨6, t, sb⟩ hs = withL [z67] (rowAt hs (subAt sb 0)) := by simp [nodeL, joinL]
    have e3 : sayN ⟨6, t, sb⟩ said x = !atS said (subAt sb 0) := by simp [sayN]
    rw [e2, e3]
    refine ⟨withL_Nb (NbL_one Nb_z) (h _).1, ?_⟩
    rw [withL_cnt (NbL_one Nb_z) (h _).1 ho, (h _).2, cntB_one]
    unfold cnt1
    rw [inBb_z]
    cases atS said (subAt sb 0) <;> simp
theorem rowAt_snoc (hs : List (List Bx)) (l : List Bx) (i : Nat) : rowAt (hs ++ [l]) i = if i = hs.length then l else rowAt hs i := by
  unfold rowAt
  rw [List.getD_eq_getElem?_getD, List.getD_eq_getElem?_getD]
  rcases Nat.lt_trichotomy i hs.length with h | h | h
  · rw [List.getElem?_append_left h, if_neg (by omega)]
  · subst h; rw [List.getElem?_append_right (by omega), if_pos rfl]; simp
  · rw [List.getElem?_append_right (by omega), if_neg (by omega), List.getElem?_eq_none (l := hs) (by omega), List.getElem?_eq_none (by simp; omega)]
theorem have_parts {ns : List S52} (hP : okP ns) (hR : rightB ns = true) (x : List Nat) : ∀ k, k ≤ ns.length → haveOk ns k = true → Parts (haveTo ns k) (saidTo ns x k) x := by
  intro k
  induction k with
  | zero => intro _ _ i; exact ⟨by simp [haveTo, rowAt]; exact NbL_nil, by simp [haveTo, rowAt, saidTo, atS, cntB]⟩
  | succ k ih =>
    intro hk ho
    simp only [haveOk, Bool.and_eq_true] at ho
    have h := ih (by omega) ho.1
    have hn := node_parts (x := x) ((nodeB_iff _ _).1 (rightB_at hR (by omega : k < ns.length))) (okP_at hP k) h ho.2
    intro i
    rw [saidTo_at]
    simp only [haveTo]
    rw [rowAt_snoc, haveTo_len]
    by_cases hi : i = k
    · rw [if_pos hi, if_pos hi]; exact hn
    · rw [if_neg hi, if_neg hi]; exact h i
/-- THE PARTS: of any values just one box has them in it where the predicate is true, none elsewhere. -/
theorem boxes_parts {ns : List S52} (hP : okP ns) (hR : rightB ns = true) (hO : boxesOk ns = true) (x : List Nat) : NbL (boxesL ns) ∧ cntB (boxesL ns) x = if evalB ns x then 1 else 0 := by
  have h := have_parts hP hR x ns.length (Nat.le_refl _) hO (ns.length - 1)
  unfold boxesL evalB
  rw [hO, hR, if_pos rfl, Bool.true_and]
  exact h
theorem cubesTo_map (l : List Bx) : ∀ k, k ≤ l.length → cubesTo l k = (l.take k).map cubeL := by
  intro k
  induction k with
  | zero => intro _; rfl
  | succ k ih => intro hk; simp only [cubesTo]; rw [ih (by omega), take_atB (by omega), List.map_append]; rfl
theorem cubesL_map {ns : List S52} (hR : rightB ns = true) (hO : boxesOk ns = true) : cubesL ns = (boxesL ns).map cubeL := by
  unfold cubesL; rw [hR, hO, Bool.true_and, if_pos rfl, cubesTo_map _ _ (Nat.le_refl _), List.take_length]
/-- The k-th of some cubes. -/
def atC (l : List (List S47)) (k : Nat) : List S47 := l.getD k []
theorem atC_map (l : List Bx) {k : Nat} (h : k < l.length) : atC (l.map cubeL) k = cubeL (atB l k) := by
  unfold atC atB
  rw [List.getD_eq_getElem?_getD, List.getElem?_map, List.getD_eq_getElem?_getD, List.getElem?_eq_getElem h]; rfl
/-- At most 128 boxes. -/
theorem withL_len {l os : List Bx} (h : withOk l os = true) (hl : l.length ≤ 128) : (withL l os).length ≤ 128 := by
  rw [withL_yes h]
  rcases Nat.eq_zero_or_pos os.length with h0 | h0
  · rw [h0]; exact hl
  · obtain ⟨k, hk⟩ : ∃ k, os.length = k + 1 := ⟨_, (Nat.sub_add_cancel h0).symm⟩
    unfold withOk at h
    rw [hk] at h ⊢
    simp only [wOk, Bool.and_eq_true] at h
    exact of_decide_eq_true h.2
theorem nodeL_len {n : S52} {hs : List (List Bx)} (h : nodeOk n hs = true) : (nodeL n hs).length ≤ 128 := by
  unfold nodeL
  unfold nodeOk at h
  split
  · simp
  · split
    · simp
    · split
      · simp
      · rw [if_neg (by omega)] at h
        unfold joinOk at h
        unfold joinL
        split
        · rename_i h6; rw [if_pos h6] at h; exact withL_len h (by simp)
        · rename_i h6
          rw [if_neg h6] at h
          split
          · rename_i h5; rw [if_pos h5] at h; rw [if_pos h]; exact anyOk_len _ h
          · rename_i h5; rw [if_neg h5] at h; rw [if_pos h]; exact allOk_len _ h
theorem have_len {ns : List S52} : ∀ k, haveOk ns k = true → ∀ i, (rowAt (haveTo ns k) i).length ≤ 128 := by
  intro k
  induction k with
  | zero => intro _ i; simp [haveTo, rowAt]
  | succ k ih =>
    intro h i
    simp only [haveOk, Bool.and_eq_true] at h
    simp only [haveTo]
    rw [rowAt_snoc]
    split
    · exact nodeL_len h.2
    · exact ih h.1 i
theorem boxesL_len (ns : List S52) : (boxesL ns).length ≤ 128 := by
  unfold boxesL; split
  · rename_i h; exact have_len _ h _
  · simp
end Go.Proofs.Ytmhjnfkhfjejeaa
