import Derived.Test.YtmhjnfkhfjejeaaZ2P2
import Derived.Test.YtmhjnfkhfjejeaaZ2PPredCubesx6
import Derived.Test.YtmhjnfkhfjejeaaZ2PPredCubesx8
namespace Go.Proofs.Ytmhjnfkhfjejeaa
set_option linter.unusedVariables false
set_option linter.unusedSimpArgs false
open Go.RowKit
open PPredCubes
/-! ### The document's answer on cubes, as boxes: what a cube asks of a field, Meet, SameCube -/
theorem rd_atT (c : List S47) (i : Nat) : rd_T47 c (i : Int) = atT c i := by unfold rd_T47 atT; rw [Int.toNat_natCast]
theorem box_none {c : List S47} (hc : okC c) {f : Nat} : ∀ k, (∀ j, j < k → (atT c j).f0 ≠ (f : Int) ∧ 0 ≤ (atT c j).f0) → (boxTo c k).m f = 0 ∧ (boxTo c k).v f = 0 := by
  intro k
  induction k with
  | zero => intro _; exact ⟨rfl, rfl⟩
  | succ k ih =>
    intro h
    obtain ⟨h1, h2⟩ := h k (by omega)
    have hne : f ≠ (atT c k).f0.toNat := by omega
    simp only [boxTo]
    have := ih fun j hj => h j (by omega)
    exact ⟨(upd_ne _ _ hne).trans this.1, (upd_ne _ _ hne).trans this.2⟩
theorem wholeC_f {c : List S47} (h : wholeC c = true) {k : Nat} (hk : k < c.length) : 1 ≤ (atT c k).f0 ∧ (atT c k).f0 < 10 ∧ lastF c k < (atT c k).f0 := by
  obtain ⟨⟨h1, h2, -⟩, -, h4⟩ := (tOK_iff _ _).1 (wholeC_at h hk)
  exact ⟨h1, h2, h4⟩
theorem box_at {c : List S47} (h : wholeC c = true) (i : Nat) (hi : i < c.length) : ∀ k, i < k → k ≤ c.length → lastF c k ≥ (atT c i).f0 ∧ (boxTo c k).m (atT c i).f0.toNat = (atT c i).f2.toNat ∧ (boxTo c k).v (atT c i).f0.toNat = (atT c i).f1.toNat := by
  intro k
  induction k with
  | zero => intro h0 _; omega
  | succ k ih =>
    intro hik hk
    have hf := wholeC_f h (by omega : k < c.length)
    rcases Nat.lt_or_ge i k with h1 | h1
    · obtain ⟨g1, g2, g3⟩ := ih h1 (by omega)
      have h0 := wholeC_f h hi
      have hne : (atT c i).f0.toNat ≠ (atT c k).f0.toNat := by omega
      simp only [boxTo]
      refine ⟨by rw [lastF_succ]; omega, (upd_ne _ _ hne).trans g2, (upd_ne _ _ hne).trans g3⟩
    · obtain rfl : i = k := by omega
      simp only [boxTo]
      exact ⟨by rw [lastF_succ]; omega, upd_same _ _ _, upd_same _ _ _⟩
/-- What a whole cube asks of a field. -/
theorem asks_l0 {c : List S47} (hc : okC c) (hw : wholeC c = true) (hl : c.length ≤ 9223372036854775807) (f : Nat) (hf : 1 ≤ f) : ∀ d i K, i + d = c.length → (∀ j, j < i → (atT c j).f0 ≠ (f : Int)) →
    droverref16_asks.l0 (d + 1 + K) c f i = some ((f : Int), ((boxC c).v f : Int), ((boxC c).m f : Int)) := by
  intro d
  induction d with
  | zero =>
    intro i K hi h
    rw [show 0 + 1 + K = K + 1 by omega]
    simp only [droverref16_asks.l0]
    rw [if_neg (by omega)]
    have := box_none hc (f := f) c.length fun j hj => ⟨h j (by omega), by have := wholeC_f hw hj; omega⟩
    unfold boxC
    rw [this.1, this.2]
    rfl
  | succ d ih =>
    intro i K hi h
    rw [show d + 1 + 1 + K = (d + 1 + K) + 1 by omega]
    simp only [droverref16_asks.l0]
    rw [if_pos (by omega), if_pos (by omega), rd_atT]
    obtain ⟨g, v, m, e, hv, hm⟩ := okT_nat (okC_at hc i)
    by_cases hq : (atT c i).f0 = (f : Int)
    · rw [if_pos hq]
      have hb := box_at hw i (by omega) c.length (by omega) (Nat.le_refl _)
      unfold boxC
      rw [hq, Int.toNat_natCast, e] at hb
      rw [hb.2.1, hb.2.2, e]
      rw [e] at hq
      have : g = (f : Int) := hq
      subst this
      simp
    · rw [if_neg hq]
      have hwr : wrap64 ((i : Int) + 1) = ((i + 1 : Nat) : Int) := by unfold wrap64; omega
      rw [hwr]
      exact ih (i + 1) K (by omega) fun j hj => by
        rcases Nat.lt_or_ge j i with h1 | h1
        · exact h j h1
        · obtain rfl : j = i := by omega
          exact hq
theorem asks_f {c : List S47} (hc : okC c) (hw : wholeC c = true) (hl : c.length ≤ 9223372036854775807) (f : Nat) (hf : 1 ≤ f) (K : Nat) (hK : c.length + 1 ≤ K) : droverref16_asks.f K c f = some ((f : Int), ((boxC c).v f : Int), ((boxC c).m f : Int)) := by
  obtain ⟨k, rfl⟩ : ∃ k, K = c.length + 1 + k := ⟨K - (c.length + 1), by omega⟩
  exact asks_l0 hc hw hl f hf c.length 0 k (by omega) (fun j hj => by omega)
/-- Do the boxes ask unlike things of a field? -/
theorem bits_cond {A B : Bx} (ha : Nb A) (hb : Nb B) (f : Nat) : (A.v f &&& B.m f = B.v f &&& A.m f) ↔ ∀ k, ((A.v f).testBit k && ((A.m f).testBit k && (B.m f).testBit k)) = ((B.v f).testBit k && ((A.m f).testBit k && (B.m f).testBit k)) := by
  rw [teq]
  constructor
  · intro h k
    have := h k
    rw [Nat.testBit_and, Nat.testBit_and] at this
    have h1 := ha.sub f k
    have h2 := hb.sub f k
    cases hA : (A.m f).testBit k <;> cases hB : (B.m f).testBit k <;> cases hC : (A.v f).testBit k <;> cases hD : (B.v f).testBit k <;> simp_all
  · intro h k
    have := h k
    rw [Nat.testBit_and, Nat.testBit_and]
    have h1 := ha.sub f k
    have h2 := hb.sub f k
    cases hA : (A.m f).testBit k <;> cases hB : (B.m f).testBit k <;> cases hC : (A.v f).testBit k <;> cases hD : (B.v f).testBit k <;> simp_all
theorem small_lt {n : Nat} (h : n ≤ 9) : n < 5864062014805 := Nat.lt_of_le_of_lt h (by decide)
theorem Meet_l0 {a b : List S47} {A B : Bx} (na : Nb A) (nb : Nb B) {N : Nat} (qa : ∀ f : Nat, 1 ≤ f → ∀ K, N ≤ K → droverref16_asks.f K a f = some ((f : Int), (A.v f : Int), (A.m f : Int))) (qb : ∀ f : Nat, 1 ≤ f → ∀ K, N ≤ K → droverref16_asks.f K b f = some ((f : Int), (B.v f : Int), (B.m f : Int))) : ∀ d f K, f + d = 10 → 1 ≤ f → N ≤ K →
    (∀ i, i < f → ∀ k, ((A.v i).testBit k && ((A.m i).testBit k && (B.m i).testBit k)) = ((B.v i).testBit k && ((A.m i).testBit k && (B.m i).testBit k))) →
    droverref16_Meet.l0 (d + 1 + K) a b (cubeTo (meetX A B) f) f = some (if meetB A B then cubeL (meetX A B) else [], meetB A B) := by
  intro d
  induction d with
  | zero =>
    intro f K hf _ _ hco
    obtain rfl : f = 10 := by omega
    rw [show 0 + 1 + K = K + 1 by omega]
    simp only [droverref16_Meet.l0]
    rw [if_neg (by omega)]
    have hm : meetB A B = true := (meetB_iff _ _).2 fun i hi k => hco i hi k
    rw [hm]; rfl
  | succ d ih =>
    intro f K hf hf1 hK hco
    have hf9 : f ≤ 9 := by omega
    rw [show d + 1 + 1 + K = (d + 1 + K) + 1 by omega]
    simp only [droverref16_Meet.l0]
    rw [if_pos (by omega), qa f hf1 _ (by omega), Option.bind_some, qb f hf1 _ (by omega), Option.bind_some]
    have hav := (na.ok f).2
    have ham := (na.ok f).1
    have hbv := (nb.ok f).2
    have hbm := (nb.ok f).1
    have em : (meetX A B).m f = A.m f ||| B.m f := meetX_m A B (i := f) (by omega)
    have ev : (meetX A B).v f = A.v f ||| B.v f := meetX_v A B (i := f) (by omega)
    have hlen := cubeTo_len (meetX A B) f
    have e1 : (meetX A B).m f = 0 → cubeTo (meetX A B) (f + 1) = cubeTo (meetX A B) f := fun h => by simp only [cubeTo]; rw [if_pos h]
    have e2 : (meetX A B).m f ≠ 0 → cubeTo (meetX A B) (f + 1) = cubeTo (meetX A B) f ++ [⟨(f : Int), (((meetX A B).v f : Nat) : Int), (((meetX A B).m f : Nat) : Int)⟩] := fun h => by simp only [cubeTo]; rw [if_neg h]
    have hih := ih (f + 1) K (by omega) (by omega) hK
    have hmf : ¬ (A.v f &&& B.m f = B.v f &&& A.m f) → meetB A B = false := fun hcf => by
      cases hq : meetB A B with
      | false => rfl
      | true => exact absurd ((bits_cond na nb f).2 fun k => (meetB_iff _ _).1 hq f (by omega) k) hcf
    rw [em, ev] at e2
    rw [em] at e1
    generalize meetX A B = M at e1 e2 hih hlen ⊢
    simp only []
    rw [Go.u64_and_nat _ _ hav hbm, Go.u64_and_nat _ _ hbv ham, Go.u64_or_nat _ _ ham hbm, Go.u64_or_nat _ _ hav hbv]
    by_cases hcf : A.v f &&& B.m f = B.v f &&& A.m f
    · rw [if_pos (by rw [hcf])]
      have hco' : ∀ i, i < f + 1 → ∀ k, ((A.v i).testBit k && ((A.m i).testBit k && (B.m i).testBit k)) = ((B.v i).testBit k && ((A.m i).testBit k && (B.m i).testBit k)) := fun i hi k => by
        rcases Nat.lt_or_ge i f with h | h
        · exact hco i h k
        · obtain rfl : i = f := by omega
          exact (bits_cond na nb i).1 hcf k
      have hwr : wrap64 ((f : Int) + 1) = ((f + 1 : Nat) : Int) := by unfold wrap64; omega
      have := hih hco'
      by_cases hz : A.m f ||| B.m f = 0
      · rw [if_pos (by rw [hz]; rfl), hwr]
        rw [e1 hz] at this
        exact this
      · have hz' : ¬ (((A.m f ||| B.m f : Nat) : Int) = 0) := fun h => hz (Int.natCast_eq_zero.1 h)
        have hlt : (cubeTo M f).length < 5864062014805 := small_lt (Nat.le_trans hlen hf9)
        rw [if_neg hz', if_pos hlt, hwr]
        rw [e2 hz] at this
        exact this
    · have hcf' : ¬ (((A.v f &&& B.m f : Nat) : Int) = ((B.v f &&& A.m f : Nat) : Int)) := fun h => hcf (Int.ofNat_inj.1 h)
      rw [if_neg hcf', hmf hcf]; rfl
/-- The document's Meet, of whole cubes. -/
theorem Meet_f {a b : List S47} (ha : okC a) (hb : okC b) (h1 : wholeC a = true) (h2 : wholeC b = true) (hl1 : a.length ≤ 9223372036854775807) (hl2 : b.length ≤ 9223372036854775807) (K : Nat) (hK : a.length + b.length + 12 ≤ K) : droverref16_Meet.f K a b = some (meetC a b, meetOk a b) := by
  obtain ⟨k, rfl⟩ : ∃ k, K = 9 + 1 + k := ⟨K - 10, by omega⟩
  have na := boxC_Nb ha h1
  have nb := boxC_Nb hb h2
  have e0 : cubeTo (meetX (boxC a) (boxC b)) 1 = [] := by
    have : (meetX (boxC a) (boxC b)).m 0 = 0 := (Nb_meet na nb).m0
    simp [cubeTo, this]
  have := Meet_l0 na nb (N := a.length + b.length + 2) (fun f hf K hK => asks_f ha h1 hl1 f hf K (by omega)) (fun f hf K hK => asks_f hb h2 hl2 f hf K (by omega)) 9 1 k (by omega) (by omega) (by omega) (fun i hi j => by
    obtain rfl : i = 0 := by omega
    rw [na.m0, nb.m0]; simp)
  rw [e0] at this
  unfold droverref16_Meet.f
  have hm : meetOk a b = meetB (boxC a) (boxC b) := by unfold meetOk; rw [h1, h2]; rfl
  unfold meetC
  rw [hm]
  exact this
/-! #### the same -/
theorem same_l0 (c : List S47) (hl : c.length ≤ 9223372036854775807) : ∀ d i K, i + d = c.length → droverref16_SameCube.l0 (d + 1 + K) c c i = some true := by
  intro d
  induction d with
  | zero =>
    intro i K hi
    rw [show 0 + 1 + K = K + 1 by omega]
    simp only [droverref16_SameCube.l0]
    rw [if_neg (by omega)]
  | succ d ih =>
    intro i K hi
    rw [show d + 1 + 1 + K = (d + 1 + K) + 1 by omega]
    simp only [droverref16_SameCube.l0]
    have hwr : wrap64 ((i : Int) + 1) = ((i + 1 : Nat) : Int) := by unfold wrap64; omega
    rw [if_pos (by omega), if_pos (by omega), if_pos (by omega), if_pos trivial, if_pos trivial, if_pos trivial, hwr]
    exact ih (i + 1) K (by omega)
theorem same_f (c : List S47) (hl : c.length ≤ 9223372036854775807) (K : Nat) (hK : c.length + 1 ≤ K) : droverref16_SameCube.f K c c = some true := by
  obtain ⟨k, rfl⟩ : ∃ k, K = c.length + 1 + k := ⟨K - (c.length + 1), by omega⟩
  unfold droverref16_SameCube.f
  rw [if_pos rfl]
  exact same_l0 c hl c.length 0 k (by omega)
end Go.Proofs.Ytmhjnfkhfjejeaa
