import Derived.Test.YtmhjnfkhfjejeaaZ2P7
import Derived.Test.YtmhjnfkhfjejeaaZ2PPredCubesx9
import Derived.Test.YtmhjnfkhfjejeaaZ2PPredCubesx12
namespace Go.Proofs.Ytmhjnfkhfjejeaa
set_option linter.unusedVariables false
set_option linter.unusedSimpArgs false
open Go.RowKit
open PPredCubes
/-! ### The document's Cut, as boxes -/
theorem cubeTo_high (b : Bx) (n : Nat) : ∀ d, (∀ i, n ≤ i → i < n + d → b.m i = 0) → cubeTo b (n + d) = cubeTo b n := by
  intro d
  induction d with
  | zero => intro _; rfl
  | succ d ih =>
    intro h
    show cubeTo b (n + d + 1) = _
    simp only [cubeTo]
    rw [if_pos (h (n + d) (by omega) (by omega))]
    exact ih fun i h1 h2 => h i h1 (by omega)
theorem cubeTo_congr {b c : Bx} : ∀ n, (∀ i, i < n → b.m i = c.m i ∧ b.v i = c.v i) → cubeTo b n = cubeTo c n := by
  intro n
  induction n with
  | zero => intro _; rfl
  | succ n ih =>
    intro h
    obtain ⟨h1, h2⟩ := h n (by omega)
    simp only [cubeTo]
    rw [ih (fun i hi => h i (by omega)), h1, h2]
theorem take_atT {c : List S47} {k : Nat} (h : k < c.length) : c.take (k + 1) = c.take k ++ [atT c k] := by
  rw [List.take_succ_eq_append_getElem h]
  congr 2
  unfold atT; rw [List.getD_eq_getElem?_getD, List.getElem?_eq_getElem h]; rfl
/-- A whole cube is the cube of its box. -/
theorem cube_boxTo {c : List S47} (hc : okC c) : ∀ k, k ≤ c.length → wholeTo c k = true → cubeTo (boxTo c k) 10 = c.take k := by
  intro k
  induction k with
  | zero =>
    intro _ _
    have := cubeTo_high z67 0 10 (fun i _ _ => rfl)
    exact this
  | succ k ih =>
    intro hk h
    have hw := h
    simp only [wholeTo, Bool.and_eq_true] at h
    obtain ⟨h1, h2, h3⟩ := boxW hc k h.1
    obtain ⟨g1, g2, g3⟩ := boxW hc (k + 1) hw
    obtain ⟨f, v, m, e, hv, hm⟩ := okT_nat (okC_at hc k)
    obtain ⟨⟨q1, q2, q3⟩, q4, q5⟩ := (tOK_iff _ _).1 h.2
    rw [e] at q1 q2 q3 q4 q5
    obtain ⟨fn, rfl⟩ := Int.eq_ofNat_of_zero_le (show 0 ≤ f by have : (1 : Int) ≤ f := q1; omega)
    have hf1 : 1 ≤ fn := by have : (1 : Int) ≤ fn := q1; omega
    have hf2 : fn < 10 := by have : (fn : Int) < 10 := q2; omega
    have hm0 : m ≠ 0 := by have : (m : Int) ≠ 0 := q4; omega
    have hlf : lastF c k < (fn : Int) := q5
    have e1 : boxTo c (k + 1) = ⟨upd (boxTo c k).m fn m, upd (boxTo c k).v fn v⟩ := by
      simp only [boxTo]; rw [e]; simp
    rw [take_atT (by omega), e, ← ih (by omega) h.1, e1]
    have s1 : cubeTo (⟨upd (boxTo c k).m fn m, upd (boxTo c k).v fn v⟩ : Bx) 10 = cubeTo ⟨upd (boxTo c k).m fn m, upd (boxTo c k).v fn v⟩ (fn + 1) := by
      have := cubeTo_high ⟨upd (boxTo c k).m fn m, upd (boxTo c k).v fn v⟩ (fn + 1) (9 - fn) fun i hi1 hi2 => by
        show upd (boxTo c k).m fn m i = 0
        rw [upd_ne _ _ (by omega)]
        exact (h2 i (by omega)).1
      rwa [show fn + 1 + (9 - fn) = 10 by omega] at this
    have s2 : cubeTo (boxTo c k) 10 = cubeTo (boxTo c k) fn := by
      have := cubeTo_high (boxTo c k) fn (10 - fn) fun i hi1 hi2 => (h2 i (by omega)).1
      rwa [show fn + (10 - fn) = 10 by omega] at this
    rw [s1, s2]
    simp only [cubeTo]
    rw [upd_same, upd_same, if_neg hm0]
    congr 1
    exact cubeTo_congr fn fun i hi => ⟨upd_ne _ _ (by omega), upd_ne _ _ (by omega)⟩
theorem cubeL_boxC {c : List S47} (hc : okC c) (hw : wholeC c = true) : cubeL (boxC c) = c := by
  have := cube_boxTo hc c.length (Nat.le_refl _) hw
  rwa [List.take_length] at this
theorem cubeL_len (b : Bx) : (cubeL b).length ≤ 10 := cubeTo_len b 10
/-! #### one bit more -/
theorem one_ok {f v m : Nat} (hv : v < 18446744073709551616) (hm : m < 18446744073709551616) : okC [⟨(f : Int), (v : Int), (m : Int)⟩] := fun t ht => by
  rw [List.mem_singleton.1 ht]
  show (0 : Int) ≤ v ∧ (v : Int) < 18446744073709551616 ∧ (0 : Int) ≤ m ∧ (m : Int) < 18446744073709551616
  omega
theorem one_whole {f v m : Nat} (hf : 1 ≤ f) (hf2 : f < 10) (hm : m ≠ 0) (hs : v &&& (18446744073709551615 - m) = 0) : wholeC [⟨(f : Int), (v : Int), (m : Int)⟩] = true := by
  have := wholeC_snoc [] ⟨(f : Int), (v : Int), (m : Int)⟩
  rw [List.nil_append] at this
  rw [this, show wholeC [] = true from rfl, Bool.true_and, tOK_iff]
  refine ⟨⟨by show (1 : Int) ≤ f; omega, by show (f : Int) < 10; omega, ?_⟩, by show (m : Int) ≠ 0; omega, by show lastF [] 0 < (f : Int); simp [lastF]; omega⟩
  show (v : Int).toNat &&& (18446744073709551615 - (m : Int).toNat) = 0
  rw [Int.toNat_natCast, Int.toNat_natCast]; exact hs
theorem onec_box (f v m : Nat) : boxC [⟨(f : Int), (v : Int), (m : Int)⟩] = ⟨upd z67.m f m, upd z67.v f v⟩ := by
  have := boxC_snoc [] ⟨(f : Int), (v : Int), (m : Int)⟩
  rw [List.nil_append] at this
  rw [this]
  simp only [Int.toNat_natCast]
  rfl
theorem pow64 {n : Nat} (hn : n < 64) : 2 ^ n < 18446744073709551616 := Nat.pow_lt_pow_right (n := 64) (by omega) hn
/-- A cube that asks one bit more. -/
theorem turned_f {cur : Bx} (hb : Nb cur) {f n az : Nat} (hf : 1 ≤ f) (hf2 : f < 10) (hn : n < 64) (hbit : (cur.m f).testBit n = false) (has : ∀ k, az.testBit k = true → k = n) (ha64 : az < 18446744073709551616) :
    droverref16_turned.f 40 (cubeL cur) (f : Int) ((2 ^ n : Nat) : Int) (az : Int) = some (cubeL ⟨upd cur.m f (cur.m f ||| 2 ^ n), upd cur.v f (cur.v f ||| az)⟩) := by
  have hp := pow64 hn
  have hs : az &&& (18446744073709551615 - 2 ^ n) = 0 := and_of_sub hp ha64 fun k hk => by rw [has k hk, Nat.testBit_two_pow]; simp
  have hpos : (2 ^ n : Nat) ≠ 0 := Nat.ne_of_gt (Nat.two_pow_pos n)
  have ho := one_ok (f := f) ha64 hp
  have hw := one_whole (v := az) hf hf2 hpos hs
  have hl : (cubeL cur).length ≤ 10 := cubeL_len cur
  have hM := Meet_f (cubeL_ok hb) ho (cubeL_whole hb) hw (by omega) (by simp) 40 (by simp; omega)
  unfold droverref16_turned.f
  rw [hM, Option.bind_some]
  have hsb : SameB (boxC (cubeL cur)) cur := cubeL_box hb
  have hob := onec_box f az (2 ^ n)
  have hmo : meetOk (cubeL cur) [⟨(f : Int), (az : Int), ((2 ^ n : Nat) : Int)⟩] = true := by
    unfold meetOk
    rw [cubeL_whole hb, hw, hob, Bool.true_and, Bool.true_and, meetB_iff]
    intro i hi k
    rw [(hsb i hi).1, (hsb i hi).2]
    show (_ && (_ && (upd z67.m f (2 ^ n) i).testBit k)) = ((upd z67.v f az i).testBit k && (_ && (upd z67.m f (2 ^ n) i).testBit k))
    by_cases hif : i = f
    · subst hif
      rw [upd_same, upd_same, Nat.testBit_two_pow]
      by_cases hk : n = k
      · subst hk; rw [hbit]; simp
      · simp [hk]
    · rw [upd_ne _ _ hif]; simp [z67]
  unfold meetC
  rw [hmo, if_pos rfl, hob]
  congr 1
  refine SameB.cube fun i hi => ?_
  rw [meetX_m _ _ hi, meetX_v _ _ hi, (hsb i hi).1, (hsb i hi).2]
  show cur.m i ||| upd z67.m f (2 ^ n) i = upd cur.m f (cur.m f ||| 2 ^ n) i ∧ cur.v i ||| upd z67.v f az i = upd cur.v f (cur.v f ||| az) i
  by_cases hif : i = f
  · subst hif; rw [upd_same, upd_same, upd_same, upd_same]; exact ⟨rfl, rfl⟩
  · rw [upd_ne _ _ hif, upd_ne _ _ hif, upd_ne _ _ hif, upd_ne _ _ hif]; simp [z67]
theorem and_pow_bit (a n : Nat) : a &&& 2 ^ n = if a.testBit n then 2 ^ n else 0 := by
  rw [teq]; intro k
  rw [tb_and_pow]
  by_cases h : n = k
  · subst h
    cases ha : a.testBit n with
    | true => rw [if_pos rfl, Nat.testBit_two_pow]; simp
    | false => simp
  · split <;> simp [h, Nat.testBit_two_pow]
theorem bit_sub (a n : Nat) (ha : a < 18446744073709551616) (hn : n < 64) : 2 ^ n - (a &&& 2 ^ n) = (18446744073709551615 - a) &&& 2 ^ n := by
  rw [and_pow_bit, and_pow_bit, tb_not a n ha hn]
  cases a.testBit n <;> simp
theorem turned_piece {cur o : Bx} (hb : Nb cur) (ho : o.ok) {f n : Nat} (hf : 1 ≤ f) (hf2 : f < 10) (hn : n < 64) (hbit : (cur.m f).testBit n = false) :
    droverref16_turned.f 40 (cubeL cur) (f : Int) ((2 ^ n : Nat) : Int) ((2 ^ n - (o.v f &&& 2 ^ n) : Nat) : Int) = some (cubeL (pieceOf cur o f (2 ^ n))) := by
  rw [bit_sub _ _ (ho f).2 hn]
  exact turned_f hb hf hf2 hn hbit (fun k hk => by rw [tb_and_pow] at hk; simp at hk; exact hk.2.symm) (Nat.lt_of_le_of_lt Nat.and_le_right (pow64 hn))
theorem turned_next {cur o : Bx} (hb : Nb cur) {f n : Nat} (hf : 1 ≤ f) (hf2 : f < 10) (hn : n < 64) (hbit : (cur.m f).testBit n = false) :
    droverref16_turned.f 40 (cubeL cur) (f : Int) ((2 ^ n : Nat) : Int) ((o.v f &&& 2 ^ n : Nat) : Int) = some (cubeL (nextOf cur o f (2 ^ n))) :=
  turned_f hb hf hf2 hn hbit (fun k hk => by rw [tb_and_pow] at hk; simp at hk; exact hk.2.symm) (Nat.lt_of_le_of_lt Nat.and_le_right (pow64 hn))
/-- Of whole boxes the pieces begin at field 1. -/
theorem cutL_one {b o : Bx} (ho : Nb o) (h : meetB b o = true) : cutL b o = cutFrom o 9 1 b := by
  unfold cutL
  rw [if_pos h]
  have e : leftOf b o 0 = 0 := by unfold leftOf; rw [ho.m0]; simp
  show (cutBits o 0 64 b (leftOf b o 0)).1 ++ cutFrom o 9 1 (cutBits o 0 64 b (leftOf b o 0)).2 = _
  rw [e, cutBits_zero]
  rfl
theorem cutBits_skip (o : Bx) (f n : Nat) (b : Bx) (l : Nat) (h : l.testBit n = false) : cutBits o f (n + 1) b l = cutBits o f n b l := by
  simp only [cutBits]; rw [h, if_neg (by simp)]
theorem cutBits_take (o : Bx) (f n : Nat) (b : Bx) (l : Nat) (h : l.testBit n = true) : cutBits o f (n + 1) b l = (pieceOf b o f (2 ^ n) :: (cutBits o f n (nextOf b o f (2 ^ n)) l).1, (cutBits o f n (nextOf b o f (2 ^ n)) l).2) := by
  simp only [cutBits]; rw [h, if_pos rfl]
theorem next_m (cur o : Bx) (f n i : Nat) (h : i ≠ f) : (nextOf cur o f (2 ^ n)).m i = cur.m i := upd_ne _ _ h
theorem next_bit (cur o : Bx) (f n j : Nat) (h : j ≠ n) : ((nextOf cur o f (2 ^ n)).m f).testBit j = (cur.m f).testBit j := by
  show (upd cur.m f (cur.m f ||| 2 ^ n) f).testBit j = _
  rw [upd_same, tb_or_pow]; simp; intro e; exact absurd e.symm h
/-! #### the same, list by list -/
theorem rd_atC (L : List (List S47)) (i : Nat) : rd_L7 L (i : Int) = atC L i := by unfold rd_L7 atC; rw [Int.toNat_natCast]
theorem sames_l0 (L : List (List S47)) (hl : L.length ≤ 9223372036854775807) (hc : ∀ j, (atC L j).length ≤ 1000) : ∀ d i K, i + d = L.length → droverref16_SameCubes.l0 (d + 1 + (1001 + K)) L L i = some true := by
  intro d
  induction d with
  | zero =>
    intro i K hi
    rw [show 0 + 1 + (1001 + K) = (1001 + K) + 1 by omega]
    simp only [droverref16_SameCubes.l0]
    rw [if_neg (by omega)]
  | succ d ih =>
    intro i K hi
    rw [show d + 1 + 1 + (1001 + K) = (d + 1 + (1001 + K)) + 1 by omega]
    simp only [droverref16_SameCubes.l0]
    have hwr : wrap64 ((i : Int) + 1) = ((i + 1 : Nat) : Int) := by unfold wrap64; omega
    have hci := hc i
    rw [if_pos (by omega), if_pos (by omega), if_pos (by omega), rd_atC, same_f (atC L i) (by omega) _ (by omega), Option.bind_some, if_pos rfl, hwr]
    exact ih (i + 1) K (by omega)
theorem sames_f (L : List (List S47)) (hl : L.length ≤ 9223372036854775807) (hc : ∀ j, (atC L j).length ≤ 1000) : droverref16_SameCubes.f (L.length + 1002) L L = some true := by
  unfold droverref16_SameCubes.f
  rw [if_pos rfl]
  have := sames_l0 L hl hc L.length 0 0 (by omega)
  exact this
theorem atC_len (l : List Bx) (j : Nat) : (atC (l.map cubeL) j).length ≤ 1000 := by
  rcases Nat.lt_or_ge j l.length with h | h
  · rw [atC_map _ h]; have := cubeL_len (atB l j); omega
  · unfold atC
    rw [List.getD_eq_getElem?_getD, List.getElem?_eq_none (by simpa using h)]; simp
end Go.Proofs.Ytmhjnfkhfjejeaa
