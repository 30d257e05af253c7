import Derived.Test.YtmhjnfkhfjejeaaZ2P8
import Derived.Test.YtmhjnfkhfjejeaaZ2J2
namespace Go.Proofs.Ytmhjnfkhfjejeaa
set_option linter.unusedVariables false
set_option linter.unusedSimpArgs false
open Go.RowKit Go.Proofs.YtmhjnfkhfjejeaaW.PrintWords
open PPredCubes
/-! ### The document's Cut and without, said in boxes -/
theorem cutBits_far (o : Bx) (f n : Nat) : ∀ (b : Bx) (l i : Nat), i ≠ f → (cutBits o f n b l).2.m i = b.m i := by
  induction n with
  | zero => intro b l i _; rfl
  | succ n ih =>
    intro b l i hi
    simp only [cutBits]
    split
    · rw [ih _ _ _ hi, next_m _ _ _ _ _ hi]
    · exact ih _ _ _ hi
/-- From some fuel on. -/
def Ev {α : Type} (g : Nat → Option α) (r : α) : Prop := ∃ K0, ∀ K, K0 ≤ K → g K = some r
namespace Ev
variable {α β : Type} {g h : Nat → Option α} {r : α}
theorem congr (hg : Ev h r) (e : ∀ K, g K = h K) : Ev g r := by
  obtain ⟨K0, h0⟩ := hg
  exact ⟨K0, fun K hK => (e K).trans (h0 K hK)⟩
theorem succ (hg : Ev h r) (e : ∀ K, g (K + 1) = h K) : Ev g r := by
  obtain ⟨K0, h0⟩ := hg
  refine ⟨K0 + 1, fun K hK => ?_⟩
  obtain ⟨k, rfl⟩ : ∃ k, K = k + 1 := ⟨K - 1, by omega⟩
  exact (e k).trans (h0 k (by omega))
theorem bind {a : Nat → Option β} {x : β} {f : Nat → β → Option α} (ha : Ev a x) (hf : Ev (fun K => f K x) r) : Ev (fun K => (a K).bind (f K)) r := by
  obtain ⟨K0, h0⟩ := ha
  obtain ⟨K1, h1⟩ := hf
  refine ⟨K0 + K1, fun K hK => ?_⟩
  show (a K).bind (f K) = _
  rw [h0 K (by omega), Option.bind_some]
  exact h1 K (by omega)
theorem of_some {a : Nat → Option α} {k : Nat} (hm : ∀ K, LeO (a K) (a (K + 1))) (h : a k = some r) : Ev a r := by
  refine ⟨k, fun K hK => ?_⟩
  obtain ⟨j, rfl⟩ : ∃ j, K = k + j := ⟨K - k, by omega⟩
  exact more_rounds hm k j r h
theorem at_ (h : Ev g r) : ∃ K, g K = some r := by
  obtain ⟨K0, h0⟩ := h
  exact ⟨K0, h0 K0 (Nat.le_refl _)⟩
theorem const (r : α) : Ev (fun _ => some r) r := ⟨0, fun _ _ => rfl⟩
end Ev
theorem asks_ev {c : List S47} (hc : okC c) (hw : wholeC c = true) (hl : c.length ≤ 9223372036854775807) (f : Nat) (hf : 1 ≤ f) : Ev (fun K => droverref16_asks.f K c f) ((f : Int), ((boxC c).v f : Int), ((boxC c).m f : Int)) :=
  ⟨c.length + 1, fun K hK => asks_f hc hw hl f hf K hK⟩
theorem piece_ev {cur o : Bx} (hb : Nb cur) (ho : o.ok) {f n : Nat} (hf : 1 ≤ f) (hf2 : f < 10) (hn : n < 64) (hbit : (cur.m f).testBit n = false) :
    Ev (fun K => droverref16_turned.f K (cubeL cur) (f : Int) ((2 ^ n : Nat) : Int) ((2 ^ n - (o.v f &&& 2 ^ n) : Nat) : Int)) (cubeL (pieceOf cur o f (2 ^ n))) :=
  Ev.of_some (fun K => droverref16_turned.mono _ _ _ _ K) (turned_piece hb ho hf hf2 hn hbit)
theorem next_ev {cur o : Bx} (hb : Nb cur) {f n : Nat} (hf : 1 ≤ f) (hf2 : f < 10) (hn : n < 64) (hbit : (cur.m f).testBit n = false) :
    Ev (fun K => droverref16_turned.f K (cubeL cur) (f : Int) ((2 ^ n : Nat) : Int) ((o.v f &&& 2 ^ n : Nat) : Int)) (cubeL (nextOf cur o f (2 ^ n))) :=
  Ev.of_some (fun K => droverref16_turned.mono _ _ _ _ K) (turned_next hb hf hf2 hn hbit)
theorem bit_zero {m n : Nat} (hm : m < 18446744073709551616) (hn : n < 64) : (Go.bits .and .u64 (m : Int) ((2 ^ n : Nat) : Int) = 0) ↔ m.testBit n = false := by
  rw [Go.u64_and_nat _ _ hm (pow64 hn), and_pow_bit]
  have := Nat.two_pow_pos n
  cases m.testBit n with
  | true => rw [if_pos rfl]; exact ⟨fun e => absurd (Int.ofNat.inj e) (by omega), fun e => Bool.noConfusion e⟩
  | false => simp
theorem half_succ (n : Nat) : (2 : Nat) ^ (n + 1) / 2 = 2 ^ n := by rw [Nat.pow_succ]; omega
theorem half_int (n : Nat) : (((2 ^ n : Nat) : Int)) / 2 = ((2 ^ n / 2 : Nat) : Int) := by omega
theorem small_1000 {n : Nat} (h : n ≤ 1000) : n < 5864062014805 := Nat.lt_of_le_of_lt h (by decide)
section
variable {a b : List S47} {A B : Bx} (hA : Nb A) (hB : Nb B)
  (qa : ∀ f : Nat, 1 ≤ f → f < 10 → Ev (fun K => droverref16_asks.f K a f) ((f : Int), (A.v f : Int), (A.m f : Int)))
  (qb : ∀ f : Nat, 1 ≤ f → f < 10 → Ev (fun K => droverref16_asks.f K b f) ((f : Int), (B.v f : Int), (B.m f : Int)))
include hA hB qa
theorem cut_l1 {f : Nat} (hf : 1 ≤ f) (hf2 : f < 10) {R : List (List S47)} : ∀ n, n ≤ 64 → ∀ (cur : Bx) (Lc : List Bx), Nb cur → (∀ j, j < n → (cur.m f).testBit j = (A.m f).testBit j) → Lc.length + n ≤ 1000 →
    Ev (fun K => droverref16_Cut.l0 K a b ((Lc ++ (cutBits B f n cur (leftOf A B f)).1).map cubeL) (cubeL (cutBits B f n cur (leftOf A B f)).2) ((f + 1 : Nat) : Int)) R →
    Ev (fun K => droverref16_Cut.l1 K a b (Lc.map cubeL) (cubeL cur) (f : Int) ((2 ^ n / 2 : Nat) : Int) (f : Int) (B.v f : Int) (B.m f : Int)) R := by
  have hwr : wrap64 ((f : Int) + 1) = ((f + 1 : Nat) : Int) := by unfold wrap64; omega
  intro n
  induction n with
  | zero =>
    intro _ cur Lc hc _ hl h
    refine h.succ fun K => ?_
    simp only [droverref16_Cut.l1]
    rw [if_neg (by decide), hwr]
    simp only [cutBits, List.append_nil]
  | succ n ih =>
    intro hn cur Lc hc hj hl h
    have hn' : n < 64 := by omega
    have hpos := Nat.two_pow_pos n
    have hp := pow64 hn'
    have hcb := hj n (by omega)
    have hlb := leftOf_bit (b := A) (o := B) hA.ok f n hn'
    rw [half_succ]
    have goOn : (leftOf A B f).testBit n = false → Ev (fun K => droverref16_Cut.j2 K a b (Lc.map cubeL) (cubeL cur) (f : Int) ((2 ^ n : Nat) : Int) false (f : Int) (B.v f : Int) (B.m f : Int)) R := fun hz => by
      rw [cutBits_skip B f n cur _ hz] at h
      refine (ih (by omega) cur Lc hc (fun j h1 => hj j (by omega)) (by omega) h).succ fun K => ?_
      simp only [droverref16_Cut.j2]
      rw [if_neg (by decide), half_int]
    by_cases hbb : (B.m f).testBit n = false
    · refine (goOn (by rw [hlb, hbb]; rfl)).succ fun K => ?_
      simp only [droverref16_Cut.l1]
      rw [if_pos (by omega), if_pos ((bit_zero (hB.ok f).1 hn').2 hbb)]
    · have hbt : (B.m f).testBit n = true := by simpa using hbb
      have hev : Ev (fun K => (droverref16_asks.f K a (f : Int)).bind fun bt239 => droverref16_Cut.j2 K a b (Lc.map cubeL) (cubeL cur) (f : Int) ((2 ^ n : Nat) : Int) ((Go.bits .and .u64 bt239.2.2 ((2 ^ n : Nat) : Int)) == 0) (f : Int) (B.v f : Int) (B.m f : Int)) R := by
        refine Ev.bind (qa f hf hf2) ?_
        show Ev (fun K => droverref16_Cut.j2 K a b (Lc.map cubeL) (cubeL cur) (f : Int) ((2 ^ n : Nat) : Int) ((Go.bits .and .u64 (A.m f : Int) ((2 ^ n : Nat) : Int)) == 0) (f : Int) (B.v f : Int) (B.m f : Int)) R
        by_cases hab : (A.m f).testBit n = false
        · rw [beq_iff_eq.mpr ((bit_zero (hA.ok f).1 hn').2 hab)]
          rw [cutBits_take B f n cur _ (by rw [hlb, hbt, hab]; rfl)] at h
          have hcf : (cur.m f).testBit n = false := hcb.trans hab
          have hnx := ih (by omega) (nextOf cur B f (2 ^ n)) (Lc ++ [pieceOf cur B f (2 ^ n)]) (Nb_next hc hf hn') (fun j h1 => by rw [next_bit _ _ _ _ _ (by omega)]; exact hj j (by omega)) (by simp; omega) (h.congr fun K => by simp)
          have hle : B.v f &&& 2 ^ n ≤ 2 ^ n := Nat.and_le_right
          have e1 : IntKind.u64.wrap (((2 ^ n : Nat) : Int) - Go.bits .and .u64 (B.v f : Int) ((2 ^ n : Nat) : Int)) = ((2 ^ n - (B.v f &&& 2 ^ n) : Nat) : Int) := by
            rw [Go.u64_and_nat _ _ (hB.ok f).2 hp]
            rw [show (((2 ^ n : Nat) : Int) - ((B.v f &&& 2 ^ n : Nat) : Int)) = ((2 ^ n - (B.v f &&& 2 ^ n) : Nat) : Int) by omega]
            exact IntWalk.u64_in _ ⟨by omega, by omega⟩
          have e2 : Go.bits .and .u64 (B.v f : Int) ((2 ^ n : Nat) : Int) = ((B.v f &&& 2 ^ n : Nat) : Int) := Go.u64_and_nat _ _ (hB.ok f).2 hp
          have hev2 : Ev (fun K => (droverref16_turned.f K (cubeL cur) (f : Int) ((2 ^ n : Nat) : Int) ((2 ^ n - (B.v f &&& 2 ^ n) : Nat) : Int)).bind fun t242 => (if (Lc.map cubeL).length < 5864062014805 then ((droverref16_turned.f K (cubeL cur) (f : Int) ((2 ^ n : Nat) : Int) ((B.v f &&& 2 ^ n : Nat) : Int)).bind fun t248 => (droverref16_Cut.l1 K a b (Lc.map cubeL ++ [t242]) t248 (f : Int) ((2 ^ n : Nat) / 2 : Int) (f : Int) (B.v f : Int) (B.m f : Int))) else none)) R := by
            refine Ev.bind (piece_ev hc hB.ok hf hf2 hn' hcf) ?_
            refine Ev.congr ?_ fun K => if_pos (by rw [List.length_map]; exact small_1000 (by omega))
            refine Ev.bind (next_ev hc hf hf2 hn' hcf) ?_
            refine hnx.congr fun K => ?_
            rw [half_int, List.map_append]; rfl
          refine hev2.succ fun K => ?_
          simp only [droverref16_Cut.j2]
          rw [if_pos trivial, e1, e2]
        · have hat : (A.m f).testBit n = true := by simpa using hab
          rw [beq_eq_false_iff_ne.mpr fun e => hab ((bit_zero (hA.ok f).1 hn').1 e)]
          exact goOn (by rw [hlb, hat]; simp)
      refine hev.succ fun K => ?_
      simp only [droverref16_Cut.l1]
      rw [if_pos (by omega), if_neg fun e => hbb ((bit_zero (hB.ok f).1 hn').1 e)]
include qb
theorem cut_l0 : ∀ d f, f + d = 10 → 1 ≤ f → ∀ (cur : Bx) (Lc : List Bx), Nb cur → (∀ i, f ≤ i → cur.m i = A.m i) → Lc.length + 64 * d ≤ 1000 →
    Ev (fun K => droverref16_Cut.l0 K a b (Lc.map cubeL) (cubeL cur) (f : Int)) ((Lc ++ cutFrom B d f cur).map cubeL) := by
  intro d
  induction d with
  | zero =>
    intro f hfd hf cur Lc hc hm hl
    refine (Ev.const _).succ fun K => ?_
    simp only [droverref16_Cut.l0]
    rw [if_neg (by omega)]
    simp only [cutFrom, List.append_nil]
  | succ d ih =>
    intro f hfd hf cur Lc hc hm hl
    have e : leftOf cur B f = leftOf A B f := by unfold leftOf; rw [hm f (Nat.le_refl _)]
    obtain ⟨-, hN⟩ := cutBits_Nb B f hf 64 (Nat.le_refl _) cur (leftOf A B f) hc
    have hln := cutBits_len B f 64 cur (leftOf A B f)
    have hfar := cutBits_far B f 64 cur
    have h1 := ih (f + 1) (by omega) (by omega) (cutBits B f 64 cur (leftOf A B f)).2 (Lc ++ (cutBits B f 64 cur (leftOf A B f)).1) hN (fun i hi => by rw [hfar _ i (by omega)]; exact hm i (by omega)) (by rw [List.length_append]; omega)
    have h2 := cut_l1 hA hB qa hf (by omega) 64 (Nat.le_refl _) cur Lc hc (fun j _ => by rw [hm f (Nat.le_refl _)]) (by omega) h1
    have h3 : Ev (fun K => (droverref16_asks.f K b (f : Int)).bind fun bt235 => droverref16_Cut.l1 K a b (Lc.map cubeL) (cubeL cur) (f : Int) 9223372036854775808 bt235.1 bt235.2.1 bt235.2.2) ((Lc ++ (cutBits B f 64 cur (leftOf A B f)).1 ++ cutFrom B d (f + 1) (cutBits B f 64 cur (leftOf A B f)).2).map cubeL) :=
      Ev.bind (qb f hf (by omega)) (h2.congr fun K => by
        show droverref16_Cut.l1 K a b (Lc.map cubeL) (cubeL cur) (f : Int) 9223372036854775808 _ _ _ = _
        rw [show ((2 ^ 64 / 2 : Nat) : Int) = 9223372036854775808 by decide])
    have e2 : Lc ++ cutFrom B (d + 1) f cur = Lc ++ (cutBits B f 64 cur (leftOf A B f)).1 ++ cutFrom B d (f + 1) (cutBits B f 64 cur (leftOf A B f)).2 := by
      rw [List.append_assoc, ← e]; rfl
    rw [e2]
    refine h3.succ fun K => ?_
    simp only [droverref16_Cut.l0]
    rw [if_pos (by omega)]
end
theorem cut_ev {a b : List S47} (ha : okC a) (hb : okC b) (h1 : wholeC a = true) (h2 : wholeC b = true) (hl1 : a.length ≤ 9223372036854775807) (hl2 : b.length ≤ 9223372036854775807) : Ev (fun K => droverref16_Cut.f K a b) ((cutL (boxC a) (boxC b)).map cubeL) := by
  have na := boxC_Nb ha h1
  have nb := boxC_Nb hb h2
  have hM : Ev (fun K => droverref16_Meet.f K a b) (meetC a b, meetOk a b) := ⟨_, fun K hK => Meet_f ha hb h1 h2 hl1 hl2 K hK⟩
  unfold droverref16_Cut.f
  refine Ev.bind hM ?_
  have em : meetOk a b = meetB (boxC a) (boxC b) := by unfold meetOk; rw [h1, h2]; simp
  cases hm : meetB (boxC a) (boxC b) with
  | true =>
    refine Ev.congr ?_ fun K => if_pos (em.trans hm)
    rw [cutL_one nb hm]
    have := cut_l0 na nb (fun f hf _ => asks_ev ha h1 hl1 f hf) (fun f hf _ => asks_ev hb h2 hl2 f hf) 9 1 (by omega) (by omega) (boxC a) [] na (fun _ _ => rfl) (by simp)
    refine this.congr fun K => ?_
    rw [cubeL_boxC ha h1]; rfl
  | false =>
    refine Ev.congr ?_ fun K => if_neg (by show ¬ meetOk a b = true; rw [em, hm]; exact fun e => Bool.noConfusion e)
    unfold cutL
    rw [hm, if_neg (by decide), List.map_cons, List.map_nil, cubeL_boxC ha h1]
    exact Ev.const _
theorem asks_box {b : Bx} (hb : Nb b) (f : Nat) (hf : 1 ≤ f) (hf2 : f < 10) : Ev (fun K => droverref16_asks.f K (cubeL b) f) ((f : Int), (b.v f : Int), (b.m f : Int)) := by
  have := asks_ev (cubeL_ok hb) (cubeL_whole hb) (by have := cubeL_len b; omega) f hf
  rwa [(cubeL_box hb f hf2).1, (cubeL_box hb f hf2).2] at this
theorem meet_box {a b : Bx} (ha : Nb a) (hb : Nb b) : Ev (fun K => droverref16_Meet.f K (cubeL a) (cubeL b)) (if meetB a b then cubeL (meetX a b) else [], meetB a b) := by
  have hM : Ev (fun K => droverref16_Meet.f K (cubeL a) (cubeL b)) (meetC (cubeL a) (cubeL b), meetOk (cubeL a) (cubeL b)) :=
    ⟨_, fun K hK => Meet_f (cubeL_ok ha) (cubeL_ok hb) (cubeL_whole ha) (cubeL_whole hb) (by have := cubeL_len a; omega) (by have := cubeL_len b; omega) K hK⟩
  have e := cubeL_meetOk ha hb
  cases hm : meetB a b with
  | true => rw [e, hm, cubeL_meetC ha hb hm] at hM; exact hM
  | false => rw [e, hm, meetC_no (e.trans hm)] at hM; exact hM
theorem cut_box {a b : Bx} (ha : Nb a) (hb : Nb b) : Ev (fun K => droverref16_Cut.f K (cubeL a) (cubeL b)) ((cutL a b).map cubeL) := by
  have hM := meet_box ha hb
  unfold droverref16_Cut.f
  refine Ev.bind hM ?_
  cases hm : meetB a b with
  | true =>
    refine Ev.congr ?_ fun K => if_pos rfl
    rw [cutL_one hb hm]
    exact cut_l0 ha hb (fun f hf h2 => asks_box ha f hf h2) (fun f hf h2 => asks_box hb f hf h2) 9 1 (by omega) (by omega) a [] ha (fun _ _ => rfl) (by simp)
  | false =>
    refine Ev.congr ?_ fun K => if_neg fun e => Bool.noConfusion e
    unfold cutL
    rw [hm, if_neg (by decide)]
    exact Ev.const _
end Go.Proofs.Ytmhjnfkhfjejeaa
