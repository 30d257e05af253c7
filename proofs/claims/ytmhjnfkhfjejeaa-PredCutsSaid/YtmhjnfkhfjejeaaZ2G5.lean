import Derived.Test.YtmhjnfkhfjejeaaZ2G2
import Derived.Test.YtmhjnfkhfjejeaaZ2PPredCubesx3
import Derived.Test.YtmhjnfkhfjejeaaZ2G4
import Derived.Test.YtmhjnfkhfjejeaaZ2PPredCubesx8
namespace Go.Proofs.Ytmhjnfkhfjejeaa
set_option linter.unusedVariables false
set_option linter.unusedSimpArgs false
open Go.RowKit Go.Proofs.YtmhjnfkhfjejeaaW.PrintWords Go.Proofs.YtmhjnfkhfjejeaaW.PrintLast Go.Proofs.YtmhjnfkhfjejeaaW.PrintMore
open PPredCubes
/-! ### Which predicates are right -/
def atN (l : List S52) (k : Nat) : S52 := l.getD k z52
def tstB (t : S47) : Bool := testB t.f0 t.f1.toNat t.f2.toNat
def testZ (t : S47) : Bool := t.f0 == 0 && (t.f1 == 0 && t.f2 == 0)
def highN (k : Int) : Nat := if k = 4 ∨ k = 5 then 12 else if k = 6 then 1 else 0
def lowN (k : Int) : Nat := if k = 6 then 1 else 0
def subsB (l : List Int) (i : Int) : Bool := l.all fun s => decide (0 ≤ s) && decide (s < i)
/-- May a node stand at a place? -/
def nodeB (n : S52) (i : Int) : Bool :=
  decide (1 ≤ n.f0 ∧ n.f0 ≤ 6) && ((if n.f0 = 3 then tstB n.f1 else testZ n.f1) && (decide (lowN n.f0 ≤ n.f2.length ∧ n.f2.length ≤ highN n.f0) && subsB n.f2 i))
def nodesFrom (l : List S52) : Nat → Nat → Bool
  | 0, _ => true
  | d + 1, i => nodeB (atN l i) i && nodesFrom l d (i + 1)
/-- Is a predicate right? -/
def rightB (l : List S52) : Bool := decide (1 ≤ l.length ∧ l.length ≤ 60) && nodesFrom l l.length 0
/-- Numbers of their kinds. -/
def okP (l : List S52) : Prop := ∀ n ∈ l, okT n.f1
theorem okP_at {l : List S52} (h : okP l) (k : Nat) : okT (atN l k).f1 := by
  unfold atN
  rw [List.getD_eq_getElem?_getD]
  rcases Nat.lt_or_ge k l.length with h1 | h1
  · rw [List.getElem?_eq_getElem h1]; exact h _ (List.getElem_mem h1)
  · rw [List.getElem?_eq_none h1]; exact okT_z
theorem okT_nat {t : S47} (h : okT t) : ∃ (f : Int) (v m : Nat), t = ⟨f, v, m⟩ ∧ v < 18446744073709551616 ∧ m < 18446744073709551616 := by
  obtain ⟨f, v, m⟩ := t
  obtain ⟨h1, h2, h3, h4⟩ : 0 ≤ v ∧ v < 18446744073709551616 ∧ 0 ≤ m ∧ m < 18446744073709551616 := h
  obtain ⟨v, rfl⟩ := Int.eq_ofNat_of_zero_le h1
  obtain ⟨m, rfl⟩ := Int.eq_ofNat_of_zero_le h3
  exact ⟨f, v, m, rfl, by omega, by omega⟩
theorem testRight_f {t : S47} (h : okT t) : pred_testRight.f t.f0 t.f1 t.f2 = some (tstB t) := by
  obtain ⟨f, v, m, rfl, hv, hm⟩ := okT_nat h
  unfold pred_testRight.f tstB testB
  simp only [Int.toNat_natCast]
  rw [Go.u64_andNot_nat v m hv hm, nat_zero]
  by_cases h1 : 1 ≤ f
  · by_cases h2 : f < 10
    · rw [if_pos h1, if_pos h2]; simp [h1, h2]
    · rw [if_pos h1, if_neg h2]; simp [h2]
  · rw [if_neg h1]; simp [h1]
theorem wrap1 {i n : Nat} (h : i < n) (hn : n ≤ 9223372036854775807) : wrap64 ((i : Int) + 1) = ((i + 1 : Nat) : Int) := by unfold wrap64; omega
theorem r_l1 (x3 : Int) (l : List S52) (x21 x22 : Int) (s : List Int) (hs : s.length ≤ 9223372036854775807) : ∀ (d i K : Nat), i + d = s.length →
    pred_Right.l1 (d + 1 + K) x3 l x21 x22 s s.length i = if subsB (s.drop i) x3 then pred_Right.l0 K l x21 (wrap64 (x22 + 1)) else some false := by
  intro d
  induction d with
  | zero =>
    intro i K h
    rw [show 0 + 1 + K = K + 1 by omega]
    simp only [pred_Right.l1]
    rw [if_neg (by omega), List.drop_of_length_le (by omega)]
    simp [subsB]
  | succ d ih =>
    intro i K h
    rw [show d + 1 + 1 + K = (d + 1 + K) + 1 by omega]
    simp only [pred_Right.l1]
    have hi : i < s.length := by omega
    rw [if_pos (by omega), if_pos (by omega), if_pos (by omega), List.drop_eq_getElem_cons hi]
    have hrd : rd s (i : Int) = s[i] := by unfold rd; rw [Int.toNat_natCast, List.getD_eq_getElem?_getD, List.getElem?_eq_getElem hi]; rfl
    rw [hrd, wrap1 hi hs, ih (i + 1) K (by omega)]
    unfold subsB
    rw [List.all_cons]
    by_cases h1 : s[i] < 0
    · rw [if_pos h1, decide_eq_false (show ¬ 0 ≤ s[i] by omega)]; simp
    · rw [if_neg h1, decide_eq_true (show 0 ≤ s[i] by omega)]
      by_cases h2 : s[i] ≥ x3
      · rw [if_pos h2, decide_eq_false (show ¬ s[i] < x3 by omega)]; simp
      · rw [if_neg h2, decide_eq_true (show s[i] < x3 by omega)]; simp
theorem r_j5 (x3 : Int) (l : List S52) (x21 x22 : Int) (b : Bool) (k t0 t1 t2 : Int) (s : List Int) (hs : s.length ≤ 9223372036854775807) (K : Nat) :
    pred_Right.j5 (s.length + 1 + K + 1) x3 l x21 x22 b k t0 t1 t2 s = if b = true then some false else if subsB s x3 then pred_Right.l0 K l x21 (wrap64 (x22 + 1)) else some false := by
  simp only [pred_Right.j5]
  have h := r_l1 x3 l x21 x22 s hs s.length 0 K (by omega)
  rw [List.drop_zero] at h
  rw [← h]
  rfl
theorem r_j4 (x3 : Int) (lo hi : Nat) (l : List S52) (x21 x22 : Int) (n : S52) (ht : okT n.f1) (hs : n.f2.length ≤ 9223372036854775807) (K : Nat) :
    pred_Right.j4 (n.f2.length + 1 + K + 1 + 1) x3 lo hi l x21 x22 n.f0 n.f1.f0 n.f1.f1 n.f1.f2 n.f2 =
      if ((if n.f0 = 3 then tstB n.f1 else testZ n.f1) && (decide (lo ≤ n.f2.length ∧ n.f2.length ≤ hi) && subsB n.f2 x3)) then pred_Right.l0 K l x21 (wrap64 (x22 + 1)) else some false := by
  simp only [pred_Right.j4]
  rw [testRight_f ht]
  have key : ∀ b : Bool, pred_Right.j5 (n.f2.length + 1 + K + 1) x3 l x21 x22 b n.f0 n.f1.f0 n.f1.f1 n.f1.f2 n.f2 = if (!b && subsB n.f2 x3) then pred_Right.l0 K l x21 (wrap64 (x22 + 1)) else some false := by
    intro b
    rw [r_j5 x3 l x21 x22 b _ _ _ _ n.f2 hs K]
    cases b <;> simp
  rw [key true, key (decide _)]
  have hlen : (if (n.f2.length : Int) < (lo : Int) then (if (!true && subsB n.f2 x3) = true then pred_Right.l0 K l x21 (wrap64 (x22 + 1)) else some false) else if (!decide ((n.f2.length : Int) > (hi : Int)) && subsB n.f2 x3) = true then pred_Right.l0 K l x21 (wrap64 (x22 + 1)) else some false)
      = if (decide (lo ≤ n.f2.length ∧ n.f2.length ≤ hi) && subsB n.f2 x3) = true then pred_Right.l0 K l x21 (wrap64 (x22 + 1)) else some false := by
    by_cases h1 : n.f2.length < lo
    · rw [if_pos (by omega), decide_eq_false (show ¬ (lo ≤ n.f2.length ∧ n.f2.length ≤ hi) by omega)]; simp
    · rw [if_neg (by omega)]
      by_cases h2 : n.f2.length ≤ hi
      · rw [decide_eq_true (show lo ≤ n.f2.length ∧ n.f2.length ≤ hi by omega), decide_eq_false (show ¬ ((n.f2.length : Int) > (hi : Int)) by omega)]; simp
      · rw [decide_eq_false (show ¬ (lo ≤ n.f2.length ∧ n.f2.length ≤ hi) by omega), decide_eq_true (show ((n.f2.length : Int) > (hi : Int)) by omega)]; simp
  by_cases h3 : n.f0 = 3
  · rw [if_pos h3, if_pos h3]
    simp only [Option.bind_some]
    cases tstB n.f1
    · simp
    · rw [if_pos rfl, hlen]; simp
  · rw [if_neg h3, if_neg h3]
    have hz : (!(n.f1.f0 == 0) || (!(n.f1.f1 == 0) || !(n.f1.f2 == 0))) = !testZ n.f1 := by unfold testZ; simp
    rw [hz]
    cases testZ n.f1
    · simp
    · simp only [Bool.not_true, Bool.false_eq_true, if_false, Bool.true_and]
      exact hlen
theorem r_node (l : List S52) (i : Nat) (hi : i < l.length) (ht : okT (atN l i).f1) (hs : (atN l i).f2.length ≤ 9223372036854775807) (hl : l.length ≤ 9223372036854775807) (K : Nat) (hK : (atN l i).f2.length + 8 ≤ K) :
    ∃ K', K ≤ K' + (atN l i).f2.length + 8 ∧ pred_Right.l0 K l l.length i = if nodeB (atN l i) i then pred_Right.l0 K' l l.length ((i + 1 : Nat) : Int) else some false := by
  obtain ⟨n, hn⟩ : ∃ n, atN l i = n := ⟨_, rfl⟩
  have hrd : rd_T52 l (i : Int) = n := by rw [← hn]; unfold rd_T52 atN; rw [Int.toNat_natCast]
  rw [hn] at ht hs hK ⊢
  obtain ⟨M, rfl⟩ : ∃ M, K = n.f2.length + 1 + M + 1 + 1 + 1 + 1 + 1 := ⟨K - (n.f2.length + 6), by omega⟩
  have hw := wrap1 hi hl
  by_cases h1 : n.f0 = 1 ∨ n.f0 = 2 ∨ n.f0 = 3
  · refine ⟨M + 1, by omega, ?_⟩
    simp only [pred_Right.l0]
    rw [if_pos (by omega), if_pos (by omega), if_pos (by omega), hrd]
    have hj : pred_Right.j2 (n.f2.length + 1 + M + 1 + 1 + 1 + 1) i 0 0 l l.length i n.f0 true n.f0 n.f1.f0 n.f1.f1 n.f1.f2 n.f2 = if nodeB n i then pred_Right.l0 (M + 1) l l.length ((i + 1 : Nat) : Int) else some false := by
      simp only [pred_Right.j2]
      rw [if_pos trivial, show n.f2.length + 1 + M + 3 = n.f2.length + 1 + (M + 1) + 1 + 1 by omega]
      have h := r_j4 i 0 0 l l.length i n ht hs (M + 1)
      rw [hw] at h
      have e : nodeB n i = ((if n.f0 = 3 then tstB n.f1 else testZ n.f1) && (decide (0 ≤ n.f2.length ∧ n.f2.length ≤ 0) && subsB n.f2 i)) := by
        unfold nodeB lowN highN
        rw [decide_eq_true (show 1 ≤ n.f0 ∧ n.f0 ≤ 6 by omega), if_neg (show ¬ n.f0 = 6 by omega), if_neg (show ¬ (n.f0 = 4 ∨ n.f0 = 5) by omega)]
        rfl
      rw [e]
      exact h
    rcases h1 with h1 | h1 | h1
    · rw [if_pos h1, show (n.f0 == 1) = true by simp [h1]]; exact hj
    · rw [if_neg (by omega), if_pos h1, show (n.f0 == 2) = true by simp [h1]]; exact hj
    · rw [if_neg (by omega), if_neg (by omega), show (n.f0 == 3) = true by simp [h1]]; exact hj
  · refine ⟨M, by omega, ?_⟩
    simp only [pred_Right.l0]
    rw [if_pos (by omega), if_pos (by omega), if_pos (by omega), hrd, if_neg (by omega), if_neg (by omega), show (n.f0 == 3) = false by simp; omega]
    simp only [pred_Right.j2, pred_Right.j3]
    have hj : ∀ lo hi : Nat, lo = lowN n.f0 → hi = highN n.f0 → 1 ≤ n.f0 ∧ n.f0 ≤ 6 → pred_Right.j4 (n.f2.length + 1 + M + 1 + 1) i lo hi l l.length i n.f0 n.f1.f0 n.f1.f1 n.f1.f2 n.f2 = if nodeB n i then pred_Right.l0 M l l.length ((i + 1 : Nat) : Int) else some false := by
      intro lo hi e1 e2 e3
      have h := r_j4 i lo hi l l.length i n ht hs M
      rw [hw] at h
      have e : nodeB n i = ((if n.f0 = 3 then tstB n.f1 else testZ n.f1) && (decide (lo ≤ n.f2.length ∧ n.f2.length ≤ hi) && subsB n.f2 i)) := by
        unfold nodeB
        rw [decide_eq_true e3, e1, e2]; rfl
      rw [e]
      exact h
    rw [if_neg (by decide)]
    by_cases h4 : n.f0 = 4
    · rw [if_pos h4, if_pos (by simp [h4])]
      exact hj 0 12 (by unfold lowN; rw [if_neg (by omega)]) (by unfold highN; rw [if_pos (by omega)]) (by omega)
    · rw [if_neg h4]
      by_cases h5 : n.f0 = 5
      · rw [if_pos (by simp [h5])]
        exact hj 0 12 (by unfold lowN; rw [if_neg (by omega)]) (by unfold highN; rw [if_pos (by omega)]) (by omega)
      · rw [if_neg (by simp [h5])]
        by_cases h6 : n.f0 = 6
        · rw [if_pos h6]
          exact hj 1 1 (by unfold lowN; rw [if_pos h6]) (by unfold highN; rw [if_neg (by omega), if_pos h6]) (by omega)
        · rw [if_neg h6]
          have e : nodeB n i = false := by unfold nodeB; rw [decide_eq_false (by omega)]; rfl
          rw [e]; rfl
def smallP (l : List S52) : Prop := l.length ≤ 9223372036854775807 ∧ ∀ i, (atN l i).f2.length ≤ 9223372036854775807
theorem r_l0 (l : List S52) (hl : smallP l) (ho : okP l) : ∀ (d i : Nat), i + d = l.length → ∃ K0, ∀ K, K0 ≤ K → pred_Right.l0 K l l.length i = some (nodesFrom l d i) := by
  intro d
  induction d with
  | zero =>
    intro i h
    refine ⟨1, fun K hK => ?_⟩
    obtain ⟨K, rfl⟩ : ∃ m, K = m + 1 := ⟨K - 1, by omega⟩
    simp only [pred_Right.l0]
    rw [if_neg (by omega)]; rfl
  | succ d ih =>
    intro i h
    obtain ⟨K0, h0⟩ := ih (i + 1) (by omega)
    refine ⟨K0 + (atN l i).f2.length + 8, fun K hK => ?_⟩
    obtain ⟨K', hK', he⟩ := r_node l i (by omega) (okP_at ho i) (hl.2 i) hl.1 K (by omega)
    rw [he, h0 K' (by omega)]
    show _ = some (nodeB (atN l i) i && nodesFrom l d (i + 1))
    cases nodeB (atN l i) i <;> simp
theorem right_f (l : List S52) (hl : smallP l) (ho : okP l) : ∃ k, pred_Right.f k l = some (rightB l) := by
  obtain ⟨K0, h0⟩ := r_l0 l hl ho l.length 0 (by omega)
  refine ⟨K0 + 1, ?_⟩
  unfold pred_Right.f rightB
  by_cases h1 : l.length = 0
  · rw [if_pos (by omega)]
    simp only [pred_Right.j0]
    rw [if_pos trivial, decide_eq_false (by omega)]; rfl
  · rw [if_neg (by omega)]
    simp only [pred_Right.j0]
    by_cases h2 : l.length ≤ 60
    · rw [decide_eq_false (show ¬ ((l.length : Int) > 60) by omega), if_neg (by decide), decide_eq_true (show 1 ≤ l.length ∧ l.length ≤ 60 by omega)]
      have := h0 K0 (Nat.le_refl _)
      simpa using this
    · rw [decide_eq_true (show ((l.length : Int) > 60) by omega), if_pos rfl, decide_eq_false (by omega)]; rfl
theorem smallP_of_C {w : World} {A : Option Addr} {l : List S52} (hr : k52.C w A l.length l) : smallP l := by
  refine ⟨hr.2.1, fun i => ?_⟩
  unfold atN
  rw [List.getD_eq_getElem?_getD]
  rcases Nat.lt_or_ge i l.length with h1 | h1
  · obtain ⟨ad, c, _, _, hK, _⟩ := Kd.C_get hr z52 (i : Int) (by omega) (by omega)
    obtain ⟨A4, c4, _, _, g4⟩ := k52_open hK
    have := g4.2.1
    rw [List.getElem?_eq_getElem h1]
    simpa [List.getD_eq_getElem?_getD, List.getElem?_eq_getElem h1] using this
  · rw [List.getElem?_eq_none h1]; simp [z52]
theorem right_any (A : Option Addr) (c : Nat) (l : List S52) (ho : okP l) (w : World) (hr : k52.C w A l.length l) (hc : l.length ≤ c) :
    Calls Try.prog 22 #[.agg #[.slice A l.length c]] w fun e w' => e = .returned (.bool (rightB l)) ∧ Below w.heap.size w w' := by
  obtain ⟨k, hk⟩ := right_f l (smallP_of_C hr) ho
  exact pred_Right.calls k A c l (rightB l) w hr hc hk
end Go.Proofs.Ytmhjnfkhfjejeaa
namespace Go.Proofs.Ytmhjnfkhfjejeaa
set_option linter.unusedVariables false
set_option linter.unusedSimpArgs false
open Go.RowKit Go.Proofs.YtmhjnfkhfjejeaaW.PrintWords Go.Proofs.YtmhjnfkhfjejeaaW.PrintLast Go.Proofs.YtmhjnfkhfjejeaaW.PrintMore
open PPredCubes
/-- The box of one test. -/
def isBox (t : S47) : Bx := ⟨upd z67.m t.f0.toNat t.f2.toNat, upd z67.v t.f0.toNat t.f1.toNat⟩
/-- The boxes of a node, out of those of the ones ahead; false: too many. -/
def nodeL (n : S52) (hs : List (List Bx)) : List Bx := if n.f0 = 1 then [z67] else if n.f0 = 2 then [] else if n.f0 = 3 then [isBox n.f1] else joinL n.f0 n.f2 hs
def nodeOk (n : S52) (hs : List (List Bx)) : Bool := if n.f0 = 1 ∨ n.f0 = 2 ∨ n.f0 = 3 then true else joinOk n.f0 n.f2 hs
def haveTo (ns : List S52) : Nat → List (List Bx)
  | 0 => []
  | k + 1 => haveTo ns k ++ [nodeL (atN ns k) (haveTo ns k)]
def haveOk (ns : List S52) : Nat → Bool
  | 0 => true
  | k + 1 => haveOk ns k && nodeOk (atN ns k) (haveTo ns k)
def boxesOk (ns : List S52) : Bool := haveOk ns ns.length
def boxesL (ns : List S52) : List Bx := if boxesOk ns then rowAt (haveTo ns ns.length) (ns.length - 1) else []
theorem haveTo_len (ns : List S52) (k : Nat) : (haveTo ns k).length = k := by
  induction k with
  | zero => rfl
  | succ k ih => simp only [haveTo, List.length_append, ih, List.length_singleton]
theorem haveOk_mono {ns : List S52} (k : Nat) (h : haveOk ns k = false) (j : Nat) : haveOk ns (k + j) = false := by
  induction j with
  | zero => exact h
  | succ j ih => show (haveOk ns (k + j) && _) = false; rw [ih]; rfl
theorem boxesOk_false {ns : List S52} {k : Nat} (h : haveOk ns k = false) (hk : k ≤ ns.length) : boxesOk ns = false := by
  have := haveOk_mono k h (ns.length - k)
  rwa [show k + (ns.length - k) = ns.length by omega] at this
theorem nodesFrom_at (ns : List S52) : ∀ (d i : Nat), nodesFrom ns d i = true → ∀ k, i ≤ k → k < i + d → nodeB (atN ns k) k = true := by
  intro d
  induction d with
  | zero => intro i _ k h1 h2; omega
  | succ d ih =>
    intro i h k h1 h2
    simp only [nodesFrom, Bool.and_eq_true] at h
    rcases Nat.eq_or_lt_of_le h1 with rfl | h3
    · exact h.1
    · exact ih (i + 1) h.2 k h3 (by omega)
theorem rightB_at {ns : List S52} (h : rightB ns = true) {k : Nat} (hk : k < ns.length) : nodeB (atN ns k) k = true := by
  unfold rightB at h
  simp only [Bool.and_eq_true] at h
  exact nodesFrom_at ns ns.length 0 h.2 k (by omega) (by omega)
theorem rightB_len {ns : List S52} (h : rightB ns = true) : 1 ≤ ns.length ∧ ns.length ≤ 60 := by
  unfold rightB at h
  simp only [Bool.and_eq_true] at h
  exact of_decide_eq_true h.1
structure NodeR (n : S52) (i : Nat) : Prop where
  kind : 1 ≤ n.f0 ∧ n.f0 ≤ 6
  test : n.f0 = 3 → tstB n.f1 = true
  zero : n.f0 ≠ 3 → testZ n.f1 = true
  lens : lowN n.f0 ≤ n.f2.length ∧ n.f2.length ≤ highN n.f0
  subs : inH n.f2 i
theorem nodeB_iff (n : S52) (i : Nat) : nodeB n i = true ↔ NodeR n i := by
  unfold nodeB
  simp only [Bool.and_eq_true]
  constructor
  · rintro ⟨h1, h2, h3, h4⟩
    refine ⟨of_decide_eq_true h1, fun h => ?_, fun h => ?_, of_decide_eq_true h3, fun s hs => ?_⟩
    · rw [if_pos h] at h2; exact h2
    · rw [if_neg h] at h2; exact h2
    · have := List.all_eq_true.1 h4 s hs
      simp only [Bool.and_eq_true, decide_eq_true_eq] at this
      exact this
  · rintro ⟨h1, h2, h3, h4, h5⟩
    refine ⟨decide_eq_true h1, ?_, decide_eq_true h4, List.all_eq_true.2 fun s hs => ?_⟩
    · by_cases h : n.f0 = 3
      · rw [if_pos h]; exact h2 h
      · rw [if_neg h]; exact h3 h
    · have := h5 s hs
      simp only [Bool.and_eq_true, decide_eq_true_eq]
      exact this
theorem isBox_ok {t : S47} (h : okT t) : (isBox t).ok := fun i => by
  obtain ⟨f, v, m, rfl, hv, hm⟩ := okT_nat h
  exact ⟨upd_lt (fun i => (z67_ok i).1) hm i, upd_lt (fun i => (z67_ok i).2) hv i⟩
theorem joinL_ok {kind : Int} {subs : List Int} {hs : List (List Bx)} (h : okH hs) : okB (joinL kind subs hs) ∧ (joinOk kind subs hs = true → (joinL kind subs hs).length ≤ 1000) := by
  have hz : okB [z67] := fun x hx => by rw [List.mem_singleton.1 hx]; exact z67_ok
  unfold joinL joinOk
  split
  · refine ⟨withL_ok hz, fun h1 => ?_⟩
    rw [withL_yes h1]
    rcases Nat.eq_zero_or_pos (rowAt hs (subAt subs 0)).length with h0 | h0
    · rw [h0]; simp [wTo]
    · obtain ⟨k, hk⟩ : ∃ k, (rowAt hs (subAt subs 0)).length = k + 1 := ⟨_, (Nat.sub_add_cancel h0).symm⟩
      unfold withOk at h1
      rw [hk] at h1 ⊢
      simp only [wOk, Bool.and_eq_true] at h1
      have := of_decide_eq_true h1.2
      simp only [wTo]; omega
  · split
    · refine ⟨?_, fun h1 => ?_⟩
      · split
        · exact anyTo_ok h _
        · exact okB_nil
      · rw [if_pos h1]; have := anyOk_len _ h1; omega
    · refine ⟨?_, fun h1 => ?_⟩
      · split
        · exact allTo_ok h _
        · exact okB_nil
      · rw [if_pos h1]; have := allOk_len _ h1; omega
theorem nodeL_ok {n : S52} {hs : List (List Bx)} (ht : okT n.f1) (h : okH hs) (ho : nodeOk n hs = true) : okB (nodeL n hs) ∧ (nodeL n hs).length ≤ 1000 := by
  unfold nodeL
  split
  · exact ⟨fun x hx => by rw [List.mem_singleton.1 hx]; exact z67_ok, by simp⟩
  · split
    · exact ⟨okB_nil, by simp⟩
    · split
      · exact ⟨fun x hx => by rw [List.mem_singleton.1 hx]; exact isBox_ok ht, by simp⟩
      · rename_i h1 h2 h3
        unfold nodeOk at ho
        rw [if_neg (by omega)] at ho
        exact ⟨(joinL_ok h).1, (joinL_ok h).2 ho⟩
theorem haveTo_ok {ns : List S52} (hp : okP ns) (k : Nat) (h : haveOk ns k = true) : okH (haveTo ns k) := by
  induction k with
  | zero => intro x hx; simp [haveTo] at hx
  | succ k ih =>
    simp only [haveOk, Bool.and_eq_true] at h
    intro x hx
    rcases List.mem_append.1 hx with hx | hx
    · exact ih h.1 x hx
    · rw [List.mem_singleton.1 hx]; exact nodeL_ok (okP_at hp k) (ih h.1) h.2
theorem joined_any (P : Nat → Prop) (As Ah : Option Addr) (cs ch : Nat) (kind f v m : Int) (hk : kind = 4 ∨ kind = 5 ∨ kind = 6) (subs : List Int) (hs : List (List Bx)) (hH : okH hs) (hI : inH subs hs.length) (h1 : kind = 6 → subs.length = 1) (w : World)
    (hr : (Kd.int .i64).C w As subs.length subs) (hV : Rows w P Ah hs) :
    Calls Try.prog 62 #[.agg #[.int .i64 kind, .int .i64 f, .int .u64 v, .int .u64 m, .slice As subs.length cs], .slice Ah hs.length ch] w
      fun e w' => ∃ v, e = .returned (.tuple #[v, .bool (joinOk kind subs hs)]) ∧ Kd.V k67 67 w' w.heap.size (fun k => P k ∨ w.heap.size ≤ k) v (joinL kind subs hs) ∧ Below w.heap.size w w' := by
  rcases hk with rfl | rfl | rfl
  · exact joined_and P As Ah cs ch f v m subs hs hH hI w hr hV
  · exact joined_or P As Ah cs ch f v m subs hs hH hI w hr hV
  · exact joined_not P As Ah cs ch f v m subs hs hH hI (h1 rfl) w hr hV
/-- The k-th node of a row. -/
def S52.cs (n : S52) (s : Value) : Array Value := #[.int .i64 n.f0, .int .i64 n.f1.f0, .int .u64 n.f1.f1, .int .u64 n.f1.f2, s]
theorem rd52 {w : World} {A : Option Addr} {l : List S52} (h : k52.C w A l.length l) {i : Nat} (hi : i < l.length) :
    ∃ ad A4 c4, A = some ad ∧ Lies w (ad.add (i * 5)) (S52.cs (atN l i) (.slice A4 (atN l i).f2.length c4)).toList ∧ (atN l i).f2.length ≤ c4 ∧ (Kd.int .i64).C w A4 (atN l i).f2.length (atN l i).f2 := by
  obtain ⟨ad, c, rfl, hcl, hK, hcc⟩ := Kd.C_get h z52 (i : Int) (by omega) (by omega)
  obtain ⟨A4, c4, rfl, hle, g4⟩ := k52_open hK
  exact ⟨ad, A4, c4, rfl, fun j v hv => by rw [add_add]; exact hcc j v hv, hle, g4⟩
theorem info52s : (Try.prog.info? 52).map (·.size) = some 5 := by kernel_rfl
theorem info24s : (Try.prog.info? 24).map (·.size) = some 1 := by kernel_rfl

set_option maxHeartbeats 4000000 in
set_option maxRecDepth 100000 in
theorem boxes_any (A : Option Addr) (c : Nat) (ns : List S52) (hR : rightB ns = true) (hP : okP ns) (w : World) (hr : k52.C w A ns.length ns) :
    Calls Try.prog 42 #[.agg #[.slice A ns.length c]] w fun e w' => ∃ v, e = .returned (.tuple #[v, .bool (boxesOk ns)]) ∧ Kd.V k67 67 w' w.heap.size (fun k => w.heap.size ≤ k) v (boxesL ns) ∧ Below w.heap.size w w' := by
  have HR := Lib.hid hr
  have HRT := Lib.hid hR
  have HP := Lib.hid hP
  obtain ⟨hl1, hl2⟩ := rightB_len hR
  clear hr hR hP
  go_enter Try.func42, Try.ntmps42
  go_wp2_with (refine wpList_box rfl 1 rfl #[.slice A ns.length c] 24 ?hr ?_; (case hr => first | (go_simp; done) | (go_simp; rfl)); intro g1 w1 hg1 k1 hb1; have d0 : w1.cell? ⟨g1, 0, none⟩ = some (.slice A ns.length c) := blk_cell k1 0; have HB1 := Lib.hid hb1; clear hb1 k1)
  clear d0 hg1
  go_loopw [4, 12] (fun v4 vk wr => ∃ k : Nat, vk = .int .i64 k ∧ k ≤ ns.length ∧ Hid (haveOk ns k = true) ∧ Hid (Kd.N (Kd.slice 67 k67) 62 wr w.heap.size (fun k => w.heap.size ≤ k) v4 (haveTo ns k)) ∧ Below w.heap.size w wr) (fun _ vk _ => ns.length - (intOf vk).toNat)
  case atStart => exact ⟨0, rfl, by omega, Lib.hid rfl, Lib.hid (Kd.N_nil _ _ _ _ _), HB1.out⟩
  case round =>
    obtain ⟨k, rfl, hk, HK, HN, hw⟩ := hrel
    have HW := Lib.hid hw
    clear hw HB1
    by_cases hlt : k < ns.length
    · obtain ⟨ad, A4, c4, rfl, hlies, hle4, hsub⟩ := rd52 (Kd.C_below HR.out HW.out) hlt
      have hnr := (nodeB_iff _ _).1 (rightB_at HRT.out hlt)
      have hok := okP_at HP.out k
      obtain ⟨n, hn⟩ : ∃ n, atN ns k = n := ⟨_, rfl⟩
      rw [hn] at hlies hle4 hsub hnr hok
      have HNQ := Lib.hid hn
      have HLI := Lib.hid hlies
      have HSUB := Lib.hid hsub
      have HNR := Lib.hid hnr
      have HOK := Lib.hid hok
      have q1 : (k : Int) < (ns.length : Int) := by omega
      clear hn hlies hsub hnr hok
      obtain ⟨A0, c0, e0⟩ := Kd.N_slice HN.out
      subst e0
      have hown := Kd.N_lt HN.out
      have HOWN := Lib.hid hown
      clear hown
      obtain ⟨kd, t, sb⟩ := n
      obtain ⟨hk1, hk2⟩ : 1 ≤ kd ∧ kd ≤ 6 := HNR.out.kind
      by_cases h1 : kd = 1
      · subst h1
        go_wp2_with (first
          | (refine wpList_load_at rfl 52 (.tmp 14) rfl (ad.add (k * 5)) rfl #[.int .i64 1, .int .i64 t.f0, .int .u64 t.f1, .int .u64 t.f2, .slice A4 sb.length c4] _ HLI.out Try.underlying52 rfl info52s ?_)
          | (refine wpList_newz rfl rfl 6 rfl 52 (.tmp 15) rfl rfl rfl (.agg #[.int .i64 0, .int .i64 0, .int .u64 0, .int .u64 0, .slice none 0 0]) #[.int .i64 1, .int .i64 t.f0, .int .u64 t.f1, .int .u64 t.f2, .slice A4 sb.length c4] info52z rfl rfl info52s rfl (by simp [Value.oneCell']) ?_; intro g6 w6 hg6 k6 hb6; have K6 := Lib.hid k6; have HB6 := Lib.hid hb6; clear k6 hb6)
          | (refine wpList_lit67e rfl (.tmp 16) rfl 17 rfl z67 rfl ?_; intro g17 w17 hg17 hR17 hb17; have K67 := Lib.hid (blk_below K6.out hb17); have d0 : w17.cell? ⟨g6, 0, none⟩ = some (.int .i64 1) := blk_cell K67.out 0;  have HR17 := Lib.hid hR17; have HB17 := Lib.hid (HB6.out.trans (hb17.mono HB6.out.size)); have HG17 : Hid (wr.heap.size ≤ g17) := Lib.hid (by rw [hg17.out]; exact HB6.out.size); have HN17 := Lib.hid (Kd.N_below HN.out HB17.out); have HBW17 := Lib.hid (HW.out.trans (HB17.out.mono HW.out.size)); clear hR17 hb17)
          | (at_builtin; refine Kd.N_append (Kd.slice 67 k67) (w0 := w) (W := w17) w.heap.size rfl (.tmp 56) (.tmp 58) 88 62 _ 24 rfl Try.underlying88 info62z rfl (by decide) (by decide) (.slice A0 (haveTo ns k).length c0) (haveTo ns k) [z67] [.slice (some ⟨g17, 0, none⟩) 1 1] (fun q => w.heap.size ≤ q) (fun q => q = g17) rfl rfl (Kd.FK_slice_mk (c := 1) (l := [z67]) (Nat.le_refl _) (Kd.V_at (Kd.R_V (base' := 0) HR17.out)).2.2) (fun q hq => ⟨by rw [hq]; exact Nat.le_trans HW.out.size HG17.out, fun e => by have := HOWN.out _ e.symm; have := HG17.out; omega⟩) (fun q hq => Nat.le_trans HBW17.out.size hq) HN17.out HBW17.out HBW17.out.size ?hlen ?_))
        case hlen => rw [haveTo_len]; omega
        intro v5 w5 hn5 hb5 _ _
        have HN5 : Hid (Kd.N (Kd.slice 67 k67) 62 w5 w.heap.size (fun q => w.heap.size ≤ q) v5 (haveTo ns (k + 1))) := Lib.hid (by
          simp only [haveTo]; rw [HNQ.out]; rw [show nodeL ⟨1, t, sb⟩ (haveTo ns k) = [z67] from by simp [nodeL]]
          exact hn5)
        have HK5 : Hid (haveOk ns (k + 1) = true) := Lib.hid (by simp only [haveOk]; rw [HK.out, HNQ.out]; unfold nodeOk; rw [if_pos (Or.inl rfl)]; rfl)
        have HW5 := Lib.hid hb5
        clear hn5 hb5
        go_wp2_with fail
        go_roundw
        case rel => exact ⟨k + 1, by go_num, by omega, HK5, HN5, HW5.out⟩
        case measure => simp [intOf] <;> omega
      · by_cases h2 : kd = 2
        · subst h2
          go_wp2_with (first
            | (refine wpList_load_at rfl 52 (.tmp 14) rfl (ad.add (k * 5)) rfl #[.int .i64 2, .int .i64 t.f0, .int .u64 t.f1, .int .u64 t.f2, .slice A4 sb.length c4] _ HLI.out Try.underlying52 rfl info52s ?_)
            | (refine wpList_newz rfl rfl 6 rfl 52 (.tmp 15) rfl rfl rfl (.agg #[.int .i64 0, .int .i64 0, .int .u64 0, .int .u64 0, .slice none 0 0]) #[.int .i64 2, .int .i64 t.f0, .int .u64 t.f1, .int .u64 t.f2, .slice A4 sb.length c4] info52z rfl rfl info52s rfl (by simp [Value.oneCell']) ?_; intro g6 w6 hg6 k6 hb6; have K6 := Lib.hid k6; have HB6 := Lib.hid hb6; clear k6 hb6)
            | (refine wpList_lit67e rfl (.tmp 16) rfl 17 rfl z67 rfl ?_; intro g17 w17 hg17 hR17 hb17; have K67 := Lib.hid (blk_below K6.out hb17); have d0 : w17.cell? ⟨g6, 0, none⟩ = some (.int .i64 2) := blk_cell K67.out 0;  have HR17 := Lib.hid hR17; have HB17 := Lib.hid (HB6.out.trans (hb17.mono HB6.out.size)); have HG17 : Hid (wr.heap.size ≤ g17) := Lib.hid (by rw [hg17.out]; exact HB6.out.size); have HN17 := Lib.hid (Kd.N_below HN.out HB17.out); have HBW17 := Lib.hid (HW.out.trans (HB17.out.mono HW.out.size)); clear hR17 hb17)
            | (at_builtin; refine Kd.N_append (Kd.slice 67 k67) (w0 := w) (W := w17) w.heap.size rfl (.tmp 56) (.tmp 58) 88 62 _ 24 rfl Try.underlying88 info62z rfl (by decide) (by decide) (.slice A0 (haveTo ns k).length c0) (haveTo ns k) ([] : List Bx) [.slice none 0 0] (fun q => w.heap.size ≤ q) (fun q => False) rfl rfl (Kd.FK_slice_mk (c := 0) (l := ([] : List Bx)) (Nat.le_refl _) (Kd.V_at (Kd.V_nil k67 67 w17 0 (fun _ => False))).2.2) (fun q hq => hq.elim) (fun q hq => Nat.le_trans HBW17.out.size hq) HN17.out HBW17.out HBW17.out.size ?hlen ?_))
          case hlen => rw [haveTo_len]; omega
          intro v5 w5 hn5 hb5 _ _
          have HN5 : Hid (Kd.N (Kd.slice 67 k67) 62 w5 w.heap.size (fun q => w.heap.size ≤ q) v5 (haveTo ns (k + 1))) := Lib.hid (by
            simp only [haveTo]; rw [HNQ.out]; rw [show nodeL ⟨2, t, sb⟩ (haveTo ns k) = ([] : List Bx) from by simp [nodeL]]
            exact hn5)
          have HK5 : Hid (haveOk ns (k + 1) = true) := Lib.hid (by simp only [haveOk]; rw [HK.out, HNQ.out]; unfold nodeOk; rw [if_pos (Or.inr (Or.inl rfl))]; rfl)
          have HW5 := Lib.hid hb5
          clear hn5 hb5
          go_wp2_with fail
          go_roundw
          case rel => exact ⟨k + 1, by go_num, by omega, HK5, HN5, HW5.out⟩
          case measure => simp [intOf] <;> omega
        · by_cases h3 : kd = 3
          · subst h3
            have htst : tstB t = true := HNR.out.test rfl
            have htz : okT t := HOK.out
            obtain ⟨f, vv, mm, rfl, hv64, hm64⟩ := okT_nat htz
            obtain ⟨hf1, hf2, -⟩ := (testB_iff f vv mm).1 (by simpa [tstB] using htst)
            obtain ⟨fn, rfl⟩ := Int.eq_ofNat_of_zero_le (show 0 ≤ f by omega)
            have hfn : fn < 10 := by omega
            clear htst htz
            go_wp2_with (first
              | (refine wpList_load_at rfl 52 (.tmp 14) rfl (ad.add (k * 5)) rfl #[.int .i64 3, .int .i64 (fn : Int), .int .u64 (vv : Int), .int .u64 (mm : Int), .slice A4 sb.length c4] _ HLI.out Try.underlying52 rfl info52s ?_)
              | (refine wpList_newz rfl rfl 6 rfl 52 (.tmp 15) rfl rfl rfl (.agg #[.int .i64 0, .int .i64 0, .int .u64 0, .int .u64 0, .slice none 0 0]) #[.int .i64 3, .int .i64 (fn : Int), .int .u64 (vv : Int), .int .u64 (mm : Int), .slice A4 sb.length c4] info52z rfl rfl info52s rfl (by simp [Value.oneCell']) ?_; intro g6 w6 hg6 k6 hb6; have K6 := Lib.hid k6; have HB6 := Lib.hid hb6; clear k6 hb6)
              | (refine wpList_lit67e rfl (.tmp 16) rfl 17 rfl z67 rfl ?_; intro g17 w17 hg17 hR17 hb17; have K67 := Lib.hid (blk_below K6.out hb17); have d0 : w17.cell? ⟨g6, 0, none⟩ = some (.int .i64 3) := blk_cell K67.out 0; have d1 : w17.cell? ⟨g6, 1, none⟩ = some (.int .i64 (fn : Int)) := blk_cell K67.out 1; have d2 : w17.cell? ⟨g6, 2, none⟩ = some (.int .u64 (vv : Int)) := blk_cell K67.out 2; have d3 : w17.cell? ⟨g6, 3, none⟩ = some (.int .u64 (mm : Int)) := blk_cell K67.out 3; have bx : BoxAt w17 g17 z67.m z67.v := one_box hR17; have f1 := bx.free fn; have f2 := bx.free (10 + fn); have e1 := bx.m hfn; have e2 := bx.v hfn; have q5 : g6 ≠ g17 := (fun e => by have := blk_lt K6.out; have := hg17.out; omega); have BX := Lib.hid bx; clear bx; have HR17 := Lib.hid hR17; have HB17 := Lib.hid (HB6.out.trans (hb17.mono HB6.out.size)); have HG17 : Hid (wr.heap.size ≤ g17) := Lib.hid (by rw [hg17.out]; exact HB6.out.size); clear hR17 hb17))
            go_region
            generalize hW9 : World.drew _ = W9
            have hbx : BoxAt ((w17.setCell ⟨g17, fn, none⟩ (.int .u64 mm)).setCell ⟨g17, 10 + fn, none⟩ (.int .u64 vv)) g17 (isBox ⟨(fn : Int), (vv : Int), (mm : Int)⟩).m (isBox ⟨(fn : Int), (vv : Int), (mm : Int)⟩).v := by
              have := (BX.out.set_m hfn mm).set_v hfn vv
              unfold isBox; simpa using this
            have HBX : Hid (BoxAt W9 g17 (isBox ⟨(fn : Int), (vv : Int), (mm : Int)⟩).m (isBox ⟨(fn : Int), (vv : Int), (mm : Int)⟩).v) := Lib.hid (hW9 ▸ hbx)
            have HB9 : Hid (Below wr.heap.size wr W9) := Lib.hid (hW9 ▸ ((HB17.out.setCell HG17.out _).setCell HG17.out _).drew)
            have HR9 : Hid (k67.R 67 W9 0 (fun q => q = g17) (.slice (some ⟨g17, 0, none⟩) 1 1) [isBox ⟨(fn : Int), (vv : Int), (mm : Int)⟩]) := Lib.hid (box_one HBX.out)
            have HN9 := Lib.hid (Kd.N_below HN.out HB9.out)
            have HBW9 := Lib.hid (HW.out.trans (HB9.out.mono HW.out.size))
            clear hW9 hbx HBX HR17 HB17 BX d0 d1 d2 d3 e1 e2 f1 f2 q5 K6 K67 HB6
            go_wp2_with (at_builtin; refine Kd.N_append (Kd.slice 67 k67) (w0 := w) (W := W9) w.heap.size rfl (.tmp 56) (.tmp 58) 88 62 _ 24 rfl Try.underlying88 info62z rfl (by decide) (by decide) (.slice A0 (haveTo ns k).length c0) (haveTo ns k) [isBox ⟨(fn : Int), (vv : Int), (mm : Int)⟩] [.slice (some ⟨g17, 0, none⟩) 1 1] (fun q => w.heap.size ≤ q) (fun q => q = g17) rfl rfl (Kd.FK_slice_mk (c := 1) (l := [isBox ⟨(fn : Int), (vv : Int), (mm : Int)⟩]) (Nat.le_refl _) (Kd.V_at (Kd.R_V (base' := 0) HR9.out)).2.2) (fun q hq => ⟨by rw [hq]; exact Nat.le_trans HW.out.size HG17.out, fun e => by have := HOWN.out _ e.symm; have := HG17.out; omega⟩) (fun q hq => Nat.le_trans HBW9.out.size hq) HN9.out HBW9.out HBW9.out.size ?hlen ?_)
            case hlen => rw [haveTo_len]; omega
            intro v5 w5 hn5 hb5 _ _
            have HN5 : Hid (Kd.N (Kd.slice 67 k67) 62 w5 w.heap.size (fun q => w.heap.size ≤ q) v5 (haveTo ns (k + 1))) := Lib.hid (by
              simp only [haveTo]; rw [HNQ.out]; rw [show nodeL ⟨3, ⟨(fn : Int), (vv : Int), (mm : Int)⟩, sb⟩ (haveTo ns k) = [isBox ⟨(fn : Int), (vv : Int), (mm : Int)⟩] from by simp [nodeL]]
              exact hn5)
            have HK5 : Hid (haveOk ns (k + 1) = true) := Lib.hid (by simp only [haveOk]; rw [HK.out, HNQ.out]; unfold nodeOk; rw [if_pos (Or.inr (Or.inr rfl))]; rfl)
            have HW5 := Lib.hid hb5
            clear hn5 hb5
            go_wp2_with fail
            go_roundw
            case rel => exact ⟨k + 1, by go_num, by omega, HK5, HN5, HW5.out⟩
            case measure => simp [intOf] <;> omega

          · have hkd : kd = 4 ∨ kd = 5 ∨ kd = 6 := by omega
            have z1 : (kd == 1) = false := by simpa using h1
            have z2 : (kd == 2) = false := by simpa using h2
            have z3 : (kd == 3) = false := by simpa using h3
            have HK6 : Hid (kd = 6 → sb.length = 1) := Lib.hid (fun e => by
              have h := HNR.out.lens
              have e' : kd = 6 := e
              simp [lowN, highN, e'] at h
              omega)
            have HIN : Hid (inH sb (haveTo ns k).length) := Lib.hid (by rw [haveTo_len]; exact HNR.out.subs)
            have HHK := Lib.hid (haveTo_ok HP.out k HK.out)
            have HNO : Hid (nodeL ⟨kd, t, sb⟩ (haveTo ns k) = joinL kd sb (haveTo ns k)) := Lib.hid (by unfold nodeL; rw [if_neg h1, if_neg h2, if_neg h3])
            have HNK : Hid (nodeOk ⟨kd, t, sb⟩ (haveTo ns k) = joinOk kd sb (haveTo ns k)) := Lib.hid (by unfold nodeOk; rw [if_neg (by show ¬ (kd = 1 ∨ kd = 2 ∨ kd = 3); omega)])
            rcases hkd with rfl | rfl | rfl
            · clear h1 h2 h3 z1 z2 z3
              go_wp2_with (first
                | (refine wpList_load_at rfl 52 (.tmp 14) rfl (ad.add (k * 5)) rfl #[.int .i64 4, .int .i64 t.f0, .int .u64 t.f1, .int .u64 t.f2, .slice A4 sb.length c4] _ HLI.out Try.underlying52 rfl info52s ?_)
                | (refine wpList_newz rfl rfl 6 rfl 52 (.tmp 15) rfl rfl rfl (.agg #[.int .i64 0, .int .i64 0, .int .u64 0, .int .u64 0, .slice none 0 0]) #[.int .i64 4, .int .i64 t.f0, .int .u64 t.f1, .int .u64 t.f2, .slice A4 sb.length c4] info52z rfl rfl info52s rfl (by simp [Value.oneCell']) ?_; intro g6 w6 hg6 k6 hb6; have K6 := Lib.hid k6; have HB6 := Lib.hid hb6; clear k6 hb6)
                | (refine wpList_lit67e rfl (.tmp 16) rfl 17 rfl z67 rfl ?_; intro g17 w17 hg17 hR17 hb17; have K67 := Lib.hid (blk_below K6.out hb17); have d0 : w17.cell? ⟨g6, 0, none⟩ = some (.int .i64 4) := blk_cell K67.out 0;  have HR17 := Lib.hid hR17; have HB17 := Lib.hid (HB6.out.trans (hb17.mono HB6.out.size)); have HG17 : Hid (wr.heap.size ≤ g17) := Lib.hid (by rw [hg17.out]; exact HB6.out.size); clear hR17 hb17)
                | (refine wpList_load_at rfl 52 (.tmp 6) rfl ⟨g6, 0, none⟩ rfl #[.int .i64 4, .int .i64 t.f0, .int .u64 t.f1, .int .u64 t.f2, .slice A4 sb.length c4] _ (Lies.of_block K67.out) Try.underlying52 rfl info52s ?_))
              have hbw := HW.out.trans (HB17.out.mono HW.out.size)
              have HBW17 := Lib.hid hbw
              have HN17 := Lib.hid (Kd.N_below HN.out HB17.out)
              go_at_call 62
              refine (joined_any (fun q => w.heap.size ≤ q ∧ some q ≠ (Value.slice A0 (haveTo ns k).length c0).ownBlock) A4 A0 c4 c0 4 t.f0 t.f1 t.f2 (by decide) sb (haveTo ns k) HHK.out HIN.out (fun e => by first | exact HK6.out e | exact HK6.out trivial | exact absurd e (by decide)) w17 (Kd.C_below HSUB.out HB17.out) (Rows.of_N HN17.out)).mono ?_
              rintro e w9 ⟨v9, rfl, hv9, hb9⟩
              have HV9 := Lib.hid hv9
              have HN9 := Lib.hid (Kd.N_below HN17.out hb9)
              have HBW9 := Lib.hid (HBW17.out.trans (hb9.mono HBW17.out.size))
              have hsz := HB17.out.size
              clear hv9 hb9 hbw d0 HR17 K6 K67 HB6
              obtain ⟨A9, c9, e9⟩ := Kd.V_slice HV9.out
              subst e9
              rw [← HNK.out]
              cases hok : nodeOk ⟨4, t, sb⟩ (haveTo ns k) with
              | true =>
                have HKO := Lib.hid hok
                clear hok
                go_wp2_with (at_builtin; refine Kd.N_append (Kd.slice 67 k67) (w0 := w) (W := w9) w.heap.size rfl (.tmp 56) (.tmp 58) 88 62 _ 24 rfl Try.underlying88 info62z rfl (by decide) (by decide) (.slice A0 (haveTo ns k).length c0) (haveTo ns k) (joinL 4 sb (haveTo ns k)) [.slice A9 (joinL 4 sb (haveTo ns k)).length c9] (fun q => w.heap.size ≤ q) (fun q => (w.heap.size ≤ q ∧ some q ≠ (Value.slice A0 (haveTo ns k).length c0).ownBlock) ∨ w17.heap.size ≤ q) rfl rfl (Kd.FK_slice_mk (c := c9) (Kd.V_at HV9.out).2.1 (Kd.V_at HV9.out).2.2) (fun q hq => hq.elim id (fun h => ⟨Nat.le_trans HBW17.out.size h, fun e => by have := HOWN.out _ e.symm; omega⟩)) (fun q hq => Nat.le_trans HBW9.out.size hq) HN9.out HBW9.out HBW9.out.size ?hlen ?_)
                case hlen => rw [haveTo_len]; omega
                intro v5 w5 hn5 hb5 _ _
                have HN5 : Hid (Kd.N (Kd.slice 67 k67) 62 w5 w.heap.size (fun q => w.heap.size ≤ q) v5 (haveTo ns (k + 1))) := Lib.hid (by
                  simp only [haveTo]; rw [HNQ.out]; rw [HNO.out]
                  exact hn5)
                have HK5 : Hid (haveOk ns (k + 1) = true) := Lib.hid (by simp only [haveOk]; rw [HK.out, HNQ.out]; rw [HKO.out]; rfl)
                have HW5 := Lib.hid hb5
                clear hn5 hb5
                go_wp2_with fail
                go_roundw
                case rel => exact ⟨k + 1, by go_num, by omega, HK5, HN5, HW5.out⟩
                case measure => simp [intOf] <;> omega

              | false =>
                have HF : Hid (boxesOk ns = false) := Lib.hid (boxesOk_false (k := k + 1) (by simp only [haveOk]; rw [HNQ.out, hok]; simp) hlt)
                clear hok
                go_wp2_with fail
                go_ret2
                exact ⟨_, ret_vb HF.out.symm, by unfold boxesL; rw [HF.out]; exact Kd.V_nil _ _ _ _ _, HBW9.out⟩
            · clear h1 h2 h3 z1 z2 z3
              go_wp2_with (first
                | (refine wpList_load_at rfl 52 (.tmp 14) rfl (ad.add (k * 5)) rfl #[.int .i64 5, .int .i64 t.f0, .int .u64 t.f1, .int .u64 t.f2, .slice A4 sb.length c4] _ HLI.out Try.underlying52 rfl info52s ?_)
                | (refine wpList_newz rfl rfl 6 rfl 52 (.tmp 15) rfl rfl rfl (.agg #[.int .i64 0, .int .i64 0, .int .u64 0, .int .u64 0, .slice none 0 0]) #[.int .i64 5, .int .i64 t.f0, .int .u64 t.f1, .int .u64 t.f2, .slice A4 sb.length c4] info52z rfl rfl info52s rfl (by simp [Value.oneCell']) ?_; intro g6 w6 hg6 k6 hb6; have K6 := Lib.hid k6; have HB6 := Lib.hid hb6; clear k6 hb6)
                | (refine wpList_lit67e rfl (.tmp 16) rfl 17 rfl z67 rfl ?_; intro g17 w17 hg17 hR17 hb17; have K67 := Lib.hid (blk_below K6.out hb17); have d0 : w17.cell? ⟨g6, 0, none⟩ = some (.int .i64 5) := blk_cell K67.out 0;  have HR17 := Lib.hid hR17; have HB17 := Lib.hid (HB6.out.trans (hb17.mono HB6.out.size)); have HG17 : Hid (wr.heap.size ≤ g17) := Lib.hid (by rw [hg17.out]; exact HB6.out.size); clear hR17 hb17)
                | (refine wpList_load_at rfl 52 (.tmp 6) rfl ⟨g6, 0, none⟩ rfl #[.int .i64 5, .int .i64 t.f0, .int .u64 t.f1, .int .u64 t.f2, .slice A4 sb.length c4] _ (Lies.of_block K67.out) Try.underlying52 rfl info52s ?_))
              have hbw := HW.out.trans (HB17.out.mono HW.out.size)
              have HBW17 := Lib.hid hbw
              have HN17 := Lib.hid (Kd.N_below HN.out HB17.out)
              go_at_call 62
              refine (joined_any (fun q => w.heap.size ≤ q ∧ some q ≠ (Value.slice A0 (haveTo ns k).length c0).ownBlock) A4 A0 c4 c0 5 t.f0 t.f1 t.f2 (by decide) sb (haveTo ns k) HHK.out HIN.out (fun e => by first | exact HK6.out e | exact HK6.out trivial | exact absurd e (by decide)) w17 (Kd.C_below HSUB.out HB17.out) (Rows.of_N HN17.out)).mono ?_
              rintro e w9 ⟨v9, rfl, hv9, hb9⟩
              have HV9 := Lib.hid hv9
              have HN9 := Lib.hid (Kd.N_below HN17.out hb9)
              have HBW9 := Lib.hid (HBW17.out.trans (hb9.mono HBW17.out.size))
              have hsz := HB17.out.size
              clear hv9 hb9 hbw d0 HR17 K6 K67 HB6
              obtain ⟨A9, c9, e9⟩ := Kd.V_slice HV9.out
              subst e9
              rw [← HNK.out]
              cases hok : nodeOk ⟨5, t, sb⟩ (haveTo ns k) with
              | true =>
                have HKO := Lib.hid hok
                clear hok
                go_wp2_with (at_builtin; refine Kd.N_append (Kd.slice 67 k67) (w0 := w) (W := w9) w.heap.size rfl (.tmp 56) (.tmp 58) 88 62 _ 24 rfl Try.underlying88 info62z rfl (by decide) (by decide) (.slice A0 (haveTo ns k).length c0) (haveTo ns k) (joinL 5 sb (haveTo ns k)) [.slice A9 (joinL 5 sb (haveTo ns k)).length c9] (fun q => w.heap.size ≤ q) (fun q => (w.heap.size ≤ q ∧ some q ≠ (Value.slice A0 (haveTo ns k).length c0).ownBlock) ∨ w17.heap.size ≤ q) rfl rfl (Kd.FK_slice_mk (c := c9) (Kd.V_at HV9.out).2.1 (Kd.V_at HV9.out).2.2) (fun q hq => hq.elim id (fun h => ⟨Nat.le_trans HBW17.out.size h, fun e => by have := HOWN.out _ e.symm; omega⟩)) (fun q hq => Nat.le_trans HBW9.out.size hq) HN9.out HBW9.out HBW9.out.size ?hlen ?_)
                case hlen => rw [haveTo_len]; omega
                intro v5 w5 hn5 hb5 _ _
                have HN5 : Hid (Kd.N (Kd.slice 67 k67) 62 w5 w.heap.size (fun q => w.heap.size ≤ q) v5 (haveTo ns (k + 1))) := Lib.hid (by
                  simp only [haveTo]; rw [HNQ.out]; rw [HNO.out]
                  exact hn5)
                have HK5 : Hid (haveOk ns (k + 1) = true) := Lib.hid (by simp only [haveOk]; rw [HK.out, HNQ.out]; rw [HKO.out]; rfl)
                have HW5 := Lib.hid hb5
                clear hn5 hb5
                go_wp2_with fail
                go_roundw
                case rel => exact ⟨k + 1, by go_num, by omega, HK5, HN5, HW5.out⟩
                case measure => simp [intOf] <;> omega

              | false =>
                have HF : Hid (boxesOk ns = false) := Lib.hid (boxesOk_false (k := k + 1) (by simp only [haveOk]; rw [HNQ.out, hok]; simp) hlt)
                clear hok
                go_wp2_with fail
                go_ret2
                exact ⟨_, ret_vb HF.out.symm, by unfold boxesL; rw [HF.out]; exact Kd.V_nil _ _ _ _ _, HBW9.out⟩
            · clear h1 h2 h3 z1 z2 z3
              go_wp2_with (first
                | (refine wpList_load_at rfl 52 (.tmp 14) rfl (ad.add (k * 5)) rfl #[.int .i64 6, .int .i64 t.f0, .int .u64 t.f1, .int .u64 t.f2, .slice A4 sb.length c4] _ HLI.out Try.underlying52 rfl info52s ?_)
                | (refine wpList_newz rfl rfl 6 rfl 52 (.tmp 15) rfl rfl rfl (.agg #[.int .i64 0, .int .i64 0, .int .u64 0, .int .u64 0, .slice none 0 0]) #[.int .i64 6, .int .i64 t.f0, .int .u64 t.f1, .int .u64 t.f2, .slice A4 sb.length c4] info52z rfl rfl info52s rfl (by simp [Value.oneCell']) ?_; intro g6 w6 hg6 k6 hb6; have K6 := Lib.hid k6; have HB6 := Lib.hid hb6; clear k6 hb6)
                | (refine wpList_lit67e rfl (.tmp 16) rfl 17 rfl z67 rfl ?_; intro g17 w17 hg17 hR17 hb17; have K67 := Lib.hid (blk_below K6.out hb17); have d0 : w17.cell? ⟨g6, 0, none⟩ = some (.int .i64 6) := blk_cell K67.out 0;  have HR17 := Lib.hid hR17; have HB17 := Lib.hid (HB6.out.trans (hb17.mono HB6.out.size)); have HG17 : Hid (wr.heap.size ≤ g17) := Lib.hid (by rw [hg17.out]; exact HB6.out.size); clear hR17 hb17)
                | (refine wpList_load_at rfl 52 (.tmp 6) rfl ⟨g6, 0, none⟩ rfl #[.int .i64 6, .int .i64 t.f0, .int .u64 t.f1, .int .u64 t.f2, .slice A4 sb.length c4] _ (Lies.of_block K67.out) Try.underlying52 rfl info52s ?_))
              have hbw := HW.out.trans (HB17.out.mono HW.out.size)
              have HBW17 := Lib.hid hbw
              have HN17 := Lib.hid (Kd.N_below HN.out HB17.out)
              go_at_call 62
              refine (joined_any (fun q => w.heap.size ≤ q ∧ some q ≠ (Value.slice A0 (haveTo ns k).length c0).ownBlock) A4 A0 c4 c0 6 t.f0 t.f1 t.f2 (by decide) sb (haveTo ns k) HHK.out HIN.out (fun e => by first | exact HK6.out e | exact HK6.out trivial | exact absurd e (by decide)) w17 (Kd.C_below HSUB.out HB17.out) (Rows.of_N HN17.out)).mono ?_
              rintro e w9 ⟨v9, rfl, hv9, hb9⟩
              have HV9 := Lib.hid hv9
              have HN9 := Lib.hid (Kd.N_below HN17.out hb9)
              have HBW9 := Lib.hid (HBW17.out.trans (hb9.mono HBW17.out.size))
              have hsz := HB17.out.size
              clear hv9 hb9 hbw d0 HR17 K6 K67 HB6
              obtain ⟨A9, c9, e9⟩ := Kd.V_slice HV9.out
              subst e9
              rw [← HNK.out]
              cases hok : nodeOk ⟨6, t, sb⟩ (haveTo ns k) with
              | true =>
                have HKO := Lib.hid hok
                clear hok
                go_wp2_with (at_builtin; refine Kd.N_append (Kd.slice 67 k67) (w0 := w) (W := w9) w.heap.size rfl (.tmp 56) (.tmp 58) 88 62 _ 24 rfl Try.underlying88 info62z rfl (by decide) (by decide) (.slice A0 (haveTo ns k).length c0) (haveTo ns k) (joinL 6 sb (haveTo ns k)) [.slice A9 (joinL 6 sb (haveTo ns k)).length c9] (fun q => w.heap.size ≤ q) (fun q => (w.heap.size ≤ q ∧ some q ≠ (Value.slice A0 (haveTo ns k).length c0).ownBlock) ∨ w17.heap.size ≤ q) rfl rfl (Kd.FK_slice_mk (c := c9) (Kd.V_at HV9.out).2.1 (Kd.V_at HV9.out).2.2) (fun q hq => hq.elim id (fun h => ⟨Nat.le_trans HBW17.out.size h, fun e => by have := HOWN.out _ e.symm; omega⟩)) (fun q hq => Nat.le_trans HBW9.out.size hq) HN9.out HBW9.out HBW9.out.size ?hlen ?_)
                case hlen => rw [haveTo_len]; omega
                intro v5 w5 hn5 hb5 _ _
                have HN5 : Hid (Kd.N (Kd.slice 67 k67) 62 w5 w.heap.size (fun q => w.heap.size ≤ q) v5 (haveTo ns (k + 1))) := Lib.hid (by
                  simp only [haveTo]; rw [HNQ.out]; rw [HNO.out]
                  exact hn5)
                have HK5 : Hid (haveOk ns (k + 1) = true) := Lib.hid (by simp only [haveOk]; rw [HK.out, HNQ.out]; rw [HKO.out]; rfl)
                have HW5 := Lib.hid hb5
                clear hn5 hb5
                go_wp2_with fail
                go_roundw
                case rel => exact ⟨k + 1, by go_num, by omega, HK5, HN5, HW5.out⟩
                case measure => simp [intOf] <;> omega

              | false =>
                have HF : Hid (boxesOk ns = false) := Lib.hid (boxesOk_false (k := k + 1) (by simp only [haveOk]; rw [HNQ.out, hok]; simp) hlt)
                clear hok
                go_wp2_with fail
                go_ret2
                exact ⟨_, ret_vb HF.out.symm, by unfold boxesL; rw [HF.out]; exact Kd.V_nil _ _ _ _ _, HBW9.out⟩
    · obtain rfl : k = ns.length := by omega
      obtain ⟨A0, c0, e0⟩ := Kd.N_slice HN.out
      subst e0
      obtain ⟨m, hm⟩ : ∃ m, ns.length = m + 1 := ⟨ns.length - 1, by omega⟩
      obtain ⟨ad, A1, c1, rfl, hcell, hv⟩ := Rows.of_N HN.out m (by rw [haveTo_len]; omega)
      have hcell' : wr.cell? (ad.add m) = some (.slice A1 (boxesL ns).length c1) := by unfold boxesL boxesOk; rw [HK.out, if_pos rfl, hm, Nat.add_sub_cancel, ← hm]; exact hcell
      have HV : Hid (Kd.V k67 67 wr w.heap.size (fun q => w.heap.size ≤ q) (.slice A1 (boxesL ns).length c1) (boxesL ns)) := Lib.hid (by
        unfold boxesL boxesOk; rw [HK.out, if_pos rfl, hm, Nat.add_sub_cancel, ← hm]; exact Kd.V_mono hv (fun q hq => hq.1))
      rw [haveTo_len]
      obtain ⟨L, hL⟩ : ∃ L, ns.length = L := ⟨_, rfl⟩
      have HKB : Hid (boxesOk ns = true) := HK
      have q1 : (L : Int) - 1 = (m : Int) := by omega
      have q2 : (m : Int) < (L : Int) := by omega
      rw [hL]
      have hL0 : 1 ≤ L ∧ L ≤ 60 := by omega
      clear hcell hv hL hm HN hlt hk hl1 hl2 HK
      go_wp2_with fail
      go_ret2
      exact ⟨_, ret_vb HKB.out.symm, HV.out, HW.out⟩
end Go.Proofs.Ytmhjnfkhfjejeaa
namespace Go.Proofs.Ytmhjnfkhfjejeaa
set_option linter.unusedVariables false
set_option linter.unusedSimpArgs false
open Go.RowKit Go.Proofs.YtmhjnfkhfjejeaaW.PrintWords Go.Proofs.YtmhjnfkhfjejeaaW.PrintLast Go.Proofs.YtmhjnfkhfjejeaaW.PrintMore
open PPredCubes
/-- The first k boxes as cubes. -/
def cubesTo (l : List Bx) : Nat → List (List S47)
  | 0 => []
  | k + 1 => cubesTo l k ++ [cubeL (atB l k)]
def cubesE (ns : List S52) : Int := if rightB ns then (if boxesOk ns then 0 else 44) else 1
def cubesL (ns : List S52) : List (List S47) := if rightB ns && boxesOk ns then cubesTo (boxesL ns) (boxesL ns).length else []
theorem cubesTo_len (l : List Bx) (k : Nat) : (cubesTo l k).length = k := by
  induction k with
  | zero => rfl
  | succ k ih => simp only [cubesTo, List.length_append, ih, List.length_singleton]
theorem boxesL_ok {ns : List S52} (hp : okP ns) (h : boxesOk ns = true) (h1 : 1 ≤ ns.length) : okB (boxesL ns) ∧ (boxesL ns).length ≤ 1000 := by
  unfold boxesL
  rw [if_pos h]
  exact okH_at (haveTo_ok hp _ h) _
theorem ret_vi {v : Value} {a b : Int} (h : a = b) : Ending.returned (.tuple #[v, .int .i64 a]) = .returned (.tuple #[v, .int .i64 b]) := by rw [h]
set_option maxHeartbeats 4000000 in
set_option maxRecDepth 100000 in
theorem cubes_any (A : Option Addr) (c : Nat) (ns : List S52) (hP : okP ns) (w : World) (hr : k52.C w A ns.length ns) (hc : ns.length ≤ c) :
    Calls Try.prog 14 #[.agg #[.slice A ns.length c]] w fun e w' => ∃ v, e = .returned (.tuple #[v, .int .i64 (cubesE ns)]) ∧ (Kd.slice 47 k47).R 33 w' w.heap.size (fun _ => True) v (cubesL ns) ∧ Below w.heap.size w w' := by
  have HR := Lib.hid hr
  have HP := Lib.hid hP
  have HC := Lib.hid hc
  clear hr hP hc
  cases hrt : rightB ns with
  | false =>
    have HRT := Lib.hid hrt
    go_enter Try.func14, Try.ntmps14
    go_wp2_with (first
      | (refine wpList_box rfl 1 rfl #[.slice A ns.length c] 24 ?hr ?_; (case hr => first | (go_simp; done) | (go_simp; rfl)); intro g1 w1 hg1 k1 hb1; have K1 := Lib.hid k1; have HB1 := Lib.hid hb1; clear hb1 k1)
      | (refine wpList_load_at rfl 24 (.tmp 1) rfl ⟨g1, 0, none⟩ rfl #[.slice A ns.length c] _ (Lies.of_block K1.out) Try.underlying24 rfl info24s ?_))
    go_at_call 22
    refine (right_any A c ns HP.out w1 (Kd.C_below HR.out HB1.out) HC.out).mono ?_
    rintro e w2 ⟨rfl, hb2⟩
    have HB2 := Lib.hid (HB1.out.trans (hb2.mono HB1.out.size))
    rw [hrt]
    clear hb2 hrt
    go_wp2_with fail
    go_ret2
    exact ⟨_, ret_vi (by unfold cubesE; rw [HRT.out]; rfl), by unfold cubesL; rw [HRT.out]; exact Kd.R_nil _ _ _ _ _, HB2.out⟩
  | true =>
    have HRT := Lib.hid hrt
    have HLN := Lib.hid (rightB_len hrt)
    go_enter Try.func14, Try.ntmps14
    go_wp2_with (first
      | (refine wpList_box rfl 1 rfl #[.slice A ns.length c] 24 ?hr ?_; (case hr => first | (go_simp; done) | (go_simp; rfl)); intro g1 w1 hg1 k1 hb1; have K1 := Lib.hid k1; have HB1 := Lib.hid hb1; clear hb1 k1)
      | (refine wpList_load_at rfl 24 (.tmp 1) rfl ⟨g1, 0, none⟩ rfl #[.slice A ns.length c] _ (Lies.of_block K1.out) Try.underlying24 rfl info24s ?_))
    go_at_call 22
    refine (right_any A c ns HP.out w1 (Kd.C_below HR.out HB1.out) HC.out).mono ?_
    rintro e w2 ⟨rfl, hb2⟩
    have HB2 := Lib.hid (HB1.out.trans (hb2.mono HB1.out.size))
    have K2 := Lib.hid (blk_below K1.out hb2)
    rw [hrt]
    clear hb2 hrt
    go_wp2_with (refine wpList_load_at rfl 24 (.tmp 1) rfl ⟨g1, 0, none⟩ rfl #[.slice A ns.length c] _ (Lies.of_block K2.out) Try.underlying24 rfl info24s ?_)
    go_at_call 42
    refine (boxes_any A c ns HRT.out HP.out w2 (Kd.C_below HR.out HB2.out)).mono ?_
    rintro e w3 ⟨v, rfl, hv, hb3⟩
    have HV := Lib.hid hv
    have HB3 := Lib.hid (HB2.out.trans (hb3.mono HB2.out.size))
    clear hv hb3 K2 K1 hg1
    obtain ⟨A3, c3, e3⟩ := Kd.V_slice HV.out
    subst e3
    cases hbo : boxesOk ns with
    | false =>
      have HBO := Lib.hid hbo
      clear hbo
      go_wp2_with fail
      go_ret2
      exact ⟨_, ret_vi (by unfold cubesE; rw [HRT.out, HBO.out]; rfl), by unfold cubesL; rw [HRT.out, HBO.out]; exact Kd.R_nil _ _ _ _ _, HB3.out⟩
    | true =>
      have HBO := Lib.hid hbo
      obtain ⟨hob, hlen⟩ := boxesL_ok HP.out hbo HLN.out.1
      have HOB := Lib.hid hob
      obtain ⟨bs, hbs⟩ : ∃ bs, boxesL ns = bs := ⟨_, rfl⟩
      rw [hbs] at HV HOB hlen ⊢
      have HBS := Lib.hid hbs
      have HCB := Lib.hid (Kd.V_reads' HV.out).2.2
      clear hbo hob hbs HV
      go_wp2_with fail
      obtain ⟨wo, rfl⟩ : ∃ wo : World, wo = w3 := ⟨_, rfl⟩
      go_loopw [6, 21] (fun v6 vk wr => ∃ k : Nat, vk = .int .i64 k ∧ k ≤ bs.length ∧ Hid ((Kd.slice 47 k47).R 33 wr wo.heap.size (fun _ => True) v6 (cubesTo bs k)) ∧ Below wo.heap.size wo wr) (fun _ vk _ => bs.length - (intOf vk).toNat)
      case atStart => exact ⟨0, rfl, by omega, Lib.hid (Kd.R_nil _ _ _ _ _), Below.refl _ _⟩
      case round =>
        obtain ⟨k, rfl, hk, HN, hw⟩ := hrel
        have HW := Lib.hid hw
        clear hw
        by_cases hlt : k < bs.length
        · obtain ⟨ad, rfl, hlies⟩ := rd67 (Kd.C_below HCB.out HW.out) hlt
          have HL1 := Lib.hid hlies
          have q1 : (k : Int) < (bs.length : Int) := by omega
          have HLT := Lib.hid (cubesTo_len bs k)
          obtain ⟨A0, c0, e0⟩ := Kd.R_slice HN.out
          subst e0
          clear hlies
          go_wp2_with (first
            | (refine wpList_load_at rfl 67 (.tmp 23) rfl (ad.add (k * 20)) rfl (atB bs k).cs _ HL1.out Try.underlying67 rfl info67 ?_)
            | (refine wpList_new rfl rfl 8 rfl 67 (.tmp 24) rfl rfl z67.cs (atB bs k).cs ?hr rfl rfl info67 rfl (Bx.all_one _) ?_; (case hr => first | (go_simp; done) | (go_simp; rfl)); intro g8 w8 hg8 k8 hb8; have K8 := Lib.hid k8; have HB8 := Lib.hid hb8; clear k8 hb8)
            | (refine wpList_load_at rfl 67 (.tmp 8) rfl ⟨g8, 0, none⟩ rfl (atB bs k).cs _ (Lies.of_block K8.out) Try.underlying67 rfl info67 ?_))
          have HN8 := Lib.hid (Kd.R_below HN.out HB8.out)
          have HW8 := Lib.hid (HW.out.trans (HB8.out.mono HW.out.size))
          clear HN HW HB8 K8 HL1 hg8
          go_at_call 43
          refine (cube_any (atB bs k) (okB_at HOB.out k) w8).mono ?_
          rintro e w9 ⟨v9, rfl, hr9, hb9⟩
          have HR9 := Lib.hid (Kd.R_bound hr9)
          have HN9 := Lib.hid (Kd.R_below HN8.out hb9)
          have HW9 := Lib.hid (HW8.out.trans (hb9.mono HW8.out.size))
          obtain ⟨A9, c9, e9⟩ := Kd.R_slice hr9
          subst e9
          have HOWN := Lib.hid (Kd.R_lt HN8.out)
          clear hr9 hb9 HN8
          go_wp2_with (at_builtin; refine Kd.R_append (Kd.slice 47 k47) (w0 := wo) (W := w9) wo.heap.size rfl (.tmp 25) (.tmp 28) 26 33 _ 24 rfl Try.underlying26 info33 rfl (by decide) (by decide) (.slice A0 (cubesTo bs k).length c0) (cubesTo bs k) (cubeL (atB bs k)) [.slice A9 (cubeL (atB bs k)).length c9] (fun _ => True) (fun q => w8.heap.size ≤ q) rfl rfl ⟨_, rfl, Kd.R_lower (Kd.R_mono HR9.out (fun q hq => hq.2.1)) HW8.out.size⟩ (fun q hq => ⟨trivial, fun e => by have := HOWN.out _ e.symm; omega⟩) (fun _ _ => trivial) HN9.out HW9.out HW9.out.size (by have := HLT.out; omega) ?_)
          intro v1 w1' hr1 hb1' _ _
          have HR1 : Hid ((Kd.slice 47 k47).R 33 w1' wo.heap.size (fun _ => True) v1 (cubesTo bs (k + 1))) := Lib.hid hr1
          have HB1' := Lib.hid hb1'
          clear hr1 hb1' HN9 HW9 HW8 HR9
          go_wp2_with fail
          go_roundw
          case rel => exact ⟨k + 1, by go_num, by omega, HR1, HB1'.out⟩
          case measure => simp [intOf] <;> omega
        · obtain rfl : k = bs.length := by omega
          go_wp2_with fail
          go_ret2
          exact ⟨_, ret_vi (by unfold cubesE; rw [HRT.out, HBO.out]; rfl), by unfold cubesL; rw [HRT.out, HBO.out, HBS.out]; exact Kd.R_lower HN.out HB3.out.size, HB3.out.trans (HW.out.mono HB3.out.size)⟩
end Go.Proofs.Ytmhjnfkhfjejeaa
namespace Go.Proofs.Ytmhjnfkhfjejeaa
set_option linter.unusedVariables false
set_option linter.unusedSimpArgs false
open Go.RowKit Go.Proofs.YtmhjnfkhfjejeaaW.PrintWords Go.Proofs.YtmhjnfkhfjejeaaW.PrintLast Go.Proofs.YtmhjnfkhfjejeaaW.PrintMore
open PPredCubes
/-- Does a box meet one of the first j? Does one of the first i meet one of them? -/
def rowM (a : Bx) (bs : List Bx) : Nat → Bool
  | 0 => false
  | j + 1 => rowM a bs j || meetB a (atB bs j)
def anyM (l bs : List Bx) : Nat → Bool
  | 0 => false
  | i + 1 => anyM l bs i || rowM (atB l i) bs bs.length
theorem rowM_mono (a : Bx) (bs : List Bx) (k : Nat) (h : rowM a bs k = true) (j : Nat) : rowM a bs (k + j) = true := by
  induction j with
  | zero => exact h
  | succ j ih => show (rowM a bs (k + j) || _) = true; rw [ih]; rfl
theorem anyM_mono (l bs : List Bx) (k : Nat) (h : anyM l bs k = true) (j : Nat) : anyM l bs (k + j) = true := by
  induction j with
  | zero => exact h
  | succ j ih => show (anyM l bs (k + j) || _) = true; rw [ih]; rfl
def apartE (ns ms : List S52) : Int := if rightB ns && rightB ms then (if boxesOk ns && boxesOk ms then 0 else 44) else 1
def apartB (ns ms : List S52) : Bool := rightB ns && (rightB ms && (boxesOk ns && (boxesOk ms && !anyM (boxesL ns) (boxesL ms) (boxesL ns).length)))
def apartRes (ns ms : List S52) : Ending := .returned (.tuple #[.bool (apartB ns ms), .int .i64 (apartE ns ms)])
theorem apart1 {ns ms : List S52} (h : rightB ns = false) : Ending.returned (.tuple #[.bool false, .int .i64 1]) = apartRes ns ms := by unfold apartRes apartB apartE; rw [h]; rfl
theorem apart2 {ns ms : List S52} (h : rightB ms = false) : Ending.returned (.tuple #[.bool false, .int .i64 1]) = apartRes ns ms := by unfold apartRes apartB apartE; rw [h]; simp
theorem apart3 {ns ms : List S52} (h1 : rightB ns = true) (h2 : rightB ms = true) (h : boxesOk ns = false) : Ending.returned (.tuple #[.bool false, .int .i64 44]) = apartRes ns ms := by unfold apartRes apartB apartE; rw [h1, h2, h]; simp
theorem apart4 {ns ms : List S52} (h1 : rightB ns = true) (h2 : rightB ms = true) (h : boxesOk ms = false) : Ending.returned (.tuple #[.bool false, .int .i64 44]) = apartRes ns ms := by unfold apartRes apartB apartE; rw [h1, h2, h]; simp
theorem apart5 {ns ms : List S52} (h1 : rightB ns = true) (h2 : rightB ms = true) (h3 : boxesOk ns = true) (h4 : boxesOk ms = true) {b : Bool} (h : b = !anyM (boxesL ns) (boxesL ms) (boxesL ns).length) : Ending.returned (.tuple #[.bool b, .int .i64 0]) = apartRes ns ms := by unfold apartRes apartB apartE; rw [h1, h2, h3, h4, h]; simp

set_option maxHeartbeats 4000000 in
set_option maxRecDepth 100000 in
theorem disj_any (A A2 : Option Addr) (c c2 : Nat) (ns ms : List S52) (hP : okP ns) (hP2 : okP ms) (w : World) (hr : k52.C w A ns.length ns) (hr2 : k52.C w A2 ms.length ms) (hc : ns.length ≤ c) (hc2 : ms.length ≤ c2) :
    Calls Try.prog 33 #[.agg #[.slice A ns.length c], .agg #[.slice A2 ms.length c2]] w fun e w' => e = apartRes ns ms ∧ Below w.heap.size w w' := by
  have HR := Lib.hid hr
  have HP := Lib.hid hP
  have HC := Lib.hid hc
  have HR2 := Lib.hid hr2
  have HP2 := Lib.hid hP2
  have HC2 := Lib.hid hc2
  clear hr hP hc hr2 hP2 hc2
  go_enter Try.func33, Try.ntmps33
  go_wp2_with (first
    | (refine wpList_box rfl 2 rfl #[.slice A ns.length c] 24 ?hr ?_; (case hr => first | (go_simp; done) | (go_simp; rfl)); intro g1 w1 hg1 k1 hb1; have K1 := Lib.hid k1; have HB1 := Lib.hid hb1; clear hb1 k1)
    | (refine wpList_box rfl 3 rfl #[.slice A2 ms.length c2] 24 ?hr ?_; (case hr => first | (go_simp; done) | (go_simp; rfl)); intro g2 w2 hg2 k2 hb2; have K2 := Lib.hid k2; have K12 := Lib.hid (blk_below K1.out hb2); have HB2 := Lib.hid (HB1.out.trans (hb2.mono HB1.out.size)); have d1 : w2.cell? ⟨g1, 0, none⟩ = some (.slice A ns.length c) := blk_cell K12.out 0; clear hb2 k2 K1))
  go_step3
  go_wp2_with fail
  go_at_call 22
  refine (right_any A c ns HP.out w2 (Kd.C_below HR.out HB2.out) HC.out).mono ?_
  rintro e w3 ⟨rfl, hb3⟩
  have K13 := Lib.hid (blk_below K12.out hb3)
  have K23 := Lib.hid (blk_below K2.out hb3)
  have HB3 := Lib.hid (HB2.out.trans (hb3.mono HB2.out.size))
  have d2 : w3.cell? ⟨g1, 0, none⟩ = some (.slice A ns.length c) := blk_cell K13.out 0
  have d3 : w3.cell? ⟨g2, 0, none⟩ = some (.slice A2 ms.length c2) := blk_cell K23.out 0
  clear hb3 K12 K2 HB2 HB1 hg1 hg2 d1
  cases hrt : rightB ns with
  | false =>
    have HRT := Lib.hid hrt
    clear hrt
    go_wp2_with fail
    try rw [Exit.noGoto_ret]
    go_ret2
    exact ⟨apart1 HRT.out, HB3.out⟩
  | true =>
    have HRT := Lib.hid hrt
    have HLN := Lib.hid (rightB_len hrt)
    clear hrt
    go_wp2_with fail
    go_at_call 22
    refine (right_any A2 c2 ms HP2.out w3 (Kd.C_below HR2.out HB3.out) HC2.out).mono ?_
    rintro e w4 ⟨rfl, hb4⟩
    have K14 := Lib.hid (blk_below K13.out hb4)
    have K24 := Lib.hid (blk_below K23.out hb4)
    have HB4 := Lib.hid (HB3.out.trans (hb4.mono HB3.out.size))
    have d4 : w4.cell? ⟨g1, 0, none⟩ = some (.slice A ns.length c) := blk_cell K14.out 0
    clear hb4 K13 K23 HB3 d2 d3
    cases hrt : rightB ms with
    | false =>
      have HRT2 := Lib.hid hrt
      clear hrt
      go_wp2_with fail
      try rw [Exit.noGoto_ret]
      go_ret2
      exact ⟨apart2 HRT2.out, HB4.out⟩
    | true =>
      have HRT2 := Lib.hid hrt
      have HLN2 := Lib.hid (rightB_len hrt)
      clear hrt
      go_wp2_with fail
      go_at_call 42
      refine (boxes_any A c ns HRT.out HP.out w4 (Kd.C_below HR.out HB4.out)).mono ?_
      rintro e w5 ⟨v5, rfl, hv5, hb5⟩
      have K25 := Lib.hid (blk_below K24.out hb5)
      have HB5 := Lib.hid (HB4.out.trans (hb5.mono HB4.out.size))
      have HV5 := Lib.hid hv5
      have d5 : w5.cell? ⟨g2, 0, none⟩ = some (.slice A2 ms.length c2) := blk_cell K25.out 0
      clear hb5 hv5 K14 K24 HB4 d4
      obtain ⟨A5, c5, e5⟩ := Kd.V_slice HV5.out
      subst e5
      go_wp2_with fail
      go_at_call 42
      refine (boxes_any A2 c2 ms HRT2.out HP2.out w5 (Kd.C_below HR2.out HB5.out)).mono ?_
      rintro e w6 ⟨v6, rfl, hv6, hb6⟩
      have HB6 := Lib.hid (HB5.out.trans (hb6.mono HB5.out.size))
      have HV6 := Lib.hid hv6
      have HV56 := Lib.hid (Kd.V_below HV5.out hb6)
      clear hb6 hv6 K25 HB5 d5 HV5
      obtain ⟨A6, c6, e6⟩ := Kd.V_slice HV6.out
      subst e6
      cases hbo : boxesOk ns with
      | false =>
        have HBO := Lib.hid hbo
        clear hbo
        go_wp2_with fail
        try rw [Exit.noGoto_ret]
        go_ret2
        exact ⟨apart3 HRT.out HRT2.out HBO.out, HB6.out⟩
      | true =>
        have HBO := Lib.hid hbo
        cases hbo2 : boxesOk ms with
        | false =>
          have HBO2 := Lib.hid hbo2
          clear hbo hbo2
          go_wp2_with fail
          try rw [Exit.noGoto_ret]
          go_ret2
          exact ⟨apart4 HRT.out HRT2.out HBO2.out, HB6.out⟩
        | true =>
          have HBO2 := Lib.hid hbo2
          obtain ⟨hob, hlen⟩ := boxesL_ok HP.out hbo HLN.out.1
          obtain ⟨hob2, hlen2⟩ := boxesL_ok HP2.out hbo2 HLN2.out.1
          have HAP := Lib.hid (fun (b : Bool) => apart5 HRT.out HRT2.out hbo hbo2 (b := b))
          have HOA := Lib.hid hob
          have HOB := Lib.hid hob2
          have HCA := Lib.hid (Kd.V_reads' HV56.out).2.2
          have HCB := Lib.hid (Kd.V_reads' HV6.out).2.2
          obtain ⟨al, hal⟩ : ∃ al, boxesL ns = al := ⟨_, rfl⟩
          obtain ⟨bs, hbs⟩ : ∃ bs, boxesL ms = bs := ⟨_, rfl⟩
          rw [hal] at HAP HOA HCA hlen ⊢
          rw [hbs] at HAP HOB HCB hlen2 ⊢
          clear hbo hbo2 hob hob2 HV56 HV6 hal hbs
          go_wp2_with fail
          go_step3
          go_wp2_with fail
          obtain ⟨wo, rfl⟩ : ∃ wo : World, wo = w6 := ⟨_, rfl⟩
          go_loopg [10, 43] al.length (fun gk v10 vi wr => ∃ i : Nat, v10 = .bool true ∧ vi = .int .i64 i ∧ i + gk = al.length ∧ Hid (anyM al bs i = false) ∧ Below wo.heap.size wo wr)
          case atStart => exact ⟨0, rfl, rfl, by omega, Lib.hid rfl, Below.refl _ _⟩
          case round =>
            obtain ⟨i, rfl, rfl, hig, HM, hw⟩ := hrel
            have HW := Lib.hid hw
            clear hw
            cases gk with
            | zero =>
              obtain rfl : i = al.length := by omega
              go_wp2_with fail
              try rw [Exit.noGoto_ret]
              go_ret2
              exact ⟨HAP.out _ (by rw [HM.out]; rfl), HB6.out.trans (HW.out.mono HB6.out.size)⟩
            | succ go =>
              obtain ⟨ada, rfl, hlies⟩ := rd67 (Kd.C_below HCA.out HW.out) (show i < al.length by omega)
              have HL1 := Lib.hid hlies
              have q1 : (i : Int) < (al.length : Int) := by omega
              clear hlies
              go_wp2_with (first
                | (refine wpList_load_at rfl 67 (.tmp 45) rfl (ada.add (i * 20)) rfl (atB al i).cs _ HL1.out Try.underlying67 rfl info67 ?_)
                | (refine wpList_new rfl rfl 12 rfl 67 (.tmp 46) rfl rfl z67.cs (atB al i).cs ?hr rfl rfl info67 rfl (Bx.all_one _) ?_; (case hr => first | (go_simp; done) | (go_simp; rfl)); intro g12 w12 hg12 k12 hb12; have K12 := Lib.hid k12; have HB12 := Lib.hid hb12; clear k12 hb12))
              have HW12 := Lib.hid (HW.out.trans (HB12.out.mono HW.out.size))
              clear HW HB12 HL1 hg12
              obtain ⟨wi, rfl⟩ : ∃ wi : World, wi = w12 := ⟨_, rfl⟩
              go_loopg [10, 49] bs.length (fun gj v10 vj wr => ∃ j : Nat, v10 = .bool true ∧ vj = .int .i64 j ∧ j + gj = bs.length ∧ Hid (rowM (atB al i) bs j = false) ∧ Hid (wr.heap[g12]? = some (.cells (atB al i).cs 67 (0, 0))) ∧ Below wo.heap.size wo wr)
              case atStart => exact ⟨0, rfl, rfl, by omega, Lib.hid rfl, K12, HW12.out⟩
              case round =>
                obtain ⟨j, rfl, rfl, hjg, HMJ, KJ, hw⟩ := hrel
                have HW := Lib.hid hw
                clear hw
                cases gk with
                | zero =>
                  obtain rfl : j = bs.length := by omega
                  go_wp2_with fail
                  go_roundg go
                  case measure => omega
                  case rel => exact ⟨i + 1, rfl, by first | rfl | go_num, by omega, Lib.hid (by simp only [anyM]; rw [HM.out, HMJ.out]; rfl), HW.out⟩
                | succ gj =>
                  obtain ⟨adb, hadb, hlies⟩ := rd67 (Kd.C_below HCB.out HW.out) (show j < bs.length by omega)
                  subst hadb
                  have HL1 := Lib.hid hlies
                  have q4 : (j : Int) < (bs.length : Int) := by omega
                  clear hlies
                  go_wp2_with (first
                    | (refine wpList_load_at rfl 67 (.tmp 51) rfl (adb.add (j * 20)) rfl (atB bs j).cs _ HL1.out Try.underlying67 rfl info67 ?_)
                    | (refine wpList_new rfl rfl 14 rfl 67 (.tmp 52) rfl rfl z67.cs (atB bs j).cs ?hr rfl rfl info67 rfl (Bx.all_one _) ?_; (case hr => first | (go_simp; done) | (go_simp; rfl)); intro g14 w14 hg14 k14 hb14; have K14 := Lib.hid k14; have HB14 := Lib.hid hb14; have K124 := Lib.hid (blk_below KJ.out hb14); clear k14 hb14)
                    | (refine wpList_load_at rfl 67 (.tmp 12) rfl ⟨g12, 0, none⟩ rfl (atB al i).cs _ (Lies.of_block K124.out) Try.underlying67 rfl info67 ?_)
                    | (refine wpList_load_at rfl 67 (.tmp 14) rfl ⟨g14, 0, none⟩ rfl (atB bs j).cs _ (Lies.of_block K14.out) Try.underlying67 rfl info67 ?_))
                  have HW14 := Lib.hid (HW.out.trans (HB14.out.mono HW.out.size))
                  clear HW HB14 hg14 HL1 KJ K14
                  cases hmt : meetB (atB al i) (atB bs j) with
                  | true =>
                    go_at_call 49
                    refine (meet_yes (atB al i) (atB bs j) (okB_at HOA.out i) (okB_at HOB.out j) hmt w14).mono ?_
                    rintro e w15 ⟨rfl, hb15⟩
                    have HW15 := Lib.hid (HW14.out.trans (hb15.mono HW14.out.size))
                    have HAN : Hid (anyM al bs al.length = true) := Lib.hid (by
                      have h1 : rowM (atB al i) bs bs.length = true := by
                        have h0 : rowM (atB al i) bs (j + 1) = true := by simp only [rowM]; rw [hmt]; simp
                        have := rowM_mono _ _ _ h0 (bs.length - (j + 1))
                        rwa [show j + 1 + (bs.length - (j + 1)) = bs.length by omega] at this
                      have h2 : anyM al bs (i + 1) = true := by simp only [anyM]; rw [h1]; simp
                      have := anyM_mono _ _ _ h2 (al.length - (i + 1))
                      rwa [show i + 1 + (al.length - (i + 1)) = al.length by omega] at this)
                    clear hb15 hmt HW14 K124
                    go_wp2_with (refine wpList_new rfl rfl 15 rfl 67 (.tmp 57) rfl rfl z67.cs (meetX (atB al i) (atB bs j)).cs ?hr rfl rfl info67 rfl (Bx.all_one _) ?_; (case hr => first | (go_simp; done) | (go_simp; rfl)); intro g15 w16 hg15 k15 hb16; have HW16 := Lib.hid (HW15.out.trans (hb16.mono HW15.out.size)); clear k15 hb16 hg15)
                    try rw [Exit.noGoto_ret]
                    go_ret2
                    exact ⟨HAP.out _ (by rw [HAN.out]; rfl), HB6.out.trans (HW16.out.mono HB6.out.size)⟩
                  | false =>
                    go_at_call 49
                    refine (meet_no (atB al i) (atB bs j) (okB_at HOA.out i) (okB_at HOB.out j) hmt w14).mono ?_
                    rintro e w15 ⟨rfl, hb15⟩
                    have HW15 := Lib.hid (HW14.out.trans (hb15.mono HW14.out.size))
                    have K125 := Lib.hid (blk_below K124.out hb15)
                    have HMJ2 : Hid (rowM (atB al i) bs (j + 1) = false) := Lib.hid (by simp only [rowM]; rw [HMJ.out, hmt]; rfl)
                    clear hb15 hmt HW14 K124
                    go_wp2_with (refine wpList_new rfl rfl 15 rfl 67 (.tmp 57) rfl rfl z67.cs z67.cs ?hr rfl rfl info67 rfl (Bx.all_one _) ?_; (case hr => first | (go_simp; done) | (go_simp; rfl)); intro g15 w16 hg15 k15 hb16; have HW16 := Lib.hid (HW15.out.trans (hb16.mono HW15.out.size)); have K126 := Lib.hid (blk_below K125.out hb16); clear k15 hb16 hg15)
                    go_roundg gj
                    case measure => omega
                    case rel => exact ⟨j + 1, rfl, by first | rfl | go_num, by omega, HMJ2, K126, HW16.out⟩
end Go.Proofs.Ytmhjnfkhfjejeaa
namespace Go.Proofs.Ytmhjnfkhfjejeaa
set_option linter.unusedVariables false
set_option linter.unusedSimpArgs false
open Go.RowKit Go.Proofs.YtmhjnfkhfjejeaaW.PrintWords Go.Proofs.YtmhjnfkhfjejeaaW.PrintLast Go.Proofs.YtmhjnfkhfjejeaaW.PrintMore
open PPredCubes
/-! ### The document's Right -/
theorem rtestRight_f {t : S47} (h : okT t) : droverref16_TestRight.f t.f0 t.f1 t.f2 = some (tstB t) := by
  obtain ⟨f, v, m, rfl, hv, hm⟩ := okT_nat h
  unfold droverref16_TestRight.f tstB testB
  simp only [Int.toNat_natCast]
  rw [Go.u64_andNot_nat v m hv hm, nat_zero]
  by_cases h1 : 1 ≤ f
  · by_cases h2 : f < 10
    · rw [if_pos h1, if_pos (by omega)]; simp [h1, h2]
    · rw [if_pos h1, if_neg (by omega)]; simp [h2]
  · rw [if_neg (by omega)]; simp [h1]
theorem rr_l0 (x1 : Int) (n : S52) (ht : okT n.f1) (hs : n.f2.length ≤ 9223372036854775807) : ∀ (d i K : Nat), i + d = n.f2.length →
    droverref16_nodeRight.l0 (d + 1 + K) x1 i n.f0 n.f1.f0 n.f1.f1 n.f1.f2 n.f2 = some (subsB (n.f2.drop i) x1 && (if n.f0 = 3 then tstB n.f1 else testZ n.f1)) := by
  intro d
  induction d with
  | zero =>
    intro i K h
    rw [show 0 + 1 + K = K + 1 by omega]
    simp only [droverref16_nodeRight.l0]
    rw [if_neg (by omega), List.drop_of_length_le (by omega), rtestRight_f ht]
    by_cases h3 : n.f0 = 3
    · rw [if_pos h3, if_pos h3]; simp [subsB]
    · rw [if_neg h3, if_neg h3]
      unfold testZ subsB
      by_cases e0 : n.f1.f0 = 0
      · rw [if_pos e0]
        by_cases e1 : n.f1.f1 = 0
        · rw [if_pos e1]; simp [e0, e1]
        · rw [if_neg e1]; simp [e1]
      · rw [if_neg e0]; simp [e0]
  | succ d ih =>
    intro i K h
    rw [show d + 1 + 1 + K = (d + 1 + K) + 1 by omega]
    simp only [droverref16_nodeRight.l0]
    have hi : i < n.f2.length := by omega
    rw [if_pos (by omega), if_pos (by omega), List.drop_eq_getElem_cons hi]
    have hrd : rd n.f2 (i : Int) = n.f2[i] := by unfold rd; rw [Int.toNat_natCast, List.getD_eq_getElem?_getD, List.getElem?_eq_getElem hi]; rfl
    rw [hrd, wrap1 hi hs, ih (i + 1) K (by omega)]
    unfold subsB
    rw [List.all_cons]
    by_cases h1 : n.f2[i] < 0
    · rw [if_pos h1, decide_eq_false (show ¬ 0 ≤ n.f2[i] by omega)]; simp
    · rw [if_neg h1, decide_eq_true (show 0 ≤ n.f2[i] by omega)]
      by_cases h2 : n.f2[i] ≥ x1
      · rw [if_pos h2, decide_eq_false (show ¬ n.f2[i] < x1 by omega)]; simp
      · rw [if_neg h2, decide_eq_true (show n.f2[i] < x1 by omega)]; simp
theorem rr_j3 (x1 : Int) (b : Bool) (n : S52) (ht : okT n.f1) (hs : n.f2.length ≤ 9223372036854775807) (K : Nat) :
    droverref16_nodeRight.j3 (n.f2.length + 1 + K + 1) x1 b n.f0 n.f1.f0 n.f1.f1 n.f1.f2 n.f2 = some (!b && (subsB n.f2 x1 && (if n.f0 = 3 then tstB n.f1 else testZ n.f1))) := by
  simp only [droverref16_nodeRight.j3]
  have h := rr_l0 x1 n ht hs n.f2.length 0 K (by omega)
  rw [List.drop_zero] at h
  rw [show ((0 : Nat) : Int) = 0 from rfl] at h
  rw [h]
  cases b <;> simp
theorem rnode_f (n : S52) (i : Int) (ht : okT n.f1) (hs : n.f2.length ≤ 9223372036854775807) (K : Nat) :
    droverref16_nodeRight.f (n.f2.length + 1 + K + 1 + 1 + 1 + 1) n.f0 n.f1.f0 n.f1.f1 n.f1.f2 n.f2 i = some (nodeB n i) := by
  have hj2 : ∀ lo hi : Nat, droverref16_nodeRight.j2 (n.f2.length + 1 + K + 1 + 1) i lo hi n.f0 n.f1.f0 n.f1.f1 n.f1.f2 n.f2 = some (decide (1 ≤ n.f0 ∧ n.f0 ≤ 6) && (decide (lo ≤ n.f2.length ∧ n.f2.length ≤ hi) && (subsB n.f2 i && (if n.f0 = 3 then tstB n.f1 else testZ n.f1)))) := by
    intro lo hi
    simp only [droverref16_nodeRight.j2]
    rw [rr_j3 i true n ht hs K, rr_j3 i (decide _) n ht hs K]
    by_cases h1 : n.f0 < 1
    · rw [if_pos h1, decide_eq_false (by omega)]; simp
    · rw [if_neg h1]
      by_cases h2 : n.f0 > 6
      · rw [if_pos h2, decide_eq_false (by omega)]; simp
      · rw [if_neg h2, decide_eq_true (show 1 ≤ n.f0 ∧ n.f0 ≤ 6 by omega)]
        by_cases h3 : n.f2.length < lo
        · rw [if_pos (by omega), decide_eq_false (show ¬ (lo ≤ n.f2.length ∧ n.f2.length ≤ hi) by omega)]; simp
        · rw [if_neg (by omega)]
          by_cases h4 : n.f2.length ≤ hi
          · rw [decide_eq_true (show lo ≤ n.f2.length ∧ n.f2.length ≤ hi by omega), decide_eq_false (show ¬ ((n.f2.length : Int) > (hi : Int)) by omega)]; simp
          · rw [decide_eq_false (show ¬ (lo ≤ n.f2.length ∧ n.f2.length ≤ hi) by omega), decide_eq_true (show ((n.f2.length : Int) > (hi : Int)) by omega)]; simp
  have hj1 : ∀ hi : Nat, droverref16_nodeRight.j1 (n.f2.length + 1 + K + 1 + 1 + 1) i 0 hi n.f0 n.f1.f0 n.f1.f1 n.f1.f2 n.f2 = some (decide (1 ≤ n.f0 ∧ n.f0 ≤ 6) && (decide ((if n.f0 = 6 then 1 else 0) ≤ n.f2.length ∧ n.f2.length ≤ (if n.f0 = 6 then 1 else hi)) && (subsB n.f2 i && (if n.f0 = 3 then tstB n.f1 else testZ n.f1)))) := by
    intro hi
    simp only [droverref16_nodeRight.j1]
    have e1 := hj2 1 1
    have e2 := hj2 0 hi
    by_cases h6 : n.f0 = 6
    · rw [if_pos h6, if_pos h6, if_pos h6]; exact e1
    · rw [if_neg h6, if_neg h6, if_neg h6]; exact e2
  unfold droverref16_nodeRight.f
  simp only [droverref16_nodeRight.j0]
  have e1 := hj1 12
  have e2 := hj1 0
  have hN : some (nodeB n i) = some (decide (1 ≤ n.f0 ∧ n.f0 ≤ 6) && (decide (lowN n.f0 ≤ n.f2.length ∧ n.f2.length ≤ highN n.f0) && (subsB n.f2 i && (if n.f0 = 3 then tstB n.f1 else testZ n.f1)))) := by
    unfold nodeB
    cases decide (1 ≤ n.f0 ∧ n.f0 ≤ 6) <;> cases decide (lowN n.f0 ≤ n.f2.length ∧ n.f2.length ≤ highN n.f0) <;> cases subsB n.f2 i <;> cases (if n.f0 = 3 then tstB n.f1 else testZ n.f1) <;> rfl
  rw [hN]
  unfold lowN highN
  by_cases h4 : n.f0 = 4
  · rw [if_pos h4, if_pos trivial]
    refine e1.trans ?_
    simp [h4]
  · rw [if_neg h4]
    by_cases h5 : n.f0 = 5
    · rw [if_pos (by simp [h5])]
      refine e1.trans ?_
      simp [h5]
    · rw [if_neg (by simpa using h5)]
      refine e2.trans ?_
      by_cases h6 : n.f0 = 6
      · simp [h6]
      · simp [h4, h5, h6]
theorem rright_l0 (l : List S52) (hl : smallP l) (ho : okP l) : ∀ (d i : Nat), i + d = l.length → ∃ K0, ∀ K, K0 ≤ K → droverref16_Right.l0 K i l = some (nodesFrom l d i) := by
  intro d
  induction d with
  | zero =>
    intro i h
    refine ⟨1, fun K hK => ?_⟩
    obtain ⟨K, rfl⟩ : ∃ m, K = m + 1 := ⟨K - 1, by omega⟩
    simp only [droverref16_Right.l0]
    rw [if_neg (by omega)]; rfl
  | succ d ih =>
    intro i h
    obtain ⟨K0, h0⟩ := ih (i + 1) (by omega)
    refine ⟨K0 + (atN l i).f2.length + 8, fun K hK => ?_⟩
    obtain ⟨M, hM⟩ : ∃ M, K = (atN l i).f2.length + 1 + M + 1 + 1 + 1 + 1 + 1 := ⟨K - ((atN l i).f2.length + 6), by omega⟩
    obtain ⟨F, rfl⟩ : ∃ F, K = F + 1 := ⟨K - 1, by omega⟩
    have hn := rnode_f (atN l i) i (okP_at ho i) (hl.2 i) M
    rw [← Nat.succ_inj.1 hM] at hn
    simp only [droverref16_Right.l0]
    have hrd : rd_T52 l (i : Int) = atN l i := by unfold rd_T52 atN; rw [Int.toNat_natCast]
    rw [if_pos (by omega), if_pos (by omega), hrd, hn, wrap1 (show i < l.length by omega) hl.1, h0 F (by omega)]
    show _ = some (nodeB (atN l i) i && nodesFrom l d (i + 1))
    cases nodeB (atN l i) i <;> simp
theorem rright_f (l : List S52) (hl : smallP l) (ho : okP l) : ∃ k, droverref16_Right.f k l = some (rightB l) := by
  obtain ⟨K0, h0⟩ := rright_l0 l hl ho l.length 0 (by omega)
  refine ⟨K0 + 1, ?_⟩
  unfold droverref16_Right.f rightB
  by_cases h1 : l.length = 0
  · rw [if_pos (by omega)]
    simp only [droverref16_Right.j0]
    rw [if_pos trivial, decide_eq_false (by omega)]; rfl
  · rw [if_neg (by omega)]
    simp only [droverref16_Right.j0]
    by_cases h2 : l.length ≤ 60
    · rw [decide_eq_false (show ¬ ((l.length : Int) > 60) by omega), if_neg (by decide), decide_eq_true (show 1 ≤ l.length ∧ l.length ≤ 60 by omega)]
      have := h0 K0 (Nat.le_refl _)
      simpa using this
    · rw [decide_eq_true (show ((l.length : Int) > 60) by omega), if_pos rfl, decide_eq_false (by omega)]; rfl
theorem rright_any (A : Option Addr) (c : Nat) (l : List S52) (ho : okP l) (w : World) (hr : k52.C w A l.length l) (hc : l.length ≤ c) :
    Calls Try.prog 25 #[.agg #[.slice A l.length c]] w fun e w' => e = .returned (.bool (rightB l)) ∧ Below w.heap.size w w' := by
  obtain ⟨k, hk⟩ := rright_f l (smallP_of_C hr) ho
  exact droverref16_Right.calls k A c l (rightB l) w hr hc hk
end Go.Proofs.Ytmhjnfkhfjejeaa
