import Derived.Test.YtmhjnfkhfjejeaaZ2G7
namespace Go.Proofs.Ytmhjnfkhfjejeaa
set_option linter.unusedVariables false
set_option linter.unusedSimpArgs false
open Go.RowKit Go.Proofs.YtmhjnfkhfjejeaaW.PrintWords Go.Proofs.YtmhjnfkhfjejeaaW.PrintLast Go.Proofs.YtmhjnfkhfjejeaaW.PrintMore
open PPredCubes
/-! ### Whole, In, Pick, Meet -/
theorem boxTo_ok {c : List S47} (hc : okC c) (k : Nat) : (boxTo c k).ok := by
  induction k with
  | zero => exact z67_ok
  | succ k ih =>
    have h := okC_at hc k
    obtain ⟨f, v, m, e, hv, hm⟩ := okT_nat h
    intro i
    simp only [boxTo]
    rw [e]
    exact ⟨upd_lt (fun i => (ih i).1) (by simpa using hm) i, upd_lt (fun i => (ih i).2) (by simpa using hv) i⟩
theorem boxOr_ok {c : List S47} (hc : okC c) : (boxOr c).ok := by
  unfold boxOr; split
  · exact boxTo_ok hc _
  · exact z67_ok
theorem boxed_v (A : Option Addr) (cap : Nat) (c : List S47) (hc : okC c) (w : World) (hr : k47.C w A c.length c) :
    Calls Try.prog 44 #[.slice A c.length cap] w fun e w' => e = .returned (.tuple #[.agg (boxOr c).cs, .bool (wholeC c)]) ∧ Below w.heap.size w w' :=
  (boxed_any A cap c hc w hr).mono fun e w' h => ⟨h.1, h.2⟩
/-- Does a test hold of values? -/
def holdT (l : List Nat) (t : S47) : Bool := holdsB l t.f0 t.f1.toNat t.f2.toNat
def inTo (c : List S47) (l : List Nat) : Nat → Bool
  | 0 => wholeC c
  | k + 1 => inTo c l k && holdT l (atT c k)
/-- Are values in a cube? -/
def inC (c : List S47) (l : List Nat) : Bool := inTo c l c.length
theorem wholeTo_at {c : List S47} (n : Nat) (h : wholeTo c n = true) (k : Nat) (hk : k < n) : tOK (atT c k) (lastF c k) = true := by
  induction n with
  | zero => omega
  | succ n ih =>
    simp only [wholeTo, Bool.and_eq_true] at h
    rcases Nat.lt_or_ge k n with h1 | h1
    · exact ih h.1 h1
    · obtain rfl : k = n := by omega
      exact h.2
theorem wholeC_at {c : List S47} (h : wholeC c = true) {k : Nat} (hk : k < c.length) : tOK (atT c k) (lastF c k) = true := wholeTo_at _ h k hk
theorem tOK_iff (t : S47) (last : Int) : tOK t last = true ↔ (1 ≤ t.f0 ∧ t.f0 < 10 ∧ t.f1.toNat &&& (18446744073709551615 - t.f2.toNat) = 0) ∧ t.f2 ≠ 0 ∧ last < t.f0 := by
  unfold tOK; rw [Bool.and_eq_true, Bool.and_eq_true, testB_iff, decide_eq_true_eq, decide_eq_true_eq]
/-! #### Pick -/
/-- What is picked of a box: its values. -/
def pickB (b : Bx) : List Nat := [b.v 0, b.v 1, b.v 2, b.v 3, b.v 4, b.v 5, b.v 6, b.v 7, b.v 8, b.v 9]
def pickC (c : List S47) : List Nat := if wholeC c then pickB (boxC c) else []
/-! #### Meet -/
def meetOk (a b : List S47) : Bool := wholeC a && (wholeC b && meetB (boxC a) (boxC b))
def meetC (a b : List S47) : List S47 := if meetOk a b then cubeL (meetX (boxC a) (boxC b)) else []
theorem meetC_no {a b : List S47} (h : meetOk a b = false) : meetC a b = [] := by unfold meetC; rw [h]; rfl
end Go.Proofs.Ytmhjnfkhfjejeaa
