/-
  Proved: droverlaw15.CostTotal returns true for every three words: the order of float64 is total. No condition.
-/
import Derived.Test.YteilgnjjfebogaaN
namespace Go.Proofs.Yteilgnjjfebogaa.costTotal
open Go.Proofs.Yteilgnjjfebogaa Go.ChangeShapes Go.WideShapes Go.ChangeAt Go.RowKit
set_option linter.unusedVariables false
set_option linter.unusedSimpArgs false

theorem lt_true {a b : Nat} (ha : a < 18446744073709551616) (hb : b < 18446744073709551616) (h : keyI a < keyI b) : Hid (lessB a b = true) := by
  show _ = _
  rw [lessB_key a b ha hb]; exact decide_eq_true h
theorem lt_false {a b : Nat} (ha : a < 18446744073709551616) (hb : b < 18446744073709551616) (h : ¬ keyI a < keyI b) : Hid (lessB a b = false) := by
  show _ = _
  rw [lessB_key a b ha hb]; exact decide_eq_false h
set_option maxHeartbeats 4000000 in
theorem walk (a0 : Nat) (w0 : a0 < 18446744073709551616) (a1 : Nat) (w1 : a1 < 18446744073709551616) (a2 : Nat) (w2 : a2 < 18446744073709551616) (w : World)  :
    Calls Try.prog 7 #[.int .u64 a0, .int .u64 a1, .int .u64 a2] w fun e w' => e = .returned (.bool true) ∧ Below w.heap.size w w' := by
  rcases Int.lt_trichotomy (keyI a0) (keyI a1) with h01 | h01 | h01
  · rcases Int.lt_trichotomy (keyI a1) (keyI a2) with h12 | h12 | h12
    · rcases Int.lt_trichotomy (keyI a0) (keyI a2) with h02 | h02 | h02
      · have H01 := lt_true w0 w1 (show keyI a0 < keyI a1 by omega)
        have H10 := lt_false w1 w0 (show ¬ keyI a1 < keyI a0 by omega)
        have H12 := lt_true w1 w2 (show keyI a1 < keyI a2 by omega)
        have H21 := lt_false w2 w1 (show ¬ keyI a2 < keyI a1 by omega)
        have H02 := lt_true w0 w2 (show keyI a0 < keyI a2 by omega)
        have H20 := lt_false w2 w0 (show ¬ keyI a2 < keyI a0 by omega)
        have H00 := lt_false w0 w0 (show ¬ keyI a0 < keyI a0 by omega)
        clear h01 h12 h02
        go_enter Try.func7, Try.ntmps7
        go_wp2_with (first | (go_at_call 14; (with_reducible refine (less_any _ _ _).mono ?_); rintro e w' ⟨rfl, rfl⟩; first | rw [H01.out] | rw [H10.out] | rw [H12.out] | rw [H21.out] | rw [H02.out] | rw [H20.out] | rw [H00.out]) | (go_at_call 16; (with_reducible refine (awake_any _).mono ?_); rintro e w' ⟨rfl, hb⟩))
        go_ret
        exact ⟨rfl, hb⟩
      · exfalso; omega
      · exfalso; omega
    · rcases Int.lt_trichotomy (keyI a0) (keyI a2) with h02 | h02 | h02
      · have H01 := lt_true w0 w1 (show keyI a0 < keyI a1 by omega)
        have H10 := lt_false w1 w0 (show ¬ keyI a1 < keyI a0 by omega)
        have H12 := lt_false w1 w2 (show ¬ keyI a1 < keyI a2 by omega)
        have H21 := lt_false w2 w1 (show ¬ keyI a2 < keyI a1 by omega)
        have H02 := lt_true w0 w2 (show keyI a0 < keyI a2 by omega)
        have H20 := lt_false w2 w0 (show ¬ keyI a2 < keyI a0 by omega)
        have H00 := lt_false w0 w0 (show ¬ keyI a0 < keyI a0 by omega)
        clear h01 h12 h02
        go_enter Try.func7, Try.ntmps7
        go_wp2_with (first | (go_at_call 14; (with_reducible refine (less_any _ _ _).mono ?_); rintro e w' ⟨rfl, rfl⟩; first | rw [H01.out] | rw [H10.out] | rw [H12.out] | rw [H21.out] | rw [H02.out] | rw [H20.out] | rw [H00.out]) | (go_at_call 16; (with_reducible refine (awake_any _).mono ?_); rintro e w' ⟨rfl, hb⟩))
        go_ret
        exact ⟨rfl, hb⟩
      · exfalso; omega
      · exfalso; omega
    · rcases Int.lt_trichotomy (keyI a0) (keyI a2) with h02 | h02 | h02
      · have H01 := lt_true w0 w1 (show keyI a0 < keyI a1 by omega)
        have H10 := lt_false w1 w0 (show ¬ keyI a1 < keyI a0 by omega)
        have H12 := lt_false w1 w2 (show ¬ keyI a1 < keyI a2 by omega)
        have H21 := lt_true w2 w1 (show keyI a2 < keyI a1 by omega)
        have H02 := lt_true w0 w2 (show keyI a0 < keyI a2 by omega)
        have H20 := lt_false w2 w0 (show ¬ keyI a2 < keyI a0 by omega)
        have H00 := lt_false w0 w0 (show ¬ keyI a0 < keyI a0 by omega)
        clear h01 h12 h02
        go_enter Try.func7, Try.ntmps7
        go_wp2_with (first | (go_at_call 14; (with_reducible refine (less_any _ _ _).mono ?_); rintro e w' ⟨rfl, rfl⟩; first | rw [H01.out] | rw [H10.out] | rw [H12.out] | rw [H21.out] | rw [H02.out] | rw [H20.out] | rw [H00.out]) | (go_at_call 16; (with_reducible refine (awake_any _).mono ?_); rintro e w' ⟨rfl, hb⟩))
        go_ret
        exact ⟨rfl, hb⟩
      · have H01 := lt_true w0 w1 (show keyI a0 < keyI a1 by omega)
        have H10 := lt_false w1 w0 (show ¬ keyI a1 < keyI a0 by omega)
        have H12 := lt_false w1 w2 (show ¬ keyI a1 < keyI a2 by omega)
        have H21 := lt_true w2 w1 (show keyI a2 < keyI a1 by omega)
        have H02 := lt_false w0 w2 (show ¬ keyI a0 < keyI a2 by omega)
        have H20 := lt_false w2 w0 (show ¬ keyI a2 < keyI a0 by omega)
        have H00 := lt_false w0 w0 (show ¬ keyI a0 < keyI a0 by omega)
        clear h01 h12 h02
        go_enter Try.func7, Try.ntmps7
        go_wp2_with (first | (go_at_call 14; (with_reducible refine (less_any _ _ _).mono ?_); rintro e w' ⟨rfl, rfl⟩; first | rw [H01.out] | rw [H10.out] | rw [H12.out] | rw [H21.out] | rw [H02.out] | rw [H20.out] | rw [H00.out]) | (go_at_call 16; (with_reducible refine (awake_any _).mono ?_); rintro e w' ⟨rfl, hb⟩))
        go_ret
        exact ⟨rfl, hb⟩
      · have H01 := lt_true w0 w1 (show keyI a0 < keyI a1 by omega)
        have H10 := lt_false w1 w0 (show ¬ keyI a1 < keyI a0 by omega)
        have H12 := lt_false w1 w2 (show ¬ keyI a1 < keyI a2 by omega)
        have H21 := lt_true w2 w1 (show keyI a2 < keyI a1 by omega)
        have H02 := lt_false w0 w2 (show ¬ keyI a0 < keyI a2 by omega)
        have H20 := lt_true w2 w0 (show keyI a2 < keyI a0 by omega)
        have H00 := lt_false w0 w0 (show ¬ keyI a0 < keyI a0 by omega)
        clear h01 h12 h02
        go_enter Try.func7, Try.ntmps7
        go_wp2_with (first | (go_at_call 14; (with_reducible refine (less_any _ _ _).mono ?_); rintro e w' ⟨rfl, rfl⟩; first | rw [H01.out] | rw [H10.out] | rw [H12.out] | rw [H21.out] | rw [H02.out] | rw [H20.out] | rw [H00.out]) | (go_at_call 16; (with_reducible refine (awake_any _).mono ?_); rintro e w' ⟨rfl, hb⟩))
        go_ret
        exact ⟨rfl, hb⟩
  · rcases Int.lt_trichotomy (keyI a1) (keyI a2) with h12 | h12 | h12
    · rcases Int.lt_trichotomy (keyI a0) (keyI a2) with h02 | h02 | h02
      · have H01 := lt_false w0 w1 (show ¬ keyI a0 < keyI a1 by omega)
        have H10 := lt_false w1 w0 (show ¬ keyI a1 < keyI a0 by omega)
        have H12 := lt_true w1 w2 (show keyI a1 < keyI a2 by omega)
        have H21 := lt_false w2 w1 (show ¬ keyI a2 < keyI a1 by omega)
        have H02 := lt_true w0 w2 (show keyI a0 < keyI a2 by omega)
        have H20 := lt_false w2 w0 (show ¬ keyI a2 < keyI a0 by omega)
        have H00 := lt_false w0 w0 (show ¬ keyI a0 < keyI a0 by omega)
        clear h01 h12 h02
        go_enter Try.func7, Try.ntmps7
        go_wp2_with (first | (go_at_call 14; (with_reducible refine (less_any _ _ _).mono ?_); rintro e w' ⟨rfl, rfl⟩; first | rw [H01.out] | rw [H10.out] | rw [H12.out] | rw [H21.out] | rw [H02.out] | rw [H20.out] | rw [H00.out]) | (go_at_call 16; (with_reducible refine (awake_any _).mono ?_); rintro e w' ⟨rfl, hb⟩))
        go_ret
        exact ⟨rfl, hb⟩
      · exfalso; omega
      · exfalso; omega
    · rcases Int.lt_trichotomy (keyI a0) (keyI a2) with h02 | h02 | h02
      · exfalso; omega
      · have H01 := lt_false w0 w1 (show ¬ keyI a0 < keyI a1 by omega)
        have H10 := lt_false w1 w0 (show ¬ keyI a1 < keyI a0 by omega)
        have H12 := lt_false w1 w2 (show ¬ keyI a1 < keyI a2 by omega)
        have H21 := lt_false w2 w1 (show ¬ keyI a2 < keyI a1 by omega)
        have H02 := lt_false w0 w2 (show ¬ keyI a0 < keyI a2 by omega)
        have H20 := lt_false w2 w0 (show ¬ keyI a2 < keyI a0 by omega)
        have H00 := lt_false w0 w0 (show ¬ keyI a0 < keyI a0 by omega)
        clear h01 h12 h02
        go_enter Try.func7, Try.ntmps7
        go_wp2_with (first | (go_at_call 14; (with_reducible refine (less_any _ _ _).mono ?_); rintro e w' ⟨rfl, rfl⟩; first | rw [H01.out] | rw [H10.out] | rw [H12.out] | rw [H21.out] | rw [H02.out] | rw [H20.out] | rw [H00.out]) | (go_at_call 16; (with_reducible refine (awake_any _).mono ?_); rintro e w' ⟨rfl, hb⟩))
        go_ret
        exact ⟨rfl, hb⟩
      · exfalso; omega
    · rcases Int.lt_trichotomy (keyI a0) (keyI a2) with h02 | h02 | h02
      · exfalso; omega
      · exfalso; omega
      · have H01 := lt_false w0 w1 (show ¬ keyI a0 < keyI a1 by omega)
        have H10 := lt_false w1 w0 (show ¬ keyI a1 < keyI a0 by omega)
        have H12 := lt_false w1 w2 (show ¬ keyI a1 < keyI a2 by omega)
        have H21 := lt_true w2 w1 (show keyI a2 < keyI a1 by omega)
        have H02 := lt_false w0 w2 (show ¬ keyI a0 < keyI a2 by omega)
        have H20 := lt_true w2 w0 (show keyI a2 < keyI a0 by omega)
        have H00 := lt_false w0 w0 (show ¬ keyI a0 < keyI a0 by omega)
        clear h01 h12 h02
        go_enter Try.func7, Try.ntmps7
        go_wp2_with (first | (go_at_call 14; (with_reducible refine (less_any _ _ _).mono ?_); rintro e w' ⟨rfl, rfl⟩; first | rw [H01.out] | rw [H10.out] | rw [H12.out] | rw [H21.out] | rw [H02.out] | rw [H20.out] | rw [H00.out]) | (go_at_call 16; (with_reducible refine (awake_any _).mono ?_); rintro e w' ⟨rfl, hb⟩))
        go_ret
        exact ⟨rfl, hb⟩
  · rcases Int.lt_trichotomy (keyI a1) (keyI a2) with h12 | h12 | h12
    · rcases Int.lt_trichotomy (keyI a0) (keyI a2) with h02 | h02 | h02
      · have H01 := lt_false w0 w1 (show ¬ keyI a0 < keyI a1 by omega)
        have H10 := lt_true w1 w0 (show keyI a1 < keyI a0 by omega)
        have H12 := lt_true w1 w2 (show keyI a1 < keyI a2 by omega)
        have H21 := lt_false w2 w1 (show ¬ keyI a2 < keyI a1 by omega)
        have H02 := lt_true w0 w2 (show keyI a0 < keyI a2 by omega)
        have H20 := lt_false w2 w0 (show ¬ keyI a2 < keyI a0 by omega)
        have H00 := lt_false w0 w0 (show ¬ keyI a0 < keyI a0 by omega)
        clear h01 h12 h02
        go_enter Try.func7, Try.ntmps7
        go_wp2_with (first | (go_at_call 14; (with_reducible refine (less_any _ _ _).mono ?_); rintro e w' ⟨rfl, rfl⟩; first | rw [H01.out] | rw [H10.out] | rw [H12.out] | rw [H21.out] | rw [H02.out] | rw [H20.out] | rw [H00.out]) | (go_at_call 16; (with_reducible refine (awake_any _).mono ?_); rintro e w' ⟨rfl, hb⟩))
        go_ret
        exact ⟨rfl, hb⟩
      · have H01 := lt_false w0 w1 (show ¬ keyI a0 < keyI a1 by omega)
        have H10 := lt_true w1 w0 (show keyI a1 < keyI a0 by omega)
        have H12 := lt_true w1 w2 (show keyI a1 < keyI a2 by omega)
        have H21 := lt_false w2 w1 (show ¬ keyI a2 < keyI a1 by omega)
        have H02 := lt_false w0 w2 (show ¬ keyI a0 < keyI a2 by omega)
        have H20 := lt_false w2 w0 (show ¬ keyI a2 < keyI a0 by omega)
        have H00 := lt_false w0 w0 (show ¬ keyI a0 < keyI a0 by omega)
        clear h01 h12 h02
        go_enter Try.func7, Try.ntmps7
        go_wp2_with (first | (go_at_call 14; (with_reducible refine (less_any _ _ _).mono ?_); rintro e w' ⟨rfl, rfl⟩; first | rw [H01.out] | rw [H10.out] | rw [H12.out] | rw [H21.out] | rw [H02.out] | rw [H20.out] | rw [H00.out]) | (go_at_call 16; (with_reducible refine (awake_any _).mono ?_); rintro e w' ⟨rfl, hb⟩))
        go_ret
        exact ⟨rfl, hb⟩
      · have H01 := lt_false w0 w1 (show ¬ keyI a0 < keyI a1 by omega)
        have H10 := lt_true w1 w0 (show keyI a1 < keyI a0 by omega)
        have H12 := lt_true w1 w2 (show keyI a1 < keyI a2 by omega)
        have H21 := lt_false w2 w1 (show ¬ keyI a2 < keyI a1 by omega)
        have H02 := lt_false w0 w2 (show ¬ keyI a0 < keyI a2 by omega)
        have H20 := lt_true w2 w0 (show keyI a2 < keyI a0 by omega)
        have H00 := lt_false w0 w0 (show ¬ keyI a0 < keyI a0 by omega)
        clear h01 h12 h02
        go_enter Try.func7, Try.ntmps7
        go_wp2_with (first | (go_at_call 14; (with_reducible refine (less_any _ _ _).mono ?_); rintro e w' ⟨rfl, rfl⟩; first | rw [H01.out] | rw [H10.out] | rw [H12.out] | rw [H21.out] | rw [H02.out] | rw [H20.out] | rw [H00.out]) | (go_at_call 16; (with_reducible refine (awake_any _).mono ?_); rintro e w' ⟨rfl, hb⟩))
        go_ret
        exact ⟨rfl, hb⟩
    · rcases Int.lt_trichotomy (keyI a0) (keyI a2) with h02 | h02 | h02
      · exfalso; omega
      · exfalso; omega
      · have H01 := lt_false w0 w1 (show ¬ keyI a0 < keyI a1 by omega)
        have H10 := lt_true w1 w0 (show keyI a1 < keyI a0 by omega)
        have H12 := lt_false w1 w2 (show ¬ keyI a1 < keyI a2 by omega)
        have H21 := lt_false w2 w1 (show ¬ keyI a2 < keyI a1 by omega)
        have H02 := lt_false w0 w2 (show ¬ keyI a0 < keyI a2 by omega)
        have H20 := lt_true w2 w0 (show keyI a2 < keyI a0 by omega)
        have H00 := lt_false w0 w0 (show ¬ keyI a0 < keyI a0 by omega)
        clear h01 h12 h02
        go_enter Try.func7, Try.ntmps7
        go_wp2_with (first | (go_at_call 14; (with_reducible refine (less_any _ _ _).mono ?_); rintro e w' ⟨rfl, rfl⟩; first | rw [H01.out] | rw [H10.out] | rw [H12.out] | rw [H21.out] | rw [H02.out] | rw [H20.out] | rw [H00.out]) | (go_at_call 16; (with_reducible refine (awake_any _).mono ?_); rintro e w' ⟨rfl, hb⟩))
        go_ret
        exact ⟨rfl, hb⟩
    · rcases Int.lt_trichotomy (keyI a0) (keyI a2) with h02 | h02 | h02
      · exfalso; omega
      · exfalso; omega
      · have H01 := lt_false w0 w1 (show ¬ keyI a0 < keyI a1 by omega)
        have H10 := lt_true w1 w0 (show keyI a1 < keyI a0 by omega)
        have H12 := lt_false w1 w2 (show ¬ keyI a1 < keyI a2 by omega)
        have H21 := lt_true w2 w1 (show keyI a2 < keyI a1 by omega)
        have H02 := lt_false w0 w2 (show ¬ keyI a0 < keyI a2 by omega)
        have H20 := lt_true w2 w0 (show keyI a2 < keyI a0 by omega)
        have H00 := lt_false w0 w0 (show ¬ keyI a0 < keyI a0 by omega)
        clear h01 h12 h02
        go_enter Try.func7, Try.ntmps7
        go_wp2_with (first | (go_at_call 14; (with_reducible refine (less_any _ _ _).mono ?_); rintro e w' ⟨rfl, rfl⟩; first | rw [H01.out] | rw [H10.out] | rw [H12.out] | rw [H21.out] | rw [H02.out] | rw [H20.out] | rw [H00.out]) | (go_at_call 16; (with_reducible refine (awake_any _).mono ?_); rintro e w' ⟨rfl, hb⟩))
        go_ret
        exact ⟨rfl, hb⟩

/-! ### The row -/
set_option maxRecDepth 100000 in
theorem lifted (os : Os) (started : os.Started) (H : Type) (enc : TypeId × Value → H) :
    ReturnsInHanded {} Try.checked os 7 .any (Rows.costTotalSpec.pre6 enc Try.prog Try.f7 Rows.costTotalRow.domain false) (Rows.costTotalSpec.post enc Try.prog Try.f7 false true false false) := by
  refine returnsInHanded_of_change_sized (C := Try.checked) own started (by kernel_rfl) Try.func7
    (ChangeSpec.witness6 (enc := enc) (C := Try.checked) false ⟨#[], #[.int .u64 0, .int .u64 0, .int .u64 0], []⟩ 8 (by kernel_rfl) (by kernel_rfl) (by kernel_rfl) (by kernel_rfl)) ?_
  intro W base args ds gs before hval0 hW hcnd hsz _
  have hval : ∀ (j : Nat) t v, Try.f7.params[j]? = some t → args[j]? = some v → Value.okWide Try.prog W .any base t v := hval0
  have hW' := hW
  obtain ⟨p, q, hA0, hV, rfl, hfz, hnd⟩ := hW
  have hA : DataW.TrodAll enc Try.prog W 0 (fun _ => true) true Try.f7.params.toList args.toList ds p := hA0
  rw [Try.params7] at hA hval hsz
  obtain ⟨v0, vs0, d0, ds0, p0, q0, hargs, rfl, rfl, h0, r0⟩ := trodAll_cons hA
  obtain ⟨v1, vs1, d1, ds1, p1, q1, rfl, rfl, rfl, h1, r1⟩ := trodAll_cons r0
  obtain ⟨v2, vs2, d2, ds2, p2, q2, rfl, rfl, rfl, h2, r2⟩ := trodAll_cons r1
  obtain ⟨rfl, rfl, rfl⟩ := trodAll_nil r2
  obtain rfl : args = #[v0, v1, v2] := by cases args; simp_all
  obtain ⟨rfl, rfl⟩ := trodVars_none hV
  obtain ⟨a0, rfl, rfl, rfl, w0⟩ := open_int Try.underlying22 (hval 0 22 v0 rfl rfl) h0
  obtain ⟨n0, rfl, b0⟩ := nat_u64 w0
  obtain ⟨a1, rfl, rfl, rfl, w1⟩ := open_int Try.underlying22 (hval 1 22 v1 rfl rfl) h1
  obtain ⟨n1, rfl, b1⟩ := nat_u64 w1
  obtain ⟨a2, rfl, rfl, rfl, w2⟩ := open_int Try.underlying22 (hval 2 22 v2 rfl rfl) h2
  obtain ⟨n2, rfl, b2⟩ := nat_u64 w2
  clear hA0 hval0
  refine (walk n0 b0 n1 b1 n2 b2 W ).mono fun e W' ⟨he, bel⟩ => ?_
  subst he
  exact ⟨_, rfl, _, _, _, [], _, [], hW', trodAll_mk1 (shut_bool Try.underlying4 _), (trodAll_cons_mk (shut_int Try.underlying22 w0) (trodAll_cons_mk (shut_int Try.underlying22 w1) (trodAll_cons_mk (shut_int Try.underlying22 w2) trodAll_mk0))), rfl, bel.frame _, fun h => by cases h⟩

theorem over : Rows.costTotalRow.holds Try.pinned (OpenSpec.ofChange Rows.costTotalSpec) :=
  OpenClaim.holds_of_wide 7 Try.f7 rfl rfl rfl rfl rfl rfl rfl ⟨rfl, rfl, rfl, rfl, rfl⟩ rfl rfl rfl rfl rfl (by kernel_rfl) Try.func7 (by kernel_rfl)
    (of_decide_eq_true (by kernel_rfl)) (by unfold Func.isWrapper; first | (rw [if_pos (by decide +kernel)]; kernel_rfl) | (rw [if_neg (by decide +kernel)]; exact ⟨rfl, rfl⟩))
    (fun os started H enc _ => lifted os started H enc)

/-- The statement. -/
theorem proved : Rows.CostTotalSaid := over
#print axioms proved
end Go.Proofs.Yteilgnjjfebogaa.costTotal
