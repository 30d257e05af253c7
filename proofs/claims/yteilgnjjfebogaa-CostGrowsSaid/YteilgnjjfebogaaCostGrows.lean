/-
  Proved: droverlaw15.CostGrows returns true for every three words: sums don't mind the order of two, no part is behind them, they grow with their parts. No condition.
-/
import Derived.Test.YteilgnjjfebogaaN
namespace Go.Proofs.Yteilgnjjfebogaa.costGrows
open Go.Proofs.Yteilgnjjfebogaa Go.ChangeShapes Go.WideShapes Go.ChangeAt Go.RowKit
set_option linter.unusedVariables false
set_option linter.unusedSimpArgs false

theorem inf_right : rightB 9218868437227405312 = false ∧ infB 9218868437227405312 = true := by
  constructor <;> decide
theorem addN_comm {a b : Nat} (ha : a < 18446744073709551616) (hb : b < 18446744073709551616) : addN b a = addN a b := by
  rw [addN_eq ha hb, addN_eq hb ha, Nat.add_comm]
  by_cases h1 : rightB a = true <;> by_cases h2 : rightB b = true <;> simp [h1, h2]
theorem key_right {a : Nat} (ha : a < 18446744073709551616) (h : rightB a = true) : keyI a = rung a := by
  obtain ⟨f1, f2⟩ := right_fin ha h
  have hn : nanB a = false := by unfold nanB; exact decide_eq_false (by omega)
  rw [keyI_nat a ha, hn]
  unfold kz
  cases h2 : negB a
  · simp
  · rw [f2 h2]; simp
theorem key_rnd (V : Nat) : keyI (rnd V) = rnd V := by
  have h := rnd_le V
  obtain ⟨h1, h2, _, _⟩ := kz_rnd V
  rw [keyI_nat _ (by omega), h1, h2]; simp
theorem right_small {s : Nat} (h : s < 9218868437227405312) : rightB s = true := by
  rw [rightB_iff s (by omega)]; unfold rrightB; simp; omega
theorem grows_part {a b : Nat} (ha : a < 18446744073709551616) (hb : b < 18446744073709551616) (ra : rightB a = true) (rb : rightB b = true) : lessB (addN a b) a = false ∧ lessB (addN a b) b = false := by
  have hl := addN_lt ha hb
  rw [lessB_key _ _ (by omega) ha, lessB_key _ _ (by omega) hb, addN_eq ha hb, if_pos ⟨ra, rb⟩, key_rnd, key_right ha ra, key_right hb rb]
  have fa := (right_fin ha ra).1
  have fb := (right_fin hb rb).1
  have h1 := rnd_mono (V := vR (rung a)) (W := vR (rung a) + vR (rung b)) (by omega)
  have h2 := rnd_mono (V := vR (rung b)) (W := vR (rung a) + vR (rung b)) (by omega)
  rw [rnd_vR (by omega)] at h1 h2
  exact ⟨decide_eq_false (by omega), decide_eq_false (by omega)⟩
theorem grows_more {a b c : Nat} (ha : a < 18446744073709551616) (hb : b < 18446744073709551616) (hc : c < 18446744073709551616) (ra : rightB a = true) (rb : rightB b = true) (rc : rightB c = true) (h : lessB c b = false) : lessB (addN a c) (addN a b) = false := by
  have hl := addN_lt ha hb
  have hl2 := addN_lt ha hc
  rw [lessB_key _ _ hc hb, key_right hb rb, key_right hc rc] at h
  have h0 : rung b ≤ rung c := by have := of_decide_eq_false h; omega
  rw [lessB_key _ _ (by omega) (by omega), addN_eq ha hc, addN_eq ha hb, if_pos ⟨ra, rc⟩, if_pos ⟨ra, rb⟩, key_rnd, key_rnd]
  have h1 := rnd_mono (V := vR (rung a) + vR (rung b)) (W := vR (rung a) + vR (rung c)) (by have := vR_le h0; omega)
  exact decide_eq_false (by omega)
set_option maxHeartbeats 4000000 in
theorem walk (a0 : Nat) (w0 : a0 < 18446744073709551616) (a1 : Nat) (w1 : a1 < 18446744073709551616) (a2 : Nat) (w2 : a2 < 18446744073709551616) (w : World)  :
    Calls Try.prog 8 #[.int .u64 a0, .int .u64 a1, .int .u64 a2] w fun e w' => e = .returned (.bool true) ∧ Below w.heap.size w w' := by
  obtain ⟨s, hs⟩ : ∃ s, s = addN a0 a1 := ⟨_, rfl⟩
  have HS : Hid (addN a0 a1 = s) := hs.symm
  have HSW : Hid (addN a1 a0 = s) := (addN_comm w0 w1).trans hs.symm
  have hsl : s ≤ 9218868437227405312 := by rw [hs]; exact addN_lt w0 w1
  have hse := addN_eq w0 w1
  rw [← hs] at hse
  have HSE := Lib.hid hse
  clear hse hs
  cases hx : rightB a0
  · have hsi : s = 9218868437227405312 := by rw [HSE.out, if_neg (by simp [hx])]
    have HSI := Lib.hid (hsi ▸ inf_right.1 : rightB s = false)
    have HI := Lib.hid (hsi ▸ inf_right.2 : infB s = true)
    have HX := Lib.hid hx
    clear hx hsi
    go_enter Try.func8, Try.ntmps8
    go_wp2_with (first | (go_at_call 17; (with_reducible refine (add_nat _ _ (by assumption) (by assumption) _).mono ?_); rintro e w' ⟨rfl, rfl⟩; (first | rw [HS.out] | rw [HSW.out] | skip)) | (go_at_call 12; (with_reducible refine (right_any _ _).mono ?_); rintro e w' ⟨rfl, rfl⟩; (first | rw [HX.out] | rw [HSI.out])) | (go_at_call 14; (with_reducible refine (less_any _ _ _).mono ?_); rintro e w' ⟨rfl, rfl⟩; (first | skip)) | (go_at_call 28; (with_reducible refine (isInf_any _ _).mono ?_); rintro e w' ⟨rfl, rfl⟩; rw [HI.out]) | (go_at_call 16; (with_reducible refine (awake_any _).mono ?_); rintro e w' ⟨rfl, hb⟩))
    go_ret
    exact ⟨rfl, hb⟩
  · cases hy : rightB a1
    · have hsi : s = 9218868437227405312 := by rw [HSE.out, if_neg (by simp [hy])]
      have HSI := Lib.hid (hsi ▸ inf_right.1 : rightB s = false)
      have HI := Lib.hid (hsi ▸ inf_right.2 : infB s = true)
      have HX := Lib.hid hx
      have HY := Lib.hid hy
      clear hx hy hsi
      go_enter Try.func8, Try.ntmps8
      go_wp2_with (first | (go_at_call 17; (with_reducible refine (add_nat _ _ (by assumption) (by assumption) _).mono ?_); rintro e w' ⟨rfl, rfl⟩; (first | rw [HS.out] | rw [HSW.out] | skip)) | (go_at_call 12; (with_reducible refine (right_any _ _).mono ?_); rintro e w' ⟨rfl, rfl⟩; (first | rw [HX.out] | rw [HY.out] | rw [HSI.out])) | (go_at_call 14; (with_reducible refine (less_any _ _ _).mono ?_); rintro e w' ⟨rfl, rfl⟩; (first | skip)) | (go_at_call 28; (with_reducible refine (isInf_any _ _).mono ?_); rintro e w' ⟨rfl, rfl⟩; rw [HI.out]) | (go_at_call 16; (with_reducible refine (awake_any _).mono ?_); rintro e w' ⟨rfl, hb⟩))
      go_ret
      exact ⟨rfl, hb⟩
    · obtain ⟨hg1, hg2⟩ := grows_part w0 w1 hx hy
      rw [HS.out] at hg1 hg2
      have hgm := fun h1 h2 => grows_more w0 w1 w2 hx hy h1 h2
      rw [HS.out] at hgm
      have HG1 := Lib.hid hg1
      have HG2 := Lib.hid hg2
      have HGM := Lib.hid hgm
      have HX := Lib.hid hx
      have HY := Lib.hid hy
      clear hg1 hg2 hgm hx hy
      rcases Nat.lt_or_ge s 9218868437227405312 with hc | hc
      · have HSI := Lib.hid (right_small hc)
        have HI : Hid (infB s = infB s) := rfl
        clear hc hsl
        cases hz : rightB a2
        · have HZ := Lib.hid hz
          clear hz
          go_enter Try.func8, Try.ntmps8
          go_wp2_with (first | (go_at_call 17; (with_reducible refine (add_nat _ _ (by assumption) (by assumption) _).mono ?_); rintro e w' ⟨rfl, rfl⟩; (first | rw [HS.out] | rw [HSW.out] | skip)) | (go_at_call 12; (with_reducible refine (right_any _ _).mono ?_); rintro e w' ⟨rfl, rfl⟩; (first | rw [HX.out] | rw [HY.out] | rw [HZ.out] | rw [HSI.out])) | (go_at_call 14; (with_reducible refine (less_any _ _ _).mono ?_); rintro e w' ⟨rfl, rfl⟩; (first | rw [HG1.out] | rw [HG2.out])) | (go_at_call 28; (with_reducible refine (isInf_any _ _).mono ?_); rintro e w' ⟨rfl, rfl⟩; rw [HI.out]) | (go_at_call 16; (with_reducible refine (awake_any _).mono ?_); rintro e w' ⟨rfl, hb⟩))
          go_ret
          exact ⟨rfl, hb⟩
        · cases hl : lessB a2 a1
          · have HM := Lib.hid (HGM.out hz hl)
            have HL := Lib.hid hl
            have HZ := Lib.hid hz
            clear hz hl
            go_enter Try.func8, Try.ntmps8
            go_wp2_with (first | (go_at_call 17; (with_reducible refine (add_nat _ _ (by assumption) (by assumption) _).mono ?_); rintro e w' ⟨rfl, rfl⟩; (first | rw [HS.out] | rw [HSW.out] | skip)) | (go_at_call 12; (with_reducible refine (right_any _ _).mono ?_); rintro e w' ⟨rfl, rfl⟩; (first | rw [HX.out] | rw [HY.out] | rw [HZ.out] | rw [HSI.out])) | (go_at_call 14; (with_reducible refine (less_any _ _ _).mono ?_); rintro e w' ⟨rfl, rfl⟩; (first | rw [HG1.out] | rw [HG2.out] | rw [HL.out] | rw [HM.out])) | (go_at_call 28; (with_reducible refine (isInf_any _ _).mono ?_); rintro e w' ⟨rfl, rfl⟩; rw [HI.out]) | (go_at_call 16; (with_reducible refine (awake_any _).mono ?_); rintro e w' ⟨rfl, hb⟩))
            go_ret
            exact ⟨rfl, hb⟩
          · have HL := Lib.hid hl
            have HZ := Lib.hid hz
            clear hz hl
            go_enter Try.func8, Try.ntmps8
            go_wp2_with (first | (go_at_call 17; (with_reducible refine (add_nat _ _ (by assumption) (by assumption) _).mono ?_); rintro e w' ⟨rfl, rfl⟩; (first | rw [HS.out] | rw [HSW.out] | skip)) | (go_at_call 12; (with_reducible refine (right_any _ _).mono ?_); rintro e w' ⟨rfl, rfl⟩; (first | rw [HX.out] | rw [HY.out] | rw [HZ.out] | rw [HSI.out])) | (go_at_call 14; (with_reducible refine (less_any _ _ _).mono ?_); rintro e w' ⟨rfl, rfl⟩; (first | rw [HG1.out] | rw [HG2.out] | rw [HL.out])) | (go_at_call 28; (with_reducible refine (isInf_any _ _).mono ?_); rintro e w' ⟨rfl, rfl⟩; rw [HI.out]) | (go_at_call 16; (with_reducible refine (awake_any _).mono ?_); rintro e w' ⟨rfl, hb⟩))
            go_ret
            exact ⟨rfl, hb⟩
      · have hsi : s = 9218868437227405312 := by omega
        have HSI := Lib.hid (hsi ▸ inf_right.1 : rightB s = false)
        have HI := Lib.hid (hsi ▸ inf_right.2 : infB s = true)
        clear hsi
        clear hc hsl
        cases hz : rightB a2
        · have HZ := Lib.hid hz
          clear hz
          go_enter Try.func8, Try.ntmps8
          go_wp2_with (first | (go_at_call 17; (with_reducible refine (add_nat _ _ (by assumption) (by assumption) _).mono ?_); rintro e w' ⟨rfl, rfl⟩; (first | rw [HS.out] | rw [HSW.out] | skip)) | (go_at_call 12; (with_reducible refine (right_any _ _).mono ?_); rintro e w' ⟨rfl, rfl⟩; (first | rw [HX.out] | rw [HY.out] | rw [HZ.out] | rw [HSI.out])) | (go_at_call 14; (with_reducible refine (less_any _ _ _).mono ?_); rintro e w' ⟨rfl, rfl⟩; (first | rw [HG1.out] | rw [HG2.out])) | (go_at_call 28; (with_reducible refine (isInf_any _ _).mono ?_); rintro e w' ⟨rfl, rfl⟩; rw [HI.out]) | (go_at_call 16; (with_reducible refine (awake_any _).mono ?_); rintro e w' ⟨rfl, hb⟩))
          go_ret
          exact ⟨rfl, hb⟩
        · cases hl : lessB a2 a1
          · have HM := Lib.hid (HGM.out hz hl)
            have HL := Lib.hid hl
            have HZ := Lib.hid hz
            clear hz hl
            go_enter Try.func8, Try.ntmps8
            go_wp2_with (first | (go_at_call 17; (with_reducible refine (add_nat _ _ (by assumption) (by assumption) _).mono ?_); rintro e w' ⟨rfl, rfl⟩; (first | rw [HS.out] | rw [HSW.out] | skip)) | (go_at_call 12; (with_reducible refine (right_any _ _).mono ?_); rintro e w' ⟨rfl, rfl⟩; (first | rw [HX.out] | rw [HY.out] | rw [HZ.out] | rw [HSI.out])) | (go_at_call 14; (with_reducible refine (less_any _ _ _).mono ?_); rintro e w' ⟨rfl, rfl⟩; (first | rw [HG1.out] | rw [HG2.out] | rw [HL.out] | rw [HM.out])) | (go_at_call 28; (with_reducible refine (isInf_any _ _).mono ?_); rintro e w' ⟨rfl, rfl⟩; rw [HI.out]) | (go_at_call 16; (with_reducible refine (awake_any _).mono ?_); rintro e w' ⟨rfl, hb⟩))
            go_ret
            exact ⟨rfl, hb⟩
          · have HL := Lib.hid hl
            have HZ := Lib.hid hz
            clear hz hl
            go_enter Try.func8, Try.ntmps8
            go_wp2_with (first | (go_at_call 17; (with_reducible refine (add_nat _ _ (by assumption) (by assumption) _).mono ?_); rintro e w' ⟨rfl, rfl⟩; (first | rw [HS.out] | rw [HSW.out] | skip)) | (go_at_call 12; (with_reducible refine (right_any _ _).mono ?_); rintro e w' ⟨rfl, rfl⟩; (first | rw [HX.out] | rw [HY.out] | rw [HZ.out] | rw [HSI.out])) | (go_at_call 14; (with_reducible refine (less_any _ _ _).mono ?_); rintro e w' ⟨rfl, rfl⟩; (first | rw [HG1.out] | rw [HG2.out] | rw [HL.out])) | (go_at_call 28; (with_reducible refine (isInf_any _ _).mono ?_); rintro e w' ⟨rfl, rfl⟩; rw [HI.out]) | (go_at_call 16; (with_reducible refine (awake_any _).mono ?_); rintro e w' ⟨rfl, hb⟩))
            go_ret
            exact ⟨rfl, hb⟩

/-! ### The row -/
set_option maxRecDepth 100000 in
theorem lifted (os : Os) (started : os.Started) (H : Type) (enc : TypeId × Value → H) :
    ReturnsInHanded {} Try.checked os 8 .any (Rows.costGrowsSpec.pre6 enc Try.prog Try.f8 Rows.costGrowsRow.domain false) (Rows.costGrowsSpec.post enc Try.prog Try.f8 false true false false) := by
  refine returnsInHanded_of_change_sized (C := Try.checked) own started (by kernel_rfl) Try.func8
    (ChangeSpec.witness6 (enc := enc) (C := Try.checked) false ⟨#[], #[.int .u64 0, .int .u64 0, .int .u64 0], []⟩ 8 (by kernel_rfl) (by kernel_rfl) (by kernel_rfl) (by kernel_rfl)) ?_
  intro W base args ds gs before hval0 hW hcnd hsz _
  have hval : ∀ (j : Nat) t v, Try.f8.params[j]? = some t → args[j]? = some v → Value.okWide Try.prog W .any base t v := hval0
  have hW' := hW
  obtain ⟨p, q, hA0, hV, rfl, hfz, hnd⟩ := hW
  have hA : DataW.TrodAll enc Try.prog W 0 (fun _ => true) true Try.f8.params.toList args.toList ds p := hA0
  rw [Try.params8] at hA hval hsz
  obtain ⟨v0, vs0, d0, ds0, p0, q0, hargs, rfl, rfl, h0, r0⟩ := trodAll_cons hA
  obtain ⟨v1, vs1, d1, ds1, p1, q1, rfl, rfl, rfl, h1, r1⟩ := trodAll_cons r0
  obtain ⟨v2, vs2, d2, ds2, p2, q2, rfl, rfl, rfl, h2, r2⟩ := trodAll_cons r1
  obtain ⟨rfl, rfl, rfl⟩ := trodAll_nil r2
  obtain rfl : args = #[v0, v1, v2] := by cases args; simp_all
  obtain ⟨rfl, rfl⟩ := trodVars_none hV
  obtain ⟨a0, rfl, rfl, rfl, w0⟩ := open_int Try.underlying22 (hval 0 22 v0 rfl rfl) h0
  obtain ⟨n0, rfl, b0⟩ := nat_u64 w0
  obtain ⟨a1, rfl, rfl, rfl, w1⟩ := open_int Try.underlying22 (hval 1 22 v1 rfl rfl) h1
  obtain ⟨n1, rfl, b1⟩ := nat_u64 w1
  obtain ⟨a2, rfl, rfl, rfl, w2⟩ := open_int Try.underlying22 (hval 2 22 v2 rfl rfl) h2
  obtain ⟨n2, rfl, b2⟩ := nat_u64 w2
  clear hA0 hval0
  refine (walk n0 b0 n1 b1 n2 b2 W ).mono fun e W' ⟨he, bel⟩ => ?_
  subst he
  exact ⟨_, rfl, _, _, _, [], _, [], hW', trodAll_mk1 (shut_bool Try.underlying4 _), (trodAll_cons_mk (shut_int Try.underlying22 w0) (trodAll_cons_mk (shut_int Try.underlying22 w1) (trodAll_cons_mk (shut_int Try.underlying22 w2) trodAll_mk0))), rfl, bel.frame _, fun h => by cases h⟩

theorem over : Rows.costGrowsRow.holds Try.pinned (OpenSpec.ofChange Rows.costGrowsSpec) :=
  OpenClaim.holds_of_wide 8 Try.f8 rfl rfl rfl rfl rfl rfl rfl ⟨rfl, rfl, rfl, rfl, rfl⟩ rfl rfl rfl rfl rfl (by kernel_rfl) Try.func8 (by kernel_rfl)
    (of_decide_eq_true (by kernel_rfl)) (by unfold Func.isWrapper; first | (rw [if_pos (by decide +kernel)]; kernel_rfl) | (rw [if_neg (by decide +kernel)]; exact ⟨rfl, rfl⟩))
    (fun os started H enc _ => lifted os started H enc)

/-- The statement. -/
theorem proved : Rows.CostGrowsSaid := over
#print axioms proved
end Go.Proofs.Yteilgnjjfebogaa.costGrows
