import Derived.Test.YteilgnjjfebogaaProg
import Derived.Test.YteilgnjjfebogaaF
import Derived.WalkKit
import Derived.WalkLawsBesides
import Derived.Lib.Hide
import Derived.KernelRfl
namespace Go.Proofs.Yteilgnjjfebogaa
set_option linter.unusedVariables false
set_option linter.unusedSimpArgs false
open Go.RowKit

@[go_sem] theorem run_frombits (n : Int) (w : World) : (callFunc 11 #[.int .u64 n]).run Try.prog w = .ok (.value (.float .f64 n.toNat)) w :=
  run_callFunc_extern (fn := Try.f11) (e := Extern.MathFloatBits.float64frombits) rfl (by kernel_rfl) (by kernel_rfl) (by kernel_rfl) (by kernel_rfl) _ _
@[go_sem] theorem run_tobits (n : Nat) (w : World) : (callFunc 18 #[.float .f64 n]).run Try.prog w = .ok (.value (.int .u64 n)) w :=
  run_callFunc_extern (fn := Try.f18) (e := Extern.MathFloatBits.float64bits) rfl (by kernel_rfl) (by kernel_rfl) (by kernel_rfl) (by kernel_rfl) _ _

theorem less_any (a b : Nat) (w : World) : Calls Try.prog 14 #[.float .f64 a, .float .f64 b] w fun e w' => e = .returned (.bool (lessB a b)) ∧ w = w' := by
  unfold lessB fO
  by_cases h1 : FloatKind.f64.format.order a b = some .lt <;> by_cases h2 : FloatKind.f64.format.order a a = some .eq <;>
  · go_enter Try.func14, Try.ntmps14
    go_wp2
    go_ret
    simp [h1, h2]

theorem isInf_any (a : Nat) (w : World) : Calls Try.prog 28 #[.float .f64 a, .int .i64 1] w fun e w' => e = .returned (.bool (infB a)) ∧ w = w' := by
  go_enter Try.func28, Try.ntmps28
  go_wp2
  go_ret
  exact ⟨rfl, rfl⟩

theorem right_any (a : Nat) (w : World) : Calls Try.prog 12 #[.float .f64 a] w fun e w' => e = .returned (.bool (rightB a)) ∧ w = w' := by
  unfold rightB fO
  by_cases h1 : (FloatKind.f64.format.order a 0 == some Ordering.gt || FloatKind.f64.format.order a 0 == some Ordering.eq) = true
  · rw [h1]
    go_enter Try.func12, Try.ntmps12
    go_wp2_with (go_at_call 28; refine (isInf_any _ _).mono ?_; rintro e w' ⟨rfl, rfl⟩)
    go_ret
    simp
  · have h1' : (FloatKind.f64.format.order a 0 == some Ordering.gt || FloatKind.f64.format.order a 0 == some Ordering.eq) = false := by simpa using h1
    rw [h1']
    clear h1
    go_enter Try.func12, Try.ntmps12
    go_wp2_with (go_at_call 28; refine (isInf_any _ _).mono ?_; rintro e w' ⟨rfl, rfl⟩)
    go_ret
    simp

theorem inf_any (w : World) : Calls Try.prog 30 #[.int .i64 1] w fun e w' => e = .returned (.float .f64 9218868437227405312) ∧ w = w' := by
  go_enter Try.func30, Try.ntmps30
  go_wp2
  go_ret
  exact ⟨rfl, rfl⟩

theorem add_any (a b : Nat) (w : World) (hs : rightB a = true → rightB b = true → FloatKind.f64.format.add a b = some (sumN a b)) :
    Calls Try.prog 17 #[.float .f64 a, .float .f64 b] w fun e w' => e = .returned (.float .f64 (addN a b)) ∧ w = w' := by
  unfold addN fO
  cases ha : rightB a with
  | false =>
    have HA := Lib.hid ha; clear ha hs
    go_enter Try.func17, Try.ntmps17
    go_wp2_with (first | (go_at_call 12; refine (right_any _ _).mono ?_; rintro e w' ⟨rfl, rfl⟩; rw [HA.out]) | (go_at_call 30; refine (inf_any _).mono ?_; rintro e w' ⟨rfl, rfl⟩))
    go_ret
    simp
  | true =>
    cases hb : rightB b with
    | false =>
      have HA := Lib.hid ha; have HB := Lib.hid hb; clear ha hb hs
      go_enter Try.func17, Try.ntmps17
      go_wp2_with (first | (go_at_call 12; refine (right_any _ _).mono ?_; rintro e w' ⟨rfl, rfl⟩; (first | rw [HA.out] | rw [HB.out])) | (go_at_call 30; refine (inf_any _).mono ?_; rintro e w' ⟨rfl, rfl⟩))
      go_ret
      simp
    | true =>
      have hs' := fun (t : TypeId) w => run_float_arith (P := Try.prog) w .add t .f64 a b _ (hs ha hb)
      have HA := Lib.hid ha; have HB := Lib.hid hb; clear ha hb hs
      by_cases hz : FloatKind.f64.format.order (sumN a b) 0 = some .eq
      · go_enter Try.func17, Try.ntmps17
        go_wp2_with (first | (go_at_call 12; refine (right_any _ _).mono ?_; rintro e w' ⟨rfl, rfl⟩; (first | rw [HA.out] | rw [HB.out])) | (simp only [hs']))
        go_ret
        simp [hz]
      · have hz' : (FloatKind.f64.format.order (sumN a b) 0 != some Ordering.eq) = true := by simpa using hz
        clear hz
        go_enter Try.func17, Try.ntmps17
        go_wp2_with (first | (go_at_call 12; refine (right_any _ _).mono ?_; rintro e w' ⟨rfl, rfl⟩; (first | rw [HA.out] | rw [HB.out])) | (simp only [hs']))
        go_ret
        simp [hz']

theorem key_any (a : Int) (h0 : 0 ≤ a) (h1 : a ≤ 18446744073709551615) (w : World) : Calls Try.prog 29 #[.int .u64 a] w fun e w' => e = .returned (.int .i64 (keyI a)) ∧ w = w' := by
  unfold keyI
  go_enter Try.func29, Try.ntmps29
  go_wp2
  all_goals (go_ret; simp_all)

theorem rright_any (a : Int) (h0 : 0 ≤ a) (h1 : a ≤ 18446744073709551615) (w : World) : Calls Try.prog 13 #[.int .u64 a] w fun e w' => e = .returned (.bool (rrightB a)) ∧ w = w' := by
  unfold rrightB
  go_enter Try.func13, Try.ntmps13
  go_wp2
  all_goals (go_ret; simp_all)
theorem rless_any (a b : Int) (h0 : 0 ≤ a) (h1 : a ≤ 18446744073709551615) (h2 : 0 ≤ b) (h3 : b ≤ 18446744073709551615) (w : World) : Calls Try.prog 15 #[.int .u64 a, .int .u64 b] w fun e w' => e = .returned (.bool (decide (keyI a < keyI b))) ∧ w = w' := by
  go_enter Try.func15, Try.ntmps15
  go_wp2_with (go_at_call 29; refine (key_any _ (by assumption) (by assumption) _).mono ?_; rintro e w' ⟨rfl, rfl⟩)
  all_goals (go_ret; simp_all)
theorem ret_two {k : IntKind} {a b c d : Int} (h : a = c) (h' : b = d) : Ending.returned (.tuple #[.int k a, .int k b]) = .returned (.tuple #[.int k c, .int k d]) := by rw [h, h']
theorem ret_int {k : IntKind} {a b : Int} (h : a = b) : Ending.returned (.int k a) = .returned (.int k b) := by rw [h]
theorem whole_any (a : Int) (h0 : 0 ≤ a) (h1 : a ≤ 18446744073709551615) (w : World) : Calls Try.prog 31 #[.int .u64 a] w fun e w' => e = .returned (.tuple #[.int .u64 (wholeM a), .int .u64 (wholeE a)]) ∧ w = w' := by
  have hm : a % 9223372036854775808 % 4503599627370496 = a % 4503599627370496 := by omega
  unfold wholeM wholeE
  by_cases h : a % 9223372036854775808 / 4503599627370496 = 0
  · rw [if_pos h, if_pos h]
    have h' : (a % 9223372036854775808 / 4503599627370496 == 0) = true := by simpa using h
    have HH := Lib.hid hm
    clear h hm
    go_enter Try.func31, Try.ntmps31
    go_wp2
    go_ret2
    exact ⟨ret_two HH.out rfl, rfl⟩
  · rw [if_neg h, if_neg h]
    have h' : (a % 9223372036854775808 / 4503599627370496 == 0) = false := by simpa using h
    have HH := Lib.hid hm
    clear h hm
    go_enter Try.func31, Try.ntmps31
    go_wp2
    go_ret2
    exact ⟨ret_two rfl rfl, rfl⟩
theorem wrap_u64_in (x : Int) (h0 : 0 ≤ x) (h : x ≤ 18446744073709551615) : IntKind.u64.wrap x = x := by
  rw [IntKind.wrap_u64]; omega
theorem down_lt (a : Int) (k : Nat) (h0 : 0 ≤ a) (h1 : a ≤ 18446744073709551615) (h : ¬ (a / 2 ^ k * 2 ^ k = a)) : a / 2 ^ k + 1 ≤ 18446744073709551615 := by
  cases k with
  | zero => simp at h
  | succ k =>
    have hp : (0 : Int) < 2 ^ k := by exact_mod_cast Nat.two_pow_pos k
    have : a / 2 ^ (k + 1) ≤ a / 2 := by
      rw [Int.pow_succ, Int.mul_comm, ← Int.ediv_ediv_of_nonneg (by omega)]
      exact Int.ediv_le_self _ (by omega)
    omega
theorem down_any (a b : Int) (h0 : 0 ≤ a) (h1 : a ≤ 18446744073709551615) (h2 : 0 ≤ b) (h3 : b ≤ 18446744073709551615) (w : World) : Calls Try.prog 32 #[.int .u64 a, .int .u64 b] w fun e w' => e = .returned (.int .u64 (downI a b)) ∧ w = w' := by
  have hq := div_mul_le_self a b.toNat h0
  have hw : IntKind.u64.wrap (a / 2 ^ b.toNat * 2 ^ b.toNat) = a / 2 ^ b.toNat * 2 ^ b.toNat := wrap_u64_in _ hq.1 (by omega)
  have hl := down_lt a b.toNat h0 h1
  have hn : 0 ≤ a / 2 ^ b.toNat := Int.ediv_nonneg h0 (Int.le_of_lt (by exact_mod_cast Nat.two_pow_pos b.toNat))
  have ht : (a / 2 ^ b.toNat).tmod 2 = (a / 2 ^ b.toNat) % 2 := Int.tmod_eq_emod_of_nonneg hn
  have HW := Lib.hid hw
  have HL := Lib.hid hl
  have HN := Lib.hid hn
  have HT := Lib.hid ht
  clear hq hw hl hn ht
  go_enter Try.func32, Try.ntmps32
  go_wp2
  all_goals go_ret
  · rw [downI, if_pos (by assumption), if_pos (by assumption)]; exact ⟨rfl, rfl⟩
  · rw [downI, if_pos (by assumption), if_neg (by omega)]; exact ⟨rfl, rfl⟩
  · rename_i h; rw [HW.out] at h; rw [downI, if_neg (by omega), if_neg (by simp [h])]; exact ⟨rfl, rfl⟩
  · rename_i h' h; simp only [HW.out, HT.out] at h h'; rw [downI, if_neg (by omega), if_pos ⟨h', by simpa using h.2⟩]
    have := HL.out h'; have := HN.out
    exact ⟨ret_int (wrap_u64_in _ (by omega) (by omega)), rfl⟩
  · rename_i h' h; simp only [HW.out, HT.out] at h h'; rw [downI, if_neg (by omega), if_neg (by simp_all)]; exact ⟨rfl, rfl⟩

theorem radd_ge (a b : Int) (h0 : 0 ≤ a) (h1 : a ≤ 18446744073709551615) (h2 : 0 ≤ b) (h3 : b ≤ 18446744073709551615) (w : World) (hr : rrightB a = true) (hs : rrightB b = true) (hlt : ¬ wholeE a < wholeE b) :
    Calls Try.prog 19 #[.int .u64 a, .int .u64 b] w fun e w' => e = .returned (.int .u64 (raddT (wholeM a) (wholeM b) (wholeE a) (wholeE b))) ∧ w = w' := by
  have HR := Lib.hid hr
  have HS := Lib.hid hs
  clear hr hs
  obtain ⟨a1, a2, a3, a4⟩ := whole_bd a h0 h1
  obtain ⟨b1, b2, b3, b4⟩ := whole_bd b h2 h3
  obtain ⟨d1, d2⟩ := down_bd (wholeM b * 1024) (wholeE a - wholeE b) (by omega) (by omega)
  obtain ⟨g1, g2⟩ := down_bd (wholeM a * 1024 + downI (wholeM b * 1024) (wholeE a - wholeE b)) 1 (by omega) (by omega)
  go_enter Try.func19, Try.ntmps19
  go_wp2_with (first | (go_at_call 13; refine (rright_any _ (by assumption) (by assumption) _).mono ?_; rintro e w' ⟨rfl, rfl⟩; (first | rw [HR.out] | rw [HS.out])) | (go_at_call 31; refine (whole_any _ (by assumption) (by assumption) _).mono ?_; rintro e w' ⟨rfl, rfl⟩) | (go_at_call 32; refine (down_any _ _ (by omega) (by omega) (by omega) (by omega) _).mono ?_; rintro e w' ⟨rfl, rfl⟩))
  all_goals go_ret
  all_goals (refine ⟨ret_int ?_, rfl⟩)
  all_goals (try simp only [beq_iff_eq, bne_iff_ne, Bool.and_eq_true, Bool.or_eq_true, decide_eq_true_eq, Bool.and_eq_false_iff, Bool.or_eq_false_iff, decide_eq_false_iff_not, beq_eq_false_iff_ne] at *)
  all_goals (simp only [raddT, raddO, raddQ, raddS])
  all_goals ((repeat' split) <;> omega)

theorem radd_lt (a b : Int) (h0 : 0 ≤ a) (h1 : a ≤ 18446744073709551615) (h2 : 0 ≤ b) (h3 : b ≤ 18446744073709551615) (w : World) (hr : rrightB a = true) (hs : rrightB b = true) (hlt : wholeE a < wholeE b) :
    Calls Try.prog 19 #[.int .u64 a, .int .u64 b] w fun e w' => e = .returned (.int .u64 (raddT (wholeM b) (wholeM a) (wholeE b) (wholeE a))) ∧ w = w' := by
  have HR := Lib.hid hr
  have HS := Lib.hid hs
  clear hr hs
  obtain ⟨a1, a2, a3, a4⟩ := whole_bd a h0 h1
  obtain ⟨b1, b2, b3, b4⟩ := whole_bd b h2 h3
  obtain ⟨d1, d2⟩ := down_bd (wholeM a * 1024) (wholeE b - wholeE a) (by omega) (by omega)
  obtain ⟨g1, g2⟩ := down_bd (wholeM b * 1024 + downI (wholeM a * 1024) (wholeE b - wholeE a)) 1 (by omega) (by omega)
  go_enter Try.func19, Try.ntmps19
  go_wp2_with (first | (go_at_call 13; refine (rright_any _ (by assumption) (by assumption) _).mono ?_; rintro e w' ⟨rfl, rfl⟩; (first | rw [HR.out] | rw [HS.out])) | (go_at_call 31; refine (whole_any _ (by assumption) (by assumption) _).mono ?_; rintro e w' ⟨rfl, rfl⟩) | (go_at_call 32; refine (down_any _ _ (by omega) (by omega) (by omega) (by omega) _).mono ?_; rintro e w' ⟨rfl, rfl⟩))
  all_goals go_ret
  all_goals (refine ⟨ret_int ?_, rfl⟩)
  all_goals (try simp only [beq_iff_eq, bne_iff_ne, Bool.and_eq_true, Bool.or_eq_true, decide_eq_true_eq, Bool.and_eq_false_iff, Bool.or_eq_false_iff, decide_eq_false_iff_not, beq_eq_false_iff_ne] at *)
  all_goals (simp only [raddT, raddO, raddQ, raddS])
  all_goals ((repeat' split) <;> omega)

theorem radd_any (a b : Int) (h0 : 0 ≤ a) (h1 : a ≤ 18446744073709551615) (h2 : 0 ≤ b) (h3 : b ≤ 18446744073709551615) (w : World) :
    Calls Try.prog 19 #[.int .u64 a, .int .u64 b] w fun e w' => e = .returned (.int .u64 (raddI a b)) ∧ w = w' := by
  unfold raddI
  cases hr : rrightB a with
  | false =>
    rw [if_neg (by simp)]
    have HR := Lib.hid hr
    clear hr
    go_enter Try.func19, Try.ntmps19
    go_wp2_with (go_at_call 13; refine (rright_any _ (by assumption) (by assumption) _).mono ?_; rintro e w' ⟨rfl, rfl⟩; rw [HR.out])
    go_ret
    exact ⟨rfl, rfl⟩
  | true =>
    cases hs : rrightB b with
    | false =>
      rw [if_neg (by simp)]
      have HR := Lib.hid hr
      have HS := Lib.hid hs
      clear hr hs
      go_enter Try.func19, Try.ntmps19
      go_wp2_with (go_at_call 13; refine (rright_any _ (by assumption) (by assumption) _).mono ?_; rintro e w' ⟨rfl, rfl⟩; (first | rw [HR.out] | rw [HS.out]))
      go_ret
      exact ⟨rfl, rfl⟩
    | true =>
      rw [if_pos ⟨rfl, rfl⟩]
      by_cases hlt : wholeE a < wholeE b
      · rw [if_pos hlt]; exact radd_lt a b h0 h1 h2 h3 w hr hs hlt
      · rw [if_neg hlt]; exact radd_ge a b h0 h1 h2 h3 w hr hs hlt
end Go.Proofs.Yteilgnjjfebogaa
