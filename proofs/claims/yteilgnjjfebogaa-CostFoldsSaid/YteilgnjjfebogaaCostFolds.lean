/-
  Proved: droverlaw15.CostFolds returns true for every row of words and every word behind it: a row comes to what it came to ahead of its last one, and that one; what is no cost spoils it for good. No condition.
-/
import Derived.Test.YteilgnjjfebogaaN
namespace Go.Proofs.Yteilgnjjfebogaa.costFolds
open Go.Proofs.Yteilgnjjfebogaa Go.ChangeShapes Go.WideShapes Go.ChangeAt Go.RowKit
set_option linter.unusedVariables false
set_option linter.unusedSimpArgs false

theorem flts_at (l : List Nat) (k : Nat) (h : k < l.length) : (flts l l.length).getD k undef = .float .f64 (at0 l k) := by
  rw [flts_all, List.getD_eq_getElem?_getD, List.getElem?_map, List.getElem?_eq_getElem h]
  unfold at0
  simp [List.getD_eq_getElem?_getD, List.getElem?_eq_getElem h]
theorem flts_more (l : List Nat) (y : Nat) : flts l l.length ++ [Value.float .f64 y] = flts (l ++ [y]) (l ++ [y]).length := by
  rw [flts_all, flts_all, List.map_append]; rfl
theorem sumL_more (l : List Nat) (y : Nat) : sumL (l ++ [y]) = addN (sumL l) y := by
  unfold sumL; rw [List.foldl_append]; rfl
/-- Is one of the first k of the row, or y, no cost? -/
def wrB (l : List Nat) (y : Nat) : Nat → Bool
  | 0 => !rightB y
  | k + 1 => wrB l y k || !rightB (at0 l k)
theorem infB_inf : infB 9218868437227405312 = true := by decide
theorem right_inf : rightB 9218868437227405312 = false := by decide
theorem addN_bad {a b : Nat} (ha : a < 18446744073709551616) (hb : b < 18446744073709551616) (h : rightB a = false ∨ rightB b = false) : addN a b = 9218868437227405312 := by
  rw [addN_eq ha hb, if_neg (by rcases h with h | h <;> simp [h])]
theorem sum_bad (l : List Nat) (hl : lt64 l) (k : Nat) (hk : k ≤ l.length) (h : ∃ j, j < k ∧ rightB (at0 l j) = false) : sumL (l.take k) = 9218868437227405312 := by
  induction k with
  | zero => obtain ⟨j, hj, _⟩ := h; omega
  | succ k ih =>
    obtain ⟨j, hj, hr⟩ := h
    rw [sumL_snoc l k (by omega)]
    have h1 := sumL_lt _ (take_lt l hl k)
    have h2 := at0_lt l hl k
    rcases Nat.lt_or_ge j k with hjk | hjk
    · rw [ih (by omega) ⟨j, hjk, hr⟩]
      exact addN_bad (by omega) h2 (.inl right_inf)
    · obtain rfl : j = k := by omega
      exact addN_bad h1 h2 (.inr hr)
theorem wr_bad (l : List Nat) (hl : lt64 l) (y : Nat) (hy : y < 18446744073709551616) (h : wrB l y l.length = true) : infB (addN (sumL l) y) = true := by
  have key : ∀ k, wrB l y k = true → rightB y = false ∨ ∃ j, j < k ∧ rightB (at0 l j) = false := by
    intro k
    induction k with
    | zero => intro h; left; simpa [wrB] using h
    | succ k ih =>
      intro h
      simp only [wrB, Bool.or_eq_true] at h
      rcases h with h | h
      · rcases ih h with h | ⟨j, hj, hr⟩
        · exact .inl h
        · exact .inr ⟨j, by omega, hr⟩
      · exact .inr ⟨k, by omega, by simpa using h⟩
  have hs := sumL_lt l hl
  have e : addN (sumL l) y = 9218868437227405312 := by
    rcases key _ h with h | h
    · exact addN_bad hs hy (.inr h)
    · have := sum_bad l hl l.length (Nat.le_refl _) h
      rw [List.take_length] at this
      rw [this]
      exact addN_bad (by omega) hy (.inl right_inf)
  rw [e]; exact infB_inf
set_option maxHeartbeats 2000000 in
theorem walk (A0 : Option Addr) (c0 : Nat) (l0 : List Nat) (w0 : lt64 l0) (m0 : l0.length * 8 ≤ 140737488351232) (a1 : Nat) (w1 : a1 < 18446744073709551616) (w : World) (r0 : RowF w A0 l0.length (fun k => .int .u64 (at0 l0 k))) :
    Calls Try.prog 10 #[.slice A0 l0.length c0, .int .u64 a1] w fun e w' => e = .returned (.bool true) ∧ Below w.heap.size w w' := by
  have hm : l0.length ≤ 1152921504606846976 := by omega
  have HM := Lib.hid m0
  have HL : Hid (∀ x ∈ l0, x < 18446744073709551616) := w0
  have HR := Lib.hid r0
  obtain ⟨i0, hi, hz0, hz1, hz2⟩ := info_parts info23
  have hsl := sumL_lt l0 w0
  have HBAD := Lib.hid (wr_bad l0 w0 a1 w1)
  have C0 := fun w => sum_any none 0 [] (by simp) (by simp) w (fun k hk => by simp at hk)
  have e00 : sumL [] = 0 := rfl
  rw [e00, List.length_nil] at C0
  have HC0 := Lib.hid C0
  clear m0 w0 r0 e00 C0
  go_enter Try.func10, Try.ntmps10
  go_wp2_with fail
  go_at_call 21
  refine (floats_any A0 c0 l0 HM.out w HR.out).mono ?_
  rintro e wa ⟨v, rfl, hown, hb1⟩
  obtain ⟨A, c, rfl, hc, hrow, hbl⟩ := own_row hown
  have hrow2 : RowF wa A l0.length (fun k => .float .f64 (at0 l0 k)) := fun k hk => by
    obtain ⟨b, off, e1, h1⟩ := hrow k hk
    exact ⟨b, off, e1, h1.trans (congrArg some (flts_at l0 k hk))⟩
  have HR1 := Lib.hid (HR.out.below hb1)
  have HROW := Lib.hid hrow2
  have HB1 := Lib.hid hb1
  have HOWN := Lib.hid hown
  clear hown hrow hrow2 hb1 hc hbl
  go_wp2_with (first
    | (go_at_call 20; (with_reducible refine (sum_any A c l0 HL.out hm _ HROW.out).mono ?_); rintro e w' ⟨rfl, rfl⟩)
    | (at_builtin; refine wpList_append_own _ rfl _ _ 35 rfl w.heap.size 23 i0 (.float .f64 0) 1 8 Try.underlying35 hi hz0 hz1 hz2 rfl (by decide) _ _ _ rfl (HOWN.out.alloc _) ⟨wa.heap.size, 0, none⟩ 1 1 [.float .f64 a1] rfl rfl ?c1 ?c2 ?c3 ?c4 ?c5 ?_))
  case c1 => intro j u hj; match j, hj with | 0, hj => simp at hj; subst hj; simp [Addr.add]
  case c2 => intro u hu; simp at hu; subst hu; rfl
  case c3 => have := HM.out; unfold maxLen; omega
  case c4 => have := HM.out; omega
  case c5 => have := HB1.out.size; simp; omega
  intro v2 wb hown2 hgrow _
  have hlt2 := HOWN.out.lt
  have hb2 : Below w.heap.size w wb := (HB1.out.alloc HB1.out.size _).grown hgrow (by have := HB1.out.size; simp; omega) (fun g hg => (hlt2 g hg).1)
  rw [flts_more] at hown2
  have hlen : (l0 ++ [a1]).length = l0.length + 1 := by simp
  obtain ⟨A2, c2, rfl, hc2, hrow2, _⟩ := own_row hown2
  have hrow3 : RowF wb A2 (l0 ++ [a1]).length (fun k => .float .f64 (at0 (l0 ++ [a1]) k)) := fun k hk => by
    obtain ⟨b, off, e1, h1⟩ := hrow2 k (by omega)
    exact ⟨b, off, e1, h1.trans (congrArg some (flts_at (l0 ++ [a1]) k hk))⟩
  have C2 := sum_any A2 c2 (l0 ++ [a1]) (by intro x hx; rcases List.mem_append.1 hx with h | h; exact HL.out x h; simp at h; omega) (by have := HM.out; simp; omega) wb hrow3
  rw [hlen, sumL_more] at C2
  have HC2 := Lib.hid C2
  have HB2 := Lib.hid hb2
  have HRB := Lib.hid (HR.out.below hb2)
  clear C2 hb2 hown2 hgrow hlt2 hrow2 hrow3 hc2 hlen hi hz0 hz1 hz2 HOWN HROW HR1
  go_wp2_with (first
    | (go_at_call 20; (with_reducible refine HC2.out.mono ?_); rintro e w' ⟨rfl, rfl⟩)
    | (go_at_call 17; (with_reducible refine (add_nat _ _ hsl w1 _).mono ?_); rintro e w' ⟨rfl, rfl⟩)
    | (go_at_call 12; (with_reducible refine (right_any _ _).mono ?_); rintro e w' ⟨rfl, rfl⟩))
  go_loop [9, 10] (fun vw vi => ∃ k : Nat, k ≤ l0.length ∧ vi = .int .i64 k ∧ vw = .bool (wrB l0 a1 k)) (fun _ vi => l0.length - (intOf vi).toNat)
  case atStart => exact ⟨0, Nat.zero_le _, rfl, rfl⟩
  case round =>
    obtain ⟨k, hk, rfl, rfl⟩ := hrel
    by_cases hlt : k < l0.length
    · obtain ⟨b, off, rfl, hc⟩ := HRB.out k hlt
      cases hw : wrB l0 a1 k with
      | true =>
        have HW : Hid (wrB l0 a1 (k + 1) = true) := by show _ = _; simp only [wrB, hw, Bool.true_or]
        clear hw
        go_wp2
        go_round
        case rel => exact ⟨k + 1, by omega, by go_num, by rw [HW.out]⟩
        case measure => simp [intOf]; omega
      | false =>
        have HW : Hid (wrB l0 a1 (k + 1) = !rightB (at0 l0 k)) := by show _ = _; simp only [wrB, hw, Bool.false_or]
        clear hw
        go_wp2_with (go_at_call 12; (with_reducible refine (right_any _ _).mono ?_); rintro e w' ⟨rfl, rfl⟩)
        go_round
        case rel => exact ⟨k + 1, by omega, by go_num, by rw [HW.out]⟩
        case measure => simp [intOf]; omega
    · obtain rfl : k = l0.length := by omega
      cases hw : wrB l0 a1 l0.length with
      | true =>
        have HI := Lib.hid (HBAD.out hw)
        clear hw HBAD
        go_wp2_with (first
          | (go_at_call 28; (with_reducible refine (isInf_any _ _).mono ?_); rintro e w' ⟨rfl, rfl⟩; rw [HI.out])
          | (go_at_call 20; (with_reducible refine (HC0.out _).mono ?_); rintro e w' ⟨rfl, rfl⟩)
          | (go_at_call 16; (with_reducible refine (awake_any _).mono ?_); rintro e wz ⟨rfl, hb⟩))
        go_ret
        exact ⟨rfl, HB2.out.trans (hb.mono HB2.out.size)⟩
      | false =>
        clear hw HBAD
        go_wp2_with (first
          | (go_at_call 20; (with_reducible refine (HC0.out _).mono ?_); rintro e w' ⟨rfl, rfl⟩)
          | (go_at_call 16; (with_reducible refine (awake_any _).mono ?_); rintro e wz ⟨rfl, hb⟩))
        go_ret
        exact ⟨rfl, HB2.out.trans (hb.mono HB2.out.size)⟩

/-! ### The row -/
set_option maxRecDepth 100000 in
theorem lifted (os : Os) (started : os.Started) (H : Type) (enc : TypeId × Value → H) :
    ReturnsInHanded {} Try.checked os 10 .any (Rows.costFoldsSpec.pre6 enc Try.prog Try.f10 Rows.costFoldsRow.domain false) (Rows.costFoldsSpec.post enc Try.prog Try.f10 false true false false) := by
  refine returnsInHanded_of_change_sized (C := Try.checked) own started (by kernel_rfl) Try.func10
    (ChangeSpec.witness6 (enc := enc) (C := Try.checked) false ⟨#[], #[.slice none 0 0, .int .u64 0], []⟩ 8 (by kernel_rfl) (by kernel_rfl) (by kernel_rfl) (by kernel_rfl)) ?_
  intro W base args ds gs before hval0 hW hcnd hsz _
  have hval : ∀ (j : Nat) t v, Try.f10.params[j]? = some t → args[j]? = some v → Value.okWide Try.prog W .any base t v := hval0
  have hW' := hW
  obtain ⟨p, q, hA0, hV, rfl, hfz, hnd⟩ := hW
  have hA : DataW.TrodAll enc Try.prog W 0 (fun _ => true) true Try.f10.params.toList args.toList ds p := hA0
  rw [Try.params10] at hA hval hsz
  obtain ⟨v0, vs0, d0, ds0, p0, q0, hargs, rfl, rfl, h0, r0⟩ := trodAll_cons hA
  obtain ⟨v1, vs1, d1, ds1, p1, q1, rfl, rfl, rfl, h1, r1⟩ := trodAll_cons r0
  obtain ⟨rfl, rfl, rfl⟩ := trodAll_nil r1
  obtain rfl : args = #[v0, v1] := by cases args; simp_all
  obtain ⟨rfl, rfl⟩ := trodVars_none hV
  obtain ⟨a0, len0, cap0, rfl⟩ := okWide_slice Try.underlying33 (hval 0 33 v0 rfl rfl)
  have k0 := h0
  have lt0 : ∀ x ∈ p0, x.block < W.heap.size := by obtain ⟨m, hm⟩ := k0; exact DataW.trod_lt m _ _ _ hm
  obtain ⟨l0, rfl, u0, t0⟩ := row_u64 h0
  have z0 := sized_u64 (j := 0) hsz rfl rfl h0
  obtain ⟨a1, rfl, rfl, rfl, w1⟩ := open_int Try.underlying22 (hval 1 22 v1 rfl rfl) h1
  obtain ⟨n1, rfl, b1⟩ := nat_u64 w1
  clear hA0 hval0
  refine (walk a0 cap0 l0 u0 z0 n1 b1 W t0).mono fun e W' ⟨he, bel⟩ => ?_
  subst he
  exact ⟨_, rfl, _, _, _, [], _, [], hW', trodAll_mk1 (shut_bool Try.underlying4 _), (trodAll_cons_mk (Below.trod laidOut (by kernel_rfl) (of_decide_eq_true (by kernel_rfl)) k0 bel lt0) (trodAll_cons_mk (shut_int Try.underlying22 w1) trodAll_mk0)), rfl, bel.frame _, fun h => by cases h⟩

theorem over : Rows.costFoldsRow.holds Try.pinned (OpenSpec.ofChange Rows.costFoldsSpec) :=
  OpenClaim.holds_of_wide 10 Try.f10 rfl rfl rfl rfl rfl rfl rfl ⟨rfl, rfl, rfl, rfl, rfl⟩ rfl rfl rfl rfl rfl (by kernel_rfl) Try.func10 (by kernel_rfl)
    (of_decide_eq_true (by kernel_rfl)) (by unfold Func.isWrapper; first | (rw [if_pos (by decide +kernel)]; kernel_rfl) | (rw [if_neg (by decide +kernel)]; exact ⟨rfl, rfl⟩))
    (fun os started H enc _ => lifted os started H enc)

/-- The statement. -/
theorem proved : Rows.CostFoldsSaid := over
#print axioms proved
end Go.Proofs.Yteilgnjjfebogaa.costFolds
