/-
  Proved: droverlaw15.CostSums returns true for every row of words: what a row comes to, to the last bit. No condition.
-/
import Derived.Test.YteilgnjjfebogaaN
namespace Go.Proofs.Yteilgnjjfebogaa.costSums
open Go.Proofs.Yteilgnjjfebogaa Go.ChangeShapes Go.WideShapes Go.ChangeAt Go.RowKit
set_option linter.unusedVariables false
set_option linter.unusedSimpArgs false

theorem flts_at (l : List Nat) (k : Nat) (h : k < l.length) : (flts l l.length).getD k undef = .float .f64 (at0 l k) := by
  rw [flts_all, List.getD_eq_getElem?_getD, List.getElem?_map, List.getElem?_eq_getElem h]
  unfold at0
  simp [List.getD_eq_getElem?_getD, List.getElem?_eq_getElem h]
set_option maxHeartbeats 1000000 in
theorem walk (A0 : Option Addr) (c0 : Nat) (l0 : List Nat) (w0 : lt64 l0) (m0 : l0.length * 8 ≤ 140737488351232) (w : World) (r0 : RowF w A0 l0.length (fun k => .int .u64 (at0 l0 k))) :
    Calls Try.prog 5 #[.slice A0 l0.length c0] w fun e w' => e = .returned (.bool true) ∧ Below w.heap.size w w' := by
  have hm : l0.length ≤ 1152921504606846976 := by omega
  have HM := Lib.hid m0
  have HL : Hid (∀ x ∈ l0, x < 18446744073709551616) := w0
  have HR := Lib.hid r0
  clear m0 w0 r0
  go_enter Try.func5, Try.ntmps5
  go_wp2_with fail
  go_at_call 21
  refine (floats_any A0 c0 l0 HM.out w HR.out).mono ?_
  rintro e w1 ⟨v, rfl, hown, hb1⟩
  obtain ⟨A, c, rfl, hc, hrow, _⟩ := own_row hown
  have hrow2 : RowF w1 A l0.length (fun k => .float .f64 (at0 l0 k)) := fun k hk => by
    obtain ⟨b, off, e1, h1⟩ := hrow k hk
    exact ⟨b, off, e1, h1.trans (congrArg some (flts_at l0 k hk))⟩
  have HR1 := Lib.hid (HR.out.below hb1)
  have HROW := Lib.hid hrow2
  have HB1 := Lib.hid hb1
  clear hown hrow hrow2 hb1 hc
  go_wp2_with (first
    | (go_at_call 20; (with_reducible refine (sum_any A c l0 HL.out hm _ HROW.out).mono ?_); rintro e w' ⟨rfl, rfl⟩)
    | (go_at_call 22; (with_reducible refine (rsum_any A0 c0 l0 HL.out hm _ HR1.out).mono ?_); rintro e w' ⟨rfl, rfl⟩)
    | (go_at_call 16; (with_reducible refine (awake_any _).mono ?_); rintro e w2 ⟨rfl, hb2⟩))
  go_ret
  exact ⟨rfl, HB1.out.trans (hb2.mono HB1.out.size)⟩

/-! ### The row -/
set_option maxRecDepth 100000 in
theorem lifted (os : Os) (started : os.Started) (H : Type) (enc : TypeId × Value → H) :
    ReturnsInHanded {} Try.checked os 5 .any (Rows.costSumsSpec.pre6 enc Try.prog Try.f5 Rows.costSumsRow.domain false) (Rows.costSumsSpec.post enc Try.prog Try.f5 false true false false) := by
  refine returnsInHanded_of_change_sized (C := Try.checked) own started (by kernel_rfl) Try.func5
    (ChangeSpec.witness6 (enc := enc) (C := Try.checked) false ⟨#[], #[.slice none 0 0], []⟩ 8 (by kernel_rfl) (by kernel_rfl) (by kernel_rfl) (by kernel_rfl)) ?_
  intro W base args ds gs before hval0 hW hcnd hsz _
  have hval : ∀ (j : Nat) t v, Try.f5.params[j]? = some t → args[j]? = some v → Value.okWide Try.prog W .any base t v := hval0
  have hW' := hW
  obtain ⟨p, q, hA0, hV, rfl, hfz, hnd⟩ := hW
  have hA : DataW.TrodAll enc Try.prog W 0 (fun _ => true) true Try.f5.params.toList args.toList ds p := hA0
  rw [Try.params5] at hA hval hsz
  obtain ⟨v0, vs0, d0, ds0, p0, q0, hargs, rfl, rfl, h0, r0⟩ := trodAll_cons hA
  obtain ⟨rfl, rfl, rfl⟩ := trodAll_nil r0
  obtain rfl : args = #[v0] := by cases args; simp_all
  obtain ⟨rfl, rfl⟩ := trodVars_none hV
  obtain ⟨a0, len0, cap0, rfl⟩ := okWide_slice Try.underlying33 (hval 0 33 v0 rfl rfl)
  have k0 := h0
  have lt0 : ∀ x ∈ p0, x.block < W.heap.size := by obtain ⟨m, hm⟩ := k0; exact DataW.trod_lt m _ _ _ hm
  obtain ⟨l0, rfl, u0, t0⟩ := row_u64 h0
  have z0 := sized_u64 (j := 0) hsz rfl rfl h0
  clear hA0 hval0
  refine (walk a0 cap0 l0 u0 z0 W t0).mono fun e W' ⟨he, bel⟩ => ?_
  subst he
  exact ⟨_, rfl, _, _, _, [], _, [], hW', trodAll_mk1 (shut_bool Try.underlying4 _), (trodAll_cons_mk (Below.trod laidOut (by kernel_rfl) (of_decide_eq_true (by kernel_rfl)) k0 bel lt0) trodAll_mk0), rfl, bel.frame _, fun h => by cases h⟩

theorem over : Rows.costSumsRow.holds Try.pinned (OpenSpec.ofChange Rows.costSumsSpec) :=
  OpenClaim.holds_of_wide 5 Try.f5 rfl rfl rfl rfl rfl rfl rfl ⟨rfl, rfl, rfl, rfl, rfl⟩ rfl rfl rfl rfl rfl (by kernel_rfl) Try.func5 (by kernel_rfl)
    (of_decide_eq_true (by kernel_rfl)) (by unfold Func.isWrapper; first | (rw [if_pos (by decide +kernel)]; kernel_rfl) | (rw [if_neg (by decide +kernel)]; exact ⟨rfl, rfl⟩))
    (fun os started H enc _ => lifted os started H enc)

/-- The statement. -/
theorem proved : Rows.CostSumsSaid := over
#print axioms proved
end Go.Proofs.Yteilgnjjfebogaa.costSums
