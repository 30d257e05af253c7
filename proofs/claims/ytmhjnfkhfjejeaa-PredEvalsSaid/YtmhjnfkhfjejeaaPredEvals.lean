/-
  Proved: droverlaw16.PredEvals returns true for every predicate and every row of values: which predicates are right, and what they say of values. No condition.
-/
import Derived.Test.YtmhjnfkhfjejeaaG7
namespace Go.Proofs.Ytmhjnfkhfjejeaa.predEvals
open Go.Proofs.Ytmhjnfkhfjejeaa Go.ChangeShapes Go.WideShapes Go.ChangeAt Go.RowKit Go.Proofs.YtmhjnfkhfjejeaaW.PrintWords Go.Proofs.YtmhjnfkhfjejeaaW.PrintLast Go.Proofs.YtmhjnfkhfjejeaaW.PrintMore
open PPredCubes
set_option linter.unusedVariables false
set_option linter.unusedSimpArgs false

set_option maxHeartbeats 4000000 in
set_option maxRecDepth 100000 in
theorem walk (A0 : Option Addr) (c0 : Nat) (l0 : List S52) (hc0 : l0.length ≤ c0) (hP0 : okP l0) (A1 : Option Addr) (c1 : Nat) (l1 : List Nat) (hP1 : lt64 l1) (w : World) (hr0 : k52.C w A0 l0.length l0) (hr1 : RowF w A1 l1.length (fun k => .int .u64 (at0 l1 k))) :
    Calls Try.prog 5 #[.agg #[.slice A0 l0.length c0], .slice A1 l1.length c1] w fun e w' => e = .returned (.bool true) ∧ Below w.heap.size w w' := by
  have HR := Lib.hid hr0
  have HV := Lib.hid hr1
  have HP := Lib.hid hP0
  have HC := Lib.hid hc0
  have HVL := Lib.hid hP1
  clear hr0 hr1 hP0 hc0 hP1
  go_enter Try.func5, Try.ntmps5
  go_wp2_with (refine wpList_box rfl 2 rfl #[.slice A0 l0.length c0] 24 ?hr ?_; (case hr => first | (go_simp; done) | (go_simp; rfl)); intro g w1 hg k1 hb1; have HI1 := Lib.hid (At24.mk hb1 k1); have d1 := HI1.out.cell; clear hb1 k1)
  have HC22 : Hid (∀ W, At24 w g (.slice A0 l0.length c0) W → Calls Try.prog 22 #[.agg #[.slice A0 l0.length c0]] W fun e w' => e = .returned (.bool (rightB l0)) ∧ At24 w g (.slice A0 l0.length c0) w') := Lib.hid fun W hW =>
    (right_any A0 c0 l0 HP.out W (Kd.C_below HR.out hW.below) HC.out).mono fun e w' h => ⟨h.1, hW.step h.2⟩
  have HC25 : Hid (∀ W, At24 w g (.slice A0 l0.length c0) W → Calls Try.prog 25 #[.agg #[.slice A0 l0.length c0]] W fun e w' => e = .returned (.bool (rightB l0)) ∧ At24 w g (.slice A0 l0.length c0) w') := Lib.hid fun W hW =>
    (rright_any A0 c0 l0 HP.out W (Kd.C_below HR.out hW.below) HC.out).mono fun e w' h => ⟨h.1, hW.step h.2⟩
  have HC18 : Hid (∀ W, At24 w g (.slice A0 l0.length c0) W → Calls Try.prog 18 #[.agg #[.slice A0 l0.length c0], .slice A1 l1.length c1] W fun e w' => e = .returned (.bool (evalB l0 l1)) ∧ At24 w g (.slice A0 l0.length c0) w') := Lib.hid fun W hW =>
    (eval_any A0 A1 c0 c1 l0 l1 HP.out HVL.out W (Kd.C_below HR.out hW.below) HC.out (HV.out.below hW.below)).mono fun e w' h => ⟨h.1, hW.step h.2⟩
  have HC26 : Hid (∀ W, At24 w g (.slice A0 l0.length c0) W → Calls Try.prog 26 #[.agg #[.slice A0 l0.length c0], .slice A1 l1.length c1] W fun e w' => e = .returned (.bool (evalB l0 l1)) ∧ At24 w g (.slice A0 l0.length c0) w') := Lib.hid fun W hW =>
    (reval_any A0 A1 c0 c1 l0 l1 HP.out HVL.out W (Kd.C_below HR.out hW.below) HC.out (HV.out.below hW.below)).mono fun e w' h => ⟨h.1, hW.step h.2⟩
  have HC13 : Hid (∀ W, At24 w g (.slice A0 l0.length c0) W → Calls Try.prog 13 #[] W fun e w' => e = .returned (.bool true) ∧ At24 w g (.slice A0 l0.length c0) w') := Lib.hid fun W hW =>
    (awake_any W).mono fun e w' h => ⟨h.1, hW.step h.2⟩
  obtain ⟨rb, hrb⟩ : ∃ rb, rightB l0 = rb := ⟨_, rfl⟩
  obtain ⟨eb, heb⟩ : ∃ eb, evalB l0 l1 = eb := ⟨_, rfl⟩
  rw [hrb] at HC22 HC25
  rw [heb] at HC18 HC26
  clear hrb heb hg
  go_region_with (first
    | (go_at_call 22; refine (HC22.out _ ?hW).mono ?_; (case hW => repeat (first | exact HI1.out | refine At24.drew ?_)); rintro e w2 ⟨rfl, hi⟩; have HI2 := Lib.hid hi; have d2 := hi.cell; clear hi)
    | (go_at_call 25; refine (HC25.out _ ?hW).mono ?_; (case hW => repeat (first | exact HI2.out | refine At24.drew ?_)); rintro e w3 ⟨rfl, hi⟩; have HI3 := Lib.hid hi; have d3 := hi.cell; clear hi)
    | (go_at_call 18; refine (HC18.out _ ?hW).mono ?_; (case hW => repeat (first | exact HI3.out | refine At24.drew ?_)); rintro e w4 ⟨rfl, hi⟩; have HI4 := Lib.hid hi; have d4 := hi.cell; clear hi)
    | (go_at_call 26; refine (HC26.out _ ?hW).mono ?_; (case hW => repeat (first | exact HI4.out | refine At24.drew ?_)); rintro e w5 ⟨rfl, hi⟩; have HI5 := Lib.hid hi; have d5 := hi.cell; clear hi)
    | (go_at_call 13; refine (HC13.out _ ?hW).mono ?_; (case hW => repeat (first | exact HI5.out | refine At24.drew ?_)); rintro e w6 ⟨rfl, hi⟩; have HI6 := Lib.hid hi; clear hi))
  all_goals
    go_wp2_with fail
    go_ret
    exact ⟨rfl, HI6.out.below⟩

/-! ### The row -/
set_option maxRecDepth 100000 in
theorem lifted (os : Os) (started : os.Started) (H : Type) (enc : TypeId × Value → H) :
    ReturnsInHanded {} Try.checked os 5 .any (Rows.predEvalsSpec.pre6 enc Try.prog Try.f5 Rows.predEvalsRow.domain false) (Rows.predEvalsSpec.post enc Try.prog Try.f5 false true false false) := by
  refine returnsInHanded_of_change_sized (C := Try.checked) own started (by kernel_rfl) Try.func5
    (ChangeSpec.witness6 (enc := enc) (C := Try.checked) false ⟨#[], #[.agg #[.slice none 0 0], .slice none 0 0], []⟩ 8 (by kernel_rfl) (by kernel_rfl) (by kernel_rfl) (by kernel_rfl)) ?_
  intro W base args ds gs before hval0 hW hcnd hsz _
  have hval : ∀ (j : Nat) t v, Try.f5.params[j]? = some t → args[j]? = some v → Value.okWide Try.prog W .any base t v := hval0
  have hW' := hW
  obtain ⟨p, q, hA0, hV, rfl, hfz, hnd⟩ := hW
  have hA : DataW.TrodAll enc Try.prog W 0 (fun _ => true) true Try.f5.params.toList args.toList ds p := hA0
  rw [Try.params5] at hA hval hsz
  obtain ⟨v0, vs0, d0, ds0, p0, q0, hargs, rfl, rfl, h0, r0⟩ := trodAll_cons hA
  obtain ⟨v1, vs1, d1, ds1, p1, q1, rfl, rfl, rfl, h1, r1⟩ := trodAll_cons r0
  obtain ⟨rfl, rfl, rfl⟩ := trodAll_nil r1
  obtain rfl : args = #[v0, v1] := by cases args; simp_all
  obtain ⟨rfl, rfl⟩ := trodVars_none hV
  have k0 := h0
  have lt0 : ∀ x ∈ p0, x.block < W.heap.size := by obtain ⟨m, hm⟩ := k0; exact DataW.trod_lt m _ _ _ hm
  obtain ⟨A0, c0, l0, rfl, x0, y0, z0⟩ := open_pred (hval 0 24 v0 rfl rfl) h0
  have k1 := h1
  have lt1 : ∀ x ∈ p1, x.block < W.heap.size := by obtain ⟨m, hm⟩ := k1; exact DataW.trod_lt m _ _ _ hm
  obtain ⟨A1, c1, l1, rfl, z1, y1⟩ := open_vals (hval 1 30 v1 rfl rfl) h1
  clear hA0 hval0
  refine (walk A0 c0 l0 x0 z0 A1 c1 l1 z1 W y0 y1).mono fun e W' ⟨he, bel⟩ => ?_
  subst he
  exact ⟨_, rfl, _, _, _, [], _, [], hW', trodAll_mk1 (shut_bool Try.underlying4 _), (trodAll_cons_mk (Below.trod laidOut (by kernel_rfl) (of_decide_eq_true (by kernel_rfl)) k0 bel lt0) (trodAll_cons_mk (Below.trod laidOut (by kernel_rfl) (of_decide_eq_true (by kernel_rfl)) k1 bel lt1) trodAll_mk0)), rfl, bel.frame _, fun h => by cases h⟩

theorem over : Rows.predEvalsRow.holds Try.pinned (OpenSpec.ofChange Rows.predEvalsSpec) :=
  OpenClaim.holds_of_wide 5 Try.f5 rfl rfl rfl rfl rfl rfl rfl ⟨rfl, rfl, rfl, rfl, rfl⟩ rfl rfl rfl rfl rfl (by kernel_rfl) Try.func5 (by kernel_rfl)
    (of_decide_eq_true (by kernel_rfl)) (by unfold Func.isWrapper; first | (rw [if_pos (by decide +kernel)]; kernel_rfl) | (rw [if_neg (by decide +kernel)]; exact ⟨rfl, rfl⟩))
    (fun os started H enc _ => lifted os started H enc)

/-- The statement. -/
theorem proved : Rows.PredEvalsSaid := over
#print axioms proved
end Go.Proofs.Ytmhjnfkhfjejeaa.predEvals
