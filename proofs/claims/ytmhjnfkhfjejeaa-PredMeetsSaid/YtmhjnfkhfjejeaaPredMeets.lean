/-
  Proved: droverlaw16.PredMeets returns true for all cubes and values: which cubes are whole, what is in them, what two ask together, and which values are picked. No condition.
-/
import Derived.Test.YtmhjnfkhfjejeaaJ1
namespace Go.Proofs.Ytmhjnfkhfjejeaa.predMeets
open Go.Proofs.Ytmhjnfkhfjejeaa Go.ChangeShapes Go.WideShapes Go.ChangeAt Go.RowKit Go.Proofs.YtmhjnfkhfjejeaaW.PrintWords Go.Proofs.YtmhjnfkhfjejeaaW.PrintLast Go.Proofs.YtmhjnfkhfjejeaaW.PrintMore
open PPredCubes
set_option linter.unusedVariables false
set_option linter.unusedSimpArgs false

theorem pickC_len (c : List S47) : (pickC c).length ≤ 100 := by
  unfold pickC; split
  · show 10 ≤ 100; decide
  · simp
set_option maxHeartbeats 8000000 in
set_option maxRecDepth 100000 in
theorem walk (A0 : Option Addr) (c0 : Nat) (l0 : List S47) (hc0 : l0.length ≤ c0) (hP0 : ∀ t ∈ l0, okT t) (A1 : Option Addr) (c1 : Nat) (l1 : List S47) (hc1 : l1.length ≤ c1) (hP1 : ∀ t ∈ l1, okT t) (A2 : Option Addr) (c2 : Nat) (l2 : List Nat) (hP2 : lt64 l2) (w : World) (hr0 : k47.C w A0 l0.length l0) (hr1 : k47.C w A1 l1.length l1) (hr2 : RowF w A2 l2.length (fun k => .int .u64 (at0 l2 k))) :
    Calls Try.prog 12 #[.slice A0 l0.length c0, .slice A1 l1.length c1, .slice A2 l2.length c2] w fun e w' => e = .returned (.bool true) ∧ Below w.heap.size w w' := by
  have HM0 : Hid (l0.length ≤ 9223372036854775807) := Lib.hid hr0.2.1
  have HM1 : Hid (l1.length ≤ 9223372036854775807) := Lib.hid hr1.2.1
  have HR := Lib.hid hr0
  have HR1 := Lib.hid hr1
  have HV := Lib.hid hr2
  have HO : Hid (okC l0) := Lib.hid hP0
  have HO1 : Hid (okC l1) := Lib.hid hP1
  have HVL := Lib.hid hP2
  have HC0 := Lib.hid hc0
  have HC1 := Lib.hid hc1
  clear hr0 hr1 hr2 hP0 hP1 hP2 hc0 hc1
  obtain ⟨wa, hwa⟩ : ∃ x, wholeC l0 = x := ⟨_, rfl⟩
  obtain ⟨wb, hwb⟩ : ∃ x, wholeC l1 = x := ⟨_, rfl⟩
  obtain ⟨ia, hia⟩ : ∃ x, inC l0 l2 = x := ⟨_, rfl⟩
  have HWA := Lib.hid hwa
  have HWB := Lib.hid hwb
  have HIA := Lib.hid hia
  clear hwa hwb hia
  go_enter Try.func12, Try.ntmps12
  go_wp2_with fail
  go_at_call 35
  refine (rwhole_any A0 c0 l0 HO.out w HR.out).mono ?_
  rintro e w1 ⟨rfl, hb⟩
  rw [HWA.out]
  have HB1 := Lib.hid hb
  clear hb
  go_wp2_with fail
  go_at_call 35
  refine (rwhole_any A1 c1 l1 HO1.out w1 (Kd.C_below HR1.out HB1.out)).mono ?_
  rintro e w2 ⟨rfl, hb⟩
  rw [HWB.out]
  have HB2 := Lib.hid (HB1.out.trans (hb.mono HB1.out.size))
  clear hb
  go_wp2_with fail
  go_at_call 16
  refine (wholec_any A0 c0 l0 HO.out w2 (Kd.C_below HR.out HB2.out)).mono ?_
  rintro e w3 ⟨rfl, hb⟩
  rw [HWA.out]
  have HB3 := Lib.hid (HB2.out.trans (hb.mono HB2.out.size))
  have hbe : (wa != wa) = false := by simp
  clear hb
  go_wp2_with fail
  go_at_call 17
  refine (inc_any A0 A2 c0 c2 l0 l2 HO.out HVL.out w3 (Kd.C_below HR.out HB3.out) (HV.out.below HB3.out)).mono ?_
  rintro e w4 ⟨rfl, hb⟩
  rw [HIA.out]
  have HB4 := Lib.hid (HB3.out.trans (hb.mono HB3.out.size))
  clear hb
  go_wp2_with fail
  go_at_call 37
  refine (rinc_any A0 A2 c0 c2 l0 l2 HO.out HVL.out w4 (Kd.C_below HR.out HB4.out) (HV.out.below HB4.out)).mono ?_
  rintro e w5 ⟨rfl, hb⟩
  rw [HIA.out]
  have HB5 := Lib.hid (HB4.out.trans (hb.mono HB4.out.size))
  have hbf : (ia != ia) = false := by simp
  clear hb
  go_wp2_with fail
  go_at_call 15
  refine (pick_any A0 c0 l0 HO.out w5 (Kd.C_below HR.out HB5.out)).mono ?_
  rintro e w6 ⟨B, d, rfl, hrow, hb⟩
  have hpl := pickC_len l0
  obtain ⟨p, hp⟩ : ∃ p, pickC l0 = p := ⟨_, rfl⟩
  have HPQ := Lib.hid hp
  rw [hp] at hrow hpl ⊢
  have HROW := Lib.hid hrow
  have HPL := Lib.hid hpl
  have HB6 := Lib.hid (HB5.out.trans (hb.mono HB5.out.size))
  clear hb hrow hp hpl
  go_wp2_with fail
  go_at_call 39
  refine (rpick_any A0 c0 l0 HO.out HC0.out w6 (Kd.C_below HR.out HB6.out)).mono ?_
  rintro e w7 ⟨B2, d2, rfl, hrow, hb⟩
  rw [HPQ.out] at hrow ⊢
  have HROW2 := Lib.hid hrow
  have HROW1 := Lib.hid (HROW.out.below hb)
  have HB7 := Lib.hid (HB6.out.trans (hb.mono HB6.out.size))
  clear hb hrow
  go_wp2_with fail
  go_at_call 38
  refine (nums_any B B2 d d2 p HPL.out w7 HROW1.out HROW2.out).mono ?_
  rintro e w8 ⟨rfl, hb⟩
  have HB8 := Lib.hid (HB7.out.trans (hb.mono HB7.out.size))
  clear hb
  go_wp2_with fail
  go_at_call 19
  refine (meetc_any A0 A1 c0 c1 l0 l1 HO.out HO1.out w8 (Kd.C_below HR.out HB8.out) (Kd.C_below HR1.out HB8.out)).mono ?_
  rintro e w9 ⟨v, rfl, hr, hb⟩
  have HB9 := Lib.hid (HB8.out.trans (hb.mono HB8.out.size))
  obtain ⟨A9, c9, ev, hle9, hC9⟩ := Kd.R_reads hr
  subst ev
  have HC9 := Lib.hid hC9
  have HLE9 := Lib.hid hle9
  clear hr hb hC9 hle9
  cases wa with
  | false =>
    have hmo := meetOk_1 (a := l0) (b := l1) HWA.out
    have hmc := meetC_no hmo
    rw [hmo]
    rw [hmc] at HC9 ⊢
    clear hmo hmc
    go_wp2_with fail
    go_at_call 13
    refine (awake_any w9).mono ?_
    rintro e w99 ⟨rfl, hb⟩
    have HB99 := Lib.hid (HB9.out.trans (hb.mono HB9.out.size))
    clear hb
    go_wp2_with fail
    go_ret
    exact ⟨rfl, HB99.out⟩
  | true =>
    cases wb with
    | false =>
      have hmo := meetOk_2 (a := l0) (b := l1) HWB.out
      have hmc := meetC_no hmo
      rw [hmo]
      rw [hmc] at HC9 ⊢
      clear hmo hmc
      go_wp2_with fail
      go_at_call 13
      refine (awake_any w9).mono ?_
      rintro e w99 ⟨rfl, hb⟩
      have HB99 := Lib.hid (HB9.out.trans (hb.mono HB9.out.size))
      clear hb
      go_wp2_with fail
      go_ret
      exact ⟨rfl, HB99.out⟩
    | true =>
      have HMF := Lib.hid (Meet_f HO.out HO1.out HWA.out HWB.out HM0.out HM1.out (l0.length + l1.length + 12) (Nat.le_refl _))
      obtain ⟨mo, hmo⟩ : ∃ x, meetOk l0 l1 = x := ⟨_, rfl⟩
      obtain ⟨mc, hmc⟩ : ∃ x, meetC l0 l1 = x := ⟨_, rfl⟩
      rw [hmo, hmc] at HMF
      rw [hmo]
      rw [hmc] at HC9 HLE9 ⊢
      have hbg : (mo == mo) = true := by simp
      clear hmo hmc
      go_wp2_with fail
      go_at_call 40
      refine (droverref16_Meet.calls (l0.length + l1.length + 12) A0 c0 l0 A1 c1 l1 mc mo w9 (Kd.C_below HR.out HB9.out) HC0.out (Kd.C_below HR1.out HB9.out) HC1.out HMF.out).mono ?_
      rintro e w10 ⟨v, rfl, hr, hb⟩
      have HB10 := Lib.hid (HB9.out.trans (hb.mono HB9.out.size))
      have HC910 := Lib.hid (Kd.C_below HC9.out hb)
      obtain ⟨A10, c10, ev, hle10, hC10⟩ := Kd.R_reads hr
      subst ev
      have HC10 := Lib.hid hC10
      have HLE10 := Lib.hid hle10
      have HSF := Lib.hid (same_f mc hC10.2.1 (mc.length + 1) (Nat.le_refl _))
      clear hr hb hC10 hle10
      go_wp2_with fail
      go_at_call 41
      refine (droverref16_SameCube.calls (mc.length + 1) A9 c9 mc A10 c10 mc true w10 HC910.out HLE9.out HC10.out HLE10.out HSF.out).mono ?_
      rintro e w11 ⟨rfl, hd⟩
      have HB11 := Lib.hid (HB10.out.trans (hd.below.mono HB10.out.size))
      clear hd
      go_wp2_with fail
      go_at_call 13
      refine (awake_any w11).mono ?_
      rintro e w99 ⟨rfl, hb⟩
      have HB99 := Lib.hid (HB11.out.trans (hb.mono HB11.out.size))
      clear hb
      go_wp2_with fail
      go_ret
      exact ⟨rfl, HB99.out⟩

/-! ### The row -/
set_option maxRecDepth 100000 in
theorem lifted (os : Os) (started : os.Started) (H : Type) (enc : TypeId × Value → H) :
    ReturnsInHanded {} Try.checked os 12 .any (Rows.predMeetsSpec.pre6 enc Try.prog Try.f12 Rows.predMeetsRow.domain false) (Rows.predMeetsSpec.post enc Try.prog Try.f12 false true false false) := by
  refine returnsInHanded_of_change_sized (C := Try.checked) own started (by kernel_rfl) Try.func12
    (ChangeSpec.witness6 (enc := enc) (C := Try.checked) false ⟨#[], #[.slice none 0 0, .slice none 0 0, .slice none 0 0], []⟩ 8 (by kernel_rfl) (by kernel_rfl) (by kernel_rfl) (by kernel_rfl)) ?_
  intro W base args ds gs before hval0 hW hcnd hsz _
  have hval : ∀ (j : Nat) t v, Try.f12.params[j]? = some t → args[j]? = some v → Value.okWide Try.prog W .any base t v := hval0
  have hW' := hW
  obtain ⟨p, q, hA0, hV, rfl, hfz, hnd⟩ := hW
  have hA : DataW.TrodAll enc Try.prog W 0 (fun _ => true) true Try.f12.params.toList args.toList ds p := hA0
  rw [Try.params12] at hA hval hsz
  obtain ⟨v0, vs0, d0, ds0, p0, q0, hargs, rfl, rfl, h0, r0⟩ := trodAll_cons hA
  obtain ⟨v1, vs1, d1, ds1, p1, q1, rfl, rfl, rfl, h1, r1⟩ := trodAll_cons r0
  obtain ⟨v2, vs2, d2, ds2, p2, q2, rfl, rfl, rfl, h2, r2⟩ := trodAll_cons r1
  obtain ⟨rfl, rfl, rfl⟩ := trodAll_nil r2
  obtain rfl : args = #[v0, v1, v2] := by cases args; simp_all
  obtain ⟨rfl, rfl⟩ := trodVars_none hV
  have k0 := h0
  have lt0 : ∀ x ∈ p0, x.block < W.heap.size := by obtain ⟨m, hm⟩ := k0; exact DataW.trod_lt m _ _ _ hm
  obtain ⟨A0, c0, l0, rfl, x0, y0, z0⟩ := open_cube (hval 0 33 v0 rfl rfl) h0
  have k1 := h1
  have lt1 : ∀ x ∈ p1, x.block < W.heap.size := by obtain ⟨m, hm⟩ := k1; exact DataW.trod_lt m _ _ _ hm
  obtain ⟨A1, c1, l1, rfl, x1, y1, z1⟩ := open_cube (hval 1 33 v1 rfl rfl) h1
  have k2 := h2
  have lt2 : ∀ x ∈ p2, x.block < W.heap.size := by obtain ⟨m, hm⟩ := k2; exact DataW.trod_lt m _ _ _ hm
  obtain ⟨A2, c2, l2, rfl, z2, y2⟩ := open_vals (hval 2 30 v2 rfl rfl) h2
  clear hA0 hval0
  refine (walk A0 c0 l0 x0 z0 A1 c1 l1 x1 z1 A2 c2 l2 z2 W y0 y1 y2).mono fun e W' ⟨he, bel⟩ => ?_
  subst he
  exact ⟨_, rfl, _, _, _, [], _, [], hW', trodAll_mk1 (shut_bool Try.underlying4 _), (trodAll_cons_mk (Below.trod laidOut (by kernel_rfl) (of_decide_eq_true (by kernel_rfl)) k0 bel lt0) (trodAll_cons_mk (Below.trod laidOut (by kernel_rfl) (of_decide_eq_true (by kernel_rfl)) k1 bel lt1) (trodAll_cons_mk (Below.trod laidOut (by kernel_rfl) (of_decide_eq_true (by kernel_rfl)) k2 bel lt2) trodAll_mk0))), rfl, bel.frame _, fun h => by cases h⟩

theorem over : Rows.predMeetsRow.holds Try.pinned (OpenSpec.ofChange Rows.predMeetsSpec) :=
  OpenClaim.holds_of_wide 12 Try.f12 rfl rfl rfl rfl rfl rfl rfl ⟨rfl, rfl, rfl, rfl, rfl⟩ rfl rfl rfl rfl rfl (by kernel_rfl) Try.func12 (by kernel_rfl)
    (of_decide_eq_true (by kernel_rfl)) (by unfold Func.isWrapper; first | (rw [if_pos (by decide +kernel)]; kernel_rfl) | (rw [if_neg (by decide +kernel)]; exact ⟨rfl, rfl⟩))
    (fun os started H enc _ => lifted os started H enc)

/-- The statement. -/
theorem proved : Rows.PredMeetsSaid := over
#print axioms proved
end Go.Proofs.Ytmhjnfkhfjejeaa.predMeets
