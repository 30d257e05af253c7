/-
  Proved: droverlaw16.PredCuts returns true for all cubes: what is left of a cube without another is the document's, cube by cube; nothing where one is not whole. No condition.
-/
import Derived.Test.YtmhjnfkhfjejeaaZ2J1
import Derived.Test.YtmhjnfkhfjejeaaZ2P9
import Derived.Test.YtmhjnfkhfjejeaaZ2H2
namespace Go.Proofs.Ytmhjnfkhfjejeaa.predCuts
open Go.Proofs.Ytmhjnfkhfjejeaa Go.ChangeShapes Go.WideShapes Go.ChangeAt Go.RowKit Go.Proofs.YtmhjnfkhfjejeaaW.PrintWords Go.Proofs.YtmhjnfkhfjejeaaW.PrintLast Go.Proofs.YtmhjnfkhfjejeaaW.PrintMore
open PPredCubes
set_option linter.unusedVariables false
set_option linter.unusedSimpArgs false

theorem cuts_none {a b : List S47} (h : (wholeC a && wholeC b) = false) : (cutC a b).map cubeL = [] := by rw [cutC_no h]; rfl
theorem cuts_yes {a b : List S47} (h1 : wholeC a = true) (h2 : wholeC b = true) : (cutL (boxC a) (boxC b)).map cubeL = (cutC a b).map cubeL := by unfold cutC; rw [h1, h2]; rfl
set_option maxHeartbeats 8000000 in
set_option maxRecDepth 100000 in
theorem walk (A0 : Option Addr) (c0 : Nat) (l0 : List S47) (hc0 : l0.length ≤ c0) (hP0 : ∀ t ∈ l0, okT t) (A1 : Option Addr) (c1 : Nat) (l1 : List S47) (hc1 : l1.length ≤ c1) (hP1 : ∀ t ∈ l1, okT t) (w : World) (hr0 : k47.C w A0 l0.length l0) (hr1 : k47.C w A1 l1.length l1) :
    Calls Try.prog 9 #[.slice A0 l0.length c0, .slice A1 l1.length c1] w fun e w' => e = .returned (.bool true) ∧ Below w.heap.size w w' := by
  have HM0 : Hid (l0.length ≤ 9223372036854775807) := Lib.hid hr0.2.1
  have HM1 : Hid (l1.length ≤ 9223372036854775807) := Lib.hid hr1.2.1
  have HR := Lib.hid hr0
  have HR1 := Lib.hid hr1
  have HO : Hid (okC l0) := Lib.hid hP0
  have HO1 : Hid (okC l1) := Lib.hid hP1
  have HC0 := Lib.hid hc0
  have HC1 := Lib.hid hc1
  clear hr0 hr1 hP0 hP1 hc0 hc1
  obtain ⟨wa, hwa⟩ : ∃ x, wholeC l0 = x := ⟨_, rfl⟩
  obtain ⟨wb, hwb⟩ : ∃ x, wholeC l1 = x := ⟨_, rfl⟩
  have HWA := Lib.hid hwa
  have HWB := Lib.hid hwb
  clear hwa hwb
  go_enter Try.func9, Try.ntmps9
  go_wp2_with fail
  go_at_call 24
  refine (cutl_any A0 A1 c0 c1 l0 l1 HO.out HO1.out w HR.out HR1.out).mono ?_
  rintro e w1 ⟨v, rfl, hr, hb⟩
  have hal : ∀ j, (atC ((cutC l0 l1).map cubeL) j).length ≤ 1000 := fun j => atC_len (cutC l0 l1) j
  obtain ⟨L, hL⟩ : ∃ L, (cutC l0 l1).map cubeL = L := ⟨_, rfl⟩
  rw [hL] at hr hal
  obtain ⟨A9, c9, ev, hle9, hC9⟩ := Kd.R_reads hr
  subst ev
  have HLQ := Lib.hid hL
  have HAL := Lib.hid hal
  have HC9 := Lib.hid hC9
  have HLE9 := Lib.hid hle9
  have HLM : Hid (L.length ≤ 9223372036854775807) := Lib.hid hC9.2.1
  have HB1 := Lib.hid hb
  clear hb hr hle9 hC9 hL hal
  go_wp2_with fail
  go_at_call 35
  refine (rwhole_any A0 c0 l0 HO.out w1 (Kd.C_below HR.out HB1.out)).mono ?_
  rintro e w2 ⟨rfl, hb⟩
  rw [HWA.out]
  have HB2 := Lib.hid (HB1.out.trans (hb.mono HB1.out.size))
  have HC92 := Lib.hid (Kd.C_below HC9.out hb)
  clear hb HC9
  cases wa with
  | false =>
    obtain rfl : L = [] := HLQ.out.symm.trans (cuts_none (by rw [HWA.out]; rfl))
    go_wp2_with fail
    go_at_call 13
    refine (awake_any w2).mono ?_
    rintro e w99 ⟨rfl, hb⟩
    have HB99 := Lib.hid (HB2.out.trans (hb.mono HB2.out.size))
    clear hb
    go_wp2_with fail
    go_ret
    exact ⟨rfl, HB99.out⟩
  | true =>
    go_wp2_with fail
    go_at_call 35
    refine (rwhole_any A1 c1 l1 HO1.out w2 (Kd.C_below HR1.out HB2.out)).mono ?_
    rintro e w3 ⟨rfl, hb⟩
    rw [HWB.out]
    have HB3 := Lib.hid (HB2.out.trans (hb.mono HB2.out.size))
    have HC93 := Lib.hid (Kd.C_below HC92.out hb)
    clear hb HC92
    cases wb with
    | false =>
      obtain rfl : L = [] := HLQ.out.symm.trans (cuts_none (by rw [HWA.out, HWB.out]; rfl))
      go_wp2_with fail
      go_at_call 13
      refine (awake_any w3).mono ?_
      rintro e w99 ⟨rfl, hb⟩
      have HB99 := Lib.hid (HB3.out.trans (hb.mono HB3.out.size))
      clear hb
      go_wp2_with fail
      go_ret
      exact ⟨rfl, HB99.out⟩
    | true =>
      obtain ⟨K, hK⟩ := (cut_ev HO.out HO1.out HWA.out HWB.out HM0.out HM1.out).at_
      rw [cuts_yes HWA.out HWB.out, HLQ.out] at hK
      have HK := Lib.hid hK
      clear hK
      go_wp2_with fail
      go_at_call 36
      refine (droverref16_Cut.calls K (fun _ => True) A0 c0 l0 A1 c1 l1 L w3 (Kd.V_mk HC0.out (Kd.F_mono (Kd.C_F k47_heap (Kd.C_below HR.out HB3.out)) (fun _ _ => trivial))) (Kd.C_below HR1.out HB3.out) HC1.out HK.out).mono ?_
      rintro e w4 ⟨v, rfl, hr, hb⟩
      have HB4 := Lib.hid (HB3.out.trans (hb.mono HB3.out.size))
      have HC94 := Lib.hid (Kd.C_below HC93.out hb)
      obtain ⟨A10, c10, ev⟩ := Kd.N_slice hr
      subst ev
      have hle10 := (Kd.N_reads' hr).2.1
      have hC10 := (Kd.N_reads' hr).2.2
      have HC10 := Lib.hid hC10
      have HLE10 := Lib.hid hle10
      have HSF := Lib.hid (sames_f L HLM.out HAL.out)
      clear hr hb hC10 hle10
      go_wp2_with fail
      go_at_call 32
      refine (droverref16_SameCubes.calls (L.length + 1002) A9 c9 L A10 c10 L true w4 HC94.out HLE9.out HC10.out HLE10.out HSF.out).mono ?_
      rintro e w5 ⟨rfl, hd⟩
      have HB5 := Lib.hid (HB4.out.trans (hd.below.mono HB4.out.size))
      clear hd
      go_wp2_with fail
      go_at_call 13
      refine (awake_any w5).mono ?_
      rintro e w99 ⟨rfl, hb⟩
      have HB99 := Lib.hid (HB5.out.trans (hb.mono HB5.out.size))
      clear hb
      go_wp2_with fail
      go_ret
      exact ⟨rfl, HB99.out⟩

/-! ### The row -/
set_option maxRecDepth 100000 in
theorem lifted (os : Os) (started : os.Started) (H : Type) (enc : TypeId × Value → H) :
    ReturnsInHanded {} Try.checked os 9 .any (Rows.predCutsSpec.pre6 enc Try.prog Try.f9 Rows.predCutsRow.domain false) (Rows.predCutsSpec.post enc Try.prog Try.f9 false true false false) := by
  refine returnsInHanded_of_change_sized (C := Try.checked) own started (by kernel_rfl) Try.func9
    (ChangeSpec.witness6 (enc := enc) (C := Try.checked) false ⟨#[], #[.slice none 0 0, .slice none 0 0], []⟩ 8 (by kernel_rfl) (by kernel_rfl) (by kernel_rfl) (by kernel_rfl)) ?_
  intro W base args ds gs before hval0 hW hcnd hsz _
  have hval : ∀ (j : Nat) t v, Try.f9.params[j]? = some t → args[j]? = some v → Value.okWide Try.prog W .any base t v := hval0
  have hW' := hW
  obtain ⟨p, q, hA0, hV, rfl, hfz, hnd⟩ := hW
  have hA : DataW.TrodAll enc Try.prog W 0 (fun _ => true) true Try.f9.params.toList args.toList ds p := hA0
  rw [Try.params9] at hA hval hsz
  obtain ⟨v0, vs0, d0, ds0, p0, q0, hargs, rfl, rfl, h0, r0⟩ := trodAll_cons hA
  obtain ⟨v1, vs1, d1, ds1, p1, q1, rfl, rfl, rfl, h1, r1⟩ := trodAll_cons r0
  obtain ⟨rfl, rfl, rfl⟩ := trodAll_nil r1
  obtain rfl : args = #[v0, v1] := by cases args; simp_all
  obtain ⟨rfl, rfl⟩ := trodVars_none hV
  have k0 := h0
  have lt0 : ∀ x ∈ p0, x.block < W.heap.size := by obtain ⟨m, hm⟩ := k0; exact DataW.trod_lt m _ _ _ hm
  obtain ⟨A0, c0, l0, rfl, x0, y0, z0⟩ := open_cube (hval 0 33 v0 rfl rfl) h0
  have k1 := h1
  have lt1 : ∀ x ∈ p1, x.block < W.heap.size := by obtain ⟨m, hm⟩ := k1; exact DataW.trod_lt m _ _ _ hm
  obtain ⟨A1, c1, l1, rfl, x1, y1, z1⟩ := open_cube (hval 1 33 v1 rfl rfl) h1
  clear hA0 hval0
  refine (walk A0 c0 l0 x0 z0 A1 c1 l1 x1 z1 W y0 y1).mono fun e W' ⟨he, bel⟩ => ?_
  subst he
  exact ⟨_, rfl, _, _, _, [], _, [], hW', trodAll_mk1 (shut_bool Try.underlying4 _), (trodAll_cons_mk (Below.trod laidOut (by kernel_rfl) (of_decide_eq_true (by kernel_rfl)) k0 bel lt0) (trodAll_cons_mk (Below.trod laidOut (by kernel_rfl) (of_decide_eq_true (by kernel_rfl)) k1 bel lt1) trodAll_mk0)), rfl, bel.frame _, fun h => by cases h⟩

theorem over : Rows.predCutsRow.holds Try.pinned (OpenSpec.ofChange Rows.predCutsSpec) :=
  OpenClaim.holds_of_wide 9 Try.f9 rfl rfl rfl rfl rfl rfl rfl ⟨rfl, rfl, rfl, rfl, rfl⟩ rfl rfl rfl rfl rfl (by kernel_rfl) Try.func9 (by kernel_rfl)
    (of_decide_eq_true (by kernel_rfl)) (by unfold Func.isWrapper; first | (rw [if_pos (by decide +kernel)]; kernel_rfl) | (rw [if_neg (by decide +kernel)]; exact ⟨rfl, rfl⟩))
    (fun os started H enc _ => lifted os started H enc)

/-- The statement. -/
theorem proved : Rows.PredCutsSaid := over
#print axioms proved
end Go.Proofs.Ytmhjnfkhfjejeaa.predCuts
