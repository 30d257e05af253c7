/-
  Proved: droverlaw16.PredCubes returns true for all predicates: of up to 14 nodes its cubes are the document's, or the same reason is told, and what is written into an answer is in no other. No condition.
-/
import Derived.Test.YtmhjnfkhfjejeaaZ2J4
import Derived.Test.YtmhjnfkhfjejeaaZ2F6
import Derived.Test.YtmhjnfkhfjejeaaZ2P4
namespace Go.Proofs.Ytmhjnfkhfjejeaa.predCubes
open Go.Proofs.Ytmhjnfkhfjejeaa Go.ChangeShapes Go.WideShapes Go.ChangeAt Go.RowKit Go.Proofs.YtmhjnfkhfjejeaaW.PrintWords Go.Proofs.YtmhjnfkhfjejeaaW.PrintLast Go.Proofs.YtmhjnfkhfjejeaaW.PrintMore
open PPredCubes
set_option linter.unusedVariables false
set_option linter.unusedSimpArgs false

theorem cubesL_small (ns : List S52) (j : Nat) : (atC (cubesL ns) j).length ≤ 1000 := by
  rcases cubesL_cases (ns := ns) with ⟨h1, h2⟩ | h
  · rw [cubesL_map h1 h2]; exact atC_len _ j
  · rw [h]; simp [atC]
set_option maxHeartbeats 8000000 in
set_option maxRecDepth 100000 in
theorem walk (A0 : Option Addr) (c0 : Nat) (l0 : List S52) (hc0 : l0.length ≤ c0) (hP0 : okP l0) (w : World) (hr0 : k52.C w A0 l0.length l0) :
    Calls Try.prog 7 #[.agg #[.slice A0 l0.length c0]] w fun e w' => e = .returned (.bool true) ∧ Below w.heap.size w w' := by
  have HR := Lib.hid hr0
  have HP := Lib.hid hP0
  have HC := Lib.hid hc0
  have HM : Hid (l0.length ≤ 9223372036854775807) := Lib.hid hr0.2.1
  clear hr0 hP0 hc0
  by_cases h14 : l0.length ≤ 14
  · have q0 : ¬ (14 : Int) < (l0.length : Int) := by omega
    go_enter Try.func7, Try.ntmps7
    go_wp2_with (first
      | (refine wpList_box rfl 1 rfl #[.slice A0 l0.length c0] 24 ?hr ?_; (case hr => first | (go_simp; done) | (go_simp; rfl)); intro g3 w1 hg3 k3 hb3; have K1 := Lib.hid k3; have HB1 := Lib.hid hb3; have d3 : w1.cell? ⟨g3, 0, none⟩ = some (.slice A0 l0.length c0) := blk_cell k3 0; clear hb3 k3)
      | (refine wpList_load_at rfl 24 (.tmp 1) rfl ⟨g3, 0, none⟩ rfl #[.slice A0 l0.length c0] _ (Lies.of_block K1.out) Try.underlying24 rfl info24s ?_))
    go_at_call 31
    refine (rcubes_any A0 c0 l0 HP.out w1 (Kd.C_below HR.out HB1.out) HC.out).mono ?_
    rintro e w2 ⟨v2, rfl, ⟨A2, c2, ev2, hle2, hf2⟩, hb⟩
    subst ev2
    have K2 := Lib.hid (blk_below K1.out hb)
    have HB2 := Lib.hid (HB1.out.trans (hb.mono HB1.out.size))
    have HC2 := Lib.hid (Kd.F_now hf2)
    have HLE2 := Lib.hid hle2
    have HSM := Lib.hid (fun j => cubesL_small l0 j)
    clear hb hf2 hle2 K1 HB1 hg3 d3
    go_wp2_with (refine wpList_load_at rfl 24 (.tmp 1) rfl ⟨g3, 0, none⟩ rfl #[.slice A0 l0.length c0] _ (Lies.of_block K2.out) Try.underlying24 rfl info24s ?_)
    go_at_call 14
    refine (cubes_any A0 c0 l0 HP.out w2 (Kd.C_below HR.out HB2.out) HC.out).mono ?_
    rintro e w3 ⟨v3, rfl, hr3, hb⟩
    obtain ⟨E, hE⟩ : ∃ E, cubesE l0 = E := ⟨_, rfl⟩
    have HE := Lib.hid hE
    rw [hE]
    have HQ := Lib.hid (fun (W : World) (A : Option Addr) (c : Nat) (h1 : k52.C W A l0.length l0) => cubes_any A c l0 HP.out W h1)
    rw [hE] at HQ
    obtain ⟨L, hL⟩ : ∃ L, cubesL l0 = L := ⟨_, rfl⟩
    rw [hL] at hr3 HC2 HLE2 HSM HQ ⊢
    obtain ⟨A3, c3, ev3, hle3, hC3⟩ := Kd.R_reads hr3
    subst ev3
    have hlm : L.length ≤ 9223372036854775807 := hC3.2.1
    have HLM := Lib.hid hlm
    have HR3 := Lib.hid hr3
    have HC3 := Lib.hid hC3
    have HLE3 := Lib.hid hle3
    have HB3 := Lib.hid hb
    have HC23 := Lib.hid (Kd.C_below HC2.out hb)
    have HSF := Lib.hid (sames_f L HLM.out HSM.out)
    have hee : (E == E) = true := by simp
    clear hE hL hr3 hC3 hle3 hb hlm HSM
    go_wp2_with fail
    go_at_call 32
    refine (droverref16_SameCubes.calls (L.length + 1002) A3 c3 L A2 c2 L true w3 HC3.out HLE3.out HC23.out HLE2.out HSF.out).mono ?_
    rintro e w4 ⟨rfl, hd⟩
    have HB4 := Lib.hid (HB3.out.trans (hd.below.mono HB3.out.size))
    have hm4 : MutC w2 A3 L.length w4 := MutC.of_R (Kd.R_below HR3.out hd.below) HB4.out
    have HM4 := Lib.hid hm4
    clear hd hm4 HR3 HC3 HC23
    go_wp2_with fail
    go_loopw [8] (fun vi wx => ∃ i : Nat, vi = .int .i64 i ∧ i ≤ L.length ∧ Hid (MutC w2 A3 L.length wx)) (fun vi _ => L.length - (intOf vi).toNat)
    case atStart => exact ⟨0, rfl, by omega, HM4⟩
    case round =>
      obtain ⟨wx, rfl⟩ : ∃ wx : World, wx = wr := ⟨_, rfl⟩
      obtain ⟨i, rfl, hi, HX⟩ := hrel
      clear HM4
      have hmx : L.length ≤ 9223372036854775807 := HLM.out
      by_cases hil : i < L.length
      · obtain ⟨g, B, m, d, rfl, x4, hm, -⟩ := HX.out.at_ hil
        have q9 : (i : Int) < (L.length : Int) := by omega
        go_wp2_with fail
        go_loopw [9] (fun vj wy => ∃ j : Nat, vj = .int .i64 j ∧ j ≤ m ∧ Hid (MutC w2 (some ⟨g, 0, none⟩) L.length wy) ∧ Hid (wy.cell? ⟨g, i, none⟩ = some (.slice B m d))) (fun vj _ => m - (intOf vj).toNat)
        case atStart => exact ⟨0, rfl, by omega, HX, Lib.hid x4⟩
        case round =>
          clear x4
          obtain ⟨wy, rfl⟩ : ∃ wy : World, wy = wr := ⟨_, rfl⟩
          obtain ⟨j, rfl, hj, HX, HX4⟩ := hrel
          obtain ⟨g', B', m', d', eg, x4', hm', hin⟩ := HX.out.at_ hil
          injection eg with eg
          injection eg with eg _ _
          subst eg
          have x4 := HX4.out
          rw [x4] at x4'
          injection x4' with x4'
          injection x4' with e1 e2 e3
          subst e1 e2 e3
          by_cases hjm : j < m
          · obtain ⟨b, e1, ⟨y0, hy0⟩, ⟨y1, hy1⟩, ⟨y2, hy2⟩, hfz, hset⟩ := hin j hjm
            subst e1
            have q10 : (j : Int) < (m : Int) := by omega
            have f0 := hfz (j * 3)
            have f1 := hfz (j * 3 + 1)
            have f2 := hfz (j * 3 + 2)
            have hset' := hset (.int .i64 77) (.int .u64 0) (.int .u64 0)
            have HX' := Lib.hid hset'.1
            have HX4' := Lib.hid (hset'.2 _ _ HX4.out)
            clear hin hfz hset hset' HX HX4
            go_wp2_with fail
            go_roundw
            case rel => exact ⟨j + 1, by go_num, by omega, HX', HX4'⟩
            case measure => simp [intOf] <;> omega
          · obtain rfl : j = m := by omega
            clear hin HX4
            go_wp2_with fail
            go_roundw
            case rel => exact ⟨i + 1, by go_num, by omega, HX⟩
            case measure => simp [intOf] <;> omega
      · obtain rfl : i = L.length := by omega
        have HBX := Lib.hid HX.out.below
        have K5 := Lib.hid (blk_below K2.out HBX.out)
        have HB5 := Lib.hid (HB2.out.trans (HBX.out.mono HB2.out.size))
        have HC5 := Lib.hid (Kd.C_below HC2.out HBX.out)
        clear HX HBX K2 HC2
        go_wp2_with (refine wpList_load_at rfl 24 (.tmp 1) rfl ⟨g3, 0, none⟩ rfl #[.slice A0 l0.length c0] _ (Lies.of_block K5.out) Try.underlying24 rfl info24s ?_)
        go_at_call 14
        refine (HQ.out wx A0 c0 (Kd.C_below HR.out HB5.out) HC.out).mono ?_
        rintro e w6 ⟨v6, rfl, hr6, hb⟩
        obtain ⟨A6, c6, ev6, hle6, hC6⟩ := Kd.R_reads hr6
        subst ev6
        have HC6 := Lib.hid hC6
        have HLE6 := Lib.hid hle6
        have HB6 := Lib.hid (HB5.out.trans (hb.mono HB5.out.size))
        have HC56 := Lib.hid (Kd.C_below HC5.out hb)
        clear hr6 hC6 hle6 hb
        go_wp2_with fail
        go_at_call 32
        refine (droverref16_SameCubes.calls (L.length + 1002) A6 c6 L A2 c2 L true w6 HC6.out HLE6.out HC56.out HLE2.out HSF.out).mono ?_
        rintro e w7 ⟨rfl, hd⟩
        have HB7 := Lib.hid (HB6.out.trans (hd.below.mono HB6.out.size))
        clear hd
        go_wp2_with fail
        go_at_call 13
        refine (awake_any w7).mono ?_
        rintro e w99 ⟨rfl, hb⟩
        have HB99 := Lib.hid (HB7.out.trans (hb.mono HB7.out.size))
        clear hb
        go_wp2_with fail
        go_ret
        exact ⟨rfl, HB99.out⟩
  · have q0 : (14 : Int) < (l0.length : Int) := by omega
    go_enter Try.func7, Try.ntmps7
    go_wp2_with (first
      | (refine wpList_box rfl 1 rfl #[.slice A0 l0.length c0] 24 ?hr ?_; (case hr => first | (go_simp; done) | (go_simp; rfl)); intro g3 w1 hg3 k3 hb3; have K1 := Lib.hid k3; have HB1 := Lib.hid hb3; have d3 : w1.cell? ⟨g3, 0, none⟩ = some (.slice A0 l0.length c0) := blk_cell k3 0; clear hb3 k3)
      | (refine wpList_load_at rfl 24 (.tmp 1) rfl ⟨g3, 0, none⟩ rfl #[.slice A0 l0.length c0] _ (Lies.of_block K1.out) Try.underlying24 rfl info24s ?_))
    go_at_call 13
    refine (awake_any w1).mono ?_
    rintro e w99 ⟨rfl, hb⟩
    have HB99 := Lib.hid (HB1.out.trans (hb.mono HB1.out.size))
    clear hb
    go_wp2_with fail
    go_ret
    exact ⟨rfl, HB99.out⟩

/-! ### The row -/
set_option maxRecDepth 100000 in
theorem lifted (os : Os) (started : os.Started) (H : Type) (enc : TypeId × Value → H) :
    ReturnsInHanded {} Try.checked os 7 .any (Rows.predCubesSpec.pre6 enc Try.prog Try.f7 Rows.predCubesRow.domain false) (Rows.predCubesSpec.post enc Try.prog Try.f7 false true false false) := by
  refine returnsInHanded_of_change_sized (C := Try.checked) own started (by kernel_rfl) Try.func7
    (ChangeSpec.witness6 (enc := enc) (C := Try.checked) false ⟨#[], #[.agg #[.slice none 0 0]], []⟩ 8 (by kernel_rfl) (by kernel_rfl) (by kernel_rfl) (by kernel_rfl)) ?_
  intro W base args ds gs before hval0 hW hcnd hsz _
  have hval : ∀ (j : Nat) t v, Try.f7.params[j]? = some t → args[j]? = some v → Value.okWide Try.prog W .any base t v := hval0
  have hW' := hW
  obtain ⟨p, q, hA0, hV, rfl, hfz, hnd⟩ := hW
  have hA : DataW.TrodAll enc Try.prog W 0 (fun _ => true) true Try.f7.params.toList args.toList ds p := hA0
  rw [Try.params7] at hA hval hsz
  obtain ⟨v0, vs0, d0, ds0, p0, q0, hargs, rfl, rfl, h0, r0⟩ := trodAll_cons hA
  obtain ⟨rfl, rfl, rfl⟩ := trodAll_nil r0
  obtain rfl : args = #[v0] := by cases args; simp_all
  obtain ⟨rfl, rfl⟩ := trodVars_none hV
  have k0 := h0
  have lt0 : ∀ x ∈ p0, x.block < W.heap.size := by obtain ⟨m, hm⟩ := k0; exact DataW.trod_lt m _ _ _ hm
  obtain ⟨A0, c0, l0, rfl, x0, y0, z0⟩ := open_pred (hval 0 24 v0 rfl rfl) h0
  clear hA0 hval0
  refine (walk A0 c0 l0 x0 z0 W y0).mono fun e W' ⟨he, bel⟩ => ?_
  subst he
  exact ⟨_, rfl, _, _, _, [], _, [], hW', trodAll_mk1 (shut_bool Try.underlying4 _), (trodAll_cons_mk (Below.trod laidOut (by kernel_rfl) (of_decide_eq_true (by kernel_rfl)) k0 bel lt0) trodAll_mk0), rfl, bel.frame _, fun h => by cases h⟩

theorem over : Rows.predCubesRow.holds Try.pinned (OpenSpec.ofChange Rows.predCubesSpec) :=
  OpenClaim.holds_of_wide 7 Try.f7 rfl rfl rfl rfl rfl rfl rfl ⟨rfl, rfl, rfl, rfl, rfl⟩ rfl rfl rfl rfl rfl (by kernel_rfl) Try.func7 (by kernel_rfl)
    (of_decide_eq_true (by kernel_rfl)) (by unfold Func.isWrapper; first | (rw [if_pos (by decide +kernel)]; kernel_rfl) | (rw [if_neg (by decide +kernel)]; exact ⟨rfl, rfl⟩))
    (fun os started H enc _ => lifted os started H enc)

/-- The statement. -/
theorem proved : Rows.PredCubesSaid := over
#print axioms proved
end Go.Proofs.Ytmhjnfkhfjejeaa.predCubes
