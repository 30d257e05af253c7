/-
  Proved: droverlaw16.PredParts returns true for every predicate (of up to 30 nodes) and all values: its cubes are its parts, of any values just one cube has them in it where the predicate is true, none elsewhere. No condition.
-/
import Derived.Test.YtmhjnfkhfjejeaaP3
namespace Go.Proofs.Ytmhjnfkhfjejeaa.predParts
open Go.Proofs.Ytmhjnfkhfjejeaa Go.ChangeShapes Go.WideShapes Go.ChangeAt Go.RowKit Go.Proofs.YtmhjnfkhfjejeaaW.PrintWords Go.Proofs.YtmhjnfkhfjejeaaW.PrintLast Go.Proofs.YtmhjnfkhfjejeaaW.PrintMore
open PPredCubes
set_option linter.unusedVariables false
set_option linter.unusedSimpArgs false

theorem parts_sum {ns : List S52} (hP : okP ns) (hR : rightB ns = true) (hO : boxesOk ns = true) (x : List Nat) : cntC (cubesL ns) x (cubesL ns).length = if evalB ns x then 1 else 0 := by
  obtain ⟨h1, h2⟩ := boxes_parts hP hR hO x
  rw [cubesL_map hR hO, cntC_all h1, h2]
theorem cubes_ok {ns : List S52} (hP : okP ns) (hR : rightB ns = true) (hO : boxesOk ns = true) : (∀ k, okC (atC (cubesL ns) k)) ∧ (cubesL ns).length ≤ 128 := by
  obtain ⟨h1, -⟩ := boxes_parts hP hR hO []
  refine ⟨fun k => ?_, ?_⟩
  · rw [cubesL_map hR hO]
    rcases Nat.lt_or_ge k (boxesL ns).length with h | h
    · rw [atC_map _ h]; exact cubeL_ok (NbL_at h1 k)
    · unfold atC
      rw [List.getD_eq_getElem?_getD, List.getElem?_eq_none (by simpa using h)]
      intro t ht; cases ht
  · rw [cubesL_map hR hO, List.length_map]; exact boxesL_len ns
set_option maxHeartbeats 8000000 in
set_option maxRecDepth 100000 in
theorem walk (A0 : Option Addr) (c0 : Nat) (l0 : List S52) (hc0 : l0.length ≤ c0) (hP0 : okP l0) (A1 : Option Addr) (c1 : Nat) (l1 : List Nat) (hP1 : lt64 l1) (w : World) (hr0 : k52.C w A0 l0.length l0) (hr1 : RowF w A1 l1.length (fun k => .int .u64 (at0 l1 k))) :
    Calls Try.prog 10 #[.agg #[.slice A0 l0.length c0], .slice A1 l1.length c1] w fun e w' => e = .returned (.bool true) ∧ Below w.heap.size w w' := by
  have HM : Hid (l0.length ≤ 9223372036854775807) := Lib.hid hr0.2.1
  have HR := Lib.hid hr0
  have HV := Lib.hid hr1
  have HP := Lib.hid hP0
  have HC := Lib.hid hc0
  have HVL := Lib.hid hP1
  clear hr0 hr1 hP0 hc0 hP1
  by_cases h30 : l0.length ≤ 30
  · have q0 : ¬ (30 : Int) < (l0.length : Int) := by omega
    go_enter Try.func10, Try.ntmps10
    go_wp2_with (first
      | (refine wpList_box rfl 2 rfl #[.slice A0 l0.length c0] 24 ?hr ?_; (case hr => first | (go_simp; done) | (go_simp; rfl)); intro g w1 hg k1 hb1; have K1 := Lib.hid k1; have HB1 := Lib.hid hb1; have d1 : w1.cell? ⟨g, 0, none⟩ = some (.slice A0 l0.length c0) := blk_cell k1 0; clear hb1 k1)
      | (refine wpList_load_at rfl 24 (.tmp 2) rfl ⟨g, 0, none⟩ rfl #[.slice A0 l0.length c0] _ (Lies.of_block K1.out) Try.underlying24 rfl info24s ?_))
    go_at_call 14
    refine (cubes_any A0 c0 l0 HP.out w1 (Kd.C_below HR.out HB1.out) HC.out).mono ?_
    rintro e w2 ⟨v, rfl, hr, hb⟩
    have HB2 := Lib.hid (HB1.out.trans (hb.mono HB1.out.size))
    have K2 := Lib.hid (blk_below K1.out hb)
    have d2 : w2.cell? ⟨g, 0, none⟩ = some (.slice A0 l0.length c0) := blk_cell K2.out 0
    obtain ⟨A5, c5, ev, -, hC5⟩ := Kd.R_reads hr
    subst ev
    have HC5 := Lib.hid hC5
    clear hr hb hC5 d1 hg K1
    cases hrt : rightB l0 with
    | false =>
      have e1 : cubesE l0 = 1 := by unfold cubesE; rw [hrt]; rfl
      have e2 : cubesL l0 = [] := by unfold cubesL; rw [hrt]; rfl
      rw [e1, e2]
      have HRT := Lib.hid hrt
      clear e1 e2 hrt
      go_wp2_with fail
      go_at_call 22
      refine (right_any A0 c0 l0 HP.out w2 (Kd.C_below HR.out HB2.out) HC.out).mono ?_
      rintro e w3 ⟨rfl, hb⟩
      have HB3 := Lib.hid (HB2.out.trans (hb.mono HB2.out.size))
      rw [HRT.out]
      clear hb
      go_wp2_with fail
      go_at_call 13
      refine (awake_any w3).mono ?_
      rintro e w4 ⟨rfl, hb⟩
      have HB4 := Lib.hid (HB3.out.trans (hb.mono HB3.out.size))
      clear hb
      go_wp2_with fail
      go_ret
      exact ⟨rfl, HB4.out⟩
    | true =>
      cases hbo : boxesOk l0 with
      | false =>
        have e1 : cubesE l0 = 44 := by unfold cubesE; rw [hrt, hbo]; rfl
        have e2 : cubesL l0 = [] := by unfold cubesL; rw [hrt, hbo]; rfl
        rw [e1, e2]
        have HRT := Lib.hid hrt
        clear e1 e2 hrt hbo
        go_wp2_with fail
        go_at_call 22
        refine (right_any A0 c0 l0 HP.out w2 (Kd.C_below HR.out HB2.out) HC.out).mono ?_
        rintro e w3 ⟨rfl, hb⟩
        have HB3 := Lib.hid (HB2.out.trans (hb.mono HB2.out.size))
        rw [HRT.out]
        clear hb
        go_wp2_with fail
        go_at_call 13
        refine (awake_any w3).mono ?_
        rintro e w4 ⟨rfl, hb⟩
        have HB4 := Lib.hid (HB3.out.trans (hb.mono HB3.out.size))
        clear hb
        go_wp2_with fail
        go_ret
        exact ⟨rfl, HB4.out⟩
      | true =>
        have e1 : cubesE l0 = 0 := by unfold cubesE; rw [hrt, hbo]; rfl
        rw [e1]
        have HSUM := Lib.hid (parts_sum HP.out hrt hbo l1)
        obtain ⟨hok, hlen⟩ := cubes_ok HP.out hrt hbo
        obtain ⟨cl, hcl⟩ : ∃ cl, cubesL l0 = cl := ⟨_, rfl⟩
        rw [hcl] at HC5 HSUM hok hlen ⊢
        have HOK := Lib.hid hok
        clear e1 hrt hbo hcl hok
        go_wp2_with fail
        go_loopw [7, 8] (fun v7 vk wr => ∃ k : Nat, vk = .int .i64 k ∧ k ≤ cl.length ∧ v7 = .int .i64 (cntC cl l1 k : Int) ∧ Below w2.heap.size w2 wr) (fun _ vk _ => cl.length - (intOf vk).toNat)
        case atStart => exact ⟨0, rfl, by omega, rfl, Below.refl _ _⟩
        case round =>
          obtain ⟨k, rfl, hk, rfl, hw⟩ := hrel
          have HW := Lib.hid hw
          have hle := cntC_le cl l1 k
          clear hw
          by_cases hlt : k < cl.length
          · obtain ⟨ad, A6, c6, rfl, h6, -, hC6⟩ := rd33 (Kd.C_below HC5.out HW.out) hlt
            have HC6 := Lib.hid hC6
            have q1 : (k : Int) < (cl.length : Int) := by omega
            have HOKK := Lib.hid (HOK.out k)
            have HST : Hid (cntC cl l1 (k + 1) = cntC cl l1 k + (if inC (atC cl k) l1 then 1 else 0)) := Lib.hid rfl
            obtain ⟨cu, hcu⟩ : ∃ cu, atC cl k = cu := ⟨_, rfl⟩
            rw [hcu] at h6 HC6 HOKK HST
            clear hC6 hcu
            obtain ⟨y, hy⟩ : ∃ y, cntC cl l1 k = y := ⟨_, rfl⟩
            rw [hy] at HST hle ⊢
            clear hy
            go_wp2_with fail
            go_at_call 17
            refine (inc_any A6 A1 c6 c1 cu l1 HOKK.out HVL.out wr HC6.out (HV.out.below (HB2.out.trans (HW.out.mono HB2.out.size)))).mono ?_
            rintro e w7 ⟨rfl, hb⟩
            have HB7 := Lib.hid (HW.out.trans (hb.mono HW.out.size))
            clear hb h6
            cases hin : inC cu l1 with
            | true =>
              rw [hin] at HST
              have HS2 : Hid (cntC cl l1 (k + 1) = y + 1) := Lib.hid (by rw [HST.out]; rfl)
              clear hin
              go_wp2_with fail
              go_roundw
              case rel => exact ⟨k + 1, by go_num, by omega, by rw [HS2.out]; go_num, HB7.out⟩
              case measure => simp [intOf] <;> omega
            | false =>
              rw [hin] at HST
              have HS2 : Hid (cntC cl l1 (k + 1) = y) := Lib.hid (by rw [HST.out]; rfl)
              clear hin
              go_wp2_with fail
              go_roundw
              case rel => exact ⟨k + 1, by go_num, by omega, by rw [HS2.out], HB7.out⟩
              case measure => simp [intOf] <;> omega
          · obtain rfl : k = cl.length := by omega
            rw [HSUM.out]
            have KR := Lib.hid (blk_below K2.out HW.out)
            have dr : wr.cell? ⟨g, 0, none⟩ = some (.slice A0 l0.length c0) := blk_cell KR.out 0
            have HBR := Lib.hid (HB2.out.trans (HW.out.mono HB2.out.size))
            clear d2
            cases hev : evalB l0 l1 with
            | true =>
              have HEV := Lib.hid hev
              clear hev hle
              go_wp2_with fail
              go_at_call 18
              refine (eval_any A0 A1 c0 c1 l0 l1 HP.out HVL.out wr (Kd.C_below HR.out HBR.out) HC.out (HV.out.below HBR.out)).mono ?_
              rintro e w7 ⟨rfl, hb⟩
              have HB7 := Lib.hid (HBR.out.trans (hb.mono HBR.out.size))
              rw [HEV.out]
              clear hb
              go_wp2_with fail
              go_at_call 13
              refine (awake_any w7).mono ?_
              rintro e w8 ⟨rfl, hb⟩
              have HB8 := Lib.hid (HB7.out.trans (hb.mono HB7.out.size))
              clear hb
              go_wp2_with fail
              go_ret
              exact ⟨rfl, HB8.out⟩
            | false =>
              have HEV := Lib.hid hev
              clear hev hle
              go_wp2_with fail
              go_at_call 18
              refine (eval_any A0 A1 c0 c1 l0 l1 HP.out HVL.out wr (Kd.C_below HR.out HBR.out) HC.out (HV.out.below HBR.out)).mono ?_
              rintro e w7 ⟨rfl, hb⟩
              have HB7 := Lib.hid (HBR.out.trans (hb.mono HBR.out.size))
              rw [HEV.out]
              clear hb
              go_wp2_with fail
              go_at_call 13
              refine (awake_any w7).mono ?_
              rintro e w8 ⟨rfl, hb⟩
              have HB8 := Lib.hid (HB7.out.trans (hb.mono HB7.out.size))
              clear hb
              go_wp2_with fail
              go_ret
              exact ⟨rfl, HB8.out⟩
  · have q0 : (30 : Int) < (l0.length : Int) := by omega
    go_enter Try.func10, Try.ntmps10
    go_wp2_with (refine wpList_box rfl 2 rfl #[.slice A0 l0.length c0] 24 ?hr ?_; (case hr => first | (go_simp; done) | (go_simp; rfl)); intro g w1 hg k1 hb1; have K1 := Lib.hid k1; have HB1 := Lib.hid hb1; have d1 : w1.cell? ⟨g, 0, none⟩ = some (.slice A0 l0.length c0) := blk_cell k1 0; clear hb1 k1)
    go_at_call 13
    refine (awake_any w1).mono ?_
    rintro e w2 ⟨rfl, hb⟩
    have HB2 := Lib.hid (HB1.out.trans (hb.mono HB1.out.size))
    clear hb
    go_wp2_with fail
    go_ret
    exact ⟨rfl, HB2.out⟩

/-! ### The row -/
set_option maxRecDepth 100000 in
theorem lifted (os : Os) (started : os.Started) (H : Type) (enc : TypeId × Value → H) :
    ReturnsInHanded {} Try.checked os 10 .any (Rows.predPartsSpec.pre6 enc Try.prog Try.f10 Rows.predPartsRow.domain false) (Rows.predPartsSpec.post enc Try.prog Try.f10 false true false false) := by
  refine returnsInHanded_of_change_sized (C := Try.checked) own started (by kernel_rfl) Try.func10
    (ChangeSpec.witness6 (enc := enc) (C := Try.checked) false ⟨#[], #[.agg #[.slice none 0 0], .slice none 0 0], []⟩ 8 (by kernel_rfl) (by kernel_rfl) (by kernel_rfl) (by kernel_rfl)) ?_
  intro W base args ds gs before hval0 hW hcnd hsz _
  have hval : ∀ (j : Nat) t v, Try.f10.params[j]? = some t → args[j]? = some v → Value.okWide Try.prog W .any base t v := hval0
  have hW' := hW
  obtain ⟨p, q, hA0, hV, rfl, hfz, hnd⟩ := hW
  have hA : DataW.TrodAll enc Try.prog W 0 (fun _ => true) true Try.f10.params.toList args.toList ds p := hA0
  rw [Try.params10] at hA hval hsz
  obtain ⟨v0, vs0, d0, ds0, p0, q0, hargs, rfl, rfl, h0, r0⟩ := trodAll_cons hA
  obtain ⟨v1, vs1, d1, ds1, p1, q1, rfl, rfl, rfl, h1, r1⟩ := trodAll_cons r0
  obtain ⟨rfl, rfl, rfl⟩ := trodAll_nil r1
  obtain rfl : args = #[v0, v1] := by cases args; simp_all
  obtain ⟨rfl, rfl⟩ := trodVars_none hV
  have k0 := h0
  have lt0 : ∀ x ∈ p0, x.block < W.heap.size := by obtain ⟨m, hm⟩ := k0; exact DataW.trod_lt m _ _ _ hm
  obtain ⟨A0, c0, l0, rfl, x0, y0, z0⟩ := open_pred (hval 0 24 v0 rfl rfl) h0
  have k1 := h1
  have lt1 : ∀ x ∈ p1, x.block < W.heap.size := by obtain ⟨m, hm⟩ := k1; exact DataW.trod_lt m _ _ _ hm
  obtain ⟨A1, c1, l1, rfl, z1, y1⟩ := open_vals (hval 1 30 v1 rfl rfl) h1
  clear hA0 hval0
  refine (walk A0 c0 l0 x0 z0 A1 c1 l1 z1 W y0 y1).mono fun e W' ⟨he, bel⟩ => ?_
  subst he
  exact ⟨_, rfl, _, _, _, [], _, [], hW', trodAll_mk1 (shut_bool Try.underlying4 _), (trodAll_cons_mk (Below.trod laidOut (by kernel_rfl) (of_decide_eq_true (by kernel_rfl)) k0 bel lt0) (trodAll_cons_mk (Below.trod laidOut (by kernel_rfl) (of_decide_eq_true (by kernel_rfl)) k1 bel lt1) trodAll_mk0)), rfl, bel.frame _, fun h => by cases h⟩

theorem over : Rows.predPartsRow.holds Try.pinned (OpenSpec.ofChange Rows.predPartsSpec) :=
  OpenClaim.holds_of_wide 10 Try.f10 rfl rfl rfl rfl rfl rfl rfl ⟨rfl, rfl, rfl, rfl, rfl⟩ rfl rfl rfl rfl rfl (by kernel_rfl) Try.func10 (by kernel_rfl)
    (of_decide_eq_true (by kernel_rfl)) (by unfold Func.isWrapper; first | (rw [if_pos (by decide +kernel)]; kernel_rfl) | (rw [if_neg (by decide +kernel)]; exact ⟨rfl, rfl⟩))
    (fun os started H enc _ => lifted os started H enc)

/-- The statement. -/
theorem proved : Rows.PredPartsSaid := over
#print axioms proved
end Go.Proofs.Ytmhjnfkhfjejeaa.predParts
