/-
  Proved: droverlaw16.PredPicks returns true for every predicate (of up to 30 nodes): each cube is whole, no two meet, and the predicate is true of what is picked of each. No condition.
-/
import Derived.Test.YtmhjnfkhfjejeaaP4
namespace Go.Proofs.Ytmhjnfkhfjejeaa.predPicks
open Go.Proofs.Ytmhjnfkhfjejeaa Go.ChangeShapes Go.WideShapes Go.ChangeAt Go.RowKit Go.Proofs.YtmhjnfkhfjejeaaW.PrintWords Go.Proofs.YtmhjnfkhfjejeaaW.PrintLast Go.Proofs.YtmhjnfkhfjejeaaW.PrintMore
open PPredCubes
set_option linter.unusedVariables false
set_option linter.unusedSimpArgs false

set_option maxHeartbeats 8000000 in
set_option maxRecDepth 100000 in
theorem walk (A0 : Option Addr) (c0 : Nat) (l0 : List S52) (hc0 : l0.length ≤ c0) (hP0 : okP l0) (w : World) (hr0 : k52.C w A0 l0.length l0) :
    Calls Try.prog 3 #[.agg #[.slice A0 l0.length c0]] w fun e w' => e = .returned (.bool true) ∧ Below w.heap.size w w' := by
  have HM : Hid (l0.length ≤ 9223372036854775807) := Lib.hid hr0.2.1
  have HR := Lib.hid hr0
  have HP := Lib.hid hP0
  have HC := Lib.hid hc0
  clear hr0 hP0 hc0
  by_cases h30 : l0.length ≤ 30
  · have q0 : ¬ (30 : Int) < (l0.length : Int) := by omega
    go_enter Try.func3, Try.ntmps3
    go_wp2_with (first
      | (refine wpList_box rfl 1 rfl #[.slice A0 l0.length c0] 24 ?hr ?_; (case hr => first | (go_simp; done) | (go_simp; rfl)); intro g w1 hg k1 hb1; have K1 := Lib.hid k1; have HB1 := Lib.hid hb1; have d1 : w1.cell? ⟨g, 0, none⟩ = some (.slice A0 l0.length c0) := blk_cell k1 0; clear hb1 k1)
      | (refine wpList_load_at rfl 24 (.tmp 1) rfl ⟨g, 0, none⟩ rfl #[.slice A0 l0.length c0] _ (Lies.of_block K1.out) Try.underlying24 rfl info24s ?_))
    go_at_call 14
    refine (cubes_any A0 c0 l0 HP.out w1 (Kd.C_below HR.out HB1.out) HC.out).mono ?_
    rintro e w2 ⟨v, rfl, hr, hb⟩
    have HB2 := Lib.hid (HB1.out.trans (hb.mono HB1.out.size))
    have K2 := Lib.hid (blk_below K1.out hb)
    obtain ⟨A5, c5, ev, -, hC5⟩ := Kd.R_reads hr
    subst ev
    have HC5 := Lib.hid hC5
    clear hr hb hC5 d1 hg K1
    have hE := cubesE_cases (ns := l0)
    have hlen := cubesL_len (ns := l0)
    have hPK : ∀ k, k < (cubesL l0).length → ∃ p, PickR l0 (atC (cubesL l0) k) p := fun k h => pickR HP.out h
    have hMT : ∀ j i, j < i → i < (cubesL l0).length → meetOk (atC (cubesL l0) j) (atC (cubesL l0) i) = false := fun j i h1 h2 => meetR HP.out h1 h2
    obtain ⟨cl, hcl⟩ : ∃ cl, cubesL l0 = cl := ⟨_, rfl⟩
    obtain ⟨E, hEE⟩ : ∃ E, cubesE l0 = E := ⟨_, rfl⟩
    rw [hcl] at HC5 hE hlen hPK hMT ⊢
    rw [hEE] at hE ⊢
    have HE := Lib.hid hE
    have HPK := Lib.hid hPK
    have HMT := Lib.hid hMT
    clear hcl hEE hE hPK hMT
    go_wp2_with fail
    go_loopw [5] (fun vk wr => ∃ k : Nat, vk = .int .i64 k ∧ k ≤ cl.length ∧ Below w2.heap.size w2 wr) (fun vk _ => cl.length - (intOf vk).toNat)
    case atStart => exact ⟨0, rfl, by omega, Below.refl _ _⟩
    case round =>
      obtain ⟨k, rfl, hk, hw⟩ := hrel
      have HW := Lib.hid hw
      clear hw
      by_cases hlt : k < cl.length
      · obtain ⟨ad, A6, c6, rfl, h6, -, hC6⟩ := rd33 HC5.out hlt
        obtain ⟨p, hp⟩ := HPK.out k hlt
        have q1 : (k : Int) < (cl.length : Int) := by omega
        have HMK : Hid (∀ j, j < k → meetOk (atC cl j) (atC cl k) = false) := Lib.hid fun j hj => HMT.out j k hj hlt
        obtain ⟨cu, hcu⟩ : ∃ cu, atC cl k = cu := ⟨_, rfl⟩
        rw [hcu] at h6 hC6 hp HMK
        have HD : Hid (∀ W : World, Below w2.heap.size w2 W → W.cell? (ad.add k) = some (.slice A6 cu.length c6) ∧ W.cell? ⟨g, 0, none⟩ = some (.slice A0 l0.length c0)) := Lib.hid fun W hW => ⟨pw_cell_below hW h6, blk_cell (blk_below K2.out hW) 0⟩
        have HC15 : Hid (∀ W, Below w2.heap.size w2 W → Calls Try.prog 15 #[.slice A6 cu.length c6] W fun e w' => ∃ B d, e = .returned (.slice B 10 d) ∧ Hid (RowF w' B 10 (fun k => .int .u64 (at0 p k))) ∧ Hid (Below w2.heap.size w2 w')) := Lib.hid fun W hW =>
          (pick_any A6 c6 cu hp.ok W (Kd.C_below hC6 hW)).mono fun e w' h => by
            obtain ⟨B, d, rfl, hr, hb⟩ := h
            rw [hp.pick, hp.len] at hr ⊢
            exact ⟨B, d, rfl, Lib.hid hr, Lib.hid (hW.trans (hb.mono hW.size))⟩
        have HC16 : Hid (∀ W, Below w2.heap.size w2 W → Calls Try.prog 16 #[.slice A6 cu.length c6] W fun e w' => e = .returned (.bool true) ∧ Hid (Below W.heap.size W w') ∧ Hid (Below w2.heap.size w2 w')) := Lib.hid fun W hW =>
          (wholec_any A6 c6 cu hp.ok W (Kd.C_below hC6 hW)).mono fun e w' h => ⟨by rw [h.1, hp.whole], Lib.hid h.2, Lib.hid (hW.trans (h.2.mono hW.size))⟩
        have HC17 : Hid (∀ W B d, Below w2.heap.size w2 W → RowF W B 10 (fun k => .int .u64 (at0 p k)) → Calls Try.prog 17 #[.slice A6 cu.length c6, .slice B 10 d] W fun e w' => e = .returned (.bool true) ∧ Hid (Below W.heap.size W w') ∧ Hid (Below w2.heap.size w2 w')) := Lib.hid fun W B d hW hv => by
          have h := inc_any A6 B c6 d cu p hp.ok hp.lt W (Kd.C_below hC6 hW) (by rw [hp.len]; exact hv)
          rw [hp.len] at h
          exact h.mono fun e w' h => ⟨by rw [h.1, hp.inn], Lib.hid h.2, Lib.hid (hW.trans (h.2.mono hW.size))⟩
        have HC18 : Hid (∀ W B d, Below w2.heap.size w2 W → RowF W B 10 (fun k => .int .u64 (at0 p k)) → Calls Try.prog 18 #[.agg #[.slice A0 l0.length c0], .slice B 10 d] W fun e w' => e = .returned (.bool true) ∧ Hid (Below w2.heap.size w2 w')) := Lib.hid fun W B d hW hv => by
          have h := eval_any A0 B c0 d l0 p HP.out hp.lt W (Kd.C_below HR.out (HB2.out.trans (hW.mono HB2.out.size))) HC.out (by rw [hp.len]; exact hv)
          rw [hp.len] at h
          exact h.mono fun e w' h => ⟨by rw [h.1, hp.ev], Lib.hid (hW.trans (h.2.mono hW.size))⟩
        have HC6 := Lib.hid hC6
        have HOK := Lib.hid hp.ok
        have hd := (HD.out wr HW.out).1
        clear hcu hp h6 hC6
        go_wp2_with fail
        go_at_call 15
        refine (HC15.out wr HW.out).mono ?_
        rintro e w3 ⟨B, d, rfl, HB, HW3⟩
        clear hd
        have hd := (HD.out w3 HW3.out).1
        go_wp2_with fail
        go_at_call 16
        refine (HC16.out w3 HW3.out).mono ?_
        rintro e w4 ⟨rfl, HBB, HW4⟩
        have HB4 := Lib.hid (HB.out.below HBB.out)
        clear hd
        have hd := (HD.out w4 HW4.out).1
        go_wp2_with fail
        go_at_call 17
        refine (HC17.out w4 B d HW4.out HB4.out).mono ?_
        rintro e w5 ⟨rfl, HBB5, HW5⟩
        have HB5 := Lib.hid (HB4.out.below HBB5.out)
        clear hd
        have hd := (HD.out w5 HW5.out).2
        go_wp2_with fail
        go_at_call 18
        refine (HC18.out w5 B d HW5.out HB5.out).mono ?_
        rintro e w6 ⟨rfl, HW6⟩
        clear hd HC15 HC16 HC17 HC18 HB HB4 HB5 HBB HBB5 HW3 HW4 HW5 HW
        go_wp2_with fail
        go_loopw [7] (fun vj wx => ∃ j : Nat, vj = .int .i64 j ∧ j ≤ k ∧ Below w2.heap.size w2 wx) (fun vj _ => k - (intOf vj).toNat)
        case atStart => exact ⟨0, rfl, by omega, HW6.out⟩
        case round =>
          obtain ⟨wx, rfl⟩ : ∃ wx : World, wx = wr := ⟨_, rfl⟩
          obtain ⟨j, rfl, hj, hw⟩ := hrel
          have HX := Lib.hid hw
          clear hw
          by_cases hjk : j < k
          · obtain ⟨ad', A7, c7, ea, h7, -, hC7⟩ := rd33 HC5.out (show j < cl.length by omega)
            cases ea
            obtain ⟨p7, hp7⟩ := HPK.out j (by omega)
            have hmt := HMK.out j hjk
            obtain ⟨cv, hcv⟩ : ∃ cv, atC cl j = cv := ⟨_, rfl⟩
            rw [hcv] at h7 hC7 hp7 hmt
            have q2 : (j : Int) < (k : Int) := by omega
            have q3 : (j : Int) < (cl.length : Int) := by omega
            have HC19 : Hid (∀ W, Below w2.heap.size w2 W → Calls Try.prog 19 #[.slice A7 cv.length c7, .slice A6 cu.length c6] W fun e w' => ∃ v, e = .returned (.tuple #[v, .bool false]) ∧ Hid (Below w2.heap.size w2 w')) := Lib.hid fun W hW =>
              (meetc_any A7 A6 c7 c6 cv cu hp7.ok HOK.out W (Kd.C_below hC7 hW) (Kd.C_below HC6.out hW)).mono fun e w' h => by
                obtain ⟨v, rfl, -, hb⟩ := h
                rw [hmt]
                exact ⟨v, rfl, Lib.hid (hW.trans (hb.mono hW.size))⟩
            have hd := (HD.out wx HX.out).1
            have hd7 := pw_cell_below HX.out h7
            have HI := HX
            clear hcv hp7 hmt h7 hC7
            go_wp2_with fail
            go_region_with (((with_reducible refine (HC19.out _ ?hW).mono ?_); (case hW => repeat (first | exact HI.out | refine Below.drew ?_)); rintro e W ⟨v, rfl, HI⟩))
            all_goals
              go_wp2_with fail
              go_roundw
              case rel => exact ⟨j + 1, by go_num, by omega, HI.out⟩
              case measure => simp [intOf] <;> omega
          · obtain rfl : j = k := by omega
            go_wp2_with fail
            go_roundw
            case rel => exact ⟨j + 1, by go_num, by omega, HX.out⟩
            case measure => simp [intOf] <;> omega
      · obtain rfl : k = cl.length := by omega
        have HBR := Lib.hid (HB2.out.trans (HW.out.mono HB2.out.size))
        rcases HE.out with h0 | ⟨h0, h1⟩
        · subst h0
          have q5 : (cl.length : Int) ≤ 128 := by omega
          go_wp2_with fail
          go_at_call 13
          refine (awake_any wr).mono ?_
          rintro e w8 ⟨rfl, hb⟩
          have HB8 := Lib.hid (HBR.out.trans (hb.mono HBR.out.size))
          clear hb
          go_wp2_with fail
          go_ret
          exact ⟨rfl, HB8.out⟩
        · subst h1
          have q5 : (E == 0) = false := by simpa using h0
          clear h0
          go_wp2_with fail
          go_at_call 13
          refine (awake_any wr).mono ?_
          rintro e w8 ⟨rfl, hb⟩
          have HB8 := Lib.hid (HBR.out.trans (hb.mono HBR.out.size))
          clear hb
          go_wp2_with fail
          go_ret
          exact ⟨rfl, HB8.out⟩
  · have q0 : (30 : Int) < (l0.length : Int) := by omega
    go_enter Try.func3, Try.ntmps3
    go_wp2_with (refine wpList_box rfl 1 rfl #[.slice A0 l0.length c0] 24 ?hr ?_; (case hr => first | (go_simp; done) | (go_simp; rfl)); intro g w1 hg k1 hb1; have K1 := Lib.hid k1; have HB1 := Lib.hid hb1; have d1 : w1.cell? ⟨g, 0, none⟩ = some (.slice A0 l0.length c0) := blk_cell k1 0; clear hb1 k1)
    go_at_call 13
    refine (awake_any w1).mono ?_
    rintro e w2 ⟨rfl, hb⟩
    have HB2 := Lib.hid (HB1.out.trans (hb.mono HB1.out.size))
    clear hb
    go_wp2_with fail
    go_ret
    exact ⟨rfl, HB2.out⟩

/-! ### The row -/
set_option maxRecDepth 100000 in
theorem lifted (os : Os) (started : os.Started) (H : Type) (enc : TypeId × Value → H) :
    ReturnsInHanded {} Try.checked os 3 .any (Rows.predPicksSpec.pre6 enc Try.prog Try.f3 Rows.predPicksRow.domain false) (Rows.predPicksSpec.post enc Try.prog Try.f3 false true false false) := by
  refine returnsInHanded_of_change_sized (C := Try.checked) own started (by kernel_rfl) Try.func3
    (ChangeSpec.witness6 (enc := enc) (C := Try.checked) false ⟨#[], #[.agg #[.slice none 0 0]], []⟩ 8 (by kernel_rfl) (by kernel_rfl) (by kernel_rfl) (by kernel_rfl)) ?_
  intro W base args ds gs before hval0 hW hcnd hsz _
  have hval : ∀ (j : Nat) t v, Try.f3.params[j]? = some t → args[j]? = some v → Value.okWide Try.prog W .any base t v := hval0
  have hW' := hW
  obtain ⟨p, q, hA0, hV, rfl, hfz, hnd⟩ := hW
  have hA : DataW.TrodAll enc Try.prog W 0 (fun _ => true) true Try.f3.params.toList args.toList ds p := hA0
  rw [Try.params3] at hA hval hsz
  obtain ⟨v0, vs0, d0, ds0, p0, q0, hargs, rfl, rfl, h0, r0⟩ := trodAll_cons hA
  obtain ⟨rfl, rfl, rfl⟩ := trodAll_nil r0
  obtain rfl : args = #[v0] := by cases args; simp_all
  obtain ⟨rfl, rfl⟩ := trodVars_none hV
  have k0 := h0
  have lt0 : ∀ x ∈ p0, x.block < W.heap.size := by obtain ⟨m, hm⟩ := k0; exact DataW.trod_lt m _ _ _ hm
  obtain ⟨A0, c0, l0, rfl, x0, y0, z0⟩ := open_pred (hval 0 24 v0 rfl rfl) h0
  clear hA0 hval0
  refine (walk A0 c0 l0 x0 z0 W y0).mono fun e W' ⟨he, bel⟩ => ?_
  subst he
  exact ⟨_, rfl, _, _, _, [], _, [], hW', trodAll_mk1 (shut_bool Try.underlying4 _), (trodAll_cons_mk (Below.trod laidOut (by kernel_rfl) (of_decide_eq_true (by kernel_rfl)) k0 bel lt0) trodAll_mk0), rfl, bel.frame _, fun h => by cases h⟩

theorem over : Rows.predPicksRow.holds Try.pinned (OpenSpec.ofChange Rows.predPicksSpec) :=
  OpenClaim.holds_of_wide 3 Try.f3 rfl rfl rfl rfl rfl rfl rfl ⟨rfl, rfl, rfl, rfl, rfl⟩ rfl rfl rfl rfl rfl (by kernel_rfl) Try.func3 (by kernel_rfl)
    (of_decide_eq_true (by kernel_rfl)) (by unfold Func.isWrapper; first | (rw [if_pos (by decide +kernel)]; kernel_rfl) | (rw [if_neg (by decide +kernel)]; exact ⟨rfl, rfl⟩))
    (fun os started H enc _ => lifted os started H enc)

/-- The statement. -/
theorem proved : Rows.PredPicksSaid := over
#print axioms proved
end Go.Proofs.Ytmhjnfkhfjejeaa.predPicks
