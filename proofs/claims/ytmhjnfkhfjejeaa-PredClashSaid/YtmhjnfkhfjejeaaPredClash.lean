/-
  Proved: droverlaw16.PredClash returns true for all predicates (of up to 30 nodes) and all values: disjoint ones are never both true, others both are of some values. No condition.
-/
import Derived.Test.YtmhjnfkhfjejeaaP5
namespace Go.Proofs.Ytmhjnfkhfjejeaa.predClash
open Go.Proofs.Ytmhjnfkhfjejeaa Go.ChangeShapes Go.WideShapes Go.ChangeAt Go.RowKit Go.Proofs.YtmhjnfkhfjejeaaW.PrintWords Go.Proofs.YtmhjnfkhfjejeaaW.PrintLast Go.Proofs.YtmhjnfkhfjejeaaW.PrintMore
open PPredCubes
set_option linter.unusedVariables false
set_option linter.unusedSimpArgs false

set_option maxHeartbeats 8000000 in
set_option maxRecDepth 100000 in
theorem walk (A0 : Option Addr) (c0 : Nat) (l0 : List S52) (hc0 : l0.length ≤ c0) (hP0 : okP l0) (A1 : Option Addr) (c1 : Nat) (l1 : List S52) (hc1 : l1.length ≤ c1) (hP1 : okP l1) (A2 : Option Addr) (c2 : Nat) (l2 : List Nat) (hP2 : lt64 l2) (w : World) (hr0 : k52.C w A0 l0.length l0) (hr1 : k52.C w A1 l1.length l1) (hr2 : RowF w A2 l2.length (fun k => .int .u64 (at0 l2 k))) :
    Calls Try.prog 11 #[.agg #[.slice A0 l0.length c0], .agg #[.slice A1 l1.length c1], .slice A2 l2.length c2] w fun e w' => e = .returned (.bool true) ∧ Below w.heap.size w w' := by
  have HM : Hid (l0.length ≤ 9223372036854775807) := Lib.hid hr0.2.1
  have HM1 : Hid (l1.length ≤ 9223372036854775807) := Lib.hid hr1.2.1
  have HR := Lib.hid hr0
  have HR1 := Lib.hid hr1
  have HV := Lib.hid hr2
  have HP := Lib.hid hP0
  have HP1 := Lib.hid hP1
  have HVL := Lib.hid hP2
  have HC := Lib.hid hc0
  have HC1 := Lib.hid hc1
  clear hr0 hr1 hr2 hP0 hP1 hP2 hc0 hc1
  by_cases h30 : l0.length ≤ 30
  · by_cases h31 : l1.length ≤ 30
    · have q0 : ¬ (30 : Int) < (l0.length : Int) := by omega
      have q1 : ¬ (30 : Int) < (l1.length : Int) := by omega
      go_enter Try.func11, Try.ntmps11
      go_wp2_with (first
        | (refine wpList_box rfl 3 rfl #[.slice A0 l0.length c0] 24 ?hr ?_; (case hr => first | (go_simp; done) | (go_simp; rfl)); intro g3 w1 hg3 k3 hb3; have K3 := Lib.hid k3; have HB1 := Lib.hid hb3; clear hb3 k3)
        | (refine wpList_box rfl 4 rfl #[.slice A1 l1.length c1] 24 ?hr ?_; (case hr => first | (go_simp; done) | (go_simp; rfl)); intro g4 w2 hg4 k4 hb4; have K4 := Lib.hid k4; have K32 := Lib.hid (blk_below K3.out hb4); have HB2 := Lib.hid (HB1.out.trans (hb4.mono HB1.out.size)); have d3 : w2.cell? ⟨g3, 0, none⟩ = some (.slice A0 l0.length c0) := blk_cell K32.out 0; have d4 : w2.cell? ⟨g4, 0, none⟩ = some (.slice A1 l1.length c1) := blk_cell K4.out 0; clear hb4 k4)
        | (refine wpList_load_at rfl 24 (.tmp 3) rfl ⟨g3, 0, none⟩ rfl #[.slice A0 l0.length c0] _ (Lies.of_block K32.out) Try.underlying24 rfl info24s ?_)
        | (refine wpList_load_at rfl 24 (.tmp 4) rfl ⟨g4, 0, none⟩ rfl #[.slice A1 l1.length c1] _ (Lies.of_block K4.out) Try.underlying24 rfl info24s ?_))
      go_at_call 33
      refine (disj_v A0 A1 c0 c1 l0 l1 HP.out HP1.out w2 (Kd.C_below HR.out HB2.out) (Kd.C_below HR1.out HB2.out) HC.out HC1.out).mono ?_
      rintro e w3 ⟨rfl, hb⟩
      have HW3 := Lib.hid hb
      have HA := Lib.hid (apart_cases l0 l1)
      have HNEV : Hid (apartB l0 l1 = true → ∀ x, evalB l0 x = false ∨ evalB l1 x = false) := Lib.hid fun h x => apart_never HP.out HP1.out h x
      have HD : Hid (∀ W : World, Below w2.heap.size w2 W → W.cell? ⟨g3, 0, none⟩ = some (.slice A0 l0.length c0) ∧ W.cell? ⟨g4, 0, none⟩ = some (.slice A1 l1.length c1) ∧ W.heap[g3]? = some (.cells #[.slice A0 l0.length c0] 24 (0, 0)) ∧ W.heap[g4]? = some (.cells #[.slice A1 l1.length c1] 24 (0, 0))) := Lib.hid fun W hW => ⟨blk_cell (blk_below K32.out hW) 0, blk_cell (blk_below K4.out hW) 0, blk_below K32.out hW, blk_below K4.out hW⟩
      have HB3 := Lib.hid (HB2.out.trans (hb.mono HB2.out.size))
      clear hb d3 d4 hg3 hg4 K3
      rcases HA.out with ⟨hE, h1, h2, h3, h4⟩ | ⟨hE, hF⟩
      · rw [hE]
        have HE1 := Lib.hid (cubesE_ok h1 h3)
        have HE2 := Lib.hid (cubesE_ok h2 h4)
        have HNONE := Lib.hid (fun h => none_meets HP.out HP1.out h1 h2 h3 h4 h)
        have hMR := fun i j hi hj hm => meetRR HP.out HP1.out h1 h2 h3 h4 (i := i) (j := j) hi hj hm
        have HMR := Lib.hid hMR
        clear hE h1 h2 h3 h4 hMR HA
        cases hab : apartB l0 l1 with
        | true =>
          have hor := HNEV.out hab l2
          have HOR := Lib.hid hor
          clear hab hor
          obtain ⟨d3, d4, -, -⟩ := HD.out w3 HW3.out
          cases hy : evalB l0 l2 with
          | false =>
            have HY := Lib.hid hy
            clear hy
            go_wp2_with (refine wpList_load_at rfl 24 (.tmp 3) rfl ⟨g3, 0, none⟩ rfl #[.slice A0 l0.length c0] _ (Lies.of_block (HD.out w3 HW3.out).2.2.1) Try.underlying24 rfl info24s ?_)
            go_at_call 18
            refine (eval_any A0 A2 c0 c2 l0 l2 HP.out HVL.out w3 (Kd.C_below HR.out HB3.out) HC.out (HV.out.below HB3.out)).mono ?_
            rintro e w4 ⟨rfl, hb⟩
            have HB4 := Lib.hid (HB3.out.trans (hb.mono HB3.out.size))
            rw [HY.out]
            clear hb
            go_wp2_with fail
            go_at_call 13
            refine (awake_any w4).mono ?_
            rintro e w99 ⟨rfl, hb⟩
            have HB99 := Lib.hid (HB4.out.trans (hb.mono HB4.out.size))
            clear hb
            go_wp2_with fail
            go_ret
            exact ⟨rfl, HB99.out⟩
          | true =>
            have HY := Lib.hid hy
            have HY1 : Hid (evalB l1 l2 = false) := Lib.hid (HOR.out.resolve_left (by rw [hy]; simp))
            clear hy
            go_wp2_with (refine wpList_load_at rfl 24 (.tmp 3) rfl ⟨g3, 0, none⟩ rfl #[.slice A0 l0.length c0] _ (Lies.of_block (HD.out w3 HW3.out).2.2.1) Try.underlying24 rfl info24s ?_)
            go_at_call 18
            refine (eval_any A0 A2 c0 c2 l0 l2 HP.out HVL.out w3 (Kd.C_below HR.out HB3.out) HC.out (HV.out.below HB3.out)).mono ?_
            rintro e w4 ⟨rfl, hb⟩
            have HB4 := Lib.hid (HB3.out.trans (hb.mono HB3.out.size))
            have HW4 := Lib.hid (HW3.out.trans (hb.mono HW3.out.size))
            rw [HY.out]
            clear hb d3 d4
            obtain ⟨d3, d4, -, -⟩ := HD.out w4 HW4.out
            go_wp2_with fail
            go_at_call 18
            refine (eval_any A1 A2 c1 c2 l1 l2 HP1.out HVL.out w4 (Kd.C_below HR1.out HB4.out) HC1.out (HV.out.below HB4.out)).mono ?_
            rintro e w5 ⟨rfl, hb⟩
            have HB5 := Lib.hid (HB4.out.trans (hb.mono HB4.out.size))
            rw [HY1.out]
            clear hb
            go_wp2_with fail
            go_at_call 13
            refine (awake_any w5).mono ?_
            rintro e w99 ⟨rfl, hb⟩
            have HB99 := Lib.hid (HB5.out.trans (hb.mono HB5.out.size))
            clear hb
            go_wp2_with fail
            go_ret
            exact ⟨rfl, HB99.out⟩
        | false =>
          have HAB := Lib.hid hab
          clear hab
          obtain ⟨d3, d4, -, -⟩ := HD.out w3 HW3.out
          go_wp2_with (refine wpList_load_at rfl 24 (.tmp 3) rfl ⟨g3, 0, none⟩ rfl #[.slice A0 l0.length c0] _ (Lies.of_block (HD.out w3 HW3.out).2.2.1) Try.underlying24 rfl info24s ?_)
          go_at_call 14
          refine (cubes_any A0 c0 l0 HP.out w3 (Kd.C_below HR.out HB3.out) HC.out).mono ?_
          rintro e w4 ⟨v, rfl, hr, hb⟩
          have HB4 := Lib.hid (HB3.out.trans (hb.mono HB3.out.size))
          have HW4 := Lib.hid (HW3.out.trans (hb.mono HW3.out.size))
          obtain ⟨A5, c5, ev, -, hC5⟩ := Kd.R_reads hr
          subst ev
          have HC5 := Lib.hid hC5
          rw [HE1.out]
          clear hr hb hC5 d3 d4
          obtain ⟨d3, d4, -, -⟩ := HD.out w4 HW4.out
          go_wp2_with (refine wpList_load_at rfl 24 (.tmp 4) rfl ⟨g4, 0, none⟩ rfl #[.slice A1 l1.length c1] _ (Lies.of_block (HD.out w4 HW4.out).2.2.2) Try.underlying24 rfl info24s ?_)
          go_at_call 14
          refine (cubes_any A1 c1 l1 HP1.out w4 (Kd.C_below HR1.out HB4.out) HC1.out).mono ?_
          rintro e w5 ⟨v, rfl, hr, hb⟩
          have HB5 := Lib.hid (HB4.out.trans (hb.mono HB4.out.size))
          have HW5 := Lib.hid (HW4.out.trans (hb.mono HW4.out.size))
          obtain ⟨A6, c6, ev, -, hC6⟩ := Kd.R_reads hr
          subst ev
          have HC6 := Lib.hid hC6
          have HC55 := Lib.hid (Kd.C_below HC5.out hb)
          rw [HE2.out]
          have hok1 : ∀ k, okC (atC (cubesL l0) k) := fun k => cubesL_okC HP.out k
          have hok2 : ∀ k, okC (atC (cubesL l1) k) := fun k => cubesL_okC HP1.out k
          have hl1 := cubesL_len (ns := l0)
          have hl2 := cubesL_len (ns := l1)
          obtain ⟨ca, hca⟩ : ∃ ca, cubesL l0 = ca := ⟨_, rfl⟩
          obtain ⟨cb, hcb⟩ : ∃ cb, cubesL l1 = cb := ⟨_, rfl⟩
          rw [hca] at HC55 hok1 hl1
          rw [hcb] at HC6 hok2 hl2
          rw [hca, hcb] at HNONE HMR
          rw [hca, hcb]
          have HO1 := Lib.hid hok1
          have HO2 := Lib.hid hok2
          clear hr hb hC6 d3 d4 HC5 HE1 HE2 hca hcb hok1 hok2
          go_wp2_with fail
          go_loopw [13] (fun vi wr => ∃ i : Nat, vi = .int .i64 i ∧ i ≤ ca.length ∧ Hid (∀ i', i' < i → ∀ j, j < cb.length → meetOk (atC ca i') (atC cb j) = false) ∧ Below w5.heap.size w5 wr) (fun vi _ => ca.length - (intOf vi).toNat)
          case atStart => exact ⟨0, rfl, by omega, Lib.hid (fun i' h => by omega), Below.refl _ _⟩
          case round =>
            obtain ⟨i, rfl, hi, HNI, hw⟩ := hrel
            have HW := Lib.hid hw
            clear hw
            by_cases hil : i < ca.length
            · obtain ⟨ad, A7, c7, rfl, h7, -, hC7⟩ := rd33 HC55.out hil
              have q2 : (i : Int) < (ca.length : Int) := by omega
              have HH7 := Lib.hid h7
              have HC7 := Lib.hid hC7
              have hoi := HO1.out i
              have HOI := Lib.hid hoi
              have HMRI : Hid (∀ j, j < cb.length → meetOk (atC ca i) (atC cb j) = true → ∃ p, MeetR l0 l1 (atC ca i) (atC cb j) p) := Lib.hid fun j hj hm => HMR.out i j hil hj hm
              have HNIS : Hid ((∀ j, j < cb.length → meetOk (atC ca i) (atC cb j) = false) → ∀ i', i' < i + 1 → ∀ j, j < cb.length → meetOk (atC ca i') (atC cb j) = false) := Lib.hid fun h i' hi' => by
                rcases Nat.lt_or_ge i' i with h1 | h1
                · exact HNI.out i' h1
                · obtain rfl : i' = i := by omega
                  exact h
              obtain ⟨cu, hcu⟩ : ∃ cu, atC ca i = cu := ⟨_, rfl⟩
              rw [hcu] at HH7 HC7 HOI HMRI HNIS
              clear h7 hC7 hcu hoi
              go_wp2_with fail
              go_loopw [14] (fun vj wx => ∃ j : Nat, vj = .int .i64 j ∧ j ≤ cb.length ∧ Hid (∀ j', j' < j → meetOk cu (atC cb j') = false) ∧ Below w5.heap.size w5 wx) (fun vj _ => cb.length - (intOf vj).toNat)
              case atStart => exact ⟨0, rfl, by omega, Lib.hid (fun j' h => by omega), HW.out⟩
              case round =>
                obtain ⟨wx, rfl⟩ : ∃ wx : World, wx = wr := ⟨_, rfl⟩
                obtain ⟨j, rfl, hj, HNJ, hw⟩ := hrel
                have HX := Lib.hid hw
                clear hw
                by_cases hjl : j < cb.length
                · obtain ⟨ad', A8, c8, ea, h8, -, hC8⟩ := rd33 HC6.out hjl
                  subst ea
                  have q3 : (j : Int) < (cb.length : Int) := by omega
                  have hoj := HO2.out j
                  have HMRJ : Hid (meetOk cu (atC cb j) = true → ∃ p, MeetR l0 l1 cu (atC cb j) p) := Lib.hid fun hm => HMRI.out j hjl hm
                  have HNJS : Hid (meetOk cu (atC cb j) = false → ∀ j', j' < j + 1 → meetOk cu (atC cb j') = false) := Lib.hid fun h j' hj' => by
                    rcases Nat.lt_or_ge j' j with h1 | h1
                    · exact HNJ.out j' h1
                    · obtain rfl : j' = j := by omega
                      exact h
                  obtain ⟨cv, hcv⟩ : ∃ cv, atC cb j = cv := ⟨_, rfl⟩
                  rw [hcv] at h8 hC8 hoj HMRJ HNJS
                  have hd7 := pw_cell_below HX.out HH7.out
                  have hd8 := pw_cell_below HX.out h8
                  have HI := HX
                  cases hmt : meetOk cu cv with
                  | false =>
                    have HC19 : Hid (∀ W, Below w5.heap.size w5 W → Calls Try.prog 19 #[.slice A7 cu.length c7, .slice A8 cv.length c8] W fun e w' => ∃ v, e = .returned (.tuple #[v, .bool false]) ∧ Hid (Below w5.heap.size w5 w')) := Lib.hid fun W hW =>
                      (meetc_any A7 A8 c7 c8 cu cv HOI.out hoj W (Kd.C_below HC7.out hW) (Kd.C_below hC8 hW)).mono fun e w' h => by
                        obtain ⟨v, rfl, -, hb⟩ := h
                        rw [hmt]
                        exact ⟨v, rfl, Lib.hid (hW.trans (hb.mono hW.size))⟩
                    have HNX := Lib.hid (HNJS.out hmt)
                    clear hcv hmt h8 hC8 hoj
                    go_wp2_with fail
                    go_region_with (((with_reducible refine (HC19.out _ ?hW).mono ?_); (case hW => repeat (first | exact HI.out | refine Below.drew ?_)); rintro e W ⟨v, rfl, HI⟩))
                    all_goals
                      go_wp2_with fail
                      go_roundw
                      case rel => exact ⟨j + 1, by go_num, by omega, HNX, HI.out⟩
                      case measure => simp [intOf] <;> omega
                  | true =>
                    obtain ⟨p, hp⟩ := HMRJ.out hmt
                    obtain ⟨mc, hmc⟩ : ∃ mc, meetC cu cv = mc := ⟨_, rfl⟩
                    have HC19 : Hid (∀ W, Below w5.heap.size w5 W → Calls Try.prog 19 #[.slice A7 cu.length c7, .slice A8 cv.length c8] W fun e w' => ∃ A c, e = .returned (.tuple #[.slice A mc.length c, .bool true]) ∧ Hid (k47.C w' A mc.length mc) ∧ Hid (Below w5.heap.size w5 w')) := Lib.hid fun W hW =>
                      (meetc_any A7 A8 c7 c8 cu cv HOI.out hoj W (Kd.C_below HC7.out hW) (Kd.C_below hC8 hW)).mono fun e w' h => by
                        obtain ⟨v, rfl, hr, hb⟩ := h
                        rw [hmc] at hr
                        rw [hmt]
                        obtain ⟨A, c, rfl, -, hc⟩ := Kd.R_reads hr
                        exact ⟨A, c, rfl, Lib.hid hc, Lib.hid (hW.trans (hb.mono hW.size))⟩
                    have hpk := hp.pick
                    have hpo := hp.ok
                    rw [hmc] at hpk hpo
                    have HC15 : Hid (∀ W A c, Below w5.heap.size w5 W → k47.C W A mc.length mc → Calls Try.prog 15 #[.slice A mc.length c] W fun e w' => ∃ B d, e = .returned (.slice B 10 d) ∧ Hid (RowF w' B 10 (fun k => .int .u64 (at0 p k))) ∧ Hid (Below w5.heap.size w5 w')) := Lib.hid fun W A c hW hC =>
                      (pick_any A c mc hpo W hC).mono fun e w' h => by
                        obtain ⟨B, d, rfl, hr, hb⟩ := h
                        rw [hpk, hp.len] at hr ⊢
                        exact ⟨B, d, rfl, Lib.hid hr, Lib.hid (hW.trans (hb.mono hW.size))⟩
                    have HEV : Hid (∀ W B d, Below w5.heap.size w5 W → RowF W B 10 (fun k => .int .u64 (at0 p k)) → Calls Try.prog 18 #[.agg #[.slice A0 l0.length c0], .slice B 10 d] W fun e w' => e = .returned (.bool true) ∧ Hid (Below W.heap.size W w') ∧ Hid (Below w5.heap.size w5 w')) := Lib.hid fun W B d hW hv => by
                      have h := eval_any A0 B c0 d l0 p HP.out hp.lt W (Kd.C_below HR.out (HB5.out.trans (hW.mono HB5.out.size))) HC.out (by rw [hp.len]; exact hv)
                      rw [hp.len] at h
                      exact h.mono fun e w' h => ⟨by rw [h.1, hp.ev1], Lib.hid h.2, Lib.hid (hW.trans (h.2.mono hW.size))⟩
                    have HEV1 : Hid (∀ W B d, Below w5.heap.size w5 W → RowF W B 10 (fun k => .int .u64 (at0 p k)) → Calls Try.prog 18 #[.agg #[.slice A1 l1.length c1], .slice B 10 d] W fun e w' => e = .returned (.bool true) ∧ Hid (Below w5.heap.size w5 w')) := Lib.hid fun W B d hW hv => by
                      have h := eval_any A1 B c1 d l1 p HP1.out hp.lt W (Kd.C_below HR1.out (HB5.out.trans (hW.mono HB5.out.size))) HC1.out (by rw [hp.len]; exact hv)
                      rw [hp.len] at h
                      exact h.mono fun e w' h => ⟨by rw [h.1, hp.ev2], Lib.hid (hW.trans (h.2.mono hW.size))⟩
                    clear hcv hmt h8 hC8 hoj hp hmc hpk hpo
                    go_wp2_with fail
                    go_region_with (((with_reducible refine (HC19.out _ ?hW).mono ?_); (case hW => repeat (first | exact HI.out | refine Below.drew ?_)); rintro e W ⟨A9, c9, rfl, HMC, HI⟩))
                    all_goals
                      go_wp2_with fail
                      go_at_call 15
                      refine (HC15.out _ _ _ ?hW ?hC).mono ?_
                      case hW => repeat (first | exact HI.out | refine Below.drew ?_)
                      case hC => repeat (first | exact HMC.out | refine Kd.C_drew ?_)
                      rintro e W8 ⟨B, d, rfl, HROW, HI8⟩
                      obtain ⟨d3, d4, k3, -⟩ := HD.out W8 (HW5.out.trans (HI8.out.mono HW5.out.size))
                      have KK3 := Lib.hid k3
                      clear k3
                      go_wp2_with (refine wpList_load_at rfl 24 (.tmp 3) rfl ⟨g3, 0, none⟩ rfl #[.slice A0 l0.length c0] _ (Lies.of_block KK3.out) Try.underlying24 rfl info24s ?_)
                      go_at_call 18
                      refine (HEV.out _ _ _ HI8.out HROW.out).mono ?_
                      rintro e W9 ⟨rfl, HBB, HI9⟩
                      have HROW9 := Lib.hid (HROW.out.below HBB.out)
                      clear d3 d4
                      obtain ⟨d3, d4, -, -⟩ := HD.out W9 (HW5.out.trans (HI9.out.mono HW5.out.size))
                      go_wp2_with fail
                      go_at_call 18
                      refine (HEV1.out _ _ _ HI9.out HROW9.out).mono ?_
                      rintro e WA ⟨rfl, HIA⟩
                      have HBA := Lib.hid (HB5.out.trans (HIA.out.mono HB5.out.size))
                      clear d3 d4
                      go_wp2_with fail
                      go_at_call 13
                      refine (awake_any WA).mono ?_
                      rintro e w99 ⟨rfl, hb⟩
                      have HB99 := Lib.hid (HBA.out.trans (hb.mono HBA.out.size))
                      clear hb
                      go_wp2_with fail
                      go_ret
                      exact ⟨rfl, HB99.out⟩
                · obtain rfl : j = cb.length := by omega
                  have HNX := Lib.hid (HNIS.out HNJ.out)
                  go_wp2_with fail
                  go_roundw
                  case rel => exact ⟨i + 1, by go_num, by omega, HNX, HX.out⟩
                  case measure => simp [intOf] <;> omega
            · obtain rfl : i = ca.length := by omega
              have := HNONE.out HNI.out
              rw [HAB.out] at this
              cases this
      · have q5 : (apartE l0 l1 != 0) = true := by simpa using hE
        rw [hF]
        obtain ⟨E, hEE⟩ : ∃ E, apartE l0 l1 = E := ⟨_, rfl⟩
        rw [hEE] at q5 ⊢
        clear hE hF hEE HA
        go_wp2_with fail
        go_at_call 13
        refine (awake_any w3).mono ?_
        rintro e w99 ⟨rfl, hb⟩
        have HB99 := Lib.hid (HB3.out.trans (hb.mono HB3.out.size))
        clear hb
        go_wp2_with fail
        go_ret
        exact ⟨rfl, HB99.out⟩
    · have q0 : ¬ (30 : Int) < (l0.length : Int) := by omega
      have q1 : (30 : Int) < (l1.length : Int) := by omega
      go_enter Try.func11, Try.ntmps11
      go_wp2_with (first
        | (refine wpList_box rfl 3 rfl #[.slice A0 l0.length c0] 24 ?hr ?_; (case hr => first | (go_simp; done) | (go_simp; rfl)); intro g3 w1 hg3 k3 hb3; have K3 := Lib.hid k3; have HB1 := Lib.hid hb3; clear hb3 k3)
        | (refine wpList_box rfl 4 rfl #[.slice A1 l1.length c1] 24 ?hr ?_; (case hr => first | (go_simp; done) | (go_simp; rfl)); intro g4 w2 hg4 k4 hb4; have K4 := Lib.hid k4; have K32 := Lib.hid (blk_below K3.out hb4); have HB2 := Lib.hid (HB1.out.trans (hb4.mono HB1.out.size)); have d3 : w2.cell? ⟨g3, 0, none⟩ = some (.slice A0 l0.length c0) := blk_cell K32.out 0; have d4 : w2.cell? ⟨g4, 0, none⟩ = some (.slice A1 l1.length c1) := blk_cell K4.out 0; clear hb4 k4)
        | (refine wpList_load_at rfl 24 (.tmp 3) rfl ⟨g3, 0, none⟩ rfl #[.slice A0 l0.length c0] _ (Lies.of_block K32.out) Try.underlying24 rfl info24s ?_)
        | (refine wpList_load_at rfl 24 (.tmp 4) rfl ⟨g4, 0, none⟩ rfl #[.slice A1 l1.length c1] _ (Lies.of_block K4.out) Try.underlying24 rfl info24s ?_))
      go_at_call 13
      refine (awake_any w2).mono ?_
      rintro e w99 ⟨rfl, hb⟩
      have HB99 := Lib.hid (HB2.out.trans (hb.mono HB2.out.size))
      clear hb
      go_wp2_with fail
      go_ret
      exact ⟨rfl, HB99.out⟩
  · have q0 : (30 : Int) < (l0.length : Int) := by omega
    go_enter Try.func11, Try.ntmps11
    go_wp2_with (first
      | (refine wpList_box rfl 3 rfl #[.slice A0 l0.length c0] 24 ?hr ?_; (case hr => first | (go_simp; done) | (go_simp; rfl)); intro g3 w1 hg3 k3 hb3; have K3 := Lib.hid k3; have HB1 := Lib.hid hb3; clear hb3 k3)
      | (refine wpList_box rfl 4 rfl #[.slice A1 l1.length c1] 24 ?hr ?_; (case hr => first | (go_simp; done) | (go_simp; rfl)); intro g4 w2 hg4 k4 hb4; have K4 := Lib.hid k4; have K32 := Lib.hid (blk_below K3.out hb4); have HB2 := Lib.hid (HB1.out.trans (hb4.mono HB1.out.size)); have d3 : w2.cell? ⟨g3, 0, none⟩ = some (.slice A0 l0.length c0) := blk_cell K32.out 0; have d4 : w2.cell? ⟨g4, 0, none⟩ = some (.slice A1 l1.length c1) := blk_cell K4.out 0; clear hb4 k4)
      | (refine wpList_load_at rfl 24 (.tmp 3) rfl ⟨g3, 0, none⟩ rfl #[.slice A0 l0.length c0] _ (Lies.of_block K32.out) Try.underlying24 rfl info24s ?_)
      | (refine wpList_load_at rfl 24 (.tmp 4) rfl ⟨g4, 0, none⟩ rfl #[.slice A1 l1.length c1] _ (Lies.of_block K4.out) Try.underlying24 rfl info24s ?_))
    go_at_call 13
    refine (awake_any w2).mono ?_
    rintro e w99 ⟨rfl, hb⟩
    have HB99 := Lib.hid (HB2.out.trans (hb.mono HB2.out.size))
    clear hb
    go_wp2_with fail
    go_ret
    exact ⟨rfl, HB99.out⟩

/-! ### The row -/
set_option maxRecDepth 100000 in
theorem lifted (os : Os) (started : os.Started) (H : Type) (enc : TypeId × Value → H) :
    ReturnsInHanded {} Try.checked os 11 .any (Rows.predClashSpec.pre6 enc Try.prog Try.f11 Rows.predClashRow.domain false) (Rows.predClashSpec.post enc Try.prog Try.f11 false true false false) := by
  refine returnsInHanded_of_change_sized (C := Try.checked) own started (by kernel_rfl) Try.func11
    (ChangeSpec.witness6 (enc := enc) (C := Try.checked) false ⟨#[], #[.agg #[.slice none 0 0], .agg #[.slice none 0 0], .slice none 0 0], []⟩ 8 (by kernel_rfl) (by kernel_rfl) (by kernel_rfl) (by kernel_rfl)) ?_
  intro W base args ds gs before hval0 hW hcnd hsz _
  have hval : ∀ (j : Nat) t v, Try.f11.params[j]? = some t → args[j]? = some v → Value.okWide Try.prog W .any base t v := hval0
  have hW' := hW
  obtain ⟨p, q, hA0, hV, rfl, hfz, hnd⟩ := hW
  have hA : DataW.TrodAll enc Try.prog W 0 (fun _ => true) true Try.f11.params.toList args.toList ds p := hA0
  rw [Try.params11] at hA hval hsz
  obtain ⟨v0, vs0, d0, ds0, p0, q0, hargs, rfl, rfl, h0, r0⟩ := trodAll_cons hA
  obtain ⟨v1, vs1, d1, ds1, p1, q1, rfl, rfl, rfl, h1, r1⟩ := trodAll_cons r0
  obtain ⟨v2, vs2, d2, ds2, p2, q2, rfl, rfl, rfl, h2, r2⟩ := trodAll_cons r1
  obtain ⟨rfl, rfl, rfl⟩ := trodAll_nil r2
  obtain rfl : args = #[v0, v1, v2] := by cases args; simp_all
  obtain ⟨rfl, rfl⟩ := trodVars_none hV
  have k0 := h0
  have lt0 : ∀ x ∈ p0, x.block < W.heap.size := by obtain ⟨m, hm⟩ := k0; exact DataW.trod_lt m _ _ _ hm
  obtain ⟨A0, c0, l0, rfl, x0, y0, z0⟩ := open_pred (hval 0 24 v0 rfl rfl) h0
  have k1 := h1
  have lt1 : ∀ x ∈ p1, x.block < W.heap.size := by obtain ⟨m, hm⟩ := k1; exact DataW.trod_lt m _ _ _ hm
  obtain ⟨A1, c1, l1, rfl, x1, y1, z1⟩ := open_pred (hval 1 24 v1 rfl rfl) h1
  have k2 := h2
  have lt2 : ∀ x ∈ p2, x.block < W.heap.size := by obtain ⟨m, hm⟩ := k2; exact DataW.trod_lt m _ _ _ hm
  obtain ⟨A2, c2, l2, rfl, z2, y2⟩ := open_vals (hval 2 30 v2 rfl rfl) h2
  clear hA0 hval0
  refine (walk A0 c0 l0 x0 z0 A1 c1 l1 x1 z1 A2 c2 l2 z2 W y0 y1 y2).mono fun e W' ⟨he, bel⟩ => ?_
  subst he
  exact ⟨_, rfl, _, _, _, [], _, [], hW', trodAll_mk1 (shut_bool Try.underlying4 _), (trodAll_cons_mk (Below.trod laidOut (by kernel_rfl) (of_decide_eq_true (by kernel_rfl)) k0 bel lt0) (trodAll_cons_mk (Below.trod laidOut (by kernel_rfl) (of_decide_eq_true (by kernel_rfl)) k1 bel lt1) (trodAll_cons_mk (Below.trod laidOut (by kernel_rfl) (of_decide_eq_true (by kernel_rfl)) k2 bel lt2) trodAll_mk0))), rfl, bel.frame _, fun h => by cases h⟩

theorem over : Rows.predClashRow.holds Try.pinned (OpenSpec.ofChange Rows.predClashSpec) :=
  OpenClaim.holds_of_wide 11 Try.f11 rfl rfl rfl rfl rfl rfl rfl ⟨rfl, rfl, rfl, rfl, rfl⟩ rfl rfl rfl rfl rfl (by kernel_rfl) Try.func11 (by kernel_rfl)
    (of_decide_eq_true (by kernel_rfl)) (by unfold Func.isWrapper; first | (rw [if_pos (by decide +kernel)]; kernel_rfl) | (rw [if_neg (by decide +kernel)]; exact ⟨rfl, rfl⟩))
    (fun os started H enc _ => lifted os started H enc)

/-- The statement. -/
theorem proved : Rows.PredClashSaid := over
#print axioms proved
end Go.Proofs.Ytmhjnfkhfjejeaa.predClash
