import Derived.Test.YtmhjnfkhfjejeaaZ2J4
namespace Go.Proofs.Ytmhjnfkhfjejeaa
set_option linter.unusedVariables false
set_option linter.unusedSimpArgs false
open Go.RowKit Go.Proofs.YtmhjnfkhfjejeaaW.PrintWords Go.Proofs.YtmhjnfkhfjejeaaW.PrintLast Go.Proofs.YtmhjnfkhfjejeaaW.PrintMore
open PPredCubes
/-! ### The document's Disjoint -/
theorem meetRow_nil (a : Bx) (bs : List Bx) (j : Nat) : (meetRow a bs j).length = 0 ↔ rowM a bs j = false := by
  induction j with
  | zero => simp [meetRow, rowM]
  | succ j ih =>
    simp only [meetRow, rowM]
    cases hm : meetB a (atB bs j) with
    | true => rw [if_pos rfl, List.length_append, List.length_singleton]; simp
    | false => rw [if_neg (by decide), Bool.or_false]; exact ih
theorem bothTo_nil (l bs : List Bx) (i : Nat) : (bothTo l bs i).length = 0 ↔ anyM l bs i = false := by
  induction i with
  | zero => simp [bothTo, anyM]
  | succ i ih =>
    simp only [bothTo, anyM, List.length_append, Bool.or_eq_false_iff]
    rw [← ih, ← meetRow_nil]; omega
theorem both_zero (l bs : List Bx) (q : Nat) (hq : ((bothL l bs).map cubeL).length = q) : (q = 0 ∧ anyM l bs l.length = false) ∨ (q ≠ 0 ∧ anyM l bs l.length = true) := by
  rw [List.length_map] at hq
  have := bothTo_nil l bs l.length
  cases ha : anyM l bs l.length with
  | false => left; exact ⟨hq ▸ this.2 ha, rfl⟩
  | true => right; exact ⟨fun e => by have := this.1 (hq.trans e); rw [ha] at this; exact Bool.noConfusion this, rfl⟩
set_option maxHeartbeats 4000000 in
set_option maxRecDepth 100000 in
theorem rdisj_any (A A2 : Option Addr) (c c2 : Nat) (ns ms : List S52) (hP : okP ns) (hP2 : okP ms) (w : World) (hr : k52.C w A ns.length ns) (hr2 : k52.C w A2 ms.length ms) (hc : ns.length ≤ c) (hc2 : ms.length ≤ c2) :
    Calls Try.prog 34 #[.agg #[.slice A ns.length c], .agg #[.slice A2 ms.length c2]] w fun e w' => e = apartRes ns ms ∧ Below w.heap.size w w' := by
  have HR := Lib.hid hr
  have HP := Lib.hid hP
  have HC := Lib.hid hc
  have HR2 := Lib.hid hr2
  have HP2 := Lib.hid hP2
  have HC2 := Lib.hid hc2
  clear hr hP hc hr2 hP2 hc2
  go_enter Try.func34, Try.ntmps34
  go_wp2_with (first
    | (refine wpList_box rfl 2 rfl #[.slice A ns.length c] 24 ?hr ?_; (case hr => first | (go_simp; done) | (go_simp; rfl)); intro g1 w1 hg1 k1 hb1; have K1 := Lib.hid k1; have HB1 := Lib.hid hb1; clear hb1 k1)
    | (refine wpList_box rfl 3 rfl #[.slice A2 ms.length c2] 24 ?hr ?_; (case hr => first | (go_simp; done) | (go_simp; rfl)); intro g2 w2 hg2 k2 hb2; have K2 := Lib.hid k2; have K12 := Lib.hid (blk_below K1.out hb2); have HB2 := Lib.hid (HB1.out.trans (hb2.mono HB1.out.size)); have d1 : w2.cell? ⟨g1, 0, none⟩ = some (.slice A ns.length c) := blk_cell K12.out 0; clear hb2 k2 K1))
  go_at_call 25
  refine (rright_any A c ns HP.out w2 (Kd.C_below HR.out HB2.out) HC.out).mono ?_
  rintro e w3 ⟨rfl, hb3⟩
  have K13 := Lib.hid (blk_below K12.out hb3)
  have K23 := Lib.hid (blk_below K2.out hb3)
  have HB3 := Lib.hid (HB2.out.trans (hb3.mono HB2.out.size))
  have d2 : w3.cell? ⟨g1, 0, none⟩ = some (.slice A ns.length c) := blk_cell K13.out 0
  have d3 : w3.cell? ⟨g2, 0, none⟩ = some (.slice A2 ms.length c2) := blk_cell K23.out 0
  clear hb3 K12 K2 HB2 HB1 hg1 hg2 d1
  cases hrt : rightB ns with
  | false =>
    have HRT := Lib.hid hrt
    clear hrt
    go_wp2_with fail
    try rw [Exit.noGoto_ret]
    go_ret2
    exact ⟨apart1 HRT.out, HB3.out⟩
  | true =>
    have HRT := Lib.hid hrt
    clear hrt
    go_wp2_with fail
    go_at_call 25
    refine (rright_any A2 c2 ms HP2.out w3 (Kd.C_below HR2.out HB3.out) HC2.out).mono ?_
    rintro e w4 ⟨rfl, hb4⟩
    have K14 := Lib.hid (blk_below K13.out hb4)
    have K24 := Lib.hid (blk_below K23.out hb4)
    have HB4 := Lib.hid (HB3.out.trans (hb4.mono HB3.out.size))
    have d4 : w4.cell? ⟨g1, 0, none⟩ = some (.slice A ns.length c) := blk_cell K14.out 0
    clear hb4 K13 K23 HB3 d2 d3
    cases hrt : rightB ms with
    | false =>
      have HRT2 := Lib.hid hrt
      clear hrt
      go_wp2_with fail
      try rw [Exit.noGoto_ret]
      go_ret2
      exact ⟨apart2 HRT2.out, HB4.out⟩
    | true =>
      have HRT2 := Lib.hid hrt
      clear hrt
      go_wp2_with fail
      go_at_call 31
      refine (rcubes_any A c ns HP.out w4 (Kd.C_below HR.out HB4.out) HC.out).mono ?_
      rintro e w5 ⟨v5, rfl, ⟨A5, c5, ev5, hle5, hf5⟩, hb5⟩
      subst ev5
      have K25 := Lib.hid (blk_below K24.out hb5)
      have HB5 := Lib.hid (HB4.out.trans (hb5.mono HB4.out.size))
      have HC5 := Lib.hid (Kd.F_now hf5)
      have HLE5 := Lib.hid hle5
      have d5 : w5.cell? ⟨g2, 0, none⟩ = some (.slice A2 ms.length c2) := blk_cell K25.out 0
      clear hb5 hf5 hle5 K14 K24 HB4 d4
      cases hbo : boxesOk ns with
      | false =>
        have HBO := Lib.hid hbo
        rw [show cubesE ns = 44 by unfold cubesE; rw [HRT.out, hbo]; rfl]
        clear hbo
        go_wp2_with fail
        go_at_call 31
        refine (rcubes_any A2 c2 ms HP2.out w5 (Kd.C_below HR2.out HB5.out) HC2.out).mono ?_
        rintro e w6 ⟨v6, rfl, -, hb6⟩
        have HB6 := Lib.hid (HB5.out.trans (hb6.mono HB5.out.size))
        clear hb6 d5
        go_wp2_with fail
        try rw [Exit.noGoto_ret]
        go_ret2
        exact ⟨apart3 HRT.out HRT2.out HBO.out, HB6.out⟩
      | true =>
        have HBO := Lib.hid hbo
        rw [show cubesE ns = 0 by unfold cubesE; rw [HRT.out, hbo]; rfl]
        clear hbo
        go_wp2_with fail
        go_at_call 31
        refine (rcubes_any A2 c2 ms HP2.out w5 (Kd.C_below HR2.out HB5.out) HC2.out).mono ?_
        rintro e w6 ⟨v6, rfl, ⟨A6, c6, ev6, hle6, hf6⟩, hb6⟩
        subst ev6
        have HB6 := Lib.hid (HB5.out.trans (hb6.mono HB5.out.size))
        have HC56 := Lib.hid (Kd.C_below HC5.out hb6)
        have HC6 := Lib.hid (Kd.F_now hf6)
        have HLE6 := Lib.hid hle6
        clear hb6 hf6 hle6 d5
        cases hbo2 : boxesOk ms with
        | false =>
          have HBO2 := Lib.hid hbo2
          rw [show cubesE ms = 44 by unfold cubesE; rw [HRT2.out, hbo2]; rfl]
          clear hbo2
          go_wp2_with fail
          try rw [Exit.noGoto_ret]
          go_ret2
          exact ⟨apart4 HRT.out HRT2.out HBO2.out, HB6.out⟩
        | true =>
          rw [show cubesE ms = 0 by unfold cubesE; rw [HRT2.out, hbo2]; rfl]
          have HAP := Lib.hid (fun (b : Bool) => apart5 HRT.out HRT2.out HBO.out hbo2 (b := b))
          obtain ⟨K, hK⟩ := (both_f (boxes_parts HP.out HRT.out HBO.out []).1 (boxes_parts HP2.out HRT2.out hbo2 []).1 (Nat.le_trans (boxesL_len ns) (by decide)) (Nat.le_trans (boxesL_len ms) (by decide))).at_
          rw [← cubesL_map HRT.out HBO.out, ← cubesL_map HRT2.out hbo2] at hK
          have hz := both_zero (boxesL ns) (boxesL ms)
          obtain ⟨R, hR⟩ : ∃ R, (bothL (boxesL ns) (boxesL ms)).map cubeL = R := ⟨_, rfl⟩
          rw [hR] at hK hz
          obtain ⟨x, hx⟩ : ∃ x, anyM (boxesL ns) (boxesL ms) (boxesL ns).length = x := ⟨_, rfl⟩
          rw [hx] at hz HAP
          have HZ := Lib.hid hz
          have HKF := Lib.hid hK
          clear hbo2 hK hz hR hx
          go_wp2_with fail
          go_at_call 59
          refine (droverref16_both.calls K A5 c5 (cubesL ns) A6 c6 (cubesL ms) R w6 HC56.out HLE5.out HC6.out HLE6.out HKF.out).mono ?_
          rintro e w7 ⟨v7, rfl, hv7, hb7⟩
          have HB7 := Lib.hid (HB6.out.trans (hb7.mono HB6.out.size))
          obtain ⟨A7, c7, ev7⟩ := Kd.N_slice (Kd.S_N hv7)
          subst ev7
          obtain ⟨q, hq⟩ : ∃ q, R.length = q := ⟨_, rfl⟩
          have HQ := Lib.hid hq
          rw [hq]
          clear hb7 hv7 hq
          rcases HZ.out q HQ.out with ⟨rfl, rfl⟩ | ⟨hq0, rfl⟩
          · go_wp2_with fail
            go_ret2
            exact ⟨HAP.out true rfl, HB7.out⟩
          · have hqi : ((q : Int) == 0) = false := by simpa using hq0
            go_wp2_with fail
            go_ret2
            exact ⟨HAP.out false rfl, HB7.out⟩
end Go.Proofs.Ytmhjnfkhfjejeaa
