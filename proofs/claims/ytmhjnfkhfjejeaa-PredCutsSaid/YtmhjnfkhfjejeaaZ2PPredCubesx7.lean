-- Printed by the kit for this claim; unused laws left out
import Derived.Test.YtmhjnfkhfjejeaaZ2PPredCubesx0
import Derived.Test.YtmhjnfkhfjejeaaZ2PPredCubesx6
namespace Go.Proofs.Ytmhjnfkhfjejeaa.PPredCubes
open Go.RowKit Go.Proofs.YtmhjnfkhfjejeaaW.PrintWords Go.Proofs.YtmhjnfkhfjejeaaW.PrintLast Go.Proofs.YtmhjnfkhfjejeaaW.PrintMore
attribute [local go_sem] max2_int min2_int max_two min_two max_three min_three max_four min_four   -- for this text's walks alone
set_option linter.unusedVariables false
set_option linter.unusedSimpArgs false

/-! ### droverref16_nodeRight: function 54 -/
mutual
def droverref16_nodeRight.j0 : Nat → Int → Int → Int → Bool → Int → Int → Int → Int → List Int → Option (Bool)
  | 0, _, _, _, _, _, _, _, _, _ => none
  | k + 1, x1, x5, x6, x15, x192000, x192001, x192002, x192003, x192004 => if x15 = true then (droverref16_nodeRight.j1 k x1 x5 12 x192000 x192001 x192002 x192003 x192004) else (droverref16_nodeRight.j1 k x1 x5 x6 x192000 x192001 x192002 x192003 x192004)
def droverref16_nodeRight.j1 : Nat → Int → Int → Int → Int → Int → Int → Int → List Int → Option (Bool)
  | 0, _, _, _, _, _, _, _, _ => none
  | k + 1, x1, x5, x6, x192000, x192001, x192002, x192003, x192004 => if x192000 = 6 then (droverref16_nodeRight.j2 k x1 1 1 x192000 x192001 x192002 x192003 x192004) else (droverref16_nodeRight.j2 k x1 x5 x6 x192000 x192001 x192002 x192003 x192004)
def droverref16_nodeRight.j2 : Nat → Int → Int → Int → Int → Int → Int → Int → List Int → Option (Bool)
  | 0, _, _, _, _, _, _, _, _ => none
  | k + 1, x1, x5, x6, x192000, x192001, x192002, x192003, x192004 => if x192000 < 1 then (droverref16_nodeRight.j3 k x1 true x192000 x192001 x192002 x192003 x192004) else (if x192000 > 6 then (droverref16_nodeRight.j3 k x1 true x192000 x192001 x192002 x192003 x192004) else (if (x192004.length : Int) < x5 then (droverref16_nodeRight.j3 k x1 true x192000 x192001 x192002 x192003 x192004) else (droverref16_nodeRight.j3 k x1 (decide ((x192004.length : Int) > x6)) x192000 x192001 x192002 x192003 x192004)))
def droverref16_nodeRight.j3 : Nat → Int → Bool → Int → Int → Int → Int → List Int → Option (Bool)
  | 0, _, _, _, _, _, _, _ => none
  | k + 1, x1, x40, x192000, x192001, x192002, x192003, x192004 => if x40 = true then (some false) else (droverref16_nodeRight.l0 k x1 0 x192000 x192001 x192002 x192003 x192004)
def droverref16_nodeRight.l0 : Nat → Int → Int → Int → Int → Int → Int → List Int → Option (Bool)
  | 0, _, _, _, _, _, _, _ => none
  | k + 1, x1, x7, x192000, x192001, x192002, x192003, x192004 => if x7 < (x192004.length : Int) then (if 0 ≤ x7 then (if (rd x192004 x7) < 0 then (some false) else (if (rd x192004 x7) ≥ x1 then (some false) else (droverref16_nodeRight.l0 k x1 (wrap64 (x7 + 1)) x192000 x192001 x192002 x192003 x192004))) else (none)) else (if x192000 = 3 then ((droverref16_TestRight.f x192001 x192002 x192003).bind fun t194 => (some t194)) else (if x192001 = 0 then (if x192002 = 0 then (some (x192003 == 0)) else (some false)) else (some false)))
end
def droverref16_nodeRight.f (k : Nat) (a0_0 : Int) (a0_1 : Int) (a0_2 : Int) (a0_3 : Int) (l0_4 : List Int) (a1 : Int) : Option (Bool) := if a0_0 = 4 then (droverref16_nodeRight.j0 k a1 0 0 true a0_0 a0_1 a0_2 a0_3 l0_4) else (droverref16_nodeRight.j0 k a1 0 0 (a0_0 == 5) a0_0 a0_1 a0_2 a0_3 l0_4)
set_option maxHeartbeats 8000000 in
set_option maxRecDepth 100000 in
theorem droverref16_nodeRight.calls (k : Nat) (a0_0 : Int) (a0_1 : Int) (a0_2 : Int) (a0_3 : Int) (A0_4 : Option Addr) (c0_4 : Nat) (l0_4 : List Int) (a1 : Int) (r : Bool) (w : World) (hr0_4 : Kd.C (Kd.int .i64) w A0_4 l0_4.length l0_4) (hc0_4 : l0_4.length ≤ c0_4) (h : droverref16_nodeRight.f k a0_0 a0_1 a0_2 a0_3 l0_4 a1 = some r) :
    Calls Try.prog 54 #[.agg #[.int .i64 a0_0, .int .i64 a0_1, .int .u64 a0_2, .int .u64 a0_3, .slice A0_4 l0_4.length c0_4], .int .i64 a1] w fun e w' => e = .returned (.bool r) ∧ Below w.heap.size w w' := by
  have hu52 := Try.underlying52
  have hu47 := Try.underlying47
  have HR0_4 := Aside0.mk hr0_4
  have HC0_4 := Aside0.mk hc0_4
  clear hr0_4 hc0_4
  have HB := Aside0.mk (Below.refl w.heap.size w)
  have H : (if a0_0 = 4 then (droverref16_nodeRight.j0 k a1 0 0 true a0_0 a0_1 a0_2 a0_3 l0_4) else (droverref16_nodeRight.j0 k a1 0 0 (a0_0 == 5) a0_0 a0_1 a0_2 a0_3 l0_4)) = some r := h
  clear h
  have HC3 := Aside0.mk H
  clear H
  go_enter Try.func54, Try.ntmps54
  go_upto_region 3 with (first | ((with_reducible refine gate_dst (N := 2) rfl ?_); (try (refine gate_guard (by rfl) ?_; dsimp only)); refine box_event ?hg (N := 2) ?hd (cs := #[.int .i64 a0_0, .int .i64 a0_1, .int .u64 a0_2, .int .u64 a0_3, .slice A0_4 l0_4.length c0_4]) (t := 52) ?hr ?_; (case hd => rfl); (case hg => rfl); (case hr => first | (go_simp; done) | (go_simp; rfl)); intro gb191 hg w4 hbox hb; have n0_ := Aside0.mk (below_step (by repeat (first | (with_reducible first | exact HB.out | apply below_alloc | apply pw_below_drewN | apply below_drew1) | exact HB.out)) hb); have n1_ := Aside0.mk (hbox); have n2_ := Aside0.mk ((by rw [hg]; exact (below_size (by repeat (first | (with_reducible first | exact HB.out | apply below_alloc | apply pw_below_drewN | apply below_drew1) | exact HB.out))) : w.heap.size ≤ gb191)); have n3_ := Aside0.mk ((by rw [hg]; exact (below_size (by repeat (first | (with_reducible first | exact HB.out | apply below_alloc | apply pw_below_drewN | apply below_drew1) | exact HB.out))) : w.heap.size ≤ gb191)); clear HB; have HB := n0_; have BK191 := n1_; have GW191 := n2_; have GE191 := n3_; clear n0_ n1_ n2_ n3_; clear hb hbox hg))
  (try simp only [Act.put, List.setIfInBounds_toArray, List.set_cons_zero, List.set_cons_succ])
  go_cut [15] (fun v15 wc => ∃ (kq : Nat) (x15_2 : Bool), v15 = .bool x15_2 ∧ Aside0 (droverref16_nodeRight.j0 kq a1 0 0 x15_2 a0_0 a0_1 a0_2 a0_3 l0_4 = some r) ∧ Aside0 (kq ≤ k) ∧ Aside0 (wc.heap[gb191]? = some (.cells #[.int .i64 a0_0, .int .i64 a0_1, .int .u64 a0_2, .int .u64 a0_3, (.slice A0_4 l0_4.length c0_4)] 52 (0, 0))) ∧ Aside0 (Below w.heap.size w wc))
  case first =>
    have H := HC3.out
    clear HC3
    by_cases c5 : a0_0 = 4
    · rw [if_pos c5] at H
      have c5b0 : (a0_0 == 4) = true := beq_iff_eq.mpr c5
      have c5b1 : (a0_0 != 4) = false := bne_eq_false_iff_eq.mpr c5
      clear c5
      (first | rw [c5b0] | (simp only [i64_w, i32_w]; rw [c5b0]) | skip)
      have H' := Aside0.mk H
      clear H
      have hcz6_0 : w4.cell? ⟨gb191, 0, none⟩ = some (.int .i64 a0_0) := (blk_cell BK191.out 0).trans rfl
      have hcz6_1 : w4.cell? ⟨gb191, 1, none⟩ = some (.int .i64 a0_1) := (blk_cell BK191.out 1).trans rfl
      have hcz6_2 : w4.cell? ⟨gb191, 2, none⟩ = some (.int .u64 a0_2) := (blk_cell BK191.out 2).trans rfl
      have hcz6_3 : w4.cell? ⟨gb191, 3, none⟩ = some (.int .u64 a0_3) := (blk_cell BK191.out 3).trans rfl
      have hcz6_4 : w4.cell? ⟨gb191, 4, none⟩ = some (.slice A0_4 l0_4.length c0_4) := (blk_cell BK191.out 4).trans rfl
      have hfz6_0 := blk_frozen BK191.out 0
      have hfz6_1 := blk_frozen BK191.out 1
      have hfz6_2 := blk_frozen BK191.out 2
      have hfz6_3 := blk_frozen BK191.out 3
      have hfz6_4 := blk_frozen BK191.out 4
      go_wp2
      go_meet
      case rel => exact ⟨_, (true), (by first | rfl | (simp; done) | (simp [*]; done)), H', ⟨by first | omega | exact Nat.le_refl _⟩, ⟨by (with_reducible repeat (first | refine blk_drewN ?_ _ | refine blk_drew ?_ | refine blk_alloc ?_ _)); exact BK191.out⟩, ⟨by repeat (first | (with_reducible first | exact HB.out | apply below_alloc | apply pw_below_drewN | apply below_drew1 | refine below_set ?_ GE191.out) | exact HB.out)⟩⟩
    · rw [if_neg c5] at H
      have c5b0 : (a0_0 == 4) = false := beq_eq_false_iff_ne.mpr c5
      have c5b1 : (a0_0 != 4) = true := bne_iff_ne.mpr c5
      (first | rw [c5b0] | (simp only [i64_w, i32_w]; rw [c5b0]) | skip)
      have H' := Aside0.mk H
      clear H
      have hcz7_0 : w4.cell? ⟨gb191, 0, none⟩ = some (.int .i64 a0_0) := (blk_cell BK191.out 0).trans rfl
      have hcz7_1 : w4.cell? ⟨gb191, 1, none⟩ = some (.int .i64 a0_1) := (blk_cell BK191.out 1).trans rfl
      have hcz7_2 : w4.cell? ⟨gb191, 2, none⟩ = some (.int .u64 a0_2) := (blk_cell BK191.out 2).trans rfl
      have hcz7_3 : w4.cell? ⟨gb191, 3, none⟩ = some (.int .u64 a0_3) := (blk_cell BK191.out 3).trans rfl
      have hcz7_4 : w4.cell? ⟨gb191, 4, none⟩ = some (.slice A0_4 l0_4.length c0_4) := (blk_cell BK191.out 4).trans rfl
      have hfz7_0 := blk_frozen BK191.out 0
      have hfz7_1 := blk_frozen BK191.out 1
      have hfz7_2 := blk_frozen BK191.out 2
      have hfz7_3 := blk_frozen BK191.out 3
      have hfz7_4 := blk_frozen BK191.out 4
      go_wp2
      go_meet
      case rel => exact ⟨_, ((a0_0 == 5)), (by first | rfl | (simp; done) | (simp [*]; done)), H', ⟨by first | omega | exact Nat.le_refl _⟩, ⟨by (with_reducible repeat (first | refine blk_drewN ?_ _ | refine blk_drew ?_ | refine blk_alloc ?_ _)); exact BK191.out⟩, ⟨by repeat (first | (with_reducible first | exact HB.out | apply below_alloc | apply pw_below_drewN | apply below_drew1 | refine below_set ?_ GE191.out) | exact HB.out)⟩⟩
  case rest =>
    clear HC3
    try clear p2
    try clear c5
    try clear c5b0
    try clear c5b1
    try clear hcz6_0
    try clear hcz6_1
    try clear hcz6_2
    try clear hcz6_3
    try clear hcz6_4
    try clear hcz7_0
    try clear hcz7_1
    try clear hcz7_2
    try clear hcz7_3
    try clear hcz7_4
    try clear hfz6_0
    try clear hfz6_1
    try clear hfz6_2
    try clear hfz6_3
    try clear hfz6_4
    try clear hfz7_0
    try clear hfz7_1
    try clear hfz7_2
    try clear hfz7_3
    try clear hfz7_4
    obtain ⟨kq, x15_2, rfl, HA, HJ2, BK191, HB⟩ := hcut
    cases kq with
    | zero => exact absurd HA.out (by simp [droverref16_nodeRight.j0])
    | succ kj2 =>
      have H := HA.out
      clear HA
      simp only [droverref16_nodeRight.j0] at H
      have HC8 := Aside0.mk H
      clear H
      go_upto_if 15 with (fail)
      go_cut [6] (fun v6 wc => ∃ (kq : Nat) (x6_7 : Int), v6 = .int .i64 x6_7 ∧ Aside0 (droverref16_nodeRight.j1 kq a1 0 x6_7 a0_0 a0_1 a0_2 a0_3 l0_4 = some r) ∧ Aside0 (kq ≤ kj2) ∧ Aside0 (wc.heap[gb191]? = some (.cells #[.int .i64 a0_0, .int .i64 a0_1, .int .u64 a0_2, .int .u64 a0_3, (.slice A0_4 l0_4.length c0_4)] 52 (0, 0))) ∧ Aside0 (Below w.heap.size w wc))
      case first =>
        have H := HC8.out
        clear HC8
        by_cases c9 : x15_2 = true
        · subst c9
          have H1 : (droverref16_nodeRight.j1 kj2 a1 0 12 a0_0 a0_1 a0_2 a0_3 l0_4) = some r := by rw [if_pos rfl] at H; exact H
          clear H
          have H := H1
          clear H1
          have H' := Aside0.mk H
          clear H
          go_wp2
          go_meet
          case rel => exact ⟨_, (12), (by first | rfl | (simp; done) | (simp [*]; done)), H', ⟨by have := HJ2.out; first | omega | exact Nat.le_refl _⟩, ⟨by (with_reducible repeat (first | refine blk_drewN ?_ _ | refine blk_drew ?_ | refine blk_alloc ?_ _)); exact BK191.out⟩, ⟨by repeat (first | (with_reducible first | exact HB.out | apply below_alloc | apply pw_below_drewN | apply below_drew1 | refine below_set ?_ GE191.out) | exact HB.out)⟩⟩
        · replace c9 := Bool.eq_false_iff.mpr c9
          subst c9
          have H1 : (droverref16_nodeRight.j1 kj2 a1 0 0 a0_0 a0_1 a0_2 a0_3 l0_4) = some r := by rw [if_neg (show ¬ (false = true) by decide)] at H; exact H
          clear H
          have H := H1
          clear H1
          have H' := Aside0.mk H
          clear H
          go_wp2
          go_meet
          case rel => exact ⟨_, (0), (by first | rfl | (simp; done) | (simp [*]; done)), H', ⟨by have := HJ2.out; first | omega | exact Nat.le_refl _⟩, ⟨by (with_reducible repeat (first | refine blk_drewN ?_ _ | refine blk_drew ?_ | refine blk_alloc ?_ _)); exact BK191.out⟩, ⟨by repeat (first | (with_reducible first | exact HB.out | apply below_alloc | apply pw_below_drewN | apply below_drew1 | refine below_set ?_ GE191.out) | exact HB.out)⟩⟩
      case rest =>
        clear HC8
        try clear p2
        try clear c5
        try clear c5b0
        try clear c5b1
        try clear c9
        try clear hcz6_0
        try clear hcz6_1
        try clear hcz6_2
        try clear hcz6_3
        try clear hcz6_4
        try clear hcz7_0
        try clear hcz7_1
        try clear hcz7_2
        try clear hcz7_3
        try clear hcz7_4
        try clear hfz6_0
        try clear hfz6_1
        try clear hfz6_2
        try clear hfz6_3
        try clear hfz6_4
        try clear hfz7_0
        try clear hfz7_1
        try clear hfz7_2
        try clear hfz7_3
        try clear hfz7_4
        try clear p2
        obtain ⟨kq, x6_7, rfl, HA, HJ7, BK191, HB⟩ := hcut
        cases kq with
        | zero => exact absurd HA.out (by simp [droverref16_nodeRight.j1])
        | succ kj7 =>
          have H := HA.out
          clear HA
          simp only [droverref16_nodeRight.j1] at H
          have HC10 := Aside0.mk H
          clear H
          have hcz11_0 : wc.cell? ⟨gb191, 0, none⟩ = some (.int .i64 a0_0) := (blk_cell BK191.out 0).trans rfl
          have hcz11_1 : wc.cell? ⟨gb191, 1, none⟩ = some (.int .i64 a0_1) := (blk_cell BK191.out 1).trans rfl
          have hcz11_2 : wc.cell? ⟨gb191, 2, none⟩ = some (.int .u64 a0_2) := (blk_cell BK191.out 2).trans rfl
          have hcz11_3 : wc.cell? ⟨gb191, 3, none⟩ = some (.int .u64 a0_3) := (blk_cell BK191.out 3).trans rfl
          have hcz11_4 : wc.cell? ⟨gb191, 4, none⟩ = some (.slice A0_4 l0_4.length c0_4) := (blk_cell BK191.out 4).trans rfl
          have hfz11_0 := blk_frozen BK191.out 0
          have hfz11_1 := blk_frozen BK191.out 1
          have hfz11_2 := blk_frozen BK191.out 2
          have hfz11_3 := blk_frozen BK191.out 3
          have hfz11_4 := blk_frozen BK191.out 4
          go_upto_if 18 with (fail)
          go_cut [5, 6] (fun v5 v6 wc => ∃ (kq : Nat) (x5_9 : Int) (x6_9 : Int), v5 = .int .i64 x5_9 ∧ v6 = .int .i64 x6_9 ∧ Aside0 (droverref16_nodeRight.j2 kq a1 x5_9 x6_9 a0_0 a0_1 a0_2 a0_3 l0_4 = some r) ∧ Aside0 (kq ≤ kj7) ∧ Aside0 (wc.heap[gb191]? = some (.cells #[.int .i64 a0_0, .int .i64 a0_1, .int .u64 a0_2, .int .u64 a0_3, (.slice A0_4 l0_4.length c0_4)] 52 (0, 0))) ∧ Aside0 (Below w.heap.size w wc))
          case first =>
            have H := HC10.out
            clear HC10
            by_cases c12 : a0_0 = 6
            · rw [if_pos c12] at H
              have c12b0 : (a0_0 == 6) = true := beq_iff_eq.mpr c12
              have c12b1 : (a0_0 != 6) = false := bne_eq_false_iff_eq.mpr c12
              clear c12
              (first | rw [c12b0] | (simp only [i64_w, i32_w]; rw [c12b0]) | skip)
              have H' := Aside0.mk H
              clear H
              go_wp2
              go_meet
              case rel => exact ⟨_, (1), (1), (by first | rfl | (simp; done) | (simp [*]; done)), (by first | rfl | (simp; done) | (simp [*]; done)), H', ⟨by have := HJ2.out; have := HJ7.out; first | omega | exact Nat.le_refl _⟩, ⟨by (with_reducible repeat (first | refine blk_drewN ?_ _ | refine blk_drew ?_ | refine blk_alloc ?_ _)); exact BK191.out⟩, ⟨by repeat (first | (with_reducible first | exact HB.out | apply below_alloc | apply pw_below_drewN | apply below_drew1 | refine below_set ?_ GE191.out) | exact HB.out)⟩⟩
            · rw [if_neg c12] at H
              have c12b0 : (a0_0 == 6) = false := beq_eq_false_iff_ne.mpr c12
              have c12b1 : (a0_0 != 6) = true := bne_iff_ne.mpr c12
              (first | rw [c12b0] | (simp only [i64_w, i32_w]; rw [c12b0]) | skip)
              have H' := Aside0.mk H
              clear H
              go_wp2
              go_meet
              case rel => exact ⟨_, (0), (x6_7), (by first | rfl | (simp; done) | (simp [*]; done)), (by first | rfl | (simp; done) | (simp [*]; done)), H', ⟨by have := HJ2.out; have := HJ7.out; first | omega | exact Nat.le_refl _⟩, ⟨by (with_reducible repeat (first | refine blk_drewN ?_ _ | refine blk_drew ?_ | refine blk_alloc ?_ _)); exact BK191.out⟩, ⟨by repeat (first | (with_reducible first | exact HB.out | apply below_alloc | apply pw_below_drewN | apply below_drew1 | refine below_set ?_ GE191.out) | exact HB.out)⟩⟩
          case rest =>
            clear HC10
            try clear c1
            try clear p2
            try clear c5
            try clear c5b0
            try clear c5b1
            try clear c9
            try clear c12
            try clear c12b0
            try clear c12b1
            try clear hcz11_0
            try clear hcz11_1
            try clear hcz11_2
            try clear hcz11_3
            try clear hcz11_4
            try clear hcz6_0
            try clear hcz6_1
            try clear hcz6_2
            try clear hcz6_3
            try clear hcz6_4
            try clear hcz7_0
            try clear hcz7_1
            try clear hcz7_2
            try clear hcz7_3
            try clear hcz7_4
            try clear hfz11_0
            try clear hfz11_1
            try clear hfz11_2
            try clear hfz11_3
            try clear hfz11_4
            try clear hfz6_0
            try clear hfz6_1
            try clear hfz6_2
            try clear hfz6_3
            try clear hfz6_4
            try clear hfz7_0
            try clear hfz7_1
            try clear hfz7_2
            try clear hfz7_3
            try clear hfz7_4
            try clear p2
            obtain ⟨kq, x5_9, x6_9, rfl, rfl, HA, HJ9, BK191, HB⟩ := hcut
            cases kq with
            | zero => exact absurd HA.out (by simp [droverref16_nodeRight.j2])
            | succ kj9 =>
              have H := HA.out
              clear HA
              simp only [droverref16_nodeRight.j2] at H
              have HC13 := Aside0.mk H
              clear H
              go_upto_region 8 with (fail)
              go_cut [40] (fun v40 wc => ∃ (kq : Nat) (x40_12 : Bool), v40 = .bool x40_12 ∧ Aside0 (droverref16_nodeRight.j3 kq a1 x40_12 a0_0 a0_1 a0_2 a0_3 l0_4 = some r) ∧ Aside0 (kq ≤ kj9) ∧ Aside0 (wc.heap[gb191]? = some (.cells #[.int .i64 a0_0, .int .i64 a0_1, .int .u64 a0_2, .int .u64 a0_3, (.slice A0_4 l0_4.length c0_4)] 52 (0, 0))) ∧ Aside0 (Below w.heap.size w wc))
              case first =>
                have H := HC13.out
                clear HC13
                by_cases c14 : a0_0 < 1
                · rw [if_pos c14] at H
                  have c14b0 : decide (a0_0 < 1) = true := decide_eq_true c14
                  clear c14
                  (first | rw [c14b0] | (simp only [i64_w, i32_w]; rw [c14b0]) | skip)
                  have H' := Aside0.mk H
                  clear H
                  have hcz15_0 : wc.cell? ⟨gb191, 0, none⟩ = some (.int .i64 a0_0) := (blk_cell BK191.out 0).trans rfl
                  have hcz15_1 : wc.cell? ⟨gb191, 1, none⟩ = some (.int .i64 a0_1) := (blk_cell BK191.out 1).trans rfl
                  have hcz15_2 : wc.cell? ⟨gb191, 2, none⟩ = some (.int .u64 a0_2) := (blk_cell BK191.out 2).trans rfl
                  have hcz15_3 : wc.cell? ⟨gb191, 3, none⟩ = some (.int .u64 a0_3) := (blk_cell BK191.out 3).trans rfl
                  have hcz15_4 : wc.cell? ⟨gb191, 4, none⟩ = some (.slice A0_4 l0_4.length c0_4) := (blk_cell BK191.out 4).trans rfl
                  have hfz15_0 := blk_frozen BK191.out 0
                  have hfz15_1 := blk_frozen BK191.out 1
                  have hfz15_2 := blk_frozen BK191.out 2
                  have hfz15_3 := blk_frozen BK191.out 3
                  have hfz15_4 := blk_frozen BK191.out 4
                  go_wp2
                  go_meet
                  case rel => exact ⟨_, (true), (by first | rfl | (simp; done) | (simp [*]; done)), H', ⟨by have := HJ2.out; have := HJ7.out; have := HJ9.out; first | omega | exact Nat.le_refl _⟩, ⟨by (with_reducible repeat (first | refine blk_drewN ?_ _ | refine blk_drew ?_ | refine blk_alloc ?_ _)); exact BK191.out⟩, ⟨by repeat (first | (with_reducible first | exact HB.out | apply below_alloc | apply pw_below_drewN | apply below_drew1 | refine below_set ?_ GE191.out) | exact HB.out)⟩⟩
                · rw [if_neg c14] at H
                  have c14b0 : decide (a0_0 < 1) = false := decide_eq_false c14
                  clear c14
                  (first | rw [c14b0] | (simp only [i64_w, i32_w]; rw [c14b0]) | skip)
                  by_cases c16 : a0_0 > 6
                  · rw [if_pos c16] at H
                    have c16b0 : decide (6 < a0_0) = true := decide_eq_true c16
                    clear c16
                    have H' := Aside0.mk H
                    clear H
                    have hcz17_0 : wc.cell? ⟨gb191, 0, none⟩ = some (.int .i64 a0_0) := (blk_cell BK191.out 0).trans rfl
                    have hcz17_1 : wc.cell? ⟨gb191, 1, none⟩ = some (.int .i64 a0_1) := (blk_cell BK191.out 1).trans rfl
                    have hcz17_2 : wc.cell? ⟨gb191, 2, none⟩ = some (.int .u64 a0_2) := (blk_cell BK191.out 2).trans rfl
                    have hcz17_3 : wc.cell? ⟨gb191, 3, none⟩ = some (.int .u64 a0_3) := (blk_cell BK191.out 3).trans rfl
                    have hcz17_4 : wc.cell? ⟨gb191, 4, none⟩ = some (.slice A0_4 l0_4.length c0_4) := (blk_cell BK191.out 4).trans rfl
                    have hfz17_0 := blk_frozen BK191.out 0
                    have hfz17_1 := blk_frozen BK191.out 1
                    have hfz17_2 := blk_frozen BK191.out 2
                    have hfz17_3 := blk_frozen BK191.out 3
                    have hfz17_4 := blk_frozen BK191.out 4
                    go_wp2
                    go_meet
                    case rel => exact ⟨_, (true), (by first | rfl | (simp; done) | (simp [*]; done)), H', ⟨by have := HJ2.out; have := HJ7.out; have := HJ9.out; first | omega | exact Nat.le_refl _⟩, ⟨by (with_reducible repeat (first | refine blk_drewN ?_ _ | refine blk_drew ?_ | refine blk_alloc ?_ _)); exact BK191.out⟩, ⟨by repeat (first | (with_reducible first | exact HB.out | apply below_alloc | apply pw_below_drewN | apply below_drew1 | refine below_set ?_ GE191.out) | exact HB.out)⟩⟩
                  · rw [if_neg c16] at H
                    have c16b0 : decide (6 < a0_0) = false := decide_eq_false c16
                    clear c16
                    by_cases c18 : (l0_4.length : Int) < x5_9
                    · rw [if_pos c18] at H
                      have c18b0 : decide ((l0_4.length : Int) < x5_9) = true := decide_eq_true c18
                      clear c18
                      have H' := Aside0.mk H
                      clear H
                      have hcz19_0 : wc.cell? ⟨gb191, 0, none⟩ = some (.int .i64 a0_0) := (blk_cell BK191.out 0).trans rfl
                      have hcz19_1 : wc.cell? ⟨gb191, 1, none⟩ = some (.int .i64 a0_1) := (blk_cell BK191.out 1).trans rfl
                      have hcz19_2 : wc.cell? ⟨gb191, 2, none⟩ = some (.int .u64 a0_2) := (blk_cell BK191.out 2).trans rfl
                      have hcz19_3 : wc.cell? ⟨gb191, 3, none⟩ = some (.int .u64 a0_3) := (blk_cell BK191.out 3).trans rfl
                      have hcz19_4 : wc.cell? ⟨gb191, 4, none⟩ = some (.slice A0_4 l0_4.length c0_4) := (blk_cell BK191.out 4).trans rfl
                      have hfz19_0 := blk_frozen BK191.out 0
                      have hfz19_1 := blk_frozen BK191.out 1
                      have hfz19_2 := blk_frozen BK191.out 2
                      have hfz19_3 := blk_frozen BK191.out 3
                      have hfz19_4 := blk_frozen BK191.out 4
                      go_wp2
                      go_meet
                      case rel => exact ⟨_, (true), (by first | rfl | (simp; done) | (simp [*]; done)), H', ⟨by have := HJ2.out; have := HJ7.out; have := HJ9.out; first | omega | exact Nat.le_refl _⟩, ⟨by (with_reducible repeat (first | refine blk_drewN ?_ _ | refine blk_drew ?_ | refine blk_alloc ?_ _)); exact BK191.out⟩, ⟨by repeat (first | (with_reducible first | exact HB.out | apply below_alloc | apply pw_below_drewN | apply below_drew1 | refine below_set ?_ GE191.out) | exact HB.out)⟩⟩
                    · rw [if_neg c18] at H
                      have c18b0 : decide ((l0_4.length : Int) < x5_9) = false := decide_eq_false c18
                      clear c18
                      have H' := Aside0.mk H
                      clear H
                      have hcz20_0 : wc.cell? ⟨gb191, 0, none⟩ = some (.int .i64 a0_0) := (blk_cell BK191.out 0).trans rfl
                      have hcz20_1 : wc.cell? ⟨gb191, 1, none⟩ = some (.int .i64 a0_1) := (blk_cell BK191.out 1).trans rfl
                      have hcz20_2 : wc.cell? ⟨gb191, 2, none⟩ = some (.int .u64 a0_2) := (blk_cell BK191.out 2).trans rfl
                      have hcz20_3 : wc.cell? ⟨gb191, 3, none⟩ = some (.int .u64 a0_3) := (blk_cell BK191.out 3).trans rfl
                      have hcz20_4 : wc.cell? ⟨gb191, 4, none⟩ = some (.slice A0_4 l0_4.length c0_4) := (blk_cell BK191.out 4).trans rfl
                      have hfz20_0 := blk_frozen BK191.out 0
                      have hfz20_1 := blk_frozen BK191.out 1
                      have hfz20_2 := blk_frozen BK191.out 2
                      have hfz20_3 := blk_frozen BK191.out 3
                      have hfz20_4 := blk_frozen BK191.out 4
                      go_wp2
                      go_meet
                      case rel => exact ⟨_, (decide ((l0_4.length : Int) > x6_9)), (by first | rfl | (simp; done) | (simp [*]; done)), H', ⟨by have := HJ2.out; have := HJ7.out; have := HJ9.out; first | omega | exact Nat.le_refl _⟩, ⟨by (with_reducible repeat (first | refine blk_drewN ?_ _ | refine blk_drew ?_ | refine blk_alloc ?_ _)); exact BK191.out⟩, ⟨by repeat (first | (with_reducible first | exact HB.out | apply below_alloc | apply pw_below_drewN | apply below_drew1 | refine below_set ?_ GE191.out) | exact HB.out)⟩⟩
              case rest =>
                clear HC13
                try clear c1
                try clear p2
                try clear c5
                try clear c5b0
                try clear c5b1
                try clear c9
                try clear c12
                try clear c12b0
                try clear c12b1
                try clear c14
                try clear c14b0
                try clear c16
                try clear c16b0
                try clear c18
                try clear c18b0
                try clear hcz11_0
                try clear hcz11_1
                try clear hcz11_2
                try clear hcz11_3
                try clear hcz11_4
                try clear hcz15_0
                try clear hcz15_1
                try clear hcz15_2
                try clear hcz15_3
                try clear hcz15_4
                try clear hcz17_0
                try clear hcz17_1
                try clear hcz17_2
                try clear hcz17_3
                try clear hcz17_4
                try clear hcz19_0
                try clear hcz19_1
                try clear hcz19_2
                try clear hcz19_3
                try clear hcz19_4
                try clear hcz20_0
                try clear hcz20_1
                try clear hcz20_2
                try clear hcz20_3
                try clear hcz20_4
                try clear hcz6_0
                try clear hcz6_1
                try clear hcz6_2
                try clear hcz6_3
                try clear hcz6_4
                try clear hcz7_0
                try clear hcz7_1
                try clear hcz7_2
                try clear hcz7_3
                try clear hcz7_4
                try clear hfz11_0
                try clear hfz11_1
                try clear hfz11_2
                try clear hfz11_3
                try clear hfz11_4
                try clear hfz15_0
                try clear hfz15_1
                try clear hfz15_2
                try clear hfz15_3
                try clear hfz15_4
                try clear hfz17_0
                try clear hfz17_1
                try clear hfz17_2
                try clear hfz17_3
                try clear hfz17_4
                try clear hfz19_0
                try clear hfz19_1
                try clear hfz19_2
                try clear hfz19_3
                try clear hfz19_4
                try clear hfz20_0
                try clear hfz20_1
                try clear hfz20_2
                try clear hfz20_3
                try clear hfz20_4
                try clear hfz6_0
                try clear hfz6_1
                try clear hfz6_2
                try clear hfz6_3
                try clear hfz6_4
                try clear hfz7_0
                try clear hfz7_1
                try clear hfz7_2
                try clear hfz7_3
                try clear hfz7_4
                try clear p2
                obtain ⟨kq, x40_12, rfl, HA, HJ12, BK191, HB⟩ := hcut
                cases kq with
                | zero => exact absurd HA.out (by simp [droverref16_nodeRight.j3])
                | succ kj12 =>
                  have H := HA.out
                  clear HA
                  simp only [droverref16_nodeRight.j3] at H
                  by_cases c21 : x40_12 = true
                  · subst c21
                    have H1 : (some false) = some r := by rw [if_pos rfl] at H; exact H
                    clear H
                    have H := H1
                    clear H1
                    obtain rfl := Option.some.inj H
                    go_wp2
                    go_ret
                    exact ⟨by first | rfl | (simp [errW_none, errW_some] <;> rfl) | (simp [*, errW_none, errW_some] <;> rfl), by repeat (first | (with_reducible first | exact HB.out | apply below_alloc | apply pw_below_drewN | apply below_drew1 | refine below_set ?_ GE191.out) | exact HB.out)⟩
                  · replace c21 := Bool.eq_false_iff.mpr c21
                    subst c21
                    have H1 : (droverref16_nodeRight.l0 kj12 a1 0 a0_0 a0_1 a0_2 a0_3 l0_4) = some r := by rw [if_neg (show ¬ (false = true) by decide)] at H; exact H
                    clear H
                    have H := H1
                    clear H1
                    have H' := Aside0.mk H
                    clear H
                    go_wp2
                    go_loopg [7] kj12 (fun kq v7 w' => ∃ (x7_5 : Int), v7 = .int .i64 x7_5 ∧ Aside0 (droverref16_nodeRight.l0 kq a1 x7_5 a0_0 a0_1 a0_2 a0_3 l0_4 = some r) ∧ Aside0 (kq ≤ kj12) ∧ Aside0 (w'.heap[gb191]? = some (.cells #[.int .i64 a0_0, .int .i64 a0_1, .int .u64 a0_2, .int .u64 a0_3, (.slice A0_4 l0_4.length c0_4)] 52 (0, 0))) ∧ Aside0 (Below w.heap.size w w'))
                    case atStart => exact ⟨(0), (by first | rfl | (simp; done) | (simp [*]; done)), H', ⟨Nat.le_refl _⟩, ⟨by (with_reducible repeat (first | refine blk_drewN ?_ _ | refine blk_drew ?_ | refine blk_alloc ?_ _)); exact BK191.out⟩, ⟨by repeat (first | (with_reducible first | exact HB.out | apply below_alloc | apply pw_below_drewN | apply below_drew1 | refine below_set ?_ GE191.out) | exact HB.out)⟩⟩
                    case round =>
                      clear H'
                      try clear c1
                      try clear c2
                      try clear p2
                      try clear c5
                      try clear c5b0
                      try clear c5b1
                      try clear c9
                      try clear c12
                      try clear c12b0
                      try clear c12b1
                      try clear c14
                      try clear c14b0
                      try clear c16
                      try clear c16b0
                      try clear c18
                      try clear c18b0
                      try clear c21
                      try clear hcz11_0
                      try clear hcz11_1
                      try clear hcz11_2
                      try clear hcz11_3
                      try clear hcz11_4
                      try clear hcz15_0
                      try clear hcz15_1
                      try clear hcz15_2
                      try clear hcz15_3
                      try clear hcz15_4
                      try clear hcz17_0
                      try clear hcz17_1
                      try clear hcz17_2
                      try clear hcz17_3
                      try clear hcz17_4
                      try clear hcz19_0
                      try clear hcz19_1
                      try clear hcz19_2
                      try clear hcz19_3
                      try clear hcz19_4
                      try clear hcz20_0
                      try clear hcz20_1
                      try clear hcz20_2
                      try clear hcz20_3
                      try clear hcz20_4
                      try clear hcz6_0
                      try clear hcz6_1
                      try clear hcz6_2
                      try clear hcz6_3
                      try clear hcz6_4
                      try clear hcz7_0
                      try clear hcz7_1
                      try clear hcz7_2
                      try clear hcz7_3
                      try clear hcz7_4
                      try clear hfz11_0
                      try clear hfz11_1
                      try clear hfz11_2
                      try clear hfz11_3
                      try clear hfz11_4
                      try clear hfz15_0
                      try clear hfz15_1
                      try clear hfz15_2
                      try clear hfz15_3
                      try clear hfz15_4
                      try clear hfz17_0
                      try clear hfz17_1
                      try clear hfz17_2
                      try clear hfz17_3
                      try clear hfz17_4
                      try clear hfz19_0
                      try clear hfz19_1
                      try clear hfz19_2
                      try clear hfz19_3
                      try clear hfz19_4
                      try clear hfz20_0
                      try clear hfz20_1
                      try clear hfz20_2
                      try clear hfz20_3
                      try clear hfz20_4
                      try clear hfz6_0
                      try clear hfz6_1
                      try clear hfz6_2
                      try clear hfz6_3
                      try clear hfz6_4
                      try clear hfz7_0
                      try clear hfz7_1
                      try clear hfz7_2
                      try clear hfz7_3
                      try clear hfz7_4
                      try clear p2
                      obtain ⟨x7_5, rfl, HA, HK5, BK191, HB⟩ := hrel
                      cases gk with
                      | zero => exact absurd HA.out (by simp [droverref16_nodeRight.l0])
                      | succ k5 =>
                        have H := HA.out
                        clear HA
                        simp only [droverref16_nodeRight.l0] at H
                        by_cases c22 : x7_5 < (l0_4.length : Int)
                        · rw [if_pos c22] at H
                          have c22b0 : decide (x7_5 < (l0_4.length : Int)) = true := decide_eq_true c22
                          clear c22
                          by_cases c23 : 0 ≤ x7_5
                          · rw [if_pos c23] at H
                            have c23b0 : decide (0 ≤ x7_5) = true := decide_eq_true c23
                            clear c23
                            by_cases c24 : (rd l0_4 x7_5) < 0
                            · rw [if_pos c24] at H
                              have c24b0 : decide ((rd l0_4 x7_5) < 0) = true := decide_eq_true c24
                              clear c24
                              obtain rfl := Option.some.inj H
                              have hcz25_0 : wr.cell? ⟨gb191, 0, none⟩ = some (.int .i64 a0_0) := (blk_cell BK191.out 0).trans rfl
                              have hcz25_1 : wr.cell? ⟨gb191, 1, none⟩ = some (.int .i64 a0_1) := (blk_cell BK191.out 1).trans rfl
                              have hcz25_2 : wr.cell? ⟨gb191, 2, none⟩ = some (.int .u64 a0_2) := (blk_cell BK191.out 2).trans rfl
                              have hcz25_3 : wr.cell? ⟨gb191, 3, none⟩ = some (.int .u64 a0_3) := (blk_cell BK191.out 3).trans rfl
                              have hcz25_4 : wr.cell? ⟨gb191, 4, none⟩ = some (.slice A0_4 l0_4.length c0_4) := (blk_cell BK191.out 4).trans rfl
                              have hfz25_0 := blk_frozen BK191.out 0
                              have hfz25_1 := blk_frozen BK191.out 1
                              have hfz25_2 := blk_frozen BK191.out 2
                              have hfz25_3 := blk_frozen BK191.out 3
                              have hfz25_4 := blk_frozen BK191.out 4
                              have p192 : 0 ≤ (x7_5 : Int) := of_decide_eq_true (by first | (with_reducible assumption) | assumption)
                              have q192 : x7_5 < (l0_4.length : Int) := of_decide_eq_true (by first | (with_reducible assumption) | assumption)
                              obtain ⟨ad192, e192, hx192_0⟩ := Kd.at_int HR0_4.out x7_5 p192 q192
                              cases e192
                              replace hx192_0 := (HB.out.cell (World.block_lt_of_cell? w _ hx192_0)).trans hx192_0
                              replace p192 := eq_true p192
                              replace q192 := eq_true q192
                              go_wp2
                              go_ret
                              exact ⟨by first | rfl | (simp [errW_none, errW_some] <;> rfl) | (simp [*, errW_none, errW_some] <;> rfl), by repeat (first | (with_reducible first | exact HB.out | apply below_alloc | apply pw_below_drewN | apply below_drew1 | refine below_set ?_ GE191.out) | exact HB.out)⟩
                            · rw [if_neg c24] at H
                              have c24b0 : decide ((rd l0_4 x7_5) < 0) = false := decide_eq_false c24
                              clear c24
                              by_cases c26 : (rd l0_4 x7_5) ≥ a1
                              · rw [if_pos c26] at H
                                have c26b0 : decide (a1 ≤ (rd l0_4 x7_5)) = true := decide_eq_true c26
                                clear c26
                                obtain rfl := Option.some.inj H
                                have hcz27_0 : wr.cell? ⟨gb191, 0, none⟩ = some (.int .i64 a0_0) := (blk_cell BK191.out 0).trans rfl
                                have hcz27_1 : wr.cell? ⟨gb191, 1, none⟩ = some (.int .i64 a0_1) := (blk_cell BK191.out 1).trans rfl
                                have hcz27_2 : wr.cell? ⟨gb191, 2, none⟩ = some (.int .u64 a0_2) := (blk_cell BK191.out 2).trans rfl
                                have hcz27_3 : wr.cell? ⟨gb191, 3, none⟩ = some (.int .u64 a0_3) := (blk_cell BK191.out 3).trans rfl
                                have hcz27_4 : wr.cell? ⟨gb191, 4, none⟩ = some (.slice A0_4 l0_4.length c0_4) := (blk_cell BK191.out 4).trans rfl
                                have hfz27_0 := blk_frozen BK191.out 0
                                have hfz27_1 := blk_frozen BK191.out 1
                                have hfz27_2 := blk_frozen BK191.out 2
                                have hfz27_3 := blk_frozen BK191.out 3
                                have hfz27_4 := blk_frozen BK191.out 4
                                have p192 : 0 ≤ (x7_5 : Int) := of_decide_eq_true (by first | (with_reducible assumption) | assumption)
                                have q192 : x7_5 < (l0_4.length : Int) := of_decide_eq_true (by first | (with_reducible assumption) | assumption)
                                obtain ⟨ad192, e192, hx192_0⟩ := Kd.at_int HR0_4.out x7_5 p192 q192
                                cases e192
                                replace hx192_0 := (HB.out.cell (World.block_lt_of_cell? w _ hx192_0)).trans hx192_0
                                replace p192 := eq_true p192
                                replace q192 := eq_true q192
                                have p193 : 0 ≤ (x7_5 : Int) := of_decide_eq_true (by first | (with_reducible assumption) | assumption)
                                have q193 : x7_5 < (l0_4.length : Int) := of_decide_eq_true (by first | (with_reducible assumption) | assumption)
                                obtain ⟨ad193, e193, hx193_0⟩ := Kd.at_int HR0_4.out x7_5 p193 q193
                                obtain rfl : ad192 = ad193 := (by injection e193)
                                replace hx193_0 := (HB.out.cell (World.block_lt_of_cell? w _ hx193_0)).trans hx193_0
                                replace p193 := eq_true p193
                                replace q193 := eq_true q193
                                go_wp2
                                go_ret
                                exact ⟨by first | rfl | (simp [errW_none, errW_some] <;> rfl) | (simp [*, errW_none, errW_some] <;> rfl), by repeat (first | (with_reducible first | exact HB.out | apply below_alloc | apply pw_below_drewN | apply below_drew1 | refine below_set ?_ GE191.out) | exact HB.out)⟩
                              · rw [if_neg c26] at H
                                have c26b0 : decide (a1 ≤ (rd l0_4 x7_5)) = false := decide_eq_false c26
                                clear c26
                                have H' := Aside0.mk H
                                clear H
                                have hcz28_0 : wr.cell? ⟨gb191, 0, none⟩ = some (.int .i64 a0_0) := (blk_cell BK191.out 0).trans rfl
                                have hcz28_1 : wr.cell? ⟨gb191, 1, none⟩ = some (.int .i64 a0_1) := (blk_cell BK191.out 1).trans rfl
                                have hcz28_2 : wr.cell? ⟨gb191, 2, none⟩ = some (.int .u64 a0_2) := (blk_cell BK191.out 2).trans rfl
                                have hcz28_3 : wr.cell? ⟨gb191, 3, none⟩ = some (.int .u64 a0_3) := (blk_cell BK191.out 3).trans rfl
                                have hcz28_4 : wr.cell? ⟨gb191, 4, none⟩ = some (.slice A0_4 l0_4.length c0_4) := (blk_cell BK191.out 4).trans rfl
                                have hfz28_0 := blk_frozen BK191.out 0
                                have hfz28_1 := blk_frozen BK191.out 1
                                have hfz28_2 := blk_frozen BK191.out 2
                                have hfz28_3 := blk_frozen BK191.out 3
                                have hfz28_4 := blk_frozen BK191.out 4
                                have p192 : 0 ≤ (x7_5 : Int) := of_decide_eq_true (by first | (with_reducible assumption) | assumption)
                                have q192 : x7_5 < (l0_4.length : Int) := of_decide_eq_true (by first | (with_reducible assumption) | assumption)
                                obtain ⟨ad192, e192, hx192_0⟩ := Kd.at_int HR0_4.out x7_5 p192 q192
                                cases e192
                                replace hx192_0 := (HB.out.cell (World.block_lt_of_cell? w _ hx192_0)).trans hx192_0
                                replace p192 := eq_true p192
                                replace q192 := eq_true q192
                                have p193 : 0 ≤ (x7_5 : Int) := of_decide_eq_true (by first | (with_reducible assumption) | assumption)
                                have q193 : x7_5 < (l0_4.length : Int) := of_decide_eq_true (by first | (with_reducible assumption) | assumption)
                                obtain ⟨ad193, e193, hx193_0⟩ := Kd.at_int HR0_4.out x7_5 p193 q193
                                obtain rfl : ad192 = ad193 := (by injection e193)
                                replace hx193_0 := (HB.out.cell (World.block_lt_of_cell? w _ hx193_0)).trans hx193_0
                                replace p193 := eq_true p193
                                replace q193 := eq_true q193
                                go_wp2
                                go_roundg k5
                                case measure => have := HJ2.out; have := HJ7.out; have := HJ9.out; have := HJ12.out; have := HK5.out; omega
                                case rel => exact ⟨(wrap64 (x7_5 + 1)), (by first | rfl | (simp; done) | (simp [*]; done)), H', ⟨by have := HJ2.out; have := HJ7.out; have := HJ9.out; have := HJ12.out; have := HK5.out; omega⟩, ⟨by (with_reducible repeat (first | refine blk_drewN ?_ _ | refine blk_drew ?_ | refine blk_alloc ?_ _)); exact BK191.out⟩, ⟨by repeat (first | (with_reducible first | exact HB.out | apply below_alloc | apply pw_below_drewN | apply below_drew1 | refine below_set ?_ GE191.out) | exact HB.out)⟩⟩
                          · rw [if_neg c23] at H
                            exact absurd H (by simp)
                        · rw [if_neg c22] at H
                          have c22b0 : decide (x7_5 < (l0_4.length : Int)) = false := decide_eq_false c22
                          clear c22
                          by_cases c29 : a0_0 = 3
                          · rw [if_pos c29] at H
                            have c29b0 : (a0_0 == 3) = true := beq_iff_eq.mpr c29
                            have c29b1 : (a0_0 != 3) = false := bne_eq_false_iff_eq.mpr c29
                            clear c29
                            replace H := Option.bind_eq_some_iff.mp H
                            obtain ⟨t194, A300, H⟩ := H
                            replace H : (some t194) = some r := H
                            have A30 := Aside0.mk A300
                            clear A300
                            obtain rfl := Option.some.inj H
                            have hcz31_0 : wr.cell? ⟨gb191, 0, none⟩ = some (.int .i64 a0_0) := (blk_cell BK191.out 0).trans rfl
                            have hcz31_1 : wr.cell? ⟨gb191, 1, none⟩ = some (.int .i64 a0_1) := (blk_cell BK191.out 1).trans rfl
                            have hcz31_2 : wr.cell? ⟨gb191, 2, none⟩ = some (.int .u64 a0_2) := (blk_cell BK191.out 2).trans rfl
                            have hcz31_3 : wr.cell? ⟨gb191, 3, none⟩ = some (.int .u64 a0_3) := (blk_cell BK191.out 3).trans rfl
                            have hcz31_4 : wr.cell? ⟨gb191, 4, none⟩ = some (.slice A0_4 l0_4.length c0_4) := (blk_cell BK191.out 4).trans rfl
                            have hfz31_0 := blk_frozen BK191.out 0
                            have hfz31_1 := blk_frozen BK191.out 1
                            have hfz31_2 := blk_frozen BK191.out 2
                            have hfz31_3 := blk_frozen BK191.out 3
                            have hfz31_4 := blk_frozen BK191.out 4
                            go_wp2_with (first | ((with_reducible refine gate_callee (f := 57) rfl ?_); refine goesL_ (some 68) rfl rfl Try.func57 (by kernel_rfl) rfl #[.agg #[.int .i64 a0_1, .int .u64 a0_2, .int .u64 a0_3]] rfl (by (try simp only [List.map_toArray, List.map_cons, List.map_nil]); first | done | rfl | (simp only [List.length_drop, List.length_take]; rfl)) ?_; (with_reducible refine (droverref16_TestRight.calls a0_1 a0_2 a0_3 t194 _ A30.out).mono ?_); rintro e w32 ⟨rfl, hb⟩; refine ⟨_, rfl, ?_⟩; have n0_ := Aside0.mk (blk_below (g := gb191) (o := .cells #[.int .i64 a0_0, .int .i64 a0_1, .int .u64 a0_2, .int .u64 a0_3, .slice A0_4 l0_4.length c0_4] 52 (0, 0)) (by (with_reducible repeat (first | refine blk_drewN ?_ _ | refine blk_drew ?_ | refine blk_alloc ?_ _)); exact BK191.out) hb); have n1_ := Aside0.mk (below_step (by repeat (first | (with_reducible first | exact HB.out | apply below_alloc | apply pw_below_drewN | apply below_drew1 | refine below_set ?_ GE191.out) | exact HB.out)) hb); clear BK191; clear HB; have BK191 := n0_; have HB := n1_; clear n0_ n1_; (try clear hb); (try clear hb2); (try clear hk); (try clear hi)))
                            go_ret
                            exact ⟨by first | rfl | (simp [errW_none, errW_some] <;> rfl) | (simp [*, errW_none, errW_some] <;> rfl), by repeat (first | (with_reducible first | exact HB.out | apply below_alloc | apply pw_below_drewN | apply below_drew1 | refine below_set ?_ GE191.out) | exact HB.out)⟩
                          · rw [if_neg c29] at H
                            have c29b0 : (a0_0 == 3) = false := beq_eq_false_iff_ne.mpr c29
                            have c29b1 : (a0_0 != 3) = true := bne_iff_ne.mpr c29
                            by_cases c33 : a0_1 = 0
                            · rw [if_pos c33] at H
                              have c33b0 : (a0_1 == 0) = true := beq_iff_eq.mpr c33
                              have c33b1 : (a0_1 != 0) = false := bne_eq_false_iff_eq.mpr c33
                              clear c33
                              by_cases c34 : a0_2 = 0
                              · rw [if_pos c34] at H
                                have c34b0 : (a0_2 == 0) = true := beq_iff_eq.mpr c34
                                have c34b1 : (a0_2 != 0) = false := bne_eq_false_iff_eq.mpr c34
                                clear c34
                                obtain rfl := Option.some.inj H
                                have hcz35_0 : wr.cell? ⟨gb191, 0, none⟩ = some (.int .i64 a0_0) := (blk_cell BK191.out 0).trans rfl
                                have hcz35_1 : wr.cell? ⟨gb191, 1, none⟩ = some (.int .i64 a0_1) := (blk_cell BK191.out 1).trans rfl
                                have hcz35_2 : wr.cell? ⟨gb191, 2, none⟩ = some (.int .u64 a0_2) := (blk_cell BK191.out 2).trans rfl
                                have hcz35_3 : wr.cell? ⟨gb191, 3, none⟩ = some (.int .u64 a0_3) := (blk_cell BK191.out 3).trans rfl
                                have hcz35_4 : wr.cell? ⟨gb191, 4, none⟩ = some (.slice A0_4 l0_4.length c0_4) := (blk_cell BK191.out 4).trans rfl
                                have hfz35_0 := blk_frozen BK191.out 0
                                have hfz35_1 := blk_frozen BK191.out 1
                                have hfz35_2 := blk_frozen BK191.out 2
                                have hfz35_3 := blk_frozen BK191.out 3
                                have hfz35_4 := blk_frozen BK191.out 4
                                go_wp2
                                go_ret
                                exact ⟨by first | rfl | (simp [errW_none, errW_some] <;> rfl) | (simp [*, errW_none, errW_some] <;> rfl), by repeat (first | (with_reducible first | exact HB.out | apply below_alloc | apply pw_below_drewN | apply below_drew1 | refine below_set ?_ GE191.out) | exact HB.out)⟩
                              · rw [if_neg c34] at H
                                have c34b0 : (a0_2 == 0) = false := beq_eq_false_iff_ne.mpr c34
                                have c34b1 : (a0_2 != 0) = true := bne_iff_ne.mpr c34
                                obtain rfl := Option.some.inj H
                                have hcz36_0 : wr.cell? ⟨gb191, 0, none⟩ = some (.int .i64 a0_0) := (blk_cell BK191.out 0).trans rfl
                                have hcz36_1 : wr.cell? ⟨gb191, 1, none⟩ = some (.int .i64 a0_1) := (blk_cell BK191.out 1).trans rfl
                                have hcz36_2 : wr.cell? ⟨gb191, 2, none⟩ = some (.int .u64 a0_2) := (blk_cell BK191.out 2).trans rfl
                                have hcz36_3 : wr.cell? ⟨gb191, 3, none⟩ = some (.int .u64 a0_3) := (blk_cell BK191.out 3).trans rfl
                                have hcz36_4 : wr.cell? ⟨gb191, 4, none⟩ = some (.slice A0_4 l0_4.length c0_4) := (blk_cell BK191.out 4).trans rfl
                                have hfz36_0 := blk_frozen BK191.out 0
                                have hfz36_1 := blk_frozen BK191.out 1
                                have hfz36_2 := blk_frozen BK191.out 2
                                have hfz36_3 := blk_frozen BK191.out 3
                                have hfz36_4 := blk_frozen BK191.out 4
                                go_wp2
                                go_ret
                                exact ⟨by first | rfl | (simp [errW_none, errW_some] <;> rfl) | (simp [*, errW_none, errW_some] <;> rfl), by repeat (first | (with_reducible first | exact HB.out | apply below_alloc | apply pw_below_drewN | apply below_drew1 | refine below_set ?_ GE191.out) | exact HB.out)⟩
                            · rw [if_neg c33] at H
                              have c33b0 : (a0_1 == 0) = false := beq_eq_false_iff_ne.mpr c33
                              have c33b1 : (a0_1 != 0) = true := bne_iff_ne.mpr c33
                              obtain rfl := Option.some.inj H
                              have hcz37_0 : wr.cell? ⟨gb191, 0, none⟩ = some (.int .i64 a0_0) := (blk_cell BK191.out 0).trans rfl
                              have hcz37_1 : wr.cell? ⟨gb191, 1, none⟩ = some (.int .i64 a0_1) := (blk_cell BK191.out 1).trans rfl
                              have hcz37_2 : wr.cell? ⟨gb191, 2, none⟩ = some (.int .u64 a0_2) := (blk_cell BK191.out 2).trans rfl
                              have hcz37_3 : wr.cell? ⟨gb191, 3, none⟩ = some (.int .u64 a0_3) := (blk_cell BK191.out 3).trans rfl
                              have hcz37_4 : wr.cell? ⟨gb191, 4, none⟩ = some (.slice A0_4 l0_4.length c0_4) := (blk_cell BK191.out 4).trans rfl
                              have hfz37_0 := blk_frozen BK191.out 0
                              have hfz37_1 := blk_frozen BK191.out 1
                              have hfz37_2 := blk_frozen BK191.out 2
                              have hfz37_3 := blk_frozen BK191.out 3
                              have hfz37_4 := blk_frozen BK191.out 4
                              go_wp2
                              go_ret
                              exact ⟨by first | rfl | (simp [errW_none, errW_some] <;> rfl) | (simp [*, errW_none, errW_some] <;> rfl), by repeat (first | (with_reducible first | exact HB.out | apply below_alloc | apply pw_below_drewN | apply below_drew1 | refine below_set ?_ GE191.out) | exact HB.out)⟩

end Go.Proofs.Ytmhjnfkhfjejeaa.PPredCubes
