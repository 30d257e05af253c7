-- Printed by the kit for this claim; unused laws left out
import Derived.Test.YtmhjnfkhfjejeaaZ2PPredCubesx0
import Derived.Test.YtmhjnfkhfjejeaaZ2PPredCubesx1
import Derived.Test.YtmhjnfkhfjejeaaZ2PPredCubesx2
namespace Go.Proofs.Ytmhjnfkhfjejeaa.PPredCubes
open Go.RowKit Go.Proofs.YtmhjnfkhfjejeaaW.PrintWords Go.Proofs.YtmhjnfkhfjejeaaW.PrintLast Go.Proofs.YtmhjnfkhfjejeaaW.PrintMore
attribute [local go_sem] max2_int min2_int max_two min_two max_three min_three max_four min_four   -- for this text's walks alone
set_option linter.unusedVariables false
set_option linter.unusedSimpArgs false

attribute [local go_sem high] eqA47
/-! ### pred_Right: function 22 -/
mutual
def pred_Right.j0 : Nat → Bool → List (S52) → Option (Bool)
  | 0, _, _ => none
  | k + 1, x18, x103000 => if x18 = true then (some false) else (pred_Right.l0 k x103000 (x103000.length : Int) 0)
def pred_Right.l0 : Nat → List (S52) → Int → Int → Option (Bool)
  | 0, _, _, _ => none
  | k + 1, x20, x21, x22 => if x22 < x21 then (if 0 ≤ x22 then (if x22 < (x20.length : Int) then (if ((rd_T52 x20 x22).f0) = 1 then (pred_Right.j2 k x22 0 0 x20 x21 x22 ((rd_T52 x20 x22).f0) (((rd_T52 x20 x22).f0) == 1) ((rd_T52 x20 x22).f0) ((rd_T52 x20 x22).f1.f0) ((rd_T52 x20 x22).f1.f1) ((rd_T52 x20 x22).f1.f2) ((rd_T52 x20 x22).f2)) else (if ((rd_T52 x20 x22).f0) = 2 then (pred_Right.j2 k x22 0 0 x20 x21 x22 ((rd_T52 x20 x22).f0) (((rd_T52 x20 x22).f0) == 2) ((rd_T52 x20 x22).f0) ((rd_T52 x20 x22).f1.f0) ((rd_T52 x20 x22).f1.f1) ((rd_T52 x20 x22).f1.f2) ((rd_T52 x20 x22).f2)) else (pred_Right.j2 k x22 0 0 x20 x21 x22 ((rd_T52 x20 x22).f0) (((rd_T52 x20 x22).f0) == 3) ((rd_T52 x20 x22).f0) ((rd_T52 x20 x22).f1.f0) ((rd_T52 x20 x22).f1.f1) ((rd_T52 x20 x22).f1.f2) ((rd_T52 x20 x22).f2)))) else (none)) else (none)) else (some true)
def pred_Right.j4 : Nat → Int → Int → Int → List (S52) → Int → Int → Int → Int → Int → Int → List Int → Option (Bool)
  | 0, _, _, _, _, _, _, _, _, _, _, _ => none
  | k + 1, x3, x5, x6, x20, x21, x22, x105000, x105001, x105002, x105003, x105004 => if x105000 = 3 then ((pred_testRight.f x105001 x105002 x105003).bind fun t105 => (if t105 = true then (if (x105004.length : Int) < x5 then (pred_Right.j5 k x3 x20 x21 x22 true x105000 x105001 x105002 x105003 x105004) else (pred_Right.j5 k x3 x20 x21 x22 (decide ((x105004.length : Int) > x6)) x105000 x105001 x105002 x105003 x105004)) else (pred_Right.j5 k x3 x20 x21 x22 true x105000 x105001 x105002 x105003 x105004))) else (if (!(x105001 == 0) || (!(x105002 == 0) || (!(x105003 == 0)))) = true then (pred_Right.j5 k x3 x20 x21 x22 true x105000 x105001 x105002 x105003 x105004) else (if (x105004.length : Int) < x5 then (pred_Right.j5 k x3 x20 x21 x22 true x105000 x105001 x105002 x105003 x105004) else (pred_Right.j5 k x3 x20 x21 x22 (decide ((x105004.length : Int) > x6)) x105000 x105001 x105002 x105003 x105004)))
def pred_Right.j5 : Nat → Int → List (S52) → Int → Int → Bool → Int → Int → Int → Int → List Int → Option (Bool)
  | 0, _, _, _, _, _, _, _, _, _, _ => none
  | k + 1, x3, x20, x21, x22, x71, x105000, x105001, x105002, x105003, x105004 => if x71 = true then (some false) else (pred_Right.l1 k x3 x20 x21 x22 x105004 (x105004.length : Int) 0)
def pred_Right.l1 : Nat → Int → List (S52) → Int → Int → List Int → Int → Int → Option (Bool)
  | 0, _, _, _, _, _, _, _ => none
  | k + 1, x3, x20, x21, x22, x73, x74, x75 => if x75 < x74 then (if 0 ≤ x75 then (if x75 < (x73.length : Int) then (if (rd x73 x75) < 0 then (some false) else (if (rd x73 x75) ≥ x3 then (some false) else (pred_Right.l1 k x3 x20 x21 x22 x73 x74 (wrap64 (x75 + 1))))) else (none)) else (none)) else (pred_Right.l0 k x20 x21 (wrap64 (x22 + 1)))
def pred_Right.j2 : Nat → Int → Int → Int → List (S52) → Int → Int → Int → Bool → Int → Int → Int → Int → List Int → Option (Bool)
  | 0, _, _, _, _, _, _, _, _, _, _, _, _, _ => none
  | k + 1, x3, x5, x6, x20, x21, x22, x28, x29, x105000, x105001, x105002, x105003, x105004 => if x29 = true then (pred_Right.j4 k x3 x5 x6 x20 x21 x22 x105000 x105001 x105002 x105003 x105004) else (if x28 = 4 then (pred_Right.j3 k x3 x5 x20 x21 x22 x28 (x28 == 4) x105000 x105001 x105002 x105003 x105004) else (pred_Right.j3 k x3 x5 x20 x21 x22 x28 (x28 == 5) x105000 x105001 x105002 x105003 x105004))
def pred_Right.j3 : Nat → Int → Int → List (S52) → Int → Int → Int → Bool → Int → Int → Int → Int → List Int → Option (Bool)
  | 0, _, _, _, _, _, _, _, _, _, _, _, _ => none
  | k + 1, x3, x5, x20, x21, x22, x28, x33, x105000, x105001, x105002, x105003, x105004 => if x33 = true then (pred_Right.j4 k x3 x5 12 x20 x21 x22 x105000 x105001 x105002 x105003 x105004) else (if x28 = 6 then (pred_Right.j4 k x3 1 1 x20 x21 x22 x105000 x105001 x105002 x105003 x105004) else (some false))
end
def pred_Right.f (k : Nat) (l0_0 : List (S52)) : Option (Bool) := if (l0_0.length : Int) = 0 then (pred_Right.j0 k true l0_0) else (pred_Right.j0 k (decide ((l0_0.length : Int) > 60)) l0_0)
set_option maxHeartbeats 8000000 in
set_option maxRecDepth 100000 in
theorem pred_Right.calls (k : Nat) (A0_0 : Option Addr) (c0_0 : Nat) (l0_0 : List (S52)) (r : Bool) (w : World) (hr0_0 : Kd.C k52 w A0_0 l0_0.length l0_0) (hc0_0 : l0_0.length ≤ c0_0) (h : pred_Right.f k l0_0 = some r) :
    Calls Try.prog 22 #[.agg #[.slice A0_0 l0_0.length c0_0]] w fun e w' => e = .returned (.bool r) ∧ Below w.heap.size w w' := by
  have hu24 := Try.underlying24
  have hu52 := Try.underlying52
  have hu47 := Try.underlying47
  have HR0_0 := Aside0.mk hr0_0
  have HC0_0 := Aside0.mk hc0_0
  clear hr0_0 hc0_0
  have HB := Aside0.mk (Below.refl w.heap.size w)
  have H : (if (l0_0.length : Int) = 0 then (pred_Right.j0 k true l0_0) else (pred_Right.j0 k (decide ((l0_0.length : Int) > 60)) l0_0)) = some r := h
  clear h
  have HC2 := Aside0.mk H
  clear H
  go_enter Try.func22, Try.ntmps22
  go_upto_region 1 with (first | ((with_reducible refine gate_dst (N := 1) rfl ?_); (try (refine gate_guard (by rfl) ?_; dsimp only)); refine box_event ?hg (N := 1) ?hd (cs := #[.slice A0_0 l0_0.length c0_0]) (t := 24) ?hr ?_; (case hd => rfl); (case hg => rfl); (case hr => first | (go_simp; done) | (go_simp; rfl)); intro gb102 hg w3 hbox hb; have n0_ := Aside0.mk (below_step (by repeat (first | (with_reducible first | exact HB.out | apply below_alloc | apply pw_below_drewN | apply below_drew1) | exact HB.out)) hb); have n1_ := Aside0.mk (hbox); have n2_ := Aside0.mk ((by rw [hg]; exact (below_size (by repeat (first | (with_reducible first | exact HB.out | apply below_alloc | apply pw_below_drewN | apply below_drew1) | exact HB.out))) : w.heap.size ≤ gb102)); have n3_ := Aside0.mk ((by rw [hg]; exact (below_size (by repeat (first | (with_reducible first | exact HB.out | apply below_alloc | apply pw_below_drewN | apply below_drew1) | exact HB.out))) : w.heap.size ≤ gb102)); clear HB; have HB := n0_; have BK102 := n1_; have GW102 := n2_; have GE102 := n3_; clear n0_ n1_ n2_ n3_; clear hb hbox hg))
  (try simp only [Act.put, List.setIfInBounds_toArray, List.set_cons_zero, List.set_cons_succ])
  go_cut [18] (fun v18 wc => ∃ (kq : Nat) (x18_1 : Bool), v18 = .bool x18_1 ∧ Aside0 (pred_Right.j0 kq x18_1 l0_0 = some r) ∧ Aside0 (kq ≤ k) ∧ Aside0 (wc.heap[gb102]? = some (.cells #[(.slice A0_0 l0_0.length c0_0)] 24 (0, 0))) ∧ Aside0 (Below w.heap.size w wc))
  case first =>
    have H := HC2.out
    clear HC2
    by_cases c4 : (l0_0.length : Int) = 0
    · rw [if_pos c4] at H
      have c4b0 : ((l0_0.length : Int) == 0) = true := beq_iff_eq.mpr c4
      have c4b1 : ((l0_0.length : Int) != 0) = false := bne_eq_false_iff_eq.mpr c4
      clear c4
      (first | rw [c4b0] | (simp only [i64_w, i32_w]; rw [c4b0]) | skip)
      have H' := Aside0.mk H
      clear H
      have hcz5_0 : w3.cell? ⟨gb102, 0, none⟩ = some (.slice A0_0 l0_0.length c0_0) := (blk_cell BK102.out 0).trans rfl
      have hfz5_0 := blk_frozen BK102.out 0
      go_wp2
      go_meet
      case rel => exact ⟨_, (true), (by first | rfl | (simp; done) | (simp [*]; done)), H', ⟨by first | omega | exact Nat.le_refl _⟩, ⟨by (with_reducible repeat (first | refine blk_drewN ?_ _ | refine blk_drew ?_ | refine blk_alloc ?_ _)); exact BK102.out⟩, ⟨by repeat (first | (with_reducible first | exact HB.out | apply below_alloc | apply pw_below_drewN | apply below_drew1 | refine below_set ?_ GE102.out) | exact HB.out)⟩⟩
    · rw [if_neg c4] at H
      have c4b0 : ((l0_0.length : Int) == 0) = false := beq_eq_false_iff_ne.mpr c4
      have c4b1 : ((l0_0.length : Int) != 0) = true := bne_iff_ne.mpr c4
      have c4b2 : ¬ (l0_0 = []) := fun h_ => c4 (by rw [h_]; rfl)
      (first | rw [c4b0] | (simp only [i64_w, i32_w]; rw [c4b0]) | skip)
      have H' := Aside0.mk H
      clear H
      have hcz6_0 : w3.cell? ⟨gb102, 0, none⟩ = some (.slice A0_0 l0_0.length c0_0) := (blk_cell BK102.out 0).trans rfl
      have hfz6_0 := blk_frozen BK102.out 0
      go_wp2
      go_meet
      case rel => exact ⟨_, (decide ((l0_0.length : Int) > 60)), (by first | rfl | (simp; done) | (simp [*]; done)), H', ⟨by first | omega | exact Nat.le_refl _⟩, ⟨by (with_reducible repeat (first | refine blk_drewN ?_ _ | refine blk_drew ?_ | refine blk_alloc ?_ _)); exact BK102.out⟩, ⟨by repeat (first | (with_reducible first | exact HB.out | apply below_alloc | apply pw_below_drewN | apply below_drew1 | refine below_set ?_ GE102.out) | exact HB.out)⟩⟩
  case rest =>
    clear HC2
    try clear c2
    try clear p2
    try clear c4
    try clear c4b0
    try clear c4b1
    try clear c4b2
    try clear hcz5_0
    try clear hcz6_0
    try clear hfz5_0
    try clear hfz6_0
    obtain ⟨kq, x18_1, rfl, HA, HJ1, BK102, HB⟩ := hcut
    cases kq with
    | zero => exact absurd HA.out (by simp [pred_Right.j0])
    | succ kj1 =>
      have H := HA.out
      clear HA
      simp only [pred_Right.j0] at H
      by_cases c7 : x18_1 = true
      · subst c7
        have H1 : (some false) = some r := by rw [if_pos rfl] at H; exact H
        clear H
        have H := H1
        clear H1
        obtain rfl := Option.some.inj H
        go_wp2
        go_ret
        exact ⟨by first | rfl | (simp [errW_none, errW_some] <;> rfl) | (simp [*, errW_none, errW_some] <;> rfl), by repeat (first | (with_reducible first | exact HB.out | apply below_alloc | apply pw_below_drewN | apply below_drew1 | refine below_set ?_ GE102.out) | exact HB.out)⟩
      · replace c7 := Bool.eq_false_iff.mpr c7
        subst c7
        have H1 : (pred_Right.l0 kj1 l0_0 (l0_0.length : Int) 0) = some r := by rw [if_neg (show ¬ (false = true) by decide)] at H; exact H
        clear H
        have H := H1
        clear H1
        have H' := Aside0.mk H
        clear H
        have hcz8_0 : wc.cell? ⟨gb102, 0, none⟩ = some (.slice A0_0 l0_0.length c0_0) := (blk_cell BK102.out 0).trans rfl
        have hfz8_0 := blk_frozen BK102.out 0
        go_wp2
        go_loopg [22] kj1 (fun kq v22 w' => ∃ (x22_2 : Int), v22 = .int .i64 x22_2 ∧ Aside0 (pred_Right.l0 kq l0_0 (l0_0.length : Int) x22_2 = some r) ∧ Aside0 (kq ≤ kj1) ∧ Aside0 (w'.heap[gb102]? = some (.cells #[(.slice A0_0 l0_0.length c0_0)] 24 (0, 0))) ∧ Aside0 (Below w.heap.size w w'))
        case atStart => exact ⟨(0), (by first | rfl | (simp; done) | (simp [*]; done)), H', ⟨Nat.le_refl _⟩, ⟨by (with_reducible repeat (first | refine blk_drewN ?_ _ | refine blk_drew ?_ | refine blk_alloc ?_ _)); exact BK102.out⟩, ⟨by repeat (first | (with_reducible first | exact HB.out | apply below_alloc | apply pw_below_drewN | apply below_drew1 | refine below_set ?_ GE102.out) | exact HB.out)⟩⟩
        case round =>
          clear H'
          try clear c2
          try clear p2
          try clear c4
          try clear c4b0
          try clear c4b1
          try clear c4b2
          try clear c7
          try clear hcz5_0
          try clear hcz6_0
          try clear hcz8_0
          try clear hfz5_0
          try clear hfz6_0
          try clear hfz8_0
          try clear p2
          obtain ⟨x22_2, rfl, HA, HK2, BK102, HB⟩ := hrel
          cases gk with
          | zero => exact absurd HA.out (by simp [pred_Right.l0])
          | succ k2 =>
            have H := HA.out
            clear HA
            simp only [pred_Right.l0] at H
            by_cases c9 : x22_2 < (l0_0.length : Int)
            · rw [if_pos c9] at H
              have c9b0 : decide (x22_2 < (l0_0.length : Int)) = true := decide_eq_true c9
              clear c9
              by_cases c10 : 0 ≤ x22_2
              · rw [if_pos c10] at H
                have c10b0 : decide (0 ≤ x22_2) = true := decide_eq_true c10
                clear c10
                by_cases c11 : x22_2 < (l0_0.length : Int)
                · rw [if_pos c11] at H
                  have c11b0 : decide (x22_2 < (l0_0.length : Int)) = true := decide_eq_true c11
                  clear c11
                  have HC12 := Aside0.mk H
                  clear H
                  have p103 : 0 ≤ (x22_2 : Int) := of_decide_eq_true (by first | (with_reducible assumption) | assumption)
                  have q103 : x22_2 < (l0_0.length : Int) := of_decide_eq_true (by first | (with_reducible assumption) | assumption)
                  obtain ⟨ad103, A103_4, c103_4, e103, hx103_0, hx103_1, hx103_2, hx103_3, hx103_4, hl103_4, hi103_4⟩ := at_T52 HR0_0.out x22_2 p103 q103
                  cases e103
                  replace hx103_0 := (HB.out.cell (World.block_lt_of_cell? w _ hx103_0)).trans hx103_0
                  replace hx103_1 := (HB.out.cell (World.block_lt_of_cell? w _ hx103_1)).trans hx103_1
                  replace hx103_2 := (HB.out.cell (World.block_lt_of_cell? w _ hx103_2)).trans hx103_2
                  replace hx103_3 := (HB.out.cell (World.block_lt_of_cell? w _ hx103_3)).trans hx103_3
                  replace hx103_4 := (HB.out.cell (World.block_lt_of_cell? w _ hx103_4)).trans hx103_4
                  have HR103_4 := Aside0.mk hi103_4
                  have HC103_4 := Aside0.mk hl103_4
                  clear hi103_4 hl103_4
                  replace p103 := eq_true p103
                  replace q103 := eq_true q103
                  go_upto_block 2 with (first | ((with_reducible refine gate_dst (N := 4) rfl ?_); (try (refine gate_guard (by rfl) ?_; dsimp only)); refine box_event ?hg (N := 4) ?hd (cs := #[.int .i64 0, .int .i64 0, .int .u64 0, .int .u64 0, .slice none 0 0]) (t := 52) ?hr ?_; (case hd => rfl); (case hg => rfl); (case hr => first | (go_simp; done) | (go_simp; rfl)); intro gb104 hg w13 hbox hb; have n0_ := Aside0.mk (blk_below (g := gb102) (o := .cells #[.slice (some ad103) l0_0.length c0_0] 24 (0, 0)) (by (with_reducible repeat (first | refine blk_drewN ?_ _ | refine blk_drew ?_ | refine blk_alloc ?_ _)); exact BK102.out) hb); have n1_ := Aside0.mk (below_step (by repeat (first | (with_reducible first | exact HB.out | apply below_alloc | apply pw_below_drewN | apply below_drew1 | refine below_set ?_ GE102.out) | exact HB.out)) hb); have n2_ := Aside0.mk (hbox); have n3_ := Aside0.mk ((by rw [hg]; exact (below_size (by repeat (first | (with_reducible first | exact HB.out | apply below_alloc | apply pw_below_drewN | apply below_drew1 | refine below_set ?_ GE102.out) | exact HB.out))) : w.heap.size ≤ gb104)); have n4_ := Aside0.mk ((by rw [hg]; exact (below_size (by repeat (first | (with_reducible first | exact HB.out | apply below_alloc | apply pw_below_drewN | apply below_drew1 | refine below_set ?_ GE102.out) | exact HB.out))) : w.heap.size ≤ gb104)); have n5_ := Aside0.mk ((by rw [hg]; exact Nat.ne_of_lt (blk_lt (g := gb102) (o := .cells #[.slice (some ad103) l0_0.length c0_0] 24 (0, 0)) (by (with_reducible repeat (first | refine blk_drewN ?_ _ | refine blk_drew ?_ | refine blk_alloc ?_ _)); exact BK102.out)) : gb102 ≠ gb104)); have n6_ := Aside0.mk ((by rw [hg]; exact Nat.ne_of_gt (blk_lt (g := gb102) (o := .cells #[.slice (some ad103) l0_0.length c0_0] 24 (0, 0)) (by (with_reducible repeat (first | refine blk_drewN ?_ _ | refine blk_drew ?_ | refine blk_alloc ?_ _)); exact BK102.out)) : gb104 ≠ gb102)); clear BK102; clear HB; have BK102 := n0_; have HB := n1_; have BK104 := n2_; have GW104 := n3_; have GE104 := n4_; have NB102_104 := n5_; have NB104_102 := n6_; clear n0_ n1_ n2_ n3_ n4_ n5_ n6_; clear hb hbox hg; have hnb14 := NB104_102.out; have hnc14 := NB102_104.out; have hcz15_0 : w13.cell? ⟨gb104, 0, none⟩ = some (.int .i64 0) := (blk_cell BK104.out 0).trans rfl; have hcz15_1 : w13.cell? ⟨gb104, 1, none⟩ = some (.int .i64 0) := (blk_cell BK104.out 1).trans rfl; have hcz15_2 : w13.cell? ⟨gb104, 2, none⟩ = some (.int .u64 0) := (blk_cell BK104.out 2).trans rfl; have hcz15_3 : w13.cell? ⟨gb104, 3, none⟩ = some (.int .u64 0) := (blk_cell BK104.out 3).trans rfl; have hcz15_4 : w13.cell? ⟨gb104, 4, none⟩ = some (.slice none 0 0) := (blk_cell BK104.out 4).trans rfl; have hfz15_0 := blk_frozen BK104.out 0; have hfz15_1 := blk_frozen BK104.out 1; have hfz15_2 := blk_frozen BK104.out 2; have hfz15_3 := blk_frozen BK104.out 3; have hfz15_4 := blk_frozen BK104.out 4))
                  (try simp only [Act.put, List.setIfInBounds_toArray, List.set_cons_zero, List.set_cons_succ])
                  go_cut [5, 6] (fun v5 v6 wc => ∃ (kq : Nat) (x5_11 : Int) (x6_11 : Int), v5 = .int .i64 x5_11 ∧ v6 = .int .i64 x6_11 ∧ Aside0 (pred_Right.j4 kq x22_2 x5_11 x6_11 l0_0 (l0_0.length : Int) x22_2 ((rd_T52 l0_0 x22_2).f0) ((rd_T52 l0_0 x22_2).f1.f0) ((rd_T52 l0_0 x22_2).f1.f1) ((rd_T52 l0_0 x22_2).f1.f2) ((rd_T52 l0_0 x22_2).f2) = some r) ∧ Aside0 (kq ≤ k2) ∧ Aside0 (wc.heap[gb102]? = some (.cells #[(.slice (some ad103) l0_0.length c0_0)] 24 (0, 0))) ∧ Aside0 (wc.heap[gb104]? = some (.cells #[.int .i64 ((rd_T52 l0_0 x22_2).f0), .int .i64 ((rd_T52 l0_0 x22_2).f1.f0), .int .u64 ((rd_T52 l0_0 x22_2).f1.f1), .int .u64 ((rd_T52 l0_0 x22_2).f1.f2), (.slice A103_4 ((rd_T52 l0_0 x22_2).f2).length c103_4)] 52 (0, 0))) ∧ Aside0 (Below w.heap.size w wc))
                  case first =>
                    have H := HC12.out
                    clear HC12
                    have HC16 := Aside0.mk H
                    clear H
                    go_upto_if 29 with (fail)
                    go_cut [29] (fun v29 wc => ∃ (kq : Nat) (x29_15 : Bool), v29 = .bool x29_15 ∧ Aside0 (pred_Right.j2 kq x22_2 0 0 l0_0 (l0_0.length : Int) x22_2 ((rd_T52 l0_0 x22_2).f0) x29_15 ((rd_T52 l0_0 x22_2).f0) ((rd_T52 l0_0 x22_2).f1.f0) ((rd_T52 l0_0 x22_2).f1.f1) ((rd_T52 l0_0 x22_2).f1.f2) ((rd_T52 l0_0 x22_2).f2) = some r) ∧ Aside0 (kq ≤ k2) ∧ Aside0 (wc.heap[gb102]? = some (.cells #[(.slice (some ad103) l0_0.length c0_0)] 24 (0, 0))) ∧ Aside0 (wc.heap[gb104]? = some (.cells #[.int .i64 ((rd_T52 l0_0 x22_2).f0), .int .i64 ((rd_T52 l0_0 x22_2).f1.f0), .int .u64 ((rd_T52 l0_0 x22_2).f1.f1), .int .u64 ((rd_T52 l0_0 x22_2).f1.f2), (.slice A103_4 ((rd_T52 l0_0 x22_2).f2).length c103_4)] 52 (0, 0))) ∧ Aside0 (Below w.heap.size w wc))
                    case first =>
                      have H := HC16.out
                      clear HC16
                      by_cases c17 : ((rd_T52 l0_0 x22_2).f0) = 1
                      · rw [if_pos c17] at H
                        have c17b0 : (((rd_T52 l0_0 x22_2).f0) == 1) = true := beq_iff_eq.mpr c17
                        have c17b1 : (((rd_T52 l0_0 x22_2).f0) != 1) = false := bne_eq_false_iff_eq.mpr c17
                        clear c17
                        (first | rw [c17b0] | (simp only [i64_w, i32_w]; rw [c17b0]) | skip)
                        have H' := Aside0.mk H
                        clear H
                        go_wp2
                        go_meet
                        case rel => exact ⟨_, ((((rd_T52 l0_0 x22_2).f0) == 1)), (by first | rfl | (simp; done) | (simp [*]; done)), H', ⟨by have := HJ1.out; have := HK2.out; first | omega | exact Nat.le_refl _⟩, ⟨by (with_reducible repeat (first | refine blk_drewN ?_ _ | refine blk_drew ?_ | refine blk_alloc ?_ _)); refine blk_far ?_ NB102_104.out _; (with_reducible repeat (first | refine blk_drewN ?_ _ | refine blk_drew ?_ | refine blk_alloc ?_ _)); refine blk_far ?_ NB102_104.out _; (with_reducible repeat (first | refine blk_drewN ?_ _ | refine blk_drew ?_ | refine blk_alloc ?_ _)); refine blk_far ?_ NB102_104.out _; (with_reducible repeat (first | refine blk_drewN ?_ _ | refine blk_drew ?_ | refine blk_alloc ?_ _)); refine blk_far ?_ NB102_104.out _; (with_reducible repeat (first | refine blk_drewN ?_ _ | refine blk_drew ?_ | refine blk_alloc ?_ _)); refine blk_far ?_ NB102_104.out _; (with_reducible repeat (first | refine blk_drewN ?_ _ | refine blk_drew ?_ | refine blk_alloc ?_ _)); exact BK102.out⟩, ⟨by (with_reducible repeat (first | refine blk_drewN ?_ _ | refine blk_drew ?_ | refine blk_alloc ?_ _)); refine blk_put (cs := #[.int .i64 ((rd_T52 l0_0 x22_2).f0), .int .i64 ((rd_T52 l0_0 x22_2).f1.f0), .int .u64 ((rd_T52 l0_0 x22_2).f1.f1), .int .u64 ((rd_T52 l0_0 x22_2).f1.f2), .slice none 0 0]) ?_ 4 _ rfl; (with_reducible repeat (first | refine blk_drewN ?_ _ | refine blk_drew ?_ | refine blk_alloc ?_ _)); refine blk_put (cs := #[.int .i64 ((rd_T52 l0_0 x22_2).f0), .int .i64 ((rd_T52 l0_0 x22_2).f1.f0), .int .u64 ((rd_T52 l0_0 x22_2).f1.f1), .int .u64 0, .slice none 0 0]) ?_ 3 _ rfl; (with_reducible repeat (first | refine blk_drewN ?_ _ | refine blk_drew ?_ | refine blk_alloc ?_ _)); refine blk_put (cs := #[.int .i64 ((rd_T52 l0_0 x22_2).f0), .int .i64 ((rd_T52 l0_0 x22_2).f1.f0), .int .u64 0, .int .u64 0, .slice none 0 0]) ?_ 2 _ rfl; (with_reducible repeat (first | refine blk_drewN ?_ _ | refine blk_drew ?_ | refine blk_alloc ?_ _)); refine blk_put (cs := #[.int .i64 ((rd_T52 l0_0 x22_2).f0), .int .i64 0, .int .u64 0, .int .u64 0, .slice none 0 0]) ?_ 1 _ rfl; (with_reducible repeat (first | refine blk_drewN ?_ _ | refine blk_drew ?_ | refine blk_alloc ?_ _)); refine blk_put (cs := #[.int .i64 0, .int .i64 0, .int .u64 0, .int .u64 0, .slice none 0 0]) ?_ 0 _ rfl; (with_reducible repeat (first | refine blk_drewN ?_ _ | refine blk_drew ?_ | refine blk_alloc ?_ _)); exact BK104.out⟩, ⟨by repeat (first | (with_reducible first | exact HB.out | apply below_alloc | apply pw_below_drewN | apply below_drew1 | refine below_set ?_ GE102.out | refine below_set ?_ GE104.out) | exact HB.out)⟩⟩
                      · rw [if_neg c17] at H
                        have c17b0 : (((rd_T52 l0_0 x22_2).f0) == 1) = false := beq_eq_false_iff_ne.mpr c17
                        have c17b1 : (((rd_T52 l0_0 x22_2).f0) != 1) = true := bne_iff_ne.mpr c17
                        (first | rw [c17b0] | (simp only [i64_w, i32_w]; rw [c17b0]) | skip)
                        by_cases c18 : ((rd_T52 l0_0 x22_2).f0) = 2
                        · rw [if_pos c18] at H
                          have c18b0 : (((rd_T52 l0_0 x22_2).f0) == 2) = true := beq_iff_eq.mpr c18
                          have c18b1 : (((rd_T52 l0_0 x22_2).f0) != 2) = false := bne_eq_false_iff_eq.mpr c18
                          clear c18
                          have H' := Aside0.mk H
                          clear H
                          go_wp2
                          go_meet
                          case rel => exact ⟨_, ((((rd_T52 l0_0 x22_2).f0) == 2)), (by first | rfl | (simp; done) | (simp [*]; done)), H', ⟨by have := HJ1.out; have := HK2.out; first | omega | exact Nat.le_refl _⟩, ⟨by (with_reducible repeat (first | refine blk_drewN ?_ _ | refine blk_drew ?_ | refine blk_alloc ?_ _)); refine blk_far ?_ NB102_104.out _; (with_reducible repeat (first | refine blk_drewN ?_ _ | refine blk_drew ?_ | refine blk_alloc ?_ _)); refine blk_far ?_ NB102_104.out _; (with_reducible repeat (first | refine blk_drewN ?_ _ | refine blk_drew ?_ | refine blk_alloc ?_ _)); refine blk_far ?_ NB102_104.out _; (with_reducible repeat (first | refine blk_drewN ?_ _ | refine blk_drew ?_ | refine blk_alloc ?_ _)); refine blk_far ?_ NB102_104.out _; (with_reducible repeat (first | refine blk_drewN ?_ _ | refine blk_drew ?_ | refine blk_alloc ?_ _)); refine blk_far ?_ NB102_104.out _; (with_reducible repeat (first | refine blk_drewN ?_ _ | refine blk_drew ?_ | refine blk_alloc ?_ _)); exact BK102.out⟩, ⟨by (with_reducible repeat (first | refine blk_drewN ?_ _ | refine blk_drew ?_ | refine blk_alloc ?_ _)); refine blk_put (cs := #[.int .i64 ((rd_T52 l0_0 x22_2).f0), .int .i64 ((rd_T52 l0_0 x22_2).f1.f0), .int .u64 ((rd_T52 l0_0 x22_2).f1.f1), .int .u64 ((rd_T52 l0_0 x22_2).f1.f2), .slice none 0 0]) ?_ 4 _ rfl; (with_reducible repeat (first | refine blk_drewN ?_ _ | refine blk_drew ?_ | refine blk_alloc ?_ _)); refine blk_put (cs := #[.int .i64 ((rd_T52 l0_0 x22_2).f0), .int .i64 ((rd_T52 l0_0 x22_2).f1.f0), .int .u64 ((rd_T52 l0_0 x22_2).f1.f1), .int .u64 0, .slice none 0 0]) ?_ 3 _ rfl; (with_reducible repeat (first | refine blk_drewN ?_ _ | refine blk_drew ?_ | refine blk_alloc ?_ _)); refine blk_put (cs := #[.int .i64 ((rd_T52 l0_0 x22_2).f0), .int .i64 ((rd_T52 l0_0 x22_2).f1.f0), .int .u64 0, .int .u64 0, .slice none 0 0]) ?_ 2 _ rfl; (with_reducible repeat (first | refine blk_drewN ?_ _ | refine blk_drew ?_ | refine blk_alloc ?_ _)); refine blk_put (cs := #[.int .i64 ((rd_T52 l0_0 x22_2).f0), .int .i64 0, .int .u64 0, .int .u64 0, .slice none 0 0]) ?_ 1 _ rfl; (with_reducible repeat (first | refine blk_drewN ?_ _ | refine blk_drew ?_ | refine blk_alloc ?_ _)); refine blk_put (cs := #[.int .i64 0, .int .i64 0, .int .u64 0, .int .u64 0, .slice none 0 0]) ?_ 0 _ rfl; (with_reducible repeat (first | refine blk_drewN ?_ _ | refine blk_drew ?_ | refine blk_alloc ?_ _)); exact BK104.out⟩, ⟨by repeat (first | (with_reducible first | exact HB.out | apply below_alloc | apply pw_below_drewN | apply below_drew1 | refine below_set ?_ GE102.out | refine below_set ?_ GE104.out) | exact HB.out)⟩⟩
                        · rw [if_neg c18] at H
                          have c18b0 : (((rd_T52 l0_0 x22_2).f0) == 2) = false := beq_eq_false_iff_ne.mpr c18
                          have c18b1 : (((rd_T52 l0_0 x22_2).f0) != 2) = true := bne_iff_ne.mpr c18
                          have H' := Aside0.mk H
                          clear H
                          go_wp2
                          go_meet
                          case rel => exact ⟨_, ((((rd_T52 l0_0 x22_2).f0) == 3)), (by first | rfl | (simp; done) | (simp [*]; done)), H', ⟨by have := HJ1.out; have := HK2.out; first | omega | exact Nat.le_refl _⟩, ⟨by (with_reducible repeat (first | refine blk_drewN ?_ _ | refine blk_drew ?_ | refine blk_alloc ?_ _)); refine blk_far ?_ NB102_104.out _; (with_reducible repeat (first | refine blk_drewN ?_ _ | refine blk_drew ?_ | refine blk_alloc ?_ _)); refine blk_far ?_ NB102_104.out _; (with_reducible repeat (first | refine blk_drewN ?_ _ | refine blk_drew ?_ | refine blk_alloc ?_ _)); refine blk_far ?_ NB102_104.out _; (with_reducible repeat (first | refine blk_drewN ?_ _ | refine blk_drew ?_ | refine blk_alloc ?_ _)); refine blk_far ?_ NB102_104.out _; (with_reducible repeat (first | refine blk_drewN ?_ _ | refine blk_drew ?_ | refine blk_alloc ?_ _)); refine blk_far ?_ NB102_104.out _; (with_reducible repeat (first | refine blk_drewN ?_ _ | refine blk_drew ?_ | refine blk_alloc ?_ _)); exact BK102.out⟩, ⟨by (with_reducible repeat (first | refine blk_drewN ?_ _ | refine blk_drew ?_ | refine blk_alloc ?_ _)); refine blk_put (cs := #[.int .i64 ((rd_T52 l0_0 x22_2).f0), .int .i64 ((rd_T52 l0_0 x22_2).f1.f0), .int .u64 ((rd_T52 l0_0 x22_2).f1.f1), .int .u64 ((rd_T52 l0_0 x22_2).f1.f2), .slice none 0 0]) ?_ 4 _ rfl; (with_reducible repeat (first | refine blk_drewN ?_ _ | refine blk_drew ?_ | refine blk_alloc ?_ _)); refine blk_put (cs := #[.int .i64 ((rd_T52 l0_0 x22_2).f0), .int .i64 ((rd_T52 l0_0 x22_2).f1.f0), .int .u64 ((rd_T52 l0_0 x22_2).f1.f1), .int .u64 0, .slice none 0 0]) ?_ 3 _ rfl; (with_reducible repeat (first | refine blk_drewN ?_ _ | refine blk_drew ?_ | refine blk_alloc ?_ _)); refine blk_put (cs := #[.int .i64 ((rd_T52 l0_0 x22_2).f0), .int .i64 ((rd_T52 l0_0 x22_2).f1.f0), .int .u64 0, .int .u64 0, .slice none 0 0]) ?_ 2 _ rfl; (with_reducible repeat (first | refine blk_drewN ?_ _ | refine blk_drew ?_ | refine blk_alloc ?_ _)); refine blk_put (cs := #[.int .i64 ((rd_T52 l0_0 x22_2).f0), .int .i64 0, .int .u64 0, .int .u64 0, .slice none 0 0]) ?_ 1 _ rfl; (with_reducible repeat (first | refine blk_drewN ?_ _ | refine blk_drew ?_ | refine blk_alloc ?_ _)); refine blk_put (cs := #[.int .i64 0, .int .i64 0, .int .u64 0, .int .u64 0, .slice none 0 0]) ?_ 0 _ rfl; (with_reducible repeat (first | refine blk_drewN ?_ _ | refine blk_drew ?_ | refine blk_alloc ?_ _)); exact BK104.out⟩, ⟨by repeat (first | (with_reducible first | exact HB.out | apply below_alloc | apply pw_below_drewN | apply below_drew1 | refine below_set ?_ GE102.out | refine below_set ?_ GE104.out) | exact HB.out)⟩⟩
                    case rest =>
                      clear HC16
                      try clear c1
                      try clear p1
                      try clear q1
                      try clear hx1
                      try clear c2
                      try clear p2
                      try clear c4
                      try clear c4b0
                      try clear c4b1
                      try clear c4b2
                      try clear c7
                      try clear c9
                      try clear c9b0
                      try clear c10
                      try clear c10b0
                      try clear p10
                      try clear q10
                      try clear hx10
                      try clear c11
                      try clear c11b0
                      try clear c14
                      try clear c17
                      try clear c17b0
                      try clear c17b1
                      try clear c18
                      try clear c18b0
                      try clear c18b1
                      try clear hcz15_0
                      try clear hcz15_1
                      try clear hcz15_2
                      try clear hcz15_3
                      try clear hcz15_4
                      try clear hcz5_0
                      try clear hcz6_0
                      try clear hcz8_0
                      try clear hfz15_0
                      try clear hfz15_1
                      try clear hfz15_2
                      try clear hfz15_3
                      try clear hfz15_4
                      try clear hfz5_0
                      try clear hfz6_0
                      try clear hfz8_0
                      try clear hx103_0
                      try clear hx103_1
                      try clear hx103_2
                      try clear hx103_3
                      try clear hx103_4
                      try clear p103
                      try clear p2
                      try clear q103
                      obtain ⟨kq, x29_15, rfl, HA, HJ15, BK102, BK104, HB⟩ := hcut
                      cases kq with
                      | zero => exact absurd HA.out (by simp [pred_Right.j2])
                      | succ kj15 =>
                        have H := HA.out
                        clear HA
                        simp only [pred_Right.j2] at H
                        by_cases c19 : x29_15 = true
                        · subst c19
                          have H1 : (pred_Right.j4 kj15 x22_2 0 0 l0_0 (l0_0.length : Int) x22_2 ((rd_T52 l0_0 x22_2).f0) ((rd_T52 l0_0 x22_2).f1.f0) ((rd_T52 l0_0 x22_2).f1.f1) ((rd_T52 l0_0 x22_2).f1.f2) ((rd_T52 l0_0 x22_2).f2)) = some r := by rw [if_pos rfl] at H; exact H
                          clear H
                          have H := H1
                          clear H1
                          have H' := Aside0.mk H
                          clear H
                          go_wp2
                          go_meet
                          case rel => exact ⟨_, (0), (0), (by first | rfl | (simp; done) | (simp [*]; done)), (by first | rfl | (simp; done) | (simp [*]; done)), H', ⟨by have := HJ1.out; have := HK2.out; have := HJ15.out; first | omega | exact Nat.le_refl _⟩, ⟨by (with_reducible repeat (first | refine blk_drewN ?_ _ | refine blk_drew ?_ | refine blk_alloc ?_ _)); exact BK102.out⟩, ⟨by (with_reducible repeat (first | refine blk_drewN ?_ _ | refine blk_drew ?_ | refine blk_alloc ?_ _)); exact BK104.out⟩, ⟨by repeat (first | (with_reducible first | exact HB.out | apply below_alloc | apply pw_below_drewN | apply below_drew1 | refine below_set ?_ GE102.out | refine below_set ?_ GE104.out) | exact HB.out)⟩⟩
                        · replace c19 := Bool.eq_false_iff.mpr c19
                          subst c19
                          have H1 : (if ((rd_T52 l0_0 x22_2).f0) = 4 then (pred_Right.j3 kj15 x22_2 0 l0_0 (l0_0.length : Int) x22_2 ((rd_T52 l0_0 x22_2).f0) (((rd_T52 l0_0 x22_2).f0) == 4) ((rd_T52 l0_0 x22_2).f0) ((rd_T52 l0_0 x22_2).f1.f0) ((rd_T52 l0_0 x22_2).f1.f1) ((rd_T52 l0_0 x22_2).f1.f2) ((rd_T52 l0_0 x22_2).f2)) else (pred_Right.j3 kj15 x22_2 0 l0_0 (l0_0.length : Int) x22_2 ((rd_T52 l0_0 x22_2).f0) (((rd_T52 l0_0 x22_2).f0) == 5) ((rd_T52 l0_0 x22_2).f0) ((rd_T52 l0_0 x22_2).f1.f0) ((rd_T52 l0_0 x22_2).f1.f1) ((rd_T52 l0_0 x22_2).f1.f2) ((rd_T52 l0_0 x22_2).f2))) = some r := by rw [if_neg (show ¬ (false = true) by decide)] at H; exact H
                          clear H
                          have H := H1
                          clear H1
                          have HC20 := Aside0.mk H
                          clear H
                          go_upto_if 33 with (fail)
                          go_cut [33] (fun v33 wc => ∃ (kq : Nat) (x33_19 : Bool), v33 = .bool x33_19 ∧ Aside0 (pred_Right.j3 kq x22_2 0 l0_0 (l0_0.length : Int) x22_2 ((rd_T52 l0_0 x22_2).f0) x33_19 ((rd_T52 l0_0 x22_2).f0) ((rd_T52 l0_0 x22_2).f1.f0) ((rd_T52 l0_0 x22_2).f1.f1) ((rd_T52 l0_0 x22_2).f1.f2) ((rd_T52 l0_0 x22_2).f2) = some r) ∧ Aside0 (kq ≤ kj15) ∧ Aside0 (wc.heap[gb102]? = some (.cells #[(.slice (some ad103) l0_0.length c0_0)] 24 (0, 0))) ∧ Aside0 (wc.heap[gb104]? = some (.cells #[.int .i64 ((rd_T52 l0_0 x22_2).f0), .int .i64 ((rd_T52 l0_0 x22_2).f1.f0), .int .u64 ((rd_T52 l0_0 x22_2).f1.f1), .int .u64 ((rd_T52 l0_0 x22_2).f1.f2), (.slice A103_4 ((rd_T52 l0_0 x22_2).f2).length c103_4)] 52 (0, 0))) ∧ Aside0 (Below w.heap.size w wc))
                          case first =>
                            have H := HC20.out
                            clear HC20
                            by_cases c21 : ((rd_T52 l0_0 x22_2).f0) = 4
                            · rw [if_pos c21] at H
                              have c21b0 : (((rd_T52 l0_0 x22_2).f0) == 4) = true := beq_iff_eq.mpr c21
                              have c21b1 : (((rd_T52 l0_0 x22_2).f0) != 4) = false := bne_eq_false_iff_eq.mpr c21
                              clear c21
                              (first | rw [c21b0] | (simp only [i64_w, i32_w]; rw [c21b0]) | skip)
                              have H' := Aside0.mk H
                              clear H
                              go_wp2
                              go_meet
                              case rel => exact ⟨_, ((((rd_T52 l0_0 x22_2).f0) == 4)), (by first | rfl | (simp; done) | (simp [*]; done)), H', ⟨by have := HJ1.out; have := HK2.out; have := HJ15.out; first | omega | exact Nat.le_refl _⟩, ⟨by (with_reducible repeat (first | refine blk_drewN ?_ _ | refine blk_drew ?_ | refine blk_alloc ?_ _)); exact BK102.out⟩, ⟨by (with_reducible repeat (first | refine blk_drewN ?_ _ | refine blk_drew ?_ | refine blk_alloc ?_ _)); exact BK104.out⟩, ⟨by repeat (first | (with_reducible first | exact HB.out | apply below_alloc | apply pw_below_drewN | apply below_drew1 | refine below_set ?_ GE102.out | refine below_set ?_ GE104.out) | exact HB.out)⟩⟩
                            · rw [if_neg c21] at H
                              have c21b0 : (((rd_T52 l0_0 x22_2).f0) == 4) = false := beq_eq_false_iff_ne.mpr c21
                              have c21b1 : (((rd_T52 l0_0 x22_2).f0) != 4) = true := bne_iff_ne.mpr c21
                              (first | rw [c21b0] | (simp only [i64_w, i32_w]; rw [c21b0]) | skip)
                              have H' := Aside0.mk H
                              clear H
                              go_wp2
                              go_meet
                              case rel => exact ⟨_, ((((rd_T52 l0_0 x22_2).f0) == 5)), (by first | rfl | (simp; done) | (simp [*]; done)), H', ⟨by have := HJ1.out; have := HK2.out; have := HJ15.out; first | omega | exact Nat.le_refl _⟩, ⟨by (with_reducible repeat (first | refine blk_drewN ?_ _ | refine blk_drew ?_ | refine blk_alloc ?_ _)); exact BK102.out⟩, ⟨by (with_reducible repeat (first | refine blk_drewN ?_ _ | refine blk_drew ?_ | refine blk_alloc ?_ _)); exact BK104.out⟩, ⟨by repeat (first | (with_reducible first | exact HB.out | apply below_alloc | apply pw_below_drewN | apply below_drew1 | refine below_set ?_ GE102.out | refine below_set ?_ GE104.out) | exact HB.out)⟩⟩
                          case rest =>
                            clear HC20
                            try clear c1
                            try clear p1
                            try clear q1
                            try clear hx1
                            try clear c2
                            try clear p2
                            try clear c4
                            try clear c4b0
                            try clear c4b1
                            try clear c4b2
                            try clear c7
                            try clear c9
                            try clear c9b0
                            try clear c10
                            try clear c10b0
                            try clear p10
                            try clear q10
                            try clear hx10
                            try clear c11
                            try clear c11b0
                            try clear c14
                            try clear c17
                            try clear c17b0
                            try clear c17b1
                            try clear c18
                            try clear c18b0
                            try clear c18b1
                            try clear c19
                            try clear c21
                            try clear c21b0
                            try clear c21b1
                            try clear hcz15_0
                            try clear hcz15_1
                            try clear hcz15_2
                            try clear hcz15_3
                            try clear hcz15_4
                            try clear hcz5_0
                            try clear hcz6_0
                            try clear hcz8_0
                            try clear hfz15_0
                            try clear hfz15_1
                            try clear hfz15_2
                            try clear hfz15_3
                            try clear hfz15_4
                            try clear hfz5_0
                            try clear hfz6_0
                            try clear hfz8_0
                            try clear hx103_0
                            try clear hx103_1
                            try clear hx103_2
                            try clear hx103_3
                            try clear hx103_4
                            try clear p1
                            try clear p10
                            try clear p103
                            try clear p2
                            try clear q1
                            try clear q10
                            try clear q103
                            obtain ⟨kq, x33_19, rfl, HA, HJ19, BK102, BK104, HB⟩ := hcut
                            cases kq with
                            | zero => exact absurd HA.out (by simp [pred_Right.j3])
                            | succ kj19 =>
                              have H := HA.out
                              clear HA
                              simp only [pred_Right.j3] at H
                              by_cases c22 : x33_19 = true
                              · subst c22
                                have H1 : (pred_Right.j4 kj19 x22_2 0 12 l0_0 (l0_0.length : Int) x22_2 ((rd_T52 l0_0 x22_2).f0) ((rd_T52 l0_0 x22_2).f1.f0) ((rd_T52 l0_0 x22_2).f1.f1) ((rd_T52 l0_0 x22_2).f1.f2) ((rd_T52 l0_0 x22_2).f2)) = some r := by rw [if_pos rfl] at H; exact H
                                clear H
                                have H := H1
                                clear H1
                                have H' := Aside0.mk H
                                clear H
                                go_wp2
                                go_meet
                                case rel => exact ⟨_, (0), (12), (by first | rfl | (simp; done) | (simp [*]; done)), (by first | rfl | (simp; done) | (simp [*]; done)), H', ⟨by have := HJ1.out; have := HK2.out; have := HJ15.out; have := HJ19.out; first | omega | exact Nat.le_refl _⟩, ⟨by (with_reducible repeat (first | refine blk_drewN ?_ _ | refine blk_drew ?_ | refine blk_alloc ?_ _)); exact BK102.out⟩, ⟨by (with_reducible repeat (first | refine blk_drewN ?_ _ | refine blk_drew ?_ | refine blk_alloc ?_ _)); exact BK104.out⟩, ⟨by repeat (first | (with_reducible first | exact HB.out | apply below_alloc | apply pw_below_drewN | apply below_drew1 | refine below_set ?_ GE102.out | refine below_set ?_ GE104.out) | exact HB.out)⟩⟩
                              · replace c22 := Bool.eq_false_iff.mpr c22
                                subst c22
                                have H1 : (if ((rd_T52 l0_0 x22_2).f0) = 6 then (pred_Right.j4 kj19 x22_2 1 1 l0_0 (l0_0.length : Int) x22_2 ((rd_T52 l0_0 x22_2).f0) ((rd_T52 l0_0 x22_2).f1.f0) ((rd_T52 l0_0 x22_2).f1.f1) ((rd_T52 l0_0 x22_2).f1.f2) ((rd_T52 l0_0 x22_2).f2)) else (some false)) = some r := by rw [if_neg (show ¬ (false = true) by decide)] at H; exact H
                                clear H
                                have H := H1
                                clear H1
                                by_cases c23 : ((rd_T52 l0_0 x22_2).f0) = 6
                                · rw [if_pos c23] at H
                                  have c23b0 : (((rd_T52 l0_0 x22_2).f0) == 6) = true := beq_iff_eq.mpr c23
                                  have c23b1 : (((rd_T52 l0_0 x22_2).f0) != 6) = false := bne_eq_false_iff_eq.mpr c23
                                  clear c23
                                  have H' := Aside0.mk H
                                  clear H
                                  go_wp2
                                  go_meet
                                  case rel => exact ⟨_, (1), (1), (by first | rfl | (simp; done) | (simp [*]; done)), (by first | rfl | (simp; done) | (simp [*]; done)), H', ⟨by have := HJ1.out; have := HK2.out; have := HJ15.out; have := HJ19.out; first | omega | exact Nat.le_refl _⟩, ⟨by (with_reducible repeat (first | refine blk_drewN ?_ _ | refine blk_drew ?_ | refine blk_alloc ?_ _)); exact BK102.out⟩, ⟨by (with_reducible repeat (first | refine blk_drewN ?_ _ | refine blk_drew ?_ | refine blk_alloc ?_ _)); exact BK104.out⟩, ⟨by repeat (first | (with_reducible first | exact HB.out | apply below_alloc | apply pw_below_drewN | apply below_drew1 | refine below_set ?_ GE102.out | refine below_set ?_ GE104.out) | exact HB.out)⟩⟩
                                · rw [if_neg c23] at H
                                  have c23b0 : (((rd_T52 l0_0 x22_2).f0) == 6) = false := beq_eq_false_iff_ne.mpr c23
                                  have c23b1 : (((rd_T52 l0_0 x22_2).f0) != 6) = true := bne_iff_ne.mpr c23
                                  obtain rfl := Option.some.inj H
                                  go_wp2
                                  go_ret
                                  exact ⟨by first | rfl | (simp [errW_none, errW_some] <;> rfl) | (simp [*, errW_none, errW_some] <;> rfl), by repeat (first | (with_reducible first | exact HB.out | apply below_alloc | apply pw_below_drewN | apply below_drew1 | refine below_set ?_ GE102.out | refine below_set ?_ GE104.out) | exact HB.out)⟩
                  case rest =>
                    clear HC12
                    try clear c1
                    try clear p1
                    try clear q1
                    try clear hx1
                    try clear c2
                    try clear p2
                    try clear c4
                    try clear c4b0
                    try clear c4b1
                    try clear c4b2
                    try clear c7
                    try clear c9
                    try clear c9b0
                    try clear c10
                    try clear c10b0
                    try clear p10
                    try clear q10
                    try clear hx10
                    try clear c11
                    try clear c11b0
                    try clear c14
                    try clear c17
                    try clear c17b0
                    try clear c17b1
                    try clear c18
                    try clear c18b0
                    try clear c18b1
                    try clear c19
                    try clear c21
                    try clear c21b0
                    try clear c21b1
                    try clear c22
                    try clear c23
                    try clear c23b0
                    try clear c23b1
                    try clear hcz15_0
                    try clear hcz15_1
                    try clear hcz15_2
                    try clear hcz15_3
                    try clear hcz15_4
                    try clear hcz5_0
                    try clear hcz6_0
                    try clear hcz8_0
                    try clear hfz15_0
                    try clear hfz15_1
                    try clear hfz15_2
                    try clear hfz15_3
                    try clear hfz15_4
                    try clear hfz5_0
                    try clear hfz6_0
                    try clear hfz8_0
                    try clear hx103_0
                    try clear hx103_1
                    try clear hx103_2
                    try clear hx103_3
                    try clear hx103_4
                    try clear p1
                    try clear p10
                    try clear p103
                    try clear p2
                    try clear q1
                    try clear q10
                    try clear q103
                    obtain ⟨kq, x5_11, x6_11, rfl, rfl, HA, HJ11, BK102, BK104, HB⟩ := hcut
                    cases kq with
                    | zero => exact absurd HA.out (by simp [pred_Right.j4])
                    | succ kj11 =>
                      have H := HA.out
                      clear HA
                      simp only [pred_Right.j4] at H
                      have HC24 := Aside0.mk H
                      clear H
                      go_upto_region 17 with (fail)
                      go_cut [71] (fun v71 wc => ∃ (kq : Nat) (x71_23 : Bool), v71 = .bool x71_23 ∧ Aside0 (pred_Right.j5 kq x22_2 l0_0 (l0_0.length : Int) x22_2 x71_23 ((rd_T52 l0_0 x22_2).f0) ((rd_T52 l0_0 x22_2).f1.f0) ((rd_T52 l0_0 x22_2).f1.f1) ((rd_T52 l0_0 x22_2).f1.f2) ((rd_T52 l0_0 x22_2).f2) = some r) ∧ Aside0 (kq ≤ kj11) ∧ Aside0 (wc.heap[gb102]? = some (.cells #[(.slice (some ad103) l0_0.length c0_0)] 24 (0, 0))) ∧ Aside0 (wc.heap[gb104]? = some (.cells #[.int .i64 ((rd_T52 l0_0 x22_2).f0), .int .i64 ((rd_T52 l0_0 x22_2).f1.f0), .int .u64 ((rd_T52 l0_0 x22_2).f1.f1), .int .u64 ((rd_T52 l0_0 x22_2).f1.f2), (.slice A103_4 ((rd_T52 l0_0 x22_2).f2).length c103_4)] 52 (0, 0))) ∧ Aside0 (Below w.heap.size w wc))
                      case first =>
                        have H := HC24.out
                        clear HC24
                        by_cases c25 : ((rd_T52 l0_0 x22_2).f0) = 3
                        · rw [if_pos c25] at H
                          have c25b0 : (((rd_T52 l0_0 x22_2).f0) == 3) = true := beq_iff_eq.mpr c25
                          have c25b1 : (((rd_T52 l0_0 x22_2).f0) != 3) = false := bne_eq_false_iff_eq.mpr c25
                          clear c25
                          (first | rw [c25b0] | (simp only [i64_w, i32_w]; rw [c25b0]) | skip)
                          replace H := Option.bind_eq_some_iff.mp H
                          obtain ⟨t105, A260, H⟩ := H
                          replace H : (if t105 = true then (if (((rd_T52 l0_0 x22_2).f2).length : Int) < x5_11 then (pred_Right.j5 kj11 x22_2 l0_0 (l0_0.length : Int) x22_2 true ((rd_T52 l0_0 x22_2).f0) ((rd_T52 l0_0 x22_2).f1.f0) ((rd_T52 l0_0 x22_2).f1.f1) ((rd_T52 l0_0 x22_2).f1.f2) ((rd_T52 l0_0 x22_2).f2)) else (pred_Right.j5 kj11 x22_2 l0_0 (l0_0.length : Int) x22_2 (decide ((((rd_T52 l0_0 x22_2).f2).length : Int) > x6_11)) ((rd_T52 l0_0 x22_2).f0) ((rd_T52 l0_0 x22_2).f1.f0) ((rd_T52 l0_0 x22_2).f1.f1) ((rd_T52 l0_0 x22_2).f1.f2) ((rd_T52 l0_0 x22_2).f2))) else (pred_Right.j5 kj11 x22_2 l0_0 (l0_0.length : Int) x22_2 true ((rd_T52 l0_0 x22_2).f0) ((rd_T52 l0_0 x22_2).f1.f0) ((rd_T52 l0_0 x22_2).f1.f1) ((rd_T52 l0_0 x22_2).f1.f2) ((rd_T52 l0_0 x22_2).f2))) = some r := H
                          have A26 := Aside0.mk A260
                          clear A260
                          by_cases c27 : t105 = true
                          · subst c27
                            have H1 : (if (((rd_T52 l0_0 x22_2).f2).length : Int) < x5_11 then (pred_Right.j5 kj11 x22_2 l0_0 (l0_0.length : Int) x22_2 true ((rd_T52 l0_0 x22_2).f0) ((rd_T52 l0_0 x22_2).f1.f0) ((rd_T52 l0_0 x22_2).f1.f1) ((rd_T52 l0_0 x22_2).f1.f2) ((rd_T52 l0_0 x22_2).f2)) else (pred_Right.j5 kj11 x22_2 l0_0 (l0_0.length : Int) x22_2 (decide ((((rd_T52 l0_0 x22_2).f2).length : Int) > x6_11)) ((rd_T52 l0_0 x22_2).f0) ((rd_T52 l0_0 x22_2).f1.f0) ((rd_T52 l0_0 x22_2).f1.f1) ((rd_T52 l0_0 x22_2).f1.f2) ((rd_T52 l0_0 x22_2).f2))) = some r := by rw [if_pos rfl] at H; exact H
                            clear H
                            have H := H1
                            clear H1
                            by_cases c28 : (((rd_T52 l0_0 x22_2).f2).length : Int) < x5_11
                            · rw [if_pos c28] at H
                              have c28b0 : decide ((((rd_T52 l0_0 x22_2).f2).length : Int) < x5_11) = true := decide_eq_true c28
                              clear c28
                              have H' := Aside0.mk H
                              clear H
                              have hnb29 := NB104_102.out
                              have hnc29 := NB102_104.out
                              have hcz30_0 : wc.cell? ⟨gb104, 0, none⟩ = some (.int .i64 ((rd_T52 l0_0 x22_2).f0)) := (blk_cell BK104.out 0).trans rfl
                              have hcz30_1 : wc.cell? ⟨gb104, 1, none⟩ = some (.int .i64 ((rd_T52 l0_0 x22_2).f1.f0)) := (blk_cell BK104.out 1).trans rfl
                              have hcz30_2 : wc.cell? ⟨gb104, 2, none⟩ = some (.int .u64 ((rd_T52 l0_0 x22_2).f1.f1)) := (blk_cell BK104.out 2).trans rfl
                              have hcz30_3 : wc.cell? ⟨gb104, 3, none⟩ = some (.int .u64 ((rd_T52 l0_0 x22_2).f1.f2)) := (blk_cell BK104.out 3).trans rfl
                              have hcz30_4 : wc.cell? ⟨gb104, 4, none⟩ = some (.slice A103_4 ((rd_T52 l0_0 x22_2).f2).length c103_4) := (blk_cell BK104.out 4).trans rfl
                              have hfz30_0 := blk_frozen BK104.out 0
                              have hfz30_1 := blk_frozen BK104.out 1
                              have hfz30_2 := blk_frozen BK104.out 2
                              have hfz30_3 := blk_frozen BK104.out 3
                              have hfz30_4 := blk_frozen BK104.out 4
                              go_wp2_with (first | (go_at_call 51; (with_reducible refine (pred_testRight.calls ((rd_T52 l0_0 x22_2).f1.f0) ((rd_T52 l0_0 x22_2).f1.f1) ((rd_T52 l0_0 x22_2).f1.f2) true _ A26.out).mono ?_); rintro e w31 ⟨rfl, hb⟩; have n0_ := Aside0.mk (blk_below (g := gb102) (o := .cells #[.slice (some ad103) l0_0.length c0_0] 24 (0, 0)) (by (with_reducible repeat (first | refine blk_drewN ?_ _ | refine blk_drew ?_ | refine blk_alloc ?_ _)); exact BK102.out) hb); have n1_ := Aside0.mk (blk_below (g := gb104) (o := .cells #[.int .i64 ((rd_T52 l0_0 x22_2).f0), .int .i64 ((rd_T52 l0_0 x22_2).f1.f0), .int .u64 ((rd_T52 l0_0 x22_2).f1.f1), .int .u64 ((rd_T52 l0_0 x22_2).f1.f2), .slice A103_4 ((rd_T52 l0_0 x22_2).f2).length c103_4] 52 (0, 0)) (by (with_reducible repeat (first | refine blk_drewN ?_ _ | refine blk_drew ?_ | refine blk_alloc ?_ _)); exact BK104.out) hb); have n2_ := Aside0.mk (below_step (by repeat (first | (with_reducible first | exact HB.out | apply below_alloc | apply pw_below_drewN | apply below_drew1 | refine below_set ?_ GE102.out | refine below_set ?_ GE104.out) | exact HB.out)) hb); clear BK102; clear BK104; clear HB; have BK102 := n0_; have BK104 := n1_; have HB := n2_; clear n0_ n1_ n2_; (try clear hb); (try clear hb2); (try clear hk); (try clear hi); have hcz32_0 : w31.cell? ⟨gb104, 0, none⟩ = some (.int .i64 ((rd_T52 l0_0 x22_2).f0)) := (blk_cell BK104.out 0).trans rfl; have hcz32_1 : w31.cell? ⟨gb104, 1, none⟩ = some (.int .i64 ((rd_T52 l0_0 x22_2).f1.f0)) := (blk_cell BK104.out 1).trans rfl; have hcz32_2 : w31.cell? ⟨gb104, 2, none⟩ = some (.int .u64 ((rd_T52 l0_0 x22_2).f1.f1)) := (blk_cell BK104.out 2).trans rfl; have hcz32_3 : w31.cell? ⟨gb104, 3, none⟩ = some (.int .u64 ((rd_T52 l0_0 x22_2).f1.f2)) := (blk_cell BK104.out 3).trans rfl; have hcz32_4 : w31.cell? ⟨gb104, 4, none⟩ = some (.slice A103_4 ((rd_T52 l0_0 x22_2).f2).length c103_4) := (blk_cell BK104.out 4).trans rfl; have hfz32_0 := blk_frozen BK104.out 0; have hfz32_1 := blk_frozen BK104.out 1; have hfz32_2 := blk_frozen BK104.out 2; have hfz32_3 := blk_frozen BK104.out 3; have hfz32_4 := blk_frozen BK104.out 4))
                              go_meet
                              case rel => exact ⟨_, (true), (by first | rfl | (simp; done) | (simp [*]; done)), H', ⟨by have := HJ1.out; have := HK2.out; have := HJ11.out; first | omega | exact Nat.le_refl _⟩, ⟨by (with_reducible repeat (first | refine blk_drewN ?_ _ | refine blk_drew ?_ | refine blk_alloc ?_ _)); exact BK102.out⟩, ⟨by (with_reducible repeat (first | refine blk_drewN ?_ _ | refine blk_drew ?_ | refine blk_alloc ?_ _)); exact BK104.out⟩, ⟨by repeat (first | (with_reducible first | exact HB.out | apply below_alloc | apply pw_below_drewN | apply below_drew1 | refine below_set ?_ GE102.out | refine below_set ?_ GE104.out) | exact HB.out)⟩⟩
                            · rw [if_neg c28] at H
                              have c28b0 : decide ((((rd_T52 l0_0 x22_2).f2).length : Int) < x5_11) = false := decide_eq_false c28
                              clear c28
                              have H' := Aside0.mk H
                              clear H
                              have hnb33 := NB104_102.out
                              have hnc33 := NB102_104.out
                              have hcz34_0 : wc.cell? ⟨gb104, 0, none⟩ = some (.int .i64 ((rd_T52 l0_0 x22_2).f0)) := (blk_cell BK104.out 0).trans rfl
                              have hcz34_1 : wc.cell? ⟨gb104, 1, none⟩ = some (.int .i64 ((rd_T52 l0_0 x22_2).f1.f0)) := (blk_cell BK104.out 1).trans rfl
                              have hcz34_2 : wc.cell? ⟨gb104, 2, none⟩ = some (.int .u64 ((rd_T52 l0_0 x22_2).f1.f1)) := (blk_cell BK104.out 2).trans rfl
                              have hcz34_3 : wc.cell? ⟨gb104, 3, none⟩ = some (.int .u64 ((rd_T52 l0_0 x22_2).f1.f2)) := (blk_cell BK104.out 3).trans rfl
                              have hcz34_4 : wc.cell? ⟨gb104, 4, none⟩ = some (.slice A103_4 ((rd_T52 l0_0 x22_2).f2).length c103_4) := (blk_cell BK104.out 4).trans rfl
                              have hfz34_0 := blk_frozen BK104.out 0
                              have hfz34_1 := blk_frozen BK104.out 1
                              have hfz34_2 := blk_frozen BK104.out 2
                              have hfz34_3 := blk_frozen BK104.out 3
                              have hfz34_4 := blk_frozen BK104.out 4
                              go_wp2_with (first | (go_at_call 51; (with_reducible refine (pred_testRight.calls ((rd_T52 l0_0 x22_2).f1.f0) ((rd_T52 l0_0 x22_2).f1.f1) ((rd_T52 l0_0 x22_2).f1.f2) true _ A26.out).mono ?_); rintro e w35 ⟨rfl, hb⟩; have n0_ := Aside0.mk (blk_below (g := gb102) (o := .cells #[.slice (some ad103) l0_0.length c0_0] 24 (0, 0)) (by (with_reducible repeat (first | refine blk_drewN ?_ _ | refine blk_drew ?_ | refine blk_alloc ?_ _)); exact BK102.out) hb); have n1_ := Aside0.mk (blk_below (g := gb104) (o := .cells #[.int .i64 ((rd_T52 l0_0 x22_2).f0), .int .i64 ((rd_T52 l0_0 x22_2).f1.f0), .int .u64 ((rd_T52 l0_0 x22_2).f1.f1), .int .u64 ((rd_T52 l0_0 x22_2).f1.f2), .slice A103_4 ((rd_T52 l0_0 x22_2).f2).length c103_4] 52 (0, 0)) (by (with_reducible repeat (first | refine blk_drewN ?_ _ | refine blk_drew ?_ | refine blk_alloc ?_ _)); exact BK104.out) hb); have n2_ := Aside0.mk (below_step (by repeat (first | (with_reducible first | exact HB.out | apply below_alloc | apply pw_below_drewN | apply below_drew1 | refine below_set ?_ GE102.out | refine below_set ?_ GE104.out) | exact HB.out)) hb); clear BK102; clear BK104; clear HB; have BK102 := n0_; have BK104 := n1_; have HB := n2_; clear n0_ n1_ n2_; (try clear hb); (try clear hb2); (try clear hk); (try clear hi); have hcz36_0 : w35.cell? ⟨gb104, 0, none⟩ = some (.int .i64 ((rd_T52 l0_0 x22_2).f0)) := (blk_cell BK104.out 0).trans rfl; have hcz36_1 : w35.cell? ⟨gb104, 1, none⟩ = some (.int .i64 ((rd_T52 l0_0 x22_2).f1.f0)) := (blk_cell BK104.out 1).trans rfl; have hcz36_2 : w35.cell? ⟨gb104, 2, none⟩ = some (.int .u64 ((rd_T52 l0_0 x22_2).f1.f1)) := (blk_cell BK104.out 2).trans rfl; have hcz36_3 : w35.cell? ⟨gb104, 3, none⟩ = some (.int .u64 ((rd_T52 l0_0 x22_2).f1.f2)) := (blk_cell BK104.out 3).trans rfl; have hcz36_4 : w35.cell? ⟨gb104, 4, none⟩ = some (.slice A103_4 ((rd_T52 l0_0 x22_2).f2).length c103_4) := (blk_cell BK104.out 4).trans rfl; have hfz36_0 := blk_frozen BK104.out 0; have hfz36_1 := blk_frozen BK104.out 1; have hfz36_2 := blk_frozen BK104.out 2; have hfz36_3 := blk_frozen BK104.out 3; have hfz36_4 := blk_frozen BK104.out 4))
                              go_meet
                              case rel => exact ⟨_, (decide ((((rd_T52 l0_0 x22_2).f2).length : Int) > x6_11)), (by first | rfl | (simp; done) | (simp [*]; done)), H', ⟨by have := HJ1.out; have := HK2.out; have := HJ11.out; first | omega | exact Nat.le_refl _⟩, ⟨by (with_reducible repeat (first | refine blk_drewN ?_ _ | refine blk_drew ?_ | refine blk_alloc ?_ _)); exact BK102.out⟩, ⟨by (with_reducible repeat (first | refine blk_drewN ?_ _ | refine blk_drew ?_ | refine blk_alloc ?_ _)); exact BK104.out⟩, ⟨by repeat (first | (with_reducible first | exact HB.out | apply below_alloc | apply pw_below_drewN | apply below_drew1 | refine below_set ?_ GE102.out | refine below_set ?_ GE104.out) | exact HB.out)⟩⟩
                          · replace c27 := Bool.eq_false_iff.mpr c27
                            subst c27
                            have H1 : (pred_Right.j5 kj11 x22_2 l0_0 (l0_0.length : Int) x22_2 true ((rd_T52 l0_0 x22_2).f0) ((rd_T52 l0_0 x22_2).f1.f0) ((rd_T52 l0_0 x22_2).f1.f1) ((rd_T52 l0_0 x22_2).f1.f2) ((rd_T52 l0_0 x22_2).f2)) = some r := by rw [if_neg (show ¬ (false = true) by decide)] at H; exact H
                            clear H
                            have H := H1
                            clear H1
                            have H' := Aside0.mk H
                            clear H
                            have hnb37 := NB104_102.out
                            have hnc37 := NB102_104.out
                            have hcz38_0 : wc.cell? ⟨gb104, 0, none⟩ = some (.int .i64 ((rd_T52 l0_0 x22_2).f0)) := (blk_cell BK104.out 0).trans rfl
                            have hcz38_1 : wc.cell? ⟨gb104, 1, none⟩ = some (.int .i64 ((rd_T52 l0_0 x22_2).f1.f0)) := (blk_cell BK104.out 1).trans rfl
                            have hcz38_2 : wc.cell? ⟨gb104, 2, none⟩ = some (.int .u64 ((rd_T52 l0_0 x22_2).f1.f1)) := (blk_cell BK104.out 2).trans rfl
                            have hcz38_3 : wc.cell? ⟨gb104, 3, none⟩ = some (.int .u64 ((rd_T52 l0_0 x22_2).f1.f2)) := (blk_cell BK104.out 3).trans rfl
                            have hcz38_4 : wc.cell? ⟨gb104, 4, none⟩ = some (.slice A103_4 ((rd_T52 l0_0 x22_2).f2).length c103_4) := (blk_cell BK104.out 4).trans rfl
                            have hfz38_0 := blk_frozen BK104.out 0
                            have hfz38_1 := blk_frozen BK104.out 1
                            have hfz38_2 := blk_frozen BK104.out 2
                            have hfz38_3 := blk_frozen BK104.out 3
                            have hfz38_4 := blk_frozen BK104.out 4
                            go_wp2_with (first | (go_at_call 51; (with_reducible refine (pred_testRight.calls ((rd_T52 l0_0 x22_2).f1.f0) ((rd_T52 l0_0 x22_2).f1.f1) ((rd_T52 l0_0 x22_2).f1.f2) false _ A26.out).mono ?_); rintro e w39 ⟨rfl, hb⟩; have n0_ := Aside0.mk (blk_below (g := gb102) (o := .cells #[.slice (some ad103) l0_0.length c0_0] 24 (0, 0)) (by (with_reducible repeat (first | refine blk_drewN ?_ _ | refine blk_drew ?_ | refine blk_alloc ?_ _)); exact BK102.out) hb); have n1_ := Aside0.mk (blk_below (g := gb104) (o := .cells #[.int .i64 ((rd_T52 l0_0 x22_2).f0), .int .i64 ((rd_T52 l0_0 x22_2).f1.f0), .int .u64 ((rd_T52 l0_0 x22_2).f1.f1), .int .u64 ((rd_T52 l0_0 x22_2).f1.f2), .slice A103_4 ((rd_T52 l0_0 x22_2).f2).length c103_4] 52 (0, 0)) (by (with_reducible repeat (first | refine blk_drewN ?_ _ | refine blk_drew ?_ | refine blk_alloc ?_ _)); exact BK104.out) hb); have n2_ := Aside0.mk (below_step (by repeat (first | (with_reducible first | exact HB.out | apply below_alloc | apply pw_below_drewN | apply below_drew1 | refine below_set ?_ GE102.out | refine below_set ?_ GE104.out) | exact HB.out)) hb); clear BK102; clear BK104; clear HB; have BK102 := n0_; have BK104 := n1_; have HB := n2_; clear n0_ n1_ n2_; (try clear hb); (try clear hb2); (try clear hk); (try clear hi)))
                            go_meet
                            case rel => exact ⟨_, (true), (by first | rfl | (simp; done) | (simp [*]; done)), H', ⟨by have := HJ1.out; have := HK2.out; have := HJ11.out; first | omega | exact Nat.le_refl _⟩, ⟨by (with_reducible repeat (first | refine blk_drewN ?_ _ | refine blk_drew ?_ | refine blk_alloc ?_ _)); exact BK102.out⟩, ⟨by (with_reducible repeat (first | refine blk_drewN ?_ _ | refine blk_drew ?_ | refine blk_alloc ?_ _)); exact BK104.out⟩, ⟨by repeat (first | (with_reducible first | exact HB.out | apply below_alloc | apply pw_below_drewN | apply below_drew1 | refine below_set ?_ GE102.out | refine below_set ?_ GE104.out) | exact HB.out)⟩⟩
                        · rw [if_neg c25] at H
                          have c25b0 : (((rd_T52 l0_0 x22_2).f0) == 3) = false := beq_eq_false_iff_ne.mpr c25
                          have c25b1 : (((rd_T52 l0_0 x22_2).f0) != 3) = true := bne_iff_ne.mpr c25
                          (first | rw [c25b0] | (simp only [i64_w, i32_w]; rw [c25b0]) | skip)
                          by_cases c40 : (!(((rd_T52 l0_0 x22_2).f1.f0) == 0) || (!(((rd_T52 l0_0 x22_2).f1.f1) == 0) || (!(((rd_T52 l0_0 x22_2).f1.f2) == 0)))) = true
                          · rw [if_pos c40] at H
                            have c40b0 : (!(((rd_T52 l0_0 x22_2).f1.f0) == 0) || (!(((rd_T52 l0_0 x22_2).f1.f1) == 0) || (!(((rd_T52 l0_0 x22_2).f1.f2) == 0)))) = true := c40
                            clear c40
                            have H' := Aside0.mk H
                            clear H
                            have hnb41 := NB104_102.out
                            have hnc41 := NB102_104.out
                            have hcz42_0 : wc.cell? ⟨gb104, 0, none⟩ = some (.int .i64 ((rd_T52 l0_0 x22_2).f0)) := (blk_cell BK104.out 0).trans rfl
                            have hcz42_1 : wc.cell? ⟨gb104, 1, none⟩ = some (.int .i64 ((rd_T52 l0_0 x22_2).f1.f0)) := (blk_cell BK104.out 1).trans rfl
                            have hcz42_2 : wc.cell? ⟨gb104, 2, none⟩ = some (.int .u64 ((rd_T52 l0_0 x22_2).f1.f1)) := (blk_cell BK104.out 2).trans rfl
                            have hcz42_3 : wc.cell? ⟨gb104, 3, none⟩ = some (.int .u64 ((rd_T52 l0_0 x22_2).f1.f2)) := (blk_cell BK104.out 3).trans rfl
                            have hcz42_4 : wc.cell? ⟨gb104, 4, none⟩ = some (.slice A103_4 ((rd_T52 l0_0 x22_2).f2).length c103_4) := (blk_cell BK104.out 4).trans rfl
                            have hfz42_0 := blk_frozen BK104.out 0
                            have hfz42_1 := blk_frozen BK104.out 1
                            have hfz42_2 := blk_frozen BK104.out 2
                            have hfz42_3 := blk_frozen BK104.out 3
                            have hfz42_4 := blk_frozen BK104.out 4
                            go_wp2
                            go_meet
                            case rel => exact ⟨_, (true), (by first | rfl | (simp; done) | (simp [*]; done)), H', ⟨by have := HJ1.out; have := HK2.out; have := HJ11.out; first | omega | exact Nat.le_refl _⟩, ⟨by (with_reducible repeat (first | refine blk_drewN ?_ _ | refine blk_drew ?_ | refine blk_alloc ?_ _)); exact BK102.out⟩, ⟨by (with_reducible repeat (first | refine blk_drewN ?_ _ | refine blk_drew ?_ | refine blk_alloc ?_ _)); exact BK104.out⟩, ⟨by repeat (first | (with_reducible first | exact HB.out | apply below_alloc | apply pw_below_drewN | apply below_drew1 | refine below_set ?_ GE102.out | refine below_set ?_ GE104.out) | exact HB.out)⟩⟩
                          · rw [if_neg c40] at H
                            have c40b0 : (!(((rd_T52 l0_0 x22_2).f1.f0) == 0) || (!(((rd_T52 l0_0 x22_2).f1.f1) == 0) || (!(((rd_T52 l0_0 x22_2).f1.f2) == 0)))) = false := by simpa using c40
                            clear c40
                            by_cases c43 : (((rd_T52 l0_0 x22_2).f2).length : Int) < x5_11
                            · rw [if_pos c43] at H
                              have c43b0 : decide ((((rd_T52 l0_0 x22_2).f2).length : Int) < x5_11) = true := decide_eq_true c43
                              clear c43
                              have H' := Aside0.mk H
                              clear H
                              have hnb44 := NB104_102.out
                              have hnc44 := NB102_104.out
                              have hcz45_0 : wc.cell? ⟨gb104, 0, none⟩ = some (.int .i64 ((rd_T52 l0_0 x22_2).f0)) := (blk_cell BK104.out 0).trans rfl
                              have hcz45_1 : wc.cell? ⟨gb104, 1, none⟩ = some (.int .i64 ((rd_T52 l0_0 x22_2).f1.f0)) := (blk_cell BK104.out 1).trans rfl
                              have hcz45_2 : wc.cell? ⟨gb104, 2, none⟩ = some (.int .u64 ((rd_T52 l0_0 x22_2).f1.f1)) := (blk_cell BK104.out 2).trans rfl
                              have hcz45_3 : wc.cell? ⟨gb104, 3, none⟩ = some (.int .u64 ((rd_T52 l0_0 x22_2).f1.f2)) := (blk_cell BK104.out 3).trans rfl
                              have hcz45_4 : wc.cell? ⟨gb104, 4, none⟩ = some (.slice A103_4 ((rd_T52 l0_0 x22_2).f2).length c103_4) := (blk_cell BK104.out 4).trans rfl
                              have hfz45_0 := blk_frozen BK104.out 0
                              have hfz45_1 := blk_frozen BK104.out 1
                              have hfz45_2 := blk_frozen BK104.out 2
                              have hfz45_3 := blk_frozen BK104.out 3
                              have hfz45_4 := blk_frozen BK104.out 4
                              go_wp2
                              go_meet
                              case rel => exact ⟨_, (true), (by first | rfl | (simp; done) | (simp [*]; done)), H', ⟨by have := HJ1.out; have := HK2.out; have := HJ11.out; first | omega | exact Nat.le_refl _⟩, ⟨by (with_reducible repeat (first | refine blk_drewN ?_ _ | refine blk_drew ?_ | refine blk_alloc ?_ _)); exact BK102.out⟩, ⟨by (with_reducible repeat (first | refine blk_drewN ?_ _ | refine blk_drew ?_ | refine blk_alloc ?_ _)); exact BK104.out⟩, ⟨by repeat (first | (with_reducible first | exact HB.out | apply below_alloc | apply pw_below_drewN | apply below_drew1 | refine below_set ?_ GE102.out | refine below_set ?_ GE104.out) | exact HB.out)⟩⟩
                            · rw [if_neg c43] at H
                              have c43b0 : decide ((((rd_T52 l0_0 x22_2).f2).length : Int) < x5_11) = false := decide_eq_false c43
                              clear c43
                              have H' := Aside0.mk H
                              clear H
                              have hnb46 := NB104_102.out
                              have hnc46 := NB102_104.out
                              have hcz47_0 : wc.cell? ⟨gb104, 0, none⟩ = some (.int .i64 ((rd_T52 l0_0 x22_2).f0)) := (blk_cell BK104.out 0).trans rfl
                              have hcz47_1 : wc.cell? ⟨gb104, 1, none⟩ = some (.int .i64 ((rd_T52 l0_0 x22_2).f1.f0)) := (blk_cell BK104.out 1).trans rfl
                              have hcz47_2 : wc.cell? ⟨gb104, 2, none⟩ = some (.int .u64 ((rd_T52 l0_0 x22_2).f1.f1)) := (blk_cell BK104.out 2).trans rfl
                              have hcz47_3 : wc.cell? ⟨gb104, 3, none⟩ = some (.int .u64 ((rd_T52 l0_0 x22_2).f1.f2)) := (blk_cell BK104.out 3).trans rfl
                              have hcz47_4 : wc.cell? ⟨gb104, 4, none⟩ = some (.slice A103_4 ((rd_T52 l0_0 x22_2).f2).length c103_4) := (blk_cell BK104.out 4).trans rfl
                              have hfz47_0 := blk_frozen BK104.out 0
                              have hfz47_1 := blk_frozen BK104.out 1
                              have hfz47_2 := blk_frozen BK104.out 2
                              have hfz47_3 := blk_frozen BK104.out 3
                              have hfz47_4 := blk_frozen BK104.out 4
                              go_wp2
                              go_meet
                              case rel => exact ⟨_, (decide ((((rd_T52 l0_0 x22_2).f2).length : Int) > x6_11)), (by first | rfl | (simp; done) | (simp [*]; done)), H', ⟨by have := HJ1.out; have := HK2.out; have := HJ11.out; first | omega | exact Nat.le_refl _⟩, ⟨by (with_reducible repeat (first | refine blk_drewN ?_ _ | refine blk_drew ?_ | refine blk_alloc ?_ _)); exact BK102.out⟩, ⟨by (with_reducible repeat (first | refine blk_drewN ?_ _ | refine blk_drew ?_ | refine blk_alloc ?_ _)); exact BK104.out⟩, ⟨by repeat (first | (with_reducible first | exact HB.out | apply below_alloc | apply pw_below_drewN | apply below_drew1 | refine below_set ?_ GE102.out | refine below_set ?_ GE104.out) | exact HB.out)⟩⟩
                      case rest =>
                        clear HC24
                        try clear c1
                        try clear p1
                        try clear q1
                        try clear hx1
                        try clear c2
                        try clear p2
                        try clear c3
                        try clear c4
                        try clear c4b0
                        try clear c4b1
                        try clear c4b2
                        try clear c7
                        try clear c9
                        try clear c9b0
                        try clear c10
                        try clear c10b0
                        try clear p10
                        try clear q10
                        try clear hx10
                        try clear c11
                        try clear c11b0
                        try clear c14
                        try clear c17
                        try clear c17b0
                        try clear c17b1
                        try clear c18
                        try clear c18b0
                        try clear c18b1
                        try clear c19
                        try clear c21
                        try clear c21b0
                        try clear c21b1
                        try clear c22
                        try clear c23
                        try clear c23b0
                        try clear c23b1
                        try clear c25
                        try clear c25b0
                        try clear c25b1
                        try clear c27
                        try clear c28
                        try clear c28b0
                        try clear c29
                        try clear c33
                        try clear c37
                        try clear c40
                        try clear c40b0
                        try clear c41
                        try clear c43
                        try clear c43b0
                        try clear c44
                        try clear c46
                        try clear hcz15_0
                        try clear hcz15_1
                        try clear hcz15_2
                        try clear hcz15_3
                        try clear hcz15_4
                        try clear hcz30_0
                        try clear hcz30_1
                        try clear hcz30_2
                        try clear hcz30_3
                        try clear hcz30_4
                        try clear hcz32_0
                        try clear hcz32_1
                        try clear hcz32_2
                        try clear hcz32_3
                        try clear hcz32_4
                        try clear hcz34_0
                        try clear hcz34_1
                        try clear hcz34_2
                        try clear hcz34_3
                        try clear hcz34_4
                        try clear hcz36_0
                        try clear hcz36_1
                        try clear hcz36_2
                        try clear hcz36_3
                        try clear hcz36_4
                        try clear hcz38_0
                        try clear hcz38_1
                        try clear hcz38_2
                        try clear hcz38_3
                        try clear hcz38_4
                        try clear hcz42_0
                        try clear hcz42_1
                        try clear hcz42_2
                        try clear hcz42_3
                        try clear hcz42_4
                        try clear hcz45_0
                        try clear hcz45_1
                        try clear hcz45_2
                        try clear hcz45_3
                        try clear hcz45_4
                        try clear hcz47_0
                        try clear hcz47_1
                        try clear hcz47_2
                        try clear hcz47_3
                        try clear hcz47_4
                        try clear hcz5_0
                        try clear hcz6_0
                        try clear hcz8_0
                        try clear hfz15_0
                        try clear hfz15_1
                        try clear hfz15_2
                        try clear hfz15_3
                        try clear hfz15_4
                        try clear hfz30_0
                        try clear hfz30_1
                        try clear hfz30_2
                        try clear hfz30_3
                        try clear hfz30_4
                        try clear hfz32_0
                        try clear hfz32_1
                        try clear hfz32_2
                        try clear hfz32_3
                        try clear hfz32_4
                        try clear hfz34_0
                        try clear hfz34_1
                        try clear hfz34_2
                        try clear hfz34_3
                        try clear hfz34_4
                        try clear hfz36_0
                        try clear hfz36_1
                        try clear hfz36_2
                        try clear hfz36_3
                        try clear hfz36_4
                        try clear hfz38_0
                        try clear hfz38_1
                        try clear hfz38_2
                        try clear hfz38_3
                        try clear hfz38_4
                        try clear hfz42_0
                        try clear hfz42_1
                        try clear hfz42_2
                        try clear hfz42_3
                        try clear hfz42_4
                        try clear hfz45_0
                        try clear hfz45_1
                        try clear hfz45_2
                        try clear hfz45_3
                        try clear hfz45_4
                        try clear hfz47_0
                        try clear hfz47_1
                        try clear hfz47_2
                        try clear hfz47_3
                        try clear hfz47_4
                        try clear hfz5_0
                        try clear hfz6_0
                        try clear hfz8_0
                        try clear hx103_0
                        try clear hx103_1
                        try clear hx103_2
                        try clear hx103_3
                        try clear hx103_4
                        try clear p1
                        try clear p10
                        try clear p103
                        try clear p2
                        try clear q1
                        try clear q10
                        try clear q103
                        obtain ⟨kq, x71_23, rfl, HA, HJ23, BK102, BK104, HB⟩ := hcut
                        cases kq with
                        | zero => exact absurd HA.out (by simp [pred_Right.j5])
                        | succ kj23 =>
                          have H := HA.out
                          clear HA
                          simp only [pred_Right.j5] at H
                          by_cases c48 : x71_23 = true
                          · subst c48
                            have H1 : (some false) = some r := by rw [if_pos rfl] at H; exact H
                            clear H
                            have H := H1
                            clear H1
                            obtain rfl := Option.some.inj H
                            go_wp2
                            go_ret
                            exact ⟨by first | rfl | (simp [errW_none, errW_some] <;> rfl) | (simp [*, errW_none, errW_some] <;> rfl), by repeat (first | (with_reducible first | exact HB.out | apply below_alloc | apply pw_below_drewN | apply below_drew1 | refine below_set ?_ GE102.out | refine below_set ?_ GE104.out) | exact HB.out)⟩
                          · replace c48 := Bool.eq_false_iff.mpr c48
                            subst c48
                            have H1 : (pred_Right.l1 kj23 x22_2 l0_0 (l0_0.length : Int) x22_2 ((rd_T52 l0_0 x22_2).f2) (((rd_T52 l0_0 x22_2).f2).length : Int) 0) = some r := by rw [if_neg (show ¬ (false = true) by decide)] at H; exact H
                            clear H
                            have H := H1
                            clear H1
                            have H' := Aside0.mk H
                            clear H
                            have hnb49 := NB104_102.out
                            have hnc49 := NB102_104.out
                            have hcz50_0 : wc.cell? ⟨gb104, 0, none⟩ = some (.int .i64 ((rd_T52 l0_0 x22_2).f0)) := (blk_cell BK104.out 0).trans rfl
                            have hcz50_1 : wc.cell? ⟨gb104, 1, none⟩ = some (.int .i64 ((rd_T52 l0_0 x22_2).f1.f0)) := (blk_cell BK104.out 1).trans rfl
                            have hcz50_2 : wc.cell? ⟨gb104, 2, none⟩ = some (.int .u64 ((rd_T52 l0_0 x22_2).f1.f1)) := (blk_cell BK104.out 2).trans rfl
                            have hcz50_3 : wc.cell? ⟨gb104, 3, none⟩ = some (.int .u64 ((rd_T52 l0_0 x22_2).f1.f2)) := (blk_cell BK104.out 3).trans rfl
                            have hcz50_4 : wc.cell? ⟨gb104, 4, none⟩ = some (.slice A103_4 ((rd_T52 l0_0 x22_2).f2).length c103_4) := (blk_cell BK104.out 4).trans rfl
                            have hfz50_0 := blk_frozen BK104.out 0
                            have hfz50_1 := blk_frozen BK104.out 1
                            have hfz50_2 := blk_frozen BK104.out 2
                            have hfz50_3 := blk_frozen BK104.out 3
                            have hfz50_4 := blk_frozen BK104.out 4
                            go_wp2
                            go_loopg [75] kj23 (fun kq v75 w' => ∃ (x75_5 : Int), v75 = .int .i64 x75_5 ∧ Aside0 (pred_Right.l1 kq x22_2 l0_0 (l0_0.length : Int) x22_2 ((rd_T52 l0_0 x22_2).f2) (((rd_T52 l0_0 x22_2).f2).length : Int) x75_5 = some r) ∧ Aside0 (kq ≤ kj23) ∧ Aside0 (w'.heap[gb102]? = some (.cells #[(.slice (some ad103) l0_0.length c0_0)] 24 (0, 0))) ∧ Aside0 (w'.heap[gb104]? = some (.cells #[.int .i64 ((rd_T52 l0_0 x22_2).f0), .int .i64 ((rd_T52 l0_0 x22_2).f1.f0), .int .u64 ((rd_T52 l0_0 x22_2).f1.f1), .int .u64 ((rd_T52 l0_0 x22_2).f1.f2), (.slice A103_4 ((rd_T52 l0_0 x22_2).f2).length c103_4)] 52 (0, 0))) ∧ Aside0 (Below w.heap.size w w'))
                            case atStart => exact ⟨(0), (by first | rfl | (simp; done) | (simp [*]; done)), H', ⟨Nat.le_refl _⟩, ⟨by (with_reducible repeat (first | refine blk_drewN ?_ _ | refine blk_drew ?_ | refine blk_alloc ?_ _)); exact BK102.out⟩, ⟨by (with_reducible repeat (first | refine blk_drewN ?_ _ | refine blk_drew ?_ | refine blk_alloc ?_ _)); exact BK104.out⟩, ⟨by repeat (first | (with_reducible first | exact HB.out | apply below_alloc | apply pw_below_drewN | apply below_drew1 | refine below_set ?_ GE102.out | refine below_set ?_ GE104.out) | exact HB.out)⟩⟩
                            case round =>
                              clear H'
                              try clear c1
                              try clear p1
                              try clear q1
                              try clear hx1
                              try clear c2
                              try clear p2
                              try clear c3
                              try clear c4
                              try clear c4b0
                              try clear c4b1
                              try clear c4b2
                              try clear c7
                              try clear c9
                              try clear c9b0
                              try clear c10
                              try clear c10b0
                              try clear p10
                              try clear q10
                              try clear hx10
                              try clear c11
                              try clear c11b0
                              try clear c14
                              try clear c17
                              try clear c17b0
                              try clear c17b1
                              try clear c18
                              try clear c18b0
                              try clear c18b1
                              try clear c19
                              try clear c21
                              try clear c21b0
                              try clear c21b1
                              try clear c22
                              try clear c23
                              try clear c23b0
                              try clear c23b1
                              try clear c25
                              try clear c25b0
                              try clear c25b1
                              try clear c27
                              try clear c28
                              try clear c28b0
                              try clear c29
                              try clear c33
                              try clear c37
                              try clear c40
                              try clear c40b0
                              try clear c41
                              try clear c43
                              try clear c43b0
                              try clear c44
                              try clear c46
                              try clear c48
                              try clear c49
                              try clear hcz15_0
                              try clear hcz15_1
                              try clear hcz15_2
                              try clear hcz15_3
                              try clear hcz15_4
                              try clear hcz30_0
                              try clear hcz30_1
                              try clear hcz30_2
                              try clear hcz30_3
                              try clear hcz30_4
                              try clear hcz32_0
                              try clear hcz32_1
                              try clear hcz32_2
                              try clear hcz32_3
                              try clear hcz32_4
                              try clear hcz34_0
                              try clear hcz34_1
                              try clear hcz34_2
                              try clear hcz34_3
                              try clear hcz34_4
                              try clear hcz36_0
                              try clear hcz36_1
                              try clear hcz36_2
                              try clear hcz36_3
                              try clear hcz36_4
                              try clear hcz38_0
                              try clear hcz38_1
                              try clear hcz38_2
                              try clear hcz38_3
                              try clear hcz38_4
                              try clear hcz42_0
                              try clear hcz42_1
                              try clear hcz42_2
                              try clear hcz42_3
                              try clear hcz42_4
                              try clear hcz45_0
                              try clear hcz45_1
                              try clear hcz45_2
                              try clear hcz45_3
                              try clear hcz45_4
                              try clear hcz47_0
                              try clear hcz47_1
                              try clear hcz47_2
                              try clear hcz47_3
                              try clear hcz47_4
                              try clear hcz50_0
                              try clear hcz50_1
                              try clear hcz50_2
                              try clear hcz50_3
                              try clear hcz50_4
                              try clear hcz5_0
                              try clear hcz6_0
                              try clear hcz8_0
                              try clear hfz15_0
                              try clear hfz15_1
                              try clear hfz15_2
                              try clear hfz15_3
                              try clear hfz15_4
                              try clear hfz30_0
                              try clear hfz30_1
                              try clear hfz30_2
                              try clear hfz30_3
                              try clear hfz30_4
                              try clear hfz32_0
                              try clear hfz32_1
                              try clear hfz32_2
                              try clear hfz32_3
                              try clear hfz32_4
                              try clear hfz34_0
                              try clear hfz34_1
                              try clear hfz34_2
                              try clear hfz34_3
                              try clear hfz34_4
                              try clear hfz36_0
                              try clear hfz36_1
                              try clear hfz36_2
                              try clear hfz36_3
                              try clear hfz36_4
                              try clear hfz38_0
                              try clear hfz38_1
                              try clear hfz38_2
                              try clear hfz38_3
                              try clear hfz38_4
                              try clear hfz42_0
                              try clear hfz42_1
                              try clear hfz42_2
                              try clear hfz42_3
                              try clear hfz42_4
                              try clear hfz45_0
                              try clear hfz45_1
                              try clear hfz45_2
                              try clear hfz45_3
                              try clear hfz45_4
                              try clear hfz47_0
                              try clear hfz47_1
                              try clear hfz47_2
                              try clear hfz47_3
                              try clear hfz47_4
                              try clear hfz50_0
                              try clear hfz50_1
                              try clear hfz50_2
                              try clear hfz50_3
                              try clear hfz50_4
                              try clear hfz5_0
                              try clear hfz6_0
                              try clear hfz8_0
                              try clear hx103_0
                              try clear hx103_1
                              try clear hx103_2
                              try clear hx103_3
                              try clear hx103_4
                              try clear p1
                              try clear p10
                              try clear p103
                              try clear p2
                              try clear q1
                              try clear q10
                              try clear q103
                              obtain ⟨x75_5, rfl, HA, HK5, BK102, BK104, HB⟩ := hrel
                              cases gk with
                              | zero => exact absurd HA.out (by simp [pred_Right.l1])
                              | succ k5 =>
                                have H := HA.out
                                clear HA
                                simp only [pred_Right.l1] at H
                                by_cases c51 : x75_5 < (((rd_T52 l0_0 x22_2).f2).length : Int)
                                · rw [if_pos c51] at H
                                  have c51b0 : decide (x75_5 < (((rd_T52 l0_0 x22_2).f2).length : Int)) = true := decide_eq_true c51
                                  clear c51
                                  by_cases c52 : 0 ≤ x75_5
                                  · rw [if_pos c52] at H
                                    have c52b0 : decide (0 ≤ x75_5) = true := decide_eq_true c52
                                    clear c52
                                    by_cases c53 : x75_5 < (((rd_T52 l0_0 x22_2).f2).length : Int)
                                    · rw [if_pos c53] at H
                                      have c53b0 : decide (x75_5 < (((rd_T52 l0_0 x22_2).f2).length : Int)) = true := decide_eq_true c53
                                      clear c53
                                      by_cases c54 : (rd ((rd_T52 l0_0 x22_2).f2) x75_5) < 0
                                      · rw [if_pos c54] at H
                                        have c54b0 : decide ((rd ((rd_T52 l0_0 x22_2).f2) x75_5) < 0) = true := decide_eq_true c54
                                        clear c54
                                        obtain rfl := Option.some.inj H
                                        have p106 : 0 ≤ (x75_5 : Int) := of_decide_eq_true (by first | (with_reducible assumption) | assumption)
                                        have q106 : x75_5 < (((rd_T52 l0_0 x22_2).f2).length : Int) := of_decide_eq_true (by first | (with_reducible assumption) | assumption)
                                        obtain ⟨ad106, e106, hx106_0⟩ := Kd.at_int HR103_4.out x75_5 p106 q106
                                        cases e106
                                        replace hx106_0 := (HB.out.cell (World.block_lt_of_cell? w _ hx106_0)).trans hx106_0
                                        replace p106 := eq_true p106
                                        replace q106 := eq_true q106
                                        go_wp2
                                        go_ret
                                        exact ⟨by first | rfl | (simp [errW_none, errW_some] <;> rfl) | (simp [*, errW_none, errW_some] <;> rfl), by repeat (first | (with_reducible first | exact HB.out | apply below_alloc | apply pw_below_drewN | apply below_drew1 | refine below_set ?_ GE102.out | refine below_set ?_ GE104.out) | exact HB.out)⟩
                                      · rw [if_neg c54] at H
                                        have c54b0 : decide ((rd ((rd_T52 l0_0 x22_2).f2) x75_5) < 0) = false := decide_eq_false c54
                                        clear c54
                                        by_cases c55 : (rd ((rd_T52 l0_0 x22_2).f2) x75_5) ≥ x22_2
                                        · rw [if_pos c55] at H
                                          have c55b0 : decide (x22_2 ≤ (rd ((rd_T52 l0_0 x22_2).f2) x75_5)) = true := decide_eq_true c55
                                          clear c55
                                          obtain rfl := Option.some.inj H
                                          have p106 : 0 ≤ (x75_5 : Int) := of_decide_eq_true (by first | (with_reducible assumption) | assumption)
                                          have q106 : x75_5 < (((rd_T52 l0_0 x22_2).f2).length : Int) := of_decide_eq_true (by first | (with_reducible assumption) | assumption)
                                          obtain ⟨ad106, e106, hx106_0⟩ := Kd.at_int HR103_4.out x75_5 p106 q106
                                          cases e106
                                          replace hx106_0 := (HB.out.cell (World.block_lt_of_cell? w _ hx106_0)).trans hx106_0
                                          replace p106 := eq_true p106
                                          replace q106 := eq_true q106
                                          go_wp2
                                          go_ret
                                          exact ⟨by first | rfl | (simp [errW_none, errW_some] <;> rfl) | (simp [*, errW_none, errW_some] <;> rfl), by repeat (first | (with_reducible first | exact HB.out | apply below_alloc | apply pw_below_drewN | apply below_drew1 | refine below_set ?_ GE102.out | refine below_set ?_ GE104.out) | exact HB.out)⟩
                                        · rw [if_neg c55] at H
                                          have c55b0 : decide (x22_2 ≤ (rd ((rd_T52 l0_0 x22_2).f2) x75_5)) = false := decide_eq_false c55
                                          clear c55
                                          have H' := Aside0.mk H
                                          clear H
                                          have p106 : 0 ≤ (x75_5 : Int) := of_decide_eq_true (by first | (with_reducible assumption) | assumption)
                                          have q106 : x75_5 < (((rd_T52 l0_0 x22_2).f2).length : Int) := of_decide_eq_true (by first | (with_reducible assumption) | assumption)
                                          obtain ⟨ad106, e106, hx106_0⟩ := Kd.at_int HR103_4.out x75_5 p106 q106
                                          cases e106
                                          replace hx106_0 := (HB.out.cell (World.block_lt_of_cell? w _ hx106_0)).trans hx106_0
                                          replace p106 := eq_true p106
                                          replace q106 := eq_true q106
                                          go_wp2
                                          go_roundg k5
                                          case measure => have := HJ1.out; have := HK2.out; have := HJ11.out; have := HJ23.out; have := HK5.out; omega
                                          case rel => exact ⟨(wrap64 (x75_5 + 1)), (by first | rfl | (simp; done) | (simp [*]; done)), H', ⟨by have := HJ1.out; have := HK2.out; have := HJ11.out; have := HJ23.out; have := HK5.out; omega⟩, ⟨by (with_reducible repeat (first | refine blk_drewN ?_ _ | refine blk_drew ?_ | refine blk_alloc ?_ _)); exact BK102.out⟩, ⟨by (with_reducible repeat (first | refine blk_drewN ?_ _ | refine blk_drew ?_ | refine blk_alloc ?_ _)); exact BK104.out⟩, ⟨by repeat (first | (with_reducible first | exact HB.out | apply below_alloc | apply pw_below_drewN | apply below_drew1 | refine below_set ?_ GE102.out | refine below_set ?_ GE104.out) | exact HB.out)⟩⟩
                                    · rw [if_neg c53] at H
                                      exact absurd H (by simp)
                                  · rw [if_neg c52] at H
                                    exact absurd H (by simp)
                                · rw [if_neg c51] at H
                                  have c51b0 : decide (x75_5 < (((rd_T52 l0_0 x22_2).f2).length : Int)) = false := decide_eq_false c51
                                  clear c51
                                  have H' := Aside0.mk H
                                  clear H
                                  go_wp2
                                  go_roundg k5
                                  case measure => have := HJ1.out; have := HK2.out; have := HJ11.out; have := HJ23.out; have := HK5.out; omega
                                  case rel => exact ⟨(wrap64 (x22_2 + 1)), (by first | rfl | (simp; done) | (simp [*]; done)), H', ⟨by have := HJ1.out; have := HK2.out; have := HJ11.out; have := HJ23.out; have := HK5.out; omega⟩, ⟨by (with_reducible repeat (first | refine blk_drewN ?_ _ | refine blk_drew ?_ | refine blk_alloc ?_ _)); exact BK102.out⟩, ⟨by repeat (first | (with_reducible first | exact HB.out | apply below_alloc | apply pw_below_drewN | apply below_drew1 | refine below_set ?_ GE102.out | refine below_set ?_ GE104.out) | exact HB.out)⟩⟩
                · rw [if_neg c11] at H
                  exact absurd H (by simp)
              · rw [if_neg c10] at H
                exact absurd H (by simp)
            · rw [if_neg c9] at H
              have c9b0 : decide (x22_2 < (l0_0.length : Int)) = false := decide_eq_false c9
              clear c9
              obtain rfl := Option.some.inj H
              go_wp2
              go_ret
              exact ⟨by first | rfl | (simp [errW_none, errW_some] <;> rfl) | (simp [*, errW_none, errW_some] <;> rfl), by repeat (first | (with_reducible first | exact HB.out | apply below_alloc | apply pw_below_drewN | apply below_drew1 | refine below_set ?_ GE102.out) | exact HB.out)⟩

end Go.Proofs.Ytmhjnfkhfjejeaa.PPredCubes
