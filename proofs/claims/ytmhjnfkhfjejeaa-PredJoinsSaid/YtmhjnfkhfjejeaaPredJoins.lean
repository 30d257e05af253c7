/-
  Proved: droverlaw16.PredJoins returns true for all predicates, cubes and values: And, Or and Not mean it, and what is cut of a cube is what it has beside the other one. No condition.
-/
import Derived.Test.YtmhjnfkhfjejeaaP6
import Derived.Deep.DrawnRows
namespace Go.Proofs.Ytmhjnfkhfjejeaa.predJoins
open Go.Proofs.Ytmhjnfkhfjejeaa Go.ChangeShapes Go.WideShapes Go.ChangeAt Go.RowKit Go.Proofs.YtmhjnfkhfjejeaaW.PrintWords Go.Proofs.YtmhjnfkhfjejeaaW.PrintLast Go.Proofs.YtmhjnfkhfjejeaaW.PrintMore
open PPredCubes
set_option linter.unusedVariables false
set_option linter.unusedSimpArgs false
attribute [local go_sem ↓] Go.wp_at_zero Go.wp_at_succ

theorem C_pair {w : World} {A B : Option Addr} {n m c d : Nat} {a b : List S52} (hn : a.length = n) (hm : b.length = m) (ha : k52.C w A n a) (hb : k52.C w B m b) (hc : n ≤ c) (hd : m ≤ d) :
    k24.C (w.alloc (.cells #[.slice A n c, .slice B m d] 24)) (some ⟨w.heap.size, 0, none⟩) 2 [⟨a⟩, ⟨b⟩] := C_two hn hm ha hb hc hd
set_option maxHeartbeats 8000000 in
set_option maxRecDepth 100000 in
theorem walk (A0 : Option Addr) (c0 : Nat) (l0 : List S52) (hc0 : l0.length ≤ c0) (hP0 : okP l0) (A1 : Option Addr) (c1 : Nat) (l1 : List S52) (hc1 : l1.length ≤ c1) (hP1 : okP l1) (A2 : Option Addr) (c2 : Nat) (l2 : List S47) (hc2 : l2.length ≤ c2) (hP2 : ∀ t ∈ l2, okT t) (A3 : Option Addr) (c3 : Nat) (l3 : List S47) (hc3 : l3.length ≤ c3) (hP3 : ∀ t ∈ l3, okT t) (A4 : Option Addr) (c4 : Nat) (l4 : List Nat) (hP4 : lt64 l4) (w : World) (hr0 : k52.C w A0 l0.length l0) (hr1 : k52.C w A1 l1.length l1) (hr2 : k47.C w A2 l2.length l2) (hr3 : k47.C w A3 l3.length l3) (hr4 : RowF w A4 l4.length (fun k => .int .u64 (at0 l4 k))) :
    Calls Try.prog 4 #[.agg #[.slice A0 l0.length c0], .agg #[.slice A1 l1.length c1], .slice A2 l2.length c2, .slice A3 l3.length c3, .slice A4 l4.length c4] w fun e w' => e = .returned (.bool true) ∧ Below w.heap.size w w' := by
  have HR := Lib.hid hr0
  have HR1 := Lib.hid hr1
  have HR2 := Lib.hid hr2
  have HR3 := Lib.hid hr3
  have HV := Lib.hid hr4
  have HP := Lib.hid hP0
  have HP1 := Lib.hid hP1
  have HO2 : Hid (okC l2) := Lib.hid hP2
  have HO3 : Hid (okC l3) := Lib.hid hP3
  have HVL := Lib.hid hP4
  have HC := Lib.hid hc0
  have HC1 := Lib.hid hc1
  clear hr0 hr1 hr2 hr3 hr4 hP0 hP1 hP2 hP3 hP4 hc0 hc1 hc2 hc3
  go_enter Try.func4, Try.ntmps4
  go_wp2_with (first
    | (refine wpList_box rfl 5 rfl #[.slice A0 l0.length c0] 24 ?hr ?_; (case hr => first | (go_simp; done) | (go_simp; rfl)); intro g5 w1 hg5 k5 hb5; have K5 := Lib.hid k5; have HB1 := Lib.hid hb5; clear hb5 k5)
    | (refine wpList_box rfl 6 rfl #[.slice A1 l1.length c1] 24 ?hr ?_; (case hr => first | (go_simp; done) | (go_simp; rfl)); intro g6 w2 hg6 k6 hb6; have K6 := Lib.hid k6; have K52 := Lib.hid (blk_below K5.out hb6); have HB2 := Lib.hid (HB1.out.trans (hb6.mono HB1.out.size)); clear hb6 k6)
    | (refine wpList_load_at rfl 24 (.tmp 5) rfl ⟨g5, 0, none⟩ rfl #[.slice A0 l0.length c0] _ (Lies.of_block K52.out) Try.underlying24 rfl info24s ?_))
  have HX := Lib.hid (show evalB l0 l4 = evalB l0 l4 from rfl)
  obtain ⟨x, hx⟩ : ∃ x, evalB l0 l4 = x := ⟨_, rfl⟩
  obtain ⟨y, hy⟩ : ∃ y, evalB l1 l4 = y := ⟨_, rfl⟩
  have HXQ := Lib.hid hx
  have HYQ := Lib.hid hy
  clear hx hy HX
  go_at_call 18
  refine (eval_any A0 A4 c0 c4 l0 l4 HP.out HVL.out w2 (Kd.C_below HR.out HB2.out) HC.out (HV.out.below HB2.out)).mono ?_
  rintro e w3 ⟨rfl, hb⟩
  rw [HXQ.out]
  have HB3 := Lib.hid (HB2.out.trans (hb.mono HB2.out.size))
  have K53 := Lib.hid (blk_below K52.out hb)
  have K63 := Lib.hid (blk_below K6.out hb)
  clear hb hg5 hg6 K5 K6 K52 HB1 HB2
  go_wp2_with (refine wpList_load_at rfl 24 (.tmp 6) rfl ⟨g6, 0, none⟩ rfl #[.slice A1 l1.length c1] _ (Lies.of_block K63.out) Try.underlying24 rfl info24s ?_)
  go_at_call 18
  refine (eval_any A1 A4 c1 c4 l1 l4 HP1.out HVL.out w3 (Kd.C_below HR1.out HB3.out) HC1.out (HV.out.below HB3.out)).mono ?_
  rintro e w4 ⟨rfl, hb⟩
  rw [HYQ.out]
  have HB4 := Lib.hid (HB3.out.trans (hb.mono HB3.out.size))
  have K54 := Lib.hid (blk_below K53.out hb)
  have K64 := Lib.hid (blk_below K63.out hb)
  have hlit := C_pair (a := l0) (b := l1) rfl rfl (Kd.C_below HR.out HB4.out) (Kd.C_below HR1.out HB4.out) HC.out HC1.out
  have hbl : Below w4.heap.size w4 (w4.alloc (.cells #[.slice A0 l0.length c0, .slice A1 l1.length c1] 24)) := (Below.refl _ _).alloc (Nat.le_refl _) _
  have HLIT := Lib.hid hlit
  have HBL := Lib.hid hbl
  clear hb K53 K63 HB3 hlit hbl
  go_wp2_with (first
    | (refine wpList_load_at rfl 24 (.tmp 5) rfl ⟨g5, 0, none⟩ rfl #[.slice A0 l0.length c0] _ (Lies.of_block K54.out) Try.underlying24 rfl info24s ?_)
    | (refine wpList_load_at rfl 24 (.tmp 6) rfl ⟨g6, 0, none⟩ rfl #[.slice A1 l1.length c1] _ (Lies.of_block K64.out) Try.underlying24 rfl info24s ?_))
  go_at_call 20
  refine (and_any _ 2 [⟨l0⟩, ⟨l1⟩] (okPs_two HP.out HP1.out) _ HLIT.out).mono ?_
  rintro e w5 ⟨v, rfl, hr, hb⟩
  have hMR := and_says (p := l0) (q := l1) (x := l4)
  have hRR := made_right [⟨l0⟩, ⟨l1⟩]
  have hMP := madeL_ok 4 (okPs_two HP.out HP1.out)
  obtain ⟨M, hM⟩ : ∃ M, madeL 4 [⟨l0⟩, ⟨l1⟩] = M := ⟨_, rfl⟩
  rw [hM] at hr hMR hRR hMP
  rw [HXQ.out, HYQ.out] at hMR
  obtain ⟨A7, c7, ev, hle7, hC7⟩ := Kd.R_reads hr
  subst ev
  have HC7 := Lib.hid hC7
  have HLE7 := Lib.hid hle7
  have HMR := Lib.hid hMR
  have HMP := Lib.hid hMP
  have hb5 := HBL.out.trans (hb.mono HBL.out.size)
  have HB5 := Lib.hid (HB4.out.trans (hb5.mono HB4.out.size))
  have K55 := Lib.hid (blk_below K54.out hb5)
  have K65 := Lib.hid (blk_below K64.out hb5)
  have HRR := Lib.hid hRR
  clear hM hr hMR hRR hMP hle7 hC7 hb hb5 HLIT HBL K54 K64 HB4
  go_wp2_with (first
    | (refine wpList_newz rfl rfl 13 rfl 24 (.tmp 29) rfl rfl rfl (.agg #[.slice none 0 0]) #[.slice A7 M.length c7] info24z rfl rfl info24s rfl one_slice ?_; intro g13 w6 hg13 k13 hb; have K13' := Lib.hid k13; have HC76 := Lib.hid (Kd.C_below HC7.out hb); have HB6 := Lib.hid (HB5.out.trans (hb.mono HB5.out.size)); have K56 := Lib.hid (blk_below K55.out hb); have K66 := Lib.hid (blk_below K65.out hb); clear hb k13)
    | (refine wpList_load_at rfl 24 (.tmp 5) rfl ⟨g5, 0, none⟩ rfl #[.slice A0 l0.length c0] _ (Lies.of_block K56.out) Try.underlying24 rfl info24s ?_)
    | (refine wpList_load_at rfl 24 (.tmp 6) rfl ⟨g6, 0, none⟩ rfl #[.slice A1 l1.length c1] _ (Lies.of_block K66.out) Try.underlying24 rfl info24s ?_))
  have hlit := C_pair (a := l0) (b := l1) rfl rfl (Kd.C_below HR.out HB6.out) (Kd.C_below HR1.out HB6.out) HC.out HC1.out
  have hbl : Below w6.heap.size w6 (w6.alloc (.cells #[.slice A0 l0.length c0, .slice A1 l1.length c1] 24)) := (Below.refl _ _).alloc (Nat.le_refl _) _
  have HLIT := Lib.hid hlit
  have HBL := Lib.hid hbl
  clear hlit hbl
  go_at_call 21
  refine (or_any _ 2 [⟨l0⟩, ⟨l1⟩] (okPs_two HP.out HP1.out) _ HLIT.out).mono ?_
  rintro e w7 ⟨v, rfl, hr, hb⟩
  have hNR := or_says (p := l0) (q := l1) (x := l4)
  have hNP := madeL_ok 5 (okPs_two HP.out HP1.out)
  have hRR := HRR.out
  obtain ⟨N, hN⟩ : ∃ N, madeL 5 [⟨l0⟩, ⟨l1⟩] = N := ⟨_, rfl⟩
  rw [hN] at hr hNR hRR hNP
  rw [HXQ.out, HYQ.out] at hNR
  obtain ⟨A8, c8, ev, hle8, hC8⟩ := Kd.R_reads hr
  subst ev
  have HC8 := Lib.hid hC8
  have HLE8 := Lib.hid hle8
  have HNR := Lib.hid hNR
  have HNP := Lib.hid hNP
  have hb7 := HBL.out.trans (hb.mono HBL.out.size)
  have HB7 := Lib.hid (HB6.out.trans (hb7.mono HB6.out.size))
  have K57 := Lib.hid (blk_below K56.out hb7)
  have K67 := Lib.hid (blk_below K66.out hb7)
  have K137 := Lib.hid (blk_below K13'.out hb7)
  have HC77 := Lib.hid (Kd.C_below HC76.out hb7)
  have HRR2 := Lib.hid hRR
  clear hN hr hNR hRR hNP hle8 hC8 hb hb7 HLIT HBL K56 K66 HB6 K13' HC76 HC7 K55 K65 HB5 hg13 HRR
  go_wp2_with (refine wpList_newz rfl rfl 14 rfl 24 (.tmp 33) rfl rfl rfl (.agg #[.slice none 0 0]) #[.slice A8 N.length c8] info24z rfl rfl info24s rfl one_slice ?_; intro g14 w8 hg14 k14 hb; have K14 := Lib.hid k14; have K13 := Lib.hid (blk_below K137.out hb); have HC78 := Lib.hid (Kd.C_below HC77.out hb); have HC88 := Lib.hid (Kd.C_below HC8.out hb); have HB8 := Lib.hid (HB7.out.trans (hb.mono HB7.out.size)); have K58 := Lib.hid (blk_below K57.out hb); clear hb k14 hg14)
  obtain ⟨rm, hrm⟩ : ∃ rm, rightB M = rm := ⟨_, rfl⟩
  have hrn : rightB N = rm := by rw [← HRR2.out, hrm]
  have HCRM : Hid (∀ W, Below w8.heap.size w8 W → Calls Try.prog 22 #[.agg #[.slice A7 M.length c7]] W fun e w' => e = .returned (.bool rm) ∧ Hid (Below w8.heap.size w8 w')) := Lib.hid fun W hW =>
    (right_any A7 c7 M HMP.out W (Kd.C_below HC78.out hW) HLE7.out).mono fun e w' h => ⟨by rw [h.1, hrm], Lib.hid (hW.trans (h.2.mono hW.size))⟩
  have HCRN : Hid (∀ W, Below w8.heap.size w8 W → Calls Try.prog 22 #[.agg #[.slice A8 N.length c8]] W fun e w' => e = .returned (.bool rm) ∧ Hid (Below w8.heap.size w8 w')) := Lib.hid fun W hW =>
    (right_any A8 c8 N HNP.out W (Kd.C_below HC88.out hW) HLE8.out).mono fun e w' h => ⟨by rw [h.1, hrn], Lib.hid (hW.trans (h.2.mono hW.size))⟩
  have HEMR : Hid (rm = true → evalB M l4 = (x && y)) := Lib.hid fun h => HMR.out (by rw [hrm, h])
  have HENR : Hid (rm = true → evalB N l4 = (x || y)) := Lib.hid fun h => HNR.out (by rw [hrn, h])
  have HCEM : Hid (rm = true → ∀ W, Below w8.heap.size w8 W → Calls Try.prog 18 #[.agg #[.slice A7 M.length c7], .slice A4 l4.length c4] W fun e w' => e = .returned (.bool (x && y)) ∧ Hid (Below w8.heap.size w8 w')) := Lib.hid fun h W hW =>
    (eval_any A7 A4 c7 c4 M l4 HMP.out HVL.out W (Kd.C_below HC78.out hW) HLE7.out (HV.out.below (HB8.out.trans (hW.mono HB8.out.size)))).mono fun e w' g => ⟨by rw [g.1, HEMR.out h], Lib.hid (hW.trans (g.2.mono hW.size))⟩
  have HCEN : Hid (rm = true → ∀ W, Below w8.heap.size w8 W → Calls Try.prog 18 #[.agg #[.slice A8 N.length c8], .slice A4 l4.length c4] W fun e w' => e = .returned (.bool (x || y)) ∧ Hid (Below w8.heap.size w8 w')) := Lib.hid fun h W hW =>
    (eval_any A8 A4 c8 c4 N l4 HNP.out HVL.out W (Kd.C_below HC88.out hW) HLE8.out (HV.out.below (HB8.out.trans (hW.mono HB8.out.size)))).mono fun e w' g => ⟨by rw [g.1, HENR.out h], Lib.hid (hW.trans (g.2.mono hW.size))⟩
  have HI : Hid (Below w8.heap.size w8 w8) := Lib.hid (Below.refl _ _)
  have d13 : w8.cell? ⟨g13, 0, none⟩ = some (.slice A7 M.length c7) := blk_cell K13.out 0
  have d14 : w8.cell? ⟨g14, 0, none⟩ = some (.slice A8 N.length c8) := blk_cell K14.out 0
  have HD : Hid (∀ W, Below w8.heap.size w8 W → W.cell? ⟨g13, 0, none⟩ = some (.slice A7 M.length c7) ∧ W.cell? ⟨g14, 0, none⟩ = some (.slice A8 N.length c8)) := Lib.hid fun W hW => ⟨blk_cell (blk_below K13.out hW) 0, blk_cell (blk_below K14.out hW) 0⟩
  clear hrm hrn
  go_simp
  go_cut [66] (fun s66 wx => s66 = .bool false ∧ Below w8.heap.size w8 wx)
  case first =>
    cases rm with
    | false =>
      clear HCEM HCEN HEMR HENR
      refine wp_region_any (by kernel_rfl) ?_
      change wpAny _ _ _ _ _ _ _ (World.drew _)
      refine wpAny_ready (rs := [0]) (by kernel_rfl) (by simp) (AllReady.cons rfl (fun K hK => ?_) AllReady.nil)
      simp only [List.getElem_toArray, List.getElem_cons_succ, List.getElem_cons_zero]
      go_simp
      refine hK _ _ ?_
      clear hK K
      refine wpAny_ready (rs := [1]) (by kernel_rfl) (by simp) (AllReady.cons rfl (fun K hK => ?_) AllReady.nil)
      simp only [List.getElem_toArray, List.getElem_cons_succ, List.getElem_cons_zero]
      go_simp
      go_at_call 22
      refine (HCRM.out _ ?hW).mono ?_
      (case hW => repeat (first | exact HI.out | refine Below.drew ?_))
      rintro e W ⟨rfl, HI⟩
      obtain ⟨d13, d14⟩ := HD.out _ HI.out
      try go_simp
      refine hK _ _ ?_
      clear hK K
      refine wpAny_take (i := 2) (v := Value.bool false) rfl (by kernel_rfl) (by kernel_rfl) (by kernel_rfl) (fun _ _ _ h => h) (Or.inl ⟨by kernel_rfl, by intro w; go_simp⟩) ?_
      simp only [List.getElem_toArray, List.getElem_cons_succ, List.getElem_cons_zero, Act.put, List.setIfInBounds_toArray, List.set_cons_zero, List.set_cons_succ]
      refine wpAny_take (i := 3) (v := undef) rfl (by kernel_rfl) (by kernel_rfl) (by kernel_rfl) (fun _ _ _ h => h) (Or.inr ⟨by kernel_rfl, rfl⟩) ?_
      simp only [List.getElem_toArray, List.getElem_cons_succ, List.getElem_cons_zero, Act.put, List.setIfInBounds_toArray, List.set_cons_zero, List.set_cons_succ]
      refine wpAny_take (i := 4) (v := undef) rfl (by kernel_rfl) (by kernel_rfl) (by kernel_rfl) (fun _ _ _ h => h) (Or.inr ⟨by kernel_rfl, rfl⟩) ?_
      simp only [List.getElem_toArray, List.getElem_cons_succ, List.getElem_cons_zero, Act.put, List.setIfInBounds_toArray, List.set_cons_zero, List.set_cons_succ]
      refine wpAny_take (i := 5) (v := undef) rfl (by kernel_rfl) (by kernel_rfl) (by kernel_rfl) (fun _ _ _ h => h) (Or.inr ⟨by kernel_rfl, rfl⟩) ?_
      simp only [List.getElem_toArray, List.getElem_cons_succ, List.getElem_cons_zero, Act.put, List.setIfInBounds_toArray, List.set_cons_zero, List.set_cons_succ]
      refine wpAny_take (i := 6) (v := undef) rfl (by kernel_rfl) (by kernel_rfl) (by kernel_rfl) (fun _ _ _ h => h) (Or.inr ⟨by kernel_rfl, rfl⟩) ?_
      simp only [List.getElem_toArray, List.getElem_cons_succ, List.getElem_cons_zero, Act.put, List.setIfInBounds_toArray, List.set_cons_zero, List.set_cons_succ]
      refine wpAny_take (i := 7) (v := undef) rfl (by kernel_rfl) (by kernel_rfl) (by kernel_rfl) (fun _ _ _ h => h) (Or.inr ⟨by kernel_rfl, rfl⟩) ?_
      simp only [List.getElem_toArray, List.getElem_cons_succ, List.getElem_cons_zero, Act.put, List.setIfInBounds_toArray, List.set_cons_zero, List.set_cons_succ]
      refine wpAny_take (i := 8) (v := undef) rfl (by kernel_rfl) (by kernel_rfl) (by kernel_rfl) (fun _ _ _ h => h) (Or.inr ⟨by kernel_rfl, rfl⟩) ?_
      simp only [List.getElem_toArray, List.getElem_cons_succ, List.getElem_cons_zero, Act.put, List.setIfInBounds_toArray, List.set_cons_zero, List.set_cons_succ]
      refine wpAny_take (i := 9) (v := undef) rfl (by kernel_rfl) (by kernel_rfl) (by kernel_rfl) (fun _ _ _ h => h) (Or.inr ⟨by kernel_rfl, rfl⟩) ?_
      simp only [List.getElem_toArray, List.getElem_cons_succ, List.getElem_cons_zero, Act.put, List.setIfInBounds_toArray, List.set_cons_zero, List.set_cons_succ]
      refine wpAny_take (i := 10) (v := undef) rfl (by kernel_rfl) (by kernel_rfl) (by kernel_rfl) (fun _ _ _ h => h) (Or.inr ⟨by kernel_rfl, rfl⟩) ?_
      simp only [List.getElem_toArray, List.getElem_cons_succ, List.getElem_cons_zero, Act.put, List.setIfInBounds_toArray, List.set_cons_zero, List.set_cons_succ]
      refine wpAny_take (i := 11) (v := Value.bool false) rfl (by kernel_rfl) (by kernel_rfl) (by kernel_rfl) (fun _ _ _ h => h) (Or.inl ⟨by kernel_rfl, by intro w; go_simp⟩) ?_
      simp only [List.getElem_toArray, List.getElem_cons_succ, List.getElem_cons_zero, Act.put, List.setIfInBounds_toArray, List.set_cons_zero, List.set_cons_succ]
      refine wpAny_take (i := 12) (v := Value.bool false) rfl (by kernel_rfl) (by kernel_rfl) (by kernel_rfl) (fun _ _ _ h => h) (Or.inl ⟨by kernel_rfl, by intro w; go_simp⟩) ?_
      simp only [List.getElem_toArray, List.getElem_cons_succ, List.getElem_cons_zero, Act.put, List.setIfInBounds_toArray, List.set_cons_zero, List.set_cons_succ]
      refine wpAny_ready (rs := [13]) (by kernel_rfl) (by simp) (AllReady.cons rfl (fun K hK => ?_) AllReady.nil)
      simp only [List.getElem_toArray, List.getElem_cons_succ, List.getElem_cons_zero]
      go_simp
      refine hK _ _ ?_
      clear hK K
      refine wpAny_ready (rs := [14]) (by kernel_rfl) (by simp) (AllReady.cons rfl (fun K hK => ?_) AllReady.nil)
      simp only [List.getElem_toArray, List.getElem_cons_succ, List.getElem_cons_zero]
      go_simp
      go_at_call 22
      refine (HCRN.out _ ?hW).mono ?_
      (case hW => repeat (first | exact HI.out | refine Below.drew ?_))
      rintro e W ⟨rfl, HI⟩
      obtain ⟨d13, d14⟩ := HD.out _ HI.out
      try go_simp
      refine hK _ _ ?_
      clear hK K
      refine wpAny_take (i := 15) (v := Value.bool false) rfl (by kernel_rfl) (by kernel_rfl) (by kernel_rfl) (fun _ _ _ h => h) (Or.inl ⟨by kernel_rfl, by intro w; go_simp⟩) ?_
      simp only [List.getElem_toArray, List.getElem_cons_succ, List.getElem_cons_zero, Act.put, List.setIfInBounds_toArray, List.set_cons_zero, List.set_cons_succ]
      refine wpAny_take (i := 16) (v := undef) rfl (by kernel_rfl) (by kernel_rfl) (by kernel_rfl) (fun _ _ _ h => h) (Or.inr ⟨by kernel_rfl, rfl⟩) ?_
      simp only [List.getElem_toArray, List.getElem_cons_succ, List.getElem_cons_zero, Act.put, List.setIfInBounds_toArray, List.set_cons_zero, List.set_cons_succ]
      refine wpAny_take (i := 17) (v := undef) rfl (by kernel_rfl) (by kernel_rfl) (by kernel_rfl) (fun _ _ _ h => h) (Or.inr ⟨by kernel_rfl, rfl⟩) ?_
      simp only [List.getElem_toArray, List.getElem_cons_succ, List.getElem_cons_zero, Act.put, List.setIfInBounds_toArray, List.set_cons_zero, List.set_cons_succ]
      refine wpAny_take (i := 18) (v := undef) rfl (by kernel_rfl) (by kernel_rfl) (by kernel_rfl) (fun _ _ _ h => h) (Or.inr ⟨by kernel_rfl, rfl⟩) ?_
      simp only [List.getElem_toArray, List.getElem_cons_succ, List.getElem_cons_zero, Act.put, List.setIfInBounds_toArray, List.set_cons_zero, List.set_cons_succ]
      refine wpAny_take (i := 19) (v := undef) rfl (by kernel_rfl) (by kernel_rfl) (by kernel_rfl) (fun _ _ _ h => h) (Or.inr ⟨by kernel_rfl, rfl⟩) ?_
      simp only [List.getElem_toArray, List.getElem_cons_succ, List.getElem_cons_zero, Act.put, List.setIfInBounds_toArray, List.set_cons_zero, List.set_cons_succ]
      refine wpAny_take (i := 20) (v := undef) rfl (by kernel_rfl) (by kernel_rfl) (by kernel_rfl) (fun _ _ _ h => h) (Or.inr ⟨by kernel_rfl, rfl⟩) ?_
      simp only [List.getElem_toArray, List.getElem_cons_succ, List.getElem_cons_zero, Act.put, List.setIfInBounds_toArray, List.set_cons_zero, List.set_cons_succ]
      refine wpAny_take (i := 21) (v := undef) rfl (by kernel_rfl) (by kernel_rfl) (by kernel_rfl) (fun _ _ _ h => h) (Or.inr ⟨by kernel_rfl, rfl⟩) ?_
      simp only [List.getElem_toArray, List.getElem_cons_succ, List.getElem_cons_zero, Act.put, List.setIfInBounds_toArray, List.set_cons_zero, List.set_cons_succ]
      refine wpAny_take (i := 22) (v := undef) rfl (by kernel_rfl) (by kernel_rfl) (by kernel_rfl) (fun _ _ _ h => h) (Or.inr ⟨by kernel_rfl, rfl⟩) ?_
      simp only [List.getElem_toArray, List.getElem_cons_succ, List.getElem_cons_zero, Act.put, List.setIfInBounds_toArray, List.set_cons_zero, List.set_cons_succ]
      refine wpAny_take (i := 23) (v := undef) rfl (by kernel_rfl) (by kernel_rfl) (by kernel_rfl) (fun _ _ _ h => h) (Or.inr ⟨by kernel_rfl, rfl⟩) ?_
      simp only [List.getElem_toArray, List.getElem_cons_succ, List.getElem_cons_zero, Act.put, List.setIfInBounds_toArray, List.set_cons_zero, List.set_cons_succ]
      refine wpAny_take (i := 24) (v := Value.bool false) rfl (by kernel_rfl) (by kernel_rfl) (by kernel_rfl) (fun _ _ _ h => h) (Or.inl ⟨by kernel_rfl, by intro w; go_simp⟩) ?_
      simp only [List.getElem_toArray, List.getElem_cons_succ, List.getElem_cons_zero, Act.put, List.setIfInBounds_toArray, List.set_cons_zero, List.set_cons_succ]
      refine wpAny_take (i := 25) (v := Value.bool false) rfl (by kernel_rfl) (by kernel_rfl) (by kernel_rfl) (fun _ _ _ h => h) (Or.inl ⟨by kernel_rfl, by intro w; go_simp⟩) ?_
      simp only [List.getElem_toArray, List.getElem_cons_succ, List.getElem_cons_zero, Act.put, List.setIfInBounds_toArray, List.set_cons_zero, List.set_cons_succ]
      refine wpAny_take (i := 26) (v := Value.bool false) rfl (by kernel_rfl) (by kernel_rfl) (by kernel_rfl) (fun _ _ _ h => h) (Or.inl ⟨by kernel_rfl, by intro w; go_simp⟩) ?_
      simp only [List.getElem_toArray, List.getElem_cons_succ, List.getElem_cons_zero, Act.put, List.setIfInBounds_toArray, List.set_cons_zero, List.set_cons_succ]
      refine wpAny_ready (rs := [27, 29]) (by kernel_rfl) (by simp) ?_
      refine AllReady.cons (i := 27) rfl (fun K hK => ?_) ?_
      · simp only [List.getElem_toArray, List.getElem_cons_succ, List.getElem_cons_zero]
        go_simp
        refine hK _ _ ?_
        clear hK K
        refine wpAny_ready (rs := [28, 29]) (by kernel_rfl) (by simp) ?_
        refine AllReady.cons (i := 28) rfl (fun K hK => ?_) ?_
        · simp only [List.getElem_toArray, List.getElem_cons_succ, List.getElem_cons_zero]
          go_simp
          go_at_call 22
          refine (HCRM.out _ ?hW).mono ?_
          (case hW => repeat (first | exact HI.out | refine Below.drew ?_))
          rintro e W ⟨rfl, HI⟩
          obtain ⟨d13, d14⟩ := HD.out _ HI.out
          try go_simp
          refine hK _ _ ?_
          clear hK K
          refine wpAny_ready (rs := [29]) (by kernel_rfl) (by simp) (AllReady.cons rfl (fun K hK => ?_) AllReady.nil)
          simp only [List.getElem_toArray, List.getElem_cons_succ, List.getElem_cons_zero]
          go_simp
          refine hK _ _ ?_
          clear hK K
          refine wpAny_ready (rs := [30]) (by kernel_rfl) (by simp) (AllReady.cons rfl (fun K hK => ?_) AllReady.nil)
          simp only [List.getElem_toArray, List.getElem_cons_succ, List.getElem_cons_zero]
          go_simp
          go_at_call 22
          refine (HCRN.out _ ?hW).mono ?_
          (case hW => repeat (first | exact HI.out | refine Below.drew ?_))
          rintro e W ⟨rfl, HI⟩
          obtain ⟨d13, d14⟩ := HD.out _ HI.out
          try go_simp
          refine hK _ _ ?_
          clear hK K
          refine wpAny_take (i := 31) (v := Value.bool false) rfl (by kernel_rfl) (by kernel_rfl) (by kernel_rfl) (fun _ _ _ h => h) (Or.inl ⟨by kernel_rfl, by intro w; go_simp⟩) ?_
          simp only [List.getElem_toArray, List.getElem_cons_succ, List.getElem_cons_zero, Act.put, List.setIfInBounds_toArray, List.set_cons_zero, List.set_cons_succ]
          refine wpAny_take (i := 32) (v := Value.bool false) rfl (by kernel_rfl) (by kernel_rfl) (by kernel_rfl) (fun _ _ _ h => h) (Or.inl ⟨by kernel_rfl, by intro w; go_simp⟩) ?_
          simp only [List.getElem_toArray, List.getElem_cons_succ, List.getElem_cons_zero, Act.put, List.setIfInBounds_toArray, List.set_cons_zero, List.set_cons_succ]
          refine wpAny_done (by kernel_rfl) ?_ _
          go_wp2_with fail
          go_meet
          exact ⟨rfl, HI.out⟩
        refine AllReady.cons (i := 29) rfl (fun K hK => ?_) ?_
        · simp only [List.getElem_toArray, List.getElem_cons_succ, List.getElem_cons_zero]
          go_simp
          refine hK _ _ ?_
          clear hK K
          refine wpAny_ready (rs := [28]) (by kernel_rfl) (by simp) (AllReady.cons rfl (fun K hK => ?_) AllReady.nil)
          simp only [List.getElem_toArray, List.getElem_cons_succ, List.getElem_cons_zero]
          go_simp
          go_at_call 22
          refine (HCRM.out _ ?hW).mono ?_
          (case hW => repeat (first | exact HI.out | refine Below.drew ?_))
          rintro e W ⟨rfl, HI⟩
          obtain ⟨d13, d14⟩ := HD.out _ HI.out
          try go_simp
          refine hK _ _ ?_
          clear hK K
          refine wpAny_ready (rs := [30]) (by kernel_rfl) (by simp) (AllReady.cons rfl (fun K hK => ?_) AllReady.nil)
          simp only [List.getElem_toArray, List.getElem_cons_succ, List.getElem_cons_zero]
          go_simp
          go_at_call 22
          refine (HCRN.out _ ?hW).mono ?_
          (case hW => repeat (first | exact HI.out | refine Below.drew ?_))
          rintro e W ⟨rfl, HI⟩
          obtain ⟨d13, d14⟩ := HD.out _ HI.out
          try go_simp
          refine hK _ _ ?_
          clear hK K
          refine wpAny_take (i := 31) (v := Value.bool false) rfl (by kernel_rfl) (by kernel_rfl) (by kernel_rfl) (fun _ _ _ h => h) (Or.inl ⟨by kernel_rfl, by intro w; go_simp⟩) ?_
          simp only [List.getElem_toArray, List.getElem_cons_succ, List.getElem_cons_zero, Act.put, List.setIfInBounds_toArray, List.set_cons_zero, List.set_cons_succ]
          refine wpAny_take (i := 32) (v := Value.bool false) rfl (by kernel_rfl) (by kernel_rfl) (by kernel_rfl) (fun _ _ _ h => h) (Or.inl ⟨by kernel_rfl, by intro w; go_simp⟩) ?_
          simp only [List.getElem_toArray, List.getElem_cons_succ, List.getElem_cons_zero, Act.put, List.setIfInBounds_toArray, List.set_cons_zero, List.set_cons_succ]
          refine wpAny_done (by kernel_rfl) ?_ _
          go_wp2_with fail
          go_meet
          exact ⟨rfl, HI.out⟩
        exact AllReady.nil
      refine AllReady.cons (i := 29) rfl (fun K hK => ?_) ?_
      · simp only [List.getElem_toArray, List.getElem_cons_succ, List.getElem_cons_zero]
        go_simp
        refine hK _ _ ?_
        clear hK K
        refine wpAny_ready (rs := [27]) (by kernel_rfl) (by simp) (AllReady.cons rfl (fun K hK => ?_) AllReady.nil)
        simp only [List.getElem_toArray, List.getElem_cons_succ, List.getElem_cons_zero]
        go_simp
        refine hK _ _ ?_
        clear hK K
        refine wpAny_ready (rs := [28]) (by kernel_rfl) (by simp) (AllReady.cons rfl (fun K hK => ?_) AllReady.nil)
        simp only [List.getElem_toArray, List.getElem_cons_succ, List.getElem_cons_zero]
        go_simp
        go_at_call 22
        refine (HCRM.out _ ?hW).mono ?_
        (case hW => repeat (first | exact HI.out | refine Below.drew ?_))
        rintro e W ⟨rfl, HI⟩
        obtain ⟨d13, d14⟩ := HD.out _ HI.out
        try go_simp
        refine hK _ _ ?_
        clear hK K
        refine wpAny_ready (rs := [30]) (by kernel_rfl) (by simp) (AllReady.cons rfl (fun K hK => ?_) AllReady.nil)
        simp only [List.getElem_toArray, List.getElem_cons_succ, List.getElem_cons_zero]
        go_simp
        go_at_call 22
        refine (HCRN.out _ ?hW).mono ?_
        (case hW => repeat (first | exact HI.out | refine Below.drew ?_))
        rintro e W ⟨rfl, HI⟩
        obtain ⟨d13, d14⟩ := HD.out _ HI.out
        try go_simp
        refine hK _ _ ?_
        clear hK K
        refine wpAny_take (i := 31) (v := Value.bool false) rfl (by kernel_rfl) (by kernel_rfl) (by kernel_rfl) (fun _ _ _ h => h) (Or.inl ⟨by kernel_rfl, by intro w; go_simp⟩) ?_
        simp only [List.getElem_toArray, List.getElem_cons_succ, List.getElem_cons_zero, Act.put, List.setIfInBounds_toArray, List.set_cons_zero, List.set_cons_succ]
        refine wpAny_take (i := 32) (v := Value.bool false) rfl (by kernel_rfl) (by kernel_rfl) (by kernel_rfl) (fun _ _ _ h => h) (Or.inl ⟨by kernel_rfl, by intro w; go_simp⟩) ?_
        simp only [List.getElem_toArray, List.getElem_cons_succ, List.getElem_cons_zero, Act.put, List.setIfInBounds_toArray, List.set_cons_zero, List.set_cons_succ]
        refine wpAny_done (by kernel_rfl) ?_ _
        go_wp2_with fail
        go_meet
        exact ⟨rfl, HI.out⟩
      exact AllReady.nil
    | true =>
      have HCEM := Lib.hid (HCEM.out rfl)
      have HCEN := Lib.hid (HCEN.out rfl)
      clear HEMR HENR HMR HNR HRR2
      cases x with
      | false =>
        cases y with
        | false =>
          replace HCEM : Hid (∀ W, Below w8.heap.size w8 W → Calls Try.prog 18 #[.agg #[.slice A7 M.length c7], .slice A4 l4.length c4] W fun e w' => e = .returned (.bool false) ∧ Hid (Below w8.heap.size w8 w')) := Lib.hid HCEM.out
          replace HCEN : Hid (∀ W, Below w8.heap.size w8 W → Calls Try.prog 18 #[.agg #[.slice A8 N.length c8], .slice A4 l4.length c4] W fun e w' => e = .returned (.bool false) ∧ Hid (Below w8.heap.size w8 w')) := Lib.hid HCEN.out
          refine wp_region_any (by kernel_rfl) ?_
          change wpAny _ _ _ _ _ _ _ (World.drew _)
          refine wpAny_ready (rs := [0]) (by kernel_rfl) (by simp) (AllReady.cons rfl (fun K hK => ?_) AllReady.nil)
          simp only [List.getElem_toArray, List.getElem_cons_succ, List.getElem_cons_zero]
          go_simp
          refine hK _ _ ?_
          clear hK K
          refine wpAny_ready (rs := [1]) (by kernel_rfl) (by simp) (AllReady.cons rfl (fun K hK => ?_) AllReady.nil)
          simp only [List.getElem_toArray, List.getElem_cons_succ, List.getElem_cons_zero]
          go_simp
          go_at_call 22
          refine (HCRM.out _ ?hW).mono ?_
          (case hW => repeat (first | exact HI.out | refine Below.drew ?_))
          rintro e W ⟨rfl, HI⟩
          obtain ⟨d13, d14⟩ := HD.out _ HI.out
          try go_simp
          refine hK _ _ ?_
          clear hK K
          refine wpAny_take (i := 2) (v := Value.bool true) rfl (by kernel_rfl) (by kernel_rfl) (by kernel_rfl) (fun _ _ _ h => h) (Or.inl ⟨by kernel_rfl, by intro w; go_simp⟩) ?_
          simp only [List.getElem_toArray, List.getElem_cons_succ, List.getElem_cons_zero, Act.put, List.setIfInBounds_toArray, List.set_cons_zero, List.set_cons_succ]
          refine wpAny_take (i := 4) (v := Value.slice A4 l4.length c4) rfl (by kernel_rfl) (by kernel_rfl) (by kernel_rfl) (fun _ _ _ h => h) (Or.inl ⟨by kernel_rfl, by intro w; go_simp⟩) ?_
          simp only [List.getElem_toArray, List.getElem_cons_succ, List.getElem_cons_zero, Act.put, List.setIfInBounds_toArray, List.set_cons_zero, List.set_cons_succ]
          refine wpAny_take (i := 6) (v := Value.bool false) rfl (by kernel_rfl) (by kernel_rfl) (by kernel_rfl) (fun _ _ _ h => h) (Or.inl ⟨by kernel_rfl, by intro w; go_simp⟩) ?_
          simp only [List.getElem_toArray, List.getElem_cons_succ, List.getElem_cons_zero, Act.put, List.setIfInBounds_toArray, List.set_cons_zero, List.set_cons_succ]
          refine wpAny_ready (rs := [3]) (by kernel_rfl) (by simp) (AllReady.cons rfl (fun K hK => ?_) AllReady.nil)
          simp only [List.getElem_toArray, List.getElem_cons_succ, List.getElem_cons_zero]
          go_simp
          refine hK _ _ ?_
          clear hK K
          refine wpAny_ready (rs := [5]) (by kernel_rfl) (by simp) (AllReady.cons rfl (fun K hK => ?_) AllReady.nil)
          simp only [List.getElem_toArray, List.getElem_cons_succ, List.getElem_cons_zero]
          go_simp
          go_at_call 18
          refine (HCEM.out _ ?hW).mono ?_
          (case hW => repeat (first | exact HI.out | refine Below.drew ?_))
          rintro e W ⟨rfl, HI⟩
          obtain ⟨d13, d14⟩ := HD.out _ HI.out
          try go_simp
          refine hK _ _ ?_
          clear hK K
          refine wpAny_take (i := 7) (v := Value.bool false) rfl (by kernel_rfl) (by kernel_rfl) (by kernel_rfl) (fun _ _ _ h => h) (Or.inl ⟨by kernel_rfl, by intro w; go_simp⟩) ?_
          simp only [List.getElem_toArray, List.getElem_cons_succ, List.getElem_cons_zero, Act.put, List.setIfInBounds_toArray, List.set_cons_zero, List.set_cons_succ]
          refine wpAny_take (i := 8) (v := undef) rfl (by kernel_rfl) (by kernel_rfl) (by kernel_rfl) (fun _ _ _ h => h) (Or.inr ⟨by kernel_rfl, rfl⟩) ?_
          simp only [List.getElem_toArray, List.getElem_cons_succ, List.getElem_cons_zero, Act.put, List.setIfInBounds_toArray, List.set_cons_zero, List.set_cons_succ]
          refine wpAny_take (i := 9) (v := Value.bool false) rfl (by kernel_rfl) (by kernel_rfl) (by kernel_rfl) (fun _ _ _ h => h) (Or.inl ⟨by kernel_rfl, by intro w; go_simp⟩) ?_
          simp only [List.getElem_toArray, List.getElem_cons_succ, List.getElem_cons_zero, Act.put, List.setIfInBounds_toArray, List.set_cons_zero, List.set_cons_succ]
          refine wpAny_take (i := 10) (v := Value.bool false) rfl (by kernel_rfl) (by kernel_rfl) (by kernel_rfl) (fun _ _ _ h => h) (Or.inl ⟨by kernel_rfl, by intro w; go_simp⟩) ?_
          simp only [List.getElem_toArray, List.getElem_cons_succ, List.getElem_cons_zero, Act.put, List.setIfInBounds_toArray, List.set_cons_zero, List.set_cons_succ]
          refine wpAny_take (i := 11) (v := Value.bool false) rfl (by kernel_rfl) (by kernel_rfl) (by kernel_rfl) (fun _ _ _ h => h) (Or.inl ⟨by kernel_rfl, by intro w; go_simp⟩) ?_
          simp only [List.getElem_toArray, List.getElem_cons_succ, List.getElem_cons_zero, Act.put, List.setIfInBounds_toArray, List.set_cons_zero, List.set_cons_succ]
          refine wpAny_take (i := 12) (v := Value.bool false) rfl (by kernel_rfl) (by kernel_rfl) (by kernel_rfl) (fun _ _ _ h => h) (Or.inl ⟨by kernel_rfl, by intro w; go_simp⟩) ?_
          simp only [List.getElem_toArray, List.getElem_cons_succ, List.getElem_cons_zero, Act.put, List.setIfInBounds_toArray, List.set_cons_zero, List.set_cons_succ]
          refine wpAny_ready (rs := [13]) (by kernel_rfl) (by simp) (AllReady.cons rfl (fun K hK => ?_) AllReady.nil)
          simp only [List.getElem_toArray, List.getElem_cons_succ, List.getElem_cons_zero]
          go_simp
          refine hK _ _ ?_
          clear hK K
          refine wpAny_ready (rs := [14]) (by kernel_rfl) (by simp) (AllReady.cons rfl (fun K hK => ?_) AllReady.nil)
          simp only [List.getElem_toArray, List.getElem_cons_succ, List.getElem_cons_zero]
          go_simp
          go_at_call 22
          refine (HCRN.out _ ?hW).mono ?_
          (case hW => repeat (first | exact HI.out | refine Below.drew ?_))
          rintro e W ⟨rfl, HI⟩
          obtain ⟨d13, d14⟩ := HD.out _ HI.out
          try go_simp
          refine hK _ _ ?_
          clear hK K
          refine wpAny_take (i := 15) (v := Value.bool true) rfl (by kernel_rfl) (by kernel_rfl) (by kernel_rfl) (fun _ _ _ h => h) (Or.inl ⟨by kernel_rfl, by intro w; go_simp⟩) ?_
          simp only [List.getElem_toArray, List.getElem_cons_succ, List.getElem_cons_zero, Act.put, List.setIfInBounds_toArray, List.set_cons_zero, List.set_cons_succ]
          refine wpAny_take (i := 17) (v := Value.slice A4 l4.length c4) rfl (by kernel_rfl) (by kernel_rfl) (by kernel_rfl) (fun _ _ _ h => h) (Or.inl ⟨by kernel_rfl, by intro w; go_simp⟩) ?_
          simp only [List.getElem_toArray, List.getElem_cons_succ, List.getElem_cons_zero, Act.put, List.setIfInBounds_toArray, List.set_cons_zero, List.set_cons_succ]
          refine wpAny_take (i := 19) (v := Value.bool false) rfl (by kernel_rfl) (by kernel_rfl) (by kernel_rfl) (fun _ _ _ h => h) (Or.inl ⟨by kernel_rfl, by intro w; go_simp⟩) ?_
          simp only [List.getElem_toArray, List.getElem_cons_succ, List.getElem_cons_zero, Act.put, List.setIfInBounds_toArray, List.set_cons_zero, List.set_cons_succ]
          refine wpAny_ready (rs := [16]) (by kernel_rfl) (by simp) (AllReady.cons rfl (fun K hK => ?_) AllReady.nil)
          simp only [List.getElem_toArray, List.getElem_cons_succ, List.getElem_cons_zero]
          go_simp
          refine hK _ _ ?_
          clear hK K
          refine wpAny_ready (rs := [18]) (by kernel_rfl) (by simp) (AllReady.cons rfl (fun K hK => ?_) AllReady.nil)
          simp only [List.getElem_toArray, List.getElem_cons_succ, List.getElem_cons_zero]
          go_simp
          go_at_call 18
          refine (HCEN.out _ ?hW).mono ?_
          (case hW => repeat (first | exact HI.out | refine Below.drew ?_))
          rintro e W ⟨rfl, HI⟩
          obtain ⟨d13, d14⟩ := HD.out _ HI.out
          try go_simp
          refine hK _ _ ?_
          clear hK K
          refine wpAny_take (i := 20) (v := Value.bool false) rfl (by kernel_rfl) (by kernel_rfl) (by kernel_rfl) (fun _ _ _ h => h) (Or.inl ⟨by kernel_rfl, by intro w; go_simp⟩) ?_
          simp only [List.getElem_toArray, List.getElem_cons_succ, List.getElem_cons_zero, Act.put, List.setIfInBounds_toArray, List.set_cons_zero, List.set_cons_succ]
          refine wpAny_take (i := 21) (v := Value.bool false) rfl (by kernel_rfl) (by kernel_rfl) (by kernel_rfl) (fun _ _ _ h => h) (Or.inl ⟨by kernel_rfl, by intro w; go_simp⟩) ?_
          simp only [List.getElem_toArray, List.getElem_cons_succ, List.getElem_cons_zero, Act.put, List.setIfInBounds_toArray, List.set_cons_zero, List.set_cons_succ]
          refine wpAny_take (i := 22) (v := Value.bool false) rfl (by kernel_rfl) (by kernel_rfl) (by kernel_rfl) (fun _ _ _ h => h) (Or.inl ⟨by kernel_rfl, by intro w; go_simp⟩) ?_
          simp only [List.getElem_toArray, List.getElem_cons_succ, List.getElem_cons_zero, Act.put, List.setIfInBounds_toArray, List.set_cons_zero, List.set_cons_succ]
          refine wpAny_take (i := 23) (v := Value.bool false) rfl (by kernel_rfl) (by kernel_rfl) (by kernel_rfl) (fun _ _ _ h => h) (Or.inl ⟨by kernel_rfl, by intro w; go_simp⟩) ?_
          simp only [List.getElem_toArray, List.getElem_cons_succ, List.getElem_cons_zero, Act.put, List.setIfInBounds_toArray, List.set_cons_zero, List.set_cons_succ]
          refine wpAny_take (i := 24) (v := Value.bool false) rfl (by kernel_rfl) (by kernel_rfl) (by kernel_rfl) (fun _ _ _ h => h) (Or.inl ⟨by kernel_rfl, by intro w; go_simp⟩) ?_
          simp only [List.getElem_toArray, List.getElem_cons_succ, List.getElem_cons_zero, Act.put, List.setIfInBounds_toArray, List.set_cons_zero, List.set_cons_succ]
          refine wpAny_take (i := 25) (v := Value.bool false) rfl (by kernel_rfl) (by kernel_rfl) (by kernel_rfl) (fun _ _ _ h => h) (Or.inl ⟨by kernel_rfl, by intro w; go_simp⟩) ?_
          simp only [List.getElem_toArray, List.getElem_cons_succ, List.getElem_cons_zero, Act.put, List.setIfInBounds_toArray, List.set_cons_zero, List.set_cons_succ]
          refine wpAny_take (i := 26) (v := Value.bool false) rfl (by kernel_rfl) (by kernel_rfl) (by kernel_rfl) (fun _ _ _ h => h) (Or.inl ⟨by kernel_rfl, by intro w; go_simp⟩) ?_
          simp only [List.getElem_toArray, List.getElem_cons_succ, List.getElem_cons_zero, Act.put, List.setIfInBounds_toArray, List.set_cons_zero, List.set_cons_succ]
          refine wpAny_ready (rs := [27, 29]) (by kernel_rfl) (by simp) ?_
          refine AllReady.cons (i := 27) rfl (fun K hK => ?_) ?_
          · simp only [List.getElem_toArray, List.getElem_cons_succ, List.getElem_cons_zero]
            go_simp
            refine hK _ _ ?_
            clear hK K
            refine wpAny_ready (rs := [28, 29]) (by kernel_rfl) (by simp) ?_
            refine AllReady.cons (i := 28) rfl (fun K hK => ?_) ?_
            · simp only [List.getElem_toArray, List.getElem_cons_succ, List.getElem_cons_zero]
              go_simp
              go_at_call 22
              refine (HCRM.out _ ?hW).mono ?_
              (case hW => repeat (first | exact HI.out | refine Below.drew ?_))
              rintro e W ⟨rfl, HI⟩
              obtain ⟨d13, d14⟩ := HD.out _ HI.out
              try go_simp
              refine hK _ _ ?_
              clear hK K
              refine wpAny_ready (rs := [29]) (by kernel_rfl) (by simp) (AllReady.cons rfl (fun K hK => ?_) AllReady.nil)
              simp only [List.getElem_toArray, List.getElem_cons_succ, List.getElem_cons_zero]
              go_simp
              refine hK _ _ ?_
              clear hK K
              refine wpAny_ready (rs := [30]) (by kernel_rfl) (by simp) (AllReady.cons rfl (fun K hK => ?_) AllReady.nil)
              simp only [List.getElem_toArray, List.getElem_cons_succ, List.getElem_cons_zero]
              go_simp
              go_at_call 22
              refine (HCRN.out _ ?hW).mono ?_
              (case hW => repeat (first | exact HI.out | refine Below.drew ?_))
              rintro e W ⟨rfl, HI⟩
              obtain ⟨d13, d14⟩ := HD.out _ HI.out
              try go_simp
              refine hK _ _ ?_
              clear hK K
              refine wpAny_take (i := 31) (v := Value.bool false) rfl (by kernel_rfl) (by kernel_rfl) (by kernel_rfl) (fun _ _ _ h => h) (Or.inl ⟨by kernel_rfl, by intro w; go_simp⟩) ?_
              simp only [List.getElem_toArray, List.getElem_cons_succ, List.getElem_cons_zero, Act.put, List.setIfInBounds_toArray, List.set_cons_zero, List.set_cons_succ]
              refine wpAny_take (i := 32) (v := Value.bool false) rfl (by kernel_rfl) (by kernel_rfl) (by kernel_rfl) (fun _ _ _ h => h) (Or.inl ⟨by kernel_rfl, by intro w; go_simp⟩) ?_
              simp only [List.getElem_toArray, List.getElem_cons_succ, List.getElem_cons_zero, Act.put, List.setIfInBounds_toArray, List.set_cons_zero, List.set_cons_succ]
              refine wpAny_done (by kernel_rfl) ?_ _
              go_wp2_with fail
              go_meet
              exact ⟨rfl, HI.out⟩
            refine AllReady.cons (i := 29) rfl (fun K hK => ?_) ?_
            · simp only [List.getElem_toArray, List.getElem_cons_succ, List.getElem_cons_zero]
              go_simp
              refine hK _ _ ?_
              clear hK K
              refine wpAny_ready (rs := [28]) (by kernel_rfl) (by simp) (AllReady.cons rfl (fun K hK => ?_) AllReady.nil)
              simp only [List.getElem_toArray, List.getElem_cons_succ, List.getElem_cons_zero]
              go_simp
              go_at_call 22
              refine (HCRM.out _ ?hW).mono ?_
              (case hW => repeat (first | exact HI.out | refine Below.drew ?_))
              rintro e W ⟨rfl, HI⟩
              obtain ⟨d13, d14⟩ := HD.out _ HI.out
              try go_simp
              refine hK _ _ ?_
              clear hK K
              refine wpAny_ready (rs := [30]) (by kernel_rfl) (by simp) (AllReady.cons rfl (fun K hK => ?_) AllReady.nil)
              simp only [List.getElem_toArray, List.getElem_cons_succ, List.getElem_cons_zero]
              go_simp
              go_at_call 22
              refine (HCRN.out _ ?hW).mono ?_
              (case hW => repeat (first | exact HI.out | refine Below.drew ?_))
              rintro e W ⟨rfl, HI⟩
              obtain ⟨d13, d14⟩ := HD.out _ HI.out
              try go_simp
              refine hK _ _ ?_
              clear hK K
              refine wpAny_take (i := 31) (v := Value.bool false) rfl (by kernel_rfl) (by kernel_rfl) (by kernel_rfl) (fun _ _ _ h => h) (Or.inl ⟨by kernel_rfl, by intro w; go_simp⟩) ?_
              simp only [List.getElem_toArray, List.getElem_cons_succ, List.getElem_cons_zero, Act.put, List.setIfInBounds_toArray, List.set_cons_zero, List.set_cons_succ]
              refine wpAny_take (i := 32) (v := Value.bool false) rfl (by kernel_rfl) (by kernel_rfl) (by kernel_rfl) (fun _ _ _ h => h) (Or.inl ⟨by kernel_rfl, by intro w; go_simp⟩) ?_
              simp only [List.getElem_toArray, List.getElem_cons_succ, List.getElem_cons_zero, Act.put, List.setIfInBounds_toArray, List.set_cons_zero, List.set_cons_succ]
              refine wpAny_done (by kernel_rfl) ?_ _
              go_wp2_with fail
              go_meet
              exact ⟨rfl, HI.out⟩
            exact AllReady.nil
          refine AllReady.cons (i := 29) rfl (fun K hK => ?_) ?_
          · simp only [List.getElem_toArray, List.getElem_cons_succ, List.getElem_cons_zero]
            go_simp
            refine hK _ _ ?_
            clear hK K
            refine wpAny_ready (rs := [27]) (by kernel_rfl) (by simp) (AllReady.cons rfl (fun K hK => ?_) AllReady.nil)
            simp only [List.getElem_toArray, List.getElem_cons_succ, List.getElem_cons_zero]
            go_simp
            refine hK _ _ ?_
            clear hK K
            refine wpAny_ready (rs := [28]) (by kernel_rfl) (by simp) (AllReady.cons rfl (fun K hK => ?_) AllReady.nil)
            simp only [List.getElem_toArray, List.getElem_cons_succ, List.getElem_cons_zero]
            go_simp
            go_at_call 22
            refine (HCRM.out _ ?hW).mono ?_
            (case hW => repeat (first | exact HI.out | refine Below.drew ?_))
            rintro e W ⟨rfl, HI⟩
            obtain ⟨d13, d14⟩ := HD.out _ HI.out
            try go_simp
            refine hK _ _ ?_
            clear hK K
            refine wpAny_ready (rs := [30]) (by kernel_rfl) (by simp) (AllReady.cons rfl (fun K hK => ?_) AllReady.nil)
            simp only [List.getElem_toArray, List.getElem_cons_succ, List.getElem_cons_zero]
            go_simp
            go_at_call 22
            refine (HCRN.out _ ?hW).mono ?_
            (case hW => repeat (first | exact HI.out | refine Below.drew ?_))
            rintro e W ⟨rfl, HI⟩
            obtain ⟨d13, d14⟩ := HD.out _ HI.out
            try go_simp
            refine hK _ _ ?_
            clear hK K
            refine wpAny_take (i := 31) (v := Value.bool false) rfl (by kernel_rfl) (by kernel_rfl) (by kernel_rfl) (fun _ _ _ h => h) (Or.inl ⟨by kernel_rfl, by intro w; go_simp⟩) ?_
            simp only [List.getElem_toArray, List.getElem_cons_succ, List.getElem_cons_zero, Act.put, List.setIfInBounds_toArray, List.set_cons_zero, List.set_cons_succ]
            refine wpAny_take (i := 32) (v := Value.bool false) rfl (by kernel_rfl) (by kernel_rfl) (by kernel_rfl) (fun _ _ _ h => h) (Or.inl ⟨by kernel_rfl, by intro w; go_simp⟩) ?_
            simp only [List.getElem_toArray, List.getElem_cons_succ, List.getElem_cons_zero, Act.put, List.setIfInBounds_toArray, List.set_cons_zero, List.set_cons_succ]
            refine wpAny_done (by kernel_rfl) ?_ _
            go_wp2_with fail
            go_meet
            exact ⟨rfl, HI.out⟩
          exact AllReady.nil
        | true =>
          replace HCEM : Hid (∀ W, Below w8.heap.size w8 W → Calls Try.prog 18 #[.agg #[.slice A7 M.length c7], .slice A4 l4.length c4] W fun e w' => e = .returned (.bool false) ∧ Hid (Below w8.heap.size w8 w')) := Lib.hid HCEM.out
          replace HCEN : Hid (∀ W, Below w8.heap.size w8 W → Calls Try.prog 18 #[.agg #[.slice A8 N.length c8], .slice A4 l4.length c4] W fun e w' => e = .returned (.bool true) ∧ Hid (Below w8.heap.size w8 w')) := Lib.hid HCEN.out
          refine wp_region_any (by kernel_rfl) ?_
          change wpAny _ _ _ _ _ _ _ (World.drew _)
          refine wpAny_ready (rs := [0]) (by kernel_rfl) (by simp) (AllReady.cons rfl (fun K hK => ?_) AllReady.nil)
          simp only [List.getElem_toArray, List.getElem_cons_succ, List.getElem_cons_zero]
          go_simp
          refine hK _ _ ?_
          clear hK K
          refine wpAny_ready (rs := [1]) (by kernel_rfl) (by simp) (AllReady.cons rfl (fun K hK => ?_) AllReady.nil)
          simp only [List.getElem_toArray, List.getElem_cons_succ, List.getElem_cons_zero]
          go_simp
          go_at_call 22
          refine (HCRM.out _ ?hW).mono ?_
          (case hW => repeat (first | exact HI.out | refine Below.drew ?_))
          rintro e W ⟨rfl, HI⟩
          obtain ⟨d13, d14⟩ := HD.out _ HI.out
          try go_simp
          refine hK _ _ ?_
          clear hK K
          refine wpAny_take (i := 2) (v := Value.bool true) rfl (by kernel_rfl) (by kernel_rfl) (by kernel_rfl) (fun _ _ _ h => h) (Or.inl ⟨by kernel_rfl, by intro w; go_simp⟩) ?_
          simp only [List.getElem_toArray, List.getElem_cons_succ, List.getElem_cons_zero, Act.put, List.setIfInBounds_toArray, List.set_cons_zero, List.set_cons_succ]
          refine wpAny_take (i := 4) (v := Value.slice A4 l4.length c4) rfl (by kernel_rfl) (by kernel_rfl) (by kernel_rfl) (fun _ _ _ h => h) (Or.inl ⟨by kernel_rfl, by intro w; go_simp⟩) ?_
          simp only [List.getElem_toArray, List.getElem_cons_succ, List.getElem_cons_zero, Act.put, List.setIfInBounds_toArray, List.set_cons_zero, List.set_cons_succ]
          refine wpAny_take (i := 6) (v := Value.bool false) rfl (by kernel_rfl) (by kernel_rfl) (by kernel_rfl) (fun _ _ _ h => h) (Or.inl ⟨by kernel_rfl, by intro w; go_simp⟩) ?_
          simp only [List.getElem_toArray, List.getElem_cons_succ, List.getElem_cons_zero, Act.put, List.setIfInBounds_toArray, List.set_cons_zero, List.set_cons_succ]
          refine wpAny_ready (rs := [3]) (by kernel_rfl) (by simp) (AllReady.cons rfl (fun K hK => ?_) AllReady.nil)
          simp only [List.getElem_toArray, List.getElem_cons_succ, List.getElem_cons_zero]
          go_simp
          refine hK _ _ ?_
          clear hK K
          refine wpAny_ready (rs := [5]) (by kernel_rfl) (by simp) (AllReady.cons rfl (fun K hK => ?_) AllReady.nil)
          simp only [List.getElem_toArray, List.getElem_cons_succ, List.getElem_cons_zero]
          go_simp
          go_at_call 18
          refine (HCEM.out _ ?hW).mono ?_
          (case hW => repeat (first | exact HI.out | refine Below.drew ?_))
          rintro e W ⟨rfl, HI⟩
          obtain ⟨d13, d14⟩ := HD.out _ HI.out
          try go_simp
          refine hK _ _ ?_
          clear hK K
          refine wpAny_take (i := 7) (v := Value.bool false) rfl (by kernel_rfl) (by kernel_rfl) (by kernel_rfl) (fun _ _ _ h => h) (Or.inl ⟨by kernel_rfl, by intro w; go_simp⟩) ?_
          simp only [List.getElem_toArray, List.getElem_cons_succ, List.getElem_cons_zero, Act.put, List.setIfInBounds_toArray, List.set_cons_zero, List.set_cons_succ]
          refine wpAny_take (i := 8) (v := undef) rfl (by kernel_rfl) (by kernel_rfl) (by kernel_rfl) (fun _ _ _ h => h) (Or.inr ⟨by kernel_rfl, rfl⟩) ?_
          simp only [List.getElem_toArray, List.getElem_cons_succ, List.getElem_cons_zero, Act.put, List.setIfInBounds_toArray, List.set_cons_zero, List.set_cons_succ]
          refine wpAny_take (i := 9) (v := Value.bool false) rfl (by kernel_rfl) (by kernel_rfl) (by kernel_rfl) (fun _ _ _ h => h) (Or.inl ⟨by kernel_rfl, by intro w; go_simp⟩) ?_
          simp only [List.getElem_toArray, List.getElem_cons_succ, List.getElem_cons_zero, Act.put, List.setIfInBounds_toArray, List.set_cons_zero, List.set_cons_succ]
          refine wpAny_take (i := 10) (v := Value.bool false) rfl (by kernel_rfl) (by kernel_rfl) (by kernel_rfl) (fun _ _ _ h => h) (Or.inl ⟨by kernel_rfl, by intro w; go_simp⟩) ?_
          simp only [List.getElem_toArray, List.getElem_cons_succ, List.getElem_cons_zero, Act.put, List.setIfInBounds_toArray, List.set_cons_zero, List.set_cons_succ]
          refine wpAny_take (i := 11) (v := Value.bool false) rfl (by kernel_rfl) (by kernel_rfl) (by kernel_rfl) (fun _ _ _ h => h) (Or.inl ⟨by kernel_rfl, by intro w; go_simp⟩) ?_
          simp only [List.getElem_toArray, List.getElem_cons_succ, List.getElem_cons_zero, Act.put, List.setIfInBounds_toArray, List.set_cons_zero, List.set_cons_succ]
          refine wpAny_take (i := 12) (v := Value.bool false) rfl (by kernel_rfl) (by kernel_rfl) (by kernel_rfl) (fun _ _ _ h => h) (Or.inl ⟨by kernel_rfl, by intro w; go_simp⟩) ?_
          simp only [List.getElem_toArray, List.getElem_cons_succ, List.getElem_cons_zero, Act.put, List.setIfInBounds_toArray, List.set_cons_zero, List.set_cons_succ]
          refine wpAny_ready (rs := [13]) (by kernel_rfl) (by simp) (AllReady.cons rfl (fun K hK => ?_) AllReady.nil)
          simp only [List.getElem_toArray, List.getElem_cons_succ, List.getElem_cons_zero]
          go_simp
          refine hK _ _ ?_
          clear hK K
          refine wpAny_ready (rs := [14]) (by kernel_rfl) (by simp) (AllReady.cons rfl (fun K hK => ?_) AllReady.nil)
          simp only [List.getElem_toArray, List.getElem_cons_succ, List.getElem_cons_zero]
          go_simp
          go_at_call 22
          refine (HCRN.out _ ?hW).mono ?_
          (case hW => repeat (first | exact HI.out | refine Below.drew ?_))
          rintro e W ⟨rfl, HI⟩
          obtain ⟨d13, d14⟩ := HD.out _ HI.out
          try go_simp
          refine hK _ _ ?_
          clear hK K
          refine wpAny_take (i := 15) (v := Value.bool true) rfl (by kernel_rfl) (by kernel_rfl) (by kernel_rfl) (fun _ _ _ h => h) (Or.inl ⟨by kernel_rfl, by intro w; go_simp⟩) ?_
          simp only [List.getElem_toArray, List.getElem_cons_succ, List.getElem_cons_zero, Act.put, List.setIfInBounds_toArray, List.set_cons_zero, List.set_cons_succ]
          refine wpAny_take (i := 17) (v := Value.slice A4 l4.length c4) rfl (by kernel_rfl) (by kernel_rfl) (by kernel_rfl) (fun _ _ _ h => h) (Or.inl ⟨by kernel_rfl, by intro w; go_simp⟩) ?_
          simp only [List.getElem_toArray, List.getElem_cons_succ, List.getElem_cons_zero, Act.put, List.setIfInBounds_toArray, List.set_cons_zero, List.set_cons_succ]
          refine wpAny_take (i := 19) (v := Value.bool false) rfl (by kernel_rfl) (by kernel_rfl) (by kernel_rfl) (fun _ _ _ h => h) (Or.inl ⟨by kernel_rfl, by intro w; go_simp⟩) ?_
          simp only [List.getElem_toArray, List.getElem_cons_succ, List.getElem_cons_zero, Act.put, List.setIfInBounds_toArray, List.set_cons_zero, List.set_cons_succ]
          refine wpAny_ready (rs := [16]) (by kernel_rfl) (by simp) (AllReady.cons rfl (fun K hK => ?_) AllReady.nil)
          simp only [List.getElem_toArray, List.getElem_cons_succ, List.getElem_cons_zero]
          go_simp
          refine hK _ _ ?_
          clear hK K
          refine wpAny_ready (rs := [18]) (by kernel_rfl) (by simp) (AllReady.cons rfl (fun K hK => ?_) AllReady.nil)
          simp only [List.getElem_toArray, List.getElem_cons_succ, List.getElem_cons_zero]
          go_simp
          go_at_call 18
          refine (HCEN.out _ ?hW).mono ?_
          (case hW => repeat (first | exact HI.out | refine Below.drew ?_))
          rintro e W ⟨rfl, HI⟩
          obtain ⟨d13, d14⟩ := HD.out _ HI.out
          try go_simp
          refine hK _ _ ?_
          clear hK K
          refine wpAny_take (i := 20) (v := Value.bool false) rfl (by kernel_rfl) (by kernel_rfl) (by kernel_rfl) (fun _ _ _ h => h) (Or.inl ⟨by kernel_rfl, by intro w; go_simp⟩) ?_
          simp only [List.getElem_toArray, List.getElem_cons_succ, List.getElem_cons_zero, Act.put, List.setIfInBounds_toArray, List.set_cons_zero, List.set_cons_succ]
          refine wpAny_take (i := 21) (v := Value.bool true) rfl (by kernel_rfl) (by kernel_rfl) (by kernel_rfl) (fun _ _ _ h => h) (Or.inl ⟨by kernel_rfl, by intro w; go_simp⟩) ?_
          simp only [List.getElem_toArray, List.getElem_cons_succ, List.getElem_cons_zero, Act.put, List.setIfInBounds_toArray, List.set_cons_zero, List.set_cons_succ]
          refine wpAny_take (i := 22) (v := Value.bool true) rfl (by kernel_rfl) (by kernel_rfl) (by kernel_rfl) (fun _ _ _ h => h) (Or.inl ⟨by kernel_rfl, by intro w; go_simp⟩) ?_
          simp only [List.getElem_toArray, List.getElem_cons_succ, List.getElem_cons_zero, Act.put, List.setIfInBounds_toArray, List.set_cons_zero, List.set_cons_succ]
          refine wpAny_take (i := 23) (v := Value.bool false) rfl (by kernel_rfl) (by kernel_rfl) (by kernel_rfl) (fun _ _ _ h => h) (Or.inl ⟨by kernel_rfl, by intro w; go_simp⟩) ?_
          simp only [List.getElem_toArray, List.getElem_cons_succ, List.getElem_cons_zero, Act.put, List.setIfInBounds_toArray, List.set_cons_zero, List.set_cons_succ]
          refine wpAny_take (i := 24) (v := Value.bool false) rfl (by kernel_rfl) (by kernel_rfl) (by kernel_rfl) (fun _ _ _ h => h) (Or.inl ⟨by kernel_rfl, by intro w; go_simp⟩) ?_
          simp only [List.getElem_toArray, List.getElem_cons_succ, List.getElem_cons_zero, Act.put, List.setIfInBounds_toArray, List.set_cons_zero, List.set_cons_succ]
          refine wpAny_take (i := 25) (v := Value.bool false) rfl (by kernel_rfl) (by kernel_rfl) (by kernel_rfl) (fun _ _ _ h => h) (Or.inl ⟨by kernel_rfl, by intro w; go_simp⟩) ?_
          simp only [List.getElem_toArray, List.getElem_cons_succ, List.getElem_cons_zero, Act.put, List.setIfInBounds_toArray, List.set_cons_zero, List.set_cons_succ]
          refine wpAny_take (i := 26) (v := Value.bool false) rfl (by kernel_rfl) (by kernel_rfl) (by kernel_rfl) (fun _ _ _ h => h) (Or.inl ⟨by kernel_rfl, by intro w; go_simp⟩) ?_
          simp only [List.getElem_toArray, List.getElem_cons_succ, List.getElem_cons_zero, Act.put, List.setIfInBounds_toArray, List.set_cons_zero, List.set_cons_succ]
          refine wpAny_ready (rs := [27, 29]) (by kernel_rfl) (by simp) ?_
          refine AllReady.cons (i := 27) rfl (fun K hK => ?_) ?_
          · simp only [List.getElem_toArray, List.getElem_cons_succ, List.getElem_cons_zero]
            go_simp
            refine hK _ _ ?_
            clear hK K
            refine wpAny_ready (rs := [28, 29]) (by kernel_rfl) (by simp) ?_
            refine AllReady.cons (i := 28) rfl (fun K hK => ?_) ?_
            · simp only [List.getElem_toArray, List.getElem_cons_succ, List.getElem_cons_zero]
              go_simp
              go_at_call 22
              refine (HCRM.out _ ?hW).mono ?_
              (case hW => repeat (first | exact HI.out | refine Below.drew ?_))
              rintro e W ⟨rfl, HI⟩
              obtain ⟨d13, d14⟩ := HD.out _ HI.out
              try go_simp
              refine hK _ _ ?_
              clear hK K
              refine wpAny_ready (rs := [29]) (by kernel_rfl) (by simp) (AllReady.cons rfl (fun K hK => ?_) AllReady.nil)
              simp only [List.getElem_toArray, List.getElem_cons_succ, List.getElem_cons_zero]
              go_simp
              refine hK _ _ ?_
              clear hK K
              refine wpAny_ready (rs := [30]) (by kernel_rfl) (by simp) (AllReady.cons rfl (fun K hK => ?_) AllReady.nil)
              simp only [List.getElem_toArray, List.getElem_cons_succ, List.getElem_cons_zero]
              go_simp
              go_at_call 22
              refine (HCRN.out _ ?hW).mono ?_
              (case hW => repeat (first | exact HI.out | refine Below.drew ?_))
              rintro e W ⟨rfl, HI⟩
              obtain ⟨d13, d14⟩ := HD.out _ HI.out
              try go_simp
              refine hK _ _ ?_
              clear hK K
              refine wpAny_take (i := 31) (v := Value.bool false) rfl (by kernel_rfl) (by kernel_rfl) (by kernel_rfl) (fun _ _ _ h => h) (Or.inl ⟨by kernel_rfl, by intro w; go_simp⟩) ?_
              simp only [List.getElem_toArray, List.getElem_cons_succ, List.getElem_cons_zero, Act.put, List.setIfInBounds_toArray, List.set_cons_zero, List.set_cons_succ]
              refine wpAny_take (i := 32) (v := Value.bool false) rfl (by kernel_rfl) (by kernel_rfl) (by kernel_rfl) (fun _ _ _ h => h) (Or.inl ⟨by kernel_rfl, by intro w; go_simp⟩) ?_
              simp only [List.getElem_toArray, List.getElem_cons_succ, List.getElem_cons_zero, Act.put, List.setIfInBounds_toArray, List.set_cons_zero, List.set_cons_succ]
              refine wpAny_done (by kernel_rfl) ?_ _
              go_wp2_with fail
              go_meet
              exact ⟨rfl, HI.out⟩
            refine AllReady.cons (i := 29) rfl (fun K hK => ?_) ?_
            · simp only [List.getElem_toArray, List.getElem_cons_succ, List.getElem_cons_zero]
              go_simp
              refine hK _ _ ?_
              clear hK K
              refine wpAny_ready (rs := [28]) (by kernel_rfl) (by simp) (AllReady.cons rfl (fun K hK => ?_) AllReady.nil)
              simp only [List.getElem_toArray, List.getElem_cons_succ, List.getElem_cons_zero]
              go_simp
              go_at_call 22
              refine (HCRM.out _ ?hW).mono ?_
              (case hW => repeat (first | exact HI.out | refine Below.drew ?_))
              rintro e W ⟨rfl, HI⟩
              obtain ⟨d13, d14⟩ := HD.out _ HI.out
              try go_simp
              refine hK _ _ ?_
              clear hK K
              refine wpAny_ready (rs := [30]) (by kernel_rfl) (by simp) (AllReady.cons rfl (fun K hK => ?_) AllReady.nil)
              simp only [List.getElem_toArray, List.getElem_cons_succ, List.getElem_cons_zero]
              go_simp
              go_at_call 22
              refine (HCRN.out _ ?hW).mono ?_
              (case hW => repeat (first | exact HI.out | refine Below.drew ?_))
              rintro e W ⟨rfl, HI⟩
              obtain ⟨d13, d14⟩ := HD.out _ HI.out
              try go_simp
              refine hK _ _ ?_
              clear hK K
              refine wpAny_take (i := 31) (v := Value.bool false) rfl (by kernel_rfl) (by kernel_rfl) (by kernel_rfl) (fun _ _ _ h => h) (Or.inl ⟨by kernel_rfl, by intro w; go_simp⟩) ?_
              simp only [List.getElem_toArray, List.getElem_cons_succ, List.getElem_cons_zero, Act.put, List.setIfInBounds_toArray, List.set_cons_zero, List.set_cons_succ]
              refine wpAny_take (i := 32) (v := Value.bool false) rfl (by kernel_rfl) (by kernel_rfl) (by kernel_rfl) (fun _ _ _ h => h) (Or.inl ⟨by kernel_rfl, by intro w; go_simp⟩) ?_
              simp only [List.getElem_toArray, List.getElem_cons_succ, List.getElem_cons_zero, Act.put, List.setIfInBounds_toArray, List.set_cons_zero, List.set_cons_succ]
              refine wpAny_done (by kernel_rfl) ?_ _
              go_wp2_with fail
              go_meet
              exact ⟨rfl, HI.out⟩
            exact AllReady.nil
          refine AllReady.cons (i := 29) rfl (fun K hK => ?_) ?_
          · simp only [List.getElem_toArray, List.getElem_cons_succ, List.getElem_cons_zero]
            go_simp
            refine hK _ _ ?_
            clear hK K
            refine wpAny_ready (rs := [27]) (by kernel_rfl) (by simp) (AllReady.cons rfl (fun K hK => ?_) AllReady.nil)
            simp only [List.getElem_toArray, List.getElem_cons_succ, List.getElem_cons_zero]
            go_simp
            refine hK _ _ ?_
            clear hK K
            refine wpAny_ready (rs := [28]) (by kernel_rfl) (by simp) (AllReady.cons rfl (fun K hK => ?_) AllReady.nil)
            simp only [List.getElem_toArray, List.getElem_cons_succ, List.getElem_cons_zero]
            go_simp
            go_at_call 22
            refine (HCRM.out _ ?hW).mono ?_
            (case hW => repeat (first | exact HI.out | refine Below.drew ?_))
            rintro e W ⟨rfl, HI⟩
            obtain ⟨d13, d14⟩ := HD.out _ HI.out
            try go_simp
            refine hK _ _ ?_
            clear hK K
            refine wpAny_ready (rs := [30]) (by kernel_rfl) (by simp) (AllReady.cons rfl (fun K hK => ?_) AllReady.nil)
            simp only [List.getElem_toArray, List.getElem_cons_succ, List.getElem_cons_zero]
            go_simp
            go_at_call 22
            refine (HCRN.out _ ?hW).mono ?_
            (case hW => repeat (first | exact HI.out | refine Below.drew ?_))
            rintro e W ⟨rfl, HI⟩
            obtain ⟨d13, d14⟩ := HD.out _ HI.out
            try go_simp
            refine hK _ _ ?_
            clear hK K
            refine wpAny_take (i := 31) (v := Value.bool false) rfl (by kernel_rfl) (by kernel_rfl) (by kernel_rfl) (fun _ _ _ h => h) (Or.inl ⟨by kernel_rfl, by intro w; go_simp⟩) ?_
            simp only [List.getElem_toArray, List.getElem_cons_succ, List.getElem_cons_zero, Act.put, List.setIfInBounds_toArray, List.set_cons_zero, List.set_cons_succ]
            refine wpAny_take (i := 32) (v := Value.bool false) rfl (by kernel_rfl) (by kernel_rfl) (by kernel_rfl) (fun _ _ _ h => h) (Or.inl ⟨by kernel_rfl, by intro w; go_simp⟩) ?_
            simp only [List.getElem_toArray, List.getElem_cons_succ, List.getElem_cons_zero, Act.put, List.setIfInBounds_toArray, List.set_cons_zero, List.set_cons_succ]
            refine wpAny_done (by kernel_rfl) ?_ _
            go_wp2_with fail
            go_meet
            exact ⟨rfl, HI.out⟩
          exact AllReady.nil
      | true =>
        cases y with
        | false =>
          replace HCEM : Hid (∀ W, Below w8.heap.size w8 W → Calls Try.prog 18 #[.agg #[.slice A7 M.length c7], .slice A4 l4.length c4] W fun e w' => e = .returned (.bool false) ∧ Hid (Below w8.heap.size w8 w')) := Lib.hid HCEM.out
          replace HCEN : Hid (∀ W, Below w8.heap.size w8 W → Calls Try.prog 18 #[.agg #[.slice A8 N.length c8], .slice A4 l4.length c4] W fun e w' => e = .returned (.bool true) ∧ Hid (Below w8.heap.size w8 w')) := Lib.hid HCEN.out
          refine wp_region_any (by kernel_rfl) ?_
          change wpAny _ _ _ _ _ _ _ (World.drew _)
          refine wpAny_ready (rs := [0]) (by kernel_rfl) (by simp) (AllReady.cons rfl (fun K hK => ?_) AllReady.nil)
          simp only [List.getElem_toArray, List.getElem_cons_succ, List.getElem_cons_zero]
          go_simp
          refine hK _ _ ?_
          clear hK K
          refine wpAny_ready (rs := [1]) (by kernel_rfl) (by simp) (AllReady.cons rfl (fun K hK => ?_) AllReady.nil)
          simp only [List.getElem_toArray, List.getElem_cons_succ, List.getElem_cons_zero]
          go_simp
          go_at_call 22
          refine (HCRM.out _ ?hW).mono ?_
          (case hW => repeat (first | exact HI.out | refine Below.drew ?_))
          rintro e W ⟨rfl, HI⟩
          obtain ⟨d13, d14⟩ := HD.out _ HI.out
          try go_simp
          refine hK _ _ ?_
          clear hK K
          refine wpAny_take (i := 2) (v := Value.bool true) rfl (by kernel_rfl) (by kernel_rfl) (by kernel_rfl) (fun _ _ _ h => h) (Or.inl ⟨by kernel_rfl, by intro w; go_simp⟩) ?_
          simp only [List.getElem_toArray, List.getElem_cons_succ, List.getElem_cons_zero, Act.put, List.setIfInBounds_toArray, List.set_cons_zero, List.set_cons_succ]
          refine wpAny_take (i := 4) (v := Value.slice A4 l4.length c4) rfl (by kernel_rfl) (by kernel_rfl) (by kernel_rfl) (fun _ _ _ h => h) (Or.inl ⟨by kernel_rfl, by intro w; go_simp⟩) ?_
          simp only [List.getElem_toArray, List.getElem_cons_succ, List.getElem_cons_zero, Act.put, List.setIfInBounds_toArray, List.set_cons_zero, List.set_cons_succ]
          refine wpAny_take (i := 6) (v := Value.bool true) rfl (by kernel_rfl) (by kernel_rfl) (by kernel_rfl) (fun _ _ _ h => h) (Or.inl ⟨by kernel_rfl, by intro w; go_simp⟩) ?_
          simp only [List.getElem_toArray, List.getElem_cons_succ, List.getElem_cons_zero, Act.put, List.setIfInBounds_toArray, List.set_cons_zero, List.set_cons_succ]
          refine wpAny_ready (rs := [3]) (by kernel_rfl) (by simp) (AllReady.cons rfl (fun K hK => ?_) AllReady.nil)
          simp only [List.getElem_toArray, List.getElem_cons_succ, List.getElem_cons_zero]
          go_simp
          refine hK _ _ ?_
          clear hK K
          refine wpAny_ready (rs := [5]) (by kernel_rfl) (by simp) (AllReady.cons rfl (fun K hK => ?_) AllReady.nil)
          simp only [List.getElem_toArray, List.getElem_cons_succ, List.getElem_cons_zero]
          go_simp
          go_at_call 18
          refine (HCEM.out _ ?hW).mono ?_
          (case hW => repeat (first | exact HI.out | refine Below.drew ?_))
          rintro e W ⟨rfl, HI⟩
          obtain ⟨d13, d14⟩ := HD.out _ HI.out
          try go_simp
          refine hK _ _ ?_
          clear hK K
          refine wpAny_take (i := 7) (v := Value.bool true) rfl (by kernel_rfl) (by kernel_rfl) (by kernel_rfl) (fun _ _ _ h => h) (Or.inl ⟨by kernel_rfl, by intro w; go_simp⟩) ?_
          simp only [List.getElem_toArray, List.getElem_cons_succ, List.getElem_cons_zero, Act.put, List.setIfInBounds_toArray, List.set_cons_zero, List.set_cons_succ]
          refine wpAny_take (i := 8) (v := Value.bool false) rfl (by kernel_rfl) (by kernel_rfl) (by kernel_rfl) (fun _ _ _ h => h) (Or.inl ⟨by kernel_rfl, by intro w; go_simp⟩) ?_
          simp only [List.getElem_toArray, List.getElem_cons_succ, List.getElem_cons_zero, Act.put, List.setIfInBounds_toArray, List.set_cons_zero, List.set_cons_succ]
          refine wpAny_take (i := 9) (v := Value.bool false) rfl (by kernel_rfl) (by kernel_rfl) (by kernel_rfl) (fun _ _ _ h => h) (Or.inl ⟨by kernel_rfl, by intro w; go_simp⟩) ?_
          simp only [List.getElem_toArray, List.getElem_cons_succ, List.getElem_cons_zero, Act.put, List.setIfInBounds_toArray, List.set_cons_zero, List.set_cons_succ]
          refine wpAny_take (i := 10) (v := Value.bool false) rfl (by kernel_rfl) (by kernel_rfl) (by kernel_rfl) (fun _ _ _ h => h) (Or.inl ⟨by kernel_rfl, by intro w; go_simp⟩) ?_
          simp only [List.getElem_toArray, List.getElem_cons_succ, List.getElem_cons_zero, Act.put, List.setIfInBounds_toArray, List.set_cons_zero, List.set_cons_succ]
          refine wpAny_take (i := 11) (v := Value.bool false) rfl (by kernel_rfl) (by kernel_rfl) (by kernel_rfl) (fun _ _ _ h => h) (Or.inl ⟨by kernel_rfl, by intro w; go_simp⟩) ?_
          simp only [List.getElem_toArray, List.getElem_cons_succ, List.getElem_cons_zero, Act.put, List.setIfInBounds_toArray, List.set_cons_zero, List.set_cons_succ]
          refine wpAny_take (i := 12) (v := Value.bool false) rfl (by kernel_rfl) (by kernel_rfl) (by kernel_rfl) (fun _ _ _ h => h) (Or.inl ⟨by kernel_rfl, by intro w; go_simp⟩) ?_
          simp only [List.getElem_toArray, List.getElem_cons_succ, List.getElem_cons_zero, Act.put, List.setIfInBounds_toArray, List.set_cons_zero, List.set_cons_succ]
          refine wpAny_ready (rs := [13]) (by kernel_rfl) (by simp) (AllReady.cons rfl (fun K hK => ?_) AllReady.nil)
          simp only [List.getElem_toArray, List.getElem_cons_succ, List.getElem_cons_zero]
          go_simp
          refine hK _ _ ?_
          clear hK K
          refine wpAny_ready (rs := [14]) (by kernel_rfl) (by simp) (AllReady.cons rfl (fun K hK => ?_) AllReady.nil)
          simp only [List.getElem_toArray, List.getElem_cons_succ, List.getElem_cons_zero]
          go_simp
          go_at_call 22
          refine (HCRN.out _ ?hW).mono ?_
          (case hW => repeat (first | exact HI.out | refine Below.drew ?_))
          rintro e W ⟨rfl, HI⟩
          obtain ⟨d13, d14⟩ := HD.out _ HI.out
          try go_simp
          refine hK _ _ ?_
          clear hK K
          refine wpAny_take (i := 15) (v := Value.bool true) rfl (by kernel_rfl) (by kernel_rfl) (by kernel_rfl) (fun _ _ _ h => h) (Or.inl ⟨by kernel_rfl, by intro w; go_simp⟩) ?_
          simp only [List.getElem_toArray, List.getElem_cons_succ, List.getElem_cons_zero, Act.put, List.setIfInBounds_toArray, List.set_cons_zero, List.set_cons_succ]
          refine wpAny_take (i := 17) (v := Value.slice A4 l4.length c4) rfl (by kernel_rfl) (by kernel_rfl) (by kernel_rfl) (fun _ _ _ h => h) (Or.inl ⟨by kernel_rfl, by intro w; go_simp⟩) ?_
          simp only [List.getElem_toArray, List.getElem_cons_succ, List.getElem_cons_zero, Act.put, List.setIfInBounds_toArray, List.set_cons_zero, List.set_cons_succ]
          refine wpAny_take (i := 19) (v := Value.bool true) rfl (by kernel_rfl) (by kernel_rfl) (by kernel_rfl) (fun _ _ _ h => h) (Or.inl ⟨by kernel_rfl, by intro w; go_simp⟩) ?_
          simp only [List.getElem_toArray, List.getElem_cons_succ, List.getElem_cons_zero, Act.put, List.setIfInBounds_toArray, List.set_cons_zero, List.set_cons_succ]
          refine wpAny_ready (rs := [16]) (by kernel_rfl) (by simp) (AllReady.cons rfl (fun K hK => ?_) AllReady.nil)
          simp only [List.getElem_toArray, List.getElem_cons_succ, List.getElem_cons_zero]
          go_simp
          refine hK _ _ ?_
          clear hK K
          refine wpAny_ready (rs := [18]) (by kernel_rfl) (by simp) (AllReady.cons rfl (fun K hK => ?_) AllReady.nil)
          simp only [List.getElem_toArray, List.getElem_cons_succ, List.getElem_cons_zero]
          go_simp
          go_at_call 18
          refine (HCEN.out _ ?hW).mono ?_
          (case hW => repeat (first | exact HI.out | refine Below.drew ?_))
          rintro e W ⟨rfl, HI⟩
          obtain ⟨d13, d14⟩ := HD.out _ HI.out
          try go_simp
          refine hK _ _ ?_
          clear hK K
          refine wpAny_take (i := 20) (v := Value.bool true) rfl (by kernel_rfl) (by kernel_rfl) (by kernel_rfl) (fun _ _ _ h => h) (Or.inl ⟨by kernel_rfl, by intro w; go_simp⟩) ?_
          simp only [List.getElem_toArray, List.getElem_cons_succ, List.getElem_cons_zero, Act.put, List.setIfInBounds_toArray, List.set_cons_zero, List.set_cons_succ]
          refine wpAny_take (i := 21) (v := undef) rfl (by kernel_rfl) (by kernel_rfl) (by kernel_rfl) (fun _ _ _ h => h) (Or.inr ⟨by kernel_rfl, rfl⟩) ?_
          simp only [List.getElem_toArray, List.getElem_cons_succ, List.getElem_cons_zero, Act.put, List.setIfInBounds_toArray, List.set_cons_zero, List.set_cons_succ]
          refine wpAny_take (i := 22) (v := Value.bool true) rfl (by kernel_rfl) (by kernel_rfl) (by kernel_rfl) (fun _ _ _ h => h) (Or.inl ⟨by kernel_rfl, by intro w; go_simp⟩) ?_
          simp only [List.getElem_toArray, List.getElem_cons_succ, List.getElem_cons_zero, Act.put, List.setIfInBounds_toArray, List.set_cons_zero, List.set_cons_succ]
          refine wpAny_take (i := 23) (v := Value.bool false) rfl (by kernel_rfl) (by kernel_rfl) (by kernel_rfl) (fun _ _ _ h => h) (Or.inl ⟨by kernel_rfl, by intro w; go_simp⟩) ?_
          simp only [List.getElem_toArray, List.getElem_cons_succ, List.getElem_cons_zero, Act.put, List.setIfInBounds_toArray, List.set_cons_zero, List.set_cons_succ]
          refine wpAny_take (i := 24) (v := Value.bool false) rfl (by kernel_rfl) (by kernel_rfl) (by kernel_rfl) (fun _ _ _ h => h) (Or.inl ⟨by kernel_rfl, by intro w; go_simp⟩) ?_
          simp only [List.getElem_toArray, List.getElem_cons_succ, List.getElem_cons_zero, Act.put, List.setIfInBounds_toArray, List.set_cons_zero, List.set_cons_succ]
          refine wpAny_take (i := 25) (v := Value.bool false) rfl (by kernel_rfl) (by kernel_rfl) (by kernel_rfl) (fun _ _ _ h => h) (Or.inl ⟨by kernel_rfl, by intro w; go_simp⟩) ?_
          simp only [List.getElem_toArray, List.getElem_cons_succ, List.getElem_cons_zero, Act.put, List.setIfInBounds_toArray, List.set_cons_zero, List.set_cons_succ]
          refine wpAny_take (i := 26) (v := Value.bool false) rfl (by kernel_rfl) (by kernel_rfl) (by kernel_rfl) (fun _ _ _ h => h) (Or.inl ⟨by kernel_rfl, by intro w; go_simp⟩) ?_
          simp only [List.getElem_toArray, List.getElem_cons_succ, List.getElem_cons_zero, Act.put, List.setIfInBounds_toArray, List.set_cons_zero, List.set_cons_succ]
          refine wpAny_ready (rs := [27, 29]) (by kernel_rfl) (by simp) ?_
          refine AllReady.cons (i := 27) rfl (fun K hK => ?_) ?_
          · simp only [List.getElem_toArray, List.getElem_cons_succ, List.getElem_cons_zero]
            go_simp
            refine hK _ _ ?_
            clear hK K
            refine wpAny_ready (rs := [28, 29]) (by kernel_rfl) (by simp) ?_
            refine AllReady.cons (i := 28) rfl (fun K hK => ?_) ?_
            · simp only [List.getElem_toArray, List.getElem_cons_succ, List.getElem_cons_zero]
              go_simp
              go_at_call 22
              refine (HCRM.out _ ?hW).mono ?_
              (case hW => repeat (first | exact HI.out | refine Below.drew ?_))
              rintro e W ⟨rfl, HI⟩
              obtain ⟨d13, d14⟩ := HD.out _ HI.out
              try go_simp
              refine hK _ _ ?_
              clear hK K
              refine wpAny_ready (rs := [29]) (by kernel_rfl) (by simp) (AllReady.cons rfl (fun K hK => ?_) AllReady.nil)
              simp only [List.getElem_toArray, List.getElem_cons_succ, List.getElem_cons_zero]
              go_simp
              refine hK _ _ ?_
              clear hK K
              refine wpAny_ready (rs := [30]) (by kernel_rfl) (by simp) (AllReady.cons rfl (fun K hK => ?_) AllReady.nil)
              simp only [List.getElem_toArray, List.getElem_cons_succ, List.getElem_cons_zero]
              go_simp
              go_at_call 22
              refine (HCRN.out _ ?hW).mono ?_
              (case hW => repeat (first | exact HI.out | refine Below.drew ?_))
              rintro e W ⟨rfl, HI⟩
              obtain ⟨d13, d14⟩ := HD.out _ HI.out
              try go_simp
              refine hK _ _ ?_
              clear hK K
              refine wpAny_take (i := 31) (v := Value.bool false) rfl (by kernel_rfl) (by kernel_rfl) (by kernel_rfl) (fun _ _ _ h => h) (Or.inl ⟨by kernel_rfl, by intro w; go_simp⟩) ?_
              simp only [List.getElem_toArray, List.getElem_cons_succ, List.getElem_cons_zero, Act.put, List.setIfInBounds_toArray, List.set_cons_zero, List.set_cons_succ]
              refine wpAny_take (i := 32) (v := Value.bool false) rfl (by kernel_rfl) (by kernel_rfl) (by kernel_rfl) (fun _ _ _ h => h) (Or.inl ⟨by kernel_rfl, by intro w; go_simp⟩) ?_
              simp only [List.getElem_toArray, List.getElem_cons_succ, List.getElem_cons_zero, Act.put, List.setIfInBounds_toArray, List.set_cons_zero, List.set_cons_succ]
              refine wpAny_done (by kernel_rfl) ?_ _
              go_wp2_with fail
              go_meet
              exact ⟨rfl, HI.out⟩
            refine AllReady.cons (i := 29) rfl (fun K hK => ?_) ?_
            · simp only [List.getElem_toArray, List.getElem_cons_succ, List.getElem_cons_zero]
              go_simp
              refine hK _ _ ?_
              clear hK K
              refine wpAny_ready (rs := [28]) (by kernel_rfl) (by simp) (AllReady.cons rfl (fun K hK => ?_) AllReady.nil)
              simp only [List.getElem_toArray, List.getElem_cons_succ, List.getElem_cons_zero]
              go_simp
              go_at_call 22
              refine (HCRM.out _ ?hW).mono ?_
              (case hW => repeat (first | exact HI.out | refine Below.drew ?_))
              rintro e W ⟨rfl, HI⟩
              obtain ⟨d13, d14⟩ := HD.out _ HI.out
              try go_simp
              refine hK _ _ ?_
              clear hK K
              refine wpAny_ready (rs := [30]) (by kernel_rfl) (by simp) (AllReady.cons rfl (fun K hK => ?_) AllReady.nil)
              simp only [List.getElem_toArray, List.getElem_cons_succ, List.getElem_cons_zero]
              go_simp
              go_at_call 22
              refine (HCRN.out _ ?hW).mono ?_
              (case hW => repeat (first | exact HI.out | refine Below.drew ?_))
              rintro e W ⟨rfl, HI⟩
              obtain ⟨d13, d14⟩ := HD.out _ HI.out
              try go_simp
              refine hK _ _ ?_
              clear hK K
              refine wpAny_take (i := 31) (v := Value.bool false) rfl (by kernel_rfl) (by kernel_rfl) (by kernel_rfl) (fun _ _ _ h => h) (Or.inl ⟨by kernel_rfl, by intro w; go_simp⟩) ?_
              simp only [List.getElem_toArray, List.getElem_cons_succ, List.getElem_cons_zero, Act.put, List.setIfInBounds_toArray, List.set_cons_zero, List.set_cons_succ]
              refine wpAny_take (i := 32) (v := Value.bool false) rfl (by kernel_rfl) (by kernel_rfl) (by kernel_rfl) (fun _ _ _ h => h) (Or.inl ⟨by kernel_rfl, by intro w; go_simp⟩) ?_
              simp only [List.getElem_toArray, List.getElem_cons_succ, List.getElem_cons_zero, Act.put, List.setIfInBounds_toArray, List.set_cons_zero, List.set_cons_succ]
              refine wpAny_done (by kernel_rfl) ?_ _
              go_wp2_with fail
              go_meet
              exact ⟨rfl, HI.out⟩
            exact AllReady.nil
          refine AllReady.cons (i := 29) rfl (fun K hK => ?_) ?_
          · simp only [List.getElem_toArray, List.getElem_cons_succ, List.getElem_cons_zero]
            go_simp
            refine hK _ _ ?_
            clear hK K
            refine wpAny_ready (rs := [27]) (by kernel_rfl) (by simp) (AllReady.cons rfl (fun K hK => ?_) AllReady.nil)
            simp only [List.getElem_toArray, List.getElem_cons_succ, List.getElem_cons_zero]
            go_simp
            refine hK _ _ ?_
            clear hK K
            refine wpAny_ready (rs := [28]) (by kernel_rfl) (by simp) (AllReady.cons rfl (fun K hK => ?_) AllReady.nil)
            simp only [List.getElem_toArray, List.getElem_cons_succ, List.getElem_cons_zero]
            go_simp
            go_at_call 22
            refine (HCRM.out _ ?hW).mono ?_
            (case hW => repeat (first | exact HI.out | refine Below.drew ?_))
            rintro e W ⟨rfl, HI⟩
            obtain ⟨d13, d14⟩ := HD.out _ HI.out
            try go_simp
            refine hK _ _ ?_
            clear hK K
            refine wpAny_ready (rs := [30]) (by kernel_rfl) (by simp) (AllReady.cons rfl (fun K hK => ?_) AllReady.nil)
            simp only [List.getElem_toArray, List.getElem_cons_succ, List.getElem_cons_zero]
            go_simp
            go_at_call 22
            refine (HCRN.out _ ?hW).mono ?_
            (case hW => repeat (first | exact HI.out | refine Below.drew ?_))
            rintro e W ⟨rfl, HI⟩
            obtain ⟨d13, d14⟩ := HD.out _ HI.out
            try go_simp
            refine hK _ _ ?_
            clear hK K
            refine wpAny_take (i := 31) (v := Value.bool false) rfl (by kernel_rfl) (by kernel_rfl) (by kernel_rfl) (fun _ _ _ h => h) (Or.inl ⟨by kernel_rfl, by intro w; go_simp⟩) ?_
            simp only [List.getElem_toArray, List.getElem_cons_succ, List.getElem_cons_zero, Act.put, List.setIfInBounds_toArray, List.set_cons_zero, List.set_cons_succ]
            refine wpAny_take (i := 32) (v := Value.bool false) rfl (by kernel_rfl) (by kernel_rfl) (by kernel_rfl) (fun _ _ _ h => h) (Or.inl ⟨by kernel_rfl, by intro w; go_simp⟩) ?_
            simp only [List.getElem_toArray, List.getElem_cons_succ, List.getElem_cons_zero, Act.put, List.setIfInBounds_toArray, List.set_cons_zero, List.set_cons_succ]
            refine wpAny_done (by kernel_rfl) ?_ _
            go_wp2_with fail
            go_meet
            exact ⟨rfl, HI.out⟩
          exact AllReady.nil
        | true =>
          replace HCEM : Hid (∀ W, Below w8.heap.size w8 W → Calls Try.prog 18 #[.agg #[.slice A7 M.length c7], .slice A4 l4.length c4] W fun e w' => e = .returned (.bool true) ∧ Hid (Below w8.heap.size w8 w')) := Lib.hid HCEM.out
          replace HCEN : Hid (∀ W, Below w8.heap.size w8 W → Calls Try.prog 18 #[.agg #[.slice A8 N.length c8], .slice A4 l4.length c4] W fun e w' => e = .returned (.bool true) ∧ Hid (Below w8.heap.size w8 w')) := Lib.hid HCEN.out
          refine wp_region_any (by kernel_rfl) ?_
          change wpAny _ _ _ _ _ _ _ (World.drew _)
          refine wpAny_ready (rs := [0]) (by kernel_rfl) (by simp) (AllReady.cons rfl (fun K hK => ?_) AllReady.nil)
          simp only [List.getElem_toArray, List.getElem_cons_succ, List.getElem_cons_zero]
          go_simp
          refine hK _ _ ?_
          clear hK K
          refine wpAny_ready (rs := [1]) (by kernel_rfl) (by simp) (AllReady.cons rfl (fun K hK => ?_) AllReady.nil)
          simp only [List.getElem_toArray, List.getElem_cons_succ, List.getElem_cons_zero]
          go_simp
          go_at_call 22
          refine (HCRM.out _ ?hW).mono ?_
          (case hW => repeat (first | exact HI.out | refine Below.drew ?_))
          rintro e W ⟨rfl, HI⟩
          obtain ⟨d13, d14⟩ := HD.out _ HI.out
          try go_simp
          refine hK _ _ ?_
          clear hK K
          refine wpAny_take (i := 2) (v := Value.bool true) rfl (by kernel_rfl) (by kernel_rfl) (by kernel_rfl) (fun _ _ _ h => h) (Or.inl ⟨by kernel_rfl, by intro w; go_simp⟩) ?_
          simp only [List.getElem_toArray, List.getElem_cons_succ, List.getElem_cons_zero, Act.put, List.setIfInBounds_toArray, List.set_cons_zero, List.set_cons_succ]
          refine wpAny_take (i := 4) (v := Value.slice A4 l4.length c4) rfl (by kernel_rfl) (by kernel_rfl) (by kernel_rfl) (fun _ _ _ h => h) (Or.inl ⟨by kernel_rfl, by intro w; go_simp⟩) ?_
          simp only [List.getElem_toArray, List.getElem_cons_succ, List.getElem_cons_zero, Act.put, List.setIfInBounds_toArray, List.set_cons_zero, List.set_cons_succ]
          refine wpAny_take (i := 6) (v := Value.bool true) rfl (by kernel_rfl) (by kernel_rfl) (by kernel_rfl) (fun _ _ _ h => h) (Or.inl ⟨by kernel_rfl, by intro w; go_simp⟩) ?_
          simp only [List.getElem_toArray, List.getElem_cons_succ, List.getElem_cons_zero, Act.put, List.setIfInBounds_toArray, List.set_cons_zero, List.set_cons_succ]
          refine wpAny_ready (rs := [3]) (by kernel_rfl) (by simp) (AllReady.cons rfl (fun K hK => ?_) AllReady.nil)
          simp only [List.getElem_toArray, List.getElem_cons_succ, List.getElem_cons_zero]
          go_simp
          refine hK _ _ ?_
          clear hK K
          refine wpAny_ready (rs := [5]) (by kernel_rfl) (by simp) (AllReady.cons rfl (fun K hK => ?_) AllReady.nil)
          simp only [List.getElem_toArray, List.getElem_cons_succ, List.getElem_cons_zero]
          go_simp
          go_at_call 18
          refine (HCEM.out _ ?hW).mono ?_
          (case hW => repeat (first | exact HI.out | refine Below.drew ?_))
          rintro e W ⟨rfl, HI⟩
          obtain ⟨d13, d14⟩ := HD.out _ HI.out
          try go_simp
          refine hK _ _ ?_
          clear hK K
          refine wpAny_take (i := 7) (v := Value.bool true) rfl (by kernel_rfl) (by kernel_rfl) (by kernel_rfl) (fun _ _ _ h => h) (Or.inl ⟨by kernel_rfl, by intro w; go_simp⟩) ?_
          simp only [List.getElem_toArray, List.getElem_cons_succ, List.getElem_cons_zero, Act.put, List.setIfInBounds_toArray, List.set_cons_zero, List.set_cons_succ]
          refine wpAny_take (i := 8) (v := Value.bool true) rfl (by kernel_rfl) (by kernel_rfl) (by kernel_rfl) (fun _ _ _ h => h) (Or.inl ⟨by kernel_rfl, by intro w; go_simp⟩) ?_
          simp only [List.getElem_toArray, List.getElem_cons_succ, List.getElem_cons_zero, Act.put, List.setIfInBounds_toArray, List.set_cons_zero, List.set_cons_succ]
          refine wpAny_take (i := 9) (v := Value.bool true) rfl (by kernel_rfl) (by kernel_rfl) (by kernel_rfl) (fun _ _ _ h => h) (Or.inl ⟨by kernel_rfl, by intro w; go_simp⟩) ?_
          simp only [List.getElem_toArray, List.getElem_cons_succ, List.getElem_cons_zero, Act.put, List.setIfInBounds_toArray, List.set_cons_zero, List.set_cons_succ]
          refine wpAny_take (i := 10) (v := Value.bool false) rfl (by kernel_rfl) (by kernel_rfl) (by kernel_rfl) (fun _ _ _ h => h) (Or.inl ⟨by kernel_rfl, by intro w; go_simp⟩) ?_
          simp only [List.getElem_toArray, List.getElem_cons_succ, List.getElem_cons_zero, Act.put, List.setIfInBounds_toArray, List.set_cons_zero, List.set_cons_succ]
          refine wpAny_take (i := 11) (v := Value.bool false) rfl (by kernel_rfl) (by kernel_rfl) (by kernel_rfl) (fun _ _ _ h => h) (Or.inl ⟨by kernel_rfl, by intro w; go_simp⟩) ?_
          simp only [List.getElem_toArray, List.getElem_cons_succ, List.getElem_cons_zero, Act.put, List.setIfInBounds_toArray, List.set_cons_zero, List.set_cons_succ]
          refine wpAny_take (i := 12) (v := Value.bool false) rfl (by kernel_rfl) (by kernel_rfl) (by kernel_rfl) (fun _ _ _ h => h) (Or.inl ⟨by kernel_rfl, by intro w; go_simp⟩) ?_
          simp only [List.getElem_toArray, List.getElem_cons_succ, List.getElem_cons_zero, Act.put, List.setIfInBounds_toArray, List.set_cons_zero, List.set_cons_succ]
          refine wpAny_ready (rs := [13]) (by kernel_rfl) (by simp) (AllReady.cons rfl (fun K hK => ?_) AllReady.nil)
          simp only [List.getElem_toArray, List.getElem_cons_succ, List.getElem_cons_zero]
          go_simp
          refine hK _ _ ?_
          clear hK K
          refine wpAny_ready (rs := [14]) (by kernel_rfl) (by simp) (AllReady.cons rfl (fun K hK => ?_) AllReady.nil)
          simp only [List.getElem_toArray, List.getElem_cons_succ, List.getElem_cons_zero]
          go_simp
          go_at_call 22
          refine (HCRN.out _ ?hW).mono ?_
          (case hW => repeat (first | exact HI.out | refine Below.drew ?_))
          rintro e W ⟨rfl, HI⟩
          obtain ⟨d13, d14⟩ := HD.out _ HI.out
          try go_simp
          refine hK _ _ ?_
          clear hK K
          refine wpAny_take (i := 15) (v := Value.bool true) rfl (by kernel_rfl) (by kernel_rfl) (by kernel_rfl) (fun _ _ _ h => h) (Or.inl ⟨by kernel_rfl, by intro w; go_simp⟩) ?_
          simp only [List.getElem_toArray, List.getElem_cons_succ, List.getElem_cons_zero, Act.put, List.setIfInBounds_toArray, List.set_cons_zero, List.set_cons_succ]
          refine wpAny_take (i := 17) (v := Value.slice A4 l4.length c4) rfl (by kernel_rfl) (by kernel_rfl) (by kernel_rfl) (fun _ _ _ h => h) (Or.inl ⟨by kernel_rfl, by intro w; go_simp⟩) ?_
          simp only [List.getElem_toArray, List.getElem_cons_succ, List.getElem_cons_zero, Act.put, List.setIfInBounds_toArray, List.set_cons_zero, List.set_cons_succ]
          refine wpAny_take (i := 19) (v := Value.bool true) rfl (by kernel_rfl) (by kernel_rfl) (by kernel_rfl) (fun _ _ _ h => h) (Or.inl ⟨by kernel_rfl, by intro w; go_simp⟩) ?_
          simp only [List.getElem_toArray, List.getElem_cons_succ, List.getElem_cons_zero, Act.put, List.setIfInBounds_toArray, List.set_cons_zero, List.set_cons_succ]
          refine wpAny_ready (rs := [16]) (by kernel_rfl) (by simp) (AllReady.cons rfl (fun K hK => ?_) AllReady.nil)
          simp only [List.getElem_toArray, List.getElem_cons_succ, List.getElem_cons_zero]
          go_simp
          refine hK _ _ ?_
          clear hK K
          refine wpAny_ready (rs := [18]) (by kernel_rfl) (by simp) (AllReady.cons rfl (fun K hK => ?_) AllReady.nil)
          simp only [List.getElem_toArray, List.getElem_cons_succ, List.getElem_cons_zero]
          go_simp
          go_at_call 18
          refine (HCEN.out _ ?hW).mono ?_
          (case hW => repeat (first | exact HI.out | refine Below.drew ?_))
          rintro e W ⟨rfl, HI⟩
          obtain ⟨d13, d14⟩ := HD.out _ HI.out
          try go_simp
          refine hK _ _ ?_
          clear hK K
          refine wpAny_take (i := 20) (v := Value.bool true) rfl (by kernel_rfl) (by kernel_rfl) (by kernel_rfl) (fun _ _ _ h => h) (Or.inl ⟨by kernel_rfl, by intro w; go_simp⟩) ?_
          simp only [List.getElem_toArray, List.getElem_cons_succ, List.getElem_cons_zero, Act.put, List.setIfInBounds_toArray, List.set_cons_zero, List.set_cons_succ]
          refine wpAny_take (i := 21) (v := undef) rfl (by kernel_rfl) (by kernel_rfl) (by kernel_rfl) (fun _ _ _ h => h) (Or.inr ⟨by kernel_rfl, rfl⟩) ?_
          simp only [List.getElem_toArray, List.getElem_cons_succ, List.getElem_cons_zero, Act.put, List.setIfInBounds_toArray, List.set_cons_zero, List.set_cons_succ]
          refine wpAny_take (i := 22) (v := Value.bool true) rfl (by kernel_rfl) (by kernel_rfl) (by kernel_rfl) (fun _ _ _ h => h) (Or.inl ⟨by kernel_rfl, by intro w; go_simp⟩) ?_
          simp only [List.getElem_toArray, List.getElem_cons_succ, List.getElem_cons_zero, Act.put, List.setIfInBounds_toArray, List.set_cons_zero, List.set_cons_succ]
          refine wpAny_take (i := 23) (v := Value.bool false) rfl (by kernel_rfl) (by kernel_rfl) (by kernel_rfl) (fun _ _ _ h => h) (Or.inl ⟨by kernel_rfl, by intro w; go_simp⟩) ?_
          simp only [List.getElem_toArray, List.getElem_cons_succ, List.getElem_cons_zero, Act.put, List.setIfInBounds_toArray, List.set_cons_zero, List.set_cons_succ]
          refine wpAny_take (i := 24) (v := Value.bool false) rfl (by kernel_rfl) (by kernel_rfl) (by kernel_rfl) (fun _ _ _ h => h) (Or.inl ⟨by kernel_rfl, by intro w; go_simp⟩) ?_
          simp only [List.getElem_toArray, List.getElem_cons_succ, List.getElem_cons_zero, Act.put, List.setIfInBounds_toArray, List.set_cons_zero, List.set_cons_succ]
          refine wpAny_take (i := 25) (v := Value.bool false) rfl (by kernel_rfl) (by kernel_rfl) (by kernel_rfl) (fun _ _ _ h => h) (Or.inl ⟨by kernel_rfl, by intro w; go_simp⟩) ?_
          simp only [List.getElem_toArray, List.getElem_cons_succ, List.getElem_cons_zero, Act.put, List.setIfInBounds_toArray, List.set_cons_zero, List.set_cons_succ]
          refine wpAny_take (i := 26) (v := Value.bool false) rfl (by kernel_rfl) (by kernel_rfl) (by kernel_rfl) (fun _ _ _ h => h) (Or.inl ⟨by kernel_rfl, by intro w; go_simp⟩) ?_
          simp only [List.getElem_toArray, List.getElem_cons_succ, List.getElem_cons_zero, Act.put, List.setIfInBounds_toArray, List.set_cons_zero, List.set_cons_succ]
          refine wpAny_ready (rs := [27, 29]) (by kernel_rfl) (by simp) ?_
          refine AllReady.cons (i := 27) rfl (fun K hK => ?_) ?_
          · simp only [List.getElem_toArray, List.getElem_cons_succ, List.getElem_cons_zero]
            go_simp
            refine hK _ _ ?_
            clear hK K
            refine wpAny_ready (rs := [28, 29]) (by kernel_rfl) (by simp) ?_
            refine AllReady.cons (i := 28) rfl (fun K hK => ?_) ?_
            · simp only [List.getElem_toArray, List.getElem_cons_succ, List.getElem_cons_zero]
              go_simp
              go_at_call 22
              refine (HCRM.out _ ?hW).mono ?_
              (case hW => repeat (first | exact HI.out | refine Below.drew ?_))
              rintro e W ⟨rfl, HI⟩
              obtain ⟨d13, d14⟩ := HD.out _ HI.out
              try go_simp
              refine hK _ _ ?_
              clear hK K
              refine wpAny_ready (rs := [29]) (by kernel_rfl) (by simp) (AllReady.cons rfl (fun K hK => ?_) AllReady.nil)
              simp only [List.getElem_toArray, List.getElem_cons_succ, List.getElem_cons_zero]
              go_simp
              refine hK _ _ ?_
              clear hK K
              refine wpAny_ready (rs := [30]) (by kernel_rfl) (by simp) (AllReady.cons rfl (fun K hK => ?_) AllReady.nil)
              simp only [List.getElem_toArray, List.getElem_cons_succ, List.getElem_cons_zero]
              go_simp
              go_at_call 22
              refine (HCRN.out _ ?hW).mono ?_
              (case hW => repeat (first | exact HI.out | refine Below.drew ?_))
              rintro e W ⟨rfl, HI⟩
              obtain ⟨d13, d14⟩ := HD.out _ HI.out
              try go_simp
              refine hK _ _ ?_
              clear hK K
              refine wpAny_take (i := 31) (v := Value.bool false) rfl (by kernel_rfl) (by kernel_rfl) (by kernel_rfl) (fun _ _ _ h => h) (Or.inl ⟨by kernel_rfl, by intro w; go_simp⟩) ?_
              simp only [List.getElem_toArray, List.getElem_cons_succ, List.getElem_cons_zero, Act.put, List.setIfInBounds_toArray, List.set_cons_zero, List.set_cons_succ]
              refine wpAny_take (i := 32) (v := Value.bool false) rfl (by kernel_rfl) (by kernel_rfl) (by kernel_rfl) (fun _ _ _ h => h) (Or.inl ⟨by kernel_rfl, by intro w; go_simp⟩) ?_
              simp only [List.getElem_toArray, List.getElem_cons_succ, List.getElem_cons_zero, Act.put, List.setIfInBounds_toArray, List.set_cons_zero, List.set_cons_succ]
              refine wpAny_done (by kernel_rfl) ?_ _
              go_wp2_with fail
              go_meet
              exact ⟨rfl, HI.out⟩
            refine AllReady.cons (i := 29) rfl (fun K hK => ?_) ?_
            · simp only [List.getElem_toArray, List.getElem_cons_succ, List.getElem_cons_zero]
              go_simp
              refine hK _ _ ?_
              clear hK K
              refine wpAny_ready (rs := [28]) (by kernel_rfl) (by simp) (AllReady.cons rfl (fun K hK => ?_) AllReady.nil)
              simp only [List.getElem_toArray, List.getElem_cons_succ, List.getElem_cons_zero]
              go_simp
              go_at_call 22
              refine (HCRM.out _ ?hW).mono ?_
              (case hW => repeat (first | exact HI.out | refine Below.drew ?_))
              rintro e W ⟨rfl, HI⟩
              obtain ⟨d13, d14⟩ := HD.out _ HI.out
              try go_simp
              refine hK _ _ ?_
              clear hK K
              refine wpAny_ready (rs := [30]) (by kernel_rfl) (by simp) (AllReady.cons rfl (fun K hK => ?_) AllReady.nil)
              simp only [List.getElem_toArray, List.getElem_cons_succ, List.getElem_cons_zero]
              go_simp
              go_at_call 22
              refine (HCRN.out _ ?hW).mono ?_
              (case hW => repeat (first | exact HI.out | refine Below.drew ?_))
              rintro e W ⟨rfl, HI⟩
              obtain ⟨d13, d14⟩ := HD.out _ HI.out
              try go_simp
              refine hK _ _ ?_
              clear hK K
              refine wpAny_take (i := 31) (v := Value.bool false) rfl (by kernel_rfl) (by kernel_rfl) (by kernel_rfl) (fun _ _ _ h => h) (Or.inl ⟨by kernel_rfl, by intro w; go_simp⟩) ?_
              simp only [List.getElem_toArray, List.getElem_cons_succ, List.getElem_cons_zero, Act.put, List.setIfInBounds_toArray, List.set_cons_zero, List.set_cons_succ]
              refine wpAny_take (i := 32) (v := Value.bool false) rfl (by kernel_rfl) (by kernel_rfl) (by kernel_rfl) (fun _ _ _ h => h) (Or.inl ⟨by kernel_rfl, by intro w; go_simp⟩) ?_
              simp only [List.getElem_toArray, List.getElem_cons_succ, List.getElem_cons_zero, Act.put, List.setIfInBounds_toArray, List.set_cons_zero, List.set_cons_succ]
              refine wpAny_done (by kernel_rfl) ?_ _
              go_wp2_with fail
              go_meet
              exact ⟨rfl, HI.out⟩
            exact AllReady.nil
          refine AllReady.cons (i := 29) rfl (fun K hK => ?_) ?_
          · simp only [List.getElem_toArray, List.getElem_cons_succ, List.getElem_cons_zero]
            go_simp
            refine hK _ _ ?_
            clear hK K
            refine wpAny_ready (rs := [27]) (by kernel_rfl) (by simp) (AllReady.cons rfl (fun K hK => ?_) AllReady.nil)
            simp only [List.getElem_toArray, List.getElem_cons_succ, List.getElem_cons_zero]
            go_simp
            refine hK _ _ ?_
            clear hK K
            refine wpAny_ready (rs := [28]) (by kernel_rfl) (by simp) (AllReady.cons rfl (fun K hK => ?_) AllReady.nil)
            simp only [List.getElem_toArray, List.getElem_cons_succ, List.getElem_cons_zero]
            go_simp
            go_at_call 22
            refine (HCRM.out _ ?hW).mono ?_
            (case hW => repeat (first | exact HI.out | refine Below.drew ?_))
            rintro e W ⟨rfl, HI⟩
            obtain ⟨d13, d14⟩ := HD.out _ HI.out
            try go_simp
            refine hK _ _ ?_
            clear hK K
            refine wpAny_ready (rs := [30]) (by kernel_rfl) (by simp) (AllReady.cons rfl (fun K hK => ?_) AllReady.nil)
            simp only [List.getElem_toArray, List.getElem_cons_succ, List.getElem_cons_zero]
            go_simp
            go_at_call 22
            refine (HCRN.out _ ?hW).mono ?_
            (case hW => repeat (first | exact HI.out | refine Below.drew ?_))
            rintro e W ⟨rfl, HI⟩
            obtain ⟨d13, d14⟩ := HD.out _ HI.out
            try go_simp
            refine hK _ _ ?_
            clear hK K
            refine wpAny_take (i := 31) (v := Value.bool false) rfl (by kernel_rfl) (by kernel_rfl) (by kernel_rfl) (fun _ _ _ h => h) (Or.inl ⟨by kernel_rfl, by intro w; go_simp⟩) ?_
            simp only [List.getElem_toArray, List.getElem_cons_succ, List.getElem_cons_zero, Act.put, List.setIfInBounds_toArray, List.set_cons_zero, List.set_cons_succ]
            refine wpAny_take (i := 32) (v := Value.bool false) rfl (by kernel_rfl) (by kernel_rfl) (by kernel_rfl) (fun _ _ _ h => h) (Or.inl ⟨by kernel_rfl, by intro w; go_simp⟩) ?_
            simp only [List.getElem_toArray, List.getElem_cons_succ, List.getElem_cons_zero, Act.put, List.setIfInBounds_toArray, List.set_cons_zero, List.set_cons_succ]
            refine wpAny_done (by kernel_rfl) ?_ _
            go_wp2_with fail
            go_meet
            exact ⟨rfl, HI.out⟩
          exact AllReady.nil
  case rest =>
    obtain ⟨rfl, hw⟩ := hcut
    have HI := Lib.hid hw
    clear hw d13 d14 HD HCRM HCRN HCEM HCEN HEMR HENR HMR HNR HRR2 HC78 HC88 HC77 HC8 K13 K14 K137 HLE7 HLE8 HMP HNP
    have HB9 := Lib.hid (HB8.out.trans (HI.out.mono HB8.out.size))
    have K59 := Lib.hid (blk_below K58.out HI.out)
    go_upto_region 7 with fail
    go_cut [82] (fun s82 wx => s82 = .bool false ∧ Below wc.heap.size wc wx)
    case first =>
      cases hrp : rightB l0 with
      | false =>
        have HRP := Lib.hid hrp
        clear hrp
        go_wp2_with (refine wpList_load_at rfl 24 (.tmp 5) rfl ⟨g5, 0, none⟩ rfl #[.slice A0 l0.length c0] _ (Lies.of_block K59.out) Try.underlying24 rfl info24s ?_)
        go_at_call 22
        refine (right_any A0 c0 l0 HP.out wc (Kd.C_below HR.out HB9.out) HC.out).mono ?_
        rintro e wd ⟨rfl, hb⟩
        have HBD := Lib.hid hb
        rw [HRP.out]
        clear hb
        go_wp2_with fail
        go_meet
        exact ⟨rfl, HBD.out⟩
      | true =>
        have HRP := Lib.hid hrp
        have hNS := fun h => not_says (p := l0) hrp h l4
        rw [HXQ.out] at hNS
        have HNS := Lib.hid hNS
        clear hrp hNS
        by_cases h60 : l0.length < 60
        · have q0 : (l0.length : Int) < 60 := by omega
          go_wp2_with (refine wpList_load_at rfl 24 (.tmp 5) rfl ⟨g5, 0, none⟩ rfl #[.slice A0 l0.length c0] _ (Lies.of_block K59.out) Try.underlying24 rfl info24s ?_)
          go_at_call 22
          refine (right_any A0 c0 l0 HP.out wc (Kd.C_below HR.out HB9.out) HC.out).mono ?_
          rintro e wd ⟨rfl, hb⟩
          have HBD := Lib.hid hb
          have d5 : wd.cell? ⟨g5, 0, none⟩ = some (.slice A0 l0.length c0) := blk_cell (blk_below K59.out hb) 0
          rw [HRP.out]
          clear hb
          go_wp2_with fail
          go_at_call 23
          refine (not_any A0 c0 l0 HP.out wd (Kd.C_below HR.out (HB9.out.trans (HBD.out.mono HB9.out.size))) HC.out).mono ?_
          rintro e we ⟨v, rfl, hr, hb⟩
          have hNP := madeL_ok 6 (ps := [⟨l0⟩]) (fun q hq => by rw [List.mem_singleton.1 hq]; exact HP.out)
          have hNS := HNS.out h60
          obtain ⟨NL, hNL⟩ : ∃ L, madeL 6 [⟨l0⟩] = L := ⟨_, rfl⟩
          rw [hNL] at hr hNP hNS
          obtain ⟨A9, c9, ev, hle9, hC9⟩ := Kd.R_reads hr
          subst ev
          have HC9 := Lib.hid hC9
          have HBE := Lib.hid (HBD.out.trans (hb.mono HBD.out.size))
          have HNP := Lib.hid hNP
          have HNE := Lib.hid hNS
          have HLE9 := Lib.hid hle9
          clear hb hr hC9 hNL hNP hNS hle9 d5
          go_wp2_with fail
          go_at_call 18
          refine (eval_any A9 A4 c9 c4 NL l4 HNP.out HVL.out we HC9.out HLE9.out (HV.out.below (HB9.out.trans (HBE.out.mono HB9.out.size)))).mono ?_
          rintro e wf ⟨rfl, hb⟩
          have HBF := Lib.hid (HBE.out.trans (hb.mono HBE.out.size))
          rw [HNE.out]
          clear hb
          cases x
          all_goals
            go_wp2_with fail
            go_meet
            exact ⟨rfl, HBF.out⟩
        · have q0 : ¬ (l0.length : Int) < 60 := by omega
          go_wp2_with (refine wpList_load_at rfl 24 (.tmp 5) rfl ⟨g5, 0, none⟩ rfl #[.slice A0 l0.length c0] _ (Lies.of_block K59.out) Try.underlying24 rfl info24s ?_)
          go_at_call 22
          refine (right_any A0 c0 l0 HP.out wc (Kd.C_below HR.out HB9.out) HC.out).mono ?_
          rintro e wd ⟨rfl, hb⟩
          have HBD := Lib.hid hb
          have d5 : wd.cell? ⟨g5, 0, none⟩ = some (.slice A0 l0.length c0) := blk_cell (blk_below K59.out hb) 0
          rw [HRP.out]
          clear hb
          go_wp2_with fail
          go_meet
          exact ⟨rfl, HBD.out⟩
    case rest =>
      obtain ⟨rfl, hw⟩ := hcut
      rename_i wx
      have HBX := Lib.hid (HB9.out.trans (hw.mono HB9.out.size))
      clear hw
      have hms := fun h1 h2 => meet_says HO2.out HO3.out h1 h2 l4
      have hcc := fun h1 h2 => cutC_cnt HO2.out HO3.out h1 h2 l4
      have HMS := Lib.hid hms
      have HCC := Lib.hid hcc
      clear hms hcc
      go_wp2_with fail
      go_at_call 16
      refine (wholec_any A2 c2 l2 HO2.out _ (Kd.C_below HR2.out HBX.out)).mono ?_
      rintro e wy ⟨rfl, hb⟩
      have HBY := Lib.hid (HBX.out.trans (hb.mono HBX.out.size))
      clear hb
      cases hwa : wholeC l2 with
      | false =>
        go_wp2_with fail
        go_at_call 13
        refine (awake_any wy).mono ?_
        rintro e w99 ⟨rfl, hb⟩
        have HB99 := Lib.hid (HBY.out.trans (hb.mono HBY.out.size))
        clear hb
        go_wp2_with fail
        go_ret
        exact ⟨rfl, HB99.out⟩
      | true =>
        go_wp2_with fail
        go_at_call 16
        refine (wholec_any A3 c3 l3 HO3.out wy (Kd.C_below HR3.out HBY.out)).mono ?_
        rintro e wz ⟨rfl, hb⟩
        have HBZ := Lib.hid (HBY.out.trans (hb.mono HBY.out.size))
        clear hb
        cases hwb : wholeC l3 with
        | false =>
          go_wp2_with fail
          go_at_call 13
          refine (awake_any wz).mono ?_
          rintro e w99 ⟨rfl, hb⟩
          have HB99 := Lib.hid (HBZ.out.trans (hb.mono HBZ.out.size))
          clear hb
          go_wp2_with fail
          go_ret
          exact ⟨rfl, HB99.out⟩
        | true =>
          have HMS2 := Lib.hid (HMS.out hwa hwb)
          have HCC2 := Lib.hid (HCC.out hwa hwb)
          clear hwa hwb
          go_wp2_with fail
          go_at_call 24
          refine (cutl_any A2 A3 c2 c3 l2 l3 HO2.out HO3.out wz (Kd.C_below HR2.out HBZ.out) (Kd.C_below HR3.out HBZ.out)).mono ?_
          rintro e w2 ⟨v, rfl, hr, hb⟩
          have HB2 := Lib.hid (HBZ.out.trans (hb.mono HBZ.out.size))
          obtain ⟨A5, c5, ev, -, hC5⟩ := Kd.R_reads hr
          subst ev
          have HC5 := Lib.hid hC5
          have hok := fun k => cutC_ok HO2.out HO3.out k
          have hlen := cutC_len l2 l3
          obtain ⟨cl, hcl⟩ : ∃ cl, (cutC l2 l3).map cubeL = cl := ⟨_, rfl⟩
          rw [hcl] at HC5 HCC2 hok hlen ⊢
          have HSUM := HCC2
          have HOK := Lib.hid hok
          clear hr hb hC5 hcl hok HCC2
          go_wp2_with fail
          go_loopw [16, 17] (fun v7 vk wr => ∃ k : Nat, vk = .int .i64 k ∧ k ≤ cl.length ∧ v7 = .int .i64 (cntC cl l4 k : Int) ∧ Below w2.heap.size w2 wr) (fun _ vk _ => cl.length - (intOf vk).toNat)
          case atStart => exact ⟨0, rfl, by omega, rfl, Below.refl _ _⟩
          case round =>
            obtain ⟨k, rfl, hk, rfl, hw⟩ := hrel
            have HW := Lib.hid hw
            have hle := cntC_le cl l4 k
            clear hw
            by_cases hlt : k < cl.length
            · obtain ⟨ad, A6, c6, rfl, h6, -, hC6⟩ := rd33 (Kd.C_below HC5.out HW.out) hlt
              have HC6 := Lib.hid hC6
              have q1 : (k : Int) < (cl.length : Int) := by omega
              have HOKK := Lib.hid (HOK.out k)
              have HST : Hid (cntC cl l4 (k + 1) = cntC cl l4 k + (if inC (atC cl k) l4 then 1 else 0)) := Lib.hid rfl
              obtain ⟨cu, hcu⟩ : ∃ cu, atC cl k = cu := ⟨_, rfl⟩
              rw [hcu] at h6 HC6 HOKK HST
              clear hC6 hcu
              obtain ⟨y, hy⟩ : ∃ y, cntC cl l4 k = y := ⟨_, rfl⟩
              rw [hy] at HST hle ⊢
              clear hy
              go_wp2_with fail
              go_at_call 17
              refine (inc_any A6 A4 c6 c4 cu l4 HOKK.out HVL.out wr HC6.out (HV.out.below (HB2.out.trans (HW.out.mono HB2.out.size)))).mono ?_
              rintro e w7 ⟨rfl, hb⟩
              have HB7 := Lib.hid (HW.out.trans (hb.mono HW.out.size))
              clear hb h6
              cases hin : inC cu l4 with
              | true =>
                rw [hin] at HST
                have HS2 : Hid (cntC cl l4 (k + 1) = y + 1) := Lib.hid (by rw [HST.out]; rfl)
                clear hin
                go_wp2_with fail
                go_roundw
                case rel => exact ⟨k + 1, by go_num, by omega, by rw [HS2.out]; go_num, HB7.out⟩
                case measure => simp [intOf] <;> omega
              | false =>
                rw [hin] at HST
                have HS2 : Hid (cntC cl l4 (k + 1) = y) := Lib.hid (by rw [HST.out]; rfl)
                clear hin
                go_wp2_with fail
                go_roundw
                case rel => exact ⟨k + 1, by go_num, by omega, by rw [HS2.out], HB7.out⟩
                case measure => simp [intOf] <;> omega
            · obtain rfl : k = cl.length := by omega
              rw [HSUM.out]
              have HBR := Lib.hid (HB2.out.trans (HW.out.mono HB2.out.size))
              obtain ⟨ia, hia⟩ : ∃ ia, inC l2 l4 = ia := ⟨_, rfl⟩
              obtain ⟨ib, hib⟩ : ∃ ib, inC l3 l4 = ib := ⟨_, rfl⟩
              rw [hia, hib] at HMS2
              rw [hia, hib]
              obtain ⟨nn, hnn⟩ : ∃ n : Nat, (if (ia && !ib) = true then 1 else 0) = n := ⟨_, rfl⟩
              rw [hnn]
              have HNN := Lib.hid hnn
              have HIA := Lib.hid hia
              have HIB := Lib.hid hib
              have hmo := meetC_ok HO2.out HO3.out
              have HMO := Lib.hid hmo
              clear hle hia hib hmo hnn
              have HC19 := Lib.hid (meetc_any A2 A3 c2 c3 l2 l3 HO2.out HO3.out wr (Kd.C_below HR2.out HBR.out) (Kd.C_below HR3.out HBR.out))
              have HINA : Hid (∀ W, Below w.heap.size w W → Calls Try.prog 17 #[.slice A2 l2.length c2, .slice A4 l4.length c4] W fun e w' => e = .returned (.bool ia) ∧ Hid (Below w.heap.size w w')) := Lib.hid fun W hW =>
                (inc_any A2 A4 c2 c4 l2 l4 HO2.out HVL.out W (Kd.C_below HR2.out hW) (HV.out.below hW)).mono fun e w' h => ⟨by rw [h.1, HIA.out], Lib.hid (hW.trans (h.2.mono hW.size))⟩
              have HINB : Hid (∀ W, Below w.heap.size w W → Calls Try.prog 17 #[.slice A3 l3.length c3, .slice A4 l4.length c4] W fun e w' => e = .returned (.bool ib) ∧ Hid (Below w.heap.size w w')) := Lib.hid fun W hW =>
                (inc_any A3 A4 c3 c4 l3 l4 HO3.out HVL.out W (Kd.C_below HR3.out hW) (HV.out.below hW)).mono fun e w' h => ⟨by rw [h.1, HIB.out], Lib.hid (hW.trans (h.2.mono hW.size))⟩
              rcases HMS2.out with ⟨hmok, hmin⟩ | ⟨hmok, hmin⟩
              · rw [hmok] at HC19
                obtain ⟨mc, hmc⟩ : ∃ mc, meetC l2 l3 = mc := ⟨_, rfl⟩
                rw [hmc] at HC19 hmin HMO
                have HMI := Lib.hid hmin
                clear hmok hmc hmin
                go_wp2_with fail
                go_at_call 19
                refine HC19.out.mono ?_
                rintro e w3 ⟨v, rfl, hr, hb⟩
                have HB3 := Lib.hid (HBR.out.trans (hb.mono HBR.out.size))
                obtain ⟨A7, c7, ev, -, hC7⟩ := Kd.R_reads hr
                subst ev
                have HC7 := Lib.hid hC7
                clear hr hb hC7
                go_wp2_with fail
                go_at_call 17
                refine (inc_any A7 A4 c7 c4 mc l4 HMO.out HVL.out w3 HC7.out (HV.out.below HB3.out)).mono ?_
                rintro e w4 ⟨rfl, hb⟩
                have HB4 := Lib.hid (HB3.out.trans (hb.mono HB3.out.size))
                rw [HMI.out]
                clear hb
                cases ia <;> cases ib
                all_goals
                  have hnn := HNN.out
                  simp at hnn
                  subst hnn
                  go_wp2_with fail
                  go_at_call 17
                  (with_reducible refine (HINA.out _ HB4.out).mono ?_)
                  rintro e w5 ⟨rfl, HB5⟩
                  go_wp2_with fail
                  first
                    | (go_at_call 17
                       (with_reducible refine (HINB.out _ HB5.out).mono ?_)
                       rintro e w6 ⟨rfl, HB5⟩
                       go_wp2_with fail)
                    | skip
                  go_at_call 17
                  (with_reducible refine (HINA.out _ HB5.out).mono ?_)
                  rintro e w7 ⟨rfl, HB5⟩
                  go_wp2_with fail
                  first
                    | (go_at_call 17
                       (with_reducible refine (HINB.out _ HB5.out).mono ?_)
                       rintro e w8 ⟨rfl, HB5⟩
                       go_wp2_with fail)
                    | skip
                  go_at_call 13
                  refine (awake_any _).mono ?_
                  rintro e w99 ⟨rfl, hb⟩
                  have HB99 := Lib.hid (HB5.out.trans (hb.mono HB5.out.size))
                  clear hb
                  go_wp2_with fail
                  go_ret
                  exact ⟨rfl, HB99.out⟩
              · rw [hmok] at HC19
                have hmi := hmin
                clear hmok hmin
                go_wp2_with fail
                go_at_call 19
                refine HC19.out.mono ?_
                rintro e w3 ⟨v, rfl, hr, hb⟩
                have HB4 := Lib.hid (HBR.out.trans (hb.mono HBR.out.size))
                obtain ⟨A7, c7, ev⟩ := Kd.R_slice hr
                subst ev
                clear hr hb
                cases ia <;> cases ib
                case true.true => cases hmi
                all_goals
                  have hnn := HNN.out
                  simp at hnn
                  subst hnn
                  clear hmi
                  go_wp2_with fail
                  go_at_call 17
                  (with_reducible refine (HINA.out _ HB4.out).mono ?_)
                  rintro e w5 ⟨rfl, HB5⟩
                  go_wp2_with fail
                  first
                    | (go_at_call 17
                       (with_reducible refine (HINB.out _ HB5.out).mono ?_)
                       rintro e w6 ⟨rfl, HB5⟩
                       go_wp2_with fail)
                    | skip
                  go_at_call 17
                  (with_reducible refine (HINA.out _ HB5.out).mono ?_)
                  rintro e w7 ⟨rfl, HB5⟩
                  go_wp2_with fail
                  first
                    | (go_at_call 17
                       (with_reducible refine (HINB.out _ HB5.out).mono ?_)
                       rintro e w8 ⟨rfl, HB5⟩
                       go_wp2_with fail)
                    | skip
                  go_at_call 13
                  refine (awake_any _).mono ?_
                  rintro e w99 ⟨rfl, hb⟩
                  have HB99 := Lib.hid (HB5.out.trans (hb.mono HB5.out.size))
                  clear hb
                  go_wp2_with fail
                  go_ret
                  exact ⟨rfl, HB99.out⟩

/-! ### The row -/
set_option maxRecDepth 100000 in
theorem lifted (os : Os) (started : os.Started) (H : Type) (enc : TypeId × Value → H) :
    ReturnsInHanded {} Try.checked os 4 .any (Rows.predJoinsSpec.pre6 enc Try.prog Try.f4 Rows.predJoinsRow.domain false) (Rows.predJoinsSpec.post enc Try.prog Try.f4 false true false false) := by
  refine returnsInHanded_of_change_sized (C := Try.checked) own started (by kernel_rfl) Try.func4
    (ChangeSpec.witness6 (enc := enc) (C := Try.checked) false ⟨#[], #[.agg #[.slice none 0 0], .agg #[.slice none 0 0], .slice none 0 0, .slice none 0 0, .slice none 0 0], []⟩ 8 (by kernel_rfl) (by kernel_rfl) (by kernel_rfl) (by kernel_rfl)) ?_
  intro W base args ds gs before hval0 hW hcnd hsz _
  have hval : ∀ (j : Nat) t v, Try.f4.params[j]? = some t → args[j]? = some v → Value.okWide Try.prog W .any base t v := hval0
  have hW' := hW
  obtain ⟨p, q, hA0, hV, rfl, hfz, hnd⟩ := hW
  have hA : DataW.TrodAll enc Try.prog W 0 (fun _ => true) true Try.f4.params.toList args.toList ds p := hA0
  rw [Try.params4] at hA hval hsz
  obtain ⟨v0, vs0, d0, ds0, p0, q0, hargs, rfl, rfl, h0, r0⟩ := trodAll_cons hA
  obtain ⟨v1, vs1, d1, ds1, p1, q1, rfl, rfl, rfl, h1, r1⟩ := trodAll_cons r0
  obtain ⟨v2, vs2, d2, ds2, p2, q2, rfl, rfl, rfl, h2, r2⟩ := trodAll_cons r1
  obtain ⟨v3, vs3, d3, ds3, p3, q3, rfl, rfl, rfl, h3, r3⟩ := trodAll_cons r2
  obtain ⟨v4, vs4, d4, ds4, p4, q4, rfl, rfl, rfl, h4, r4⟩ := trodAll_cons r3
  obtain ⟨rfl, rfl, rfl⟩ := trodAll_nil r4
  obtain rfl : args = #[v0, v1, v2, v3, v4] := by cases args; simp_all
  obtain ⟨rfl, rfl⟩ := trodVars_none hV
  have k0 := h0
  have lt0 : ∀ x ∈ p0, x.block < W.heap.size := by obtain ⟨m, hm⟩ := k0; exact DataW.trod_lt m _ _ _ hm
  obtain ⟨A0, c0, l0, rfl, x0, y0, z0⟩ := open_pred (hval 0 24 v0 rfl rfl) h0
  have k1 := h1
  have lt1 : ∀ x ∈ p1, x.block < W.heap.size := by obtain ⟨m, hm⟩ := k1; exact DataW.trod_lt m _ _ _ hm
  obtain ⟨A1, c1, l1, rfl, x1, y1, z1⟩ := open_pred (hval 1 24 v1 rfl rfl) h1
  have k2 := h2
  have lt2 : ∀ x ∈ p2, x.block < W.heap.size := by obtain ⟨m, hm⟩ := k2; exact DataW.trod_lt m _ _ _ hm
  obtain ⟨A2, c2, l2, rfl, x2, y2, z2⟩ := open_cube (hval 2 33 v2 rfl rfl) h2
  have k3 := h3
  have lt3 : ∀ x ∈ p3, x.block < W.heap.size := by obtain ⟨m, hm⟩ := k3; exact DataW.trod_lt m _ _ _ hm
  obtain ⟨A3, c3, l3, rfl, x3, y3, z3⟩ := open_cube (hval 3 33 v3 rfl rfl) h3
  have k4 := h4
  have lt4 : ∀ x ∈ p4, x.block < W.heap.size := by obtain ⟨m, hm⟩ := k4; exact DataW.trod_lt m _ _ _ hm
  obtain ⟨A4, c4, l4, rfl, z4, y4⟩ := open_vals (hval 4 30 v4 rfl rfl) h4
  clear hA0 hval0
  refine (walk A0 c0 l0 x0 z0 A1 c1 l1 x1 z1 A2 c2 l2 x2 z2 A3 c3 l3 x3 z3 A4 c4 l4 z4 W y0 y1 y2 y3 y4).mono fun e W' ⟨he, bel⟩ => ?_
  subst he
  exact ⟨_, rfl, _, _, _, [], _, [], hW', trodAll_mk1 (shut_bool Try.underlying4 _), (trodAll_cons_mk (Below.trod laidOut (by kernel_rfl) (of_decide_eq_true (by kernel_rfl)) k0 bel lt0) (trodAll_cons_mk (Below.trod laidOut (by kernel_rfl) (of_decide_eq_true (by kernel_rfl)) k1 bel lt1) (trodAll_cons_mk (Below.trod laidOut (by kernel_rfl) (of_decide_eq_true (by kernel_rfl)) k2 bel lt2) (trodAll_cons_mk (Below.trod laidOut (by kernel_rfl) (of_decide_eq_true (by kernel_rfl)) k3 bel lt3) (trodAll_cons_mk (Below.trod laidOut (by kernel_rfl) (of_decide_eq_true (by kernel_rfl)) k4 bel lt4) trodAll_mk0))))), rfl, bel.frame _, fun h => by cases h⟩

theorem over : Rows.predJoinsRow.holds Try.pinned (OpenSpec.ofChange Rows.predJoinsSpec) :=
  OpenClaim.holds_of_wide 4 Try.f4 rfl rfl rfl rfl rfl rfl rfl ⟨rfl, rfl, rfl, rfl, rfl⟩ rfl rfl rfl rfl rfl (by kernel_rfl) Try.func4 (by kernel_rfl)
    (of_decide_eq_true (by kernel_rfl)) (by unfold Func.isWrapper; first | (rw [if_pos (by decide +kernel)]; kernel_rfl) | (rw [if_neg (by decide +kernel)]; exact ⟨rfl, rfl⟩))
    (fun os started H enc _ => lifted os started H enc)

/-- The statement. -/
theorem proved : Rows.PredJoinsSaid := over
#print axioms proved
end Go.Proofs.Ytmhjnfkhfjejeaa.predJoins
