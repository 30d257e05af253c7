/-
  Proved: droverlaw16.PredApart returns true for all predicates: of up to 14 nodes whether two are apart, or why that is not told, is what the document says. No condition.
-/
import Derived.Test.YtmhjnfkhfjejeaaZ2J5
import Derived.Test.YtmhjnfkhfjejeaaZ2P5
namespace Go.Proofs.Ytmhjnfkhfjejeaa.predApart
open Go.Proofs.Ytmhjnfkhfjejeaa Go.ChangeShapes Go.WideShapes Go.ChangeAt Go.RowKit Go.Proofs.YtmhjnfkhfjejeaaW.PrintWords Go.Proofs.YtmhjnfkhfjejeaaW.PrintLast Go.Proofs.YtmhjnfkhfjejeaaW.PrintMore
open PPredCubes
set_option linter.unusedVariables false
set_option linter.unusedSimpArgs false

theorem rdisj_v (A A2 : Option Addr) (c c2 : Nat) (ns ms : List S52) (hP : okP ns) (hP2 : okP ms) (w : World) (hr : k52.C w A ns.length ns) (hr2 : k52.C w A2 ms.length ms) (hc : ns.length ≤ c) (hc2 : ms.length ≤ c2) :
    Calls Try.prog 34 #[.agg #[.slice A ns.length c], .agg #[.slice A2 ms.length c2]] w fun e w' => e = .returned (.tuple #[.bool (apartB ns ms), .int .i64 (apartE ns ms)]) ∧ Below w.heap.size w w' :=
  (rdisj_any A A2 c c2 ns ms hP hP2 w hr hr2 hc hc2).mono fun e w' h => ⟨h.1, h.2⟩
set_option maxHeartbeats 8000000 in
set_option maxRecDepth 100000 in
theorem walk (A0 : Option Addr) (c0 : Nat) (l0 : List S52) (hc0 : l0.length ≤ c0) (hP0 : okP l0) (A1 : Option Addr) (c1 : Nat) (l1 : List S52) (hc1 : l1.length ≤ c1) (hP1 : okP l1) (w : World) (hr0 : k52.C w A0 l0.length l0) (hr1 : k52.C w A1 l1.length l1) :
    Calls Try.prog 8 #[.agg #[.slice A0 l0.length c0], .agg #[.slice A1 l1.length c1]] w fun e w' => e = .returned (.bool true) ∧ Below w.heap.size w w' := by
  have HM : Hid (l0.length ≤ 9223372036854775807) := Lib.hid hr0.2.1
  have HM1 : Hid (l1.length ≤ 9223372036854775807) := Lib.hid hr1.2.1
  have HR := Lib.hid hr0
  have HR1 := Lib.hid hr1
  have HP := Lib.hid hP0
  have HP1 := Lib.hid hP1
  have HC := Lib.hid hc0
  have HC1 := Lib.hid hc1
  clear hr0 hr1 hP0 hP1 hc0 hc1
  by_cases h30 : l0.length ≤ 14
  · by_cases h31 : l1.length ≤ 14
    · have q0 : ¬ (14 : Int) < (l0.length : Int) := by omega
      have q1 : ¬ (14 : Int) < (l1.length : Int) := by omega
      go_enter Try.func8, Try.ntmps8
      go_wp2_with (first
        | (refine wpList_box rfl 2 rfl #[.slice A0 l0.length c0] 24 ?hr ?_; (case hr => first | (go_simp; done) | (go_simp; rfl)); intro g3 w1 hg3 k3 hb3; have K3 := Lib.hid k3; have HB1 := Lib.hid hb3; clear hb3 k3)
        | (refine wpList_box rfl 3 rfl #[.slice A1 l1.length c1] 24 ?hr ?_; (case hr => first | (go_simp; done) | (go_simp; rfl)); intro g4 w2 hg4 k4 hb4; have K4 := Lib.hid k4; have K32 := Lib.hid (blk_below K3.out hb4); have HB2 := Lib.hid (HB1.out.trans (hb4.mono HB1.out.size)); have d3 : w2.cell? ⟨g3, 0, none⟩ = some (.slice A0 l0.length c0) := blk_cell K32.out 0; have d4 : w2.cell? ⟨g4, 0, none⟩ = some (.slice A1 l1.length c1) := blk_cell K4.out 0; clear hb4 k4)
        | (refine wpList_load_at rfl 24 (.tmp 2) rfl ⟨g3, 0, none⟩ rfl #[.slice A0 l0.length c0] _ (Lies.of_block K32.out) Try.underlying24 rfl info24s ?_)
        | (refine wpList_load_at rfl 24 (.tmp 3) rfl ⟨g4, 0, none⟩ rfl #[.slice A1 l1.length c1] _ (Lies.of_block K4.out) Try.underlying24 rfl info24s ?_))
      go_at_call 33
      refine (disj_v A0 A1 c0 c1 l0 l1 HP.out HP1.out w2 (Kd.C_below HR.out HB2.out) (Kd.C_below HR1.out HB2.out) HC.out HC1.out).mono ?_
      rintro e w3 ⟨rfl, hb⟩
      have K33 := Lib.hid (blk_below K32.out hb)
      have K43 := Lib.hid (blk_below K4.out hb)
      have HB3 := Lib.hid (HB2.out.trans (hb.mono HB2.out.size))
      have HQ := Lib.hid (rdisj_v A0 A1 c0 c1 l0 l1 HP.out HP1.out w3 (Kd.C_below HR.out HB3.out) (Kd.C_below HR1.out HB3.out) HC.out HC1.out)
      obtain ⟨x, hx⟩ : ∃ x, apartB l0 l1 = x := ⟨_, rfl⟩
      obtain ⟨E, hE⟩ : ∃ E, apartE l0 l1 = E := ⟨_, rfl⟩
      rw [hx, hE] at HQ ⊢
      have hxx : (x == x) = true := by simp
      have hee : (E == E) = true := by simp
      clear hb hx hE d3 d4 hg3 hg4 K3 K32 K4
      go_wp2_with (first
        | (refine wpList_load_at rfl 24 (.tmp 2) rfl ⟨g3, 0, none⟩ rfl #[.slice A0 l0.length c0] _ (Lies.of_block K33.out) Try.underlying24 rfl info24s ?_)
        | (refine wpList_load_at rfl 24 (.tmp 3) rfl ⟨g4, 0, none⟩ rfl #[.slice A1 l1.length c1] _ (Lies.of_block K43.out) Try.underlying24 rfl info24s ?_))
      go_at_call 34
      refine HQ.out.mono ?_
      rintro e w4 ⟨rfl, hb⟩
      have HB4 := Lib.hid (HB3.out.trans (hb.mono HB3.out.size))
      clear hb
      go_wp2_with fail
      go_at_call 13
      refine (awake_any w4).mono ?_
      rintro e w99 ⟨rfl, hb⟩
      have HB99 := Lib.hid (HB4.out.trans (hb.mono HB4.out.size))
      clear hb
      go_wp2_with fail
      go_ret
      exact ⟨rfl, HB99.out⟩
    · have q0 : ¬ (14 : Int) < (l0.length : Int) := by omega
      have q1 : (14 : Int) < (l1.length : Int) := by omega
      go_enter Try.func8, Try.ntmps8
      go_wp2_with (first
        | (refine wpList_box rfl 2 rfl #[.slice A0 l0.length c0] 24 ?hr ?_; (case hr => first | (go_simp; done) | (go_simp; rfl)); intro g3 w1 hg3 k3 hb3; have K3 := Lib.hid k3; have HB1 := Lib.hid hb3; clear hb3 k3)
        | (refine wpList_box rfl 3 rfl #[.slice A1 l1.length c1] 24 ?hr ?_; (case hr => first | (go_simp; done) | (go_simp; rfl)); intro g4 w2 hg4 k4 hb4; have K4 := Lib.hid k4; have K32 := Lib.hid (blk_below K3.out hb4); have HB2 := Lib.hid (HB1.out.trans (hb4.mono HB1.out.size)); have d3 : w2.cell? ⟨g3, 0, none⟩ = some (.slice A0 l0.length c0) := blk_cell K32.out 0; have d4 : w2.cell? ⟨g4, 0, none⟩ = some (.slice A1 l1.length c1) := blk_cell K4.out 0; clear hb4 k4)
        | (refine wpList_load_at rfl 24 (.tmp 2) rfl ⟨g3, 0, none⟩ rfl #[.slice A0 l0.length c0] _ (Lies.of_block K32.out) Try.underlying24 rfl info24s ?_)
        | (refine wpList_load_at rfl 24 (.tmp 3) rfl ⟨g4, 0, none⟩ rfl #[.slice A1 l1.length c1] _ (Lies.of_block K4.out) Try.underlying24 rfl info24s ?_))
      go_at_call 13
      refine (awake_any w2).mono ?_
      rintro e w99 ⟨rfl, hb⟩
      have HB99 := Lib.hid (HB2.out.trans (hb.mono HB2.out.size))
      clear hb
      go_wp2_with fail
      go_ret
      exact ⟨rfl, HB99.out⟩
  · have q0 : (14 : Int) < (l0.length : Int) := by omega
    go_enter Try.func8, Try.ntmps8
    go_wp2_with (first
      | (refine wpList_box rfl 2 rfl #[.slice A0 l0.length c0] 24 ?hr ?_; (case hr => first | (go_simp; done) | (go_simp; rfl)); intro g3 w1 hg3 k3 hb3; have K3 := Lib.hid k3; have HB1 := Lib.hid hb3; clear hb3 k3)
      | (refine wpList_box rfl 3 rfl #[.slice A1 l1.length c1] 24 ?hr ?_; (case hr => first | (go_simp; done) | (go_simp; rfl)); intro g4 w2 hg4 k4 hb4; have K4 := Lib.hid k4; have K32 := Lib.hid (blk_below K3.out hb4); have HB2 := Lib.hid (HB1.out.trans (hb4.mono HB1.out.size)); have d3 : w2.cell? ⟨g3, 0, none⟩ = some (.slice A0 l0.length c0) := blk_cell K32.out 0; have d4 : w2.cell? ⟨g4, 0, none⟩ = some (.slice A1 l1.length c1) := blk_cell K4.out 0; clear hb4 k4)
      | (refine wpList_load_at rfl 24 (.tmp 2) rfl ⟨g3, 0, none⟩ rfl #[.slice A0 l0.length c0] _ (Lies.of_block K32.out) Try.underlying24 rfl info24s ?_)
      | (refine wpList_load_at rfl 24 (.tmp 3) rfl ⟨g4, 0, none⟩ rfl #[.slice A1 l1.length c1] _ (Lies.of_block K4.out) Try.underlying24 rfl info24s ?_))
    go_at_call 13
    refine (awake_any w2).mono ?_
    rintro e w99 ⟨rfl, hb⟩
    have HB99 := Lib.hid (HB2.out.trans (hb.mono HB2.out.size))
    clear hb
    go_wp2_with fail
    go_ret
    exact ⟨rfl, HB99.out⟩

/-! ### The row -/
set_option maxRecDepth 100000 in
theorem lifted (os : Os) (started : os.Started) (H : Type) (enc : TypeId × Value → H) :
    ReturnsInHanded {} Try.checked os 8 .any (Rows.predApartSpec.pre6 enc Try.prog Try.f8 Rows.predApartRow.domain false) (Rows.predApartSpec.post enc Try.prog Try.f8 false true false false) := by
  refine returnsInHanded_of_change_sized (C := Try.checked) own started (by kernel_rfl) Try.func8
    (ChangeSpec.witness6 (enc := enc) (C := Try.checked) false ⟨#[], #[.agg #[.slice none 0 0], .agg #[.slice none 0 0]], []⟩ 8 (by kernel_rfl) (by kernel_rfl) (by kernel_rfl) (by kernel_rfl)) ?_
  intro W base args ds gs before hval0 hW hcnd hsz _
  have hval : ∀ (j : Nat) t v, Try.f8.params[j]? = some t → args[j]? = some v → Value.okWide Try.prog W .any base t v := hval0
  have hW' := hW
  obtain ⟨p, q, hA0, hV, rfl, hfz, hnd⟩ := hW
  have hA : DataW.TrodAll enc Try.prog W 0 (fun _ => true) true Try.f8.params.toList args.toList ds p := hA0
  rw [Try.params8] at hA hval hsz
  obtain ⟨v0, vs0, d0, ds0, p0, q0, hargs, rfl, rfl, h0, r0⟩ := trodAll_cons hA
  obtain ⟨v1, vs1, d1, ds1, p1, q1, rfl, rfl, rfl, h1, r1⟩ := trodAll_cons r0
  obtain ⟨rfl, rfl, rfl⟩ := trodAll_nil r1
  obtain rfl : args = #[v0, v1] := by cases args; simp_all
  obtain ⟨rfl, rfl⟩ := trodVars_none hV
  have k0 := h0
  have lt0 : ∀ x ∈ p0, x.block < W.heap.size := by obtain ⟨m, hm⟩ := k0; exact DataW.trod_lt m _ _ _ hm
  obtain ⟨A0, c0, l0, rfl, x0, y0, z0⟩ := open_pred (hval 0 24 v0 rfl rfl) h0
  have k1 := h1
  have lt1 : ∀ x ∈ p1, x.block < W.heap.size := by obtain ⟨m, hm⟩ := k1; exact DataW.trod_lt m _ _ _ hm
  obtain ⟨A1, c1, l1, rfl, x1, y1, z1⟩ := open_pred (hval 1 24 v1 rfl rfl) h1
  clear hA0 hval0
  refine (walk A0 c0 l0 x0 z0 A1 c1 l1 x1 z1 W y0 y1).mono fun e W' ⟨he, bel⟩ => ?_
  subst he
  exact ⟨_, rfl, _, _, _, [], _, [], hW', trodAll_mk1 (shut_bool Try.underlying4 _), (trodAll_cons_mk (Below.trod laidOut (by kernel_rfl) (of_decide_eq_true (by kernel_rfl)) k0 bel lt0) (trodAll_cons_mk (Below.trod laidOut (by kernel_rfl) (of_decide_eq_true (by kernel_rfl)) k1 bel lt1) trodAll_mk0)), rfl, bel.frame _, fun h => by cases h⟩

theorem over : Rows.predApartRow.holds Try.pinned (OpenSpec.ofChange Rows.predApartSpec) :=
  OpenClaim.holds_of_wide 8 Try.f8 rfl rfl rfl rfl rfl rfl rfl ⟨rfl, rfl, rfl, rfl, rfl⟩ rfl rfl rfl rfl rfl (by kernel_rfl) Try.func8 (by kernel_rfl)
    (of_decide_eq_true (by kernel_rfl)) (by unfold Func.isWrapper; first | (rw [if_pos (by decide +kernel)]; kernel_rfl) | (rw [if_neg (by decide +kernel)]; exact ⟨rfl, rfl⟩))
    (fun os started H enc _ => lifted os started H enc)

/-- The statement. -/
theorem proved : Rows.PredApartSaid := over
#print axioms proved
end Go.Proofs.Ytmhjnfkhfjejeaa.predApart
