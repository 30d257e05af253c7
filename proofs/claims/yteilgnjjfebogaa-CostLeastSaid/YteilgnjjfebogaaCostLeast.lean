/-
  Proved: droverlaw15.CostLeast returns true for every row of words: the order is the reference's, twice, the costs stay as they were, and the least one is the reference's. No condition.
-/
import Derived.Test.YteilgnjjfebogaaN
import Derived.Test.YteilgnjjfebogaaO
namespace Go.Proofs.Yteilgnjjfebogaa.costLeast
open Go.Proofs.Yteilgnjjfebogaa Go.ChangeShapes Go.WideShapes Go.ChangeAt Go.RowKit
set_option linter.unusedVariables false
set_option linter.unusedSimpArgs false

theorem flts_at (l : List Nat) (k : Nat) (h : k < l.length) : (flts l l.length).getD k undef = .float .f64 (at0 l k) := by
  rw [flts_all, List.getD_eq_getElem?_getD, List.getElem?_map, List.getElem?_eq_getElem h]
  unfold at0
  simp [List.getD_eq_getElem?_getD, List.getElem?_eq_getElem h]
theorem surj_of_inj (n : Nat) : ∀ (f : Nat → Nat), (∀ k, k < n → f k < n) → (∀ i j, i < n → j < n → f i = f j → i = j) → ∀ m, m < n → ∃ k, k < n ∧ f k = m := by
  induction n with
  | zero => intro f _ _ m hm; omega
  | succ n ih =>
    intro f h1 h2 m hm
    by_cases e : f n = m
    · exact ⟨n, by omega, e⟩
    · have hn := h1 n (by omega)
      have hg := ih (fun k => if f k = n then f n else f k) (fun k hk => by
          have := h1 k (by omega)
          have h3 := h2 k n (by omega) (by omega)
          split <;> omega) (fun i j hi hj he => by
          have h3 := h2 i n (by omega) (by omega)
          have h4 := h2 j n (by omega) (by omega)
          have h5 := h2 i j (by omega) (by omega)
          (repeat' split at he) <;> omega)
      by_cases em : m = n
      · obtain ⟨k, hk, hk2⟩ := hg (f n) (by omega)
        split at hk2
        · exact ⟨k, by omega, by omega⟩
        · have := h2 k n (by omega) (by omega) hk2; omega
      · obtain ⟨k, hk, hk2⟩ := hg m (by omega)
        split at hk2
        · exact absurd hk2 e
        · exact ⟨k, by omega, hk2⟩


/-- An order of n places is the reference's. -/
theorem order_ref (l : List Nat) (hl : lt64 l) (n : Nat) (f : Nat → Int) (h1 : ∀ k, k < n → 0 ≤ f k ∧ f k < n) (h2 : ∀ i j, i < n → j < n → f i = f j → i = j) (h3 : RiseOn (RL l) f 0 n)
    (ro : List Int) (ho : OrdL l n ro) : ∀ k, k < n → f k = atI ro k := by
  have e : (List.range n).map f = ro := by
    refine strict_unique (R := RL l) (fun x h => by rw [RL_iff l hl] at h; omega) (ord_ok l hl 0).trans ?_ ho.rise fun x => ?_
    · rw [List.pairwise_iff_getElem]
      intro i j hi hj hij
      simp only [List.length_map, List.length_range] at hi hj
      simpa using h3 i j (Nat.zero_le _) hij hj
    · rw [ho.mem, List.mem_map]
      constructor
      · rintro ⟨k, hk, rfl⟩
        exact h1 k (List.mem_range.1 hk)
      · rintro ⟨hx0, hx⟩
        obtain ⟨k, hk, hke⟩ := surj_of_inj n (fun k => (f k).toNat) (fun k hk => by have := h1 k hk; omega) (fun i j hi hj he => h2 i j hi hj (by have := h1 i hi; have := h1 j hj; omega)) x.toNat (by omega)
        have := h1 k hk
        exact ⟨k, List.mem_range.2 hk, by omega⟩
  intro k hk
  rw [← e]
  unfold atI
  rw [List.getD_eq_getElem?_getD, List.getElem?_map, List.getElem?_range hk]
  rfl

set_option maxHeartbeats 40000000 in
set_option maxRecDepth 100000 in
theorem walk (A0 : Option Addr) (c0 : Nat) (l0 : List Nat) (w0 : lt64 l0) (m0 : l0.length * 8 ≤ 140737488351232) (w : World) (r0 : RowF w A0 l0.length (fun k => .int .u64 (at0 l0 k))) :
    Calls Try.prog 6 #[.slice A0 l0.length c0] w fun e w' => e = .returned (.bool true) ∧ Below w.heap.size w w' := by
  have hm : l0.length ≤ 1152921504606846976 := by omega
  have HM := Lib.hid m0
  have HL : Hid (∀ x ∈ l0, x < 18446744073709551616) := w0
  have HR := Lib.hid r0
  obtain ⟨n, hn⟩ : ∃ n, n = l0.length := ⟨_, rfl⟩
  have hnn : n ≤ 17592186043904 := by omega
  have HN := Lib.hid hn
  clear m0 w0 r0 hn
  go_enter Try.func6, Try.ntmps6
  go_wp2_with fail
  go_at_call 21
  refine (floats_any A0 c0 l0 HM.out w HR.out).mono ?_
  rintro e wa ⟨v, rfl, hown, hb1⟩
  obtain ⟨A, c, rfl, hc, hrow, hbl⟩ := own_row hown
  have hrow2 : RowF wa A n (fun k => .float .f64 (at0 l0 k)) := fun k hk => by
    rw [HN.out] at hk
    obtain ⟨b, off, e1, h1⟩ := hrow k hk
    exact ⟨b, off, e1, h1.trans (congrArg some (flts_at l0 k hk))⟩
  have hRa := HR.out.below hb1
  have HB1 := Lib.hid hb1
  have HROW1 := Lib.hid hrow2
  clear hown hrow hrow2 hbl hc hb1
  go_wp2_with fail
  go_at_call 23
  refine (rorder_any A0 c0 l0 HL.out HM.out wa hRa).mono ?_
  clear hRa
  rintro e wb ⟨v, ro, rfl, hown, hord, hb2⟩
  obtain ⟨B, d, rfl, hd, hrow, _⟩ := own_row hown
  have hlen : ro.length = n := hord.len.trans HN.out.symm
  have hord2 : OrdL l0 n ro := by rw [HN.out]; exact hord
  have hrowB : RowF wb B n (fun k => .int .i64 (atI ro k)) := fun k hk => by
    obtain ⟨b, off, e1, h1⟩ := hrow k (by have := HN.out; omega)
    exact ⟨b, off, e1, h1.trans (congrArg some (intsV_at ro k (by omega)))⟩
  have hBb := HB1.out.trans (hb2.mono HB1.out.size)
  have HROW2 := Lib.hid (HROW1.out.below hb2)
  have HROWB := Lib.hid hrowB
  have HORD := Lib.hid hord2
  have HLEN := Lib.hid hlen
  have HBB := Lib.hid hBb
  have HRB := Lib.hid (HR.out.below hBb)
  rw [← HN.out]
  clear hown hrow hrowB hd hb2 hBb hord hord2 hlen HB1 HROW1
  have hI : ∀ (P Q : Option Addr) (c d : Nat) (w : World), RowF w P n (fun k => .int .i64 (atI ro k)) → RowF w Q n (fun k => .int .i64 (atI ro k)) →
      Calls Try.prog 25 #[.slice P n c, .slice Q n d] w fun e w' => e = .returned (.bool true) ∧ Drw w w' := fun P Q c d w h1 h2 => by
    have h := ints_any P Q c d ro ro (by have := HLEN.out; omega) (by have := HLEN.out; omega) w (by rw [HLEN.out]; exact h1) (by rw [HLEN.out]; exact h2)
    rw [HLEN.out, decide_eq_true rfl] at h
    exact h
  have HI := Lib.hid hI
  clear hI
  go_wp2_with fail
  go_at_call 24
  refine (order_n A c n l0 HN.out HL.out (by rw [HN.out]; exact HM.out) wb HROW2.out).mono ?_
  rintro e wc ⟨g, f, rfl, hg1, hg2, hout, hfz, hrng, hinj, hrise, hb3⟩
  have hro := order_ref l0 HL.out n f hrng hinj hrise ro HORD.out
  have hout2 : RowF wc (some ⟨g, 0, none⟩) n (fun k => .int .i64 (atI ro k)) := fun k hk => by
    obtain ⟨b, off, e1, h1⟩ := hout k hk
    exact ⟨b, off, e1, h1.trans (by show some (Value.int .i64 _) = some (Value.int .i64 _); rw [hro k hk])⟩
  have HOUT := Lib.hid hout2
  have HFZ := Lib.hid hfz
  have HB3 := Lib.hid hb3
  clear hout hout2 hro hfz hrng hinj hrise hb3
  go_wp2_with fail
  go_at_call 25
  refine (HI.out (some ⟨g, 0, none⟩) B n d wc HOUT.out (HROWB.out.below HB3.out)).mono ?_
  rintro e wc2 ⟨rfl, hd2⟩
  obtain ⟨m2, rfl⟩ := hd2
  have hst : ∀ k, k < n → ∃ x, (wc.drewN m2).cell? ⟨g, k, none⟩ = some (.int .i64 x) := fun k hk => by
    obtain ⟨b, off, e1, h1⟩ := HOUT.out k hk
    cases e1
    exact ⟨_, by simpa using h1⟩
  have HST := Lib.hid hst
  have HB4 : Hid (Below wb.heap.size wb (wc.drewN m2)) := Lib.hid (HB3.out.trans ((Drw.refl wc).drewN m2 |>.below _))
  have HFZ2 : Hid (∀ k, (wc.drewN m2).frozen? ⟨g, k, none⟩ = false) := HFZ.out
  clear hst HB3 HFZ HOUT
  go_wp2
  go_loopw [7] (fun vi wr => ∃ i : Nat, vi = .int .i64 i ∧ i ≤ n ∧ Hid (∀ k, k < n → ∃ x, wr.cell? ⟨g, k, none⟩ = some (.int .i64 x)) ∧ Hid (∀ k, wr.frozen? ⟨g, k, none⟩ = false) ∧ Hid (Below wb.heap.size wb wr)) (fun vi _ => n - (intOf vi).toNat)
  case atStart => exact ⟨0, rfl, Nat.zero_le _, HST, HFZ2, HB4⟩
  case round =>
    obtain ⟨i, rfl, hin, HS, HF, HBW⟩ := hrel
    by_cases hlt : i < n
    · obtain ⟨x, c1⟩ := HS.out i hlt
      have f1 := HF.out i
      have q1 : (i : Int) < (n : Int) := by omega
      have HS2 : Hid (∀ k, k < n → ∃ x, (wr.setCell ⟨g, i, none⟩ (.int .i64 (-7))).cell? ⟨g, k, none⟩ = some (.int .i64 x)) := Lib.hid fun k hk => by
        by_cases e : k = i
        · subst e; exact ⟨_, World.cell?_setCell_same _ _ _ c1⟩
        · obtain ⟨y, hy⟩ := HS.out k hk
          exact ⟨y, by rw [World.cell?_setCell_other _ _ _ _ (by intro h; injection h with _ h2; exact e h2.symm)]; exact hy⟩
      have HF2 : Hid (∀ k, (wr.setCell ⟨g, i, none⟩ (.int .i64 (-7))).frozen? ⟨g, k, none⟩ = false) := Lib.hid fun k => by rw [World.frozen?_setCell]; exact HF.out k
      have HB2 : Hid (Below wb.heap.size wb (wr.setCell ⟨g, i, none⟩ (.int .i64 (-7)))) := Lib.hid (HBW.out.setCell hg2 _)
      go_wp2
      go_roundw
      case rel => exact ⟨i + 1, by go_num, by omega, HS2, HF2, HB2⟩
      case measure => simp [intOf] <;> omega
    · obtain rfl : i = n := by omega
      clear HS HF HST HFZ2 HB4
      have HRO2 := Lib.hid (HROW2.out.below HBW.out)
      go_wp2_with fail
      go_at_call 24
      refine (order_n A c i l0 HN.out HL.out (by rw [HN.out]; exact HM.out) wr HRO2.out).mono ?_
      rintro e wd ⟨g2, f2, rfl, hh1, hh2, hout, hfz, hrng, hinj, hrise, hb3⟩
      have hro := order_ref l0 HL.out i f2 hrng hinj hrise ro HORD.out
      have hout2 : RowF wd (some ⟨g2, 0, none⟩) i (fun k => .int .i64 (atI ro k)) := fun k hk => by
        obtain ⟨b, off, e1, h1⟩ := hout k hk
        exact ⟨b, off, e1, h1.trans (by show some (Value.int .i64 _) = some (Value.int .i64 _); rw [hro k hk])⟩
      have hbd : Below wb.heap.size wb wd := HBW.out.trans (hb3.mono HBW.out.size)
      have HOUT := Lib.hid hout2
      have HBD := Lib.hid hbd
      have HRBD := Lib.hid (HROWB.out.below hbd)
      have HROD := Lib.hid (HROW2.out.below hbd)
      have hrd := HRB.out.below hbd
      rw [← HN.out] at hrd
      have HRD := Lib.hid hrd
      clear hout hout2 hro hfz hrng hinj hrise hb3 hbd hh1 hh2 hrd
      have h26 : ∀ w, RowF w A i (fun k => .float .f64 (at0 l0 k)) → Calls Try.prog 26 #[.slice A i c] w fun e w' => e = .returned (.int .i64 (leastL l0 i)) ∧ w = w' := by
        rw [HN.out]; exact fun w h => least_any A c l0 hm w h
      have h27 : ∀ w, RowF w A0 i (fun k => .int .u64 (at0 l0 k)) → Calls Try.prog 27 #[.slice A0 i c0] w fun e w' => e = .returned (.int .i64 (leastL l0 i)) ∧ Drw w w' := by
        rw [HN.out]; exact fun w h => rleast_any A0 c0 l0 HL.out hm w h
      have H26 := Lib.hid h26
      have H27 := Lib.hid h27
      clear h26 h27
      go_wp2
      go_loopw [9] (fun vi wr2 => ∃ j : Nat, vi = .int .i64 j ∧ j ≤ i ∧ Drw wd wr2) (fun vi _ => i - (intOf vi).toNat)
      case atStart => exact ⟨0, rfl, Nat.zero_le _, Drw.refl _⟩
      case round =>
        obtain ⟨j, rfl, hj, HD⟩ := hrel
        by_cases hlt2 : j < i
        · obtain ⟨b1, o1, rfl, c1⟩ := HD.row HROD.out j hlt2
          obtain ⟨b2, o2, rfl, c2⟩ := HD.row HRD.out j hlt2
          have q1 : (j : Int) < (i : Int) := by omega
          go_wp2
          go_quiet (fail)
          go_wp2
          go_roundw
          case rel => exact ⟨j + 1, by go_num, by omega, HD.drewN _⟩
          case measure => simp [intOf] <;> omega
        · obtain rfl : j = i := by omega
          go_wp2_with (first
            | (go_at_call 25; (with_reducible refine (HI.out (some ⟨g2, 0, none⟩) B j d _ (HD.row HOUT.out) (HD.row HRBD.out)).mono ?_); rintro e w' ⟨rfl, hd3⟩)
            | (go_at_call 26; (with_reducible refine (H26.out _ (hd3.row (HD.row HROD.out))).mono ?_); rintro e w' ⟨rfl, rfl⟩)
            | (go_at_call 27; (with_reducible refine (H27.out _ (hd3.row (HD.row HRD.out))).mono ?_); rintro e w' ⟨rfl, hd4⟩)
            | (go_at_call 16; (with_reducible refine (awake_any _).mono ?_); rintro e wz ⟨rfl, hb⟩))
          go_ret
          have hz := HBD.out.trans ((HD.trans (hd3.trans hd4)).below _)
          have hz2 := HBB.out.trans (hz.mono HBB.out.size)
          exact ⟨rfl, hz2.trans (hb.mono hz2.size)⟩

/-! ### The row -/
set_option maxRecDepth 100000 in
theorem lifted (os : Os) (started : os.Started) (H : Type) (enc : TypeId × Value → H) :
    ReturnsInHanded {} Try.checked os 6 .any (Rows.costLeastSpec.pre6 enc Try.prog Try.f6 Rows.costLeastRow.domain false) (Rows.costLeastSpec.post enc Try.prog Try.f6 false true false false) := by
  refine returnsInHanded_of_change_sized (C := Try.checked) own started (by kernel_rfl) Try.func6
    (ChangeSpec.witness6 (enc := enc) (C := Try.checked) false ⟨#[], #[.slice none 0 0], []⟩ 8 (by kernel_rfl) (by kernel_rfl) (by kernel_rfl) (by kernel_rfl)) ?_
  intro W base args ds gs before hval0 hW hcnd hsz _
  have hval : ∀ (j : Nat) t v, Try.f6.params[j]? = some t → args[j]? = some v → Value.okWide Try.prog W .any base t v := hval0
  have hW' := hW
  obtain ⟨p, q, hA0, hV, rfl, hfz, hnd⟩ := hW
  have hA : DataW.TrodAll enc Try.prog W 0 (fun _ => true) true Try.f6.params.toList args.toList ds p := hA0
  rw [Try.params6] at hA hval hsz
  obtain ⟨v0, vs0, d0, ds0, p0, q0, hargs, rfl, rfl, h0, r0⟩ := trodAll_cons hA
  obtain ⟨rfl, rfl, rfl⟩ := trodAll_nil r0
  obtain rfl : args = #[v0] := by cases args; simp_all
  obtain ⟨rfl, rfl⟩ := trodVars_none hV
  obtain ⟨a0, len0, cap0, rfl⟩ := okWide_slice Try.underlying33 (hval 0 33 v0 rfl rfl)
  have k0 := h0
  have lt0 : ∀ x ∈ p0, x.block < W.heap.size := by obtain ⟨m, hm⟩ := k0; exact DataW.trod_lt m _ _ _ hm
  obtain ⟨l0, rfl, u0, t0⟩ := row_u64 h0
  have z0 := sized_u64 (j := 0) hsz rfl rfl h0
  clear hA0 hval0
  refine (walk a0 cap0 l0 u0 z0 W t0).mono fun e W' ⟨he, bel⟩ => ?_
  subst he
  exact ⟨_, rfl, _, _, _, [], _, [], hW', trodAll_mk1 (shut_bool Try.underlying4 _), (trodAll_cons_mk (Below.trod laidOut (by kernel_rfl) (of_decide_eq_true (by kernel_rfl)) k0 bel lt0) trodAll_mk0), rfl, bel.frame _, fun h => by cases h⟩

theorem over : Rows.costLeastRow.holds Try.pinned (OpenSpec.ofChange Rows.costLeastSpec) :=
  OpenClaim.holds_of_wide 6 Try.f6 rfl rfl rfl rfl rfl rfl rfl ⟨rfl, rfl, rfl, rfl, rfl⟩ rfl rfl rfl rfl rfl (by kernel_rfl) Try.func6 (by kernel_rfl)
    (of_decide_eq_true (by kernel_rfl)) (by unfold Func.isWrapper; first | (rw [if_pos (by decide +kernel)]; kernel_rfl) | (rw [if_neg (by decide +kernel)]; exact ⟨rfl, rfl⟩))
    (fun os started H enc _ => lifted os started H enc)

/-- The statement. -/
theorem proved : Rows.CostLeastSaid := over
#print axioms proved
end Go.Proofs.Yteilgnjjfebogaa.costLeast
