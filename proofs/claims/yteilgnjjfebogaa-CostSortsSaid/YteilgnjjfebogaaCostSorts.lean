/-
  Proved: droverlaw15.CostSorts returns true for every row of words: the order has every place once, rises by Less, and its first is the least one. No condition.
-/
import Derived.Test.YteilgnjjfebogaaN
namespace Go.Proofs.Yteilgnjjfebogaa.costSorts
open Go.Proofs.Yteilgnjjfebogaa Go.ChangeShapes Go.WideShapes Go.ChangeAt Go.RowKit
set_option linter.unusedVariables false
set_option linter.unusedSimpArgs false

theorem flts_at (l : List Nat) (k : Nat) (h : k < l.length) : (flts l l.length).getD k undef = .float .f64 (at0 l k) := by
  rw [flts_all, List.getD_eq_getElem?_getD, List.getElem?_map, List.getElem?_eq_getElem h]
  unfold at0
  simp [List.getD_eq_getElem?_getD, List.getElem?_eq_getElem h]
theorem sw_below {wb : World} {x : Obj} {n : Nat} {f : Nat → Int} {w : World} (h : SW (wb.alloc x) wb.heap.size n f w) : Below wb.heap.size wb w :=
  ⟨h.os, h.tape, h.output, by rw [h.size]; simp, fun k hk => by rw [h.other k (by omega)]; exact heap_alloc_old wb x hk⟩
theorem surj_of_inj (n : Nat) : ∀ (f : Nat → Nat), (∀ k, k < n → f k < n) → (∀ i j, i < n → j < n → f i = f j → i = j) → ∀ m, m < n → ∃ k, k < n ∧ f k = m := by
  induction n with
  | zero => intro f _ _ m hm; omega
  | succ n ih =>
    intro f h1 h2 m hm
    by_cases e : f n = m
    · exact ⟨n, by omega, e⟩
    · have hn := h1 n (by omega)
      have hg := ih (fun k => if f k = n then f n else f k) (fun k hk => by
          have := h1 k (by omega)
          have h3 := h2 k n (by omega) (by omega)
          split <;> omega) (fun i j hi hj he => by
          have h3 := h2 i n (by omega) (by omega)
          have h4 := h2 j n (by omega) (by omega)
          have h5 := h2 i j (by omega) (by omega)
          (repeat' split at he) <;> omega)
      by_cases em : m = n
      · obtain ⟨k, hk, hk2⟩ := hg (f n) (by omega)
        split at hk2
        · exact ⟨k, by omega, by omega⟩
        · have := h2 k n (by omega) (by omega) hk2; omega
      · obtain ⟨k, hk, hk2⟩ := hg m (by omega)
        split at hk2
        · exact absurd hk2 e
        · exact ⟨k, by omega, hk2⟩

theorem leastL_least (l : List Nat) (hl : lt64 l) (k : Nat) : ∀ j, j < k → (j : Int) = leastL l k ∨ RL l (leastL l k) j := by
  induction k with
  | zero => intro j hj; omega
  | succ k ih =>
    intro j hj
    obtain ⟨b1, b2, b3⟩ := leastL_bd l k
    simp only [leastL]
    have hk := less_key l hl k (leastL l k).toNat
    rcases Nat.lt_or_ge j k with hjk | hjk
    · have h0 := ih j hjk
      split
      · rename_i hc
        rcases hc with hc | hc
        · omega
        · right
          rw [hk, decide_eq_true_eq] at hc
          rw [RL_iff l hl] at *
          rcases h0 with h0 | h0
          · rw [← h0] at hc; simp only [Int.toNat_natCast] at *; omega
          · simp only [Int.toNat_natCast] at *; omega
      · exact h0
    · obtain rfl : j = k := by omega
      split
      · left; rfl
      · rename_i hc
        right
        rw [hk, decide_eq_true_eq] at hc
        rw [RL_iff l hl]
        simp only [Int.toNat_natCast]
        omega

theorem first_least (l : List Nat) (hl : lt64 l) (n : Nat) (hn : 0 < n) (f : Nat → Int) (h1 : ∀ k, k < n → 0 ≤ f k ∧ f k < n) (h2 : ∀ i j, i < n → j < n → f i = f j → i = j) (h3 : RiseOn (RL l) f 0 n) : leastL l n = f 0 := by
  obtain ⟨b1, b2, b3⟩ := leastL_bd l n
  have hb := b3 hn
  obtain ⟨k, hk, hke⟩ := surj_of_inj n (fun k => (f k).toNat) (fun k hk => by have := h1 k hk; omega) (fun i j hi hj he => h2 i j hi hj (by have := h1 i hi; have := h1 j hj; omega)) (leastL l n).toNat (by omega)
  have hk1 := h1 k hk
  have e : f k = leastL l n := by omega
  rcases Nat.eq_zero_or_pos k with rfl | hk0
  · exact e.symm
  · have r1 := h3 0 k (by omega) hk0 hk
    have h00 := h1 0 hn
    have r2 := leastL_least l hl n (f 0).toNat (by omega)
    have e0 : (((f 0).toNat : Nat) : Int) = f 0 := by omega
    rw [e0] at r2
    rcases r2 with r2 | r2
    · exact r2.symm
    · rw [e] at r1
      rw [RL_iff l hl] at r1 r2
      omega

/-- Which places the first i of the order take. -/
def seenF (f : Nat → Int) : Nat → Nat → Int
  | 0, _ => 0
  | i + 1, k => if (k : Int) = f i then 1 else seenF f i k
theorem seenF_not (f : Nat → Int) (n : Nat) (h2 : ∀ i j, i < n → j < n → f i = f j → i = j) (i : Nat) (hi : i < n) (m : Nat) (hm : f i = (m : Int)) : seenF f i m = 0 := by
  have key : ∀ j, j ≤ i → seenF f j m = 0 := by
    intro j
    induction j with
    | zero => intro _; rfl
    | succ j ih =>
      intro hj
      simp only [seenF]
      rw [if_neg, ih (by omega)]
      intro e
      have := h2 i j hi (by omega) (by omega)
      omega
  exact key i (Nat.le_refl _)

theorem ret_eqb {a b : Int} (h : a = b) : (decide (a = b)) = true := decide_eq_true h
set_option maxHeartbeats 40000000 in
set_option maxRecDepth 100000 in
theorem walk (A0 : Option Addr) (c0 : Nat) (l0 : List Nat) (w0 : lt64 l0) (m0 : l0.length * 8 ≤ 140737488351232) (w : World) (r0 : RowF w A0 l0.length (fun k => .int .u64 (at0 l0 k))) :
    Calls Try.prog 9 #[.slice A0 l0.length c0] w fun e w' => e = .returned (.bool true) ∧ Below w.heap.size w w' := by
  have hm : l0.length ≤ 1152921504606846976 := by omega
  have HM := Lib.hid m0
  have HL : Hid (∀ x ∈ l0, x < 18446744073709551616) := w0
  have HR := Lib.hid r0
  obtain ⟨i0, hi, hz0, hz1, hz2⟩ := info_parts info3
  have hnb : l0.length ≤ 17592186043904 := by omega
  obtain ⟨n, hn⟩ : ∃ n, n = l0.length := ⟨_, rfl⟩
  have hmk : ∀ wx : World, (Instr.makeSlice 39 (.int .i64 n) (.int .i64 n)).run Try.prog wx = .ok (.slice (some ⟨wx.heap.size, 0, none⟩) n n) (wx.alloc (.cells (madeCells #[.int .i64 0] n) 3)) := fun wx => by
    have := run_make (P := Try.prog) wx 39 3 i0 (.int .i64 0) Try.underlying39 hi hz0 .i64 .i64 n n (by omega) (by omega) (by rw [hz2]; omega) (by omega)
    rw [hz1] at this
    simp only [Int.toNat_natCast, Nat.mul_one] at this
    exact this
  have HN := Lib.hid hn
  clear m0 w0 r0 hi hz0 hz1 hz2 hn
  go_enter Try.func9, Try.ntmps9
  go_wp2_with fail
  go_at_call 21
  refine (floats_any A0 c0 l0 HM.out w HR.out).mono ?_
  rintro e wa ⟨v, rfl, hown, hb1⟩
  obtain ⟨A, c, rfl, hc, hrow, hbl⟩ := own_row hown
  have hrow2 : RowF wa A n (fun k => .float .f64 (at0 l0 k)) := fun k hk => by
    rw [HN.out] at hk
    obtain ⟨b, off, e1, h1⟩ := hrow k hk
    exact ⟨b, off, e1, h1.trans (congrArg some (flts_at l0 k hk))⟩
  rw [← HN.out]
  go_wp2_with fail
  go_at_call 24
  refine (order_n A c n l0 HN.out HL.out (by rw [HN.out]; exact HM.out) wa hrow2).mono ?_
  rintro e wb ⟨g, f, rfl, hg1, hg2, hout, hfz, hrng, hinj, hrise, hb2⟩
  have hB := hb1.trans (hb2.mono hb1.size)
  have hrow3 := hrow2.below hb2
  have hfirst := fun h0 => first_least l0 HL.out n h0 f hrng hinj hrise
  have hnn : n ≤ 17592186043904 := by have := HN.out; omega
  have HFIRST := Lib.hid hfirst
  have hC26 : ∀ w, RowF w A n (fun k => .float .f64 (at0 l0 k)) → Calls Try.prog 26 #[.slice A n c] w fun e w' => e = .returned (.int .i64 (leastL l0 n)) ∧ w = w' := by
    rw [HN.out]; exact fun w h => least_any A c l0 hm w h
  have HC26 := Lib.hid hC26
  clear hC26
  have HROW := Lib.hid hrow3
  have HOUT := Lib.hid hout
  have HRNG := Lib.hid hrng
  have HINJ := Lib.hid hinj
  have HRISE := Lib.hid hrise
  have HB := Lib.hid hB
  clear hfirst hrow3 hrow2 hrow hout hrng hinj hrise hB hb1 hb2 hown hbl hfz hc hg2
  go_wp2
  have hS1 : SW (wb.alloc (.cells (madeCells #[.int .i64 0] n) 3)) wb.heap.size n (seenF f 0) (wb.alloc (.cells (madeCells #[.int .i64 0] n) 3)) := by
    refine ⟨rfl, rfl, rfl, rfl, fun _ _ => rfl, madeCells #[.int .i64 0] n, ?_, size_madeCells _ _, fun k hk => ?_⟩
    · exact heap_alloc_new wb (.cells (madeCells #[.int .i64 0] n) 3)
    · simp [madeCells, hk, Nat.mod_one, seenF]
  have HS1 := Lib.hid hS1
  clear hS1 hmk
  go_loopw [6] (fun vi wr => ∃ i : Nat, vi = .int .i64 i ∧ i ≤ n ∧ SW (wb.alloc (.cells (madeCells #[.int .i64 0] n) 3)) wb.heap.size n (seenF f i) wr) (fun vi _ => n - (intOf vi).toNat)
  case atStart => exact ⟨0, rfl, Nat.zero_le _, HS1.out⟩
  case round =>
    obtain ⟨i, rfl, hin, HS⟩ := hrel
    by_cases hlt : i < n
    · obtain ⟨r1, r2⟩ := HRNG.out i hlt
      obtain ⟨m, hm1⟩ := Int.eq_ofNat_of_zero_le r1
      have hmn : m < n := by omega
      obtain ⟨b1, o1, e1, c1⟩ := (HOUT.out.below (sw_below HS)) i hlt
      cases e1
      have c1' : wr.cell? ⟨g, i, none⟩ = some (.int .i64 (m : Int)) := by rw [← hm1]; simpa using c1
      clear c1
      have c2 := HS.cell (k := m) hmn
      rw [seenF_not f n HINJ.out i hlt m hm1] at c2
      have f2 := HS.free m
      have q1 : (i : Int) < (n : Int) := by omega
      have q2 : (m : Int) < (n : Int) := by omega
      have HS2 : Hid (SW (wb.alloc (.cells (madeCells #[.int .i64 0] n) 3)) wb.heap.size n (seenF f (i + 1)) (wr.setCell ⟨wb.heap.size, m, none⟩ (.int .i64 1))) := Lib.hid ((HS.set hmn 1).congr fun k hk => by
        simp only [seenF, hm1]
        (repeat' split) <;> first | rfl | (exfalso; omega))
      rcases Nat.eq_zero_or_pos i with rfl | hi0
      · clear r1 r2 hm1 HS
        go_wp2
        go_roundw
        case rel => exact ⟨0 + 1, by go_num, by omega, HS2.out⟩
        case measure => simp [intOf] <;> omega
      · obtain ⟨j, rfl⟩ : ∃ j, i = j + 1 := ⟨i - 1, by omega⟩
        obtain ⟨r3, r4⟩ := HRNG.out j (by omega)
        obtain ⟨mp, hm2⟩ := Int.eq_ofNat_of_zero_le r3
        have hR := HRISE.out j (j + 1) (by omega) (by omega) hlt
        rw [hm1, hm2] at hR
        unfold RL at hR
        simp only [Int.toNat_natCast] at hR
        have hmp : mp < n := by omega
        obtain ⟨W2, hW2⟩ : ∃ W2, W2 = wr.setCell ⟨wb.heap.size, m, none⟩ (.int .i64 1) := ⟨_, rfl⟩
        rw [← hW2] at HS2
        have hB2 := (sw_below HS2.out)
        obtain ⟨_, _, e1, d1⟩ := (HOUT.out.below hB2) (j + 1) hlt
        cases e1
        obtain ⟨_, _, e1, d2⟩ := (HOUT.out.below hB2) j (by omega)
        cases e1
        obtain ⟨b3, o3, rfl, d3⟩ := (HROW.out.below hB2) m hmn
        obtain ⟨_, _, e1, d4⟩ := (HROW.out.below hB2) mp hmp
        cases e1
        have d1' : W2.cell? ⟨g, j + 1, none⟩ = some (.int .i64 (m : Int)) := by rw [← hm1]; simpa using d1
        have d2' : W2.cell? ⟨g, j, none⟩ = some (.int .i64 (mp : Int)) := by rw [← hm2]; simpa using d2
        have q3 : (j : Int) < (n : Int) := by omega
        have q4 : (mp : Int) < (n : Int) := by omega
        have q5 : (j : Int) + 1 < (n : Int) := by omega
        have hw2 := hW2.symm
        clear d1 d2 r1 r2 r3 r4 hW2 HS hB2
        have hq := less_key l0 HL.out m mp
        have hq' := less_key l0 HL.out mp m
        have hL1 : lessB (at0 l0 m) (at0 l0 mp) = false := by
          rcases hR with hR | ⟨hR, _⟩
          · rw [hq'] at hR; rw [hq]; have := of_decide_eq_true hR; exact decide_eq_false (by omega)
          · exact hR
        have HQ1 := Lib.hid hL1
        clear hq hq' hL1 hm1 hm2
        rcases hR with hR | ⟨_, hR⟩
        · have HQ2 := Lib.hid hR
          clear hR
          go_wp2
          go_quiet ((go_at_call 14; exact Calls.quiet_eq ((less_any _ _ _).mono fun e w' h => by first | (rw [HQ1.out] at h; exact h) | (rw [HQ2.out] at h; exact h))))
          go_wp2
          go_roundw
          case rel => exact ⟨j + 1 + 1, by go_num, by omega, HS2.out.drewN _⟩
          case measure => simp [intOf] <;> omega
        · cases hq2 : lessB (at0 l0 mp) (at0 l0 m) with
          | true =>
            have HQ2 := Lib.hid hq2
            clear hR hq2
            go_wp2
            go_quiet ((go_at_call 14; exact Calls.quiet_eq ((less_any _ _ _).mono fun e w' h => by first | (rw [HQ1.out] at h; exact h) | (rw [HQ2.out] at h; exact h))))
            go_wp2
            go_roundw
            case rel => exact ⟨j + 1 + 1, by go_num, by omega, HS2.out.drewN _⟩
            case measure => simp [intOf] <;> omega
          | false =>
            have HQ2 := Lib.hid hq2
            have hd : decide ((m : Int) < (mp : Int)) = false := decide_eq_false (by omega)
            have q8 : ¬ ((m : Int) < (mp : Int)) := by omega
            have Q8 := Lib.hid q8
            clear hR hq2 q8
            go_wp2
            go_quiet ((go_at_call 14; exact Calls.quiet_eq ((less_any _ _ _).mono fun e w' h => by first | (rw [HQ1.out] at h; exact h) | (rw [HQ2.out] at h; exact h))))
            have q8 := Q8.out
            go_wp2
            go_roundw
            case rel => exact ⟨j + 1 + 1, by go_num, by omega, HS2.out.drewN _⟩
            case measure => simp [intOf] <;> omega
    · obtain rfl : i = n := by omega
      have hBw := HB.out.trans ((sw_below HS).mono HB.out.size)
      have HBW := Lib.hid hBw
      have HRW := Lib.hid (HROW.out.below (sw_below HS))
      rcases Nat.eq_zero_or_pos i with rfl | hi0
      · clear HS hBw
        have HLE : Hid (leastL l0 0 = -1) := rfl
        go_wp2_with (first
          | (go_at_call 26; (with_reducible refine (HC26.out _ HRW.out).mono ?_); rintro e w' ⟨rfl, rfl⟩; rw [HLE.out])
          | (go_at_call 16; (with_reducible refine (awake_any _).mono ?_); rintro e wz ⟨rfl, hb⟩))
        go_ret
        exact ⟨rfl, HBW.out.trans (hb.mono HBW.out.size)⟩
      · obtain ⟨r1, r2⟩ := HRNG.out 0 hi0
        obtain ⟨m, hm1⟩ := Int.eq_ofNat_of_zero_le r1
        obtain ⟨_, _, e1, c1⟩ := (HOUT.out.below (sw_below HS)) 0 hi0
        cases e1
        have c1' : wr.cell? ⟨g, 0, none⟩ = some (.int .i64 (m : Int)) := by rw [← hm1]; simpa using c1
        have HLE := Lib.hid ((HFIRST.out hi0).trans hm1)
        have q1 : (0 : Int) < (i : Int) := by omega
        clear HS hBw c1 r1 r2 hm1
        go_wp2_with (first
          | (go_at_call 26; (with_reducible refine (HC26.out _ HRW.out).mono ?_); rintro e w' ⟨rfl, rfl⟩; rw [HLE.out])
          | (go_at_call 16; (with_reducible refine (awake_any _).mono ?_); rintro e wz ⟨rfl, hb⟩))
        go_ret
        exact ⟨rfl, HBW.out.trans (hb.mono HBW.out.size)⟩

/-! ### The row -/
set_option maxRecDepth 100000 in
theorem lifted (os : Os) (started : os.Started) (H : Type) (enc : TypeId × Value → H) :
    ReturnsInHanded {} Try.checked os 9 .any (Rows.costSortsSpec.pre6 enc Try.prog Try.f9 Rows.costSortsRow.domain false) (Rows.costSortsSpec.post enc Try.prog Try.f9 false true false false) := by
  refine returnsInHanded_of_change_sized (C := Try.checked) own started (by kernel_rfl) Try.func9
    (ChangeSpec.witness6 (enc := enc) (C := Try.checked) false ⟨#[], #[.slice none 0 0], []⟩ 8 (by kernel_rfl) (by kernel_rfl) (by kernel_rfl) (by kernel_rfl)) ?_
  intro W base args ds gs before hval0 hW hcnd hsz _
  have hval : ∀ (j : Nat) t v, Try.f9.params[j]? = some t → args[j]? = some v → Value.okWide Try.prog W .any base t v := hval0
  have hW' := hW
  obtain ⟨p, q, hA0, hV, rfl, hfz, hnd⟩ := hW
  have hA : DataW.TrodAll enc Try.prog W 0 (fun _ => true) true Try.f9.params.toList args.toList ds p := hA0
  rw [Try.params9] at hA hval hsz
  obtain ⟨v0, vs0, d0, ds0, p0, q0, hargs, rfl, rfl, h0, r0⟩ := trodAll_cons hA
  obtain ⟨rfl, rfl, rfl⟩ := trodAll_nil r0
  obtain rfl : args = #[v0] := by cases args; simp_all
  obtain ⟨rfl, rfl⟩ := trodVars_none hV
  obtain ⟨a0, len0, cap0, rfl⟩ := okWide_slice Try.underlying33 (hval 0 33 v0 rfl rfl)
  have k0 := h0
  have lt0 : ∀ x ∈ p0, x.block < W.heap.size := by obtain ⟨m, hm⟩ := k0; exact DataW.trod_lt m _ _ _ hm
  obtain ⟨l0, rfl, u0, t0⟩ := row_u64 h0
  have z0 := sized_u64 (j := 0) hsz rfl rfl h0
  clear hA0 hval0
  refine (walk a0 cap0 l0 u0 z0 W t0).mono fun e W' ⟨he, bel⟩ => ?_
  subst he
  exact ⟨_, rfl, _, _, _, [], _, [], hW', trodAll_mk1 (shut_bool Try.underlying4 _), (trodAll_cons_mk (Below.trod laidOut (by kernel_rfl) (of_decide_eq_true (by kernel_rfl)) k0 bel lt0) trodAll_mk0), rfl, bel.frame _, fun h => by cases h⟩

theorem over : Rows.costSortsRow.holds Try.pinned (OpenSpec.ofChange Rows.costSortsSpec) :=
  OpenClaim.holds_of_wide 9 Try.f9 rfl rfl rfl rfl rfl rfl rfl ⟨rfl, rfl, rfl, rfl, rfl⟩ rfl rfl rfl rfl rfl (by kernel_rfl) Try.func9 (by kernel_rfl)
    (of_decide_eq_true (by kernel_rfl)) (by unfold Func.isWrapper; first | (rw [if_pos (by decide +kernel)]; kernel_rfl) | (rw [if_neg (by decide +kernel)]; exact ⟨rfl, rfl⟩))
    (fun os started H enc _ => lifted os started H enc)

/-- The statement. -/
theorem proved : Rows.CostSortsSaid := over
#print axioms proved
end Go.Proofs.Yteilgnjjfebogaa.costSorts
