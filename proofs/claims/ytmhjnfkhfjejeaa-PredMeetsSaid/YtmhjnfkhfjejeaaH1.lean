import Derived.Test.YtmhjnfkhfjejeaaG7
namespace Go.Proofs.Ytmhjnfkhfjejeaa
set_option linter.unusedVariables false
set_option linter.unusedSimpArgs false
open Go.RowKit Go.Proofs.YtmhjnfkhfjejeaaW.PrintWords Go.Proofs.YtmhjnfkhfjejeaaW.PrintLast Go.Proofs.YtmhjnfkhfjejeaaW.PrintMore
open PPredCubes
/-! ### Whole, In, Pick, Meet -/
theorem boxTo_ok {c : List S47} (hc : okC c) (k : Nat) : (boxTo c k).ok := by
  induction k with
  | zero => exact z67_ok
  | succ k ih =>
    have h := okC_at hc k
    obtain ⟨f, v, m, e, hv, hm⟩ := okT_nat h
    intro i
    simp only [boxTo]
    rw [e]
    exact ⟨upd_lt (fun i => (ih i).1) (by simpa using hm) i, upd_lt (fun i => (ih i).2) (by simpa using hv) i⟩
theorem boxOr_ok {c : List S47} (hc : okC c) : (boxOr c).ok := by
  unfold boxOr; split
  · exact boxTo_ok hc _
  · exact z67_ok
theorem boxed_v (A : Option Addr) (cap : Nat) (c : List S47) (hc : okC c) (w : World) (hr : k47.C w A c.length c) :
    Calls Try.prog 44 #[.slice A c.length cap] w fun e w' => e = .returned (.tuple #[.agg (boxOr c).cs, .bool (wholeC c)]) ∧ Below w.heap.size w w' :=
  (boxed_any A cap c hc w hr).mono fun e w' h => ⟨h.1, h.2⟩
set_option maxHeartbeats 4000000 in
set_option maxRecDepth 100000 in
theorem wholec_any (A : Option Addr) (cap : Nat) (c : List S47) (hc : okC c) (w : World) (hr : k47.C w A c.length c) :
    Calls Try.prog 16 #[.slice A c.length cap] w fun e w' => e = .returned (.bool (wholeC c)) ∧ Below w.heap.size w w' := by
  have HR := Lib.hid hr
  have HC := Lib.hid hc
  clear hr hc
  go_enter Try.func16, Try.ntmps16
  go_wp2_with fail
  go_at_call 44
  refine (boxed_v A cap c HC.out w HR.out).mono ?_
  rintro e w1 ⟨rfl, hb⟩
  have HB := Lib.hid hb
  obtain ⟨b, hbq⟩ : ∃ b, boxOr c = b := ⟨_, rfl⟩
  obtain ⟨x, hx⟩ : ∃ x, wholeC c = x := ⟨_, rfl⟩
  have HX := Lib.hid hx
  rw [hbq, hx]
  clear hb hbq hx
  go_wp2_with (refine wpList_new rfl rfl 3 rfl 67 (.tmp 8) rfl rfl z67.cs b.cs ?hr rfl rfl info67 rfl (Bx.all_one _) ?_; (case hr => first | (go_simp; done) | (go_simp; rfl)); intro g3 w2 hg3 k3 hb3; have HB3 := Lib.hid (HB.out.trans (hb3.mono HB.out.size)); clear k3 hb3)
  go_ret
  exact ⟨ret_bool HX.out.symm, HB3.out⟩
/-- Does a test hold of values? -/
def holdT (l : List Nat) (t : S47) : Bool := holdsB l t.f0 t.f1.toNat t.f2.toNat
def inTo (c : List S47) (l : List Nat) : Nat → Bool
  | 0 => wholeC c
  | k + 1 => inTo c l k && holdT l (atT c k)
/-- Are values in a cube? -/
def inC (c : List S47) (l : List Nat) : Bool := inTo c l c.length
theorem inTo_whole {c : List S47} {l : List Nat} (k : Nat) (h : inTo c l k = true) : wholeC c = true := by
  induction k with
  | zero => exact h
  | succ k ih => simp only [inTo, Bool.and_eq_true] at h; exact ih h.1
theorem wholeTo_at {c : List S47} (n : Nat) (h : wholeTo c n = true) (k : Nat) (hk : k < n) : tOK (atT c k) (lastF c k) = true := by
  induction n with
  | zero => omega
  | succ n ih =>
    simp only [wholeTo, Bool.and_eq_true] at h
    rcases Nat.lt_or_ge k n with h1 | h1
    · exact ih h.1 h1
    · obtain rfl : k = n := by omega
      exact h.2
theorem wholeC_at {c : List S47} (h : wholeC c = true) {k : Nat} (hk : k < c.length) : tOK (atT c k) (lastF c k) = true := wholeTo_at _ h k hk
theorem tOK_iff (t : S47) (last : Int) : tOK t last = true ↔ (1 ≤ t.f0 ∧ t.f0 < 10 ∧ t.f1.toNat &&& (18446744073709551615 - t.f2.toNat) = 0) ∧ t.f2 ≠ 0 ∧ last < t.f0 := by
  unfold tOK; rw [Bool.and_eq_true, Bool.and_eq_true, testB_iff, decide_eq_true_eq, decide_eq_true_eq]
set_option maxHeartbeats 4000000 in
set_option maxRecDepth 100000 in
theorem inc_any (A Av : Option Addr) (cap cv : Nat) (c : List S47) (vals : List Nat) (hc : okC c) (hvl : lt64 vals) (w : World) (hr : k47.C w A c.length c) (hv : RowF w Av vals.length (fun k => .int .u64 (at0 vals k))) :
    Calls Try.prog 17 #[.slice A c.length cap, .slice Av vals.length cv] w fun e w' => e = .returned (.bool (inC c vals)) ∧ Below w.heap.size w w' := by
  have HM : Hid (c.length ≤ 9223372036854775807) := Lib.hid hr.2.1
  have HR := Lib.hid hr
  have HC := Lib.hid hc
  have HV := Lib.hid hv
  have HVL := Lib.hid hvl
  clear hr hc hv hvl
  go_enter Try.func17, Try.ntmps17
  go_wp2_with fail
  go_at_call 16
  refine (wholec_any A cap c HC.out w HR.out).mono ?_
  rintro e w1 ⟨rfl, hb⟩
  have HB := Lib.hid hb
  obtain ⟨x, hx⟩ : ∃ x, wholeC c = x := ⟨_, rfl⟩
  have HX := Lib.hid hx
  rw [hx]
  clear hb hx
  go_wp2_with fail
  go_loopw [5, 12] (fun v5 vk wr => ∃ k : Nat, vk = .int .i64 k ∧ k ≤ c.length ∧ v5 = .bool (inTo c vals k) ∧ Below w.heap.size w wr) (fun _ vk _ => c.length - (intOf vk).toNat)
  case atStart => exact ⟨0, rfl, by omega, by rw [← HX.out]; rfl, HB.out⟩
  case round =>
    obtain ⟨k, rfl, hk, rfl, hw⟩ := hrel
    have HW := Lib.hid hw
    have hm := HM.out
    obtain ⟨y, hy⟩ : ∃ y, inTo c vals k = y := ⟨_, rfl⟩
    have HY := Lib.hid hy
    rw [hy]
    clear hw HB HX hy
    by_cases hlt : k < c.length
    · obtain ⟨ad, rfl, hl⟩ := rd47 (Kd.C_below HR.out HW.out) hlt
      obtain ⟨f, v, m, ht, hv64, hm64⟩ := okT_nat (okC_at HC.out k)
      rw [ht] at hl
      have HT := Lib.hid ht
      have HL := Lib.hid hl
      have q1 : (k : Int) < (c.length : Int) := by omega
      clear ht hl
      cases y with
      | false =>
        have HN : Hid (inTo c vals (k + 1) = false) := Lib.hid (by simp only [inTo]; rw [HY.out]; rfl)
        go_wp2_with (first
          | (refine wpList_load_at rfl 47 (.tmp 14) rfl (ad.add (k * 3)) rfl #[.int .i64 f, .int .u64 v, .int .u64 m] _ HL.out Try.underlying47 rfl info47s ?_)
          | (refine wpList_newz rfl rfl 7 rfl 47 (.tmp 15) rfl rfl rfl (.agg #[.int .i64 0, .int .u64 0, .int .u64 0]) #[.int .i64 f, .int .u64 v, .int .u64 m] info47z rfl rfl info47s rfl (by simp [Value.oneCell']) ?_; intro g7 w7 hg7 k7 hb7; have HB7 := Lib.hid (HW.out.trans (hb7.mono HW.out.size)); clear k7 hb7))
        go_roundw
        case rel => exact ⟨k + 1, by go_num, by omega, by rw [HN.out], HB7.out⟩
        case measure => simp [intOf] <;> omega
      | true =>
        have hw0 := inTo_whole k HY.out
        obtain ⟨⟨hf1, hf2, -⟩, -, -⟩ := (tOK_iff _ _).1 (wholeC_at hw0 hlt)
        rw [HT.out] at hf1
        replace hf1 : 1 ≤ f := hf1
        have HN : Hid (inTo c vals (k + 1) = holdsB vals f v m) := Lib.hid (by simp only [inTo]; rw [HY.out, HT.out]; simp [holdT])
        clear hw0 hf2
        go_wp2_with (first
          | (refine wpList_load_at rfl 47 (.tmp 14) rfl (ad.add (k * 3)) rfl #[.int .i64 f, .int .u64 v, .int .u64 m] _ HL.out Try.underlying47 rfl info47s ?_)
          | (refine wpList_newz rfl rfl 7 rfl 47 (.tmp 15) rfl rfl rfl (.agg #[.int .i64 0, .int .u64 0, .int .u64 0]) #[.int .i64 f, .int .u64 v, .int .u64 m] info47z rfl rfl info47s rfl (by simp [Value.oneCell']) ?_; intro g7 w7 hg7 k7 hb7; have d0 : w7.cell? ⟨g7, 0, none⟩ = some (.int .i64 f) := blk_cell k7 0; have d1 : w7.cell? ⟨g7, 1, none⟩ = some (.int .u64 (v : Int)) := blk_cell k7 1; have d2 : w7.cell? ⟨g7, 2, none⟩ = some (.int .u64 (m : Int)) := blk_cell k7 2; have HB7 := Lib.hid (HW.out.trans (hb7.mono HW.out.size)); clear k7 hb7))
        go_at_call 45
        refine (holds_any f v m (by omega) hm64 Av cv vals HVL.out w7 (HV.out.below HB7.out)).mono ?_
        rintro e w8 ⟨rfl, hb8⟩
        have HB8 := Lib.hid (HB7.out.trans (hb8.mono HB7.out.size))
        clear hb8 d0 d1 d2
        obtain ⟨z, hz⟩ : ∃ z, holdsB vals f v m = z := ⟨_, rfl⟩
        rw [hz] at HN ⊢
        clear hz
        go_wp2_with fail
        go_roundw
        case rel => exact ⟨k + 1, by go_num, by omega, by rw [HN.out], HB8.out⟩
        case measure => simp [intOf] <;> omega
    · obtain rfl : k = c.length := by omega
      go_wp2_with fail
      go_ret
      exact ⟨ret_bool HY.out.symm, HW.out⟩
/-! #### Pick -/
/-- What is picked of a box: its values. -/
def pickB (b : Bx) : List Nat := [b.v 0, b.v 1, b.v 2, b.v 3, b.v 4, b.v 5, b.v 6, b.v 7, b.v 8, b.v 9]
def pickC (c : List S47) : List Nat := if wholeC c then pickB (boxC c) else []
theorem pickB_at (b : Bx) : ∀ i, i < 10 → at0 (pickB b) i = b.v i := by apply cases10 <;> rfl
set_option maxHeartbeats 4000000 in
set_option maxRecDepth 100000 in
theorem pick_any (A : Option Addr) (cap : Nat) (c : List S47) (hc : okC c) (w : World) (hr : k47.C w A c.length c) :
    Calls Try.prog 15 #[.slice A c.length cap] w fun e w' => ∃ B d, e = .returned (.slice B (pickC c).length d) ∧ RowF w' B (pickC c).length (fun k => .int .u64 (at0 (pickC c) k)) ∧ Below w.heap.size w w' := by
  have HR := Lib.hid hr
  have HC := Lib.hid hc
  clear hr hc
  go_enter Try.func15, Try.ntmps15
  go_wp2_with fail
  go_at_call 44
  refine (boxed_v A cap c HC.out w HR.out).mono ?_
  rintro e w1 ⟨rfl, hb⟩
  have HB := Lib.hid hb
  obtain ⟨b, hbq⟩ : ∃ b, boxOr c = b := ⟨_, rfl⟩
  have HBQ := Lib.hid hbq
  rw [hbq]
  clear hb hbq
  cases hx : wholeC c with
  | false =>
    have HX := Lib.hid hx
    clear hx
    go_wp2_with (refine wpList_new rfl rfl 3 rfl 67 (.tmp 8) rfl rfl z67.cs b.cs ?hr rfl rfl info67 rfl (Bx.all_one _) ?_; (case hr => first | (go_simp; done) | (go_simp; rfl)); intro g3 w2 hg3 k3 hb3; have HB3 := Lib.hid (HB.out.trans (hb3.mono HB.out.size)); clear k3 hb3)
    go_ret
    have e : pickC c = [] := by unfold pickC; rw [HX.out]; rfl
    rw [e]
    exact ⟨none, 0, rfl, (fun k hk => by cases hk), HB3.out⟩
  | true =>
    have HX := Lib.hid hx
    clear hx
    go_wp2_with (refine wpList_new rfl rfl 3 rfl 67 (.tmp 8) rfl rfl z67.cs b.cs ?hr rfl rfl info67 rfl (Bx.all_one _) ?_; (case hr => first | (go_simp; done) | (go_simp; rfl)); intro g3 w2 hg3 k3 hb3; have K3 := Lib.hid k3; have HB3 := Lib.hid (HB.out.trans (hb3.mono HB.out.size)); clear k3 hb3)
    go_ret
    have e : pickC c = pickB b := by unfold pickC; rw [HX.out, if_pos rfl, ← HBQ.out]; unfold boxOr; rw [HX.out]; rfl
    rw [e]
    refine ⟨some ⟨g3, 10, none⟩, 10, rfl, fun k hk => ⟨g3, 10, rfl, ?_⟩, HB3.out⟩
    have hk' : k < 10 := hk
    show _ = some (Value.int .u64 ((at0 (pickB b) k : Nat) : Int))
    rw [pickB_at b k hk', blk_cell K3.out]
    exact bxc_v b.m b.v k hk'
/-! #### Meet -/
def meetOk (a b : List S47) : Bool := wholeC a && (wholeC b && meetB (boxC a) (boxC b))
def meetC (a b : List S47) : List S47 := if meetOk a b then cubeL (meetX (boxC a) (boxC b)) else []
theorem meetOk_1 {a b : List S47} (h : wholeC a = false) : meetOk a b = false := by unfold meetOk; rw [h]; rfl
theorem meetOk_2 {a b : List S47} (h : wholeC b = false) : meetOk a b = false := by unfold meetOk; rw [h]; simp
theorem meetOk_3 {a b : List S47} (h : meetB (boxOr a) (boxOr b) = false) : meetOk a b = false := by
  unfold meetOk
  cases h1 : wholeC a with
  | false => rfl
  | true =>
    cases h2 : wholeC b with
    | false => rfl
    | true => unfold boxOr at h; rw [h1, h2] at h; simpa using h
theorem meetOk_4 {a b : List S47} (h1 : wholeC a = true) (h2 : wholeC b = true) (h : meetB (boxOr a) (boxOr b) = true) : meetOk a b = true := by
  unfold meetOk; unfold boxOr at h; rw [h1, h2] at h ⊢; simpa using h
theorem meetC_no {a b : List S47} (h : meetOk a b = false) : meetC a b = [] := by unfold meetC; rw [h]; rfl
theorem meetC_yes {a b : List S47} (h : meetOk a b = true) : meetC a b = cubeL (meetX (boxOr a) (boxOr b)) := by
  have h1 : wholeC a = true ∧ wholeC b = true := by
    unfold meetOk at h; simp only [Bool.and_eq_true] at h; exact ⟨h.1, h.2.1⟩
  unfold meetC boxOr; rw [h, h1.1, h1.2]; rfl
set_option maxHeartbeats 4000000 in
set_option maxRecDepth 100000 in
theorem meetc_any (A B : Option Addr) (c d : Nat) (a b : List S47) (ha : okC a) (hb : okC b) (w : World) (hr : k47.C w A a.length a) (hr2 : k47.C w B b.length b) :
    Calls Try.prog 19 #[.slice A a.length c, .slice B b.length d] w fun e w' => ∃ v, e = .returned (.tuple #[v, .bool (meetOk a b)]) ∧ k47.R 47 w' w.heap.size (fun _ => True) v (meetC a b) ∧ Below w.heap.size w w' := by
  have HR := Lib.hid hr
  have HR2 := Lib.hid hr2
  have HA := Lib.hid ha
  have HB := Lib.hid hb
  clear hr hr2 ha hb
  go_enter Try.func19, Try.ntmps19
  go_wp2_with fail
  go_at_call 44
  refine (boxed_v A c a HA.out w HR.out).mono ?_
  rintro e w1 ⟨rfl, hb⟩
  have HB1 := Lib.hid hb
  have HOA := Lib.hid (boxOr_ok HA.out)
  obtain ⟨p, hp⟩ : ∃ p, boxOr a = p := ⟨_, rfl⟩
  have HPQ := Lib.hid hp
  rw [hp] at HOA ⊢
  obtain ⟨x, hx⟩ : ∃ x, wholeC a = x := ⟨_, rfl⟩
  have HX := Lib.hid hx
  rw [hx]
  clear hb hp hx
  go_wp2_with (refine wpList_new rfl rfl 6 rfl 67 (.tmp 15) rfl rfl z67.cs p.cs ?hr rfl rfl info67 rfl (Bx.all_one _) ?_; (case hr => first | (go_simp; done) | (go_simp; rfl)); intro g6 w2 hg6 k6 hb6; have K6 := Lib.hid k6; have HB2 := Lib.hid (HB1.out.trans (hb6.mono HB1.out.size)); clear k6 hb6)
  go_at_call 44
  refine (boxed_v B d b HB.out w2 (Kd.C_below HR2.out HB2.out)).mono ?_
  rintro e w3 ⟨rfl, hb⟩
  have K63 := Lib.hid (blk_below K6.out hb)
  have HB3 := Lib.hid (HB2.out.trans (hb.mono HB2.out.size))
  have HOB := Lib.hid (boxOr_ok HB.out)
  obtain ⟨q, hq⟩ : ∃ q, boxOr b = q := ⟨_, rfl⟩
  have HQQ := Lib.hid hq
  rw [hq] at HOB ⊢
  obtain ⟨y, hy⟩ : ∃ y, wholeC b = y := ⟨_, rfl⟩
  have HY := Lib.hid hy
  rw [hy]
  clear hb hq hy K6 HB1 HB2 hg6
  go_wp2_with (first
    | (refine wpList_new rfl rfl 8 rfl 67 (.tmp 20) rfl rfl z67.cs q.cs ?hr rfl rfl info67 rfl (Bx.all_one _) ?_; (case hr => first | (go_simp; done) | (go_simp; rfl)); intro g8 w4 hg8 k8 hb8; have K8 := Lib.hid k8; have K64 := Lib.hid (blk_below K63.out hb8); have HB4 := Lib.hid (HB3.out.trans (hb8.mono HB3.out.size)); clear k8 hb8)
    | (refine wpList_load_at rfl 67 (.tmp 6) rfl ⟨g6, 0, none⟩ rfl p.cs _ (Lies.of_block K64.out) Try.underlying67 rfl info67 ?_)
    | (refine wpList_load_at rfl 67 (.tmp 8) rfl ⟨g8, 0, none⟩ rfl q.cs _ (Lies.of_block K8.out) Try.underlying67 rfl info67 ?_))
  cases hm : meetB p q with
  | false =>
    have HN : Hid (meetOk a b = false) := Lib.hid (meetOk_3 (by rw [HPQ.out, HQQ.out, hm]))
    go_at_call 49
    refine (meet_no p q HOA.out HOB.out hm w4).mono ?_
    rintro e w5 ⟨rfl, hb5⟩
    have HB5 := Lib.hid (HB4.out.trans (hb5.mono HB4.out.size))
    clear hb5 hm
    cases x <;> cases y
    all_goals
      go_wp2_with (refine wpList_new rfl rfl 10 rfl 67 (.tmp 26) rfl rfl z67.cs z67.cs ?hr rfl rfl info67 rfl (Bx.all_one _) ?_; (case hr => first | (go_simp; done) | (go_simp; rfl)); intro g10 w6 hg10 k10 hb10; have K10 := Lib.hid k10; have HB6 := Lib.hid (HB5.out.trans (hb10.mono HB5.out.size)); clear k10 hb10)
      go_ret2
      exact ⟨_, ret_vb HN.out.symm, by rw [meetC_no HN.out]; exact Kd.R_nil _ _ _ _ _, HB6.out⟩
  | true =>
    go_at_call 49
    refine (meet_yes p q HOA.out HOB.out hm w4).mono ?_
    rintro e w5 ⟨rfl, hb5⟩
    have HB5 := Lib.hid (HB4.out.trans (hb5.mono HB4.out.size))
    have HM := Lib.hid hm
    have HMO := Lib.hid (meetX_ok HOA.out HOB.out)
    obtain ⟨mx, hmx⟩ : ∃ mx, meetX p q = mx := ⟨_, rfl⟩
    rw [hmx] at HMO ⊢
    have HMX := Lib.hid hmx
    clear hb5 hm hmx
    cases x with
    | false =>
      have HN : Hid (meetOk a b = false) := Lib.hid (meetOk_1 HX.out)
      go_wp2_with (refine wpList_new rfl rfl 10 rfl 67 (.tmp 26) rfl rfl z67.cs mx.cs ?hr rfl rfl info67 rfl (Bx.all_one _) ?_; (case hr => first | (go_simp; done) | (go_simp; rfl)); intro g10 w6 hg10 k10 hb10; have K10 := Lib.hid k10; have HB6 := Lib.hid (HB5.out.trans (hb10.mono HB5.out.size)); clear k10 hb10)
      go_ret2
      exact ⟨_, ret_vb HN.out.symm, by rw [meetC_no HN.out]; exact Kd.R_nil _ _ _ _ _, HB6.out⟩
    | true =>
      cases y with
      | false =>
        have HN : Hid (meetOk a b = false) := Lib.hid (meetOk_2 HY.out)
        go_wp2_with (refine wpList_new rfl rfl 10 rfl 67 (.tmp 26) rfl rfl z67.cs mx.cs ?hr rfl rfl info67 rfl (Bx.all_one _) ?_; (case hr => first | (go_simp; done) | (go_simp; rfl)); intro g10 w6 hg10 k10 hb10; have K10 := Lib.hid k10; have HB6 := Lib.hid (HB5.out.trans (hb10.mono HB5.out.size)); clear k10 hb10)
        go_ret2
        exact ⟨_, ret_vb HN.out.symm, by rw [meetC_no HN.out]; exact Kd.R_nil _ _ _ _ _, HB6.out⟩
      | true =>
        have HN : Hid (meetOk a b = true) := Lib.hid (meetOk_4 HX.out HY.out (by rw [HPQ.out, HQQ.out, HM.out]))
        have HMC : Hid (meetC a b = cubeL mx) := Lib.hid (by rw [meetC_yes HN.out, HPQ.out, HQQ.out, HMX.out])
        go_wp2_with (first
          | (refine wpList_new rfl rfl 10 rfl 67 (.tmp 26) rfl rfl z67.cs mx.cs ?hr rfl rfl info67 rfl (Bx.all_one _) ?_; (case hr => first | (go_simp; done) | (go_simp; rfl)); intro g10 w6 hg10 k10 hb10; have K10 := Lib.hid k10; have HB6 := Lib.hid (HB5.out.trans (hb10.mono HB5.out.size)); clear k10 hb10)
          | (refine wpList_load_at rfl 67 (.tmp 10) rfl ⟨g10, 0, none⟩ rfl mx.cs _ (Lies.of_block K10.out) Try.underlying67 rfl info67 ?_))
        go_at_call 43
        refine (cube_any mx HMO.out w6).mono ?_
        rintro e w7 ⟨v, rfl, hr, hb7⟩
        have HRV := Lib.hid hr
        have HB7 := Lib.hid (HB6.out.trans (hb7.mono HB6.out.size))
        obtain ⟨A', c', e'⟩ := Kd.R_slice hr
        clear hr hb7
        subst e'
        go_wp2_with fail
        go_ret2
        exact ⟨_, ret_vb HN.out.symm, by rw [HMC.out]; exact Kd.R_lower HRV.out HB6.out.size, HB7.out⟩
end Go.Proofs.Ytmhjnfkhfjejeaa
