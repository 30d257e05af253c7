import Derived.Test.YteilgnjjfebogaaJ
namespace Go.Proofs.Yteilgnjjfebogaa
set_option linter.unusedVariables false
set_option linter.unusedSimpArgs false
open Go.RowKit

theorem sortStable_any (w0 : World) (g n cap : Nat) (hn : n ≤ 1152921504606846976) (p : Addr) (cf : Int → Int → Int) (R : Int → Int → Prop) (hc : CmpOK w0 g n p cf) (ho : OrdOK n cf R)
    (f : Nat → Int) (hr : Rng n f) (hidx : ∀ i j, i < j → j < n → f i < f j) (w : World) (h : SW w0 g n f w) :
    Calls Try.prog 34 #[.slice (some ⟨g, 0, none⟩) n cap, .func (.func 33) #[] #[.pointer (some p)]] w
      fun e w' => e = .returned (.tuple #[]) ∧ ∃ f', SW w0 g n f' w' ∧ PermOn f f' 0 n ∧ RiseOn R f' 0 n := by
  have HC := Lib.hid hc
  have HO := Lib.hid ho
  have HI := Lib.hid hidx
  have HR := Lib.hid hr
  clear hc ho hidx hr
  go_enter Try.func34, Try.ntmps34
  go_wp2_with fail
  go_at_call 36
  refine (stable_any w0 g n cap hn p cf R HC.out HO.out f HR.out HI.out _ h).mono ?_
  rintro e w' ⟨rfl, f', h1, h2, h3⟩
  go_wp2_with fail
  go_end0
  exact ⟨rfl, f', h1, h2, h3⟩

/-- Which of two places is ahead in the order: by what stands there, then by the place. -/
def RL (l : List Nat) (x y : Int) : Prop := lessB (at0 l x.toNat) (at0 l y.toNat) = true ∨ lessB (at0 l y.toNat) (at0 l x.toNat) = false ∧ x < y

theorem less_key (l : List Nat) (hl : lt64 l) (i j : Nat) : lessB (at0 l i) (at0 l j) = decide (keyI (at0 l i : Nat) < keyI (at0 l j : Nat)) := lessB_key _ _ (at0_lt l hl i) (at0_lt l hl j)

theorem RL_iff (l : List Nat) (hl : lt64 l) (x y : Int) : RL l x y ↔ keyI (at0 l x.toNat : Nat) < keyI (at0 l y.toNat : Nat) ∨ keyI (at0 l x.toNat : Nat) = keyI (at0 l y.toNat : Nat) ∧ x < y := by
  unfold RL
  rw [less_key l hl, less_key l hl]
  simp only [decide_eq_true_eq, decide_eq_false_iff_not]
  omega

theorem cmpL_iff (l : List Nat) (x y : Int) : cmpL l x y < 0 ↔ lessB (at0 l x.toNat) (at0 l y.toNat) = true := by
  unfold cmpL
  split
  · simp [*]
  · split <;> simp [*]

theorem ord_ok (l : List Nat) (hl : lt64 l) (n : Nat) : OrdOK n (cmpL l) (RL l) where
  lt x y h1 h2 h3 h4 h := by rw [cmpL_iff, RL_iff l hl, less_key l hl]; simp only [decide_eq_true_eq]; omega
  not_ x y h1 h2 h3 h4 h hn := by rw [RL_iff l hl] at *; omega
  trans x y z h1 h2 := by rw [RL_iff l hl] at *; omega

theorem order_n (a : Option Addr) (cap n : Nat) (l : List Nat) (hn : n = l.length) (hl : lt64 l) (hm : n * 8 ≤ 140737488351232) (w : World)
    (hr : RowF w a n (fun k => .float .f64 (at0 l k))) :
    Calls Try.prog 24 #[.slice a n cap] w fun e w' => ∃ (g : Nat) (f : Nat → Int), e = .returned (.slice (some ⟨g, 0, none⟩) n n) ∧ g < w'.heap.size ∧ w.heap.size ≤ g ∧
      RowF w' (some ⟨g, 0, none⟩) n (fun k => .int .i64 (f k)) ∧ (∀ k, w'.frozen? ⟨g, k, none⟩ = false) ∧ (∀ k, k < n → 0 ≤ f k ∧ f k < n) ∧ (∀ i j, i < n → j < n → f i = f j → i = j) ∧ RiseOn (RL l) f 0 n ∧ Below w.heap.size w w' := by
  have HR := Lib.hid hr
  have HL := Lib.hid hl
  clear hr hl
  obtain ⟨i0, hi, hz0, hz1, hz2⟩ := info_parts info3
  have hmk : ∀ wx : World, (Instr.makeSlice 39 (.int .i64 n) (.int .i64 n)).run Try.prog wx = .ok (.slice (some ⟨wx.heap.size, 0, none⟩) n n) (wx.alloc (.cells (madeCells #[.int .i64 0] n) 3)) := fun wx => by
    have := run_make (P := Try.prog) wx 39 3 i0 (.int .i64 0) Try.underlying39 hi hz0 .i64 .i64 n n (by omega) (by omega) (by rw [hz2]; omega) (by omega)
    rw [hz1] at this
    simp only [Int.toNat_natCast, Nat.mul_one] at this
    exact this
  have hnb : n ≤ 17592186043904 := by omega
  have HN := Lib.hid hn
  have HM := Lib.hid hm
  clear hn hi hz0 hz1 hz2 hm
  go_enter Try.func24, Try.ntmps24
  go_wp2
  have hB1 : Below w.heap.size w ((w.alloc (.cells #[.slice a n cap] 35)).alloc (.cells (madeCells #[.int .i64 0] n) 3)) := ((Below.refl _ _).alloc (Nat.le_refl _) _).alloc (by simp) _
  have hS1 : SW ((w.alloc (.cells #[.slice a n cap] 35)).alloc (.cells (madeCells #[.int .i64 0] n) 3)) (w.heap.size + 1) n (fun k => if k < 0 then k else 0) ((w.alloc (.cells #[.slice a n cap] 35)).alloc (.cells (madeCells #[.int .i64 0] n) 3)) := by
    refine ⟨rfl, rfl, rfl, rfl, fun _ _ => rfl, madeCells #[.int .i64 0] n, ?_, size_madeCells _ _, fun k hk => ?_⟩
    · have := heap_alloc_new (w.alloc (.cells #[.slice a n cap] 35)) (.cells (madeCells #[.int .i64 0] n) 3)
      simpa using this
    · simp [madeCells, hk, Nat.mod_one]
  have hC1 : ((w.alloc (.cells #[.slice a n cap] 35)).alloc (.cells (madeCells #[.int .i64 0] n) 3)).cell? ⟨w.heap.size, 0, none⟩ = some (.slice a n cap) := by simp
  have hZ1 : ((w.alloc (.cells #[.slice a n cap] 35)).alloc (.cells (madeCells #[.int .i64 0] n) 3)).heap.size = w.heap.size + 2 := by simp
  generalize (w.alloc (.cells #[.slice a n cap] 35)).alloc (.cells (madeCells #[.int .i64 0] n) 3) = W1 at *
  obtain ⟨g, hg⟩ : ∃ g, g = w.heap.size + 1 := ⟨_, rfl⟩
  rw [← hg] at hS1
  have hB0 : w.heap.size < g := by omega
  have HC1 := Lib.hid hC1
  have HZ1 := Lib.hid hZ1
  have HS1 := Lib.hid hS1
  have HB1 := Lib.hid hB1
  rw [← hg]
  have HG := Lib.hid hg
  clear hC1 hZ1 hS1 hB1 hmk hg
  go_loopw [11] (fun vi wr => ∃ i : Nat, vi = .int .i64 i ∧ i ≤ n ∧ SW W1 g n (fun k => if k < i then k else 0) wr) (fun vi _ => n - (intOf vi).toNat)
  case atStart => exact ⟨0, rfl, Nat.zero_le _, HS1.out⟩
  case round =>
    obtain ⟨i, rfl, hin, HS⟩ := hrel
    by_cases hlt : i < n
    · have c1 := HS.cell (k := i) hlt
      have f1 := HS.free i
      have q1 : (i : Int) < (n : Int) := by omega
      go_wp2
      go_roundw
      case rel =>
        refine ⟨i + 1, by go_num, by omega, (HS.set hlt (i : Int)).congr fun k hk => ?_⟩
        (repeat' split) <;> first | rfl | (exfalso; omega) | omega
      case measure => simp [intOf] <;> omega
    · obtain rfl : i = n := by omega
      have hcmp : CmpOK W1 g i ⟨w.heap.size, 0, none⟩ (cmpL l) := fun f w2 x y h2 hx0 hx hy0 hy => by
        have e := HN.out
        refine cmp_any l a cap ⟨w.heap.size, 0, none⟩ x y hx0 (by omega) hy0 (by omega) (by omega) w2 ?_ ?_
        · rw [h2.far (p := ⟨w.heap.size, 0, none⟩) (by simp; omega), HC1.out, e]
        · rw [← e]
          intro k hk
          obtain ⟨b, off, e1, hc⟩ := HR.out k hk
          have hlt2 := World.block_lt_of_cell? w _ hc
          refine ⟨b, off, e1, ?_⟩
          rw [h2.far (p := ⟨b, off + k, none⟩) (by simp at *; omega), HB1.out.cell (p := ⟨b, off + k, none⟩) hlt2]
          exact hc
      have HCMP := Lib.hid hcmp
      clear hcmp
      go_wp2_with fail
      go_at_call 34
      refine (sortStable_any W1 g i i (by omega) ⟨w.heap.size, 0, none⟩ (cmpL l) (RL l) HCMP.out (ord_ok l HL.out i) _ (fun k hk => by simp only [hk, if_true]; omega) (fun p q h1 h2 => by simp only [h2, show p < i by omega, if_true]; omega) _ HS).mono ?_
      rintro e w2 ⟨rfl, f', HS2, P2, R2⟩
      go_wp2
      go_ret
      have hsz : w2.heap.size = w.heap.size + 2 := by rw [HS2.size, HZ1.out]
      have hg := HG.out
      obtain ⟨s, s1, s2, s3, s4⟩ := P2
      have hfs : ∀ k, k < i → f' k = (s k : Int) := fun k hk => by
        have := s2 k (Nat.zero_le _) hk
        rw [s4]; simp only [this.2, if_true]
      refine ⟨g, f', rfl, by omega, by omega, fun k hk => ⟨g, 0, rfl, ?_⟩, fun k => HS2.free k, fun k hk => ?_, fun p q hp hq hpq => ?_, R2, ?_⟩
      · rw [Nat.zero_add]; exact HS2.cell hk
      · have := s2 k (Nat.zero_le _) hk
        rw [hfs k hk]; omega
      · rw [hfs p hp, hfs q hq] at hpq
        exact s3 p q (by omega)
      · exact HB1.out.trans ⟨HS2.os, HS2.tape, HS2.output, by rw [HS2.size]; exact Nat.le_refl _, fun k hk => HS2.other k (by omega)⟩
end Go.Proofs.Yteilgnjjfebogaa
