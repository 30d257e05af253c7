import Derived.Test.YteilgnjjfebogaaK
namespace Go.Proofs.Yteilgnjjfebogaa
set_option linter.unusedVariables false
set_option linter.unusedSimpArgs false
open Go.RowKit

theorem rightB_one : rightB 4607182418800017408 = true := by decide
theorem lessB_12 : lessB 4607182418800017408 4611686018427387904 = true := by decide
theorem lessB_21 : lessB 4611686018427387904 4607182418800017408 = false := by decide
theorem addN_12 : addN 4607182418800017408 4611686018427387904 = 4613937818241073152 := by decide
theorem sumL_ex : sumL [4602678819172646912, 4598175219545276416] = 4604930618986332160 := by kernel_rfl
theorem leastL_ex : leastL [4613937818241073152, 4607182418800017408] 2 = 1 := by kernel_rfl
theorem order_ex (f : Nat → Int) (h1 : ∀ k, k < 2 → 0 ≤ f k ∧ f k < 2) (h2 : ∀ i j, i < 2 → j < 2 → f i = f j → i = j) (h3 : RiseOn (RL [4611686018427387904, 4607182418800017408]) f 0 2) : f 0 = 1 ∧ f 1 = 0 := by
  have a0 := h1 0 (by omega)
  have a1 := h1 1 (by omega)
  have hne : f 0 ≠ f 1 := fun e => absurd (h2 0 1 (by omega) (by omega) e) (by omega)
  have hr := h3 0 1 (by omega) (by omega) (by omega)
  by_cases h : f 0 = 0
  · have h' : f 1 = 1 := by omega
    rw [h, h'] at hr
    rw [RL_iff _ (by intro x hx; simp at hx; omega)] at hr
    exact absurd hr (by decide)
  · omega

theorem rowF_two (w : World) (b : Nat) (u v : Value) (h0 : w.cell? ⟨b, 0, none⟩ = some u) (h1 : w.cell? ⟨b, 1, none⟩ = some v) (f : Nat → Value) (e0 : f 0 = u) (e1 : f 1 = v) : RowF w (some ⟨b, 0, none⟩) 2 f := fun k hk => by
  refine ⟨b, 0, rfl, ?_⟩
  match k, hk with
  | 0, _ => rw [e0]; exact h0
  | 1, _ => rw [e1]; exact h1

set_option maxHeartbeats 1000000 in
set_option maxRecDepth 100000 in
theorem awake_any (w : World) : Calls Try.prog 16 #[] w fun e w' => e = .returned (.bool true) ∧ Below w.heap.size w w' := by
  go_enter Try.func16, Try.ntmps16
  go_wp2_with fail
  go_at_call 24
  refine (order_n (some ⟨w.heap.size, 0, none⟩) 2 2 [4611686018427387904, 4607182418800017408] rfl (by intro x hx; simp at hx; omega) (by omega) _ (rowF_two _ w.heap.size (.float .f64 4611686018427387904) (.float .f64 4607182418800017408) (by simp) (by simp) _ rfl rfl)).mono ?_
  rintro e w1 ⟨g, f, rfl, hgl, hg, hrow, hfz, hf1, hf2, hf3, hb1⟩
  obtain ⟨e0, e1⟩ := order_ex f hf1 hf2 hf3
  have hb : Below w.heap.size w w1 := ((Below.refl _ _).alloc (Nat.le_refl _) _).trans (hb1.mono (by simp))
  clear hf1 hf2 hf3 hb1 hfz
  have hg2 : w.heap.size ≤ g := by simp at hg; omega
  have hrow2 : RowF w1 (some ⟨g, 0, none⟩) [(1 : Int), 0].length (fun k => .int .i64 (atI [1, 0] k)) := fun k hk => by
    obtain ⟨b, off, h1, h2⟩ := hrow k hk
    refine ⟨b, off, h1, ?_⟩
    rw [h2]
    match k, hk with
    | 0, _ => simp [e0, atI]
    | 1, _ => simp [e1, atI]
  clear hrow e0 e1 hg
  have HROW := Lib.hid hrow2
  have HG := Lib.hid hgl
  have HB := Lib.hid hb
  clear hrow2 hgl hb
  have o1 : FloatKind.f64.format.order 4613937818241073152 4613937818241073152 = some .eq := by decide
  have o2 : FloatKind.f64.format.order 4604930618986332160 4604930618986332160 = some .eq := by decide
  have n1 : (4607182418800017408 : Nat) < 18446744073709551616 := by omega
  have n2 : (4611686018427387904 : Nat) < 18446744073709551616 := by omega
  go_wp2_with (first
    | (go_at_call 12; (with_reducible refine (right_any _ _).mono ?_); rintro e w' ⟨rfl, rfl⟩; rw [rightB_one])
    | (go_at_call 14; (with_reducible refine (less_any _ _ _).mono ?_); rintro e w' ⟨rfl, rfl⟩; first | rw [lessB_12] | rw [lessB_21])
    | (go_at_call 17; (with_reducible refine (add_nat _ _ n1 n2 _).mono ?_); rintro e w' ⟨rfl, rfl⟩; rw [addN_12]))
  go_at_call 20
  refine (sum_any (some ⟨w1.heap.size, 0, none⟩) 2 [4602678819172646912, 4598175219545276416] (by intro x hx; simp at hx; omega) (by simp) _ (rowF_two _ w1.heap.size (.float .f64 4602678819172646912) (.float .f64 4598175219545276416) (by simp) (by simp) _ rfl rfl)).mono ?_
  rintro e w' ⟨rfl, rfl⟩
  rw [sumL_ex]
  go_wp2_with fail
  go_at_call 26
  refine (least_any (some ⟨w1.heap.size + 1, 0, none⟩) 2 [4613937818241073152, 4607182418800017408] (by simp) _ (rowF_two _ (w1.heap.size + 1) (.float .f64 4613937818241073152) (.float .f64 4607182418800017408) (by simp) (by simp) _ rfl rfl)).mono ?_
  rintro e w' ⟨rfl, rfl⟩
  have hle : leastL [4613937818241073152, 4607182418800017408] [4613937818241073152, 4607182418800017408].length = 1 := leastL_ex
  rw [hle]
  clear hle
  go_wp2_with fail
  go_at_call 25
  refine (ints_any (some ⟨g, 0, none⟩) (some ⟨w1.heap.size + 1 + 1, 0, none⟩) 2 2 [1, 0] [1, 0] (by simp) (by simp) _ ?_ ?_).mono ?_
  · exact HROW.out.below ((((Below.refl _ _).alloc (Nat.le_refl _) _).alloc (by simp) _).alloc (by simp; omega) _)
  · refine rowF_two _ (w1.heap.size + 1 + 1) (.int .i64 1) (.int .i64 0) ?_ ?_ _ rfl rfl <;> (rw [World.cell?_alloc_at _ _ _ _ (by simp)]; rfl)
  rintro e w2 ⟨rfl, hd⟩
  have hb2 : Below w.heap.size w w2 := by
    have h0 := HB.out
    have h1 := h0.size
    exact ((((h0.alloc h1 _).alloc (by simp; omega) _).alloc (by simp; omega) _)).trans (hd.below _)
  have HB2 := Lib.hid hb2
  clear hd hb2
  go_wp2
  go_ret
  exact ⟨rfl, HB2.out⟩
end Go.Proofs.Yteilgnjjfebogaa
