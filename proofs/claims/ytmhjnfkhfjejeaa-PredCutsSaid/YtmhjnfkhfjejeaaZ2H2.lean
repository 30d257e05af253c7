import Derived.Test.YtmhjnfkhfjejeaaZ2H1
import Derived.Deep.RegionLaw
namespace Go.Proofs.Ytmhjnfkhfjejeaa
set_option linter.unusedVariables false
set_option linter.unusedSimpArgs false
open Go.RowKit Go.Proofs.YtmhjnfkhfjejeaaW.PrintWords Go.Proofs.YtmhjnfkhfjejeaaW.PrintLast Go.Proofs.YtmhjnfkhfjejeaaW.PrintMore
open PPredCubes
/-! ### Cut: the pieces as cubes -/
/-- The cell g holds a row of cubes of one's own, the cubes of boxes L. -/
def StC (g B : Nat) (ok : Nat → Prop) (L : List Bx) (W : World) : Prop := ∃ v, W.heap[g]? = some (.cells #[v] 26 (0, 0)) ∧ (Kd.slice 47 k47).R 33 W B (fun k => ok k ∧ k ≠ g) v (L.map cubeL)
set_option maxHeartbeats 4000000 in
set_option maxRecDepth 100000 in
theorem cut1_any (b : Bx) (hbo : b.ok) (g B : Nat) (ok : Nat → Prop) (L : List Bx) (w : World) (hS : StC g B ok L w) (hg : B ≤ g) (hB : B ≤ w.heap.size) (hok : ∀ k, w.heap.size ≤ k → ok k) (hl : L.length < 100000000000) :
    Calls Try.prog 53 #[.agg b.cs, .pointer (some ⟨g, 0, none⟩)] w fun e w' => e = .returned (.tuple #[]) ∧ StC g B ok (L ++ [b]) w' ∧ Keep ok g w w' ∧ Below B w w' := by
  obtain ⟨v, hv, hR⟩ := hS
  have HV := Lib.hid hv
  have HR := Lib.hid hR
  have HOK := Lib.hid hok
  have HBO := Lib.hid hbo
  clear hv hR hok hbo
  go_enter Try.func53, Try.ntmps53
  go_wp2_with (refine wpList_box rfl 2 rfl b.cs 67 ?hr ?_; (case hr => first | (go_simp; done) | (go_simp; rfl)); intro g2 w2 hg2 k2 hb2; have K2 := Lib.hid k2; have HB2 := Lib.hid hb2; have HV2 := Lib.hid (blk_below HV.out hb2); have c1 : w2.cell? ⟨g, 0, none⟩ = some v := (blk_cell HV2.out 0).trans rfl; clear k2 hb2)
  have HC43 : Hid (∀ W, Below w2.heap.size w2 W → Calls Try.prog 43 #[.agg b.cs] W fun e w' => ∃ A c, e = .returned (.slice A (cubeL b).length c) ∧ Hid (k47.R 47 w' w2.heap.size (fun _ => True) (.slice A (cubeL b).length c) (cubeL b)) ∧ Hid (Below w2.heap.size w2 w')) := Lib.hid fun W hW =>
    (cube_any b HBO.out W).mono fun e w' h => by
      obtain ⟨v, rfl, hr, hb⟩ := h
      obtain ⟨A, c, rfl⟩ := Kd.R_slice hr
      exact ⟨A, c, rfl, Lib.hid (Kd.R_lower hr hW.size), Lib.hid (hW.trans (hb.mono hW.size))⟩
  have HGL : Hid (g < w.heap.size) := Lib.hid (blk_lt HV.out)
  go_simp
  refine wp_region_any (by kernel_rfl) ?_
  change wpAny _ _ _ _ _ _ _ (World.drew _)
  refine wpAny_ready (rs := [0, 1]) (by kernel_rfl) (by simp) ?_
  refine AllReady.cons (i := 0) rfl (fun K hK => ?_) ?_
  · simp only [List.getElem_toArray, List.getElem_cons_succ, List.getElem_cons_zero]
    go_simp
    refine hK _ _ ?_
    clear hK K
    refine wpAny_ready (rs := [1]) (by kernel_rfl) (by simp) ?_
    refine AllReady.cons (i := 1) rfl (fun K hK => ?_) ?_
    · simp only [List.getElem_toArray, List.getElem_cons_succ, List.getElem_cons_zero]
      rw [if_pos (by rfl)]
      refine wp_load_at 67 (.tmp 2) rfl ⟨g2, 0, none⟩ rfl b.cs _ (Lies.of_block (w := w2.drew) K2.out) Try.underlying67 rfl info67 ?_
      simp only [Act.put, List.setIfInBounds_toArray, List.set_cons_zero, List.set_cons_succ]
      refine hK _ _ ?_
      clear hK K
      refine wpAny_ready (rs := [2]) (by kernel_rfl) (by simp) ?_
      refine AllReady.cons (i := 2) rfl (fun K hK => ?_) ?_
      · simp only [List.getElem_toArray, List.getElem_cons_succ, List.getElem_cons_zero]
        go_simp
        go_at_call 43
        refine (HC43.out _ (Below.drew (Below.refl _ _))).mono ?_
        rintro e w3 ⟨A9, c9, rfl, HR9, HI⟩
        have c1 : w3.cell? ⟨g, 0, none⟩ = some v := (blk_cell (blk_below HV2.out HI.out) 0).trans rfl
        have c2 : ∀ o, (w3.alloc o).cell? ⟨g, 0, none⟩ = some v := fun o => pw_cell_below ((Below.refl _ _).alloc (Nat.le_refl _) o) c1
        try go_simp
        refine hK _ _ ?_
        clear hK K
        refine wpAny_ready (rs := [3]) (by kernel_rfl) (by simp) ?_
        refine AllReady.cons (i := 3) rfl (fun K hK => ?_) ?_
        · simp only [List.getElem_toArray, List.getElem_cons_succ, List.getElem_cons_zero]
          go_simp
          refine hK _ _ ?_
          clear hK K
          refine wpAny_ready (rs := [4]) (by kernel_rfl) (by simp) ?_
          refine AllReady.cons (i := 4) rfl (fun K hK => ?_) ?_
          · skip
            refine Kd.R_append_step (Kd.slice 47 k47) (w0 := w) (W := w3) B (by rfl) (.tmp 3) (.tmp 6) 26 33 _ 24 (by rfl) Try.underlying26 info33 rfl (by decide) (by decide) v (L.map cubeL) (cubeL b) [.slice A9 (cubeL b).length c9] (fun k => ok k ∧ k ≠ g) (fun k => w2.heap.size ≤ k) (by rfl) (by rfl) ⟨_, rfl, Kd.R_lower (Kd.R_mono (Kd.R_bound HR9.out) (fun q hq => hq.2.1)) (Nat.le_trans hB HB2.out.size)⟩ (fun q hq => ⟨⟨HOK.out q (Nat.le_trans HB2.out.size hq), fun e => by have := HGL.out; have := HB2.out.size; omega⟩, fun e => by have := Kd.R_lt HR.out q e.symm; have := HB2.out.size; omega⟩) (fun q hq => ⟨HOK.out q (Nat.le_trans (Nat.le_trans HB2.out.size HI.out.size) hq), fun e => by have := HGL.out; have := HB2.out.size; have := HI.out.size; omega⟩) (Kd.R_below (Kd.R_below HR.out HB2.out) HI.out) ((HB2.out.trans (HI.out.mono HB2.out.size)).mono hB) (Nat.le_trans hB (Nat.le_trans HB2.out.size HI.out.size)) (by rw [List.length_map]; omega) ?_
            intro v1 w4 hr1 hb1 hg1 hat1
            obtain ⟨A1, n1, e1⟩ := Kd.R_slice hr1
            subst e1
            have hv4 : w4.heap[g]? = some (.cells #[v] 26 (0, 0)) := blk_grown (blk_below HV2.out HI.out) hg1 (fun e => (HR.out.1 _ e.symm).2 rfl)
            have c4 : w4.cell? ⟨g, 0, none⟩ = some v := (blk_cell hv4 0).trans rfl
            have f4 := blk_frozen hv4 0
            try go_simp
            refine hK _ _ ?_
            clear hK K
            refine wpAny_ready (rs := [5]) (by kernel_rfl) (by simp) ?_
            refine AllReady.cons (i := 5) rfl (fun K hK => ?_) ?_
            · simp only [List.getElem_toArray, List.getElem_cons_succ, List.getElem_cons_zero]
              go_simp
              refine hK _ _ ?_
              clear hK K
              refine wpAny_done (by kernel_rfl) ?_ _
              go_wp2_with fail
              go_end0
              refine ⟨rfl, ⟨_, blk_put hv4 0 _ rfl, ?_⟩, fun k hk ho hkg => ?_, hb1.setCell hg _⟩
              · rw [show (List.map cubeL L ++ [cubeL b]).length = L.length + 1 by simp] at hr1
                rw [List.map_append]
                exact Kd.R_far (p := ⟨g, 0, none⟩) hr1 (fun k hk => hk.2) _
              · rw [Below.heap_setCell w4 ⟨g, 0, none⟩ _ k hkg, hg1.block k (Nat.lt_of_lt_of_le hk (Nat.le_trans HB2.out.size HI.out.size)) (fun e => ho (HR.out.1 k e.symm).1), HI.out.block k (Nat.lt_of_lt_of_le hk HB2.out.size)]
                exact HB2.out.block k hk
            exact AllReady.nil
          exact AllReady.nil
        exact AllReady.nil
      exact AllReady.nil
    exact AllReady.nil
  refine AllReady.cons (i := 1) rfl (fun K hK => ?_) ?_
  · simp only [List.getElem_toArray, List.getElem_cons_succ, List.getElem_cons_zero]
    rw [if_pos (by rfl)]
    refine wp_load_at 67 (.tmp 2) rfl ⟨g2, 0, none⟩ rfl b.cs _ (Lies.of_block (w := w2.drew) K2.out) Try.underlying67 rfl info67 ?_
    simp only [Act.put, List.setIfInBounds_toArray, List.set_cons_zero, List.set_cons_succ]
    refine hK _ _ ?_
    clear hK K
    refine wpAny_ready (rs := [0, 2]) (by kernel_rfl) (by simp) ?_
    refine AllReady.cons (i := 0) rfl (fun K hK => ?_) ?_
    · simp only [List.getElem_toArray, List.getElem_cons_succ, List.getElem_cons_zero]
      go_simp
      refine hK _ _ ?_
      clear hK K
      refine wpAny_ready (rs := [2]) (by kernel_rfl) (by simp) ?_
      refine AllReady.cons (i := 2) rfl (fun K hK => ?_) ?_
      · simp only [List.getElem_toArray, List.getElem_cons_succ, List.getElem_cons_zero]
        go_simp
        go_at_call 43
        refine (HC43.out _ (Below.drew (Below.refl _ _))).mono ?_
        rintro e w3 ⟨A9, c9, rfl, HR9, HI⟩
        have c1 : w3.cell? ⟨g, 0, none⟩ = some v := (blk_cell (blk_below HV2.out HI.out) 0).trans rfl
        have c2 : ∀ o, (w3.alloc o).cell? ⟨g, 0, none⟩ = some v := fun o => pw_cell_below ((Below.refl _ _).alloc (Nat.le_refl _) o) c1
        try go_simp
        refine hK _ _ ?_
        clear hK K
        refine wpAny_ready (rs := [3]) (by kernel_rfl) (by simp) ?_
        refine AllReady.cons (i := 3) rfl (fun K hK => ?_) ?_
        · simp only [List.getElem_toArray, List.getElem_cons_succ, List.getElem_cons_zero]
          go_simp
          refine hK _ _ ?_
          clear hK K
          refine wpAny_ready (rs := [4]) (by kernel_rfl) (by simp) ?_
          refine AllReady.cons (i := 4) rfl (fun K hK => ?_) ?_
          · skip
            refine Kd.R_append_step (Kd.slice 47 k47) (w0 := w) (W := w3) B (by rfl) (.tmp 3) (.tmp 6) 26 33 _ 24 (by rfl) Try.underlying26 info33 rfl (by decide) (by decide) v (L.map cubeL) (cubeL b) [.slice A9 (cubeL b).length c9] (fun k => ok k ∧ k ≠ g) (fun k => w2.heap.size ≤ k) (by rfl) (by rfl) ⟨_, rfl, Kd.R_lower (Kd.R_mono (Kd.R_bound HR9.out) (fun q hq => hq.2.1)) (Nat.le_trans hB HB2.out.size)⟩ (fun q hq => ⟨⟨HOK.out q (Nat.le_trans HB2.out.size hq), fun e => by have := HGL.out; have := HB2.out.size; omega⟩, fun e => by have := Kd.R_lt HR.out q e.symm; have := HB2.out.size; omega⟩) (fun q hq => ⟨HOK.out q (Nat.le_trans (Nat.le_trans HB2.out.size HI.out.size) hq), fun e => by have := HGL.out; have := HB2.out.size; have := HI.out.size; omega⟩) (Kd.R_below (Kd.R_below HR.out HB2.out) HI.out) ((HB2.out.trans (HI.out.mono HB2.out.size)).mono hB) (Nat.le_trans hB (Nat.le_trans HB2.out.size HI.out.size)) (by rw [List.length_map]; omega) ?_
            intro v1 w4 hr1 hb1 hg1 hat1
            obtain ⟨A1, n1, e1⟩ := Kd.R_slice hr1
            subst e1
            have hv4 : w4.heap[g]? = some (.cells #[v] 26 (0, 0)) := blk_grown (blk_below HV2.out HI.out) hg1 (fun e => (HR.out.1 _ e.symm).2 rfl)
            have c4 : w4.cell? ⟨g, 0, none⟩ = some v := (blk_cell hv4 0).trans rfl
            have f4 := blk_frozen hv4 0
            try go_simp
            refine hK _ _ ?_
            clear hK K
            refine wpAny_ready (rs := [5]) (by kernel_rfl) (by simp) ?_
            refine AllReady.cons (i := 5) rfl (fun K hK => ?_) ?_
            · simp only [List.getElem_toArray, List.getElem_cons_succ, List.getElem_cons_zero]
              go_simp
              refine hK _ _ ?_
              clear hK K
              refine wpAny_done (by kernel_rfl) ?_ _
              go_wp2_with fail
              go_end0
              refine ⟨rfl, ⟨_, blk_put hv4 0 _ rfl, ?_⟩, fun k hk ho hkg => ?_, hb1.setCell hg _⟩
              · rw [show (List.map cubeL L ++ [cubeL b]).length = L.length + 1 by simp] at hr1
                rw [List.map_append]
                exact Kd.R_far (p := ⟨g, 0, none⟩) hr1 (fun k hk => hk.2) _
              · rw [Below.heap_setCell w4 ⟨g, 0, none⟩ _ k hkg, hg1.block k (Nat.lt_of_lt_of_le hk (Nat.le_trans HB2.out.size HI.out.size)) (fun e => ho (HR.out.1 k e.symm).1), HI.out.block k (Nat.lt_of_lt_of_le hk HB2.out.size)]
                exact HB2.out.block k hk
            exact AllReady.nil
          exact AllReady.nil
        exact AllReady.nil
      exact AllReady.nil
    refine AllReady.cons (i := 2) rfl (fun K hK => ?_) ?_
    · simp only [List.getElem_toArray, List.getElem_cons_succ, List.getElem_cons_zero]
      go_simp
      go_at_call 43
      refine (HC43.out _ (Below.drew (Below.refl _ _))).mono ?_
      rintro e w3 ⟨A9, c9, rfl, HR9, HI⟩
      have c1 : w3.cell? ⟨g, 0, none⟩ = some v := (blk_cell (blk_below HV2.out HI.out) 0).trans rfl
      have c2 : ∀ o, (w3.alloc o).cell? ⟨g, 0, none⟩ = some v := fun o => pw_cell_below ((Below.refl _ _).alloc (Nat.le_refl _) o) c1
      try go_simp
      refine hK _ _ ?_
      clear hK K
      refine wpAny_ready (rs := [0, 3]) (by kernel_rfl) (by simp) ?_
      refine AllReady.cons (i := 0) rfl (fun K hK => ?_) ?_
      · simp only [List.getElem_toArray, List.getElem_cons_succ, List.getElem_cons_zero]
        go_simp
        refine hK _ _ ?_
        clear hK K
        refine wpAny_ready (rs := [3]) (by kernel_rfl) (by simp) ?_
        refine AllReady.cons (i := 3) rfl (fun K hK => ?_) ?_
        · simp only [List.getElem_toArray, List.getElem_cons_succ, List.getElem_cons_zero]
          go_simp
          refine hK _ _ ?_
          clear hK K
          refine wpAny_ready (rs := [4]) (by kernel_rfl) (by simp) ?_
          refine AllReady.cons (i := 4) rfl (fun K hK => ?_) ?_
          · skip
            refine Kd.R_append_step (Kd.slice 47 k47) (w0 := w) (W := w3) B (by rfl) (.tmp 3) (.tmp 6) 26 33 _ 24 (by rfl) Try.underlying26 info33 rfl (by decide) (by decide) v (L.map cubeL) (cubeL b) [.slice A9 (cubeL b).length c9] (fun k => ok k ∧ k ≠ g) (fun k => w2.heap.size ≤ k) (by rfl) (by rfl) ⟨_, rfl, Kd.R_lower (Kd.R_mono (Kd.R_bound HR9.out) (fun q hq => hq.2.1)) (Nat.le_trans hB HB2.out.size)⟩ (fun q hq => ⟨⟨HOK.out q (Nat.le_trans HB2.out.size hq), fun e => by have := HGL.out; have := HB2.out.size; omega⟩, fun e => by have := Kd.R_lt HR.out q e.symm; have := HB2.out.size; omega⟩) (fun q hq => ⟨HOK.out q (Nat.le_trans (Nat.le_trans HB2.out.size HI.out.size) hq), fun e => by have := HGL.out; have := HB2.out.size; have := HI.out.size; omega⟩) (Kd.R_below (Kd.R_below HR.out HB2.out) HI.out) ((HB2.out.trans (HI.out.mono HB2.out.size)).mono hB) (Nat.le_trans hB (Nat.le_trans HB2.out.size HI.out.size)) (by rw [List.length_map]; omega) ?_
            intro v1 w4 hr1 hb1 hg1 hat1
            obtain ⟨A1, n1, e1⟩ := Kd.R_slice hr1
            subst e1
            have hv4 : w4.heap[g]? = some (.cells #[v] 26 (0, 0)) := blk_grown (blk_below HV2.out HI.out) hg1 (fun e => (HR.out.1 _ e.symm).2 rfl)
            have c4 : w4.cell? ⟨g, 0, none⟩ = some v := (blk_cell hv4 0).trans rfl
            have f4 := blk_frozen hv4 0
            try go_simp
            refine hK _ _ ?_
            clear hK K
            refine wpAny_ready (rs := [5]) (by kernel_rfl) (by simp) ?_
            refine AllReady.cons (i := 5) rfl (fun K hK => ?_) ?_
            · simp only [List.getElem_toArray, List.getElem_cons_succ, List.getElem_cons_zero]
              go_simp
              refine hK _ _ ?_
              clear hK K
              refine wpAny_done (by kernel_rfl) ?_ _
              go_wp2_with fail
              go_end0
              refine ⟨rfl, ⟨_, blk_put hv4 0 _ rfl, ?_⟩, fun k hk ho hkg => ?_, hb1.setCell hg _⟩
              · rw [show (List.map cubeL L ++ [cubeL b]).length = L.length + 1 by simp] at hr1
                rw [List.map_append]
                exact Kd.R_far (p := ⟨g, 0, none⟩) hr1 (fun k hk => hk.2) _
              · rw [Below.heap_setCell w4 ⟨g, 0, none⟩ _ k hkg, hg1.block k (Nat.lt_of_lt_of_le hk (Nat.le_trans HB2.out.size HI.out.size)) (fun e => ho (HR.out.1 k e.symm).1), HI.out.block k (Nat.lt_of_lt_of_le hk HB2.out.size)]
                exact HB2.out.block k hk
            exact AllReady.nil
          exact AllReady.nil
        exact AllReady.nil
      refine AllReady.cons (i := 3) rfl (fun K hK => ?_) ?_
      · simp only [List.getElem_toArray, List.getElem_cons_succ, List.getElem_cons_zero]
        go_simp
        refine hK _ _ ?_
        clear hK K
        refine wpAny_ready (rs := [0]) (by kernel_rfl) (by simp) ?_
        refine AllReady.cons (i := 0) rfl (fun K hK => ?_) ?_
        · simp only [List.getElem_toArray, List.getElem_cons_succ, List.getElem_cons_zero]
          go_simp
          refine hK _ _ ?_
          clear hK K
          refine wpAny_ready (rs := [4]) (by kernel_rfl) (by simp) ?_
          refine AllReady.cons (i := 4) rfl (fun K hK => ?_) ?_
          · skip
            refine Kd.R_append_step (Kd.slice 47 k47) (w0 := w) (W := w3) B (by rfl) (.tmp 3) (.tmp 6) 26 33 _ 24 (by rfl) Try.underlying26 info33 rfl (by decide) (by decide) v (L.map cubeL) (cubeL b) [.slice A9 (cubeL b).length c9] (fun k => ok k ∧ k ≠ g) (fun k => w2.heap.size ≤ k) (by rfl) (by rfl) ⟨_, rfl, Kd.R_lower (Kd.R_mono (Kd.R_bound HR9.out) (fun q hq => hq.2.1)) (Nat.le_trans hB HB2.out.size)⟩ (fun q hq => ⟨⟨HOK.out q (Nat.le_trans HB2.out.size hq), fun e => by have := HGL.out; have := HB2.out.size; omega⟩, fun e => by have := Kd.R_lt HR.out q e.symm; have := HB2.out.size; omega⟩) (fun q hq => ⟨HOK.out q (Nat.le_trans (Nat.le_trans HB2.out.size HI.out.size) hq), fun e => by have := HGL.out; have := HB2.out.size; have := HI.out.size; omega⟩) (Kd.R_below (Kd.R_below HR.out HB2.out) HI.out) ((HB2.out.trans (HI.out.mono HB2.out.size)).mono hB) (Nat.le_trans hB (Nat.le_trans HB2.out.size HI.out.size)) (by rw [List.length_map]; omega) ?_
            intro v1 w4 hr1 hb1 hg1 hat1
            obtain ⟨A1, n1, e1⟩ := Kd.R_slice hr1
            subst e1
            have hv4 : w4.heap[g]? = some (.cells #[v] 26 (0, 0)) := blk_grown (blk_below HV2.out HI.out) hg1 (fun e => (HR.out.1 _ e.symm).2 rfl)
            have c4 : w4.cell? ⟨g, 0, none⟩ = some v := (blk_cell hv4 0).trans rfl
            have f4 := blk_frozen hv4 0
            try go_simp
            refine hK _ _ ?_
            clear hK K
            refine wpAny_ready (rs := [5]) (by kernel_rfl) (by simp) ?_
            refine AllReady.cons (i := 5) rfl (fun K hK => ?_) ?_
            · simp only [List.getElem_toArray, List.getElem_cons_succ, List.getElem_cons_zero]
              go_simp
              refine hK _ _ ?_
              clear hK K
              refine wpAny_done (by kernel_rfl) ?_ _
              go_wp2_with fail
              go_end0
              refine ⟨rfl, ⟨_, blk_put hv4 0 _ rfl, ?_⟩, fun k hk ho hkg => ?_, hb1.setCell hg _⟩
              · rw [show (List.map cubeL L ++ [cubeL b]).length = L.length + 1 by simp] at hr1
                rw [List.map_append]
                exact Kd.R_far (p := ⟨g, 0, none⟩) hr1 (fun k hk => hk.2) _
              · rw [Below.heap_setCell w4 ⟨g, 0, none⟩ _ k hkg, hg1.block k (Nat.lt_of_lt_of_le hk (Nat.le_trans HB2.out.size HI.out.size)) (fun e => ho (HR.out.1 k e.symm).1), HI.out.block k (Nat.lt_of_lt_of_le hk HB2.out.size)]
                exact HB2.out.block k hk
            exact AllReady.nil
          exact AllReady.nil
        exact AllReady.nil
      exact AllReady.nil
    exact AllReady.nil
  exact AllReady.nil
theorem StC.below {g B : Nat} {ok : Nat → Prop} {L : List Bx} {w w' : World} (h : StC g B ok L w) (hb : Below w.heap.size w w') : StC g B ok L w' := by
  obtain ⟨v, hv, hR⟩ := h
  exact ⟨v, blk_below hv hb, Kd.R_below hR hb⟩
theorem StC.mono {g B : Nat} {ok ok' : Nat → Prop} {L : List Bx} {w : World} (h : StC g B ok L w) (hok : ∀ k, ok k → ok' k) : StC g B ok' L w := by
  obtain ⟨v, hv, hR⟩ := h
  exact ⟨v, hv, Kd.R_mono hR (fun k hk => ⟨hok k hk.1, hk.2⟩)⟩
theorem StC.bound {g B : Nat} {ok : Nat → Prop} {L : List Bx} {w : World} (h : StC g B ok L w) : StC g B (fun k => ok k ∧ k < w.heap.size) L w := by
  obtain ⟨v, hv, hR⟩ := h
  exact ⟨v, hv, Kd.R_mono (Kd.R_bound hR) (fun k hk => ⟨⟨hk.1.1, hk.2.2.1⟩, hk.1.2⟩)⟩
theorem StC.lt {g B : Nat} {ok : Nat → Prop} {L : List Bx} {w : World} (h : StC g B ok L w) : g < w.heap.size := by
  obtain ⟨v, hv, _⟩ := h
  exact blk_lt hv
/-- A block that is not the row's has turned. -/
theorem StC.step {g B : Nat} {ok : Nat → Prop} {L : List Bx} {w w' : World} (h : StC g B ok L w) (hg : w'.heap[g]? = w.heap[g]?) (hk : ∀ k, ok k → k < w.heap.size → w'.heap[k]? = w.heap[k]?) : StC g B ok L w' := by
  obtain ⟨v, hv, hR⟩ := h
  exact ⟨v, hg.trans hv, Kd.R_step hR (fun k ho hlt => hk k ho.1 hlt)⟩

set_option maxHeartbeats 4000000 in
set_option maxRecDepth 100000 in
theorem cutc_any (b o : Bx) (hb : b.ok) (ho : o.ok) (g B : Nat) (ok : Nat → Prop) (L : List Bx) (w : World) (hok : ∀ k, w.heap.size ≤ k → ok k) (hS : StC g B ok L w) (hg : B ≤ g) (hB : B ≤ w.heap.size) (hl : L.length < 1000000000) :
    Calls Try.prog 52 #[.agg b.cs, .agg o.cs, .func (.func 53) #[] #[.pointer (some ⟨g, 0, none⟩)]] w fun e w' => e = .returned (.tuple #[]) ∧ StC g B ok (L ++ cutL b o) w' ∧ Keep ok g w w' ∧ Below B w w' := by
  have HS := Lib.hid hS
  have HBo := Lib.hid hb
  have HOo := Lib.hid ho
  have HOK := Lib.hid hok
  clear hS hb ho hok
  go_enter Try.func52, Try.ntmps52
  go_wp2_with (first
    | (refine wpList_box rfl 3 rfl b.cs 67 ?hr ?_; (case hr => first | (go_simp; done) | (go_simp; rfl)); intro g3 w3 hg3 k3 hb3; have K3 := Lib.hid k3; have HB3 := Lib.hid hb3; clear k3 hb3)
    | (refine wpList_box rfl 4 rfl o.cs 67 ?hr ?_; (case hr => first | (go_simp; done) | (go_simp; rfl)); intro g4 w4 hg4 k4 hb4; have K4 := Lib.hid k4; have HB4 := Lib.hid hb4; have K34 := Lib.hid (blk_below K3.out hb4); clear k4 hb4)
    | (refine wpList_load_at rfl 67 (.tmp 3) rfl ⟨g3, 0, none⟩ rfl b.cs _ (Lies.of_block K34.out) Try.underlying67 rfl info67 ?_)
    | (refine wpList_load_at rfl 67 (.tmp 4) rfl ⟨g4, 0, none⟩ rfl o.cs _ (Lies.of_block K4.out) Try.underlying67 rfl info67 ?_))
  have hS4 := HS.out.bound.below (HB3.out.trans (HB4.out.mono HB3.out.size))
  have hb4 := HB3.out.trans (HB4.out.mono HB3.out.size)
  have hne : g3 ≠ g4 ∧ w.heap.size ≤ g3 ∧ w.heap.size ≤ g4 := ⟨by have := blk_lt K3.out; rw [hg4.out]; omega, by rw [hg3.out]; omega, by rw [hg4.out]; exact HB3.out.size⟩
  have HN := Lib.hid hne
  have HG3 : Hid (g ≠ g3 ∧ g ≠ g4) := Lib.hid ⟨fun e => by have := HS.out.lt; have := HN.out.2.1; omega, fun e => by have := HS.out.lt; have := HN.out.2.2; omega⟩
  have HS4 := Lib.hid hS4
  have HW4 := Lib.hid hb4
  clear hS4 hb4 hne hg3 hg4 HB3 HB4 K3
  by_cases hm : meetB b o = true
  · go_at_call 49
    refine (meet_yes b o HBo.out HOo.out hm w4).mono ?_
    rintro e w5 ⟨rfl, hb5⟩
    have K35 := Lib.hid (blk_below K34.out hb5)
    have K45 := Lib.hid (blk_below K4.out hb5)
    have HS5 := Lib.hid (HS4.out.below hb5)
    have HW5 := Lib.hid (HW4.out.trans (hb5.mono HW4.out.size))
    have HM := Lib.hid hm
    clear hb5 hm K34 HS4 HW4 K4
    go_wp2_with (first
      | (refine wpList_new rfl rfl 6 rfl 67 (.tmp 16) rfl rfl z67.cs (meetX b o).cs ?hr rfl rfl info67 rfl (Bx.all_one _) ?_; (case hr => first | (go_simp; done) | (go_simp; rfl)); intro g6 w6 hg6 k6 hb6; have K36 := Lib.hid (blk_below K35.out hb6); have K46 := Lib.hid (blk_below K45.out hb6); have HS6 := Lib.hid (HS5.out.below hb6); have HW6 := Lib.hid (HW5.out.trans (hb6.mono HW5.out.size)); clear k6 hb6 hg6))
    have hs6 : StC g B (fun k => ok k ∧ k ≠ g3 ∧ k ≠ g4) L w6 := HS6.out.mono fun k hk => ⟨hk.1, fun e => by have := HN.out.2.1; omega, fun e => by have := HN.out.2.2; omega⟩
    have HSS := Lib.hid hs6
    have HW := Lib.hid (HW6.out.mono hB)
    have HKP := Lib.hid ((Keep.refl ok g w).below (Nat.le_refl _) HW6.out)
    clear hs6 HS6 HW6 HS5 HW5 K35 K45
    have HEQ : Hid (L ++ cutFrom o 10 0 b = L ++ cutL b o) := Lib.hid (by unfold cutL; rw [if_pos HM.out])
    have HLEN := Lib.hid (cutL_len b o)
    obtain ⟨R, hR⟩ : ∃ R, R = L ++ cutL b o := ⟨_, rfl⟩
    have HRL : Hid (R.length < 1000001000) := Lib.hid (by rw [hR, List.length_append]; have := HLEN.out; omega)
    rw [← hR] at HEQ
    have HRQ := Lib.hid hR
    clear hR HLEN
    go_loopw [23] (fun vf wr => ∃ (f : Nat) (cur : Bx) (Lc : List Bx), vf = .int .i64 f ∧ f ≤ 10 ∧ BoxAt wr g3 cur.m cur.v ∧ BoxAt wr g4 o.m o.v ∧ StC g B (fun k => ok k ∧ k ≠ g3 ∧ k ≠ g4) Lc wr ∧ Hid cur.ok ∧ Hid (Lc ++ cutFrom o (10 - f) f cur = R) ∧ Hid (Keep ok g w wr) ∧ Below B w wr) (fun vf _ => 10 - (intOf vf).toNat)
    case atStart => exact ⟨0, b, L, rfl, by omega, K36.out, K46.out, HSS.out, HBo, HEQ, HKP, HW.out⟩
    case round =>
      obtain ⟨f, cur, Lc, rfl, hf, hx, hy, hs, HCO, HE, HK1, hw⟩ := hrel
      have HX := Lib.hid hx
      have HY := Lib.hid hy
      have HS1 := Lib.hid hs
      have HW1 := Lib.hid hw
      clear hx hy hs hw K36 K46 HSS HW HEQ HS HBo HKP
      by_cases hlt : f < 10
      · have c1 := HX.out.m hlt
        have c2 := HY.out.m hlt
        have q1 : (f : Int) < 10 := by omega
        have B1 := Go.u64_andNot_nat (o.m f) (cur.m f) (HOo.out f).1 (HCO.out f).1
        go_wp2_with fail
        go_quiet (fail)
        generalize hW2 : wr.drewN _ = W2
        have HX2 : Hid (BoxAt W2 g3 cur.m cur.v) := Lib.hid (hW2 ▸ HX.out)
        have HY2 : Hid (BoxAt W2 g4 o.m o.v) := Lib.hid (hW2 ▸ HY.out)
        have HS2 : Hid (StC g B (fun k => ok k ∧ k ≠ g3 ∧ k ≠ g4) Lc W2) := Lib.hid (hW2 ▸ HS1.out.below (pw_below_drewN (Below.refl _ _) _))
        have HW2 : Hid (Below B w W2) := Lib.hid (hW2 ▸ pw_below_drewN HW1.out _)
        have HK2 : Hid (Keep ok g w W2) := hW2 ▸ HK1
        have HL0 := Lib.hid (leftOf_lt (b := cur) HOo.out f)
        have HE2 : Hid (Lc ++ ((cutBits o f 64 cur (leftOf cur o f)).1 ++ cutFrom o (9 - f) (f + 1) (cutBits o f 64 cur (leftOf cur o f)).2) = R) := Lib.hid (by
          rw [← HE.out, show 10 - f = (9 - f) + 1 by omega]; rfl)
        clear hW2 HX HY HS1 HW1 HK1 c1 c2 B1 HE
        have e0 : (o.m f &&& 18446744073709551615 - cur.m f) = leftOf cur o f := rfl
        rw [e0]
        clear e0
        obtain ⟨left0, hl0⟩ : ∃ l, leftOf cur o f = l := ⟨_, rfl⟩
        rw [hl0] at HL0 HE2 ⊢
        clear hl0
        go_wp2_with fail
        obtain ⟨wo, rfl⟩ : ∃ wo : World, wo = W2 := ⟨_, rfl⟩
        go_loopw [9] (fun v9 wr => ∃ (n left : Nat) (c : Bx) (Lc : List Bx), v9 = .int .u64 left ∧ Hid (left < 2 ^ n) ∧ n ≤ 64 ∧ BoxAt wr g3 c.m c.v ∧ BoxAt wr g4 o.m o.v ∧ StC g B (fun k => ok k ∧ k ≠ g3 ∧ k ≠ g4) Lc wr ∧ Hid c.ok ∧ Hid (Lc ++ ((cutBits o f n c left).1 ++ cutFrom o (9 - f) (f + 1) (cutBits o f n c left).2) = R) ∧ Hid (Keep ok g w wr) ∧ Below B w wr) (fun v9 _ => (intOf v9).toNat)
        case atStart => exact ⟨64, left0, cur, Lc, rfl, Lib.hid (by have := HL0.out; omega), by omega, HX2.out, HY2.out, HS2.out, HCO, HE2, HK2, HW2.out⟩
        case round =>
          obtain ⟨n, left, c, Lc, rfl, HLT, hn, hx, hy, hs, HCK, HE, HK1, hw⟩ := hrel
          have HX := Lib.hid hx
          have HY := Lib.hid hy
          have HS1 := Lib.hid hs
          have HW1 := Lib.hid hw
          clear hx hy hs hw HX2 HY2 HS2 HW2 HL0 HE2 HCO HK2
          rcases Nat.eq_zero_or_pos left with h0 | h0
          · subst h0
            go_wp2
            refine ⟨⟨f + 1, c, Lc, by first | rfl | go_num, by omega, HX.out, HY.out, HS1.out, HCK, Lib.hid ?_, HK1, HW1.out⟩, by simp [intOf] <;> omega⟩
            have h := HE.out
            rw [cutBits_zero] at h
            rw [← h, show 10 - (f + 1) = 9 - f by omega]
            rfl
          · have h64 : left < 18446744073709551616 := by
              have h1 := HLT.out
              have h2 : 2 ^ n ≤ 2 ^ 64 := Nat.pow_le_pow_right (by omega) hn
              omega
            have z1 : ((left : Int) != 0) = true := by simp; omega
            go_wp2_with fail
            go_at_call 64
            refine (len64_any left h64 _).mono ?_
            rintro e w' ⟨Ln, rfl, hl1, hl2, rfl⟩
            obtain ⟨hl3, hl4⟩ := hl2
            obtain ⟨hl5, hl6⟩ := hl4 h0
            obtain ⟨i, rfl⟩ : ∃ i, Ln = i + 1 := ⟨Ln - 1, by omega⟩
            rw [Nat.add_sub_cancel] at hl6
            have hin : i + 1 ≤ n := by
              rcases Nat.lt_or_ge i n with h | h
              · exact h
              · have h1 := HLT.out
                have h2 : 2 ^ n ≤ 2 ^ i := Nat.pow_le_pow_right (by omega) h
                omega
            have HST := Lib.hid (cutBits_step o f c left i n hl6 hl3 hin)
            obtain ⟨bit, hbit⟩ : ∃ bit, 2 ^ i = bit := ⟨_, rfl⟩
            have HBIT := Lib.hid hbit
            have hb64 : bit < 18446744073709551616 := by omega
            have H3 := Lib.hid hl3
            have hle : bit ≤ left := by omega
            have w1 : IntKind.u64.wrap ((2 : Int) ^ i) = (bit : Int) := by
              rw [show ((2 : Int) ^ i) = (bit : Int) by rw [← hbit]; simp]
              exact IntWalk.u64_in _ ⟨by omega, by omega⟩
            obtain ⟨lp, hlp⟩ : ∃ lp, left - bit = lp := ⟨_, rfl⟩
            have w2 : IntKind.u64.wrap ((left : Int) - (bit : Int)) = (lp : Int) := by
              rw [show (left : Int) - (bit : Int) = (lp : Int) by omega]
              exact IntWalk.u64_in _ ⟨by omega, by omega⟩
            have HLP := Lib.hid hlp
            have hlt2 : lp < left := by have := Nat.two_pow_pos i; omega
            clear hl3 hl4 hl5 hl6 hbit hlp
            have c1 := HX.out.m hlt
            have f1 := HX.out.free f
            have B2 : Go.bits .or .u64 (c.m f : Int) (bit : Int) = ((c.m f ||| bit : Nat) : Int) := Go.u64_or_nat _ _ (HCK.out f).1 hb64
            have hx6 := HX.out.set_m hlt (c.m f ||| bit)
            have hy6 := HY.out.far (p := ⟨g3, f, none⟩) (fun e => HN.out.1 e.symm) (.int .u64 ((c.m f ||| bit : Nat) : Int))
            have hs6 : StC g B (fun k => ok k ∧ k ≠ g3 ∧ k ≠ g4) Lc (wr.setCell ⟨g3, f, none⟩ (.int .u64 ((c.m f ||| bit : Nat) : Int))) := HS1.out.step (Below.heap_setCell wr _ _ g HG3.out.1) (fun k hk _ => Below.heap_setCell wr _ _ k hk.2.1)
            have hw6 := HW1.out.setCell (p := ⟨g3, f, none⟩) (Nat.le_trans hB HN.out.2.1) (.int .u64 ((c.m f ||| bit : Nat) : Int))
            have HX6 := Lib.hid hx6
            have HY6 := Lib.hid hy6
            have HS6 := Lib.hid hs6
            have HW6 := Lib.hid hw6
            have HK6 := Lib.hid (HK1.out.far (p := ⟨g3, f, none⟩) HN.out.2.1 (.int .u64 ((c.m f ||| bit : Nat) : Int)))
            clear hx6 hy6 hs6 hw6
            go_wp2_with (first
              | (refine wpList_load_at rfl 67 (.tmp 3) rfl ⟨g3, 0, none⟩ rfl (bxc (upd c.m f (c.m f ||| bit)) c.v) _ (Lies.of_block HX6.out) Try.underlying67 rfl info67 ?_; generalize wr.setCell ⟨g3, f, none⟩ (.int .u64 ((c.m f ||| bit : Nat) : Int)) = W6 at HX6 HY6 HS6 HW6 HK6 ⊢; clear HX HY HS1 HW1 HK1 c1 f1 B2)
              | (refine wpList_new rfl rfl 11 rfl 67 (.tmp 52) rfl rfl z67.cs (bxc (upd c.m f (c.m f ||| bit)) c.v) ?hr rfl rfl info67 rfl (bxc_one _ _) ?_; (case hr => first | (go_simp; done) | (go_simp; rfl)); intro g11 W11 hg11 k11 hb11; have K11 := Lib.hid k11; have HB11 := Lib.hid hb11; clear k11 hb11))
            have hn11 : g11 ≠ g3 ∧ g11 ≠ g4 := ⟨fun e => by have := HX6.out.lt; have := hg11.out; omega, fun e => by have := HY6.out.lt; have := hg11.out; omega⟩
            have HN11 := Lib.hid hn11
            have hx7 : BoxAt W11 g3 (upd c.m f (c.m f ||| bit)) c.v := blk_below HX6.out HB11.out
            have hy7 : BoxAt W11 g4 o.m o.v := blk_below HY6.out HB11.out
            have hp7 : BoxAt W11 g11 (upd c.m f (c.m f ||| bit)) c.v := K11.out
            have hs7 : StC g B (fun k => (ok k ∧ k ≠ g3 ∧ k ≠ g4) ∧ k ≠ g11) Lc W11 := (HS6.out.bound.below HB11.out).mono (fun k hk => ⟨hk.1, fun e => by have := hk.2; have := hg11.out; omega⟩)
            have HX7 := Lib.hid hx7
            have HY7 := Lib.hid hy7
            have HP7 := Lib.hid hp7
            have HS7 := Lib.hid hs7
            have HW7 := Lib.hid (HW6.out.trans (HB11.out.mono (Nat.le_trans hB (by have := HX6.out.lt; have := HN.out.2.1; omega))))
            have HK7 := Lib.hid (HK6.out.below HW6.out.size HB11.out)
            have HG11b : Hid (w.heap.size ≤ g11) := Lib.hid (by have := HX6.out.lt; have := HN.out.2.1; have := hg11.out; omega)
            have HG11 : Hid (B ≤ g11) := Lib.hid (by have := HX6.out.lt; have := HN.out.2.1; have := hg11.out; omega)
            have HGG : Hid (g ≠ g11) := Lib.hid (fun e => by have := HS6.out.lt; have := hg11.out; omega)
            have d1 := hp7.v hlt
            have d2 := hy7.v hlt
            have d3 := hp7.free (10 + f)
            clear hx7 hy7 hp7 hs7 hn11 HX6 HY6 HS6 HW6 HK6 K11 HB11
            have B3 : Go.bits .xor .u64 18446744073709551615 (o.v f : Int) = ((18446744073709551615 - o.v f : Nat) : Int) := u64_not (HOo.out f).2
            have B4 : Go.bits .and .u64 ((18446744073709551615 - o.v f : Nat) : Int) (bit : Int) = (((18446744073709551615 - o.v f) &&& bit : Nat) : Int) := Go.u64_and_nat _ _ (by omega) hb64
            have B5 : Go.bits .or .u64 (c.v f : Int) (((18446744073709551615 - o.v f) &&& bit : Nat) : Int) = ((c.v f ||| ((18446744073709551615 - o.v f) &&& bit) : Nat) : Int) := Go.u64_or_nat _ _ (HCK.out f).2 (lt_and (by omega))
            have E5 : Go.bits .or .u64 (c.v f : Int) (Go.bits .and .u64 (Go.bits .xor .u64 (if IntKind.u64.signed = true then -1 else IntKind.u64.max) (o.v f : Int)) (bit : Int)) = (((pieceOf c o f bit).v f : Nat) : Int) := by
              rw [show (if IntKind.u64.signed = true then -1 else IntKind.u64.max) = (18446744073709551615 : Int) from rfl, B3, B4, B5]
              unfold pieceOf upd; simp
            have HE5 := Lib.hid E5
            clear B3 B4 B5 E5
            go_wp2_with fail
            go_still_tail 14, (by kernel_rfl)
            change wpList _ _ _ _ _ W11.drew
            rw [HE5.out]
            have d4 : W11.drew.cell? ⟨g11, 10 + f, none⟩ = some (.int .u64 (c.v f)) := d1
            have d5 : W11.drew.frozen? ⟨g11, 10 + f, none⟩ = false := d3
            have HP7d : Hid (BoxAt W11.drew g11 (upd c.m f (c.m f ||| bit)) c.v) := HP7
            have HX7d : Hid (BoxAt W11.drew g3 (upd c.m f (c.m f ||| bit)) c.v) := HX7
            have HY7d : Hid (BoxAt W11.drew g4 o.m o.v) := HY7
            have HS7d : Hid (StC g B (fun k => (ok k ∧ k ≠ g3 ∧ k ≠ g4) ∧ k ≠ g11) Lc W11.drew) := Lib.hid (HS7.out.below (below_drew (Below.refl _ _)))
            have HW7d : Hid (Below B w W11.drew) := Lib.hid HW7.out.drew
            have HK7d : Hid (Keep ok g w W11.drew) := HK7
            clear d1 d2 d3 HE5 HP7 HX7 HY7 HS7 HW7 HK7
            generalize W11.drew = Wd at d4 d5 HP7d HX7d HY7d HS7d HW7d HK7d ⊢
            have hp8 := HP7d.out.set_v hlt ((pieceOf c o f bit).v f)
            have hx8 := HX7d.out.far (p := ⟨g11, 10 + f, none⟩) (fun e => HN11.out.1 e.symm) (.int .u64 (((pieceOf c o f bit).v f : Nat) : Int))
            have hy8 := HY7d.out.far (p := ⟨g11, 10 + f, none⟩) (fun e => HN11.out.2 e.symm) (.int .u64 (((pieceOf c o f bit).v f : Nat) : Int))
            have hs8 : StC g B (fun k => (ok k ∧ k ≠ g3 ∧ k ≠ g4) ∧ k ≠ g11) Lc (Wd.setCell ⟨g11, 10 + f, none⟩ (.int .u64 (((pieceOf c o f bit).v f : Nat) : Int))) := HS7d.out.step (Below.heap_setCell Wd _ _ g HGG.out) (fun k hk _ => Below.heap_setCell Wd _ _ k hk.2)
            have hw8 := HW7d.out.setCell (p := ⟨g11, 10 + f, none⟩) HG11.out (.int .u64 (((pieceOf c o f bit).v f : Nat) : Int))
            have HP8 : Hid ((Wd.setCell ⟨g11, 10 + f, none⟩ (.int .u64 (((pieceOf c o f bit).v f : Nat) : Int))).heap[g11]? = some (.cells (pieceOf c o f bit).cs 67 (0, 0))) := Lib.hid (hp8.congr (m' := (pieceOf c o f bit).m) (v' := (pieceOf c o f bit).v) (fun _ _ => rfl) (fun i _ => by unfold pieceOf upd; simp))
            have HX8 := Lib.hid hx8
            have HY8 := Lib.hid hy8
            have HS8 := Lib.hid hs8
            have HW8 := Lib.hid hw8
            have HK8 := Lib.hid (HK7d.out.far (p := ⟨g11, 10 + f, none⟩) HG11b.out (.int .u64 (((pieceOf c o f bit).v f : Nat) : Int)))
            clear hp8 hx8 hy8 hs8 hw8 HP7d HX7d HY7d HS7d HW7d HK7d
            have HLC : Hid (Lc.length < 1000001000) := Lib.hid (by have := HRL.out; rw [← HE.out, List.length_append] at this; omega)
            go_wp2_with (refine wpList_load_at rfl 67 (.tmp 11) rfl ⟨g11, 0, none⟩ rfl (pieceOf c o f bit).cs _ (Lies.of_block HP8.out) Try.underlying67 rfl info67 ?_; generalize Wd.setCell ⟨g11, 10 + f, none⟩ (.int .u64 (((pieceOf c o f bit).v f : Nat) : Int)) = W8 at HP8 HX8 HY8 HS8 HW8 HK8 ⊢)
            go_at_call 53
            refine (cut1_any (pieceOf c o f bit) (pieceOf_ok HCK.out hb64) g B (fun k => (ok k ∧ k ≠ g3 ∧ k ≠ g4) ∧ k ≠ g11) Lc W8 HS8.out hg (by have := HX8.out.lt; have := HN.out.2.1; omega) (fun k hk => ⟨⟨HOK.out k (Nat.le_trans HW8.out.size hk), fun e => by have := HX8.out.lt; omega, fun e => by have := HY8.out.lt; omega⟩, fun e => by have := blk_lt HP8.out; omega⟩) (by have := HLC.out; omega)).mono ?_
            rintro e W9 ⟨rfl, hs9, hk9, hb9⟩
            have hx9 : BoxAt W9 g3 (upd c.m f (c.m f ||| bit)) c.v := (hk9 g3 HX8.out.lt (fun h => h.1.2.1 rfl) (fun e => HG3.out.1 e.symm)).trans HX8.out
            have hy9 : BoxAt W9 g4 o.m o.v := (hk9 g4 HY8.out.lt (fun h => h.1.2.2 rfl) (fun e => HG3.out.2 e.symm)).trans HY8.out
            have HX9 := Lib.hid hx9
            have HY9 := Lib.hid hy9
            have HS9 : Hid (StC g B (fun k => ok k ∧ k ≠ g3 ∧ k ≠ g4) (Lc ++ [pieceOf c o f bit]) W9) := Lib.hid (hs9.mono (fun k hk => hk.1))
            have HW9 := Lib.hid (HW8.out.trans hb9)
            have HK9 : Hid (Keep ok g w W9) := Lib.hid (HK8.out.trans HW8.out.size hk9 (fun _ _ h => h.1.1))
            have d1 := hx9.v hlt
            have d2 := hy9.v hlt
            have d3 := hx9.free (10 + f)
            clear hs9 hk9 hb9 hx9 hy9 HX8 HY8 HS8 HW8 HP8 HK8
            have E6 : Go.bits .or .u64 (c.v f : Int) (Go.bits .and .u64 (o.v f : Int) (bit : Int)) = (((nextOf c o f bit).v f : Nat) : Int) := by
              rw [Go.u64_and_nat _ _ (HOo.out f).2 hb64, Go.u64_or_nat _ _ (HCK.out f).2 (lt_and (HOo.out f).2)]
              unfold nextOf upd; simp
            have HE6 := Lib.hid E6
            clear E6
            go_wp2_with fail
            go_still_tail 13, (by kernel_rfl)
            change wpList _ _ _ _ _ W9.drew
            rw [HE6.out]
            have d4 : W9.drew.cell? ⟨g3, 10 + f, none⟩ = some (.int .u64 (c.v f)) := d1
            have d5 : W9.drew.frozen? ⟨g3, 10 + f, none⟩ = false := d3
            have HX9d : Hid (BoxAt W9.drew g3 (upd c.m f (c.m f ||| bit)) c.v) := HX9
            have HY9d : Hid (BoxAt W9.drew g4 o.m o.v) := HY9
            have HS9d : Hid (StC g B (fun k => ok k ∧ k ≠ g3 ∧ k ≠ g4) (Lc ++ [pieceOf c o f bit]) W9.drew) := Lib.hid (HS9.out.below (below_drew (Below.refl _ _)))
            have HW9d : Hid (Below B w W9.drew) := Lib.hid HW9.out.drew
            have HK9d : Hid (Keep ok g w W9.drew) := HK9
            clear d1 d2 d3 HE6 HX9 HY9 HS9 HW9 HK9
            generalize W9.drew = We at d4 d5 HX9d HY9d HS9d HW9d HK9d ⊢
            have hx10 := HX9d.out.set_v hlt ((nextOf c o f bit).v f)
            have HX10 : Hid (BoxAt (We.setCell ⟨g3, 10 + f, none⟩ (.int .u64 (((nextOf c o f bit).v f : Nat) : Int))) g3 (nextOf c o f bit).m (nextOf c o f bit).v) := Lib.hid (hx10.congr (fun _ _ => rfl) (fun i _ => by unfold nextOf upd; simp))
            have HY10 := Lib.hid (HY9d.out.far (p := ⟨g3, 10 + f, none⟩) (fun e => HN.out.1 e.symm) (.int .u64 (((nextOf c o f bit).v f : Nat) : Int)))
            have HS10 : Hid (StC g B (fun k => ok k ∧ k ≠ g3 ∧ k ≠ g4) (Lc ++ [pieceOf c o f bit]) (We.setCell ⟨g3, 10 + f, none⟩ (.int .u64 (((nextOf c o f bit).v f : Nat) : Int)))) := Lib.hid (HS9d.out.step (Below.heap_setCell We _ _ g HG3.out.1) (fun k hk _ => Below.heap_setCell We _ _ k hk.2.1))
            have HW10 := Lib.hid (HW9d.out.setCell (p := ⟨g3, 10 + f, none⟩) (Nat.le_trans hB HN.out.2.1) (.int .u64 (((nextOf c o f bit).v f : Nat) : Int)))
            have HK10 := Lib.hid (HK9d.out.far (p := ⟨g3, 10 + f, none⟩) HN.out.2.1 (.int .u64 (((nextOf c o f bit).v f : Nat) : Int)))
            clear hx10 HX9d HY9d HS9d HW9d HK9d
            have HLT2 : Hid (lp < 2 ^ i) := Lib.hid (by have h1 := H3.out; have h2 := HBIT.out; have h3 := HLP.out; rw [Nat.pow_succ] at h1; omega)
            have HE10 : Hid (Lc ++ [pieceOf c o f bit] ++ ((cutBits o f i (nextOf c o f bit) lp).1 ++ cutFrom o (9 - f) (f + 1) (cutBits o f i (nextOf c o f bit) lp).2) = R) := Lib.hid (by
              have h1 := HE.out
              rw [HST.out, HBIT.out, HLP.out] at h1
              rw [← h1]; simp)
            go_wp2_with fail
            go_roundw
            case rel => exact ⟨i, lp, _, _, rfl, HLT2, by omega, HX10.out, HY10.out, HS10.out, Lib.hid (nextOf_ok HCK.out hb64), HE10, HK10, HW10.out⟩
            case measure => simp [intOf] <;> omega
      · obtain rfl : f = 10 := by omega
        go_wp2
        go_end0
        refine ⟨rfl, HS1.out.mono (fun _ h => h.1) |> fun h => ?_, HK1.out, HW1.out⟩
        have he := HE.out
        rw [show 10 - 10 = 0 from rfl] at he
        simp only [cutFrom, List.append_nil] at he
        rw [← HRQ.out, ← he]
        exact h
  · have hm' : meetB b o = false := by simpa using hm
    go_at_call 49
    refine (meet_no b o HBo.out HOo.out hm' w4).mono ?_
    rintro e w5 ⟨rfl, hb5⟩
    have K35 := Lib.hid (blk_below K34.out hb5)
    have K45 := Lib.hid (blk_below K4.out hb5)
    have HS5 := Lib.hid (HS4.out.below hb5)
    have HW5 := Lib.hid (HW4.out.trans (hb5.mono HW4.out.size))
    have HM := Lib.hid hm'
    clear hb5 hm hm' K34 HS4 HW4 K4
    go_wp2_with (first
      | (refine wpList_new rfl rfl 6 rfl 67 (.tmp 16) rfl rfl z67.cs z67.cs ?hr rfl rfl info67 rfl (Bx.all_one _) ?_; (case hr => first | (go_simp; done) | (go_simp; rfl)); intro g6 w6 hg6 k6 hb6; have K36 := Lib.hid (blk_below K35.out hb6); have K46 := Lib.hid (blk_below K45.out hb6); have HS6 := Lib.hid (HS5.out.below hb6); have HW6 := Lib.hid (HW5.out.trans (hb6.mono HW5.out.size)); clear k6 hb6 hg6)
      | (refine wpList_load_at rfl 67 (.tmp 3) rfl ⟨g3, 0, none⟩ rfl b.cs _ (Lies.of_block K36.out) Try.underlying67 rfl info67 ?_))
    go_at_call 53
    refine (cut1_any b HBo.out g B (fun k => ok k ∧ k ≠ g3 ∧ k ≠ g4) L w6 (HS6.out.mono fun k hk => ⟨hk.1, fun e => by have := HN.out.2.1; omega, fun e => by have := HN.out.2.2; omega⟩) hg (Nat.le_trans hB HW6.out.size) (fun k hk => ⟨HOK.out k (Nat.le_trans HW6.out.size hk), fun e => by have := blk_lt K36.out; omega, fun e => ?_⟩) (by omega)).mono ?_
    · have := blk_lt K46.out; omega
    rintro e w7 ⟨rfl, hs7, hk7, hb7⟩
    have HK7 : Hid (Keep ok g w w7) := Lib.hid (((Keep.refl ok g w).below (Nat.le_refl _) HW6.out).trans HW6.out.size hk7 (fun _ _ h => h.1))
    have HS7 := Lib.hid hs7
    have HB7 := Lib.hid ((HW6.out.mono hB).trans hb7)
    clear hs7 hb7 hk7
    go_wp2_with fail
    refine bodyPost_ret (v := .tuple #[]) (results_none rfl _ _ _) rfl ?_
    exact ⟨rfl, by unfold cutL; rw [HM.out]; exact HS7.out.mono (fun _ h => h.1), HK7.out, HB7.out⟩

/-- What Cut answers, as boxes. -/
def cutC (a b : List S47) : List Bx := if wholeC a && wholeC b then cutL (boxC a) (boxC b) else []
theorem cutC_no {a b : List S47} (h : (wholeC a && wholeC b) = false) : cutC a b = [] := by unfold cutC; rw [h]; rfl
theorem cutC_yes {a b : List S47} (h1 : wholeC a = true) (h2 : wholeC b = true) : cutC a b = cutL (boxOr a) (boxOr b) := by unfold cutC boxOr; rw [h1, h2]; rfl
theorem info26z : (Try.prog.info? 26).map (·.zero) = some (some (.slice none 0 0)) := by kernel_rfl
set_option maxHeartbeats 4000000 in
set_option maxRecDepth 100000 in
theorem cutl_any (A B : Option Addr) (c d : Nat) (a b : List S47) (ha : okC a) (hb : okC b) (w : World) (hr : k47.C w A a.length a) (hr2 : k47.C w B b.length b) :
    Calls Try.prog 24 #[.slice A a.length c, .slice B b.length d] w fun e w' => ∃ v, e = .returned v ∧ (Kd.slice 47 k47).R 33 w' w.heap.size (fun _ => True) v ((cutC a b).map cubeL) ∧ Below w.heap.size w w' := by
  have HR := Lib.hid hr
  have HR2 := Lib.hid hr2
  have HA := Lib.hid ha
  have HB := Lib.hid hb
  clear hr hr2 ha hb
  go_enter Try.func24, Try.ntmps24
  go_wp2_with fail
  go_at_call 44
  refine (boxed_v A c a HA.out w HR.out).mono ?_
  rintro e w1 ⟨rfl, hb⟩
  have HB1 := Lib.hid hb
  have HOA := Lib.hid (boxOr_ok HA.out)
  obtain ⟨p, hp⟩ : ∃ p, boxOr a = p := ⟨_, rfl⟩
  have HPQ := Lib.hid hp
  rw [hp] at HOA ⊢
  obtain ⟨x, hx⟩ : ∃ x, wholeC a = x := ⟨_, rfl⟩
  have HX := Lib.hid hx
  rw [hx]
  clear hb hp hx
  go_wp2_with (refine wpList_new rfl rfl 5 rfl 67 (.tmp 13) rfl rfl z67.cs p.cs ?hr rfl rfl info67 rfl (Bx.all_one _) ?_; (case hr => first | (go_simp; done) | (go_simp; rfl)); intro g6 w2 hg6 k6 hb6; have K6 := Lib.hid k6; have HB2 := Lib.hid (HB1.out.trans (hb6.mono HB1.out.size)); clear k6 hb6)
  go_at_call 44
  refine (boxed_v B d b HB.out w2 (Kd.C_below HR2.out HB2.out)).mono ?_
  rintro e w3 ⟨rfl, hb⟩
  have K63 := Lib.hid (blk_below K6.out hb)
  have HB3 := Lib.hid (HB2.out.trans (hb.mono HB2.out.size))
  have HOB := Lib.hid (boxOr_ok HB.out)
  obtain ⟨q, hq⟩ : ∃ q, boxOr b = q := ⟨_, rfl⟩
  have HQQ := Lib.hid hq
  rw [hq] at HOB ⊢
  obtain ⟨y, hy⟩ : ∃ y, wholeC b = y := ⟨_, rfl⟩
  have HY := Lib.hid hy
  rw [hy]
  clear hb hq hy K6 HB1 HB2 hg6
  cases x with
  | false =>
    have HN : Hid (cutC a b = []) := Lib.hid (cutC_no (by rw [HX.out]; rfl))
    go_wp2_with (first
      | (refine wpList_new rfl rfl 7 rfl 67 (.tmp 18) rfl rfl z67.cs q.cs ?hr rfl rfl info67 rfl (Bx.all_one _) ?_; (case hr => first | (go_simp; done) | (go_simp; rfl)); intro g8 w4 hg8 k8 hb8; have K8 := Lib.hid k8; have K64 := Lib.hid (blk_below K63.out hb8); have HB4 := Lib.hid (HB3.out.trans (hb8.mono HB3.out.size)); clear k8 hb8)
      | (refine wpList_alloce rfl 9 rfl 26 rfl (.slice none 0 0) info26z ?_; intro g9 w5 hg9 k9 hb9; have K9 : Hid (w5.heap[g9]? = some (.cells #[.slice none 0 0] 26 (0, 0))) := Lib.hid k9; have K65 := Lib.hid (blk_below K64.out hb9); have K85 := Lib.hid (blk_below K8.out hb9); have HB5 := Lib.hid (HB4.out.trans (hb9.mono HB4.out.size)); have HG9 : Hid (w.heap.size ≤ g9) := Lib.hid (by rw [hg9.out]; exact HB4.out.size); have c9 : w5.cell? ⟨g9, 0, none⟩ = some (.slice none 0 0) := blk_cell k9 0; clear k9 hb9))
    go_wp2_with fail
    go_ret
    exact ⟨_, rfl, by rw [HN.out]; exact Kd.R_nil _ _ _ _ _, HB5.out⟩
  | true =>
    cases y with
    | false =>
      have HN : Hid (cutC a b = []) := Lib.hid (cutC_no (by rw [HX.out, HY.out]; rfl))
      go_wp2_with (first
        | (refine wpList_new rfl rfl 7 rfl 67 (.tmp 18) rfl rfl z67.cs q.cs ?hr rfl rfl info67 rfl (Bx.all_one _) ?_; (case hr => first | (go_simp; done) | (go_simp; rfl)); intro g8 w4 hg8 k8 hb8; have K8 := Lib.hid k8; have K64 := Lib.hid (blk_below K63.out hb8); have HB4 := Lib.hid (HB3.out.trans (hb8.mono HB3.out.size)); clear k8 hb8)
        | (refine wpList_alloce rfl 9 rfl 26 rfl (.slice none 0 0) info26z ?_; intro g9 w5 hg9 k9 hb9; have K9 : Hid (w5.heap[g9]? = some (.cells #[.slice none 0 0] 26 (0, 0))) := Lib.hid k9; have K65 := Lib.hid (blk_below K64.out hb9); have K85 := Lib.hid (blk_below K8.out hb9); have HB5 := Lib.hid (HB4.out.trans (hb9.mono HB4.out.size)); have HG9 : Hid (w.heap.size ≤ g9) := Lib.hid (by rw [hg9.out]; exact HB4.out.size); have c9 : w5.cell? ⟨g9, 0, none⟩ = some (.slice none 0 0) := blk_cell k9 0; clear k9 hb9))
      go_wp2_with fail
      go_ret
      exact ⟨_, rfl, by rw [HN.out]; exact Kd.R_nil _ _ _ _ _, HB5.out⟩
    | true =>
      have HN : Hid (cutC a b = cutL p q) := Lib.hid (by rw [cutC_yes HX.out HY.out, HPQ.out, HQQ.out])
      go_wp2_with (first
        | (refine wpList_new rfl rfl 7 rfl 67 (.tmp 18) rfl rfl z67.cs q.cs ?hr rfl rfl info67 rfl (Bx.all_one _) ?_; (case hr => first | (go_simp; done) | (go_simp; rfl)); intro g8 w4 hg8 k8 hb8; have K8 := Lib.hid k8; have K64 := Lib.hid (blk_below K63.out hb8); have HB4 := Lib.hid (HB3.out.trans (hb8.mono HB3.out.size)); clear k8 hb8)
        | (refine wpList_alloce rfl 9 rfl 26 rfl (.slice none 0 0) info26z ?_; intro g9 w5 hg9 k9 hb9; have K9 : Hid (w5.heap[g9]? = some (.cells #[.slice none 0 0] 26 (0, 0))) := Lib.hid k9; have K65 := Lib.hid (blk_below K64.out hb9); have K85 := Lib.hid (blk_below K8.out hb9); have HB5 := Lib.hid (HB4.out.trans (hb9.mono HB4.out.size)); have HG9 : Hid (w.heap.size ≤ g9) := Lib.hid (by rw [hg9.out]; exact HB4.out.size); have c9 : w5.cell? ⟨g9, 0, none⟩ = some (.slice none 0 0) := blk_cell k9 0; clear k9 hb9)
        | (refine wpList_load_at rfl 67 (.tmp 5) rfl ⟨g6, 0, none⟩ rfl p.cs _ (Lies.of_block K65.out) Try.underlying67 rfl info67 ?_)
        | (refine wpList_load_at rfl 67 (.tmp 7) rfl ⟨g8, 0, none⟩ rfl q.cs _ (Lies.of_block K85.out) Try.underlying67 rfl info67 ?_))
      have hst : StC g9 w.heap.size (fun _ => True) [] w5 := ⟨_, K9.out, Kd.R_nil _ _ _ _ _⟩
      have HST := Lib.hid hst
      clear hst c9 hg9 hg8 K64 K8 HB4 HB3 K63 K9
      go_at_call 52
      refine (cutc_any p q HOA.out HOB.out g9 w.heap.size (fun _ => True) [] w5 (fun _ _ => trivial) HST.out HG9.out HB5.out.size (by simp)).mono ?_
      rintro e w6 ⟨rfl, hs, hk, hb6⟩
      rw [List.nil_append] at hs
      have HB6 := Lib.hid (HB5.out.trans hb6)
      obtain ⟨v, hv, hR⟩ := hs
      have c6 : w6.cell? ⟨g9, 0, none⟩ = some v := (blk_cell hv 0).trans rfl
      obtain ⟨A1, n1, e1⟩ := Kd.R_slice hR
      subst e1
      rw [List.length_map] at hR c6
      have HR6 := Lib.hid hR
      clear hR hv hk hb6 HST
      go_wp2_with fail
      go_ret
      exact ⟨_, rfl, by rw [HN.out]; exact Kd.R_mono HR6.out (fun _ _ => trivial), HB6.out⟩
end Go.Proofs.Ytmhjnfkhfjejeaa
