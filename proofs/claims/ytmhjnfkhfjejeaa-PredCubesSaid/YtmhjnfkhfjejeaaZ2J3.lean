-- Printed by the kit (PPredCubesx11); it imports J2 in place of x10, reads the rows at hand by HV, and was mended in six places
import Derived.Test.YtmhjnfkhfjejeaaZ2PPredCubesx0
import Derived.Test.YtmhjnfkhfjejeaaZ2PPredCubesx9
import Derived.Test.YtmhjnfkhfjejeaaZ2J2
namespace Go.Proofs.Ytmhjnfkhfjejeaa.PPredCubes
open Go.RowKit Go.Proofs.YtmhjnfkhfjejeaaW.PrintWords Go.Proofs.YtmhjnfkhfjejeaaW.PrintLast Go.Proofs.YtmhjnfkhfjejeaaW.PrintMore
attribute [local go_sem] max2_int min2_int max_two min_two max_three min_three max_four min_four   -- for this text's walks alone
set_option linter.unusedVariables false
set_option linter.unusedSimpArgs false

/-! A row of rows of cubes, its own cells as they were in the world w0 (they stay), what its elements lead to in ok. -/
def Kd.HV (w0 : World) (_e : Nat) (W : World) (_base : Nat) (ok : Nat → Prop) (v : Value) (xs : List (List (List S47))) : Prop := ∃ A c, v = .slice A xs.length c ∧ xs.length ≤ c ∧ Foot (fun W => ReadsRow ((Kd.slice 33 (Kd.slice 47 k47)).K W) 1 w0 A xs.length xs) W ok
section
variable {w0 W w1 : World} {e base base' n c N' : Nat} {ok ok' : Nat → Prop} {A : Option Addr} {ad : Addr} {u v v1 : Value} {xs : List (List (List S47))}
theorem Kd.HV_map (h : Kd.HV w0 e W base ok v xs) (hF : ∀ P : World → Prop, Foot P W ok → Foot P w1 ok') : Kd.HV w0 e w1 base' ok' v xs := by
  obtain ⟨A, c, hv, hl, hf⟩ := h
  exact ⟨A, c, hv, hl, hF _ hf⟩
theorem Kd.HV_mono (h : Kd.HV w0 e W base ok v xs) (hok : ∀ k, ok k → ok' k) : Kd.HV w0 e W base ok' v xs := Kd.HV_map h (fun _ hf => Foot.mono hf hok)
theorem Kd.HV_step (h : Kd.HV w0 e W base ok v xs) (hm : ∀ k, ok k → k < W.heap.size → w1.heap[k]? = W.heap[k]?) : Kd.HV w0 e w1 base ok v xs := Kd.HV_map h (fun _ hf => Foot.step hf hm)
theorem Kd.HV_below (h : Kd.HV w0 e W base ok v xs) (hb : Below W.heap.size W w1) : Kd.HV w0 e w1 base ok v xs := Kd.HV_step h (fun k _ hlt => hb.block k hlt)
theorem Kd.HV_alloc (h : Kd.HV w0 e W base ok v xs) (o : Obj) : Kd.HV w0 e (W.alloc o) base ok v xs := Kd.HV_below h (below_alloc (Below.refl _ _) o)
theorem Kd.HV_drew (h : Kd.HV w0 e W base ok v xs) : Kd.HV w0 e W.drew base ok v xs := Kd.HV_below h (below_drew (Below.refl _ _))
theorem Kd.HV_drewN (h : Kd.HV w0 e W base ok v xs) (m : Nat) : Kd.HV w0 e (W.drewN m) base ok v xs := Kd.HV_below h (pw_below_drewN (Below.refl _ _) m)
theorem Kd.HV_elder' (h : Kd.HV w0 e W base ok v xs) (hbase : ∀ k, u.ownBlock = some k → W.heap.size ≤ k) (hb : Below W.heap.size W w1) : Kd.HV w0 e w1 base (fun k => ok k ∧ some k ≠ u.ownBlock) v xs :=
  Kd.HV_map h (fun _ hf => Foot.mono (Foot.old hf hb) (fun k hk => ⟨hk.1, fun he => by have := hbase k he.symm; have := hk.2; omega⟩))
theorem Kd.HV_elderB (h : Kd.HV w0 e W base ok v xs) (a : Nat) (ha : W.heap.size ≤ a) : Kd.HV w0 e W base (fun k => ok k ∧ k ≠ a) v xs := Kd.HV_map h (fun _ hf => Foot.mono (Foot.bound hf) (fun k hk => ⟨hk.1, by have := hk.2; omega⟩))
theorem Kd.HV_apart_nil (h : Kd.HV w0 e W base ok v xs) : Kd.HV w0 e W base (fun k => ok k ∧ some k ≠ (Value.slice none 0 0).ownBlock) v xs := Kd.HV_mono h (fun k hk => ⟨hk, by simp [Value.ownBlock]⟩)
theorem Kd.HV_afterv (h : Kd.HV w0 e W base (fun k => ok k ∧ some k ≠ v.ownBlock) u xs) (hg : W.grownBy w1 v.ownBlock) (hat : v1.ownBlock = v.ownBlock ∨ ∃ b, v1.ownBlock = some b ∧ W.heap.size ≤ b) : Kd.HV w0 e w1 base (fun k => ok k ∧ some k ≠ v1.ownBlock) u xs :=
  Kd.HV_map h (fun _ hf => by
    refine Foot.mono (Foot.step (Foot.bound hf) (fun k hk hlt => hg.block k hlt hk.1.2)) (fun k hk => ⟨hk.1.1, ?_⟩)
    rcases hat with hat | ⟨b, hb, hle⟩
    · rw [hat]; exact hk.1.2
    · rw [hb]
      intro he
      injection he with he
      have := hk.2
      omega)
theorem Kd.HV_reads' (h : Kd.HV w0 e W base ok (.slice A n c) xs) (hb : Below w0.heap.size w0 W) : n = xs.length ∧ n ≤ c ∧ (Kd.slice 33 (Kd.slice 47 k47)).C W A xs.length xs := by
  obtain ⟨A', c', hv, hl, hf⟩ := h
  injection hv with ha hn hc
  subst ha; subst hc
  obtain ⟨h1, h2, h3⟩ := hf.now
  refine ⟨hn, by rw [hn]; exact hl, h1, h2, fun hp => ?_⟩
  obtain ⟨ad, he, h4⟩ := h3 hp
  refine ⟨ad, he, fun j p hj => ?_⟩
  obtain ⟨c, hcl, hK, hcc⟩ := h4 j p hj
  exact ⟨c, hcl, hK, fun i u hu => pw_cell_below hb (hcc i u hu)⟩
theorem Kd.HV_get (h : Kd.HV w0 e W base ok (.slice (some ad) n c) xs) (hb : Below w0.heap.size w0 W) (z : List (List S47)) (i : Int) (h0 : 0 ≤ i) (h1 : i < n) :
    ∃ cs, cs.length = (Kd.slice 33 (Kd.slice 47 k47)).sz ∧ Kd.FK (Kd.slice 33 (Kd.slice 47 k47)) W ok (xs.getD i.toNat z) cs ∧ ∀ j u, cs[j]? = some u → W.cell? (ad.add (i.toNat * (Kd.slice 33 (Kd.slice 47 k47)).sz + j)) = some u := by
  obtain ⟨A', c', hv, hl, hf⟩ := h
  injection hv with ha hn hc
  subst ha; subst hc
  have hi : i < xs.length := by omega
  obtain ⟨ad', cs, he, hcl, hK, hcc⟩ := ReadsRow.get_ hf.now z i h0 hi
  injection he with he
  subst he
  refine ⟨cs, hcl, fun W' hW => ?_, fun j u hj => pw_cell_below hb (hcc j u hj)⟩
  obtain ⟨ad2, cs2, he2, hcl2, hK2, hcc2⟩ := ReadsRow.get_ (hf W' hW) z i h0 hi
  injection he2 with he2
  subst he2
  have : cs2 = cs := by
    refine List.ext_getElem (hcl2.trans hcl.symm) fun j h1 h2 => ?_
    have e1 := hcc2 j _ (List.getElem?_eq_getElem h1)
    have e2 := hcc j _ (List.getElem?_eq_getElem h2)
    exact Option.some.inj (e1.symm.trans e2)
  rw [← this]; exact hK2
theorem Kd.N_HV (h : Kd.N (Kd.slice 33 (Kd.slice 47 k47)) e W base ok v xs) : Kd.HV W e W base' (fun k => ok k ∧ some k ≠ v.ownBlock) v xs := by
  obtain ⟨A, c, rfl⟩ := Kd.N_slice h
  have hr := Kd.N_reads' h
  refine ⟨A, c, rfl, hr.2.1, fun W' hW => ⟨rfl, hr.2.2.2.1, fun hp => ?_⟩⟩
  obtain ⟨ad, hA, _⟩ := hr.2.2.2.2 hp
  subst hA
  refine ⟨ad, rfl, fun j p hj => ?_⟩
  obtain ⟨hjl, hjp⟩ := List.getElem?_eq_some_iff.1 hj
  obtain ⟨cs, hcl, hF, hcc⟩ := Kd.N_get h ([] : List (List S47)) (j : Int) (by omega) (by omega)
  simp only [Int.toNat_natCast] at hF hcc
  rw [List.getD_eq_getElem?_getD, hj] at hF
  exact ⟨cs, hcl, hF W' hW, hcc⟩
end
/-! ### droverref16_node: function 58 -/
mutual
def droverref16_node.j0 : Nat → List (List (List (S47))) → Bool → Int → Int → Int → Int → List Int → Option ((List (List (S47))) × Bool)
  | 0, _, _, _, _, _, _, _ => none
  | k + 1, x1, x24, x260000, x260001, x260002, x260003, x260004 => if x24 = true then (some ((([(([(⟨x260001, x260002, x260003⟩ : S47)] : List (S47)))] : List (List (S47)))), true)) else (if x260000 = 6 then (if 0 < (x260004.length : Int) then (if 0 ≤ (rd x260004 0) then (if (rd x260004 0) < (x1.length : Int) then ((droverref16_without.f k (([[]] : List (List (S47)))) (rd_L8 x1 (rd x260004 0))).bind fun bt271 => (some (bt271.1, bt271.2))) else (none)) else (none)) else (none)) else (if x260000 = 5 then (droverref16_node.l1 k x1 ([] : List (List (S47))) 0 x260000 x260001 x260002 x260003 x260004) else (droverref16_node.l0 k x1 (([[]] : List (List (S47)))) 0 x260000 x260001 x260002 x260003 x260004)))
def droverref16_node.l1 : Nat → List (List (List (S47))) → List (List (S47)) → Int → Int → Int → Int → Int → List Int → Option ((List (List (S47))) × Bool)
  | 0, _, _, _, _, _, _, _, _ => none
  | k + 1, x1, x8, x9, x260000, x260001, x260002, x260003, x260004 => if x9 < (x260004.length : Int) then (if 0 ≤ x9 then (if 0 ≤ (rd x260004 x9) then (if (rd x260004 x9) < (x1.length : Int) then ((droverref16_without.f k (rd_L8 x1 (rd x260004 x9)) x8).bind fun bt285 => (if bt285.2 = true then (if (wrap64 ((x8.length : Int) + (bt285.1.length : Int))) > 128 then (some (([] : List (List (S47))), false)) else (if ([] : List (List (S47))).length + x8.length < 5864062014805 then ((some (([] : List (List (S47))) ++ x8 : List (List (S47)))).bind fun y289 => (if y289.length + bt285.1.length < 5864062014805 then (droverref16_node.l1 k x1 (y289 ++ bt285.1) (wrap64 (x9 + 1)) x260000 x260001 x260002 x260003 x260004) else (none))) else (none))) else (some (([] : List (List (S47))), false)))) else (none)) else (none)) else (none)) else (some (x8, true))
def droverref16_node.l0 : Nat → List (List (List (S47))) → List (List (S47)) → Int → Int → Int → Int → Int → List Int → Option ((List (List (S47))) × Bool)
  | 0, _, _, _, _, _, _, _, _ => none
  | k + 1, x1, x6, x7, x260000, x260001, x260002, x260003, x260004 => if x7 < (x260004.length : Int) then (if 0 ≤ x7 then (if 0 ≤ (rd x260004 x7) then (if (rd x260004 x7) < (x1.length : Int) then ((droverref16_both.f k x6 (rd_L8 x1 (rd x260004 x7))).bind fun t280 => (if (t280.length : Int) > 128 then (some (([] : List (List (S47))), false)) else (droverref16_node.l0 k x1 t280 (wrap64 (x7 + 1)) x260000 x260001 x260002 x260003 x260004))) else (none)) else (none)) else (none)) else (some (x6, true))
end
def droverref16_node.f (k : Nat) (a0_0 : Int) (a0_1 : Int) (a0_2 : Int) (a0_3 : Int) (l0_4 : List Int) (l1 : List (List (List (S47)))) : Option ((List (List (S47))) × Bool) := if a0_0 = 2 then (some (([] : List (List (S47))), true)) else (if a0_0 = 3 then (droverref16_node.j0 k l1 (a0_3 != 0) a0_0 a0_1 a0_2 a0_3 l0_4) else (droverref16_node.j0 k l1 false a0_0 a0_1 a0_2 a0_3 l0_4))
set_option maxHeartbeats 8000000 in
set_option maxRecDepth 100000 in
theorem droverref16_node.calls (k : Nat) (a0_0 : Int) (a0_1 : Int) (a0_2 : Int) (a0_3 : Int) (A0_4 : Option Addr) (c0_4 : Nat) (l0_4 : List Int) (P1_ : Nat → Prop) (A1 : Option Addr) (c1 : Nat) (l1 : List (List (List (S47)))) (r1 : List (List (S47))) (r2 : Bool) (w : World) (hr0_4 : Kd.C (Kd.int .i64) w A0_4 l0_4.length l0_4) (hc0_4 : l0_4.length ≤ c0_4) (hs1 : Kd.HV w 26 w w.heap.size (fun k_ => P1_ k_) (.slice A1 l1.length c1) l1) (h : droverref16_node.f k a0_0 a0_1 a0_2 a0_3 l0_4 l1 = some (r1, r2)) :
    Calls Try.prog 58 #[.agg #[.int .i64 a0_0, .int .i64 a0_1, .int .u64 a0_2, .int .u64 a0_3, .slice A0_4 l0_4.length c0_4], .slice A1 l1.length c1] w fun e w' => ∃ v0_ : Value, e = .returned (.tuple #[v0_, .bool r2]) ∧ Kd.V (Kd.slice 47 k47) 33 w' w.heap.size (fun k_ => (P1_ k_ ∨ w.heap.size ≤ k_)) v0_ r1 ∧ Below w.heap.size w w' := by
  have hu52 := Try.underlying52
  have hu47 := Try.underlying47
  have HR0_4 := Aside0.mk hr0_4
  have HC0_4 := Aside0.mk hc0_4
  clear hr0_4 hc0_4
  have HO1 := Aside0.mk (show Kd.HV w 26 w w.heap.size (fun k_ => (P1_ k_ ∨ w.heap.size ≤ k_)) (.slice A1 l1.length c1) l1 from Kd.HV_mono hs1 (fun k_ hk => .inl hk))
  have HB := Aside0.mk (Below.refl w.heap.size w)
  have H : (if a0_0 = 2 then (some (([] : List (List (S47))), true)) else (if a0_0 = 3 then (droverref16_node.j0 k l1 (a0_3 != 0) a0_0 a0_1 a0_2 a0_3 l0_4) else (droverref16_node.j0 k l1 false a0_0 a0_1 a0_2 a0_3 l0_4))) = some (r1, r2) := h
  clear h
  by_cases c3 : a0_0 = 2
  · rw [if_pos c3] at H
    have c3b0 : (a0_0 == 2) = true := beq_iff_eq.mpr c3
    have c3b1 : (a0_0 != 2) = false := bne_eq_false_iff_eq.mpr c3
    clear c3
    simp only [Option.some.injEq, Prod.mk.injEq] at H
    obtain ⟨rfl, rfl⟩ := H
    go_enter Try.func58, Try.ntmps58
    go_wp2_with (first | ((with_reducible refine gate_dst (N := 2) rfl ?_); (try (refine gate_guard (by rfl) ?_; dsimp only)); refine box_event ?hg (N := 2) ?hd (cs := #[.int .i64 a0_0, .int .i64 a0_1, .int .u64 a0_2, .int .u64 a0_3, .slice A0_4 l0_4.length c0_4]) (t := 52) ?hr ?_; (case hd => rfl); (case hg => rfl); (case hr => first | (go_simp; done) | (go_simp; rfl)); intro gb259 hg w4 hbox hb; have n0_ := Aside0.mk (Kd.HV_below (Kd.HV_elderB (by (with_reducible repeat (first | apply Kd.HV_alloc | apply Kd.HV_drewN | apply Kd.HV_drew)); exact HO1.out) gb259 (Nat.le_of_eq hg.symm)) hb); have n1_ := Aside0.mk (below_step (by repeat (first | (with_reducible first | exact HB.out | apply below_alloc | apply pw_below_drewN | apply below_drew1) | exact HB.out)) hb); have n2_ := Aside0.mk (hbox); have n3_ := Aside0.mk ((by rw [hg]; exact (below_size (by repeat (first | (with_reducible first | exact HB.out | apply below_alloc | apply pw_below_drewN | apply below_drew1) | exact HB.out))) : w.heap.size ≤ gb259)); have n4_ := Aside0.mk ((by rw [hg]; exact (below_size (by repeat (first | (with_reducible first | exact HB.out | apply below_alloc | apply pw_below_drewN | apply below_drew1) | exact HB.out))) : w.heap.size ≤ gb259)); clear HO1; clear HB; have HO1 := n0_; have HB := n1_; have BK259 := n2_; have GW259 := n3_; have GE259 := n4_; clear n0_ n1_ n2_ n3_ n4_; clear hb hbox hg; have hcz5_0 : w4.cell? ⟨gb259, 0, none⟩ = some (.int .i64 a0_0) := (blk_cell BK259.out 0).trans rfl; have hcz5_1 : w4.cell? ⟨gb259, 1, none⟩ = some (.int .i64 a0_1) := (blk_cell BK259.out 1).trans rfl; have hcz5_2 : w4.cell? ⟨gb259, 2, none⟩ = some (.int .u64 a0_2) := (blk_cell BK259.out 2).trans rfl; have hcz5_3 : w4.cell? ⟨gb259, 3, none⟩ = some (.int .u64 a0_3) := (blk_cell BK259.out 3).trans rfl; have hcz5_4 : w4.cell? ⟨gb259, 4, none⟩ = some (.slice A0_4 l0_4.length c0_4) := (blk_cell BK259.out 4).trans rfl; have hfz5_0 := blk_frozen BK259.out 0; have hfz5_1 := blk_frozen BK259.out 1; have hfz5_2 := blk_frozen BK259.out 2; have hfz5_3 := blk_frozen BK259.out 3; have hfz5_4 := blk_frozen BK259.out 4))
    go_ret2
    exact ⟨_, by first | rfl | (simp [errW_none, errW_some] <;> rfl) | (simp [*, errW_none, errW_some] <;> rfl), Kd.V_nil _ _ _ _ _, by repeat (first | (with_reducible first | exact HB.out | apply below_alloc | apply pw_below_drewN | apply below_drew1 | refine below_set ?_ GE259.out) | exact HB.out)⟩
  · rw [if_neg c3] at H
    have c3b0 : (a0_0 == 2) = false := beq_eq_false_iff_ne.mpr c3
    have c3b1 : (a0_0 != 2) = true := bne_iff_ne.mpr c3
    have HC6 := Aside0.mk H
    clear H
    go_enter Try.func58, Try.ntmps58
    go_upto_region 3 with (first | ((with_reducible refine gate_dst (N := 2) rfl ?_); (try (refine gate_guard (by rfl) ?_; dsimp only)); refine box_event ?hg (N := 2) ?hd (cs := #[.int .i64 a0_0, .int .i64 a0_1, .int .u64 a0_2, .int .u64 a0_3, .slice A0_4 l0_4.length c0_4]) (t := 52) ?hr ?_; (case hd => rfl); (case hg => rfl); (case hr => first | (go_simp; done) | (go_simp; rfl)); intro gb259 hg w7 hbox hb; have n0_ := Aside0.mk (Kd.HV_below (Kd.HV_elderB (by (with_reducible repeat (first | apply Kd.HV_alloc | apply Kd.HV_drewN | apply Kd.HV_drew)); exact HO1.out) gb259 (Nat.le_of_eq hg.symm)) hb); have n1_ := Aside0.mk (below_step (by repeat (first | (with_reducible first | exact HB.out | apply below_alloc | apply pw_below_drewN | apply below_drew1) | exact HB.out)) hb); have n2_ := Aside0.mk (hbox); have n3_ := Aside0.mk ((by rw [hg]; exact (below_size (by repeat (first | (with_reducible first | exact HB.out | apply below_alloc | apply pw_below_drewN | apply below_drew1) | exact HB.out))) : w.heap.size ≤ gb259)); have n4_ := Aside0.mk ((by rw [hg]; exact (below_size (by repeat (first | (with_reducible first | exact HB.out | apply below_alloc | apply pw_below_drewN | apply below_drew1) | exact HB.out))) : w.heap.size ≤ gb259)); clear HO1; clear HB; have HO1 := n0_; have HB := n1_; have BK259 := n2_; have GW259 := n3_; have GE259 := n4_; clear n0_ n1_ n2_ n3_ n4_; clear hb hbox hg; have hcz8_0 : w7.cell? ⟨gb259, 0, none⟩ = some (.int .i64 a0_0) := (blk_cell BK259.out 0).trans rfl; have hcz8_1 : w7.cell? ⟨gb259, 1, none⟩ = some (.int .i64 a0_1) := (blk_cell BK259.out 1).trans rfl; have hcz8_2 : w7.cell? ⟨gb259, 2, none⟩ = some (.int .u64 a0_2) := (blk_cell BK259.out 2).trans rfl; have hcz8_3 : w7.cell? ⟨gb259, 3, none⟩ = some (.int .u64 a0_3) := (blk_cell BK259.out 3).trans rfl; have hcz8_4 : w7.cell? ⟨gb259, 4, none⟩ = some (.slice A0_4 l0_4.length c0_4) := (blk_cell BK259.out 4).trans rfl; have hfz8_0 := blk_frozen BK259.out 0; have hfz8_1 := blk_frozen BK259.out 1; have hfz8_2 := blk_frozen BK259.out 2; have hfz8_3 := blk_frozen BK259.out 3; have hfz8_4 := blk_frozen BK259.out 4))
    (try simp only [Act.put, List.setIfInBounds_toArray, List.set_cons_zero, List.set_cons_succ])
    go_cut [24] (fun v24 wc => ∃ (kq : Nat) (x24_5 : Bool), v24 = .bool x24_5 ∧ Aside0 (droverref16_node.j0 kq l1 x24_5 a0_0 a0_1 a0_2 a0_3 l0_4 = some (r1, r2)) ∧ Aside0 (kq ≤ k) ∧ Aside0 (Kd.HV w 26 wc w.heap.size (fun k_ => (P1_ k_ ∨ w.heap.size ≤ k_) ∧ k_ ≠ gb259) (.slice A1 l1.length c1) l1) ∧ Aside0 (wc.heap[gb259]? = some (.cells #[.int .i64 a0_0, .int .i64 a0_1, .int .u64 a0_2, .int .u64 a0_3, (.slice A0_4 l0_4.length c0_4)] 52 (0, 0))) ∧ Aside0 (Below w.heap.size w wc))
    case first =>
      have H := HC6.out
      clear HC6
      by_cases c9 : a0_0 = 3
      · rw [if_pos c9] at H
        have c9b0 : (a0_0 == 3) = true := beq_iff_eq.mpr c9
        have c9b1 : (a0_0 != 3) = false := bne_eq_false_iff_eq.mpr c9
        clear c9
        (first | rw [c9b0] | (simp only [i64_w, i32_w]; rw [c9b0]) | skip)
        have H' := Aside0.mk H
        clear H
        have hcz10_0 : w7.cell? ⟨gb259, 0, none⟩ = some (.int .i64 a0_0) := (blk_cell BK259.out 0).trans rfl
        have hcz10_1 : w7.cell? ⟨gb259, 1, none⟩ = some (.int .i64 a0_1) := (blk_cell BK259.out 1).trans rfl
        have hcz10_2 : w7.cell? ⟨gb259, 2, none⟩ = some (.int .u64 a0_2) := (blk_cell BK259.out 2).trans rfl
        have hcz10_3 : w7.cell? ⟨gb259, 3, none⟩ = some (.int .u64 a0_3) := (blk_cell BK259.out 3).trans rfl
        have hcz10_4 : w7.cell? ⟨gb259, 4, none⟩ = some (.slice A0_4 l0_4.length c0_4) := (blk_cell BK259.out 4).trans rfl
        have hfz10_0 := blk_frozen BK259.out 0
        have hfz10_1 := blk_frozen BK259.out 1
        have hfz10_2 := blk_frozen BK259.out 2
        have hfz10_3 := blk_frozen BK259.out 3
        have hfz10_4 := blk_frozen BK259.out 4
        go_wp2
        go_meet
        case rel => exact ⟨_, ((a0_3 != 0)), (by first | rfl | (simp; done) | (simp [*]; done)), H', ⟨by first | omega | exact Nat.le_refl _⟩, ⟨by (with_reducible repeat (first | apply Kd.HV_alloc | apply Kd.HV_drewN | apply Kd.HV_drew)); exact HO1.out⟩, ⟨by (with_reducible repeat (first | refine blk_drewN ?_ _ | refine blk_drew ?_ | refine blk_alloc ?_ _)); exact BK259.out⟩, ⟨by repeat (first | (with_reducible first | exact HB.out | apply below_alloc | apply pw_below_drewN | apply below_drew1 | refine below_set ?_ GE259.out) | exact HB.out)⟩⟩
      · rw [if_neg c9] at H
        have c9b0 : (a0_0 == 3) = false := beq_eq_false_iff_ne.mpr c9
        have c9b1 : (a0_0 != 3) = true := bne_iff_ne.mpr c9
        (first | rw [c9b0] | (simp only [i64_w, i32_w]; rw [c9b0]) | skip)
        have H' := Aside0.mk H
        clear H
        have hcz11_0 : w7.cell? ⟨gb259, 0, none⟩ = some (.int .i64 a0_0) := (blk_cell BK259.out 0).trans rfl
        have hcz11_1 : w7.cell? ⟨gb259, 1, none⟩ = some (.int .i64 a0_1) := (blk_cell BK259.out 1).trans rfl
        have hcz11_2 : w7.cell? ⟨gb259, 2, none⟩ = some (.int .u64 a0_2) := (blk_cell BK259.out 2).trans rfl
        have hcz11_3 : w7.cell? ⟨gb259, 3, none⟩ = some (.int .u64 a0_3) := (blk_cell BK259.out 3).trans rfl
        have hcz11_4 : w7.cell? ⟨gb259, 4, none⟩ = some (.slice A0_4 l0_4.length c0_4) := (blk_cell BK259.out 4).trans rfl
        have hfz11_0 := blk_frozen BK259.out 0
        have hfz11_1 := blk_frozen BK259.out 1
        have hfz11_2 := blk_frozen BK259.out 2
        have hfz11_3 := blk_frozen BK259.out 3
        have hfz11_4 := blk_frozen BK259.out 4
        go_wp2
        go_meet
        case rel => exact ⟨_, (false), (by first | rfl | (simp; done) | (simp [*]; done)), H', ⟨by first | omega | exact Nat.le_refl _⟩, ⟨by (with_reducible repeat (first | apply Kd.HV_alloc | apply Kd.HV_drewN | apply Kd.HV_drew)); exact HO1.out⟩, ⟨by (with_reducible repeat (first | refine blk_drewN ?_ _ | refine blk_drew ?_ | refine blk_alloc ?_ _)); exact BK259.out⟩, ⟨by repeat (first | (with_reducible first | exact HB.out | apply below_alloc | apply pw_below_drewN | apply below_drew1 | refine below_set ?_ GE259.out) | exact HB.out)⟩⟩
    case rest =>
      clear HC6
      try clear c1
      try clear p2
      try clear c3
      try clear c3b0
      try clear c3b1
      try clear c5
      try clear c9
      try clear c9b0
      try clear c9b1
      try clear hcz10_0
      try clear hcz10_1
      try clear hcz10_2
      try clear hcz10_3
      try clear hcz10_4
      try clear hcz11_0
      try clear hcz11_1
      try clear hcz11_2
      try clear hcz11_3
      try clear hcz11_4
      try clear hcz5_0
      try clear hcz5_1
      try clear hcz5_2
      try clear hcz5_3
      try clear hcz5_4
      try clear hcz8_0
      try clear hcz8_1
      try clear hcz8_2
      try clear hcz8_3
      try clear hcz8_4
      try clear hfz10_0
      try clear hfz10_1
      try clear hfz10_2
      try clear hfz10_3
      try clear hfz10_4
      try clear hfz11_0
      try clear hfz11_1
      try clear hfz11_2
      try clear hfz11_3
      try clear hfz11_4
      try clear hfz5_0
      try clear hfz5_1
      try clear hfz5_2
      try clear hfz5_3
      try clear hfz5_4
      try clear hfz8_0
      try clear hfz8_1
      try clear hfz8_2
      try clear hfz8_3
      try clear hfz8_4
      obtain ⟨kq, x24_5, rfl, HA, HJ5, HO_1, BK259, HB⟩ := hcut
      cases kq with
      | zero => exact absurd HA.out (by simp [droverref16_node.j0])
      | succ kj5 =>
        have H := HA.out
        clear HA
        simp only [droverref16_node.j0] at H
        by_cases c12 : x24_5 = true
        · subst c12
          have H1 : (some ((([(([(⟨a0_1, a0_2, a0_3⟩ : S47)] : List (S47)))] : List (List (S47)))), true)) = some (r1, r2) := by rw [if_pos rfl] at H; exact H
          clear H
          have H := H1
          clear H1
          obtain ⟨y260, hy260⟩ : ∃ y_ : List (S47), y_ = (([(⟨a0_1, a0_2, a0_3⟩ : S47)] : List (S47))) := ⟨_, rfl⟩
          replace H : (some ((([y260] : List (List (S47)))), true)) = some (r1, r2) := by first | (rw [hy260]; with_reducible exact H) | (have H2_ := (Option.bind_some _ _).symm.trans H; rw [hy260]; with_reducible exact H2_) | (have H2_ := (Option.bind_some _ _).symm.trans H; with_reducible exact H2_) | with_reducible exact H | (rw [hy260]; exact H) | exact H
          have Ny260 := Aside0.mk hy260
          clear hy260
          obtain ⟨y263, hy263⟩ : ∃ y_ : List (List (S47)), y_ = (([y260] : List (List (S47)))) := ⟨_, rfl⟩
          replace H : (some (y263, true)) = some (r1, r2) := by first | (rw [hy263]; with_reducible exact H) | (have H2_ := (Option.bind_some _ _).symm.trans H; rw [hy263]; with_reducible exact H2_) | (have H2_ := (Option.bind_some _ _).symm.trans H; with_reducible exact H2_) | with_reducible exact H | (rw [hy263]; exact H) | exact H
          have Ny263 := Aside0.mk hy263
          clear hy263
          simp only [Option.some.injEq, Prod.mk.injEq] at H
          obtain ⟨rfl, rfl⟩ := H
          have hcz13_0 : wc.cell? ⟨gb259, 0, none⟩ = some (.int .i64 a0_0) := (blk_cell BK259.out 0).trans rfl
          have hcz13_1 : wc.cell? ⟨gb259, 1, none⟩ = some (.int .i64 a0_1) := (blk_cell BK259.out 1).trans rfl
          have hcz13_2 : wc.cell? ⟨gb259, 2, none⟩ = some (.int .u64 a0_2) := (blk_cell BK259.out 2).trans rfl
          have hcz13_3 : wc.cell? ⟨gb259, 3, none⟩ = some (.int .u64 a0_3) := (blk_cell BK259.out 3).trans rfl
          have hcz13_4 : wc.cell? ⟨gb259, 4, none⟩ = some (.slice A0_4 l0_4.length c0_4) := (blk_cell BK259.out 4).trans rfl
          have hfz13_0 := blk_frozen BK259.out 0
          have hfz13_1 := blk_frozen BK259.out 1
          have hfz13_2 := blk_frozen BK259.out 2
          have hfz13_3 := blk_frozen BK259.out 3
          have hfz13_4 := blk_frozen BK259.out 4
          go_wp2_with (first | ((with_reducible refine gate_dst (N := 27) rfl ?_); (try (refine gate_guard (by rfl) ?_; dsimp only)); refine Kd.R_lit k47 _ 47 ?hg (N := 27) ?hd (xs := ([(⟨a0_1, a0_2, a0_3⟩ : S47)] : List (S47))) (inner := [.int .i64 a0_1, .int .u64 a0_2, .int .u64 a0_3]) (ok := fun _ => True) (okp := fun _ => True) ?hr ?hp (fun _ hk => hk) trivial (Below.refl _ _) (Nat.le_refl _) (by simp) ?_; (case hd => rfl); (case hg => rfl); (case hr => first | (go_simp; done) | (go_simp; rfl)); (case hp => exact (Reps.c3 (show Kd.M k47 _ _ _ (⟨a0_1, a0_2, a0_3⟩ : S47) [.int .i64 a0_1, .int .u64 a0_2, .int .u64 a0_3] from (k47_mkM _ _ _ (⟨a0_1, a0_2, a0_3⟩ : S47) )) (Reps.none _ _))); intro v261 w14 ho15 hb hg_ hnew_; clear hg_ hnew_; (first | rw [← Ny260.out] at ho15 | (simp only [Int.reduceToNat] at ho15; rw [← Ny260.out] at ho15)); have n0_ := Aside0.mk (Kd.HV_elder' (by (with_reducible repeat (first | apply Kd.HV_alloc | apply Kd.HV_drewN | apply Kd.HV_drew)); exact HO_1.out) (Kd.R_base ho15) hb); have n1_ := Aside0.mk (Kd.R_lower (Kd.R_newM (M := fun k_ => (w.heap.size ≤ k_)) ho15 (below_size (by repeat (first | (with_reducible first | exact HB.out | apply below_alloc | apply pw_below_drewN | apply below_drew1 | refine below_set ?_ GE259.out) | exact HB.out))) (fun k_ h_ => h_)) (below_size (by repeat (first | (with_reducible first | exact HB.out | apply below_alloc | apply pw_below_drewN | apply below_drew1 | refine below_set ?_ GE259.out) | exact HB.out)))); have n2_ := Aside0.mk (blk_below (g := gb259) (o := .cells #[.int .i64 a0_0, .int .i64 a0_1, .int .u64 a0_2, .int .u64 a0_3, .slice A0_4 l0_4.length c0_4] 52 (0, 0)) (by (with_reducible repeat (first | refine blk_drewN ?_ _ | refine blk_drew ?_ | refine blk_alloc ?_ _)); exact BK259.out) hb); have n3_ := Aside0.mk (below_step (by repeat (first | (with_reducible first | exact HB.out | apply below_alloc | apply pw_below_drewN | apply below_drew1 | refine below_set ?_ GE259.out) | exact HB.out)) hb); clear HO_1; clear BK259; clear HB; have HO_1 := n0_; have HO262 := n1_; have BK259 := n2_; have HB := n3_; clear n0_ n1_ n2_ n3_; clear hb ho15; obtain ⟨Ao16, co16, eo16⟩ := Kd.R_slice HO262.out; subst eo16) | ((with_reducible refine gate_dst (N := 28) rfl ?_); (try (refine gate_guard (by rfl) ?_; dsimp only)); refine Kd.N_lit (Kd.slice 47 k47) _ 33 ?hg (N' := 28) ?hd (xs := ([y260] : List (List (S47)))) (inner := [.slice Ao16 y260.length co16]) (ok := (fun k_ => (P1_ k_ ∨ w.heap.size ≤ k_) ∧ k_ ≠ gb259)) (okp := (fun k_ => (P1_ k_ ∨ w.heap.size ≤ k_) ∧ k_ ≠ gb259)) ?hr ?hp (fun _ hk => hk) ((show ∀ k_, w14.heap.size ≤ k_ → (fun k_ => (P1_ k_ ∨ w.heap.size ≤ k_) ∧ k_ ≠ gb259) k_ from fun k_ hk => ⟨(.inr (Nat.le_trans (below_size (by repeat (first | (with_reducible first | exact HB.out | apply below_alloc | apply pw_below_drewN | apply below_drew1 | refine below_set ?_ GE259.out) | exact HB.out))) hk)), Kd.freshB (g := gb259) (o := .cells #[.int .i64 a0_0, .int .i64 a0_1, .int .u64 a0_2, .int .u64 a0_3, .slice A0_4 l0_4.length c0_4] 52 (0, 0)) (by (with_reducible repeat (first | refine blk_drewN ?_ _ | refine blk_drew ?_ | refine blk_alloc ?_ _)); exact BK259.out) k_ hk⟩) _ (Nat.le_refl _)) (Below.refl _ _) (Nat.le_refl _) (by simp) ?_; (case hd => rfl); (case hg => rfl); (case hr => first | (go_simp; done) | (go_simp; rfl)); (case hp => exact (Reps.one (show Kd.FK (Kd.slice 47 k47) _ _ y260 [.slice Ao16 y260.length co16] from (Kd.FK_slice_mk (Kd.R_reads' (Kd.R_mono (ok' := (fun k_ => (P1_ k_ ∨ w.heap.size ≤ k_) ∧ k_ ≠ gb259)) (Kd.R_types (HO262.out) BK259.out (by decide)) (fun k_ hk => ⟨(.inr (hk.1.1)), hk.2⟩))).2.1 (Kd.R_F (Kd.R_mono (ok' := (fun k_ => (P1_ k_ ∨ w.heap.size ≤ k_) ∧ k_ ≠ gb259)) (Kd.R_types (HO262.out) BK259.out (by decide)) (fun k_ hk => ⟨(.inr (hk.1.1)), hk.2⟩))))) (Reps.none _ _))); intro v264 w17 ho18 hb hg_ hnew_; clear hg_ hnew_; (first | rw [← Ny263.out] at ho18 | (simp only [Int.reduceToNat] at ho18; rw [← Ny263.out] at ho18)); have n0_ := Aside0.mk (Kd.HV_elder' (by (with_reducible repeat (first | apply Kd.HV_alloc | apply Kd.HV_drewN | apply Kd.HV_drew)); exact HO_1.out) (Kd.N_base ho18) hb); have n1_ := Aside0.mk (Kd.N_lower ho18 (below_size (by repeat (first | (with_reducible first | exact HB.out | apply below_alloc | apply pw_below_drewN | apply below_drew1 | refine below_set ?_ GE259.out) | exact HB.out)))); have n2_ := Aside0.mk (blk_below (g := gb259) (o := .cells #[.int .i64 a0_0, .int .i64 a0_1, .int .u64 a0_2, .int .u64 a0_3, .slice A0_4 l0_4.length c0_4] 52 (0, 0)) (by (with_reducible repeat (first | refine blk_drewN ?_ _ | refine blk_drew ?_ | refine blk_alloc ?_ _)); exact BK259.out) hb); have n3_ := Aside0.mk (below_step (by repeat (first | (with_reducible first | exact HB.out | apply below_alloc | apply pw_below_drewN | apply below_drew1 | refine below_set ?_ GE259.out) | exact HB.out)) hb); clear HO_1; clear BK259; clear HB; clear HO262; have HO_1 := n0_; have HO265 := n1_; have BK259 := n2_; have HB := n3_; clear n0_ n1_ n2_ n3_; clear hb ho18))
          go_ret2
          exact ⟨_, by first | rfl | (simp [errW_none, errW_some] <;> rfl) | (simp [*, errW_none, errW_some] <;> rfl), Kd.N_V (by (with_reducible repeat (first | apply Kd.N_alloc | apply Kd.N_drewN | apply Kd.N_drew)); exact Kd.N_mono HO265.out (fun _ hk => hk.1)), by repeat (first | (with_reducible first | exact HB.out | apply below_alloc | apply pw_below_drewN | apply below_drew1 | refine below_set ?_ GE259.out) | exact HB.out)⟩
        · replace c12 := Bool.eq_false_iff.mpr c12
          subst c12
          have H1 : (if a0_0 = 6 then (if 0 < (l0_4.length : Int) then (if 0 ≤ (rd l0_4 0) then (if (rd l0_4 0) < (l1.length : Int) then ((droverref16_without.f kj5 (([[]] : List (List (S47)))) (rd_L8 l1 (rd l0_4 0))).bind fun bt271 => (some (bt271.1, bt271.2))) else (none)) else (none)) else (none)) else (if a0_0 = 5 then (droverref16_node.l1 kj5 l1 ([] : List (List (S47))) 0 a0_0 a0_1 a0_2 a0_3 l0_4) else (droverref16_node.l0 kj5 l1 (([[]] : List (List (S47)))) 0 a0_0 a0_1 a0_2 a0_3 l0_4))) = some (r1, r2) := by rw [if_neg (show ¬ (false = true) by decide)] at H; exact H
          clear H
          have H := H1
          clear H1
          by_cases c19 : a0_0 = 6
          · rw [if_pos c19] at H
            have c19b0 : (a0_0 == 6) = true := beq_iff_eq.mpr c19
            have c19b1 : (a0_0 != 6) = false := bne_eq_false_iff_eq.mpr c19
            clear c19
            obtain ⟨y266, hy266⟩ : ∃ y_ : List (List (S47)), y_ = (([[]] : List (List (S47)))) := ⟨_, rfl⟩
            replace H : (if 0 < (l0_4.length : Int) then (if 0 ≤ (rd l0_4 0) then (if (rd l0_4 0) < (l1.length : Int) then ((droverref16_without.f kj5 y266 (rd_L8 l1 (rd l0_4 0))).bind fun bt271 => (some (bt271.1, bt271.2))) else (none)) else (none)) else (none)) = some (r1, r2) := by first | (rw [hy266]; with_reducible exact H) | (have H2_ := (Option.bind_some _ _).symm.trans H; rw [hy266]; with_reducible exact H2_) | (have H2_ := (Option.bind_some _ _).symm.trans H; with_reducible exact H2_) | with_reducible exact H | (rw [hy266]; exact H) | exact H
            have Ny266 := Aside0.mk hy266
            clear hy266
            by_cases c20 : 0 < (l0_4.length : Int)
            · rw [if_pos c20] at H
              have c20b0 : decide (0 < (l0_4.length : Int)) = true := decide_eq_true c20
              have c20b1 : decide (0 < l0_4.length) = true := decide_eq_true (by omega)
              clear c20
              by_cases c21 : 0 ≤ (rd l0_4 0)
              · rw [if_pos c21] at H
                have c21b0 : decide (0 ≤ (rd l0_4 0)) = true := decide_eq_true c21
                clear c21
                by_cases c22 : (rd l0_4 0) < (l1.length : Int)
                · rw [if_pos c22] at H
                  have c22b0 : decide ((rd l0_4 0) < (l1.length : Int)) = true := decide_eq_true c22
                  clear c22
                  replace H := Option.bind_eq_some_iff.mp H
                  obtain ⟨⟨t271, t274⟩, A230, H⟩ := H
                  replace H : (some (t271, t274)) = some (r1, r2) := H
                  have A23 := Aside0.mk A230
                  clear A230
                  simp only [Option.some.injEq, Prod.mk.injEq] at H
                  obtain ⟨rfl, rfl⟩ := H
                  have hcz24_0 : wc.cell? ⟨gb259, 0, none⟩ = some (.int .i64 a0_0) := (blk_cell BK259.out 0).trans rfl
                  have hcz24_1 : wc.cell? ⟨gb259, 1, none⟩ = some (.int .i64 a0_1) := (blk_cell BK259.out 1).trans rfl
                  have hcz24_2 : wc.cell? ⟨gb259, 2, none⟩ = some (.int .u64 a0_2) := (blk_cell BK259.out 2).trans rfl
                  have hcz24_3 : wc.cell? ⟨gb259, 3, none⟩ = some (.int .u64 a0_3) := (blk_cell BK259.out 3).trans rfl
                  have hcz24_4 : wc.cell? ⟨gb259, 4, none⟩ = some (.slice A0_4 l0_4.length c0_4) := (blk_cell BK259.out 4).trans rfl
                  have hfz24_0 := blk_frozen BK259.out 0
                  have hfz24_1 := blk_frozen BK259.out 1
                  have hfz24_2 := blk_frozen BK259.out 2
                  have hfz24_3 := blk_frozen BK259.out 3
                  have hfz24_4 := blk_frozen BK259.out 4
                  go_wp2_with (first | ((with_reducible refine gate_dst (N := 32) rfl ?_); (try (refine gate_guard (by rfl) ?_; dsimp only)); refine Kd.N_lit (Kd.slice 47 k47) _ 33 ?hg (N' := 32) ?hd (xs := ([[]] : List (List (S47)))) (inner := [.slice none 0 0]) (ok := (fun k_ => (P1_ k_ ∨ w.heap.size ≤ k_) ∧ k_ ≠ gb259)) (okp := (fun k_ => (P1_ k_ ∨ w.heap.size ≤ k_) ∧ k_ ≠ gb259)) ?hr ?hp (fun _ hk => hk) ((show ∀ k_, wc.heap.size ≤ k_ → (fun k_ => (P1_ k_ ∨ w.heap.size ≤ k_) ∧ k_ ≠ gb259) k_ from fun k_ hk => ⟨(.inr (Nat.le_trans (below_size (by repeat (first | (with_reducible first | exact HB.out | apply below_alloc | apply pw_below_drewN | apply below_drew1 | refine below_set ?_ GE259.out) | exact HB.out))) hk)), Kd.freshB (g := gb259) (o := .cells #[.int .i64 a0_0, .int .i64 a0_1, .int .u64 a0_2, .int .u64 a0_3, .slice A0_4 l0_4.length c0_4] 52 (0, 0)) (by (with_reducible repeat (first | refine blk_drewN ?_ _ | refine blk_drew ?_ | refine blk_alloc ?_ _)); exact BK259.out) k_ hk⟩) _ (Nat.le_refl _)) (Below.refl _ _) (Nat.le_refl _) (by simp) ?_; (case hd => rfl); (case hg => rfl); (case hr => first | (go_simp; done) | (go_simp; rfl)); (case hp => exact (Reps.one (show Kd.FK (Kd.slice 47 k47) _ _ [] [.slice none 0 0] from (Kd.FK_slice_mk (Nat.le_refl _) (Kd.F_nil _ _ _))) (Reps.none _ _))); intro v267 w25 ho26 hb hg_ hnew_; clear hg_ hnew_; (first | rw [← Ny266.out] at ho26 | (simp only [Int.reduceToNat] at ho26; rw [← Ny266.out] at ho26)); have n0_ := Aside0.mk (Kd.HV_elder' (by (with_reducible repeat (first | apply Kd.HV_alloc | apply Kd.HV_drewN | apply Kd.HV_drew)); exact HO_1.out) (Kd.N_base ho26) hb); have n1_ := Aside0.mk (Kd.N_lower ho26 (below_size (by repeat (first | (with_reducible first | exact HB.out | apply below_alloc | apply pw_below_drewN | apply below_drew1 | refine below_set ?_ GE259.out) | exact HB.out)))); have n2_ := Aside0.mk (blk_below (g := gb259) (o := .cells #[.int .i64 a0_0, .int .i64 a0_1, .int .u64 a0_2, .int .u64 a0_3, .slice A0_4 l0_4.length c0_4] 52 (0, 0)) (by (with_reducible repeat (first | refine blk_drewN ?_ _ | refine blk_drew ?_ | refine blk_alloc ?_ _)); exact BK259.out) hb); have n3_ := Aside0.mk (below_step (by repeat (first | (with_reducible first | exact HB.out | apply below_alloc | apply pw_below_drewN | apply below_drew1 | refine below_set ?_ GE259.out) | exact HB.out)) hb); clear HO_1; clear BK259; clear HB; have HO_1 := n0_; have HO268 := n1_; have BK259 := n2_; have HB := n3_; clear n0_ n1_ n2_ n3_; clear hb ho26; have hcz27_0 : w25.cell? ⟨gb259, 0, none⟩ = some (.int .i64 a0_0) := (blk_cell BK259.out 0).trans rfl; have hcz27_1 : w25.cell? ⟨gb259, 1, none⟩ = some (.int .i64 a0_1) := (blk_cell BK259.out 1).trans rfl; have hcz27_2 : w25.cell? ⟨gb259, 2, none⟩ = some (.int .u64 a0_2) := (blk_cell BK259.out 2).trans rfl; have hcz27_3 : w25.cell? ⟨gb259, 3, none⟩ = some (.int .u64 a0_3) := (blk_cell BK259.out 3).trans rfl; have hcz27_4 : w25.cell? ⟨gb259, 4, none⟩ = some (.slice A0_4 l0_4.length c0_4) := (blk_cell BK259.out 4).trans rfl; have hfz27_0 := blk_frozen BK259.out 0; have hfz27_1 := blk_frozen BK259.out 1; have hfz27_2 := blk_frozen BK259.out 2; have hfz27_3 := blk_frozen BK259.out 3; have hfz27_4 := blk_frozen BK259.out 4; have p269 : 0 ≤ (0 : Int) := (by omega); have q269 : 0 < (l0_4.length : Int) := of_decide_eq_true (by first | (with_reducible assumption) | assumption); obtain ⟨ad269, e269, hx269_0⟩ := Kd.at_int HR0_4.out 0 p269 q269; cases e269; have qi269 : (0 < l0_4.length) = True := eq_true (by omega); (try rw [show ((0 : Int)).toNat = 0 from rfl] at hx269_0); (try rw [Addr.add_zero'] at hx269_0); replace hx269_0 := (HB.out.cell (World.block_lt_of_cell? w _ hx269_0)).trans hx269_0; replace p269 := eq_true p269; replace q269 := eq_true q269; have p270 : 0 ≤ ((rd l0_4 0) : Int) := of_decide_eq_true (by first | (with_reducible assumption) | assumption); have q270 : (rd l0_4 0) < (l1.length : Int) := of_decide_eq_true (by first | (with_reducible assumption) | assumption); obtain ⟨ad270, A270_0, c270_0, e270, hx270_0, hl270_0, hi270_0⟩ := at_L8 (Kd.HV_reads' HO_1.out (by repeat (first | (with_reducible first | exact HB.out | apply below_alloc | apply pw_below_drewN | apply below_drew1 | refine below_set ?_ GE259.out) | exact HB.out))).2.2 (rd l0_4 0) p270 q270; cases e270; obtain ⟨ce270, hce270, hMe270, hcc270⟩ := Kd.HV_get HO_1.out (by repeat (first | (with_reducible first | exact HB.out | apply below_alloc | apply pw_below_drewN | apply below_drew1 | refine below_set ?_ GE259.out) | exact HB.out)) [] (rd l0_4 0) p270 (by first | exact q270 | exact of_decide_eq_true (by first | (with_reducible assumption) | assumption) | (have e_ := (Kd.HV_reads' HO_1.out (by repeat (first | (with_reducible first | exact HB.out | apply below_alloc | apply pw_below_drewN | apply below_drew1 | refine below_set ?_ GE259.out) | exact HB.out))).1; omega)); obtain ⟨ua270_0, uc270_0, rfl, ul270_0, ge270_0⟩ := Kd.FK_slice_open hMe270; have hv270_0 := hcc270 0 _ rfl; rw [Nat.add_zero, show ((Kd.slice 33 (Kd.slice 47 k47))).sz = 1 from rfl, Nat.mul_one] at hv270_0; replace hv270_0 := Option.some.inj (hv270_0.symm.trans hx270_0); injection hv270_0 with hva_ hvn_ hvc_; rw [hva_] at ge270_0; rw [hvc_] at ul270_0; have HL270_0 := Aside0.mk (show Kd.V (Kd.slice 47 k47) 33 _ w.heap.size _ _ (rd_L8 l1 (rd l0_4 0)) from Kd.V_mk ul270_0 ge270_0); clear hva_ hvn_ hvc_ ge270_0 ul270_0; clear hcc270 hce270; have HR270_0 := Aside0.mk hi270_0; have HC270_0 := Aside0.mk hl270_0; clear hi270_0 hl270_0; replace p270 := eq_true p270; replace q270 := eq_true q270; obtain ⟨Ao28, co28, eo28⟩ := Kd.N_slice HO268.out; subst eo28) | ((with_reducible refine gate_callee (f := 65) rfl ?_); refine goesL_ (some 40) rfl rfl Try.func65 (by kernel_rfl) rfl #[.slice Ao28 y266.length co28, .slice A270_0 (rd_L8 l1 (rd l0_4 0)).length c270_0] rfl (by (try simp only [List.map_toArray, List.map_cons, List.map_nil]); first | done | rfl | (simp only [List.length_drop, List.length_take]; rfl)) ?_; (with_reducible refine (droverref16_without.calls kj5 (fun k_ => ((P1_ k_ ∨ w.heap.size ≤ k_) ∧ k_ ≠ gb259)) _ _ y266 _ _ (rd_L8 l1 (rd l0_4 0)) t271 t274 _ ?side1 ?side2 ?side3 A23.out).mono ?_); (case side1 => exact Kd.N_V (HO268.out)); (case side2 => repeat (first | exact (by repeat (first | (with_reducible exact HR270_0.out) | (with_reducible refine Kd.C_alloc ?_ _) | (with_reducible refine Kd.C_drewN ?_ _) | (with_reducible refine Kd.C_drew ?_) | exact HR270_0.out)) | (with_reducible refine Kd.C_alloc ?_ _) | (with_reducible refine Kd.C_drewN ?_ _) | (with_reducible refine Kd.C_drew ?_))); (case side3 => exact HC270_0.out); rintro e w29 ⟨v272, rfl, ho0, hb⟩; refine ⟨_, rfl, ?_⟩; have n0_ := Aside0.mk (Kd.HV_below (by (with_reducible repeat (first | apply Kd.HV_alloc | apply Kd.HV_drewN | apply Kd.HV_drew)); exact HO_1.out) hb); have n1_ := Aside0.mk (Kd.N_below (by (with_reducible repeat (first | apply Kd.N_alloc | apply Kd.N_drewN | apply Kd.N_drew)); exact HO268.out) hb); have n2_ := Aside0.mk (Kd.V_below (by (with_reducible repeat (first | apply Kd.V_alloc | apply Kd.V_drewN | apply Kd.V_drew)); exact HL270_0.out) hb); have n3_ := Aside0.mk (Kd.V_lower (Kd.V_mono (ok' := fun k_ => (P1_ k_ ∨ w.heap.size ≤ k_) ∧ k_ ≠ gb259) ho0 (fun k_ hk_ => ⟨Or.elim hk_ (fun hs_ => hs_.1) (fun hn_ => (.inr (Nat.le_trans (below_size (by repeat (first | (with_reducible first | exact HB.out | apply below_alloc | apply pw_below_drewN | apply below_drew1 | refine below_set ?_ GE259.out) | exact HB.out))) hn_))), Or.elim hk_ (fun hs_ => hs_.2) (fun hn_ => (Kd.freshB (g := gb259) (o := .cells #[.int .i64 a0_0, .int .i64 a0_1, .int .u64 a0_2, .int .u64 a0_3, .slice (some ad269) l0_4.length c0_4] 52 (0, 0)) (by (with_reducible repeat (first | refine blk_drewN ?_ _ | refine blk_drew ?_ | refine blk_alloc ?_ _)); exact BK259.out) k_ hn_))⟩)) (below_size (by repeat (first | (with_reducible first | exact HB.out | apply below_alloc | apply pw_below_drewN | apply below_drew1 | refine below_set ?_ GE259.out) | exact HB.out)))); have n4_ := Aside0.mk (blk_below (g := gb259) (o := .cells #[.int .i64 a0_0, .int .i64 a0_1, .int .u64 a0_2, .int .u64 a0_3, .slice (some ad269) l0_4.length c0_4] 52 (0, 0)) (by (with_reducible repeat (first | refine blk_drewN ?_ _ | refine blk_drew ?_ | refine blk_alloc ?_ _)); exact BK259.out) hb); have n5_ := Aside0.mk (Kd.C_below (by repeat (first | (with_reducible exact HR270_0.out) | (with_reducible refine Kd.C_alloc ?_ _) | (with_reducible refine Kd.C_drewN ?_ _) | (with_reducible refine Kd.C_drew ?_) | exact HR270_0.out)) hb); have n6_ := Aside0.mk (below_step (by repeat (first | (with_reducible first | exact HB.out | apply below_alloc | apply pw_below_drewN | apply below_drew1 | refine below_set ?_ GE259.out) | exact HB.out)) hb); clear HO_1; clear HO268; clear HL270_0; clear BK259; clear HR270_0; clear HB; have HO_1 := n0_; have HO268 := n1_; have HL270_0 := n2_; have HO273 := n3_; have BK259 := n4_; have HR270_0 := n5_; have HB := n6_; clear n0_ n1_ n2_ n3_ n4_ n5_ n6_; (try clear hb); (try clear hb2); (try clear hk); (try clear hi); (try clear ho0)))
                  go_ret2
                  exact ⟨_, by first | rfl | (simp [errW_none, errW_some] <;> rfl) | (simp [*, errW_none, errW_some] <;> rfl), by (with_reducible repeat (first | apply Kd.V_alloc | apply Kd.V_drewN | apply Kd.V_drew)); exact Kd.V_mono HO273.out (fun _ hk => hk.1), by repeat (first | (with_reducible first | exact HB.out | apply below_alloc | apply pw_below_drewN | apply below_drew1 | refine below_set ?_ GE259.out) | exact HB.out)⟩
                · rw [if_neg c22] at H
                  exact absurd H (by simp)
              · rw [if_neg c21] at H
                exact absurd H (by simp)
            · rw [if_neg c20] at H
              exact absurd H (by simp)
          · rw [if_neg c19] at H
            have c19b0 : (a0_0 == 6) = false := beq_eq_false_iff_ne.mpr c19
            have c19b1 : (a0_0 != 6) = true := bne_iff_ne.mpr c19
            by_cases c30 : a0_0 = 5
            · rw [if_pos c30] at H
              have c30b0 : (a0_0 == 5) = true := beq_iff_eq.mpr c30
              have c30b1 : (a0_0 != 5) = false := bne_eq_false_iff_eq.mpr c30
              clear c30
              have H' := Aside0.mk H
              clear H
              have hcz31_0 : wc.cell? ⟨gb259, 0, none⟩ = some (.int .i64 a0_0) := (blk_cell BK259.out 0).trans rfl
              have hcz31_1 : wc.cell? ⟨gb259, 1, none⟩ = some (.int .i64 a0_1) := (blk_cell BK259.out 1).trans rfl
              have hcz31_2 : wc.cell? ⟨gb259, 2, none⟩ = some (.int .u64 a0_2) := (blk_cell BK259.out 2).trans rfl
              have hcz31_3 : wc.cell? ⟨gb259, 3, none⟩ = some (.int .u64 a0_3) := (blk_cell BK259.out 3).trans rfl
              have hcz31_4 : wc.cell? ⟨gb259, 4, none⟩ = some (.slice A0_4 l0_4.length c0_4) := (blk_cell BK259.out 4).trans rfl
              have hfz31_0 := blk_frozen BK259.out 0
              have hfz31_1 := blk_frozen BK259.out 1
              have hfz31_2 := blk_frozen BK259.out 2
              have hfz31_3 := blk_frozen BK259.out 3
              have hfz31_4 := blk_frozen BK259.out 4
              go_wp2
              go_loopg [8, 9] kj5 (fun kq v8 v9 w' => ∃ (x8_2 : List (List (S47))) (x9_2 : Int), v9 = .int .i64 x9_2 ∧ Aside0 (droverref16_node.l1 kq l1 x8_2 x9_2 a0_0 a0_1 a0_2 a0_3 l0_4 = some (r1, r2)) ∧ Aside0 (kq ≤ kj5) ∧ Aside0 (Kd.HV w 26 w' w.heap.size (fun k_ => (P1_ k_ ∨ w.heap.size ≤ k_) ∧ some k_ ≠ (v8 : Value).ownBlock ∧ k_ ≠ gb259) (.slice A1 l1.length c1) l1) ∧ Aside0 (Kd.N (Kd.slice 47 k47) 33 w' w.heap.size (fun k_ => (P1_ k_ ∨ w.heap.size ≤ k_) ∧ k_ ≠ gb259) v8 x8_2) ∧ Aside0 (w'.heap[gb259]? = some (.cells #[.int .i64 a0_0, .int .i64 a0_1, .int .u64 a0_2, .int .u64 a0_3, (.slice A0_4 l0_4.length c0_4)] 52 (0, 0))) ∧ Aside0 (Below w.heap.size w w'))
              case atStart => exact ⟨(([] : List (List (S47)))), (0), (by first | rfl | (simp; done) | (simp [*]; done)), H', ⟨Nat.le_refl _⟩, ⟨by (with_reducible repeat (first | apply Kd.HV_alloc | apply Kd.HV_drewN | apply Kd.HV_drew)); exact Kd.HV_mono HO_1.out (fun _ hk => ⟨hk.1, ⟨(by simp [Value.ownBlock]), hk.2⟩⟩)⟩, ⟨by first | exact Kd.S_nil _ _ _ _ _ | exact Kd.N_nil _ _ _ _ _ | exact Kd.V_nil _ _ _ _ _ | exact Kd.Q_nil _ _ _ _ _ | exact Kd.R_nil _ _ _ _ _⟩, ⟨by (with_reducible repeat (first | refine blk_drewN ?_ _ | refine blk_drew ?_ | refine blk_alloc ?_ _)); exact BK259.out⟩, ⟨by repeat (first | (with_reducible first | exact HB.out | apply below_alloc | apply pw_below_drewN | apply below_drew1 | refine below_set ?_ GE259.out) | exact HB.out)⟩⟩
              case round =>
                clear H'
                try clear c1
                try clear c2
                try clear p2
                try clear q2
                try clear hx2
                try clear qi2
                try clear c3
                try clear c3b0
                try clear c3b1
                try clear c5
                try clear c6
                try clear c9
                try clear c9b0
                try clear c9b1
                try clear c12
                try clear c19
                try clear c19b0
                try clear c19b1
                try clear c20
                try clear c20b0
                try clear c20b1
                try clear c21
                try clear c21b0
                try clear c22
                try clear c22b0
                try clear p26
                try clear q26
                try clear hx26
                try clear qi26
                try clear c27
                try clear p27
                try clear q27
                try clear hx27
                try clear c30
                try clear c30b0
                try clear c30b1
                try clear hcz10_0
                try clear hcz10_1
                try clear hcz10_2
                try clear hcz10_3
                try clear hcz10_4
                try clear hcz11_0
                try clear hcz11_1
                try clear hcz11_2
                try clear hcz11_3
                try clear hcz11_4
                try clear hcz13_0
                try clear hcz13_1
                try clear hcz13_2
                try clear hcz13_3
                try clear hcz13_4
                try clear hcz24_0
                try clear hcz24_1
                try clear hcz24_2
                try clear hcz24_3
                try clear hcz24_4
                try clear hcz27_0
                try clear hcz27_1
                try clear hcz27_2
                try clear hcz27_3
                try clear hcz27_4
                try clear hcz31_0
                try clear hcz31_1
                try clear hcz31_2
                try clear hcz31_3
                try clear hcz31_4
                try clear hcz5_0
                try clear hcz5_1
                try clear hcz5_2
                try clear hcz5_3
                try clear hcz5_4
                try clear hcz8_0
                try clear hcz8_1
                try clear hcz8_2
                try clear hcz8_3
                try clear hcz8_4
                try clear hfz10_0
                try clear hfz10_1
                try clear hfz10_2
                try clear hfz10_3
                try clear hfz10_4
                try clear hfz11_0
                try clear hfz11_1
                try clear hfz11_2
                try clear hfz11_3
                try clear hfz11_4
                try clear hfz13_0
                try clear hfz13_1
                try clear hfz13_2
                try clear hfz13_3
                try clear hfz13_4
                try clear hfz24_0
                try clear hfz24_1
                try clear hfz24_2
                try clear hfz24_3
                try clear hfz24_4
                try clear hfz27_0
                try clear hfz27_1
                try clear hfz27_2
                try clear hfz27_3
                try clear hfz27_4
                try clear hfz31_0
                try clear hfz31_1
                try clear hfz31_2
                try clear hfz31_3
                try clear hfz31_4
                try clear hfz5_0
                try clear hfz5_1
                try clear hfz5_2
                try clear hfz5_3
                try clear hfz5_4
                try clear hfz8_0
                try clear hfz8_1
                try clear hfz8_2
                try clear hfz8_3
                try clear hfz8_4
                try clear hx269_0
                try clear hx270_0
                try clear p2
                try clear p269
                try clear p270
                try clear q269
                try clear q270
                obtain ⟨x8_2, x9_2, rfl, HA, HK2, HO_1, HO_8, BK259, HB⟩ := hrel
                cases gk with
                | zero => exact absurd HA.out (by simp [droverref16_node.l1])
                | succ k2 =>
                  have H := HA.out
                  clear HA
                  simp only [droverref16_node.l1] at H
                  by_cases c32 : x9_2 < (l0_4.length : Int)
                  · rw [if_pos c32] at H
                    have c32b0 : decide (x9_2 < (l0_4.length : Int)) = true := decide_eq_true c32
                    clear c32
                    by_cases c33 : 0 ≤ x9_2
                    · rw [if_pos c33] at H
                      have c33b0 : decide (0 ≤ x9_2) = true := decide_eq_true c33
                      clear c33
                      by_cases c34 : 0 ≤ (rd l0_4 x9_2)
                      · rw [if_pos c34] at H
                        have c34b0 : decide (0 ≤ (rd l0_4 x9_2)) = true := decide_eq_true c34
                        clear c34
                        by_cases c35 : (rd l0_4 x9_2) < (l1.length : Int)
                        · rw [if_pos c35] at H
                          have c35b0 : decide ((rd l0_4 x9_2) < (l1.length : Int)) = true := decide_eq_true c35
                          clear c35
                          replace H := Option.bind_eq_some_iff.mp H
                          obtain ⟨⟨t285, t288⟩, A360, H⟩ := H
                          replace H : (if t288 = true then (if (wrap64 ((x8_2.length : Int) + (t285.length : Int))) > 128 then (some (([] : List (List (S47))), false)) else (if ([] : List (List (S47))).length + x8_2.length < 5864062014805 then ((some (([] : List (List (S47))) ++ x8_2 : List (List (S47)))).bind fun y289 => (if y289.length + t285.length < 5864062014805 then (droverref16_node.l1 k2 l1 (y289 ++ t285) (wrap64 (x9_2 + 1)) a0_0 a0_1 a0_2 a0_3 l0_4) else (none))) else (none))) else (some (([] : List (List (S47))), false))) = some (r1, r2) := H
                          have A36 := Aside0.mk A360
                          clear A360
                          by_cases c37 : t288 = true
                          · subst c37
                            have H1 : (if (wrap64 ((x8_2.length : Int) + (t285.length : Int))) > 128 then (some (([] : List (List (S47))), false)) else (if ([] : List (List (S47))).length + x8_2.length < 5864062014805 then ((some (([] : List (List (S47))) ++ x8_2 : List (List (S47)))).bind fun y289 => (if y289.length + t285.length < 5864062014805 then (droverref16_node.l1 k2 l1 (y289 ++ t285) (wrap64 (x9_2 + 1)) a0_0 a0_1 a0_2 a0_3 l0_4) else (none))) else (none))) = some (r1, r2) := by rw [if_pos rfl] at H; exact H
                            clear H
                            have H := H1
                            clear H1
                            by_cases c38 : (wrap64 ((x8_2.length : Int) + (t285.length : Int))) > 128
                            · rw [if_pos c38] at H
                              have c38b0 : decide (128 < (wrap64 ((x8_2.length : Int) + (t285.length : Int)))) = true := decide_eq_true c38
                              clear c38
                              simp only [Option.some.injEq, Prod.mk.injEq] at H
                              obtain ⟨rfl, rfl⟩ := H
                              have hcz39_0 : wr.cell? ⟨gb259, 0, none⟩ = some (.int .i64 a0_0) := (blk_cell BK259.out 0).trans rfl
                              have hcz39_1 : wr.cell? ⟨gb259, 1, none⟩ = some (.int .i64 a0_1) := (blk_cell BK259.out 1).trans rfl
                              have hcz39_2 : wr.cell? ⟨gb259, 2, none⟩ = some (.int .u64 a0_2) := (blk_cell BK259.out 2).trans rfl
                              have hcz39_3 : wr.cell? ⟨gb259, 3, none⟩ = some (.int .u64 a0_3) := (blk_cell BK259.out 3).trans rfl
                              have hcz39_4 : wr.cell? ⟨gb259, 4, none⟩ = some (.slice A0_4 l0_4.length c0_4) := (blk_cell BK259.out 4).trans rfl
                              have hfz39_0 := blk_frozen BK259.out 0
                              have hfz39_1 := blk_frozen BK259.out 1
                              have hfz39_2 := blk_frozen BK259.out 2
                              have hfz39_3 := blk_frozen BK259.out 3
                              have hfz39_4 := blk_frozen BK259.out 4
                              have p283 : 0 ≤ (x9_2 : Int) := of_decide_eq_true (by first | (with_reducible assumption) | assumption)
                              have q283 : x9_2 < (l0_4.length : Int) := of_decide_eq_true (by first | (with_reducible assumption) | assumption)
                              obtain ⟨ad283, e283, hx283_0⟩ := Kd.at_int HR0_4.out x9_2 p283 q283
                              cases e283
                              replace hx283_0 := (HB.out.cell (World.block_lt_of_cell? w _ hx283_0)).trans hx283_0
                              replace p283 := eq_true p283
                              replace q283 := eq_true q283
                              have p284 : 0 ≤ ((rd l0_4 x9_2) : Int) := of_decide_eq_true (by first | (with_reducible assumption) | assumption)
                              have q284 : (rd l0_4 x9_2) < (l1.length : Int) := of_decide_eq_true (by first | (with_reducible assumption) | assumption)
                              obtain ⟨ad284, A284_0, c284_0, e284, hx284_0, hl284_0, hi284_0⟩ := at_L8 (Kd.HV_reads' HO_1.out (by repeat (first | (with_reducible first | exact HB.out | apply below_alloc | apply pw_below_drewN | apply below_drew1 | refine below_set ?_ GE259.out) | exact HB.out))).2.2 (rd l0_4 x9_2) p284 q284
                              cases e284
                              obtain ⟨ce284, hce284, hMe284, hcc284⟩ := Kd.HV_get HO_1.out (by repeat (first | (with_reducible first | exact HB.out | apply below_alloc | apply pw_below_drewN | apply below_drew1 | refine below_set ?_ GE259.out) | exact HB.out)) [] (rd l0_4 x9_2) p284 (by first | exact q284 | exact of_decide_eq_true (by first | (with_reducible assumption) | assumption) | (have e_ := (Kd.HV_reads' HO_1.out (by repeat (first | (with_reducible first | exact HB.out | apply below_alloc | apply pw_below_drewN | apply below_drew1 | refine below_set ?_ GE259.out) | exact HB.out))).1; omega))
                              obtain ⟨ua284_0, uc284_0, rfl, ul284_0, ge284_0⟩ := Kd.FK_slice_open hMe284
                              have hv284_0 := hcc284 0 _ rfl
                              rw [Nat.add_zero, show ((Kd.slice 33 (Kd.slice 47 k47))).sz = 1 from rfl, Nat.mul_one] at hv284_0
                              replace hv284_0 := Option.some.inj (hv284_0.symm.trans hx284_0)
                              injection hv284_0 with hva_ hvn_ hvc_
                              rw [hva_] at ge284_0
                              rw [hvc_] at ul284_0
                              have HL284_0 := Aside0.mk (show Kd.V (Kd.slice 47 k47) 33 _ w.heap.size _ _ (rd_L8 l1 (rd l0_4 x9_2)) from Kd.V_mk ul284_0 ge284_0)
                              clear hva_ hvn_ hvc_ ge284_0 ul284_0
                              clear hcc284 hce284
                              have HR284_0 := Aside0.mk hi284_0
                              have HC284_0 := Aside0.mk hl284_0
                              clear hi284_0 hl284_0
                              replace p284 := eq_true p284
                              replace q284 := eq_true q284
                              obtain ⟨Ao40, co40, eo40⟩ := Kd.N_slice HO_8.out
                              subst eo40
                              go_wp2_with (first | ((with_reducible refine gate_callee (f := 65) rfl ?_); refine goesL_ (some 85) rfl rfl Try.func65 (by kernel_rfl) rfl #[.slice A284_0 (rd_L8 l1 (rd l0_4 x9_2)).length c284_0, .slice Ao40 x8_2.length co40] rfl (by (try simp only [List.map_toArray, List.map_cons, List.map_nil]); first | done | rfl | (simp only [List.length_drop, List.length_take]; rfl)) ?_; (with_reducible refine (droverref16_without.calls k2 (fun k_ => ((P1_ k_ ∨ w.heap.size ≤ k_) ∧ (some k_ ≠ (.slice Ao40 x8_2.length co40 : Value).ownBlock ∧ k_ ≠ gb259))) _ _ (rd_L8 l1 (rd l0_4 x9_2)) _ _ x8_2 t285 true _ ?side1 ?side2 ?side3 A36.out).mono ?_); (case side1 => exact HL284_0.out); (case side2 => repeat (first | exact (Kd.N_reads' HO_8.out).2.2 | (with_reducible refine Kd.C_alloc ?_ _) | (with_reducible refine Kd.C_drewN ?_ _) | (with_reducible refine Kd.C_drew ?_))); (case side3 => exact (Kd.N_reads' HO_8.out).2.1); rintro e w41 ⟨v286, rfl, ho0, hb⟩; refine ⟨_, rfl, ?_⟩; have n0_ := Aside0.mk (Kd.HV_below (by (with_reducible repeat (first | apply Kd.HV_alloc | apply Kd.HV_drewN | apply Kd.HV_drew)); exact HO_1.out) hb); have n1_ := Aside0.mk (Kd.N_below (by (with_reducible repeat (first | apply Kd.N_alloc | apply Kd.N_drewN | apply Kd.N_drew)); exact HO_8.out) hb); have n2_ := Aside0.mk (Kd.V_below (by (with_reducible repeat (first | apply Kd.V_alloc | apply Kd.V_drewN | apply Kd.V_drew)); exact HL284_0.out) hb); have n3_ := Aside0.mk (Kd.V_lower (Kd.V_mono (ok' := fun k_ => (P1_ k_ ∨ w.heap.size ≤ k_) ∧ some k_ ≠ (.slice Ao40 x8_2.length co40 : Value).ownBlock ∧ k_ ≠ gb259) ho0 (fun k_ hk_ => ⟨Or.elim hk_ (fun hs_ => hs_.1) (fun hn_ => (.inr (Nat.le_trans (below_size (by repeat (first | (with_reducible first | exact HB.out | apply below_alloc | apply pw_below_drewN | apply below_drew1 | refine below_set ?_ GE259.out) | exact HB.out))) hn_))), Or.elim hk_ (fun hs_ => hs_.2.1) (fun hn_ => (Kd.fresh' (Kd.N_lt (by (with_reducible repeat (first | apply Kd.N_alloc | apply Kd.N_drewN | apply Kd.N_drew)); exact HO_8.out)) k_ hn_)), Or.elim hk_ (fun hs_ => hs_.2.2) (fun hn_ => (Kd.freshB (g := gb259) (o := .cells #[.int .i64 a0_0, .int .i64 a0_1, .int .u64 a0_2, .int .u64 a0_3, .slice (some ad283) l0_4.length c0_4] 52 (0, 0)) (by (with_reducible repeat (first | refine blk_drewN ?_ _ | refine blk_drew ?_ | refine blk_alloc ?_ _)); exact BK259.out) k_ hn_))⟩)) (below_size (by repeat (first | (with_reducible first | exact HB.out | apply below_alloc | apply pw_below_drewN | apply below_drew1 | refine below_set ?_ GE259.out) | exact HB.out)))); have n4_ := Aside0.mk (blk_below (g := gb259) (o := .cells #[.int .i64 a0_0, .int .i64 a0_1, .int .u64 a0_2, .int .u64 a0_3, .slice (some ad283) l0_4.length c0_4] 52 (0, 0)) (by (with_reducible repeat (first | refine blk_drewN ?_ _ | refine blk_drew ?_ | refine blk_alloc ?_ _)); exact BK259.out) hb); have n5_ := Aside0.mk (Kd.C_below (by repeat (first | (with_reducible exact HR284_0.out) | (with_reducible refine Kd.C_alloc ?_ _) | (with_reducible refine Kd.C_drewN ?_ _) | (with_reducible refine Kd.C_drew ?_) | exact HR284_0.out)) hb); have n6_ := Aside0.mk (below_step (by repeat (first | (with_reducible first | exact HB.out | apply below_alloc | apply pw_below_drewN | apply below_drew1 | refine below_set ?_ GE259.out) | exact HB.out)) hb); clear HO_1; clear HO_8; clear HL284_0; clear BK259; clear HR284_0; clear HB; have HO_1 := n0_; have HO_8 := n1_; have HL284_0 := n2_; have HO287 := n3_; have BK259 := n4_; have HR284_0 := n5_; have HB := n6_; clear n0_ n1_ n2_ n3_ n4_ n5_ n6_; (try clear hb); (try clear hb2); (try clear hk); (try clear hi); (try clear ho0); obtain ⟨Ao42, co42, eo42⟩ := Kd.V_slice HO287.out; subst eo42))
                              go_ret2
                              exact ⟨_, by first | rfl | (simp [errW_none, errW_some] <;> rfl) | (simp [*, errW_none, errW_some] <;> rfl), Kd.V_nil _ _ _ _ _, by repeat (first | (with_reducible first | exact HB.out | apply below_alloc | apply pw_below_drewN | apply below_drew1 | refine below_set ?_ GE259.out) | exact HB.out)⟩
                            · rw [if_neg c38] at H
                              have c38b0 : decide (128 < (wrap64 ((x8_2.length : Int) + (t285.length : Int)))) = false := decide_eq_false c38
                              clear c38
                              by_cases c43 : ([] : List (List (S47))).length + x8_2.length < 5864062014805
                              · rw [if_pos c43] at H
                                have LMc43 := Aside0.mk c43
                                clear c43
                                obtain ⟨y289, hy289⟩ : ∃ y_ : List (List (S47)), y_ = (([] : List (List (S47))) ++ x8_2) := ⟨_, rfl⟩
                                replace H : (if y289.length + t285.length < 5864062014805 then (droverref16_node.l1 k2 l1 (y289 ++ t285) (wrap64 (x9_2 + 1)) a0_0 a0_1 a0_2 a0_3 l0_4) else (none)) = some (r1, r2) := by first | (rw [hy289]; with_reducible exact H) | (have H2_ := (Option.bind_some _ _).symm.trans H; rw [hy289]; with_reducible exact H2_) | (have H2_ := (Option.bind_some _ _).symm.trans H; with_reducible exact H2_) | with_reducible exact H | (rw [hy289]; exact H) | exact H
                                have Ny289 := Aside0.mk hy289
                                clear hy289
                                by_cases c44 : y289.length + t285.length < 5864062014805
                                · rw [if_pos c44] at H
                                  have LMc44 := Aside0.mk c44
                                  clear c44
                                  obtain ⟨y292, hy292⟩ : ∃ y_ : List (List (S47)), y_ = (y289 ++ t285) := ⟨_, rfl⟩
                                  replace H : (droverref16_node.l1 k2 l1 y292 (wrap64 (x9_2 + 1)) a0_0 a0_1 a0_2 a0_3 l0_4) = some (r1, r2) := by first | (rw [hy292]; with_reducible exact H) | (have H2_ := (Option.bind_some _ _).symm.trans H; rw [hy292]; with_reducible exact H2_) | (have H2_ := (Option.bind_some _ _).symm.trans H; with_reducible exact H2_) | with_reducible exact H | (rw [hy292]; exact H) | exact H
                                  have Ny292 := Aside0.mk hy292
                                  clear hy292
                                  have H' := Aside0.mk H
                                  clear H
                                  have hcz45_0 : wr.cell? ⟨gb259, 0, none⟩ = some (.int .i64 a0_0) := (blk_cell BK259.out 0).trans rfl
                                  have hcz45_1 : wr.cell? ⟨gb259, 1, none⟩ = some (.int .i64 a0_1) := (blk_cell BK259.out 1).trans rfl
                                  have hcz45_2 : wr.cell? ⟨gb259, 2, none⟩ = some (.int .u64 a0_2) := (blk_cell BK259.out 2).trans rfl
                                  have hcz45_3 : wr.cell? ⟨gb259, 3, none⟩ = some (.int .u64 a0_3) := (blk_cell BK259.out 3).trans rfl
                                  have hcz45_4 : wr.cell? ⟨gb259, 4, none⟩ = some (.slice A0_4 l0_4.length c0_4) := (blk_cell BK259.out 4).trans rfl
                                  have hfz45_0 := blk_frozen BK259.out 0
                                  have hfz45_1 := blk_frozen BK259.out 1
                                  have hfz45_2 := blk_frozen BK259.out 2
                                  have hfz45_3 := blk_frozen BK259.out 3
                                  have hfz45_4 := blk_frozen BK259.out 4
                                  have p283 : 0 ≤ (x9_2 : Int) := of_decide_eq_true (by first | (with_reducible assumption) | assumption)
                                  have q283 : x9_2 < (l0_4.length : Int) := of_decide_eq_true (by first | (with_reducible assumption) | assumption)
                                  obtain ⟨ad283, e283, hx283_0⟩ := Kd.at_int HR0_4.out x9_2 p283 q283
                                  cases e283
                                  replace hx283_0 := (HB.out.cell (World.block_lt_of_cell? w _ hx283_0)).trans hx283_0
                                  replace p283 := eq_true p283
                                  replace q283 := eq_true q283
                                  have p284 : 0 ≤ ((rd l0_4 x9_2) : Int) := of_decide_eq_true (by first | (with_reducible assumption) | assumption)
                                  have q284 : (rd l0_4 x9_2) < (l1.length : Int) := of_decide_eq_true (by first | (with_reducible assumption) | assumption)
                                  obtain ⟨ad284, A284_0, c284_0, e284, hx284_0, hl284_0, hi284_0⟩ := at_L8 (Kd.HV_reads' HO_1.out (by repeat (first | (with_reducible first | exact HB.out | apply below_alloc | apply pw_below_drewN | apply below_drew1 | refine below_set ?_ GE259.out) | exact HB.out))).2.2 (rd l0_4 x9_2) p284 q284
                                  cases e284
                                  obtain ⟨ce284, hce284, hMe284, hcc284⟩ := Kd.HV_get HO_1.out (by repeat (first | (with_reducible first | exact HB.out | apply below_alloc | apply pw_below_drewN | apply below_drew1 | refine below_set ?_ GE259.out) | exact HB.out)) [] (rd l0_4 x9_2) p284 (by first | exact q284 | exact of_decide_eq_true (by first | (with_reducible assumption) | assumption) | (have e_ := (Kd.HV_reads' HO_1.out (by repeat (first | (with_reducible first | exact HB.out | apply below_alloc | apply pw_below_drewN | apply below_drew1 | refine below_set ?_ GE259.out) | exact HB.out))).1; omega))
                                  obtain ⟨ua284_0, uc284_0, rfl, ul284_0, ge284_0⟩ := Kd.FK_slice_open hMe284
                                  have hv284_0 := hcc284 0 _ rfl
                                  rw [Nat.add_zero, show ((Kd.slice 33 (Kd.slice 47 k47))).sz = 1 from rfl, Nat.mul_one] at hv284_0
                                  replace hv284_0 := Option.some.inj (hv284_0.symm.trans hx284_0)
                                  injection hv284_0 with hva_ hvn_ hvc_
                                  rw [hva_] at ge284_0
                                  rw [hvc_] at ul284_0
                                  have HL284_0 := Aside0.mk (show Kd.V (Kd.slice 47 k47) 33 _ w.heap.size _ _ (rd_L8 l1 (rd l0_4 x9_2)) from Kd.V_mk ul284_0 ge284_0)
                                  clear hva_ hvn_ hvc_ ge284_0 ul284_0
                                  clear hcc284 hce284
                                  have HR284_0 := Aside0.mk hi284_0
                                  have HC284_0 := Aside0.mk hl284_0
                                  clear hi284_0 hl284_0
                                  replace p284 := eq_true p284
                                  replace q284 := eq_true q284
                                  obtain ⟨Ao46, co46, eo46⟩ := Kd.N_slice HO_8.out
                                  subst eo46
                                  go_wp2_with (first | ((with_reducible refine gate_callee (f := 65) rfl ?_); refine goesL_ (some 85) rfl rfl Try.func65 (by kernel_rfl) rfl #[.slice A284_0 (rd_L8 l1 (rd l0_4 x9_2)).length c284_0, .slice Ao46 x8_2.length co46] rfl (by (try simp only [List.map_toArray, List.map_cons, List.map_nil]); first | done | rfl | (simp only [List.length_drop, List.length_take]; rfl)) ?_; (with_reducible refine (droverref16_without.calls k2 (fun k_ => ((P1_ k_ ∨ w.heap.size ≤ k_) ∧ (some k_ ≠ (.slice Ao46 x8_2.length co46 : Value).ownBlock ∧ k_ ≠ gb259))) _ _ (rd_L8 l1 (rd l0_4 x9_2)) _ _ x8_2 t285 true _ ?side1 ?side2 ?side3 A36.out).mono ?_); (case side1 => exact HL284_0.out); (case side2 => repeat (first | exact (Kd.N_reads' HO_8.out).2.2 | (with_reducible refine Kd.C_alloc ?_ _) | (with_reducible refine Kd.C_drewN ?_ _) | (with_reducible refine Kd.C_drew ?_))); (case side3 => exact (Kd.N_reads' HO_8.out).2.1); rintro e w47 ⟨v286, rfl, ho0, hb⟩; refine ⟨_, rfl, ?_⟩; have n0_ := Aside0.mk (Kd.HV_below (by (with_reducible repeat (first | apply Kd.HV_alloc | apply Kd.HV_drewN | apply Kd.HV_drew)); exact HO_1.out) hb); have n1_ := Aside0.mk (Kd.N_below (by (with_reducible repeat (first | apply Kd.N_alloc | apply Kd.N_drewN | apply Kd.N_drew)); exact HO_8.out) hb); have n2_ := Aside0.mk (Kd.V_below (by (with_reducible repeat (first | apply Kd.V_alloc | apply Kd.V_drewN | apply Kd.V_drew)); exact HL284_0.out) hb); have n3_ := Aside0.mk (Kd.V_lower (Kd.V_mono (ok' := fun k_ => (P1_ k_ ∨ w.heap.size ≤ k_) ∧ some k_ ≠ (.slice Ao46 x8_2.length co46 : Value).ownBlock ∧ k_ ≠ gb259) ho0 (fun k_ hk_ => ⟨Or.elim hk_ (fun hs_ => hs_.1) (fun hn_ => (.inr (Nat.le_trans (below_size (by repeat (first | (with_reducible first | exact HB.out | apply below_alloc | apply pw_below_drewN | apply below_drew1 | refine below_set ?_ GE259.out) | exact HB.out))) hn_))), Or.elim hk_ (fun hs_ => hs_.2.1) (fun hn_ => (Kd.fresh' (Kd.N_lt (by (with_reducible repeat (first | apply Kd.N_alloc | apply Kd.N_drewN | apply Kd.N_drew)); exact HO_8.out)) k_ hn_)), Or.elim hk_ (fun hs_ => hs_.2.2) (fun hn_ => (Kd.freshB (g := gb259) (o := .cells #[.int .i64 a0_0, .int .i64 a0_1, .int .u64 a0_2, .int .u64 a0_3, .slice (some ad283) l0_4.length c0_4] 52 (0, 0)) (by (with_reducible repeat (first | refine blk_drewN ?_ _ | refine blk_drew ?_ | refine blk_alloc ?_ _)); exact BK259.out) k_ hn_))⟩)) (below_size (by repeat (first | (with_reducible first | exact HB.out | apply below_alloc | apply pw_below_drewN | apply below_drew1 | refine below_set ?_ GE259.out) | exact HB.out)))); have n4_ := Aside0.mk (blk_below (g := gb259) (o := .cells #[.int .i64 a0_0, .int .i64 a0_1, .int .u64 a0_2, .int .u64 a0_3, .slice (some ad283) l0_4.length c0_4] 52 (0, 0)) (by (with_reducible repeat (first | refine blk_drewN ?_ _ | refine blk_drew ?_ | refine blk_alloc ?_ _)); exact BK259.out) hb); have n5_ := Aside0.mk (Kd.C_below (by repeat (first | (with_reducible exact HR284_0.out) | (with_reducible refine Kd.C_alloc ?_ _) | (with_reducible refine Kd.C_drewN ?_ _) | (with_reducible refine Kd.C_drew ?_) | exact HR284_0.out)) hb); have n6_ := Aside0.mk (below_step (by repeat (first | (with_reducible first | exact HB.out | apply below_alloc | apply pw_below_drewN | apply below_drew1 | refine below_set ?_ GE259.out) | exact HB.out)) hb); clear HO_1; clear HO_8; clear HL284_0; clear BK259; clear HR284_0; clear HB; have HO_1 := n0_; have HO_8 := n1_; have HL284_0 := n2_; have HO287 := n3_; have BK259 := n4_; have HR284_0 := n5_; have HB := n6_; clear n0_ n1_ n2_ n3_ n4_ n5_ n6_; (try clear hb); (try clear hb2); (try clear hk); (try clear hi); (try clear ho0); obtain ⟨Ao48, co48, eo48⟩ := Kd.V_slice HO287.out; subst eo48) | ((with_reducible refine gate_builtin (b := .append) (xs := #[.tmp 98, .tmp 99]) rfl ?_); (try (refine gate_guard (by rfl) ?_; dsimp only)); at_builtin; refine Kd.N_append_rows (Kd.slice 47 k47) (w0 := w) w.heap.size rfl (.tmp 98) (.tmp 99) 26 33 (.slice none 0 0) 24 rfl Try.underlying26 info33 rfl (by decide) (by omega) (.slice none 0 0) ([] : List (List (S47))) x8_2 _ _ _ (fun k_ => (P1_ k_ ∨ w.heap.size ≤ k_) ∧ k_ ≠ gb259) (fun k_ => ((fun k_ => (P1_ k_ ∨ w.heap.size ≤ k_) ∧ k_ ≠ gb259)) k_ ∧ some k_ ≠ (.slice none 0 0 : Value).ownBlock) rfl rfl ?aO ?aR (fun _ hk => hk) ?aF ?aB ?aS ?aL ?_; (case aR => exact (by skip; exact Kd.N_F (Kd.N_mono (ok' := (fun k_ => ((fun k_ => (P1_ k_ ∨ w.heap.size ≤ k_) ∧ k_ ≠ gb259)) k_ ∧ some k_ ≠ (.slice none 0 0 : Value).ownBlock)) (HO_8.out) (fun k_ hk => ⟨⟨hk.1, hk.2⟩, (by simp [Value.ownBlock])⟩)))); (case aB => exact (by repeat (first | (with_reducible first | exact HB.out | apply below_alloc | apply pw_below_drewN | apply below_drew1 | refine below_set ?_ GE259.out) | exact HB.out))); (case aF => exact (fun k_ hk => ⟨(.inr (Nat.le_trans (below_size (by repeat (first | (with_reducible first | exact HB.out | apply below_alloc | apply pw_below_drewN | apply below_drew1 | refine below_set ?_ GE259.out) | exact HB.out))) hk)), Kd.freshB (g := gb259) (o := .cells #[.int .i64 a0_0, .int .i64 a0_1, .int .u64 a0_2, .int .u64 a0_3, .slice (some ad283) l0_4.length c0_4] 52 (0, 0)) (by (with_reducible repeat (first | refine blk_drewN ?_ _ | refine blk_drew ?_ | refine blk_alloc ?_ _)); exact BK259.out) k_ hk⟩)); (case aO => exact ((Kd.N_nil _ _ _ _ (fun k_ => (P1_ k_ ∨ w.heap.size ≤ k_) ∧ k_ ≠ gb259)))); (case aS => exact (below_size (by repeat (first | (with_reducible first | exact HB.out | apply below_alloc | apply pw_below_drewN | apply below_drew1 | refine below_set ?_ GE259.out) | exact HB.out)))); (case aL => have := LMc43.out; omega); intro v290 w49 ho hb hg hat; rw [← Ny289.out] at ho; have n0_ := Aside0.mk (Kd.HV_afterv (Kd.HV_apart_nil (by (with_reducible repeat (first | apply Kd.HV_alloc | apply Kd.HV_drewN | apply Kd.HV_drew)); exact HO_1.out)) hg hat); have n1_ := Aside0.mk (Kd.N_afterv (Kd.N_apart_nil (by (with_reducible repeat (first | apply Kd.N_alloc | apply Kd.N_drewN | apply Kd.N_drew)); exact HO_8.out)) hg hat); have n2_ := Aside0.mk (blk_grown (g := gb259) (o := .cells #[.int .i64 a0_0, .int .i64 a0_1, .int .u64 a0_2, .int .u64 a0_3, .slice (some ad283) l0_4.length c0_4] 52 (0, 0)) (by (with_reducible repeat (first | refine blk_drewN ?_ _ | refine blk_drew ?_ | refine blk_alloc ?_ _)); exact BK259.out) hg (by simp [Value.ownBlock])); have n3_ := Aside0.mk (Kd.V_afterv (Kd.V_apart_nil (by (with_reducible repeat (first | apply Kd.V_alloc | apply Kd.V_drewN | apply Kd.V_drew)); exact HL284_0.out)) hg hat); have n4_ := Aside0.mk (Kd.V_afterv (Kd.V_apart_nil (by (with_reducible repeat (first | apply Kd.V_alloc | apply Kd.V_drewN | apply Kd.V_drew)); exact HO287.out)) hg hat); have n5_ := Aside0.mk (hb); have n6_ := Aside0.mk (ho); clear HO_1; clear HO_8; clear BK259; clear HL284_0; clear HO287; clear HB; have HO_1 := n0_; have HO_8 := n1_; have BK259 := n2_; have HL284_0 := n3_; have HO287 := n4_; have HB := n5_; have HO291 := n6_; clear n0_ n1_ n2_ n3_ n4_ n5_ n6_; clear ho hb hg hat) | ((with_reducible refine gate_builtin (b := .append) (xs := #[.tmp 101, .tmp 102]) rfl ?_); (try (refine gate_guard (by rfl) ?_; dsimp only)); at_builtin; refine Kd.N_append_rows (Kd.slice 47 k47) (w0 := w) w.heap.size rfl (.tmp 101) (.tmp 102) 26 33 (.slice none 0 0) 24 rfl Try.underlying26 info33 rfl (by decide) (by omega) v290 y289 t285 _ _ _ (fun k_ => (P1_ k_ ∨ w.heap.size ≤ k_) ∧ k_ ≠ gb259) (fun k_ => ((fun k_ => (P1_ k_ ∨ w.heap.size ≤ k_) ∧ k_ ≠ gb259)) k_ ∧ some k_ ≠ (v290 : Value).ownBlock) rfl rfl ?aO ?aR (fun _ hk => hk) ?aF ?aB ?aS ?aL ?_; (case aR => exact (by skip; exact Kd.V_F (Kd.V_mono (ok' := (fun k_ => ((fun k_ => (P1_ k_ ∨ w.heap.size ≤ k_) ∧ k_ ≠ gb259)) k_ ∧ some k_ ≠ (v290 : Value).ownBlock)) (HO287.out) (fun k_ hk => ⟨⟨hk.1.1, hk.1.2.2⟩, hk.2⟩)))); (case aB => exact (by repeat (first | (with_reducible first | exact HB.out | apply below_alloc | apply pw_below_drewN | apply below_drew1 | refine below_set ?_ GE259.out) | exact HB.out))); (case aF => exact (fun k_ hk => ⟨(.inr (Nat.le_trans (below_size (by repeat (first | (with_reducible first | exact HB.out | apply below_alloc | apply pw_below_drewN | apply below_drew1 | refine below_set ?_ GE259.out) | exact HB.out))) hk)), Kd.freshB (g := gb259) (o := .cells #[.int .i64 a0_0, .int .i64 a0_1, .int .u64 a0_2, .int .u64 a0_3, .slice (some ad283) l0_4.length c0_4] 52 (0, 0)) (by (with_reducible repeat (first | refine blk_drewN ?_ _ | refine blk_drew ?_ | refine blk_alloc ?_ _)); exact BK259.out) k_ hk⟩)); (case aO => exact (by (with_reducible repeat (first | apply Kd.N_alloc | apply Kd.N_drewN | apply Kd.N_drew)); exact HO291.out)); (case aS => exact (below_size (by repeat (first | (with_reducible first | exact HB.out | apply below_alloc | apply pw_below_drewN | apply below_drew1 | refine below_set ?_ GE259.out) | exact HB.out)))); (case aL => have := LMc44.out; omega); intro v293 w50 ho hb hg hat; rw [← Ny292.out] at ho; have n0_ := Aside0.mk (Kd.HV_afterv (ok := (fun k_ => (P1_ k_ ∨ w.heap.size ≤ k_) ∧ some k_ ≠ (.slice Ao46 x8_2.length co46 : Value).ownBlock ∧ k_ ≠ gb259)) (by (with_reducible repeat (first | apply Kd.HV_alloc | apply Kd.HV_drewN | apply Kd.HV_drew)); exact HO_1.out) hg hat); have n1_ := Aside0.mk (Kd.N_afterv (ok := (fun k_ => (P1_ k_ ∨ w.heap.size ≤ k_) ∧ k_ ≠ gb259)) (by (with_reducible repeat (first | apply Kd.N_alloc | apply Kd.N_drewN | apply Kd.N_drew)); exact HO_8.out) hg hat); have n2_ := Aside0.mk (blk_grown (g := gb259) (o := .cells #[.int .i64 a0_0, .int .i64 a0_1, .int .u64 a0_2, .int .u64 a0_3, .slice (some ad283) l0_4.length c0_4] 52 (0, 0)) (by (with_reducible repeat (first | refine blk_drewN ?_ _ | refine blk_drew ?_ | refine blk_alloc ?_ _)); exact BK259.out) hg (Kd.N_ne HO291.out BK259.out (by decide))); have n3_ := Aside0.mk (Kd.V_afterv (ok := (fun k_ => (P1_ k_ ∨ w.heap.size ≤ k_) ∧ some k_ ≠ (.slice Ao46 x8_2.length co46 : Value).ownBlock ∧ k_ ≠ gb259)) (by (with_reducible repeat (first | apply Kd.V_alloc | apply Kd.V_drewN | apply Kd.V_drew)); exact HL284_0.out) hg hat); have n4_ := Aside0.mk (Kd.V_afterv (ok := (fun k_ => (P1_ k_ ∨ w.heap.size ≤ k_) ∧ some k_ ≠ (.slice Ao46 x8_2.length co46 : Value).ownBlock ∧ k_ ≠ gb259)) (by (with_reducible repeat (first | apply Kd.V_alloc | apply Kd.V_drewN | apply Kd.V_drew)); exact HO287.out) hg hat); have n5_ := Aside0.mk (hb); have n6_ := Aside0.mk (ho); clear HO_1; clear HO_8; clear BK259; clear HL284_0; clear HO287; clear HB; clear HO291; have HO_1 := n0_; have HO_8 := n1_; have BK259 := n2_; have HL284_0 := n3_; have HO287 := n4_; have HB := n5_; have HO294 := n6_; clear n0_ n1_ n2_ n3_ n4_ n5_ n6_; clear ho hb hg hat))
                                  go_roundg k2
                                  case measure => have := HJ5.out; have := HK2.out; omega
                                  case rel => exact ⟨(y292), (wrap64 (x9_2 + 1)), (by first | rfl | (simp; done) | (simp [*]; done)), H', ⟨by have := HJ5.out; have := HK2.out; omega⟩, ⟨by (with_reducible repeat (first | apply Kd.HV_alloc | apply Kd.HV_drewN | apply Kd.HV_drew)); exact Kd.HV_mono HO_1.out (fun _ hk => ⟨hk.1.1, ⟨hk.2, hk.1.2.2⟩⟩)⟩, ⟨by (with_reducible repeat (first | apply Kd.N_alloc | apply Kd.N_drewN | apply Kd.N_drew)); exact HO294.out⟩, ⟨by (with_reducible repeat (first | refine blk_drewN ?_ _ | refine blk_drew ?_ | refine blk_alloc ?_ _)); exact BK259.out⟩, ⟨by repeat (first | (with_reducible first | exact HB.out | apply below_alloc | apply pw_below_drewN | apply below_drew1 | refine below_set ?_ GE259.out) | exact HB.out)⟩⟩
                                · rw [if_neg c44] at H
                                  exact absurd H (by simp)
                              · rw [if_neg c43] at H
                                exact absurd H (by simp)
                          · replace c37 := Bool.eq_false_iff.mpr c37
                            subst c37
                            have H1 : (some (([] : List (List (S47))), false)) = some (r1, r2) := by rw [if_neg (show ¬ (false = true) by decide)] at H; exact H
                            clear H
                            have H := H1
                            clear H1
                            simp only [Option.some.injEq, Prod.mk.injEq] at H
                            obtain ⟨rfl, rfl⟩ := H
                            have hcz51_0 : wr.cell? ⟨gb259, 0, none⟩ = some (.int .i64 a0_0) := (blk_cell BK259.out 0).trans rfl
                            have hcz51_1 : wr.cell? ⟨gb259, 1, none⟩ = some (.int .i64 a0_1) := (blk_cell BK259.out 1).trans rfl
                            have hcz51_2 : wr.cell? ⟨gb259, 2, none⟩ = some (.int .u64 a0_2) := (blk_cell BK259.out 2).trans rfl
                            have hcz51_3 : wr.cell? ⟨gb259, 3, none⟩ = some (.int .u64 a0_3) := (blk_cell BK259.out 3).trans rfl
                            have hcz51_4 : wr.cell? ⟨gb259, 4, none⟩ = some (.slice A0_4 l0_4.length c0_4) := (blk_cell BK259.out 4).trans rfl
                            have hfz51_0 := blk_frozen BK259.out 0
                            have hfz51_1 := blk_frozen BK259.out 1
                            have hfz51_2 := blk_frozen BK259.out 2
                            have hfz51_3 := blk_frozen BK259.out 3
                            have hfz51_4 := blk_frozen BK259.out 4
                            have p283 : 0 ≤ (x9_2 : Int) := of_decide_eq_true (by first | (with_reducible assumption) | assumption)
                            have q283 : x9_2 < (l0_4.length : Int) := of_decide_eq_true (by first | (with_reducible assumption) | assumption)
                            obtain ⟨ad283, e283, hx283_0⟩ := Kd.at_int HR0_4.out x9_2 p283 q283
                            cases e283
                            replace hx283_0 := (HB.out.cell (World.block_lt_of_cell? w _ hx283_0)).trans hx283_0
                            replace p283 := eq_true p283
                            replace q283 := eq_true q283
                            have p284 : 0 ≤ ((rd l0_4 x9_2) : Int) := of_decide_eq_true (by first | (with_reducible assumption) | assumption)
                            have q284 : (rd l0_4 x9_2) < (l1.length : Int) := of_decide_eq_true (by first | (with_reducible assumption) | assumption)
                            obtain ⟨ad284, A284_0, c284_0, e284, hx284_0, hl284_0, hi284_0⟩ := at_L8 (Kd.HV_reads' HO_1.out (by repeat (first | (with_reducible first | exact HB.out | apply below_alloc | apply pw_below_drewN | apply below_drew1 | refine below_set ?_ GE259.out) | exact HB.out))).2.2 (rd l0_4 x9_2) p284 q284
                            cases e284
                            obtain ⟨ce284, hce284, hMe284, hcc284⟩ := Kd.HV_get HO_1.out (by repeat (first | (with_reducible first | exact HB.out | apply below_alloc | apply pw_below_drewN | apply below_drew1 | refine below_set ?_ GE259.out) | exact HB.out)) [] (rd l0_4 x9_2) p284 (by first | exact q284 | exact of_decide_eq_true (by first | (with_reducible assumption) | assumption) | (have e_ := (Kd.HV_reads' HO_1.out (by repeat (first | (with_reducible first | exact HB.out | apply below_alloc | apply pw_below_drewN | apply below_drew1 | refine below_set ?_ GE259.out) | exact HB.out))).1; omega))
                            obtain ⟨ua284_0, uc284_0, rfl, ul284_0, ge284_0⟩ := Kd.FK_slice_open hMe284
                            have hv284_0 := hcc284 0 _ rfl
                            rw [Nat.add_zero, show ((Kd.slice 33 (Kd.slice 47 k47))).sz = 1 from rfl, Nat.mul_one] at hv284_0
                            replace hv284_0 := Option.some.inj (hv284_0.symm.trans hx284_0)
                            injection hv284_0 with hva_ hvn_ hvc_
                            rw [hva_] at ge284_0
                            rw [hvc_] at ul284_0
                            have HL284_0 := Aside0.mk (show Kd.V (Kd.slice 47 k47) 33 _ w.heap.size _ _ (rd_L8 l1 (rd l0_4 x9_2)) from Kd.V_mk ul284_0 ge284_0)
                            clear hva_ hvn_ hvc_ ge284_0 ul284_0
                            clear hcc284 hce284
                            have HR284_0 := Aside0.mk hi284_0
                            have HC284_0 := Aside0.mk hl284_0
                            clear hi284_0 hl284_0
                            replace p284 := eq_true p284
                            replace q284 := eq_true q284
                            obtain ⟨Ao52, co52, eo52⟩ := Kd.N_slice HO_8.out
                            subst eo52
                            go_wp2_with (first | ((with_reducible refine gate_callee (f := 65) rfl ?_); refine goesL_ (some 85) rfl rfl Try.func65 (by kernel_rfl) rfl #[.slice A284_0 (rd_L8 l1 (rd l0_4 x9_2)).length c284_0, .slice Ao52 x8_2.length co52] rfl (by (try simp only [List.map_toArray, List.map_cons, List.map_nil]); first | done | rfl | (simp only [List.length_drop, List.length_take]; rfl)) ?_; (with_reducible refine (droverref16_without.calls k2 (fun k_ => ((P1_ k_ ∨ w.heap.size ≤ k_) ∧ (some k_ ≠ (.slice Ao52 x8_2.length co52 : Value).ownBlock ∧ k_ ≠ gb259))) _ _ (rd_L8 l1 (rd l0_4 x9_2)) _ _ x8_2 t285 false _ ?side1 ?side2 ?side3 A36.out).mono ?_); (case side1 => exact HL284_0.out); (case side2 => repeat (first | exact (Kd.N_reads' HO_8.out).2.2 | (with_reducible refine Kd.C_alloc ?_ _) | (with_reducible refine Kd.C_drewN ?_ _) | (with_reducible refine Kd.C_drew ?_))); (case side3 => exact (Kd.N_reads' HO_8.out).2.1); rintro e w53 ⟨v286, rfl, ho0, hb⟩; refine ⟨_, rfl, ?_⟩; have n0_ := Aside0.mk (Kd.HV_below (by (with_reducible repeat (first | apply Kd.HV_alloc | apply Kd.HV_drewN | apply Kd.HV_drew)); exact HO_1.out) hb); have n1_ := Aside0.mk (Kd.N_below (by (with_reducible repeat (first | apply Kd.N_alloc | apply Kd.N_drewN | apply Kd.N_drew)); exact HO_8.out) hb); have n2_ := Aside0.mk (Kd.V_below (by (with_reducible repeat (first | apply Kd.V_alloc | apply Kd.V_drewN | apply Kd.V_drew)); exact HL284_0.out) hb); have n3_ := Aside0.mk (Kd.V_lower (Kd.V_mono (ok' := fun k_ => (P1_ k_ ∨ w.heap.size ≤ k_) ∧ some k_ ≠ (.slice Ao52 x8_2.length co52 : Value).ownBlock ∧ k_ ≠ gb259) ho0 (fun k_ hk_ => ⟨Or.elim hk_ (fun hs_ => hs_.1) (fun hn_ => (.inr (Nat.le_trans (below_size (by repeat (first | (with_reducible first | exact HB.out | apply below_alloc | apply pw_below_drewN | apply below_drew1 | refine below_set ?_ GE259.out) | exact HB.out))) hn_))), Or.elim hk_ (fun hs_ => hs_.2.1) (fun hn_ => (Kd.fresh' (Kd.N_lt (by (with_reducible repeat (first | apply Kd.N_alloc | apply Kd.N_drewN | apply Kd.N_drew)); exact HO_8.out)) k_ hn_)), Or.elim hk_ (fun hs_ => hs_.2.2) (fun hn_ => (Kd.freshB (g := gb259) (o := .cells #[.int .i64 a0_0, .int .i64 a0_1, .int .u64 a0_2, .int .u64 a0_3, .slice (some ad283) l0_4.length c0_4] 52 (0, 0)) (by (with_reducible repeat (first | refine blk_drewN ?_ _ | refine blk_drew ?_ | refine blk_alloc ?_ _)); exact BK259.out) k_ hn_))⟩)) (below_size (by repeat (first | (with_reducible first | exact HB.out | apply below_alloc | apply pw_below_drewN | apply below_drew1 | refine below_set ?_ GE259.out) | exact HB.out)))); have n4_ := Aside0.mk (blk_below (g := gb259) (o := .cells #[.int .i64 a0_0, .int .i64 a0_1, .int .u64 a0_2, .int .u64 a0_3, .slice (some ad283) l0_4.length c0_4] 52 (0, 0)) (by (with_reducible repeat (first | refine blk_drewN ?_ _ | refine blk_drew ?_ | refine blk_alloc ?_ _)); exact BK259.out) hb); have n5_ := Aside0.mk (Kd.C_below (by repeat (first | (with_reducible exact HR284_0.out) | (with_reducible refine Kd.C_alloc ?_ _) | (with_reducible refine Kd.C_drewN ?_ _) | (with_reducible refine Kd.C_drew ?_) | exact HR284_0.out)) hb); have n6_ := Aside0.mk (below_step (by repeat (first | (with_reducible first | exact HB.out | apply below_alloc | apply pw_below_drewN | apply below_drew1 | refine below_set ?_ GE259.out) | exact HB.out)) hb); clear HO_1; clear HO_8; clear HL284_0; clear BK259; clear HR284_0; clear HB; have HO_1 := n0_; have HO_8 := n1_; have HL284_0 := n2_; have HO287 := n3_; have BK259 := n4_; have HR284_0 := n5_; have HB := n6_; clear n0_ n1_ n2_ n3_ n4_ n5_ n6_; (try clear hb); (try clear hb2); (try clear hk); (try clear hi); (try clear ho0)))
                            go_ret2
                            exact ⟨_, by first | rfl | (simp [errW_none, errW_some] <;> rfl) | (simp [*, errW_none, errW_some] <;> rfl), Kd.V_nil _ _ _ _ _, by repeat (first | (with_reducible first | exact HB.out | apply below_alloc | apply pw_below_drewN | apply below_drew1 | refine below_set ?_ GE259.out) | exact HB.out)⟩
                        · rw [if_neg c35] at H
                          exact absurd H (by simp)
                      · rw [if_neg c34] at H
                        exact absurd H (by simp)
                    · rw [if_neg c33] at H
                      exact absurd H (by simp)
                  · rw [if_neg c32] at H
                    have c32b0 : decide (x9_2 < (l0_4.length : Int)) = false := decide_eq_false c32
                    clear c32
                    simp only [Option.some.injEq, Prod.mk.injEq] at H
                    obtain ⟨rfl, rfl⟩ := H
                    have hcz54_0 : wr.cell? ⟨gb259, 0, none⟩ = some (.int .i64 a0_0) := (blk_cell BK259.out 0).trans rfl
                    have hcz54_1 : wr.cell? ⟨gb259, 1, none⟩ = some (.int .i64 a0_1) := (blk_cell BK259.out 1).trans rfl
                    have hcz54_2 : wr.cell? ⟨gb259, 2, none⟩ = some (.int .u64 a0_2) := (blk_cell BK259.out 2).trans rfl
                    have hcz54_3 : wr.cell? ⟨gb259, 3, none⟩ = some (.int .u64 a0_3) := (blk_cell BK259.out 3).trans rfl
                    have hcz54_4 : wr.cell? ⟨gb259, 4, none⟩ = some (.slice A0_4 l0_4.length c0_4) := (blk_cell BK259.out 4).trans rfl
                    have hfz54_0 := blk_frozen BK259.out 0
                    have hfz54_1 := blk_frozen BK259.out 1
                    have hfz54_2 := blk_frozen BK259.out 2
                    have hfz54_3 := blk_frozen BK259.out 3
                    have hfz54_4 := blk_frozen BK259.out 4
                    go_wp2
                    go_ret2
                    exact ⟨_, by first | rfl | (simp [errW_none, errW_some] <;> rfl) | (simp [*, errW_none, errW_some] <;> rfl), Kd.N_V (by (with_reducible repeat (first | apply Kd.N_alloc | apply Kd.N_drewN | apply Kd.N_drew)); exact Kd.N_mono HO_8.out (fun _ hk => hk.1)), by repeat (first | (with_reducible first | exact HB.out | apply below_alloc | apply pw_below_drewN | apply below_drew1 | refine below_set ?_ GE259.out) | exact HB.out)⟩
            · rw [if_neg c30] at H
              have c30b0 : (a0_0 == 5) = false := beq_eq_false_iff_ne.mpr c30
              have c30b1 : (a0_0 != 5) = true := bne_iff_ne.mpr c30
              obtain ⟨y275, hy275⟩ : ∃ y_ : List (List (S47)), y_ = (([[]] : List (List (S47)))) := ⟨_, rfl⟩
              replace H : (droverref16_node.l0 kj5 l1 y275 0 a0_0 a0_1 a0_2 a0_3 l0_4) = some (r1, r2) := by first | (rw [hy275]; with_reducible exact H) | (have H2_ := (Option.bind_some _ _).symm.trans H; rw [hy275]; with_reducible exact H2_) | (have H2_ := (Option.bind_some _ _).symm.trans H; with_reducible exact H2_) | with_reducible exact H | (rw [hy275]; exact H) | exact H
              have Ny275 := Aside0.mk hy275
              clear hy275
              have H' := Aside0.mk H
              clear H
              have hcz55_0 : wc.cell? ⟨gb259, 0, none⟩ = some (.int .i64 a0_0) := (blk_cell BK259.out 0).trans rfl
              have hcz55_1 : wc.cell? ⟨gb259, 1, none⟩ = some (.int .i64 a0_1) := (blk_cell BK259.out 1).trans rfl
              have hcz55_2 : wc.cell? ⟨gb259, 2, none⟩ = some (.int .u64 a0_2) := (blk_cell BK259.out 2).trans rfl
              have hcz55_3 : wc.cell? ⟨gb259, 3, none⟩ = some (.int .u64 a0_3) := (blk_cell BK259.out 3).trans rfl
              have hcz55_4 : wc.cell? ⟨gb259, 4, none⟩ = some (.slice A0_4 l0_4.length c0_4) := (blk_cell BK259.out 4).trans rfl
              have hfz55_0 := blk_frozen BK259.out 0
              have hfz55_1 := blk_frozen BK259.out 1
              have hfz55_2 := blk_frozen BK259.out 2
              have hfz55_3 := blk_frozen BK259.out 3
              have hfz55_4 := blk_frozen BK259.out 4
              go_wp2_with (first | ((with_reducible refine gate_dst (N := 46) rfl ?_); (try (refine gate_guard (by rfl) ?_; dsimp only)); refine Kd.N_lit (Kd.slice 47 k47) _ 33 ?hg (N' := 46) ?hd (xs := ([[]] : List (List (S47)))) (inner := [.slice none 0 0]) (ok := (fun k_ => (P1_ k_ ∨ w.heap.size ≤ k_) ∧ k_ ≠ gb259)) (okp := (fun k_ => (P1_ k_ ∨ w.heap.size ≤ k_) ∧ k_ ≠ gb259)) ?hr ?hp (fun _ hk => hk) ((show ∀ k_, wc.heap.size ≤ k_ → (fun k_ => (P1_ k_ ∨ w.heap.size ≤ k_) ∧ k_ ≠ gb259) k_ from fun k_ hk => ⟨(.inr (Nat.le_trans (below_size (by repeat (first | (with_reducible first | exact HB.out | apply below_alloc | apply pw_below_drewN | apply below_drew1 | refine below_set ?_ GE259.out) | exact HB.out))) hk)), Kd.freshB (g := gb259) (o := .cells #[.int .i64 a0_0, .int .i64 a0_1, .int .u64 a0_2, .int .u64 a0_3, .slice A0_4 l0_4.length c0_4] 52 (0, 0)) (by (with_reducible repeat (first | refine blk_drewN ?_ _ | refine blk_drew ?_ | refine blk_alloc ?_ _)); exact BK259.out) k_ hk⟩) _ (Nat.le_refl _)) (Below.refl _ _) (Nat.le_refl _) (by simp) ?_; (case hd => rfl); (case hg => rfl); (case hr => first | (go_simp; done) | (go_simp; rfl)); (case hp => exact (Reps.one (show Kd.FK (Kd.slice 47 k47) _ _ [] [.slice none 0 0] from (Kd.FK_slice_mk (Nat.le_refl _) (Kd.F_nil _ _ _))) (Reps.none _ _))); intro v276 w56 ho57 hb hg_ hnew_; clear hg_ hnew_; (first | rw [← Ny275.out] at ho57 | (simp only [Int.reduceToNat] at ho57; rw [← Ny275.out] at ho57)); have n0_ := Aside0.mk (Kd.HV_elder' (by (with_reducible repeat (first | apply Kd.HV_alloc | apply Kd.HV_drewN | apply Kd.HV_drew)); exact HO_1.out) (Kd.N_base ho57) hb); have n1_ := Aside0.mk (Kd.N_lower ho57 (below_size (by repeat (first | (with_reducible first | exact HB.out | apply below_alloc | apply pw_below_drewN | apply below_drew1 | refine below_set ?_ GE259.out) | exact HB.out)))); have n2_ := Aside0.mk (blk_below (g := gb259) (o := .cells #[.int .i64 a0_0, .int .i64 a0_1, .int .u64 a0_2, .int .u64 a0_3, .slice A0_4 l0_4.length c0_4] 52 (0, 0)) (by (with_reducible repeat (first | refine blk_drewN ?_ _ | refine blk_drew ?_ | refine blk_alloc ?_ _)); exact BK259.out) hb); have n3_ := Aside0.mk (below_step (by repeat (first | (with_reducible first | exact HB.out | apply below_alloc | apply pw_below_drewN | apply below_drew1 | refine below_set ?_ GE259.out) | exact HB.out)) hb); clear HO_1; clear BK259; clear HB; have HO_1 := n0_; have HO277 := n1_; have BK259 := n2_; have HB := n3_; clear n0_ n1_ n2_ n3_; clear hb ho57))
              go_loopg [6, 7] kj5 (fun kq v6 v7 w' => ∃ (x6_2 : List (List (S47))) (x7_2 : Int), v7 = .int .i64 x7_2 ∧ Aside0 (droverref16_node.l0 kq l1 x6_2 x7_2 a0_0 a0_1 a0_2 a0_3 l0_4 = some (r1, r2)) ∧ Aside0 (kq ≤ kj5) ∧ Aside0 (Kd.HV w 26 w' w.heap.size (fun k_ => (P1_ k_ ∨ w.heap.size ≤ k_) ∧ some k_ ≠ (v6 : Value).ownBlock ∧ k_ ≠ gb259) (.slice A1 l1.length c1) l1) ∧ Aside0 (Kd.N (Kd.slice 47 k47) 33 w' w.heap.size (fun k_ => (P1_ k_ ∨ w.heap.size ≤ k_) ∧ k_ ≠ gb259) v6 x6_2) ∧ Aside0 (w'.heap[gb259]? = some (.cells #[.int .i64 a0_0, .int .i64 a0_1, .int .u64 a0_2, .int .u64 a0_3, (.slice A0_4 l0_4.length c0_4)] 52 (0, 0))) ∧ Aside0 (Below w.heap.size w w'))
              case atStart => exact ⟨(y275), (0), (by first | rfl | (simp; done) | (simp [*]; done)), H', ⟨Nat.le_refl _⟩, ⟨by (with_reducible repeat (first | apply Kd.HV_alloc | apply Kd.HV_drewN | apply Kd.HV_drew)); exact Kd.HV_mono HO_1.out (fun _ hk => ⟨hk.1.1, ⟨hk.2, hk.1.2⟩⟩)⟩, ⟨by (with_reducible repeat (first | apply Kd.N_alloc | apply Kd.N_drewN | apply Kd.N_drew)); exact HO277.out⟩, ⟨by (with_reducible repeat (first | refine blk_drewN ?_ _ | refine blk_drew ?_ | refine blk_alloc ?_ _)); exact BK259.out⟩, ⟨by repeat (first | (with_reducible first | exact HB.out | apply below_alloc | apply pw_below_drewN | apply below_drew1 | refine below_set ?_ GE259.out) | exact HB.out)⟩⟩
              case round =>
                clear H'
                try clear c1
                try clear c2
                try clear p2
                try clear q2
                try clear hx2
                try clear qi2
                try clear c3
                try clear c3b0
                try clear c3b1
                try clear c4
                try clear c5
                try clear c6
                try clear p6
                try clear c9
                try clear c9b0
                try clear c9b1
                try clear c12
                try clear c19
                try clear c19b0
                try clear c19b1
                try clear c20
                try clear c20b0
                try clear c20b1
                try clear c21
                try clear c21b0
                try clear c22
                try clear c22b0
                try clear p26
                try clear q26
                try clear hx26
                try clear qi26
                try clear c27
                try clear p27
                try clear q27
                try clear hx27
                try clear c28
                try clear p28
                try clear q28
                try clear hx28
                try clear c30
                try clear c30b0
                try clear c30b1
                try clear c32
                try clear c32b0
                try clear c33
                try clear c33b0
                try clear c34
                try clear c34b0
                try clear c35
                try clear c35b0
                try clear c37
                try clear c38
                try clear c38b0
                try clear c43
                try clear c44
                try clear hcz10_0
                try clear hcz10_1
                try clear hcz10_2
                try clear hcz10_3
                try clear hcz10_4
                try clear hcz11_0
                try clear hcz11_1
                try clear hcz11_2
                try clear hcz11_3
                try clear hcz11_4
                try clear hcz13_0
                try clear hcz13_1
                try clear hcz13_2
                try clear hcz13_3
                try clear hcz13_4
                try clear hcz24_0
                try clear hcz24_1
                try clear hcz24_2
                try clear hcz24_3
                try clear hcz24_4
                try clear hcz27_0
                try clear hcz27_1
                try clear hcz27_2
                try clear hcz27_3
                try clear hcz27_4
                try clear hcz31_0
                try clear hcz31_1
                try clear hcz31_2
                try clear hcz31_3
                try clear hcz31_4
                try clear hcz39_0
                try clear hcz39_1
                try clear hcz39_2
                try clear hcz39_3
                try clear hcz39_4
                try clear hcz45_0
                try clear hcz45_1
                try clear hcz45_2
                try clear hcz45_3
                try clear hcz45_4
                try clear hcz51_0
                try clear hcz51_1
                try clear hcz51_2
                try clear hcz51_3
                try clear hcz51_4
                try clear hcz54_0
                try clear hcz54_1
                try clear hcz54_2
                try clear hcz54_3
                try clear hcz54_4
                try clear hcz55_0
                try clear hcz55_1
                try clear hcz55_2
                try clear hcz55_3
                try clear hcz55_4
                try clear hcz5_0
                try clear hcz5_1
                try clear hcz5_2
                try clear hcz5_3
                try clear hcz5_4
                try clear hcz8_0
                try clear hcz8_1
                try clear hcz8_2
                try clear hcz8_3
                try clear hcz8_4
                try clear hfz10_0
                try clear hfz10_1
                try clear hfz10_2
                try clear hfz10_3
                try clear hfz10_4
                try clear hfz11_0
                try clear hfz11_1
                try clear hfz11_2
                try clear hfz11_3
                try clear hfz11_4
                try clear hfz13_0
                try clear hfz13_1
                try clear hfz13_2
                try clear hfz13_3
                try clear hfz13_4
                try clear hfz24_0
                try clear hfz24_1
                try clear hfz24_2
                try clear hfz24_3
                try clear hfz24_4
                try clear hfz27_0
                try clear hfz27_1
                try clear hfz27_2
                try clear hfz27_3
                try clear hfz27_4
                try clear hfz31_0
                try clear hfz31_1
                try clear hfz31_2
                try clear hfz31_3
                try clear hfz31_4
                try clear hfz39_0
                try clear hfz39_1
                try clear hfz39_2
                try clear hfz39_3
                try clear hfz39_4
                try clear hfz45_0
                try clear hfz45_1
                try clear hfz45_2
                try clear hfz45_3
                try clear hfz45_4
                try clear hfz51_0
                try clear hfz51_1
                try clear hfz51_2
                try clear hfz51_3
                try clear hfz51_4
                try clear hfz54_0
                try clear hfz54_1
                try clear hfz54_2
                try clear hfz54_3
                try clear hfz54_4
                try clear hfz55_0
                try clear hfz55_1
                try clear hfz55_2
                try clear hfz55_3
                try clear hfz55_4
                try clear hfz5_0
                try clear hfz5_1
                try clear hfz5_2
                try clear hfz5_3
                try clear hfz5_4
                try clear hfz8_0
                try clear hfz8_1
                try clear hfz8_2
                try clear hfz8_3
                try clear hfz8_4
                try clear hx269_0
                try clear hx270_0
                try clear hx283_0
                try clear hx284_0
                try clear p2
                try clear p26
                try clear p269
                try clear p27
                try clear p270
                try clear p283
                try clear p284
                try clear q2
                try clear q26
                try clear q269
                try clear q27
                try clear q270
                try clear q283
                try clear q284
                obtain ⟨x6_2, x7_2, rfl, HA, HK2, HO_1, HO_6, BK259, HB⟩ := hrel
                cases gk with
                | zero => exact absurd HA.out (by simp [droverref16_node.l0])
                | succ k2 =>
                  have H := HA.out
                  clear HA
                  simp only [droverref16_node.l0] at H
                  by_cases c58 : x7_2 < (l0_4.length : Int)
                  · rw [if_pos c58] at H
                    have c58b0 : decide (x7_2 < (l0_4.length : Int)) = true := decide_eq_true c58
                    clear c58
                    by_cases c59 : 0 ≤ x7_2
                    · rw [if_pos c59] at H
                      have c59b0 : decide (0 ≤ x7_2) = true := decide_eq_true c59
                      clear c59
                      by_cases c60 : 0 ≤ (rd l0_4 x7_2)
                      · rw [if_pos c60] at H
                        have c60b0 : decide (0 ≤ (rd l0_4 x7_2)) = true := decide_eq_true c60
                        clear c60
                        by_cases c61 : (rd l0_4 x7_2) < (l1.length : Int)
                        · rw [if_pos c61] at H
                          have c61b0 : decide ((rd l0_4 x7_2) < (l1.length : Int)) = true := decide_eq_true c61
                          clear c61
                          replace H := Option.bind_eq_some_iff.mp H
                          obtain ⟨t280, A620, H⟩ := H
                          replace H : (if (t280.length : Int) > 128 then (some (([] : List (List (S47))), false)) else (droverref16_node.l0 k2 l1 t280 (wrap64 (x7_2 + 1)) a0_0 a0_1 a0_2 a0_3 l0_4)) = some (r1, r2) := H
                          have A62 := Aside0.mk A620
                          clear A620
                          by_cases c63 : (t280.length : Int) > 128
                          · rw [if_pos c63] at H
                            have c63b0 : decide (128 < (t280.length : Int)) = true := decide_eq_true c63
                            have c63b1 : decide (128 < t280.length) = true := decide_eq_true (by omega)
                            clear c63
                            simp only [Option.some.injEq, Prod.mk.injEq] at H
                            obtain ⟨rfl, rfl⟩ := H
                            have hcz64_0 : wr.cell? ⟨gb259, 0, none⟩ = some (.int .i64 a0_0) := (blk_cell BK259.out 0).trans rfl
                            have hcz64_1 : wr.cell? ⟨gb259, 1, none⟩ = some (.int .i64 a0_1) := (blk_cell BK259.out 1).trans rfl
                            have hcz64_2 : wr.cell? ⟨gb259, 2, none⟩ = some (.int .u64 a0_2) := (blk_cell BK259.out 2).trans rfl
                            have hcz64_3 : wr.cell? ⟨gb259, 3, none⟩ = some (.int .u64 a0_3) := (blk_cell BK259.out 3).trans rfl
                            have hcz64_4 : wr.cell? ⟨gb259, 4, none⟩ = some (.slice A0_4 l0_4.length c0_4) := (blk_cell BK259.out 4).trans rfl
                            have hfz64_0 := blk_frozen BK259.out 0
                            have hfz64_1 := blk_frozen BK259.out 1
                            have hfz64_2 := blk_frozen BK259.out 2
                            have hfz64_3 := blk_frozen BK259.out 3
                            have hfz64_4 := blk_frozen BK259.out 4
                            have p278 : 0 ≤ (x7_2 : Int) := of_decide_eq_true (by first | (with_reducible assumption) | assumption)
                            have q278 : x7_2 < (l0_4.length : Int) := of_decide_eq_true (by first | (with_reducible assumption) | assumption)
                            obtain ⟨ad278, e278, hx278_0⟩ := Kd.at_int HR0_4.out x7_2 p278 q278
                            cases e278
                            replace hx278_0 := (HB.out.cell (World.block_lt_of_cell? w _ hx278_0)).trans hx278_0
                            replace p278 := eq_true p278
                            replace q278 := eq_true q278
                            have p279 : 0 ≤ ((rd l0_4 x7_2) : Int) := of_decide_eq_true (by first | (with_reducible assumption) | assumption)
                            have q279 : (rd l0_4 x7_2) < (l1.length : Int) := of_decide_eq_true (by first | (with_reducible assumption) | assumption)
                            obtain ⟨ad279, A279_0, c279_0, e279, hx279_0, hl279_0, hi279_0⟩ := at_L8 (Kd.HV_reads' HO_1.out (by repeat (first | (with_reducible first | exact HB.out | apply below_alloc | apply pw_below_drewN | apply below_drew1 | refine below_set ?_ GE259.out) | exact HB.out))).2.2 (rd l0_4 x7_2) p279 q279
                            cases e279
                            obtain ⟨ce279, hce279, hMe279, hcc279⟩ := Kd.HV_get HO_1.out (by repeat (first | (with_reducible first | exact HB.out | apply below_alloc | apply pw_below_drewN | apply below_drew1 | refine below_set ?_ GE259.out) | exact HB.out)) [] (rd l0_4 x7_2) p279 (by first | exact q279 | exact of_decide_eq_true (by first | (with_reducible assumption) | assumption) | (have e_ := (Kd.HV_reads' HO_1.out (by repeat (first | (with_reducible first | exact HB.out | apply below_alloc | apply pw_below_drewN | apply below_drew1 | refine below_set ?_ GE259.out) | exact HB.out))).1; omega))
                            obtain ⟨ua279_0, uc279_0, rfl, ul279_0, ge279_0⟩ := Kd.FK_slice_open hMe279
                            have hv279_0 := hcc279 0 _ rfl
                            rw [Nat.add_zero, show ((Kd.slice 33 (Kd.slice 47 k47))).sz = 1 from rfl, Nat.mul_one] at hv279_0
                            replace hv279_0 := Option.some.inj (hv279_0.symm.trans hx279_0)
                            injection hv279_0 with hva_ hvn_ hvc_
                            rw [hva_] at ge279_0
                            rw [hvc_] at ul279_0
                            have HL279_0 := Aside0.mk (show Kd.V (Kd.slice 47 k47) 33 _ w.heap.size _ _ (rd_L8 l1 (rd l0_4 x7_2)) from Kd.V_mk ul279_0 ge279_0)
                            clear hva_ hvn_ hvc_ ge279_0 ul279_0
                            clear hcc279 hce279
                            have HR279_0 := Aside0.mk hi279_0
                            have HC279_0 := Aside0.mk hl279_0
                            clear hi279_0 hl279_0
                            replace p279 := eq_true p279
                            replace q279 := eq_true q279
                            obtain ⟨Ao65, co65, eo65⟩ := Kd.N_slice HO_6.out
                            subst eo65
                            go_wp2_with (first | ((with_reducible refine gate_callee (f := 59) rfl ?_); refine goesL_ (some 63) rfl rfl Try.func59 (by kernel_rfl) rfl #[.slice Ao65 x6_2.length co65, .slice A279_0 (rd_L8 l1 (rd l0_4 x7_2)).length c279_0] rfl (by (try simp only [List.map_toArray, List.map_cons, List.map_nil]); first | done | rfl | (simp only [List.length_drop, List.length_take]; rfl)) ?_; (with_reducible refine (droverref16_both.calls k2 _ _ x6_2 _ _ (rd_L8 l1 (rd l0_4 x7_2)) t280 _ ?side1 ?side2 ?side3 ?side4 A62.out).mono ?_); (case side1 => repeat (first | exact (Kd.N_reads' HO_6.out).2.2 | (with_reducible refine Kd.C_alloc ?_ _) | (with_reducible refine Kd.C_drewN ?_ _) | (with_reducible refine Kd.C_drew ?_))); (case side2 => exact (Kd.N_reads' HO_6.out).2.1); (case side3 => repeat (first | exact (by repeat (first | (with_reducible exact HR279_0.out) | (with_reducible refine Kd.C_alloc ?_ _) | (with_reducible refine Kd.C_drewN ?_ _) | (with_reducible refine Kd.C_drew ?_) | exact HR279_0.out)) | (with_reducible refine Kd.C_alloc ?_ _) | (with_reducible refine Kd.C_drewN ?_ _) | (with_reducible refine Kd.C_drew ?_))); (case side4 => exact HC279_0.out); rintro e w66 ⟨v281, rfl, ho0, hb⟩; refine ⟨_, rfl, ?_⟩; have n0_ := Aside0.mk (Kd.HV_elder' (by (with_reducible repeat (first | apply Kd.HV_alloc | apply Kd.HV_drewN | apply Kd.HV_drew)); exact HO_1.out) (Kd.N_base (Kd.S_N ho0)) hb); have n1_ := Aside0.mk (Kd.N_elder' (by (with_reducible repeat (first | apply Kd.N_alloc | apply Kd.N_drewN | apply Kd.N_drew)); exact HO_6.out) (Kd.N_base (Kd.S_N ho0)) hb); have n2_ := Aside0.mk (Kd.V_elder' (by (with_reducible repeat (first | apply Kd.V_alloc | apply Kd.V_drewN | apply Kd.V_drew)); exact HL279_0.out) (Kd.N_base (Kd.S_N ho0)) hb); have n3_ := Aside0.mk (Kd.N_lower (Kd.N_mono (ok' := fun k_ => (P1_ k_ ∨ w.heap.size ≤ k_) ∧ some k_ ≠ (.slice Ao65 x6_2.length co65 : Value).ownBlock ∧ k_ ≠ gb259) (Kd.S_N (Kd.S_bound ho0)) (fun k_ hk_ => ⟨(.inr (Nat.le_trans (below_size (by repeat (first | (with_reducible first | exact HB.out | apply below_alloc | apply pw_below_drewN | apply below_drew1 | refine below_set ?_ GE259.out) | exact HB.out))) hk_.2.1)), (Kd.fresh' (Kd.N_lt (by (with_reducible repeat (first | apply Kd.N_alloc | apply Kd.N_drewN | apply Kd.N_drew)); exact HO_6.out)) k_ hk_.2.1), (Kd.freshB (g := gb259) (o := .cells #[.int .i64 a0_0, .int .i64 a0_1, .int .u64 a0_2, .int .u64 a0_3, .slice (some ad278) l0_4.length c0_4] 52 (0, 0)) (by (with_reducible repeat (first | refine blk_drewN ?_ _ | refine blk_drew ?_ | refine blk_alloc ?_ _)); exact BK259.out) k_ hk_.2.1)⟩)) (below_size (by repeat (first | (with_reducible first | exact HB.out | apply below_alloc | apply pw_below_drewN | apply below_drew1 | refine below_set ?_ GE259.out) | exact HB.out)))); have n4_ := Aside0.mk (blk_below (g := gb259) (o := .cells #[.int .i64 a0_0, .int .i64 a0_1, .int .u64 a0_2, .int .u64 a0_3, .slice (some ad278) l0_4.length c0_4] 52 (0, 0)) (by (with_reducible repeat (first | refine blk_drewN ?_ _ | refine blk_drew ?_ | refine blk_alloc ?_ _)); exact BK259.out) hb); have n5_ := Aside0.mk (Kd.C_below (by repeat (first | (with_reducible exact HR279_0.out) | (with_reducible refine Kd.C_alloc ?_ _) | (with_reducible refine Kd.C_drewN ?_ _) | (with_reducible refine Kd.C_drew ?_) | exact HR279_0.out)) hb); have n6_ := Aside0.mk (below_step (by repeat (first | (with_reducible first | exact HB.out | apply below_alloc | apply pw_below_drewN | apply below_drew1 | refine below_set ?_ GE259.out) | exact HB.out)) hb); clear HO_1; clear HO_6; clear HL279_0; clear BK259; clear HR279_0; clear HB; have HO_1 := n0_; have HO_6 := n1_; have HL279_0 := n2_; have HO282 := n3_; have BK259 := n4_; have HR279_0 := n5_; have HB := n6_; clear n0_ n1_ n2_ n3_ n4_ n5_ n6_; (try clear hb); (try clear hb2); (try clear hk); (try clear hi); (try clear ho0); obtain ⟨Ao67, co67, eo67⟩ := Kd.N_slice HO282.out; subst eo67))
                            go_ret2
                            exact ⟨_, by first | rfl | (simp [errW_none, errW_some] <;> rfl) | (simp [*, errW_none, errW_some] <;> rfl), Kd.V_nil _ _ _ _ _, by repeat (first | (with_reducible first | exact HB.out | apply below_alloc | apply pw_below_drewN | apply below_drew1 | refine below_set ?_ GE259.out) | exact HB.out)⟩
                          · rw [if_neg c63] at H
                            have c63b0 : decide (128 < (t280.length : Int)) = false := decide_eq_false c63
                            have c63b1 : decide (128 < t280.length) = false := decide_eq_false (by omega)
                            clear c63
                            have H' := Aside0.mk H
                            clear H
                            have hcz68_0 : wr.cell? ⟨gb259, 0, none⟩ = some (.int .i64 a0_0) := (blk_cell BK259.out 0).trans rfl
                            have hcz68_1 : wr.cell? ⟨gb259, 1, none⟩ = some (.int .i64 a0_1) := (blk_cell BK259.out 1).trans rfl
                            have hcz68_2 : wr.cell? ⟨gb259, 2, none⟩ = some (.int .u64 a0_2) := (blk_cell BK259.out 2).trans rfl
                            have hcz68_3 : wr.cell? ⟨gb259, 3, none⟩ = some (.int .u64 a0_3) := (blk_cell BK259.out 3).trans rfl
                            have hcz68_4 : wr.cell? ⟨gb259, 4, none⟩ = some (.slice A0_4 l0_4.length c0_4) := (blk_cell BK259.out 4).trans rfl
                            have hfz68_0 := blk_frozen BK259.out 0
                            have hfz68_1 := blk_frozen BK259.out 1
                            have hfz68_2 := blk_frozen BK259.out 2
                            have hfz68_3 := blk_frozen BK259.out 3
                            have hfz68_4 := blk_frozen BK259.out 4
                            have p278 : 0 ≤ (x7_2 : Int) := of_decide_eq_true (by first | (with_reducible assumption) | assumption)
                            have q278 : x7_2 < (l0_4.length : Int) := of_decide_eq_true (by first | (with_reducible assumption) | assumption)
                            obtain ⟨ad278, e278, hx278_0⟩ := Kd.at_int HR0_4.out x7_2 p278 q278
                            cases e278
                            replace hx278_0 := (HB.out.cell (World.block_lt_of_cell? w _ hx278_0)).trans hx278_0
                            replace p278 := eq_true p278
                            replace q278 := eq_true q278
                            have p279 : 0 ≤ ((rd l0_4 x7_2) : Int) := of_decide_eq_true (by first | (with_reducible assumption) | assumption)
                            have q279 : (rd l0_4 x7_2) < (l1.length : Int) := of_decide_eq_true (by first | (with_reducible assumption) | assumption)
                            obtain ⟨ad279, A279_0, c279_0, e279, hx279_0, hl279_0, hi279_0⟩ := at_L8 (Kd.HV_reads' HO_1.out (by repeat (first | (with_reducible first | exact HB.out | apply below_alloc | apply pw_below_drewN | apply below_drew1 | refine below_set ?_ GE259.out) | exact HB.out))).2.2 (rd l0_4 x7_2) p279 q279
                            cases e279
                            obtain ⟨ce279, hce279, hMe279, hcc279⟩ := Kd.HV_get HO_1.out (by repeat (first | (with_reducible first | exact HB.out | apply below_alloc | apply pw_below_drewN | apply below_drew1 | refine below_set ?_ GE259.out) | exact HB.out)) [] (rd l0_4 x7_2) p279 (by first | exact q279 | exact of_decide_eq_true (by first | (with_reducible assumption) | assumption) | (have e_ := (Kd.HV_reads' HO_1.out (by repeat (first | (with_reducible first | exact HB.out | apply below_alloc | apply pw_below_drewN | apply below_drew1 | refine below_set ?_ GE259.out) | exact HB.out))).1; omega))
                            obtain ⟨ua279_0, uc279_0, rfl, ul279_0, ge279_0⟩ := Kd.FK_slice_open hMe279
                            have hv279_0 := hcc279 0 _ rfl
                            rw [Nat.add_zero, show ((Kd.slice 33 (Kd.slice 47 k47))).sz = 1 from rfl, Nat.mul_one] at hv279_0
                            replace hv279_0 := Option.some.inj (hv279_0.symm.trans hx279_0)
                            injection hv279_0 with hva_ hvn_ hvc_
                            rw [hva_] at ge279_0
                            rw [hvc_] at ul279_0
                            have HL279_0 := Aside0.mk (show Kd.V (Kd.slice 47 k47) 33 _ w.heap.size _ _ (rd_L8 l1 (rd l0_4 x7_2)) from Kd.V_mk ul279_0 ge279_0)
                            clear hva_ hvn_ hvc_ ge279_0 ul279_0
                            clear hcc279 hce279
                            have HR279_0 := Aside0.mk hi279_0
                            have HC279_0 := Aside0.mk hl279_0
                            clear hi279_0 hl279_0
                            replace p279 := eq_true p279
                            replace q279 := eq_true q279
                            obtain ⟨Ao69, co69, eo69⟩ := Kd.N_slice HO_6.out
                            subst eo69
                            go_wp2_with (first | ((with_reducible refine gate_callee (f := 59) rfl ?_); refine goesL_ (some 63) rfl rfl Try.func59 (by kernel_rfl) rfl #[.slice Ao69 x6_2.length co69, .slice A279_0 (rd_L8 l1 (rd l0_4 x7_2)).length c279_0] rfl (by (try simp only [List.map_toArray, List.map_cons, List.map_nil]); first | done | rfl | (simp only [List.length_drop, List.length_take]; rfl)) ?_; (with_reducible refine (droverref16_both.calls k2 _ _ x6_2 _ _ (rd_L8 l1 (rd l0_4 x7_2)) t280 _ ?side1 ?side2 ?side3 ?side4 A62.out).mono ?_); (case side1 => repeat (first | exact (Kd.N_reads' HO_6.out).2.2 | (with_reducible refine Kd.C_alloc ?_ _) | (with_reducible refine Kd.C_drewN ?_ _) | (with_reducible refine Kd.C_drew ?_))); (case side2 => exact (Kd.N_reads' HO_6.out).2.1); (case side3 => repeat (first | exact (by repeat (first | (with_reducible exact HR279_0.out) | (with_reducible refine Kd.C_alloc ?_ _) | (with_reducible refine Kd.C_drewN ?_ _) | (with_reducible refine Kd.C_drew ?_) | exact HR279_0.out)) | (with_reducible refine Kd.C_alloc ?_ _) | (with_reducible refine Kd.C_drewN ?_ _) | (with_reducible refine Kd.C_drew ?_))); (case side4 => exact HC279_0.out); rintro e w70 ⟨v281, rfl, ho0, hb⟩; refine ⟨_, rfl, ?_⟩; have n0_ := Aside0.mk (Kd.HV_elder' (by (with_reducible repeat (first | apply Kd.HV_alloc | apply Kd.HV_drewN | apply Kd.HV_drew)); exact HO_1.out) (Kd.N_base (Kd.S_N ho0)) hb); have n1_ := Aside0.mk (Kd.N_elder' (by (with_reducible repeat (first | apply Kd.N_alloc | apply Kd.N_drewN | apply Kd.N_drew)); exact HO_6.out) (Kd.N_base (Kd.S_N ho0)) hb); have n2_ := Aside0.mk (Kd.V_elder' (by (with_reducible repeat (first | apply Kd.V_alloc | apply Kd.V_drewN | apply Kd.V_drew)); exact HL279_0.out) (Kd.N_base (Kd.S_N ho0)) hb); have n3_ := Aside0.mk (Kd.N_lower (Kd.N_mono (ok' := fun k_ => (P1_ k_ ∨ w.heap.size ≤ k_) ∧ some k_ ≠ (.slice Ao69 x6_2.length co69 : Value).ownBlock ∧ k_ ≠ gb259) (Kd.S_N (Kd.S_bound ho0)) (fun k_ hk_ => ⟨(.inr (Nat.le_trans (below_size (by repeat (first | (with_reducible first | exact HB.out | apply below_alloc | apply pw_below_drewN | apply below_drew1 | refine below_set ?_ GE259.out) | exact HB.out))) hk_.2.1)), (Kd.fresh' (Kd.N_lt (by (with_reducible repeat (first | apply Kd.N_alloc | apply Kd.N_drewN | apply Kd.N_drew)); exact HO_6.out)) k_ hk_.2.1), (Kd.freshB (g := gb259) (o := .cells #[.int .i64 a0_0, .int .i64 a0_1, .int .u64 a0_2, .int .u64 a0_3, .slice (some ad278) l0_4.length c0_4] 52 (0, 0)) (by (with_reducible repeat (first | refine blk_drewN ?_ _ | refine blk_drew ?_ | refine blk_alloc ?_ _)); exact BK259.out) k_ hk_.2.1)⟩)) (below_size (by repeat (first | (with_reducible first | exact HB.out | apply below_alloc | apply pw_below_drewN | apply below_drew1 | refine below_set ?_ GE259.out) | exact HB.out)))); have n4_ := Aside0.mk (blk_below (g := gb259) (o := .cells #[.int .i64 a0_0, .int .i64 a0_1, .int .u64 a0_2, .int .u64 a0_3, .slice (some ad278) l0_4.length c0_4] 52 (0, 0)) (by (with_reducible repeat (first | refine blk_drewN ?_ _ | refine blk_drew ?_ | refine blk_alloc ?_ _)); exact BK259.out) hb); have n5_ := Aside0.mk (Kd.C_below (by repeat (first | (with_reducible exact HR279_0.out) | (with_reducible refine Kd.C_alloc ?_ _) | (with_reducible refine Kd.C_drewN ?_ _) | (with_reducible refine Kd.C_drew ?_) | exact HR279_0.out)) hb); have n6_ := Aside0.mk (below_step (by repeat (first | (with_reducible first | exact HB.out | apply below_alloc | apply pw_below_drewN | apply below_drew1 | refine below_set ?_ GE259.out) | exact HB.out)) hb); clear HO_1; clear HO_6; clear HL279_0; clear BK259; clear HR279_0; clear HB; have HO_1 := n0_; have HO_6 := n1_; have HL279_0 := n2_; have HO282 := n3_; have BK259 := n4_; have HR279_0 := n5_; have HB := n6_; clear n0_ n1_ n2_ n3_ n4_ n5_ n6_; (try clear hb); (try clear hb2); (try clear hk); (try clear hi); (try clear ho0); obtain ⟨Ao71, co71, eo71⟩ := Kd.N_slice HO282.out; subst eo71))
                            go_roundg k2
                            case measure => have := HJ5.out; have := HK2.out; omega
                            case rel => exact ⟨(t280), (wrap64 (x7_2 + 1)), (by first | rfl | (simp; done) | (simp [*]; done)), H', ⟨by have := HJ5.out; have := HK2.out; omega⟩, ⟨by (with_reducible repeat (first | apply Kd.HV_alloc | apply Kd.HV_drewN | apply Kd.HV_drew)); exact Kd.HV_mono HO_1.out (fun _ hk => ⟨hk.1.1, ⟨hk.2, hk.1.2.2⟩⟩)⟩, ⟨by (with_reducible repeat (first | apply Kd.N_alloc | apply Kd.N_drewN | apply Kd.N_drew)); exact Kd.N_mono HO282.out (fun _ hk => ⟨hk.1, hk.2.2⟩)⟩, ⟨by (with_reducible repeat (first | refine blk_drewN ?_ _ | refine blk_drew ?_ | refine blk_alloc ?_ _)); exact BK259.out⟩, ⟨by repeat (first | (with_reducible first | exact HB.out | apply below_alloc | apply pw_below_drewN | apply below_drew1 | refine below_set ?_ GE259.out) | exact HB.out)⟩⟩
                        · rw [if_neg c61] at H
                          exact absurd H (by simp)
                      · rw [if_neg c60] at H
                        exact absurd H (by simp)
                    · rw [if_neg c59] at H
                      exact absurd H (by simp)
                  · rw [if_neg c58] at H
                    have c58b0 : decide (x7_2 < (l0_4.length : Int)) = false := decide_eq_false c58
                    clear c58
                    simp only [Option.some.injEq, Prod.mk.injEq] at H
                    obtain ⟨rfl, rfl⟩ := H
                    have hcz72_0 : wr.cell? ⟨gb259, 0, none⟩ = some (.int .i64 a0_0) := (blk_cell BK259.out 0).trans rfl
                    have hcz72_1 : wr.cell? ⟨gb259, 1, none⟩ = some (.int .i64 a0_1) := (blk_cell BK259.out 1).trans rfl
                    have hcz72_2 : wr.cell? ⟨gb259, 2, none⟩ = some (.int .u64 a0_2) := (blk_cell BK259.out 2).trans rfl
                    have hcz72_3 : wr.cell? ⟨gb259, 3, none⟩ = some (.int .u64 a0_3) := (blk_cell BK259.out 3).trans rfl
                    have hcz72_4 : wr.cell? ⟨gb259, 4, none⟩ = some (.slice A0_4 l0_4.length c0_4) := (blk_cell BK259.out 4).trans rfl
                    have hfz72_0 := blk_frozen BK259.out 0
                    have hfz72_1 := blk_frozen BK259.out 1
                    have hfz72_2 := blk_frozen BK259.out 2
                    have hfz72_3 := blk_frozen BK259.out 3
                    have hfz72_4 := blk_frozen BK259.out 4
                    go_wp2
                    go_ret2
                    exact ⟨_, by first | rfl | (simp [errW_none, errW_some] <;> rfl) | (simp [*, errW_none, errW_some] <;> rfl), Kd.N_V (by (with_reducible repeat (first | apply Kd.N_alloc | apply Kd.N_drewN | apply Kd.N_drew)); exact Kd.N_mono HO_6.out (fun _ hk => hk.1)), by repeat (first | (with_reducible first | exact HB.out | apply below_alloc | apply pw_below_drewN | apply below_drew1 | refine below_set ?_ GE259.out) | exact HB.out)⟩

end Go.Proofs.Ytmhjnfkhfjejeaa.PPredCubes
