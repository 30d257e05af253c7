import Derived.Test.YtmhjnfkhfjejeaaZ2F5
namespace Go.Proofs.Ytmhjnfkhfjejeaa
set_option linter.unusedVariables false
set_option linter.unusedSimpArgs false
open Go.RowKit Go.Proofs.YtmhjnfkhfjejeaaW.PrintWords Go.Proofs.YtmhjnfkhfjejeaaW.PrintLast Go.Proofs.YtmhjnfkhfjejeaaW.PrintMore
open PPredCubes
/-! #### Mut of cubes: a row of rows of tests (three cells each) -/
abbrev MutC (w1 : World) (A : Option Addr) (n : Nat) (W : World) : Prop := Mut 33 1 0 47 3 w1 A n W
theorem MutC.of_R {w1 W : World} {A : Option Addr} {n c : Nat} {L : List (List S47)} (h : (Kd.slice 47 k47).R 33 W w1.heap.size (fun _ => True) (.slice A n c) L) (hb : Below w1.heap.size w1 W) : MutC w1 A n W := by
  refine ⟨hb, fun i hi => ?_⟩
  obtain ⟨hn, -, -⟩ := Kd.R_reads' h
  obtain ⟨-, inner, ho, hr⟩ := h
  rcases ho.2 with ⟨e, h0⟩ | ⟨g, cap, cur, e, hg, hh, hnc, hmx, hsz, htk⟩
  · omega
  · injection e with e1 e2 e3
    subst e1
    have hil : i < L.length := by omega
    have hM := hr.2 i _ (List.getElem?_eq_getElem hil)
    obtain ⟨v4, ec, hR4⟩ := hM
    obtain ⟨B, d, ev, hmd, hC4⟩ := Kd.R_reads hR4
    have hsz5 : i * 1 + 1 ≤ cur.size := by
      rw [hsz]
      show _ ≤ cap * 1
      omega
    have hin : inner.length = L.length * 1 := ho.1
    have hc4 : cur[i * 1 + 0]? = some v4 := by
      have h1 : ((inner.drop (i * 1)).take 1)[0]? = some v4 := by
        have : (inner.drop (i * (Kd.slice 47 k47).sz)).take (Kd.slice 47 k47).sz = _ := ec
        show ((inner.drop (i * (Kd.slice 47 k47).sz)).take (Kd.slice 47 k47).sz)[0]? = _
        rw [this]; rfl
      rw [List.getElem?_take] at h1
      rw [if_pos (by omega), List.getElem?_drop] at h1
      rw [← htk, List.getElem?_take] at h1
      split at h1
      · simpa using h1
      · cases h1
    refine ⟨g, cur, rfl, hg, hh, hsz5, B, _, d, by rw [hc4, ev], hC4.2.1, fun j hj => ?_⟩
    obtain ⟨-, inner4, ho4, -⟩ := hR4
    rcases ho4.2 with ⟨e, h0⟩ | ⟨g4, cap4, cur4, e4, hg4, hh4, hnc4, hmx4, hsz4, htk4⟩
    · omega
    · rw [ev] at e4
      injection e4 with e4 _ _
      refine ⟨g4, cur4, e4, hg4, hh4, ?_⟩
      rw [hsz4]
      show _ ≤ cap4 * 3
      omega
/-- What the walk needs of cube i. -/
theorem MutC.at_ {w1 W : World} {A : Option Addr} {n : Nat} (h : MutC w1 A n W) {i : Nat} (hi : i < n) :
    ∃ g B m d, A = some ⟨g, 0, none⟩ ∧ W.cell? ⟨g, i, none⟩ = some (.slice B m d) ∧ m ≤ 9223372036854775807 ∧
      ∀ j, j < m → ∃ b, B = some ⟨b, 0, none⟩ ∧ (∃ x, W.cell? ⟨b, j * 3, none⟩ = some x) ∧ (∃ x, W.cell? ⟨b, j * 3 + 1, none⟩ = some x) ∧ (∃ x, W.cell? ⟨b, j * 3 + 2, none⟩ = some x) ∧ (∀ k, W.frozen? ⟨b, k, none⟩ = false) ∧
        ∀ u0 u1 u2, MutC w1 A n (((W.setCell ⟨b, j * 3, none⟩ u0).setCell ⟨b, j * 3 + 1, none⟩ u1).setCell ⟨b, j * 3 + 2, none⟩ u2) ∧
        ∀ (k : Nat) (x : Value), W.cell? ⟨g, k, none⟩ = some x → (((W.setCell ⟨b, j * 3, none⟩ u0).setCell ⟨b, j * 3 + 1, none⟩ u1).setCell ⟨b, j * 3 + 2, none⟩ u2).cell? ⟨g, k, none⟩ = some x := by
  obtain ⟨g, ds, e1, hg, hh, hsz, B, m, d, hB, hm, hin⟩ := h.row i hi
  refine ⟨g, B, m, d, e1, by rw [blk_cell hh]; simpa using hB, hm, fun j hj => ?_⟩
  obtain ⟨b, es, e2, hb, hq, hes⟩ := hin j hj
  refine ⟨b, e2, ⟨es[j * 3], by rw [blk_cell hq]; exact Array.getElem?_eq_getElem (by omega)⟩, ⟨es[j * 3 + 1], by rw [blk_cell hq]; exact Array.getElem?_eq_getElem (by omega)⟩, ⟨es[j * 3 + 2], by rw [blk_cell hq]; exact Array.getElem?_eq_getElem (by omega)⟩, fun k => blk_frozen hq k, fun u0 u1 u2 => ⟨?_, fun k x hx => ?_⟩⟩
  · have h1 := h.step (h.below.setCell hb u0) (mut_set (k := j * 3) u0 hq fun e => by cases e)
    have q1 : (W.setCell ⟨b, j * 3, none⟩ u0).heap[b]? = some (.cells (es.setIfInBounds (j * 3) u0) 47 (0, 0)) := set_at hq
    have h2 := h1.step (h1.below.setCell hb u1) (mut_set (k := j * 3 + 1) u1 q1 fun e => by cases e)
    have q2 : ((W.setCell ⟨b, j * 3, none⟩ u0).setCell ⟨b, j * 3 + 1, none⟩ u1).heap[b]? = some (.cells ((es.setIfInBounds (j * 3) u0).setIfInBounds (j * 3 + 1) u1) 47 (0, 0)) := set_at q1
    exact h2.step (h2.below.setCell hb u2) (mut_set (k := j * 3 + 2) u2 q2 fun e => by cases e)
  · have q1 : (W.setCell ⟨b, j * 3, none⟩ u0).heap[b]? = some (.cells (es.setIfInBounds (j * 3) u0) 47 (0, 0)) := set_at hq
    have q2 : ((W.setCell ⟨b, j * 3, none⟩ u0).setCell ⟨b, j * 3 + 1, none⟩ u1).heap[b]? = some (.cells ((es.setIfInBounds (j * 3) u0).setIfInBounds (j * 3 + 1) u1) 47 (0, 0)) := set_at q1
    have g1 := typ_far hq hh (by decide) (j * 3) u0
    have g2 := typ_far q1 g1 (by decide) (j * 3 + 1) u1
    have g3 := typ_far q2 g2 (by decide) (j * 3 + 2) u2
    rw [blk_cell g3, ← blk_cell hh]; exact hx
end Go.Proofs.Ytmhjnfkhfjejeaa
