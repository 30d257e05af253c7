import Derived.Test.YtmhjnfkhfjejeaaZ2G7
namespace Go.Proofs.Ytmhjnfkhfjejeaa
set_option linter.unusedVariables false
set_option linter.unusedSimpArgs false
open Go.RowKit Go.Proofs.YtmhjnfkhfjejeaaW.PrintWords Go.Proofs.YtmhjnfkhfjejeaaW.PrintLast Go.Proofs.YtmhjnfkhfjejeaaW.PrintMore
open PPredCubes
/-! ### A fresh row of rows that is written over -/
structure Mut (e sz off e2 sz2 : Nat) (w1 : World) (A : Option Addr) (n : Nat) (W : World) : Prop where
  below : Below w1.heap.size w1 W
  row : ∀ i, i < n → ∃ g ds, A = some ⟨g, 0, none⟩ ∧ w1.heap.size ≤ g ∧ W.heap[g]? = some (.cells ds e (0, 0)) ∧ i * sz + sz ≤ ds.size ∧ ∃ B m d, ds[i * sz + off]? = some (.slice B m d) ∧ m ≤ 9223372036854775807 ∧
    ∀ j, j < m → ∃ h es, B = some ⟨h, 0, none⟩ ∧ w1.heap.size ≤ h ∧ W.heap[h]? = some (.cells es e2 (0, 0)) ∧ j * sz2 + sz2 ≤ es.size
theorem Mut.step {e sz off e2 sz2 : Nat} {w1 W W' : World} {A : Option Addr} {n : Nat} (h : Mut e sz off e2 sz2 w1 A n W) (hb : Below w1.heap.size w1 W')
    (hs : ∀ (g : Nat) (ds : Array Value) (t : TypeId), W.heap[g]? = some (.cells ds t (0, 0)) → ∃ ds' : Array Value, W'.heap[g]? = some (.cells ds' t (0, 0)) ∧ ds'.size = ds.size ∧ (t = e → ∀ i, i < n → ds'[i * sz + off]? = ds[i * sz + off]?)) : Mut e sz off e2 sz2 w1 A n W' := by
  refine ⟨hb, fun i hi => ?_⟩
  obtain ⟨g, ds, e1, hg, hh, hsz, B, m, d, hB, hm, hin⟩ := h.row i hi
  obtain ⟨ds', h1, h2, h3⟩ := hs g ds e hh
  refine ⟨g, ds', e1, hg, h1, by omega, B, m, d, (h3 rfl i hi).trans hB, hm, fun j hj => ?_⟩
  obtain ⟨q, es, e2', hq, hqq, hes⟩ := hin j hj
  obtain ⟨es', g1, g2, -⟩ := hs q es e2 hqq
  exact ⟨q, es', e2', hq, g1, by omega⟩
theorem mut_set {e off sz : Nat} {W : World} {n g k : Nat} (u : Value) {ds : Array Value} {t : TypeId} (hh : W.heap[g]? = some (.cells ds t (0, 0))) (hk : t = e → ∀ i, i < n → i * sz + off ≠ k) :
    ∀ (g' : Nat) (ds : Array Value) (t' : TypeId), W.heap[g']? = some (.cells ds t' (0, 0)) → ∃ ds' : Array Value, (W.setCell ⟨g, k, none⟩ u).heap[g']? = some (.cells ds' t' (0, 0)) ∧ ds'.size = ds.size ∧ (t' = e → ∀ i, i < n → ds'[i * sz + off]? = ds[i * sz + off]?) := by
  intro g' ds' t' hq
  by_cases hgg : g' = g
  · subst hgg
    rw [hh] at hq
    injection hq with hq
    injection hq with h1 h2
    subst h1 h2
    refine ⟨ds.setIfInBounds k u, set_at hh, by simp, fun ht i hi => ?_⟩
    rw [Array.getElem?_setIfInBounds_ne (fun e => hk ht i hi e.symm)]
  · exact ⟨ds', (Below.heap_setCell W _ _ g' hgg).trans hq, rfl, fun _ _ _ => rfl⟩
theorem Mut.drewN {e sz off e2 sz2 : Nat} {w1 W : World} {A : Option Addr} {n : Nat} (h : Mut e sz off e2 sz2 w1 A n W) (k : Nat) : Mut e sz off e2 sz2 w1 A n (W.drewN k) := ⟨pw_below_drewN h.below k, h.row⟩
theorem Mut.drew {e sz off e2 sz2 : Nat} {w1 W : World} {A : Option Addr} {n : Nat} (h : Mut e sz off e2 sz2 w1 A n W) : Mut e sz off e2 sz2 w1 A n W.drew := ⟨h.below.drew, h.row⟩
/-! #### of nodes: Kind (offset 0) and the numbers behind Subs (offset 4) -/
abbrev MutN (w1 : World) (A : Option Addr) (n : Nat) (W : World) : Prop := Mut 52 5 4 3 1 w1 A n W
theorem MutN.of_R {w1 W : World} {A : Option Addr} {n c : Nat} {L : List S52} (h : k52.R 52 W w1.heap.size (fun _ => True) (.slice A n c) L) (hb : Below w1.heap.size w1 W) : MutN w1 A n W := by
  refine ⟨hb, fun i hi => ?_⟩
  obtain ⟨hn, -, -⟩ := Kd.R_reads' h
  obtain ⟨-, inner, ho, hr⟩ := h
  rcases ho.2 with ⟨e, h0⟩ | ⟨g, cap, cur, e, hg, hh, hnc, hmx, hsz, htk⟩
  · omega
  · injection e with e1 e2 e3
    subst e1
    have hil : i < L.length := by omega
    have hM := hr.2 i _ (List.getElem?_eq_getElem hil)
    obtain ⟨v4, ec, hR4⟩ := k52_openM hM
    obtain ⟨B, d, ev, hmd, hC4⟩ := Kd.R_reads hR4
    have hsz5 : i * 5 + 5 ≤ cur.size := by
      rw [hsz]
      show _ ≤ cap * 5
      omega
    have hin : inner.length = L.length * 5 := ho.1
    have hc4 : cur[i * 5 + 4]? = some v4 := by
      have h1 : ((inner.drop (i * 5)).take 5)[4]? = some v4 := by
        have : (inner.drop (i * k52.sz)).take k52.sz = _ := ec
        show ((inner.drop (i * k52.sz)).take k52.sz)[4]? = _
        rw [this]; rfl
      rw [List.getElem?_take] at h1
      rw [if_pos (by omega), List.getElem?_drop] at h1
      rw [← htk, List.getElem?_take] at h1
      split at h1
      · simpa using h1
      · cases h1
    refine ⟨g, cur, rfl, hg, hh, hsz5, B, _, d, by rw [hc4, ev], hC4.2.1, fun j hj => ?_⟩
    obtain ⟨-, inner4, ho4, -⟩ := hR4
    rcases ho4.2 with ⟨e, h0⟩ | ⟨g4, cap4, cur4, e4, hg4, hh4, hnc4, hmx4, hsz4, htk4⟩
    · omega
    · rw [ev] at e4
      injection e4 with e4 _ _
      refine ⟨g4, cur4, e4, hg4, hh4, ?_⟩
      rw [hsz4]
      show _ ≤ cap4 * 1
      omega
theorem typ_far {W : World} {g q : Nat} {ds cs : Array Value} {t u : TypeId} (hg : W.heap[g]? = some (.cells ds t (0, 0))) (hq : W.heap[q]? = some (.cells cs u (0, 0))) (hne : t ≠ u) (k : Nat) (v : Value) : (W.setCell ⟨g, k, none⟩ v).heap[q]? = some (.cells cs u (0, 0)) := by
  refine (Below.heap_setCell W _ _ q fun e => ?_).trans hq
  have e' : q = g := e
  subst e'
  rw [hg] at hq
  injection hq with hq
  injection hq with _ h2
  exact hne h2
/-- What the walk needs of node i. -/
theorem MutN.at_ {w1 W : World} {A : Option Addr} {n : Nat} (h : MutN w1 A n W) {i : Nat} (hi : i < n) :
    ∃ g B m d, A = some ⟨g, 0, none⟩ ∧ W.cell? ⟨g, i * 5 + 4, none⟩ = some (.slice B m d) ∧ m ≤ 9223372036854775807 ∧ (∃ x, W.cell? ⟨g, i * 5, none⟩ = some x) ∧ W.frozen? ⟨g, i * 5, none⟩ = false ∧ (∀ u, MutN w1 A n (W.setCell ⟨g, i * 5, none⟩ u)) ∧
      (∀ (q : Nat) (cs : Array Value), W.heap[q]? = some (.cells cs 24 (0, 0)) → ∀ u, (W.setCell ⟨g, i * 5, none⟩ u).heap[q]? = some (.cells cs 24 (0, 0))) ∧
      ∀ j, j < m → ∃ b, B = some ⟨b, 0, none⟩ ∧ (∃ x, W.cell? ⟨b, j, none⟩ = some x) ∧ W.frozen? ⟨b, j, none⟩ = false ∧ (∀ u, MutN w1 A n (W.setCell ⟨b, j, none⟩ u)) ∧
        (∀ (q : Nat) (cs : Array Value), W.heap[q]? = some (.cells cs 24 (0, 0)) → ∀ u, (W.setCell ⟨b, j, none⟩ u).heap[q]? = some (.cells cs 24 (0, 0))) ∧
        ∀ (k : Nat) (x : Value), W.cell? ⟨g, k, none⟩ = some x → ∀ u, (W.setCell ⟨b, j, none⟩ u).cell? ⟨g, k, none⟩ = some x := by
  obtain ⟨g, ds, e1, hg, hh, hsz, B, m, d, hB, hm, hin⟩ := h.row i hi
  refine ⟨g, B, m, d, e1, by rw [blk_cell hh]; exact hB, hm, ⟨ds[i * 5], by rw [blk_cell hh]; exact Array.getElem?_eq_getElem (by omega)⟩, blk_frozen hh _, fun u => ?_, fun q cs hq u => typ_far hh hq (by decide) _ _, fun j hj => ?_⟩
  · exact h.step (h.below.setCell hg u) (mut_set u hh fun _ i' _ => by omega)
  · obtain ⟨b, es, e2, hb, hq, hes⟩ := hin j hj
    refine ⟨b, e2, ⟨es[j], by rw [blk_cell hq]; exact Array.getElem?_eq_getElem (by omega)⟩, blk_frozen hq _, fun u => ?_, fun q cs hq2 u => typ_far hq hq2 (by decide) _ _, fun k x hx u => by rw [blk_cell (typ_far hq hh (by decide) j u), ← blk_cell hh]; exact hx⟩
    exact h.step (h.below.setCell hb u) (mut_set u hq fun e => by cases e)
end Go.Proofs.Ytmhjnfkhfjejeaa
