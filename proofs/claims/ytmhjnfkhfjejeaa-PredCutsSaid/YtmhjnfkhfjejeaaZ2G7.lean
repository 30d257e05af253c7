import Derived.Test.YtmhjnfkhfjejeaaZ2G5
import Derived.Test.YtmhjnfkhfjejeaaZ2G6
import Derived.Test.YtmhjnfkhfjejeaaRows
import Derived.ProofKit
import Derived.OpenShut
import Derived.ShutString
import Derived.ChangeOld
import Derived.SizedLaws
import Derived.Deep.Slices
import Derived.Test.YtmhjnfkhfjejeaaZ2PPredCubesx6
import Derived.KernelRfl
namespace Go.Proofs.Ytmhjnfkhfjejeaa
set_option linter.unusedVariables false
set_option linter.unusedSimpArgs false
open Go.RowKit Go.Proofs.YtmhjnfkhfjejeaaW.PrintWords Go.Proofs.YtmhjnfkhfjejeaaW.PrintLast Go.Proofs.YtmhjnfkhfjejeaaW.PrintMore
open PPredCubes
/-! ### The document's Eval -/
end Go.Proofs.Ytmhjnfkhfjejeaa
namespace Go.Proofs.Ytmhjnfkhfjejeaa
set_option linter.unusedVariables false
set_option linter.unusedSimpArgs false
open Go.ChangeShapes Go.WideShapes Go.ChangeAt Go.Deep Go.RowKit Go.Proofs.YtmhjnfkhfjejeaaW.PrintWords Go.Proofs.YtmhjnfkhfjejeaaW.PrintLast Go.Proofs.YtmhjnfkhfjejeaaW.PrintMore
open PPredCubes
/-! ### What comes in -/
theorem own : ownKnob Try.prog.godebug = none := by kernel_rfl
theorem laidOut : laidOutB Try.prog = true := by kernel_rfl
theorem bd_u64 {n : Int} (h : (Lit.int .u64 n).wf = true) : 0 ≤ n ∧ n < 18446744073709551616 := by
  simp [Lit.wf, IntKind.min, IntKind.max, IntKind.signed, IntKind.bits] at h
  omega
/-- A box of a predicate, in a world behind. -/
structure At24 (w : World) (g : Nat) (v : Value) (W : World) : Prop where
  below : Below w.heap.size w W
  blk : W.heap[g]? = some (.cells #[v] 24 (0, 0))
theorem At24.drew {w : World} {g : Nat} {v : Value} {W : World} (h : At24 w g v W) : At24 w g v W.drew := ⟨h.below.drew, h.blk⟩
theorem At24.step {w : World} {g : Nat} {v : Value} {W W' : World} (h : At24 w g v W) (hb : Below W.heap.size W W') : At24 w g v W' := ⟨h.below.trans (hb.mono h.below.size), blk_below h.blk hb⟩
theorem At24.cell {w : World} {g : Nat} {v : Value} {W : World} (h : At24 w g v W) : W.cell? ⟨g, 0, none⟩ = some v := blk_cell h.blk 0
section
variable {H : Type} {enc : TypeId × Value → H} {W : World} {base : Nat} {sp : Nat → Bool} {held : Bool}
/-- A row of elements that came in. -/
theorem trod_row {α : Type} {d : Kd α} {t e : TypeId} {ok : α → Prop} {fuel : Nat} {cs : List Value} {x : DataW H × List MemPlace} (ht : Try.prog.underlying t = some (.slice e)) (hc : Try.prog.cellsOf e = d.sz)
    (hel : ∀ n cs x, DataW.trod enc Try.prog W base sp held n e cs = some x → ∃ y, ok y ∧ d.K W y cs)
    (h : DataW.trod enc Try.prog W base sp held fuel t cs = some x) : ∃ (A : Option Addr) (c : Nat) (l : List α), cs = [.slice A l.length c] ∧ l.length ≤ c ∧ d.C W A l.length l ∧ ∀ y ∈ l, ok y := by
  rcases open_slice ht h with ⟨rfl, _⟩ | ⟨a, len, cap, m, n, D, Pl, rfl, hb, hl, hm, hmm, hx, hi⟩
  · exact ⟨none, 0, [], rfl, Nat.le_refl _, ⟨rfl, Nat.zero_le _, fun h => absurd h (Nat.lt_irrefl _)⟩, fun y hy => by cases hy⟩
  · have hlm : len ≤ m := by rw [hmm]; split <;> omega
    have hch : ∀ i : Fin len, ∃ y : α, ok y ∧ ∃ c : List Value, c.length = d.sz ∧ d.K W y c ∧ ∀ j u, c[j]? = some u → W.cell? (a.add (i.val * d.sz + j)) = some u := fun i => by
      obtain ⟨cs', h1, h2⟩ := hi i.val (by omega)
      obtain ⟨y, hy1, hy2⟩ := hel n cs' _ h2
      obtain ⟨_, hlen, hcell⟩ := World.cells?_some h1
      refine ⟨y, hy1, cs', by rw [hlen, hc], hy2, fun j u hj => ?_⟩
      have hjl : j < Try.prog.cellsOf e := by
        rw [← hlen]
        exact (List.getElem?_eq_some_iff.1 hj).1
      have := hcell j hjl
      rw [add_add, hc] at this
      rw [this, hj]
    obtain ⟨f, hf⟩ := Classical.axiomOfChoice hch
    have hll : (List.ofFn f).length = len := by simp
    refine ⟨some a, cap, List.ofFn f, by rw [hll], by rw [hll]; exact hl, ⟨rfl, by rw [hll]; exact Nat.le_trans hl (by simpa [maxLen] using hm), fun _ => ⟨a, rfl, fun j p hj => ?_⟩⟩, fun y hy => ?_⟩
    · have hjl : j < len := by rw [← hll]; exact (List.getElem?_eq_some_iff.1 hj).1
      rw [List.getElem?_ofFn, dif_pos hjl] at hj
      injection hj with hj
      subst hj
      exact (hf ⟨j, hjl⟩).2
    · obtain ⟨i, rfl⟩ := List.mem_ofFn.1 hy
      exact (hf i).1
theorem trod_i64 {n : Nat} {cs : List Value} {x : DataW H × List MemPlace} (h : DataW.trod enc Try.prog W base sp held n 3 cs = some x) : ∃ y : Int, True ∧ (Kd.int .i64).K W y cs := by
  obtain ⟨k, rfl, _⟩ := DataW.trod_int Try.underlying3 h
  exact ⟨k, trivial, rfl⟩
theorem trod_test {n : Nat} {cs : List Value} {x : DataW H × List MemPlace} (h : DataW.trod enc Try.prog W base sp held n 47 cs = some x) : ∃ y : S47, okT y ∧ k47.K W y cs := by
  obtain ⟨xs, m, -, -, hl, hxl, hf⟩ := DataW.trod_struct Try.underlying47 h
  have hC : Try.prog.cellsOf 47 = 3 := by kernel_rfl
  have h3 : Try.prog.cellsOf 3 = 1 := by kernel_rfl
  have h45 : Try.prog.cellsOf 45 = 1 := by kernel_rfl
  rw [hC] at hl
  obtain ⟨a, b, c, rfl⟩ : ∃ a b c, cs = [a, b, c] := by
    match cs, hl with
    | [a, b, c], _ => exact ⟨a, b, c, rfl⟩
  obtain ⟨x0, x1, x2, rfl⟩ : ∃ a b c, xs = [a, b, c] := by
    match xs, hxl with
    | [a, b, c], _ => exact ⟨a, b, c, rfl⟩
  have f0 : DataW.trod enc Try.prog W base sp held m 3 (([a, b, c].drop 0).take (Try.prog.cellsOf 3)) = some x0 := hf 0 _ rfl
  have f1 : DataW.trod enc Try.prog W base sp held m 45 (([a, b, c].drop 1).take (Try.prog.cellsOf 45)) = some x1 := hf 1 _ rfl
  have f2 : DataW.trod enc Try.prog W base sp held m 45 (([a, b, c].drop 2).take (Try.prog.cellsOf 45)) = some x2 := hf 2 _ rfl
  rw [h3] at f0
  rw [h45] at f1 f2
  replace f0 : DataW.trod enc Try.prog W base sp held m 3 [a] = some x0 := f0
  replace f1 : DataW.trod enc Try.prog W base sp held m 45 [b] = some x1 := f1
  replace f2 : DataW.trod enc Try.prog W base sp held m 45 [c] = some x2 := f2
  obtain ⟨n0, e0, -, -⟩ := DataW.trod_int Try.underlying3 f0
  obtain ⟨n1, e1, -, w1⟩ := DataW.trod_int Try.underlying45 f1
  obtain ⟨n2, e2, -, w2⟩ := DataW.trod_int Try.underlying45 f2
  cases e0; cases e1; cases e2
  refine ⟨⟨n0, n1, n2⟩, ?_, k47_mk W ⟨n0, n1, n2⟩⟩
  have b1 := bd_u64 w1
  have b2 := bd_u64 w2
  exact ⟨b1.1, b1.2, b2.1, b2.2⟩
theorem trod_node {n : Nat} {cs : List Value} {x : DataW H × List MemPlace} (h : DataW.trod enc Try.prog W base sp held n 52 cs = some x) : ∃ y : S52, okT y.f1 ∧ k52.K W y cs := by
  obtain ⟨xs, m, -, -, hl, hxl, hf⟩ := DataW.trod_struct Try.underlying52 h
  have hC : Try.prog.cellsOf 52 = 5 := by kernel_rfl
  have h3 : Try.prog.cellsOf 3 = 1 := by kernel_rfl
  have h47 : Try.prog.cellsOf 47 = 3 := by kernel_rfl
  have h50 : Try.prog.cellsOf 50 = 1 := by kernel_rfl
  rw [hC] at hl
  obtain ⟨a, b, c, d, e, rfl⟩ : ∃ a b c d e, cs = [a, b, c, d, e] := by
    match cs, hl with
    | [a, b, c, d, e], _ => exact ⟨a, b, c, d, e, rfl⟩
  obtain ⟨x0, x1, x2, rfl⟩ : ∃ a b c, xs = [a, b, c] := by
    match xs, hxl with
    | [a, b, c], _ => exact ⟨a, b, c, rfl⟩
  have f0 : DataW.trod enc Try.prog W base sp held m 3 (([a, b, c, d, e].drop 0).take (Try.prog.cellsOf 3)) = some x0 := hf 0 _ rfl
  have f1 : DataW.trod enc Try.prog W base sp held m 47 (([a, b, c, d, e].drop 1).take (Try.prog.cellsOf 47)) = some x1 := hf 1 _ rfl
  have f2 : DataW.trod enc Try.prog W base sp held m 50 (([a, b, c, d, e].drop 4).take (Try.prog.cellsOf 50)) = some x2 := hf 2 _ rfl
  rw [h3] at f0
  rw [h47] at f1
  rw [h50] at f2
  replace f0 : DataW.trod enc Try.prog W base sp held m 3 [a] = some x0 := f0
  replace f1 : DataW.trod enc Try.prog W base sp held m 47 [b, c, d] = some x1 := f1
  replace f2 : DataW.trod enc Try.prog W base sp held m 50 [e] = some x2 := f2
  obtain ⟨n0, e0, -, -⟩ := DataW.trod_int Try.underlying3 f0
  obtain ⟨t, ht, hk⟩ := trod_test f1
  obtain ⟨A, c', l, e2, hle, hC2, -⟩ := trod_row (d := Kd.int .i64) (ok := fun _ => True) Try.underlying50 (by kernel_rfl) (fun n cs x h => trod_i64 h) f2
  have e1 := k47_open hk
  cases e0
  cases e1
  cases e2
  exact ⟨⟨n0, t, l⟩, ht, k52_mk W ⟨n0, t, l⟩ hle hC2⟩
theorem trod_nodes {n : Nat} {cs : List Value} {x : DataW H × List MemPlace} (h : DataW.trod enc Try.prog W base sp held n 22 cs = some x) : ∃ (A : Option Addr) (c : Nat) (l : List S52), cs = [.slice A l.length c] ∧ l.length ≤ c ∧ k52.C W A l.length l ∧ okP l :=
  trod_row Try.underlying22 (by kernel_rfl) (fun n cs x h => trod_node h) h
theorem trod_pred {n : Nat} {cs : List Value} {x : DataW H × List MemPlace} (h : DataW.trod enc Try.prog W base sp held n 24 cs = some x) : ∃ (A : Option Addr) (c : Nat) (l : List S52), cs = [.slice A l.length c] ∧ l.length ≤ c ∧ k52.C W A l.length l ∧ okP l := by
  obtain ⟨xs, m, -, -, hl, hxl, hf⟩ := DataW.trod_struct Try.underlying24 h
  have hC : Try.prog.cellsOf 24 = 1 := by kernel_rfl
  have h22 : Try.prog.cellsOf 22 = 1 := by kernel_rfl
  rw [hC] at hl
  obtain ⟨a, rfl⟩ : ∃ a, cs = [a] := by
    match cs, hl with
    | [a], _ => exact ⟨a, rfl⟩
  obtain ⟨x0, rfl⟩ : ∃ a, xs = [a] := by
    match xs, hxl with
    | [a], _ => exact ⟨a, rfl⟩
  have f0 : DataW.trod enc Try.prog W base sp held m 22 (([a].drop 0).take (Try.prog.cellsOf 22)) = some x0 := hf 0 _ rfl
  rw [h22] at f0
  replace f0 : DataW.trod enc Try.prog W base sp held m 22 [a] = some x0 := f0
  exact trod_nodes f0
/-- A predicate that came in. -/
theorem open_pred {v : Value} {dd : DataW H} {ps : List MemPlace} {b2 : Nat} (hv : Value.okWide Try.prog W .any b2 24 v) (h : DataW.Trod enc Try.prog W base sp held 24 v dd ps) :
    ∃ (A : Option Addr) (c : Nat) (l : List S52), v = .agg #[.slice A l.length c] ∧ l.length ≤ c ∧ k52.C W A l.length l ∧ okP l := by
  obtain ⟨cs, rfl, -⟩ := okWide_struct Try.underlying24 hv
  obtain ⟨n, hn⟩ := h
  obtain ⟨A, c, l, e, h1, h2, h3⟩ := trod_pred hn
  refine ⟨A, c, l, ?_, h1, h2, h3⟩
  have : cs.toList = [.slice A l.length c] := e
  rw [← Array.toArray_toList (xs := cs), this]
/-- A cube that came in. -/
theorem open_cube {v : Value} {dd : DataW H} {ps : List MemPlace} {b2 : Nat} (hv : Value.okWide Try.prog W .any b2 33 v) (h : DataW.Trod enc Try.prog W base sp held 33 v dd ps) :
    ∃ (A : Option Addr) (c : Nat) (l : List S47), v = .slice A l.length c ∧ l.length ≤ c ∧ k47.C W A l.length l ∧ ∀ t ∈ l, okT t := by
  obtain ⟨a, len, cap, rfl⟩ := okWide_slice Try.underlying33 hv
  obtain ⟨n, hn⟩ := h
  obtain ⟨A, c, l, e, h1, h2, h3⟩ := trod_row (d := k47) (ok := okT) Try.underlying33 (by kernel_rfl) (fun n cs x h => trod_test h) hn
  cases e
  exact ⟨_, _, l, rfl, h1, h2, h3⟩
end
end Go.Proofs.Ytmhjnfkhfjejeaa
namespace Go.Proofs.Ytmhjnfkhfjejeaa
set_option linter.unusedVariables false
set_option linter.unusedSimpArgs false
open Go.RowKit Go.Proofs.YtmhjnfkhfjejeaaW.PrintWords Go.Proofs.YtmhjnfkhfjejeaaW.PrintLast Go.Proofs.YtmhjnfkhfjejeaaW.PrintMore
open PPredCubes
/-! ### awake: the chapter's examples -/
def nA : S52 := ⟨3, ⟨9, 1, 1⟩, []⟩
def nB : S52 := ⟨3, ⟨9, 2, 2⟩, []⟩
def orL : List S52 := [nA, nB, ⟨5, z47, [0, 1]⟩]
def andL : List S52 := [nA, nB, ⟨4, z47, [0, 1]⟩]
def notL : List S52 := [nA, ⟨6, z47, [0]⟩]
theorem isA : isL ⟨9, 1, 1⟩ = [nA] := by kernel_rfl
theorem isB : isL ⟨9, 2, 2⟩ = [nB] := by kernel_rfl
theorem orE : madeL 5 [⟨[nA]⟩, ⟨[nB]⟩] = orL := by kernel_rfl
theorem andE : madeL 4 [⟨[nA]⟩, ⟨[nB]⟩] = andL := by kernel_rfl
theorem notE : madeL 6 [⟨[nA]⟩] = notL := by kernel_rfl
theorem cubesEE : cubesE orL = 0 := by kernel_rfl
theorem cubesLL : cubesL orL = [[⟨9, 1, 1⟩], [⟨9, 2, 3⟩]] := by kernel_rfl
theorem apartAA : apartRes [nA] notL = .returned (.tuple #[.bool true, .int .i64 0]) := by
  unfold apartRes
  rw [show apartB [nA] notL = true from by kernel_rfl, show apartE [nA] notL = 0 from by kernel_rfl]
theorem evalA : evalB [nA] [0, 0, 0, 0, 0, 0, 0, 0, 0, 5] = true := by kernel_rfl
theorem evalAnd : evalB andL [] = false := by kernel_rfl
theorem sameEE : droverref16_SameCube.f 10 [⟨9, 2, 3⟩] [⟨9, 2, 3⟩] = some true := by kernel_rfl
theorem okT_c (f : Int) (v m : Nat) (h1 : v < 100) (h2 : m < 100) : okT ⟨f, v, m⟩ := by
  show (0 : Int) ≤ v ∧ (v : Int) < 18446744073709551616 ∧ (0 : Int) ≤ m ∧ (m : Int) < 18446744073709551616
  omega
theorem okP_nA : okP [nA] := okP_one (okT_c 9 1 1 (by decide) (by decide))
theorem okP_nB : okP [nB] := okP_one (okT_c 9 2 2 (by decide) (by decide))
theorem okPs_two {a b : List S52} (ha : okP a) (hb : okP b) : okPs [⟨a⟩, ⟨b⟩] := fun p hp => by
  rcases List.mem_cons.1 hp with h | h
  · rw [h]; exact ha
  · rw [List.mem_singleton.1 h]; exact hb
theorem okP_two {m : S52} (h : okT m.f1) : okP [nA, nB, m] := fun x hx => by
  rcases List.mem_cons.1 hx with h1 | h1
  · rw [h1]; exact okT_c 9 1 1 (by decide) (by decide)
  · rcases List.mem_cons.1 h1 with h1 | h1
    · rw [h1]; exact okT_c 9 2 2 (by decide) (by decide)
    · rw [List.mem_singleton.1 h1]; exact h
theorem okP_or : okP orL := okP_two okT_z
theorem okP_and : okP andL := okP_two okT_z
theorem okP_not : okP notL := fun x hx => by
  rcases List.mem_cons.1 hx with h1 | h1
  · rw [h1]; exact okT_c 9 1 1 (by decide) (by decide)
  · rw [List.mem_singleton.1 h1]; exact okT_z
/-- A fresh predicate, opened. -/
theorem R_open {w : World} {b : Nat} {v : Value} {l : List S52} (n : Nat) (hn : l.length = n) (h : k52.R 52 w b (fun _ => True) v l) : ∃ A c, v = .slice A n c ∧ n ≤ c ∧ k52.C w A n l := by
  obtain ⟨A, c, e, h1, h2⟩ := Kd.R_reads h
  rw [hn] at e h1 h2
  exact ⟨A, c, e, h1, h2⟩
/-- Two predicates in a literal. -/
theorem C_two {w : World} {A B : Option Addr} {n m c d : Nat} {a b : List S52} (hn : a.length = n) (hm : b.length = m) (ha : k52.C w A n a) (hb : k52.C w B m b) (hc : n ≤ c) (hd : m ≤ d) :
    k24.C (w.alloc (.cells #[.slice A n c, .slice B m d] 24)) (some ⟨w.heap.size, 0, none⟩) 2 [⟨a⟩, ⟨b⟩] := by
  subst hn hm
  have h0 := (Reps.none (k24.K w) k24.sz).snoc (p := ⟨a⟩) (c := [Value.slice A a.length c]) ⟨A, c, rfl, hc, ha⟩ rfl
  have h1 := h0.snoc (p := ⟨b⟩) (c := [Value.slice B b.length d]) ⟨B, d, rfl, hd, hb⟩ rfl
  exact C_lit (d := k24) 24 h1 (by simp)

set_option maxHeartbeats 4000000 in
set_option maxRecDepth 100000 in
theorem awake_any (w : World) : Calls Try.prog 13 #[] w fun e w' => e = .returned (.bool true) ∧ Below w.heap.size w w' := by
  go_enter Try.func13, Try.ntmps13
  go_wp2_with fail
  go_at_call 29
  refine (is_any ⟨9, 1, 1⟩ (okT_c 9 1 1 (by decide) (by decide)) w).mono ?_
  rintro e w1 ⟨v, rfl, hr, hb⟩
  rw [isA] at hr
  obtain ⟨A1, c1, rfl, hc1, hC1⟩ := R_open 1 rfl hr
  have HC1 := Lib.hid hc1
  have HR1 := Lib.hid hC1
  have HB1 := Lib.hid hb
  clear hr hb hc1 hC1
  go_wp2_with (refine wpList_newz rfl rfl 1 rfl 24 (.tmp 8) rfl rfl rfl (.agg #[.slice none 0 0]) #[.slice A1 1 c1] info24z rfl rfl info24s rfl one_slice ?_; intro g1 w2 hg1 k1 hb; have K1 := Lib.hid k1; have HR12 := Lib.hid (Kd.C_below HR1.out hb); have HB2 := Lib.hid (HB1.out.trans (hb.mono HB1.out.size)); clear hb k1)
  go_at_call 29
  refine (is_any ⟨9, 2, 2⟩ (okT_c 9 2 2 (by decide) (by decide)) w2).mono ?_
  rintro e w3 ⟨v, rfl, hr, hb⟩
  rw [isB] at hr
  obtain ⟨A2, c2, rfl, hc2, hC2⟩ := R_open 1 rfl hr
  have HC2 := Lib.hid hc2
  have HR2 := Lib.hid hC2
  have HR13 := Lib.hid (Kd.C_below HR12.out hb)
  have HB3 := Lib.hid (HB2.out.trans (hb.mono HB2.out.size))
  have K13 := Lib.hid (blk_below K1.out hb)
  clear hr hb hc2 hC2 HR1 HR12 K1 HB1 HB2 hg1
  go_wp2_with (first
    | (refine wpList_newz rfl rfl 2 rfl 24 (.tmp 10) rfl rfl rfl (.agg #[.slice none 0 0]) #[.slice A2 1 c2] info24z rfl rfl info24s rfl one_slice ?_; intro g2 w4 hg2 k2 hb; have K2 := Lib.hid k2; have K14 := Lib.hid (blk_below K13.out hb); have HR14 := Lib.hid (Kd.C_below HR13.out hb); have HR24 := Lib.hid (Kd.C_below HR2.out hb); have HB4 := Lib.hid (HB3.out.trans (hb.mono HB3.out.size)); clear hb k2)
    | (refine wpList_load_at rfl 24 (.tmp 1) rfl ⟨g1, 0, none⟩ rfl #[.slice A1 1 c1] _ (Lies.of_block K14.out) Try.underlying24 rfl info24s ?_)
    | (refine wpList_load_at rfl 24 (.tmp 2) rfl ⟨g2, 0, none⟩ rfl #[.slice A2 1 c2] _ (Lies.of_block K2.out) Try.underlying24 rfl info24s ?_))
  have hlit := C_two (a := [nA]) (b := [nB]) rfl rfl HR14.out HR24.out HC1.out HC2.out
  have hb5 : Below w4.heap.size w4 (w4.alloc (.cells #[.slice A1 1 c1, .slice A2 1 c2] 24)) := (Below.refl _ _).alloc (Nat.le_refl _) _
  have HB5 := Lib.hid (HB4.out.trans (hb5.mono HB4.out.size))
  have K15 := Lib.hid (blk_below K14.out hb5)
  have K25 := Lib.hid (blk_below K2.out hb5)
  have HR15 := Lib.hid (Kd.C_below HR14.out hb5)
  have HR25 := Lib.hid (Kd.C_below HR24.out hb5)
  clear hb5 HB4 K14 K2 HR14 HR24 HR13 HR2 HB3 hg2
  go_at_call 21
  generalize w4.alloc (.cells #[.slice A1 1 c1, .slice A2 1 c2] 24) = w5 at hlit HB5 K15 K25 HR15 HR25 ⊢
  refine (or_any _ 2 [⟨[nA]⟩, ⟨[nB]⟩] (okPs_two okP_nA okP_nB) w5 hlit).mono ?_
  rintro e w6 ⟨v, rfl, hr, hb⟩
  rw [orE] at hr
  obtain ⟨A3, c3, rfl, hc3, hC3⟩ := R_open 3 rfl hr
  have HC3 := Lib.hid hc3
  have HR36 := Lib.hid hC3
  have HB6 := Lib.hid (HB5.out.trans (hb.mono HB5.out.size))
  have K16 := Lib.hid (blk_below K15.out hb)
  have K26 := Lib.hid (blk_below K25.out hb)
  have HR16 := Lib.hid (Kd.C_below HR15.out hb)
  have HR26 := Lib.hid (Kd.C_below HR25.out hb)
  clear hr hb hc3 hC3 HB5 K15 K25 HR15 HR25 hlit
  go_wp2_with fail
  go_at_call 14
  refine (cubes_any A3 c3 orL okP_or w6 HR36.out HC3.out).mono ?_
  rintro e w7 ⟨v, rfl, hr, hb⟩
  rw [cubesLL] at hr
  rw [cubesEE]
  obtain ⟨A7, c7, e7, hc7, hC7⟩ := Kd.R_reads hr
  replace e7 : v = .slice A7 2 c7 := e7
  subst e7
  obtain ⟨ad, cs, e9, -, hK, hcc⟩ := Kd.C_get hC7 ([] : List S47) (1 : Int) (by decide) (by decide)
  subst e9
  obtain ⟨A9, c9, ec, hc9, hC9⟩ := hK
  replace hc9 : 1 ≤ c9 := hc9
  replace hC9 : k47.C w7 A9 1 [⟨9, 2, 3⟩] := hC9
  have hl := hcc 0 _ (by rw [ec]; rfl)
  replace hl : w7.cell? (ad.add 1) = some (.slice A9 1 c9) := hl
  have HL7 := Lib.hid hl
  have HC9 := Lib.hid hc9
  have HR9 := Lib.hid hC9
  have HB7 := Lib.hid (HB6.out.trans (hb.mono HB6.out.size))
  have K17 := Lib.hid (blk_below K16.out hb)
  have K27 := Lib.hid (blk_below K26.out hb)
  have HR17 := Lib.hid (Kd.C_below HR16.out hb)
  have HR27 := Lib.hid (Kd.C_below HR26.out hb)
  clear hr hb hc7 hC7 hcc hc9 hC9 hl ec HB6 K16 K26 HR16 HR26
  go_wp2_with fail
  have d1 : w7.cell? ⟨g1, 0, none⟩ = some (.slice A1 1 c1) := blk_cell K17.out 0
  have hnot : ∀ W : World, Below w7.heap.size w7 W → Calls Try.prog 23 #[.agg #[.slice A1 1 c1]] W fun e w' => ∃ A' c', e = .returned (.agg #[.slice A' 2 c']) ∧ Hid (2 ≤ c') ∧ Hid (k52.C w' A' 2 notL) ∧ Hid (Below w7.heap.size w7 w') := fun W hW =>
    (not_any A1 c1 [nA] okP_nA W (Kd.C_below HR17.out hW) HC1.out).mono fun e w' h => by
      obtain ⟨v, rfl, hr, hb⟩ := h
      rw [notE] at hr
      obtain ⟨A', c', rfl, h1, h2⟩ := R_open 2 rfl hr
      exact ⟨A', c', rfl, Lib.hid h1, Lib.hid h2, Lib.hid (hW.trans (hb.mono hW.size))⟩
  have HNOT := Lib.hid hnot
  clear hnot
  go_region_with (first
    | (go_at_call 23; refine (HNOT.out _ ?hW).mono ?_; (case hW => repeat (first | exact Below.refl _ _ | refine Below.drew ?_)); rintro e w8 ⟨A8, c8, rfl, HC8, HR8, HB8⟩; have d18 : w8.cell? ⟨g1, 0, none⟩ = some (.slice A1 1 c1) := blk_cell (blk_below K17.out HB8.out) 0)
    | (go_at_call 33; refine (disj_any A1 A8 c1 c8 [nA] notL okP_nA okP_not _ (Kd.Heap.C k52_heap (fun j _ => rfl) (Kd.C_below HR17.out HB8.out)) (Kd.Heap.C k52_heap (fun j _ => rfl) HR8.out) HC1.out HC8.out).mono ?_; rintro e w9 ⟨he, hb9⟩; rw [apartAA] at he; subst he; have HB9 := Lib.hid hb9; clear hb9))
  all_goals
    have hb9 : Below w7.heap.size w7 w9 := HB8.out.trans (HB9.out.mono HB8.out.size)
    have d19 : w9.cell? ⟨g1, 0, none⟩ = some (.slice A1 1 c1) := blk_cell (blk_below K17.out hb9) 0
    have d99 : w9.cell? ⟨ad.block, ad.off + 1, none⟩ = some (.slice A9 1 c9) := pw_cell_below hb9 HL7.out
    have K19 := Lib.hid (blk_below K17.out hb9)
    have K29 := Lib.hid (blk_below K27.out hb9)
    have HR19 := Lib.hid (Kd.C_below HR17.out hb9)
    have HR29 := Lib.hid (Kd.C_below HR27.out hb9)
    have HR99 := Lib.hid (Kd.C_below HR9.out hb9)
    have HBW9 := Lib.hid (HB7.out.trans (hb9.mono HB7.out.size))
    clear hb9 HB8 HB9 HB7 K17 K27 HR17 HR27 HR9 HL7 d1 d18 HNOT HR8
    go_wp2_with fail
    have hlit : k47.C (w9.alloc (.cells #[.int .i64 9, .int .u64 2, .int .u64 3] 47)) (some ⟨w9.heap.size, 0, none⟩) 1 [⟨9, 2, 3⟩] := C_lit (d := k47) (xs := [⟨9, 2, 3⟩]) 47 (by
      have h := (Reps.none (k47.K w9) k47.sz).snoc (p := ⟨9, 2, 3⟩) (c := [.int .i64 9, .int .u64 2, .int .u64 3]) (k47_mk w9 ⟨9, 2, 3⟩) rfl
      exact h) (by simp)
    have hbl : Below w9.heap.size w9 (w9.alloc (.cells #[.int .i64 9, .int .u64 2, .int .u64 3] 47)) := (Below.refl _ _).alloc (Nat.le_refl _) _
    go_at_call 41
    refine (droverref16_SameCube.calls 10 A9 c9 [⟨9, 2, 3⟩] (some ⟨w9.heap.size, 0, none⟩) 1 [⟨9, 2, 3⟩] true _ (Kd.C_below HR99.out hbl) HC9.out hlit (Nat.le_refl _) sameEE).mono ?_
    rintro e w10 ⟨rfl, hd⟩
    have hb := hbl.trans (hd.below.mono hbl.size)
    have d1 : w10.cell? ⟨g1, 0, none⟩ = some (.slice A1 1 c1) := blk_cell (blk_below K19.out hb) 0
    have K1 := Lib.hid (blk_below K19.out hb)
    have K2 := Lib.hid (blk_below K29.out hb)
    have HR1 := Lib.hid (Kd.C_below HR19.out hb)
    have HR2 := Lib.hid (Kd.C_below HR29.out hb)
    have HBW := Lib.hid (HBW9.out.trans (hb.mono HBW9.out.size))
    clear hb hd hlit hbl d19 d99 K19 K29 HR19 HR29 HR99 HBW9
    go_wp2_with fail
    generalize hcs : (#[.int .u64 0, .int .u64 0, .int .u64 0, .int .u64 0, .int .u64 0, .int .u64 0, .int .u64 0, .int .u64 0, .int .u64 0, .int .u64 5] : Array Value) = cs10
    have hbl : Below w10.heap.size w10 (w10.alloc (.cells cs10 45)) := (Below.refl _ _).alloc (Nat.le_refl _) _
    have hrow : RowF (w10.alloc (.cells cs10 45)) (some ⟨w10.heap.size, 0, none⟩) 10 (fun k => .int .u64 (at0 [0, 0, 0, 0, 0, 0, 0, 0, 0, 5] k)) := fun k hk => ⟨_, 0, rfl, by
      rw [blk_cell (heap_new _ _), ← hcs]
      obtain rfl | rfl | rfl | rfl | rfl | rfl | rfl | rfl | rfl | rfl : k = 0 ∨ k = 1 ∨ k = 2 ∨ k = 3 ∨ k = 4 ∨ k = 5 ∨ k = 6 ∨ k = 7 ∨ k = 8 ∨ k = 9 := by omega
      all_goals rfl⟩
    go_at_call 18
    refine (eval_any A1 (some ⟨w10.heap.size, 0, none⟩) c1 10 [nA] [0, 0, 0, 0, 0, 0, 0, 0, 0, 5] okP_nA (by intro x hx; simp at hx; omega) _ (Kd.C_below HR1.out hbl) HC1.out hrow).mono ?_
    rintro e w11 ⟨rfl, hb⟩
    rw [evalA]
    replace hb := hbl.trans (hb.mono hbl.size)
    clear d1
    have d1 : w11.cell? ⟨g1, 0, none⟩ = some (.slice A1 1 c1) := blk_cell (blk_below K1.out hb) 0
    have d2 : w11.cell? ⟨g2, 0, none⟩ = some (.slice A2 1 c2) := blk_cell (blk_below K2.out hb) 0
    have HR11 := Lib.hid (Kd.C_below HR1.out hb)
    have HR21 := Lib.hid (Kd.C_below HR2.out hb)
    have HBW1 := Lib.hid (HBW.out.trans (hb.mono HBW.out.size))
    clear hb hbl hrow hcs K1 K2 HR1 HR2 HBW
    go_wp2_with fail
    have hlit := C_two (a := [nA]) (b := [nB]) rfl rfl HR11.out HR21.out HC1.out HC2.out
    have hb5 : Below w11.heap.size w11 (w11.alloc (.cells #[.slice A1 1 c1, .slice A2 1 c2] 24)) := (Below.refl _ _).alloc (Nat.le_refl _) _
    go_at_call 20
    refine (and_any _ 2 [⟨[nA]⟩, ⟨[nB]⟩] (okPs_two okP_nA okP_nB) _ hlit).mono ?_
    rintro e w12 ⟨v, rfl, hr, hb⟩
    rw [andE] at hr
    obtain ⟨A5, c5, rfl, hc5, hC5⟩ := R_open 3 rfl hr
    have HC5 := Lib.hid hc5
    have HR5 := Lib.hid hC5
    have HB2 := Lib.hid (HBW1.out.trans ((hb5.trans (hb.mono hb5.size)).mono HBW1.out.size))
    clear hr hb hc5 hC5 hb5 hlit HBW1 HR11 HR21 d1 d2
    go_wp2_with fail
    go_at_call 18
    refine (eval_any A5 none c5 0 andL [] okP_and (by intro x hx; cases hx) w12 HR5.out HC5.out (fun k hk => by cases hk)).mono ?_
    rintro e w13 ⟨rfl, hb⟩
    rw [evalAnd]
    have HB3 := Lib.hid (HB2.out.trans (hb.mono HB2.out.size))
    clear hb HB2
    go_wp2_with fail
    go_ret
    exact ⟨rfl, HB3.out⟩
end Go.Proofs.Ytmhjnfkhfjejeaa
