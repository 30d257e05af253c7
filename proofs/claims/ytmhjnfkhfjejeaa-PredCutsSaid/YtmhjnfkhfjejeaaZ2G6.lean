import Derived.Test.YtmhjnfkhfjejeaaZ2G5
import Derived.StillTailTactics
namespace Go.Proofs.Ytmhjnfkhfjejeaa
set_option linter.unusedVariables false
set_option linter.unusedSimpArgs false
open Go.RowKit Go.Proofs.YtmhjnfkhfjejeaaW.PrintWords Go.Proofs.YtmhjnfkhfjejeaaW.PrintLast Go.Proofs.YtmhjnfkhfjejeaaW.PrintMore
open PPredCubes
/-- The k-th of a row of answers. -/
def atS (l : List Bool) (k : Nat) : Bool := l.getD k false
/-- Block g holds the slice of n answers in block s; they are f's. -/
structure SaidAt (w : World) (g s n : Nat) (f : Nat → Bool) : Prop where
  cell : w.heap[g]? = some (.cells #[.slice (some ⟨s, 0, none⟩) n n] 72 (0, 0))
  row : ∃ cs : Array Value, w.heap[s]? = some (.cells cs 4 (0, 0)) ∧ cs.size = n ∧ ∀ k, k < n → cs[k]? = some (.bool (f k))
theorem SaidAt.at_ {w : World} {g s n : Nat} {f : Nat → Bool} (h : SaidAt w g s n f) {k : Nat} (hk : k < n) : w.cell? ⟨s, k, none⟩ = some (.bool (f k)) := by
  obtain ⟨cs, h1, h2, h3⟩ := h.row
  rw [blk_cell h1]; exact h3 k hk
theorem SaidAt.free {w : World} {g s n : Nat} {f : Nat → Bool} (h : SaidAt w g s n f) (k : Nat) : w.frozen? ⟨s, k, none⟩ = false := by
  obtain ⟨cs, h1, h2, h3⟩ := h.row
  exact blk_frozen h1 k
theorem SaidAt.below {w w' : World} {g s n : Nat} {f : Nat → Bool} (h : SaidAt w g s n f) (hb : Below w.heap.size w w') : SaidAt w' g s n f := by
  obtain ⟨cs, h1, h2, h3⟩ := h.row
  exact ⟨blk_below h.cell hb, cs, blk_below h1 hb, h2, h3⟩
theorem SaidAt.set_ {w : World} {g s n : Nat} {f : Nat → Bool} (h : SaidAt w g s n f) (hgs : g ≠ s) {k : Nat} (hk : k < n) (x : Bool) : SaidAt (w.setCell ⟨s, k, none⟩ (.bool x)) g s n (fun j => if j = k then x else f j) := by
  obtain ⟨cs, h1, h2, h3⟩ := h.row
  refine ⟨blk_far h.cell hgs _, cs.setIfInBounds k (.bool x), blk_set h1 k _, by simp [h2], fun j hj => ?_⟩
  rw [Array.getElem?_setIfInBounds]
  by_cases e : k = j
  · subst e; simp [h2, hk]
  · rw [if_neg e, if_neg (by omega)]; exact h3 j hj
theorem SaidAt.congr {w : World} {g s n : Nat} {f f' : Nat → Bool} (h : SaidAt w g s n f) (e : ∀ k, k < n → f' k = f k) : SaidAt w g s n f' := by
  obtain ⟨cs, h1, h2, h3⟩ := h.row
  exact ⟨h.cell, cs, h1, h2, fun k hk => by rw [e k hk]; exact h3 k hk⟩
/-- The first place of a row of which p is true; -1: none. -/
def idxTo (p : Nat → Bool) (subs : List Int) : Nat → Nat → Int
  | 0, _ => -1
  | d + 1, i => if p (subs.getD i 0).toNat then (i : Int) else idxTo p subs d (i + 1)
theorem idxTo_yes {p : Nat → Bool} {subs : List Int} {d i x : Nat} (hx : subs.getD i 0 = (x : Int)) (h : p x = true) : idxTo p subs (d + 1) i = i := by
  simp only [idxTo]; rw [hx, Int.toNat_natCast, if_pos h]
theorem idxTo_no {p : Nat → Bool} {subs : List Int} {d i x : Nat} (hx : subs.getD i 0 = (x : Int)) (h : p x = false) : idxTo p subs (d + 1) i = idxTo p subs d (i + 1) := by
  simp only [idxTo]; rw [hx, Int.toNat_natCast, if_neg (by rw [h]; decide)]
def idxF (p : Nat → Bool) (subs : List Int) : Int := idxTo p subs subs.length 0
theorem idxTo_any (p : Nat → Bool) (subs : List Int) : ∀ (d i : Nat), (∀ s ∈ subs, 0 ≤ s) → i + d = subs.length → (decide (0 ≤ idxTo p subs d i) = (subs.drop i).any fun s => p s.toNat) := by
  intro d
  induction d with
  | zero =>
    intro i h0 h
    rw [List.drop_of_length_le (by omega)]; simp [idxTo]
  | succ d ih =>
    intro i h0 h
    have hi : i < subs.length := by omega
    rw [List.drop_eq_getElem_cons hi, List.any_cons, ← ih (i + 1) h0 (by omega)]
    have hp := h0 _ (List.getElem_mem hi)
    have e : subs.getD i 0 = ((subs[i].toNat : Nat) : Int) := by rw [List.getD_eq_getElem?_getD, List.getElem?_eq_getElem hi]; simp only [Option.getD_some]; omega
    cases hq : p subs[i].toNat
    · rw [idxTo_no e hq]; simp
    · rw [idxTo_yes e hq]; simp
theorem idxF_any (p : Nat → Bool) (subs : List Int) (h : ∀ s ∈ subs, 0 ≤ s) : decide (0 ≤ idxF p subs) = subs.any fun s => p s.toNat := by
  have := idxTo_any p subs subs.length 0 h (by omega)
  rwa [List.drop_zero] at this
theorem ret_intv {a b : Int} (h : a = b) : Ending.returned (.int .i64 a) = .returned (.int .i64 b) := by rw [h]
theorem rdIv {w : World} {A : Option Addr} {n : Nat} {xs : List Int} (h : (Kd.int .i64).C w A n xs) {i : Nat} (hi : i < n) : ∃ ad, A = some ad ∧ w.cell? (ad.add i) = some (.int .i64 (xs.getD i 0)) := by
  obtain ⟨ad, c, rfl, hcl, hK, hcc⟩ := Kd.C_get h (0 : Int) i (by omega) (by omega)
  have hc : c = [.int .i64 (xs.getD i 0)] := hK
  subst hc
  refine ⟨ad, rfl, ?_⟩
  have := hcc 0 _ rfl
  simpa [Kd.int, Kd.scalar] using this

set_option maxHeartbeats 4000000 in
set_option maxRecDepth 100000 in
theorem clo_46 (g s n : Nat) (f : Nat → Bool) (x : Nat) (hx : x < n) (w : World) (h : SaidAt w g s n f) :
    Calls Try.prog 46 #[.int .i64 x, .pointer (some ⟨g, 0, none⟩)] w fun e w' => e = .returned (.bool (f x)) ∧ w = w' := by
  have c1 : w.cell? ⟨g, 0, none⟩ = some (.slice (some ⟨s, 0, none⟩) n n) := blk_cell h.cell 0
  have c2 := h.at_ hx
  have q1 : (x : Int) < (n : Int) := by omega
  clear h
  go_enter Try.func46, Try.ntmps46
  go_wp2
  go_ret
  exact ⟨rfl, rfl⟩
set_option maxHeartbeats 4000000 in
set_option maxRecDepth 100000 in
theorem index_46 (g s n : Nat) (f : Nat → Bool) (As : Option Addr) (cs : Nat) (subs : List Int) (hI : ∀ x ∈ subs, 0 ≤ x ∧ x < n) (w : World) (h : SaidAt w g s n f) (hr : (Kd.int .i64).C w As subs.length subs) :
    Calls Try.prog 63 #[.slice As subs.length cs, .func (.func 46) #[] #[.pointer (some ⟨g, 0, none⟩)]] w fun e w' => e = .returned (.int .i64 (idxF (fun j => f j) subs)) ∧ w = w' := by
  have HS := Lib.hid h
  have HR := Lib.hid hr
  have HI := Lib.hid hI
  have HM := hr.2.1
  clear h hr hI
  go_enter Try.func63, Try.ntmps63
  go_wp2_with fail
  go_loop [8] (fun vi => ∃ i : Nat, vi = .int .i64 i ∧ i ≤ subs.length ∧ Hid (idxTo (fun j => f j) subs (subs.length - i) i = idxF (fun j => f j) subs)) (fun vi => subs.length - (intOf vi).toNat)
  case atStart => exact ⟨0, rfl, by omega, Lib.hid rfl⟩
  case round =>
    obtain ⟨i, rfl, hi, HE⟩ := hrel
    by_cases hlt : i < subs.length
    · obtain ⟨ad, rfl, hc⟩ := rdIv HR.out hlt
      have hb := HI.out _ (List.getElem_mem hlt)
      obtain ⟨x, hx⟩ := Int.eq_ofNat_of_zero_le hb.1
      have e0 : subs.getD i 0 = (x : Int) := by rw [List.getD_eq_getElem?_getD, List.getElem?_eq_getElem hlt]; exact hx
      rw [e0] at hc
      have hxn : x < n := by omega
      have HX := Lib.hid e0
      have q1 : (i : Int) < (subs.length : Int) := by omega
      clear hb hx e0
      cases hq : (f x) with
      | true =>
        have HQ := Lib.hid hq
        clear hq
        go_wp2_with (go_at_call 46; refine (clo_46 g s n f x hxn _ HS.out).mono ?_; rintro e w' ⟨he, rfl⟩; rw [HQ.out] at he; subst he)
        go_ret
        refine ⟨ret_intv ?_, rfl⟩
        rw [← HE.out, show subs.length - i = (subs.length - (i + 1)) + 1 by omega]
        exact (idxTo_yes (p := fun j => f j) HX.out HQ.out).symm
      | false =>
        have HQ := Lib.hid hq
        clear hq
        go_wp2_with (go_at_call 46; refine (clo_46 g s n f x hxn _ HS.out).mono ?_; rintro e w' ⟨he, rfl⟩; rw [HQ.out] at he; subst he)
        go_round
        case rel =>
          refine ⟨i + 1, by go_num, by omega, Lib.hid ?_⟩
          rw [← HE.out, show subs.length - i = (subs.length - (i + 1)) + 1 by omega]
          exact (idxTo_no (p := fun j => f j) HX.out HQ.out).symm
        case measure => simp [intOf] <;> omega
    · obtain rfl : i = subs.length := by omega
      go_wp2_with fail
      go_ret
      refine ⟨ret_intv ?_, rfl⟩
      rw [← HE.out, Nat.sub_self]; rfl
set_option maxHeartbeats 4000000 in
set_option maxRecDepth 100000 in
theorem contains_46 (g s n : Nat) (f : Nat → Bool) (As : Option Addr) (cs : Nat) (subs : List Int) (hI : ∀ x ∈ subs, 0 ≤ x ∧ x < n) (w : World) (h : SaidAt w g s n f) (hr : (Kd.int .i64).C w As subs.length subs) :
    Calls Try.prog 48 #[.slice As subs.length cs, .func (.func 46) #[] #[.pointer (some ⟨g, 0, none⟩)]] w fun e w' => e = .returned (.bool (subs.any fun x => f x.toNat)) ∧ w = w' := by
  have HS := Lib.hid h
  have HR := Lib.hid hr
  have HI := Lib.hid hI
  clear h hr hI
  go_enter Try.func48, Try.ntmps48
  go_wp2_with fail
  go_at_call 63
  refine (index_46 g s n f As cs subs HI.out w HS.out HR.out).mono ?_
  rintro e w' ⟨rfl, rfl⟩
  go_wp2_with fail
  go_ret
  exact ⟨ret_bool (idxF_any (fun j => f j) subs (fun s hs => (HI.out s hs).1)), rfl⟩

set_option maxHeartbeats 4000000 in
set_option maxRecDepth 100000 in
theorem clo_47 (g s n : Nat) (f : Nat → Bool) (x : Nat) (hx : x < n) (w : World) (h : SaidAt w g s n f) :
    Calls Try.prog 47 #[.int .i64 x, .pointer (some ⟨g, 0, none⟩)] w fun e w' => e = .returned (.bool (!f x)) ∧ w = w' := by
  have c1 : w.cell? ⟨g, 0, none⟩ = some (.slice (some ⟨s, 0, none⟩) n n) := blk_cell h.cell 0
  have c2 := h.at_ hx
  have q1 : (x : Int) < (n : Int) := by omega
  clear h
  go_enter Try.func47, Try.ntmps47
  go_wp2
  go_ret
  exact ⟨rfl, rfl⟩
set_option maxHeartbeats 4000000 in
set_option maxRecDepth 100000 in
theorem index_47 (g s n : Nat) (f : Nat → Bool) (As : Option Addr) (cs : Nat) (subs : List Int) (hI : ∀ x ∈ subs, 0 ≤ x ∧ x < n) (w : World) (h : SaidAt w g s n f) (hr : (Kd.int .i64).C w As subs.length subs) :
    Calls Try.prog 63 #[.slice As subs.length cs, .func (.func 47) #[] #[.pointer (some ⟨g, 0, none⟩)]] w fun e w' => e = .returned (.int .i64 (idxF (fun j => !f j) subs)) ∧ w = w' := by
  have HS := Lib.hid h
  have HR := Lib.hid hr
  have HI := Lib.hid hI
  have HM := hr.2.1
  clear h hr hI
  go_enter Try.func63, Try.ntmps63
  go_wp2_with fail
  go_loop [8] (fun vi => ∃ i : Nat, vi = .int .i64 i ∧ i ≤ subs.length ∧ Hid (idxTo (fun j => !f j) subs (subs.length - i) i = idxF (fun j => !f j) subs)) (fun vi => subs.length - (intOf vi).toNat)
  case atStart => exact ⟨0, rfl, by omega, Lib.hid rfl⟩
  case round =>
    obtain ⟨i, rfl, hi, HE⟩ := hrel
    by_cases hlt : i < subs.length
    · obtain ⟨ad, rfl, hc⟩ := rdIv HR.out hlt
      have hb := HI.out _ (List.getElem_mem hlt)
      obtain ⟨x, hx⟩ := Int.eq_ofNat_of_zero_le hb.1
      have e0 : subs.getD i 0 = (x : Int) := by rw [List.getD_eq_getElem?_getD, List.getElem?_eq_getElem hlt]; exact hx
      rw [e0] at hc
      have hxn : x < n := by omega
      have HX := Lib.hid e0
      have q1 : (i : Int) < (subs.length : Int) := by omega
      clear hb hx e0
      cases hq : (!f x) with
      | true =>
        have HQ := Lib.hid hq
        clear hq
        go_wp2_with (go_at_call 47; refine (clo_47 g s n f x hxn _ HS.out).mono ?_; rintro e w' ⟨he, rfl⟩; rw [HQ.out] at he; subst he)
        go_ret
        refine ⟨ret_intv ?_, rfl⟩
        rw [← HE.out, show subs.length - i = (subs.length - (i + 1)) + 1 by omega]
        exact (idxTo_yes (p := fun j => !f j) HX.out HQ.out).symm
      | false =>
        have HQ := Lib.hid hq
        clear hq
        go_wp2_with (go_at_call 47; refine (clo_47 g s n f x hxn _ HS.out).mono ?_; rintro e w' ⟨he, rfl⟩; rw [HQ.out] at he; subst he)
        go_round
        case rel =>
          refine ⟨i + 1, by go_num, by omega, Lib.hid ?_⟩
          rw [← HE.out, show subs.length - i = (subs.length - (i + 1)) + 1 by omega]
          exact (idxTo_no (p := fun j => !f j) HX.out HQ.out).symm
        case measure => simp [intOf] <;> omega
    · obtain rfl : i = subs.length := by omega
      go_wp2_with fail
      go_ret
      refine ⟨ret_intv ?_, rfl⟩
      rw [← HE.out, Nat.sub_self]; rfl
set_option maxHeartbeats 4000000 in
set_option maxRecDepth 100000 in
theorem contains_47 (g s n : Nat) (f : Nat → Bool) (As : Option Addr) (cs : Nat) (subs : List Int) (hI : ∀ x ∈ subs, 0 ≤ x ∧ x < n) (w : World) (h : SaidAt w g s n f) (hr : (Kd.int .i64).C w As subs.length subs) :
    Calls Try.prog 48 #[.slice As subs.length cs, .func (.func 47) #[] #[.pointer (some ⟨g, 0, none⟩)]] w fun e w' => e = .returned (.bool (subs.any fun x => !f x.toNat)) ∧ w = w' := by
  have HS := Lib.hid h
  have HR := Lib.hid hr
  have HI := Lib.hid hI
  clear h hr hI
  go_enter Try.func48, Try.ntmps48
  go_wp2_with fail
  go_at_call 63
  refine (index_47 g s n f As cs subs HI.out w HS.out HR.out).mono ?_
  rintro e w' ⟨rfl, rfl⟩
  go_wp2_with fail
  go_ret
  exact ⟨ret_bool (idxF_any (fun j => !f j) subs (fun s hs => (HI.out s hs).1)), rfl⟩
end Go.Proofs.Ytmhjnfkhfjejeaa
namespace Go.Proofs.Ytmhjnfkhfjejeaa
set_option linter.unusedVariables false
set_option linter.unusedSimpArgs false
open Go.RowKit Go.Proofs.YtmhjnfkhfjejeaaW.PrintWords Go.Proofs.YtmhjnfkhfjejeaaW.PrintLast Go.Proofs.YtmhjnfkhfjejeaaW.PrintMore
open PPredCubes
/-- What a node says, out of what the ones ahead say. -/
def sayN (n : S52) (said : List Bool) (vals : List Nat) : Bool :=
  if n.f0 = 1 then true else if n.f0 = 3 then holdsB vals n.f1.f0 n.f1.f1.toNat n.f1.f2.toNat
  else if n.f0 = 4 then !(n.f2.any fun x => !atS said x.toNat) else if n.f0 = 5 then n.f2.any fun x => atS said x.toNat
  else if n.f0 = 6 then !atS said (subAt n.f2 0) else false
def saidTo (ns : List S52) (vals : List Nat) : Nat → List Bool
  | 0 => []
  | k + 1 => saidTo ns vals k ++ [sayN (atN ns k) (saidTo ns vals k) vals]
def evalB (ns : List S52) (vals : List Nat) : Bool := rightB ns && atS (saidTo ns vals ns.length) (ns.length - 1)
theorem saidTo_len (ns : List S52) (vals : List Nat) (k : Nat) : (saidTo ns vals k).length = k := by
  induction k with
  | zero => rfl
  | succ k ih => simp only [saidTo, List.length_append, ih, List.length_singleton]
theorem saidTo_at (ns : List S52) (vals : List Nat) (k j : Nat) : atS (saidTo ns vals (k + 1)) j = if j = k then sayN (atN ns k) (saidTo ns vals k) vals else atS (saidTo ns vals k) j := by
  unfold atS
  simp only [saidTo]
  have hl := saidTo_len ns vals k
  rw [List.getD_eq_getElem?_getD, List.getD_eq_getElem?_getD]
  rcases Nat.lt_trichotomy j k with h | h | h
  · rw [List.getElem?_append_left (by omega), if_neg (by omega)]
  · subst h; rw [List.getElem?_append_right (by omega), hl]; simp
  · rw [List.getElem?_append_right (by omega), if_neg (by omega), List.getElem?_eq_none (l := saidTo ns vals k) (by omega), List.getElem?_eq_none (by simp; omega)]
/-- A variable's new block, the world a variable. -/
theorem wpList_alloce {P : Program} {ops : Array Oper} {rest : List Oper} {o : Oper} {a : Act} {w : World} {Q : Exit → Act → World → Prop} (hgd : o.guard = none) (N : Tmp) (hd : o.dst = some N) (ty : TypeId) (ho : o.op = .alloc ty) (z : Value)
    (hz : (P.info? ty).map (·.zero) = some (some z))
    (h : ∀ g W, Hid (g = w.heap.size) → W.heap[g]? = some (.cells z.cells ty (0, 0)) → Below w.heap.size w W → wpList P ops Q rest (a.put (some N) (.pointer (some ⟨g, 0, none⟩))) W) : wpList P ops Q (o :: rest) a w := by
  refine wpList_plain hgd fun K hK => ?_
  unfold Oper.wp
  rw [run_alloc_op ho hz, Oper.upon_value, hd]
  exact hK _ _ (h _ _ (Lib.hid rfl) (heap_new w _) ((Below.refl _ _).alloc (Nat.le_refl _) _))
/-- A whole variable is written, the world a variable. -/
theorem wpList_rowe {P : Program} {ops : Array Oper} {rest : List Oper} {o : Oper} {a : Act} {w : World} {Q : Exit → Act → World → Prop} (hgd : o.guard = none) (ty : TypeId) (x v : Operand) (ho : o.op = .store ty x v) (hN : o.dst = none)
    (g : Nat) (hx : a.eval x = .pointer (some ⟨g, 0, none⟩)) (c' : Array Value) (hv : a.eval v = .agg c') (cs : Array Value) (hg : w.heap[g]? = some (.cells cs ty (0, 0)))
    (hi : (P.info? ty).map (·.size) = some c'.size) (hs : cs.size = c'.size) (h1 : c'.all (·.oneCell') = true) (B : Nat) (hB : B ≤ g)
    (h : ∀ W, W.heap[g]? = some (.cells c' ty (0, 0)) → Below B w W → wpList P ops Q rest a W) : wpList P ops Q (o :: rest) a w :=
  wpList_store_row hgd ty x v ho hN g hx c' hv cs ty hg hi hs h1 (h _ (setRow_heap _ _ _ _ _ _ hg) (Below.row_new hB _))
theorem SaidAt.moved {w w' : World} {g s n : Nat} {f : Nat → Bool} (h : SaidAt w g s n f) (h1 : w'.heap[g]? = w.heap[g]?) (h2 : w'.heap[s]? = w.heap[s]?) : SaidAt w' g s n f := by
  obtain ⟨cs, k1, k2, k3⟩ := h.row
  exact ⟨h1.trans h.cell, cs, h2.trans k1, k2, k3⟩
theorem SaidAt.lt {w : World} {g s n : Nat} {f : Nat → Bool} (h : SaidAt w g s n f) : g < w.heap.size ∧ s < w.heap.size := by
  obtain ⟨cs, k1, k2, k3⟩ := h.row
  exact ⟨blk_lt h.cell, blk_lt k1⟩
theorem info4 : (Try.prog.info? 4).map (fun i => (i.zero, i.size, i.bytes)) = some (some (.bool false), 1, 1) := by kernel_rfl
theorem info_parts3 {t : TypeId} {z : Value} {s b : Nat} (h : (Try.prog.info? t).map (fun i => (i.zero, i.size, i.bytes)) = some (some z, s, b)) : ∃ i, Try.prog.info? t = some i ∧ i.zero = some z ∧ i.size = s ∧ i.bytes = b := by
  obtain ⟨i0, hi, hzz⟩ := Option.map_eq_some_iff.1 h
  simp only [Prod.mk.injEq] at hzz
  exact ⟨i0, hi, hzz.1, hzz.2.1, hzz.2.2⟩

set_option maxHeartbeats 4000000 in
set_option maxRecDepth 100000 in
theorem eval_any (A Av : Option Addr) (c cv : Nat) (ns : List S52) (vals : List Nat) (hP : okP ns) (hvl : lt64 vals) (w : World) (hr : k52.C w A ns.length ns) (hc : ns.length ≤ c) (hv : RowF w Av vals.length (fun k => .int .u64 (at0 vals k))) :
    Calls Try.prog 18 #[.agg #[.slice A ns.length c], .slice Av vals.length cv] w fun e w' => e = .returned (.bool (evalB ns vals)) ∧ Below w.heap.size w w' := by
  have HR := Lib.hid hr
  have HP := Lib.hid hP
  have HC := Lib.hid hc
  have HV := Lib.hid hv
  have HVL := Lib.hid hvl
  clear hr hP hc hv hvl
  go_enter Try.func18, Try.ntmps18
  go_wp2_with (first
    | (refine wpList_box rfl 2 rfl #[.slice A ns.length c] 24 ?hr ?_; (case hr => first | (go_simp; done) | (go_simp; rfl)); intro g1 w1 hg1 k1 hb1; have K1 := Lib.hid k1; have HB1 := Lib.hid hb1; clear hb1 k1)
    | (refine wpList_load_at rfl 24 (.tmp 2) rfl ⟨g1, 0, none⟩ rfl #[.slice A ns.length c] _ (Lies.of_block K1.out) Try.underlying24 rfl info24s ?_))
  go_at_call 22
  refine (right_any A c ns HP.out w1 (Kd.C_below HR.out HB1.out) HC.out).mono ?_
  rintro e w2 ⟨rfl, hb2⟩
  have K2 := Lib.hid (blk_below K1.out hb2)
  have HB2 := Lib.hid (HB1.out.trans (hb2.mono HB1.out.size))
  have d2 : w2.cell? ⟨g1, 0, none⟩ = some (.slice A ns.length c) := blk_cell K2.out 0
  clear hb2 K1 HB1
  cases hrt : rightB ns with
  | false =>
    have HRT := Lib.hid hrt
    clear hrt
    go_wp2_with fail
    go_ret
    exact ⟨ret_bool (by unfold evalB; rw [HRT.out]; rfl), HB2.out⟩
  | true =>
    have HRT := Lib.hid hrt
    have hln := rightB_len hrt
    obtain ⟨i0, hi, hz0, hz1, hz2⟩ := info_parts3 info4
    have hmk : (Instr.makeSlice 72 (.int .i64 ns.length) (.int .i64 ns.length)).run Try.prog w2 = .ok (.slice (some ⟨w2.heap.size, 0, none⟩) ns.length ns.length) (w2.alloc (.cells (madeCells #[.bool false] ns.length) 4)) := by
      have := run_make (P := Try.prog) w2 72 4 i0 (.bool false) Try.underlying72 hi hz0 .i64 .i64 ns.length ns.length (by omega) (by omega) (by rw [hz2]; omega) (by omega)
      rw [hz1] at this
      simp only [Int.toNat_natCast, Nat.mul_one] at this
      exact this
    obtain ⟨W0, hW0⟩ : ∃ W0, W0 = (w2.alloc (.cells (madeCells #[.bool false] ns.length) 4)).alloc (.cells #[.slice (some ⟨w2.heap.size, 0, none⟩) ns.length ns.length] 72) := ⟨_, rfl⟩
    have s1 : (w2.alloc (.cells (madeCells #[.bool false] ns.length) 4)).heap.size = w2.heap.size + 1 := by simp
    have hb0 : Below w2.heap.size w2 W0 := by rw [hW0]; exact ((Below.refl _ _).alloc (Nat.le_refl _) _).alloc (by simp) _
    have hsd : SaidAt W0 (w2.heap.size + 1) w2.heap.size ns.length (atS (saidTo ns vals 0)) := by
      refine ⟨?_, madeCells #[.bool false] ns.length, ?_, size_madeCells _ _, fun k hk => ?_⟩
      · rw [hW0, ← s1]; exact heap_new _ _
      · rw [hW0]; exact blk_alloc (heap_new _ _) _
      · simp [madeCells, hk, Nat.mod_one, atS, saidTo]
    have d3 : W0.cell? ⟨g1, 0, none⟩ = some (.slice A ns.length c) := blk_cell (blk_below K2.out hb0) 0
    have hgs : w.heap.size ≤ w2.heap.size := HB2.out.size
    have HGS := Lib.hid hgs
    have HSD := Lib.hid hsd
    have HB0 := Lib.hid (HB2.out.trans (hb0.mono HB2.out.size))
    rw [hW0] at d3
    have hW0' := hW0.symm
    clear hrt hi hz0 hz1 hz2 s1 hb0 hsd hgs hW0
    have HW0 := Lib.hid hW0'
    clear hW0'
    go_wp2_with fail
    rw [HW0.out]
    clear hmk d3 d2 HW0
    obtain ⟨s, hs⟩ : ∃ s, w2.heap.size = s := ⟨_, rfl⟩
    rw [hs] at HSD HGS ⊢
    obtain ⟨g5, hg5⟩ : ∃ g5, s + 1 = g5 := ⟨_, rfl⟩
    rw [hg5] at HSD ⊢
    have HNE : Hid (g5 ≠ s) := Lib.hid (by omega)
    clear hs hg5 K2 HB2
    go_loopw [20] (fun vk wr => ∃ k : Nat, vk = .int .i64 k ∧ k ≤ ns.length ∧ SaidAt wr g5 s ns.length (atS (saidTo ns vals k)) ∧ Below w.heap.size w wr) (fun vk _ => ns.length - (intOf vk).toNat)
    case atStart => exact ⟨0, rfl, by omega, HSD.out, HB0.out⟩
    case round =>
      obtain ⟨k, rfl, hk, hsd, hw⟩ := hrel
      have HS := Lib.hid hsd
      have HW := Lib.hid hw
      clear hsd hw HSD HB0
      by_cases hlt : k < ns.length
      · obtain ⟨ad, A4, c4, rfl, hlies, hle4, hsub⟩ := rd52 (Kd.C_below HR.out HW.out) hlt
        have hnr := (nodeB_iff _ _).1 (rightB_at HRT.out hlt)
        have hok := okP_at HP.out k
        obtain ⟨n, hn⟩ : ∃ n, atN ns k = n := ⟨_, rfl⟩
        rw [hn] at hlies hle4 hsub hnr hok
        have HNQ := Lib.hid hn
        have HLI := Lib.hid hlies
        have HSUB := Lib.hid hsub
        have HNR := Lib.hid hnr
        have HOK := Lib.hid hok
        have q1 : (k : Int) < (ns.length : Int) := by omega
        clear hn hlies hsub hnr hok
        obtain ⟨kd, t, sb⟩ := n
        go_upto_region 9 with (first
          | (refine wpList_load_at rfl 52 (.tmp 23) rfl (ad.add (k * 5)) rfl #[.int .i64 kd, .int .i64 t.f0, .int .u64 t.f1, .int .u64 t.f2, .slice A4 sb.length c4] _ HLI.out Try.underlying52 rfl info52s ?_)
          | (refine wpList_alloce rfl 7 rfl 52 rfl (.agg #[.int .i64 0, .int .i64 0, .int .u64 0, .int .u64 0, .slice none 0 0]) info52z ?_; intro g7 w6 hg7 k6 hb6; have K6 := Lib.hid k6; have HB6 := Lib.hid hb6; clear k6 hb6)
          | (refine wpList_rowe rfl 52 (.tmp 7) (.tmp 24) rfl rfl g7 rfl #[.int .i64 kd, .int .i64 t.f0, .int .u64 t.f1, .int .u64 t.f2, .slice A4 sb.length c4] rfl _ K6.out info52s rfl (by simp [Value.oneCell']) wr.heap.size (by rw [hg7.out]; exact Nat.le_refl _) ?_; intro w7 k7 hb7; have K7 := Lib.hid k7; have HB7 := Lib.hid (HB6.out.trans hb7); have d0 : w7.cell? ⟨g7, 0, none⟩ = some (.int .i64 kd) := blk_cell k7 0; clear k7 hb7 K6 HB6))
        have hs7 := HS.out.below HB7.out
        have HS7 := Lib.hid hs7
        have HW7 := Lib.hid (HW.out.trans (HB7.out.mono HW.out.size))
        have e5 : w7.cell? ⟨g5, 0, none⟩ = some (.slice (some ⟨s, 0, none⟩) ns.length ns.length) := blk_cell hs7.cell 0
        have e6 := hs7.at_ hlt
        have e7 := hs7.free k
        have HSUB7 := Lib.hid (Kd.C_below HSUB.out HB7.out)
        have HV7 := Lib.hid (HV.out.below ((HW7.out)))
        have hlast : atS (saidTo ns vals k) k = false := by unfold atS; rw [List.getD_eq_getElem?_getD, List.getElem?_eq_none (by rw [saidTo_len]; omega)]; rfl
        have HLAST := Lib.hid hlast
        have hstep : ∀ (W : World) (b : Bool), SaidAt W g5 s ns.length (atS (saidTo ns vals k)) → sayN ⟨kd, t, sb⟩ (saidTo ns vals k) vals = b → SaidAt (W.setCell ⟨s, k, none⟩ (.bool b)) g5 s ns.length (atS (saidTo ns vals (k + 1))) := fun W b hW hb =>
          (hW.set_ HNE.out hlt b).congr fun j _ => by rw [saidTo_at, HNQ.out, hb]
        have HSTEP := Lib.hid hstep
        obtain ⟨hk1, hk2⟩ : 1 ≤ kd ∧ kd ≤ 6 := HNR.out.kind
        clear hs7 hlast hstep HS HW HB7 HSUB HLI hg7
        by_cases h1 : kd = 1
        · subst h1
          go_wp2_with fail
          go_roundw
          case rel => exact ⟨k + 1, by go_num, by omega, HSTEP.out _ true HS7.out rfl, HW7.out.setCell HGS.out _⟩
          case measure => simp [intOf] <;> omega
        · by_cases h2 : kd = 2
          · subst h2
            go_wp2_with fail
            go_roundw
            case rel => exact ⟨k + 1, by go_num, by omega, HS7.out.congr (fun j _ => by
              rw [saidTo_at, HNQ.out]
              split
              · rename_i e; subst e; rw [HLAST.out]; rfl
              · rfl), HW7.out⟩
            case measure => simp [intOf] <;> omega
          · by_cases h3 : kd = 3
            · subst h3
              have htst : tstB t = true := HNR.out.test rfl
              have htz : okT t := HOK.out
              obtain ⟨f, vv, mm, rfl, hv64, hm64⟩ := okT_nat htz
              obtain ⟨hf1, hf2, -⟩ := (testB_iff f vv mm).1 (by simpa [tstB] using htst)
              have d1 : w7.cell? ⟨g7, 1, none⟩ = some (.int .i64 f) := blk_cell K7.out 1
              have d2 : w7.cell? ⟨g7, 2, none⟩ = some (.int .u64 (vv : Int)) := blk_cell K7.out 2
              have d3 : w7.cell? ⟨g7, 3, none⟩ = some (.int .u64 (mm : Int)) := blk_cell K7.out 3
              have hcall : ∀ W : World, (∀ p, W.cell? p = w7.cell? p) → Calls Try.prog 45 #[.agg #[.int .i64 f, .int .u64 vv, .int .u64 mm], .slice Av vals.length cv] W fun e w' => e = .returned (.bool (holdsB vals f vv mm)) ∧ Below W.heap.size W w' := fun W hW =>
                holds_any f vv mm (by omega) hm64 Av cv vals HVL.out W (fun j hj => by obtain ⟨b, off, e, hc⟩ := HV7.out j hj; exact ⟨b, off, e, (hW _).trans hc⟩)
              have HCALL := Lib.hid hcall
              clear htst htz hcall
              go_wp2_with fail
              go_region_with (go_at_call 45; refine (HCALL.out _ ?hW).mono ?_; (case hW => exact fun p => rfl); rintro e w8 ⟨rfl, hb8⟩; have hs8 := HS7.out.moved (w' := w8) (hb8.block g5 HS7.out.lt.1) (hb8.block s HS7.out.lt.2); have c5 : w8.cell? ⟨g5, 0, none⟩ = some (.slice (some ⟨s, 0, none⟩) ns.length ns.length) := blk_cell hs8.cell 0; have c6 := hs8.at_ hlt; have c7 := hs8.free k; have HS8 := Lib.hid hs8; have HB8 := Lib.hid hb8; clear hs8 hb8)
              all_goals
                go_wp2_with fail
                go_roundw
                case rel => exact ⟨k + 1, by go_num, by omega, HSTEP.out _ _ HS8.out (by simp [sayN]), (HW7.out.drew.trans (HB8.out.mono HW7.out.size)).setCell HGS.out _⟩
                case measure => simp [intOf] <;> omega
            · have hI : ∀ x ∈ sb, 0 ≤ x ∧ x < ns.length := fun x hx => by have := HNR.out.subs x hx; omega
              have HI := Lib.hid hI
              have d4 : w7.cell? ⟨g7, 4, none⟩ = some (.slice A4 sb.length c4) := blk_cell K7.out 4
              clear hI
              by_cases h4 : kd = 4
              · subst h4
                have hcall : ∀ W : World, W.heap = w7.heap → Calls Try.prog 48 #[.slice A4 sb.length c4, .func (.func 47) #[] #[.pointer (some ⟨g5, 0, none⟩)]] W fun e w' => e = .returned (.bool (sb.any fun x => !atS (saidTo ns vals k) x.toNat)) ∧ W = w' := fun W hW =>
                  contains_47 g5 s ns.length (atS (saidTo ns vals k)) A4 c4 sb HI.out W (HS7.out.moved (by rw [hW]) (by rw [hW])) (Kd.Heap.C (Kd.heap_int .i64) (fun j _ => by rw [hW]) HSUB7.out)
                have HCALL := Lib.hid hcall
                clear hcall
                go_wp2_with fail
                go_region_with (go_at_call 48; refine (HCALL.out _ ?hW).mono ?_; (case hW => rfl); rintro e w8 ⟨rfl, rfl⟩)
                all_goals
                  go_wp2_with fail
                  go_roundw
                  case rel => exact ⟨k + 1, by go_num, by omega, (HSTEP.out w7 (!(sb.any fun x => !atS (saidTo ns vals k) x.toNat)) HS7.out (by simp [sayN])).moved rfl rfl, (HW7.out.setCell HGS.out _).drew⟩
                  case measure => simp [intOf] <;> omega
              · by_cases h5 : kd = 5
                · subst h5
                  have hcall : ∀ W : World, W.heap = w7.heap → Calls Try.prog 48 #[.slice A4 sb.length c4, .func (.func 46) #[] #[.pointer (some ⟨g5, 0, none⟩)]] W fun e w' => e = .returned (.bool (sb.any fun x => atS (saidTo ns vals k) x.toNat)) ∧ W = w' := fun W hW =>
                    contains_46 g5 s ns.length (atS (saidTo ns vals k)) A4 c4 sb HI.out W (HS7.out.moved (by rw [hW]) (by rw [hW])) (Kd.Heap.C (Kd.heap_int .i64) (fun j _ => by rw [hW]) HSUB7.out)
                  have HCALL := Lib.hid hcall
                  clear hcall
                  go_wp2_with fail
                  go_region_with (go_at_call 48; refine (HCALL.out _ ?hW).mono ?_; (case hW => rfl); rintro e w8 ⟨rfl, rfl⟩)
                  all_goals
                    go_wp2_with fail
                    go_roundw
                    case rel => exact ⟨k + 1, by go_num, by omega, (HSTEP.out w7 (sb.any fun x => atS (saidTo ns vals k) x.toNat) HS7.out (by simp [sayN])).moved rfl rfl, (HW7.out.setCell HGS.out _).drew⟩
                    case measure => simp [intOf] <;> omega

                · obtain rfl : kd = 6 := by omega
                  have hl : sb.length = 1 := by
                    have h := HNR.out.lens
                    simp [lowN, highN] at h
                    omega
                  obtain ⟨ads, rfl, hc0⟩ := rdI (xs := sb) HSUB7.out (i := 0) (show 0 < sb.length by rw [hl]; decide)
                  obtain ⟨e0, hlt0⟩ := inH_at (subs := sb) HNR.out.subs (k := 0) (by rw [hl]; decide)
                  replace hlt0 : subAt sb 0 < k := hlt0
                  replace e0 : sb.getD 0 0 = (subAt sb 0 : Int) := e0
                  rw [e0] at hc0
                  have c8 : w7.cell? ads = some (.int .i64 (subAt sb 0 : Int)) := by simpa [Addr.add] using hc0
                  have c9 := HS7.out.at_ (k := subAt sb 0) (by omega)
                  obtain ⟨sx, hsx⟩ : ∃ sx, subAt sb 0 = sx := ⟨_, rfl⟩
                  rw [hsx] at c8 c9 hlt0
                  have HSX := Lib.hid hsx
                  have q2 : (sx : Int) < (ns.length : Int) := by omega
                  have q3 : (0 : Int) < (sb.length : Int) := by omega
                  clear hc0 e0 hsx hl
                  go_wp2_with fail
                  go_region
                  all_goals
                    go_wp2_with fail
                    go_roundw
                    case rel => exact ⟨k + 1, by go_num, by omega, (HSTEP.out w7 (!atS (saidTo ns vals k) sx) HS7.out (by simp [sayN, HSX.out])).moved rfl rfl, (HW7.out.setCell HGS.out _).drew⟩
                    case measure => simp [intOf] <;> omega
      · obtain rfl : k = ns.length := by omega
        obtain ⟨m, hm⟩ : ∃ m, ns.length = m + 1 := ⟨ns.length - 1, by omega⟩
        have e5 : wr.cell? ⟨g5, 0, none⟩ = some (.slice (some ⟨s, 0, none⟩) ns.length ns.length) := blk_cell HS.out.cell 0
        have e6 := HS.out.at_ (k := m) (by omega)
        have HEV : Hid (evalB ns vals = atS (saidTo ns vals ns.length) m) := Lib.hid (by unfold evalB; rw [HRT.out, hm]; rfl)
        have q2 : (ns.length : Int) - 1 = (m : Int) := by omega
        have q3 : (m : Int) < (ns.length : Int) := by omega
        clear hm hlt hk
        go_wp2_with fail
        go_ret
        exact ⟨ret_bool HEV.out.symm, HW.out⟩
end Go.Proofs.Ytmhjnfkhfjejeaa
namespace Go.Proofs.Ytmhjnfkhfjejeaa
set_option linter.unusedVariables false
set_option linter.unusedSimpArgs false
open Go.RowKit Go.Proofs.YtmhjnfkhfjejeaaW.PrintWords Go.Proofs.YtmhjnfkhfjejeaaW.PrintLast Go.Proofs.YtmhjnfkhfjejeaaW.PrintMore
open PPredCubes
/-! ### Predicates made of others -/
def atP (l : List S24) (k : Nat) : List S52 := (l.getD k z24).f0
def addTo (b : Int) (subs : List Int) : Nat → List Int
  | 0 => []
  | i + 1 => addTo b subs i ++ [subs.getD i 0 + b]
def shiftN (b : Int) (n : S52) : S52 := ⟨n.f0, n.f1, addTo b n.f2 n.f2.length⟩
def shiftTo (b : Int) (p : List S52) : Nat → List S52
  | 0 => []
  | j + 1 => shiftTo b p j ++ [shiftN b (atN p j)]
def outTo (ps : List S24) : Nat → List S52
  | 0 => []
  | k + 1 => outTo ps k ++ shiftTo (outTo ps k).length (atP ps k) (atP ps k).length
def topsTo (ps : List S24) : Nat → List Int
  | 0 => []
  | k + 1 => topsTo ps k ++ [((outTo ps (k + 1)).length : Int) - 1]
def mOk (ps : List S24) : Nat → Bool
  | 0 => true
  | k + 1 => mOk ps k && (rightB (atP ps k) && decide ((outTo ps k).length + (atP ps k).length ≤ 60))
def wholeP (l : List S52) : List S52 := if rightB l then l else []
/-- A node over others. -/
def madeL (kind : Int) (ps : List S24) : List S52 := if mOk ps ps.length then wholeP (outTo ps ps.length ++ [⟨kind, z47, topsTo ps ps.length⟩]) else []
def okPs (ps : List S24) : Prop := ∀ p ∈ ps, okP p.f0
theorem okPs_at {ps : List S24} (h : okPs ps) (k : Nat) : okP (atP ps k) := by
  unfold atP
  rw [List.getD_eq_getElem?_getD]
  rcases Nat.lt_or_ge k ps.length with h1 | h1
  · rw [List.getElem?_eq_getElem h1]; exact h _ (List.getElem_mem h1)
  · rw [List.getElem?_eq_none h1]; intro n hn; simp [z24] at hn
theorem shiftTo_len (b : Int) (p : List S52) (j : Nat) : (shiftTo b p j).length = j := by
  induction j with
  | zero => rfl
  | succ j ih => simp only [shiftTo, List.length_append, ih, List.length_singleton]
theorem addTo_len (b : Int) (p : List Int) (j : Nat) : (addTo b p j).length = j := by
  induction j with
  | zero => rfl
  | succ j ih => simp only [addTo, List.length_append, ih, List.length_singleton]
theorem outTo_len (ps : List S24) (k : Nat) (h : mOk ps k = true) : (outTo ps k).length ≤ 60 ∧ k ≤ (outTo ps k).length := by
  induction k with
  | zero => simp [outTo]
  | succ k ih =>
    simp only [mOk, Bool.and_eq_true] at h
    have h1 := of_decide_eq_true h.2.2
    have h2 := rightB_len h.2.1
    have h3 := ih h.1
    simp only [outTo, List.length_append, shiftTo_len]
    omega
theorem topsTo_len (ps : List S24) (k : Nat) : (topsTo ps k).length = k := by
  induction k with
  | zero => rfl
  | succ j ih => simp only [topsTo, List.length_append, ih, List.length_singleton]
theorem mOk_mono {ps : List S24} (k : Nat) (h : mOk ps k = false) (j : Nat) : mOk ps (k + j) = false := by
  induction j with
  | zero => exact h
  | succ j ih => show (mOk ps (k + j) && _) = false; rw [ih]; rfl
theorem mOk_false {ps : List S24} {k : Nat} (h : mOk ps k = false) (hk : k ≤ ps.length) : mOk ps ps.length = false := by
  have := mOk_mono k h (ps.length - k)
  rwa [show k + (ps.length - k) = ps.length by omega] at this
theorem okP_app {l m : List S52} (h : okP l) (k : okP m) : okP (l ++ m) := fun x hx => by
  rcases List.mem_append.1 hx with hx | hx
  · exact h x hx
  · exact k x hx
theorem shiftTo_ok {b : Int} {p : List S52} (h : okP p) (j : Nat) : okP (shiftTo b p j) := by
  induction j with
  | zero => intro x hx; simp [shiftTo] at hx
  | succ j ih => exact okP_app ih (fun x hx => by rw [List.mem_singleton.1 hx]; exact okP_at h j)
theorem outTo_ok {ps : List S24} (h : okPs ps) (k : Nat) : okP (outTo ps k) := by
  induction k with
  | zero => intro x hx; simp [outTo] at hx
  | succ k ih => exact okP_app ih (shiftTo_ok (okPs_at h k) _)
theorem okP_one {n : S52} (h : okT n.f1) : okP [n] := fun x hx => by rw [List.mem_singleton.1 hx]; exact h
/-- The end of a function whose result is a predicate in memory. -/
theorem c_post {fn : Func} {R : Ending → World → Prop} {a : Act} {W : World} {p : Tmp} {g : Nat} {cs : Array Value} {ty : TypeId} (hres : fn.results = #[.cell p ty])
    (hp : a.tmps.getD p undef = .pointer (some ⟨g, 0, none⟩)) (hz : W.heap[g]? = some (.cells cs ty (0, 0))) (hu : ∃ fs, Try.prog.underlying ty = some (.struct fs)) (hi : (Try.prog.info? ty).map (·.size) = some cs.size)
    (hd : a.defers = []) (hR : R (.returned (.agg cs)) W) : bodyPost Try.prog fn R .ret a W := by
  obtain ⟨fs, hu⟩ := hu
  exact bodyPost_ret (results_cell_row hres a.tmps W g ty cs (0, 0) _ hp hz hu rfl hi) hd hR
def wholeV (l : List S52) (v : Value) : Value := if rightB l then v else .slice none 0 0

set_option maxHeartbeats 4000000 in
set_option maxRecDepth 100000 in
theorem whole_any (A : Option Addr) (c : Nat) (l : List S52) (hP : okP l) (w : World) (hr : k52.C w A l.length l) (hc : l.length ≤ c) :
    Calls Try.prog 56 #[.agg #[.slice A l.length c]] w fun e w' => e = .returned (.agg #[wholeV l (.slice A l.length c)]) ∧ Below w.heap.size w w' := by
  have HR := Lib.hid hr
  have HP := Lib.hid hP
  have HC := Lib.hid hc
  clear hr hP hc
  go_enter Try.func56, Try.ntmps56
  go_wp2_with (first
    | (refine wpList_box rfl 1 rfl #[.slice A l.length c] 24 ?hr ?_; (case hr => first | (go_simp; done) | (go_simp; rfl)); intro g1 w1 hg1 k1 hb1; have K1 := Lib.hid k1; have HB1 := Lib.hid hb1; clear hb1 k1)
    | (refine wpList_alloce rfl 2 rfl 24 rfl (.agg #[.slice none 0 0]) info24z ?_; intro g2 w2 hg2 k2 hb2; have K2 := Lib.hid k2; have K12 := Lib.hid (blk_below K1.out hb2); have HB2 := Lib.hid (HB1.out.trans (hb2.mono HB1.out.size)); clear hb2 k2 K1)
    | (refine wpList_load_at rfl 24 (.tmp 1) rfl ⟨g1, 0, none⟩ rfl #[.slice A l.length c] _ (Lies.of_block K12.out) Try.underlying24 rfl info24s ?_))
  have HG2 : Hid (w.heap.size ≤ g2) := Lib.hid (by rw [hg2.out]; exact HB1.out.size)
  go_at_call 22
  refine (right_any A c l HP.out w2 (Kd.C_below HR.out HB2.out) HC.out).mono ?_
  rintro e w3 ⟨rfl, hb3⟩
  have K13 := Lib.hid (blk_below K12.out hb3)
  have K23 := Lib.hid (blk_below K2.out hb3)
  have HB3 := Lib.hid (HB2.out.trans (hb3.mono HB2.out.size))
  clear hb3 K12 K2 HB2 HB1 hg1 hg2
  cases hrt : rightB l with
  | false =>
    have HW : Hid (wholeV l (.slice A l.length c) = .slice none 0 0) := Lib.hid (by unfold wholeV; rw [hrt]; rfl)
    clear hrt
    go_wp2_with (refine wpList_rowe rfl 24 (.tmp 2) (.tmp 6) rfl rfl g2 rfl #[.slice none 0 0] rfl _ K23.out info24s rfl (by simp [Value.oneCell']) w.heap.size HG2.out ?_; intro w4 k4 hb4; have K4 := Lib.hid k4; have HB4 := Lib.hid (HB3.out.trans hb4); clear k4 hb4)
    exact c_post (fn := Try.f56) rfl rfl K4.out ⟨_, Try.underlying24⟩ info24s rfl ⟨by rw [HW.out], HB4.out⟩
  | true =>
    have HW : Hid (wholeV l (.slice A l.length c) = .slice A l.length c) := Lib.hid (by unfold wholeV; rw [hrt]; rfl)
    clear hrt
    go_wp2_with (first
      | (refine wpList_load_at rfl 24 (.tmp 1) rfl ⟨g1, 0, none⟩ rfl #[.slice A l.length c] _ (Lies.of_block K13.out) Try.underlying24 rfl info24s ?_)
      | (refine wpList_rowe rfl 24 (.tmp 2) (.tmp 7) rfl rfl g2 rfl #[.slice A l.length c] rfl _ K23.out info24s rfl (by simp [Value.oneCell']) w.heap.size HG2.out ?_; intro w4 k4 hb4; have K4 := Lib.hid k4; have HB4 := Lib.hid (HB3.out.trans hb4); clear k4 hb4))
    exact c_post (fn := Try.f56) rfl rfl K4.out ⟨_, Try.underlying24⟩ info24s rfl ⟨by rw [HW.out], HB4.out⟩
end Go.Proofs.Ytmhjnfkhfjejeaa
namespace Go.Proofs.Ytmhjnfkhfjejeaa
set_option linter.unusedVariables false
set_option linter.unusedSimpArgs false
open Go.RowKit Go.Proofs.YtmhjnfkhfjejeaaW.PrintWords Go.Proofs.YtmhjnfkhfjejeaaW.PrintLast Go.Proofs.YtmhjnfkhfjejeaaW.PrintMore
open PPredCubes
theorem rd24 {w : World} {A : Option Addr} {l : List S24} (h : k24.C w A l.length l) {i : Nat} (hi : i < l.length) :
    ∃ ad A4 c4, A = some ad ∧ Lies w (ad.add i) (#[.slice A4 (atP l i).length c4] : Array Value).toList ∧ (atP l i).length ≤ c4 ∧ k52.C w A4 (atP l i).length (atP l i) := by
  obtain ⟨ad, c, rfl, hcl, hK, hcc⟩ := Kd.C_get h z24 (i : Int) (by omega) (by omega)
  obtain ⟨A4, c4, rfl, hle, g4⟩ := k24_open hK
  refine ⟨ad, A4, c4, rfl, fun j v hv => ?_, hle, g4⟩
  rw [add_add]
  have := hcc j v hv
  rwa [show ((i : Int).toNat * k24.sz + j) = i + j from by show i * 1 + j = _; omega] at this
/-- The end of made: what whole makes of the row. -/
theorem wholeV_R {w : World} {b : Nat} {ok : Nat → Prop} {v : Value} {l : List S52} (h : k52.R 52 w b ok v l) : k52.R 52 w b ok (wholeV l v) (wholeP l) := by
  unfold wholeV wholeP
  cases hr : rightB l with
  | true => exact h
  | false => exact Kd.R_nil _ _ _ _ _
theorem blkfree {w : World} {g : Nat} {cs : Array Value} {t : TypeId} (h : w.heap[g]? = some (.cells cs t (0, 0))) (k : Nat) : w.frozen? ⟨g, k, none⟩ = false := by
  unfold World.frozen?; simp [h]
/-- A whole variable is written, the world a variable; the other blocks stay. -/
theorem wpList_rowx {P : Program} {ops : Array Oper} {rest : List Oper} {o : Oper} {a : Act} {w : World} {Q : Exit → Act → World → Prop} (hgd : o.guard = none) (ty : TypeId) (x v : Operand) (ho : o.op = .store ty x v) (hN : o.dst = none)
    (g : Nat) (hx : a.eval x = .pointer (some ⟨g, 0, none⟩)) (c' : Array Value) (hv : a.eval v = .agg c') (cs : Array Value) (hg : w.heap[g]? = some (.cells cs ty (0, 0)))
    (hi : (P.info? ty).map (·.size) = some c'.size) (hs : cs.size = c'.size) (h1 : c'.all (·.oneCell') = true) (B : Nat) (hB : B ≤ g)
    (h : ∀ W, W.heap[g]? = some (.cells c' ty (0, 0)) → (∀ k, k ≠ g → W.heap[k]? = w.heap[k]?) → Below B w W → wpList P ops Q rest a W) : wpList P ops Q (o :: rest) a w :=
  wpList_store_row hgd ty x v ho hN g hx c' hv cs ty hg hi hs h1 (h _ (setRow_heap _ _ _ _ _ _ hg) (fun k hk => setRow_other w g k c' hk) (Below.row_new hB _))

set_option maxHeartbeats 4000000 in
set_option maxRecDepth 100000 in
theorem made_any (kind : Int) (A : Option Addr) (c : Nat) (ps : List S24) (hP : okPs ps) (w : World) (hr : k24.C w A ps.length ps) :
    Calls Try.prog 50 #[.int .i64 kind, .slice A ps.length c] w fun e w' => ∃ v, e = .returned (.agg #[v]) ∧ k52.R 52 w' w.heap.size (fun _ => True) v (madeL kind ps) ∧ Below w.heap.size w w' := by
  have HR := Lib.hid hr
  have HP := Lib.hid hP
  clear hr hP
  go_enter Try.func50, Try.ntmps50
  go_wp2_with (first
    | (refine wpList_alloce rfl 4 rfl 24 rfl (.agg #[.slice none 0 0]) info24z ?_; intro g4 w1 hg4 k4 hb4; have K14 : Hid (w1.heap[g4]? = some (.cells #[.slice none 0 0] 24 (0, 0))) := Lib.hid k4; have HB1 := Lib.hid hb4; clear hb4 k4)
    | (refine wpList_alloce rfl 5 rfl 24 rfl (.agg #[.slice none 0 0]) info24z ?_; intro g5 w2 hg5 k5 hb5; have K5 : Hid (w2.heap[g5]? = some (.cells #[.slice none 0 0] 24 (0, 0))) := Lib.hid k5; have K4 := Lib.hid (blk_below K14.out hb5); have HG45 := Lib.hid (show g4 ≠ g5 from fun e => by have := blk_lt K14.out; have := hg5.out; omega); have HG4 : Hid (w.heap.size ≤ g4) := Lib.hid (by rw [hg4.out]; exact Nat.le_refl _); have HG5 : Hid (w.heap.size ≤ g5) := Lib.hid (by rw [hg5.out]; exact HB1.out.size); have HB2 := Lib.hid (HB1.out.trans (hb5.mono HB1.out.size)); clear hb5 k5 K14 HB1))
  obtain ⟨B, hB⟩ : ∃ B, w2.heap.size = B := ⟨_, rfl⟩
  have HL4 : Hid (g4 < B) := Lib.hid (hB ▸ blk_lt K4.out)
  have HL5 : Hid (g5 < B) := Lib.hid (hB ▸ blk_lt K5.out)
  have HBW : Hid (w.heap.size ≤ B) := Lib.hid (hB ▸ HB2.out.size)
  have HB02 : Hid (Below B w2 w2) := Lib.hid (Below.refl _ _)
  have HBZ : Hid (w2.heap.size = B) := Lib.hid hB
  clear hB hg4 hg5
  go_loopw [6, 17] (fun v6 vk wr => ∃ k : Nat, vk = .int .i64 k ∧ k ≤ ps.length ∧ Hid (mOk ps k = true) ∧ Hid (wr.heap[g4]? = some (.cells #[.slice none 0 0] 24 (0, 0))) ∧ (∃ vo, Hid (wr.heap[g5]? = some (.cells #[vo] 24 (0, 0))) ∧ Hid (k52.R 52 wr B (fun q => some q ≠ v6.ownBlock) vo (outTo ps k))) ∧ Hid ((Kd.int .i64).R 3 wr B (fun q => some q = v6.ownBlock) v6 (topsTo ps k)) ∧ Hid (B ≤ wr.heap.size) ∧ Below w.heap.size w wr) (fun _ vk _ => ps.length - (intOf vk).toNat)
  case atStart => exact ⟨0, rfl, by omega, Lib.hid rfl, K4, ⟨_, K5, Lib.hid (Kd.R_nil _ _ _ _ _)⟩, Lib.hid (Kd.R_nil _ _ _ _ _), Lib.hid (Nat.le_of_eq HBZ.out.symm), HB2.out⟩
  case round =>
    obtain ⟨k, rfl, hk, HK, K4, ⟨vo, K5, HN⟩, HT, HS, hw⟩ := hrel
    have HW := Lib.hid hw
    clear hw HB2 HB02 HBZ
    obtain ⟨A0, c0, e0⟩ := Kd.R_slice HN.out
    subst e0
    obtain ⟨A6, c6, e6⟩ := Kd.R_slice HT.out
    subst e6
    by_cases hlt : k < ps.length
    · obtain ⟨ad, Ap, cp, rfl, hlies, hle, hcp⟩ := rd24 HR.out hlt
      have hok := okPs_at HP.out k
      have hol := outTo_len ps k HK.out
      have htl := topsTo_len ps k
      obtain ⟨p, hp⟩ : ∃ p, atP ps k = p := ⟨_, rfl⟩
      rw [hp] at hlies hle hcp hok
      obtain ⟨ol, hol'⟩ : ∃ ol, outTo ps k = ol := ⟨_, rfl⟩
      rw [hol'] at HN K5 hol
      obtain ⟨tl, htl'⟩ : ∃ tl, topsTo ps k = tl := ⟨_, rfl⟩
      rw [htl'] at HT HN htl ⊢
      have HPQ := Lib.hid hp
      have HOQ := Lib.hid hol'
      have HTQ := Lib.hid htl'
      have HLI : Hid (Lies wr (ad.add k) (#[.slice Ap p.length cp] : Array Value).toList) := Lib.hid (fun j v hv => pw_cell_below HW.out (hlies j v hv))
      have HLE := Lib.hid hle
      have HCP := Lib.hid hcp
      have HOK := Lib.hid hok
      have HOL := Lib.hid hol
      have HTL := Lib.hid htl
      have q1 : (k : Int) < (ps.length : Int) := by omega
      clear hp hol' htl' hlies hle hcp hok hol htl
      go_wp2_with (first
        | (refine wpList_load_at rfl 24 (.tmp 19) rfl (ad.add k) rfl #[.slice Ap p.length cp] _ HLI.out Try.underlying24 rfl info24s ?_)
        | (refine wpList_newz rfl rfl 8 rfl 24 (.tmp 20) rfl rfl rfl (.agg #[.slice none 0 0]) #[.slice Ap p.length cp] info24z rfl rfl info24s rfl (by simp [Value.oneCell']) ?_; intro g8 w8 hg8 k8 hb8; have K8 := Lib.hid k8; have HB8 := Lib.hid hb8; clear k8 hb8)
        | (refine wpList_load_at rfl 24 (.tmp 8) rfl ⟨g8, 0, none⟩ rfl #[.slice Ap p.length cp] _ (Lies.of_block K8.out) Try.underlying24 rfl info24s ?_))
      go_at_call 22
      refine (right_any Ap cp p HOK.out w8 (Kd.C_below HCP.out (HW.out.trans (HB8.out.mono HW.out.size))) HLE.out).mono ?_
      rintro e w9 ⟨rfl, hb9⟩
      have HB9 := Lib.hid (HB8.out.trans (hb9.mono HB8.out.size))
      have K89 := Lib.hid (blk_below K8.out hb9)
      have HN9 := Lib.hid (Kd.R_below HN.out HB9.out)
      have HT9 := Lib.hid (Kd.R_below HT.out HB9.out)
      have K49 := Lib.hid (blk_below K4.out HB9.out)
      have K59 := Lib.hid (blk_below K5.out HB9.out)
      have HW9 := Lib.hid (HW.out.trans (HB9.out.mono HW.out.size))
      have HS9 := Lib.hid (Nat.le_trans HS.out HB9.out.size)
      clear hb9 HB8 HB9 K8 HN HT K4 K5 HW HS HLI hg8
      have d5 : w9.cell? ⟨g5, 0, none⟩ = some (.slice A0 ol.length c0) := blk_cell K59.out 0
      have d8 : w9.cell? ⟨g8, 0, none⟩ = some (.slice Ap p.length cp) := blk_cell K89.out 0
      have hout : ∀ W, Below w.heap.size w W → mOk ps (k + 1) = false → ∃ v, Ending.returned (.agg #[.slice none 0 0]) = .returned (.agg #[v]) ∧ k52.R 52 W w.heap.size (fun _ => True) v (madeL kind ps) ∧ Below w.heap.size w W := fun W hW hm => by
        have : madeL kind ps = [] := by unfold madeL; rw [mOk_false hm (by omega)]; rfl
        rw [this]
        exact ⟨_, rfl, Kd.R_nil _ _ _ _ _, hW⟩
      have HOUT := Lib.hid hout
      clear hout
      cases hrt : rightB p with
      | false =>
        have HM : Hid (mOk ps (k + 1) = false) := Lib.hid (by simp only [mOk]; rw [HPQ.out, hrt]; simp)
        clear hrt
        go_upto_region 7 with fail
        go_wp2_with (refine wpList_rowe rfl 24 (.tmp 4) (.tmp 34) rfl rfl g4 rfl #[.slice none 0 0] rfl _ K49.out info24s rfl (by simp [Value.oneCell']) w.heap.size HG4.out ?_; intro wa ka hba; have KA := Lib.hid ka; have HBA := Lib.hid (HW9.out.trans hba); clear ka hba)
        exact c_post (fn := Try.f50) rfl rfl KA.out ⟨_, Try.underlying24⟩ info24s rfl (HOUT.out _ HBA.out HM.out)
      | true =>
        obtain ⟨hpl1, hpl2⟩ := rightB_len hrt
        by_cases h60 : ol.length + p.length ≤ 60
        · have HRT := Lib.hid hrt
          have HM : Hid (mOk ps (k + 1) = true) := Lib.hid (by simp only [mOk]; rw [HK.out, HPQ.out, HRT.out, HOQ.out, decide_eq_true h60]; rfl)
          have q2 : ¬ (60 : Int) < (ol.length : Int) + p.length := by omega
          clear hrt
          go_wp2_with fail
          clear d5 d8
          go_loopw [41] (fun vj wx => ∃ j : Nat, vj = .int .i64 j ∧ j ≤ p.length ∧ Hid (wx.heap[g4]? = some (.cells #[.slice none 0 0] 24 (0, 0))) ∧ (∃ vo, Hid (wx.heap[g5]? = some (.cells #[vo] 24 (0, 0))) ∧ Hid (k52.R 52 wx B (fun q => some q ≠ (Value.slice A6 tl.length c6).ownBlock) vo (ol ++ shiftTo ol.length p j))) ∧ Hid ((Kd.int .i64).R 3 wx B (fun q => some q = (Value.slice A6 tl.length c6).ownBlock) (.slice A6 tl.length c6) tl) ∧ Hid (B ≤ wx.heap.size) ∧ Below w.heap.size w wx) (fun vj _ => p.length - (intOf vj).toNat)
          case atStart => exact ⟨0, rfl, by omega, K49, ⟨_, K59, by simpa [shiftTo] using HN9⟩, HT9, HS9, HW9.out⟩
          case round =>
            obtain ⟨wx, rfl⟩ : ∃ wx : World, wx = wr := ⟨_, rfl⟩
            obtain ⟨j, rfl, hj, K4, ⟨vo, K5, HN⟩, HT, HS, hw⟩ := hrel
            have HW := Lib.hid hw
            clear hw K49 K59 HN9 HT9 HS9 HW9
            obtain ⟨A0, c0, e0⟩ := Kd.R_slice HN.out
            subst e0
            have hsl := shiftTo_len (ol.length : Int) p j
            by_cases hjl : j < p.length
            · obtain ⟨ad2, A4, c4, e2, hlies, hle4, hsub⟩ := rd52 HCP.out hjl
              subst e2
              have hnr := (nodeB_iff _ _).1 (rightB_at HRT.out hjl)
              obtain ⟨n, hn⟩ : ∃ n, atN p j = n := ⟨_, rfl⟩
              rw [hn] at hlies hle4 hsub hnr
              have hsb : n.f2.length ≤ 12 := by have := hnr.lens.2; unfold highN at this; split at this <;> (try split at this) <;> omega
              obtain ⟨kd, t, sb⟩ := n
              replace hsb : sb.length ≤ 12 := hsb
              have HNQ := Lib.hid hn
              have HLI : Hid (Lies wx (ad2.add (j * 5)) (#[.int .i64 kd, .int .i64 t.f0, .int .u64 t.f1, .int .u64 t.f2, .slice A4 sb.length c4] : Array Value).toList) := Lib.hid (fun j v hv => pw_cell_below HW.out (hlies j v hv))
              have HSUB := Lib.hid hsub
              have HNR := Lib.hid hnr
              have q3 : (j : Int) < (p.length : Int) := by omega
              have HSLL := Lib.hid hsl
              clear hn hlies hsub hnr hsl
              go_wp2_with (first
                | (refine wpList_load_at rfl 52 (.tmp 43) rfl (ad2.add (j * 5)) rfl #[.int .i64 kd, .int .i64 t.f0, .int .u64 t.f1, .int .u64 t.f2, .slice A4 sb.length c4] _ HLI.out Try.underlying52 rfl info52s ?_)
                | (refine wpList_newz rfl rfl 11 rfl 52 (.tmp 44) rfl rfl rfl (.agg #[.int .i64 0, .int .i64 0, .int .u64 0, .int .u64 0, .slice none 0 0]) #[.int .i64 kd, .int .i64 t.f0, .int .u64 t.f1, .int .u64 t.f2, .slice A4 sb.length c4] info52z rfl rfl info52s rfl (by simp [Value.oneCell']) ?_; intro g11 w11 hg11 k11 hb11; have d11 : w11.cell? ⟨g11, 4, none⟩ = some (.slice A4 sb.length c4) := blk_cell k11 4; have K11 := Lib.hid k11; have HB11 := Lib.hid hb11; clear k11 hb11))
              have HN11 := Lib.hid (Kd.R_below (Kd.R_elderB HN.out g11 (by rw [hg11.out]; exact Nat.le_refl _)) HB11.out)
              have HT11 := Lib.hid (Kd.R_below (Kd.R_elderB HT.out g11 (by rw [hg11.out]; exact Nat.le_refl _)) HB11.out)
              have K41 := Lib.hid (blk_below K4.out HB11.out)
              have K51 := Lib.hid (blk_below K5.out HB11.out)
              have HW11 := Lib.hid (HW.out.trans (HB11.out.mono HW.out.size))
              have HS11 := Lib.hid (Nat.le_trans HS.out HB11.out.size)
              have HG11 : Hid (B ≤ g11) := Lib.hid (by rw [hg11.out]; exact HS.out)
              clear HN HT K4 K5 HW HS HB11 hg11 HLI d11
              go_loopw [12, 48] (fun v12 vi wy => ∃ i : Nat, vi = .int .i64 i ∧ i ≤ sb.length ∧ Hid ((Kd.int .i64).R 3 wy w11.heap.size (fun _ => True) v12 (addTo ol.length sb i)) ∧ Below w11.heap.size w11 wy) (fun _ vi _ => sb.length - (intOf vi).toNat)
              case atStart => exact ⟨0, rfl, by omega, Lib.hid (Kd.R_nil _ _ _ _ _), Below.refl _ _⟩
              case round =>
                obtain ⟨wy, rfl⟩ : ∃ wy : World, wy = wr := ⟨_, rfl⟩
                obtain ⟨i, rfl, hi, HI, hwy⟩ := hrel
                have HWY := Lib.hid hwy
                clear hwy
                obtain ⟨A12, c12, e12⟩ := Kd.R_slice HI.out
                subst e12
                by_cases hil : i < sb.length
                · obtain ⟨ads, e4, hcs⟩ := rdI (Kd.C_below HSUB.out (HW11.out.trans (HWY.out.mono HW11.out.size))) hil
                  subst e4
                  obtain ⟨e0, hlt0⟩ := inH_at HNR.out.subs hil
                  replace e0 : sb.getD i 0 = (subAt sb i : Int) := e0
                  rw [e0] at hcs
                  obtain ⟨s, hs⟩ : ∃ s, subAt sb i = s := ⟨_, rfl⟩
                  rw [hs] at hcs hlt0
                  have HSQ : Hid (addTo ol.length sb (i + 1) = addTo ol.length sb i ++ [(s : Int) + ol.length]) := Lib.hid (by simp only [addTo]; rw [e0, hs])
                  have HAL := Lib.hid (addTo_len (ol.length : Int) sb i)
                  have hol := HOL.out
                  have q4 : (i : Int) < (sb.length : Int) := by omega
                  have q5 : (s : Int) < j := by omega
                  clear e0 hs
                  go_wp2_with (at_builtin; refine Kd.R_append (Kd.int .i64) (w0 := w11) (W := wy) w11.heap.size rfl (.tmp 52) (.tmp 56) 50 3 _ 8 rfl Try.underlying50 info3 rfl (by decide) (by decide) (.slice A12 (addTo ol.length sb i).length c12) (addTo ol.length sb i) ((s : Int) + ol.length) [.int .i64 ((s : Int) + ol.length)] (fun _ => True) (fun _ => False) rfl rfl rfl (fun _ h => h.elim) (fun _ _ => trivial) HI.out HWY.out HWY.out.size ?c4 ?_)
                  case c4 => rw [HAL.out]; omega
                  intro v1 w1 hr1 hb1 _ _
                  rw [← HSQ.out] at hr1
                  have HR1 := Lib.hid hr1
                  have HB1 := Lib.hid hb1
                  clear hr1 hb1 hcs
                  go_wp2_with fail
                  go_roundw
                  case rel => exact ⟨i + 1, by go_num, by omega, HR1, HB1.out⟩
                  case measure => simp [intOf] <;> omega
                · obtain rfl : i = sb.length := by omega
                  obtain ⟨on, hon⟩ : ∃ on, ol ++ shiftTo ol.length p j = on := ⟨_, rfl⟩
                  have HOND := Lib.hid (show on.length = ol.length + (shiftTo (ol.length : Int) p j).length from by rw [← hon, List.length_append])
                  have hr3 : ol ++ shiftTo ol.length p (j + 1) = on ++ [shiftN ol.length (atN p j)] := by rw [← hon, List.append_assoc]; rfl
                  have HR3 := Lib.hid hr3
                  rw [hon] at HN11 K51
                  clear hon hr3
                  have k11 := blk_below K11.out HWY.out
                  have k4 := blk_below K41.out HWY.out
                  have k5 := blk_below K51.out HWY.out
                  have hal := addTo_len (ol.length : Int) sb sb.length
                  have f11 := blkfree k11 4
                  have d11 : wy.cell? ⟨g11, 4, none⟩ = some (.slice A4 sb.length c4) := blk_cell k11 4
                  have hn5 : g5 ≠ g11 := fun e => by have := HG11.out; have := HL5.out; omega
                  have hn4 : g4 ≠ g11 := fun e => by have := HG11.out; have := HL4.out; omega
                  obtain ⟨al, hal'⟩ : ∃ al, addTo ol.length sb sb.length = al := ⟨_, rfl⟩
                  rw [hal'] at HI hal ⊢
                  obtain ⟨u, hu⟩ : ∃ u, Value.slice A12 al.length c12 = u := ⟨_, rfl⟩
                  have hiz : (Kd.int .i64).R 3 (wy.setCell ⟨g11, 4, none⟩ u) B (fun q => w11.heap.size ≤ q) u al := by
                    rw [← hu]
                    exact Kd.R_lower (Kd.R_mono (Kd.R_far (p := ⟨g11, 4, none⟩) (Kd.R_bound HI.out) (fun q hq => by have := hq.2.1; have := blk_lt K11.out; intro e; simp only [] at e; omega) _) (fun q hq => hq.2.1)) HS11.out
                  have hnz := Kd.R_far (p := ⟨g11, 4, none⟩) (Kd.R_below HN11.out HWY.out) (fun q hq => hq.2) u
                  have htz := Kd.R_mono (Kd.R_far (p := ⟨g11, 4, none⟩) (Kd.R_below HT11.out HWY.out) (fun q hq => hq.2) u) (fun _ h => h.1)
                  have KZ := Lib.hid (blk_put k11 4 u rfl)
                  have K5Z := Lib.hid ((Below.heap_setCell wy ⟨g11, 4, none⟩ u g5 hn5).trans k5)
                  have K4Z := Lib.hid ((Below.heap_setCell wy ⟨g11, 4, none⟩ u g4 hn4).trans k4)
                  have d5 : (wy.setCell ⟨g11, 4, none⟩ u).cell? ⟨g5, 0, none⟩ = some (.slice A0 on.length c0) := blk_cell K5Z.out 0
                  have HBZ := Lib.hid ((HW11.out.trans (HWY.out.mono HW11.out.size)).setCell (p := ⟨g11, 4, none⟩) (Nat.le_trans HBW.out HG11.out) u)
                  have HSZ : Hid (B ≤ (wy.setCell ⟨g11, 4, none⟩ u).heap.size) := Lib.hid (by rw [World.size_setCell]; exact Nat.le_trans HS11.out HWY.out.size)
                  have HSB : Hid (w11.heap.size ≤ (wy.setCell ⟨g11, 4, none⟩ u).heap.size) := Lib.hid (by rw [World.size_setCell]; exact HWY.out.size)
                  have HIZ := Lib.hid hiz
                  have HNZ := Lib.hid hnz
                  have HTZ := Lib.hid htz
                  have HL6 := Lib.hid (Kd.R_lt HT11.out)
                  have HL0 := Lib.hid (Kd.R_lt HN11.out)
                  have HAL := Lib.hid hal
                  have HAQ := Lib.hid hal'
                  have hgl := blk_lt K11.out
                  clear k11 k4 k5 hal hn5 hn4 hal' hiz hnz htz HI HN11 HT11 HW11 HWY K11 K41 K51 HS11 HG11
                  subst hu
                  go_wp2_with (first
                    | (refine wpList_load_at rfl 52 (.tmp 11) rfl ⟨g11, 0, none⟩ rfl #[.int .i64 kd, .int .i64 t.f0, .int .u64 t.f1, .int .u64 t.f2, .slice A12 al.length c12] _ (Lies.of_block KZ.out) Try.underlying52 rfl info52s ?_; generalize wy.setCell ⟨g11, 4, none⟩ (.slice A12 al.length c12) = wz at KZ K5Z K4Z d5 HBZ HSZ HSB HIZ HNZ HTZ ⊢)
                    | (at_builtin; refine Kd.R_append k52 (w0 := wz) (W := wz) B rfl (.tmp 62) (.tmp 64) 22 52 _ 56 rfl Try.underlying22 info52 rfl (by decide) (by decide) (.slice A0 on.length c0) on ⟨kd, t, al⟩ [.int .i64 kd, .int .i64 t.f0, .int .u64 t.f1, .int .u64 t.f2, .slice A12 al.length c12] (fun q => some q ≠ (Value.slice A6 tl.length c6).ownBlock ∧ q ≠ g11) (fun q => w11.heap.size ≤ q) rfl rfl (k52_mkM _ B _ ⟨kd, t, al⟩ HIZ.out) ?okp ?fresh HNZ.out ?blw HSZ.out ?len ?_))
                  case okp => exact fun q hq => ⟨⟨fun e => by have := HL6.out q e.symm; omega, fun e => by have := hgl; omega⟩, fun e => by have := HL0.out q e.symm; omega⟩
                  case fresh => exact fun q hq => ⟨fun e => by have := HL6.out q e.symm; have := HSB.out; omega, fun e => by have := hgl; have := HSB.out; omega⟩
                  case blw => exact Below.refl _ _
                  case len => have := HSLL.out; have := HOL.out; have := HOND.out; omega
                  intro v1 w1 hr1 hb1 hg1 _
                  have hnom := (Kd.R_bound HNZ.out).1
                  have k5 := blk_grown K5Z.out hg1 (fun e => by have := (hnom g5 e.symm).2.1; have := HL5.out; omega)
                  have k4 := blk_grown K4Z.out hg1 (fun e => by have := (hnom g4 e.symm).2.1; have := HL4.out; omega)
                  have ht1 := Kd.R_grown HTZ.out hg1 (fun q hq e => (HNZ.out.1 q e.symm).1 hq)
                  have hr2 : k52.R 52 w1 B (fun q => some q ≠ (Value.slice A6 tl.length c6).ownBlock) v1 (ol ++ shiftTo ol.length p (j + 1)) := by
                    rw [HR3.out, HNQ.out]; unfold shiftN; dsimp only; rw [HAQ.out]; exact Kd.R_mono hr1 (fun _ h => h.1)
                  obtain ⟨on2, hon2⟩ : ∃ on2, ol ++ shiftTo ol.length p (j + 1) = on2 := ⟨_, rfl⟩
                  rw [hon2] at hr2
                  have HON2 := Lib.hid hon2
                  clear hon2
                  have f5 := blkfree k5 0
                  have d5 : w1.cell? ⟨g5, 0, none⟩ = some (.slice A0 on.length c0) := blk_cell k5 0
                  obtain ⟨A1, c1, e1⟩ := Kd.R_slice hr2
                  have hv1 : v1.oneCell' = true := by rw [e1]; rfl
                  have K5 := Lib.hid (blk_put k5 0 v1 rfl)
                  have K4 := Lib.hid ((Below.heap_setCell w1 ⟨g5, 0, none⟩ v1 g4 HG45.out).trans k4)
                  have HN := Lib.hid (Kd.R_mono (Kd.R_far (p := ⟨g5, 0, none⟩) (Kd.R_bound hr2) (fun q hq => by have := hq.2.1; have := HL5.out; intro e; simp only [] at e; omega) v1) (fun _ h => h.1))
                  have HT := Lib.hid (Kd.R_mono (Kd.R_far (p := ⟨g5, 0, none⟩) (Kd.R_bound ht1) (fun q hq => by have := hq.2.1; have := HL5.out; intro e; simp only [] at e; omega) v1) (fun _ h => h.1))
                  have HB := Lib.hid ((HBZ.out.trans (hb1.mono HBW.out)).setCell (p := ⟨g5, 0, none⟩) HG5.out v1)
                  have HS : Hid (B ≤ (w1.setCell ⟨g5, 0, none⟩ v1).heap.size) := Lib.hid (by rw [World.size_setCell]; exact Nat.le_trans HSZ.out hb1.size)
                  clear hnom k5 k4 ht1 hr1 hr2 hb1 hg1 HNZ HTZ HIZ KZ K5Z K4Z HBZ HSZ HSB d11 f11 hgl
                  subst e1
                  go_wp2_with fail
                  go_roundw
                  case rel => exact ⟨j + 1, by go_num, by omega, K4, ⟨_, K5, Lib.hid (by rw [HON2.out]; exact HN.out)⟩, HT, HS, HB.out⟩
                  case measure => simp [intOf] <;> omega
            · obtain rfl : j = p.length := by omega
              have HSQ : Hid (outTo ps (k + 1) = ol ++ shiftTo ol.length p p.length) := Lib.hid (by simp only [outTo]; rw [HOQ.out, HPQ.out])
              have HTS : Hid (topsTo ps (k + 1) = tl ++ [((ol ++ shiftTo ol.length p p.length).length : Int) - 1]) := Lib.hid (by simp only [topsTo]; rw [HTQ.out, HSQ.out])
              obtain ⟨on, hon⟩ : ∃ on, ol ++ shiftTo ol.length p p.length = on := ⟨_, rfl⟩
              have hol : on.length = ol.length + p.length := by rw [← hon, List.length_append, hsl]
              have hol1 : 1 ≤ on.length := by omega
              have hol2 : on.length ≤ 60 := by omega
              have HOL2 := Lib.hid hol
              rw [hon] at HSQ HTS HN K5
              have d5 : wx.cell? ⟨g5, 0, none⟩ = some (.slice A0 on.length c0) := blk_cell K5.out 0
              have hk60 := HOL.out
              have hk61 : k ≤ 60 := by omega
              clear hon hsl hol hk60
              go_wp2_with (at_builtin; refine Kd.R_append (Kd.int .i64) (w0 := wx) (W := wx) B rfl (.tmp 68) (.tmp 73) 50 3 _ 8 rfl Try.underlying50 info3 rfl (by decide) (by decide) (.slice A6 tl.length c6) tl ((on.length : Int) - 1) [.int .i64 ((on.length : Int) - 1)] (fun _ => True) (fun _ => False) rfl rfl rfl (fun _ h => h.elim) (fun _ _ => trivial) (Kd.R_mono HT.out fun _ _ => trivial) (Below.refl _ _) HS.out ?c4 ?_)
              case c4 => rw [HTL.out]; omega
              intro v1 w1 hr1 hb1 hg1 hat
              have hbd := (Kd.R_bound HT.out).1
              have K5' := Lib.hid (blk_grown K5.out hg1 (fun e => by have := (hbd g5 e.symm).2.1; have := HL5.out; omega))
              have K4' := Lib.hid (blk_grown K4.out hg1 (fun e => by have := (hbd g4 e.symm).2.1; have := HL4.out; omega))
              have HT' : Hid ((Kd.int .i64).R 3 w1 B (fun q => some q = v1.ownBlock) v1 (topsTo ps (k + 1))) := Lib.hid (by
                rw [HTS.out]; exact Kd.R_flat (fun h => h) hr1 (fun q hq _ => hq.symm))
              have HN' : Hid (k52.R 52 w1 B (fun q => some q ≠ v1.ownBlock) (.slice A0 on.length c0) (outTo ps (k + 1))) := Lib.hid (by
                rw [HSQ.out]
                exact Kd.R_mono (Kd.R_grown (Kd.R_bound HN.out) hg1 (fun q hq => hq.1)) (fun q hq e => by
                  rcases hat with h | ⟨b, h, hle⟩
                  · rw [h] at e; exact hq.1 e
                  · rw [h] at e; injection e with e; have := hq.2.2.1; omega))
              have HB' := Lib.hid (HW.out.trans (hb1.mono HBW.out))
              have HS' := Lib.hid (Nat.le_trans HS.out hb1.size)
              clear hbd hr1 hb1 hg1 hat d5 HT HN K4 K5 HS HW
              go_wp2_with fail
              go_roundw
              case rel => exact ⟨k + 1, by go_num, by omega, HM, K4', ⟨_, K5', HN'⟩, HT', HS', HB'.out⟩
              case measure => simp [intOf] <;> omega
        · have HM : Hid (mOk ps (k + 1) = false) := Lib.hid (by simp only [mOk]; rw [HOQ.out, HPQ.out, decide_eq_false h60]; simp)
          have q2 : (60 : Int) < (ol.length : Int) + p.length := by omega
          have hol := HOL.out
          clear hrt
          go_upto_region 7 with fail
          go_wp2_with (refine wpList_rowe rfl 24 (.tmp 4) (.tmp 34) rfl rfl g4 rfl #[.slice none 0 0] rfl _ K49.out info24s rfl (by simp [Value.oneCell']) w.heap.size HG4.out ?_; intro wa ka hba; have KA := Lib.hid ka; have HBA := Lib.hid (HW9.out.trans hba); clear ka hba)
          exact c_post (fn := Try.f50) rfl rfl KA.out ⟨_, Try.underlying24⟩ info24s rfl (HOUT.out _ HBA.out HM.out)
    · obtain rfl : k = ps.length := by omega
      have hol := outTo_len ps ps.length HK.out
      have htl := topsTo_len ps ps.length
      have hokO : okP (outTo ps ps.length ++ [⟨kind, z47, topsTo ps ps.length⟩]) := okP_app (outTo_ok HP.out _) (okP_one okT_z)
      have HOKO := Lib.hid hokO
      have HMD : Hid (madeL kind ps = wholeP (outTo ps ps.length ++ [⟨kind, z47, topsTo ps ps.length⟩])) := Lib.hid (by unfold madeL; rw [HK.out]; rfl)
      obtain ⟨ol, hol'⟩ : ∃ ol, outTo ps ps.length = ol := ⟨_, rfl⟩
      rw [hol'] at HN K5 hol HOKO HMD
      obtain ⟨tl, htl'⟩ : ∃ tl, topsTo ps ps.length = tl := ⟨_, rfl⟩
      rw [htl'] at HT HN htl HOKO HMD ⊢
      have d5 : wr.cell? ⟨g5, 0, none⟩ = some (.slice A0 ol.length c0) := blk_cell K5.out 0
      have HTL := Lib.hid htl
      clear hol' htl' hokO htl
      go_wp2_with (at_builtin; refine Kd.R_append k52 (w0 := wr) (W := wr) B rfl (.tmp 77) (.tmp 81) 22 52 _ 56 rfl Try.underlying22 info52 rfl (by decide) (by decide) (.slice A0 ol.length c0) ol ⟨kind, z47, tl⟩ [.int .i64 kind, .int .i64 0, .int .u64 0, .int .u64 0, .slice A6 tl.length c6] (fun _ => True) (fun q => some q = (Value.slice A6 tl.length c6).ownBlock) rfl rfl (k52_mkM wr B _ ⟨kind, z47, tl⟩ HT.out) (fun q hq => ⟨trivial, fun e => HN.out.1 q e.symm hq⟩) (fun _ _ => trivial) (Kd.R_mono HN.out fun _ _ => trivial) (Below.refl _ _) HS.out ?hlen ?_)
      case hlen => omega
      clear d5
      intro v1 w1 hr1 hb1 hg1 _
      have hbd := (Kd.R_bound HN.out).1
      have k51 := blk_grown K5.out hg1 (fun e => by have := (hbd g5 e.symm).2.1; have := HL5.out; omega)
      have k41 := blk_grown K4.out hg1 (fun e => by have := (hbd g4 e.symm).2.1; have := HL4.out; omega)
      obtain ⟨L, hL⟩ : ∃ L, ol ++ [⟨kind, z47, tl⟩] = L := ⟨_, rfl⟩
      rw [hL] at hr1 HOKO HMD
      obtain ⟨A1, c1, e1⟩ := Kd.R_slice hr1
      subst e1
      have HRL := Lib.hid (Kd.R_mono (Kd.R_far (p := ⟨g5, 0, none⟩) (Kd.R_bound hr1) (fun q hq => by have := hq.2.1; have := HL5.out; intro e; simp only [] at e; omega) (.slice A1 L.length c1)) (fun _ _ => trivial) : k52.R 52 (w1.setCell ⟨g5, 0, none⟩ (.slice A1 L.length c1)) B (fun _ => True) _ L)
      have K51 := Lib.hid (blk_put k51 0 (.slice A1 L.length c1) rfl)
      have K41 := Lib.hid ((Below.heap_setCell w1 ⟨g5, 0, none⟩ (.slice A1 L.length c1) g4 HG45.out).trans k41)
      have HB1 := Lib.hid ((HW.out.trans (hb1.mono HBW.out)).setCell (p := ⟨g5, 0, none⟩) HG5.out (.slice A1 L.length c1))
      have f5 := blkfree k51 0
      have d5 : w1.cell? ⟨g5, 0, none⟩ = some (.slice A0 ol.length c0) := blk_cell k51 0
      clear hbd k51 k41 hL hr1 hb1 hg1 K5 K4 HN HT HW HL5
      go_wp2_with (refine wpList_load_at rfl 24 (.tmp 5) rfl ⟨g5, 0, none⟩ rfl #[.slice A1 L.length c1] _ (Lies.of_block K51.out) Try.underlying24 rfl info24s ?_)
      generalize w1.setCell ⟨g5, 0, none⟩ (.slice A1 L.length c1) = w3 at HRL K51 K41 HB1 ⊢
      have HCL := Lib.hid (Kd.R_reads' HRL.out).2
      go_at_call 56
      refine (whole_any A1 c1 L HOKO.out w3 HCL.out.2 HCL.out.1).mono ?_
      rintro e w4 ⟨rfl, hb4⟩
      have hrv := wholeV_R (Kd.R_below HRL.out hb4)
      obtain ⟨A', c', ev⟩ := Kd.R_slice hrv
      rw [ev] at hrv ⊢
      have K44 := Lib.hid (blk_below K41.out hb4)
      have HB4 := Lib.hid (HB1.out.trans (hb4.mono HB1.out.size))
      have HRV := Lib.hid hrv
      clear ev hrv hb4 K41 K51 HB1 HCL HRL
      go_wp2_with (refine wpList_rowx rfl 24 (.tmp 4) (.tmp 85) rfl rfl g4 rfl #[.slice A' (wholeP L).length c'] rfl _ K44.out info24s rfl (by simp [Value.oneCell']) w.heap.size HG4.out ?_; intro wa ka hka hba; have KA := Lib.hid ka; have HKA := Lib.hid hka; have HBA := Lib.hid hba; clear ka hba hka)
      exact c_post (fn := Try.f50) rfl rfl KA.out ⟨_, Try.underlying24⟩ info24s rfl ⟨_, rfl, by rw [HMD.out]; exact Kd.R_lower (Kd.R_mono (Kd.R_step (Kd.R_bound HRV.out) (fun q hq _ => HKA.out q (by have := hq.2.1; have := HL4.out; omega))) (fun _ _ => trivial)) HBW.out, HB4.out.trans HBA.out⟩
end Go.Proofs.Ytmhjnfkhfjejeaa
namespace Go.Proofs.Ytmhjnfkhfjejeaa
set_option linter.unusedVariables false
set_option linter.unusedSimpArgs false
open Go.RowKit Go.Proofs.YtmhjnfkhfjejeaaW.PrintWords Go.Proofs.YtmhjnfkhfjejeaaW.PrintLast Go.Proofs.YtmhjnfkhfjejeaaW.PrintMore
open PPredCubes
/-- A literal's row, read. -/
theorem C_lit {α : Type} {d : Kd α} {w : World} {xs : List α} {inner : List Value} (e : TypeId) (hr : Reps (d.K w) d.sz xs inner) (hl : xs.length ≤ 9223372036854775807) :
    d.C (w.alloc (.cells inner.toArray e)) (some ⟨w.heap.size, 0, none⟩) xs.length xs := by
  refine ⟨rfl, hl, fun _ => ⟨_, rfl, fun j p hj => ?_⟩⟩
  have h1 := hr.2 j p hj
  refine ⟨_, d.K_len h1, d.K_below ((Below.refl _ _).alloc (Nat.le_refl _) _) h1, fun i u hi => ?_⟩
  rw [add_plain, blk_cell (heap_new _ _)]
  rw [List.getElem?_take] at hi
  split at hi
  · rw [List.getElem?_drop] at hi; simpa using hi
  · cases hi
/-- The end of a function that hands a fresh predicate on. -/
theorem R_kept {w2 W : World} {b b0 g : Nat} {v : Value} {l : List S52} (h : k52.R 52 w2 b (fun _ => True) v l) (hg : g < b) (hb : b0 ≤ b) (hk : ∀ k, k ≠ g → W.heap[k]? = w2.heap[k]?) : k52.R 52 W b0 (fun _ => True) v l :=
  Kd.R_lower (Kd.R_mono (Kd.R_step (Kd.R_bound h) (fun q hq _ => hk q (by have := hq.2.1; omega))) (fun _ _ => trivial)) hb
theorem one_slice {A : Option Addr} {n c : Nat} : (#[Value.slice A n c] : Array Value).all (·.oneCell') = true := by simp [Value.oneCell']
set_option maxHeartbeats 4000000 in
set_option maxRecDepth 100000 in
theorem and_any (A : Option Addr) (c : Nat) (ps : List S24) (hP : okPs ps) (w : World) (hr : k24.C w A ps.length ps) :
    Calls Try.prog 20 #[.slice A ps.length c] w fun e w' => ∃ v, e = .returned (.agg #[v]) ∧ k52.R 52 w' w.heap.size (fun _ => True) v (madeL 4 ps) ∧ Below w.heap.size w w' := by
  have HR := Lib.hid hr
  have HP := Lib.hid hP
  clear hr hP
  go_enter Try.func20, Try.ntmps20
  go_wp2_with (refine wpList_alloce rfl 2 rfl 24 rfl (.agg #[.slice none 0 0]) info24z ?_; intro g2 w1 hg2 k2 hb2; have K2 : Hid (w1.heap[g2]? = some (.cells #[.slice none 0 0] 24 (0, 0))) := Lib.hid k2; have HB1 := Lib.hid hb2; have HG2 : Hid (w.heap.size ≤ g2) := Lib.hid (by rw [hg2.out]; exact Nat.le_refl _); clear hb2 k2)
  go_at_call 50
  refine (made_any 4 A c ps HP.out w1 (Kd.C_below HR.out HB1.out)).mono ?_
  rintro e w2 ⟨v, rfl, hr, hb⟩
  obtain ⟨A', c', ev⟩ := Kd.R_slice hr
  subst ev
  have HRV := Lib.hid hr
  have K3 := Lib.hid (blk_below K2.out hb)
  have HL := Lib.hid (blk_lt K2.out)
  have HB2 := Lib.hid (HB1.out.trans (hb.mono HB1.out.size))
  clear hr hb hg2 K2
  go_wp2_with (refine wpList_rowx rfl 24 (.tmp 2) (.tmp 4) rfl rfl g2 rfl #[.slice A' (madeL 4 ps).length c'] rfl _ K3.out info24s rfl one_slice w.heap.size HG2.out ?_; intro wa ka hka hba; have KA := Lib.hid ka; have HKA := Lib.hid hka; have HBA := Lib.hid hba; clear ka hba hka)
  exact c_post (fn := Try.f20) rfl rfl KA.out ⟨_, Try.underlying24⟩ info24s rfl ⟨_, rfl, R_kept HRV.out HL.out HB1.out.size HKA.out, HB2.out.trans HBA.out⟩
set_option maxHeartbeats 4000000 in
set_option maxRecDepth 100000 in
theorem or_any (A : Option Addr) (c : Nat) (ps : List S24) (hP : okPs ps) (w : World) (hr : k24.C w A ps.length ps) :
    Calls Try.prog 21 #[.slice A ps.length c] w fun e w' => ∃ v, e = .returned (.agg #[v]) ∧ k52.R 52 w' w.heap.size (fun _ => True) v (madeL 5 ps) ∧ Below w.heap.size w w' := by
  have HR := Lib.hid hr
  have HP := Lib.hid hP
  clear hr hP
  go_enter Try.func21, Try.ntmps21
  go_wp2_with (refine wpList_alloce rfl 2 rfl 24 rfl (.agg #[.slice none 0 0]) info24z ?_; intro g2 w1 hg2 k2 hb2; have K2 : Hid (w1.heap[g2]? = some (.cells #[.slice none 0 0] 24 (0, 0))) := Lib.hid k2; have HB1 := Lib.hid hb2; have HG2 : Hid (w.heap.size ≤ g2) := Lib.hid (by rw [hg2.out]; exact Nat.le_refl _); clear hb2 k2)
  go_at_call 50
  refine (made_any 5 A c ps HP.out w1 (Kd.C_below HR.out HB1.out)).mono ?_
  rintro e w2 ⟨v, rfl, hr, hb⟩
  obtain ⟨A', c', ev⟩ := Kd.R_slice hr
  subst ev
  have HRV := Lib.hid hr
  have K3 := Lib.hid (blk_below K2.out hb)
  have HL := Lib.hid (blk_lt K2.out)
  have HB2 := Lib.hid (HB1.out.trans (hb.mono HB1.out.size))
  clear hr hb hg2 K2
  go_wp2_with (refine wpList_rowx rfl 24 (.tmp 2) (.tmp 4) rfl rfl g2 rfl #[.slice A' (madeL 5 ps).length c'] rfl _ K3.out info24s rfl one_slice w.heap.size HG2.out ?_; intro wa ka hka hba; have KA := Lib.hid ka; have HKA := Lib.hid hka; have HBA := Lib.hid hba; clear ka hba hka)
  exact c_post (fn := Try.f21) rfl rfl KA.out ⟨_, Try.underlying24⟩ info24s rfl ⟨_, rfl, R_kept HRV.out HL.out HB1.out.size HKA.out, HB2.out.trans HBA.out⟩
set_option maxHeartbeats 4000000 in
set_option maxRecDepth 100000 in
theorem not_any (A : Option Addr) (c : Nat) (l : List S52) (hP : okP l) (w : World) (hr : k52.C w A l.length l) (hc : l.length ≤ c) :
    Calls Try.prog 23 #[.agg #[.slice A l.length c]] w fun e w' => ∃ v, e = .returned (.agg #[v]) ∧ k52.R 52 w' w.heap.size (fun _ => True) v (madeL 6 [⟨l⟩]) ∧ Below w.heap.size w w' := by
  have HR := Lib.hid hr
  have HP : Hid (okPs [⟨l⟩]) := Lib.hid (fun p hp => by rw [List.mem_singleton.1 hp]; exact hP)
  have HC := Lib.hid hc
  clear hr hP hc
  go_enter Try.func23, Try.ntmps23
  go_wp2_with (first
    | (refine wpList_box rfl 1 rfl #[.slice A l.length c] 24 ?hr ?_; (case hr => first | (go_simp; done) | (go_simp; rfl)); intro g1 w0 hg1 k1 hb1; have K1 := Lib.hid k1; have HB0 := Lib.hid hb1; clear hb1 k1)
    | (refine wpList_alloce rfl 2 rfl 24 rfl (.agg #[.slice none 0 0]) info24z ?_; intro g2 w1 hg2 k2 hb2; have K2 : Hid (w1.heap[g2]? = some (.cells #[.slice none 0 0] 24 (0, 0))) := Lib.hid k2; have K12 := Lib.hid (blk_below K1.out hb2); have HB1 := Lib.hid (HB0.out.trans (hb2.mono HB0.out.size)); have HG2 : Hid (w.heap.size ≤ g2) := Lib.hid (by rw [hg2.out]; exact HB0.out.size); clear hb2 k2)
    | (refine wpList_load_at rfl 24 (.tmp 1) rfl ⟨g1, 0, none⟩ rfl #[.slice A l.length c] _ (Lies.of_block K12.out) Try.underlying24 rfl info24s ?_))
  have hlit : k24.C (w1.alloc (.cells [Value.slice A l.length c].toArray 24)) (some ⟨w1.heap.size, 0, none⟩) 1 [⟨l⟩] := C_lit (d := k24) (xs := [⟨l⟩]) 24 (by
    have := (Reps.none (k24.K w1) k24.sz).snoc (p := ⟨l⟩) (c := [Value.slice A l.length c]) ⟨A, c, rfl, HC.out, Kd.C_below HR.out HB1.out⟩ rfl
    simpa using this) (by simp)
  have hb2 : Below w1.heap.size w1 (w1.alloc (.cells [Value.slice A l.length c].toArray 24)) := (Below.refl _ _).alloc (Nat.le_refl _) _
  have hl1 : w1.heap.size ≤ (w1.alloc (.cells [Value.slice A l.length c].toArray 24)).heap.size := hb2.size
  go_at_call 50
  refine (made_any 6 (some ⟨w1.heap.size, 0, none⟩) 1 [⟨l⟩] HP.out _ hlit).mono ?_
  rintro e w2 ⟨v, rfl, hr, hb⟩
  obtain ⟨A', c', ev⟩ := Kd.R_slice hr
  subst ev
  have HRV := Lib.hid hr
  have K3 := Lib.hid (blk_below (blk_below K2.out hb2) hb)
  have HL := Lib.hid (Nat.lt_of_lt_of_le (blk_lt K2.out) hl1)
  have HBB := Lib.hid (Nat.le_trans HB1.out.size hl1)
  have HB2 := Lib.hid (HB1.out.trans ((hb2.trans (hb.mono hl1)).mono HB1.out.size))
  clear hr hb hg2 K2 hb2 hl1 hlit
  go_wp2_with (refine wpList_rowx rfl 24 (.tmp 2) (.tmp 5) rfl rfl g2 rfl #[.slice A' (madeL 6 [⟨l⟩]).length c'] rfl _ K3.out info24s rfl one_slice w.heap.size HG2.out ?_; intro wa ka hka hba; have KA := Lib.hid ka; have HKA := Lib.hid hka; have HBA := Lib.hid hba; clear ka hba hka)
  exact c_post (fn := Try.f23) rfl rfl KA.out ⟨_, Try.underlying24⟩ info24s rfl ⟨_, rfl, R_kept HRV.out HL.out HBB.out HKA.out, HB2.out.trans HBA.out⟩
/-- A predicate of one test. -/
def isL (t : S47) : List S52 := wholeP [⟨3, t, []⟩]
set_option maxHeartbeats 4000000 in
set_option maxRecDepth 100000 in
theorem is_any (t : S47) (ht : okT t) (w : World) :
    Calls Try.prog 29 #[.agg #[.int .i64 t.f0, .int .u64 t.f1, .int .u64 t.f2]] w fun e w' => ∃ v, e = .returned (.agg #[v]) ∧ k52.R 52 w' w.heap.size (fun _ => True) v (isL t) ∧ Below w.heap.size w w' := by
  have HP : Hid (okP [⟨3, t, []⟩]) := Lib.hid (okP_one ht)
  clear ht
  go_enter Try.func29, Try.ntmps29
  go_wp2_with (first
    | (refine wpList_box rfl 1 rfl #[.int .i64 t.f0, .int .u64 t.f1, .int .u64 t.f2] 47 ?hr ?_; (case hr => first | (go_simp; done) | (go_simp; rfl)); intro g1 w0 hg1 k1 hb1; have K1 := Lib.hid k1; have HB0 := Lib.hid hb1; clear hb1 k1)
    | (refine wpList_alloce rfl 2 rfl 24 rfl (.agg #[.slice none 0 0]) info24z ?_; intro g2 w1 hg2 k2 hb2; have K2 : Hid (w1.heap[g2]? = some (.cells #[.slice none 0 0] 24 (0, 0))) := Lib.hid k2; have K12 := Lib.hid (blk_below K1.out hb2); have HB1 := Lib.hid (HB0.out.trans (hb2.mono HB0.out.size)); have HG2 : Hid (w.heap.size ≤ g2) := Lib.hid (by rw [hg2.out]; exact HB0.out.size); clear hb2 k2)
    | (refine wpList_load_at rfl 47 (.tmp 1) rfl ⟨g1, 0, none⟩ rfl #[.int .i64 t.f0, .int .u64 t.f1, .int .u64 t.f2] _ (Lies.of_block K12.out) Try.underlying47 rfl info47s ?_))
  have hb2 : Below w1.heap.size w1 (w1.alloc (.cells [Value.int .i64 3, .int .i64 t.f0, .int .u64 t.f1, .int .u64 t.f2, .slice none 0 0].toArray 52)) := (Below.refl _ _).alloc (Nat.le_refl _) _
  have hl1 : w1.heap.size ≤ (w1.alloc (.cells [Value.int .i64 3, .int .i64 t.f0, .int .u64 t.f1, .int .u64 t.f2, .slice none 0 0].toArray 52)).heap.size := hb2.size
  have hlit : k52.R 52 (w1.alloc (.cells [Value.int .i64 3, .int .i64 t.f0, .int .u64 t.f1, .int .u64 t.f2, .slice none 0 0].toArray 52)) w1.heap.size (fun _ => True) (.slice (some ⟨w1.heap.size, 0, none⟩) 1 1) [⟨3, t, []⟩] := by
    refine ⟨fun _ _ => trivial, [Value.int .i64 3, .int .i64 t.f0, .int .u64 t.f1, .int .u64 t.f2, .slice none 0 0], ?_, ?_⟩
    · exact World.ownsRow_lit (base := w1.heap.size) (e := 52) (size := 5) w1 _ 1 (Nat.le_refl _) (by simp [maxLen]) rfl
    · have := (Reps.none (k52.M (w1.alloc (.cells [Value.int .i64 3, .int .i64 t.f0, .int .u64 t.f1, .int .u64 t.f2, .slice none 0 0].toArray 52)) w1.heap.size (fun k => True ∧ some k ≠ (Value.slice (some ⟨w1.heap.size, 0, none⟩) 1 1).ownBlock)) k52.sz).snoc (p := ⟨3, t, []⟩) (c := [Value.int .i64 3, .int .i64 t.f0, .int .u64 t.f1, .int .u64 t.f2, .slice none 0 0]) (k52_mkM _ _ _ ⟨3, t, []⟩ (Kd.R_nil _ _ _ _ _)) rfl
      simpa using this
  go_at_call 56
  refine (whole_any (some ⟨w1.heap.size, 0, none⟩) 1 [⟨3, t, []⟩] HP.out _ (Kd.R_reads' hlit).2.2 (Nat.le_refl _)).mono ?_
  rintro e w2 ⟨rfl, hb⟩
  have hr := wholeV_R (Kd.R_below hlit hb)
  obtain ⟨A', c', ev⟩ := Kd.R_slice hr
  show _
  rw [show [(⟨3, t, []⟩ : S52)].length = 1 from rfl]
  rw [ev] at hr ⊢
  have HRV : Hid (k52.R 52 w2 w1.heap.size (fun _ => True) (.slice A' (isL t).length c') (isL t)) := Lib.hid hr
  have K3 := Lib.hid (blk_below (blk_below K2.out hb2) hb)
  have HL := Lib.hid (blk_lt K2.out)
  have HB2 := Lib.hid (HB1.out.trans ((hb2.trans (hb.mono hl1)).mono HB1.out.size))
  rw [show wholeP [⟨3, t, []⟩] = isL t from rfl]
  clear hr hb ev hlit hl1 hb2 K2 K12 K1 hg1 hg2
  go_wp2_with (refine wpList_rowx rfl 24 (.tmp 2) (.tmp 7) rfl rfl g2 rfl #[.slice A' (isL t).length c'] rfl _ K3.out info24s rfl one_slice w.heap.size HG2.out ?_; intro wa ka hka hba; have KA := Lib.hid ka; have HKA := Lib.hid hka; have HBA := Lib.hid hba; clear ka hba hka)
  exact c_post (fn := Try.f29) rfl rfl KA.out ⟨_, Try.underlying24⟩ info24s rfl ⟨_, rfl, R_kept HRV.out HL.out HB1.out.size HKA.out, HB2.out.trans HBA.out⟩
end Go.Proofs.Ytmhjnfkhfjejeaa
