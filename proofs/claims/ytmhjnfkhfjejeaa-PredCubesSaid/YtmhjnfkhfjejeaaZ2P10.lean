import Derived.Test.YtmhjnfkhfjejeaaZ2P9
import Derived.Test.YtmhjnfkhfjejeaaZ2J3
namespace Go.Proofs.Ytmhjnfkhfjejeaa
set_option linter.unusedVariables false
set_option linter.unusedSimpArgs false
open Go.RowKit Go.Proofs.YtmhjnfkhfjejeaaW.PrintWords
open PPredCubes
/-! ### The document's both, without and node, said in boxes -/
theorem small_mil {n : Nat} (h : n ≤ 3000000) : n < 5864062014805 := Nat.lt_of_le_of_lt h (by decide)
theorem wrap_succ {i : Nat} (h : i < 1000000) : wrap64 ((i : Int) + 1) = ((i + 1 : Nat) : Int) := by unfold wrap64; omega
theorem rd_cube {l : List Bx} {i : Nat} (h : i < l.length) : rd_L7 (l.map cubeL) (i : Int) = cubeL (atB l i) := by rw [rd_atC, atC_map l h]
theorem both_l1 {l m : List Bx} (hl : NbL l) (hm : NbL m) (l1 : l.length ≤ 1000) (m1 : m.length ≤ 1000) {i : Nat} (hi : i < l.length) {R : List (List S47)}
    (h : Ev (fun K => droverref16_both.l0 K (l.map cubeL) (m.map cubeL) ((bothTo l m (i + 1)).map cubeL) ((i + 1 : Nat) : Int)) R) : ∀ d j, j + d = m.length →
    Ev (fun K => droverref16_both.l1 K (l.map cubeL) (m.map cubeL) ((bothTo l m i ++ meetRow (atB l i) m j).map cubeL) (i : Int) (j : Int)) R := by
  intro d
  induction d with
  | zero =>
    intro j hj
    obtain rfl : j = m.length := by omega
    refine h.succ fun K => ?_
    simp only [droverref16_both.l1, List.length_map]
    rw [if_neg (by omega), wrap_succ (by omega)]
    rfl
  | succ d ih =>
    intro j hj
    have hjl : j < m.length := by omega
    have hb1 := bothTo_len l m i
    have hb2 := meetRow_len (atB l i) m j
    have hb3 : i * m.length ≤ 1000 * 1000 := Nat.mul_le_mul (by omega) m1
    have hev : Ev (fun K => (droverref16_Meet.f K (cubeL (atB l i)) (cubeL (atB m j))).bind fun bt214 => (if bt214.2 = true then (if ((bothTo l m i ++ meetRow (atB l i) m j).map cubeL).length < 5864062014805 then (droverref16_both.l1 K (l.map cubeL) (m.map cubeL) ((bothTo l m i ++ meetRow (atB l i) m j).map cubeL ++ [bt214.1]) (i : Int) ((j + 1 : Nat) : Int)) else none) else (droverref16_both.l1 K (l.map cubeL) (m.map cubeL) ((bothTo l m i ++ meetRow (atB l i) m j).map cubeL) (i : Int) ((j + 1 : Nat) : Int)))) R := by
      refine Ev.bind (meet_box (NbL_at hl i) (NbL_at hm j)) ?_
      have h1 := ih (j + 1) (by omega)
      simp only [meetRow] at h1
      cases hmt : meetB (atB l i) (atB m j) with
      | true =>
        rw [hmt, if_pos rfl] at h1
        refine Ev.congr ?_ fun K => if_pos rfl
        refine Ev.congr ?_ fun K => if_pos (by rw [List.length_map, List.length_append]; exact small_mil (by omega))
        refine h1.congr fun K => ?_
        rw [List.map_append, List.map_append, List.map_append, List.append_assoc]; rfl
      | false =>
        rw [hmt, if_neg (by decide)] at h1
        refine Ev.congr ?_ fun K => if_neg fun e => Bool.noConfusion e
        exact h1
    refine hev.succ fun K => ?_
    simp only [droverref16_both.l1]
    rw [if_pos (by rw [List.length_map]; omega), if_pos (by omega), if_pos (by rw [List.length_map]; omega), if_pos (by omega), rd_cube hi, rd_cube hjl, wrap_succ (by omega)]
theorem both_l0 {l m : List Bx} (hl : NbL l) (hm : NbL m) (l1 : l.length ≤ 1000) (m1 : m.length ≤ 1000) : ∀ d i, i + d = l.length →
    Ev (fun K => droverref16_both.l0 K (l.map cubeL) (m.map cubeL) ((bothTo l m i).map cubeL) (i : Int)) ((bothL l m).map cubeL) := by
  intro d
  induction d with
  | zero =>
    intro i hi
    obtain rfl : i = l.length := by omega
    refine (Ev.const _).succ fun K => ?_
    simp only [droverref16_both.l0, List.length_map]
    rw [if_neg (by omega)]; rfl
  | succ d ih =>
    intro i hi
    refine (both_l1 hl hm l1 m1 (show i < l.length by omega) (ih (i + 1) (by omega)) m.length 0 (by omega)).succ fun K => ?_
    simp only [droverref16_both.l0, List.length_map]
    rw [if_pos (by omega)]
    simp only [meetRow, List.append_nil]; rfl
theorem both_f {l m : List Bx} (hl : NbL l) (hm : NbL m) (l1 : l.length ≤ 1000) (m1 : m.length ≤ 1000) : Ev (fun K => droverref16_both.f K (l.map cubeL) (m.map cubeL)) ((bothL l m).map cubeL) :=
  both_l0 hl hm l1 m1 l.length 0 (by omega)
theorem without_l1 {l os : List Bx} {o : Bx} (hl : NbL l) (ho : Nb o) (l1 : l.length ≤ 1000) {i : Nat} (hi : i < os.length) (os1 : os.length ≤ 1000) (hio : atB os i = o) {R : List (List S47) × Bool}
    (h : leftOk l o = true → Ev (fun K => droverref16_without.l0 K ((leftL l o).map cubeL) (os.map cubeL) ((i + 1 : Nat) : Int)) R) (hn : leftOk l o = false → R = ([], false)) : ∀ d j, j + d = l.length →
    Ev (fun K => droverref16_without.l1 K (l.map cubeL) (os.map cubeL) (i : Int) ((leftTo l o j).map cubeL) (j : Int)) R := by
  intro d
  induction d with
  | zero =>
    intro j hj
    obtain rfl : j = l.length := by omega
    cases hk : leftOk l o with
    | true =>
      have := of_decide_eq_true hk
      refine (h hk).succ fun K => ?_
      simp only [droverref16_without.l1, List.length_map]
      rw [if_neg (by omega), if_neg (by show ¬ ((leftL l o).length : Int) > 128; omega), wrap_succ (by omega)]; rfl
    | false =>
      have := of_decide_eq_false hk
      rw [hn hk]
      refine (Ev.const _).succ fun K => ?_
      simp only [droverref16_without.l1, List.length_map]
      rw [if_neg (by omega), if_pos (by show ((leftL l o).length : Int) > 128; omega)]
  | succ d ih =>
    intro j hj
    have hjl : j < l.length := by omega
    have hb1 := leftTo_len l o j
    have hb2 := cutL_len (atB l j) o
    have hev : Ev (fun K => (droverref16_Cut.f K (cubeL (atB l j)) (cubeL o)).bind fun t253 => (if ((leftTo l o j).map cubeL).length + t253.length < 5864062014805 then (droverref16_without.l1 K (l.map cubeL) (os.map cubeL) (i : Int) ((leftTo l o j).map cubeL ++ t253) ((j + 1 : Nat) : Int)) else none)) R := by
      refine Ev.bind (cut_box (NbL_at hl j) ho) ?_
      refine Ev.congr ?_ fun K => if_pos (by rw [List.length_map, List.length_map]; exact small_mil (by omega))
      refine (ih (j + 1) (by omega)).congr fun K => ?_
      simp only [leftTo, List.map_append]
    refine hev.succ fun K => ?_
    simp only [droverref16_without.l1]
    rw [if_pos (by rw [List.length_map]; omega), if_pos (by omega), if_pos (by omega), if_pos (by rw [List.length_map]; omega), rd_cube hjl, rd_cube hi, hio, wrap_succ (by omega)]
theorem without_l0 {l os : List Bx} (hl : NbL l) (ho : NbL os) (l1 : l.length ≤ 1000) (os1 : os.length ≤ 1000) : ∀ d i, i + d = os.length → wOk l os i = true →
    Ev (fun K => droverref16_without.l0 K ((wTo l os i).map cubeL) (os.map cubeL) (i : Int)) ((withL l os).map cubeL, withOk l os) := by
  intro d
  induction d with
  | zero =>
    intro i hi hk
    obtain rfl : i = os.length := by omega
    have hw : withOk l os = true := hk
    rw [withL_yes hw, hw]
    refine (Ev.const _).succ fun K => ?_
    simp only [droverref16_without.l0, List.length_map]
    rw [if_neg (by omega)]
  | succ d ih =>
    intro i hi hk
    have hln : (wTo l os i).length ≤ 1000 := by
      cases i with
      | zero => exact l1
      | succ i =>
        simp only [wOk, Bool.and_eq_true] at hk
        have := of_decide_eq_true hk.2
        simp only [wTo]; omega
    refine (without_l1 (wTo_Nb hl ho i) (NbL_at ho i) hln (show i < os.length by omega) os1 rfl (fun h => ih (i + 1) (by omega) (by simp only [wOk]; rw [hk, h]; rfl)) (fun h => ?_) (wTo l os i).length 0 (by omega)).succ fun K => ?_
    · have hw : withOk l os = false := withOk_false (k := i + 1) (by simp only [wOk]; rw [h, Bool.and_false]) (by omega)
      rw [withL_no hw, hw]; rfl
    · simp only [droverref16_without.l0, List.length_map]
      rw [if_pos (by omega)]; rfl
theorem without_f {l os : List Bx} (hl : NbL l) (ho : NbL os) (l1 : l.length ≤ 1000) (os1 : os.length ≤ 1000) : Ev (fun K => droverref16_without.f K (l.map cubeL) (os.map cubeL)) ((withL l os).map cubeL, withOk l os) :=
  without_l0 hl ho l1 os1 os.length 0 (by omega) rfl
end Go.Proofs.Ytmhjnfkhfjejeaa
