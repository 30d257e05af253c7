import Derived.Test.YtmhjnfkhfjejeaaZ2P10
namespace Go.Proofs.Ytmhjnfkhfjejeaa
set_option linter.unusedVariables false
set_option linter.unusedSimpArgs false
open Go.RowKit Go.Proofs.YtmhjnfkhfjejeaaW.PrintWords
open PPredCubes
def NbH (hs : List (List Bx)) : Prop := ∀ i, NbL (rowAt hs i) ∧ (rowAt hs i).length ≤ 1000
def cubesH (hs : List (List Bx)) : List (List (List S47)) := hs.map fun l => l.map cubeL
theorem cubesH_len (hs : List (List Bx)) : (cubesH hs).length = hs.length := by unfold cubesH; rw [List.length_map]
theorem cubesH_at {hs : List (List Bx)} {i : Nat} (h : i < hs.length) : rd_L8 (cubesH hs) (i : Int) = (rowAt hs i).map cubeL := by
  unfold rd_L8 cubesH rowAt
  rw [Int.toNat_natCast, List.getD_eq_getElem?_getD, List.getElem?_map, List.getD_eq_getElem?_getD, List.getElem?_eq_getElem h]; rfl
theorem allTo_NbH {subs : List Int} {hs : List (List Bx)} (h : NbH hs) (k : Nat) : NbL (allTo subs hs k) := by
  induction k with
  | zero => exact NbL_one Nb_z
  | succ k ih => exact bothTo_Nb ih (h _).1 _
theorem anyTo_NbH {subs : List Int} {hs : List (List Bx)} (h : NbH hs) (k : Nat) : NbL (anyTo subs hs k) := by
  induction k with
  | zero => exact NbL_nil
  | succ k ih => exact NbL_app ih (withL_Nb (h _).1 ih)
theorem alls_len {subs : List Int} {hs : List (List Bx)} {k : Nat} (h : allOk subs hs k = true) : (allTo subs hs k).length ≤ 128 := by
  cases k with
  | zero => show 1 ≤ 128; decide
  | succ k =>
    simp only [allOk, Bool.and_eq_true] at h
    exact of_decide_eq_true h.2
theorem anys_len {subs : List Int} {hs : List (List Bx)} {k : Nat} (h : anyOk subs hs k = true) : (anyTo subs hs k).length ≤ 128 := by
  cases k with
  | zero => show 0 ≤ 128; decide
  | succ k =>
    simp only [anyOk, Bool.and_eq_true] at h
    exact of_decide_eq_true h.2.2
theorem rd_sub {subs : List Int} {n : Nat} (h : inH subs n) {k : Nat} (hk : k < subs.length) : rd subs (k : Int) = (subAt subs k : Int) := by
  unfold rd; rw [Int.toNat_natCast]; exact (inH_at h hk).1
section
variable {hs : List (List Bx)} {subs : List Int} (hH : NbH hs) (hI : inH subs hs.length) (hsl : subs.length ≤ 1000) (a0 a1 a2 a3 : Int)
include hH hI hsl
theorem node_l0 : ∀ d k, k + d = subs.length → allOk subs hs k = true →
    Ev (fun K => droverref16_node.l0 K (cubesH hs) ((allTo subs hs k).map cubeL) (k : Int) a0 a1 a2 a3 subs) ((if allOk subs hs subs.length then allTo subs hs subs.length else []).map cubeL, allOk subs hs subs.length) := by
  intro d
  induction d with
  | zero =>
    intro k hk ho
    obtain rfl : k = subs.length := by omega
    rw [ho, if_pos rfl]
    refine (Ev.const _).succ fun K => ?_
    simp only [droverref16_node.l0]
    rw [if_neg (by omega)]
  | succ d ih =>
    intro k hk ho
    have hkl : k < subs.length := by omega
    obtain ⟨e0, hlt⟩ := inH_at hI hkl
    have hln := alls_len ho
    have hev : Ev (fun K => (droverref16_both.f K ((allTo subs hs k).map cubeL) ((rowAt hs (subAt subs k)).map cubeL)).bind fun t280 => (if (t280.length : Int) > 128 then (some (([] : List (List (S47))), false)) else (droverref16_node.l0 K (cubesH hs) t280 ((k + 1 : Nat) : Int) a0 a1 a2 a3 subs))) ((if allOk subs hs subs.length then allTo subs hs subs.length else []).map cubeL, allOk subs hs subs.length) := by
      refine Ev.bind (both_f (allTo_NbH hH k) (hH _).1 (by omega) (hH _).2) ?_
      by_cases h128 : (allTo subs hs (k + 1)).length ≤ 128
      · refine Ev.congr ?_ fun K => if_neg (by rw [List.length_map]; show ¬ ((allTo subs hs (k + 1)).length : Int) > 128; omega)
        exact ih (k + 1) (by omega) (by simp only [allOk]; rw [ho, decide_eq_true h128]; rfl)
      · have hf : allOk subs hs (k + 1) = false := by simp only [allOk]; rw [decide_eq_false h128, Bool.and_false]
        have := allOk_mono (k + 1) hf (subs.length - (k + 1))
        rw [show k + 1 + (subs.length - (k + 1)) = subs.length by omega] at this
        rw [this]
        refine Ev.congr (Ev.const _) fun K => if_pos (by rw [List.length_map]; show ((allTo subs hs (k + 1)).length : Int) > 128; omega)
    refine hev.succ fun K => ?_
    simp only [droverref16_node.l0]
    rw [if_pos (by omega), if_pos (by omega), rd_sub hI hkl, if_pos (by omega), if_pos (by rw [cubesH_len]; omega), cubesH_at hlt, wrap_succ (by omega)]
theorem node_l1 : ∀ d k, k + d = subs.length → anyOk subs hs k = true →
    Ev (fun K => droverref16_node.l1 K (cubesH hs) ((anyTo subs hs k).map cubeL) (k : Int) a0 a1 a2 a3 subs) ((if anyOk subs hs subs.length then anyTo subs hs subs.length else []).map cubeL, anyOk subs hs subs.length) := by
  intro d
  induction d with
  | zero =>
    intro k hk ho
    obtain rfl : k = subs.length := by omega
    rw [ho, if_pos rfl]
    refine (Ev.const _).succ fun K => ?_
    simp only [droverref16_node.l1]
    rw [if_neg (by omega)]
  | succ d ih =>
    intro k hk ho
    have hkl : k < subs.length := by omega
    obtain ⟨e0, hlt⟩ := inH_at hI hkl
    have hln := anys_len ho
    have hno : anyOk subs hs (k + 1) = false → anyOk subs hs subs.length = false := fun hf => by
      have := anyOk_mono (k + 1) hf (subs.length - (k + 1))
      rwa [show k + 1 + (subs.length - (k + 1)) = subs.length by omega] at this
    have hev : Ev (fun K => (droverref16_without.f K ((rowAt hs (subAt subs k)).map cubeL) ((anyTo subs hs k).map cubeL)).bind fun bt285 => (if bt285.2 = true then (if (wrap64 ((((anyTo subs hs k).map cubeL).length : Int) + (bt285.1.length : Int))) > 128 then (some (([] : List (List (S47))), false)) else (if ([] : List (List (S47))).length + ((anyTo subs hs k).map cubeL).length < 5864062014805 then ((some (([] : List (List (S47))) ++ ((anyTo subs hs k).map cubeL) : List (List (S47)))).bind fun y289 => (if y289.length + bt285.1.length < 5864062014805 then (droverref16_node.l1 K (cubesH hs) (y289 ++ bt285.1) ((k + 1 : Nat) : Int) a0 a1 a2 a3 subs) else (none))) else (none))) else (some (([] : List (List (S47))), false)))) ((if anyOk subs hs subs.length then anyTo subs hs subs.length else []).map cubeL, anyOk subs hs subs.length) := by
      refine Ev.bind (without_f (hH _).1 (anyTo_NbH hH k) (hH _).2 (by omega)) ?_
      cases hw : withOk (rowAt hs (subAt subs k)) (anyTo subs hs k) with
      | false =>
        rw [hno (by simp only [anyOk]; rw [hw]; simp)]
        exact Ev.congr (Ev.const _) fun K => if_neg fun e => Bool.noConfusion e
      | true =>
        refine Ev.congr ?_ fun K => if_pos rfl
        have hwl : (withL (rowAt hs (subAt subs k)) (anyTo subs hs k)).length ≤ 1000 := by
          rw [withL_yes hw]
          cases ho2 : (anyTo subs hs k).length with
          | zero => exact (hH _).2
          | succ q =>
            have hw2 : wOk (rowAt hs (subAt subs k)) (anyTo subs hs k) (q + 1) = true := by rw [← ho2]; exact hw
            simp only [wOk, Bool.and_eq_true] at hw2
            have := of_decide_eq_true hw2.2
            simp only [wTo]; omega
        have ea : (anyTo subs hs (k + 1)).length = (anyTo subs hs k).length + (withL (rowAt hs (subAt subs k)) (anyTo subs hs k)).length := by simp only [anyTo, List.length_append]
        have ew : wrap64 ((((anyTo subs hs k).map cubeL).length : Int) + (((withL (rowAt hs (subAt subs k)) (anyTo subs hs k)).map cubeL).length : Int)) = ((anyTo subs hs (k + 1)).length : Int) := by
          rw [List.length_map, List.length_map, ea]; unfold wrap64; omega
        by_cases h128 : (anyTo subs hs (k + 1)).length ≤ 128
        · refine Ev.congr ?_ fun K => if_neg (by rw [ew]; omega)
          refine Ev.congr ?_ fun K => if_pos (by rw [List.length_map]; exact small_mil (by simp; omega))
          refine Ev.congr ?_ fun K => Option.bind_some _ _
          refine Ev.congr ?_ fun K => if_pos (by rw [List.nil_append, List.length_map, List.length_map]; exact small_mil (by omega))
          refine (ih (k + 1) (by omega) (by simp only [anyOk]; rw [ho, hw, decide_eq_true h128]; rfl)).congr fun K => ?_
          simp only [anyTo, List.map_append, List.nil_append]
        · rw [hno (by simp only [anyOk]; rw [decide_eq_false h128]; simp)]
          exact Ev.congr (Ev.const _) fun K => if_pos (by rw [ew]; omega)
    refine hev.succ fun K => ?_
    simp only [droverref16_node.l1]
    rw [if_pos (by omega), if_pos (by omega), rd_sub hI hkl, if_pos (by omega), if_pos (by rw [cubesH_len]; omega), cubesH_at hlt, wrap_succ (by omega)]
end
theorem is_cube {t : S47} (ht : okT t) (h : tstB t = true) : cubeL (isBox t) = if t.f2 = 0 then [] else [t] := by
  obtain ⟨f, v, m, rfl, hv, hm⟩ := okT_nat ht
  obtain ⟨h1, h2, h3⟩ := (testB_iff _ _ _).1 h
  obtain ⟨fn, rfl⟩ := Int.eq_ofNat_of_zero_le (show 0 ≤ f by have : (1 : Int) ≤ f := h1; omega)
  have h1' : 1 ≤ fn := by have : (1 : Int) ≤ fn := h1; omega
  have h2' : fn < 10 := by have : (fn : Int) < 10 := h2; omega
  have h3' : v &&& (18446744073709551615 - m) = 0 := by simpa using h3
  have eb : isBox ⟨(fn : Int), (v : Int), (m : Int)⟩ = boxC [⟨(fn : Int), (v : Int), (m : Int)⟩] := by rw [onec_box]; unfold isBox; simp
  by_cases hm0 : m = 0
  · subst hm0
    refine Eq.trans ?_ (if_pos rfl).symm
    have := cubeTo_high (isBox ⟨(fn : Int), (v : Int), ((0 : Nat) : Int)⟩) 0 10 (fun i _ _ => by
      show upd z67.m fn 0 i = 0
      unfold upd; split <;> rfl)
    exact this
  · rw [if_neg (show ¬ ((m : Int) = 0) by omega), eb]
    exact cubeL_boxC (one_ok hv hm) (one_whole h1' h2' hm0 h3')
theorem node_f {n : S52} {i : Nat} {hs : List (List Bx)} (hn : NodeR n i) (ht : okT n.f1) (hH : NbH hs) (hi : i = hs.length) :
    Ev (fun K => droverref16_node.f K n.f0 n.f1.f0 n.f1.f1 n.f1.f2 n.f2 (cubesH hs)) ((nodeL n hs).map cubeL, nodeOk n hs) := by
  obtain ⟨kd, t, sb⟩ := n
  have hI : inH sb hs.length := hi ▸ hn.subs
  have hL := hn.lens
  have hsl : sb.length ≤ 1000 := by
    have h2 : sb.length ≤ highN kd := hL.2
    have : highN kd ≤ 12 := by unfold highN; split; decide; split <;> decide
    omega
  have hk := hn.kind
  have hk1 : 1 ≤ kd ∧ kd ≤ 6 := hk
  unfold droverref16_node.f
  show Ev (fun K => if kd = 2 then _ else if kd = 3 then _ else _) _
  have none_ : sb.length = 0 → ∀ kd', kd' ≠ 6 → kd' ≠ 5 → Ev (fun K => droverref16_node.j0 K (cubesH hs) false kd' t.f0 t.f1 t.f2 sb) ([[]], true) := fun h0 kd' h6 h5 => by
    have hl := node_l0 hH hI hsl kd' t.f0 t.f1 t.f2 0 0 (by omega) rfl
    rw [h0] at hl
    refine hl.succ fun K => ?_
    simp only [droverref16_node.j0]
    rw [if_neg (by decide), if_neg h6, if_neg h5]; rfl
  rcases (show kd = 1 ∨ kd = 2 ∨ kd = 3 ∨ kd = 4 ∨ kd = 5 ∨ kd = 6 by omega) with rfl | rfl | rfl | rfl | rfl | rfl
  · refine Ev.congr ?_ fun K => (if_neg (by decide)).trans (if_neg (by decide))
    have h0 : sb.length = 0 := by have : sb.length ≤ highN 1 := hL.2; simpa [highN] using this
    exact none_ h0 1 (by decide) (by decide)
  · exact Ev.congr (Ev.const _) fun K => if_pos rfl
  · refine Ev.congr ?_ fun K => (if_neg (by decide)).trans (if_pos rfl)
    have h0 : sb.length = 0 := by have : sb.length ≤ highN 3 := hL.2; simpa [highN] using this
    have e : (nodeL ⟨3, t, sb⟩ hs).map cubeL = [if t.f2 = 0 then [] else [t]] := by
      show [isBox t].map cubeL = _
      rw [List.map_cons, List.map_nil, is_cube ht (hn.test rfl)]
    rw [e]
    show Ev _ (_, true)
    by_cases hm : t.f2 = 0
    · rw [if_pos hm, hm]
      have := none_ h0 3 (by decide) (by decide)
      rw [hm] at this
      exact this
    · rw [if_neg hm]
      have hb : (t.f2 != 0) = true := by simpa using hm
      rw [hb]
      refine (Ev.const _).succ fun K => ?_
      simp only [droverref16_node.j0]
      rw [if_pos trivial]
  · refine Ev.congr ?_ fun K => (if_neg (by decide)).trans (if_neg (by decide))
    have hl := node_l0 hH hI hsl 4 t.f0 t.f1 t.f2 sb.length 0 (by omega) rfl
    refine hl.succ fun K => ?_
    simp only [droverref16_node.j0]
    rw [if_neg (by decide), if_neg (by decide), if_neg (by decide)]; rfl
  · refine Ev.congr ?_ fun K => (if_neg (by decide)).trans (if_neg (by decide))
    have hl := node_l1 hH hI hsl 5 t.f0 t.f1 t.f2 sb.length 0 (by omega) rfl
    refine hl.succ fun K => ?_
    simp only [droverref16_node.j0]
    rw [if_neg (by decide), if_neg (by decide), if_pos trivial]; rfl
  · refine Ev.congr ?_ fun K => (if_neg (by decide)).trans (if_neg (by decide))
    have h1 : 0 < sb.length := by have : lowN 6 ≤ sb.length := hL.1; simp [lowN] at this; omega
    obtain ⟨e0, hlt⟩ := inH_at hI h1
    have hl : Ev (fun K => (droverref16_without.f K ([z67].map cubeL) ((rowAt hs (subAt sb 0)).map cubeL)).bind fun bt271 => (some (bt271.1, bt271.2))) ((nodeL ⟨6, t, sb⟩ hs).map cubeL, nodeOk ⟨6, t, sb⟩ hs) :=
      Ev.bind (without_f (NbL_one Nb_z) (hH _).1 (by simp) (hH _).2) (Ev.const _)
    refine hl.succ fun K => ?_
    simp only [droverref16_node.j0]
    have e1 : rd sb 0 = (subAt sb 0 : Int) := rd_sub hI h1
    rw [if_neg (by decide), if_pos trivial, if_pos (by omega), e1, if_pos (by omega), if_pos (by rw [cubesH_len]; omega), cubesH_at hlt]; rfl
theorem haveH {ns : List S52} (hP : okP ns) (hR : rightB ns = true) {k : Nat} (hk : k ≤ ns.length) (ho : haveOk ns k = true) : NbH (haveTo ns k) := fun i =>
  ⟨(have_parts hP hR [] k hk ho i).1, Nat.le_trans (have_len k ho i) (by decide)⟩
end Go.Proofs.Ytmhjnfkhfjejeaa
