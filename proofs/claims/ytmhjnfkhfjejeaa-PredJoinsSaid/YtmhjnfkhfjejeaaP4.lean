import Derived.Test.YtmhjnfkhfjejeaaP3
namespace Go.Proofs.Ytmhjnfkhfjejeaa
set_option linter.unusedVariables false
set_option linter.unusedSimpArgs false
open PPredCubes
/-! ### What is picked of the cubes -/
theorem cntB_split (l : List Bx) (x : List Nat) (k : Nat) : cntB l x = cntB (l.take k) x + cntB (l.drop k) x := by rw [← cntB_app, List.take_append_drop]
theorem cntB_one_le {l : List Bx} {k : Nat} (h : k < l.length) {x : List Nat} (hx : inBb (atB l k) x = true) : 1 ≤ cntB l x := by
  rw [cntB_split l x (k + 1), cntB_take h]
  unfold cnt1; rw [hx]; simp; omega
theorem cntB_two_le {l : List Bx} {j i : Nat} (hj : j < i) (hi : i < l.length) {x : List Nat} (h1 : inBb (atB l j) x = true) (h2 : inBb (atB l i) x = true) : 2 ≤ cntB l x := by
  rw [cntB_split l x (i + 1), cntB_take hi, cntB_split (l.take i) x (j + 1), List.take_take, Nat.min_eq_left (by omega), cntB_take (by omega)]
  unfold cnt1; rw [h1, h2]; simp; omega
theorem parts_le {ns : List S52} (hP : okP ns) (hR : rightB ns = true) (hO : boxesOk ns = true) (x : List Nat) : cntB (boxesL ns) x ≤ 1 := by
  rw [(boxes_parts hP hR hO x).2]; split <;> omega
theorem eval_of_in {ns : List S52} (hP : okP ns) (hR : rightB ns = true) (hO : boxesOk ns = true) {x : List Nat} {k : Nat} (h : k < (boxesL ns).length) (hx : inBb (atB (boxesL ns) k) x = true) : evalB ns x = true := by
  have h1 := cntB_one_le h hx
  rw [(boxes_parts hP hR hO x).2] at h1
  cases he : evalB ns x with
  | true => rfl
  | false => rw [he] at h1; simp at h1
/-- What the laws need of one cube. -/
structure PickR (ns : List S52) (cu : List S47) (p : List Nat) : Prop where
  ok : okC cu
  whole : wholeC cu = true
  pick : pickC cu = p
  len : p.length = 10
  inn : inC cu p = true
  ev : evalB ns p = true
  lt : lt64 p
theorem cubesL_cases {ns : List S52} : (rightB ns = true ∧ boxesOk ns = true) ∨ cubesL ns = [] := by
  unfold cubesL
  cases rightB ns <;> cases boxesOk ns <;> simp
theorem pickR {ns : List S52} (hP : okP ns) {k : Nat} (h : k < (cubesL ns).length) : ∃ p, PickR ns (atC (cubesL ns) k) p := by
  rcases cubesL_cases (ns := ns) with ⟨hR, hO⟩ | h0
  · have hN := (boxes_parts hP hR hO []).1
    rw [cubesL_map hR hO, List.length_map] at h
    rw [cubesL_map hR hO, atC_map _ h]
    have hb := NbL_at hN k
    refine ⟨pickB (atB (boxesL ns) k), cubeL_ok hb, cubeL_whole hb, cubeL_pick hb, rfl, ?_, ?_, pickB_lt hb.ok⟩
    · rw [cubeL_in hb]; exact pickB_in hb
    · exact eval_of_in hP hR hO h (pickB_in hb)
  · rw [h0] at h; exact absurd h (Nat.not_lt_zero _)
theorem meetR {ns : List S52} (hP : okP ns) {j i : Nat} (hj : j < i) (h : i < (cubesL ns).length) : meetOk (atC (cubesL ns) j) (atC (cubesL ns) i) = false := by
  rcases cubesL_cases (ns := ns) with ⟨hR, hO⟩ | h0
  · have hN := (boxes_parts hP hR hO []).1
    rw [cubesL_map hR hO, List.length_map] at h
    rw [cubesL_map hR hO, atC_map _ h, atC_map _ (by omega)]
    have hb := NbL_at hN i
    have hc := NbL_at hN j
    rw [cubeL_meetOk hc hb]
    cases hm : meetB (atB (boxesL ns) j) (atB (boxesL ns) i) with
    | false => rfl
    | true =>
      have hx := pickB_in (Nb_meet hc hb)
      rw [meet_in hc hb hm, Bool.and_eq_true] at hx
      have := cntB_two_le hj h hx.1 hx.2
      have := parts_le hP hR hO (pickB (meetX (atB (boxesL ns) j) (atB (boxesL ns) i)))
      omega
  · rw [h0] at h; exact absurd h (Nat.not_lt_zero _)
theorem cubesE_cases {ns : List S52} : cubesE ns = 0 ∨ (cubesE ns ≠ 0 ∧ cubesL ns = []) := by
  unfold cubesE cubesL
  cases rightB ns <;> cases boxesOk ns <;> simp
theorem cubesL_len {ns : List S52} : (cubesL ns).length ≤ 128 := by
  rcases cubesL_cases (ns := ns) with ⟨hR, hO⟩ | h0
  · rw [cubesL_map hR hO, List.length_map]; exact boxesL_len ns
  · rw [h0]; simp
end Go.Proofs.Ytmhjnfkhfjejeaa
