import Derived.Test.YtmhjnfkhfjejeaaP4
namespace Go.Proofs.Ytmhjnfkhfjejeaa
set_option linter.unusedVariables false
set_option linter.unusedSimpArgs false
open Go.RowKit Go.Proofs.YtmhjnfkhfjejeaaW.PrintWords Go.Proofs.YtmhjnfkhfjejeaaW.PrintLast Go.Proofs.YtmhjnfkhfjejeaaW.PrintMore
open PPredCubes
/-! ### Disjoint, and the values of both -/
theorem rowM_iff (a : Bx) (bs : List Bx) (k : Nat) : rowM a bs k = true ↔ ∃ j, j < k ∧ meetB a (atB bs j) = true := by
  induction k with
  | zero => simp [rowM]
  | succ k ih =>
    simp only [rowM, Bool.or_eq_true, ih]
    constructor
    · rintro (⟨j, h1, h2⟩ | h)
      · exact ⟨j, by omega, h2⟩
      · exact ⟨k, by omega, h⟩
    · rintro ⟨j, h1, h2⟩
      rcases Nat.lt_or_ge j k with h | h
      · exact .inl ⟨j, h, h2⟩
      · obtain rfl : j = k := by omega
        exact .inr h2
theorem anyM_iff (l bs : List Bx) (k : Nat) : anyM l bs k = true ↔ ∃ i, i < k ∧ ∃ j, j < bs.length ∧ meetB (atB l i) (atB bs j) = true := by
  induction k with
  | zero => simp [anyM]
  | succ k ih =>
    simp only [anyM, Bool.or_eq_true, ih, rowM_iff]
    constructor
    · rintro (⟨i, h1, h2⟩ | h)
      · exact ⟨i, by omega, h2⟩
      · exact ⟨k, by omega, h⟩
    · rintro ⟨i, h1, h2⟩
      rcases Nat.lt_or_ge i k with h | h
      · exact .inl ⟨i, h, h2⟩
      · obtain rfl : i = k := by omega
        exact .inr h2
theorem apart_cases (ns ms : List S52) : (apartE ns ms = 0 ∧ rightB ns = true ∧ rightB ms = true ∧ boxesOk ns = true ∧ boxesOk ms = true) ∨ (apartE ns ms ≠ 0 ∧ apartB ns ms = false) := by
  unfold apartE apartB
  cases rightB ns <;> cases rightB ms <;> cases boxesOk ns <;> cases boxesOk ms <;> simp
theorem in_of_cnt {l : List Bx} {x : List Nat} (h : 1 ≤ cntB l x) : ∃ k, k < l.length ∧ inBb (atB l k) x = true := by
  have key : ∀ k, k ≤ l.length → 1 ≤ cntB (l.take k) x → ∃ j, j < k ∧ inBb (atB l j) x = true := by
    intro k
    induction k with
    | zero => intro _ h; simp [cntB] at h
    | succ k ih =>
      intro hk h
      rw [cntB_take (by omega)] at h
      cases hx : inBb (atB l k) x with
      | true => exact ⟨k, by omega, hx⟩
      | false =>
        unfold cnt1 at h
        rw [hx] at h
        obtain ⟨j, h1, h2⟩ := ih (by omega) (by simpa using h)
        exact ⟨j, by omega, h2⟩
  exact key l.length (Nat.le_refl _) (by rw [List.take_length]; exact h)
theorem in_of_eval {ns : List S52} (hP : okP ns) (hR : rightB ns = true) (hO : boxesOk ns = true) {x : List Nat} (h : evalB ns x = true) : ∃ k, k < (boxesL ns).length ∧ inBb (atB (boxesL ns) k) x = true := by
  refine in_of_cnt ?_
  rw [(boxes_parts hP hR hO x).2, h]; simp
/-- Disjoint predicates are never both true. -/
theorem apart_never {ns ms : List S52} (hP : okP ns) (hQ : okP ms) (h : apartB ns ms = true) (x : List Nat) : evalB ns x = false ∨ evalB ms x = false := by
  unfold apartB at h
  simp only [Bool.and_eq_true] at h
  obtain ⟨h1, h2, h3, h4, h5⟩ := h
  cases e1 : evalB ns x with
  | false => exact .inl rfl
  | true =>
    cases e2 : evalB ms x with
    | false => exact .inr rfl
    | true =>
      obtain ⟨i, hi, gi⟩ := in_of_eval hP h1 h3 e1
      obtain ⟨j, hj, gj⟩ := in_of_eval hQ h2 h4 e2
      have : anyM (boxesL ns) (boxesL ms) (boxesL ns).length = true := (anyM_iff _ _ _).2 ⟨i, hi, j, hj, meet_of_in gi gj⟩
      rw [this] at h5; cases h5
/-- What the law needs of two cubes that meet. -/
structure MeetR (ns ms : List S52) (cu cv : List S47) (p : List Nat) : Prop where
  ok : okC (meetC cu cv)
  pick : pickC (meetC cu cv) = p
  len : p.length = 10
  ev1 : evalB ns p = true
  ev2 : evalB ms p = true
  lt : lt64 p
theorem meetRR {ns ms : List S52} (hP : okP ns) (hQ : okP ms) (h1 : rightB ns = true) (h2 : rightB ms = true) (h3 : boxesOk ns = true) (h4 : boxesOk ms = true) {i j : Nat} (hi : i < (cubesL ns).length) (hj : j < (cubesL ms).length)
    (hm : meetOk (atC (cubesL ns) i) (atC (cubesL ms) j) = true) : ∃ p, MeetR ns ms (atC (cubesL ns) i) (atC (cubesL ms) j) p := by
  have hN := (boxes_parts hP h1 h3 []).1
  have hN2 := (boxes_parts hQ h2 h4 []).1
  rw [cubesL_map h1 h3, List.length_map] at hi
  rw [cubesL_map h2 h4, List.length_map] at hj
  rw [cubesL_map h1 h3, cubesL_map h2 h4, atC_map _ hi, atC_map _ hj] at hm ⊢
  have hb := NbL_at hN i
  have hc := NbL_at hN2 j
  rw [cubeL_meetOk hb hc] at hm
  have hx := Nb_meet hb hc
  have hin := pickB_in hx
  rw [meet_in hb hc hm, Bool.and_eq_true] at hin
  refine ⟨pickB (meetX (atB (boxesL ns) i) (atB (boxesL ms) j)), ?_, ?_, rfl, eval_of_in hP h1 h3 hi hin.1, eval_of_in hQ h2 h4 hj hin.2, pickB_lt hx.ok⟩
  · rw [cubeL_meetC hb hc hm]; exact cubeL_ok hx
  · rw [cubeL_meetC hb hc hm]; exact cubeL_pick hx
/-- Where no two cubes meet, the predicates are disjoint. -/
theorem none_meets {ns ms : List S52} (hP : okP ns) (hQ : okP ms) (h1 : rightB ns = true) (h2 : rightB ms = true) (h3 : boxesOk ns = true) (h4 : boxesOk ms = true)
    (h : ∀ i, i < (cubesL ns).length → ∀ j, j < (cubesL ms).length → meetOk (atC (cubesL ns) i) (atC (cubesL ms) j) = false) : apartB ns ms = true := by
  have hN := (boxes_parts hP h1 h3 []).1
  have hN2 := (boxes_parts hQ h2 h4 []).1
  unfold apartB
  rw [h1, h2, h3, h4]
  simp only [Bool.true_and, Bool.not_eq_true']
  cases ha : anyM (boxesL ns) (boxesL ms) (boxesL ns).length with
  | false => rfl
  | true =>
    obtain ⟨i, hi, j, hj, hm⟩ := (anyM_iff _ _ _).1 ha
    have := h i (by rw [cubesL_map h1 h3, List.length_map]; exact hi) j (by rw [cubesL_map h2 h4, List.length_map]; exact hj)
    rw [cubesL_map h1 h3, cubesL_map h2 h4, atC_map _ hi, atC_map _ hj, cubeL_meetOk (NbL_at hN i) (NbL_at hN2 j), hm] at this
    cases this
theorem cubesL_okC {ns : List S52} (hP : okP ns) (k : Nat) : okC (atC (cubesL ns) k) := by
  rcases Nat.lt_or_ge k (cubesL ns).length with h | h
  · obtain ⟨p, hp⟩ := pickR hP h; exact hp.ok
  · unfold atC
    rw [List.getD_eq_getElem?_getD, List.getElem?_eq_none h]
    intro t ht; cases ht
theorem cubesE_ok {ns : List S52} (h1 : rightB ns = true) (h2 : boxesOk ns = true) : cubesE ns = 0 := by unfold cubesE; rw [h1, h2]; rfl
theorem disj_v (A A2 : Option Addr) (c c2 : Nat) (ns ms : List S52) (hP : okP ns) (hP2 : okP ms) (w : World) (hr : k52.C w A ns.length ns) (hr2 : k52.C w A2 ms.length ms) (hc : ns.length ≤ c) (hc2 : ms.length ≤ c2) :
    Calls Try.prog 33 #[.agg #[.slice A ns.length c], .agg #[.slice A2 ms.length c2]] w fun e w' => e = .returned (.tuple #[.bool (apartB ns ms), .int .i64 (apartE ns ms)]) ∧ Below w.heap.size w w' :=
  (disj_any A A2 c c2 ns ms hP hP2 w hr hr2 hc hc2).mono fun e w' h => ⟨h.1, h.2⟩
end Go.Proofs.Ytmhjnfkhfjejeaa
