import Derived.Test.YtmhjnfkhfjejeaaP4
namespace Go.Proofs.Ytmhjnfkhfjejeaa
set_option linter.unusedVariables false
set_option linter.unusedSimpArgs false
open PPredCubes
/-! ### What made predicates say -/
/-- What node i says. -/
def sayAt (L : List S52) (x : List Nat) (i : Nat) : Bool := sayN (atN L i) (saidTo L x i) x
theorem said_at (L : List S52) (x : List Nat) {i : Nat} : ∀ k, i < k → atS (saidTo L x k) i = sayAt L x i := by
  intro k
  induction k with
  | zero => intro h; omega
  | succ k ih =>
    intro h
    rw [saidTo_at]
    by_cases hi : i = k
    · subst hi; rw [if_pos rfl]; rfl
    · rw [if_neg hi]; exact ih (by omega)
theorem evalB_at {L : List S52} (hR : rightB L = true) (x : List Nat) : evalB L x = sayAt L x (L.length - 1) := by
  unfold evalB
  rw [hR, Bool.true_and]
  exact said_at L x _ (by have := rightB_len hR; omega)
theorem addTo_map (b : Int) (subs : List Int) : ∀ k, k ≤ subs.length → addTo b subs k = (subs.take k).map (· + b) := by
  intro k
  induction k with
  | zero => intro _; rfl
  | succ k ih =>
    intro hk
    simp only [addTo]
    rw [ih (by omega), List.take_succ_eq_append_getElem (by omega), List.map_append, List.getD_eq_getElem?_getD, List.getElem?_eq_getElem (by omega)]
    rfl
theorem shiftN_subs (b : Int) (n : S52) : (shiftN b n).f2 = n.f2.map (· + b) := by
  show addTo b n.f2 n.f2.length = _
  rw [addTo_map b _ _ (Nat.le_refl _), List.take_length]
theorem shiftTo_at (b : Int) (p : List S52) : ∀ j i, i < j → atN (shiftTo b p j) i = shiftN b (atN p i) := by
  intro j
  induction j with
  | zero => intro i h; omega
  | succ j ih =>
    intro i h
    simp only [shiftTo]
    unfold atN
    rw [List.getD_eq_getElem?_getD]
    by_cases hi : i < j
    · rw [List.getElem?_append_left (by rw [shiftTo_len]; exact hi), ← List.getD_eq_getElem?_getD]
      exact ih i hi
    · obtain rfl : i = j := by omega
      rw [List.getElem?_append_right (by rw [shiftTo_len]; exact Nat.le_refl _), shiftTo_len]
      simp
theorem atN_left {l m : List S52} {i : Nat} (h : i < l.length) : atN (l ++ m) i = atN l i := by
  unfold atN; rw [List.getD_eq_getElem?_getD, List.getElem?_append_left h, ← List.getD_eq_getElem?_getD]
theorem atN_right {l m : List S52} (i : Nat) : atN (l ++ m) (l.length + i) = atN m i := by
  unfold atN; rw [List.getD_eq_getElem?_getD, List.getElem?_append_right (by omega), ← List.getD_eq_getElem?_getD]
  congr 1; omega
theorem any_congr {α : Type} (l : List α) (p q : α → Bool) (h : ∀ a ∈ l, p a = q a) : l.any p = l.any q := by
  induction l with
  | nil => rfl
  | cons a l ih => simp only [List.any_cons]; rw [h a (by simp), ih (fun b hb => h b (by simp [hb]))]
/-- A predicate's nodes, moved b places on: they say the same. -/
theorem shift_says {L p : List S52} {b : Nat} (hp : rightB p = true) (h : ∀ i, i < p.length → atN L (b + i) = shiftN b (atN p i)) (x : List Nat) : ∀ i, i < p.length → sayAt L x (b + i) = sayAt p x i := by
  intro i
  induction i using Nat.strongRecOn with
  | ind i ih =>
    intro hi
    unfold sayAt
    rw [h i hi]
    have hn := (nodeB_iff _ _).1 (rightB_at hp hi)
    obtain ⟨hk1, hk2⟩ := hn.kind
    have hs := hn.subs
    have hlen := hn.lens.1
    have hf0 : (shiftN b (atN p i)).f0 = (atN p i).f0 := rfl
    have hf1 : (shiftN b (atN p i)).f1 = (atN p i).f1 := rfl
    have hsub : ∀ s ∈ (atN p i).f2, atS (saidTo L x (b + i)) (s + (b : Int)).toNat = atS (saidTo p x i) s.toNat := fun s hs' => by
      obtain ⟨h0, h1⟩ := hs s hs'
      have e : (s + (b : Int)).toNat = b + s.toNat := by omega
      rw [e, said_at L x (b + i) (by omega), said_at p x i (by omega)]
      exact ih s.toNat (by omega) (by omega)
    unfold sayN
    rw [hf0, hf1, shiftN_subs, List.any_map, List.any_map]
    have hk : (atN p i).f0 = 1 ∨ (atN p i).f0 = 2 ∨ (atN p i).f0 = 3 ∨ (atN p i).f0 = 4 ∨ (atN p i).f0 = 5 ∨ (atN p i).f0 = 6 := by omega
    rcases hk with h1 | h1 | h1 | h1 | h1 | h1
    · rw [h1]; rfl
    · rw [h1]; rfl
    · rw [h1]; rfl
    · rw [h1]
      show (!_) = (!_)
      congr 1
      exact any_congr _ _ _ fun s hs' => by show (!atS _ (s + (b : Int)).toNat) = _; rw [hsub s hs']
    · rw [h1]
      exact any_congr _ _ _ fun s hs' => hsub s hs'
    · rw [h1]
      show (!atS _ _) = (!atS _ _)
      congr 1
      rw [h1] at hlen
      have hl1 : 0 < (atN p i).f2.length := by have : lowN 6 = 1 := rfl; omega
      unfold subAt
      rw [List.getD_eq_getElem?_getD, List.getElem?_map, List.getD_eq_getElem?_getD, List.getElem?_eq_getElem hl1]
      exact hsub _ (List.getElem_mem hl1)
theorem nodesFrom_congr {l m : List S52} (h : ∀ i, nodeB (atN l i) i = nodeB (atN m i) i) : ∀ d i, nodesFrom l d i = nodesFrom m d i := by
  intro d
  induction d with
  | zero => intro i; rfl
  | succ d ih => intro i; simp only [nodesFrom]; rw [h i, ih]
theorem atN_snoc (l : List S52) (n : S52) (i : Nat) : atN (l ++ [n]) i = if i = l.length then n else atN l i := by
  unfold atN
  rw [List.getD_eq_getElem?_getD, List.getD_eq_getElem?_getD]
  rcases Nat.lt_trichotomy i l.length with h | h | h
  · rw [List.getElem?_append_left h, if_neg (by omega)]
  · subst h; rw [List.getElem?_append_right (by omega), if_pos rfl]; simp
  · rw [List.getElem?_append_right (by omega), if_neg (by omega), List.getElem?_eq_none (l := l) (by omega), List.getElem?_eq_none (by simp; omega)]
theorem right_andor (l : List S52) (s : List Int) : rightB (l ++ [⟨4, z47, s⟩]) = rightB (l ++ [⟨5, z47, s⟩]) := by
  unfold rightB
  rw [List.length_append, List.length_append, List.length_singleton, List.length_singleton]
  congr 1
  refine nodesFrom_congr (fun i => ?_) _ _
  rw [atN_snoc, atN_snoc]
  split
  · rfl
  · rfl
/-- And and Or of the same ones are right together. -/
theorem made_right (ps : List S24) : rightB (madeL 4 ps) = rightB (madeL 5 ps) := by
  unfold madeL
  split
  · unfold wholeP
    rw [right_andor]
    cases h : rightB (outTo ps ps.length ++ [⟨5, z47, topsTo ps ps.length⟩]) with
    | true => rw [if_pos rfl, if_pos rfl, right_andor]
    | false => rw [if_neg (by simp), if_neg (by simp)]
  · rfl
theorem madeL_of_right {kind : Int} {ps : List S24} (h : rightB (madeL kind ps) = true) : mOk ps ps.length = true ∧ madeL kind ps = outTo ps ps.length ++ [⟨kind, z47, topsTo ps ps.length⟩] := by
  unfold madeL at h ⊢
  have h0 : rightB [] = false := rfl
  cases hm : mOk ps ps.length with
  | false => rw [hm, if_neg (by simp), h0] at h; cases h
  | true =>
    rw [hm, if_pos rfl] at h
    unfold wholeP at h ⊢
    refine ⟨rfl, ?_⟩
    rw [if_pos rfl]
    cases hr : rightB (outTo ps ps.length ++ [⟨kind, z47, topsTo ps ps.length⟩]) with
    | true => rw [if_pos rfl]
    | false => rw [hr, if_neg (by simp), h0] at h; cases h
/-- What the last nodes of two predicates say, in the row that is made of both. -/
theorem two_says {p q : List S52} (kind : Int) (hp : rightB p = true) (hq : rightB q = true) (x : List Nat) :
    sayAt (outTo [⟨p⟩, ⟨q⟩] 2 ++ [⟨kind, z47, topsTo [⟨p⟩, ⟨q⟩] 2⟩]) x (p.length - 1) = evalB p x ∧ sayAt (outTo [⟨p⟩, ⟨q⟩] 2 ++ [⟨kind, z47, topsTo [⟨p⟩, ⟨q⟩] 2⟩]) x (p.length + (q.length - 1)) = evalB q x := by
  have lp := rightB_len hp
  have lq := rightB_len hq
  have e0 : outTo [⟨p⟩, ⟨q⟩] 2 = shiftTo 0 p p.length ++ shiftTo p.length q q.length := by
    show ([] ++ shiftTo (([] : List S52).length : Int) p p.length) ++ shiftTo ((([] ++ shiftTo (([] : List S52).length : Int) p p.length) : List S52).length : Int) q q.length = _
    simp only [List.nil_append, List.length_nil, shiftTo_len]
    rfl
  rw [e0]
  constructor
  · have := shift_says (L := shiftTo 0 p p.length ++ shiftTo p.length q q.length ++ [⟨kind, z47, topsTo [⟨p⟩, ⟨q⟩] 2⟩]) (b := 0) hp (fun i hi => by
      rw [Nat.zero_add, List.append_assoc, atN_left (by rw [shiftTo_len]; exact hi)]
      exact shiftTo_at _ p _ i hi) x (p.length - 1) (by omega)
    rw [Nat.zero_add] at this
    rw [this, evalB_at hp]
  · have := shift_says (L := shiftTo 0 p p.length ++ shiftTo p.length q q.length ++ [⟨kind, z47, topsTo [⟨p⟩, ⟨q⟩] 2⟩]) (b := p.length) hq (fun i hi => by
      have e1 := atN_right (l := shiftTo 0 p p.length) (m := shiftTo p.length q q.length ++ [⟨kind, z47, topsTo [⟨p⟩, ⟨q⟩] 2⟩]) i
      rw [shiftTo_len] at e1
      rw [List.append_assoc, e1, atN_left (by rw [shiftTo_len]; exact hi)]
      exact shiftTo_at _ q _ i hi) x (q.length - 1) (by omega)
    rw [this, evalB_at hq]
theorem two_tops (p q : List S52) : topsTo [⟨p⟩, ⟨q⟩] 2 = [(p.length : Int) - 1, ((p.length + q.length : Nat) : Int) - 1] ∧ (outTo [⟨p⟩, ⟨q⟩] 2).length = p.length + q.length := by
  have e0 : outTo [⟨p⟩, ⟨q⟩] 2 = shiftTo 0 p p.length ++ shiftTo p.length q q.length := by
    show ([] ++ shiftTo (([] : List S52).length : Int) p p.length) ++ shiftTo ((([] ++ shiftTo (([] : List S52).length : Int) p p.length) : List S52).length : Int) q q.length = _
    simp only [List.nil_append, List.length_nil, shiftTo_len]
    rfl
  have e1 : outTo [⟨p⟩, ⟨q⟩] 1 = shiftTo 0 p p.length := by
    show [] ++ shiftTo (([] : List S52).length : Int) p p.length = _
    simp
  have l2 : (outTo [⟨p⟩, ⟨q⟩] 2).length = p.length + q.length := by rw [e0, List.length_append, shiftTo_len, shiftTo_len]
  refine ⟨?_, l2⟩
  show ([] ++ [((outTo [⟨p⟩, ⟨q⟩] 1).length : Int) - 1]) ++ [((outTo [⟨p⟩, ⟨q⟩] 2).length : Int) - 1] = _
  rw [l2, e1, shiftTo_len]
  rfl
theorem mOk_two {p q : List S52} (h : mOk [⟨p⟩, ⟨q⟩] 2 = true) : rightB p = true ∧ rightB q = true := by
  simp only [mOk, Bool.and_eq_true] at h
  exact ⟨h.1.2.1, h.2.1⟩
/-- And, where it is right, means it. -/
theorem and_says {p q : List S52} (h : rightB (madeL 4 [⟨p⟩, ⟨q⟩]) = true) (x : List Nat) : evalB (madeL 4 [⟨p⟩, ⟨q⟩]) x = (evalB p x && evalB q x) := by
  obtain ⟨hm, he⟩ := madeL_of_right h
  obtain ⟨hp, hq⟩ := mOk_two hm
  have lp := rightB_len hp
  have lq := rightB_len hq
  obtain ⟨s1, s2⟩ := two_says 4 hp hq x
  obtain ⟨ht, hl⟩ := two_tops p q
  rw [he] at h
  rw [he, evalB_at h]
  show sayAt (outTo [⟨p⟩, ⟨q⟩] 2 ++ [⟨4, z47, topsTo [⟨p⟩, ⟨q⟩] 2⟩]) x ((outTo [⟨p⟩, ⟨q⟩] 2 ++ ([⟨4, z47, topsTo [⟨p⟩, ⟨q⟩] 2⟩] : List S52)).length - 1) = _
  rw [List.length_append, List.length_singleton, Nat.add_sub_cancel]
  rw [show ∀ L : List S52, ∀ k, sayAt L x k = sayN (atN L k) (saidTo L x k) x from fun _ _ => rfl, atN_snoc, if_pos rfl]
  have e : ∀ sd : List Bool, sayN ⟨4, z47, topsTo [⟨p⟩, ⟨q⟩] 2⟩ sd x = (atS sd (p.length - 1) && atS sd (p.length + (q.length - 1))) := fun sd => by
    rw [ht]
    have e1 : ((p.length : Int) - 1).toNat = p.length - 1 := by omega
    have e2 : (((p.length + q.length : Nat) : Int) - 1).toNat = p.length + (q.length - 1) := by omega
    simp [sayN]
    rw [show ((p.length : Int) + q.length).toNat - 1 = p.length + (q.length - 1) by omega]
  rw [e, said_at _ x _ (by rw [hl]; omega), said_at _ x _ (by rw [hl]; omega), s1, s2]
theorem or_says {p q : List S52} (h : rightB (madeL 5 [⟨p⟩, ⟨q⟩]) = true) (x : List Nat) : evalB (madeL 5 [⟨p⟩, ⟨q⟩]) x = (evalB p x || evalB q x) := by
  obtain ⟨hm, he⟩ := madeL_of_right h
  obtain ⟨hp, hq⟩ := mOk_two hm
  have lp := rightB_len hp
  have lq := rightB_len hq
  obtain ⟨s1, s2⟩ := two_says 5 hp hq x
  obtain ⟨ht, hl⟩ := two_tops p q
  rw [he] at h
  rw [he, evalB_at h]
  show sayAt (outTo [⟨p⟩, ⟨q⟩] 2 ++ [⟨5, z47, topsTo [⟨p⟩, ⟨q⟩] 2⟩]) x ((outTo [⟨p⟩, ⟨q⟩] 2 ++ ([⟨5, z47, topsTo [⟨p⟩, ⟨q⟩] 2⟩] : List S52)).length - 1) = _
  rw [List.length_append, List.length_singleton, Nat.add_sub_cancel]
  rw [show ∀ L : List S52, ∀ k, sayAt L x k = sayN (atN L k) (saidTo L x k) x from fun _ _ => rfl, atN_snoc, if_pos rfl]
  have e : ∀ sd : List Bool, sayN ⟨5, z47, topsTo [⟨p⟩, ⟨q⟩] 2⟩ sd x = (atS sd (p.length - 1) || atS sd (p.length + (q.length - 1))) := fun sd => by
    rw [ht]
    have e1 : ((p.length : Int) - 1).toNat = p.length - 1 := by omega
    simp [sayN]
    rw [show ((p.length : Int) + q.length).toNat - 1 = p.length + (q.length - 1) by omega]
  rw [e, said_at _ x _ (by rw [hl]; omega), said_at _ x _ (by rw [hl]; omega), s1, s2]
/-- Not, of a right one of less than 60 nodes, is right and means it. -/
theorem not_says {p : List S52} (hp : rightB p = true) (h60 : p.length < 60) (x : List Nat) : evalB (madeL 6 [⟨p⟩]) x = !evalB p x := by
  have lp := rightB_len hp
  have e0 : outTo [⟨p⟩] 1 = shiftTo 0 p p.length := by
    show [] ++ shiftTo (([] : List S52).length : Int) p p.length = _
    simp
  have ht : topsTo [⟨p⟩] 1 = [(p.length : Int) - 1] := by
    show [] ++ [((outTo [⟨p⟩] 1).length : Int) - 1] = _
    rw [e0, shiftTo_len]; rfl
  have hm : mOk [⟨p⟩] 1 = true := by
    simp only [mOk, Bool.true_and, Bool.and_eq_true]
    exact ⟨hp, decide_eq_true (by show 0 + p.length ≤ 60; omega)⟩
  have hR : rightB (shiftTo 0 p p.length ++ [⟨6, z47, [(p.length : Int) - 1]⟩]) = true := by
    unfold rightB
    rw [List.length_append, List.length_singleton, shiftTo_len, Bool.and_eq_true]
    refine ⟨decide_eq_true (by omega), ?_⟩
    have key : ∀ d i, i + d = p.length + 1 → nodesFrom (shiftTo 0 p p.length ++ [⟨6, z47, [(p.length : Int) - 1]⟩]) d i = true := by
      intro d
      induction d with
      | zero => intro i _; rfl
      | succ d ih =>
        intro i hi
        simp only [nodesFrom, Bool.and_eq_true]
        refine ⟨?_, ih (i + 1) (by omega)⟩
        rw [atN_snoc, shiftTo_len]
        by_cases hl : i = p.length
        · rw [if_pos hl, nodeB_iff]
          refine ⟨⟨by show (1 : Int) ≤ 6; omega, by show (6 : Int) ≤ 6; omega⟩, (fun h => by cases h), fun _ => rfl, ⟨by show lowN 6 ≤ 1; decide, by show 1 ≤ highN 6; decide⟩, fun s hs => ?_⟩
          have : s = (p.length : Int) - 1 := List.mem_singleton.1 hs
          omega
        · rw [if_neg hl, shiftTo_at _ p _ i (by omega), nodeB_iff]
          have hn := (nodeB_iff _ _).1 (rightB_at hp (by omega : i < p.length))
          refine ⟨hn.kind, hn.test, hn.zero, ?_, fun s hs => ?_⟩
          · rw [shiftN_subs, List.length_map]; exact hn.lens
          · rw [shiftN_subs] at hs
            obtain ⟨t, ht, rfl⟩ := List.mem_map.1 hs
            have := hn.subs t ht
            omega
    exact key _ 0 (by omega)
  have he : madeL 6 [⟨p⟩] = shiftTo 0 p p.length ++ [⟨6, z47, [(p.length : Int) - 1]⟩] := by
    unfold madeL
    show (if mOk [⟨p⟩] 1 = true then wholeP (outTo [⟨p⟩] 1 ++ [⟨6, z47, topsTo [⟨p⟩] 1⟩]) else []) = _
    rw [hm, if_pos rfl, e0, ht]
    unfold wholeP
    rw [hR, if_pos rfl]
  rw [he, evalB_at hR, List.length_append, List.length_singleton, shiftTo_len, Nat.add_sub_cancel]
  rw [show ∀ L : List S52, ∀ k, sayAt L x k = sayN (atN L k) (saidTo L x k) x from fun _ _ => rfl, atN_snoc, shiftTo_len, if_pos rfl]
  have e : ∀ sd : List Bool, sayN ⟨6, z47, [(p.length : Int) - 1]⟩ sd x = !atS sd (p.length - 1) := fun sd => by
    have e1 : subAt [(p.length : Int) - 1] 0 = p.length - 1 := by
      show ((p.length : Int) - 1).toNat = _
      omega
    simp [sayN, e1]
  rw [e, said_at _ x _ (by omega)]
  congr 1
  have := shift_says (L := shiftTo 0 p p.length ++ [⟨6, z47, [(p.length : Int) - 1]⟩]) (b := 0) hp (fun i hi => by
    rw [Nat.zero_add, atN_left (by rw [shiftTo_len]; exact hi)]
    exact shiftTo_at _ p _ i hi) x (p.length - 1) (by omega)
  rw [Nat.zero_add] at this
  rw [this, evalB_at hp]
/-! ### Cut and Meet mean it -/
theorem cutC_Nb {a b : List S47} (ha : okC a) (hb : okC b) : NbL (cutC a b) := by
  unfold cutC
  split
  · rename_i h
    rw [Bool.and_eq_true] at h
    exact cutL_Nb (boxC_Nb ha h.1) (boxC_Nb hb h.2)
  · exact NbL_nil
theorem cutC_cnt {a b : List S47} (ha : okC a) (hb : okC b) (h1 : wholeC a = true) (h2 : wholeC b = true) (x : List Nat) : cntC ((cutC a b).map cubeL) x ((cutC a b).map cubeL).length = if inC a x && !inC b x then 1 else 0 := by
  rw [cntC_all (cutC_Nb ha hb), inC_box ha h1, inC_box hb h2]
  unfold cutC
  rw [h1, h2, Bool.true_and, if_pos rfl, cutL_cnt (boxC_Nb ha h1) (boxC_Nb hb h2)]
theorem cutC_ok {a b : List S47} (ha : okC a) (hb : okC b) (k : Nat) : okC (atC ((cutC a b).map cubeL) k) := by
  rcases Nat.lt_or_ge k (cutC a b).length with h | h
  · rw [atC_map _ h]; exact cubeL_ok (NbL_at (cutC_Nb ha hb) k)
  · unfold atC
    rw [List.getD_eq_getElem?_getD, List.getElem?_eq_none (by simpa using h)]
    intro t ht; cases ht
theorem cutC_len (a b : List S47) : ((cutC a b).map cubeL).length ≤ 640 := by
  rw [List.length_map]
  unfold cutC; split
  · exact cutL_len _ _
  · simp
/-- What both ask: the values of both. -/
theorem meet_says {a b : List S47} (ha : okC a) (hb : okC b) (h1 : wholeC a = true) (h2 : wholeC b = true) (x : List Nat) : (meetOk a b = true ∧ inC (meetC a b) x = (inC a x && inC b x)) ∨ (meetOk a b = false ∧ (inC a x && inC b x) = false) := by
  have na := boxC_Nb ha h1
  have nb := boxC_Nb hb h2
  cases hm : meetOk a b with
  | true =>
    refine .inl ⟨rfl, ?_⟩
    have hm2 : meetB (boxC a) (boxC b) = true := by unfold meetOk at hm; rw [h1, h2] at hm; simpa using hm
    unfold meetC
    rw [hm, if_pos rfl, cubeL_in (Nb_meet na nb), meet_in na nb hm2, inC_box ha h1, inC_box hb h2]
  | false =>
    refine .inr ⟨rfl, ?_⟩
    have hm2 : meetB (boxC a) (boxC b) = false := by unfold meetOk at hm; rw [h1, h2] at hm; simpa using hm
    rw [inC_box ha h1, inC_box hb h2]
    cases e1 : inBb (boxC a) x with
    | false => rfl
    | true =>
      cases e2 : inBb (boxC b) x with
      | false => rfl
      | true => rw [meet_of_in e1 e2] at hm2; cases hm2
theorem meetC_ok {a b : List S47} (ha : okC a) (hb : okC b) : okC (meetC a b) := by
  unfold meetC
  split
  · rename_i h
    have h12 : wholeC a = true ∧ wholeC b = true := by unfold meetOk at h; simp only [Bool.and_eq_true] at h; exact ⟨h.1, h.2.1⟩
    exact cubeL_ok (Nb_meet (boxC_Nb ha h12.1) (boxC_Nb hb h12.2))
  · intro t ht; cases ht
end Go.Proofs.Ytmhjnfkhfjejeaa
