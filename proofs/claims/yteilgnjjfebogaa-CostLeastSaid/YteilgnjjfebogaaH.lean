namespace Go.Proofs.Yteilgnjjfebogaa
set_option linter.unusedVariables false
set_option linter.unusedSimpArgs false

/-! ### The plain mathematics of the stable sort: places that are exchanged -/
/-- Row f with the places i and j exchanged. -/
def swp (f : Nat → Int) (i j : Nat) : Nat → Int := fun k => if k = i then f j else if k = j then f i else f k

theorem swp_apply (f : Nat → Int) (i j k : Nat) : swp f i j k = if k = i then f j else if k = j then f i else f k := rfl

/-- g is f with the places of [a, b) in another order. -/
def PermOn (f g : Nat → Int) (a b : Nat) : Prop :=
  ∃ s : Nat → Nat, (∀ k, (k < a ∨ b ≤ k) → s k = k) ∧ (∀ k, a ≤ k → k < b → a ≤ s k ∧ s k < b) ∧ (∀ i j, s i = s j → i = j) ∧ ∀ k, g k = f (s k)

theorem PermOn.refl (f : Nat → Int) (a b : Nat) : PermOn f f a b := ⟨id, fun _ _ => rfl, fun _ h1 h2 => ⟨h1, h2⟩, fun _ _ h => h, fun _ => rfl⟩
theorem PermOn.trans {f g h : Nat → Int} {a b : Nat} (p : PermOn f g a b) (q : PermOn g h a b) : PermOn f h a b := by
  obtain ⟨s, s1, s2, s3, s4⟩ := p
  obtain ⟨t, t1, t2, t3, t4⟩ := q
  refine ⟨fun k => s (t k), fun k hk => by show s (t k) = k; rw [t1 k hk]; exact s1 k hk, fun k h1 h2 => ?_, fun i j hij => t3 _ _ (s3 _ _ hij), fun k => by rw [t4, s4]⟩
  obtain ⟨u1, u2⟩ := t2 k h1 h2
  exact s2 _ u1 u2
theorem PermOn.mono {f g : Nat → Int} {a b a' b' : Nat} (p : PermOn f g a b) (ha : a' ≤ a) (hb : b ≤ b') : PermOn f g a' b' := by
  obtain ⟨s, s1, s2, s3, s4⟩ := p
  refine ⟨s, fun k hk => s1 k (by omega), fun k h1 h2 => ?_, s3, s4⟩
  by_cases h : a ≤ k ∧ k < b
  · have := s2 k h.1 h.2; omega
  · rw [s1 k (by omega)]; exact ⟨h1, h2⟩
theorem PermOn.out {f g : Nat → Int} {a b k : Nat} (p : PermOn f g a b) (h : k < a ∨ b ≤ k) : g k = f k := by
  obtain ⟨s, s1, _, _, s4⟩ := p
  rw [s4, s1 k h]
theorem PermOn.all {f g : Nat → Int} {a b : Nat} (p : PermOn f g a b) {Q : Int → Prop} (h : ∀ k, a ≤ k → k < b → Q (f k)) : ∀ k, a ≤ k → k < b → Q (g k) := by
  obtain ⟨s, _, s2, _, s4⟩ := p
  intro k h1 h2
  rw [s4]
  obtain ⟨u1, u2⟩ := s2 k h1 h2
  exact h _ u1 u2
theorem PermOn.swp (f : Nat → Int) {a b i j : Nat} (hi : a ≤ i) (hi' : i < b) (hj : a ≤ j) (hj' : j < b) : PermOn f (swp f i j) a b := by
  refine ⟨fun k => if k = i then j else if k = j then i else k, fun k hk => ?_, fun k h1 h2 => ?_, fun x y h => ?_, fun k => ?_⟩
  · simp only; rw [if_neg (by omega), if_neg (by omega)]
  · simp only; split
    · exact ⟨hj, hj'⟩
    · split
      · exact ⟨hi, hi'⟩
      · exact ⟨h1, h2⟩
  · simp only at h
    (repeat' split at h) <;> omega
  · unfold Yteilgnjjfebogaa.swp; simp only; split
    · rfl
    · split <;> rfl

/-- Rising by R from a to ahead of b. -/
def RiseOn (R : Int → Int → Prop) (f : Nat → Int) (a b : Nat) : Prop := ∀ i j, a ≤ i → i < j → j < b → R (f i) (f j)
theorem RiseOn.part {R : Int → Int → Prop} {f : Nat → Int} {a b a' b' : Nat} (h : RiseOn R f a b) (ha : a ≤ a') (hb : b' ≤ b) : RiseOn R f a' b' :=
  fun i j h1 h2 h3 => h i j (by omega) h2 (by omega)

/-! #### Insertion -/
/-- The inner loop's head: the item that came from place i stands at j; all else of [a, i] rises; it is ahead of all behind it. -/
def InsIn (R : Int → Int → Prop) (x : Int) (a i j : Nat) (f : Nat → Int) : Prop :=
  f j = x ∧ (∀ p q, a ≤ p → p < q → q ≤ i → p ≠ j → q ≠ j → R (f p) (f q)) ∧ (∀ q, j < q → q ≤ i → R x (f q)) ∧ (∀ p, a ≤ p → p ≤ i → p ≠ j → f p < x)

theorem InsIn.start {R : Int → Int → Prop} {f0 f : Nat → Int} {a i : Nat} (hr : RiseOn R f a i) (hp : PermOn f0 f a i) (hx : ∀ k, a ≤ k → k < i → f0 k < f0 i) : InsIn R (f0 i) a i i f := by
  refine ⟨hp.out (.inr (Nat.le_refl _)), fun p q h1 h2 h3 h4 h5 => hr p q h1 h2 (by omega), fun q h1 h2 => by omega, fun p h1 h2 h3 => ?_⟩
  exact hp.all (Q := fun y => y < f0 i) hx p h1 (by omega)

theorem InsIn.step {R : Int → Int → Prop} {x : Int} {a i jp : Nat} {f : Nat → Int} (h : InsIn R x a i (jp + 1) f) (ha : a ≤ jp) (hji : jp + 1 ≤ i) (hlt : R x (f jp)) : InsIn R x a i jp (swp f (jp + 1) jp) := by
  obtain ⟨h1, h2, h3, h4⟩ := h
  have k1 : ∀ k, k = jp + 1 → swp f (jp + 1) jp k = f jp := fun k e => by rw [swp_apply, if_pos e]
  have k2 : ∀ k, k = jp → swp f (jp + 1) jp k = x := fun k e => by rw [swp_apply, if_neg (by omega), if_pos e, h1]
  have k3 : ∀ k, k ≠ jp → k ≠ jp + 1 → swp f (jp + 1) jp k = f k := fun k e1 e2 => by rw [swp_apply, if_neg e2, if_neg e1]
  refine ⟨k2 jp rfl, fun p q hp hpq hq hpj hqj => ?_, fun q hq1 hq2 => ?_, fun p hp1 hp2 hp3 => ?_⟩
  · by_cases e1 : p = jp + 1
    · rw [k1 p e1, k3 q (by omega) (by omega)]; exact h2 jp q ha (by omega) hq (by omega) (by omega)
    · rw [k3 p hpj e1]
      by_cases e2 : q = jp + 1
      · rw [k1 q e2]; exact h2 p jp hp (by omega) (by omega) (by omega) (by omega)
      · rw [k3 q hqj e2]; exact h2 p q hp hpq hq e1 e2
  · by_cases e : q = jp + 1
    · rw [k1 q e]; exact hlt
    · rw [k3 q (by omega) e]; exact h3 q (by omega) hq2
  · by_cases e : p = jp + 1
    · rw [k1 p e]; exact h4 jp ha (by omega) (by omega)
    · rw [k3 p hp3 e]; exact h4 p hp1 hp2 e

theorem InsIn.done {R : Int → Int → Prop} {x : Int} {a i j : Nat} {f : Nat → Int} (h : InsIn R x a i j f) (htr : ∀ x y z, R x y → R y z → R x z) (hj : j ≤ i)
    (hs : j ≤ a ∨ R (f (j - 1)) x) : RiseOn R f a (i + 1) := by
  obtain ⟨h1, h2, h3, h4⟩ := h
  intro p q hp hpq hq
  by_cases e1 : q = j
  · subst e1
    rw [h1]
    rcases hs with hs | hs
    · omega
    · by_cases e : p = q - 1
      · subst e; exact hs
      · exact htr _ _ _ (h2 p (q - 1) hp (by omega) (by omega) (by omega) (by omega)) hs
  · by_cases e2 : p = j
    · subst e2; rw [h1]; exact h3 q hpq (by omega)
    · exact h2 p q hp hpq (by omega) e2 e1

/-! #### Rotation -/
/-- The n places from a on and the n places from b on exchanged, the first k of them. -/
def swr (f : Nat → Int) (a b k : Nat) : Nat → Int := fun p => if a ≤ p ∧ p < a + k then f (b + (p - a)) else if b ≤ p ∧ p < b + k then f (a + (p - b)) else f p
theorem swr_zero (f : Nat → Int) (a b : Nat) : swr f a b 0 = f := by
  funext p; unfold swr; rw [if_neg (by omega), if_neg (by omega)]
theorem swr_succ (f : Nat → Int) (a b k n : Nat) (hk : k < n) (hab : a + n ≤ b ∨ b + n ≤ a) : swp (swr f a b k) (a + k) (b + k) = swr f a b (k + 1) := by
  funext p
  unfold swp swr
  (repeat' split) <;> first | (exfalso; omega) | (congr 1; omega) | rfl

/-- [a, m) and [m, b) with their places taken: first what stood from m on. -/
def rot (f : Nat → Int) (a m b : Nat) : Nat → Int := fun p => if p < a ∨ b ≤ p then f p else if p < a + (b - m) then f (p + (m - a)) else f (p - (b - m))

theorem rot_gt (f : Nat → Int) (m i j : Nat) (hj : 0 < j) (hij : j < i) (him : i ≤ m) : rot (swr f (m - i) m j) (m - (i - j)) m (m + j) = rot f (m - i) m (m + j) := by
  funext p
  unfold rot swr
  (repeat' split) <;> first | (exfalso; omega) | (congr 1; omega) | rfl
theorem rot_lt (f : Nat → Int) (m i j : Nat) (hi : 0 < i) (hij : i < j) (him : i ≤ m) : rot (swr f (m - i) (m + j - i) i) (m - i) m (m + (j - i)) = rot f (m - i) m (m + j) := by
  funext p
  unfold rot swr
  (repeat' split) <;> first | (exfalso; omega) | (congr 1; omega) | rfl
theorem rot_eq (f : Nat → Int) (m i : Nat) (him : i ≤ m) : swr f (m - i) m i = rot f (m - i) m (m + i) := by
  funext p
  unfold rot swr
  (repeat' split) <;> first | (exfalso; omega) | (congr 1; omega) | rfl

theorem PermOn.rot (f : Nat → Int) (a m b : Nat) (h1 : a ≤ m) (h2 : m ≤ b) : PermOn f (rot f a m b) a b := by
  refine ⟨fun p => if p < a ∨ b ≤ p then p else if p < a + (b - m) then p + (m - a) else p - (b - m), fun k hk => by simp only; rw [if_pos hk], fun k h3 h4 => ?_, fun x y h => ?_, fun k => ?_⟩
  · simp only; rw [if_neg (by omega)]; split <;> omega
  · simp only at h
    (repeat' split at h) <;> omega
  · unfold Yteilgnjjfebogaa.rot; simp only; split
    · rfl
    · split <;> rfl

theorem rot_lo (f : Nat → Int) (s m e p : Nat) (h : p < s ∨ e ≤ p) : rot f s m e p = f p := by unfold rot; rw [if_pos h]
theorem rot_mid (f : Nat → Int) (s m e p : Nat) (h1 : s ≤ p) (h2 : p < s + (e - m)) (hm : s ≤ m) (he : m ≤ e) : rot f s m e p = f (p + (m - s)) := by
  unfold rot; rw [if_neg (by omega), if_pos h2]
theorem rot_hi (f : Nat → Int) (s m e p : Nat) (h1 : s + (e - m) ≤ p) (h2 : p < e) (hm : s ≤ m) (he : m ≤ e) : rot f s m e p = f (p - (e - m)) := by
  unfold rot; rw [if_neg (by omega), if_neg (by omega)]

/-- All of [a, c) is ahead of all of [c, b). -/
def Ahead (R : Int → Int → Prop) (f : Nat → Int) (a c b : Nat) : Prop := ∀ p q, a ≤ p → p < c → c ≤ q → q < b → R (f p) (f q)

theorem rise_join {R : Int → Int → Prop} {f : Nat → Int} {a c b : Nat} (h1 : RiseOn R f a c) (h2 : RiseOn R f c b) (h : Ahead R f a c b) : RiseOn R f a b := by
  intro i j hi hij hj
  rcases Nat.lt_or_ge j c with h3 | h3
  · exact h1 i j hi hij h3
  · rcases Nat.lt_or_ge i c with h4 | h4
    · exact h i j hi h4 h3 hj
    · exact h2 i j h4 hij hj

/-- What stands where behind a rotation. -/
theorem rot_ahead {R : Int → Int → Prop} {f : Nat → Int} {a s m e b : Nat} (has : a ≤ s) (hsm : s ≤ m) (hme : m ≤ e) (heb : e ≤ b)
    (c1 : ∀ p q, a ≤ p → p < s → s ≤ q → q < m → R (f p) (f q)) (c2 : ∀ p q, a ≤ p → p < s → e ≤ q → q < b → R (f p) (f q))
    (c3 : ∀ p q, s ≤ p → p < m → m ≤ q → q < e → R (f q) (f p)) (c4 : ∀ p q, m ≤ p → p < e → e ≤ q → q < b → R (f p) (f q)) :
    Ahead R (rot f s m e) a (s + (e - m)) b := by
  intro p q h1 h2 h3 h4
  rcases Nat.lt_or_ge p s with hp | hp
  · rw [rot_lo f s m e p (.inl hp)]
    rcases Nat.lt_or_ge q e with hq | hq
    · rw [rot_hi f s m e q h3 hq hsm hme]; exact c1 p _ h1 hp (by omega) (by omega)
    · rw [rot_lo f s m e q (.inr hq)]; exact c2 p q h1 hp hq h4
  · rw [rot_mid f s m e p hp h2 hsm hme]
    rcases Nat.lt_or_ge q e with hq | hq
    · rw [rot_hi f s m e q h3 hq hsm hme]; exact c3 _ _ (by omega) (by omega) (by omega) (by omega)
    · rw [rot_lo f s m e q (.inr hq)]; exact c4 _ q (by omega) (by omega) hq h4
theorem rot_rise_lo {R : Int → Int → Prop} {f : Nat → Int} {a s m e : Nat} (h : RiseOn R f a m) (hsm : s ≤ m) : RiseOn R (rot f s m e) a s := fun i j h1 h2 h3 => by
  rw [rot_lo f s m e i (.inl (by omega)), rot_lo f s m e j (.inl h3)]; exact h i j h1 h2 (by omega)
theorem rot_rise_mid {R : Int → Int → Prop} {f : Nat → Int} {s m e b : Nat} (h : RiseOn R f m b) (hsm : s ≤ m) (hme : m ≤ e) (heb : e ≤ b) : RiseOn R (rot f s m e) s (s + (e - m)) := fun i j h1 h2 h3 => by
  rw [rot_mid f s m e i h1 (by omega) hsm hme, rot_mid f s m e j (by omega) h3 hsm hme]; exact h _ _ (by omega) (by omega) (by omega)
theorem rot_rise_hi {R : Int → Int → Prop} {f : Nat → Int} {a s m e : Nat} (h : RiseOn R f a m) (has : a ≤ s) (hsm : s ≤ m) (hme : m ≤ e) : RiseOn R (rot f s m e) (s + (e - m)) e := fun i j h1 h2 h3 => by
  rw [rot_hi f s m e i h1 (by omega) hsm hme, rot_hi f s m e j (by omega) h3 hsm hme]; exact h _ _ (by omega) (by omega) (by omega)
theorem rot_rise_end {R : Int → Int → Prop} {f : Nat → Int} {s m e b : Nat} (h : RiseOn R f m b) (hme : m ≤ e) : RiseOn R (rot f s m e) e b := fun i j h1 h2 h3 => by
  rw [rot_lo f s m e i (.inr h1), rot_lo f s m e j (.inr (by omega))]; exact h i j (by omega) h2 h3

/-- Two rising runs of which the first one's places are ahead as numbers: what symMerge is handed. -/
structure Runs (R : Int → Int → Prop) (f : Nat → Int) (a m b : Nat) : Prop where
  lo : RiseOn R f a m
  hi : RiseOn R f m b
  idx : Ahead (fun x y => x < y) f a m b

/-- One of the left run moved behind those of the right run that are ahead of it. -/
theorem Runs.ins_left {R : Int → Int → Prop} {f : Nat → Int} {a b i : Nat} (h : Runs R f a (a + 1) b) (h1 : a + 1 ≤ i) (h2 : i ≤ b)
    (hlo : ∀ k, a + 1 ≤ k → k < i → R (f k) (f a)) (hhi : ∀ k, i ≤ k → k < b → R (f a) (f k)) : RiseOn R (rot f a (a + 1) i) a b := by
  have c := rot_ahead (R := R) (f := f) (a := a) (s := a) (m := a + 1) (e := i) (b := b) (Nat.le_refl _) (by omega) h1 h2 (fun p q h3 h4 => by omega) (fun p q h3 h4 => by omega)
    (fun p q h3 h4 h5 h6 => by obtain rfl : p = a := by omega
                               exact hlo q h5 h6) (fun p q h3 h4 h5 h6 => h.hi p q h3 (by omega) h6)
  refine rise_join (rot_rise_mid h.hi (by omega) h1 h2) ?_ c
  refine rise_join (c := i) (rot_rise_hi h.lo (Nat.le_refl _) (by omega) h1) (rot_rise_end h.hi h1) ?_
  intro p q h3 h4 h5 h6
  rw [rot_hi f a (a + 1) i p h3 h4 (by omega) h1, rot_lo f a (a + 1) i q (.inr h5), show p - (i - (a + 1)) = a by omega]
  exact hhi q h5 h6
/-- The one of the right run moved ahead of those of the left run that it is ahead of. -/
theorem Runs.ins_right {R : Int → Int → Prop} {f : Nat → Int} {a m i : Nat} (h : Runs R f a m (m + 1)) (h1 : a ≤ i) (h2 : i ≤ m)
    (hlo : ∀ k, a ≤ k → k < i → R (f k) (f m)) (hhi : ∀ k, i ≤ k → k < m → R (f m) (f k)) : RiseOn R (rot f i m (m + 1)) a (m + 1) := by
  have c := rot_ahead (R := R) (f := f) (a := a) (s := i) (m := m) (e := m + 1) (b := m + 1) h1 h2 (by omega) (Nat.le_refl _) (fun p q h3 h4 h5 h6 => h.lo p q h3 (by omega) h6) (fun p q h3 h4 h5 h6 => by omega)
    (fun p q h3 h4 h5 h6 => by obtain rfl : q = m := by omega
                               exact hhi p h3 h4) (fun p q h3 h4 h5 h6 => by omega)
  refine rise_join ?_ (rot_rise_hi h.lo h1 h2 (by omega)) c
  refine rise_join (c := i) (rot_rise_lo h.lo h2) (rot_rise_mid h.hi h2 (by omega) (Nat.le_refl _)) ?_
  intro p q h3 h4 h5 h6
  rw [rot_lo f i m (m + 1) p (.inl h4), rot_mid f i m (m + 1) q h5 h6 h2 (by omega), show q + (m - i) = m by omega]
  exact hlo p h3 h4

/-- Where the two runs are parted: start, and what stands there. -/
structure Parted (R : Int → Int → Prop) (f : Nat → Int) (a m b mid s : Nat) : Prop where
  has : a ≤ s
  hsm : s ≤ m
  hs2 : s ≤ mid
  hse : mid + m - s ≤ b
  lo : s = a ∨ mid + m - s = b ∨ R (f (s - 1)) (f (mid + m - s))
  hi : s = mid ∨ s = m ∨ R (f (mid + m - s - 1)) (f s)

theorem Parted.ahead {R : Int → Int → Prop} {f : Nat → Int} {a m b mid s : Nat} (P : Parted R f a m b mid s) (h : Runs R f a m b) (htr : ∀ x y z, R x y → R y z → R x z) :
    Ahead R (rot f s m (mid + m - s)) a mid b := by
  obtain ⟨h1, h2, h3, h4, h5, h6⟩ := P
  obtain ⟨e, he⟩ : ∃ e, e = mid + m - s := ⟨_, rfl⟩
  rw [← he] at h4 h5 h6 ⊢
  have hle : ∀ p q, a ≤ p → p ≤ q → q < m → p = q ∨ R (f p) (f q) := fun p q u1 u2 u3 => by
    rcases Nat.lt_or_ge p q with u | u
    · exact .inr (h.lo p q u1 u u3)
    · exact .inl (by omega)
  have hge : ∀ p q, m ≤ p → p ≤ q → q < b → p = q ∨ R (f p) (f q) := fun p q u1 u2 u3 => by
    rcases Nat.lt_or_ge p q with u | u
    · exact .inr (h.hi p q u1 u u3)
    · exact .inl (by omega)
  have c := rot_ahead (R := R) (f := f) (a := a) (s := s) (m := m) (e := e) (b := b) h1 h2 (by omega) h4
    (fun p q u1 u2 u3 u4 => h.lo p q u1 (by omega) u4)
    (fun p q u1 u2 u3 u4 => by
      rcases h5 with h5 | h5 | h5
      · omega
      · omega
      · have l1 := hle p (s - 1) u1 (by omega) (by omega)
        have l2 := hge e q (by omega) u3 u4
        have l3 : R (f p) (f e) := by rcases l1 with rfl | l1; exact h5; exact htr _ _ _ l1 h5
        rcases l2 with rfl | l2; exact l3; exact htr _ _ _ l3 l2)
    (fun p q u1 u2 u3 u4 => by
      rcases h6 with h6 | h6 | h6
      · omega
      · omega
      · have l1 := hge q (e - 1) u3 (by omega) (by omega)
        have l2 := hle s p h1 u1 u2
        have l3 : R (f q) (f s) := by rcases l1 with rfl | l1; exact h6; exact htr _ _ _ l1 h6
        rcases l2 with rfl | l2; exact l3; exact htr _ _ _ l3 l2)
    (fun p q u1 u2 u3 u4 => h.hi p q u1 (by omega) u4)
  rw [show s + (e - m) = mid by omega] at c
  exact c

theorem Parted.left {R : Int → Int → Prop} {f : Nat → Int} {a m b mid s : Nat} (P : Parted R f a m b mid s) (h : Runs R f a m b) : Runs R (rot f s m (mid + m - s)) a s mid := by
  have h1 := P.has; have h2 := P.hsm; have h3 := P.hs2; have h4 := P.hse
  have e1 : s + (mid + m - s - m) = mid := by omega
  refine ⟨rot_rise_lo h.lo h2, ?_, fun p q u1 u2 u3 u4 => ?_⟩
  · have := rot_rise_mid (e := mid + m - s) h.hi h2 (by omega) h4; rw [e1] at this; exact this
  · rw [rot_lo f s m _ p (.inl u2), rot_mid f s m _ q u3 (by omega) h2 (by omega)]
    exact h.idx p _ u1 (by omega) (by omega) (by omega)
theorem Parted.right {R : Int → Int → Prop} {f : Nat → Int} {a m b mid s : Nat} (P : Parted R f a m b mid s) (h : Runs R f a m b) : Runs R (rot f s m (mid + m - s)) mid (mid + m - s) b := by
  have h1 := P.has; have h2 := P.hsm; have h3 := P.hs2; have h4 := P.hse
  have e1 : s + (mid + m - s - m) = mid := by omega
  refine ⟨?_, rot_rise_end h.hi (by omega), fun p q u1 u2 u3 u4 => ?_⟩
  · have := rot_rise_hi (e := mid + m - s) h.lo h1 h2 (by omega); rw [e1] at this; exact this
  · rw [rot_hi f s m _ p (by omega) u2 h2 (by omega), rot_lo f s m _ q (.inr u3)]
    exact h.idx _ q (by omega) (by omega) (by omega) u4

/-- Only [a, b) matters. -/
theorem Runs.congr {R : Int → Int → Prop} {f g : Nat → Int} {a m b : Nat} (h : Runs R f a m b) (e : ∀ k, a ≤ k → k < b → g k = f k) (h1 : a ≤ m) (h2 : m ≤ b) : Runs R g a m b :=
  ⟨fun i j u1 u2 u3 => by rw [e i (by omega) (by omega), e j (by omega) (by omega)]; exact h.lo i j u1 u2 u3,
   fun i j u1 u2 u3 => by rw [e i (by omega) (by omega), e j (by omega) (by omega)]; exact h.hi i j u1 u2 u3,
   fun i j u1 u2 u3 u4 => by rw [e i (by omega) (by omega), e j (by omega) (by omega)]; exact h.idx i j u1 u2 u3 u4⟩
theorem RiseOn.congr {R : Int → Int → Prop} {f g : Nat → Int} {a b : Nat} (h : RiseOn R f a b) (e : ∀ k, a ≤ k → k < b → g k = f k) : RiseOn R g a b :=
  fun i j u1 u2 u3 => by rw [e i (by omega) (by omega), e j (by omega) (by omega)]; exact h i j u1 u2 u3
/-- A run on either side of c may be put in another order. -/
theorem Ahead.perm {R : Int → Int → Prop} {f g : Nat → Int} {a c b : Nat} (h : Ahead R f a c b) (h1 : PermOn f g a c) : Ahead R g a c b := fun p q u1 u2 u3 u4 => by
  rw [h1.out (.inr u3)]
  exact h1.all (Q := fun x => R x (f q)) (fun k v1 v2 => h k q v1 v2 u3 u4) p u1 u2
theorem Ahead.perm2 {R : Int → Int → Prop} {f g : Nat → Int} {a c b : Nat} (h : Ahead R f a c b) (h1 : PermOn f g c b) : Ahead R g a c b := fun p q u1 u2 u3 u4 => by
  rw [h1.out (.inl u2)]
  exact h1.all (Q := fun x => R (f p) x) (fun k v1 v2 => h p k u1 u2 v1 v2) q u3 u4

theorem rot_left (f : Nat → Int) (a k : Nat) (h : a ≤ k) : swp (rot f a (a + 1) (k + 1)) k (k + 1) = rot f a (a + 1) (k + 1 + 1) := by
  funext p
  unfold swp rot
  (repeat' split) <;> first | (exfalso; omega) | (congr 1; omega) | rfl
theorem rot_right (f : Nat → Int) (m k : Nat) (h : k + 1 ≤ m) : swp (rot f (k + 1) m (m + 1)) (k + 1) k = rot f k m (m + 1) := by
  funext p
  unfold swp rot
  (repeat' split) <;> first | (exfalso; omega) | (congr 1; omega) | rfl
theorem rot_nil_left (f : Nat → Int) (a : Nat) : rot f a (a + 1) (a + 1) = f := by
  funext p
  unfold rot
  (repeat' split) <;> first | (exfalso; omega) | (congr 1; omega) | rfl
theorem rot_nil_right (f : Nat → Int) (m : Nat) : rot f m m (m + 1) = f := by
  funext p
  unfold rot
  (repeat' split) <;> first | (exfalso; omega) | (congr 1; omega) | rfl

theorem rot_triv (f : Nat → Int) (s m e : Nat) (hsm : s ≤ m) (hme : m ≤ e) (h : ¬ (s < m ∧ m < e)) : rot f s m e = f := by
  funext p
  unfold rot
  (repeat' split) <;> first | (exfalso; omega) | (congr 1; omega) | rfl
/-- The two halves behind the parting, each put in order. -/
theorem Parted.done {R : Int → Int → Prop} {f f1 f2 : Nat → Int} {a m b mid s : Nat} (P : Parted R f a m b mid s) (h : Runs R f a m b) (htr : ∀ x y z, R x y → R y z → R x z)
    (p1 : PermOn (rot f s m (mid + m - s)) f1 a mid) (r1 : RiseOn R f1 a mid) (p2 : PermOn f1 f2 mid b) (r2 : RiseOn R f2 mid b) (ham : a ≤ mid) (hmb : mid ≤ b) : PermOn f f2 a b ∧ RiseOn R f2 a b := by
  have hA := P.ahead h htr
  have h1 := P.has; have h2 := P.hsm; have h3 := P.hs2; have h4 := P.hse
  refine ⟨((PermOn.rot f s m (mid + m - s) h2 (by omega)).mono h1 h4).trans ((p1.mono (Nat.le_refl _) hmb).trans (p2.mono ham (Nat.le_refl _))), ?_⟩
  exact rise_join (r1.congr fun k u1 u2 => p2.out (.inl u2)) r2 ((hA.perm p1).perm2 p2)
/-- A half of which one part is empty is in order already. -/
theorem Runs.rise_of {R : Int → Int → Prop} {f : Nat → Int} {a m b : Nat} (h : Runs R f a m b) (hn : ¬ (a < m ∧ m < b)) (h1 : a ≤ m) (h2 : m ≤ b) : RiseOn R f a b := by
  by_cases e : a = m
  · subst e; exact h.hi
  · have : m = b := by omega
    subst this; exact h.lo
end Go.Proofs.Yteilgnjjfebogaa
