import Derived.Test.YteilgnjjfebogaaB
import Derived.Test.YteilgnjjfebogaaH
import Derived.BigRegion
import Derived.RegionTactic
namespace Go.Proofs.Yteilgnjjfebogaa
set_option linter.unusedVariables false
set_option linter.unusedSimpArgs false
open Go.RowKit

/-! ### The sort: its closure; insertion -/
/-- What the closure says of two places. -/
def cmpL (l : List Nat) (x y : Int) : Int := if lessB (at0 l x.toNat) (at0 l y.toNat) = true then -1 else if lessB (at0 l y.toNat) (at0 l x.toNat) = true then 1 else 0

theorem cmp_any (l : List Nat) (A : Option Addr) (c : Nat) (p : Addr) (x y : Int) (hx0 : 0 ≤ x) (hx : x < l.length) (hy0 : 0 ≤ y) (hy : y < l.length) (hm : l.length ≤ 1152921504606846976) (w : World)
    (hp : w.cell? p = some (.slice A l.length c)) (hr : RowF w A l.length (fun k => .float .f64 (at0 l k))) :
    Calls Try.prog 33 #[.int .i64 x, .int .i64 y, .pointer (some p)] w fun e w' => e = .returned (.int .i64 (cmpL l x y)) ∧ Drw w w' := by
  obtain ⟨b, off, e1, hcx⟩ := hr x.toNat (by omega)
  obtain ⟨b', off', e2, hcy⟩ := hr y.toNat (by omega)
  subst e1
  cases e2
  clear hr
  unfold cmpL
  cases h1 : lessB (at0 l x.toNat) (at0 l y.toNat) with
  | true =>
    have H1 := Lib.hid h1
    clear h1
    go_enter Try.func33, Try.ntmps33
    go_wp2_with fail
    go_quiet ((go_at_call 14; exact Calls.quiet_eq ((less_any _ _ _).mono fun e w' h => by rw [H1.out] at h; exact h)))
    go_wp2
    go_ret
    exact ⟨rfl, _, rfl⟩
  | false =>
    cases h2 : lessB (at0 l y.toNat) (at0 l x.toNat) <;>
    · have H1 := Lib.hid h1
      have H2 := Lib.hid h2
      clear h1 h2
      go_enter Try.func33, Try.ntmps33
      go_wp2_with fail
      go_quiet ((go_at_call 14; exact Calls.quiet_eq ((less_any _ _ _).mono fun e w' h => by rw [H1.out] at h; exact h)))
      have HW : Drw w (w.drewN nq) := ⟨_, rfl⟩
      have hp2 : (w.drewN nq).cell? p = some (.slice (some ⟨b, off, none⟩) l.length c) := hp
      have hcx2 : (w.drewN nq).cell? ⟨b, off + x.toNat, none⟩ = some (.float .f64 (at0 l x.toNat)) := hcx
      have hcy2 : (w.drewN nq).cell? ⟨b, off + y.toNat, none⟩ = some (.float .f64 (at0 l y.toNat)) := hcy
      clear hp hcx hcy
      generalize w.drewN nq = w2 at *
      go_wp2_with fail
      go_quiet ((go_at_call 14; exact Calls.quiet_eq ((less_any _ _ _).mono fun e w' h => by rw [H2.out] at h; exact h)))
      go_wp2
      go_ret
      exact ⟨rfl, HW.drewN _⟩

/-! ### The worlds that the sort passes through -/
/-- w is w0 but for draws, and for what block g holds: the n places that f tells. -/
structure SW (w0 : World) (g n : Nat) (f : Nat → Int) (w : World) : Prop where
  os : w.os = w0.os
  tape : w.tape = w0.tape
  output : w.output = w0.output
  size : w.heap.size = w0.heap.size
  other : ∀ k, k ≠ g → w.heap[k]? = w0.heap[k]?
  blk : ∃ cs : Array Value, w.heap[g]? = some (.cells cs 3 (0, 0)) ∧ cs.size = n ∧ ∀ k, k < n → cs[k]? = some (.int .i64 (f k))

theorem SW.drewN {w0 : World} {g n : Nat} {f : Nat → Int} {w : World} (h : SW w0 g n f w) (m : Nat) : SW w0 g n f (w.drewN m) := ⟨h.os, h.tape, h.output, h.size, h.other, h.blk⟩
theorem SW.drew {w0 : World} {g n : Nat} {f : Nat → Int} {w : World} (h : SW w0 g n f w) : SW w0 g n f w.drew := ⟨h.os, h.tape, h.output, h.size, h.other, h.blk⟩
theorem SW.drw {w0 : World} {g n : Nat} {f : Nat → Int} {w w' : World} (h : SW w0 g n f w) (hd : Drw w w') : SW w0 g n f w' := by obtain ⟨m, rfl⟩ := hd; exact h.drewN m
theorem SW.cell {w0 : World} {g n : Nat} {f : Nat → Int} {w : World} (h : SW w0 g n f w) {k : Nat} (hk : k < n) : w.cell? ⟨g, k, none⟩ = some (.int .i64 (f k)) := by
  obtain ⟨cs, h1, h2, h3⟩ := h.blk
  unfold World.cell?
  simp only [h1]
  exact h3 k hk
theorem SW.free {w0 : World} {g n : Nat} {f : Nat → Int} {w : World} (h : SW w0 g n f w) (k : Nat) : w.frozen? ⟨g, k, none⟩ = false := by
  obtain ⟨cs, h1, h2, h3⟩ := h.blk
  unfold World.frozen?
  simp [h1]
theorem SW.far {w0 : World} {g n : Nat} {f : Nat → Int} {w : World} (h : SW w0 g n f w) {p : Addr} (hp : p.block ≠ g) : w.cell? p = w0.cell? p := World.cell?_of_block (w := w0) (h.other p.block hp)
theorem SW.set {w0 : World} {g n : Nat} {f : Nat → Int} {w : World} (h : SW w0 g n f w) {k : Nat} (hk : k < n) (x : Int) : SW w0 g n (fun j => if j = k then x else f j) (w.setCell ⟨g, k, none⟩ (.int .i64 x)) := by
  obtain ⟨cs, h1, h2, h3⟩ := h.blk
  have hlt : g < w.heap.size := by
    rcases Nat.lt_or_ge g w.heap.size with hlt | hge
    · exact hlt
    · rw [Array.getElem?_eq_none hge] at h1; cases h1
  refine ⟨h.os, h.tape, h.output, by simp [World.setCell, h.size], fun j hj => by rw [Below.heap_setCell w _ _ j hj]; exact h.other j hj, cs.setIfInBounds k (.int .i64 x), ?_, by simp [h2], fun j hj => ?_⟩
  · simp [World.setCell, Array.getElem?_modify, h1]
  · rw [Array.getElem?_setIfInBounds]
    by_cases e : k = j
    · subst e; simp [h2, hk]
    · rw [if_neg e, if_neg (by omega)]; exact h3 j hj
theorem SW.congr {w0 : World} {g n : Nat} {f f' : Nat → Int} {w : World} (h : SW w0 g n f w) (e : ∀ k, k < n → f' k = f k) : SW w0 g n f' w := by
  obtain ⟨cs, h1, h2, h3⟩ := h.blk
  exact ⟨h.os, h.tape, h.output, h.size, h.other, cs, h1, h2, fun k hk => by rw [e k hk]; exact h3 k hk⟩
/-- Two places exchanged. -/
theorem SW.swp {w0 : World} {g n : Nat} {f : Nat → Int} {w : World} (h : SW w0 g n f w) {i j : Nat} (hi : i < n) (hj : j < n) (hne : i ≠ j) :
    SW w0 g n (swp f i j) ((w.setCell ⟨g, i, none⟩ (.int .i64 (f j))).setCell ⟨g, j, none⟩ (.int .i64 (f i))) :=
  ((h.set hi (f j)).set hj (f i)).congr fun k hk => by
    rw [swp_apply]
    (repeat' split) <;> first | rfl | (exfalso; omega)

set_option maxHeartbeats 1000000 in
set_option maxRecDepth 100000 in
theorem swapRange_any (w0 : World) (g n cap : Nat) (hn : n ≤ 1152921504606846976) (f : Nat → Int) (a b c : Nat) (ha : a + c ≤ n) (hb : b + c ≤ n) (hab : a + c ≤ b ∨ b + c ≤ a) (fv : Value) (w : World) (h : SW w0 g n f w) :
    Calls Try.prog 40 #[.slice (some ⟨g, 0, none⟩) n cap, .int .i64 a, .int .i64 b, .int .i64 c, fv] w fun e w' => e = .returned (.tuple #[]) ∧ SW w0 g n (swr f a b c) w' := by
  have H0 := Lib.hid h
  clear h
  go_enter Try.func40, Try.ntmps40
  go_wp2
  go_loopw [10] (fun i wr => ∃ k : Nat, k ≤ c ∧ i = .int .i64 k ∧ SW w0 g n (swr f a b k) wr) (fun i _ => c - (intOf i).toNat)
  case atStart => exact ⟨0, Nat.zero_le _, rfl, by rw [swr_zero]; exact H0.out⟩
  case round =>
    obtain ⟨k, hk, rfl, HS⟩ := hrel
    clear H0
    by_cases hlt : k < c
    · obtain ⟨i, hi⟩ : ∃ i, i = a + k := ⟨_, rfl⟩
      obtain ⟨j, hj⟩ : ∃ j, j = b + k := ⟨_, rfl⟩
      have c1 := HS.cell (k := i) (by omega)
      have c2 := HS.cell (k := j) (by omega)
      have f1 := HS.free i
      have f2 := HS.free j
      have e1 : (a : Int) + (k : Int) = (i : Int) := by omega
      have e2 : (b : Int) + (k : Int) = (j : Int) := by omega
      have p1 : (i : Int) < (n : Int) := by omega
      have p2 : (j : Int) < (n : Int) := by omega
      have p5 : i ≠ j := by omega
      have HI := Lib.hid hi
      have HJ := Lib.hid hj
      clear hi hj
      go_wp2
      go_region
      go_wp2
      go_roundw
      case rel =>
        refine ⟨k + 1, by omega, by go_num, ?_⟩
        rw [← swr_succ f a b k c hlt hab, ← HI.out, ← HJ.out]
        exact (HS.swp (by omega) (by omega) p5).drew
      case measure => simp [intOf]; omega
    · go_wp2
      go_end0
      have : k = c := by omega
      subst this
      exact ⟨rfl, HS⟩

set_option maxRecDepth 100000 in
theorem rotate_any (w0 : World) (g n cap : Nat) (hn : n ≤ 1152921504606846976) (f : Nat → Int) (a m b : Nat) (ham : a < m) (hmb : m < b) (hb : b ≤ n) (fv : Value) (w : World) (h : SW w0 g n f w) :
    Calls Try.prog 39 #[.slice (some ⟨g, 0, none⟩) n cap, .int .i64 a, .int .i64 m, .int .i64 b, fv] w fun e w' => e = .returned (.tuple #[]) ∧ SW w0 g n (rot f a m b) w' := by
  have H0 := Lib.hid h
  clear h
  have e1 : (m : Int) - (a : Int) = ((m - a : Nat) : Int) := by omega
  have e2 : (b : Int) - (m : Int) = ((b - m : Nat) : Int) := by omega
  go_enter Try.func39, Try.ntmps39
  go_wp2
  go_loopw [10, 11] (fun vi vj wr => ∃ (i j : Nat) (f1 : Nat → Int), vi = .int .i64 i ∧ vj = .int .i64 j ∧ 0 < i ∧ 0 < j ∧ i ≤ m - a ∧ j ≤ b - m ∧ SW w0 g n f1 wr ∧ Hid (rot f1 (m - i) m (m + j) = rot f a m b)) (fun vi vj _ => (intOf vi).toNat + (intOf vj).toNat)
  case atStart => exact ⟨m - a, b - m, f, rfl, rfl, by omega, by omega, by omega, by omega, H0.out, by rw [show m - (m - a) = a by omega, show m + (b - m) = b by omega]; rfl⟩
  case round =>
    obtain ⟨i, j, f1, rfl, rfl, hi0, hj0, hi1, hj1, HS, HF⟩ := hrel
    clear H0 e1 e2
    have e3 : (m : Int) - (i : Int) = ((m - i : Nat) : Int) := by omega
    rcases Nat.lt_trichotomy i j with hij | hij | hij
    · obtain ⟨mj, hmj⟩ : ∃ mj, mj = m + j := ⟨_, rfl⟩
      have e4 : (m : Int) + (j : Int) = (mj : Int) := by omega
      have e5 : (mj : Int) - (i : Int) = ((mj - i : Nat) : Int) := by omega
      have HMJ := Lib.hid hmj
      clear hmj
      have e6 : (j : Int) - (i : Int) = ((j - i : Nat) : Int) := by omega
      go_wp2_with (go_at_call 40; refine (swapRange_any w0 g n cap hn f1 (m - i) (mj - i) i (by omega) (by omega) (by omega) _ _ HS).mono ?_; rintro e w' ⟨rfl, HS2⟩)
      go_roundw
      case rel => exact ⟨i, j - i, _, by first | rfl | go_num, by first | rfl | go_num, by omega, by omega, by omega, by omega, HS2, by rw [HMJ.out, rot_lt f1 m i j hi0 hij (by omega)]; exact HF.out⟩
      case measure => simp [intOf]; omega
    · subst hij
      go_wp2_with (go_at_call 40; refine (swapRange_any w0 g n cap hn f1 (m - i) m i (by omega) (by omega) (by omega) _ _ HS).mono ?_; rintro e w' ⟨rfl, HS2⟩)
      go_end0
      refine ⟨rfl, ?_⟩
      rw [← HF.out, ← rot_eq f1 m i (by omega)]
      exact HS2
    · have e6 : (i : Int) - (j : Int) = ((i - j : Nat) : Int) := by omega
      go_wp2_with (go_at_call 40; refine (swapRange_any w0 g n cap hn f1 (m - i) m j (by omega) (by omega) (by omega) _ _ HS).mono ?_; rintro e w' ⟨rfl, HS2⟩)
      go_roundw
      case rel => exact ⟨i - j, j, _, by first | rfl | go_num, by first | rfl | go_num, by omega, by omega, by omega, by omega, HS2, by rw [rot_gt f1 m i j hj0 hij (by omega)]; exact HF.out⟩
      case measure => simp [intOf]; omega

/-- What is asked of the closure, in all worlds that the sort passes through. -/
def CmpOK (w0 : World) (g n : Nat) (p : Addr) (cf : Int → Int → Int) : Prop :=
  ∀ (f : Nat → Int) (w : World) (x y : Int), SW w0 g n f w → 0 ≤ x → x < n → 0 ≤ y → y < n →
    Calls Try.prog 33 #[.int .i64 x, .int .i64 y, .pointer (some p)] w fun e w' => e = .returned (.int .i64 (cf x y)) ∧ Drw w w'
/-- The order: of two places the greater one is ahead just if the closure says so. -/
structure OrdOK (n : Nat) (cf : Int → Int → Int) (R : Int → Int → Prop) : Prop where
  lt : ∀ x y : Int, 0 ≤ x → x < n → 0 ≤ y → y < n → x < y → (cf y x < 0 ↔ R y x)
  not_ : ∀ x y : Int, 0 ≤ x → x < n → 0 ≤ y → y < n → x < y → ¬ R y x → R x y
  trans : ∀ x y z : Int, R x y → R y z → R x z
def Rng (n : Nat) (f : Nat → Int) : Prop := ∀ k, k < n → 0 ≤ f k ∧ f k < n
theorem Rng.perm {n : Nat} {f h : Nat → Int} {a b : Nat} (r : Rng n f) (p : PermOn f h a b) (hb : b ≤ n) : Rng n h := fun k hk => by
  by_cases e : a ≤ k ∧ k < b
  · exact p.all (Q := fun x => 0 ≤ x ∧ x < n) (fun j h1 h2 => r j (by omega)) k e.1 e.2
  · rw [p.out (by omega)]; exact r k hk

set_option maxHeartbeats 1000000 in
set_option maxRecDepth 100000 in
theorem insertion_any (w0 : World) (g n cap : Nat) (hn : n ≤ 1152921504606846976) (p : Addr) (cf : Int → Int → Int) (R : Int → Int → Prop) (hc : CmpOK w0 g n p cf) (ho : OrdOK n cf R)
    (f : Nat → Int) (a b : Nat) (hab : a ≤ b) (hb : b ≤ n) (hr : Rng n f) (hidx : ∀ i j, a ≤ i → i < j → j < b → f i < f j) (w : World) (h : SW w0 g n f w) :
    Calls Try.prog 37 #[.slice (some ⟨g, 0, none⟩) n cap, .int .i64 a, .int .i64 b, .func (.func 33) #[] #[.pointer (some p)]] w
      fun e w' => e = .returned (.tuple #[]) ∧ ∃ f', SW w0 g n f' w' ∧ PermOn f f' a b ∧ RiseOn R f' a b := by
  have H0 := Lib.hid h
  have HC := Lib.hid hc
  have HO := Lib.hid ho
  have HI := Lib.hid hidx
  clear h hc ho hidx
  go_enter Try.func37, Try.ntmps37
  go_wp2
  go_loopw [8] (fun vi wr => ∃ (i : Nat) (fi : Nat → Int), vi = .int .i64 i ∧ a < i ∧ i ≤ b + 1 ∧ SW w0 g n fi wr ∧ (i ≤ b → PermOn f fi a i) ∧ PermOn f fi a b ∧ RiseOn R fi a i) (fun vi _ => b + 1 - (intOf vi).toNat)
  case atStart => exact ⟨a + 1, f, by go_num, by omega, by omega, H0.out, fun _ => PermOn.refl _ _ _, PermOn.refl _ _ _, fun i j h1 h2 h3 => by omega⟩
  case round =>
    obtain ⟨i, fi, rfl, hai, hib, HS, hp1, hp2, hri⟩ := hrel
    clear H0
    have HP1 := Lib.hid hp1
    have HP2 := Lib.hid hp2
    have HR := Lib.hid hri
    clear hp1 hp2 hri
    by_cases hlt : i < b
    · go_wp2
      have hst : InsIn R (f i) a i i fi := InsIn.start HR.out (HP1.out (by omega)) (fun k h1 h2 => HI.out k i h1 h2 hlt)
      have HST := Lib.hid hst
      clear hst
      obtain ⟨wo, rfl⟩ : ∃ wo : World, wo = wr := ⟨_, rfl⟩
      go_loopw [9] (fun vj wr2 => ∃ (j : Nat) (fj : Nat → Int), vj = .int .i64 j ∧ a ≤ j ∧ j ≤ i ∧ SW w0 g n fj wr2 ∧ InsIn R (f i) a i j fj ∧ PermOn f fj a (i + 1)) (fun vj _ => (intOf vj).toNat)
      case atStart => exact ⟨i, fi, rfl, by omega, Nat.le_refl _, HS, HST.out, (HP1.out (by omega)).mono (Nat.le_refl _) (by omega)⟩
      case round =>
        obtain ⟨j, fj, rfl, haj, hji, HSj, hin, hpj⟩ := hrel
        clear HS
        have HIN := Lib.hid hin
        have HPJ := Lib.hid hpj
        clear hin hpj
        by_cases hja : a < j
        · obtain ⟨jp, rfl⟩ : ∃ jp, j = jp + 1 := ⟨j - 1, by omega⟩
          have hrj := hr.perm (HPJ.out) (by omega)
          have r1 := hrj (jp + 1) (by omega)
          have r2 := hrj jp (by omega)
          have hix : fj jp < fj (jp + 1) := by have := HIN.out; rw [this.1]; exact this.2.2.2 jp (by omega) (by omega) (by omega)
          have hiff := HO.out.lt (fj jp) (fj (jp + 1)) r2.1 r2.2 r1.1 r1.2 hix
          have hnot := HO.out.not_ (fj jp) (fj (jp + 1)) r2.1 r2.2 r1.1 r1.2 hix
          have c1 := HSj.cell (k := jp + 1) (by omega)
          have c2 := HSj.cell (k := jp) (by omega)
          have f1 := HSj.free (jp + 1)
          have f2 := HSj.free jp
          obtain ⟨x, hx⟩ : ∃ x, x = fj (jp + 1) := ⟨_, rfl⟩
          obtain ⟨y, hy⟩ : ∃ y, y = fj jp := ⟨_, rfl⟩
          rw [← hx] at c1 r1 hiff hnot
          rw [← hy] at c2 r2 hiff hnot
          have HX := Lib.hid hx
          have HY := Lib.hid hy
          have HIF := Lib.hid hiff
          have HNO := Lib.hid hnot
          obtain ⟨x1, x2⟩ := r1
          obtain ⟨y1, y2⟩ := r2
          have hcm := fun q => HC.out fj (wr.drewN q) x y (HSj.drewN q) x1 x2 y1 y2
          have HCM := Lib.hid hcm
          have q1 : (a : Int) < (jp : Int) + 1 := by omega
          have q2 : (jp : Int) + 1 < (n : Int) := by omega
          have q3 : (jp : Int) < (n : Int) := by omega
          clear hx hy hiff hnot hcm hrj hix
          by_cases hlv : cf x y < 0
          · go_wp2_with fail
            go_quiet ((go_at_call 33; exact Calls.quiet_drw (HCM.out _)))
            have HS2 := HSj.drewN nq
            have c12 : (wr.drewN nq).cell? ⟨g, jp + 1, none⟩ = some (.int .i64 x) := c1
            have c22 : (wr.drewN nq).cell? ⟨g, jp, none⟩ = some (.int .i64 y) := c2
            have f12 : (wr.drewN nq).frozen? ⟨g, jp + 1, none⟩ = false := f1
            have f22 : (wr.drewN nq).frozen? ⟨g, jp, none⟩ = false := f2
            clear c1 c2 f1 f2 HCM HSj
            generalize wr.drewN nq = w2 at *
            go_wp2_with fail
            go_region
            go_wp2
            go_roundw
            case measure => simp [intOf] <;> omega
            case rel =>
              refine ⟨jp, swp fj (jp + 1) jp, by first | rfl | go_num, by omega, by omega, ?_, HIN.out.step (by omega) (by omega) ?_, HPJ.out.trans (PermOn.swp _ (by omega) (by omega) (by omega) (by omega))⟩
              · have := (HS2.swp (i := jp + 1) (j := jp) (by omega) (by omega) (by omega)).drew
                rw [← HX.out, ← HY.out] at this
                exact this
              · have := HIF.out.1 hlv
                rw [← HY.out]
                have h1 := HIN.out.1
                rw [← HX.out] at h1
                rw [← h1]
                exact this
          · go_wp2_with fail
            go_quiet ((go_at_call 33; exact Calls.quiet_drw (HCM.out _)))
            go_wp2
            have hd := HIN.out.done (R := R) HO.out.trans hji (.inr (by
              have := HNO.out (fun hR => absurd (HIF.out.2 hR) (by omega))
              have h1 := HIN.out.1
              rw [← HX.out] at h1
              rw [← h1, Nat.add_sub_cancel, ← HY.out]
              exact this))
            go_roundw
            case measure => simp [intOf] <;> omega
            case rel => exact ⟨i + 1, fj, by go_num, by omega, by omega, HSj.drewN _, fun _ => HPJ.out, HPJ.out.mono (Nat.le_refl _) (by omega), hd⟩
        · have hja' : decide ((a : Int) < (j : Int)) = false := decide_eq_false (by omega)
          go_wp2_with fail
          go_quiet (fail)
          go_wp2
          have hd := HIN.out.done (R := R) HO.out.trans hji (.inl (by omega))
          go_roundw
          case measure => simp [intOf] <;> omega
          case rel => exact ⟨i + 1, fj, by go_num, by omega, by omega, HSj.drewN _, fun _ => HPJ.out, HPJ.out.mono (Nat.le_refl _) (by omega), hd⟩
    · go_wp2
      go_end0
      exact ⟨rfl, fi, HS, HP2.out, HR.out.part (Nat.le_refl _) (by omega)⟩
end Go.Proofs.Yteilgnjjfebogaa
