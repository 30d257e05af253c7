import Derived.Test.YteilgnjjfebogaaD
namespace Go.Proofs.Yteilgnjjfebogaa
set_option linter.unusedVariables false
set_option linter.unusedSimpArgs false
open Go.RowKit

/-- What symMerge is said to do, at one place. -/
def SymOK (w0 : World) (g n cap : Nat) (p : Addr) (R : Int → Int → Prop) (a m b : Nat) : Prop :=
  ∀ (f : Nat → Int) (w : World), Rng n f → Runs R f a m b → SW w0 g n f w →
    Calls Try.prog 38 #[.slice (some ⟨g, 0, none⟩) n cap, .int .i64 a, .int .i64 m, .int .i64 b, .func (.func 33) #[] #[.pointer (some p)]] w
      fun e w' => e = .returned (.tuple #[]) ∧ ∃ f', SW w0 g n f' w' ∧ PermOn f f' a b ∧ RiseOn R f' a b

set_option maxHeartbeats 8000000 in
set_option maxRecDepth 100000 in
theorem sym_main_A (w0 : World) (g n cap : Nat) (hn : n ≤ 1152921504606846976) (p : Addr) (cf : Int → Int → Int) (R : Int → Int → Prop) (hc : CmpOK w0 g n p cf) (ho : OrdOK n cf R)
    (a m b : Nat) (ham : a + 1 < m) (hmb : m + 1 < b) (hb : b ≤ n) (hmid : (a + b) / 2 < m)
    (IH : ∀ a' m' b' : Nat, b' - a' < b - a → a' < m' → m' < b' → b' ≤ n → SymOK w0 g n cap p R a' m' b') : SymOK w0 g n cap p R a m b := by
  intro f w hr hruns h
  have H0 := Lib.hid h
  have HC := Lib.hid hc
  have HO := Lib.hid ho
  have HRU := Lib.hid hruns
  have HR := Lib.hid hr
  have HIH := Lib.hid IH
  clear h hc ho hruns hr IH
  have t0 : ((m : Int) - (a : Int) == 1) = false := by simp; omega
  have t1 : ((b : Int) - (m : Int) == 1) = false := by simp; omega
  obtain ⟨mid, hmd⟩ : ∃ mid, mid = (a + b) / 2 := ⟨_, rfl⟩
  obtain ⟨N, hN⟩ : ∃ N, N = mid + m := ⟨_, rfl⟩
  obtain ⟨P, hP⟩ : ∃ P, P = N - 1 := ⟨_, rfl⟩
  rw [← hmd] at hmid
  have em : ((a : Int) + (b : Int)) / 2 = (mid : Int) := by omega
  have eN : (mid : Int) + (m : Int) = (N : Int) := by omega
  have eP : (N : Int) - 1 = (P : Int) := by omega
  have ham2 : a < mid := by omega
  have hmb2 : mid < b := by omega
  obtain ⟨s0, hs0⟩ : ∃ s0, s0 = N - b := ⟨_, rfl⟩
  have es0 : (N : Int) - (b : Int) = (s0 : Int) := by omega
  have tm : (mid : Int) < (m : Int) := by omega
  have k1 : a ≤ s0 := by omega
  have k2 : s0 ≤ mid := by omega
  have k3 : N - s0 ≤ b := by omega
  have k4 : s0 = a ∨ N - s0 = b := by omega
  have k5 : ∀ c, s0 ≤ c → c < mid → m ≤ P - c ∧ P - c < b ∧ c ≤ P := fun c h1 h2 => by omega
  have HN := Lib.hid hN
  have HP := Lib.hid hP
  have K5 := Lib.hid k5
  have K4 := Lib.hid k4
  have K1 := Lib.hid k1
  have K3 := Lib.hid k3
  have HMM := Lib.hid hmid
  have HAMB := Lib.hid (And.intro ham2 hmb2)
  clear hmd hN hP k5 k4 k1 k3 hmid ham2 hmb2 hs0
  go_enter Try.func38, Try.ntmps38
  go_wp2
  go_loopw [20, 21] (fun vi vj wr => ∃ (i j : Nat), vi = .int .i64 i ∧ vj = .int .i64 j ∧ s0 ≤ i ∧ i ≤ j ∧ j ≤ mid ∧ SW w0 g n f wr ∧ Hid (i = s0 ∨ R (f (i - 1)) (f (N - i))) ∧ Hid (j = mid ∨ R (f (N - 1 - j)) (f j))) (fun vi vj _ => (intOf vj).toNat - (intOf vi).toNat)
  case atStart => exact ⟨s0, mid, rfl, rfl, Nat.le_refl _, k2, Nat.le_refl _, H0.out, .inl rfl, .inl rfl⟩
  case round =>
    obtain ⟨i, j, rfl, rfl, hai, hij, hjb, HS, HL, HU⟩ := hrel
    clear H0
    by_cases hlt : i < j
    · obtain ⟨c, hm⟩ : ∃ c : Nat, c = (i + j) / 2 := ⟨_, rfl⟩
      have em2 : ((i : Int) + (j : Int)) / 2 = (c : Int) := by omega
      have him : i ≤ c := by omega
      have hmj : c < j := by omega
      clear hm
      obtain ⟨u1, u2, u3⟩ := K5.out c (by omega) (by omega)
      obtain ⟨q, hq⟩ : ∃ q, q = P - c := ⟨_, rfl⟩
      have eq1 : (P : Int) - (c : Int) = (q : Int) := by omega
      have hcm0 : c < m := by have := HMM.out; omega
      have hr := HR.out
      have r1 := hr q (by omega)
      have r2 := hr c (by omega)
      have hix : f c < f q := HRU.out.idx c q (by have := K1.out; omega) hcm0 (by omega) (by omega)
      have hiff := HO.out.lt (f c) (f q) r2.1 r2.2 r1.1 r1.2 hix
      have hnot := HO.out.not_ (f c) (f q) r2.1 r2.2 r1.1 r1.2 hix
      have hcm := fun z => HC.out f (wr.drewN z) (f q) (f c) (HS.drewN z) r1.1 r1.2 r2.1 r2.2
      have c1 := HS.cell (k := q) (by omega)
      have c2 := HS.cell (k := c) (by omega)
      obtain ⟨x, hx⟩ : ∃ x, x = f q := ⟨_, rfl⟩
      obtain ⟨y, hy⟩ : ∃ y, y = f c := ⟨_, rfl⟩
      rw [← hx] at c1 hiff hnot hcm
      rw [← hy] at c2 hiff hnot hcm
      have HX := Lib.hid hx
      have HY := Lib.hid hy
      have HIF := Lib.hid hiff
      have HNO := Lib.hid hnot
      have HCM := Lib.hid hcm
      have HQ := Lib.hid hq
      have q2 : (q : Int) < (n : Int) := by omega
      have q3 : (c : Int) < (n : Int) := by omega
      clear hx hy hiff hnot hcm hr r1 r2 hix hq
      by_cases hlv : cf x y < 0
      · have hd : decide (cf x y < 0) = true := decide_eq_true hlv
        have HLV := Lib.hid hlv
        clear hlv
        go_wp2_with fail
        go_quiet ((go_at_call 33; exact Calls.quiet_drw (HCM.out _)))
        go_wp2
        have hlv := HLV.out
        have hR : R (f q) (f c) := by have := HIF.out.1 hlv; rw [HX.out, HY.out] at this; exact this
        have HU2 : Hid (c = mid ∨ R (f (N - 1 - c)) (f c)) := by
          have h1 := HQ.out; have h2 := HP.out
          exact .inr (by rw [show N - 1 - c = q by omega]; exact hR)
        go_roundw
        case rel => exact ⟨i, c, rfl, rfl, by omega, by omega, by omega, HS.drewN _, HL, HU2⟩
        case measure => simp [intOf] <;> omega
      · have hd : decide (cf x y < 0) = false := decide_eq_false hlv
        have HLV := Lib.hid hlv
        clear hlv
        go_wp2_with fail
        go_quiet ((go_at_call 33; exact Calls.quiet_drw (HCM.out _)))
        go_wp2
        have hlv := HLV.out
        have hR : R (f c) (f q) := by have := HNO.out (fun hR => absurd (HIF.out.2 hR) (by omega)); rw [HX.out, HY.out] at this; exact this
        have HL2 : Hid (c + 1 = s0 ∨ R (f (c + 1 - 1)) (f (N - (c + 1)))) := by
          have h1 := HQ.out; have h2 := HP.out
          exact .inr (by rw [show N - (c + 1) = q by omega, Nat.add_sub_cancel]; exact hR)
        go_roundw
        case rel => exact ⟨c + 1, j, by go_num, rfl, by omega, by omega, by omega, HS.drewN _, HL2, HU⟩
        case measure => simp [intOf] <;> omega
    · obtain rfl : i = j := by omega
      obtain ⟨hx1, hx2⟩ := HAMB.out
      have hpt : Parted R f a m b mid i := by
        have h1 := HN.out; have h2 := K1.out; have h3 := K3.out; have h4 := HMM.out
        subst h1
        refine ⟨by omega, by omega, by omega, by omega, ?_, ?_⟩
        · rcases HL.out with h | h
          · rcases K4.out with h5 | h5
            · exact .inl (by omega)
            · exact .inr (.inl (by omega))
          · exact .inr (.inr h)
        · rcases HU.out with h | h
          · exact .inl h
          · exact .inr (.inr (by rw [show mid + m - i - 1 = mid + m - 1 - i by omega]; exact h))
      obtain ⟨e, he⟩ : ∃ e, e = N - i := ⟨_, rfl⟩
      have h1 := HN.out
      have hsm := hpt.hsm
      have hsi := hpt.hs2
      have ee : (N : Int) - (i : Int) = (e : Int) := by omega
      have he2 : e = mid + m - i := by omega
      have heb : e ≤ b := by have := hpt.hse; omega
      have hme : m ≤ e := by omega
      have hmide : mid ≤ e := by omega
      have hai2 := hpt.has
      have hL := hpt.left HRU.out
      have hR := hpt.right HRU.out
      have hD := fun f1 f2 => hpt.done (f1 := f1) (f2 := f2) HRU.out HO.out.trans
      rw [← he2] at hL hR hD
      have hrg : Rng n (rot f i m e) := (HR.out).perm ((PermOn.rot f i m e hsm hme)) (by omega)
      have HLL := Lib.hid hL
      have HRR := Lib.hid hR
      have HDD := Lib.hid hD
      have HRG := Lib.hid hrg
      clear hL hR hD hpt h1 he hij hlt hrg
      have hmm := HMM.out
      by_cases hI : i < mid
      · by_cases hB : a < i
        · by_cases hC : e < b
          · have a1 : (i : Int) < (m : Int) := by omega
            have a2 : (m : Int) < (e : Int) := by omega
            have dm : (mid : Int) < (e : Int) := by omega
            have b2 : (i : Int) < (mid : Int) := by omega
            have b1 : (a : Int) < (i : Int) := by omega
            have d2 : (e : Int) < (b : Int) := by omega
            clear he2
            go_wp2_with fail
            go_at_call 39
            refine (rotate_any w0 g n cap hn f i m e (by omega) (by omega) (by omega) _ _ HS).mono ?_
            rintro e1 w1 ⟨rfl, HS1⟩
            go_wp2_with fail
            go_at_call 38
            refine (HIH.out a i mid (by omega) (by omega) (by omega) (by omega) _ _ HRG.out HLL.out HS1).mono ?_
            rintro e2 w2 ⟨rfl, f1, HS2, P1, R1⟩
            go_wp2_with fail
            go_at_call 38
            refine (HIH.out mid e b (by omega) (by omega) (by omega) (by omega) _ _ ((HRG.out).perm P1 (by omega)) ((HRR.out).congr (fun k h1 h2 => P1.out (.inr h1)) (by omega) (by omega)) HS2).mono ?_
            rintro e3 w3 ⟨rfl, f2, HS3, P2, R2⟩
            go_wp2_with fail
            go_end0
            obtain ⟨D1, D2⟩ := HDD.out f1 f2 P1 R1 P2 R2 (by omega) (by omega)
            exact ⟨rfl, _, HS3, D1, D2⟩
          · have a1 : (i : Int) < (m : Int) := by omega
            have a2 : (m : Int) < (e : Int) := by omega
            have dm : (mid : Int) < (e : Int) := by omega
            have b2 : (i : Int) < (mid : Int) := by omega
            have b1 : (a : Int) < (i : Int) := by omega
            have d2 : ¬ (e : Int) < (b : Int) := by omega
            clear he2
            go_wp2_with fail
            go_at_call 39
            refine (rotate_any w0 g n cap hn f i m e (by omega) (by omega) (by omega) _ _ HS).mono ?_
            rintro e1 w1 ⟨rfl, HS1⟩
            go_wp2_with fail
            go_at_call 38
            refine (HIH.out a i mid (by omega) (by omega) (by omega) (by omega) _ _ HRG.out HLL.out HS1).mono ?_
            rintro e2 w2 ⟨rfl, f1, HS2, P1, R1⟩
            go_wp2_with fail
            go_end0
            obtain ⟨D1, D2⟩ := HDD.out f1 f1 P1 R1 (PermOn.refl _ _ _) ((HRR.out.rise_of (fun hC => by omega) (by omega) (by omega)).congr fun k h1 h2 => P1.out (.inr h1)) (by omega) (by omega)
            exact ⟨rfl, _, HS2, D1, D2⟩
        · by_cases hC : e < b
          · have a1 : (i : Int) < (m : Int) := by omega
            have a2 : (m : Int) < (e : Int) := by omega
            have dm : (mid : Int) < (e : Int) := by omega
            have b2 : (i : Int) < (mid : Int) := by omega
            have b1 : ¬ (a : Int) < (i : Int) := by omega
            have d2 : (e : Int) < (b : Int) := by omega
            clear he2
            go_wp2_with fail
            go_at_call 39
            refine (rotate_any w0 g n cap hn f i m e (by omega) (by omega) (by omega) _ _ HS).mono ?_
            rintro e1 w1 ⟨rfl, HS1⟩
            go_wp2_with fail
            go_at_call 38
            refine (HIH.out mid e b (by omega) (by omega) (by omega) (by omega) _ _ HRG.out HRR.out HS1).mono ?_
            rintro e3 w3 ⟨rfl, f2, HS3, P2, R2⟩
            go_wp2_with fail
            go_end0
            obtain ⟨D1, D2⟩ := HDD.out (rot f i m e) f2 (PermOn.refl _ _ _) (HLL.out.rise_of (fun hB => by omega) (by omega) (by omega)) P2 R2 (by omega) (by omega)
            exact ⟨rfl, _, HS3, D1, D2⟩
          · have a1 : (i : Int) < (m : Int) := by omega
            have a2 : (m : Int) < (e : Int) := by omega
            have dm : (mid : Int) < (e : Int) := by omega
            have b2 : (i : Int) < (mid : Int) := by omega
            have b1 : ¬ (a : Int) < (i : Int) := by omega
            have d2 : ¬ (e : Int) < (b : Int) := by omega
            clear he2
            go_wp2_with fail
            go_at_call 39
            refine (rotate_any w0 g n cap hn f i m e (by omega) (by omega) (by omega) _ _ HS).mono ?_
            rintro e1 w1 ⟨rfl, HS1⟩
            go_wp2_with fail
            go_end0
            obtain ⟨D1, D2⟩ := HDD.out (rot f i m e) (rot f i m e) (PermOn.refl _ _ _) (HLL.out.rise_of (fun hB => by omega) (by omega) (by omega)) (PermOn.refl _ _ _) (HRR.out.rise_of (fun hC => by omega) (by omega) (by omega)) (by omega) (by omega)
            exact ⟨rfl, _, HS1, D1, D2⟩
      · have a1 : (i : Int) < (m : Int) := by omega
        have a2 : ¬ (m : Int) < (e : Int) := by omega
        have b1 : (a : Int) < (i : Int) := by omega
        have b2 : ¬ (i : Int) < (mid : Int) := by omega
        have dm : (mid : Int) < (e : Int) := by omega
        have d2 : (e : Int) < (b : Int) := by omega
        have hro := rot_triv f i m e hsm hme (fun hA => by omega)
        rw [← hro] at HS
        have HS1 := HS
        clear HS hro
        clear he2
        go_wp2_with fail
        go_at_call 38
        refine (HIH.out mid e b (by omega) (by omega) (by omega) (by omega) _ _ HRG.out HRR.out HS1).mono ?_
        rintro e3 w3 ⟨rfl, f2, HS3, P2, R2⟩
        go_wp2_with fail
        go_end0
        obtain ⟨D1, D2⟩ := HDD.out (rot f i m e) f2 (PermOn.refl _ _ _) (HLL.out.rise_of (fun hB => by omega) (by omega) (by omega)) P2 R2 (by omega) (by omega)
        exact ⟨rfl, _, HS3, D1, D2⟩

set_option maxHeartbeats 8000000 in
set_option maxRecDepth 100000 in
theorem sym_main_B (w0 : World) (g n cap : Nat) (hn : n ≤ 1152921504606846976) (p : Addr) (cf : Int → Int → Int) (R : Int → Int → Prop) (hc : CmpOK w0 g n p cf) (ho : OrdOK n cf R)
    (a m b : Nat) (ham : a + 1 < m) (hmb : m + 1 < b) (hb : b ≤ n) (hmid : ¬ (a + b) / 2 < m)
    (IH : ∀ a' m' b' : Nat, b' - a' < b - a → a' < m' → m' < b' → b' ≤ n → SymOK w0 g n cap p R a' m' b') : SymOK w0 g n cap p R a m b := by
  intro f w hr hruns h
  have H0 := Lib.hid h
  have HC := Lib.hid hc
  have HO := Lib.hid ho
  have HRU := Lib.hid hruns
  have HR := Lib.hid hr
  have HIH := Lib.hid IH
  clear h hc ho hruns hr IH
  have t0 : ((m : Int) - (a : Int) == 1) = false := by simp; omega
  have t1 : ((b : Int) - (m : Int) == 1) = false := by simp; omega
  obtain ⟨mid, hmd⟩ : ∃ mid, mid = (a + b) / 2 := ⟨_, rfl⟩
  obtain ⟨N, hN⟩ : ∃ N, N = mid + m := ⟨_, rfl⟩
  obtain ⟨P, hP⟩ : ∃ P, P = N - 1 := ⟨_, rfl⟩
  rw [← hmd] at hmid
  have em : ((a : Int) + (b : Int)) / 2 = (mid : Int) := by omega
  have eN : (mid : Int) + (m : Int) = (N : Int) := by omega
  have eP : (N : Int) - 1 = (P : Int) := by omega
  have ham2 : a < mid := by omega
  have hmb2 : mid < b := by omega
  have tm : ¬ (mid : Int) < (m : Int) := by omega
  have k1 : a ≤ a := by omega
  have k2 : a ≤ m := by omega
  have k3 : N - a ≤ b := by omega
  have k4 : a = a ∨ N - a = b := by omega
  have k5 : ∀ c, a ≤ c → c < m → m ≤ P - c ∧ P - c < b ∧ c ≤ P := fun c h1 h2 => by omega
  have HN := Lib.hid hN
  have HP := Lib.hid hP
  have K5 := Lib.hid k5
  have K4 := Lib.hid k4
  have K1 := Lib.hid k1
  have K3 := Lib.hid k3
  have HMM := Lib.hid hmid
  have HAMB := Lib.hid (And.intro ham2 hmb2)
  clear hmd hN hP k5 k4 k1 k3 hmid ham2 hmb2 
  go_enter Try.func38, Try.ntmps38
  go_wp2
  go_loopw [20, 21] (fun vi vj wr => ∃ (i j : Nat), vi = .int .i64 i ∧ vj = .int .i64 j ∧ a ≤ i ∧ i ≤ j ∧ j ≤ m ∧ SW w0 g n f wr ∧ Hid (i = a ∨ R (f (i - 1)) (f (N - i))) ∧ Hid (j = m ∨ R (f (N - 1 - j)) (f j))) (fun vi vj _ => (intOf vj).toNat - (intOf vi).toNat)
  case atStart => exact ⟨a, m, rfl, rfl, Nat.le_refl _, k2, Nat.le_refl _, H0.out, .inl rfl, .inl rfl⟩
  case round =>
    obtain ⟨i, j, rfl, rfl, hai, hij, hjb, HS, HL, HU⟩ := hrel
    clear H0
    by_cases hlt : i < j
    · obtain ⟨c, hm⟩ : ∃ c : Nat, c = (i + j) / 2 := ⟨_, rfl⟩
      have em2 : ((i : Int) + (j : Int)) / 2 = (c : Int) := by omega
      have him : i ≤ c := by omega
      have hmj : c < j := by omega
      clear hm
      obtain ⟨u1, u2, u3⟩ := K5.out c (by omega) (by omega)
      obtain ⟨q, hq⟩ : ∃ q, q = P - c := ⟨_, rfl⟩
      have eq1 : (P : Int) - (c : Int) = (q : Int) := by omega
      have hcm0 : c < m := by have := HMM.out; omega
      have hr := HR.out
      have r1 := hr q (by omega)
      have r2 := hr c (by omega)
      have hix : f c < f q := HRU.out.idx c q (by have := K1.out; omega) hcm0 (by omega) (by omega)
      have hiff := HO.out.lt (f c) (f q) r2.1 r2.2 r1.1 r1.2 hix
      have hnot := HO.out.not_ (f c) (f q) r2.1 r2.2 r1.1 r1.2 hix
      have hcm := fun z => HC.out f (wr.drewN z) (f q) (f c) (HS.drewN z) r1.1 r1.2 r2.1 r2.2
      have c1 := HS.cell (k := q) (by omega)
      have c2 := HS.cell (k := c) (by omega)
      obtain ⟨x, hx⟩ : ∃ x, x = f q := ⟨_, rfl⟩
      obtain ⟨y, hy⟩ : ∃ y, y = f c := ⟨_, rfl⟩
      rw [← hx] at c1 hiff hnot hcm
      rw [← hy] at c2 hiff hnot hcm
      have HX := Lib.hid hx
      have HY := Lib.hid hy
      have HIF := Lib.hid hiff
      have HNO := Lib.hid hnot
      have HCM := Lib.hid hcm
      have HQ := Lib.hid hq
      have q2 : (q : Int) < (n : Int) := by omega
      have q3 : (c : Int) < (n : Int) := by omega
      clear hx hy hiff hnot hcm hr r1 r2 hix hq
      by_cases hlv : cf x y < 0
      · have hd : decide (cf x y < 0) = true := decide_eq_true hlv
        have HLV := Lib.hid hlv
        clear hlv
        go_wp2_with fail
        go_quiet ((go_at_call 33; exact Calls.quiet_drw (HCM.out _)))
        go_wp2
        have hlv := HLV.out
        have hR : R (f q) (f c) := by have := HIF.out.1 hlv; rw [HX.out, HY.out] at this; exact this
        have HU2 : Hid (c = m ∨ R (f (N - 1 - c)) (f c)) := by
          have h1 := HQ.out; have h2 := HP.out
          exact .inr (by rw [show N - 1 - c = q by omega]; exact hR)
        go_roundw
        case rel => exact ⟨i, c, rfl, rfl, by omega, by omega, by omega, HS.drewN _, HL, HU2⟩
        case measure => simp [intOf] <;> omega
      · have hd : decide (cf x y < 0) = false := decide_eq_false hlv
        have HLV := Lib.hid hlv
        clear hlv
        go_wp2_with fail
        go_quiet ((go_at_call 33; exact Calls.quiet_drw (HCM.out _)))
        go_wp2
        have hlv := HLV.out
        have hR : R (f c) (f q) := by have := HNO.out (fun hR => absurd (HIF.out.2 hR) (by omega)); rw [HX.out, HY.out] at this; exact this
        have HL2 : Hid (c + 1 = a ∨ R (f (c + 1 - 1)) (f (N - (c + 1)))) := by
          have h1 := HQ.out; have h2 := HP.out
          exact .inr (by rw [show N - (c + 1) = q by omega, Nat.add_sub_cancel]; exact hR)
        go_roundw
        case rel => exact ⟨c + 1, j, by go_num, rfl, by omega, by omega, by omega, HS.drewN _, HL2, HU⟩
        case measure => simp [intOf] <;> omega
    · obtain rfl : i = j := by omega
      obtain ⟨hx1, hx2⟩ := HAMB.out
      have hpt : Parted R f a m b mid i := by
        have h1 := HN.out; have h2 := K1.out; have h3 := K3.out; have h4 := HMM.out
        subst h1
        refine ⟨by omega, by omega, by omega, by omega, ?_, ?_⟩
        · rcases HL.out with h | h
          · rcases K4.out with h5 | h5
            · exact .inl (by omega)
            · exact .inr (.inl (by omega))
          · exact .inr (.inr h)
        · rcases HU.out with h | h
          · exact .inr (.inl h)
          · exact .inr (.inr (by rw [show mid + m - i - 1 = mid + m - 1 - i by omega]; exact h))
      obtain ⟨e, he⟩ : ∃ e, e = N - i := ⟨_, rfl⟩
      have h1 := HN.out
      have hsm := hpt.hsm
      have hsi := hpt.hs2
      have ee : (N : Int) - (i : Int) = (e : Int) := by omega
      have he2 : e = mid + m - i := by omega
      have heb : e ≤ b := by have := hpt.hse; omega
      have hme : m ≤ e := by omega
      have hmide : mid ≤ e := by omega
      have hai2 := hpt.has
      have hL := hpt.left HRU.out
      have hR := hpt.right HRU.out
      have hD := fun f1 f2 => hpt.done (f1 := f1) (f2 := f2) HRU.out HO.out.trans
      rw [← he2] at hL hR hD
      have hrg : Rng n (rot f i m e) := (HR.out).perm ((PermOn.rot f i m e hsm hme)) (by omega)
      have HLL := Lib.hid hL
      have HRR := Lib.hid hR
      have HDD := Lib.hid hD
      have HRG := Lib.hid hrg
      clear hL hR hD hpt h1 he hij hlt hrg
      have hmm := HMM.out
      by_cases hI : i < m
      · by_cases hB : a < i
        · by_cases hC : e < b
          · have a1 : (i : Int) < (m : Int) := by omega
            have a2 : (m : Int) < (e : Int) := by omega
            have dm : (mid : Int) < (e : Int) := by omega
            have b2 : (i : Int) < (mid : Int) := by omega
            have b1 : (a : Int) < (i : Int) := by omega
            have d2 : (e : Int) < (b : Int) := by omega
            clear he2
            go_wp2_with fail
            go_at_call 39
            refine (rotate_any w0 g n cap hn f i m e (by omega) (by omega) (by omega) _ _ HS).mono ?_
            rintro e1 w1 ⟨rfl, HS1⟩
            go_wp2_with fail
            go_at_call 38
            refine (HIH.out a i mid (by omega) (by omega) (by omega) (by omega) _ _ HRG.out HLL.out HS1).mono ?_
            rintro e2 w2 ⟨rfl, f1, HS2, P1, R1⟩
            go_wp2_with fail
            go_at_call 38
            refine (HIH.out mid e b (by omega) (by omega) (by omega) (by omega) _ _ ((HRG.out).perm P1 (by omega)) ((HRR.out).congr (fun k h1 h2 => P1.out (.inr h1)) (by omega) (by omega)) HS2).mono ?_
            rintro e3 w3 ⟨rfl, f2, HS3, P2, R2⟩
            go_wp2_with fail
            go_end0
            obtain ⟨D1, D2⟩ := HDD.out f1 f2 P1 R1 P2 R2 (by omega) (by omega)
            exact ⟨rfl, _, HS3, D1, D2⟩
          · have a1 : (i : Int) < (m : Int) := by omega
            have a2 : (m : Int) < (e : Int) := by omega
            have dm : (mid : Int) < (e : Int) := by omega
            have b2 : (i : Int) < (mid : Int) := by omega
            have b1 : (a : Int) < (i : Int) := by omega
            have d2 : ¬ (e : Int) < (b : Int) := by omega
            clear he2
            go_wp2_with fail
            go_at_call 39
            refine (rotate_any w0 g n cap hn f i m e (by omega) (by omega) (by omega) _ _ HS).mono ?_
            rintro e1 w1 ⟨rfl, HS1⟩
            go_wp2_with fail
            go_at_call 38
            refine (HIH.out a i mid (by omega) (by omega) (by omega) (by omega) _ _ HRG.out HLL.out HS1).mono ?_
            rintro e2 w2 ⟨rfl, f1, HS2, P1, R1⟩
            go_wp2_with fail
            go_end0
            obtain ⟨D1, D2⟩ := HDD.out f1 f1 P1 R1 (PermOn.refl _ _ _) ((HRR.out.rise_of (fun hC => by omega) (by omega) (by omega)).congr fun k h1 h2 => P1.out (.inr h1)) (by omega) (by omega)
            exact ⟨rfl, _, HS2, D1, D2⟩
        · by_cases hC : e < b
          · have a1 : (i : Int) < (m : Int) := by omega
            have a2 : (m : Int) < (e : Int) := by omega
            have dm : (mid : Int) < (e : Int) := by omega
            have b2 : (i : Int) < (mid : Int) := by omega
            have b1 : ¬ (a : Int) < (i : Int) := by omega
            have d2 : (e : Int) < (b : Int) := by omega
            clear he2
            go_wp2_with fail
            go_at_call 39
            refine (rotate_any w0 g n cap hn f i m e (by omega) (by omega) (by omega) _ _ HS).mono ?_
            rintro e1 w1 ⟨rfl, HS1⟩
            go_wp2_with fail
            go_at_call 38
            refine (HIH.out mid e b (by omega) (by omega) (by omega) (by omega) _ _ HRG.out HRR.out HS1).mono ?_
            rintro e3 w3 ⟨rfl, f2, HS3, P2, R2⟩
            go_wp2_with fail
            go_end0
            obtain ⟨D1, D2⟩ := HDD.out (rot f i m e) f2 (PermOn.refl _ _ _) (HLL.out.rise_of (fun hB => by omega) (by omega) (by omega)) P2 R2 (by omega) (by omega)
            exact ⟨rfl, _, HS3, D1, D2⟩
          · have a1 : (i : Int) < (m : Int) := by omega
            have a2 : (m : Int) < (e : Int) := by omega
            have dm : (mid : Int) < (e : Int) := by omega
            have b2 : (i : Int) < (mid : Int) := by omega
            have b1 : ¬ (a : Int) < (i : Int) := by omega
            have d2 : ¬ (e : Int) < (b : Int) := by omega
            clear he2
            go_wp2_with fail
            go_at_call 39
            refine (rotate_any w0 g n cap hn f i m e (by omega) (by omega) (by omega) _ _ HS).mono ?_
            rintro e1 w1 ⟨rfl, HS1⟩
            go_wp2_with fail
            go_end0
            obtain ⟨D1, D2⟩ := HDD.out (rot f i m e) (rot f i m e) (PermOn.refl _ _ _) (HLL.out.rise_of (fun hB => by omega) (by omega) (by omega)) (PermOn.refl _ _ _) (HRR.out.rise_of (fun hC => by omega) (by omega) (by omega)) (by omega) (by omega)
            exact ⟨rfl, _, HS1, D1, D2⟩
      · by_cases hB : i < mid
        · have a1 : ¬ (i : Int) < (m : Int) := by omega
          have b1 : (a : Int) < (i : Int) := by omega
          have dm : ¬ (mid : Int) < (e : Int) := by omega
          have b2 : (i : Int) < (mid : Int) := by omega
          have hro := rot_triv f i m e hsm hme (fun hA => by omega)
          rw [← hro] at HS
          have HS1 := HS
          clear HS hro
          clear he2
          go_wp2_with fail
          go_at_call 38
          refine (HIH.out a i mid (by omega) (by omega) (by omega) (by omega) _ _ HRG.out HLL.out HS1).mono ?_
          rintro e2 w2 ⟨rfl, f1, HS2, P1, R1⟩
          go_wp2_with fail
          go_end0
          obtain ⟨D1, D2⟩ := HDD.out f1 f1 P1 R1 (PermOn.refl _ _ _) ((HRR.out.rise_of (fun hC => by omega) (by omega) (by omega)).congr fun k h1 h2 => P1.out (.inr h1)) (by omega) (by omega)
          exact ⟨rfl, _, HS2, D1, D2⟩
        · have a1 : ¬ (i : Int) < (m : Int) := by omega
          have b1 : (a : Int) < (i : Int) := by omega
          have dm : ¬ (mid : Int) < (e : Int) := by omega
          have b2 : ¬ (i : Int) < (mid : Int) := by omega
          have hro := rot_triv f i m e hsm hme (fun hA => by omega)
          rw [← hro] at HS
          have HS1 := HS
          clear HS hro
          clear he2
          go_wp2_with fail
          go_end0
          obtain ⟨D1, D2⟩ := HDD.out (rot f i m e) (rot f i m e) (PermOn.refl _ _ _) (HLL.out.rise_of (fun hB => by omega) (by omega) (by omega)) (PermOn.refl _ _ _) (HRR.out.rise_of (fun hC => by omega) (by omega) (by omega)) (by omega) (by omega)
          exact ⟨rfl, _, HS1, D1, D2⟩

end Go.Proofs.Yteilgnjjfebogaa
