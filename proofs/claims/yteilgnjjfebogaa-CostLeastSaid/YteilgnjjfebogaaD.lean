import Derived.Test.YteilgnjjfebogaaC
namespace Go.Proofs.Yteilgnjjfebogaa
set_option linter.unusedVariables false
set_option linter.unusedSimpArgs false
open Go.RowKit

set_option maxHeartbeats 2000000 in
set_option maxRecDepth 100000 in
theorem sym_left (w0 : World) (g n cap : Nat) (hn : n ≤ 1152921504606846976) (p : Addr) (cf : Int → Int → Int) (R : Int → Int → Prop) (hc : CmpOK w0 g n p cf) (ho : OrdOK n cf R)
    (f : Nat → Int) (a b : Nat) (hmb : a + 1 < b) (hb : b ≤ n) (hr : Rng n f) (hruns : Runs R f a (a + 1) b) (w : World) (h : SW w0 g n f w) :
    Calls Try.prog 38 #[.slice (some ⟨g, 0, none⟩) n cap, .int .i64 a, .int .i64 ((a : Int) + 1), .int .i64 b, .func (.func 33) #[] #[.pointer (some p)]] w
      fun e w' => e = .returned (.tuple #[]) ∧ ∃ f', SW w0 g n f' w' ∧ PermOn f f' a b ∧ RiseOn R f' a b := by
  have H0 := Lib.hid h
  have HC := Lib.hid hc
  have HO := Lib.hid ho
  have HRU := Lib.hid hruns
  have HR := Lib.hid hr
  clear h hc ho hruns hr
  have e0 : (a : Int) + 1 - (a : Int) = 1 := by omega
  go_enter Try.func38, Try.ntmps38
  go_wp2
  go_loopw [10, 11] (fun vi vj wr => ∃ (i j : Nat), vi = .int .i64 i ∧ vj = .int .i64 j ∧ a + 1 ≤ i ∧ i ≤ j ∧ j ≤ b ∧ SW w0 g n f wr ∧ Hid (∀ k, a + 1 ≤ k → k < i → R (f k) (f a)) ∧ Hid (∀ k, j ≤ k → k < b → R (f a) (f k))) (fun vi vj _ => (intOf vj).toNat - (intOf vi).toNat)
  case atStart => exact ⟨a + 1, b, by go_num, rfl, by omega, by omega, by omega, H0.out, fun k h1 h2 => by omega, fun k h1 h2 => by omega⟩
  case round =>
    obtain ⟨i, j, rfl, rfl, hai, hij, hjb, HS, HL, HU⟩ := hrel
    clear H0
    by_cases hlt : i < j
    · obtain ⟨m, hm⟩ : ∃ m : Nat, m = (i + j) / 2 := ⟨_, rfl⟩
      have em : ((i : Int) + (j : Int)) / 2 = (m : Int) := by omega
      have him : i ≤ m := by omega
      have hmj : m < j := by omega
      clear hm
      have hr := HR.out
      have r1 := hr m (by omega)
      have r2 := hr a (by omega)
      have hix : f a < f m := HRU.out.idx a m (Nat.le_refl _) (by omega) (by omega) (by omega)
      have hiff := HO.out.lt (f a) (f m) r2.1 r2.2 r1.1 r1.2 hix
      have hnot := HO.out.not_ (f a) (f m) r2.1 r2.2 r1.1 r1.2 hix
      have hcm := fun q => HC.out f (wr.drewN q) (f m) (f a) (HS.drewN q) r1.1 r1.2 r2.1 r2.2
      have c1 := HS.cell (k := m) (by omega)
      have c2 := HS.cell (k := a) (by omega)
      obtain ⟨x, hx⟩ : ∃ x, x = f m := ⟨_, rfl⟩
      obtain ⟨y, hy⟩ : ∃ y, y = f a := ⟨_, rfl⟩
      rw [← hx] at c1 hiff hnot hcm
      rw [← hy] at c2 hiff hnot hcm
      have HX := Lib.hid hx
      have HY := Lib.hid hy
      have HIF := Lib.hid hiff
      have HNO := Lib.hid hnot
      have HCM := Lib.hid hcm
      have q2 : (m : Int) < (n : Int) := by omega
      have q3 : (a : Int) < (n : Int) := by omega
      clear hx hy hiff hnot hcm hr r1 r2 hix
      by_cases hlv : cf x y < 0
      · go_wp2_with fail
        go_quiet ((go_at_call 33; exact Calls.quiet_drw (HCM.out _)))
        go_wp2
        have hR : R (f m) (f a) := by have := HIF.out.1 hlv; rw [HX.out, HY.out] at this; exact this
        have HL2 : Hid (∀ k, a + 1 ≤ k → k < m + 1 → R (f k) (f a)) := fun k h1 h2 => by
          rcases Nat.lt_or_ge k m with h3 | h3
          · exact HO.out.trans _ _ _ (HRU.out.hi k m h1 h3 (by omega)) hR
          · obtain rfl : k = m := by omega
            exact hR
        go_roundw
        case rel => exact ⟨m + 1, j, by go_num, rfl, by omega, by omega, by omega, HS.drewN _, HL2, HU⟩
        case measure => simp [intOf] <;> omega
      · go_wp2_with fail
        go_quiet ((go_at_call 33; exact Calls.quiet_drw (HCM.out _)))
        go_wp2
        have hR : R (f a) (f m) := by have := HNO.out (fun hR => absurd (HIF.out.2 hR) (by omega)); rw [HX.out, HY.out] at this; exact this
        have HU2 : Hid (∀ k, m ≤ k → k < b → R (f a) (f k)) := fun k h1 h2 => by
          rcases Nat.lt_or_ge m k with h3 | h3
          · exact HO.out.trans _ _ _ hR (HRU.out.hi m k (by omega) h3 h2)
          · obtain rfl : k = m := by omega
            exact hR
        go_roundw
        case rel => exact ⟨i, m, rfl, rfl, by omega, by omega, by omega, HS.drewN _, HL, HU2⟩
        case measure => simp [intOf] <;> omega
    · obtain rfl : i = j := by omega
      have hris := HRU.out.ins_left hai hjb HL.out HU.out
      have HRI := Lib.hid hris
      clear hris hij hlt
      go_wp2
      obtain ⟨wo, rfl⟩ : ∃ wo : World, wo = wr := ⟨_, rfl⟩
      go_loopw [13] (fun vk wr2 => ∃ k : Nat, vk = .int .i64 k ∧ a ≤ k ∧ k + 1 ≤ i ∧ SW w0 g n (rot f a (a + 1) (k + 1)) wr2) (fun vk _ => i - (intOf vk).toNat)
      case atStart => exact ⟨a, rfl, Nat.le_refl _, hai, by rw [rot_nil_left]; exact HS⟩
      case round =>
        obtain ⟨k, rfl, hak, hki, HSk⟩ := hrel
        clear HS
        by_cases hkl : k + 1 < i
        · have c1 := HSk.cell (k := k + 1) (by omega)
          have c2 := HSk.cell (k := k) (by omega)
          have f1 := HSk.free (k + 1)
          have f2 := HSk.free k
          have q1 : (k : Int) < (i : Int) - 1 := by omega
          have q2 : (k : Int) + 1 < (n : Int) := by omega
          have q3 : (k : Int) < (n : Int) := by omega
          go_wp2_with fail
          go_region
          go_wp2
          go_roundw
          case rel =>
            refine ⟨k + 1, by go_num, by omega, by omega, ?_⟩
            rw [← rot_left f a k hak]
            exact (HSk.swp (by omega) (by omega) (by omega)).drew
          case measure => simp [intOf] <;> omega
        · have q1 : ¬ (k : Int) < (i : Int) - 1 := by omega
          have hik : i = k + 1 := by omega
          have HIK := Lib.hid hik
          clear hik
          go_wp2
          refine bodyPost_ret (results_none rfl _ _ _) rfl ?_
          have hik := HIK.out
          subst hik
          exact ⟨rfl, _, HSk, (PermOn.rot f a (a + 1) (k + 1) (by omega) (by omega)).mono (Nat.le_refl _) hjb, HRI.out⟩

set_option maxHeartbeats 2000000 in
set_option maxRecDepth 100000 in
theorem sym_right (w0 : World) (g n cap : Nat) (hn : n ≤ 1152921504606846976) (p : Addr) (cf : Int → Int → Int) (R : Int → Int → Prop) (hc : CmpOK w0 g n p cf) (ho : OrdOK n cf R)
    (f : Nat → Int) (a m : Nat) (ham : a + 1 < m) (hb : m + 1 ≤ n) (hr : Rng n f) (hruns : Runs R f a m (m + 1)) (w : World) (h : SW w0 g n f w) :
    Calls Try.prog 38 #[.slice (some ⟨g, 0, none⟩) n cap, .int .i64 a, .int .i64 m, .int .i64 ((m : Int) + 1), .func (.func 33) #[] #[.pointer (some p)]] w
      fun e w' => e = .returned (.tuple #[]) ∧ ∃ f', SW w0 g n f' w' ∧ PermOn f f' a (m + 1) ∧ RiseOn R f' a (m + 1) := by
  have H0 := Lib.hid h
  have HC := Lib.hid hc
  have HO := Lib.hid ho
  have HRU := Lib.hid hruns
  have HR := Lib.hid hr
  clear h hc ho hruns hr
  have e0 : (m : Int) + 1 - (m : Int) = 1 := by omega
  have t0 : ((m : Int) - (a : Int) == 1) = false := by simp; omega
  go_enter Try.func38, Try.ntmps38
  go_wp2
  go_loopw [14, 15] (fun vi vj wr => ∃ (i j : Nat), vi = .int .i64 i ∧ vj = .int .i64 j ∧ a ≤ i ∧ i ≤ j ∧ j ≤ m ∧ SW w0 g n f wr ∧ Hid (∀ k, a ≤ k → k < i → R (f k) (f m)) ∧ Hid (∀ k, j ≤ k → k < m → R (f m) (f k))) (fun vi vj _ => (intOf vj).toNat - (intOf vi).toNat)
  case atStart => exact ⟨a, m, rfl, rfl, by omega, by omega, by omega, H0.out, fun k h1 h2 => by omega, fun k h1 h2 => by omega⟩
  case round =>
    obtain ⟨i, j, rfl, rfl, hai, hij, hjb, HS, HL, HU⟩ := hrel
    clear H0
    by_cases hlt : i < j
    · obtain ⟨c, hm⟩ : ∃ c : Nat, c = (i + j) / 2 := ⟨_, rfl⟩
      have em : ((i : Int) + (j : Int)) / 2 = (c : Int) := by omega
      have him : i ≤ c := by omega
      have hmj : c < j := by omega
      clear hm
      have hr := HR.out
      have r1 := hr m (by omega)
      have r2 := hr c (by omega)
      have hix : f c < f m := HRU.out.idx c m (by omega) (by omega) (by omega) (by omega)
      have hiff := HO.out.lt (f c) (f m) r2.1 r2.2 r1.1 r1.2 hix
      have hnot := HO.out.not_ (f c) (f m) r2.1 r2.2 r1.1 r1.2 hix
      have hcm := fun q => HC.out f (wr.drewN q) (f m) (f c) (HS.drewN q) r1.1 r1.2 r2.1 r2.2
      have c1 := HS.cell (k := m) (by omega)
      have c2 := HS.cell (k := c) (by omega)
      obtain ⟨x, hx⟩ : ∃ x, x = f m := ⟨_, rfl⟩
      obtain ⟨y, hy⟩ : ∃ y, y = f c := ⟨_, rfl⟩
      rw [← hx] at c1 hiff hnot hcm
      rw [← hy] at c2 hiff hnot hcm
      have HX := Lib.hid hx
      have HY := Lib.hid hy
      have HIF := Lib.hid hiff
      have HNO := Lib.hid hnot
      have HCM := Lib.hid hcm
      have q2 : (m : Int) < (n : Int) := by omega
      have q3 : (c : Int) < (n : Int) := by omega
      clear hx hy hiff hnot hcm hr r1 r2 hix
      by_cases hlv : cf x y < 0
      · have hd : decide (cf x y < 0) = true := decide_eq_true hlv
        have HLV := Lib.hid hlv
        clear hlv
        go_wp2_with fail
        go_quiet ((go_at_call 33; exact Calls.quiet_drw (HCM.out _)))
        go_wp2
        have hlv := HLV.out
        have hR : R (f m) (f c) := by have := HIF.out.1 hlv; rw [HX.out, HY.out] at this; exact this
        have HU2 : Hid (∀ k, c ≤ k → k < m → R (f m) (f k)) := fun k h1 h2 => by
          rcases Nat.lt_or_ge c k with h3 | h3
          · exact HO.out.trans _ _ _ hR (HRU.out.lo c k (by omega) h3 h2)
          · obtain rfl : k = c := by omega
            exact hR
        go_roundw
        case rel => exact ⟨i, c, rfl, rfl, by omega, by omega, by omega, HS.drewN _, HL, HU2⟩
        case measure => simp [intOf] <;> omega
      · have hd : decide (cf x y < 0) = false := decide_eq_false hlv
        have HLV := Lib.hid hlv
        clear hlv
        go_wp2_with fail
        go_quiet ((go_at_call 33; exact Calls.quiet_drw (HCM.out _)))
        go_wp2
        have hlv := HLV.out
        have hR : R (f c) (f m) := by have := HNO.out (fun hR => absurd (HIF.out.2 hR) (by omega)); rw [HX.out, HY.out] at this; exact this
        have HL2 : Hid (∀ k, a ≤ k → k < c + 1 → R (f k) (f m)) := fun k h1 h2 => by
          rcases Nat.lt_or_ge k c with h3 | h3
          · exact HO.out.trans _ _ _ (HRU.out.lo k c h1 h3 (by omega)) hR
          · obtain rfl : k = c := by omega
            exact hR
        go_roundw
        case rel => exact ⟨c + 1, j, by go_num, rfl, by omega, by omega, by omega, HS.drewN _, HL2, HU⟩
        case measure => simp [intOf] <;> omega
    · obtain rfl : i = j := by omega
      have hris := HRU.out.ins_right hai hjb HL.out HU.out
      have HRI := Lib.hid hris
      clear hris hij hlt
      go_wp2
      obtain ⟨wo, rfl⟩ : ∃ wo : World, wo = wr := ⟨_, rfl⟩
      go_loopw [17] (fun vk wr2 => ∃ k : Nat, vk = .int .i64 k ∧ i ≤ k ∧ k ≤ m ∧ SW w0 g n (rot f k m (m + 1)) wr2) (fun vk _ => (intOf vk).toNat)
      case atStart => exact ⟨m, rfl, hjb, Nat.le_refl _, by rw [rot_nil_right]; exact HS⟩
      case round =>
        obtain ⟨k, rfl, hak, hki, HSk⟩ := hrel
        clear HS
        by_cases hkl : i < k
        · obtain ⟨kp, rfl⟩ : ∃ kp, k = kp + 1 := ⟨k - 1, by omega⟩
          have c1 := HSk.cell (k := kp + 1) (by omega)
          have c2 := HSk.cell (k := kp) (by omega)
          have f1 := HSk.free (kp + 1)
          have f2 := HSk.free kp
          have q1 : (i : Int) < (kp : Int) + 1 := by omega
          have q2 : (kp : Int) + 1 < (n : Int) := by omega
          have q3 : (kp : Int) < (n : Int) := by omega
          go_wp2_with fail
          go_region
          go_wp2
          go_roundw
          case rel =>
            refine ⟨kp, by first | rfl | go_num, by omega, by omega, ?_⟩
            rw [← rot_right f m kp hki]
            exact (HSk.swp (by omega) (by omega) (by omega)).drew
          case measure => simp [intOf] <;> omega
        · have q1 : ¬ (i : Int) < (k : Int) := by omega
          have hik : k = i := by omega
          have HIK := Lib.hid hik
          clear hik
          go_wp2
          refine bodyPost_ret (results_none rfl _ _ _) rfl ?_
          have hik := HIK.out
          subst hik
          exact ⟨rfl, _, HSk, (PermOn.rot f k m (m + 1) hki (by omega)).mono hai (by omega), HRI.out⟩
end Go.Proofs.Yteilgnjjfebogaa
