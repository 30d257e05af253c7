import Derived.Test.YteilgnjjfebogaaE
import Derived.Test.YteilgnjjfebogaaI
namespace Go.Proofs.Yteilgnjjfebogaa
set_option linter.unusedVariables false
set_option linter.unusedSimpArgs false
open Go.RowKit

theorem sym_all (w0 : World) (g n cap : Nat) (hn : n ≤ 1152921504606846976) (p : Addr) (cf : Int → Int → Int) (R : Int → Int → Prop) (hc : CmpOK w0 g n p cf) (ho : OrdOK n cf R) :
    ∀ (d a m b : Nat), b - a ≤ d → a < m → m < b → b ≤ n → SymOK w0 g n cap p R a m b := by
  intro d
  induction d with
  | zero => intro a m b h1 h2 h3 h4; omega
  | succ d ih =>
    intro a m b h1 h2 h3 h4
    by_cases e1 : m = a + 1
    · subst e1
      intro f w hr hruns h
      exact sym_left w0 g n cap hn p cf R hc ho f a b h3 h4 hr hruns w h
    · by_cases e2 : b = m + 1
      · subst e2
        intro f w hr hruns h
        exact sym_right w0 g n cap hn p cf R hc ho f a m (by omega) h4 hr hruns w h
      · have IH : ∀ a' m' b' : Nat, b' - a' < b - a → a' < m' → m' < b' → b' ≤ n → SymOK w0 g n cap p R a' m' b' := fun a' m' b' g1 g2 g3 g4 => ih a' m' b' (by omega) g2 g3 g4
        by_cases e3 : (a + b) / 2 < m
        · exact sym_main_A w0 g n cap hn p cf R hc ho a m b (by omega) (by omega) h4 e3 IH
        · exact sym_main_B w0 g n cap hn p cf R hc ho a m b (by omega) (by omega) h4 e3 IH

set_option maxHeartbeats 4000000 in
set_option maxRecDepth 100000 in
theorem stable_any (w0 : World) (g n cap : Nat) (hn : n ≤ 1152921504606846976) (p : Addr) (cf : Int → Int → Int) (R : Int → Int → Prop) (hc : CmpOK w0 g n p cf) (ho : OrdOK n cf R)
    (f : Nat → Int) (hr : Rng n f) (hidx : ∀ i j, i < j → j < n → f i < f j) (w : World) (h : SW w0 g n f w) :
    Calls Try.prog 36 #[.slice (some ⟨g, 0, none⟩) n cap, .int .i64 n, .func (.func 33) #[] #[.pointer (some p)]] w
      fun e w' => e = .returned (.tuple #[]) ∧ ∃ f', SW w0 g n f' w' ∧ PermOn f f' 0 n ∧ RiseOn R f' 0 n := by
  have H0 := Lib.hid h
  have HC := Lib.hid hc
  have HO := Lib.hid ho
  have HI := Lib.hid hidx
  have HR := Lib.hid hr
  clear h hc ho hidx hr
  go_enter Try.func36, Try.ntmps36
  go_wp2
  go_loopw [7, 8] (fun va vb wr => ∃ (a : Nat) (h : Nat → Int), va = .int .i64 a ∧ vb = .int .i64 ((a : Int) + 20) ∧ a ≤ n ∧ Hid (20 ∣ a) ∧ SW w0 g n h wr ∧ PermOn f h 0 n ∧ Mid R n h 1 20 a) (fun va vb _ => n + 20 - (intOf vb).toNat)
  case atStart => exact ⟨0, f, rfl, by first | rfl | go_num, Nat.zero_le _, Nat.dvd_zero _, H0.out, PermOn.refl _ _ _, mid_start 20 HI.out⟩
  case round =>
    obtain ⟨a, h, rfl, rfl, han, hd, HS, HP, HM⟩ := hrel
    clear H0
    by_cases hlt : a + 20 ≤ n
    · have q1 : (a : Int) + 20 ≤ (n : Int) := by omega
      obtain ⟨b, hb⟩ : ∃ b, b = a + 20 := ⟨_, rfl⟩
      have eb : (a : Int) + 20 = (b : Int) := by omega
      have HB := Lib.hid hb
      clear hb
      go_wp2_with fail
      go_at_call 37
      refine (insertion_any w0 g n cap hn p cf R HC.out HO.out h a b (by have := HB.out; omega) (by have := HB.out; omega) (HR.out.perm HP (Nat.le_refl _)) (fun i j h1 h2 h3 => HM.rising i j h1 h2 (by have := HB.out; omega)) _ HS).mono ?_
      rintro e1 w1 ⟨rfl, h2, HS2, P2, R2⟩
      go_wp2
      have hbb := HB.out
      subst hbb
      go_roundw
      case rel => exact ⟨a + 20, h2, by first | rfl | go_num, by first | rfl | go_num, by omega, (show Hid (20 ∣ a + 20) from Nat.dvd_add hd.out (Nat.dvd_refl _)), HS2, HP.trans (P2.mono (Nat.zero_le _) (by omega)), HM.step (Nat.one_dvd _) (by omega) hd.out hlt P2 R2⟩
      case measure => simp [intOf] <;> omega
    · have q1 : ¬ (a : Int) + 20 ≤ (n : Int) := by omega
      go_wp2_with fail
      go_at_call 37
      refine (insertion_any w0 g n cap hn p cf R HC.out HO.out h a n han (Nat.le_refl _) (HR.out.perm HP (Nat.le_refl _)) (fun i j h1 h2 h3 => HM.rising i j h1 h2 h3) _ HS).mono ?_
      rintro e1 w1 ⟨rfl, h2, HS2, P2, R2⟩
      have hb := HM.last (by omega) hd.out han (by omega) P2 R2
      have hp := HP.trans (P2.mono (Nat.zero_le _) (Nat.le_refl _))
      have HBK := Lib.hid hb
      have HPP := Lib.hid hp
      clear hb hp HP HM P2 R2 HS q1 hlt
      go_wp2
      go_loopw [6, 7, 8, 9] (fun vB va vb vm wr2 => ∃ (B : Nat) (h3 : Nat → Int), vB = .int .i64 B ∧ 0 < B ∧ B ≤ 2 * n + 20 ∧ SW w0 g n h3 wr2 ∧ PermOn f h3 0 n ∧ Blks R n h3 B) (fun vB _ _ _ _ => 2 * n + 20 - (intOf vB).toNat)
      case atStart => exact ⟨20, h2, rfl, by omega, by omega, HS2, HPP.out, HBK.out⟩
      case round =>
        obtain ⟨B, h3, rfl, hB0, hBn, HS3, HP3, HB3⟩ := hrel
        clear HS2 HBK HPP
        by_cases hlt : B < n
        · have q1 : (B : Int) < (n : Int) := by omega
          have hmid := HB3.mid
          have HMD := Lib.hid hmid
          clear hmid HB3
          go_wp2
          obtain ⟨wo, rfl⟩ : ∃ wo : World, wo = wr := ⟨_, rfl⟩
          go_loopw [7, 8] (fun va vb wr3 => ∃ (a2 b2 : Nat) (h4 : Nat → Int), va = .int .i64 a2 ∧ vb = .int .i64 b2 ∧ Hid (b2 = a2 + 2 * B) ∧ a2 ≤ n ∧ Hid (2 * B ∣ a2) ∧ SW w0 g n h4 wr3 ∧ PermOn f h4 0 n ∧ Mid R n h4 B (2 * B) a2) (fun va vb _ => 3 * n + 20 - (intOf vb).toNat)
          case atStart => exact ⟨0, 2 * B, h3, by first | rfl | go_num, by first | rfl | go_num, (show 2 * B = 0 + 2 * B by omega), Nat.zero_le _, Nat.dvd_zero _, HS3, HP3, HMD.out⟩
          case round =>
            obtain ⟨a2, b2, h4, rfl, rfl, hb2, han2, hd2, HS4, HP4, HM4⟩ := hrel
            clear HS3 HMD HP3
            obtain ⟨m2, hm2⟩ : ∃ m2, m2 = a2 + B := ⟨_, rfl⟩
            have em : (a2 : Int) + (B : Int) = (m2 : Int) := by omega
            have HM2 := Lib.hid hm2
            clear hm2
            have hBa : B ∣ a2 := Nat.dvd_trans (Nat.dvd_mul_left B 2) hd2.out
            have HBA := Lib.hid hBa
            clear hBa
            by_cases hle : b2 ≤ n
            · have q2 : (b2 : Int) ≤ (n : Int) := by omega
              have hruns : Runs R h4 a2 m2 b2 := by rw [HM2.out]; exact HM4.runs hB0 HBA.out (by have := hb2.out; omega) hle (.inl hb2.out)
              have HRN := Lib.hid hruns
              clear hruns
              go_wp2_with fail
              go_at_call 38
              refine (sym_all w0 g n cap hn p cf R HC.out HO.out b2 a2 m2 b2 (Nat.sub_le _ _) (by have := HM2.out; omega) (by have := HM2.out; have := hb2.out; omega) hle h4 _ (HR.out.perm HP4 (Nat.le_refl _)) HRN.out HS4).mono ?_
              rintro e5 w5 ⟨rfl, h5, HS5, P5, R5⟩
              have e2 := hb2.out
              subst e2
              have hmd := HM4.step (Nat.dvd_mul_left B 2) (by omega) hd2.out hle P5 R5
              have hp5 := HP4.trans (P5.mono (Nat.zero_le _) hle)
              have HMD5 := Lib.hid hmd
              have HP5 := Lib.hid hp5
              clear hmd hp5 HM4 HP4 HRN P5 R5 HS4
              go_wp2
              go_roundw
              case rel => exact ⟨a2 + 2 * B, a2 + 2 * B + 2 * B, h5, by first | rfl | go_num, by first | rfl | go_num, rfl, hle, (show Hid (2 * B ∣ a2 + 2 * B) from Nat.dvd_add hd2.out (Nat.dvd_refl _)), HS5, HP5.out, HMD5.out⟩
              case measure => simp [intOf] <;> omega
            · have q2 : ¬ (b2 : Int) ≤ (n : Int) := by omega
              by_cases hmn : m2 < n
              · have q3 : (m2 : Int) < (n : Int) := by omega
                have hruns : Runs R h4 a2 m2 n := by rw [HM2.out]; exact HM4.runs hB0 HBA.out (by have := HM2.out; omega) (Nat.le_refl _) (.inr ⟨rfl, by have := hb2.out; omega⟩)
                have HRN := Lib.hid hruns
                clear hruns
                go_wp2_with fail
                go_at_call 38
                refine (sym_all w0 g n cap hn p cf R HC.out HO.out n a2 m2 n (Nat.sub_le _ _) (by have := HM2.out; omega) hmn (Nat.le_refl _) h4 _ (HR.out.perm HP4 (Nat.le_refl _)) HRN.out HS4).mono ?_
                rintro e5 w5 ⟨rfl, h5, HS5, P5, R5⟩
                have hbk := HM4.last (by omega) hd2.out han2 (by have := hb2.out; omega) P5 R5
                have hp5 := HP4.trans (P5.mono (Nat.zero_le _) (Nat.le_refl _))
                have HBK5 := Lib.hid hbk
                have HP5 := Lib.hid hp5
                clear hbk hp5 HM4 HP4 HRN P5 R5 HS4
                go_wp2
                go_roundw
                case rel => exact ⟨2 * B, h5, by first | rfl | go_num, by omega, by omega, HS5, HP5.out, HBK5.out⟩
                case measure => simp [intOf] <;> omega
              · have q3 : ¬ (m2 : Int) < (n : Int) := by omega
                have hbk := HM4.last (by omega) hd2.out han2 (by have := hb2.out; omega) (PermOn.refl _ _ _) (HM4.one HBA.out (by have := HM2.out; omega))
                have HBK5 := Lib.hid hbk
                clear hbk HM4
                go_wp2
                go_roundw
                case rel => exact ⟨2 * B, h4, by first | rfl | go_num, by omega, by omega, HS4, HP4, HBK5.out⟩
                case measure => simp [intOf] <;> omega
        · have q1 : ¬ (B : Int) < (n : Int) := by omega
          have hall := HB3.all (by omega)
          have HAL := Lib.hid hall
          clear hall HB3
          go_wp2
          go_end0
          exact ⟨rfl, h3, HS3, HP3, HAL.out⟩
end Go.Proofs.Yteilgnjjfebogaa
