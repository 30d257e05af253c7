/-
  Proved: droverlaw16.PredMakes returns true for every row of predicates and every test: what is made of them, node by node, and what is handed in is not kept. No condition.
-/
import Derived.Test.YtmhjnfkhfjejeaaG7
import Derived.Test.YtmhjnfkhfjejeaaF3
import Derived.Test.YtmhjnfkhfjejeaaF4
import Derived.Test.YtmhjnfkhfjejeaaF5
import Derived.Deep.DrawnRows
namespace Go.Proofs.Ytmhjnfkhfjejeaa.predMakes
open Go.Proofs.Ytmhjnfkhfjejeaa Go.ChangeShapes Go.WideShapes Go.ChangeAt Go.RowKit Go.Proofs.YtmhjnfkhfjejeaaW.PrintWords Go.Proofs.YtmhjnfkhfjejeaaW.PrintLast Go.Proofs.YtmhjnfkhfjejeaaW.PrintMore
open PPredCubes
set_option linter.unusedVariables false
set_option linter.unusedSimpArgs false
attribute [local go_sem ↓] Go.wp_at_zero Go.wp_at_succ

theorem one_mid {l : List S24} {k : Nat} (hk : k < l.length) : (l.take (k + 1)).drop k = [⟨atP l k⟩] := by
  have h1 : l.take (k + 1) = l.take k ++ [l[k]] := by rw [List.take_succ_eq_append_getElem hk]
  rw [h1, List.drop_append_of_le_length (by simp; omega), List.drop_of_length_le (by simp; omega), List.nil_append]
  have : atP l k = l[k].f0 := by unfold atP; rw [List.getD_eq_getElem?_getD, List.getElem?_eq_getElem hk]; rfl
  rw [this]
theorem pw_step {w w' : World} {A : Option Addr} {n : Nat} {l : List S52} (h : k52.C w A n l) (hb : Below w.heap.size w w') : k52.C w' A n l := Kd.C_below h hb
theorem same_b {w0 : World} (W : World) (A B : Option Addr) (c d : Nat) (l : List S52) (hW : Below w0.heap.size w0 W) (h1 : k52.C W A l.length l) (h2 : k52.C W B l.length l) :
    Calls Try.prog 27 #[.agg #[.slice A l.length c], .agg #[.slice B l.length d]] W fun e w' => e = .returned (.bool true) ∧ Hid (Below w0.heap.size w0 w') :=
  (same_any A B c d l W h1 h2).mono fun e w' h => ⟨h.1, Lib.hid (hW.trans (h.2.mono hW.size))⟩
set_option maxHeartbeats 8000000 in
set_option maxRecDepth 100000 in
theorem walk (A0 : Option Addr) (c0 : Nat) (l0 : List S24) (hc0 : l0.length ≤ c0) (hP0 : okPs l0) (t1 : S47) (ht1 : okT t1) (w : World) (hr0 : k24.C w A0 l0.length l0)  :
    Calls Try.prog 6 #[.slice A0 l0.length c0, .agg #[.int .i64 t1.f0, .int .u64 t1.f1, .int .u64 t1.f2]] w fun e w' => e = .returned (.bool true) ∧ Below w.heap.size w w' := by
  have HR0 := Lib.hid hr0
  have HP := Lib.hid hP0
  have HT := Lib.hid ht1
  have HC0 := Lib.hid hc0
  clear hr0 hP0 ht1 hc0
  go_enter Try.func6, Try.ntmps6
  go_wp2_with (refine wpList_box rfl 3 rfl #[.int .i64 t1.f0, .int .u64 t1.f1, .int .u64 t1.f2] 47 ?hr ?_; (case hr => first | (go_simp; done) | (go_simp; rfl)); intro g3 w1 hg3 k3 hb1; have K3 := Lib.hid k3; have HB1 := Lib.hid hb1; clear hb1 k3)
  have HR1 := Lib.hid (Kd.C_below HR0.out HB1.out)
  clear HR0 hg3
  go_at_call 20
  refine (and_any A0 c0 l0 HP.out w1 HR1.out).mono ?_
  rintro e w2 ⟨v, rfl, hr, hb⟩
  obtain ⟨L4, hL4⟩ : ∃ L, madeL 4 l0 = L := ⟨_, rfl⟩
  rw [hL4] at hr
  have HL4 := Lib.hid hL4
  obtain ⟨A5, c5, ev⟩ := Kd.R_slice hr
  subst ev
  have HR5 := Lib.hid hr
  have HB2 := Lib.hid hb
  clear hr hb hL4
  go_wp2_with (refine wpList_newz rfl rfl 5 rfl 24 (.tmp 11) rfl rfl rfl (.agg #[.slice none 0 0]) #[.slice A5 L4.length c5] info24z rfl rfl info24s rfl one_slice ?_; intro g5 w3 hg5 k5 hb; have K5 := Lib.hid k5; have HR53 := Lib.hid (Kd.R_below HR5.out hb); have HB3 := Lib.hid (HB2.out.trans (hb.mono HB2.out.size)); clear hb k5)
  go_at_call 21
  refine (or_any A0 c0 l0 HP.out w3 (Kd.C_below HR1.out HB3.out)).mono ?_
  rintro e w4 ⟨v, rfl, hr, hb⟩
  obtain ⟨L5, hL5⟩ : ∃ L, madeL 5 l0 = L := ⟨_, rfl⟩
  rw [hL5] at hr
  have HL5 := Lib.hid hL5
  obtain ⟨A6, c6, ev⟩ := Kd.R_slice hr
  subst ev
  have HC6 := Lib.hid (Kd.R_reads' hr).2.2
  have HR54 := Lib.hid (Kd.R_below HR53.out hb)
  have K54 := Lib.hid (blk_below K5.out hb)
  have HB4 := Lib.hid (HB3.out.trans (hb.mono HB3.out.size))
  clear hr hb hL5 HR5 HR53 HB2 HB3 K5 hg5
  go_wp2_with (refine wpList_newz rfl rfl 6 rfl 24 (.tmp 13) rfl rfl rfl (.agg #[.slice none 0 0]) #[.slice A6 L5.length c6] info24z rfl rfl info24s rfl one_slice ?_; intro g6 w5 hg6 k6 hb; have K6 := Lib.hid k6; have HC65 := Lib.hid (Kd.C_below HC6.out hb); have HR55 := Lib.hid (Kd.R_below HR54.out hb); have K55 := Lib.hid (blk_below K54.out hb); have HB5 := Lib.hid (HB4.out.trans (hb.mono HB4.out.size)); clear hb k6 HC6 HR54 K54 HB4 hg6)
  have HCA := Lib.hid (Kd.R_reads' HR55.out).2.2
  have HML : Hid (L4.length ≤ 9223372036854775807) := Lib.hid HCA.out.2.1
  have HI : Hid (Below w5.heap.size w5 w5) := Lib.hid (Below.refl _ _)
  have d5 : w5.cell? ⟨g5, 0, none⟩ = some (.slice A5 L4.length c5) := blk_cell K55.out 0
  have d6 : w5.cell? ⟨g6, 0, none⟩ = some (.slice A6 L5.length c6) := blk_cell K6.out 0
  have HC284 : Hid (∀ W, Below w5.heap.size w5 W → Calls Try.prog 28 #[.int .i64 4, .slice A0 l0.length c0] W fun e w' => ∃ A c, e = .returned (.agg #[.slice A L4.length c]) ∧ Hid (k52.C w' A L4.length L4) ∧ Hid (Below w5.heap.size w5 w')) := Lib.hid fun W hW =>
    (rmade_any 4 A0 c0 l0 HP.out W (Kd.C_below HR1.out (HB5.out.trans (hW.mono HB5.out.size)))).mono fun e w' h => by
      obtain ⟨v, rfl, hr, hb⟩ := h
      rw [rmadeL_eq, HL4.out] at hr
      obtain ⟨A, c, rfl, -, hc⟩ := Kd.R_reads hr
      exact ⟨A, c, rfl, Lib.hid hc, Lib.hid (hW.trans (hb.mono hW.size))⟩
  have HC285 : Hid (∀ W, Below w5.heap.size w5 W → Calls Try.prog 28 #[.int .i64 5, .slice A0 l0.length c0] W fun e w' => ∃ A c, e = .returned (.agg #[.slice A L5.length c]) ∧ Hid (k52.C w' A L5.length L5) ∧ Hid (Below w5.heap.size w5 w')) := Lib.hid fun W hW =>
    (rmade_any 5 A0 c0 l0 HP.out W (Kd.C_below HR1.out (HB5.out.trans (hW.mono HB5.out.size)))).mono fun e w' h => by
      obtain ⟨v, rfl, hr, hb⟩ := h
      rw [rmadeL_eq, HL5.out] at hr
      obtain ⟨A, c, rfl, -, hc⟩ := Kd.R_reads hr
      exact ⟨A, c, rfl, Lib.hid hc, Lib.hid (hW.trans (hb.mono hW.size))⟩
  have HC27 : Hid (∀ (W : World) (A B : Option Addr) (c d : Nat) (l : List S52), Below w5.heap.size w5 W → k52.C W A l.length l → k52.C W B l.length l → Calls Try.prog 27 #[.agg #[.slice A l.length c], .agg #[.slice B l.length d]] W fun e w' => e = .returned (.bool true) ∧ Hid (Below w5.heap.size w5 w')) := Lib.hid fun W A B c d l hW h1 h2 =>
    (same_any A B c d l W h1 h2).mono fun e w' h => ⟨h.1, Lib.hid (hW.trans (h.2.mono hW.size))⟩
  go_simp
  go_cut [25] (fun s25 wx => s25 = .bool false ∧ Below w5.heap.size w5 wx)
  case first =>
    go_region_with (first
      | ((with_reducible refine (HC284.out _ ?hW).mono ?_); (case hW => repeat (first | exact HI.out | refine Below.drew ?_)); rintro e W ⟨AM, cM, rfl, HM, HI⟩; have d5 : W.cell? ⟨g5, 0, none⟩ = some (.slice A5 L4.length c5) := blk_cell (blk_below K55.out HI.out) 0; have d6 : W.cell? ⟨g6, 0, none⟩ = some (.slice A6 L5.length c6) := blk_cell (blk_below K6.out HI.out) 0)
      | ((with_reducible refine (HC285.out _ ?hW).mono ?_); (case hW => repeat (first | exact HI.out | refine Below.drew ?_)); rintro e W ⟨AM, cM, rfl, HM, HI⟩; have d6 : W.cell? ⟨g6, 0, none⟩ = some (.slice A6 L5.length c6) := blk_cell (blk_below K6.out HI.out) 0)
      | ((with_reducible refine (HC27.out _ _ _ _ _ L4 ?hW ?h1 ?h2).mono ?_); (case hW => repeat (first | exact HI.out | refine Below.drew ?_)); (case h1 => repeat (first | exact Kd.C_below HCA.out HI.out | refine Kd.C_drew ?_)); (case h2 => repeat (first | exact HM.out | refine Kd.C_drew ?_)); rintro e W ⟨rfl, HI⟩; have d6 : W.cell? ⟨g6, 0, none⟩ = some (.slice A6 L5.length c6) := blk_cell (blk_below K6.out HI.out) 0)
      | ((with_reducible refine (HC27.out _ _ _ _ _ L5 ?hW ?h1 ?h2).mono ?_); (case hW => repeat (first | exact HI.out | refine Below.drew ?_)); (case h1 => repeat (first | exact Kd.C_below HC65.out HI.out | refine Kd.C_drew ?_)); (case h2 => repeat (first | exact HM.out | refine Kd.C_drew ?_)); rintro e W ⟨rfl, HI⟩))
    all_goals (go_wp2_with fail; go_meet; exact ⟨rfl, HI.out⟩)
  case rest =>
    obtain ⟨rfl, hw⟩ := hcut
    clear d5 d6 HI HC284 HC285
    have HI := Lib.hid hw
    clear hw
    go_wp2_with fail
    go_loopw [7] (fun vk wr => ∃ k : Nat, vk = .int .i64 k ∧ k ≤ l0.length ∧ k ≤ 3 ∧ Below w5.heap.size w5 wr) (fun vk _ => l0.length - (intOf vk).toNat)
    case atStart => exact ⟨0, rfl, by omega, by omega, HI.out⟩
    case round =>
      obtain ⟨k, rfl, hk, hk3, hw⟩ := hrel
      have HW := Lib.hid hw
      clear hw HI
      have hc0 := HC0.out
      by_cases hlt : k < l0.length
      · by_cases h3 : k < 3
        · have q1 : (k : Int) < (l0.length : Int) := by omega
          have q3 : (k : Int) < 3 := by omega
          have HBW := Lib.hid (HB5.out.trans (HW.out.mono HB5.out.size))
          obtain ⟨ad, Ap, cp, rfl, hlies, hle, hcp⟩ := rd24 (Kd.C_below HR1.out HBW.out) hlt
          have hmid := Kd.C_mid (k := k24) (lo := k) (hi := k + 1) (c := c0) (Kd.C_below HR1.out HBW.out) (by omega) (by omega) hc0
          rw [one_mid hlt, if_neg (by omega)] at hmid
          have hok := okPs_at HP.out k
          obtain ⟨p, hp⟩ : ∃ p, atP l0 k = p := ⟨_, rfl⟩
          rw [hp] at hlies hle hcp hok hmid
          have hp0 : wr.cell? (ad.add k) = some (.slice Ap p.length cp) := by
            have h := hlies 0 _ rfl
            rwa [add_add, Nat.add_zero] at h
          replace hmid : k24.C wr (some (ad.add k)) 1 [⟨p⟩] := by
            have : (some ad).map (·.add (k * k24.sz)) = some (ad.add k) := by show some (ad.add (k * 1)) = _; rw [Nat.mul_one]
            rw [this] at hmid
            exact hmid
          obtain ⟨Lp, hLp⟩ : ∃ L, madeL 6 [⟨p⟩] = L := ⟨_, rfl⟩
          have HC23 : Hid (∀ W, Below wr.heap.size wr W → Calls Try.prog 23 #[.agg #[.slice Ap p.length cp]] W fun e w' => ∃ A c, e = .returned (.agg #[.slice A Lp.length c]) ∧ Hid (k52.C w' A Lp.length Lp) ∧ Hid (Below wr.heap.size wr w')) := Lib.hid fun W hW =>
            (not_any Ap cp p hok W (Kd.C_below hcp hW) hle).mono fun e w' h => by
              obtain ⟨v, rfl, hr, hb⟩ := h
              rw [hLp] at hr
              obtain ⟨A, c, rfl, -, hc⟩ := Kd.R_reads hr
              exact ⟨A, c, rfl, Lib.hid hc, Lib.hid (hW.trans (hb.mono hW.size))⟩
          have HC286 : Hid (∀ W d, Below wr.heap.size wr W → Calls Try.prog 28 #[.int .i64 6, .slice (some (ad.add k)) 1 d] W fun e w' => ∃ A c, e = .returned (.agg #[.slice A Lp.length c]) ∧ Hid (k52.C w' A Lp.length Lp) ∧ Hid (Below W.heap.size W w') ∧ Hid (Below wr.heap.size wr w')) := Lib.hid fun W d hW =>
            (rmade_any 6 (some (ad.add k)) d [⟨p⟩] (fun q hq => by rw [List.mem_singleton.1 hq]; exact hok) W (Kd.C_below hmid hW)).mono fun e w' h => by
              obtain ⟨v, rfl, hr, hb⟩ := h
              rw [rmadeL_eq, hLp] at hr
              obtain ⟨A, c, rfl, -, hc⟩ := Kd.R_reads hr
              exact ⟨A, c, rfl, Lib.hid hc, Lib.hid hb, Lib.hid (hW.trans (hb.mono hW.size))⟩
          have HI : Hid (Below wr.heap.size wr wr) := Lib.hid (Below.refl _ _)
          have q5 : (k : Int) < (c0 : Int) := by omega
          have q6 : ¬ (c0 = k) := by omega
          clear hlies hle hcp hok hmid hLp hp
          have q7 : IntKind.i64.wrap ((k : Int) + 1) = (k : Int) + 1 := IntWalk.i64_in _ (by omega)
          go_wp2_with fail
          go_cut [48] (fun s48 wx => s48 = .bool false ∧ Below wr.heap.size wr wx)
          case first =>
            go_region_with (first
              | ((with_reducible refine (HC23.out _ ?hW).mono ?_); (case hW => repeat (first | exact HI.out | refine Below.drew ?_)); rintro e W ⟨AN, cN, rfl, HN, HI⟩)
              | ((with_reducible refine (HC286.out _ _ ?hW).mono ?_); (case hW => repeat (first | exact HI.out | refine Below.drew ?_)); rintro e W ⟨AM, cM, rfl, HM, HBM, HI⟩; have HN' := Lib.hid (Kd.C_below HN.out HBM.out))
              | ((with_reducible refine (same_b (w0 := wr) _ _ _ _ _ Lp ?hW ?h1 ?h2).mono ?_); (case hW => repeat (first | exact HI.out | refine Below.drew ?_)); (case h1 => repeat (first | exact HN'.out | refine Kd.C_drew ?_)); (case h2 => repeat (first | exact HM.out | refine Kd.C_drew ?_)); rintro e W ⟨rfl, HI⟩))
            all_goals (go_wp2_with fail; go_meet; exact ⟨rfl, HI.out⟩)
          case rest =>
            obtain ⟨rfl, hb⟩ := hcut
            have HB := Lib.hid (HW.out.trans (hb.mono HW.out.size))
            clear hb HC23 HC286 HI hp0 q5 q6 q7
            go_wp2_with fail
            go_roundw
            case rel => exact ⟨k + 1, by go_num, by omega, by omega, HB.out⟩
            case measure => simp [intOf] <;> omega
        · obtain rfl : k = 3 := by omega
          have q1 : (3 : Int) < (l0.length : Int) := by omega
          have HM : Hid (MutN w1 A5 L4.length wr) := Lib.hid ((MutN.of_R HR55.out HB5.out).behind HW.out)
          have K5R := Lib.hid (blk_below K55.out HW.out)
          go_wp2_with fail
          clear HC65 HCA HC27 HW K55 K6 HR55
          go_loopw [8] (fun vi wx => ∃ i : Nat, vi = .int .i64 i ∧ i ≤ L4.length ∧ Hid (wx.heap[g5]? = some (.cells #[.slice A5 L4.length c5] 24 (0, 0))) ∧ Hid (MutN w1 A5 L4.length wx)) (fun vi _ => L4.length - (intOf vi).toNat)
          case atStart => exact ⟨0, rfl, by omega, K5R, HM⟩
          case round =>
            obtain ⟨wx, rfl⟩ : ∃ wx : World, wx = wr := ⟨_, rfl⟩
            obtain ⟨i, rfl, hi, K5, HX⟩ := hrel
            clear HM K5R
            have d5 : wx.cell? ⟨g5, 0, none⟩ = some (.slice A5 L4.length c5) := blk_cell K5.out 0
            have hmx : L4.length ≤ 9223372036854775807 := HML.out
            by_cases hil : i < L4.length
            · obtain ⟨g, B, m, d, rfl, x4, hm, ⟨x0, h0⟩, f0, hset, h24, -⟩ := HX.out.at_ hil
              have q9 : (i : Int) < (L4.length : Int) := by omega
              go_wp2_with fail
              clear h0 f0 hset h24
              go_loopw [9] (fun vj wy => ∃ j : Nat, vj = .int .i64 j ∧ j ≤ m ∧ Hid (wy.heap[g5]? = some (.cells #[.slice (some ⟨g, 0, none⟩) L4.length c5] 24 (0, 0))) ∧ Hid (MutN w1 (some ⟨g, 0, none⟩) L4.length wy) ∧ Hid (wy.cell? ⟨g, i * 5 + 4, none⟩ = some (.slice B m d))) (fun vj _ => m - (intOf vj).toNat)
              case atStart => exact ⟨0, rfl, by omega, K5, HX, Lib.hid x4⟩
              case round =>
                obtain ⟨wy, rfl⟩ : ∃ wy : World, wy = wr := ⟨_, rfl⟩
                obtain ⟨j, rfl, hj, K5, HX, HX4⟩ := hrel
                have d5 : wy.cell? ⟨g5, 0, none⟩ = some (.slice (some ⟨g, 0, none⟩) L4.length c5) := blk_cell K5.out 0
                obtain ⟨g', B', m', d', eg, x4', hm', ⟨x0, h0⟩, f0, hset, h24, hin⟩ := HX.out.at_ hil
                injection eg with eg
                injection eg with eg _ _
                subst eg
                have x4 := HX4.out
                rw [x4] at x4'
                injection x4' with x4'
                injection x4' with e1 e2 e3
                subst e1 e2 e3
                have HSET := Lib.hid hset
                have H24 := Lib.hid h24
                clear hset h24
                by_cases hjm : j < m
                · obtain ⟨b, e1, ⟨y, hy⟩, fy, hsetb, h24b, hkb⟩ := hin j hjm
                  subst e1
                  have q10 : (j : Int) < (m : Int) := by omega
                  have K5' := Lib.hid (h24b _ _ K5.out (.int .i64 (-7)))
                  have HX' := Lib.hid (hsetb (.int .i64 (-7)))
                  have HX4' := Lib.hid (hkb _ _ HX4.out (.int .i64 (-7)))
                  clear hin hsetb h24b hkb h0 f0
                  go_wp2_with fail
                  go_roundw
                  case rel => exact ⟨j + 1, by go_num, by omega, K5', HX', HX4'⟩
                  case measure => simp [intOf] <;> omega
                · obtain rfl : j = m := by omega
                  have K5' := Lib.hid (H24.out _ _ K5.out (.int .i64 77))
                  have HX' := Lib.hid (HSET.out (.int .i64 77))
                  clear hin
                  go_wp2_with fail
                  go_roundw
                  case rel => exact ⟨i + 1, by go_num, by omega, K5', HX'⟩
                  case measure => simp [intOf] <;> omega
            · obtain rfl : i = L4.length := by omega
              have HI0 := Lib.hid HX.out.below
              clear HX K5
              have HC20 : Hid (∀ W, Below w1.heap.size w1 W → Calls Try.prog 20 #[.slice A0 l0.length c0] W fun e w' => ∃ A c, e = .returned (.agg #[.slice A L4.length c]) ∧ Hid (k52.C w' A L4.length L4) ∧ Hid (Below w1.heap.size w1 w')) := Lib.hid fun W hW =>
                (and_any A0 c0 l0 HP.out W (Kd.C_below HR1.out hW)).mono fun e w' h => by
                  obtain ⟨v, rfl, hr, hb⟩ := h
                  rw [HL4.out] at hr
                  obtain ⟨A, c, rfl, -, hc⟩ := Kd.R_reads hr
                  exact ⟨A, c, rfl, Lib.hid hc, Lib.hid (hW.trans (hb.mono hW.size))⟩
              have HC28 : Hid (∀ W, Below w1.heap.size w1 W → Calls Try.prog 28 #[.int .i64 4, .slice A0 l0.length c0] W fun e w' => ∃ A c, e = .returned (.agg #[.slice A L4.length c]) ∧ Hid (k52.C w' A L4.length L4) ∧ Hid (Below W.heap.size W w') ∧ Hid (Below w1.heap.size w1 w')) := Lib.hid fun W hW =>
                (rmade_any 4 A0 c0 l0 HP.out W (Kd.C_below HR1.out hW)).mono fun e w' h => by
                  obtain ⟨v, rfl, hr, hb⟩ := h
                  rw [rmadeL_eq, HL4.out] at hr
                  obtain ⟨A, c, rfl, -, hc⟩ := Kd.R_reads hr
                  exact ⟨A, c, rfl, Lib.hid hc, Lib.hid hb, Lib.hid (hW.trans (hb.mono hW.size))⟩
              obtain ⟨LI, hLI⟩ : ∃ L, isL t1 = L := ⟨_, rfl⟩
              have HC29 : Hid (∀ W, Below w1.heap.size w1 W → Calls Try.prog 29 #[.agg #[.int .i64 t1.f0, .int .u64 t1.f1, .int .u64 t1.f2]] W fun e w' => ∃ A c, e = .returned (.agg #[.slice A LI.length c]) ∧ Hid (k52.C w' A LI.length LI) ∧ Hid (Below w1.heap.size w1 w')) := Lib.hid fun W hW =>
                (is_any t1 HT.out W).mono fun e w' h => by
                  obtain ⟨v, rfl, hr, hb⟩ := h
                  rw [hLI] at hr
                  obtain ⟨A, c, rfl, -, hc⟩ := Kd.R_reads hr
                  exact ⟨A, c, rfl, Lib.hid hc, Lib.hid (hW.trans (hb.mono hW.size))⟩
              have HC30 : Hid (∀ W, Below w1.heap.size w1 W → Calls Try.prog 30 #[.agg #[.int .i64 t1.f0, .int .u64 t1.f1, .int .u64 t1.f2]] W fun e w' => ∃ A c, e = .returned (.agg #[.slice A LI.length c]) ∧ Hid (k52.C w' A LI.length LI) ∧ Hid (Below W.heap.size W w') ∧ Hid (Below w1.heap.size w1 w')) := Lib.hid fun W hW =>
                (ris_any t1 HT.out W).mono fun e w' h => by
                  obtain ⟨v, rfl, hr, hb⟩ := h
                  rw [← isL_eq, hLI] at hr
                  obtain ⟨A, c, rfl, -, hc⟩ := Kd.R_reads hr
                  exact ⟨A, c, rfl, Lib.hid hc, Lib.hid hb, Lib.hid (hW.trans (hb.mono hW.size))⟩
              have HC13 : Hid (∀ W, Below w1.heap.size w1 W → Calls Try.prog 13 #[] W fun e w' => e = .returned (.bool true) ∧ Hid (Below w1.heap.size w1 w')) := Lib.hid fun W hW =>
                (awake_any W).mono fun e w' h => ⟨h.1, Lib.hid (hW.trans (h.2.mono hW.size))⟩
              obtain ⟨z0, z1, z2, hz⟩ : ∃ z0 z1 z2, z0 = t1.f0 ∧ z1 = t1.f1 ∧ z2 = t1.f2 := ⟨_, _, _, rfl, rfl, rfl⟩
              obtain ⟨hz0, hz1, hz2⟩ := hz
              rw [← hz0, ← hz1, ← hz2] at HC29 HC30 K3 ⊢
              have HI := HI0
              clear hLI hz0 hz1 hz2 HL5 HB5 HML hmx HL4
              have e0 : wx.cell? ⟨g3, 0, none⟩ = some (.int .i64 z0) := blk_cell (blk_below K3.out HI.out) 0
              have e1 : wx.cell? ⟨g3, 1, none⟩ = some (.int .u64 z1) := blk_cell (blk_below K3.out HI.out) 1
              have e2 : wx.cell? ⟨g3, 2, none⟩ = some (.int .u64 z2) := blk_cell (blk_below K3.out HI.out) 2
              go_wp2_with fail
              clear d5 e0 e1 e2
              go_region_with (first
                | ((with_reducible refine (HC20.out _ ?hW).mono ?_); (case hW => repeat (first | exact HI.out | refine Below.drew ?_)); rintro e W ⟨AN, cN, rfl, HN, HI⟩)
                | ((with_reducible refine (HC28.out _ ?hW).mono ?_); (case hW => repeat (first | exact HI.out | refine Below.drew ?_)); rintro e W ⟨AM, cM, rfl, HM, HBM, HI⟩; have HN' := Lib.hid (Kd.C_below HN.out HBM.out))
                | ((with_reducible refine (same_b (w0 := w1) _ _ _ _ _ L4 ?hW ?h1 ?h2).mono ?_); (case hW => repeat (first | exact HI.out | refine Below.drew ?_)); (case h1 => repeat (first | exact HN'.out | refine Kd.C_drew ?_)); (case h2 => repeat (first | exact HM.out | refine Kd.C_drew ?_)); rintro e W ⟨rfl, HI⟩; have e0 : W.cell? ⟨g3, 0, none⟩ = some (.int .i64 z0) := blk_cell (blk_below K3.out HI.out) 0; have e1 : W.cell? ⟨g3, 1, none⟩ = some (.int .u64 z1) := blk_cell (blk_below K3.out HI.out) 1; have e2 : W.cell? ⟨g3, 2, none⟩ = some (.int .u64 z2) := blk_cell (blk_below K3.out HI.out) 2)
                | ((with_reducible refine (HC29.out _ ?hW).mono ?_); (case hW => repeat (first | exact HI.out | refine Below.drew ?_)); rintro e W ⟨AN, cN, rfl, HN, HI⟩; have e0 : W.cell? ⟨g3, 0, none⟩ = some (.int .i64 z0) := blk_cell (blk_below K3.out HI.out) 0; have e1 : W.cell? ⟨g3, 1, none⟩ = some (.int .u64 z1) := blk_cell (blk_below K3.out HI.out) 1; have e2 : W.cell? ⟨g3, 2, none⟩ = some (.int .u64 z2) := blk_cell (blk_below K3.out HI.out) 2)
                | ((with_reducible refine (HC30.out _ ?hW).mono ?_); (case hW => repeat (first | exact HI.out | refine Below.drew ?_)); rintro e W ⟨AM, cM, rfl, HM, HBM, HI⟩; have HN' := Lib.hid (pw_step HN.out HBM.out))
                | ((with_reducible refine (same_b (w0 := w1) _ _ _ _ _ LI ?hW ?h1 ?h2).mono ?_); (case hW => repeat (first | exact HI.out | refine Below.drew ?_)); (case h1 => repeat (first | exact HN'.out | refine Kd.C_drew ?_)); (case h2 => repeat (first | exact HM.out | refine Kd.C_drew ?_)); rintro e W ⟨rfl, HI⟩)
                | ((with_reducible refine (HC13.out _ ?hW).mono ?_); (case hW => repeat (first | exact HI.out | refine Below.drew ?_)); rintro e W ⟨rfl, HI⟩))
              all_goals
                go_wp2_with fail
                go_ret
                exact ⟨rfl, HB1.out.trans (HI.out.mono HB1.out.size)⟩
      · obtain rfl : k = l0.length := by omega
        have HM : Hid (MutN w1 A5 L4.length wr) := Lib.hid ((MutN.of_R HR55.out HB5.out).behind HW.out)
        have K5R := Lib.hid (blk_below K55.out HW.out)
        go_wp2_with fail
        clear HC65 HCA HC27 HW K55 K6 HR55
        go_loopw [8] (fun vi wx => ∃ i : Nat, vi = .int .i64 i ∧ i ≤ L4.length ∧ Hid (wx.heap[g5]? = some (.cells #[.slice A5 L4.length c5] 24 (0, 0))) ∧ Hid (MutN w1 A5 L4.length wx)) (fun vi _ => L4.length - (intOf vi).toNat)
        case atStart => exact ⟨0, rfl, by omega, K5R, HM⟩
        case round =>
          obtain ⟨wx, rfl⟩ : ∃ wx : World, wx = wr := ⟨_, rfl⟩
          obtain ⟨i, rfl, hi, K5, HX⟩ := hrel
          clear HM K5R
          have d5 : wx.cell? ⟨g5, 0, none⟩ = some (.slice A5 L4.length c5) := blk_cell K5.out 0
          have hmx : L4.length ≤ 9223372036854775807 := HML.out
          by_cases hil : i < L4.length
          · obtain ⟨g, B, m, d, rfl, x4, hm, ⟨x0, h0⟩, f0, hset, h24, -⟩ := HX.out.at_ hil
            have q9 : (i : Int) < (L4.length : Int) := by omega
            go_wp2_with fail
            clear h0 f0 hset h24
            go_loopw [9] (fun vj wy => ∃ j : Nat, vj = .int .i64 j ∧ j ≤ m ∧ Hid (wy.heap[g5]? = some (.cells #[.slice (some ⟨g, 0, none⟩) L4.length c5] 24 (0, 0))) ∧ Hid (MutN w1 (some ⟨g, 0, none⟩) L4.length wy) ∧ Hid (wy.cell? ⟨g, i * 5 + 4, none⟩ = some (.slice B m d))) (fun vj _ => m - (intOf vj).toNat)
            case atStart => exact ⟨0, rfl, by omega, K5, HX, Lib.hid x4⟩
            case round =>
              obtain ⟨wy, rfl⟩ : ∃ wy : World, wy = wr := ⟨_, rfl⟩
              obtain ⟨j, rfl, hj, K5, HX, HX4⟩ := hrel
              have d5 : wy.cell? ⟨g5, 0, none⟩ = some (.slice (some ⟨g, 0, none⟩) L4.length c5) := blk_cell K5.out 0
              obtain ⟨g', B', m', d', eg, x4', hm', ⟨x0, h0⟩, f0, hset, h24, hin⟩ := HX.out.at_ hil
              injection eg with eg
              injection eg with eg _ _
              subst eg
              have x4 := HX4.out
              rw [x4] at x4'
              injection x4' with x4'
              injection x4' with e1 e2 e3
              subst e1 e2 e3
              have HSET := Lib.hid hset
              have H24 := Lib.hid h24
              clear hset h24
              by_cases hjm : j < m
              · obtain ⟨b, e1, ⟨y, hy⟩, fy, hsetb, h24b, hkb⟩ := hin j hjm
                subst e1
                have q10 : (j : Int) < (m : Int) := by omega
                have K5' := Lib.hid (h24b _ _ K5.out (.int .i64 (-7)))
                have HX' := Lib.hid (hsetb (.int .i64 (-7)))
                have HX4' := Lib.hid (hkb _ _ HX4.out (.int .i64 (-7)))
                clear hin hsetb h24b hkb h0 f0
                go_wp2_with fail
                go_roundw
                case rel => exact ⟨j + 1, by go_num, by omega, K5', HX', HX4'⟩
                case measure => simp [intOf] <;> omega
              · obtain rfl : j = m := by omega
                have K5' := Lib.hid (H24.out _ _ K5.out (.int .i64 77))
                have HX' := Lib.hid (HSET.out (.int .i64 77))
                clear hin
                go_wp2_with fail
                go_roundw
                case rel => exact ⟨i + 1, by go_num, by omega, K5', HX'⟩
                case measure => simp [intOf] <;> omega
          · obtain rfl : i = L4.length := by omega
            have HI0 := Lib.hid HX.out.below
            clear HX K5
            have HC20 : Hid (∀ W, Below w1.heap.size w1 W → Calls Try.prog 20 #[.slice A0 l0.length c0] W fun e w' => ∃ A c, e = .returned (.agg #[.slice A L4.length c]) ∧ Hid (k52.C w' A L4.length L4) ∧ Hid (Below w1.heap.size w1 w')) := Lib.hid fun W hW =>
              (and_any A0 c0 l0 HP.out W (Kd.C_below HR1.out hW)).mono fun e w' h => by
                obtain ⟨v, rfl, hr, hb⟩ := h
                rw [HL4.out] at hr
                obtain ⟨A, c, rfl, -, hc⟩ := Kd.R_reads hr
                exact ⟨A, c, rfl, Lib.hid hc, Lib.hid (hW.trans (hb.mono hW.size))⟩
            have HC28 : Hid (∀ W, Below w1.heap.size w1 W → Calls Try.prog 28 #[.int .i64 4, .slice A0 l0.length c0] W fun e w' => ∃ A c, e = .returned (.agg #[.slice A L4.length c]) ∧ Hid (k52.C w' A L4.length L4) ∧ Hid (Below W.heap.size W w') ∧ Hid (Below w1.heap.size w1 w')) := Lib.hid fun W hW =>
              (rmade_any 4 A0 c0 l0 HP.out W (Kd.C_below HR1.out hW)).mono fun e w' h => by
                obtain ⟨v, rfl, hr, hb⟩ := h
                rw [rmadeL_eq, HL4.out] at hr
                obtain ⟨A, c, rfl, -, hc⟩ := Kd.R_reads hr
                exact ⟨A, c, rfl, Lib.hid hc, Lib.hid hb, Lib.hid (hW.trans (hb.mono hW.size))⟩
            obtain ⟨LI, hLI⟩ : ∃ L, isL t1 = L := ⟨_, rfl⟩
            have HC29 : Hid (∀ W, Below w1.heap.size w1 W → Calls Try.prog 29 #[.agg #[.int .i64 t1.f0, .int .u64 t1.f1, .int .u64 t1.f2]] W fun e w' => ∃ A c, e = .returned (.agg #[.slice A LI.length c]) ∧ Hid (k52.C w' A LI.length LI) ∧ Hid (Below w1.heap.size w1 w')) := Lib.hid fun W hW =>
              (is_any t1 HT.out W).mono fun e w' h => by
                obtain ⟨v, rfl, hr, hb⟩ := h
                rw [hLI] at hr
                obtain ⟨A, c, rfl, -, hc⟩ := Kd.R_reads hr
                exact ⟨A, c, rfl, Lib.hid hc, Lib.hid (hW.trans (hb.mono hW.size))⟩
            have HC30 : Hid (∀ W, Below w1.heap.size w1 W → Calls Try.prog 30 #[.agg #[.int .i64 t1.f0, .int .u64 t1.f1, .int .u64 t1.f2]] W fun e w' => ∃ A c, e = .returned (.agg #[.slice A LI.length c]) ∧ Hid (k52.C w' A LI.length LI) ∧ Hid (Below W.heap.size W w') ∧ Hid (Below w1.heap.size w1 w')) := Lib.hid fun W hW =>
              (ris_any t1 HT.out W).mono fun e w' h => by
                obtain ⟨v, rfl, hr, hb⟩ := h
                rw [← isL_eq, hLI] at hr
                obtain ⟨A, c, rfl, -, hc⟩ := Kd.R_reads hr
                exact ⟨A, c, rfl, Lib.hid hc, Lib.hid hb, Lib.hid (hW.trans (hb.mono hW.size))⟩
            have HC13 : Hid (∀ W, Below w1.heap.size w1 W → Calls Try.prog 13 #[] W fun e w' => e = .returned (.bool true) ∧ Hid (Below w1.heap.size w1 w')) := Lib.hid fun W hW =>
              (awake_any W).mono fun e w' h => ⟨h.1, Lib.hid (hW.trans (h.2.mono hW.size))⟩
            obtain ⟨z0, z1, z2, hz⟩ : ∃ z0 z1 z2, z0 = t1.f0 ∧ z1 = t1.f1 ∧ z2 = t1.f2 := ⟨_, _, _, rfl, rfl, rfl⟩
            obtain ⟨hz0, hz1, hz2⟩ := hz
            rw [← hz0, ← hz1, ← hz2] at HC29 HC30 K3 ⊢
            have HI := HI0
            clear hLI hz0 hz1 hz2 HL5 HB5 HML hmx HL4
            have e0 : wx.cell? ⟨g3, 0, none⟩ = some (.int .i64 z0) := blk_cell (blk_below K3.out HI.out) 0
            have e1 : wx.cell? ⟨g3, 1, none⟩ = some (.int .u64 z1) := blk_cell (blk_below K3.out HI.out) 1
            have e2 : wx.cell? ⟨g3, 2, none⟩ = some (.int .u64 z2) := blk_cell (blk_below K3.out HI.out) 2
            go_wp2_with fail
            clear d5 e0 e1 e2
            go_region_with (first
              | ((with_reducible refine (HC20.out _ ?hW).mono ?_); (case hW => repeat (first | exact HI.out | refine Below.drew ?_)); rintro e W ⟨AN, cN, rfl, HN, HI⟩)
              | ((with_reducible refine (HC28.out _ ?hW).mono ?_); (case hW => repeat (first | exact HI.out | refine Below.drew ?_)); rintro e W ⟨AM, cM, rfl, HM, HBM, HI⟩; have HN' := Lib.hid (Kd.C_below HN.out HBM.out))
              | ((with_reducible refine (same_b (w0 := w1) _ _ _ _ _ L4 ?hW ?h1 ?h2).mono ?_); (case hW => repeat (first | exact HI.out | refine Below.drew ?_)); (case h1 => repeat (first | exact HN'.out | refine Kd.C_drew ?_)); (case h2 => repeat (first | exact HM.out | refine Kd.C_drew ?_)); rintro e W ⟨rfl, HI⟩; have e0 : W.cell? ⟨g3, 0, none⟩ = some (.int .i64 z0) := blk_cell (blk_below K3.out HI.out) 0; have e1 : W.cell? ⟨g3, 1, none⟩ = some (.int .u64 z1) := blk_cell (blk_below K3.out HI.out) 1; have e2 : W.cell? ⟨g3, 2, none⟩ = some (.int .u64 z2) := blk_cell (blk_below K3.out HI.out) 2)
              | ((with_reducible refine (HC29.out _ ?hW).mono ?_); (case hW => repeat (first | exact HI.out | refine Below.drew ?_)); rintro e W ⟨AN, cN, rfl, HN, HI⟩; have e0 : W.cell? ⟨g3, 0, none⟩ = some (.int .i64 z0) := blk_cell (blk_below K3.out HI.out) 0; have e1 : W.cell? ⟨g3, 1, none⟩ = some (.int .u64 z1) := blk_cell (blk_below K3.out HI.out) 1; have e2 : W.cell? ⟨g3, 2, none⟩ = some (.int .u64 z2) := blk_cell (blk_below K3.out HI.out) 2)
              | ((with_reducible refine (HC30.out _ ?hW).mono ?_); (case hW => repeat (first | exact HI.out | refine Below.drew ?_)); rintro e W ⟨AM, cM, rfl, HM, HBM, HI⟩; have HN' := Lib.hid (pw_step HN.out HBM.out))
              | ((with_reducible refine (same_b (w0 := w1) _ _ _ _ _ LI ?hW ?h1 ?h2).mono ?_); (case hW => repeat (first | exact HI.out | refine Below.drew ?_)); (case h1 => repeat (first | exact HN'.out | refine Kd.C_drew ?_)); (case h2 => repeat (first | exact HM.out | refine Kd.C_drew ?_)); rintro e W ⟨rfl, HI⟩)
              | ((with_reducible refine (HC13.out _ ?hW).mono ?_); (case hW => repeat (first | exact HI.out | refine Below.drew ?_)); rintro e W ⟨rfl, HI⟩))
            all_goals
              go_wp2_with fail
              go_ret
              exact ⟨rfl, HB1.out.trans (HI.out.mono HB1.out.size)⟩

/-! ### The row -/
set_option maxRecDepth 100000 in
theorem lifted (os : Os) (started : os.Started) (H : Type) (enc : TypeId × Value → H) :
    ReturnsInHanded {} Try.checked os 6 .any (Rows.predMakesSpec.pre6 enc Try.prog Try.f6 Rows.predMakesRow.domain false) (Rows.predMakesSpec.post enc Try.prog Try.f6 false true false false) := by
  refine returnsInHanded_of_change_sized (C := Try.checked) own started (by kernel_rfl) Try.func6
    (ChangeSpec.witness6 (enc := enc) (C := Try.checked) false ⟨#[], #[.slice none 0 0, .agg #[.int .i64 0, .int .u64 0, .int .u64 0]], []⟩ 8 (by kernel_rfl) (by kernel_rfl) (by kernel_rfl) (by kernel_rfl)) ?_
  intro W base args ds gs before hval0 hW hcnd hsz _
  have hval : ∀ (j : Nat) t v, Try.f6.params[j]? = some t → args[j]? = some v → Value.okWide Try.prog W .any base t v := hval0
  have hW' := hW
  obtain ⟨p, q, hA0, hV, rfl, hfz, hnd⟩ := hW
  have hA : DataW.TrodAll enc Try.prog W 0 (fun _ => true) true Try.f6.params.toList args.toList ds p := hA0
  rw [Try.params6] at hA hval hsz
  obtain ⟨v0, vs0, d0, ds0, p0, q0, hargs, rfl, rfl, h0, r0⟩ := trodAll_cons hA
  obtain ⟨v1, vs1, d1, ds1, p1, q1, rfl, rfl, rfl, h1, r1⟩ := trodAll_cons r0
  obtain ⟨rfl, rfl, rfl⟩ := trodAll_nil r1
  obtain rfl : args = #[v0, v1] := by cases args; simp_all
  obtain ⟨rfl, rfl⟩ := trodVars_none hV
  have k0 := h0
  have lt0 : ∀ x ∈ p0, x.block < W.heap.size := by obtain ⟨m, hm⟩ := k0; exact DataW.trod_lt m _ _ _ hm
  obtain ⟨A0, c0, l0, rfl, x0, y0, z0⟩ := open_preds (hval 0 44 v0 rfl rfl) h0
  have k1 := h1
  have lt1 : ∀ x ∈ p1, x.block < W.heap.size := by obtain ⟨m, hm⟩ := k1; exact DataW.trod_lt m _ _ _ hm
  obtain ⟨t1, rfl, z1⟩ := open_test (hval 1 47 v1 rfl rfl) h1
  clear hA0 hval0
  refine (walk A0 c0 l0 x0 z0 t1 z1 W y0).mono fun e W' ⟨he, bel⟩ => ?_
  subst he
  exact ⟨_, rfl, _, _, _, [], _, [], hW', trodAll_mk1 (shut_bool Try.underlying4 _), (trodAll_cons_mk (Below.trod laidOut (by kernel_rfl) (of_decide_eq_true (by kernel_rfl)) k0 bel lt0) (trodAll_cons_mk (Below.trod laidOut (by kernel_rfl) (of_decide_eq_true (by kernel_rfl)) k1 bel lt1) trodAll_mk0)), rfl, bel.frame _, fun h => by cases h⟩

theorem over : Rows.predMakesRow.holds Try.pinned (OpenSpec.ofChange Rows.predMakesSpec) :=
  OpenClaim.holds_of_wide 6 Try.f6 rfl rfl rfl rfl rfl rfl rfl ⟨rfl, rfl, rfl, rfl, rfl⟩ rfl rfl rfl rfl rfl (by kernel_rfl) Try.func6 (by kernel_rfl)
    (of_decide_eq_true (by kernel_rfl)) (by unfold Func.isWrapper; first | (rw [if_pos (by decide +kernel)]; kernel_rfl) | (rw [if_neg (by decide +kernel)]; exact ⟨rfl, rfl⟩))
    (fun os started H enc _ => lifted os started H enc)

/-- The statement. -/
theorem proved : Rows.PredMakesSaid := over
#print axioms proved
end Go.Proofs.Ytmhjnfkhfjejeaa.predMakes
