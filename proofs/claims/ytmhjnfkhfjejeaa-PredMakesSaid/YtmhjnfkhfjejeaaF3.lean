import Derived.Test.YtmhjnfkhfjejeaaG7
namespace Go.Proofs.Ytmhjnfkhfjejeaa
set_option linter.unusedVariables false
set_option linter.unusedSimpArgs false
open Go.RowKit Go.Proofs.YtmhjnfkhfjejeaaW.PrintWords Go.Proofs.YtmhjnfkhfjejeaaW.PrintLast Go.Proofs.YtmhjnfkhfjejeaaW.PrintMore
open PPredCubes
/-! ### The document's Made -/
def rmOk (ps : List S24) : Nat → Bool
  | 0 => true
  | k + 1 => rmOk ps k && (rightB (atP ps k) && decide ((outTo ps k).length + (atP ps k).length < 60))
def rmadeL (kind : Int) (ps : List S24) : List S52 := if rmOk ps ps.length then wholeP (outTo ps ps.length ++ [⟨kind, z47, topsTo ps ps.length⟩]) else []
theorem rmOk_mono {ps : List S24} (k : Nat) (h : rmOk ps k = false) (j : Nat) : rmOk ps (k + j) = false := by
  induction j with
  | zero => exact h
  | succ j ih => show (rmOk ps (k + j) && _) = false; rw [ih]; rfl
theorem rmOk_false {ps : List S24} {k : Nat} (h : rmOk ps k = false) (hk : k ≤ ps.length) : rmOk ps ps.length = false := by
  have := rmOk_mono k h (ps.length - k)
  rwa [show k + (ps.length - k) = ps.length by omega] at this
theorem rmOk_m (ps : List S24) (k : Nat) (h : rmOk ps k = true) : mOk ps k = true := by
  induction k with
  | zero => rfl
  | succ k ih =>
    simp only [rmOk, mOk, Bool.and_eq_true] at h ⊢
    exact ⟨ih h.1, h.2.1, decide_eq_true (by have := of_decide_eq_true h.2.2; omega)⟩
theorem outTo_grows (ps : List S24) (k j : Nat) : (outTo ps k).length ≤ (outTo ps (k + j)).length := by
  induction j with
  | zero => exact Nat.le_refl _
  | succ j ih =>
    refine Nat.le_trans ih ?_
    show _ ≤ (outTo ps (k + j) ++ _).length
    rw [List.length_append]
    omega
/-- Where the two guards differ, the row is too long in the end. -/
theorem rm_long (ps : List S24) (k : Nat) (h : mOk ps k = true) : rmOk ps k = true ∨ 60 ≤ (outTo ps k).length := by
  induction k with
  | zero => exact .inl rfl
  | succ k ih =>
    simp only [mOk, Bool.and_eq_true] at h
    rcases ih h.1 with h1 | h1
    · by_cases h2 : (outTo ps k).length + (atP ps k).length < 60
      · exact .inl (by simp only [rmOk, Bool.and_eq_true]; exact ⟨h1, h.2.1, decide_eq_true h2⟩)
      · refine .inr ?_
        simp only [outTo, List.length_append, shiftTo_len]
        omega
    · exact .inr (Nat.le_trans h1 (outTo_grows ps k 1))
theorem rmadeL_eq (kind : Int) (ps : List S24) : rmadeL kind ps = madeL kind ps := by
  unfold rmadeL madeL
  cases h1 : rmOk ps ps.length with
  | true => rw [rmOk_m ps _ h1]
  | false =>
    cases h2 : mOk ps ps.length with
    | false => rfl
    | true =>
      rcases rm_long ps _ h2 with h3 | h3
      · rw [h1] at h3; cases h3
      · have hr : rightB (outTo ps ps.length ++ [⟨kind, z47, topsTo ps ps.length⟩]) = false := by
          cases h4 : rightB (outTo ps ps.length ++ [⟨kind, z47, topsTo ps ps.length⟩]) with
          | false => rfl
          | true => have := (rightB_len h4).2; rw [List.length_append, List.length_singleton] at this; omega
        unfold wholeP
        rw [hr]
        rfl
set_option maxHeartbeats 4000000 in
set_option maxRecDepth 100000 in
theorem rmade_any (kind : Int) (A : Option Addr) (c : Nat) (ps : List S24) (hP : okPs ps) (w : World) (hr : k24.C w A ps.length ps) :
    Calls Try.prog 28 #[.int .i64 kind, .slice A ps.length c] w fun e w' => ∃ v, e = .returned (.agg #[v]) ∧ k52.R 52 w' w.heap.size (fun _ => True) v (rmadeL kind ps) ∧ Below w.heap.size w w' := by
  have HR := Lib.hid hr
  have HP := Lib.hid hP
  clear hr hP
  go_enter Try.func28, Try.ntmps28
  go_wp2_with (first
    | (refine wpList_alloce rfl 4 rfl 24 rfl (.agg #[.slice none 0 0]) info24z ?_; intro g4 w1 hg4 k4 hb4; have K14 : Hid (w1.heap[g4]? = some (.cells #[.slice none 0 0] 24 (0, 0))) := Lib.hid k4; have HB1 := Lib.hid hb4; clear hb4 k4)
    | (refine wpList_alloce rfl 5 rfl 24 rfl (.agg #[.slice none 0 0]) info24z ?_; intro g5 w2 hg5 k5 hb5; have K5 : Hid (w2.heap[g5]? = some (.cells #[.slice none 0 0] 24 (0, 0))) := Lib.hid k5; have K4 := Lib.hid (blk_below K14.out hb5); have HG45 := Lib.hid (show g4 ≠ g5 from fun e => by have := blk_lt K14.out; have := hg5.out; omega); have HG4 : Hid (w.heap.size ≤ g4) := Lib.hid (by rw [hg4.out]; exact Nat.le_refl _); have HG5 : Hid (w.heap.size ≤ g5) := Lib.hid (by rw [hg5.out]; exact HB1.out.size); have HB2 := Lib.hid (HB1.out.trans (hb5.mono HB1.out.size)); clear hb5 k5 K14 HB1))
  obtain ⟨B, hB⟩ : ∃ B, w2.heap.size = B := ⟨_, rfl⟩
  have HL4 : Hid (g4 < B) := Lib.hid (hB ▸ blk_lt K4.out)
  have HL5 : Hid (g5 < B) := Lib.hid (hB ▸ blk_lt K5.out)
  have HBW : Hid (w.heap.size ≤ B) := Lib.hid (hB ▸ HB2.out.size)
  have HBZ : Hid (w2.heap.size = B) := Lib.hid hB
  clear hB hg4 hg5
  go_loopw [6, 7] (fun v6 vk wr => ∃ k : Nat, vk = .int .i64 k ∧ k ≤ ps.length ∧ Hid (rmOk ps k = true) ∧ Hid (wr.heap[g4]? = some (.cells #[.slice none 0 0] 24 (0, 0))) ∧ (∃ vo, Hid (wr.heap[g5]? = some (.cells #[vo] 24 (0, 0))) ∧ Hid (k52.R 52 wr B (fun q => some q ≠ v6.ownBlock) vo (outTo ps k))) ∧ Hid ((Kd.int .i64).R 3 wr B (fun q => some q = v6.ownBlock) v6 (topsTo ps k)) ∧ Hid (B ≤ wr.heap.size) ∧ Below w.heap.size w wr) (fun _ vk _ => ps.length - (intOf vk).toNat)
  case atStart => exact ⟨0, rfl, by omega, Lib.hid rfl, K4, ⟨_, K5, Lib.hid (Kd.R_nil _ _ _ _ _)⟩, Lib.hid (Kd.R_nil _ _ _ _ _), Lib.hid (Nat.le_of_eq HBZ.out.symm), HB2.out⟩
  case round =>
    obtain ⟨k, rfl, hk, HK, K4, ⟨vo, K5, HN⟩, HT, HS, hw⟩ := hrel
    have HW := Lib.hid hw
    clear hw HB2 HBZ
    obtain ⟨A0, c0, e0⟩ := Kd.R_slice HN.out
    subst e0
    obtain ⟨A6, c6, e6⟩ := Kd.R_slice HT.out
    subst e6
    by_cases hlt : k < ps.length
    · obtain ⟨ad, Ap, cp, rfl, hlies, hle, hcp⟩ := rd24 HR.out hlt
      have hok := okPs_at HP.out k
      have hol := outTo_len ps k (rmOk_m ps k HK.out)
      have htl := topsTo_len ps k
      obtain ⟨p, hp⟩ : ∃ p, atP ps k = p := ⟨_, rfl⟩
      rw [hp] at hlies hle hcp hok
      obtain ⟨ol, hol'⟩ : ∃ ol, outTo ps k = ol := ⟨_, rfl⟩
      rw [hol'] at HN K5 hol
      obtain ⟨tl, htl'⟩ : ∃ tl, topsTo ps k = tl := ⟨_, rfl⟩
      rw [htl'] at HT HN htl ⊢
      have hp0 : w.cell? (ad.add k) = some (.slice Ap p.length cp) := by
        have h := hlies 0 _ rfl
        rwa [add_add, Nat.add_zero] at h
      have HDP : Hid (∀ W : World, Below w.heap.size w W → W.cell? (ad.add k) = some (.slice Ap p.length cp)) := Lib.hid fun W hW => pw_cell_below hW hp0
      have HPQ := Lib.hid hp
      have HOQ := Lib.hid hol'
      have HTQ := Lib.hid htl'
      have HLI : Hid (Lies wr (ad.add k) (#[.slice Ap p.length cp] : Array Value).toList) := Lib.hid (fun j v hv => pw_cell_below HW.out (hlies j v hv))
      have HLE := Lib.hid hle
      have HCP := Lib.hid hcp
      have HOK := Lib.hid hok
      have HOL := Lib.hid hol
      have HTL := Lib.hid htl
      have q1 : (k : Int) < (ps.length : Int) := by omega
      have d5 : wr.cell? ⟨g5, 0, none⟩ = some (.slice A0 ol.length c0) := blk_cell K5.out 0
      clear hp hol' htl' hlies hle hcp hok hol htl hp0
      go_wp2_with (refine wpList_load_at rfl 24 (.tmp 24) rfl (ad.add k) rfl #[.slice Ap p.length cp] _ HLI.out Try.underlying24 rfl info24s ?_)
      go_at_call 25
      refine (rright_any Ap cp p HOK.out wr (Kd.C_below HCP.out HW.out) HLE.out).mono ?_
      rintro e w9 ⟨rfl, hb9⟩
      have HN9 := Lib.hid (Kd.R_below HN.out hb9)
      have HT9 := Lib.hid (Kd.R_below HT.out hb9)
      have K49 := Lib.hid (blk_below K4.out hb9)
      have K59 := Lib.hid (blk_below K5.out hb9)
      have HW9 := Lib.hid (HW.out.trans (hb9.mono HW.out.size))
      have HS9 := Lib.hid (Nat.le_trans HS.out hb9.size)
      have dp := HDP.out _ HW9.out
      clear hb9 HN HT K4 K5 HW HS HLI d5
      have hout : ∀ W, Below w.heap.size w W → rmOk ps (k + 1) = false → ∃ v, Ending.returned (.agg #[.slice none 0 0]) = .returned (.agg #[v]) ∧ k52.R 52 W w.heap.size (fun _ => True) v (rmadeL kind ps) ∧ Below w.heap.size w W := fun W hW hm => by
        have : rmadeL kind ps = [] := by unfold rmadeL; rw [rmOk_false hm (by omega)]; rfl
        rw [this]
        exact ⟨_, rfl, Kd.R_nil _ _ _ _ _, hW⟩
      have HOUT := Lib.hid hout
      clear hout
      cases hrt : rightB p with
      | false =>
        have HM : Hid (rmOk ps (k + 1) = false) := Lib.hid (by simp only [rmOk]; rw [HPQ.out, hrt]; simp)
        clear hrt
        go_upto_region 8 with fail
        go_wp2_with (refine wpList_rowe rfl 24 (.tmp 4) (.tmp 39) rfl rfl g4 rfl #[.slice none 0 0] rfl _ K49.out info24s rfl (by simp [Value.oneCell']) w.heap.size HG4.out ?_; intro wa ka hba; have KA := Lib.hid ka; have HBA := Lib.hid (HW9.out.trans hba); clear ka hba)
        exact c_post (fn := Try.f28) rfl rfl KA.out ⟨_, Try.underlying24⟩ info24s rfl (HOUT.out _ HBA.out HM.out)
      | true =>
        obtain ⟨hpl1, hpl2⟩ := rightB_len hrt
        by_cases h60 : ol.length + p.length < 60
        · have HRT := Lib.hid hrt
          have HM : Hid (rmOk ps (k + 1) = true) := Lib.hid (by simp only [rmOk]; rw [HK.out, HPQ.out, HRT.out, HOQ.out, decide_eq_true h60]; rfl)
          have q2 : ¬ (60 : Int) ≤ (ol.length : Int) + p.length := by omega
          clear hrt
          go_wp2_with fail
          clear dp
          go_loopw [9] (fun vj wx => ∃ j : Nat, vj = .int .i64 j ∧ j ≤ p.length ∧ Hid (wx.heap[g4]? = some (.cells #[.slice none 0 0] 24 (0, 0))) ∧ (∃ vo, Hid (wx.heap[g5]? = some (.cells #[vo] 24 (0, 0))) ∧ Hid (k52.R 52 wx B (fun q => some q ≠ (Value.slice A6 tl.length c6).ownBlock) vo (ol ++ shiftTo ol.length p j))) ∧ Hid ((Kd.int .i64).R 3 wx B (fun q => some q = (Value.slice A6 tl.length c6).ownBlock) (.slice A6 tl.length c6) tl) ∧ Hid (B ≤ wx.heap.size) ∧ Below w.heap.size w wx) (fun vj _ => p.length - (intOf vj).toNat)
          case atStart => exact ⟨0, rfl, by omega, K49, ⟨_, K59, by simpa [shiftTo] using HN9⟩, HT9, HS9, HW9.out⟩
          case round =>
            obtain ⟨wx, rfl⟩ : ∃ wx : World, wx = wr := ⟨_, rfl⟩
            obtain ⟨j, rfl, hj, K4, ⟨vo, K5, HN⟩, HT, HS, hw⟩ := hrel
            have HW := Lib.hid hw
            clear hw K49 K59 HN9 HT9 HS9 HW9
            obtain ⟨A0, c0, e0⟩ := Kd.R_slice HN.out
            subst e0
            have hsl := shiftTo_len (ol.length : Int) p j
            have dp := HDP.out _ HW.out
            by_cases hjl : j < p.length
            · obtain ⟨ad2, A4, c4, e2, hlies, hle4, hsub⟩ := rd52 HCP.out hjl
              subst e2
              have hnr := (nodeB_iff _ _).1 (rightB_at HRT.out hjl)
              obtain ⟨n, hn⟩ : ∃ n, atN p j = n := ⟨_, rfl⟩
              rw [hn] at hlies hle4 hsub hnr
              have hsb : n.f2.length ≤ 12 := by have := hnr.lens.2; unfold highN at this; split at this <;> (try split at this) <;> omega
              obtain ⟨kd, t, sb⟩ := n
              replace hsb : sb.length ≤ 12 := hsb
              have HNQ := Lib.hid hn
              have HLI : Hid (Lies wx (ad2.add (j * 5)) (#[.int .i64 kd, .int .i64 t.f0, .int .u64 t.f1, .int .u64 t.f2, .slice A4 sb.length c4] : Array Value).toList) := Lib.hid (fun j v hv => pw_cell_below HW.out (hlies j v hv))
              have HSUB := Lib.hid hsub
              have HNR := Lib.hid hnr
              have q3 : (j : Int) < (p.length : Int) := by omega
              have HSLL := Lib.hid hsl
              clear hn hlies hsub hnr hsl
              go_wp2_with (first
                | (refine wpList_load_at rfl 52 (.tmp 56) rfl (ad2.add (j * 5)) rfl #[.int .i64 kd, .int .i64 t.f0, .int .u64 t.f1, .int .u64 t.f2, .slice A4 sb.length c4] _ HLI.out Try.underlying52 rfl info52s ?_)
                | (refine wpList_newz rfl rfl 10 rfl 52 (.tmp 57) rfl rfl rfl (.agg #[.int .i64 0, .int .i64 0, .int .u64 0, .int .u64 0, .slice none 0 0]) #[.int .i64 kd, .int .i64 t.f0, .int .u64 t.f1, .int .u64 t.f2, .slice A4 sb.length c4] info52z rfl rfl info52s rfl (by simp [Value.oneCell']) ?_; intro g11 w11 hg11 k11 hb11; have d11 : w11.cell? ⟨g11, 4, none⟩ = some (.slice A4 sb.length c4) := blk_cell k11 4; have K11 := Lib.hid k11; have HB11 := Lib.hid hb11; clear k11 hb11))
              have HN11 := Lib.hid (Kd.R_below HN.out HB11.out)
              have HT11 := Lib.hid (Kd.R_below HT.out HB11.out)
              have K41 := Lib.hid (blk_below K4.out HB11.out)
              have K51 := Lib.hid (blk_below K5.out HB11.out)
              have HW11 := Lib.hid (HW.out.trans (HB11.out.mono HW.out.size))
              have HS11 := Lib.hid (Nat.le_trans HS.out HB11.out.size)
              clear HN HT K4 K5 HW HS HB11 hg11 HLI d11 dp
              go_loopw [11, 12] (fun v12 vi wy => ∃ i : Nat, vi = .int .i64 i ∧ i ≤ sb.length ∧ Hid ((Kd.int .i64).R 3 wy w11.heap.size (fun _ => True) v12 (addTo ol.length sb i)) ∧ Below w11.heap.size w11 wy) (fun _ vi _ => sb.length - (intOf vi).toNat)
              case atStart => exact ⟨0, rfl, by omega, Lib.hid (Kd.R_nil _ _ _ _ _), Below.refl _ _⟩
              case round =>
                obtain ⟨wy, rfl⟩ : ∃ wy : World, wy = wr := ⟨_, rfl⟩
                obtain ⟨i, rfl, hi, HI, hwy⟩ := hrel
                have HWY := Lib.hid hwy
                have d11 : wy.cell? ⟨g11, 4, none⟩ = some (.slice A4 sb.length c4) := blk_cell (blk_below K11.out hwy) 4
                clear hwy
                obtain ⟨A12, c12, e12⟩ := Kd.R_slice HI.out
                subst e12
                by_cases hil : i < sb.length
                · obtain ⟨ads, e4, hcs⟩ := rdI (Kd.C_below HSUB.out (HW11.out.trans (HWY.out.mono HW11.out.size))) hil
                  subst e4
                  obtain ⟨e0, hlt0⟩ := inH_at HNR.out.subs hil
                  replace e0 : sb.getD i 0 = (subAt sb i : Int) := e0
                  rw [e0] at hcs
                  obtain ⟨s, hs⟩ : ∃ s, subAt sb i = s := ⟨_, rfl⟩
                  rw [hs] at hcs hlt0
                  have HSQ : Hid (addTo ol.length sb (i + 1) = addTo ol.length sb i ++ [(s : Int) + ol.length]) := Lib.hid (by simp only [addTo]; rw [e0, hs])
                  have HAL := Lib.hid (addTo_len (ol.length : Int) sb i)
                  have hol := HOL.out
                  have q4 : (i : Int) < (sb.length : Int) := by omega
                  have q5 : (s : Int) < j := by omega
                  clear e0 hs
                  go_wp2_with (at_builtin; refine Kd.R_append (Kd.int .i64) (w0 := w11) (W := wy) w11.heap.size rfl (.tmp 65) (.tmp 73) 50 3 _ 8 rfl Try.underlying50 info3 rfl (by decide) (by decide) (.slice A12 (addTo ol.length sb i).length c12) (addTo ol.length sb i) ((s : Int) + ol.length) [.int .i64 ((s : Int) + ol.length)] (fun _ => True) (fun _ => False) rfl rfl rfl (fun _ h => h.elim) (fun _ _ => trivial) HI.out HWY.out HWY.out.size ?c4 ?_)
                  case c4 => rw [HAL.out]; omega
                  intro v1 w1 hr1 hb1 _ _
                  rw [← HSQ.out] at hr1
                  have HR1 := Lib.hid hr1
                  have HB1 := Lib.hid hb1
                  clear hr1 hb1 hcs d11
                  go_wp2_with fail
                  go_roundw
                  case rel => exact ⟨i + 1, by go_num, by omega, HR1, HB1.out⟩
                  case measure => simp [intOf] <;> omega
                · obtain rfl : i = sb.length := by omega
                  obtain ⟨on, hon⟩ : ∃ on, ol ++ shiftTo ol.length p j = on := ⟨_, rfl⟩
                  have HOND := Lib.hid (show on.length = ol.length + (shiftTo (ol.length : Int) p j).length from by rw [← hon, List.length_append])
                  have hr3 : ol ++ shiftTo ol.length p (j + 1) = on ++ [shiftN ol.length (atN p j)] := by rw [← hon, List.append_assoc]; rfl
                  have HR3 := Lib.hid hr3
                  rw [hon] at HN11 K51
                  clear hon hr3
                  have k11 := blk_below K11.out HWY.out
                  have K4Z := Lib.hid (blk_below K41.out HWY.out)
                  have K5Z := Lib.hid (blk_below K51.out HWY.out)
                  have hal := addTo_len (ol.length : Int) sb sb.length
                  have d0 : wy.cell? ⟨g11, 0, none⟩ = some (.int .i64 kd) := blk_cell k11 0
                  have HLT : Hid (Lies wy ⟨g11, 1, none⟩ (#[.int .i64 t.f0, .int .u64 t.f1, .int .u64 t.f2] : Array Value).toList) := Lib.hid (fun q v hv => by
                    rw [add_at, blk_cell k11 (1 + q)]
                    rw [Nat.add_comm]
                    match q, hv with
                    | 0, hv => exact hv
                    | 1, hv => exact hv
                    | 2, hv => exact hv
                    | (q + 3), hv => simp at hv)
                  obtain ⟨al, hal'⟩ : ∃ al, addTo ol.length sb sb.length = al := ⟨_, rfl⟩
                  rw [hal'] at HI hal ⊢
                  have HIZ : Hid ((Kd.int .i64).R 3 wy B (fun q => w11.heap.size ≤ q) (.slice A12 al.length c12) al) := Lib.hid (Kd.R_lower (Kd.R_mono (Kd.R_bound HI.out) (fun q hq => hq.2.1)) HS11.out)
                  have HNZ := Lib.hid (Kd.R_below HN11.out HWY.out)
                  have HTZ := Lib.hid (Kd.R_below HT11.out HWY.out)
                  have d5 : wy.cell? ⟨g5, 0, none⟩ = some (.slice A0 on.length c0) := blk_cell K5Z.out 0
                  have HBZ := Lib.hid (HW11.out.trans (HWY.out.mono HW11.out.size))
                  have HSZ : Hid (B ≤ wy.heap.size) := Lib.hid (Nat.le_trans HS11.out HWY.out.size)
                  have HSB : Hid (w11.heap.size ≤ wy.heap.size) := Lib.hid HWY.out.size
                  have HL6 := Lib.hid (Kd.R_lt HT11.out)
                  have HL0 := Lib.hid (Kd.R_lt HN11.out)
                  have HAQ := Lib.hid hal'
                  clear k11 hal hal' HI HN11 HT11 HW11 HWY K11 K41 K51 HS11
                  go_wp2_with (first
                    | (refine wpList_load_at rfl 47 (.tmp 79) rfl ⟨g11, 1, none⟩ rfl #[.int .i64 t.f0, .int .u64 t.f1, .int .u64 t.f2] _ HLT.out Try.underlying47 rfl info47s ?_)
                    | (at_builtin; refine Kd.R_append k52 (w0 := wy) (W := wy) B rfl (.tmp 76) (.tmp 83) 22 52 _ 56 rfl Try.underlying22 info52 rfl (by decide) (by decide) (.slice A0 on.length c0) on ⟨kd, t, al⟩ [.int .i64 kd, .int .i64 t.f0, .int .u64 t.f1, .int .u64 t.f2, .slice A12 al.length c12] (fun q => some q ≠ (Value.slice A6 tl.length c6).ownBlock) (fun q => w11.heap.size ≤ q) rfl rfl (k52_mkM _ B _ ⟨kd, t, al⟩ HIZ.out) ?okp ?fresh HNZ.out ?blw HSZ.out ?len ?_))
                  case okp => exact fun q hq => ⟨fun e => by have := HL6.out q e.symm; omega, fun e => by have := HL0.out q e.symm; omega⟩
                  case fresh => exact fun q hq => fun e => by have := HL6.out q e.symm; have := HSB.out; omega
                  case blw => exact Below.refl _ _
                  case len => have := HSLL.out; have := HOL.out; have := HOND.out; omega
                  intro v1 w1 hr1 hb1 hg1 _
                  have hnom := (Kd.R_bound HNZ.out).1
                  have k5 := blk_grown K5Z.out hg1 (fun e => by have := (hnom g5 e.symm).2.1; have := HL5.out; omega)
                  have k4 := blk_grown K4Z.out hg1 (fun e => by have := (hnom g4 e.symm).2.1; have := HL4.out; omega)
                  have ht1 := Kd.R_grown HTZ.out hg1 (fun q hq e => (HNZ.out.1 q e.symm) hq)
                  have hr2 : k52.R 52 w1 B (fun q => some q ≠ (Value.slice A6 tl.length c6).ownBlock) v1 (ol ++ shiftTo ol.length p (j + 1)) := by
                    rw [HR3.out, HNQ.out]; unfold shiftN; dsimp only; rw [HAQ.out]; exact hr1
                  obtain ⟨on2, hon2⟩ : ∃ on2, ol ++ shiftTo ol.length p (j + 1) = on2 := ⟨_, rfl⟩
                  rw [hon2] at hr2
                  have HON2 := Lib.hid hon2
                  clear hon2
                  have f5 := blkfree k5 0
                  have d5 : w1.cell? ⟨g5, 0, none⟩ = some (.slice A0 on.length c0) := blk_cell k5 0
                  obtain ⟨A1, c1, e1⟩ := Kd.R_slice hr2
                  have K5 := Lib.hid (blk_put k5 0 v1 rfl)
                  have K4 := Lib.hid ((Below.heap_setCell w1 ⟨g5, 0, none⟩ v1 g4 HG45.out).trans k4)
                  have HN := Lib.hid (Kd.R_mono (Kd.R_far (p := ⟨g5, 0, none⟩) (Kd.R_bound hr2) (fun q hq => by have := hq.2.1; have := HL5.out; intro e; simp only [] at e; omega) v1) (fun _ h => h.1))
                  have HT := Lib.hid (Kd.R_mono (Kd.R_far (p := ⟨g5, 0, none⟩) (Kd.R_bound ht1) (fun q hq => by have := hq.2.1; have := HL5.out; intro e; simp only [] at e; omega) v1) (fun _ h => h.1))
                  have HB := Lib.hid ((HBZ.out.trans (hb1.mono HBW.out)).setCell (p := ⟨g5, 0, none⟩) HG5.out v1)
                  have HS : Hid (B ≤ (w1.setCell ⟨g5, 0, none⟩ v1).heap.size) := Lib.hid (by rw [World.size_setCell]; exact Nat.le_trans HSZ.out (World.grownBy.size hg1))
                  clear hnom k5 k4 ht1 hr1 hr2 hb1 hg1 HNZ HTZ HIZ K5Z K4Z HBZ HSZ HSB d11 d0 HLT
                  subst e1
                  go_wp2_with fail
                  go_roundw
                  case rel => exact ⟨j + 1, by go_num, by omega, K4, ⟨_, K5, Lib.hid (by rw [HON2.out]; exact HN.out)⟩, HT, HS, HB.out⟩
                  case measure => simp [intOf] <;> omega
            · obtain rfl : j = p.length := by omega
              have HSQ : Hid (outTo ps (k + 1) = ol ++ shiftTo ol.length p p.length) := Lib.hid (by simp only [outTo]; rw [HOQ.out, HPQ.out])
              have HTS : Hid (topsTo ps (k + 1) = tl ++ [((ol ++ shiftTo ol.length p p.length).length : Int) - 1]) := Lib.hid (by simp only [topsTo]; rw [HTQ.out, HSQ.out])
              obtain ⟨on, hon⟩ : ∃ on, ol ++ shiftTo ol.length p p.length = on := ⟨_, rfl⟩
              have hol : on.length = ol.length + p.length := by rw [← hon, List.length_append, hsl]
              have hol1 : 1 ≤ on.length := by omega
              have hol2 : on.length ≤ 60 := by omega
              rw [hon] at HSQ HTS HN K5
              have d5 : wx.cell? ⟨g5, 0, none⟩ = some (.slice A0 on.length c0) := blk_cell K5.out 0
              have hk60 := HOL.out
              have hk61 : k ≤ 60 := by omega
              clear hon hsl hol hk60
              go_wp2_with (at_builtin; refine Kd.R_append (Kd.int .i64) (w0 := wx) (W := wx) B rfl (.tmp 86) (.tmp 91) 50 3 _ 8 rfl Try.underlying50 info3 rfl (by decide) (by decide) (.slice A6 tl.length c6) tl ((on.length : Int) - 1) [.int .i64 ((on.length : Int) - 1)] (fun _ => True) (fun _ => False) rfl rfl rfl (fun _ h => h.elim) (fun _ _ => trivial) (Kd.R_mono HT.out fun _ _ => trivial) (Below.refl _ _) HS.out ?c4 ?_)
              case c4 => rw [HTL.out]; omega
              intro v1 w1 hr1 hb1 hg1 hat
              have hbd := (Kd.R_bound HT.out).1
              have K5' := Lib.hid (blk_grown K5.out hg1 (fun e => by have := (hbd g5 e.symm).2.1; have := HL5.out; omega))
              have K4' := Lib.hid (blk_grown K4.out hg1 (fun e => by have := (hbd g4 e.symm).2.1; have := HL4.out; omega))
              have HT' : Hid ((Kd.int .i64).R 3 w1 B (fun q => some q = v1.ownBlock) v1 (topsTo ps (k + 1))) := Lib.hid (by
                rw [HTS.out]; exact Kd.R_flat (fun h => h) hr1 (fun q hq _ => hq.symm))
              have HN' : Hid (k52.R 52 w1 B (fun q => some q ≠ v1.ownBlock) (.slice A0 on.length c0) (outTo ps (k + 1))) := Lib.hid (by
                rw [HSQ.out]
                exact Kd.R_mono (Kd.R_grown (Kd.R_bound HN.out) hg1 (fun q hq => hq.1)) (fun q hq e => by
                  rcases hat with h | ⟨b, h, hle⟩
                  · rw [h] at e; exact hq.1 e
                  · rw [h] at e; injection e with e; have := hq.2.2.1; omega))
              have HB' := Lib.hid (HW.out.trans (hb1.mono HBW.out))
              have HS' := Lib.hid (Nat.le_trans HS.out hb1.size)
              clear hbd hr1 hb1 hg1 hat d5 HT HN K4 K5 HS HW
              go_wp2_with fail
              go_roundw
              case rel => exact ⟨k + 1, by go_num, by omega, HM, K4', ⟨_, K5', HN'⟩, HT', HS', HB'.out⟩
              case measure => simp [intOf] <;> omega
        · have HM : Hid (rmOk ps (k + 1) = false) := Lib.hid (by simp only [rmOk]; rw [HOQ.out, HPQ.out, decide_eq_false h60]; simp)
          have q2 : (60 : Int) ≤ (ol.length : Int) + p.length := by omega
          have hol := HOL.out
          clear hrt
          go_upto_region 8 with fail
          go_wp2_with (refine wpList_rowe rfl 24 (.tmp 4) (.tmp 39) rfl rfl g4 rfl #[.slice none 0 0] rfl _ K49.out info24s rfl (by simp [Value.oneCell']) w.heap.size HG4.out ?_; intro wa ka hba; have KA := Lib.hid ka; have HBA := Lib.hid (HW9.out.trans hba); clear ka hba)
          exact c_post (fn := Try.f28) rfl rfl KA.out ⟨_, Try.underlying24⟩ info24s rfl (HOUT.out _ HBA.out HM.out)
    · obtain rfl : k = ps.length := by omega
      have hol := outTo_len ps ps.length (rmOk_m ps _ HK.out)
      have htl := topsTo_len ps ps.length
      have hokO : okP (outTo ps ps.length ++ [⟨kind, z47, topsTo ps ps.length⟩]) := okP_app (outTo_ok HP.out _) (okP_one okT_z)
      have HOKO := Lib.hid hokO
      have HMD : Hid (rmadeL kind ps = wholeP (outTo ps ps.length ++ [⟨kind, z47, topsTo ps ps.length⟩])) := Lib.hid (by unfold rmadeL; rw [HK.out]; rfl)
      obtain ⟨ol, hol'⟩ : ∃ ol, outTo ps ps.length = ol := ⟨_, rfl⟩
      rw [hol'] at HN K5 hol HOKO HMD
      obtain ⟨tl, htl'⟩ : ∃ tl, topsTo ps ps.length = tl := ⟨_, rfl⟩
      rw [htl'] at HT HN htl HOKO HMD ⊢
      have d5 : wr.cell? ⟨g5, 0, none⟩ = some (.slice A0 ol.length c0) := blk_cell K5.out 0
      have HTL := Lib.hid htl
      clear hol' htl' hokO htl
      go_wp2_with (at_builtin; refine Kd.R_append k52 (w0 := wr) (W := wr) B rfl (.tmp 94) (.tmp 98) 22 52 _ 56 rfl Try.underlying22 info52 rfl (by decide) (by decide) (.slice A0 ol.length c0) ol ⟨kind, z47, tl⟩ [.int .i64 kind, .int .i64 0, .int .u64 0, .int .u64 0, .slice A6 tl.length c6] (fun _ => True) (fun q => some q = (Value.slice A6 tl.length c6).ownBlock) rfl rfl (k52_mkM wr B _ ⟨kind, z47, tl⟩ HT.out) (fun q hq => ⟨trivial, fun e => HN.out.1 q e.symm hq⟩) (fun _ _ => trivial) (Kd.R_mono HN.out fun _ _ => trivial) (Below.refl _ _) HS.out ?hlen ?_)
      case hlen => omega
      clear d5
      intro v1 w1 hr1 hb1 hg1 _
      have hbd := (Kd.R_bound HN.out).1
      have k51 := blk_grown K5.out hg1 (fun e => by have := (hbd g5 e.symm).2.1; have := HL5.out; omega)
      have k41 := blk_grown K4.out hg1 (fun e => by have := (hbd g4 e.symm).2.1; have := HL4.out; omega)
      obtain ⟨L, hL⟩ : ∃ L, ol ++ [⟨kind, z47, tl⟩] = L := ⟨_, rfl⟩
      rw [hL] at hr1 HOKO HMD
      obtain ⟨A1, c1, e1⟩ := Kd.R_slice hr1
      subst e1
      have HRL := Lib.hid (Kd.R_mono (Kd.R_far (p := ⟨g5, 0, none⟩) (Kd.R_bound hr1) (fun q hq => by have := hq.2.1; have := HL5.out; intro e; simp only [] at e; omega) (.slice A1 L.length c1)) (fun _ _ => trivial) : k52.R 52 (w1.setCell ⟨g5, 0, none⟩ (.slice A1 L.length c1)) B (fun _ => True) _ L)
      have K51 := Lib.hid (blk_put k51 0 (.slice A1 L.length c1) rfl)
      have K41 := Lib.hid ((Below.heap_setCell w1 ⟨g5, 0, none⟩ (.slice A1 L.length c1) g4 HG45.out).trans k41)
      have HB1 := Lib.hid ((HW.out.trans (hb1.mono HBW.out)).setCell (p := ⟨g5, 0, none⟩) HG5.out (.slice A1 L.length c1))
      have f5 := blkfree k51 0
      have d5 : w1.cell? ⟨g5, 0, none⟩ = some (.slice A0 ol.length c0) := blk_cell k51 0
      clear hbd k51 k41 hL hr1 hb1 hg1 K5 K4 HN HT HW HL5
      go_wp2_with (refine wpList_load_at rfl 24 (.tmp 5) rfl ⟨g5, 0, none⟩ rfl #[.slice A1 L.length c1] _ (Lies.of_block K51.out) Try.underlying24 rfl info24s ?_)
      generalize w1.setCell ⟨g5, 0, none⟩ (.slice A1 L.length c1) = w3 at HRL K51 K41 HB1 ⊢
      have HCL := Lib.hid (Kd.R_reads' HRL.out).2
      go_at_call 25
      refine (rright_any A1 c1 L HOKO.out w3 HCL.out.2 HCL.out.1).mono ?_
      rintro e w4 ⟨rfl, hb4⟩
      have HRV := Lib.hid (Kd.R_below HRL.out hb4)
      have K44 := Lib.hid (blk_below K41.out hb4)
      have K54 := Lib.hid (blk_below K51.out hb4)
      have HB4 := Lib.hid (HB1.out.trans (hb4.mono HB1.out.size))
      clear hb4 K41 K51 HB1 HCL HRL
      cases hrt : rightB L with
      | false =>
        have HW : Hid (rmadeL kind ps = []) := Lib.hid (by rw [HMD.out]; unfold wholeP; rw [hrt]; rfl)
        clear hrt
        go_wp2_with (refine wpList_rowx rfl 24 (.tmp 4) (.tmp 104) rfl rfl g4 rfl #[.slice none 0 0] rfl _ K44.out info24s rfl one_slice w.heap.size HG4.out ?_; intro wa ka hka hba; have KA := Lib.hid ka; have HKA := Lib.hid hka; have HBA := Lib.hid hba; clear ka hba hka)
        exact c_post (fn := Try.f28) rfl rfl KA.out ⟨_, Try.underlying24⟩ info24s rfl ⟨_, rfl, by rw [HW.out]; exact Kd.R_nil _ _ _ _ _, HB4.out.trans HBA.out⟩
      | true =>
        have HW : Hid (rmadeL kind ps = L) := Lib.hid (by rw [HMD.out]; unfold wholeP; rw [hrt]; rfl)
        clear hrt
        go_wp2_with (first
          | (refine wpList_load_at rfl 24 (.tmp 5) rfl ⟨g5, 0, none⟩ rfl #[.slice A1 L.length c1] _ (Lies.of_block K54.out) Try.underlying24 rfl info24s ?_)
          | (refine wpList_rowx rfl 24 (.tmp 4) (.tmp 105) rfl rfl g4 rfl #[.slice A1 L.length c1] rfl _ K44.out info24s rfl one_slice w.heap.size HG4.out ?_; intro wa ka hka hba; have KA := Lib.hid ka; have HKA := Lib.hid hka; have HBA := Lib.hid hba; clear ka hba hka))
        exact c_post (fn := Try.f28) rfl rfl KA.out ⟨_, Try.underlying24⟩ info24s rfl ⟨_, rfl, by rw [HW.out]; exact Kd.R_lower (Kd.R_mono (Kd.R_step (Kd.R_bound HRV.out) (fun q hq _ => HKA.out q (by have := hq.2.1; have := HL4.out; omega))) (fun _ _ => trivial)) HBW.out, HB4.out.trans HBA.out⟩
end Go.Proofs.Ytmhjnfkhfjejeaa
