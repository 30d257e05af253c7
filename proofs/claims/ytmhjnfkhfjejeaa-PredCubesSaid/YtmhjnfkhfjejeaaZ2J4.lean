import Derived.Test.YtmhjnfkhfjejeaaZ2P11
import Derived.StillTailTactics
namespace Go.Proofs.Ytmhjnfkhfjejeaa
set_option linter.unusedVariables false
set_option linter.unusedSimpArgs false
open Go.RowKit Go.Proofs.YtmhjnfkhfjejeaaW.PrintWords Go.Proofs.YtmhjnfkhfjejeaaW.PrintLast Go.Proofs.YtmhjnfkhfjejeaaW.PrintMore
open PPredCubes
/-! ### The document's Cubes -/
theorem cubesH_have (ns : List S52) (k : Nat) : (cubesH (haveTo ns k)).length = k := by rw [cubesH_len, haveTo_len]
theorem cubesH_succ (ns : List S52) (k : Nat) : cubesH (haveTo ns (k + 1)) = cubesH (haveTo ns k) ++ [(nodeL (atN ns k) (haveTo ns k)).map cubeL] := by
  unfold cubesH; simp only [haveTo, List.map_append, List.map_cons, List.map_nil]
theorem cubes_last {ns : List S52} (hR : rightB ns = true) (hO : boxesOk ns = true) {m : Nat} (hm : ns.length = m + 1) : (cubesH (haveTo ns ns.length)).getD m [] = cubesL ns := by
  rw [cubesL_map hR hO]
  unfold boxesL
  rw [if_pos hO]
  have := cubesH_at (hs := haveTo ns ns.length) (i := m) (by rw [haveTo_len]; omega)
  unfold rd_L8 at this
  rw [Int.toNat_natCast] at this
  rw [this, show ns.length - 1 = m by omega]
set_option maxHeartbeats 4000000 in
set_option maxRecDepth 100000 in
theorem rcubes_any (A : Option Addr) (c : Nat) (ns : List S52) (hP : okP ns) (w : World) (hr : k52.C w A ns.length ns) (hc : ns.length ≤ c) :
    Calls Try.prog 31 #[.agg #[.slice A ns.length c]] w fun e w' => ∃ v, e = .returned (.tuple #[v, .int .i64 (cubesE ns)]) ∧ Kd.V (Kd.slice 47 k47) 33 w' w.heap.size (fun k => w.heap.size ≤ k) v (cubesL ns) ∧ Below w.heap.size w w' := by
  have HR := Lib.hid hr
  have HP := Lib.hid hP
  have HC := Lib.hid hc
  clear hr hP hc
  cases hrt : rightB ns with
  | false =>
    have HRT := Lib.hid hrt
    go_enter Try.func31, Try.ntmps31
    go_wp2_with (first
      | (refine wpList_box rfl 1 rfl #[.slice A ns.length c] 24 ?hr ?_; (case hr => first | (go_simp; done) | (go_simp; rfl)); intro g1 w1 hg1 k1 hb1; have K1 := Lib.hid k1; have HB1 := Lib.hid hb1; clear hb1 k1)
      | (refine wpList_load_at rfl 24 (.tmp 1) rfl ⟨g1, 0, none⟩ rfl #[.slice A ns.length c] _ (Lies.of_block K1.out) Try.underlying24 rfl info24s ?_))
    go_at_call 25
    refine (rright_any A c ns HP.out w1 (Kd.C_below HR.out HB1.out) HC.out).mono ?_
    rintro e w2 ⟨rfl, hb2⟩
    have HB2 := Lib.hid (HB1.out.trans (hb2.mono HB1.out.size))
    rw [hrt]
    clear hb2 hrt
    go_wp2_with fail
    go_ret2
    exact ⟨_, ret_vi (by unfold cubesE; rw [HRT.out]; rfl), by unfold cubesL; rw [HRT.out]; exact Kd.V_nil _ _ _ _ _, HB2.out⟩
  | true =>
    have HRT := Lib.hid hrt
    have HLN := Lib.hid (rightB_len hrt)
    obtain ⟨hl1, hl2⟩ := rightB_len hrt
    go_enter Try.func31, Try.ntmps31
    go_wp2_with (first
      | (refine wpList_box rfl 1 rfl #[.slice A ns.length c] 24 ?hr ?_; (case hr => first | (go_simp; done) | (go_simp; rfl)); intro g1 w1 hg1 k1 hb1; have K1 := Lib.hid k1; have HB1 := Lib.hid hb1; clear hb1 k1)
      | (refine wpList_load_at rfl 24 (.tmp 1) rfl ⟨g1, 0, none⟩ rfl #[.slice A ns.length c] _ (Lies.of_block K1.out) Try.underlying24 rfl info24s ?_))
    go_at_call 25
    refine (rright_any A c ns HP.out w1 (Kd.C_below HR.out HB1.out) HC.out).mono ?_
    rintro e w2 ⟨rfl, hb2⟩
    have HB2 := Lib.hid (HB1.out.trans (hb2.mono HB1.out.size))
    have K2 := Lib.hid (blk_below K1.out hb2)
    rw [hrt]
    clear hb2 hrt K1 HB1 hg1
    go_wp2_with fail
    obtain ⟨wo, rfl⟩ : ∃ wo : World, wo = w2 := ⟨_, rfl⟩
    go_loopw [4, 5] (fun v4 vk wr => ∃ k : Nat, vk = .int .i64 k ∧ k ≤ ns.length ∧ Hid (haveOk ns k = true) ∧ Hid (Kd.N (Kd.slice 33 (Kd.slice 47 k47)) 26 wr wo.heap.size (fun q => wo.heap.size ≤ q) v4 (cubesH (haveTo ns k))) ∧ Below wo.heap.size wo wr) (fun _ vk _ => ns.length - (intOf vk).toNat)
    case atStart => exact ⟨0, rfl, by omega, Lib.hid rfl, Lib.hid (Kd.N_nil _ _ _ _ _), Below.refl _ _⟩
    case round =>
      obtain ⟨k, rfl, hk, HK, HN, hw⟩ := hrel
      have HW := Lib.hid hw
      have HWW := Lib.hid (HB2.out.trans (hw.mono HB2.out.size))
      have kr := blk_below K2.out hw
      have d0 : wr.cell? ⟨g1, 0, none⟩ = some (.slice A ns.length c) := blk_cell kr 0
      clear hw kr
      obtain ⟨A0, c0, e0⟩ := Kd.N_slice HN.out
      subst e0
      by_cases hlt : k < ns.length
      · obtain ⟨ad, A4, c4, rfl, hlies, hle4, hsub⟩ := rd52 (Kd.C_below HR.out HWW.out) hlt
        have hnr := (nodeB_iff _ _).1 (rightB_at HRT.out hlt)
        have hok := okP_at HP.out k
        obtain ⟨K, hK⟩ := (node_f hnr hok (haveH HP.out HRT.out hk HK.out) (haveTo_len ns k).symm).at_
        have HS1 := Lib.hid (cubesH_succ ns k)
        have HO1 : Hid (haveOk ns (k + 1) = (haveOk ns k && nodeOk (atN ns k) (haveTo ns k))) := Lib.hid rfl
        obtain ⟨no, hno⟩ : ∃ x, nodeOk (atN ns k) (haveTo ns k) = x := ⟨_, rfl⟩
        obtain ⟨L, hL⟩ : ∃ x, (nodeL (atN ns k) (haveTo ns k)).map cubeL = x := ⟨_, rfl⟩
        rw [hno, hL] at hK
        rw [hno] at HO1
        rw [hL] at HS1
        obtain ⟨n, hn⟩ : ∃ n, atN ns k = n := ⟨_, rfl⟩
        rw [hn] at hlies hle4 hsub hK
        obtain ⟨kd, t, sb⟩ := n
        have HLI := Lib.hid hlies
        have HSUB := Lib.hid hsub
        have HLE4 := Lib.hid hle4
        have HKF := Lib.hid hK
        have q1 : (k : Int) < (ns.length : Int) := by omega
        have HOWN := Lib.hid (Kd.N_lt HN.out)
        clear hn hlies hsub hle4 hnr hok hno hL hK
        go_wp2_with (refine wpList_load_at rfl 52 (.tmp 22) rfl (ad.add (k * 5)) rfl #[.int .i64 kd, .int .i64 t.f0, .int .u64 t.f1, .int .u64 t.f2, .slice A4 sb.length c4] _ HLI.out Try.underlying52 rfl info52s ?_)
        go_at_call 58
        refine (droverref16_node.calls K kd t.f0 t.f1 t.f2 A4 c4 sb (fun q => wo.heap.size ≤ q ∧ some q ≠ (Value.slice A0 (cubesH (haveTo ns k)).length c0).ownBlock) A0 c0 (cubesH (haveTo ns k)) L no wr HSUB.out HLE4.out (Kd.N_HV HN.out) HKF.out).mono ?_
        rintro e w5 ⟨v, rfl, hv, hb5⟩
        have HB5 := Lib.hid hb5
        have HN5 := Lib.hid (Kd.N_below HN.out hb5)
        have HW5 := Lib.hid (HW.out.trans (hb5.mono HW.out.size))
        have HLC := Lib.hid (cubesH_have ns k)
        obtain ⟨A5, c5, ev, hle5, hf5⟩ := hv
        subst ev
        have HF5 := Lib.hid hf5
        have HLE5 := Lib.hid hle5
        clear hb5 hf5 hle5 d0 HN
        cases no with
        | false =>
          have HNK : Hid (boxesOk ns = false) := Lib.hid (by
            have := haveOk_mono (k + 1) (HO1.out.trans (Bool.and_false _)) (ns.length - (k + 1))
            rwa [show k + 1 + (ns.length - (k + 1)) = ns.length by omega] at this)
          go_wp2_with fail
          go_ret2
          exact ⟨_, ret_vi (by unfold cubesE; rw [HRT.out, HNK.out]; rfl), by unfold cubesL; rw [HRT.out, HNK.out]; exact Kd.V_nil _ _ _ _ _, HB2.out.trans (HW5.out.mono HB2.out.size)⟩
        | true =>
          have HK1 : Hid (haveOk ns (k + 1) = true) := Lib.hid (by rw [HO1.out, HK.out]; rfl)
          go_wp2_with (at_builtin; refine Kd.N_append (Kd.slice 33 (Kd.slice 47 k47)) (w0 := wo) (W := w5) wo.heap.size rfl (.tmp 30) (.tmp 32) 81 26 _ 24 rfl Try.underlying81 info26 rfl (by decide) (by decide) (.slice A0 (cubesH (haveTo ns k)).length c0) (cubesH (haveTo ns k)) L [.slice A5 L.length c5] (fun q => wo.heap.size ≤ q) (fun q => (wo.heap.size ≤ q ∧ some q ≠ (Value.slice A0 (cubesH (haveTo ns k)).length c0).ownBlock) ∨ wr.heap.size ≤ q) rfl rfl (Kd.FK_slice_mk HLE5.out HF5.out) (fun q hq => hq.elim (fun h => h) (fun h => ⟨Nat.le_trans HW.out.size h, fun e => by have := HOWN.out _ e.symm; omega⟩)) (fun q hq => Nat.le_trans HW5.out.size hq) HN5.out HW5.out HW5.out.size (by have := HLC.out; omega) ?_)
          intro v1 w6 hn6 hb6 _ _
          have HN6 : Hid (Kd.N (Kd.slice 33 (Kd.slice 47 k47)) 26 w6 wo.heap.size (fun q => wo.heap.size ≤ q) v1 (cubesH (haveTo ns (k + 1)))) := Lib.hid (by rw [HS1.out]; exact hn6)
          have HW6 := Lib.hid hb6
          clear hn6 hb6 HN5
          go_wp2_with fail
          go_roundw
          case rel => exact ⟨k + 1, by go_num, by omega, HK1, HN6, HW6.out⟩
          case measure => simp [intOf] <;> omega
      · obtain rfl : k = ns.length := by omega
        have HBO : Hid (boxesOk ns = true) := HK
        obtain ⟨m, hm⟩ : ∃ m, ns.length = m + 1 := ⟨ns.length - 1, by omega⟩
        have hcl := cubes_last HRT.out HBO.out hm
        have hlc := cubesH_have ns ns.length
        obtain ⟨H, hH⟩ : ∃ H, cubesH (haveTo ns ns.length) = H := ⟨_, rfl⟩
        rw [hH] at HN hcl hlc
        have hlm : H.length = m + 1 := hlc.trans hm
        obtain ⟨ad4, e4, _⟩ := (Kd.N_reads' HN.out).2.2.2.2 (by omega)
        subst e4
        obtain ⟨cs, hcl2, hF, hcc⟩ := Kd.N_get HN.out ([] : List (List S47)) (m : Int) (by omega) (by omega)
        rw [Int.toNat_natCast] at hF hcc
        rw [hcl] at hF
        obtain ⟨A6, c6, rfl, hle6, hf6⟩ := Kd.FK_slice_open hF
        have d4 : wr.cell? (ad4.add m) = some (.slice A6 (cubesL ns).length c6) := by
          have := hcc 0 _ rfl
          rwa [show (Kd.slice 33 (Kd.slice 47 k47)).sz = 1 from rfl, Nat.mul_one, Nat.add_zero] at this
        have HF6 := Lib.hid hf6
        have HLE6 := Lib.hid hle6
        have HLM := Lib.hid hlm
        rw [hH]
        rw [hlm]
        have e1 : (((m + 1 : Nat) : Int) - 1) = (m : Int) := by omega
        have q2 : m < m + 1 := Nat.lt_succ_self m
        have hm60 : m < 60 := by omega
        clear hcl hlc hH hlm hcl2 hF hcc hf6 hle6 HN
        go_wp2_with fail
        go_ret2
        exact ⟨_, ret_vi (by unfold cubesE; rw [HRT.out, HBO.out]; rfl), Kd.V_mk HLE6.out (Kd.F_mono HF6.out (fun q hq => Nat.le_trans HB2.out.size hq.1)), HWW.out⟩
end Go.Proofs.Ytmhjnfkhfjejeaa
