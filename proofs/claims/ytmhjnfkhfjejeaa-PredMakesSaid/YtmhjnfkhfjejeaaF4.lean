import Derived.Test.YtmhjnfkhfjejeaaG7
namespace Go.Proofs.Ytmhjnfkhfjejeaa
set_option linter.unusedVariables false
set_option linter.unusedSimpArgs false
open Go.RowKit Go.Proofs.YtmhjnfkhfjejeaaW.PrintWords Go.Proofs.YtmhjnfkhfjejeaaW.PrintLast Go.Proofs.YtmhjnfkhfjejeaaW.PrintMore
open PPredCubes
/-! ### The document's Same, of two rows of the same nodes -/
set_option maxHeartbeats 4000000 in
set_option maxRecDepth 100000 in
theorem same_any (A B : Option Addr) (c d : Nat) (l : List S52) (w : World) (hr : k52.C w A l.length l) (hr2 : k52.C w B l.length l) :
    Calls Try.prog 27 #[.agg #[.slice A l.length c], .agg #[.slice B l.length d]] w fun e w' => e = .returned (.bool true) ∧ Below w.heap.size w w' := by
  have HM : Hid (l.length ≤ 9223372036854775807) := Lib.hid hr.2.1
  have HR := Lib.hid hr
  have HR2 := Lib.hid hr2
  clear hr hr2
  go_enter Try.func27, Try.ntmps27
  go_wp2_with (first
    | (refine wpList_box rfl 2 rfl #[.slice A l.length c] 24 ?hr ?_; (case hr => first | (go_simp; done) | (go_simp; rfl)); intro g2 w1 hg2 k2 hb2; have K2 := Lib.hid k2; have HB1 := Lib.hid hb2; clear hb2 k2)
    | (refine wpList_box rfl 3 rfl #[.slice B l.length d] 24 ?hr ?_; (case hr => first | (go_simp; done) | (go_simp; rfl)); intro g3 w2 hg3 k3 hb3; have K3 := Lib.hid k3; have K22 := Lib.hid (blk_below K2.out hb3); have HB2 := Lib.hid (HB1.out.trans (hb3.mono HB1.out.size)); have d2 : w2.cell? ⟨g2, 0, none⟩ = some (.slice A l.length c) := blk_cell K22.out 0; have d3 : w2.cell? ⟨g3, 0, none⟩ = some (.slice B l.length d) := blk_cell K3.out 0; clear hb3 k3))
  clear HB1 K2 hg2 hg3 d2 d3
  go_loopw [5] (fun vk wr => ∃ k : Nat, vk = .int .i64 k ∧ k ≤ l.length ∧ Below w2.heap.size w2 wr) (fun vk _ => l.length - (intOf vk).toNat)
  case atStart => exact ⟨0, rfl, by omega, Below.refl _ _⟩
  case round =>
    obtain ⟨k, rfl, hk, hw⟩ := hrel
    have HW := Lib.hid hw
    have d2 : wr.cell? ⟨g2, 0, none⟩ = some (.slice A l.length c) := blk_cell (blk_below K22.out hw) 0
    have d3 : wr.cell? ⟨g3, 0, none⟩ = some (.slice B l.length d) := blk_cell (blk_below K3.out hw) 0
    have HBW := Lib.hid (HB2.out.trans (hw.mono HB2.out.size))
    have hm := HM.out
    clear hw
    by_cases hlt : k < l.length
    · obtain ⟨ad, A4, c4, rfl, hlies, hle4, hsub⟩ := rd52 (Kd.C_below HR.out HBW.out) hlt
      obtain ⟨ad2, B4, e4, rfl, hlies2, hle5, hsub2⟩ := rd52 (Kd.C_below HR2.out HBW.out) hlt
      obtain ⟨n, hn⟩ : ∃ n, atN l k = n := ⟨_, rfl⟩
      rw [hn] at hlies hle4 hsub hlies2 hle5 hsub2
      have hsm : n.f2.length ≤ 9223372036854775807 := hsub.2.1
      obtain ⟨kd, ⟨t0, t1, t2⟩, sb⟩ := n
      have HLI := Lib.hid hlies
      have HLI2 := Lib.hid hlies2
      have HSUB := Lib.hid hsub
      have HSUB2 := Lib.hid hsub2
      replace hsm : sb.length ≤ 9223372036854775807 := hsm
      have HSM := Lib.hid hsm
      have q1 : (k : Int) < (l.length : Int) := by omega
      clear hn hlies hsub hlies2 hsub2 hle4 hle5
      go_wp2_with (first
        | (refine wpList_load_at rfl 52 (.tmp 26) rfl (ad.add (k * 5)) rfl #[.int .i64 kd, .int .i64 t0, .int .u64 t1, .int .u64 t2, .slice A4 sb.length c4] _ HLI.out Try.underlying52 rfl info52s ?_)
        | (refine wpList_newz rfl rfl 6 rfl 52 (.tmp 27) rfl rfl rfl (.agg #[.int .i64 0, .int .i64 0, .int .u64 0, .int .u64 0, .slice none 0 0]) #[.int .i64 kd, .int .i64 t0, .int .u64 t1, .int .u64 t2, .slice A4 sb.length c4] info52z rfl rfl info52s rfl (by simp [Value.oneCell']) ?_; intro g6 w6 hg6 k6 hb6; have K6 := Lib.hid k6; have HB6 := Lib.hid hb6; have d36 : w6.cell? ⟨g3, 0, none⟩ = some (.slice (some ad2) l.length d) := blk_cell (blk_below K3.out (HW.out.trans (hb6.mono HW.out.size))) 0; have HLI26 : Hid (Lies w6 (ad2.add (k * 5)) (#[.int .i64 kd, .int .i64 t0, .int .u64 t1, .int .u64 t2, .slice B4 sb.length e4] : Array Value).toList) := Lib.hid (Lies.below HLI2.out hb6); clear k6 hb6)
        | (refine wpList_load_at rfl 52 (.tmp 31) rfl (ad2.add (k * 5)) rfl #[.int .i64 kd, .int .i64 t0, .int .u64 t1, .int .u64 t2, .slice B4 sb.length e4] _ HLI26.out Try.underlying52 rfl info52s ?_)
        | (refine wpList_newz rfl rfl 7 rfl 52 (.tmp 32) rfl rfl rfl (.agg #[.int .i64 0, .int .i64 0, .int .u64 0, .int .u64 0, .slice none 0 0]) #[.int .i64 kd, .int .i64 t0, .int .u64 t1, .int .u64 t2, .slice B4 sb.length e4] info52z rfl rfl info52s rfl (by simp [Value.oneCell']) ?_; intro g7 w7 hg7 k7 hb7; have K7 := Lib.hid k7; have K67 := Lib.hid (blk_below K6.out hb7); have HB7 := Lib.hid (HB6.out.trans (hb7.mono HB6.out.size)); have x0 : w7.cell? ⟨g6, 0, none⟩ = some (.int .i64 kd) := blk_cell K67.out 0; have x1 : w7.cell? ⟨g6, 1, none⟩ = some (.int .i64 t0) := blk_cell K67.out 1; have x2 : w7.cell? ⟨g6, 2, none⟩ = some (.int .u64 t1) := blk_cell K67.out 2; have x3 : w7.cell? ⟨g6, 3, none⟩ = some (.int .u64 t2) := blk_cell K67.out 3; have x4 : w7.cell? ⟨g6, 4, none⟩ = some (.slice A4 sb.length c4) := blk_cell K67.out 4; have y0 : w7.cell? ⟨g7, 0, none⟩ = some (.int .i64 kd) := blk_cell K7.out 0; have y1 : w7.cell? ⟨g7, 1, none⟩ = some (.int .i64 t0) := blk_cell K7.out 1; have y2 : w7.cell? ⟨g7, 2, none⟩ = some (.int .u64 t1) := blk_cell K7.out 2; have y3 : w7.cell? ⟨g7, 3, none⟩ = some (.int .u64 t2) := blk_cell K7.out 3; have y4 : w7.cell? ⟨g7, 4, none⟩ = some (.slice B4 sb.length e4) := blk_cell K7.out 4; clear k7 hb7))
      have HS7 := Lib.hid (Kd.C_below HSUB.out HB7.out)
      have HS27 := Lib.hid (Kd.C_below HSUB2.out HB7.out)
      have HW7 := Lib.hid (HW.out.trans (HB7.out.mono HW.out.size))
      clear HSUB HSUB2 HW HBW HLI HLI2 HLI26 d36 hg6 hg7 HB6 HB7 K6 d2 d3 x0 x1 x2 x3 x4 y0 y1 y2 y3 y4
      go_loopw [8] (fun vi wx => ∃ i : Nat, vi = .int .i64 i ∧ i ≤ sb.length ∧ Below w7.heap.size w7 wx) (fun vi _ => sb.length - (intOf vi).toNat)
      case atStart => exact ⟨0, rfl, by omega, Below.refl _ _⟩
      case round =>
        obtain ⟨wx, rfl⟩ : ∃ wx : World, wx = wr := ⟨_, rfl⟩
        obtain ⟨i, rfl, hi, hw⟩ := hrel
        have HX := Lib.hid hw
        have x4 : wx.cell? ⟨g6, 4, none⟩ = some (.slice A4 sb.length c4) := blk_cell (blk_below K67.out hw) 4
        have y4 : wx.cell? ⟨g7, 4, none⟩ = some (.slice B4 sb.length e4) := blk_cell (blk_below K7.out hw) 4
        have hsm := HSM.out
        clear hw
        by_cases hil : i < sb.length
        · obtain ⟨ads, e4', hcs⟩ := rdI (Kd.C_below HS7.out HX.out) hil
          subst e4'
          obtain ⟨ads2, e5', hcs2⟩ := rdI (Kd.C_below HS27.out HX.out) hil
          subst e5'
          obtain ⟨s, hs⟩ : ∃ s, sb.getD i 0 = s := ⟨_, rfl⟩
          rw [hs] at hcs hcs2
          have q4 : (i : Int) < (sb.length : Int) := by omega
          clear hs
          go_wp2_with fail
          go_quiet (fail)
          generalize hW2 : wx.drewN _ = W2
          have HX2 : Hid (Below w7.heap.size w7 W2) := Lib.hid (hW2 ▸ pw_below_drewN HX.out _)
          clear hW2 x4 y4 hcs hcs2
          go_wp2_with fail
          go_roundw
          case rel => exact ⟨i + 1, by go_num, by omega, HX2.out⟩
          case measure => simp [intOf] <;> omega
        · obtain rfl : i = sb.length := by omega
          go_wp2_with fail
          go_roundw
          case rel => exact ⟨k + 1, by go_num, by omega, HW7.out.trans (HX.out.mono HW7.out.size)⟩
          case measure => simp [intOf] <;> omega
    · obtain rfl : k = l.length := by omega
      go_wp2_with fail
      go_ret
      exact ⟨rfl, HBW.out⟩
def risL (t : S47) : List S52 := if tstB t then [⟨3, t, []⟩] else []
set_option maxHeartbeats 4000000 in
set_option maxRecDepth 100000 in
theorem ris_any (t : S47) (ht : okT t) (w : World) :
    Calls Try.prog 30 #[.agg #[.int .i64 t.f0, .int .u64 t.f1, .int .u64 t.f2]] w fun e w' => ∃ v, e = .returned (.agg #[v]) ∧ k52.R 52 w' w.heap.size (fun _ => True) v (risL t) ∧ Below w.heap.size w w' := by
  obtain ⟨f, v, m, rfl, hv, hm⟩ := okT_nat ht
  clear ht
  go_enter Try.func30, Try.ntmps30
  go_wp2_with (first
    | (refine wpList_box rfl 1 rfl #[.int .i64 f, .int .u64 v, .int .u64 m] 47 ?hr ?_; (case hr => first | (go_simp; done) | (go_simp; rfl)); intro g1 w0 hg1 k1 hb1; have K1 := Lib.hid k1; have HB0 := Lib.hid hb1; clear hb1 k1)
    | (refine wpList_alloce rfl 2 rfl 24 rfl (.agg #[.slice none 0 0]) info24z ?_; intro g2 w1 hg2 k2 hb2; have K2 : Hid (w1.heap[g2]? = some (.cells #[.slice none 0 0] 24 (0, 0))) := Lib.hid k2; have K12 := Lib.hid (blk_below K1.out hb2); have HB1 := Lib.hid (HB0.out.trans (hb2.mono HB0.out.size)); have HG2 : Hid (w.heap.size ≤ g2) := Lib.hid (by rw [hg2.out]; exact HB0.out.size); clear hb2 k2)
    | (refine wpList_load_at rfl 47 (.tmp 1) rfl ⟨g1, 0, none⟩ rfl #[.int .i64 f, .int .u64 v, .int .u64 m] _ (Lies.of_block K12.out) Try.underlying47 rfl info47s ?_))
  go_at_call 57
  refine (rtestRight_any f v m hv hm w1).mono ?_
  rintro e w2 ⟨rfl, hb⟩
  have K22 := Lib.hid (blk_below K2.out hb)
  have K13 := Lib.hid (blk_below K12.out hb)
  have HB2 := Lib.hid (HB1.out.trans (hb.mono HB1.out.size))
  have HL := Lib.hid (show g2 < w2.heap.size from blk_lt K22.out)
  clear hb K2 K12 K1 HB1 hg1 hg2
  have HT : Hid (tstB ⟨f, v, m⟩ = testB f v m) := Lib.hid (by simp [tstB])
  cases htb : testB f v m with
  | false =>
    have HF : Hid (risL ⟨f, v, m⟩ = []) := Lib.hid (by unfold risL; rw [HT.out, htb]; rfl)
    clear htb
    go_wp2_with (refine wpList_rowx rfl 24 (.tmp 2) (.tmp 6) rfl rfl g2 rfl #[.slice none 0 0] rfl _ K22.out info24s rfl one_slice w.heap.size HG2.out ?_; intro wa ka hka hba; have KA := Lib.hid ka; have HKA := Lib.hid hka; have HBA := Lib.hid hba; clear ka hba hka)
    exact c_post (fn := Try.f30) rfl rfl KA.out ⟨_, Try.underlying24⟩ info24s rfl ⟨_, rfl, by rw [HF.out]; exact Kd.R_nil _ _ _ _ _, HB2.out.trans HBA.out⟩
  | true =>
    have HF : Hid (risL ⟨f, v, m⟩ = [⟨3, ⟨f, v, m⟩, []⟩]) := Lib.hid (by unfold risL; rw [HT.out, htb]; rfl)
    clear htb
    have hb2 : Below w2.heap.size w2 (w2.alloc (.cells [Value.int .i64 3, .int .i64 f, .int .u64 v, .int .u64 m, .slice none 0 0].toArray 52)) := (Below.refl _ _).alloc (Nat.le_refl _) _
    have hlit : k52.R 52 (w2.alloc (.cells [Value.int .i64 3, .int .i64 f, .int .u64 v, .int .u64 m, .slice none 0 0].toArray 52)) w2.heap.size (fun _ => True) (.slice (some ⟨w2.heap.size, 0, none⟩) 1 1) [⟨3, ⟨f, v, m⟩, []⟩] := by
      refine ⟨fun _ _ => trivial, [Value.int .i64 3, .int .i64 f, .int .u64 v, .int .u64 m, .slice none 0 0], ?_, ?_⟩
      · exact World.ownsRow_lit (base := w2.heap.size) (e := 52) (size := 5) w2 _ 1 (Nat.le_refl _) (by simp [maxLen]) rfl
      · have := (Reps.none (k52.M (w2.alloc (.cells [Value.int .i64 3, .int .i64 f, .int .u64 v, .int .u64 m, .slice none 0 0].toArray 52)) w2.heap.size (fun k => True ∧ some k ≠ (Value.slice (some ⟨w2.heap.size, 0, none⟩) 1 1).ownBlock)) k52.sz).snoc (p := ⟨3, ⟨f, v, m⟩, []⟩) (c := [Value.int .i64 3, .int .i64 f, .int .u64 v, .int .u64 m, .slice none 0 0]) (k52_mkM _ _ _ ⟨3, ⟨f, v, m⟩, []⟩ (Kd.R_nil _ _ _ _ _)) rfl
        simpa using this
    have HLIT := Lib.hid hlit
    have HBB := Lib.hid hb2
    have K24 := Lib.hid (blk_below K22.out hb2)
    clear hlit hb2
    go_wp2_with (first
      | (refine wpList_load_at rfl 47 (.tmp 1) rfl ⟨g1, 0, none⟩ rfl #[.int .i64 f, .int .u64 v, .int .u64 m] _ (Lies.of_block K13.out) Try.underlying47 rfl info47s ?_)
      | (refine wpList_rowx rfl 24 (.tmp 2) (.tmp 10) rfl rfl g2 rfl #[.slice (some ⟨w2.heap.size, 0, none⟩) 1 1] rfl _ K24.out info24s rfl one_slice w.heap.size HG2.out ?_; intro wa ka hka hba; have KA := Lib.hid ka; have HKA := Lib.hid hka; have HBA := Lib.hid hba; clear ka hba hka))
    exact c_post (fn := Try.f30) rfl rfl KA.out ⟨_, Try.underlying24⟩ info24s rfl ⟨_, rfl, by rw [HF.out]; exact R_kept HLIT.out HL.out HB2.out.size HKA.out, (HB2.out.trans (HBB.out.mono HB2.out.size)).trans HBA.out⟩
theorem isL_eq (t : S47) : isL t = risL t := by
  unfold isL wholeP risL
  have : rightB [⟨3, t, []⟩] = tstB t := by
    unfold rightB
    simp [nodesFrom, nodeB, atN, lowN, highN, subsB]
  rw [this]
end Go.Proofs.Ytmhjnfkhfjejeaa
