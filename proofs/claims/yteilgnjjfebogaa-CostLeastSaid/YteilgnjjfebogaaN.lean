import Derived.Test.YteilgnjjfebogaaL
import Derived.Test.YteilgnjjfebogaaRows
import Derived.ProofKit
import Derived.OpenShut
import Derived.ShutString
import Derived.ChangeOld
import Derived.SizedLaws
namespace Go.Proofs.Yteilgnjjfebogaa
set_option linter.unusedVariables false
set_option linter.unusedSimpArgs false
open Go.ChangeShapes Go.WideShapes Go.ChangeAt Go.RowKit

theorem own : ownKnob Try.prog.godebug = none := by kernel_rfl
theorem laidOut : laidOutB Try.prog = true := by kernel_rfl

theorem bd_u64 {n : Int} (h : (Lit.int .u64 n).wf = true) : 0 ≤ n ∧ n < 18446744073709551616 := by
  simp [Lit.wf, IntKind.min, IntKind.max, IntKind.signed, IntKind.bits] at h
  omega
theorem spot_none {W : World} {x : Addr} {v : Value} (h : W.cell? x = some v) : x.spot = none := by
  unfold World.cell? at h
  split at h
  · split at h
    · cases h
    · rename_i hs; simpa using hs
  · cases h

/-- What the walk is told of a row of uint64 that came in. -/
theorem row_u64 {H : Type} {enc : TypeId × Value → H} {W : World} {base : Nat} {spare : Nat → Bool} {held : Bool} {a : Option Addr} {len cap : Nat} {d : DataW H} {ps : List MemPlace}
    (h : DataW.Trod enc Try.prog W base spare held 33 (.slice a len cap) d ps) :
    ∃ l : List Nat, l.length = len ∧ lt64 l ∧ RowF W a l.length (fun k => .int .u64 (at0 l k)) := by
  obtain ⟨fuel, hf⟩ := h
  rcases open_ints Try.underlying33 Try.underlying22 (by kernel_rfl) hf with ⟨hcs, _⟩ | ⟨x, l, c, zs, hcs, _, hl, hm, hz, _, hcell, hwz⟩
  · simp [Value.cells] at hcs
    obtain ⟨rfl, rfl, rfl⟩ := hcs
    exact ⟨[], rfl, fun x hx => by simp at hx, fun k hk => by simp at hk⟩
  · simp [Value.cells] at hcs
    obtain ⟨rfl, rfl, rfl⟩ := hcs
    have hlen : len ≤ zs.length := by
      have := hz
      split at this <;> omega
    refine ⟨(zs.take len).map Int.toNat, by simp; omega, fun x hx => ?_, fun k hk => ?_⟩
    · obtain ⟨z, hz1, rfl⟩ := List.mem_map.1 hx
      have := bd_u64 (hwz z (List.mem_of_mem_take hz1))
      omega
    · have hk2 : k < len := by simp at hk; omega
      have hc0 := hcell k (by omega)
      have hx0 := spot_none (hcell 0 (by omega))
      have hxs : x.spot = none := by simpa [Addr.add] using hx0
      refine ⟨x.block, x.off, by cases x; simp at hxs; subst hxs; rfl, ?_⟩
      have hw := hwz (zs.getD k 0) (by rw [List.getD_eq_getElem?_getD, List.getElem?_eq_getElem (by omega)]; exact List.getElem_mem _)
      have hadd : x.add k = ⟨x.block, x.off + k, none⟩ := by
        unfold Addr.add
        split
        · subst_vars; cases x; simp at hxs; subst hxs; rfl
        · rfl
      rw [hadd] at hc0
      rw [hc0]
      have e1 : at0 ((zs.take len).map Int.toNat) k = (zs.getD k 0).toNat := by
        unfold at0
        rw [List.getD_eq_getElem?_getD, List.getElem?_map, List.getElem?_take_of_lt hk2, List.getD_eq_getElem?_getD, List.getElem?_eq_getElem (by omega)]
        rfl
      have := (bd_u64 hw).1
      show some (Value.int .u64 (zs.getD k 0)) = some (Value.int .u64 ((at0 ((zs.take len).map Int.toNat) k : Nat) : Int))
      rw [e1, Int.toNat_of_nonneg this]

/-- A row is no longer than its weight allows. -/
theorem sized_u64 {H : Type} {enc : TypeId × Value → H} {W : World} {base : Nat} {spare : Nat → Bool} {held : Bool} {a : Option Addr} {len cap : Nat} {d : DataW H} {ps : List MemPlace} {ts : List TypeId} {ds : List (DataW H)} {j : Nat}
    (hsz : (DataW.weightsEach Try.prog ts ds).all (· ≤ reachBytes) = true) (ht : ts[j]? = some 33) (hd : ds[j]? = some d)
    (h : DataW.Trod enc Try.prog W base spare held 33 (.slice a len cap) d ps) : len * 8 ≤ 140737488351232 := by
  obtain ⟨fuel, hf⟩ := h
  rcases open_ints Try.underlying33 Try.underlying22 (by kernel_rfl) hf with ⟨hcs, _⟩ | ⟨x, l, c, zs, hcs, _, hl, _, hz, hx, _, _⟩
  · simp [Value.cells] at hcs
    obtain ⟨rfl, rfl, rfl⟩ := hcs
    simp
  · simp [Value.cells] at hcs
    obtain ⟨rfl, rfl, rfl⟩ := hcs
    obtain ⟨hx, _⟩ := Prod.mk.inj hx
    subst hx
    have z := sized_slice hsz ht hd Try.underlying33
    have hB : Try.prog.bytesOf 22 = 8 := by kernel_rfl
    rw [hB] at z
    have hl2 : len ≤ zs.length := by
      have := hz
      split at this <;> omega
    have h1 : (lits (H := H) .u64 (zs.take len)).length + (lits (H := H) .u64 (zs.drop len)).length = zs.length := by
      simp [lits]
      omega
    rw [h1] at z
    exact Nat.le_trans (Nat.mul_le_mul_right _ hl2) z

/-- A uint64 that came in. -/
theorem nat_u64 {a : Int} (h : (Lit.int .u64 a).wf = true) : ∃ n : Nat, a = n ∧ n < 18446744073709551616 := by
  have := bd_u64 h
  exact ⟨a.toNat, by omega, by omega⟩
end Go.Proofs.Yteilgnjjfebogaa
