import Derived.Test.YtmhjnfkhfjejeaaP2
import Derived.Test.YtmhjnfkhfjejeaaH2
namespace Go.Proofs.Ytmhjnfkhfjejeaa
set_option linter.unusedVariables false
set_option linter.unusedSimpArgs false
open Go.RowKit Go.Proofs.YtmhjnfkhfjejeaaW.PrintWords Go.Proofs.YtmhjnfkhfjejeaaW.PrintLast Go.Proofs.YtmhjnfkhfjejeaaW.PrintMore
open PPredCubes
/-! ### Rows of cubes, read -/
theorem rd33 {w : World} {A : Option Addr} {L : List (List S47)} {n : Nat} (h : (Kd.slice 47 k47).C w A n L) {i : Nat} (hi : i < n) :
    ∃ ad A' c', A = some ad ∧ w.cell? (ad.add i) = some (.slice A' (atC L i).length c') ∧ (atC L i).length ≤ c' ∧ k47.C w A' (atC L i).length (atC L i) := by
  obtain ⟨ad, c, rfl, hcl, hK, hcc⟩ := Kd.C_get h ([] : List S47) (i : Int) (by omega) (by omega)
  obtain ⟨A', c', rfl, hle, hC⟩ := hK
  have h0 := hcc 0 _ rfl
  replace h0 : w.cell? (ad.add ((i : Int).toNat * 1 + 0)) = some (.slice A' (atC L i).length c') := h0
  rw [Int.toNat_natCast, Nat.mul_one, Nat.add_zero] at h0
  exact ⟨ad, A', c', rfl, h0, hle, hC⟩
end Go.Proofs.Ytmhjnfkhfjejeaa
