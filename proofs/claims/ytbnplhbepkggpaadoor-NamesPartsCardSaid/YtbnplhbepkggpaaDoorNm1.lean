/- Contracts of the small functions of the layer names and of its reference: the endings of the kinds. -/
import Derived.Test.YtbnplhbepkggpaaDoorNm0
namespace Go.Proofs.YtbnplhbepkggpaaDoor.nm
open Go Go.RowKit

/-- The bytes of a kind's ending. -/
def endL (k : Int) : List UInt8 := if k = 0 then [46, 108, 111, 103] else if k = 1 then [46, 111, 102, 102] else if k = 2 then [46, 116, 105, 109] else []
def endB (k : Int) : Bool := decide (0 ≤ k ∧ k ≤ 2)

theorem endL_len (k : Int) : (endL k).length ≤ 4 := by
  unfold endL
  by_cases h0 : k = 0
  · simp [h0]
  by_cases h1 : k = 1
  · simp [h1]
  by_cases h2 : k = 2
  · simp [h2]
  simp [h0, h1, h2]
theorem ending_any (k : Int) (w : World) : Calls Tryd.prog 21 #[.int .i64 k] w fun e w' => e = .returned (.tuple #[.string ⟨(endL k).toArray⟩, .bool (endB k)]) ∧ w = w' := by
  by_cases h0 : k = 0
  · subst h0
    go_enter Tryd.func21, Tryd.ntmps21
    go_wp2
    go_ret2
    exact ⟨rfl, rfl⟩
  by_cases h1 : k = 1
  · subst h1
    go_enter Tryd.func21, Tryd.ntmps21
    go_wp2
    go_ret2
    exact ⟨rfl, rfl⟩
  by_cases h2 : k = 2
  · subst h2
    go_enter Tryd.func21, Tryd.ntmps21
    go_wp2
    go_ret2
    exact ⟨rfl, rfl⟩
  have e1 : endL k = [] := by unfold endL; rw [if_neg h0, if_neg h1, if_neg h2]
  have e2 : endB k = false := by unfold endB; simp; omega
  rw [e1, e2]
  go_enter Tryd.func21, Tryd.ntmps21
  go_wp2
  go_ret2
  exact ⟨rfl, rfl⟩
end Go.Proofs.YtbnplhbepkggpaaDoor.nm
