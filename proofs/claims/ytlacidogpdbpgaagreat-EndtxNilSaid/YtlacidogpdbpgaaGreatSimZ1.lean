/-
  Closed facts about the program as a whole, one by one (together they pass the kernel's memory).
-/
import Derived.Test.YtlacidogpdbpgaaGreatRows
import Derived.WalkKit
import Derived.ProofKit
import Derived.OpenShut
namespace Go.Proofs.YtlacidogpdbpgaaGreat.Whole
open Go
theorem later : Tryz.pinned.checked.prog.laysLater = false := by kernel_rfl
theorem reflect : Tryz.pinned.checked.prog.bearsReflect = false := by kernel_rfl
theorem door : Tryz.pinned.checked.prog.doorFits [] = true := by kernel_rfl
def firstCut : List (List Char) → Bool
  | c :: _ => c == "cut".toList
  | [] => false
theorem first : firstCut (behindMainWord (wordsSigns Tryz.pinned.checked.prog.initOrder.toList)) = true := by kernel_rfl
theorem first_words {l : List (List Char)} (h : firstCut l = true) : ∃ r, l = "cut".toList :: r := by
  cases l with
  | nil => cases h
  | cons c r => exact ⟨r, by rw [show c = "cut".toList from by simpa [firstCut] using h]⟩
theorem strip (r : List (List Char)) : stripLifts liftWords ("cut".toList :: r) = ([], "cut".toList :: r) := by kernel_rfl
theorem enter_of (P : Program) (r : List (List Char)) (h : behindMainWord (wordsSigns P.initOrder.toList) = "cut".toList :: r) (s : ∀ r : List (List Char), stripLifts liftWords ("cut".toList :: r) = ([], "cut".toList :: r))
    (l : P.laysLater = false) (b : P.bearsReflect = false) (d : P.doorFits [] = true) : P.mayEnter = true := by
  unfold Program.mayEnter
  rw [h]
  dsimp only
  rw [s, l, b, d]
  dsimp only
  simp
theorem enter : Tryz.pinned.checked.prog.mayEnter = true := by
  obtain ⟨r, hr⟩ := first_words first
  exact enter_of _ r hr strip later reflect door
end Go.Proofs.YtlacidogpdbpgaaGreat.Whole
