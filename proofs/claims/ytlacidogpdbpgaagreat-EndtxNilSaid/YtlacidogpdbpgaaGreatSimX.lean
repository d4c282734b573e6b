/-
  Steps of the determinate reading, one at a time; and the first closed call: 'awake' of the kernel's laws.
-/
import Derived.Test.YtlacidogpdbpgaaGreatProg
import Derived.Test.YtlacidogpdbpgaaGreatSimW
import Derived.KernelRfl
import Derived.ProofKit
namespace Go.Sim
open Go
open Go.RowKit (Below Grown)
set_option maxRecDepth 100000

theorem mixed : Proofs.Tryz.prog.follows .mixedOrders = true := by kernel_rfl

def isVal (v : Value) : Option (Value × AH) → Bool
  | some (u, _) => sameV u v
  | none => false

def isTrue : Option (Value × AH) → Bool
  | some (.bool b, _) => b
  | _ => false

theorem isTrue_some {r : Option (Value × AH)} (h : isTrue r = true) : ∃ H', r = some (.bool true, H') := by
  match r, h with
  | some (.bool true, H'), _ => exact ⟨H', rfl⟩

def noPrims : Prims := fun _ _ => none
theorem noPrims_ok {P : Program} : PrimsOk P noPrims := fun _ _ _ h => by cases h

theorem calls_of_true {P : Program} (hmix : P.follows .mixedOrders = true) {pr : Prims} (hpr : PrimsOk P pr) {K n : Nat} {f : FuncId} {args : List Value} {w : World}
    (ha : ∀ φ : Ren, VRels φ args args) (h : isTrue (aFn P pr w K n f args ⟨0, .leaf⟩) = true) :
    Calls P f ⟨args⟩ w fun e w' => e = .returned (.bool true) ∧ Below w.heap.size w w' := by
  obtain ⟨H', h⟩ := isTrue_some h
  exact sim_calls hmix hpr ha rfl h

/-- 'awake' of the kernel's laws -/
theorem awake63 (w : World) : isTrue (aFn Proofs.Tryz.prog noPrims w 100000 100 63 [] ⟨0, .leaf⟩) = true := by kernel_rfl

def kPrims : Prims := fun f args => cond (Nat.beq f 63) (match args with | [] => some (.bool true) | _ => none) none

theorem kPrims_ok : PrimsOk Proofs.Tryz.prog kPrims := by
  intro f args v h
  unfold kPrims at h
  cases hf : Nat.beq f 63 with
  | false => rw [hf] at h; cases h
  | true =>
    rw [hf] at h
    obtain rfl := Nat.eq_of_beq_eq_true hf
    cases args with
    | cons x xs => cases h
    | nil =>
      obtain rfl : Value.bool true = v := by simpa using h
      exact ⟨⟨rfl, rfl⟩, fun w => calls_of_true mixed noPrims_ok (fun _ => VRels.nil) (awake63 w)⟩

end Go.Sim
