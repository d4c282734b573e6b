/-
  The given program, as the rules see it.
-/
import Derived.Test.YtlacidogpdbpgaaGreatProg
import Derived.Test.YtlacidogpdbpgaaGreatWP
import Derived.KernelRfl
import Derived.ProofKit
namespace Go.Sim
open Go

noncomputable abbrev PG : Program := Proofs.Tryz.prog

/-- functions that may be known otherwise than by their text -/
def isPrim (f : FuncId) : Bool := [28, 40, 63, 66, 93, 212, 391, 392, 293, 52, 73].contains f

/-- what is asked of what is known -/
class PrB (pr : CallA) : Prop where
  other : ∀ f args H, isPrim f = false → pr f args H = none
  nilP : ∀ f args H, pr f (.pointer none :: args) H = none

@[reducible] noncomputable def CW (pr : CallA) (w : World) : FuncId → List Value → AH → (Value → AH → Prop) → Prop := CallW PG pr w

/-- min and max -/
def gmm (P : Program) (mx : Bool) (args : List Value) (ts : Array TypeId) (ty : TypeId) : Option Value :=
  groundOp P ⟨none, .call ⟨.builtin (cond mx .max .min), ((List.range args.length).map Operand.tmp).toArray, ts⟩, ty, "", #[], none⟩ (fun | .tmp i => args.getD i undef | _ => undef)

/-- on bits -/
def bxor (k : IntKind) (a b : Int) : Int := k.wrap ((BitVec.ofInt k.bits a ^^^ BitVec.ofInt k.bits b).toNat : Int)
def band (k : IntKind) (a b : Int) : Int := k.wrap ((BitVec.ofInt k.bits a &&& BitVec.ofInt k.bits b).toNat : Int)
def bor (k : IntKind) (a b : Int) : Int := k.wrap ((BitVec.ofInt k.bits a ||| BitVec.ofInt k.bits b).toNat : Int)
def bandNot (k : IntKind) (a b : Int) : Int := k.wrap ((BitVec.ofInt k.bits a &&& ~~~(BitVec.ofInt k.bits b)).toNat : Int)

/-- several temporaries, one behind the other -/
def us (E : Env) : List (Nat × Value) → Env
  | [] => E
  | p :: l => us (upd E (some p.1) p.2) l

end Go.Sim
