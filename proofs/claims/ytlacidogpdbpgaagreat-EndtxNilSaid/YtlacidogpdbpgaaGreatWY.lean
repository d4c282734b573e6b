/-
  Functions that are known: strings.Repeat, crc.Seal.
-/
import Derived.Test.YtlacidogpdbpgaaGreatWV
import Derived.Test.YtlacidogpdbpgaaGreatWRep
namespace Go.Sim
open Go
open Go.RowKit (Below)
set_option linter.unusedVariables false
set_option maxRecDepth 100000

theorem mixedG : PG.follows .mixedOrders = true := by kernel_rfl

def pRep : Prims := fun f args => cond (Nat.beq f 212) (match args with
  | [.string s, .int .i64 n] => cond (decide (0 ≤ n) && Nat.ble (s.size * n.toNat) 140737488355328 && Nat.ble n.toNat 9223372036854775807) (some (.string ⟨(Lib.repeatL s.data.toList n.toNat).toArray⟩)) none
  | _ => none) none

theorem pRep_ok : PrimsOk PG pRep := by
  intro f args v h
  unfold pRep at h
  cases hf : Nat.beq f 212 with
  | false => rw [hf] at h; cases h
  | true =>
    rw [hf] at h
    obtain rfl := Nat.eq_of_beq_eq_true hf
    simp only [cond_true] at h
    split at h
    · rename_i s n
      cases hc : (decide (0 ≤ n) && Nat.ble (s.size * n.toNat) 140737488355328 && Nat.ble n.toNat 9223372036854775807) with
      | false => rw [hc] at h; cases h
      | true =>
        rw [hc] at h
        cases h
        simp only [Bool.and_eq_true, decide_eq_true_eq] at hc
        refine ⟨⟨rfl, rfl⟩, fun w => ?_⟩
        have := Proofs.Tryz.strings_Repeat s n.toNat w (Nat.le_of_ble_eq_true hc.2) (Nat.le_of_ble_eq_true hc.1.2)
        rw [Int.toNat_of_nonneg hc.1.1] at this
        exact this
    · cases h

def prRep : CallA := valsP pRep
theorem prRep_ok {w : World} : CallOk PG w prRep := vals_ok pRep_ok
instance : PrB prRep where
  other f args H h := by
    have : Nat.beq f 212 = false := by
      cases hf : Nat.beq f 212 with
      | false => rfl
      | true =>
        obtain rfl := Nat.eq_of_beq_eq_true hf
        cases h
    simp only [prRep, valsP, pRep, this, cond_false, Option.map_none]
  nilP f args H := by
    simp only [prRep, valsP, pRep]
    cases Nat.beq f 212 <;> rfl

theorem sat_nil : Sat [] ⟨0, .leaf⟩ := ⟨⟨fun _ => none, trivial, fun _ _ h => by cases h⟩, fun _ _ => rfl⟩

/-- a contract that owns nothing, of a ground answer: what the call comes to in the model -/
theorem calls_of_spec {pr : CallA} (hpr : ∀ w, CallOk PG w pr) {f : FuncId} {args : List Value} {v : Value} (ha : groundL args = true) (hv : ground v = true)
    (h : ∀ w, Spec PG pr w f args [] fun u B => u = v ∧ B = []) (w : World) : Calls PG f ⟨args⟩ w fun e w' => e = .returned v ∧ Below w.heap.size w w' := by
  obtain ⟨u, H', ⟨K, n, hr⟩, B, ⟨rfl, _⟩, _⟩ := h w [] ⟨0, .leaf⟩ sat_nil
  exact gsim_calls mixedG (hpr w) (fun φ => groundL_rel φ args ha) hv hr

def pSeal : Prims := fun f args => cond (Nat.beq f 215) (match args with
  | [.string s] => cond (Nat.blt s.size 1000000000) (some (.string ⟨⟨sealL s.data.toList⟩⟩)) none
  | _ => none) none

theorem pSeal_ok : PrimsOk PG pSeal := by
  intro f args v h
  unfold pSeal at h
  cases hf : Nat.beq f 215 with
  | false => rw [hf] at h; cases h
  | true =>
    rw [hf] at h
    obtain rfl := Nat.eq_of_beq_eq_true hf
    simp only [cond_true] at h
    split at h
    · rename_i s
      cases hc : Nat.blt s.size 1000000000 with
      | false => rw [hc] at h; cases h
      | true =>
        rw [hc] at h
        cases h
        refine ⟨⟨rfl, rfl⟩, fun w => ?_⟩
        exact calls_of_spec (pr := prRep) (fun w => prRep_ok) rfl rfl (fun w => sp215 s (Nat.lt_of_lt_of_le (Nat.lt_succ_of_le (show s.size ≤ 999999999 by simpa [Nat.blt] using hc)) (by decide))) w
    · cases h

/-- what closed runs know -/
def prRun : CallA := orP (valsP pRep) (valsP pSeal)
theorem prRun_ok {w : World} : CallOk PG w prRun := or_ok (vals_ok pRep_ok) (vals_ok pSeal_ok)

def isTrueG : Option (Value × AH) → Bool
  | some (.bool b, _) => b
  | _ => false
theorem isTrueG_some {r : Option (Value × AH)} (h : isTrueG r = true) : ∃ H', r = some (.bool true, H') := by
  match r, h with
  | some (.bool true, H'), _ => exact ⟨H', rfl⟩
theorem calls_of_trueG {pr : CallA} {w : World} (hpr : CallOk PG w pr) {K n : Nat} {f : FuncId} {args : List Value} (ha : ∀ φ : Ren, VRels φ args args) (h : isTrueG (gFn PG pr w K n f args ⟨0, .leaf⟩) = true) :
    Calls PG f ⟨args⟩ w fun e w' => e = .returned (.bool true) ∧ Below w.heap.size w w' := by
  obtain ⟨H', h⟩ := isTrueG_some h
  exact gsim_calls mixedG hpr ha rfl h

end Go.Sim
