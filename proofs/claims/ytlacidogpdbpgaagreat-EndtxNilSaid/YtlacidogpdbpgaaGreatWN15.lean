/-
  EndtxNil: its walk.
-/
import Derived.Test.YtlacidogpdbpgaaGreatWY40
import Derived.Test.YtlacidogpdbpgaaGreatWT3
namespace Go.Sim
open Go
open Go.RowKit (Below)
set_option linter.unusedVariables false
set_option linter.unusedSimpArgs false
set_option maxRecDepth 100000

/-- what EndtxNil's walk knows -/
def p40 : Prims := fun f args => cond (Nat.beq f 40) (match args with
  | [] => some (.bool true)
  | _ => none) none
theorem p40_ok : PrimsOk PG p40 := by
  intro f args v h
  unfold p40 at h
  cases hf : Nat.beq f 40 with
  | false => rw [hf] at h; cases h
  | true =>
    rw [hf] at h
    obtain rfl := Nat.eq_of_beq_eq_true hf
    cases args with
    | cons x xs => cases h
    | nil =>
      obtain rfl : Value.bool true = v := by simpa using h
      exact ⟨⟨rfl, rfl⟩, fun w => calls_of_trueG prRun_ok (fun _ => VRels.nil) (awake40 w)⟩
def pr40 : CallA := valsP p40
instance : PrB pr40 where
  other f args H h := by
    have : Nat.beq f 40 = false := by
      cases hf : Nat.beq f 40 with
      | false => rfl
      | true =>
        obtain rfl := Nat.eq_of_beq_eq_true hf
        cases h
    simp only [pr40, valsP, p40, this, cond_false, Option.map_none]
  nilP f args H := by
    simp only [pr40, valsP, p40]
    cases Nat.beq f 40 <;> rfl

variable {w : World}
theorem nil145 (now : Int) : Spec PG pr40 w 145 [.pointer none, .int .i64 now] [] fun v B => v = .int .i64 2 ∧ B = [] := by
  refine Spec.intro fun R k H hk s => ?_
  refine n145 ?_
  unfold N145
  refine p_rgn s ?_; intro m0 h0 s
  refine p_rgn s ?_; intro m1 h1 s
  simp only [go_sem]
  refine p_rgn s ?_; intro m2 h2 s
  exact hk _ [] _ ⟨rfl, rfl⟩ s.noFree
theorem nil49 (now : Int) : Spec PG pr40 w 49 [.pointer none, .int .i64 now] [] fun v B => v = .tuple ⟨[.slice none 0 0, .int .i64 2]⟩ ∧ B = [] := by
  refine Spec.intro fun R k H hk s => ?_
  refine n49 ?_
  unfold N49
  refine p_rgn s ?_; intro m0 h0 s
  refine p_rgn s ?_; intro m1 h1 s
  refine (nil145 now).call s ?_
  rintro _ _ h2 ⟨rfl, rfl⟩ s
  simp only [List.nil_append] at s
  refine p_rgn s ?_; intro m2 h3 s
  simp only [go_sem, Int.reduceBNe]
  refine p_rgn s ?_; intro m3 h4 s
  exact hk _ [] _ ⟨rfl, rfl⟩ s.noFree
theorem nil47 (now port : Int) (t : ByteArray) : Spec PG pr40 w 47 [.pointer none, .int .i64 now, .int .i64 port, .string t] [] fun v B => v = .int .i64 2 ∧ B = [] := by
  refine Spec.intro fun R k H hk s => ?_
  refine n47 ?_
  unfold N47
  refine p_rgn s ?_; intro m0 h0 s
  refine p_rgn s ?_; intro m1 h1 s
  refine (nil145 now).call s ?_
  rintro _ _ h2 ⟨rfl, rfl⟩ s
  simp only [List.nil_append] at s
  refine p_rgn s ?_; intro m2 h3 s
  simp only [go_sem, Int.reduceBNe]
  refine p_rgn s ?_; intro m3 h4 s
  exact hk _ [] _ ⟨rfl, rfl⟩ s.noFree
theorem nil52 (now : Int) : Spec PG pr40 w 52 [.pointer none, .int .i64 now] [] fun v B => v = .int .i64 2 ∧ B = [] := by
  refine Spec.intro fun R k H hk s => ?_
  refine n52 (PrB.nilP _ _ _) ?_
  unfold N52
  refine p_rgn s ?_; intro m0 h0 s
  refine p_rgn s ?_; intro m1 h1 s
  refine (nil145 now).call s ?_
  rintro _ _ h2 ⟨rfl, rfl⟩ s
  simp only [List.nil_append] at s
  refine p_rgn s ?_; intro m2 h3 s
  simp only [go_sem, Int.reduceBNe]
  refine p_rgn s ?_; intro m3 h4 s
  exact hk _ [] _ ⟨rfl, rfl⟩ s.noFree
theorem nil54 (n : Int) : Spec PG pr40 w 54 [.pointer none, .int .i64 n] [] fun v B => v = .int .i64 0 ∧ B = [] := by
  refine Spec.intro fun R k H hk s => ?_
  refine n54 ?_
  unfold N54
  refine p_rgn s ?_; intro m0 h0 s
  refine p_rgn s ?_; intro m1 h1 s
  simp only [go_sem]
  refine p_rgn s ?_; intro m2 h2 s
  exact hk _ [] _ ⟨rfl, rfl⟩ s.noFree

theorem law7 (now port : Int) (t : ByteArray) : Spec PG pr40 w 7 [.int .i64 now, .int .i64 port, .string t] [] fun v B => v = .bool true ∧ B = [] := by
  refine Spec.intro fun R k H hk s => ?_
  refine n7 ?_
  unfold N7
  refine p_rgn s ?_; intro m0 h0 s
  refine p_rgn s ?_; intro m1 h1 s
  simp only [go_sem]
  refine ite_dec (fun hc => ?_) (fun hc => ?_)
  · refine p_rgn s ?_; intro m2 h2 s
    refine call_prim (v := .bool true) (H' := h2) rfl ?_
    exact hk _ [] _ ⟨rfl, rfl⟩ s.noFree
  · refine p_rgn s ?_; intro m2 h2 s
    refine p_rgn s ?_; intro m3 h3 s
    refine (nil49 now).call s ?_
    rintro _ _ h4 ⟨rfl, rfl⟩ s
    simp only [List.nil_append, go_sem] at s ⊢
    refine p_rgn s ?_; intro m4 h5 s
    refine (nil47 now port t).call s ?_
    rintro _ _ h6 ⟨rfl, rfl⟩ s
    simp only [List.nil_append, go_sem, Int.reduceBEq] at s ⊢
    refine (nil52 now).call s ?_
    rintro _ _ h7 ⟨rfl, rfl⟩ s
    simp only [List.nil_append, go_sem, Int.reduceBEq] at s ⊢
    refine (nil54 port).call s ?_
    rintro _ _ h8 ⟨rfl, rfl⟩ s
    simp only [List.nil_append, go_sem, Int.reduceBEq] at s ⊢
    refine call_prim (v := .bool true) (H' := h8) rfl ?_
    try simp only [go_sem]
    exact hk _ [] _ ⟨rfl, rfl⟩ s.noFree

theorem endtxNil_calls (now port : Int) (t : ByteArray) (w : World) : Calls PG 7 #[.int .i64 now, .int .i64 port, .string t] w fun e w' => e = .returned (.bool true) ∧ Below w.heap.size w w' :=
  calls_of_spec (pr := pr40) (fun w => vals_ok p40_ok) rfl rfl (fun w => law7 now port t) w
end Go.Sim
