/-
  AvswitchNil: its walk.
-/
import Derived.Test.YtlacidogpdbpgaaGreatWY28
import Derived.Test.YtlacidogpdbpgaaGreatWT3
namespace Go.Sim
open Go
open Go.RowKit (Below)
set_option linter.unusedVariables false
set_option linter.unusedSimpArgs false
set_option maxRecDepth 100000

/-- what AvswitchNil's walk knows -/
def p28 : Prims := fun f args => cond (Nat.beq f 28) (match args with
  | [] => some (.bool true)
  | _ => none) none
theorem p28_ok : PrimsOk PG p28 := by
  intro f args v h
  unfold p28 at h
  cases hf : Nat.beq f 28 with
  | false => rw [hf] at h; cases h
  | true =>
    rw [hf] at h
    obtain rfl := Nat.eq_of_beq_eq_true hf
    cases args with
    | cons x xs => cases h
    | nil =>
      obtain rfl : Value.bool true = v := by simpa using h
      exact ⟨⟨rfl, rfl⟩, fun w => calls_of_trueG prRun_ok (fun _ => VRels.nil) (awake28 w)⟩
def pr28 : CallA := valsP p28
instance : PrB pr28 where
  other f args H h := by
    have : Nat.beq f 28 = false := by
      cases hf : Nat.beq f 28 with
      | false => rfl
      | true =>
        obtain rfl := Nat.eq_of_beq_eq_true hf
        cases h
    simp only [pr28, valsP, p28, this, cond_false, Option.map_none]
  nilP f args H := by
    simp only [pr28, valsP, p28]
    cases Nat.beq f 28 <;> rfl

variable {w : World}
theorem nil105 (now : Int) : Spec PG pr28 w 105 [.pointer none, .int .i64 now] [] fun v B => v = .int .i64 2 ∧ B = [] := by
  refine Spec.intro fun R k H hk s => ?_
  refine n105 ?_
  unfold N105
  refine p_rgn s ?_; intro m0 h0 s
  refine p_rgn s ?_; intro m1 h1 s
  simp only [go_sem]
  refine p_rgn s ?_; intro m2 h2 s
  exact hk _ [] _ ⟨rfl, rfl⟩ s.noFree
theorem nil29 (now : Int) : Spec PG pr28 w 29 [.pointer none, .int .i64 now] [] fun v B => v = .tuple ⟨[.slice none 0 0, .int .i64 2]⟩ ∧ B = [] := by
  refine Spec.intro fun R k H hk s => ?_
  refine n29 ?_
  unfold N29
  refine p_rgn s ?_; intro m0 h0 s
  refine p_rgn s ?_; intro m1 h1 s
  refine (nil105 now).call s ?_
  rintro _ _ h2 ⟨rfl, rfl⟩ s
  simp only [List.nil_append] at s
  refine p_rgn s ?_; intro m2 h3 s
  simp only [go_sem, Int.reduceBNe]
  refine p_rgn s ?_; intro m3 h4 s
  exact hk _ [] _ ⟨rfl, rfl⟩ s.noFree
theorem nil30 (now port late : Int) (s0 : ByteArray) : Spec PG pr28 w 30 [.pointer none, .int .i64 now, .int .i64 port, .string s0, .int .i64 late] [] fun v B => v = .int .i64 2 ∧ B = [] := by
  refine Spec.intro fun R k H hk s => ?_
  refine n30 ?_
  unfold N30
  refine p_rgn s ?_; intro m0 h0 s
  refine p_rgn s ?_; intro m1 h1 s
  refine (nil105 now).call s ?_
  rintro _ _ h2 ⟨rfl, rfl⟩ s
  simp only [List.nil_append] at s
  refine p_rgn s ?_; intro m2 h3 s
  simp only [go_sem, Int.reduceBEq]
  refine p_rgn s ?_; intro m3 h4 s
  exact hk _ [] _ ⟨rfl, rfl⟩ s.noFree
theorem nil31 (e : Int) : Spec PG pr28 w 31 [.pointer none, .int .i64 e] [] fun v B => v = .int .i64 0 ∧ B = [] := by
  refine Spec.intro fun R k H hk s => ?_
  refine n31 ?_
  unfold N31
  refine p_rgn s ?_; intro m0 h0 s
  refine p_rgn s ?_; intro m1 h1 s
  simp only [go_sem]
  refine p_rgn s ?_; intro m2 h2 s
  exact hk _ [] _ ⟨rfl, rfl⟩ s.noFree

theorem law3 (now port : Int) (t : ByteArray) : Spec PG pr28 w 3 [.int .i64 now, .int .i64 port, .string t] [] fun v B => v = .bool true ∧ B = [] := by
  refine Spec.intro fun R k H hk s => ?_
  refine n3 ?_
  unfold N3
  refine p_rgn s ?_; intro m0 h0 s
  refine p_rgn s ?_; intro m1 h1 s
  simp only [go_sem]
  refine ite_dec (fun hc => ?_) (fun hc => ?_)
  · refine p_rgn s ?_; intro m2 h2 s
    refine call_prim (v := .bool true) (H' := h2) rfl ?_
    exact hk _ [] _ ⟨rfl, rfl⟩ s.noFree
  · refine p_rgn s ?_; intro m2 h2 s
    refine p_rgn s ?_; intro m3 h3 s
    refine (nil29 now).call s ?_
    rintro _ _ h4 ⟨rfl, rfl⟩ s
    simp only [List.nil_append, go_sem] at s ⊢
    refine p_rgn s ?_; intro m4 h5 s
    refine (nil30 now port 0 t).call s ?_
    rintro _ _ h6 ⟨rfl, rfl⟩ s
    simp only [List.nil_append, go_sem, Int.reduceBEq] at s ⊢
    refine (nil31 0).call s ?_
    rintro _ _ h7 ⟨rfl, rfl⟩ s
    simp only [List.nil_append, go_sem, Int.reduceBEq] at s ⊢
    refine call_prim (v := .bool true) (H' := h7) rfl ?_
    simp only [go_sem]
    exact hk _ [] _ ⟨rfl, rfl⟩ s.noFree

theorem avswitchNil_calls (now port : Int) (t : ByteArray) (w : World) : Calls PG 3 #[.int .i64 now, .int .i64 port, .string t] w fun e w' => e = .returned (.bool true) ∧ Below w.heap.size w w' :=
  calls_of_spec (pr := pr28) (fun w => vals_ok p28_ok) rfl rfl (fun w => law3 now port t) w
end Go.Sim
