/-
  Operations that lay new blocks or write: what they do to the world.
-/
import Derived.Test.YtlacidogpdbpgaaGreatSimF
namespace Go.Sim
open Go
set_option linter.unusedSimpArgs false
set_option linter.unusedVariables false

variable {P : Program} {w0 : World} {φ : Ren} {H : AH} {w : World}

theorem ground_map (ρ ρ' : Operand → Value) (o : Oper) (hρ : ∀ x ∈ o.op.operands, VRel φ (ρ x) (ρ' x)) (hg : (o.op.operands.toList.all fun x => ground (ρ x)) = true)
    (hs : ∀ cs b, o.op ≠ .select cs b) : execOp ρ' o = execOp ρ o := by
  refine execOp_congr o hs fun x hx => ?_
  have := List.all_eq_true.1 hg x (by simpa using hx)
  exact ground_eq φ _ _ this (hρ x hx)

theorem groundOp_spec {o : Oper} {ρ ρ' : Operand → Value} {v : Value} (hρ : ∀ x ∈ o.op.operands, VRel φ (ρ x) (ρ' x)) (hs : ∀ cs b, o.op ≠ .select cs b) (h : groundOp P o ρ = some v) :
    (execOp ρ' o).run P w = .ok (.value v) w ∧ VRel φ v v := by
  unfold groundOp at h
  cases hg : (o.op.operands.toList.all fun x => ground (ρ x)) with
  | false => rw [hg] at h; simp at h
  | true =>
    rw [hg] at h
    simp only [cond_true] at h
    split at h
    · rename_i u hu
      cases hgu : ground u with
      | false => rw [hgu] at h; simp at h
      | true =>
        rw [hgu] at h
        simp only [cond_true, Option.some.injEq] at h
        subst h
        rw [ground_map ρ ρ' o hρ hg hs]
        exact ⟨pureRun_run hu w, ground_rel φ _ hgu⟩
    · simp at h

theorem isNil_rel {v v' : Value} (h : VRel φ v v') : isNil v' = isNil v := by
  cases h with
  | sliceOld b off len cap h => cases len <;> cases cap <;> rfl
  | sliceNew off s len cap cap' => cases len <;> cases cap <;> cases cap' <;> rfl
  | slice0 b off s cap => cases cap <;> rfl
  | _ => rfl

theorem sameSort_rel {d : TypeDesc} {v v' : Value} (h : VRel φ v v') : sameSort d v' = sameSort d v := by
  cases h <;> cases d <;> rfl

theorem nilEq_run {t : TypeId} {x y : Value} {b : Bool} (h : nilEq P t x y = some b) :
    (Op.equal t x y).run P w = .ok b w := by
  unfold nilEq at h
  split at h
  · rename_i d hu
    cases hs : (sameSort d x && sameSort d y) with
    | false => rw [hs] at h; simp at h
    | true =>
      rw [hs] at h
      simp only [cond_true] at h
      simp only [Bool.and_eq_true] at hs
      obtain ⟨h1, h2⟩ := hs
      unfold Op.equal Op.maxDepth
      rw [show (10000 : Nat) = 9999 + 1 from rfl]
      unfold Op.equalIn
      simp only [Sem.run_bind, underlying_run hu, Result.andThen_ok]
      cases d <;> cases x <;> simp [sameSort] at h1 <;> cases y <;> simp [sameSort] at h2 <;> clear h1 h2 hu
      all_goals
        first
        | (simp [isNil] at h; subst h; rfl)
        | skip
      all_goals
        rename_i a c
        first
        | (cases a <;> cases c <;> simp [isNil] at h <;> subst h <;> rfl)
        | skip
      rename_i a1 l1 c1 a2
      cases a1 <;> cases a2 <;> cases l1 <;> cases c1 <;> cases a <;> cases c <;> simp [isNil] at h <;> subst h <;> rfl
  · simp at h

theorem nilEq_rel {t : TypeId} {x y x' y' : Value} {b : Bool} (hx : VRel φ x x') (hy : VRel φ y y') (h : nilEq P t x y = some b) : nilEq P t x' y' = some b := by
  unfold nilEq at h ⊢
  rw [← h]
  split
  · rw [sameSort_rel hx, sameSort_rel hy, isNil_rel hx, isNil_rel hy]
  · rfl

theorem eqGuard_const {op : BinOp} {t : TypeId} {x y : Operand} {a b : Value} (hc : isConst x = true ∨ isConst y = true) (ha : ∀ cs, a ≠ .agg cs) :
    (eqGuard op t x y a b).run P w = .ok () w := by
  unfold eqGuard
  cases op <;> first | rfl | skip
  all_goals
    simp only [Sem.run_bind, Sem.run_ite, Sem.run_pure, Bool.not_true, Bool.false_eq_true, if_false, Result.andThen_ok]
    split
    · cases x <;> cases y <;> simp_all [isConst]
    · rename_i cs _
      exact absurd rfl (ha cs)
    · rfl

theorem isConst_iff {x : Operand} (h : isConst x = true) : ∃ v, x = .const v := by
  cases x <;> simp [isConst] at h
  exact ⟨_, rfl⟩

theorem aBinOp_spec {op : BinOp} {t : TypeId} {x y : Operand} {ρ ρ' : Operand → Value} {v : Value} (hx : VRel φ (ρ x) (ρ' x)) (hy : VRel φ (ρ y) (ρ' y)) (h : aBinOp P op t x y ρ = some v) :
    (do eqGuard op t x y (ρ' x) (ρ' y); binOp op t (ρ' x) (ρ' y) : Sem Value).run P w = .ok v w ∧ VRel φ v v := by
  have key : ∀ b, nilEq P t (ρ x) (ρ y) = some b → isConst x = true ∨ isConst y = true → (op = .eql ∧ v = .bool b ∨ op = .neq ∧ v = .bool (!b)) →
      (do eqGuard op t x y (ρ' x) (ρ' y); binOp op t (ρ' x) (ρ' y) : Sem Value).run P w = .ok v w ∧ VRel φ v v := by
    intro b hn hc hv
    have hn' := nilEq_rel hx hy hn
    have hrun := nilEq_run (w := w) hn'
    have hagg : ∀ cs, ρ' x ≠ .agg cs := by
      intro cs e
      unfold nilEq at hn'
      split at hn'
      · rename_i d _
        rw [e] at hn'
        cases d <;> simp [sameSort] at hn'
      · simp at hn'
    have hb : binOp op t (ρ' x) (ρ' y) = (if op = .eql then (do pure (.bool (← Op.equal t (ρ' x) (ρ' y)))) else (do pure (.bool (!(← Op.equal t (ρ' x) (ρ' y)))))) := by
      unfold nilEq at hn'
      split at hn'
      · rename_i d _
        generalize ρ' x = a at *
        generalize ρ' y = c at *
        rcases hv with ⟨rfl, -⟩ | ⟨rfl, -⟩ <;> cases d <;> cases a <;> simp [sameSort] at hn' <;> cases c <;> simp [sameSort] at hn' <;> rfl
      · simp at hn'
    rw [Sem.run_bind, eqGuard_const hc hagg, Result.andThen_ok, hb]
    rcases hv with ⟨rfl, rfl⟩ | ⟨rfl, rfl⟩
    · exact ⟨by simp [hrun], .bool _⟩
    · exact ⟨by simp [hrun], .bool _⟩
  unfold aBinOp at h
  split at h
  · cases hc : (isConst x || isConst y) with
    | false => rw [hc] at h; simp at h
    | true =>
      rw [hc] at h
      simp only [cond_true, Option.map_eq_some_iff] at h
      obtain ⟨b, hb, rfl⟩ := h
      exact key b hb (by simpa using hc) (.inl ⟨rfl, rfl⟩)
  · cases hc : (isConst x || isConst y) with
    | false => rw [hc] at h; simp at h
    | true =>
      rw [hc] at h
      simp only [cond_true, Option.map_eq_some_iff] at h
      obtain ⟨b, hb, rfl⟩ := h
      exact key b hb (by simpa using hc) (.inr ⟨rfl, rfl⟩)
  · simp at h
end Go.Sim
