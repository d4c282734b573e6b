/-
  Each operation: what the determinate reading says of it holds in the world.
-/
import Derived.Test.YtlacidogpdbpgaaGreatSimL
namespace Go.Sim
open Go
set_option linter.unusedSimpArgs false
set_option linter.unusedVariables false

variable {P : Program} {w0 : World} {φ : Ren} {H : AH} {w : World}

/-- an operation is done, or enters a function that the reading has called -/
def OpGoes (P : Program) (w0 : World) (call : CallA) (S : Nat → Prop) (φ : Ren) (H : AH) (w : World) (s : Sem Next) (v : Value) (H' : AH) : Prop :=
  Done P w0 S φ H w s v H' ∨
  ∃ (k : FuncId) (args args' : List Value), s.run P w = .ok (.enter k ⟨args'⟩) w ∧ VRels φ args args' ∧ call k args H = some (v, H')

theorem callFunc_run {k : FuncId} {args : Array Value} (h : goesInto P k = true) : (callFunc k args).run P w = .ok (.enter k args) w := by
  unfold goesInto at h
  unfold callFunc
  simp only [Sem.run_bind, run_program, Result.andThen_ok]
  cases hf : P.funcs[k]? with
  | none => rw [hf] at h; simp at h
  | some fn =>
    rw [hf] at h
    simp only [Bool.and_eq_true, Bool.not_eq_true'] at h
    simp only [h.1, Bool.false_eq_true, if_false]
    cases hb : fn.body with
    | none => rw [hb] at h; simp at h
    | some c => simp

theorem map_toList (ρ : Operand → Value) (a : Array Operand) : (a.map ρ) = ⟨a.toList.map ρ⟩ := by
  apply Array.ext'; simp

theorem aCallOp_spec {call : CallA} {S : Nat → Prop} (E : Emb P w0 φ H w) {nm : Nat} (hnm : φ nm = none) (hlt : nm < H.next) (hS : S nm) {c : Call} {ρ ρ' : Operand → Value} {o : Oper} (ho : o.op = .call c)
    (hρ : ∀ y ∈ o.op.operands, VRel φ (ρ y) (ρ' y)) {v : Value} {H' : AH} (h : aCall P w0 call c ρ nm o H = some (v, H')) : OpGoes P w0 call S φ H w (execOp ρ' o) v H' := by
  have hargs : ∀ y ∈ c.args, VRel φ (ρ y) (ρ' y) := fun y hy => hρ y (by rw [ho]; simp [Op.operands, Call.operands, hy])
  have hal : VRels φ (c.args.toList.map ρ) (c.args.toList.map ρ') := VRels.map _ (fun x hx => hargs x (by simpa using hx))
  have hex : execOp ρ' o = (do let d ← resolve ρ' c o.type; invoke d.target d.args) := by unfold execOp; rw [ho]
  unfold aCall at h
  split at h
  · rename_i f hc
    have hf : VRel φ (ρ f) (ρ' f) := hρ f (by rw [ho]; simp [Op.operands, Call.operands, hc])
    split at h
    · rename_i k first captured hfn
      cases hg : goesInto P k with
      | false => rw [hg] at h; simp at h
      | true =>
        rw [hg] at h
        simp only [cond_true] at h
        rw [hfn] at hf
        obtain ⟨first⟩ := first
        obtain ⟨captured⟩ := captured
        obtain ⟨first', captured', e1, h1, h2⟩ := hf.inv_func
        refine .inr ⟨k, _, first' ++ c.args.toList.map ρ' ++ captured', ?_, (h1.append hal).append h2, h⟩
        rw [hex]
        simp only [Sem.run_bind, resolve, hc, e1, Deferred.ofValue, Sem.run_pure, Result.andThen_ok, invoke]
        rw [callFunc_run hg, map_toList]
        congr 2
        apply Array.ext'
        simp
    · simp at h
  · rename_i recv name hc
    have hf : VRel φ (ρ recv) (ρ' recv) := hρ recv (by rw [ho]; simp [Op.operands, Call.operands, hc])
    split at h
    · rename_i f u hm
      cases hg : goesInto P f with
      | false => rw [hg] at h; simp at h
      | true =>
        rw [hg] at h
        simp only [cond_true] at h
        unfold methodA at hm
        split at hm
        · rename_i t u0 hrv
          split at hm
          · rename_i m hmm
            split at hm
            · rename_i vv f0 elem b0 hp hfu hund
              simp only [Option.some.injEq, Prod.mk.injEq] at hm
              obtain ⟨rfl, rfl⟩ := hm
              rw [hrv] at hf
              cases hf' : ρ' recv <;> (rw [hf'] at hf; try (cases hf; done))
              rename_i t' u'
              have hu : t' = t ∧ VRel φ (.pointer b0) u' := by cases hf with | iface _ h => exact ⟨rfl, h⟩
              obtain ⟨rfl, hu⟩ := hu
              refine .inr ⟨f0, _, u' :: c.args.toList.map ρ', ?_, VRels.cons hu hal, h⟩
              have hmeth : (method (P.types.size + Made.depth) t' u' name).run P w = .ok (f0, u') w := by
                have hpos : ∃ n, P.types.size + Made.depth = n + 1 := ⟨P.types.size + Made.depth - 1, by
                  have : 0 < Made.depth := by decide
                  omega⟩
                obtain ⟨n, hn⟩ := hpos
                rw [hn]
                unfold method
                cases hi : P.info? t' with
                | none => rw [hi] at hmm; simp at hmm
                | some i =>
                  rw [hi] at hmm
                  simp only [Option.bind_some] at hmm
                  have hpl : m.path.toList = [] := by
                    have : m.path = #[] := by simpa using hp
                    rw [this]
                  simp only [Sem.run_bind, typeInfo, run_program, Result.andThen_ok, hi, Sem.run_pure, hmm, hpl, follow, hfu, receiverAt, underlying_run hund, Place.get]
              rw [hex]
              simp only [Sem.run_bind, resolve, hc, hf', Sem.run_pure, Result.andThen_ok, invoke]
              have e0 : (#[Value.iface t' u'] ++ c.args.map ρ')[0]? = some (Value.iface t' u') := by rw [Array.getElem?_append_left (by simp)]; rfl
              have e1 : (#[Value.iface t' u'] ++ c.args.map ρ').extract 1 (#[Value.iface t' u'] ++ c.args.map ρ').size = c.args.map ρ' := by
                apply Array.ext'; simp
                exact List.take_of_length_le (by simp)
              simp only [e0, e1, callMethod, Sem.run_bind, run_program, Result.andThen_ok, hmeth]
              rw [callFunc_run hg, map_toList]
              congr 2
              apply Array.ext'
              simp
            · simp at hm
          · simp at hm
        · simp at hm
    · simp at h
  · rename_i b hc
    have hres : ∃ consts, (execOp ρ' o).run P w = (builtin b c.argTypes o.type consts ⟨c.args.toList.map ρ'⟩).run P w := by
      refine ⟨c.args.map (fun | .const _ => true | _ => false), ?_⟩
      rw [hex]
      simp only [resolve, hc, Sem.run_bind, Sem.run_pure, Result.andThen_ok, invoke]
      rw [map_toList ρ' c.args]
      rfl
    obtain ⟨consts, hres⟩ := hres
    have mk : ∀ {s : Sem Value} {v v' : Value} {φ' : Ren} {H' : AH} {w' : World}, builtin b c.argTypes o.type consts ⟨c.args.toList.map ρ'⟩ = (do pure (Next.value (← s)) : Sem Next) →
        s.run P w = .ok v' w' → VRel φ' v v' → Emb P w0 φ' H' w' → Keeps S φ H w φ' H' w' → Done P w0 S φ H w (execOp ρ' o) v H' := by
      intro s v v' φ' H' w' hb hr hv hE hK
      exact ⟨v', φ', w', .inl (by rw [hres, hb]; simp [hr]), hv, hE, hK⟩
    have two : ∀ {x y : Operand}, c.args.toList = [x, y] → VRel φ (ρ x) (ρ' x) ∧ VRel φ (ρ y) (ρ' y) := by
      intro x y e
      exact ⟨hargs x (by rw [← Array.mem_toList_iff, e]; simp), hargs y (by rw [← Array.mem_toList_iff, e]; simp)⟩
    have one : ∀ {x : Operand}, c.args.toList = [x] → VRel φ (ρ x) (ρ' x) := by
      intro x e
      exact hargs x (by rw [← Array.mem_toList_iff, e]; simp)
    split at h
    · rename_i s x hargs2
      rw [hargs2] at mk
      obtain ⟨hs, hx⟩ := two hargs2
      cases hsz : Nat.beq c.argTypes.size 2 with
      | false => rw [hsz] at h; simp at h
      | true =>
        rw [hsz] at h
        simp only [cond_true] at h
        obtain ⟨v', φ', w', r1, r2, r3, r4⟩ := aAppend_spec (S := S) (ty := o.type) E hnm hlt hS hs hx (Nat.eq_of_beq_eq_true hsz) h
        exact .inl (mk rfl r1 r2 r3 r4)
    · rename_i d s hargs2
      rw [hargs2] at mk
      obtain ⟨hd, hs⟩ := two hargs2
      obtain ⟨w', r1, r2, r3, r4⟩ := aCopy_spec (S := S) (ty := o.type) E hd hs h
      exact .inl (mk rfl r1 r2 r3 r4)
    · rename_i x hargs2
      rw [hargs2] at mk
      have hx := one hargs2
      split at h
      · rename_i t ht
        simp only [Option.map_eq_some_iff, Prod.mk.injEq] at h
        obtain ⟨n, hn, rfl, rfl⟩ := h
        refine .inl (mk rfl (v' := .int .i64 n) (w' := w) ?_ (.int _ _) E (Keeps.refl _ _ _ _))
        have := aLen_spec (ty := o.type) E hx hn
        unfold Builtin.len_ at this ⊢
        simpa [ht] using this
      · simp at h
    · rename_i m k hargs2
      rw [hargs2] at mk
      obtain ⟨hm, hk⟩ := two hargs2
      split at h
      · rename_i t ht
        simp only [Option.map_eq_some_iff, Prod.mk.injEq] at h
        obtain ⟨H2, hn, rfl, rfl⟩ := h
        obtain ⟨w', r1, r2, r3⟩ := aDelete_spec (S := S) (ty := o.type) E hm hk hn
        refine .inl (mk rfl (v' := .tuple #[]) (w' := w') ?_ (VRel.undef _) r2 r3)
        unfold Builtin.delete_ at r1 ⊢
        simpa [ht] using r1
      · simp at h
    · rename_i x hargs2
      rw [hargs2] at mk
      have hx := one hargs2
      split at h
      · rename_i t ht
        simp only [Option.map_eq_some_iff, Prod.mk.injEq] at h
        obtain ⟨H2, hn, rfl, rfl⟩ := h
        cases hu : P.underlying t with
        | none => rw [hu] at hn; simp at hn
        | some d =>
          rw [hu] at hn
          obtain ⟨w', r1, r2, r3⟩ := aClear_spec (S := S) (ty := o.type) E hu hx hn
          refine .inl (mk rfl (v' := .tuple #[]) (w' := w') ?_ (VRel.undef _) r2 r3)
          unfold Builtin.clear_ at r1 ⊢
          simpa [ht] using r1
      · simp at h
    · simp only [Option.map_eq_some_iff, Prod.mk.injEq] at h
      obtain ⟨u, hg, rfl, rfl⟩ := h
      obtain ⟨h1, h2⟩ := groundOp_spec (w := w) hρ (fun cs b => by rw [ho]; simp) hg
      exact .inl ⟨_, φ, w, .inl h1, h2, E, Keeps.refl _ _ _ _⟩
    · simp only [Option.map_eq_some_iff, Prod.mk.injEq] at h
      obtain ⟨u, hg, rfl, rfl⟩ := h
      obtain ⟨h1, h2⟩ := groundOp_spec (w := w) hρ (fun cs b => by rw [ho]; simp) hg
      exact .inl ⟨_, φ, w, .inl h1, h2, E, Keeps.refl _ _ _ _⟩
    · simp at h

end Go.Sim
