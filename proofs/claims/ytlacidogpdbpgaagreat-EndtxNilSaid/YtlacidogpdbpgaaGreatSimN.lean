/-
  The determinate reading of an operation holds in the world.
-/
import Derived.Test.YtlacidogpdbpgaaGreatSimM
namespace Go.Sim
open Go
set_option linter.unusedSimpArgs false
set_option linter.unusedVariables false

variable {P : Program} {w0 : World} {φ : Ren} {H : AH} {w : World}

theorem OpGoes.done {call : CallA} {S : Nat → Prop} {s : Sem Next} {v : Value} {H' : AH} (h : Done P w0 S φ H w s v H') : OpGoes P w0 call S φ H w s v H' := .inl h

theorem Done.quiet {S : Nat → Prop} (E : Emb P w0 φ H w) {s : Sem Value} {v v' : Value} (h : s.run P w = .ok v' w) (hr : VRel φ v v') : Done P w0 S φ H w (do pure (Next.value (← s))) v H :=
  Done.value h hr E (Keeps.refl _ _ _ _)

theorem Done.given {S : Nat → Prop} (E : Emb P w0 φ H w) {v v' : Value} (hr : VRel φ v v') : Done P w0 S φ H w (pure (.value v')) v H :=
  ⟨v', φ, w, .inl rfl, hr, E, Keeps.refl _ _ _ _⟩

set_option maxHeartbeats 1000000 in
theorem aOp_spec {call : CallA} {S : Nat → Prop} (E : Emb P w0 φ H w) {nm : Nat} (hnm : φ nm = none) (hlt : nm < H.next) (hS : S nm) {o : Oper} {T : Tmps} {ρ' : Operand → Value}
    (hρ : ∀ y ∈ o.op.operands, VRel φ (ev T y) (ρ' y)) {v : Value} {H' : AH} (h : aOp P w0 call nm o T H = some (v, H')) : OpGoes P w0 call S φ H w (execOp ρ' o) v H' := by
  unfold aOp at h
  dsimp only at h
  split at h
  · rename_i x ho
    simp only [Option.some.injEq, Prod.mk.injEq] at h
    obtain ⟨rfl, rfl⟩ := h
    refine .done ?_
    unfold execOp; rw [ho]
    exact Done.given E (hρ x (by rw [ho]; simp [Op.operands]))
  · rename_i x ho
    simp only [Option.some.injEq, Prod.mk.injEq] at h
    obtain ⟨rfl, rfl⟩ := h
    refine .done ?_
    unfold execOp; rw [ho]
    exact Done.given E (hρ x (by rw [ho]; simp [Op.operands]))
  · rename_i c a b ho
    split at h
    · rename_i t hc
      simp only [Option.some.injEq, Prod.mk.injEq] at h
      obtain ⟨rfl, rfl⟩ := h
      refine .done ?_
      have h1 := hρ c (by rw [ho]; simp [Op.operands])
      rw [hc] at h1
      have h1' : ρ' c = .bool t := by generalize ρ' c = y at h1; cases h1; rfl
      have ha := hρ a (by rw [ho]; simp [Op.operands])
      have hb := hρ b (by rw [ho]; simp [Op.operands])
      unfold execOp; rw [ho]
      refine ⟨if t then ρ' a else ρ' b, φ, w, .inl ?_, ?_, E, Keeps.refl _ _ _ _⟩
      · simp [h1', asBool]
      · cases t
        · exact hb
        · exact ha
    · simp at h
  · rename_i t a ho
    simp only [Option.map_eq_some_iff, Prod.mk.injEq] at h
    obtain ⟨u, h1, rfl, rfl⟩ := h
    obtain ⟨v', h2, h3⟩ := aLoad_spec E (hρ a (by rw [ho]; simp [Op.operands])) h1
    refine .done ?_
    unfold execOp; rw [ho]
    exact Done.quiet E h2 h3
  · rename_i s x f ho
    simp only [Option.map_eq_some_iff, Prod.mk.injEq] at h
    obtain ⟨u, h1, rfl, rfl⟩ := h
    obtain ⟨v', h2, h3⟩ := aFieldAddr_spec (w := w) (hρ x (by rw [ho]; simp [Op.operands])) h1
    refine .done ?_
    unfold execOp; rw [ho]
    exact Done.quiet E h2 h3
  · rename_i t a x ho
    simp only [Option.map_eq_some_iff, Prod.mk.injEq] at h
    obtain ⟨H2, h1, rfl, rfl⟩ := h
    obtain ⟨w', h2, h3, h4⟩ := aStore_spec (S := S) E (hρ a (by rw [ho]; simp [Op.operands])) (hρ x (by rw [ho]; simp [Op.operands])) h1
    refine .done ?_
    unfold execOp; rw [ho]
    exact Done.unit h2 h3 h4
  · rename_i t x ix ho
    simp only [Option.map_eq_some_iff, Prod.mk.injEq] at h
    obtain ⟨u, h1, rfl, rfl⟩ := h
    obtain ⟨v', h2, h3⟩ := aIndexAddr_spec (w := w) (hρ x (by rw [ho]; simp [Op.operands])) (hρ ix (by rw [ho]; simp [Op.operands])) h1
    refine .done ?_
    unfold execOp; rw [ho]
    exact Done.quiet E h2 h3
  · rename_i x ho
    have hx := hρ x (by rw [ho]; simp [Op.operands])
    refine .done ?_
    split at h
    · rename_i a ha
      simp only [Option.some.injEq, Prod.mk.injEq] at h
      obtain ⟨rfl, rfl⟩ := h
      rw [ha] at hx
      obtain ⟨a', e1, hr⟩ := hx.inv_ptr
      unfold execOp; rw [ho]
      simp only [e1]
      rw [e1] at hx
      exact Done.given E hx
    · rename_i f first cap ha
      simp only [Option.some.injEq, Prod.mk.injEq] at h
      obtain ⟨rfl, rfl⟩ := h
      rw [ha] at hx
      obtain ⟨first⟩ := first
      obtain ⟨cap⟩ := cap
      obtain ⟨c, d, e1, hr⟩ := hx.inv_func
      unfold execOp; rw [ho]
      simp only [e1]
      rw [e1] at hx
      exact Done.given E hx
    · simp at h
  · rename_i op t x y yt ho
    refine .done ?_
    split at h
    · rename_i u hu
      simp only [Option.some.injEq, Prod.mk.injEq] at h
      obtain ⟨rfl, rfl⟩ := h
      obtain ⟨h1, h2⟩ := aBinOp_spec (w := w) (hρ x (by rw [ho]; simp [Op.operands])) (hρ y (by rw [ho]; simp [Op.operands])) hu
      unfold execOp; rw [ho]
      exact Done.quiet E h1 h2
    · simp only [Option.map_eq_some_iff, Prod.mk.injEq] at h
      obtain ⟨u, hg, rfl, rfl⟩ := h
      obtain ⟨h1, h2⟩ := groundOp_spec (w := w) hρ (fun cs b => by rw [ho]; simp) hg
      exact ⟨_, φ, w, .inl h1, h2, E, Keeps.refl _ _ _ _⟩
  · rename_i op t x ho
    refine .done ?_
    simp only [Option.map_eq_some_iff, Prod.mk.injEq] at h
    obtain ⟨u, hg, rfl, rfl⟩ := h
    obtain ⟨h1, h2⟩ := groundOp_spec (w := w) hρ (fun cs b => by rw [ho]; simp) hg
    exact ⟨_, φ, w, .inl h1, h2, E, Keeps.refl _ _ _ _⟩
  · rename_i t i ho
    have hx := hρ t (by rw [ho]; simp [Op.operands])
    refine .done ?_
    split at h
    · rename_i vs hv
      simp only [Option.map_eq_some_iff, Prod.mk.injEq] at h
      obtain ⟨u, h1, rfl, rfl⟩ := h
      rw [hv] at hx
      obtain ⟨vs⟩ := vs
      obtain ⟨b, e1, hr⟩ := hx.inv_tuple
      obtain ⟨y, h2, h3⟩ := hr.get h1
      unfold execOp; rw [ho]
      refine Done.quiet E ?_ h3
      simp [e1, Instr.extract, h2]
    · simp at h
  · rename_i c ho
    exact aCallOp_spec E hnm hlt hS ho hρ h
  · rename_i e ho
    simp only [Option.map_eq_some_iff, Prod.mk.injEq] at h
    obtain ⟨z, hz, rfl, rfl⟩ := h
    refine .done ?_
    cases hn : sizeOf? P e with
    | none => simp [sizeOf?, zeroOf?] at hn hz; rw [hn] at hz; simp at hz
    | some n =>
      obtain ⟨φ', w', h1, h2, h3, h4⟩ := box_spec (S := S) E hnm hlt hS hn (ground_rel φ z (zero_ground hz))
      unfold execOp; rw [ho]
      refine Done.value ?_ h2 h3 h4
      simp [Instr.alloc, zero_run hz, h1]
  · rename_i e x ho
    have hx := hρ x (by rw [ho]; simp [Op.operands])
    refine .done ?_
    cases hn : sizeOf? P e with
    | none => rw [hn] at h; simp at h
    | some n =>
      rw [hn] at h
      simp only [Option.some.injEq, Prod.mk.injEq] at h
      obtain ⟨rfl, rfl⟩ := h
      obtain ⟨φ', w', h1, h2, h3, h4⟩ := box_spec (S := S) E hnm hlt hS hn hx
      unfold execOp; rw [ho]
      refine Done.value ?_ h2 h3 h4
      simp [Instr.box, h1]
  · rename_i t parts ho
    simp only [Option.map_eq_some_iff, Prod.mk.injEq] at h
    obtain ⟨u, h1, rfl, rfl⟩ := h
    have hp : PRel φ (parts.toList.map fun p => (p.1, ev T p.2)) (parts.toList.map fun p => (p.1, ρ' p.2)) := PRel.map _ fun p hp => hρ p.2 (by
      rw [ho]; simp only [Op.operands]; exact List.mem_toArray.2 (List.mem_map.2 ⟨p, hp, rfl⟩))
    obtain ⟨v', h2, h3⟩ := aBuild_spec (w := w) hp h1
    refine .done ?_
    unfold execOp; rw [ho]
    refine Done.quiet E ?_ h3
    rw [← h2]
    congr 2
    apply Array.ext'
    simp
  · rename_i t len parts ho
    simp only [Option.map_eq_some_iff, Prod.mk.injEq] at h
    obtain ⟨q, h1, rfl, rfl⟩ := h
    have hp : PRel φ (parts.toList.map fun p => (p.1, ev T p.2)) (parts.toList.map fun p => (p.1, ρ' p.2)) := PRel.map _ fun p hp => hρ p.2 (by
      rw [ho]; simp only [Op.operands]; exact List.mem_toArray.2 (List.mem_map.2 ⟨p, hp, rfl⟩))
    obtain ⟨v', φ', w', h2, h3, h4, h5⟩ := aBuildSlice_spec (S := S) E hnm hlt hS hp h1
    refine .done ?_
    unfold execOp; rw [ho]
    refine Done.value ?_ h3 h4 h5
    rw [← h2]
    congr 2
    apply Array.ext'
    simp
  · rename_i s d x ho
    exact .done (aConvert_spec E hnm hlt hS ho hρ h)
  · rename_i arr x ho
    have hx := hρ x (by rw [ho]; simp [Op.operands])
    refine .done ?_
    split at h
    · rename_i n e a len cap hu hv
      cases hb : (Nat.blt len n || Nat.beq n 0) with
      | true => rw [hb] at h; simp at h
      | false =>
        rw [hb] at h
        simp only [cond_false, Option.some.injEq, Prod.mk.injEq] at h
        obtain ⟨rfl, rfl⟩ := h
        simp only [Bool.or_eq_false_iff] at hb
        have hb1 : ¬ len < n := fun e => by
          have : Nat.blt len n = true := by simpa using e
          rw [hb.1] at this; cases this
        have hb2 : n ≠ 0 := fun e => by have := hb.2; rw [beq_true e] at this; cases this
        rw [hv] at hx
        obtain ⟨a', cap', e1, -⟩ := hx.slice_inv
        rw [e1] at hx
        obtain ⟨-, b, b', rfl, rfl, hab⟩ := slice_addr hx (by omega)
        unfold execOp; rw [ho]
        refine Done.quiet E (v' := .pointer (some b')) ?_ (.ptr hab)
        simp [Instr.arrayAt, underlying_run hu, e1, hb1]
    · simp at h
  · rename_i t x ho
    have hx := hρ x (by rw [ho]; simp [Op.operands])
    refine .done ?_
    split at h
    · simp at h
    · rename_i d hd hu
      simp only [Option.some.injEq, Prod.mk.injEq] at h
      obtain ⟨rfl, rfl⟩ := h
      unfold execOp; rw [ho]
      refine Done.quiet E (v' := .iface t (ρ' x)) ?_ (.iface t hx)
      simp only [Instr.makeInterface, Sem.run_bind, underlying_run hu, Result.andThen_ok]
      cases d <;> first | rfl | (exact absurd rfl (hd _))
    · simp at h
  · rename_i f first cap ho
    simp only [Option.some.injEq, Prod.mk.injEq] at h
    obtain ⟨rfl, rfl⟩ := h
    refine .done ?_
    unfold execOp; rw [ho]
    refine Done.quiet E (v' := .func (.func f) (first.map ρ') (cap.map ρ')) rfl ?_
    rw [map_toList, map_toList, map_toList, map_toList]
    exact .func' f (VRels.map _ fun x hx => hρ x (by rw [ho]; simp [Op.operands]; exact .inl (by simpa using hx))) (VRels.map _ fun x hx => hρ x (by rw [ho]; simp [Op.operands]; exact .inr (by simpa using hx)))
  · rename_i t r ho
    refine .done ?_
    have key : ∀ s : Sem Value, s.run P w = .ok (.map (some w.heap.size)) (w.alloc (.map #[] 0)) → Done P w0 S φ H w (do pure (Next.value (← s))) (.map (some nm)) (H.set nm (some (.map [] 0))) := by
      intro s hs
      have hx : Holds P (φ.upd nm ⟨w.heap.size, 0, 0, 0⟩) (w.alloc (.map #[] 0)) ⟨w.heap.size, 0, 0, 0⟩ (.map [] 0) := ⟨[], alloc_same _ _, ERels.nil⟩
      obtain ⟨g1, g2⟩ := goes_new (S := S) E hnm hlt hS (i := ⟨w.heap.size, 0, 0, 0⟩) rfl hx
      exact Done.value hs (VRel.mapNew (i := ⟨w.heap.size, 0, 0, 0⟩) (Ren.upd_same _ _ _)) g1 g2
    split at h
    · simp only [Option.some.injEq, Prod.mk.injEq] at h
      obtain ⟨rfl, rfl⟩ := h
      unfold execOp; rw [ho]
      refine key _ ?_
      simp [Instr.makeMap]
    · rename_i x
      have hx := hρ x (by rw [ho]; simp [Op.operands])
      split at h
      · rename_i kt et k n hu hv
        simp only [Option.some.injEq, Prod.mk.injEq] at h
        obtain ⟨rfl, rfl⟩ := h
        unfold execOp; rw [ho]
        refine key _ ?_
        rw [hv] at hx
        have hx' : ρ' x = .int k n := by generalize ρ' x = y at hx; cases hx; rfl
        simp [Instr.makeMap, underlying_run hu, hx', asInt, asIntOf]
      · simp at h
  · rename_i t x lo hi mx ho
    simp only [Option.map_eq_some_iff, Prod.mk.injEq] at h
    obtain ⟨u, h1, rfl, rfl⟩ := h
    obtain ⟨v', h2, h3⟩ := aSlice_spec E (hρ x (by rw [ho]; simp [Op.operands])) (ORel.map lo fun y hy => hρ y (by rw [ho]; simp [Op.operands]; cases lo <;> simp_all))
      (ORel.map hi fun y hy => hρ y (by rw [ho]; simp [Op.operands]; cases hi <;> simp_all)) (ORel.map mx fun y hy => hρ y (by rw [ho]; simp [Op.operands]; cases mx <;> simp_all)) h1
    refine .done ?_
    unfold execOp; rw [ho]
    exact Done.quiet E h2 h3
  · rename_i t x f ho
    simp only [Option.map_eq_some_iff, Prod.mk.injEq] at h
    obtain ⟨u, h1, rfl, rfl⟩ := h
    obtain ⟨v', h2, h3⟩ := aField_spec (w := w) (hρ x (by rw [ho]; simp [Op.operands])) h1
    refine .done ?_
    unfold execOp; rw [ho]
    exact Done.quiet E h2 h3
  · rename_i t x i ho
    simp only [Option.map_eq_some_iff, Prod.mk.injEq] at h
    obtain ⟨u, h1, rfl, rfl⟩ := h
    obtain ⟨v', h2, h3⟩ := aIndex_spec (w := w) (hρ x (by rw [ho]; simp [Op.operands])) (hρ i (by rw [ho]; simp [Op.operands])) h1
    refine .done ?_
    unfold execOp; rw [ho]
    exact Done.quiet E h2 h3
  · rename_i t m k ok ho
    simp only [Option.map_eq_some_iff, Prod.mk.injEq] at h
    obtain ⟨u, h1, rfl, rfl⟩ := h
    obtain ⟨v', h2, h3⟩ := aLookup_spec E (hρ m (by rw [ho]; simp [Op.operands])) (hρ k (by rw [ho]; simp [Op.operands])) h1
    refine .done ?_
    unfold execOp; rw [ho]
    exact Done.quiet E h2 h3
  · rename_i t m k x ho
    simp only [Option.map_eq_some_iff, Prod.mk.injEq] at h
    obtain ⟨H2, h1, rfl, rfl⟩ := h
    obtain ⟨w', h2, h3, h4⟩ := aMapUpdate_spec (S := S) E (hρ m (by rw [ho]; simp [Op.operands])) (hρ k (by rw [ho]; simp [Op.operands])) (hρ x (by rw [ho]; simp [Op.operands])) h1
    refine .done ?_
    unfold execOp; rw [ho]
    exact Done.unit h2 h3 h4
  · rename_i t m k x ho
    simp only [Option.map_eq_some_iff, Prod.mk.injEq] at h
    obtain ⟨H2, h1, rfl, rfl⟩ := h
    obtain ⟨w', h2, h3, h4⟩ := aMapUpdate_spec (S := S) E (hρ m (by rw [ho]; simp [Op.operands])) (hρ k (by rw [ho]; simp [Op.operands])) (hρ x (by rw [ho]; simp [Op.operands])) h1
    refine .done ?_
    unfold execOp; rw [ho]
    exact Done.unit h2 h3 h4
  · rename_i t m k ho
    obtain ⟨v', w', h2, h3, h4, h5⟩ := aMapEntry_spec (S := S) E (hρ m (by rw [ho]; simp [Op.operands])) (hρ k (by rw [ho]; simp [Op.operands])) h
    refine .done ?_
    unfold execOp; rw [ho]
    exact Done.value h2 h3 h4 h5
  · rename_i t m s x ho
    simp only [Option.map_eq_some_iff, Prod.mk.injEq] at h
    obtain ⟨H2, h1, rfl, rfl⟩ := h
    obtain ⟨w', h2, h3, h4⟩ := aEntryStore_spec (S := S) (t := t) E (hρ m (by rw [ho]; simp [Op.operands])) (hρ s (by rw [ho]; simp [Op.operands])) (hρ x (by rw [ho]; simp [Op.operands])) h1
    refine .done ?_
    unfold execOp; rw [ho]
    exact Done.unit h2 h3 h4
  · rename_i x xt asserted ok ho
    have hx := hρ x (by rw [ho]; simp [Op.operands])
    refine .done ?_
    have mk : ∀ u', (Instr.typeAssert (ρ' x) xt asserted ok).run P w = .ok u' w → VRel φ v u' → H' = H → Done P w0 S φ H w (execOp ρ' o) v H' := by
      intro u' h1 h2 h3
      subst h3
      unfold execOp; rw [ho]
      exact Done.quiet E h1 h2
    split at h
    · simp at h
    · rename_i d t u hd hu hv
      rw [hv] at hx
      have hx' : ∃ u', ρ' x = .iface t u' ∧ VRel φ u u' := by generalize ρ' x = y at hx; cases hx with | iface _ h => exact ⟨_, rfl, h⟩
      obtain ⟨u', e1, hr⟩ := hx'
      cases hb : Nat.beq t asserted with
      | true =>
        rw [hb] at h
        have hb := Nat.eq_of_beq_eq_true hb
        subst hb
        simp only [cond_true, Option.some.injEq, Prod.mk.injEq] at h
        obtain ⟨rfl, rfl⟩ := h
        have hh : ∀ d : TypeDesc, (∀ ms, d ≠ .interface ms) → P.underlying t = some d → (Instr.typeAssert (.iface t u') xt t ok).run P w = .ok (if ok then .tuple #[u', .bool true] else u') w := by
          intro d hd hu
          unfold Instr.typeAssert
          simp only [Sem.run_bind, underlying_run hu, Result.andThen_ok]
          cases d <;> first | (simp; done) | (exact absurd rfl (hd _))
        refine mk _ (by rw [e1]; exact hh d hd hu) ?_ rfl
        cases ok
        · exact hr
        · exact .tuple' (.cons hr (.cons (.bool _) .nil))
      | false =>
        rw [hb] at h
        have hb : ¬ t = asserted := fun e => by rw [beq_true e] at hb; cases hb
        cases ok with
        | false => simp at h
        | true =>
          simp only [cond_false, cond_true, Option.map_eq_some_iff, Prod.mk.injEq] at h
          obtain ⟨z, hz, rfl, rfl⟩ := h
          have hh : ∀ d : TypeDesc, (∀ ms, d ≠ .interface ms) → P.underlying asserted = some d → (Instr.typeAssert (.iface t u') xt asserted true).run P w = .ok (.tuple #[z, .bool false]) w := by
            intro d hd hu
            unfold Instr.typeAssert
            simp only [Sem.run_bind, underlying_run hu, Result.andThen_ok]
            cases d <;> first | (simp [hb, zero_run hz]; done) | (exact absurd rfl (hd _))
          exact mk _ (by rw [e1]; exact hh d hd hu) (.tuple' (.cons (ground_rel φ z (zero_ground hz)) (.cons (.bool _) .nil))) rfl
    · rename_i d hd hu hv
      rw [hv] at hx
      have e1 : ρ' x = .nilIface := by generalize ρ' x = y at hx; cases hx; rfl
      cases ok with
      | false => simp at h
      | true =>
        simp only [cond_true, Option.map_eq_some_iff, Prod.mk.injEq] at h
        obtain ⟨z, hz, rfl, rfl⟩ := h
        have hh : ∀ d : TypeDesc, (∀ ms, d ≠ .interface ms) → P.underlying asserted = some d → (Instr.typeAssert .nilIface xt asserted true).run P w = .ok (.tuple #[z, .bool false]) w := by
          intro d hd hu
          unfold Instr.typeAssert
          simp only [Sem.run_bind, underlying_run hu, Result.andThen_ok]
          cases d <;> first | (simp [zero_run hz]; done) | (exact absurd rfl (hd _))
        exact mk _ (by rw [e1]; exact hh d hd hu) (.tuple' (.cons (ground_rel φ z (zero_ground hz)) (.cons (.bool _) .nil))) rfl
    · simp at h
  · simp at h

end Go.Sim
