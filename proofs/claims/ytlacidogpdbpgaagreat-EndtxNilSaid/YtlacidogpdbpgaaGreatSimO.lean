/-
  Regions in the order of the text.
-/
import Derived.Test.YtlacidogpdbpgaaGreatSimN
namespace Go.Sim
open Go
set_option linter.unusedSimpArgs false
set_option linter.unusedVariables false

variable {P : Program} {w0 : World}

/-- a frame's temporaries, and those of the reading -/
structure TRel (φ : Ren) (T : Tmps) (a : Act) (N : Nat) : Prop where
  size : a.tmps.size = N
  rel : ∀ t, VRel φ ((T.get t).getD undef) (a.tmps.getD t undef)
  defers : a.defers = []

theorem TRel.mono {φ ψ : Ren} {T : Tmps} {a : Act} {N : Nat} (h : TRel φ T a N) (hle : φ.le ψ) : TRel ψ T a N := ⟨h.size, fun t => (h.rel t).mono hle, h.defers⟩

theorem TRel.put {φ : Ren} {T : Tmps} {a : Act} {N : Nat} (h : TRel φ T a N) {d : Option Tmp} (hd : ∀ t, d = some t → t < N) {v v' : Value} (hv : VRel φ v v') : TRel φ (putT T d v) (a.put d v') N := by
  cases d with
  | none => exact h
  | some d =>
    have hlt := hd d rfl
    refine ⟨by simp [Act.put, h.size], fun t => ?_, h.defers⟩
    simp only [putT, Act.put, Trie.get_set, Array.getD_eq_getD_getElem?, Array.getElem?_setIfInBounds]
    by_cases e : t = d
    · subst e
      rw [if_pos rfl, if_pos rfl, if_pos (by rw [h.size]; exact hlt)]
      exact hv
    · rw [if_neg e, if_neg (Ne.symm e)]
      have := h.rel t
      rw [Array.getD_eq_getD_getElem?] at this
      exact this

theorem TRel.ev {φ : Ren} {T : Tmps} {a : Act} {N : Nat} (h : TRel φ T a N) {y : Operand} (hy : constOk y = true) : VRel φ (ev T y) (a.eval y) := by
  cases y with
  | tmp t => exact h.rel t
  | const v => exact ground_rel φ v hy
  | global g => simp [constOk] at hy
  | func f => exact .func' f VRels.nil VRels.nil

theorem TRel.wanted {φ : Ren} {T : Tmps} {a : Act} {N : Nat} (h : TRel φ T a N) (o : Oper) (ops : Array Oper) : Region.wanted o (yielded ops a.tmps) = wantedT o ops T := by
  unfold Region.wanted wantedT
  cases o.guard with
  | none => rfl
  | some g =>
    obtain ⟨j, want⟩ := g
    simp only [yielded]
    cases hd : (ops[j]?).bind (·.dst) with
    | none => rfl
    | some d =>
      simp only [Option.bind_some]
      have hr := h.rel d
      rw [Array.getD_eq_getD_getElem?] at hr
      cases ht : T.get d with
      | none =>
        rw [ht] at hr
        cases hx : a.tmps[d]? with
        | none => rfl
        | some x =>
          rw [hx] at hr
          simp only [Option.getD_none, Option.getD_some, undef] at hr
          cases hr
          rfl
      | some v =>
        rw [ht] at hr
        cases hx : a.tmps[d]? with
        | none =>
          rw [hx] at hr
          simp only [Option.getD_some, Option.getD_none, undef] at hr
          cases hr
          rfl
        | some x =>
          rw [hx] at hr
          simp only [Option.getD_some] at hr
          cases hr <;> rfl

/-- a call that the reading has made is one that the world makes -/
def CallOk (P : Program) (w0 : World) (call : CallA) : Prop :=
  ∀ (φ : Ren) (H : AH) (w : World) (k : FuncId) (args args' : List Value) (v : Value) (H' : AH), Emb P w0 φ H w → VRels φ args args' → call k args H = some (v, H') →
    Calls P k ⟨args'⟩ w fun e w' => ∃ v' φ', e = .returned v' ∧ VRel φ' v v' ∧ Emb P w0 φ' H' w' ∧ Keeps (fun b => H.next ≤ b ∧ b < H'.next) φ H w φ' H' w'

/-- ONE OPERATION -/
theorem op_wp {call : CallA} (hcall : CallOk P w0 call) {φ : Ren} {H : AH} {w : World} (E : Emb P w0 φ H w) {nm : Nat} (hnm : φ nm = none) (hlt : nm < H.next) {o : Oper} {T : Tmps} {a : Act} {N : Nat} (hT : TRel φ T a N) (ho : opOk N o = true)
    {v : Value} {H' : AH} (h : aOp P w0 call nm o T H = some (v, H')) {next : Act → World → Prop} {Q : Exit → Act → World → Prop}
    (hnext : ∀ v' φ' w', VRel φ' v v' → Emb P w0 φ' H' w' → Keeps (fun b => b = nm ∨ (H.next ≤ b ∧ b < H'.next)) φ H w φ' H' w' → next (a.put o.dst v') w') : o.wp P a w next Q := by
  have hops : ∀ y ∈ o.op.operands, VRel φ (ev T y) (a.eval y) := fun y hy => hT.ev (by
    simp only [opOk, Bool.and_eq_true] at ho
    exact List.all_eq_true.1 ho.1 y (by simpa using hy))
  rcases aOp_spec (S := fun b => b = nm ∨ (H.next ≤ b ∧ b < H'.next)) E hnm hlt (.inl rfl) hops h with ⟨v', φ', w', hr, hv, hE, hK⟩ | ⟨k, args, args', hr, ha, hc⟩
  · unfold Oper.wp
    rcases hr with hr | ⟨hr, hu⟩
    · rw [hr, Oper.upon_value]
      exact hnext v' φ' w' hv hE hK
    · rw [hr, Oper.upon_skip]
      have := hnext v' φ' w' hv hE hK
      rw [hu] at this
      exact this
  · unfold Oper.wp
    rw [hr, Oper.upon_enter]
    refine (hcall φ H w k args args' v H' E ha hc).mono ?_
    rintro e w' ⟨v', φ', rfl, hv, hE, hK⟩
    exact hnext v' φ' w' hv hE (hK.mono fun b hb => .inr hb)

theorem opOk_dst {N : Nat} {o : Oper} (h : opOk N o = true) : ∀ t, o.dst = some t → t < N := by
  intro t ht
  simp only [opOk, Bool.and_eq_true, ht] at h
  simpa using h.2

/-- OPERATIONS ONE BEHIND THE OTHER -/
theorem ops_wp {call : CallA} (hcall : CallOk P w0 call) {N : Nat} {ops : Array Oper} (hok : ∀ o ∈ ops.toList, opOk N o = true) {Q : Exit → Act → World → Prop} :
    ∀ (os : List Oper) (k nm : Nat) (T : Tmps) (H : AH) (a : Act) (w : World) (φ : Ren) (T' : Tmps) (H' : AH), os = ops.toList.drop k → aOps P w0 call ops os nm T H = some (T', H') → TRel φ T a N → Emb P w0 φ H w →
      (∀ b, nm ≤ b → b < nm + os.length → φ b = none ∧ b < H.next) →
      (∀ φ' a' w', TRel φ' T' a' N → Emb P w0 φ' H' w' → Keeps (fun b => (nm ≤ b ∧ b < nm + os.length) ∨ (H.next ≤ b ∧ b < H'.next)) φ H w φ' H' w' → Q .normal a' w') →
      wpOps P ops Q (List.range' k os.length) a w
  | [], k, nm, T, H, a, w, φ, T', H', hos, h, hT, E, hfree, hQ => by
    simp only [aOps, Option.some.injEq, Prod.mk.injEq] at h
    obtain ⟨rfl, rfl⟩ := h
    exact hQ φ a w hT E (Keeps.refl _ _ _ _)
  | o :: os, k, nm, T, H, a, w, φ, T', H', hos, h, hT, E, hfree, hQ => by
    have hk : ops[k]? = some o := by
      have : (ops.toList.drop k)[0]? = some o := by rw [← hos]; rfl
      simpa using this
    have hmem : o ∈ ops.toList := by
      have : o ∈ ops.toList.drop k := by rw [← hos]; simp
      exact List.mem_of_mem_drop this
    have hos' : os = ops.toList.drop (k + 1) := by
      have : (ops.toList.drop k).tail = os := by rw [← hos]; rfl
      rw [← this, List.tail_drop]
    simp only [List.length_cons, List.range'_succ, wpOps, hk, hT.wanted]
    simp only [aOps] at h
    obtain ⟨hfr, hltn⟩ := hfree nm (Nat.le_refl _) (by simp)
    cases hw : wantedT o ops T with
    | false =>
      rw [hw] at h
      simp only [cond_false] at h
      simp only [Bool.false_eq_true, if_false]
      refine ops_wp hcall hok os (k + 1) (nm + 1) _ H _ w φ T' H' hos' h (hT.put (opOk_dst (hok o hmem)) (VRel.undef φ)) E (fun b h1 h2 => hfree b (by omega) (by simp; omega)) ?_
      intro φ' a' w' h1 h2 h3
      refine hQ φ' a' w' h1 h2 (h3.mono fun b hb => ?_)
      rcases hb with hb | hb
      · exact .inl ⟨by omega, by simp; omega⟩
      · exact .inr hb
    | true =>
      rw [hw] at h
      simp only [cond_true] at h
      simp only [if_true]
      refine .inl ?_
      cases hop : aOp P w0 call nm o T H with
      | none => rw [hop] at h; simp at h
      | some r =>
        obtain ⟨v, H1⟩ := r
        rw [hop] at h
        simp only at h
        refine op_wp hcall E hfr hltn hT (hok o hmem) hop ?_
        intro v' φ1 w1 hv hE1 hK1
        refine ops_wp hcall hok os (k + 1) (nm + 1) _ H1 _ w1 φ1 T' H' hos' h ((hT.mono hK1.ext).put (opOk_dst (hok o hmem)) hv) hE1 ?_ ?_
        · intro b h1 h2
          obtain ⟨hb, hbl⟩ := hfree b (by omega) (by simp; omega)
          refine ⟨?_, Nat.lt_of_lt_of_le hbl hK1.next⟩
          cases hb1 : φ1 b with
          | none => rfl
          | some i =>
            rcases hK1.dom b hb (by rw [hb1]; simp) with e | ⟨e, _⟩
            · omega
            · omega
        · intro φ' a' w' h1 h2 h3
          refine hQ φ' a' w' h1 h2 ((hK1.mono fun b hb => ?_).trans (h3.mono fun b hb => ?_))
          · rcases hb with hb | hb
            · exact .inl ⟨by omega, by simp; omega⟩
            · exact .inr ⟨hb.1, Nat.lt_of_lt_of_le hb.2 h3.next⟩
          · rcases hb with hb | hb
            · exact .inl ⟨by omega, by simp; omega⟩
            · exact .inr ⟨Nat.le_trans hK1.next hb.1, hb.2⟩

end Go.Sim
