/-
  Code and functions: the determinate reading holds.
-/
import Derived.Test.YtlacidogpdbpgaaGreatSimV
namespace Go.Sim
open Go
open Go.RowKit (Below)
set_option linter.unusedSimpArgs false
set_option linter.unusedVariables false

variable {P : Program} {w0 : World} {call : CallA}

/-- within a scope -/
def scopeWp (P : Program) (body c : Code) (Q : Exit → Act → World → Prop) (a : Act) (w : World) : Prop :=
  ∀ (b : Frame) (k : List Item) (cs : List Frame), ∃ e a' w', Q e a' w' ∧ Arrives P (lone (b.at a (.code c :: .inScope body :: k)) cs w) b k cs e a' w'

/-- within a loop -/
def loopWp (P : Program) (c : Code) (Q : Exit → Act → World → Prop) (a : Act) (w : World) : Prop :=
  ∀ (b : Frame) (k : List Item) (cs : List Frame), ∃ e a' w', Q e a' w' ∧ Arrives P (lone (b.at a (.code c :: .inLoop c :: k)) cs w) b k cs e a' w'

theorem wp_of_scope {body : Code} {Q : Exit → Act → World → Prop} {a : Act} {w : World} (h : scopeWp P body body Q a w) : (Code.scope body).wp P Q a w := by
  intro b k cs
  obtain ⟨e, a', w', hq, harr⟩ := h b k cs
  exact ⟨e, a', w', hq, .of_steps (.one step_scope) harr⟩

theorem wp_of_loop {c : Code} {Q : Exit → Act → World → Prop} {a : Act} {w : World} (h : loopWp P c Q a w) : (Code.loop c).wp P Q a w := by
  intro b k cs
  obtain ⟨e, a', w', hq, harr⟩ := h b k cs
  exact ⟨e, a', w', hq, .of_steps (.one step_loop) harr⟩

theorem loopWp_intro {c : Code} {Q : Exit → Act → World → Prop} {a : Act} {w : World} (h : c.wp P (Exit.then (loopWp P c Q) Q) a w) : loopWp P c Q a w := by
  intro b k cs
  obtain ⟨e, a₁, w₁, hq, harr⟩ := h b (.inLoop c :: k) cs
  cases e with
  | normal =>
    obtain ⟨e₂, a₂, w₂, hq₂, harr₂⟩ := hq b k cs
    exact ⟨e₂, a₂, w₂, hq₂, .of_steps (Steps.trans harr (.one step_inLoop)) harr₂⟩
  | exit id => exact ⟨_, a₁, w₁, hq, .pass (x := .inLoop c) rfl (fun _ _ => .inl (by simp)) harr⟩
  | goto l => exact ⟨_, a₁, w₁, hq, .pass (x := .inLoop c) rfl (fun _ _ => .inl (by simp)) harr⟩
  | ret => exact ⟨_, a₁, w₁, hq, .pass (x := .inLoop c) rfl (fun _ _ => .inl (by simp)) harr⟩
  | panic ch => exact ⟨_, a₁, w₁, hq, .pass (x := .inLoop c) rfl (fun _ _ => .inl (by simp)) harr⟩
  | outgrown => exact ⟨_, a₁, w₁, hq, .pass (x := .inLoop c) rfl (fun _ _ => .inl (by simp)) harr⟩

/-- by a goto: on within the scope, if the label stands there -/
def jumpQ (P : Program) (body : Code) (Q : Exit → Act → World → Prop) : Exit → Act → World → Prop
  | .goto l, a, w => match findLabel body l with
    | some rest => scopeWp P body rest Q a w
    | none => Q (.goto l) a w
  | e, a, w => Q e a w

theorem scopeWp_intro {body c : Code} {Q : Exit → Act → World → Prop} {a : Act} {w : World} (h : c.wp P (jumpQ P body Q) a w) : scopeWp P body c Q a w := by
  intro b k cs
  obtain ⟨e, a₁, w₁, hq, harr⟩ := h b (.inScope body :: k) cs
  cases e with
  | normal => exact ⟨.normal, a₁, w₁, hq, Steps.trans harr (.one step_inScope)⟩
  | exit id => exact ⟨.exit id, a₁, w₁, hq, fun k' hk => harr k' (by simp [exitTo, hk])⟩
  | goto l =>
    simp only [jumpQ] at hq
    cases hf : findLabel body l with
    | none =>
      rw [hf] at hq
      exact ⟨.goto l, a₁, w₁, hq, fun k' hk => harr k' (by simp [gotoIn, hf, hk])⟩
    | some rest =>
      rw [hf] at hq
      obtain ⟨e₂, a₂, w₂, hq₂, harr₂⟩ := hq b k cs
      exact ⟨e₂, a₂, w₂, hq₂, .of_steps (harr _ (by simp [gotoIn, hf])) harr₂⟩
  | ret => exact ⟨_, a₁, w₁, hq, harr⟩
  | panic ch => exact ⟨_, a₁, w₁, hq, harr⟩
  | outgrown => exact ⟨_, a₁, w₁, hq, harr⟩

def toExit : Ex → Exit
  | .normal => .normal
  | .exit id => .exit id
  | .goto l => .goto l
  | .ret => .ret

def Good (P : Program) (sc : Option Code) (c : Code) (Q : Exit → Act → World → Prop) (a : Act) (w : World) : Prop :=
  match sc with
  | some body => scopeWp P body c Q a w
  | none => c.wp P Q a w ∧ ∀ body, c = .loop body → loopWp P body Q a w

theorem good_of_wp {c : Code} {Q : Exit → Act → World → Prop} {a : Act} {w : World} (h : c.wp P Q a w) (hn : ∀ body, c ≠ .loop body) : Good P none c Q a w := ⟨h, fun body e => absurd e (hn body)⟩

theorem label_ok {N : Nat} : ∀ {c rest : Code} {l : Nat}, codeOk N c = true → findLabel c l = some rest → codeOk N rest = true
  | .seq a b, rest, l, hc, h => by
    simp only [codeOk, Bool.and_eq_true] at hc
    simp only [findLabel] at h
    cases ha : findLabel a l with
    | some r =>
      rw [ha] at h
      simp only [Option.some.injEq] at h
      subst h
      simp only [codeOk, Bool.and_eq_true]
      exact ⟨label_ok hc.1 ha, hc.2⟩
    | none =>
      rw [ha] at h
      exact label_ok hc.2 h
  | .label l', rest, l, _, h => by
    simp only [findLabel] at h
    split at h
    · cases h; rfl
    · cases h
  | .skip, _, _, _, h | .region .., _, _, _, h | .cond .., _, _, _, h | .block .., _, _, _, h | .loop _, _, _, _, h | .rangeFunc .., _, _, _, h | .exit _, _, _, _, h | .scope _, _, _, _, h
  | .goto _, _, _, _, h | .ret, _, _, _, h | .refuse _, _, _, _, h => by simp [findLabel] at h

/-- names that a piece of code lays -/
def Between (H H' : AH) (b : Nat) : Prop := H.next ≤ b ∧ b < H'.next

theorem keeps_seq {φ φ' φ'' : Ren} {H H' H'' : AH} {w w' w'' : World} (k : Keeps (Between H H') φ H w φ' H' w') (l : Keeps (Between H' H'') φ' H' w' φ'' H'' w'') : Keeps (Between H H'') φ H w φ'' H'' w'' :=
  (k.mono fun b hb => ⟨hb.1, Nat.lt_of_lt_of_le hb.2 l.next⟩).trans (l.mono fun b hb => ⟨Nat.le_trans k.next hb.1, hb.2⟩)

/-- CODE -/
theorem code_wp (hcall : CallOk P w0 call) (hmix : P.follows .mixedOrders = true) {N : Nat} : ∀ (n : Nat) (sc : Option Code) (c : Code) (T : Tmps) (H : AH) (ex : Ex) (T' : Tmps) (H' : AH) (a : Act) (w : World) (φ : Ren) (Q : Exit → Act → World → Prop),
    aCode P w0 call n sc c T H = some (ex, T', H') → codeOk N c = true → (∀ body, sc = some body → codeOk N body = true) → TRel φ T a N → Emb P w0 φ H w →
    (∀ φ' a' w', TRel φ' T' a' N → Emb P w0 φ' H' w' → Keeps (Between H H') φ H w φ' H' w' → Q (toExit ex) a' w') → Good P sc c Q a w := by
  intro n
  induction n with
  | zero => intro sc c T H ex T' H' a w φ Q h; simp [aCode] at h
  | succ n ih =>
    intro sc c T H ex T' H' a w φ Q h hc hsc hT E hQ
    cases sc with
    | some body =>
      simp only [aCode] at h
      refine scopeWp_intro ?_
      have hbody := hsc body rfl
      cases hr : aCode P w0 call n none c T H with
      | none => rw [hr] at h; simp at h
      | some r =>
        obtain ⟨ex1, T1, H1⟩ := r
        rw [hr] at h
        refine (ih none c T H ex1 T1 H1 a w φ _ hr hc (fun _ e => by cases e) hT E ?_).1
        intro φ1 a1 w1 t1 e1 k1
        cases ex1 with
        | goto l =>
          simp only at h
          simp only [toExit, jumpQ]
          cases hf : findLabel body l with
          | none =>
            rw [hf] at h
            simp only [Option.some.injEq, Prod.mk.injEq] at h
            obtain ⟨rfl, rfl, rfl⟩ := h
            exact hQ φ1 a1 w1 t1 e1 k1
          | some rest =>
            rw [hf] at h
            exact ih (some body) rest T1 H1 ex T' H' a1 w1 φ1 Q h (label_ok hbody hf) (fun b e => by cases e; exact hbody) t1 e1 (fun φ2 a2 w2 t2 e2 k2 => hQ φ2 a2 w2 t2 e2 (keeps_seq k1 k2))
        | normal =>
          simp only [Option.some.injEq, Prod.mk.injEq] at h
          obtain ⟨rfl, rfl, rfl⟩ := h
          exact hQ φ1 a1 w1 t1 e1 k1
        | exit id =>
          simp only [Option.some.injEq, Prod.mk.injEq] at h
          obtain ⟨rfl, rfl, rfl⟩ := h
          exact hQ φ1 a1 w1 t1 e1 k1
        | ret =>
          simp only [Option.some.injEq, Prod.mk.injEq] at h
          obtain ⟨rfl, rfl, rfl⟩ := h
          exact hQ φ1 a1 w1 t1 e1 k1
    | none =>
      cases c with
      | skip =>
        simp only [aCode, Option.some.injEq, Prod.mk.injEq] at h
        obtain ⟨rfl, rfl, rfl⟩ := h
        exact good_of_wp (wp_skip (hQ φ a w hT E (Keeps.refl _ _ _ _))) (fun _ e => by cases e)
      | label l =>
        simp only [aCode, Option.some.injEq, Prod.mk.injEq] at h
        obtain ⟨rfl, rfl, rfl⟩ := h
        exact good_of_wp (wp_label (hQ φ a w hT E (Keeps.refl _ _ _ _))) (fun _ e => by cases e)
      | region id ops draw =>
        simp only [aCode, Option.map_eq_some_iff, Prod.mk.injEq] at h
        obtain ⟨⟨T1, H1⟩, hr, rfl, h2⟩ := h
        simp only [Prod.mk.injEq] at h2
        obtain ⟨rfl, rfl⟩ := h2
        refine good_of_wp (region_wp hcall hmix (fun o ho => ?_) hr hT E hQ) (fun _ e => by cases e)
        simp only [codeOk] at hc
        exact List.all_eq_true.1 hc o ho
      | seq x y =>
        simp only [codeOk, Bool.and_eq_true] at hc
        simp only [aCode] at h
        refine good_of_wp (wp_seq ?_) (fun _ e => by cases e)
        cases hr : aCode P w0 call n none x T H with
        | none => rw [hr] at h; simp at h
        | some r =>
          obtain ⟨ex1, T1, H1⟩ := r
          rw [hr] at h
          refine (ih none x T H ex1 T1 H1 a w φ _ hr hc.1 (fun _ e => by cases e) hT E ?_).1
          intro φ1 a1 w1 t1 e1 k1
          cases ex1 with
          | normal =>
            simp only at h
            exact (ih none y T1 H1 ex T' H' a1 w1 φ1 Q h hc.2 (fun _ e => by cases e) t1 e1 (fun φ2 a2 w2 t2 e2 k2 => hQ φ2 a2 w2 t2 e2 (keeps_seq k1 k2))).1
          | goto l =>
            simp only [Option.some.injEq, Prod.mk.injEq] at h
            obtain ⟨rfl, rfl, rfl⟩ := h
            exact hQ φ1 a1 w1 t1 e1 k1
          | exit id =>
            simp only [Option.some.injEq, Prod.mk.injEq] at h
            obtain ⟨rfl, rfl, rfl⟩ := h
            exact hQ φ1 a1 w1 t1 e1 k1
          | ret =>
            simp only [Option.some.injEq, Prod.mk.injEq] at h
            obtain ⟨rfl, rfl, rfl⟩ := h
            exact hQ φ1 a1 w1 t1 e1 k1
      | cond c x y =>
        simp only [codeOk, Bool.and_eq_true] at hc
        simp only [aCode] at h
        refine good_of_wp ?_ (fun _ e => by cases e)
        have hr := hT.ev hc.1.1
        split at h
        · rename_i tt htt
          rw [htt] at hr
          have hv : a.eval c = .bool tt := by generalize a.eval c = z at hr; cases hr; rfl
          refine wp_cond hv ?_
          cases tt with
          | true => exact (ih none x T H ex T' H' a w φ Q h hc.1.2 (fun _ e => by cases e) hT E hQ).1
          | false => exact (ih none y T H ex T' H' a w φ Q h hc.2 (fun _ e => by cases e) hT E hQ).1
        · simp at h
      | block id body =>
        simp only [codeOk] at hc
        simp only [aCode] at h
        refine good_of_wp (wp_block ?_) (fun _ e => by cases e)
        cases hr : aCode P w0 call n none body T H with
        | none => rw [hr] at h; simp at h
        | some r =>
          obtain ⟨ex1, T1, H1⟩ := r
          rw [hr] at h
          refine (ih none body T H ex1 T1 H1 a w φ _ hr hc (fun _ e => by cases e) hT E ?_).1
          intro φ1 a1 w1 t1 e1 k1
          cases ex1 with
          | exit i =>
            simp only at h
            simp only [toExit, Exit.inBlock]
            by_cases hid : i = id
            · subst hid
              simp only [Nat.beq_refl, cond_true, Option.some.injEq, Prod.mk.injEq] at h
              obtain ⟨rfl, rfl, rfl⟩ := h
              rw [if_pos rfl]
              exact hQ φ1 a1 w1 t1 e1 k1
            · rw [nbeq hid] at h
              simp only [cond_false, Option.some.injEq, Prod.mk.injEq] at h
              obtain ⟨rfl, rfl, rfl⟩ := h
              rw [if_neg hid]
              exact hQ φ1 a1 w1 t1 e1 k1
          | normal =>
            simp only [Option.some.injEq, Prod.mk.injEq] at h
            obtain ⟨rfl, rfl, rfl⟩ := h
            exact hQ φ1 a1 w1 t1 e1 k1
          | goto l =>
            simp only [Option.some.injEq, Prod.mk.injEq] at h
            obtain ⟨rfl, rfl, rfl⟩ := h
            exact hQ φ1 a1 w1 t1 e1 k1
          | ret =>
            simp only [Option.some.injEq, Prod.mk.injEq] at h
            obtain ⟨rfl, rfl, rfl⟩ := h
            exact hQ φ1 a1 w1 t1 e1 k1
      | loop body =>
        have hcb : codeOk N body = true := by simpa only [codeOk] using hc
        simp only [aCode] at h
        have key : loopWp P body Q a w := by
          refine loopWp_intro ?_
          cases hr : aCode P w0 call n none body T H with
          | none => rw [hr] at h; simp at h
          | some r =>
            obtain ⟨ex1, T1, H1⟩ := r
            rw [hr] at h
            refine (ih none body T H ex1 T1 H1 a w φ _ hr hcb (fun _ e => by cases e) hT E ?_).1
            intro φ1 a1 w1 t1 e1 k1
            cases ex1 with
            | normal =>
              simp only at h
              exact (ih none (.loop body) T1 H1 ex T' H' a1 w1 φ1 Q h hc (fun _ e => by cases e) t1 e1 (fun φ2 a2 w2 t2 e2 k2 => hQ φ2 a2 w2 t2 e2 (keeps_seq k1 k2))).2 body rfl
            | goto l =>
              simp only [Option.some.injEq, Prod.mk.injEq] at h
              obtain ⟨rfl, rfl, rfl⟩ := h
              exact hQ φ1 a1 w1 t1 e1 k1
            | exit id =>
              simp only [Option.some.injEq, Prod.mk.injEq] at h
              obtain ⟨rfl, rfl, rfl⟩ := h
              exact hQ φ1 a1 w1 t1 e1 k1
            | ret =>
              simp only [Option.some.injEq, Prod.mk.injEq] at h
              obtain ⟨rfl, rfl, rfl⟩ := h
              exact hQ φ1 a1 w1 t1 e1 k1
        exact ⟨wp_of_loop key, fun b e => by cases e; exact key⟩
      | exit id =>
        simp only [aCode, Option.some.injEq, Prod.mk.injEq] at h
        obtain ⟨rfl, rfl, rfl⟩ := h
        exact good_of_wp (wp_exit (hQ φ a w hT E (Keeps.refl _ _ _ _))) (fun _ e => by cases e)
      | scope body =>
        have hcb : codeOk N body = true := by simpa only [codeOk] using hc
        simp only [aCode] at h
        exact good_of_wp (wp_of_scope (ih (some body) body T H ex T' H' a w φ Q h hcb (fun b e => by cases e; exact hcb) hT E hQ)) (fun _ e => by cases e)
      | goto l =>
        simp only [aCode, Option.some.injEq, Prod.mk.injEq] at h
        obtain ⟨rfl, rfl, rfl⟩ := h
        exact good_of_wp (wp_goto (hQ φ a w hT E (Keeps.refl _ _ _ _))) (fun _ e => by cases e)
      | ret =>
        simp only [aCode, Option.some.injEq, Prod.mk.injEq] at h
        obtain ⟨rfl, rfl, rfl⟩ := h
        exact good_of_wp (wp_ret (hQ φ a w hT E (Keeps.refl _ _ _ _))) (fun _ e => by cases e)
      | rangeFunc f ps x y => simp [aCode] at h
      | refuse why => simp [aCode] at h

theorem argsT_get : ∀ (vs : List Value) (i : Nat) (T : Tmps) (t : Nat), (argsT vs i T).get t = if i ≤ t ∧ t < i + vs.length then vs[t - i]? else T.get t
  | [], i, T, t => by
    simp only [argsT, List.length_nil, Nat.add_zero]
    rw [if_neg (by omega)]
  | v :: vs, i, T, t => by
    simp only [argsT, argsT_get vs (i + 1), Trie.get_set, List.length_cons]
    by_cases h1 : t = i
    · subst h1
      rw [if_neg (by omega), if_pos rfl, if_pos (by omega), Nat.sub_self]
      rfl
    · by_cases h2 : i + 1 ≤ t ∧ t < i + 1 + vs.length
      · rw [if_pos h2, if_pos (by omega), show t - i = (t - (i + 1)) + 1 by omega]
        rfl
      · rw [if_neg h2, if_neg h1, if_neg (by omega)]

/-- a result, read in the world -/
def resF (a : Act) : ResultVar → Sem Value
  | .tmp t => pure (a.tmps.getD t undef)
  | .cell x t => do loadVar t (← asAddr (a.tmps.getD x undef))

theorem aResults_spec {φ : Ren} {H : AH} {w : World} {T : Tmps} {a : Act} {N : Nat} (E : Emb P w0 φ H w) (hT : TRel φ T a N) : ∀ (rs : List ResultVar) (vs : List Value), aResults P w0 T H rs = some vs →
    ∃ vs', (rs.mapM (resF a)).run P w = .ok vs' w ∧ VRels φ vs vs'
  | [], vs, h => by
    simp only [aResults, Option.some.injEq] at h
    subst h
    exact ⟨[], rfl, VRels.nil⟩
  | r :: rs, vs, h => by
    simp only [aResults] at h
    cases h1 : aResult P w0 T H r with
    | none => rw [h1] at h; simp at h
    | some v =>
      cases h2 : aResults P w0 T H rs with
      | none => rw [h1, h2] at h; simp at h
      | some us =>
        rw [h1, h2] at h
        simp only [Option.some.injEq] at h
        subst h
        obtain ⟨us', r1, r2⟩ := aResults_spec E hT rs us h2
        have key : ∃ v', (resF a r).run P w = .ok v' w ∧ VRel φ v v' := by
          cases r with
          | tmp t =>
            simp only [aResult, Option.some.injEq] at h1
            subst h1
            exact ⟨_, rfl, hT.rel t⟩
          | cell x t =>
            simp only [aResult] at h1
            have hx := hT.rel x
            obtain ⟨v', q1, q2⟩ := aLoad_spec E hx h1
            refine ⟨v', ?_, q2⟩
            unfold aLoad at h1
            split at h1
            · rename_i ad hp
              rw [hp] at hx
              obtain ⟨ad', e1, _⟩ := hx.inv_ptr
              have hA : (asAddr (a.tmps.getD x undef)).run P w = .ok ad' w := by rw [e1]; rfl
              rw [e1] at q1
              simp only [Instr.loadAt, Sem.run_bind, Instr.sureAddr, Sem.run_pure, Result.andThen_ok] at q1
              simp only [resF, Sem.run_bind, hA, Result.andThen_ok, q1]
            · simp at h1
        obtain ⟨v', q1, q2⟩ := key
        refine ⟨v' :: us', ?_, VRels.cons q2 r2⟩
        rw [List.mapM_cons]
        simp only [Sem.run_bind, Sem.run_pure]
        rw [q1]
        simp only [Result.andThen_ok]
        rw [r1]
        rfl

theorem results_run {φ : Ren} {H : AH} {w : World} {T : Tmps} {a : Act} {N : Nat} (E : Emb P w0 φ H w) (hT : TRel φ T a N) {fn : Func} {vs : List Value} (h : aResults P w0 T H fn.results.toList = some vs) :
    ∃ v', (results fn a.tmps).run P w = .ok v' w ∧ VRel φ (packed vs) v' := by
  obtain ⟨vs', h1, h2⟩ := aResults_spec E hT _ _ h
  have hm : (fn.results.mapM (resF a)).run P w = .ok ⟨vs'⟩ w := by
    rw [Array.mapM_eq_mapM_toList, Sem.run_map, h1]
    rfl
  have hres : results fn a.tmps = (do
      let vs ← fn.results.mapM (resF a)
      pure (if h : vs.size = 1 then vs[0] else .tuple vs)) := by
    unfold results
    congr 1
  rw [hres]
  simp only [Sem.run_bind, hm, Result.andThen_ok, Sem.run_pure]
  cases h2' : vs with
  | nil =>
    subst h2'
    have := h2.inv_nil
    subst this
    exact ⟨_, rfl, .tuple' VRels.nil⟩
  | cons v us =>
    subst h2'
    obtain ⟨v', us', rfl, q1, q2⟩ := h2.inv_cons
    cases us with
    | nil =>
      have := q2.inv_nil
      subst this
      exact ⟨_, rfl, q1⟩
    | cons u us =>
      obtain ⟨u', us2, rfl, q3, q4⟩ := q2.inv_cons
      refine ⟨.tuple ⟨v' :: u' :: us2⟩, ?_, .tuple' h2⟩
      simp

/-- what a given function is known to answer: the value, memory as it was -/
def PrimsOk (P : Program) (pr : Prims) : Prop :=
  ∀ (f : FuncId) (args : List Value) (v : Value), pr f args = some v → (groundL args = true ∧ ground v = true) ∧ ∀ w, Calls P f ⟨args⟩ w fun e w' => e = .returned v ∧ Below w.heap.size w w'

theorem below_emb {φ : Ren} {H : AH} {w w' : World} (E : Emb P w0 φ H w) (h : Below w.heap.size w w') : Emb P w0 φ H w' :=
  ⟨E.bound, E.inj, E.base, fun c hc => by rw [h.block c (Nat.lt_of_lt_of_le hc E.w0_le), E.old c hc], fun b i x hb hg => (E.holds b i x hb hg).mono φ.le_refl (h.block _ (E.holds b i x hb hg).lt)⟩

theorem below_keeps {S : Nat → Prop} {φ : Ren} {H : AH} {w w' : World} (h : Below w.heap.size w w') : Keeps S φ H w φ H w' :=
  ⟨φ.le_refl, fun b hb hb' => absurd hb hb', Nat.le_refl _, h.size, fun c hc _ => h.block c hc, fun b i hb hg => .inl ⟨b, i, hb, hg, rfl⟩, h.tape, h.os, h.output⟩

/-- FUNCTIONS -/
theorem fn_ok (hmix : P.follows .mixedOrders = true) {pr : Prims} (hpr : PrimsOk P pr) (K : Nat) : ∀ n, CallOk P w0 (aFn P pr w0 K n)
  | 0 => fun φ H w k args args' v H' E ha h => by simp [aFn] at h
  | n + 1 => fun φ H w k args args' v H' E ha h => by
    simp only [aFn] at h
    split at h
    · rename_i u hu
      simp only [Option.some.injEq, Prod.mk.injEq] at h
      obtain ⟨rfl, rfl⟩ := h
      obtain ⟨⟨g1, g2⟩, hc⟩ := hpr k args u hu
      rw [groundL_eq φ args args' g1 ha]
      refine (hc w).mono ?_
      rintro e w' ⟨rfl, hb⟩
      exact ⟨u, φ, rfl, ground_rel φ u g2, below_emb E hb, below_keeps hb⟩
    · split at h
      · simp at h
      · rename_i fn hfn
        split at h
        · simp at h
        · rename_i c hbody
          cases hok : (fnOk fn && Nat.ble args.length fn.ntmps) with
          | false => rw [hok] at h; simp at h
          | true =>
            rw [hok] at h
            simp only [cond_true] at h
            simp only [Bool.and_eq_true] at hok
            have hlen := Nat.le_of_ble_eq_true hok.2
            have hcode : codeOk fn.ntmps c = true := by
              have := hok.1
              unfold fnOk at this
              rw [hbody] at this
              exact this
            have hT : TRel φ (argsT args 0 .leaf) { tmps := (⟨args'⟩ : Array Value) ++ Array.replicate (fn.ntmps - (⟨args'⟩ : Array Value).size) undef, defers := [] } fn.ntmps := by
              have hl := rel_length ha
              refine ⟨by simp; omega, fun d => ?_, rfl⟩
              rw [argsT_get, Array.getD_eq_getD_getElem?, Array.getElem?_append]
              simp only [Nat.zero_le, true_and, Nat.zero_add, Nat.sub_zero]
              by_cases hd : d < args.length
              · rw [if_pos hd, if_pos (by simp; omega)]
                have hx : args[d]? = some args[d] := List.getElem?_eq_getElem hd
                obtain ⟨y, hy, hr⟩ := ha.get hx
                rw [hx]
                simp only [Option.getD_some]
                have : (⟨args'⟩ : Array Value)[d]? = some y := by simpa using hy
                rw [this]
                exact hr
              · rw [if_neg hd, if_neg (by simp; omega), Array.getElem?_replicate]
                split <;> exact VRel.undef φ
            refine calls_of_wp hfn hbody ?_
            cases hrun : aCode P w0 (aFn P pr w0 K n) K none c (argsT args 0 .leaf) H with
            | none => rw [hrun] at h; simp at h
            | some r =>
              obtain ⟨ex, T', H2⟩ := r
              rw [hrun] at h
              refine (code_wp (fn_ok hmix hpr K n) hmix K none c _ H ex T' H2 _ w φ _ hrun hcode (fun _ e => by cases e) hT E ?_).1
              intro φ' a' w' t1 e1 k1
              cases ex with
              | normal =>
                simp only [Option.map_eq_some_iff, Prod.mk.injEq] at h
                obtain ⟨vs, hv, rfl, rfl⟩ := h
                obtain ⟨v', q1, q2⟩ := results_run e1 t1 hv
                exact ⟨t1.defers, v', q1, v', φ', rfl, q2, e1, k1⟩
              | ret =>
                simp only [Option.map_eq_some_iff, Prod.mk.injEq] at h
                obtain ⟨vs, hv, rfl, rfl⟩ := h
                obtain ⟨v', q1, q2⟩ := results_run e1 t1 hv
                exact ⟨t1.defers, v', q1, v', φ', rfl, q2, e1, k1⟩
              | exit id => simp at h
              | goto l => simp at h

/-- THE READING HOLDS: a call whose answer is a ground value -/
theorem sim_calls (hmix : P.follows .mixedOrders = true) {pr : Prims} (hpr : PrimsOk P pr) {K n : Nat} {f : FuncId} {args : List Value} {v : Value} {H' : AH} {w : World} (ha : ∀ φ : Ren, VRels φ args args)
    (hv : ground v = true) (h : aFn P pr w K n f args ⟨0, .leaf⟩ = some (v, H')) : Calls P f ⟨args⟩ w fun e w' => e = .returned v ∧ Below w.heap.size w w' := by
  have E : Emb P w (fun _ => none) ⟨0, .leaf⟩ w := ⟨fun b i h => (by cases h), fun b c i j h => (by cases h), fun b i h => (by cases h), fun c _ => rfl, fun b i x h => (by cases h)⟩
  refine (fn_ok hmix hpr K n _ _ w f args args v H' E (ha _) h).mono ?_
  rintro e w' ⟨v', φ', rfl, hr, hE, hK⟩
  refine ⟨by rw [ground_eq φ' v v' hv hr], ⟨hK.os, hK.tape, hK.output, hK.size, fun c hc => hE.old c hc⟩⟩

end Go.Sim
