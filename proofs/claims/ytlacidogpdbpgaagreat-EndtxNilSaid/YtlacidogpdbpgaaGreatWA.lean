/-
  More knowledge of what calls answer, and more rounds, change no answer that is there.
-/
import Derived.Test.YtlacidogpdbpgaaGreatSimW
namespace Go.Sim
open Go
open Go.RowKit (Below)
set_option linter.unusedSimpArgs false
set_option linter.unusedVariables false

/-- what the one answers the other one answers, too -/
def CallLe (c d : CallA) : Prop := ∀ f a H r, c f a H = some r → d f a H = some r

theorem CallLe.refl (c : CallA) : CallLe c c := fun _ _ _ _ h => h

section
variable {P : Program} {w0 : World} {c d : CallA}

theorem aCall_mono (h : CallLe c d) {k : Call} {ρ : Operand → Value} {nm : Nat} {o : Oper} {H : AH} {r : Value × AH} (e : aCall P w0 c k ρ nm o H = some r) : aCall P w0 d k ρ nm o H = some r := by
  unfold aCall at e ⊢
  cases hk : k.callee with
  | value f =>
    simp only [hk] at e ⊢
    generalize ρ f = x at e ⊢
    split at e
    · rename_i g first cap
      cases hg : goesInto P g with
      | false => rw [hg] at e; cases e
      | true => rw [hg] at e; exact h _ _ _ _ e
    · cases e
  | invoke x nm' =>
    simp only [hk] at e ⊢
    cases hm : methodA P (ρ x) nm' with
    | none => rw [hm] at e; cases e
    | some q =>
      obtain ⟨f, v⟩ := q
      rw [hm] at e
      simp only at e ⊢
      cases hg : goesInto P f with
      | false => rw [hg] at e; cases e
      | true => rw [hg] at e; exact h _ _ _ _ e
  | builtin b =>
    simp only [hk] at e ⊢
    exact e

theorem aOp_mono (h : CallLe c d) {nm : Nat} {o : Oper} {T : Tmps} {H : AH} {r : Value × AH} (e : aOp P w0 c nm o T H = some r) : aOp P w0 d nm o T H = some r := by
  unfold aOp at e ⊢
  cases hop : o.op
  case call k =>
    simp only [hop] at e ⊢
    exact aCall_mono h e
  case makeFunc fn x y =>
    cases fn <;> simp only [hop] at e ⊢ <;> exact e
  all_goals
    simp only [hop] at e ⊢
    exact e

theorem aOps_mono (h : CallLe c d) {ops : Array Oper} : ∀ (os : List Oper) (nm : Nat) (T : Tmps) (H : AH) (r : Tmps × AH), aOps P w0 c ops os nm T H = some r → aOps P w0 d ops os nm T H = some r
  | [], _, _, _, _, e => e
  | o :: os, nm, T, H, r, e => by
    simp only [aOps] at e ⊢
    cases hw : wantedT o ops T with
    | false => rw [hw] at e; exact aOps_mono h os _ _ _ r e
    | true =>
      rw [hw] at e
      simp only [cond_true] at e ⊢
      cases ho : aOp P w0 c nm o T H with
      | none => rw [ho] at e; cases e
      | some q =>
        rw [ho] at e
        rw [aOp_mono h ho]
        exact aOps_mono h os _ _ _ r e

theorem aTrace_mono (h : CallLe c d) {ops : Array Oper} : ∀ (os : List Oper) (nm : Nat) (T : Tmps) (H : AH) (r : List Rec × Tmps × AH), aTrace P w0 c ops os nm T H = some r → aTrace P w0 d ops os nm T H = some r
  | [], _, _, _, _, e => e
  | o :: os, nm, T, H, r, e => by
    simp only [aTrace] at e ⊢
    cases hw : wantedT o ops T with
    | false =>
      rw [hw] at e
      simp only [cond_false, Option.map_eq_some_iff] at e ⊢
      obtain ⟨q, hq, rfl⟩ := e
      exact ⟨q, aTrace_mono h os _ _ _ q hq, rfl⟩
    | true =>
      rw [hw] at e
      simp only [cond_true] at e ⊢
      cases hn : nameOk P o nm H with
      | false => rw [hn] at e; cases e
      | true =>
        rw [hn] at e
        simp only [cond_true] at e ⊢
        cases ho : aOp P w0 c nm o T H with
        | none => rw [ho] at e; cases e
        | some q =>
          rw [ho] at e
          rw [aOp_mono h ho]
          simp only [Option.map_eq_some_iff] at e ⊢
          obtain ⟨q', hq, rfl⟩ := e
          exact ⟨q', aTrace_mono h os _ _ _ q' hq, rfl⟩

theorem again_mono (h : CallLe c d) {r : Rec} {H : AH} (e : again P w0 c r H = true) : again P w0 d r H = true := by
  unfold again at e ⊢
  cases ho : aOp P w0 c r.nm r.o r.T H with
  | none => rw [ho] at e; cases e
  | some q => rw [ho] at e; rw [aOp_mono h ho]; exact e

theorem meddleNot_mono (h : CallLe c d) {x y : Rec} (e : meddleNot P w0 c x y = true) : meddleNot P w0 d x y = true := by
  unfold meddleNot at e ⊢
  cases hx : clsOf P x.o.op <;> cases hy : clsOf P y.o.op <;> simp only [hx, hy] at e ⊢ <;> first | exact again_mono h e | exact e

theorem rowOk_mono {α : Type} {f g : α → α → Bool} (h : ∀ x y, f x y = true → g x y = true) {y : α} {m : Nat} : ∀ (xs : List α) (i : Nat), rowOk f y m xs i = true → rowOk g y m xs i = true
  | [], _, _ => rfl
  | x :: xs, i, e => by
    simp only [rowOk, Bool.and_eq_true, Bool.or_eq_true] at e ⊢
    exact ⟨e.1.imp id (h _ _), rowOk_mono h xs _ e.2⟩

theorem pairsOk_mono {α : Type} {f g : α → α → Bool} (h : ∀ x y, f x y = true → g x y = true) {all : List α} : ∀ (ys : List α) (ms : List Nat) (j : Nat), pairsOk f all ys ms j = true → pairsOk g all ys ms j = true
  | [], _, _, _ => by simp [pairsOk]
  | _ :: _, [], _, _ => by simp [pairsOk]
  | y :: ys, m :: ms, j, e => by
    simp only [pairsOk, Bool.and_eq_true] at e ⊢
    exact ⟨rowOk_mono h _ _ e.1, pairsOk_mono h ys ms _ e.2⟩

theorem aRegion_mono (h : CallLe c d) {ops : Array Oper} {draw : Bool} {T : Tmps} {H : AH} {r : Tmps × AH} (e : aRegion P w0 c ops draw T H = some r) : aRegion P w0 d ops draw T H = some r := by
  unfold aRegion at e ⊢
  cases draw with
  | false => exact aOps_mono h _ _ _ _ _ e
  | true =>
    simp only [cond_true] at e ⊢
    cases ht : aTrace P w0 c ops ops.toList H.next T ⟨H.next + ops.size, H.blk⟩ with
    | none => rw [ht] at e; cases e
    | some q =>
      obtain ⟨recs, T', H'⟩ := q
      rw [ht] at e
      rw [aTrace_mono h _ _ _ _ _ ht]
      simp only at e ⊢
      cases hc : (drawOk ops && pairsOk (fun x y => !x.want || !y.want || meddleNot P w0 c x y) recs recs (befores ops.toList []) 0) with
      | false => rw [hc] at e; cases e
      | true =>
        rw [hc] at e
        simp only [Bool.and_eq_true] at hc
        have hd : pairsOk (fun x y => !x.want || !y.want || meddleNot P w0 d x y) recs recs (befores ops.toList []) 0 = true :=
          pairsOk_mono (fun x y hxy => by
            simp only [Bool.or_eq_true] at hxy ⊢
            exact hxy.imp id (meddleNot_mono h)) _ _ _ hc.2
        rw [hc.1, hd]
        exact e

theorem aCode_mono (h : CallLe c d) : ∀ (n m : Nat) (sc : Option Code) (k : Code) (T : Tmps) (H : AH) (r : Ex × Tmps × AH), aCode P w0 c n sc k T H = some r → n ≤ m → aCode P w0 d m sc k T H = some r
  | 0, _, _, _, _, _, _, e, _ => by simp [aCode] at e
  | n + 1, 0, _, _, _, _, _, _, hm => absurd hm (by omega)
  | n + 1, m + 1, some body, k, T, H, r, e, hm => by
    have hm' : n ≤ m := by omega
    simp only [aCode] at e ⊢
    cases hr : aCode P w0 c n none k T H with
    | none => rw [hr] at e; cases e
    | some q =>
      obtain ⟨ex, T1, H1⟩ := q
      rw [hr] at e
      rw [aCode_mono h n m none k T H _ hr hm']
      cases ex with
      | goto l =>
        simp only at e ⊢
        cases hf : findLabel body l with
        | none => rw [hf] at e; exact e
        | some rest => rw [hf] at e; exact aCode_mono h n m _ _ _ _ _ e hm'
      | normal => exact e
      | exit id => exact e
      | ret => exact e
  | n + 1, m + 1, none, k, T, H, r, e, hm => by
    have hm' : n ≤ m := by omega
    cases k with
    | skip => simpa only [aCode] using e
    | label l => simpa only [aCode] using e
    | region id ops draw =>
      simp only [aCode, Option.map_eq_some_iff] at e ⊢
      obtain ⟨q, hq, rfl⟩ := e
      exact ⟨q, aRegion_mono h hq, rfl⟩
    | seq a b =>
      simp only [aCode] at e ⊢
      cases hr : aCode P w0 c n none a T H with
      | none => rw [hr] at e; cases e
      | some q =>
        obtain ⟨ex, T1, H1⟩ := q
        rw [hr] at e
        rw [aCode_mono h n m none a T H _ hr hm']
        cases ex with
        | normal => exact aCode_mono h n m _ _ _ _ _ e hm'
        | goto l => exact e
        | exit id => exact e
        | ret => exact e
    | cond x a b =>
      simp only [aCode] at e ⊢
      split at e
      · rename_i t ht
        try simp only [ht]
        cases t with
        | true => exact aCode_mono h n m _ _ _ _ _ e hm'
        | false => exact aCode_mono h n m _ _ _ _ _ e hm'
      · cases e
    | block id b =>
      simp only [aCode] at e ⊢
      cases hr : aCode P w0 c n none b T H with
      | none => rw [hr] at e; cases e
      | some q =>
        obtain ⟨ex, T1, H1⟩ := q
        rw [hr] at e
        rw [aCode_mono h n m none b T H _ hr hm']
        cases ex <;> exact e
    | loop b =>
      simp only [aCode] at e ⊢
      cases hr : aCode P w0 c n none b T H with
      | none => rw [hr] at e; cases e
      | some q =>
        obtain ⟨ex, T1, H1⟩ := q
        rw [hr] at e
        rw [aCode_mono h n m none b T H _ hr hm']
        cases ex with
        | normal => exact aCode_mono h n m _ _ _ _ _ e hm'
        | goto l => exact e
        | exit id => exact e
        | ret => exact e
    | exit id => simpa only [aCode] using e
    | scope b =>
      simp only [aCode] at e ⊢
      exact aCode_mono h n m _ _ _ _ _ e hm'
    | goto l => simpa only [aCode] using e
    | ret => simpa only [aCode] using e
    | rangeFunc f ps x y => simp [aCode] at e
    | refuse w => simp [aCode] at e

end

/-- what a call answers, where some functions are known (pr): K bounds the rounds, the second number how deep calls lie -/
def gFn (P : Program) (pr : CallA) (w0 : World) (K : Nat) : Nat → CallA
  | 0, _, _, _ => none
  | n + 1, f, args, H =>
    match pr f args H with
    | some r => some r
    | none =>
    match P.funcs[f]? with
    | none => none
    | some fn =>
      match fn.body with
      | none => none
      | some c =>
        cond (fnOk fn && Nat.ble args.length fn.ntmps)
          (match aCode P w0 (gFn P pr w0 K n) K none c (argsT args 0 .leaf) H with
           | some (ex, T, H') =>
             match ex with
             | .normal | .ret => (aResults P w0 T H' fn.results.toList).map fun vs => (packed vs, H')
             | _ => none
           | none => none)
          none

theorem gFn_mono {P : Program} {pr : CallA} {w0 : World} {K K' : Nat} (hK : K ≤ K') : ∀ (n n' : Nat), n ≤ n' → CallLe (gFn P pr w0 K n) (gFn P pr w0 K' n')
  | 0, _, _ => fun f a H r e => by simp [gFn] at e
  | n + 1, 0, h => absurd h (by omega)
  | n + 1, n' + 1, h => fun f a H r e => by
    have ih := gFn_mono (P := P) (pr := pr) (w0 := w0) hK n n' (by omega)
    simp only [gFn] at e ⊢
    split at e
    · rename_i v hv
      try simp only [hv]
      exact e
    · rename_i hv
      try simp only [hv]
      split at e
      · cases e
      · rename_i fn hfn
        try simp only [hfn]
        split at e
        · cases e
        · rename_i k hk
          try simp only [hk]
          cases hok : (fnOk fn && Nat.ble a.length fn.ntmps) with
          | false => rw [hok] at e; cases e
          | true =>
            rw [hok] at e
            simp only [cond_true] at e ⊢
            cases hr : aCode P w0 (gFn P pr w0 K n) K none k (argsT a 0 .leaf) H with
            | none => rw [hr] at e; cases e
            | some q =>
              rw [hr] at e
              rw [aCode_mono ih _ _ _ _ _ _ _ hr hK]
              exact e

/-- FUNCTIONS -/
theorem gfn_ok {P : Program} {w0 : World} (hmix : P.follows .mixedOrders = true) {pr : CallA} (hpr : CallOk P w0 pr) (K : Nat) : ∀ n, CallOk P w0 (gFn P pr w0 K n)
  | 0 => fun φ H w k args args' v H' E ha h => by simp [gFn] at h
  | n + 1 => fun φ H w k args args' v H' E ha h => by
    simp only [gFn] at h
    split at h
    · rename_i u hu
      cases h
      exact hpr φ H w k args args' v H' E ha hu
    · split at h
      · simp at h
      · rename_i fn hfn
        split at h
        · simp at h
        · rename_i c hbody
          cases hok : (fnOk fn && Nat.ble args.length fn.ntmps) with
          | false => rw [hok] at h; simp at h
          | true =>
            rw [hok] at h
            simp only [cond_true] at h
            simp only [Bool.and_eq_true] at hok
            have hlen := Nat.le_of_ble_eq_true hok.2
            have hcode : codeOk fn.ntmps c = true := by
              have := hok.1
              unfold fnOk at this
              rw [hbody] at this
              exact this
            have hT : TRel φ (argsT args 0 .leaf) { tmps := (⟨args'⟩ : Array Value) ++ Array.replicate (fn.ntmps - (⟨args'⟩ : Array Value).size) undef, defers := [] } fn.ntmps := by
              have hl := rel_length ha
              refine ⟨by simp; omega, fun d => ?_, rfl⟩
              rw [argsT_get, Array.getD_eq_getD_getElem?, Array.getElem?_append]
              simp only [Nat.zero_le, true_and, Nat.zero_add, Nat.sub_zero]
              by_cases hd : d < args.length
              · rw [if_pos hd, if_pos (by simp; omega)]
                have hx : args[d]? = some args[d] := List.getElem?_eq_getElem hd
                obtain ⟨y, hy, hr⟩ := ha.get hx
                rw [hx]
                simp only [Option.getD_some]
                have : (⟨args'⟩ : Array Value)[d]? = some y := by simpa using hy
                rw [this]
                exact hr
              · rw [if_neg hd, if_neg (by simp; omega), Array.getElem?_replicate]
                split <;> exact VRel.undef φ
            refine calls_of_wp hfn hbody ?_
            cases hrun : aCode P w0 (gFn P pr w0 K n) K none c (argsT args 0 .leaf) H with
            | none => rw [hrun] at h; simp at h
            | some r =>
              obtain ⟨ex, T', H2⟩ := r
              rw [hrun] at h
              refine (code_wp (gfn_ok hmix hpr K n) hmix K none c _ H ex T' H2 _ w φ _ hrun hcode (fun _ e => by cases e) hT E ?_).1
              intro φ' a' w' t1 e1 k1
              cases ex with
              | normal =>
                simp only [Option.map_eq_some_iff, Prod.mk.injEq] at h
                obtain ⟨vs, hv, rfl, rfl⟩ := h
                obtain ⟨v', q1, q2⟩ := results_run e1 t1 hv
                exact ⟨t1.defers, v', q1, v', φ', rfl, q2, e1, k1⟩
              | ret =>
                simp only [Option.map_eq_some_iff, Prod.mk.injEq] at h
                obtain ⟨vs, hv, rfl, rfl⟩ := h
                obtain ⟨v', q1, q2⟩ := results_run e1 t1 hv
                exact ⟨t1.defers, v', q1, v', φ', rfl, q2, e1, k1⟩
              | exit id => simp at h
              | goto l => simp at h

/-- THE READING HOLDS: a call whose answer is a ground value -/
theorem gsim_calls {P : Program} (hmix : P.follows .mixedOrders = true) {pr : CallA} {w : World} (hpr : CallOk P w pr) {K n : Nat} {f : FuncId} {args : List Value} {v : Value} {H' : AH} (ha : ∀ φ : Ren, VRels φ args args)
    (hv : ground v = true) (h : gFn P pr w K n f args ⟨0, .leaf⟩ = some (v, H')) : Calls P f ⟨args⟩ w fun e w' => e = .returned v ∧ Below w.heap.size w w' := by
  have E : Emb P w (fun _ => none) ⟨0, .leaf⟩ w := ⟨fun b i h => (by cases h), fun b c i j h => (by cases h), fun b i h => (by cases h), fun c _ => rfl, fun b i x h => (by cases h)⟩
  refine (gfn_ok hmix hpr K n _ _ w f args args v H' E (ha _) h).mono ?_
  rintro e w' ⟨v', φ', rfl, hr, hE, hK⟩
  refine ⟨by rw [ground_eq φ' v v' hv hr], ⟨hK.os, hK.tape, hK.output, hK.size, fun c hc => hE.old c hc⟩⟩

/-- functions of which the value is known, memory as it was -/
def valsP (p : Prims) : CallA := fun f a H => (p f a).map fun v => (v, H)
theorem vals_ok {P : Program} {w0 : World} {p : Prims} (hp : PrimsOk P p) : CallOk P w0 (valsP p) := by
  intro φ H w k args args' v H' E ha h
  simp only [valsP, Option.map_eq_some_iff, Prod.mk.injEq] at h
  obtain ⟨u, hu, rfl, rfl⟩ := h
  obtain ⟨⟨g1, g2⟩, hc⟩ := hp k args u hu
  rw [groundL_eq φ args args' g1 ha]
  refine (hc w).mono ?_
  rintro e w' ⟨rfl, hb⟩
  exact ⟨u, φ, rfl, ground_rel φ u g2, below_emb E hb, below_keeps hb⟩
/-- the one's, else the other one's -/
def orP (p q : CallA) : CallA := fun f a H => match p f a H with
  | some r => some r
  | none => q f a H
theorem or_ok {P : Program} {w0 : World} {p q : CallA} (hp : CallOk P w0 p) (hq : CallOk P w0 q) : CallOk P w0 (orP p q) := by
  intro φ H w k args args' v H' E ha h
  unfold orP at h
  cases hpr : p k args H with
  | some r => rw [hpr] at h; cases h; exact hp φ H w k args args' v H' E ha hpr
  | none => rw [hpr] at h; exact hq φ H w k args args' v H' E ha h

end Go.Sim
