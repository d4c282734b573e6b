/-
  What a piece of code asks, read off its text by computation: one condition, behind it the next one.
-/
import Derived.Test.YtlacidogpdbpgaaGreatWC
namespace Go.Sim
open Go
set_option linter.unusedSimpArgs false
set_option linter.unusedVariables false

def opt {α : Type} (e : Option α) (k : α → Prop) : Prop :=
  match e with
  | some v => k v
  | none => False
theorem opt_elim {α : Type} {e : Option α} {k : α → Prop} (h : opt e k) : ∃ v, e = some v ∧ k v := by
  cases e with
  | none => exact h.elim
  | some v => exact ⟨v, rfl, h⟩
theorem opt_some {α : Type} (v : α) (k : α → Prop) : opt (some v) k = k v := rfl

/-- by a guard: nothing is done, nothing is known -/
def gdP (b : Bool) (X : (Value → AH → Prop) → Prop) (H : AH) (k : Value → AH → Prop) : Prop := cond b (X k) (k undef H)
def iteV (v : Value) (a b : Prop) : Prop :=
  match v with
  | .bool t => cond t a b
  | _ => False
def rgn (sz : Nat) (H : AH) (k : Nat → AH → Prop) : Prop := k H.next ⟨H.next + sz, H.blk⟩
def nmOk (H : AH) (nm : Nat) (X : Prop) : Prop := cond (H.get nm).isNone X False

section
variable (P : Program) (pr : CallA) (w0 : World)

def binC (op : BinOp) (t : TypeId) (x y : Operand) (o : Oper) (ρ : Operand → Value) : Option Value :=
  match aBinOp P op t x y ρ with
  | some v => some v
  | none => groundOp P o ρ

def pickV (c a b : Value) : Option Value :=
  match c with
  | .bool t => some (cond t a b)
  | _ => none
def nckV (x : Value) : Option Value :=
  match x with
  | .pointer (some a) => some (.pointer (some a))
  | .func (.func f) first cap => some (.func (.func f) first cap)
  | _ => none
def extV (i : Nat) (x : Value) : Option Value :=
  match x with
  | .tuple vs => vs.toList[i]?
  | _ => none
def s2apV (arr : TypeId) (x : Value) : Option Value :=
  match P.underlying arr, x with
  | some (.array n _), .slice a len _ => cond (Nat.blt len n || Nat.beq n 0) none (some (Value.pointer a))
  | _, _ => none
def taV (asserted : TypeId) (ok : Bool) (x : Value) : Option Value :=
  match P.underlying asserted, x with
  | some (.interface _), _ => none
  | some _, .iface t v => cond (Nat.beq t asserted) (some (cond ok (.tuple ⟨[v, .bool true]⟩) v))
      (cond ok ((zeroOf? P asserted).map fun z => Value.tuple ⟨[z, .bool false]⟩) none)
  | some _, .nilIface => cond ok ((zeroOf? P asserted).map fun z => Value.tuple ⟨[z, .bool false]⟩) none
  | _, _ => none
def calV (x : Value) (args : List Value) (H : AH) (k : Value → AH → Prop) : Prop :=
  match x with
  | .func (.func g) first captured => cond (goesInto P g) (CallW P pr w0 g (first.toList ++ args ++ captured.toList) H k) False
  | _ => False
def invV (x : Value) (name : String) (args : List Value) (H : AH) (k : Value → AH → Prop) : Prop :=
  opt (methodA P x name) fun q => cond (goesInto P q.1) (CallW P pr w0 q.1 (q.2 :: args) H k) False

def opC (nm : Nat) (o : Oper) (E : Env) (H : AH) (k : Value → AH → Prop) : Prop :=
  match o.op with
  | .move x | .assign x => k (evE E x) H
  | .pick c a b => opt (pickV (evE E c) (evE E a) (evE E b)) fun v => k v H
  | .load t a => opt (aLoad P w0 t (evE E a) H) fun v => k v H
  | .fieldAddr s x f => opt (aFieldAddr P s (evE E x) f) fun v => k v H
  | .store t a x => opt (aStore P t (evE E a) (evE E x) H) fun H' => k undef H'
  | .indexAddr t x ix => opt (aIndexAddr P t (evE E x) (evE E ix)) fun v => k v H
  | .nilCheck x => opt (nckV (evE E x)) fun v => k v H
  | .binOp op t x y _ => opt (binC P op t x y o (evE E)) fun v => k v H
  | .unOp _ _ _ => opt (groundOp P o (evE E)) fun v => k v H
  | .extract t i => opt (extV i (evE E t)) fun v => k v H
  | .alloc e => opt (zeroOf? P e) fun z => k (.pointer (some ⟨nm, 0, some 0⟩)) (newRowA H nm (cellsL z) e)
  | .box e x => opt (sizeOf? P e) fun _ => k (.pointer (some ⟨nm, 0, some 0⟩)) (newRowA H nm (cellsL (evE E x)) e)
  | .build t parts => opt (aBuild P t (parts.toList.map fun p => (p.1, evE E p.2))) fun v => k v H
  | .buildSlice t len parts => opt (aBuildSlice P t len (parts.toList.map fun p => (p.1, evE E p.2))) fun q => k (.slice (some ⟨nm, 0, some 0⟩) len len) (newRowA H nm q.1 q.2)
  | .convert s d x => opt (aConvert P w0 s d x (evE E) o nm H) fun r => k r.1 r.2
  | .sliceToArrayPointer arr x => opt (s2apV P arr (evE E x)) fun v => k v H
  | .makeInterface t x => match P.underlying t with
    | some (.interface _) => False
    | some _ => k (.iface t (evE E x)) H
    | none => False
  | .makeFunc (.func f) first captured => k (.func (.func f) (first.map (evE E)) (captured.map (evE E))) H
  | .makeMap t r => match r with
    | none => k (.map (some nm)) (H.set nm (some (.map [] 0)))
    | some x => match P.underlying t, evE E x with
      | some (.map _ _), .int _ _ => k (.map (some nm)) (H.set nm (some (.map [] 0)))
      | _, _ => False
  | .slice t x lo hi mx => opt (aSlice P t (evE E x) (lo.map (evE E)) (hi.map (evE E)) (mx.map (evE E)) H) fun v => k v H
  | .field t x f => opt (aField P t (evE E x) f) fun v => k v H
  | .index t x i => opt (aIndex P t (evE E x) (evE E i)) fun v => k v H
  | .lookup t m key ok => opt (aLookup P t (evE E m) (evE E key) ok H) fun v => k v H
  | .mapUpdate t m key v => opt (aMapUpdate P t (evE E m) (evE E key) (evE E v) H) fun H' => k undef H'
  | .insert t m key v => opt (aMapUpdate P t (evE E m) (evE E key) (evE E v) H) fun H' => k undef H'
  | .mapEntry t m key => opt (aMapEntry P t (evE E m) (evE E key) H) fun r => k r.1 r.2
  | .entryStore _ m s v => opt (aEntryStore (evE E m) (evE E s) (evE E v) H) fun H' => k undef H'
  | .typeAssert x _ asserted ok => opt (taV P asserted ok (evE E x)) fun v => k v H
  | .call c => match c.callee with
    | .value f => calV P pr w0 (evE E f) (c.args.toList.map (evE E)) H k
    | .invoke x name => invV P pr w0 (evE E x) name (c.args.toList.map (evE E)) H k
    | .builtin b => match b, c.args.toList with
      | .append, [s, x] => cond (Nat.beq c.argTypes.size 2) (opt (aAppend P w0 H nm c.argTypes (evE E s) (evE E x)) fun r => k r.1 r.2) False
      | .copy, [d, s] => opt (aCopy P w0 H c.argTypes (evE E d) (evE E s)) fun r => k r.1 r.2
      | .len, [x] => match c.argTypes[0]? with
        | some t => opt (aLen P t (evE E x) H) fun n => k (.int .i64 n) H
        | none => False
      | .delete, [m, key] => match c.argTypes[0]? with
        | some t => opt (aDelete P t (evE E m) (evE E key) H) fun H' => k (.tuple #[]) H'
        | none => False
      | .clear, [x] => match c.argTypes[0]? with
        | some t => opt (match P.underlying t with | some _ => aClear P t (evE E x) H | none => none) fun H' => k (.tuple #[]) H'
        | none => False
      | .min, _ | .max, _ => opt (groundOp P o (evE E)) fun v => k v H
      | _, _ => False
  | _ => False

def WcOps (ops : Array Oper) : List Oper → Nat → (Env → AH → Prop) → Env → AH → Prop
  | [], _, Q, E, H => Q E H
  | o :: os, nm, Q, E, H => match o.guard with
    | none => opC P pr w0 nm o E H fun v H' => WcOps ops os (nm + 1) Q (upd E o.dst v) H'
    | some _ => gdP (wantedE o ops E) (opC P pr w0 nm o E H) H fun v H' => WcOps ops os (nm + 1) Q (upd E o.dst v) H'

def againC (r : RecE) (H : AH) : Prop := opt (aOpR P w0 (fun _ _ _ => none) r.nm r.o (evE r.E) H) fun q => sameV q.1 r.v = true

def apartC (x y : RecE) : Prop :=
  cond x.want (cond y.want
    (match clsOf P x.o.op, clsOf P y.o.op with
    | .read, .eff => againC P w0 x y.post
    | .eff, .read => againC P w0 y x.pre
    | .alloc, .eff => sameBlk (y.post.get x.nm) (x.post.get x.nm) = true
    | .eff, .alloc => x.pre.get y.nm = none
    | .eff, .eff => False
    | _, _ => True) True) True

def apC : List (Nat × Nat) → List RecE → Prop
  | [], _ => True
  | p :: ns, es => (match es[p.1]?, es[p.2]? with
    | some x, some y => apartC P w0 x y
    | _, _ => True) ∧ apC ns es

def nameC (o : Oper) (nm : Nat) (H : AH) (X : Prop) : Prop :=
  match clsOf P o.op with
  | .alloc => nmOk H nm X
  | _ => X

def WcTr (ops : Array Oper) : List Oper → Nat → (List RecE → Env → AH → Prop) → Env → AH → Prop
  | [], _, Q, E, H => Q [] E H
  | o :: os, nm, Q, E, H => match o.guard with
    | none => nameC P o nm H (opC P pr w0 nm o E H fun v H' => WcTr ops os (nm + 1) (fun es => Q (⟨o, nm, true, E, H, v, H'⟩ :: es)) (upd E o.dst v) H')
    | some _ => gdP (wantedE o ops E) (fun k => nameC P o nm H (opC P pr w0 nm o E H k)) H
        fun v H' => WcTr ops os (nm + 1) (fun es => Q (⟨o, nm, wantedE o ops E, E, H, v, H'⟩ :: es)) (upd E o.dst v) H'

def Wc : Code → (Ex → Env → AH → Prop) → Env → AH → Prop
  | .skip, Q, E, H | .label _, Q, E, H => Q .normal E H
  | .region _ ops draw, Q, E, H => rgn ops.size H fun n H' =>
      cond draw (cond (drawOk ops) (WcTr P pr w0 ops ops.toList n (fun es E H => apC P w0 (needs P ops.toList ops.toList (befores ops.toList []) 0) es ∧ Q .normal E H) E H') False)
        (WcOps P pr w0 ops ops.toList n (fun E H => Q .normal E H) E H')
  | .seq a b, Q, E, H => Wc a (andThen (fun E H => Wc b Q E H) Q) E H
  | .cond c a b, Q, E, H => iteV (evE E c) (Wc a Q E H) (Wc b Q E H)
  | .block id c, Q, E, H => Wc c (outOf id Q) E H
  | .loop c, Q, E, H => Wg P pr w0 none (.loop c) Q E H
  | .scope c, Q, E, H => Wg P pr w0 none (.scope c) Q E H
  | .exit id, Q, E, H => Q (.exit id) E H
  | .goto l, Q, E, H => Q (.goto l) E H
  | .ret, Q, E, H => Q .ret E H
  | _, _, _, _ => False

/-- results -/
def resC : List (Option Value) → Option (List Value)
  | [] => some []
  | r :: rs => match r, resC rs with
    | some v, some vs => some (v :: vs)
    | _, _ => none

def endC (rs : List ResultVar) (k : Value → AH → Prop) : Ex → Env → AH → Prop
  | .normal, E, H | .ret, E, H => opt (resE P w0 E H rs) fun vs => k (packed vs) H
  | _, _, _ => False

end

section
variable {P : Program} {pr : CallA} {w0 : World}

theorem opC_sound {nm : Nat} {o : Oper} {E : Env} {H : AH} {k : Value → AH → Prop} (h : opC P pr w0 nm o E H k) : OpW P pr w0 nm o E H k := by
  obtain ⟨dst, op, type, pos, after, guard⟩ := o
  cases op
  case call c =>
    simp only [opC] at h
    cases hc : c.callee with
    | value f =>
      rw [hc] at h
      simp only [calV] at h
      split at h
      · rename_i g first cap hv
        cases hg : goesInto P g with
        | false => rw [hg] at h; exact h.elim
        | true => rw [hg] at h; exact OpW_call hc hv hg h
      · exact h.elim
    | invoke x name =>
      rw [hc] at h
      simp only [invV] at h
      obtain ⟨q, hq, h⟩ := opt_elim h
      cases hg : goesInto P q.1 with
      | false => rw [hg] at h; exact h.elim
      | true => rw [hg] at h; exact OpW_invoke hc hq hg h
    | builtin b =>
      rw [hc] at h
      simp only at h
      split at h
      · rename_i s x hx
        cases hs : Nat.beq c.argTypes.size 2 with
        | false => rw [hs] at h; exact h.elim
        | true =>
          rw [hs] at h
          obtain ⟨r, hr, h⟩ := opt_elim h
          exact OpW_pure (by simp only [aOpR, aCall, hc, hx, hs, cond_true]; exact hr) h
      · rename_i d s hx
        obtain ⟨r, hr, h⟩ := opt_elim h
        exact OpW_pure (by simp only [aOpR, aCall, hc, hx]; exact hr) h
      · rename_i x hx
        split at h
        · rename_i t ht
          obtain ⟨r, hr, h⟩ := opt_elim h
          exact OpW_pure (by simp only [aOpR, aCall, hc, hx, ht, hr, Option.map_some]) h
        · exact h.elim
      · rename_i m key hx
        split at h
        · rename_i t ht
          obtain ⟨r, hr, h⟩ := opt_elim h
          exact OpW_pure (by simp only [aOpR, aCall, hc, hx, ht, hr, Option.map_some]) h
        · exact h.elim
      · rename_i x hx
        split at h
        · rename_i t ht
          obtain ⟨r, hr, h⟩ := opt_elim h
          exact OpW_pure (by simp only [aOpR, aCall, hc, hx, ht]; exact congrArg (Option.map _) hr) h
        · exact h.elim
      · rename_i hx
        obtain ⟨r, hr, h⟩ := opt_elim h
        exact OpW_pure (by simp only [aOpR, aCall, hc]; rw [hr]; rfl) h
      · rename_i hx
        obtain ⟨r, hr, h⟩ := opt_elim h
        exact OpW_pure (by simp only [aOpR, aCall, hc]; rw [hr]; rfl) h
      · exact h.elim
  case move x => exact OpW_pure rfl h
  case assign x => exact OpW_pure rfl h
  case binOp op t x y yt =>
    obtain ⟨r, hr, h⟩ := opt_elim h
    refine OpW_pure (v := r) (H' := H) ?_ h
    simp only [binC] at hr
    simp only [aOpR]
    cases hb : aBinOp P op t x y (evE E) with
    | some v => rw [hb] at hr; cases hr; rfl
    | none => rw [hb] at hr; simp only at hr ⊢; rw [hr]; rfl
  case makeInterface t x =>
    simp only [opC] at h
    split at h
    · exact h.elim
    · rename_i hu hn
      refine OpW_pure ?_ h
      simp only [aOpR, hn]
    · exact h.elim
  case makeFunc fn first captured =>
    cases fn <;> first | exact OpW_pure rfl h | exact h.elim
  case makeMap t r =>
    cases r with
    | none => exact OpW_pure rfl h
    | some x =>
      simp only [opC] at h
      split at h
      · rename_i h1 h2
        exact OpW_pure (by simp only [aOpR, h1, h2]) h
      · exact h.elim
  case pick c a b =>
    simp only [opC, pickV] at h
    obtain ⟨r, hr, h⟩ := opt_elim h
    refine OpW_pure (v := r) (H' := H) ?_ h
    simp only [aOpR]
    split at hr
    · rename_i t ht; cases hr; simp only [ht]
    · cases hr
  case nilCheck x =>
    simp only [opC, nckV] at h
    obtain ⟨r, hr, h⟩ := opt_elim h
    refine OpW_pure (v := r) (H' := H) ?_ h
    simp only [aOpR]
    split at hr
    · rename_i ht; cases hr; simp only [ht]
    · rename_i ht; cases hr; simp only [ht]
    · cases hr
  case extract t i =>
    simp only [opC, extV] at h
    obtain ⟨r, hr, h⟩ := opt_elim h
    refine OpW_pure (v := r) (H' := H) ?_ h
    simp only [aOpR]
    split at hr
    · rename_i ht; simp only [ht, hr]; rfl
    · cases hr
  case sliceToArrayPointer arr x =>
    simp only [opC, s2apV] at h
    obtain ⟨r, hr, h⟩ := opt_elim h
    refine OpW_pure (v := r) (H' := H) ?_ h
    simp only [aOpR]
    split at hr
    · rename_i h1 h2
      simp only [h1, h2]
      revert hr
      cases (Nat.blt _ _ || Nat.beq _ _) <;> intro hr <;> cases hr
      rfl
    · cases hr
  case typeAssert x xt asserted ok =>
    simp only [opC] at h
    obtain ⟨r, hr, h⟩ := opt_elim h
    refine OpW_pure (v := r) (H' := H) ?_ h
    unfold taV at hr
    simp only [aOpR]
    cases hu : P.underlying asserted with
    | none => rw [hu] at hr; cases hr
    | some d =>
      rw [hu] at hr
      cases hx : evE E x <;> rw [hx] at hr <;> cases d <;> simp only at hr ⊢ <;> try (cases hr; done)
      all_goals (cases ok <;> simp only [cond_true, cond_false] at hr ⊢ <;> try (cases hr; done))
      all_goals first
        | (obtain ⟨z, hz, rfl⟩ := Option.map_eq_some_iff.1 hr; rw [hz]; rfl)
        | (generalize Nat.beq _ asserted = q at hr ⊢; cases q <;> simp only [cond_true, cond_false] at hr ⊢ <;> first | (cases hr; done) | (cases hr; rfl) | (obtain ⟨z, hz, rfl⟩ := Option.map_eq_some_iff.1 hr; rw [hz]; rfl))
  case load t a =>
    simp only [opC] at h
    obtain ⟨r, hr, h⟩ := opt_elim h
    exact OpW_pure (v := r) (H' := H) (by simp only [aOpR]; rw [hr]; rfl) h
  case box e x =>
    obtain ⟨r, hr, h⟩ := opt_elim h
    exact OpW_pure (by simp only [aOpR, hr]) h
  all_goals first
    | exact h.elim
    | (obtain ⟨r, hr, h⟩ := opt_elim h; exact OpW_pure (by simp only [aOpR]; rw [hr]; rfl) h)
    | (obtain ⟨r, hr, h⟩ := opt_elim h; exact OpW_pure (v := r.1) (H' := r.2) (by simp only [aOpR]; exact hr) h)

theorem WcOps_sound {ops : Array Oper} : ∀ (os : List Oper) (nm : Nat) (Q : Env → AH → Prop) (E : Env) (H : AH), WcOps P pr w0 ops os nm Q E H → WOps P pr w0 ops os nm Q E H
  | [], nm, Q, E, H, h => WOps_nil h
  | o :: os, nm, Q, E, H, h => by
    simp only [WcOps] at h
    cases hg : o.guard with
    | none =>
      rw [hg] at h
      refine WOps_cons (by unfold wantedE; rw [hg]) ?_
      obtain ⟨K, n, v, H', h1, h2⟩ := opC_sound h
      exact ⟨K, n, v, H', h1, WcOps_sound os _ Q _ H' h2⟩
    | some g =>
    rw [hg] at h
    simp only [gdP] at h
    cases hw : wantedE o ops E with
    | false => rw [hw] at h; exact WOps_skip hw (WcOps_sound os _ Q _ H h)
    | true =>
      rw [hw] at h
      simp only [cond_true] at h
      refine WOps_cons hw ?_
      obtain ⟨K, n, v, H', h1, h2⟩ := opC_sound h
      exact ⟨K, n, v, H', h1, WcOps_sound os _ Q _ H' h2⟩

theorem WOps.mono {ops : Array Oper} {os : List Oper} {nm : Nat} {Q Q' : Env → AH → Prop} {E : Env} {H : AH} (h : WOps P pr w0 ops os nm Q E H) (g : ∀ E H, Q E H → Q' E H) : WOps P pr w0 ops os nm Q' E H :=
  fun T hT => let ⟨K, n, T', H', E', h1, h2, h3⟩ := h T hT; ⟨K, n, T', H', E', h1, h2, g _ _ h3⟩
theorem WTr.mono {ops : Array Oper} {os : List Oper} {nm : Nat} {Q Q' : List RecE → Env → AH → Prop} {E : Env} {H : AH} (h : WTr P pr w0 ops os nm Q E H) (g : ∀ es E H, Q es E H → Q' es E H) : WTr P pr w0 ops os nm Q' E H :=
  fun T hT => let ⟨K, n, rs, T', H', es, E', h1, h2, h3, h4⟩ := h T hT; ⟨K, n, rs, T', H', es, E', h1, h2, h3, g _ _ _ h4⟩

theorem nameC_elim {o : Oper} {nm : Nat} {H : AH} {X : Prop} (h : nameC P o nm H X) : nameOk P o nm H = true ∧ X := by
  unfold nameC nmOk at h
  unfold nameOk
  cases hc : clsOf P o.op <;> rw [hc] at h <;> simp only at h ⊢
  · exact ⟨trivial, h⟩
  · exact ⟨trivial, h⟩
  · cases hg : (H.get nm).isNone with
    | false => rw [hg] at h; exact h.elim
    | true => rw [hg] at h; exact ⟨rfl, h⟩
  · exact ⟨trivial, h⟩

theorem WcTr_sound {ops : Array Oper} : ∀ (os : List Oper) (nm : Nat) (Q : List RecE → Env → AH → Prop) (E : Env) (H : AH), WcTr P pr w0 ops os nm Q E H → WTr P pr w0 ops os nm Q E H
  | [], nm, Q, E, H, h => WTr_nil h
  | o :: os, nm, Q, E, H, h => by
    simp only [WcTr] at h
    cases hg : o.guard with
    | none =>
      rw [hg] at h
      have hn := nameC_elim h
      refine WTr_cons (by unfold wantedE; rw [hg]) hn.1 ?_
      obtain ⟨K, n, v, H', h1, h2⟩ := opC_sound hn.2
      exact ⟨K, n, v, H', h1, WcTr_sound os _ _ _ H' h2⟩
    | some g =>
    rw [hg] at h
    simp only [gdP] at h
    cases hw : wantedE o ops E with
    | false => rw [hw] at h; exact WTr_skip hw (WcTr_sound os _ _ _ H h)
    | true =>
      rw [hw] at h
      simp only [cond_true] at h
      have hn := nameC_elim h
      refine WTr_cons hw hn.1 ?_
      obtain ⟨K, n, v, H', h1, h2⟩ := opC_sound hn.2
      exact ⟨K, n, v, H', h1, WcTr_sound os _ _ _ H' h2⟩

theorem apartC_sound {x y : RecE} (h : apartC P w0 x y) : apartE P w0 x y := by
  unfold apartC at h
  unfold apartE
  cases hx : x.want with
  | false => exact .inl rfl
  | true =>
    cases hy : y.want with
    | false => exact .inr (.inl rfl)
    | true =>
      rw [hx, hy] at h
      refine .inr (.inr ?_)
      have ag : ∀ (r : RecE) (H : AH), againC P w0 r H → againE P w0 r H := fun r H h => by
        obtain ⟨q, h1, h2⟩ := opt_elim h
        exact ⟨q.1, q.2, h1, h2⟩
      cases hcx : clsOf P x.o.op <;> cases hcy : clsOf P y.o.op <;> rw [hcx, hcy] at h <;> simp only [cond_true] at h ⊢ <;> first | exact ag _ _ h | exact h

theorem apC_sound : ∀ {ns : List (Nat × Nat)} {es : List RecE}, apC P w0 ns es → apartAll P w0 ns es
  | [], _, _ => fun p hp => by cases hp
  | q :: ns, es, h => fun p hp x y hx hy => by
    rcases List.mem_cons.1 hp with rfl | hp
    · have := h.1
      rw [hx, hy] at this
      exact apartC_sound this
    · exact apC_sound h.2 p hp x y hx hy

theorem Wc_sound : ∀ (c : Code) (Q : Ex → Env → AH → Prop) (E : Env) (H : AH), Wc P pr w0 c Q E H → W P pr w0 c Q E H
  | .skip, Q, E, H, h => W_skip h
  | .label _, Q, E, H, h => W_label h
  | .region id ops draw, Q, E, H, h => by
    cases draw with
    | false => exact W_region (WcOps_sound _ _ _ _ _ h)
    | true =>
      simp only [Wc, rgn, cond_true] at h
      cases hd : drawOk ops with
      | false => rw [hd] at h; exact h.elim
      | true =>
        rw [hd] at h
        exact W_region_draw (needs P ops.toList ops.toList (befores ops.toList []) 0) (ops := ops) hd rfl ((WcTr_sound _ _ _ _ _ h).mono fun es E H g => ⟨apC_sound g.1, g.2⟩)
  | .seq a b, Q, E, H, h => W_seq ((Wc_sound a _ E H h).mono fun ex E H g => by
      cases ex with
      | normal => exact Wc_sound b Q E H g
      | exit i => exact g
      | goto i => exact g
      | ret => exact g)
  | .cond c a b, Q, E, H, h => by
    simp only [Wc] at h
    unfold iteV at h
    split at h
    · rename_i t ht
      refine W_cond t ht (fun e => ?_) (fun e => ?_)
      · subst e; exact Wc_sound a Q E H h
      · subst e; exact Wc_sound b Q E H h
    · exact h.elim
  | .block id c, Q, E, H, h => W_block (Wc_sound c _ E H h)
  | .loop c, Q, E, H, h => h
  | .scope c, Q, E, H, h => h
  | .exit id, Q, E, H, h => W_exit h
  | .goto l, Q, E, H, h => W_goto h
  | .ret, Q, E, H, h => W_ret h
  | .rangeFunc .., _, _, _, h => h.elim
  | .refuse _, _, _, _, h => h.elim

theorem endC_sound {rs : List ResultVar} {k : Value → AH → Prop} {ex : Ex} {E : Env} {H : AH} (h : endC P w0 rs k ex E H) : atEnd P w0 rs k ex E H := by
  cases ex with
  | normal => obtain ⟨vs, h1, h2⟩ := opt_elim h; exact ⟨vs, h1, h2⟩
  | ret => obtain ⟨vs, h1, h2⟩ := opt_elim h; exact ⟨vs, h1, h2⟩
  | exit i => exact h
  | goto i => exact h

theorem call_c {f : FuncId} {args : List Value} {H : AH} {k : Value → AH → Prop} {fn : Func} {c : Code} (hp : pr f args H = none) (hf : P.funcs[f]? = some fn) (hb : fn.body = some c) (hok : fnOk fn = true) (hlen : Nat.ble args.length fn.ntmps = true)
    (h : Wc P pr w0 c (endC P w0 fn.results.toList k) (argsE args) H) : CallW P pr w0 f args H k :=
  call_intro hp hf hb hok hlen ((Wc_sound c _ _ H h).mono fun _ _ _ => endC_sound)

/-- what is left of a piece of code, behind its first part -/
def thenW (P : Program) (pr : CallA) (w0 : World) (b : Code) (Q : Ex → Env → AH → Prop) : Ex → Env → AH → Prop := andThen (fun E H => Wc P pr w0 b Q E H) Q

/-- a part of a piece of code -/
def subC : Code → List Nat → Code
  | c, [] => c
  | .seq a _, 0 :: p => subC a p
  | .seq _ b, _ :: p => subC b p
  | .cond _ a _, 0 :: p => subC a p
  | .cond _ _ b, _ :: p => subC b p
  | .block _ c, _ :: p => subC c p
  | .loop c, _ :: p => subC c p
  | .scope c, _ :: p => subC c p
  | c, _ => c
def bodyC (P : Program) (f : FuncId) : Code :=
  match P.funcs[f]? with
  | some fn => match fn.body with
    | some c => c
    | none => .skip
  | none => .skip
def cd (P : Program) (f : FuncId) (p : List Nat) : Code := subC (bodyC P f) p

end

/-! ### operations whose types are known -/
def ld1 (w0 : World) (x : Value) (H : AH) : Option Value :=
  match x with
  | .pointer (some a) => match rdCells w0 H a 1 with
    | some (v :: _) => some v
    | _ => none
  | _ => none
def ldA (w0 : World) (n : Nat) (x : Value) (H : AH) : Option Value :=
  match x with
  | .pointer (some a) => (rdCells w0 H a n).map fun l => .agg ⟨l⟩
  | _ => none
def stC (n : Nat) (x v : Value) (H : AH) : Option AH :=
  match x with
  | .pointer (some a) => cond (Nat.beq (cellsL v).length n) (wrCells H a (cellsL v)) none
  | _ => none
def fa (off : Nat) (x : Value) : Option Value :=
  match x with
  | .pointer (some a) => some (.pointer (some (aadd a off)))
  | _ => none
def fl1 (off : Nat) (x : Value) : Option Value :=
  match x with
  | .agg cs => cs.toList[off]?
  | _ => none
def flA (off n : Nat) (x : Value) : Option Value :=
  match x with
  | .agg cs => some (.agg ⟨(cs.toList.drop off).take n⟩)
  | _ => none
def ixR (len n : Nat) (x i : Value) : Option Value :=
  match i with
  | .int _ i => match x with
    | .pointer (some a) => cond (decide (0 ≤ i) && decide (i < (len : Int))) (some (.pointer (some (aadd a (i.toNat * n))))) none
    | _ => none
  | _ => none
def ixS (n : Nat) (x i : Value) : Option Value :=
  match i with
  | .int _ i => match x with
    | .slice (some a) len _ => cond (decide (0 ≤ i) && decide (i < (len : Int))) (some (.pointer (some (aadd a (i.toNat * n))))) none
    | _ => none
  | _ => none
def ixStr (x i : Value) : Option Value :=
  match i with
  | .int _ i => match x with
    | .string s => cond (decide (0 ≤ i)) (match s.data.toList[i.toNat]? with
        | some b => some (.int .u8 b.toNat)
        | none => none) none
    | _ => none
  | _ => none
def lenS (x : Value) : Option Nat :=
  match x with
  | .slice _ n _ => some n
  | _ => none
def lenStr (x : Value) : Option Nat :=
  match x with
  | .string s => some s.size
  | _ => none
def fillP : List Value → List (Nat × Nat × Value) → Option (List Value)
  | cs, [] => some cs
  | cs, (off, size, v) :: rest => cond (Nat.beq (cellsL v).length size) (match overwrite cs off (cellsL v) with
      | some cs' => fillP cs' rest
      | none => none) none
def al (nm : Nat) (cs : List Value) (e : TypeId) (H : AH) (k : Value → AH → Prop) : Prop := k (.pointer (some ⟨nm, 0, some 0⟩)) (newRowA H nm cs e)
def alS (nm len : Nat) (cs : List Value) (e : TypeId) (H : AH) (k : Value → AH → Prop) : Prop := k (.slice (some ⟨nm, 0, some 0⟩) len len) (newRowA H nm cs e)
def alM (nm : Nat) (H : AH) (k : Value → AH → Prop) : Prop := k (.map (some nm)) (H.set nm (some (.map [] 0)))
def gw (x : Value) (want : Bool) : Bool :=
  match x with
  | .bool b => b == want
  | _ => false
def cvBS (w0 : World) (x : Value) (H : AH) : Option (Value × AH) :=
  match x with
  | .slice none _ _ => some (.string .empty, H)
  | .slice (some a) len _ => ((rdCells w0 H a len).bind bytesOfCells).map fun l => (.string ⟨⟨l⟩⟩, H)
  | _ => none
def cvSB (e : TypeId) (nm : Nat) (x : Value) (H : AH) : Option (Value × AH) :=
  match x with
  | .string s => some (.slice (some ⟨nm, 0, some 0⟩) s.size capU, newRowA H nm (cellsOfBytes s) e)
  | _ => none
def gbin (P : Program) (op : BinOp) (t : TypeId) (x y : Value) (yt ty : TypeId) : Option Value :=
  groundOp P ⟨none, .binOp op t (.tmp 0) (.tmp 1) yt, ty, "", #[], none⟩ (fun | .tmp 0 => x | _ => y)
def eqC (P : Program) (op : BinOp) (t : TypeId) (cx : Bool) (x : Value) (cy : Bool) (y : Value) (yt ty : TypeId) : Option Value :=
  match (match op with
    | .eql => cond (cx || cy) ((nilEq P t x y).map .bool) none
    | .neq => cond (cx || cy) ((nilEq P t x y).map fun b => .bool (!b)) none
    | _ => none) with
  | some v => some v
  | none => gbin P op t x y yt ty
def gun (P : Program) (op : UnOp) (t : TypeId) (x : Value) (ty : TypeId) : Option Value :=
  groundOp P ⟨none, .unOp op t (.tmp 0), ty, "", #[], none⟩ (fun _ => x)
def gcv (P : Program) (s d : TypeId) (x : Value) (ty : TypeId) : Option Value :=
  groundOp P ⟨none, .convert s d (.tmp 0), ty, "", #[], none⟩ (fun _ => x)

end Go.Sim
