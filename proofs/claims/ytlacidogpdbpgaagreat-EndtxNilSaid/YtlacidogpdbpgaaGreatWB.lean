/-
  What a run comes to, as rules: code, operations, calls, each from what is asked behind it.
-/
import Derived.Test.YtlacidogpdbpgaaGreatWA
namespace Go.Sim
open Go
set_option linter.unusedSimpArgs false
set_option linter.unusedVariables false

section
variable (P : Program) (w0 : World) (call : CallA)

/-- an operation, its operands read by a function -/
def aOpR (nm : Nat) (o : Oper) (ρ : Operand → Value) (H : AH) : Option (Value × AH) :=
  match o.op with
  | .move x | .assign x => some (ρ x, H)
  | .pick c a b => match ρ c with
    | .bool t => some (cond t (ρ a) (ρ b), H)
    | _ => none
  | .load t a => (aLoad P w0 t (ρ a) H).map fun v => (v, H)
  | .fieldAddr s x f => (aFieldAddr P s (ρ x) f).map fun v => (v, H)
  | .store t a x => (aStore P t (ρ a) (ρ x) H).map fun H' => (undef, H')
  | .indexAddr t x ix => (aIndexAddr P t (ρ x) (ρ ix)).map fun v => (v, H)
  | .nilCheck x => match ρ x with
    | .pointer (some a) => some (.pointer (some a), H)
    | .func (.func f) first cap => some (.func (.func f) first cap, H)
    | _ => none
  | .binOp op t x y _ =>
    match aBinOp P op t x y ρ with
    | some v => some (v, H)
    | none => (groundOp P o ρ).map fun v => (v, H)
  | .unOp _ _ _ => (groundOp P o ρ).map fun v => (v, H)
  | .extract t i => match ρ t with
    | .tuple vs => (vs.toList[i]?).map fun v => (v, H)
    | _ => none
  | .call c => aCall P w0 call c ρ nm o H
  | .alloc e => (zeroOf? P e).map fun z => (.pointer (some ⟨nm, 0, some 0⟩), newRowA H nm (cellsL z) e)
  | .box e x => match sizeOf? P e with
    | some _ => some (.pointer (some ⟨nm, 0, some 0⟩), newRowA H nm (cellsL (ρ x)) e)
    | none => none
  | .build t parts => (aBuild P t (parts.toList.map fun p => (p.1, ρ p.2))).map fun v => (v, H)
  | .buildSlice t len parts => (aBuildSlice P t len (parts.toList.map fun p => (p.1, ρ p.2))).map fun q => (.slice (some ⟨nm, 0, some 0⟩) len len, newRowA H nm q.1 q.2)
  | .convert s d x => aConvert P w0 s d x ρ o nm H
  | .sliceToArrayPointer arr x => match P.underlying arr, ρ x with
    | some (.array n _), .slice a len _ => cond (Nat.blt len n || Nat.beq n 0) none (some (.pointer a, H))
    | _, _ => none
  | .makeInterface t x => match P.underlying t with
    | some (.interface _) => none
    | some _ => some (.iface t (ρ x), H)
    | none => none
  | .makeFunc (.func f) first captured => some (.func (.func f) (first.map ρ) (captured.map ρ), H)
  | .makeMap t r => match r with
    | none => some (.map (some nm), H.set nm (some (.map [] 0)))
    | some x => match P.underlying t, ρ x with
      | some (.map _ _), .int _ _ => some (.map (some nm), H.set nm (some (.map [] 0)))
      | _, _ => none
  | .slice t x lo hi mx => (aSlice P t (ρ x) (lo.map ρ) (hi.map ρ) (mx.map ρ) H).map fun v => (v, H)
  | .field t x f => (aField P t (ρ x) f).map fun v => (v, H)
  | .index t x i => (aIndex P t (ρ x) (ρ i)).map fun v => (v, H)
  | .lookup t m k ok => (aLookup P t (ρ m) (ρ k) ok H).map fun v => (v, H)
  | .mapUpdate t m k v => (aMapUpdate P t (ρ m) (ρ k) (ρ v) H).map fun H' => (undef, H')
  | .insert t m k v => (aMapUpdate P t (ρ m) (ρ k) (ρ v) H).map fun H' => (undef, H')
  | .mapEntry t m k => aMapEntry P t (ρ m) (ρ k) H
  | .entryStore _ m s v => (aEntryStore (ρ m) (ρ s) (ρ v) H).map fun H' => (undef, H')
  | .typeAssert x _ asserted ok => match P.underlying asserted, ρ x with
    | some (.interface _), _ => none
    | some _, .iface t v => cond (Nat.beq t asserted) (some (cond ok (.tuple ⟨[v, .bool true]⟩) v, H))
        (cond ok ((zeroOf? P asserted).map fun z => (.tuple ⟨[z, .bool false]⟩, H)) none)
    | some _, .nilIface => cond ok ((zeroOf? P asserted).map fun z => (.tuple ⟨[z, .bool false]⟩, H)) none
    | _, _ => none
  | _ => none

theorem aOp_R (nm : Nat) (o : Oper) (T : Tmps) (H : AH) : aOp P w0 call nm o T H = aOpR P w0 call nm o (ev T) H := rfl
end

/-- temporaries as a function -/
abbrev Env := Nat → Value
def upd (E : Env) (d : Option Tmp) (v : Value) : Env :=
  match d with
  | some d => fun n => cond (Nat.beq n d) v (E n)
  | none => E
def evE (E : Env) : Operand → Value
  | .tmp t => E t
  | .const v => v
  | .global _ => .chan none
  | .func f => .func (.func f) #[] #[]
def argsE (args : List Value) : Env := fun n => args.getD n undef

structure TE (T : Tmps) (E : Env) : Prop where
  get : ∀ n, (T.get n).getD undef = E n

theorem TE.opd {T : Tmps} {E : Env} (h : TE T E) (x : Operand) : ev T x = evE E x := by
  cases x with
  | tmp t => exact h.get t
  | const v => rfl
  | global g => rfl
  | func f => rfl
theorem TE.evf {T : Tmps} {E : Env} (h : TE T E) : ev T = evE E := funext h.opd
theorem TE.put {T : Tmps} {E : Env} (h : TE T E) (d : Option Tmp) (v : Value) : TE (putT T d v) (upd E d v) := by
  constructor
  intro n
  cases d with
  | none => exact h.get n
  | some d =>
    simp only [putT, upd, Trie.get_set]
    by_cases hn : n = d
    · subst hn; simp
    · simp only [hn, if_false]; rw [nbeq hn]; exact h.get n
theorem TE.args (args : List Value) : TE (argsT args 0 .leaf) (argsE args) := by
  constructor
  intro n
  simp only [argsT_get, argsE, Nat.zero_le, true_and, Nat.zero_add, Nat.sub_zero]
  by_cases h : n < args.length
  · rw [if_pos h, List.getD_eq_getElem?_getD]
  · rw [if_neg h, List.getD_eq_getElem?_getD, List.getElem?_eq_none (by omega)]
    rfl

def wantedE (o : Oper) (ops : Array Oper) (E : Env) : Bool :=
  match o.guard with
  | none => true
  | some (j, want) =>
    match (ops[j]?).bind (·.dst) with
    | some d => match E d with
      | .bool b => b == want
      | _ => false
    | none => false

theorem TE.wanted {T : Tmps} {E : Env} (h : TE T E) (o : Oper) (ops : Array Oper) : wantedT o ops T = wantedE o ops E := by
  unfold wantedT wantedE
  cases o.guard with
  | none => rfl
  | some g =>
    obtain ⟨j, want⟩ := g
    simp only
    cases (ops[j]?).bind (·.dst) with
    | none => rfl
    | some d =>
      simp only
      rw [← h.get d]
      cases hd : T.get d with
      | none => rfl
      | some v => cases v <;> rfl

section
variable (P : Program) (pr : CallA) (w0 : World)

/-- a call's answer -/
def Run (f : FuncId) (args : List Value) (H : AH) (v : Value) (H' : AH) : Prop := ∃ K n, gFn P pr w0 K n f args H = some (v, H')

def CallW (f : FuncId) (args : List Value) (H : AH) (k : Value → AH → Prop) : Prop := ∃ v H', Run P pr w0 f args H v H' ∧ k v H'

def OpW (nm : Nat) (o : Oper) (E : Env) (H : AH) (k : Value → AH → Prop) : Prop :=
  ∃ K n v H', aOpR P w0 (gFn P pr w0 K n) nm o (evE E) H = some (v, H') ∧ k v H'

def WOps (ops : Array Oper) (os : List Oper) (nm : Nat) (Q : Env → AH → Prop) (E : Env) (H : AH) : Prop :=
  ∀ T, TE T E → ∃ K n T' H' E', aOps P w0 (gFn P pr w0 K n) ops os nm T H = some (T', H') ∧ TE T' E' ∧ Q E' H'

def Wg (sc : Option Code) (c : Code) (Q : Ex → Env → AH → Prop) (E : Env) (H : AH) : Prop :=
  ∀ T, TE T E → ∃ K n m ex T' H' E', aCode P w0 (gFn P pr w0 K n) m sc c T H = some (ex, T', H') ∧ TE T' E' ∧ Q ex E' H'

abbrev W (c : Code) (Q : Ex → Env → AH → Prop) (E : Env) (H : AH) : Prop := Wg P pr w0 none c Q E H

structure RecE where
  o : Oper
  nm : Nat
  want : Bool
  E : Env
  pre : AH
  v : Value
  post : AH

def againE (r : RecE) (H : AH) : Prop := ∃ v H', aOpR P w0 (fun _ _ _ => none) r.nm r.o (evE r.E) H = some (v, H') ∧ sameV v r.v = true

/-- what two operations that stand in no order must fulfil -/
def apartE (x y : RecE) : Prop :=
  x.want = false ∨ y.want = false ∨
  match clsOf P x.o.op, clsOf P y.o.op with
  | .read, .eff => againE P w0 x y.post
  | .eff, .read => againE P w0 y x.pre
  | .alloc, .eff => sameBlk (y.post.get x.nm) (x.post.get x.nm) = true
  | .eff, .alloc => x.pre.get y.nm = none
  | .eff, .eff => False
  | _, _ => True

def RecsE : List RecE → List Rec → Prop
  | [], [] => True
  | x :: xs, y :: ys => (x.o = y.o ∧ x.nm = y.nm ∧ x.want = y.want ∧ TE y.T x.E ∧ x.pre = y.pre ∧ x.v = y.v ∧ x.post = y.post) ∧ RecsE xs ys
  | _, _ => False

def WTr (ops : Array Oper) (os : List Oper) (nm : Nat) (Q : List RecE → Env → AH → Prop) (E : Env) (H : AH) : Prop :=
  ∀ T, TE T E → ∃ K n rs T' H' es E', aTrace P w0 (gFn P pr w0 K n) ops os nm T H = some (rs, T', H') ∧ RecsE es rs ∧ TE T' E' ∧ Q es E' H'

end

section
variable {P : Program} {pr : CallA} {w0 : World}

theorem fn_le {K K' n n' : Nat} (h : K ≤ K') (g : n ≤ n') : CallLe (gFn P pr w0 K n) (gFn P pr w0 K' n') := gFn_mono h n n' g
theorem fn_max₁ {K n : Nat} (K' n' : Nat) : CallLe (gFn P pr w0 K n) (gFn P pr w0 (max K K') (max n n')) := fn_le (by omega) (by omega)
theorem fn_max₂ {K n : Nat} (K' n' : Nat) : CallLe (gFn P pr w0 K n) (gFn P pr w0 (max K' K) (max n' n)) := fn_le (by omega) (by omega)

/-! ### code -/
theorem Wg.mono {sc : Option Code} {c : Code} {Q Q' : Ex → Env → AH → Prop} {E : Env} {H : AH} (h : Wg P pr w0 sc c Q E H) (hQ : ∀ ex E H, Q ex E H → Q' ex E H) : Wg P pr w0 sc c Q' E H :=
  fun T hT => let ⟨K, n, m, ex, T', H', E', h1, h2, h3⟩ := h T hT; ⟨K, n, m, ex, T', H', E', h1, h2, hQ _ _ _ h3⟩

theorem W_skip {Q : Ex → Env → AH → Prop} {E : Env} {H : AH} (h : Q .normal E H) : W P pr w0 .skip Q E H :=
  fun T hT => ⟨0, 0, 1, .normal, T, H, E, by simp [aCode], hT, h⟩
theorem W_label {Q : Ex → Env → AH → Prop} {E : Env} {H : AH} {l : Nat} (h : Q .normal E H) : W P pr w0 (.label l) Q E H :=
  fun T hT => ⟨0, 0, 1, .normal, T, H, E, by simp [aCode], hT, h⟩
theorem W_exit {Q : Ex → Env → AH → Prop} {E : Env} {H : AH} {i : Nat} (h : Q (.exit i) E H) : W P pr w0 (.exit i) Q E H :=
  fun T hT => ⟨0, 0, 1, .exit i, T, H, E, by simp [aCode], hT, h⟩
theorem W_goto {Q : Ex → Env → AH → Prop} {E : Env} {H : AH} {i : Nat} (h : Q (.goto i) E H) : W P pr w0 (.goto i) Q E H :=
  fun T hT => ⟨0, 0, 1, .goto i, T, H, E, by simp [aCode], hT, h⟩
theorem W_ret {Q : Ex → Env → AH → Prop} {E : Env} {H : AH} (h : Q .ret E H) : W P pr w0 .ret Q E H :=
  fun T hT => ⟨0, 0, 1, .ret, T, H, E, by simp [aCode], hT, h⟩

def andThen (k : Env → AH → Prop) (Q : Ex → Env → AH → Prop) : Ex → Env → AH → Prop
  | .normal, E, H => k E H
  | e, E, H => Q e E H

theorem W_seq {a b : Code} {Q : Ex → Env → AH → Prop} {E : Env} {H : AH} (h : W P pr w0 a (andThen (W P pr w0 b Q) Q) E H) : W P pr w0 (.seq a b) Q E H := by
  intro T hT
  obtain ⟨K, n, m, ex, T1, H1, E1, h1, h2, h3⟩ := h T hT
  cases ex with
  | normal =>
    obtain ⟨K', n', m', ex', T2, H2, E2, g1, g2, g3⟩ := h3 T1 h2
    refine ⟨max K K', max n n', max m m' + 1, ex', T2, H2, E2, ?_, g2, g3⟩
    simp only [aCode]
    rw [aCode_mono (fn_max₁ K' n') m (max m m') none a T H _ h1 (by omega)]
    exact aCode_mono (fn_max₂ K n) m' (max m m') none b T1 H1 _ g1 (by omega)
  | exit i => exact ⟨K, n, m + 1, .exit i, T1, H1, E1, by simp [aCode, h1], h2, h3⟩
  | goto i => exact ⟨K, n, m + 1, .goto i, T1, H1, E1, by simp [aCode, h1], h2, h3⟩
  | ret => exact ⟨K, n, m + 1, .ret, T1, H1, E1, by simp [aCode, h1], h2, h3⟩

theorem W_cond {x : Operand} {a b : Code} {Q : Ex → Env → AH → Prop} {E : Env} {H : AH} (t : Bool) (ht : evE E x = .bool t) (ha : t = true → W P pr w0 a Q E H) (hb : t = false → W P pr w0 b Q E H) : W P pr w0 (.cond x a b) Q E H := by
  intro T hT
  cases t with
  | true =>
    obtain ⟨K, n, m, ex, T1, H1, E1, h1, h2, h3⟩ := ha rfl T hT
    exact ⟨K, n, m + 1, ex, T1, H1, E1, by simp only [aCode, hT.opd, ht]; exact h1, h2, h3⟩
  | false =>
    obtain ⟨K, n, m, ex, T1, H1, E1, h1, h2, h3⟩ := hb rfl T hT
    exact ⟨K, n, m + 1, ex, T1, H1, E1, by simp only [aCode, hT.opd, ht]; exact h1, h2, h3⟩

def outOf (id : Nat) (Q : Ex → Env → AH → Prop) : Ex → Env → AH → Prop
  | .exit i, E, H => cond (Nat.beq i id) (Q .normal E H) (Q (.exit i) E H)
  | e, E, H => Q e E H

theorem W_block {id : Nat} {c : Code} {Q : Ex → Env → AH → Prop} {E : Env} {H : AH} (h : W P pr w0 c (outOf id Q) E H) : W P pr w0 (.block id c) Q E H := by
  intro T hT
  obtain ⟨K, n, m, ex, T1, H1, E1, h1, h2, h3⟩ := h T hT
  cases ex with
  | exit i =>
    simp only [outOf] at h3
    cases hi : Nat.beq i id with
    | true => rw [hi] at h3; exact ⟨K, n, m + 1, .normal, T1, H1, E1, by simp [aCode, h1, hi], h2, h3⟩
    | false => rw [hi] at h3; exact ⟨K, n, m + 1, .exit i, T1, H1, E1, by simp [aCode, h1, hi], h2, h3⟩
  | normal => exact ⟨K, n, m + 1, .normal, T1, H1, E1, by simp [aCode, h1], h2, h3⟩
  | goto i => exact ⟨K, n, m + 1, .goto i, T1, H1, E1, by simp [aCode, h1], h2, h3⟩
  | ret => exact ⟨K, n, m + 1, .ret, T1, H1, E1, by simp [aCode, h1], h2, h3⟩

def again' (c : Code) (I : Nat → Env → AH → Prop) (n : Nat) (Q : Ex → Env → AH → Prop) : Ex → Env → AH → Prop := andThen (fun E H => ∃ m, m < n ∧ I m E H) Q

/-- a loop, by what holds ahead of each round: its number falls -/
theorem W_loop {c : Code} {Q : Ex → Env → AH → Prop} (I : Nat → Env → AH → Prop) (hI : ∀ n E H, I n E H → W P pr w0 c (andThen (fun E H => ∃ m, m < n ∧ I m E H) Q) E H) : ∀ (n : Nat) (E : Env) (H : AH), I n E H → W P pr w0 (.loop c) Q E H := by
  intro n
  induction n using Nat.strongRecOn with
  | _ n ih =>
    intro E H h T hT
    obtain ⟨K, k, m, ex, T1, H1, E1, h1, h2, h3⟩ := hI n E H h T hT
    cases ex with
    | normal =>
      obtain ⟨j, hj, hIj⟩ := h3
      obtain ⟨K', k', m', ex', T2, H2, E2, g1, g2, g3⟩ := ih j hj E1 H1 hIj T1 h2
      refine ⟨max K K', max k k', max m m' + 1, ex', T2, H2, E2, ?_, g2, g3⟩
      simp only [aCode]
      rw [aCode_mono (fn_max₁ K' k') m (max m m') none c T H _ h1 (by omega)]
      exact aCode_mono (fn_max₂ K k) m' (max m m') none (.loop c) T1 H1 _ g1 (by omega)
    | exit i => exact ⟨K, k, m + 1, .exit i, T1, H1, E1, by simp [aCode, h1], h2, h3⟩
    | goto i => exact ⟨K, k, m + 1, .goto i, T1, H1, E1, by simp [aCode, h1], h2, h3⟩
    | ret => exact ⟨K, k, m + 1, .ret, T1, H1, E1, by simp [aCode, h1], h2, h3⟩

def jumped (body : Code) (k : Code → Env → AH → Prop) (Q : Ex → Env → AH → Prop) : Ex → Env → AH → Prop
  | .goto l, E, H => match findLabel body l with
    | some rest => k rest E H
    | none => Q (.goto l) E H
  | e, E, H => Q e E H

theorem W_sc {body c : Code} {Q : Ex → Env → AH → Prop} {E : Env} {H : AH} (h : W P pr w0 c (jumped body (fun rest E H => Wg P pr w0 (some body) rest Q E H) Q) E H) : Wg P pr w0 (some body) c Q E H := by
  intro T hT
  obtain ⟨K, n, m, ex, T1, H1, E1, h1, h2, h3⟩ := h T hT
  cases ex with
  | goto l =>
    simp only [jumped] at h3
    cases hf : findLabel body l with
    | none => rw [hf] at h3; exact ⟨K, n, m + 1, .goto l, T1, H1, E1, by simp [aCode, h1, hf], h2, h3⟩
    | some rest =>
      rw [hf] at h3
      obtain ⟨K', n', m', ex', T2, H2, E2, g1, g2, g3⟩ := h3 T1 h2
      refine ⟨max K K', max n n', max m m' + 1, ex', T2, H2, E2, ?_, g2, g3⟩
      simp only [aCode]
      rw [aCode_mono (fn_max₁ K' n') m (max m m') none c T H _ h1 (by omega)]
      simp only [hf]
      exact aCode_mono (fn_max₂ K n) m' (max m m') _ _ T1 H1 _ g1 (by omega)
  | exit i => exact ⟨K, n, m + 1, .exit i, T1, H1, E1, by simp [aCode, h1], h2, h3⟩
  | normal => exact ⟨K, n, m + 1, .normal, T1, H1, E1, by simp [aCode, h1], h2, h3⟩
  | ret => exact ⟨K, n, m + 1, .ret, T1, H1, E1, by simp [aCode, h1], h2, h3⟩

theorem W_scope {body : Code} {Q : Ex → Env → AH → Prop} {E : Env} {H : AH} (h : Wg P pr w0 (some body) body Q E H) : W P pr w0 (.scope body) Q E H :=
  fun T hT => let ⟨K, n, m, ex, T', H', E', h1, h2, h3⟩ := h T hT; ⟨K, n, m + 1, ex, T', H', E', by simp only [aCode]; exact h1, h2, h3⟩

/-! ### operations -/
theorem WOps_nil {ops : Array Oper} {nm : Nat} {Q : Env → AH → Prop} {E : Env} {H : AH} (h : Q E H) : WOps P pr w0 ops [] nm Q E H :=
  fun T hT => ⟨0, 0, T, H, E, rfl, hT, h⟩

theorem WOps_skip {ops : Array Oper} {o : Oper} {os : List Oper} {nm : Nat} {Q : Env → AH → Prop} {E : Env} {H : AH} (hw : wantedE o ops E = false) (h : WOps P pr w0 ops os (nm + 1) Q (upd E o.dst undef) H) : WOps P pr w0 ops (o :: os) nm Q E H := by
  intro T hT
  obtain ⟨K, n, T', H', E', h1, h2, h3⟩ := h _ (hT.put o.dst undef)
  exact ⟨K, n, T', H', E', by simp only [aOps, hT.wanted, hw]; exact h1, h2, h3⟩

theorem WOps_cons {ops : Array Oper} {o : Oper} {os : List Oper} {nm : Nat} {Q : Env → AH → Prop} {E : Env} {H : AH} (hw : wantedE o ops E = true)
    (h : OpW P pr w0 nm o E H fun v H' => WOps P pr w0 ops os (nm + 1) Q (upd E o.dst v) H') : WOps P pr w0 ops (o :: os) nm Q E H := by
  intro T hT
  obtain ⟨K, n, v, H1, h1, h2⟩ := h
  obtain ⟨K', n', T', H', E', g1, g2, g3⟩ := h2 _ (hT.put o.dst v)
  refine ⟨max K K', max n n', T', H', E', ?_, g2, g3⟩
  simp only [aOps, hT.wanted, hw, cond_true]
  rw [← hT.evf, ← aOp_R] at h1
  rw [aOp_mono (fn_max₁ K' n') h1]
  exact aOps_mono (fn_max₂ K n) _ _ _ _ _ g1

theorem W_region {id : Nat} {ops : Array Oper} {Q : Ex → Env → AH → Prop} {E : Env} {H : AH} (h : WOps P pr w0 ops ops.toList H.next (fun E H => Q .normal E H) E ⟨H.next + ops.size, H.blk⟩) : W P pr w0 (.region id ops false) Q E H := by
  intro T hT
  obtain ⟨K, n, T', H', E', h1, h2, h3⟩ := h T hT
  exact ⟨K, n, 1, .normal, T', H', E', by simp only [aCode, aRegion, cond_false, h1]; rfl, h2, h3⟩

theorem OpW_pure {nm : Nat} {o : Oper} {E : Env} {H H' : AH} {v : Value} {k : Value → AH → Prop} (h : aOpR P w0 (fun _ _ _ => none) nm o (evE E) H = some (v, H')) (hk : k v H') : OpW P pr w0 nm o E H k := by
  refine ⟨0, 0, v, H', ?_, hk⟩
  have : gFn P pr w0 0 0 = fun _ _ _ => none := by funext f a H; simp [gFn]
  rw [this]
  exact h

theorem OpW_call {nm : Nat} {c : Call} {dst : Option Tmp} {type : TypeId} {pos : String} {after : Array Edge} {guard : Option (Nat × Bool)} {E : Env} {H : AH} {k : Value → AH → Prop} {f : Operand} {g : FuncId} {first captured : Array Value}
    (hc : c.callee = .value f) (hv : evE E f = .func (.func g) first captured) (hg : goesInto P g = true) (h : CallW P pr w0 g (first.toList ++ c.args.toList.map (evE E) ++ captured.toList) H k) : OpW P pr w0 nm ⟨dst, .call c, type, pos, after, guard⟩ E H k := by
  obtain ⟨v, H', ⟨K, n, h1⟩, h2⟩ := h
  exact ⟨K, n, v, H', by simp only [aOpR, aCall, hc, hv, hg, cond_true]; exact h1, h2⟩

theorem OpW_invoke {nm : Nat} {c : Call} {dst : Option Tmp} {type : TypeId} {pos : String} {after : Array Edge} {guard : Option (Nat × Bool)} {E : Env} {H : AH} {k : Value → AH → Prop} {x : Operand} {name : String} {g : FuncId} {u : Value}
    (hc : c.callee = .invoke x name) (hv : methodA P (evE E x) name = some (g, u)) (hg : goesInto P g = true) (h : CallW P pr w0 g (u :: c.args.toList.map (evE E)) H k) : OpW P pr w0 nm ⟨dst, .call c, type, pos, after, guard⟩ E H k := by
  obtain ⟨v, H', ⟨K, n, h1⟩, h2⟩ := h
  exact ⟨K, n, v, H', by simp only [aOpR, aCall, hc, hv, hg, cond_true]; exact h1, h2⟩

/-! ### regions whose order is drawn -/
theorem WTr_nil {ops : Array Oper} {nm : Nat} {Q : List RecE → Env → AH → Prop} {E : Env} {H : AH} (h : Q [] E H) : WTr P pr w0 ops [] nm Q E H :=
  fun T hT => ⟨0, 0, [], T, H, [], E, rfl, trivial, hT, h⟩

theorem WTr_skip {ops : Array Oper} {o : Oper} {os : List Oper} {nm : Nat} {Q : List RecE → Env → AH → Prop} {E : Env} {H : AH} (hw : wantedE o ops E = false)
    (h : WTr P pr w0 ops os (nm + 1) (fun es => Q (⟨o, nm, false, E, H, undef, H⟩ :: es)) (upd E o.dst undef) H) : WTr P pr w0 ops (o :: os) nm Q E H := by
  intro T hT
  obtain ⟨K, n, rs, T', H', es, E', h1, h2, h3, h4⟩ := h _ (hT.put o.dst undef)
  exact ⟨K, n, ⟨o, nm, false, T, H, undef, H⟩ :: rs, T', H', ⟨o, nm, false, E, H, undef, H⟩ :: es, E', by simp only [aTrace, hT.wanted, hw, cond_false, h1, Option.map_some], ⟨⟨rfl, rfl, rfl, hT, rfl, rfl, rfl⟩, h2⟩, h3, h4⟩

theorem WTr_cons {ops : Array Oper} {o : Oper} {os : List Oper} {nm : Nat} {Q : List RecE → Env → AH → Prop} {E : Env} {H : AH} (hw : wantedE o ops E = true) (hn : nameOk P o nm H = true)
    (h : OpW P pr w0 nm o E H fun v H' => WTr P pr w0 ops os (nm + 1) (fun es => Q (⟨o, nm, true, E, H, v, H'⟩ :: es)) (upd E o.dst v) H') : WTr P pr w0 ops (o :: os) nm Q E H := by
  intro T hT
  obtain ⟨K, n, v, H1, h1, h2⟩ := h
  obtain ⟨K', n', rs, T', H', es, E', g1, g2, g3, g4⟩ := h2 _ (hT.put o.dst v)
  refine ⟨max K K', max n n', ⟨o, nm, true, T, H, v, H1⟩ :: rs, T', H', ⟨o, nm, true, E, H, v, H1⟩ :: es, E', ?_, ⟨⟨rfl, rfl, rfl, hT, rfl, rfl, rfl⟩, g2⟩, g3, g4⟩
  simp only [aTrace, hT.wanted, hw, cond_true, hn]
  rw [← hT.evf, ← aOp_R] at h1
  rw [aOp_mono (fn_max₁ K' n') h1]
  simp only
  rw [aTrace_mono (fn_max₂ K n) _ _ _ _ _ g1]
  rfl

theorem again_of_E {x : RecE} {y : Rec} {H : AH} {call : CallA} (h : x.o = y.o ∧ x.nm = y.nm ∧ x.want = y.want ∧ TE y.T x.E ∧ x.pre = y.pre ∧ x.v = y.v ∧ x.post = y.post) (e : againE P w0 x H) : again P w0 call y H = true := by
  obtain ⟨h1, h2, h3, h4, h5, h6, h7⟩ := h
  obtain ⟨v, H', g1, g2⟩ := e
  rw [h1, h2, ← h4.evf, ← aOp_R] at g1
  have hle : CallLe (fun _ _ _ => none) call := fun _ _ _ _ h => by cases h
  unfold again
  rw [aOp_mono hle g1]
  rw [h6] at g2
  exact g2

/-- may the one see what the other one does? -/
def clash : Cls → Cls → Bool
  | .read, .eff | .eff, .read | .alloc, .eff | .eff, .alloc | .eff, .eff => true
  | _, _ => false

/-- the pairs of a region that must not meddle: those in no order, of which one does something that the other one could see -/
def needs (P : Program) (all : List Oper) : List Oper → List Nat → Nat → List (Nat × Nat)
  | y :: ys, m :: ms, j => (((List.range j).filter fun i => !(m.testBit i) && (match all[i]? with
      | some x => clash (clsOf P x.op) (clsOf P y.op)
      | none => false)).map fun i => (i, j)) ++ needs P all ys ms (j + 1)
  | _, _, _ => []

theorem rowOk_of {α : Type} {f : α → α → Bool} {y : α} {m : Nat} : ∀ (xs : List α) (i : Nat), (∀ k x, xs[k]? = some x → m.testBit (i + k) = true ∨ f x y = true) → rowOk f y m xs i = true
  | [], _, _ => rfl
  | x :: xs, i, h => by
    simp only [rowOk, Bool.and_eq_true, Bool.or_eq_true]
    exact ⟨h 0 x rfl, rowOk_of xs (i + 1) fun k x hk => by have := h (k + 1) x hk; rwa [show i + 1 + k = i + (k + 1) by omega]⟩

theorem pairsOk_of {α : Type} {f : α → α → Bool} {all : List α} : ∀ (ys : List α) (ms : List Nat) (j : Nat),
    (∀ k y m, ys[k]? = some y → ms[k]? = some m → ∀ i x, i < j + k → all[i]? = some x → m.testBit i = true ∨ f x y = true) → pairsOk f all ys ms j = true
  | [], _, _, _ => by simp [pairsOk]
  | _ :: _, [], _, _ => by simp [pairsOk]
  | y :: ys, m :: ms, j, h => by
    simp only [pairsOk, Bool.and_eq_true]
    refine ⟨rowOk_of _ 0 fun k x hk => ?_, pairsOk_of ys ms (j + 1) fun k y' m' hy hm i x hi hx => h (k + 1) y' m' hy hm i x (by omega) hx⟩
    rw [List.getElem?_take] at hk
    split at hk
    · rename_i hlt
      simpa using h 0 y m rfl rfl k x (by omega) hk
    · cases hk

theorem needs_mem {all : List Oper} : ∀ (ys : List Oper) (ms : List Nat) (j k : Nat) (y : Oper) (m i : Nat) (x : Oper), ys[k]? = some y → ms[k]? = some m → i < j + k → all[i]? = some x → m.testBit i = false →
    clash (clsOf P x.op) (clsOf P y.op) = true → (i, j + k) ∈ needs P all ys ms j
  | [], _, _, _, _, _, _, _, h, _, _, _, _, _ => by simp at h
  | _ :: _, [], _, _, _, _, _, _, _, h, _, _, _, _ => by simp at h
  | y' :: ys, m' :: ms, j, 0, y, m, i, x, hy, hm, hi, hx, ht, hc => by
    simp only [List.getElem?_cons_zero, Option.some.injEq] at hy hm
    subst hy hm
    simp only [needs, List.mem_append, List.mem_map, List.mem_filter, List.mem_range]
    exact .inl ⟨i, ⟨by omega, by simp [ht, hx, hc]⟩, rfl⟩
  | y' :: ys, m' :: ms, j, k + 1, y, m, i, x, hy, hm, hi, hx, ht, hc => by
    simp only [needs, List.mem_append]
    have := needs_mem ys ms (j + 1) k y m i x (by simpa using hy) (by simpa using hm) (by omega) hx ht hc
    rw [show j + (k + 1) = j + 1 + k by omega]
    exact .inr this

theorem aTrace_ops {call : CallA} {ops : Array Oper} : ∀ (os : List Oper) (nm : Nat) (T : Tmps) (H : AH) (rs : List Rec) (T' : Tmps) (H' : AH), aTrace P w0 call ops os nm T H = some (rs, T', H') → rs.map (·.o) = os
  | [], _, _, _, rs, _, _, e => by
    simp only [aTrace, Option.some.injEq, Prod.mk.injEq] at e
    rw [← e.1]; rfl
  | o :: os, nm, T, H, rs, T', H', e => by
    simp only [aTrace] at e
    cases hw : wantedT o ops T with
    | false =>
      rw [hw] at e
      simp only [cond_false, Option.map_eq_some_iff, Prod.mk.injEq] at e
      obtain ⟨⟨q, T2, H2⟩, hq, rfl, h⟩ := e
      simp only [Prod.mk.injEq] at h
      rw [List.map_cons, aTrace_ops os _ _ _ q T2 H2 hq]
    | true =>
      rw [hw] at e
      simp only [cond_true] at e
      cases hn : nameOk P o nm H with
      | false => rw [hn] at e; cases e
      | true =>
        rw [hn] at e
        simp only [cond_true] at e
        cases ho : aOp P w0 call nm o T H with
        | none => rw [ho] at e; cases e
        | some q =>
          rw [ho] at e
          simp only [Option.map_eq_some_iff, Prod.mk.injEq] at e
          obtain ⟨⟨q', T2, H2⟩, hq, rfl, h⟩ := e
          rw [List.map_cons, aTrace_ops os _ _ _ q' T2 H2 hq]

def apartAll (P : Program) (w0 : World) (ns : List (Nat × Nat)) (es : List RecE) : Prop := ∀ p ∈ ns, ∀ x y, es[p.1]? = some x → es[p.2]? = some y → apartE P w0 x y

theorem RecsE.get : ∀ {es : List RecE} {rs : List Rec}, RecsE es rs → ∀ {i : Nat} {r : Rec}, rs[i]? = some r → ∃ x, es[i]? = some x ∧ (x.o = r.o ∧ x.nm = r.nm ∧ x.want = r.want ∧ TE r.T x.E ∧ x.pre = r.pre ∧ x.v = r.v ∧ x.post = r.post)
  | [], [], _, i, r, h => by simp at h
  | x :: xs, y :: ys, hr, 0, r, h => by
    simp only [List.getElem?_cons_zero, Option.some.injEq] at h
    subst h
    exact ⟨x, rfl, hr.1⟩
  | x :: xs, y :: ys, hr, i + 1, r, h => by
    have := RecsE.get (es := xs) (rs := ys) hr.2 (i := i) (r := r) (by simpa using h)
    simpa using this
  | [], _ :: _, hr, _, _, _ => hr.elim
  | _ :: _, [], hr, _, _, _ => hr.elim

theorem W_region_draw {id : Nat} {ops : Array Oper} {Q : Ex → Env → AH → Prop} {E : Env} {H : AH} (ns : List (Nat × Nat)) (hd : drawOk ops = true) (hns : needs P ops.toList ops.toList (befores ops.toList []) 0 = ns)
    (h : WTr P pr w0 ops ops.toList H.next (fun es E H => apartAll P w0 ns es ∧ Q .normal E H) E ⟨H.next + ops.size, H.blk⟩) : W P pr w0 (.region id ops true) Q E H := by
  intro T hT
  obtain ⟨K, n, rs, T', H', es, E', h1, h2, h3, h4, h5⟩ := h T hT
  refine ⟨K, n, 1, .normal, T', H', E', ?_, h3, h5⟩
  have hmap := aTrace_ops _ _ _ _ _ _ _ h1
  have hp : pairsOk (fun x y => !x.want || !y.want || meddleNot P w0 (gFn P pr w0 K n) x y) rs rs (befores ops.toList []) 0 = true := by
    refine pairsOk_of _ _ _ fun k y m hy hm i x hi hx => ?_
    cases ht : m.testBit i with
    | true => exact .inl rfl
    | false =>
      refine .inr ?_
      simp only [Nat.zero_add] at hi
      obtain ⟨ex, gx, ox⟩ := h2.get hx
      obtain ⟨ey, gy, oy⟩ := h2.get hy
      have mx : ops.toList[i]? = some x.o := by rw [← hmap]; simp [hx]
      have my : ops.toList[k]? = some y.o := by rw [← hmap]; simp [hy]
      cases hc : clash (clsOf P x.o.op) (clsOf P y.o.op) with
      | false =>
        have : meddleNot P w0 (gFn P pr w0 K n) x y = true := by
          unfold meddleNot
          cases h1 : clsOf P x.o.op <;> cases h2 : clsOf P y.o.op <;> simp_all [clash]
        simp [this]
      | true =>
        have hmem := needs_mem (P := P) (all := ops.toList) ops.toList (befores ops.toList []) 0 k y.o m i x.o my hm (by omega) mx ht hc
        rw [hns, Nat.zero_add] at hmem
        have := h4 _ hmem ex ey gx gy
        unfold apartE at this
        rcases this with hw | hw | hw
        · rw [ox.2.2.1] at hw; simp [hw]
        · rw [oy.2.2.1] at hw; simp [hw]
        · rw [ox.1, oy.1] at hw
          have : meddleNot P w0 (gFn P pr w0 K n) x y = true := by
            unfold meddleNot
            cases hcx : clsOf P x.o.op <;> cases hcy : clsOf P y.o.op <;> rw [hcx, hcy] at hw <;> simp only at hw ⊢
            · rw [oy.2.2.2.2.2.2] at hw; exact again_of_E ox hw
            · rw [oy.2.2.2.2.2.2, ox.2.1, ox.2.2.2.2.2.2] at hw; exact hw
            · rw [ox.2.2.2.2.1] at hw; exact again_of_E oy hw
            · rw [ox.2.2.2.2.1, oy.2.1] at hw; simp [hw]
          simp [this]
  simp only [aCode, aRegion, cond_true, h1]
  rw [hd, hp]
  rfl

/-! ### functions -/
def resE (P : Program) (w0 : World) (E : Env) (H : AH) : List ResultVar → Option (List Value)
  | [] => some []
  | r :: rs => match (match r with
      | .tmp t => some (E t)
      | .cell a t => aLoad P w0 t (E a) H), resE P w0 E H rs with
    | some v, some vs => some (v :: vs)
    | _, _ => none

theorem res_TE {T : Tmps} {E : Env} (h : TE T E) (H : AH) : ∀ rs : List ResultVar, aResults P w0 T H rs = resE P w0 E H rs
  | [] => rfl
  | r :: rs => by
    simp only [aResults, resE, res_TE h H rs]
    cases r <;> simp only [aResult, h.get] <;> rfl

/-- what a function owes at its end -/
def atEnd (P : Program) (w0 : World) (rs : List ResultVar) (k : Value → AH → Prop) : Ex → Env → AH → Prop
  | .normal, E, H | .ret, E, H => ∃ vs, resE P w0 E H rs = some vs ∧ k (packed vs) H
  | _, _, _ => False

theorem call_intro {f : FuncId} {args : List Value} {H : AH} {k : Value → AH → Prop} {fn : Func} {c : Code} (hp : pr f args H = none) (hf : P.funcs[f]? = some fn) (hb : fn.body = some c) (hok : fnOk fn = true) (hlen : Nat.ble args.length fn.ntmps = true)
    (h : W P pr w0 c (atEnd P w0 fn.results.toList k) (argsE args) H) : CallW P pr w0 f args H k := by
  obtain ⟨K, n, m, ex, T', H', E', h1, h2, h3⟩ := h _ (TE.args args)
  have hgo : ∀ vs, resE P w0 E' H' fn.results.toList = some vs → (ex = .normal ∨ ex = .ret) → Run P pr w0 f args H (packed vs) H' := by
    intro vs hvs hex
    refine ⟨max K m, n + 1, ?_⟩
    simp only [gFn, hp, hf, hb, hok, hlen, Bool.and_self, cond_true]
    rw [aCode_mono (fn_le (by omega) (Nat.le_refl n)) m (max K m) none c _ H _ h1 (by omega)]
    rcases hex with rfl | rfl <;> simp [res_TE h2, hvs]
  cases ex with
  | normal =>
    obtain ⟨vs, g1, g2⟩ := h3
    exact ⟨_, H', hgo vs g1 (.inl rfl), g2⟩
  | ret =>
    obtain ⟨vs, g1, g2⟩ := h3
    exact ⟨_, H', hgo vs g1 (.inr rfl), g2⟩
  | exit i => exact h3.elim
  | goto i => exact h3.elim

theorem call_prim {f : FuncId} {args : List Value} {H H' : AH} {k : Value → AH → Prop} {v : Value} (hp : pr f args H = some (v, H')) (hk : k v H') : CallW P pr w0 f args H k :=
  ⟨v, H', ⟨0, 1, by simp [gFn, hp]⟩, hk⟩

end
end Go.Sim
