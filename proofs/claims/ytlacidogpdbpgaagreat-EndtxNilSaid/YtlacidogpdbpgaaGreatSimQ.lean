/-
  What an operation's class says of it.
-/
import Derived.Test.YtlacidogpdbpgaaGreatSimP
namespace Go.Sim
open Go
set_option linter.unusedSimpArgs false
set_option linter.unusedVariables false

variable {P : Program} {w0 : World} {call : CallA}

theorem map_pair {x : Option Value} {H H' : AH} {v : Value} (h : (x.map fun v => (v, H)) = some (v, H')) : H' = H ∧ x = some v := by
  simp only [Option.map_eq_some_iff, Prod.mk.injEq] at h
  obtain ⟨u, h1, rfl, rfl⟩ := h
  exact ⟨rfl, h1⟩

theorem map_pair_mk {x : Option Value} {v : Value} (h : x = some v) (H : AH) : (x.map fun v => (v, H)) = some (v, H) := by rw [h]; rfl

theorem aOp_pure {o : Oper} {T : Tmps} {nm : Nat} {H H' : AH} {v : Value} (hc : clsOf P o.op = .pure) (h : aOp P w0 call nm o T H = some (v, H')) :
    H' = H ∧ ∀ nm2 H2, aOp P w0 call nm2 o T H2 = some (v, H2) := by
  unfold aOp at h ⊢
  dsimp only at h ⊢
  cases ho : o.op with
  | move x => rw [ho] at h; simp only [Option.some.injEq, Prod.mk.injEq] at h ⊢; obtain ⟨rfl, rfl⟩ := h; simp
  | assign x => rw [ho] at h; simp only [Option.some.injEq, Prod.mk.injEq] at h ⊢; obtain ⟨rfl, rfl⟩ := h; simp
  | pick c a b =>
    rw [ho] at h
    simp only at h ⊢
    split at h
    · simp only [Option.some.injEq, Prod.mk.injEq] at h ⊢; obtain ⟨rfl, rfl⟩ := h; simp
    · simp at h
  | fieldAddr s x f => rw [ho] at h; obtain ⟨rfl, h2⟩ := map_pair h; exact ⟨rfl, fun _ H2 => map_pair_mk h2 H2⟩
  | indexAddr t x ix => rw [ho] at h; obtain ⟨rfl, h2⟩ := map_pair h; exact ⟨rfl, fun _ H2 => map_pair_mk h2 H2⟩
  | nilCheck x =>
    rw [ho] at h
    simp only at h ⊢
    split at h
    · simp only [Option.some.injEq, Prod.mk.injEq] at h ⊢; obtain ⟨rfl, rfl⟩ := h; simp
    · simp only [Option.some.injEq, Prod.mk.injEq] at h ⊢; obtain ⟨rfl, rfl⟩ := h; simp
    · simp at h
  | binOp op t x y yt =>
    rw [ho] at h
    simp only at h ⊢
    split at h
    · simp only [Option.some.injEq, Prod.mk.injEq] at h ⊢; obtain ⟨rfl, rfl⟩ := h; simp
    · obtain ⟨rfl, h2⟩ := map_pair h; exact ⟨rfl, fun _ H2 => map_pair_mk h2 H2⟩
  | unOp op t x => rw [ho] at h; obtain ⟨rfl, h2⟩ := map_pair h; exact ⟨rfl, fun _ H2 => map_pair_mk h2 H2⟩
  | extract t i =>
    rw [ho] at h
    simp only at h ⊢
    split at h
    · obtain ⟨rfl, h2⟩ := map_pair h; exact ⟨rfl, fun _ H2 => map_pair_mk h2 H2⟩
    · simp at h
  | build t parts => rw [ho] at h; obtain ⟨rfl, h2⟩ := map_pair h; exact ⟨rfl, fun _ H2 => map_pair_mk h2 H2⟩
  | convert s d x =>
    rw [ho] at h hc
    simp only at h ⊢
    unfold aConvert at h ⊢
    cases hk : convKind P s d with
    | bytesStr e => simp [clsOf, hk] at hc
    | strBytes e => simp [clsOf, hk] at hc
    | plain => rw [hk] at h; obtain ⟨rfl, h2⟩ := map_pair h; exact ⟨rfl, fun _ H2 => map_pair_mk h2 H2⟩
    | no => rw [hk] at h; simp at h
  | sliceToArrayPointer arr x =>
    rw [ho] at h
    simp only at h ⊢
    split at h
    · rename_i n e a len cap hu hv
      cases hb : (Nat.blt len n || Nat.beq n 0) with
      | true => rw [hb] at h; simp at h
      | false =>
        rw [hb] at h
        simp only [cond_false, Option.some.injEq, Prod.mk.injEq] at h
        obtain ⟨rfl, rfl⟩ := h
        exact ⟨rfl, fun _ H2 => by simp [hb]⟩
    · simp at h
  | makeInterface t x =>
    rw [ho] at h
    simp only at h ⊢
    split at h
    · simp at h
    · simp only [Option.some.injEq, Prod.mk.injEq] at h ⊢; obtain ⟨rfl, rfl⟩ := h; simp
    · simp at h
  | makeFunc fn first cap =>
    rw [ho] at h
    cases fn with
    | func f => simp only [Option.some.injEq, Prod.mk.injEq] at h ⊢; obtain ⟨rfl, rfl⟩ := h; simp
    | _ => simp at h
  | field t x f => rw [ho] at h; obtain ⟨rfl, h2⟩ := map_pair h; exact ⟨rfl, fun _ H2 => map_pair_mk h2 H2⟩
  | index t x i => rw [ho] at h; obtain ⟨rfl, h2⟩ := map_pair h; exact ⟨rfl, fun _ H2 => map_pair_mk h2 H2⟩
  | typeAssert x xt asserted ok =>
    rw [ho] at h
    simp only at h ⊢
    split at h
    · simp at h
    · rename_i d t u hd hu hv
      cases hb : Nat.beq t asserted with
      | true =>
        rw [hb] at h
        simp only [cond_true, Option.some.injEq, Prod.mk.injEq] at h
        obtain ⟨rfl, rfl⟩ := h
        simp [hb]
      | false =>
        rw [hb] at h
        cases ok with
        | false => simp at h
        | true =>
          simp only [cond_false, cond_true, Option.map_eq_some_iff, Prod.mk.injEq] at h
          obtain ⟨z, hz, rfl, rfl⟩ := h
          exact ⟨rfl, fun _ H2 => by simp [hb, hz]⟩
    · cases ok with
      | false => simp at h
      | true =>
        simp only [cond_true, Option.map_eq_some_iff, Prod.mk.injEq] at h
        obtain ⟨z, hz, rfl, rfl⟩ := h
        exact ⟨rfl, fun _ H2 => by simp [hz]⟩
    · simp at h
  | call c =>
    rw [ho] at h hc
    obtain ⟨callee, args, ats⟩ := c
    simp only [aCall] at h ⊢
    cases callee with
    | value f => simp [clsOf] at hc
    | invoke r n => simp [clsOf] at hc
    | builtin b =>
      cases b <;> simp [clsOf] at hc
      · obtain ⟨rfl, h2⟩ := map_pair h; exact ⟨rfl, fun _ H2 => map_pair_mk h2 H2⟩
      · obtain ⟨rfl, h2⟩ := map_pair h; exact ⟨rfl, fun _ H2 => map_pair_mk h2 H2⟩
  | _ => rw [ho] at hc; simp [clsOf] at hc

theorem aOp_read {o : Oper} {T : Tmps} {nm : Nat} {H H' : AH} {v : Value} (hc : clsOf P o.op = .read) (h : aOp P w0 call nm o T H = some (v, H')) : H' = H := by
  unfold aOp at h
  dsimp only at h
  cases ho : o.op with
  | load t a => rw [ho] at h; exact (map_pair h).1
  | lookup t m k ok => rw [ho] at h; exact (map_pair h).1
  | slice t x lo hi mx => rw [ho] at h; exact (map_pair h).1
  | call c =>
    rw [ho] at h hc
    obtain ⟨callee, args, ats⟩ := c
    simp only [aCall] at h
    cases callee with
    | value f => simp [clsOf] at hc
    | invoke r n => simp [clsOf] at hc
    | builtin b =>
      cases b <;> simp [clsOf] at hc
      dsimp only at h
      split at h
      · first | (rename_i hh _; cases hh; done) | (rename_i hh; cases hh; done)
      · first | (rename_i hh _; cases hh; done) | (rename_i hh; cases hh; done)
      · split at h
        · simp only [Option.map_eq_some_iff, Prod.mk.injEq] at h
          obtain ⟨_, _, _, rfl⟩ := h
          rfl
        · cases h
      · first | (rename_i hh _; cases hh; done) | (rename_i hh; cases hh; done)
      · first | (rename_i hh _; cases hh; done) | (rename_i hh; cases hh; done)
      · first | (rename_i hh _; cases hh; done) | (rename_i hh; cases hh; done)
      · first | (rename_i hh _; cases hh; done) | (rename_i hh; cases hh; done)
      · cases h
  | convert s d x =>
    rw [ho] at h hc
    simp only at h
    unfold aConvert at h
    cases hk : convKind P s d with
    | bytesStr e =>
      rw [hk] at h
      simp only at h
      split at h
      · simp only [Option.some.injEq, Prod.mk.injEq] at h; exact h.2.symm
      · simp only [Option.map_eq_some_iff, Prod.mk.injEq] at h
        obtain ⟨_, _, _, rfl⟩ := h
        rfl
      · simp at h
    | strBytes e => simp [clsOf, hk] at hc
    | plain => simp [clsOf, hk] at hc
    | no => simp [clsOf, hk] at hc
  | _ => rw [ho] at hc; first | (simp [clsOf] at hc; done) | (obtain ⟨⟩ := hc)

theorem aOp_alloc {o : Oper} {T : Tmps} {nm : Nat} {H H' : AH} {v : Value} (hc : clsOf P o.op = .alloc) (h : aOp P w0 call nm o T H = some (v, H')) :
    ∃ blk, H' = H.set nm (some blk) ∧ ∀ H2, aOp P w0 call nm o T H2 = some (v, H2.set nm (some blk)) := by
  unfold aOp at h ⊢
  dsimp only at h ⊢
  cases ho : o.op with
  | alloc e =>
    rw [ho] at h
    simp only [Option.map_eq_some_iff, Prod.mk.injEq] at h
    obtain ⟨z, hz, rfl, rfl⟩ := h
    exact ⟨_, rfl, fun H2 => by simp [hz, newRowA]⟩
  | box e x =>
    rw [ho] at h
    simp only at h
    cases hn : sizeOf? P e with
    | none => rw [hn] at h; simp at h
    | some n =>
      rw [hn] at h
      simp only [Option.some.injEq, Prod.mk.injEq] at h
      obtain ⟨rfl, rfl⟩ := h
      exact ⟨_, rfl, fun H2 => by simp [hn, newRowA]⟩
  | buildSlice t len parts =>
    rw [ho] at h
    simp only [Option.map_eq_some_iff, Prod.mk.injEq] at h
    obtain ⟨q, hq, rfl, rfl⟩ := h
    exact ⟨_, rfl, fun H2 => by simp [hq, newRowA]⟩
  | makeMap t r =>
    rw [ho] at h
    simp only at h
    split at h
    · simp only [Option.some.injEq, Prod.mk.injEq] at h
      obtain ⟨rfl, rfl⟩ := h
      exact ⟨_, rfl, fun H2 => rfl⟩
    · rename_i x
      split at h
      · rename_i kt et k n hu hv
        simp only [Option.some.injEq, Prod.mk.injEq] at h
        obtain ⟨rfl, rfl⟩ := h
        refine ⟨_, rfl, fun H2 => ?_⟩
        simp only [hu, hv]
      · simp at h
  | convert s d x =>
    rw [ho] at h hc
    simp only at h ⊢
    unfold aConvert at h ⊢
    cases hk : convKind P s d with
    | bytesStr e => simp [clsOf, hk] at hc
    | strBytes e =>
      rw [hk] at h
      simp only at h ⊢
      split at h
      · rename_i i s2 he hi hv
        cases hsz : Nat.beq i.size 1 with
        | false => rw [hsz] at h; simp at h
        | true =>
          rw [hsz] at h
          simp only [cond_true, Option.some.injEq, Prod.mk.injEq] at h
          obtain ⟨rfl, rfl⟩ := h
          exact ⟨_, rfl, fun H2 => by simp [he, hi, hv, hsz, newRowA]⟩
      · simp at h
    | plain => simp [clsOf, hk] at hc
    | no => simp [clsOf, hk] at hc
  | call c =>
    rw [ho] at hc
    obtain ⟨callee, args, ats⟩ := c
    cases callee with
    | value f => simp [clsOf] at hc
    | invoke r n => simp [clsOf] at hc
    | builtin b => cases b <;> simp [clsOf] at hc
  | _ => rw [ho] at hc; simp [clsOf] at hc

end Go.Sim
