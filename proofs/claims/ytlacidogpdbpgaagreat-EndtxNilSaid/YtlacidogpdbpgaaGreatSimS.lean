/-
  Each order of a drawn region gives what the order of the text gives.
-/
import Derived.Test.YtlacidogpdbpgaaGreatSimR
namespace Go.Sim
open Go
set_option linter.unusedSimpArgs false
set_option linter.unusedVariables false

variable {P : Program} {w0 : World} {call : CallA}

theorem Emb.sub {φ : Ren} {A A' : AH} {w : World} (E : Emb P w0 φ A w) (hn : A'.next = A.next) (h : ∀ b y, φ b ≠ none → A'.get b = some y → A.get b = some y) : Emb P w0 φ A' w := by
  have hl : ∀ b, φ b ≠ none → A'.get b ≠ none → A.get b ≠ none := fun b h1 h2 => by
    cases hb : A'.get b with
    | none => exact absurd hb h2
    | some y => rw [h b y h1 hb]; simp
  exact ⟨fun b i hb => by rw [hn]; exact E.bound b i hb, fun b c i j hb hc h1 h2 h3 => E.inj b c i j hb hc (hl b (by rw [hb]; simp) h1) (hl c (by rw [hc]; simp) h2) h3,
    fun b i hb h1 => E.base b i hb (hl b (by rw [hb]; simp) h1), E.old, fun b i x hb h1 => E.holds b i x hb (h b x (by rw [hb]; simp) h1)⟩

theorem Keeps.sub {S : Nat → Prop} {φ φ' : Ren} {H A A' : AH} {w w' : World} (K : Keeps S φ H w φ' A w') (hn : A'.next = A.next) (h : ∀ b y, φ' b ≠ none → A'.get b = some y → A.get b = some y) : Keeps S φ H w φ' A' w' :=
  ⟨K.ext, K.dom, by rw [hn]; exact K.next, K.size, K.out, fun b i hb h1 => K.img b i hb (by
    cases hg : A'.get b with
    | none => exact absurd hg h1
    | some y => rw [h b y (by rw [hb]; simp) hg]; simp), K.tape, K.os, K.output⟩

namespace Tr
variable {ops : Array Oper} {base : Nat} (t : Tr P w0 call ops base)

def isEff (j : Nat) : Prop := ∃ o, ops[j]? = some o ∧ t.want j = true ∧ clsOf P o.op = .eff

def blkOf (j : Nat) : Option Blk :=
  match ops[j]? with
  | some o => if t.want j = true ∧ clsOf P o.op = .alloc then (t.HH (j + 1)).get (base + j) else none
  | none => none

theorem lt_of {j : Nat} {o : Oper} (h : ops[j]? = some o) : j < ops.size := by
  rcases Nat.lt_or_ge j ops.size with h' | h'
  · exact h'
  · rw [Array.getElem?_eq_none h'] at h; cases h

/-- an operation that lays a block -/
theorem alloc_step {j : Nat} {o : Oper} (ho : ops[j]? = some o) (hw : t.want j = true) (hc : clsOf P o.op = .alloc) :
    ∃ x, t.blkOf j = some x ∧ t.HH (j + 1) = (t.HH j).set (base + j) (some x) ∧ (t.HH j).get (base + j) = none ∧ ∀ H2, aOp P w0 call (base + j) o (t.TT j) H2 = some (t.VV j, H2.set (base + j) (some x)) := by
  obtain ⟨_, _, h3, _⟩ := t.step j o ho
  obtain ⟨h4, h5⟩ := h3 hw
  obtain ⟨x, h6, h7⟩ := aOp_alloc hc h5
  refine ⟨x, ?_, h6, ?_, h7⟩
  · simp only [blkOf, ho, hw, hc, and_self, if_true, h6, AH.get_set_same]
  · simp only [nameOk, hc] at h4
    simpa using h4

theorem quiet_step {j : Nat} (hj : j < ops.size) (he : ¬ t.isEff j) : t.HH (j + 1) = t.HH j ∨ ∃ x, t.blkOf j = some x ∧ t.HH (j + 1) = (t.HH j).set (base + j) (some x) ∧ (t.HH j).get (base + j) = none := by
  have ho : ops[j]? = some ops[j] := Array.getElem?_eq_getElem hj
  obtain ⟨h1, h2, h3, h4⟩ := t.step j _ ho
  cases hw : t.want j with
  | false => exact .inl (h4 hw).2
  | true =>
    obtain ⟨h5, h6⟩ := h3 hw
    cases hc : clsOf P ops[j].op with
    | pure => exact .inl (aOp_pure hc h6).1
    | read => exact .inl (aOp_read hc h6)
    | alloc =>
      obtain ⟨x, q1, q2, q3, _⟩ := t.alloc_step ho hw hc
      exact .inr ⟨x, q1, q2, q3⟩
    | eff => exact absurd ⟨_, ho, hw, hc⟩ he

theorem blk_alloc {j : Nat} {x : Blk} (h : t.blkOf j = some x) : ∃ o, ops[j]? = some o ∧ t.want j = true ∧ clsOf P o.op = .alloc := by
  unfold blkOf at h
  split at h
  · rename_i o ho
    split at h
    · rename_i hh; exact ⟨o, ho, hh⟩
    · cases h
  · cases h

/-- from one place to a later one, no effect between -/
theorem segment {p : Nat} : ∀ {q : Nat}, p ≤ q → q ≤ ops.size → (∀ j, p ≤ j → j < q → ¬ t.isEff j) →
    (t.HH q).next = (t.HH p).next ∧ (∀ b, (∀ k, p ≤ k → k < q → (t.blkOf k).isSome = true → b ≠ base + k) → (t.HH q).get b = (t.HH p).get b) ∧
    (∀ k x, p ≤ k → k < q → t.blkOf k = some x → (t.HH q).get (base + k) = some x ∧ (t.HH p).get (base + k) = none) := by
  intro q hpq
  induction hpq with
  | refl => intro _ _; exact ⟨rfl, fun _ _ => rfl, fun k x h1 h2 => absurd h2 (Nat.not_lt.2 h1)⟩
  | step hpq ih =>
    rename_i q
    intro hq he
    obtain ⟨i1, i2, i3⟩ := ih (by omega) (fun j h1 h2 => he j h1 (by omega))
    rcases t.quiet_step (j := q) (by omega) (he q hpq (by omega)) with hs | ⟨x, hx, hs, hn⟩
    · have hno : t.blkOf q = none := by
        cases hb : t.blkOf q with
        | none => rfl
        | some x =>
          obtain ⟨o, ho, hw, hc⟩ := t.blk_alloc hb
          obtain ⟨x', _, h2, h3, _⟩ := t.alloc_step ho hw hc
          rw [hs] at h2
          have := congrArg (fun A => AH.get A (base + q)) h2
          simp only [AH.get_set_same] at this
          rw [h3] at this
          cases this
      rw [hs]
      refine ⟨i1, fun b hb => i2 b fun k h1 h2 => hb k h1 (by omega), fun k x h1 h2 hk => i3 k x h1 ?_ hk⟩
      rcases Nat.lt_or_eq_of_le (Nat.le_of_lt_succ h2) with h | h
      · exact h
      · subst h; rw [hno] at hk; cases hk
    · rw [hs]
      refine ⟨i1, fun b hb => ?_, fun k y h1 h2 hk => ?_⟩
      · rw [AH.get_set_other _ _ (hb q hpq (by omega) (by rw [hx]; rfl))]
        exact i2 b fun k h1 h2 => hb k h1 (by omega)
      · by_cases e : k = q
        · subst e
          rw [hx] at hk
          cases hk
          refine ⟨AH.get_set_same _ _ _, ?_⟩
          rw [← i2 (base + k) (fun m h3 h4 _ e => by omega)]
          exact hn
        · rw [AH.get_set_other _ _ (by omega)]
          exact i3 k y h1 (by omega) hk

/-- the heap ahead of a place, with the blocks that have been laid already though they stand behind it -/
def augL (lst : Nat → Bool) : List Nat → AH → AH
  | [], A => A
  | i :: l, A => augL lst l (match t.blkOf i with
    | some x => if lst i = true then A.set (base + i) (some x) else A
    | none => A)

theorem augL_next (lst : Nat → Bool) : ∀ (l : List Nat) (A : AH), (t.augL lst l A).next = A.next
  | [], A => rfl
  | i :: l, A => by
    simp only [augL]
    rw [augL_next lst l]
    split
    · split <;> rfl
    · rfl

theorem augL_other (lst : Nat → Bool) {b : Nat} : ∀ (l : List Nat) (A : AH), (∀ i ∈ l, lst i = true → (t.blkOf i).isSome = true → b ≠ base + i) → (t.augL lst l A).get b = A.get b
  | [], A, _ => rfl
  | i :: l, A, h => by
    simp only [augL]
    rw [augL_other lst l _ fun j hj => h j (by simp [hj])]
    split
    · rename_i x hx
      split
      · rename_i hl; exact AH.get_set_other _ _ (h i (by simp) hl (by rw [hx]; rfl))
      · rfl
    · rfl

theorem augL_same (lst : Nat → Bool) {i : Nat} {x : Blk} (hl : lst i = true) (hx : t.blkOf i = some x) : ∀ (l : List Nat) (A : AH), i ∈ l → (t.augL lst l A).get (base + i) = some x
  | [], A, h => by simp at h
  | j :: l, A, h => by
    simp only [augL]
    by_cases hm : i ∈ l
    · exact augL_same lst hl hx l _ hm
    · have e : i = j := by simpa [hm] using h
      subst e
      rw [t.augL_other lst l _ fun k hk _ _ e => hm (by have : k = i := by omega
                                                        rw [← this]; exact hk)]
      rw [hx]
      simp only [hl, if_true]
      exact AH.get_set_same _ _ _

def aug (lst : Nat → Bool) (q : Nat) : AH := t.augL lst (List.range' q (ops.size - q)) (t.HH q)

theorem aug_next (lst : Nat → Bool) (q : Nat) : (t.aug lst q).next = (t.HH q).next := t.augL_next lst _ _

theorem aug_same {lst : Nat → Bool} {q i : Nat} {x : Blk} (h1 : q ≤ i) (h2 : i < ops.size) (hl : lst i = true) (hx : t.blkOf i = some x) : (t.aug lst q).get (base + i) = some x :=
  t.augL_same lst hl hx _ _ (by rw [List.mem_range'_1]; omega)

theorem aug_other {lst : Nat → Bool} {q b : Nat} (h : ∀ i, q ≤ i → i < ops.size → lst i = true → (t.blkOf i).isSome = true → b ≠ base + i) : (t.aug lst q).get b = (t.HH q).get b :=
  t.augL_other lst _ _ fun i hi => by rw [List.mem_range'_1] at hi; exact h i (by omega) (by omega)

theorem eff_not_blk {j : Nat} (h : t.isEff j) : t.blkOf j = none := by
  cases hb : t.blkOf j with
  | none => rfl
  | some x =>
    obtain ⟨o, ho, hw, hc⟩ := t.blk_alloc hb
    obtain ⟨o', ho', _, hc'⟩ := h
    rw [ho] at ho'
    cases ho'
    rw [hc] at hc'
    cases hc'

theorem last_eff {i : Nat} : ∀ {q : Nat}, i ≤ q → (∀ j, i ≤ j → j < q → ¬ t.isEff j) ∨ ∃ j, i ≤ j ∧ j < q ∧ t.isEff j ∧ ∀ k, j < k → k < q → ¬ t.isEff k := by
  intro q hq
  induction hq with
  | refl => exact .inl fun j h1 h2 => absurd h2 (Nat.not_lt.2 h1)
  | step hq ih =>
    rename_i q
    by_cases he : t.isEff q
    · exact .inr ⟨q, hq, Nat.lt_succ_self _, he, fun k h1 h2 => by omega⟩
    · rcases ih with h | ⟨j, h1, h2, h3, h4⟩
      · refine .inl fun j h1 h2 => ?_
        rcases Nat.lt_or_eq_of_le (Nat.le_of_lt_succ h2) with h' | h'
        · exact h j h1 h'
        · rw [h']; exact he
      · refine .inr ⟨j, h1, by omega, h3, fun k h5 h6 => ?_⟩
        rcases Nat.lt_or_eq_of_le (Nat.le_of_lt_succ h6) with h' | h'
        · exact h4 k h5 h'
        · rw [h']; exact he

theorem next_eff (q : Nat) (hq : q ≤ ops.size) : ∃ q', q ≤ q' ∧ q' ≤ ops.size ∧ (q' = ops.size ∨ t.isEff q') ∧ ∀ j, q ≤ j → j < q' → ¬ t.isEff j := by
  obtain ⟨d, hd⟩ : ∃ d, ops.size - q = d := ⟨_, rfl⟩
  induction d generalizing q with
  | zero => exact ⟨q, Nat.le_refl _, hq, .inl (by omega), fun j h1 h2 => by omega⟩
  | succ d ih =>
    by_cases he : t.isEff q
    · exact ⟨q, Nat.le_refl _, hq, .inr he, fun j h1 h2 => by omega⟩
    · obtain ⟨q', h1, h2, h3, h4⟩ := ih (q + 1) (by omega) (by omega)
      refine ⟨q', by omega, h2, h3, fun j h5 h6 => ?_⟩
      rcases Nat.eq_or_lt_of_le h5 with h | h
      · rw [← h]; exact he
      · exact h4 j h h6

/-- where a run of the region stands: which operations have been done; q: the place of the effect that comes next -/
structure Inv (N : Nat) (φ0 : Ren) (ws : World) (lst : Nat → Bool) (φ : Ren) (q : Nat) (a : Act) (w : World) : Prop where
  q_le : q ≤ ops.size
  q_eff : q = ops.size ∨ t.isEff q
  effs : ∀ j, t.isEff j → (lst j = true ↔ j < q)
  down : ∀ i j, lst j = true → t.ahead i j = true → lst i = true
  size : a.tmps.size = N
  defers : a.defers = []
  tmps : ∀ d, ∃ p, p ≤ ops.size ∧ (∀ j o, ops[j]? = some o → o.dst = some d → (lst j = true ↔ j < p)) ∧ VRel φ (((t.TT p).get d).getD undef) (a.tmps.getD d undef)
  emb : Emb P w0 φ (t.aug lst q) w
  free : ∀ i, i < ops.size → lst i = false → φ (base + i) = none
  keeps : Keeps (fun b => base ≤ b) φ0 (t.HH 0) ws φ (t.aug lst q) w
  room : base + ops.size ≤ (t.HH 0).next

end Tr
end Go.Sim
