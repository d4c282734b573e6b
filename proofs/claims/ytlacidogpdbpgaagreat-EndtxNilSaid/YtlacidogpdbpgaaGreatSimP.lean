/-
  Regions whose order is drawn: what the reading in the order of the text gives, each order gives.
-/
import Derived.Test.YtlacidogpdbpgaaGreatSimO
namespace Go.Sim
open Go
set_option linter.unusedSimpArgs false
set_option linter.unusedVariables false

variable {P : Program} {w0 : World}

mutual
theorem sameV_eq : ∀ {a b : Value}, sameV a b = true → a = b
  | .bool a, b, h => by cases b <;> simp [sameV] at h; rw [h]
  | .int j a, b, h => by cases b <;> simp [sameV] at h; rw [h.1, h.2]
  | .string ⟨⟨a⟩⟩, b, h => by
    cases b with
    | string s => obtain ⟨⟨l⟩⟩ := s; simp [sameV] at h; rw [h]
    | _ => simp [sameV] at h
  | .pointer a, b, h => by cases b <;> simp [sameV] at h; rw [h]
  | .slice a l c, b, h => by
    cases b <;> simp [sameV] at h
    obtain ⟨⟨h1, h2⟩, h3⟩ := h
    rw [h1, h2, h3]
  | .map a, b, h => by cases b <;> simp [sameV] at h; rw [h]
  | .nilFunc, b, h => by cases b <;> simp [sameV] at h; rfl
  | .nilIface, b, h => by cases b <;> simp [sameV] at h; rfl
  | .func f ⟨a⟩ ⟨c⟩, b, h => by
    cases b with
    | func g x y =>
      obtain ⟨x⟩ := x
      obtain ⟨y⟩ := y
      simp [sameV, sameA] at h
      rw [h.1.1, sameL_eq h.1.2, sameL_eq h.2]
    | _ => simp [sameV] at h
  | .iface t v, b, h => by
    cases b with
    | iface u x => simp [sameV] at h; rw [h.1, sameV_eq h.2]
    | _ => simp [sameV] at h
  | .agg ⟨a⟩, b, h => by
    cases b with
    | agg x => obtain ⟨x⟩ := x; simp [sameV, sameA] at h; rw [sameL_eq h]
    | _ => simp [sameV] at h
  | .tuple ⟨a⟩, b, h => by
    cases b with
    | tuple x => obtain ⟨x⟩ := x; simp [sameV, sameA] at h; rw [sameL_eq h]
    | _ => simp [sameV] at h
  | .float _ _, b, h | .complex _ _ _, b, h | .chan _, b, h => by cases b <;> simp [sameV] at h
theorem sameL_eq : ∀ {a b : List Value}, sameL a b = true → a = b
  | [], b, h => by cases b <;> simp [sameL] at h; rfl
  | v :: a, b, h => by
    cases b with
    | nil => simp [sameL] at h
    | cons u b => simp [sameL] at h; rw [sameV_eq h.1, sameL_eq h.2]
end

theorem sameEs_eq : ∀ {a b : List MapEntry}, sameEs a b = true → a = b
  | [], b, h => by cases b <;> simp [sameEs] at h; rfl
  | ⟨k, v, n⟩ :: a, b, h => by
    cases b with
    | nil => simp [sameEs] at h
    | cons u b =>
      obtain ⟨k', v', n'⟩ := u
      simp [sameEs] at h
      rw [sameV_eq h.1.1.1, sameV_eq h.1.1.2, h.1.2, sameEs_eq h.2]

theorem sameBlk_eq {a b : Option Blk} (h : sameBlk a b = true) : a = b := by
  unfold sameBlk at h
  split at h
  · simp at h; rw [sameL_eq h.1, h.2]
  · simp at h; rw [sameEs_eq h.1, h.2]
  · simp at h

/-! ### Pairs -/

theorem rowOk_get {α : Type} {f : α → α → Bool} {y : α} {m : Nat} : ∀ {l : List α} {k : Nat}, rowOk f y m l k = true → ∀ (i : Nat) (x : α), l[i]? = some x → m.testBit (k + i) = true ∨ f x y = true
  | [], k, _, i, x, hx => by simp at hx
  | z :: l, k, h, i, x, hx => by
    simp only [rowOk, Bool.and_eq_true, Bool.or_eq_true] at h
    cases i with
    | zero => simp at hx; subst hx; exact h.1
    | succ i =>
      have := rowOk_get h.2 i x (by simpa using hx)
      rw [show k + (i + 1) = k + 1 + i by omega]
      exact this

theorem pairsOk_get {α : Type} {f : α → α → Bool} {all : List α} : ∀ {l : List α} {M : List Nat} {k : Nat}, pairsOk f all l M k = true → ∀ (j : Nat) (y : α) (m : Nat), l[j]? = some y → M[j]? = some m →
    ∀ (i : Nat) (x : α), i < k + j → all[i]? = some x → m.testBit i = true ∨ f x y = true
  | [], M, k, _, j, y, m, hy, _, _, _, _, _ => by simp at hy
  | z :: l, [], k, _, j, y, m, _, hm, _, _, _, _ => by simp at hm
  | z :: l, n :: M, k, h, j, y, m, hy, hm, i, x, hi, hx => by
    simp only [pairsOk, Bool.and_eq_true] at h
    cases j with
    | zero =>
      simp at hy hm
      subst hy; subst hm
      have := rowOk_get h.1 i x (by rw [List.getElem?_take, if_pos (by omega)]; exact hx)
      simpa using this
    | succ j => exact pairsOk_get h.2 j y m (by simpa using hy) (by simpa using hm) i x (by omega) hx

/-! ### Who stands ahead -/

theorem fold_bit {es : List Edge} {acc : List Nat} : ∀ {s i : Nat}, (es.foldl (fun s e => cond (Region.binds .any e) (s ||| 2 ^ e.on ||| acc.getD e.on 0) s) s).testBit i = true →
    s.testBit i = true ∨ ∃ e ∈ es, Region.binds .any e = true ∧ (i = e.on ∨ (acc.getD e.on 0).testBit i = true) := by
  induction es with
  | nil => intro s i h; exact .inl h
  | cons e es ih =>
    intro s i h
    simp only [List.foldl_cons] at h
    rcases ih h with h | ⟨e', h1, h2, h3⟩
    · cases hb : Region.binds .any e with
      | false => rw [hb] at h; exact .inl h
      | true =>
        rw [hb] at h
        simp only [cond_true, Nat.testBit_or, Bool.or_eq_true, Nat.testBit_two_pow, decide_eq_true_eq] at h
        rcases h with (h | h) | h
        · exact .inl h
        · exact .inr ⟨e, by simp, hb, .inl h.symm⟩
        · exact .inr ⟨e, by simp, hb, .inr h⟩
    · exact .inr ⟨e', by simp [h1], h2, h3⟩

theorem befores_length : ∀ (os : List Oper) (acc : List Nat), (befores os acc).length = os.length
  | [], _ => rfl
  | o :: os, acc => by simp [befores, befores_length os]

/-- a mask's bits: an edge's end, or what stands ahead of that -/
theorem befores_bit : ∀ (os : List Oper) (acc : List Nat) (j : Nat) (o : Oper) (m : Nat), os[j]? = some o → (befores os acc)[j]? = some m → ∀ i, m.testBit i = true →
    ∃ e ∈ o.after.toList, Region.binds .any e = true ∧ (i = e.on ∨ (((acc ++ befores os acc).take (acc.length + j)).getD e.on 0).testBit i = true)
  | [], acc, j, o, m, ho, _, _, _ => by simp at ho
  | o' :: os, acc, j, o, m, ho, hm, i, hi => by
    simp only [befores] at hm ⊢
    cases j with
    | zero =>
      simp only [List.getElem?_cons_zero, Option.some.injEq] at ho hm
      subst ho; subst hm
      rcases fold_bit hi with h | ⟨e, h1, h2, h3⟩
      · simp at h
      · refine ⟨e, h1, h2, h3.imp id fun h => ?_⟩
        rw [Nat.add_zero, List.take_left' rfl]
        exact h
    | succ j =>
      simp only [List.getElem?_cons_succ] at ho hm
      obtain ⟨e, h1, h2, h3⟩ := befores_bit os _ j o m ho hm i hi
      refine ⟨e, h1, h2, h3.imp id fun h => ?_⟩
      rw [List.append_assoc, List.singleton_append, List.length_append, List.length_singleton, show acc.length + 1 + j = acc.length + (j + 1) by omega] at h
      exact h

end Go.Sim
