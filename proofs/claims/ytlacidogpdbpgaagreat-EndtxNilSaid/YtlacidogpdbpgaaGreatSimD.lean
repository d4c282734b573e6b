/-
  Memory: what reading and writing by a named address does in the world.
-/
import Derived.Test.YtlacidogpdbpgaaGreatSimC
namespace Go.Sim
open Go
set_option linter.unusedSimpArgs false
set_option linter.unusedVariables false

theorem pureRun_run {α : Type} {P : Program} {s : Sem α} {a : α} (h : pureRun P s = some a) (w : World) : s.run P w = .ok a w := by
  induction s with
  | pure b => simp only [pureRun, Option.some.injEq] at h; subst h; rfl
  | program k ih => exact ih P h
  | _ => simp [pureRun] at h

theorem add_none (b o j : Nat) : (⟨b, o, none⟩ : Addr).add j = ⟨b, o + j, none⟩ := by
  unfold Addr.add
  split
  · rename_i h; subst h; rfl
  · rfl

/-- an address and where it lies -/
def ARel (φ : Ren) (a a' : Addr) : Prop :=
  match a.spot with
  | none => a' = a
  | some _ => ∃ i, φ a.block = some i ∧ a' = ⟨i.blk, a.off + i.sh, none⟩

theorem ARel.spot {φ : Ren} {a a' : Addr} (h : ARel φ a a') : a'.spot = none := by
  unfold ARel at h
  split at h
  · rename_i e; rw [h, e]
  · obtain ⟨i, _, rfl⟩ := h; rfl

theorem VRel.ptr {φ : Ren} {a a' : Addr} (h : ARel φ a a') : VRel φ (.pointer (some a)) (.pointer (some a')) := by
  obtain ⟨b, off, s⟩ := a
  cases s with
  | none => simp only [ARel] at h; subst h; exact .ptrOld _ _
  | some s => simp only [ARel] at h; obtain ⟨i, h1, rfl⟩ := h; exact .ptrNew _ _ h1

theorem VRel.inv_ptr {φ : Ren} {a : Addr} {v : Value} (h : VRel φ (.pointer (some a)) v) : ∃ a', v = .pointer (some a') ∧ ARel φ a a' := by
  cases h with
  | ptrOld b off => exact ⟨_, rfl, rfl⟩
  | ptrNew off s h => exact ⟨_, rfl, _, h, rfl⟩

theorem ARel.add {φ : Ren} {a a' : Addr} (h : ARel φ a a') (n : Nat) : ARel φ (aadd a n) (a'.add n) := by
  obtain ⟨b, off, s⟩ := a
  cases s with
  | none => simp only [ARel] at h; subst h; simp only [ARel, aadd, add_none]
  | some s => simp only [ARel] at h; obtain ⟨i, h1, rfl⟩ := h; exact ⟨i, h1, by simp only [aadd, add_none]; congr 1; omega⟩

theorem takeExact_eq : ∀ {n : Nat} {cs l : List Value}, takeExact n cs = some l → l = cs.take n ∧ n ≤ cs.length
  | 0, _, _, h => by simp [takeExact] at h; subst h; exact ⟨by simp, Nat.zero_le _⟩
  | n + 1, [], _, h => by simp [takeExact] at h
  | n + 1, v :: vs, l, h => by
    simp only [takeExact, Option.map_eq_some_iff] at h
    obtain ⟨l', h1, rfl⟩ := h
    obtain ⟨e, hl⟩ := takeExact_eq h1
    exact ⟨by simp [e], by simpa using hl⟩

theorem takeExact_mk : ∀ {n : Nat} {cs : List Value}, n ≤ cs.length → takeExact n cs = some (cs.take n)
  | 0, _, _ => by simp [takeExact]
  | n + 1, [], h => by simp at h
  | n + 1, v :: vs, h => by simp [takeExact, takeExact_mk (n := n) (cs := vs) (by simpa using h)]

theorem cell?_row {w : World} {b : Nat} {cs : List Value} {e : TypeId} {fz : Nat × Nat} (h : w.heap[b]? = some (.cells ⟨cs⟩ e fz)) (k : Nat) : w.cell? ⟨b, k, none⟩ = cs[k]? := by
  simp [World.cell?, h]

theorem frozen?_row {w : World} {b : Nat} {cs : List Value} {e : TypeId} {lo hi : Nat} (h : w.heap[b]? = some (.cells ⟨cs⟩ e (lo, hi))) (k : Nat) : w.frozen? ⟨b, k, none⟩ = (decide (lo ≤ k) && decide (k < hi)) := by
  simp [World.frozen?, h]

theorem rdOld_spec {w0 : World} {b : Nat} : ∀ {n off : Nat} {l : List Value}, rdOld w0 b off n = some l →
    l.length = n ∧ (∀ j v, l[j]? = some v → w0.cell? ⟨b, off + j, none⟩ = some v ∧ plainCell v = true)
  | 0, off, l, h => by simp [rdOld] at h; subst h; exact ⟨rfl, fun j v h => by simp at h⟩
  | n + 1, off, l, h => by
    simp only [rdOld] at h
    cases hc : w0.cell? ⟨b, off, none⟩ with
    | none => rw [hc] at h; simp at h
    | some v =>
      rw [hc] at h
      cases hp : plainCell v with
      | false => simp [hp] at h
      | true =>
        simp only [hp, cond_true, Option.map_eq_some_iff] at h
        obtain ⟨l', h1, rfl⟩ := h
        obtain ⟨e1, e2⟩ := rdOld_spec h1
        refine ⟨by simp [e1], fun j u hu => ?_⟩
        cases j with
        | zero => simp at hu; subst hu; exact ⟨by simpa using hc, hp⟩
        | succ j =>
          have := e2 j u (by simpa using hu)
          rw [show off + (j + 1) = off + 1 + j by omega]
          exact this

variable {P : Program} {w0 : World} {φ : Ren} {H : AH} {w : World}

theorem Emb.cell_old (E : Emb P w0 φ H w) {a : Addr} {v : Value} (h : w0.cell? a = some v) : w.cell? a = some v := by
  have hb := World.block_lt_of_cell? w0 a h
  rw [← h]
  simp only [World.cell?, E.old _ hb]

/-- READING -/
theorem rdCells_spec (E : Emb P w0 φ H w) {a a' : Addr} (ha : ARel φ a a') {n : Nat} {l : List Value} (h : rdCells w0 H a n = some l) :
    ∃ l', VRels φ l l' ∧ l.length = n ∧ (∀ j v, l'[j]? = some v → w.cell? (a'.add j) = some v) := by
  obtain ⟨b, off, s⟩ := a
  cases s with
  | none =>
    simp only [ARel] at ha
    subst ha
    simp only [rdCells] at h
    obtain ⟨h1, h2⟩ := rdOld_spec h
    refine ⟨l, ⟨rfl, fun i x y hx hy => ?_⟩, h1, fun j v hj => ?_⟩
    · rw [hx] at hy; cases hy; exact plainCell_rel φ x (h2 i x hx).2
    · rw [add_none]; exact E.cell_old (h2 j v hj).1
  | some s =>
    simp only [ARel] at ha
    obtain ⟨i, hi, rfl⟩ := ha
    simp only [rdCells] at h
    cases hg : H.get b with
    | none => rw [hg] at h; simp at h
    | some x =>
      rw [hg] at h
      cases x with
      | map es c => simp at h
      | row cs e =>
        simp only at h
        obtain ⟨rfl, hl⟩ := takeExact_eq h
        obtain ⟨cs', lo, hi', hw, ht, hlen, hc, hf, hs⟩ := E.holds b i _ hi hg
        have hl' : n + off ≤ cs.length ∨ n = 0 := by simp at hl; omega
        refine ⟨(cs'.drop (off + i.sh)).take n, ⟨by simp; omega, fun k x y hx hy => ?_⟩, by simp; omega, fun j v hj => ?_⟩
        · rw [List.getElem?_take] at hx hy
          split at hx
          · rename_i hk
            rw [if_pos hk] at hy
            simp only [List.getElem?_drop] at hx hy
            obtain ⟨v', h1, h2⟩ := hc _ _ hx
            rw [show off + i.sh + k = i.sh + (off + k) by omega, h1] at hy
            cases hy
            exact h2
          · simp at hx
        · rw [List.getElem?_take] at hj
          split at hj
          · rename_i hk
            simp only [List.getElem?_drop] at hj
            rw [add_none, cell?_row hw]
            exact hj
          · simp at hj

theorem run_loadCells_of {a' : Addr} {l' : List Value} (h : ∀ j v, l'[j]? = some v → w.cell? (a'.add j) = some v) :
    (loadCells a' l'.length).run P w = .ok ⟨l'⟩ w := by
  have := run_loadCells_list (P := P) w a' l' h
  simpa using this

theorem isAgg_run {t : TypeId} {b : Bool} (h : aggOf P t = some b) : (isAgg t).run P w = .ok b w := by
  simp only [isAgg, underlying, Sem.run_bind, run_program, Result.andThen_ok]
  unfold aggOf at h
  cases hu : P.underlying t with
  | none => rw [hu] at h; simp at h
  | some d =>
    rw [hu] at h
    simp only [Sem.run_pure, Result.andThen_ok]
    cases d <;> simp at h <;> subst h <;> rfl

theorem sizeOf_run {t : TypeId} {n : Nat} (h : sizeOf? P t = some n) : (sizeOf t).run P w = .ok n w := by
  unfold sizeOf? at h
  simp only [Option.map_eq_some_iff] at h
  obtain ⟨i, h1, rfl⟩ := h
  simp [sizeOf, typeInfo, h1]

theorem zero_run {t : TypeId} {z : Value} (h : zeroOf? P t = some z) : (zeroValue t).run P w = .ok z w := by
  unfold zeroOf? at h
  cases hi : P.info? t with
  | none => rw [hi] at h; simp at h
  | some i =>
    rw [hi] at h
    simp only [Option.bind_some] at h
    cases hz : i.zero with
    | none => rw [hz] at h; simp at h
    | some z' =>
      rw [hz] at h
      simp only [Option.bind_some] at h
      cases hg : ground z' with
      | false => rw [hg] at h; simp at h
      | true =>
        rw [hg] at h
        simp only [cond_true, Option.some.injEq] at h
        subst h
        simp [zeroValue, typeInfo, hi, hz]

theorem zero_ground {t : TypeId} {z : Value} (h : zeroOf? P t = some z) : ground z = true := by
  unfold zeroOf? at h
  cases hi : P.info? t with
  | none => rw [hi] at h; simp at h
  | some i =>
    rw [hi] at h
    simp only [Option.bind_some] at h
    cases hz : i.zero with
    | none => rw [hz] at h; simp at h
    | some z' =>
      rw [hz] at h
      simp only [Option.bind_some] at h
      cases hg : ground z' with
      | false => rw [hg] at h; simp at h
      | true =>
        rw [hg] at h
        simp only [cond_true, Option.some.injEq] at h
        subst h
        exact hg

theorem underlying_run {t : TypeId} {d : TypeDesc} (h : P.underlying t = some d) : (underlying t).run P w = .ok d w := by
  simp [underlying, h]

theorem aLoad_spec (E : Emb P w0 φ H w) {t : TypeId} {x x' v : Value} (hx : VRel φ x x') (h : aLoad P w0 t x H = some v) :
    ∃ v', (Instr.loadAt t x').run P w = .ok v' w ∧ VRel φ v v' := by
  unfold aLoad at h
  split at h
  · rename_i a
    obtain ⟨a', rfl, ha⟩ := hx.inv_ptr
    split at h
    · rename_i hagg
      split at h
      · rename_i n hn
        simp only [Option.map_eq_some_iff] at h
        obtain ⟨l, hl, rfl⟩ := h
        obtain ⟨l', h1, h2, h3⟩ := rdCells_spec E ha hl
        refine ⟨.agg ⟨l'⟩, ?_, .agg' h1⟩
        have hlen : l'.length = n := by rw [← h1.1, h2]
        have := run_loadCells_of (P := P) h3
        rw [hlen] at this
        simp [Instr.loadAt, Instr.sureAddr, loadVar, isAgg_run hagg, sizeOf_run hn, this]
      · simp at h
    · rename_i hagg
      split at h
      · rename_i u us hl
        simp only [Option.some.injEq] at h
        subst h
        obtain ⟨l', h1, h2, h3⟩ := rdCells_spec E ha hl
        obtain ⟨u', us', rfl, h4, h5⟩ := h1.inv_cons
        refine ⟨u', ?_, h4⟩
        have := h3 0 u' rfl
        have e : a'.add 0 = a' := by simp [Addr.add]
        rw [e] at this
        simp [Instr.loadAt, Instr.sureAddr, loadVar, isAgg_run hagg, this]
      · simp at h
    · simp at h
  · simp at h

/-- a row's block, with other cells -/
def putRow (w : World) (b : Nat) (cs : List Value) (e : TypeId) (fz : Nat × Nat) : World := { w with heap := w.heap.setIfInBounds b (.cells ⟨cs⟩ e fz) }

theorem setCell_row {w : World} {b k : Nat} {cs : List Value} {e : TypeId} {fz : Nat × Nat} (h : w.heap[b]? = some (.cells ⟨cs⟩ e fz)) (v : Value) :
    w.setCell ⟨b, k, none⟩ v = putRow w b (cs.set k v) e fz := by
  have hb : b < w.heap.size := by
    rcases Nat.lt_or_ge b w.heap.size with h' | h'
    · exact h'
    · simp [Array.getElem?_eq_none h'] at h
  unfold World.setCell putRow
  congr 1
  apply Array.ext_getElem?
  intro j
  simp only [Array.getElem?_modify, Array.getElem?_setIfInBounds]
  by_cases e : b = j
  · subst e
    simp only [if_true, hb, h, Option.map_some, Option.isSome_none, Bool.false_eq_true, if_false]
    congr 2
    apply Array.ext'
    simp
  · simp [e]

theorem putRow_heap {w : World} {b : Nat} {cs cs2 : List Value} {e : TypeId} {fz : Nat × Nat} (h : w.heap[b]? = some (.cells ⟨cs⟩ e fz)) : (putRow w b cs2 e fz).heap[b]? = some (.cells ⟨cs2⟩ e fz) := by
  have hb : b < w.heap.size := by
    rcases Nat.lt_or_ge b w.heap.size with h' | h'
    · exact h'
    · simp [Array.getElem?_eq_none h'] at h
  simp [putRow, hb]

theorem putRow_putRow (w : World) (b : Nat) (cs cs2 : List Value) (e : TypeId) (fz : Nat × Nat) : putRow (putRow w b cs e fz) b cs2 e fz = putRow w b cs2 e fz := by
  simp [putRow]

theorem putRow_other (w : World) {b c : Nat} (cs : List Value) (e : TypeId) (fz : Nat × Nat) (h : c ≠ b) : (putRow w b cs e fz).heap[c]? = w.heap[c]? := by
  simp [putRow, Ne.symm h]

theorem putRow_size (w : World) (b : Nat) (cs : List Value) (e : TypeId) (fz : Nat × Nat) : (putRow w b cs e fz).heap.size = w.heap.size := by simp [putRow]

/-- some cells laid over those from a place on -/
def lay (cs : List Value) (o : Nat) (vs : List Value) : List Value := cs.take o ++ vs ++ cs.drop (o + vs.length)

theorem run_storeRow {b : Nat} {e : TypeId} {lo hi : Nat} : ∀ (vs : List Value) (i o : Nat) (cs : List Value) (w : World), w.heap[b]? = some (.cells ⟨cs⟩ e (lo, hi)) → o + i + vs.length ≤ cs.length →
    (∀ k, k < cs.length → ¬ (lo ≤ k ∧ k < hi)) → (∀ v ∈ vs, v.oneCell' = true) →
    (storeCells ⟨b, o, none⟩ vs i).run P w = .ok () (putRow w b (lay cs (o + i) vs) e (lo, hi))
  | [], i, o, cs, w, h, hl, _, _ => by
    have e1 : lay cs (o + i) [] = cs := by simp [lay]
    have e2 : putRow w b cs e (lo, hi) = w := by
      have hb : b < w.heap.size := by
        rcases Nat.lt_or_ge b w.heap.size with h' | h'
        · exact h'
        · simp [Array.getElem?_eq_none h'] at h
      unfold putRow
      have : w.heap.setIfInBounds b (.cells ⟨cs⟩ e (lo, hi)) = w.heap := by
        apply Array.ext_getElem?
        intro j
        simp only [Array.getElem?_setIfInBounds]
        by_cases e : b = j
        · subst e; simp only [if_true, hb, h]
        · simp [e]
      rw [this]
    simp [storeCells, e1, e2]
  | v :: vs, i, o, cs, w, h, hl, hf, h1 => by
    simp only [List.length_cons] at hl
    have hk : o + i < cs.length := by omega
    have hc : w.cell? ⟨b, o + i, none⟩ = some cs[o + i] := by rw [cell?_row h]; exact List.getElem?_eq_getElem hk
    have hfz : w.frozen? ⟨b, o + i, none⟩ = false := by
      rw [frozen?_row h]
      have := hf (o + i) hk
      rw [Bool.eq_false_iff]
      simpa using this
    have hst := run_store P w ⟨b, o + i, none⟩ v .plain (h1 v (by simp))
    rw [hc] at hst
    simp only [hfz] at hst
    have ih := run_storeRow (e := e) vs (i + 1) o (cs.set (o + i) v) (putRow w b (cs.set (o + i) v) e (lo, hi)) (putRow_heap h) (by simp; omega) (by simpa using hf) (fun x hx => h1 x (by simp [hx]))
    simp only [storeCells, add_none, Sem.run_bind, hst, Bool.false_eq_true, if_false, Result.andThen_ok, setCell_row h, ih, putRow_putRow]
    congr 2
    unfold lay
    apply List.ext_getElem?
    intro j
    simp only [List.getElem?_append, List.getElem?_take, List.getElem?_drop, List.length_take, List.length_set, List.length_append, List.length_cons, List.getElem?_set, List.getElem?_cons]
    have m1 : min (o + (i + 1)) cs.length = o + i + 1 := by omega
    have m2 : min (o + i) cs.length = o + i := by omega
    rw [m1, m2]
    by_cases c1 : j < o + i
    · have : o + i ≠ j := by omega
      simp [c1, show j < o + i + 1 + vs.length by omega, show j < o + i + 1 by omega, show j < o + (i + 1) by omega, show j < o + i + (vs.length + 1) by omega, this]
    · by_cases c2 : j = o + i
      · subst c2
        simp [show o + i < o + i + 1 + vs.length by omega, show o + i < o + i + (vs.length + 1) by omega, show o + i < o + (i + 1) by omega, hk]
      · by_cases c3 : j < o + i + 1 + vs.length
        · simp [c1, c3, show ¬ j < o + i + 1 by omega, show j < o + i + (vs.length + 1) by omega, show ¬ j - (o + i) = 0 by omega]
          congr 1
        · simp [c3, show ¬ j < o + i + (vs.length + 1) by omega]
          rw [if_neg (by omega)]
          congr 1
          omega
end Go.Sim
