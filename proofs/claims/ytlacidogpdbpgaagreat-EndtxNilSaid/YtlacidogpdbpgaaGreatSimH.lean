/-
  New blocks, and blocks that are written over.
-/
import Derived.Test.YtlacidogpdbpgaaGreatSimG
namespace Go.Sim
open Go
set_option linter.unusedSimpArgs false
set_option linter.unusedVariables false

variable {P : Program} {w0 : World} {φ : Ren} {H : AH} {w : World}

def Goes (P : Program) (w0 : World) (S : Nat → Prop) (φ : Ren) (H : AH) (w : World) (r : Result Next) (v : Value) (H' : AH) : Prop :=
  ∃ v' φ' w', (r = .ok (.value v') w' ∨ (r = .ok .skip w' ∧ v' = undef)) ∧ VRel φ' v v' ∧ Emb P w0 φ' H' w' ∧ Keeps S φ H w φ' H' w'

theorem Goes.same {S : Nat → Prop} (E : Emb P w0 φ H w) {s : Sem Value} {v v' : Value} (h : s.run P w = .ok v' w) (hr : VRel φ v v') :
    Goes P w0 S φ H w ((do pure (Next.value (← s)) : Sem Next).run P w) v H :=
  ⟨v', φ, w, .inl (by simp [h]), hr, E, Keeps.refl _ _ _ _⟩

theorem Emb.w0_le (E : Emb P w0 φ H w) : w0.heap.size ≤ w.heap.size := by
  rcases Nat.lt_or_ge w.heap.size w0.heap.size with h | h
  · have := E.old _ h
    rw [Array.getElem?_eq_none (Nat.le_refl _), Array.getElem?_eq_getElem h] at this
    cases this
  · exact h

theorem Holds.lt {i : Info} {x : Blk} (h : Holds P φ w i x) : i.blk < w.heap.size := by
  rcases Nat.lt_or_ge i.blk w.heap.size with h' | h'
  · exact h'
  · cases x with
    | row cs e => obtain ⟨_, _, _, hw, _⟩ := h; rw [Array.getElem?_eq_none h'] at hw; cases hw
    | map es c => obtain ⟨_, hw, _⟩ := h; rw [Array.getElem?_eq_none h'] at hw; cases hw

theorem ERels.mono {ψ : Ren} (h : φ.le ψ) {a b : List MapEntry} (r : ERels φ a b) : ERels ψ a b :=
  ⟨r.1, fun i x y hx hy => let ⟨a, b, c, d⟩ := r.2 i x y hx hy; ⟨a, b, c, d.mono h⟩⟩

theorem Holds.mono {ψ : Ren} {w' : World} {i : Info} {x : Blk} (h : Holds P φ w i x) (hle : φ.le ψ) (hw : w'.heap[i.blk]? = w.heap[i.blk]?) : Holds P ψ w' i x := by
  cases x with
  | row cs e =>
    obtain ⟨cs', lo, hi, h1, h2, h3, h4, h5, h6⟩ := h
    exact ⟨cs', lo, hi, by rw [hw, h1], h2, h3, fun k v hk => let ⟨v', a, b⟩ := h4 k v hk; ⟨v', a, b.mono hle⟩, h5, h6⟩
  | map es c =>
    obtain ⟨es', h1, h2⟩ := h
    exact ⟨es', by rw [hw, h1], h2.mono hle⟩

theorem alloc_other (w : World) (o : Obj) {c : Nat} (h : c < w.heap.size) : (w.alloc o).heap[c]? = w.heap[c]? := by
  show (w.heap.push o)[c]? = _
  rw [Array.getElem?_push, if_neg (Nat.ne_of_lt h)]
theorem alloc_same (w : World) (o : Obj) : (w.alloc o).heap[w.heap.size]? = some o := by
  show (w.heap.push o)[_]? = _
  rw [Array.getElem?_push, if_pos rfl]

def Ren.upd (φ : Ren) (nm : Nat) (i : Info) : Ren := fun b => if b = nm then some i else φ b

theorem Ren.upd_same (φ : Ren) (nm : Nat) (i : Info) : φ.upd nm i nm = some i := by simp [Ren.upd]
theorem Ren.upd_other (φ : Ren) {nm b : Nat} (i : Info) (h : b ≠ nm) : φ.upd nm i b = φ b := by simp [Ren.upd, h]
theorem Ren.le_upd {nm : Nat} {i : Info} (h : φ nm = none) : φ.le (φ.upd nm i) := fun b j hb => by
  by_cases e : b = nm
  · subst e; rw [h] at hb; cases hb
  · rw [Ren.upd_other _ _ e]; exact hb

/-- A NEW BLOCK UNDER A FREE NAME -/
theorem goes_new {S : Nat → Prop} (E : Emb P w0 φ H w) {nm : Nat} (hnm : φ nm = none) (hlt : nm < H.next) (hS : S nm) {i : Info} {x : Blk} {o : Obj} (hi : i.blk = w.heap.size)
    (hx : Holds P (φ.upd nm i) (w.alloc o) i x) :
    Emb P w0 (φ.upd nm i) (H.set nm (some x)) (w.alloc o) ∧ Keeps S φ H w (φ.upd nm i) (H.set nm (some x)) (w.alloc o) := by
  have hle : φ.le (φ.upd nm i) := Ren.le_upd hnm
  have hheap : ∀ c, c < w.heap.size → (w.alloc o).heap[c]? = w.heap[c]? := fun c hc => alloc_other w o hc
  have hlive : ∀ b j, φ b = some j → H.get b ≠ none → j.blk < w.heap.size := fun b j hb hg => by
    cases hx : H.get b with
    | none => exact absurd hx hg
    | some y => exact (E.holds b j y hb hx).lt
  refine ⟨⟨?_, ?_, ?_, ?_, ?_⟩, ⟨hle, ?_, Nat.le_refl _, by simp, ?_, ?_, rfl, rfl, rfl⟩⟩
  · intro b j hb
    by_cases e : b = nm
    · subst e; exact hlt
    · rw [Ren.upd_other _ _ e] at hb; exact E.bound b j hb
  · intro b c j k hb hc hgb hgc hjk
    by_cases eb : b = nm <;> by_cases ec : c = nm
    · rw [eb, ec]
    · subst eb
      rw [Ren.upd_same] at hb
      rw [Ren.upd_other _ _ ec] at hc
      rw [AH.get_set_other _ _ ec] at hgc
      have := hlive c k hc hgc
      cases hb
      omega
    · subst ec
      rw [Ren.upd_same] at hc
      rw [Ren.upd_other _ _ eb] at hb
      rw [AH.get_set_other _ _ eb] at hgb
      have := hlive b j hb hgb
      cases hc
      omega
    · rw [Ren.upd_other _ _ eb] at hb
      rw [Ren.upd_other _ _ ec] at hc
      rw [AH.get_set_other _ _ eb] at hgb
      rw [AH.get_set_other _ _ ec] at hgc
      exact E.inj b c j k hb hc hgb hgc hjk
  · intro b j hb hg
    by_cases e : b = nm
    · subst e
      rw [Ren.upd_same] at hb
      cases hb
      rw [hi]
      exact E.w0_le
    · rw [Ren.upd_other _ _ e] at hb
      rw [AH.get_set_other _ _ e] at hg
      exact E.base b j hb hg
  · intro c hc
    rw [hheap c (Nat.lt_of_lt_of_le hc E.w0_le), E.old c hc]
  · intro b j y hb hg
    by_cases e : b = nm
    · subst e
      rw [Ren.upd_same] at hb
      rw [AH.get_set_same] at hg
      cases hb
      cases hg
      exact hx
    · rw [Ren.upd_other _ _ e] at hb
      rw [AH.get_set_other _ _ e] at hg
      have h := E.holds b j y hb hg
      exact h.mono hle (hheap _ h.lt)
  · intro b hb hb'
    by_cases e : b = nm
    · subst e; exact hS
    · rw [Ren.upd_other _ _ e] at hb'; exact absurd hb hb'
  · intro c hc _
    exact hheap c hc
  · intro b j hb hg
    by_cases e : b = nm
    · subst e
      rw [Ren.upd_same] at hb
      cases hb
      exact .inr (by omega)
    · rw [Ren.upd_other _ _ e] at hb
      rw [AH.get_set_other _ _ e] at hg
      exact .inl ⟨b, j, hb, hg, rfl⟩

def putObj (w : World) (b : Nat) (o : Obj) : World := { w with heap := w.heap.setIfInBounds b o }

theorem putObj_same {w : World} {b : Nat} (o : Obj) (h : b < w.heap.size) : (putObj w b o).heap[b]? = some o := by simp [putObj, h]
theorem putObj_other (w : World) {b c : Nat} (o : Obj) (h : c ≠ b) : (putObj w b o).heap[c]? = w.heap[c]? := by simp [putObj, Ne.symm h]
theorem putObj_size (w : World) (b : Nat) (o : Obj) : (putObj w b o).heap.size = w.heap.size := by simp [putObj]
theorem putRow_eq (w : World) (b : Nat) (cs : List Value) (e : TypeId) (fz : Nat × Nat) : putRow w b cs e fz = putObj w b (.cells ⟨cs⟩ e fz) := rfl

/-- A LIVING BLOCK WRITTEN OVER -/
theorem goes_put {S : Nat → Prop} (E : Emb P w0 φ H w) {b : Nat} {i : Info} {y x : Blk} {o : Obj} (hb : φ b = some i) (hg : H.get b = some y)
    (hx : Holds P φ (putObj w i.blk o) i x) :
    Emb P w0 φ (H.set b (some x)) (putObj w i.blk o) ∧ Keeps S φ H w φ (H.set b (some x)) (putObj w i.blk o) := by
  have hgb : H.get b ≠ none := by rw [hg]; simp
  have hlive : ∀ c, (H.set b (some x)).get c ≠ none → H.get c ≠ none := fun c hc => by
    by_cases e : c = b
    · subst e; exact hgb
    · rwa [AH.get_set_other _ _ e] at hc
  refine ⟨⟨?_, ?_, ?_, ?_, ?_⟩, ⟨φ.le_refl, fun _ h h' => absurd h h', Nat.le_refl _, by rw [putObj_size]; exact Nat.le_refl _, ?_, ?_, rfl, rfl, rfl⟩⟩
  · intro c j hc; exact E.bound c j hc
  · intro c d j k hc hd hgc hgd hjk
    exact E.inj c d j k hc hd (hlive c hgc) (hlive d hgd) hjk
  · intro c j hc hgc
    exact E.base c j hc (hlive c hgc)
  · intro c hc
    rw [putObj_other _ _ (by have := E.base b i hb hgb; omega), E.old c hc]
  · intro c j z hc hgc
    by_cases e : c = b
    · subst e
      rw [hb] at hc
      rw [AH.get_set_same] at hgc
      cases hc
      cases hgc
      exact hx
    · rw [AH.get_set_other _ _ e] at hgc
      have h := E.holds c j z hc hgc
      refine h.mono φ.le_refl (putObj_other _ _ fun hh => e ?_)
      exact E.inj c b j i hc hb (by rw [hgc]; simp) hgb hh
  · intro c hc h
    exact putObj_other _ _ fun hh => h b i hb hgb hh.symm
  · intro c j hc hgc
    exact .inl ⟨c, j, hc, hlive c hgc, rfl⟩

/-- a living block given up, and what lay in it under a new name -/
theorem goes_move {S : Nat → Prop} (E : Emb P w0 φ H w) {b nm : Nat} {i j : Info} {y x : Blk} {o : Obj} (hb : φ b = some i) (hg : H.get b = some y) (hnm : φ nm = none) (hlt : nm < H.next) (hS : S nm)
    (hj : j.blk = i.blk) (hx : Holds P (φ.upd nm j) (putObj w i.blk o) j x) :
    Emb P w0 (φ.upd nm j) ((H.set b none).set nm (some x)) (putObj w i.blk o) ∧ Keeps S φ H w (φ.upd nm j) ((H.set b none).set nm (some x)) (putObj w i.blk o) := by
  have hgb : H.get b ≠ none := by rw [hg]; simp
  have hle : φ.le (φ.upd nm j) := Ren.le_upd hnm
  have hbn : b ≠ nm := fun e => by subst e; rw [hnm] at hb; cases hb
  have hlive : ∀ c, c ≠ nm → ((H.set b none).set nm (some x)).get c ≠ none → c ≠ b ∧ H.get c ≠ none := fun c hc h => by
    rw [AH.get_set_other _ _ hc] at h
    by_cases e : c = b
    · subst e; rw [AH.get_set_same] at h; exact absurd rfl h
    · rw [AH.get_set_other _ _ e] at h; exact ⟨e, h⟩
  refine ⟨⟨?_, ?_, ?_, ?_, ?_⟩, ⟨hle, ?_, Nat.le_refl _, by rw [putObj_size]; exact Nat.le_refl _, ?_, ?_, rfl, rfl, rfl⟩⟩
  · intro c k hc
    by_cases e : c = nm
    · subst e; exact hlt
    · rw [Ren.upd_other _ _ e] at hc; exact E.bound c k hc
  · intro c d k l hc hd hgc hgd hkl
    by_cases ec : c = nm <;> by_cases ed : d = nm
    · rw [ec, ed]
    · subst ec
      rw [Ren.upd_same] at hc
      rw [Ren.upd_other _ _ ed] at hd
      cases hc
      obtain ⟨h1, h2⟩ := hlive d ed hgd
      exact absurd (E.inj d b l i hd hb h2 hgb (by omega)) h1
    · subst ed
      rw [Ren.upd_same] at hd
      rw [Ren.upd_other _ _ ec] at hc
      cases hd
      obtain ⟨h1, h2⟩ := hlive c ec hgc
      exact absurd (E.inj c b k i hc hb h2 hgb (by omega)) h1
    · rw [Ren.upd_other _ _ ec] at hc
      rw [Ren.upd_other _ _ ed] at hd
      exact E.inj c d k l hc hd (hlive c ec hgc).2 (hlive d ed hgd).2 hkl
  · intro c k hc hgc
    by_cases e : c = nm
    · subst e
      rw [Ren.upd_same] at hc
      cases hc
      rw [hj]
      exact E.base b i hb hgb
    · rw [Ren.upd_other _ _ e] at hc
      exact E.base c k hc (hlive c e hgc).2
  · intro c hc
    rw [putObj_other _ _ (by have := E.base b i hb hgb; omega), E.old c hc]
  · intro c k z hc hgc
    by_cases e : c = nm
    · subst e
      rw [Ren.upd_same] at hc
      rw [AH.get_set_same] at hgc
      cases hc
      cases hgc
      exact hx
    · have hl := hlive c e (by rw [hgc]; simp)
      rw [Ren.upd_other _ _ e] at hc
      rw [AH.get_set_other _ _ e, AH.get_set_other _ _ hl.1] at hgc
      have h := E.holds c k z hc hgc
      refine h.mono hle (putObj_other _ _ fun hh => hl.1 ?_)
      exact E.inj c b k i hc hb hl.2 hgb hh
  · intro c h h'
    by_cases e : c = nm
    · subst e; exact hS
    · rw [Ren.upd_other _ _ e] at h'; exact absurd h h'
  · intro c hc h
    exact putObj_other _ _ fun hh => h b i hb hgb hh.symm
  · intro c k hc hgc
    by_cases e : c = nm
    · subst e
      rw [Ren.upd_same] at hc
      cases hc
      exact .inl ⟨b, i, hb, hgb, hj.symm⟩
    · rw [Ren.upd_other _ _ e] at hc
      exact .inl ⟨c, k, hc, (hlive c e hgc).2, rfl⟩

/-- a new row -/
theorem goes_row {S : Nat → Prop} (E : Emb P w0 φ H w) {nm : Nat} (hnm : φ nm = none) (hlt : nm < H.next) (hS : S nm) {cs cs' : List Value} {e : TypeId} {esz lo hi : Nat} (more : List Value) (hr : VRels φ cs cs')
    (hsz : sizeOf? P e = some esz) (hfz : ∀ k, k < (cs' ++ more).length → ¬ (lo ≤ k ∧ k < hi)) :
    Emb P w0 (φ.upd nm ⟨w.heap.size, 0, (cs' ++ more).length, esz⟩) (newRowA H nm cs e) (w.alloc (.cells ⟨cs' ++ more⟩ e (lo, hi))) ∧
    Keeps S φ H w (φ.upd nm ⟨w.heap.size, 0, (cs' ++ more).length, esz⟩) (newRowA H nm cs e) (w.alloc (.cells ⟨cs' ++ more⟩ e (lo, hi))) := by
  refine goes_new E hnm hlt hS (i := ⟨w.heap.size, 0, (cs' ++ more).length, esz⟩) rfl ⟨cs' ++ more, lo, hi, alloc_same _ _, rfl, by simp [hr.1], ?_, hfz, hsz⟩
  intro k v hk
  obtain ⟨y, hy, hv⟩ := hr.get hk
  refine ⟨y, ?_, hv.mono (Ren.le_upd hnm)⟩
  rw [Nat.zero_add, List.getElem?_append_left, hy]
  rcases Nat.lt_or_ge k cs'.length with h | h
  · exact h
  · rw [List.getElem?_eq_none h] at hy; cases hy

end Go.Sim
