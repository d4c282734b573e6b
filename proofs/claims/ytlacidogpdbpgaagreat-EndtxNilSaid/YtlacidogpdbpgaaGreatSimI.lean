/-
  Storing, making, converting.
-/
import Derived.Test.YtlacidogpdbpgaaGreatSimH
namespace Go.Sim
open Go
set_option linter.unusedSimpArgs false
set_option linter.unusedVariables false

variable {P : Program} {w0 : World} {φ : Ren} {H : AH} {w : World}

theorem oneCell_rel {v v' : Value} (h : VRel φ v v') : v'.oneCell' = oneCellB v := by cases h <;> rfl

theorem oneCell_all {vs vs' : List Value} (h : VRels φ vs vs') (ha : vs.all oneCellB = true) : ∀ v ∈ vs', v.oneCell' = true := by
  intro v hv
  obtain ⟨i, hi, rfl⟩ := List.mem_iff_getElem.1 hv
  have hi' : i < vs.length := by rw [h.1]; exact hi
  have hr := h.2 i vs[i] vs'[i] (List.getElem?_eq_getElem _) (List.getElem?_eq_getElem _)
  rw [oneCell_rel hr]
  exact List.all_eq_true.1 ha _ (List.getElem_mem _)

theorem lay_get {cs vs : List Value} {o k : Nat} (h : o + vs.length ≤ cs.length) : (lay cs o vs)[k]? = if k < o then cs[k]? else if k < o + vs.length then vs[k - o]? else cs[k]? := by
  unfold lay
  simp only [List.getElem?_append, List.getElem?_take, List.getElem?_drop, List.length_take, List.length_append]
  have m : min o cs.length = o := by omega
  rw [m]
  by_cases c1 : k < o
  · simp [c1, show k < o + vs.length by omega]
  · by_cases c2 : k < o + vs.length
    · simp [c1, c2]
    · simp only [c1, c2, if_false]
      congr 1
      omega

/-- WRITING SOME CELLS -/
theorem wrCells_spec {S : Nat → Prop} (E : Emb P w0 φ H w) {a a' : Addr} {vs vs' : List Value} {H' : AH} (ha : ARel φ a a') (hv : VRels φ vs vs') (h : wrCells H a vs = some H') :
    ∃ w', (storeCells a' vs').run P w = .ok () w' ∧ Emb P w0 φ H' w' ∧ Keeps S φ H w φ H' w' := by
  unfold wrCells at h
  obtain ⟨b, off, s⟩ := a
  cases s with
  | none => simp at h
  | some s =>
    simp only [ARel] at ha
    obtain ⟨i, hi, rfl⟩ := ha
    simp only at h
    split at h
    · rename_i cs e hg
      cases ho : vs.all oneCellB with
      | false => rw [ho] at h; simp at h
      | true =>
        rw [ho] at h
        simp only [cond_true, Option.map_eq_some_iff] at h
        obtain ⟨cs2, hov, rfl⟩ := h
        obtain ⟨hle, rfl⟩ := overwrite_eq hov
        obtain ⟨cs', lo, hi', hw, ht, hlen, hc, hf, hs⟩ := E.holds b i _ hi hg
        have hst := run_storeRow (P := P) vs' 0 (off + i.sh) cs' w hw (by rw [← hv.1]; omega) hf (oneCell_all hv ho)
        rw [Nat.add_zero] at hst
        have hh : Holds P φ (putObj w i.blk (.cells ⟨lay cs' (off + i.sh) vs'⟩ e (lo, hi'))) i (.row (lay cs off vs) e) := by
          have hlt : i.blk < w.heap.size := (E.holds b i _ hi hg).lt
          have hl' : (lay cs' (off + i.sh) vs').length = cs'.length := lay_length (by rw [← hv.1]; omega)
          have hl2 : (lay cs off vs).length = cs.length := lay_length hle
          refine ⟨lay cs' (off + i.sh) vs', lo, hi', putObj_same _ hlt, by rw [hl', ht], by rw [hl', hl2]; exact hlen, ?_, by rw [hl']; exact hf, hs⟩
          intro k v hk
          rw [lay_get hle] at hk
          rw [lay_get (by rw [← hv.1]; omega), ← hv.1]
          by_cases c1 : k < off
          · rw [if_pos c1] at hk
            rw [if_pos (by omega)]
            exact hc k v hk
          · rw [if_neg c1] at hk
            rw [if_neg (by omega)]
            by_cases c2 : k < off + vs.length
            · rw [if_pos c2] at hk
              rw [if_pos (by omega), show i.sh + k - (off + i.sh) = k - off by omega]
              exact hv.get hk
            · rw [if_neg c2] at hk
              rw [if_neg (by omega)]
              exact hc k v hk
        obtain ⟨h1, h2⟩ := goes_put (S := S) E hi hg hh
        exact ⟨_, hst, h1, h2⟩
    · simp at h

theorem aStore_spec {S : Nat → Prop} (E : Emb P w0 φ H w) {t : TypeId} {x x' v v' : Value} {H' : AH} (hx : VRel φ x x') (hv : VRel φ v v') (h : aStore P t x v H = some H') :
    ∃ w', (Instr.storeAt t x' v').run P w = .ok () w' ∧ Emb P w0 φ H' w' ∧ Keeps S φ H w φ H' w' := by
  unfold aStore at h
  split at h
  · rename_i a
    obtain ⟨a', rfl, ha⟩ := hx.inv_ptr
    split at h
    · rename_i n hn
      cases hl : Nat.beq (cellsL v).length n with
      | false => rw [hl] at h; simp at h
      | true =>
        rw [hl] at h
        simp only [cond_true] at h
        have hl := Nat.eq_of_beq_eq_true hl
        have hc := hv.cells
        obtain ⟨w', h1, h2, h3⟩ := wrCells_spec (S := S) E ha hc h
        refine ⟨w', ?_, h2, h3⟩
        have hsz : v'.cells.size = n := by
          have := hc.1
          simp only [cellsL, Array.length_toList] at this hl
          omega
        simp only [cellsL] at h1
        simp [Instr.storeAt, Instr.sureAddr, storeVar, sizeOf_run hn, hsz, h1]
    · simp at h
  · simp at h

theorem info_size {t : TypeId} {i : TypeInfo} (h : P.info? t = some i) : sizeOf? P t = some i.size := by simp [sizeOf?, h]

theorem newVar_run {t : TypeId} {v : Value} : (newVar t v).run P w = .ok ⟨w.heap.size, 0, none⟩ (w.alloc (.cells v.cells t (0, 0))) := by
  simp [newVar, newRow]

theorem newRow_run {t : TypeId} {cs : Array Value} : (newRow t cs).run P w = .ok ⟨w.heap.size, 0, none⟩ (w.alloc (.cells cs t (0, 0))) := by
  simp [newRow]

theorem no_freeze {n : Nat} : ∀ k, k < n → ¬ (0 ≤ k ∧ k < 0) := fun k _ h => absurd h.2 (Nat.not_lt_zero k)

/-- A VARIABLE OF A VALUE -/
theorem box_spec {S : Nat → Prop} (E : Emb P w0 φ H w) {nm : Nat} (hnm : φ nm = none) (hlt : nm < H.next) (hS : S nm) {e : TypeId} {n : Nat} (hn : sizeOf? P e = some n) {v v' : Value} (hv : VRel φ v v') :
    ∃ φ' w', (newVar e v').run P w = .ok ⟨w.heap.size, 0, none⟩ w' ∧ VRel φ' (.pointer (some ⟨nm, 0, some 0⟩)) (.pointer (some ⟨w.heap.size, 0, none⟩)) ∧
      Emb P w0 φ' (newRowA H nm (cellsL v) e) w' ∧ Keeps S φ H w φ' (newRowA H nm (cellsL v) e) w' := by
  obtain ⟨h1, h2⟩ := goes_row (S := S) E hnm hlt hS (lo := 0) (hi := 0) [] hv.cells hn no_freeze
  refine ⟨_, _, newVar_run, ?_, by simpa [cellsL] using h1, by simpa [cellsL] using h2⟩
  have := VRel.ptrNew (φ := φ.upd nm ⟨w.heap.size, 0, v'.cells.size, n⟩) (b := nm) (i := ⟨w.heap.size, 0, v'.cells.size, n⟩) 0 0 (Ren.upd_same _ _ _)
  simpa using this

theorem repeat_get (z : List Value) : ∀ (n j : Nat), j < n * z.length → (repeatL z n)[j]? = z[j % z.length]?
  | 0, j, h => by simp at h
  | n + 1, j, h => by
    simp only [repeatL, List.getElem?_append]
    by_cases hj : j < z.length
    · rw [if_pos hj, Nat.mod_eq_of_lt hj]
    · rw [if_neg hj, repeat_get z n (j - z.length) (by rw [Nat.succ_mul] at h; omega)]
      congr 1
      exact (Nat.mod_eq_sub_mod (Nat.le_of_not_lt hj)).symm

theorem repeat_length (z : List Value) : ∀ n, (repeatL z n).length = n * z.length
  | 0 => by simp [repeatL]
  | n + 1 => by simp [repeatL, repeat_length z n, Nat.succ_mul, Nat.add_comm]

theorem zeros_eq (z : Array Value) (n m : Nat) (hz : z.size = m) (hm : 0 < m) : ((Array.range (n * m)).map fun i => z[i % m]!).toList = repeatL z.toList n := by
  apply List.ext_getElem?
  intro j
  simp only [Array.toList_map, List.getElem?_map, Array.toList_range]
  by_cases hj : j < n * m
  · rw [repeat_get _ _ _ (by simpa [hz] using hj)]
    have h1 : j % z.toList.length < z.toList.length := Nat.mod_lt _ (by simp; omega)
    have h2 : j % m < z.size := by rw [hz]; exact Nat.mod_lt _ hm
    simp [hj, List.getElem?_eq_getElem h1, Array.length_toList, hz, getElem!_pos z (j % m) h2, Array.getElem?_eq_getElem h2]
  · rw [List.getElem?_eq_none (by simpa using Nat.le_of_not_lt hj), List.getElem?_eq_none (by rw [repeat_length]; simp [hz]; omega)]
    rfl

theorem repeat_rel {z z' : List Value} (h : VRels φ z z') : ∀ n, VRels φ (repeatL z n) (repeatL z' n)
  | 0 => .nil
  | n + 1 => h.append (repeat_rel h n)

/-- parts of an aggregate, before and in the world -/
def PRel (φ : Ren) (a b : List (Nat × Value)) : Prop := a.length = b.length ∧ ∀ (j : Nat) (x y : Nat × Value), a[j]? = some x → b[j]? = some y → x.1 = y.1 ∧ VRel φ x.2 y.2

theorem PRel.map {ρ ρ' : Operand → Value} (ps : List (Nat × Operand)) (h : ∀ p ∈ ps, VRel φ (ρ p.2) (ρ' p.2)) : PRel φ (ps.map fun p => (p.1, ρ p.2)) (ps.map fun p => (p.1, ρ' p.2)) := by
  refine ⟨by simp, fun j x y hx hy => ?_⟩
  simp only [List.getElem?_map, Option.map_eq_some_iff] at hx hy
  obtain ⟨p, h1, rfl⟩ := hx
  obtain ⟨q, h2, rfl⟩ := hy
  rw [h1] at h2
  cases h2
  exact ⟨rfl, h p (List.mem_of_getElem? h1)⟩

theorem mapM_places {fields : Array Field} (place : Nat → Option (Nat × Nat)) (hp : ∀ i, place i = (fields[i]?).bind fun f => (sizeOf? P f.type).map fun n => (f.offset, n))
    (h : ∀ f ∈ fields, (sizeOf? P f.type).isSome) : ∃ ps : Array (Nat × Nat), (fields.mapM fun f => (do pure (f.offset, ← sizeOf f.type) : Sem (Nat × Nat))).run P w = .ok ps w ∧ ∀ i, ps[i]? = place i := by
  have key : ∀ l : List Field, (∀ f ∈ l, (sizeOf? P f.type).isSome) → ∃ ps : List (Nat × Nat), (l.mapM fun f => (do pure (f.offset, ← sizeOf f.type) : Sem (Nat × Nat))).run P w = .ok ps w ∧
      ∀ i : Nat, ps[i]? = (l[i]?).bind fun f => (sizeOf? P f.type).map fun n => (f.offset, n) := by
    intro l
    induction l with
    | nil => intro _; exact ⟨[], rfl, fun i => by simp⟩
    | cons f l ih =>
      intro hl
      obtain ⟨ps, h1, h2⟩ := ih fun g hg => hl g (by simp [hg])
      obtain ⟨n, hn⟩ := Option.isSome_iff_exists.1 (hl f (by simp))
      refine ⟨(f.offset, n) :: ps, by rw [List.mapM_cons]; simp only [Sem.run_bind, sizeOf_run hn, Result.andThen_ok, Sem.run_pure, h1], fun i => ?_⟩
      cases i with
      | zero => simp [hn]
      | succ i => simp [h2]
  obtain ⟨ps, h1, h2⟩ := key fields.toList (fun f hf => h f (by simpa using hf))
  refine ⟨ps.toArray, ?_, fun i => ?_⟩
  · rw [Array.mapM_eq_mapM_toList, Sem.run_map, h1]
    rfl
  · rw [hp]
    simp [h2]

theorem aBuild_spec {t : TypeId} {parts parts' : List (Nat × Value)} {v : Value}
    (hp : PRel φ parts parts') (h : aBuild P t parts = some v) : ∃ v', (Instr.build t parts'.toArray).run P w = .ok v' w ∧ VRel φ v v' := by
  unfold aBuild at h
  split at h
  · rename_i fields z hu hz
    cases hfs : (fields.toList.all fun f => (sizeOf? P f.type).isSome) with
    | false => rw [hfs] at h; simp at h
    | true =>
    rw [hfs] at h
    simp only [cond_true, Option.map_eq_some_iff] at h
    obtain ⟨l, hl, rfl⟩ := h
    obtain ⟨ps, h1, h2⟩ := mapM_places (P := P) (w := w) (fields := fields) _ (fun i => rfl) (fun f hf => List.all_eq_true.1 hfs f (by simpa using hf))
    have e : (fun i => ps[i]?) = (fun i => (fields[i]?).bind fun (f : Field) => (sizeOf? P f.type).map fun n => (f.offset, n)) := funext h2
    obtain ⟨l', h3, h4⟩ := fill_eq (zero_cells (φ := φ) hz) hp.1 hp.2 hl
    refine ⟨.agg ⟨l'⟩, ?_, .agg' h4⟩
    rw [← e] at h3
    have h3' : Instr.fill (fun i => ps[i]?) z.cells parts' = some ⟨l'⟩ := by simpa [cellsL] using h3
    simp only [Instr.build, Sem.run_bind, zero_run hz, Result.andThen_ok, underlying_run hu, h1, List.toList_toArray, h3', Sem.run_pure]
  · rename_i n e z hu hz
    cases hn : sizeOf? P e with
    | none => rw [hn] at h; simp at h
    | some m =>
      rw [hn] at h
      simp only [Option.bind_some, Option.map_eq_some_iff] at h
      obtain ⟨l, hl, rfl⟩ := h
      obtain ⟨l', h3, h4⟩ := fill_eq (zero_cells (φ := φ) hz) hp.1 hp.2 hl
      refine ⟨.agg ⟨l'⟩, ?_, .agg' h4⟩
      have h3' : Instr.fill (fun i => some (i * m, m)) z.cells parts' = some ⟨l'⟩ := by simpa [cellsL] using h3
      simp [Instr.build, zero_run hz, underlying_run hu, sizeOf_run hn, h3']
  · simp at h

theorem aBuildSlice_spec {S : Nat → Prop} (E : Emb P w0 φ H w) {nm : Nat} (hnm : φ nm = none) (hlt : nm < H.next) (hS : S nm) {t : TypeId} {len : Nat} {parts parts' : List (Nat × Value)} {q : List Value × TypeId}
    (hp : PRel φ parts parts') (h : aBuildSlice P t len parts = some q) :
    ∃ v' φ' w', (Instr.buildSlice t len parts'.toArray).run P w = .ok v' w' ∧ VRel φ' (.slice (some ⟨nm, 0, some 0⟩) len len) v' ∧ Emb P w0 φ' (newRowA H nm q.1 q.2) w' ∧ Keeps S φ H w φ' (newRowA H nm q.1 q.2) w' := by
  unfold aBuildSlice at h
  split at h
  · rename_i e hu
    split at h
    · rename_i n z hn hz
      cases hc : (Nat.ble (len * n) 65536 && Nat.beq (cellsL z).length n && !(Nat.beq n 0)) with
      | false => rw [hc] at h; simp at h
      | true =>
        rw [hc] at h
        simp only [cond_true, Option.map_eq_some_iff] at h
        obtain ⟨l, hl, rfl⟩ := h
        simp only [Bool.and_eq_true, Bool.not_eq_true'] at hc
        obtain ⟨⟨c1, c2⟩, c3⟩ := hc
        have c1 := Nat.le_of_ble_eq_true c1
        have c2 := Nat.eq_of_beq_eq_true c2
        have c3 : n ≠ 0 := fun e => by rw [beq_true e] at c3; cases c3
        obtain ⟨l', h3, h4⟩ := fill_eq (repeat_rel (zero_cells (φ := φ) hz) len) hp.1 hp.2 hl
        obtain ⟨g1, g2⟩ := goes_row (S := S) E hnm hlt hS (lo := 0) (hi := 0) [] h4 hn no_freeze
        simp only [List.append_nil] at g1 g2
        refine ⟨.slice (some ⟨w.heap.size, 0, none⟩) len len, _, _, ?_, ?_, g1, g2⟩
        · have hz' : z.cells.size = n := by simpa [cellsL] using c2
          have h24 : ¬ (16777216 < len * n) := by omega
          have key : ∀ zs : Array Value, ((Array.range (len * n)).map fun i => zs[i % zs.size]!) = ⟨repeatL (cellsL z) len⟩ →
              (do
                let some cells := Instr.fill (fun i => some (i * n, n)) ((Array.range (len * n)).map fun i => zs[i % zs.size]!) parts'.toArray.toList | stuck "buildSlice: a part of the wrong size"
                pure (.slice (some (← newRow e cells)) len len) : Sem Value).run P w = .ok (.slice (some ⟨w.heap.size, 0, none⟩) len len) (w.alloc (.cells ⟨l'⟩ e (0, 0))) := by
            intro zs hzs
            rw [hzs, List.toList_toArray, h3]
            simp only [Sem.run_bind, newRow_run, Result.andThen_ok, Sem.run_pure]
          unfold Instr.buildSlice
          simp only [Sem.run_bind, underlying_run hu, Result.andThen_ok, sizeOf_run hn]
          rw [if_neg (by omega)]
          by_cases h0 : len = 0
          · have e1 : len * n = 0 := by rw [h0, Nat.zero_mul]
            have := key #[] (by rw [h0]; simp [repeatL, Array.range])
            simp only [e1, if_true, Sem.run_pure, Result.andThen_ok, Sem.run_bind] at this ⊢
            exact this
          · have hne : ¬ (len * n = 0) := by
              intro e
              rcases Nat.mul_eq_zero.1 e with h | h
              · exact h0 h
              · exact c3 h
            have := key z.cells (by
              apply Array.ext'
              rw [hz']
              exact zeros_eq z.cells len n hz' (Nat.pos_of_ne_zero c3))
            simp only [hne, if_false, Sem.run_bind, zero_run hz, Result.andThen_ok, Sem.run_pure] at this ⊢
            exact this
        · have hcap : len ≠ capU := by
            have : len * 1 ≤ len * n := Nat.mul_le_mul_left _ (Nat.pos_of_ne_zero c3)
            unfold capU
            omega
          have := VRel.sliceNew (φ := φ.upd nm ⟨w.heap.size, 0, l'.length, n⟩) (b := nm) (i := ⟨w.heap.size, 0, l'.length, n⟩) 0 0 len len len (Ren.upd_same _ _ _) (Nat.le_refl _) (.inl ⟨hcap, rfl⟩)
          simpa using this
    · simp at h
  · simp at h

end Go.Sim
