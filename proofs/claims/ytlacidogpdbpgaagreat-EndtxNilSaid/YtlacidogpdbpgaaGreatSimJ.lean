/-
  append and copy; texts and bytes.
-/
import Derived.Test.YtlacidogpdbpgaaGreatSimI
import Derived.Laws.Append
namespace Go.Sim
open Go
set_option linter.unusedSimpArgs false
set_option linter.unusedVariables false

variable {P : Program} {w0 : World} {φ : Ren} {H : AH} {w : World}

theorem Emb.drew (E : Emb P w0 φ H w) : Emb P w0 φ H w.drew :=
  ⟨E.bound, E.inj, E.base, E.old, fun b i x hb hg => (E.holds b i x hb hg).mono φ.le_refl rfl⟩

theorem Keeps.of_drew {S : Nat → Prop} {φ' : Ren} {H' : AH} {w' : World} (k : Keeps S φ H w.drew φ' H' w') : Keeps S φ H w φ' H' w' :=
  ⟨k.ext, k.dom, k.next, k.size, k.out, k.img, k.tape, k.os, k.output⟩

theorem VRel.slice_inv {a : Option Addr} {len cap : Nat} {v : Value} (h : VRel φ (.slice a len cap) v) : ∃ a' cap', v = .slice a' len cap' ∧ len ≤ cap' := by
  cases h with
  | sliceNil => exact ⟨_, _, rfl, Nat.le_refl _⟩
  | sliceOld b off _ _ h => exact ⟨_, _, rfl, h⟩
  | sliceNew off s _ _ cap' h h1 h2 => exact ⟨_, _, rfl, h1⟩
  | slice0 b off s _ a' h => exact ⟨_, _, rfl, Nat.le_refl _⟩

theorem lenA_rel {v v' : Value} (h : VRel φ v v') : lenA v' = lenA v := by cases h <;> rfl

theorem lenOf_run {v : Value} {n : Nat} (h : lenA v = some n) : (Builtin.lenOf v).run P w = .ok n w := by
  unfold lenA at h
  split at h <;> simp at h <;> subst h <;> rfl

theorem rel_length {a b : List Value} (h : VRels φ a b) : b.length = a.length := h.1.symm

theorem newCells_spec (E : Emb P w0 φ H w) {size n m : Nat} {x x' : Value} {l : List Value} (hx : VRel φ x x') (hm : lenA x = some m) (hn : n ≤ m) (h : newCells w0 H size n x = some l) :
    ∃ l', VRels φ l l' ∧ l.length = n * size ∧ (Builtin.firstCells size n x').run P w = .ok ⟨l'⟩ w := by
  unfold newCells at h
  split at h
  · rename_i a len cap
    simp only [lenA, Option.some.injEq] at hm
    subst hm
    by_cases h0 : len = 0
    · have hn0 : n = 0 := by omega
      subst hn0
      obtain ⟨a', cap', rfl, -⟩ := hx.slice_inv
      have hl : l = [] := by
        obtain ⟨b, off, s⟩ := a
        rw [Nat.zero_mul] at h
        cases s with
        | none => simpa [rdCells, rdOld] using h.symm
        | some s =>
          simp only [rdCells] at h
          split at h
          · simpa [takeExact] using h.symm
          · simp at h
      subst hl
      refine ⟨[], .nil, by simp, ?_⟩
      cases a' <;> simp [Builtin.firstCells, loadCells, loadCellsFrom]
    · obtain ⟨a', cap', rfl, -⟩ := hx.slice_inv
      obtain ⟨-, b, b', e1, rfl, hab⟩ := slice_addr hx (by omega)
      cases e1
      obtain ⟨l', h1, h2, h3⟩ := rdCells_spec E hab h
      refine ⟨l', h1, h2, ?_⟩
      have := run_loadCells_of (P := P) h3
      rw [rel_length h1, h2] at this
      exact this
  · rename_i len cap
    obtain ⟨a', cap', rfl, -⟩ := hx.slice_inv
    simp only [lenA, Option.some.injEq] at hm
    simp only [Option.some.injEq] at h
    subst h
    cases hx
    have hn0 : n = 0 := by omega
    subst hn0
    exact ⟨[], .nil, by simp, rfl⟩
  · rename_i s
    cases hx
    simp only [lenA, Option.some.injEq] at hm
    subst hm
    cases hs : Nat.beq size 1 with
    | false => rw [hs] at h; simp at h
    | true =>
      rw [hs] at h
      have hs := Nat.eq_of_beq_eq_true hs
      simp only [cond_true, Option.some.injEq] at h
      subst h
      subst hs
      refine ⟨(cellsOfBytes s).take n, ⟨rfl, ?_⟩, ?_, ?_⟩
      · intro i x y hx hy
        rw [hx] at hy
        cases hy
        have : x ∈ cellsOfBytes s := List.mem_of_mem_take (List.mem_of_getElem? hx)
        simp only [cellsOfBytes, List.mem_map] at this
        obtain ⟨b, -, rfl⟩ := this
        exact .int _ _
      · have : s.size = s.data.toList.length := by rw [Array.length_toList]; rfl
        simp [cellsOfBytes]
        have : s.size = s.data.size := rfl
        omega
      · simp only [Builtin.firstCells, Sem.run_pure]
        congr 1
        apply Array.ext'
        simp [cellsOfBytes, List.map_take, List.extract_eq_take_drop]
  · simp at h

theorem rdCells_firstCells (E : Emb P w0 φ H w) {size n : Nat} {a : Addr} {cap : Nat} {x' : Value} {l : List Value} (hx : VRel φ (.slice (some a) n cap) x') (h : rdCells w0 H a (n * size) = some l) :
    ∃ l', VRels φ l l' ∧ l.length = n * size ∧ (Builtin.firstCells size n x').run P w = .ok ⟨l'⟩ w :=
  newCells_spec E hx rfl (Nat.le_refl _) h

theorem appendable_cases {d : TypeDesc} (h : appendable d = true) : (∃ e, d = .slice e) ∨ d = .string := by
  cases d <;> simp [appendable] at h
  · exact .inr rfl
  · exact .inl ⟨_, rfl⟩

/-- the step of 'append' that grows -/
theorem grow_run {st e : TypeId} {ty : TypeId} {i : TypeInfo} {z : Value} {xt : TypeId} {xd : TypeDesc} {base : Option Addr} {sLen sCap n : Nat} {x' : Value} {old new : List Value}
    (hst : P.underlying st = some (.slice e)) (hxt : P.underlying xt = some xd) (hxi : appendable xd = true) (hi : P.info? e = some i) (hz : (zeroValue e).run P w.drew = .ok z w.drew)
    (hl : (Builtin.lenOf x').run P w = .ok n w) (hneed : sCap < sLen + n) (hb : (sLen + n) * i.bytes ≤ 140737488355328) (h62 : sLen + n ≤ 4611686018427387904)
    (hold : (Builtin.firstCells i.size sLen (.slice base sLen sCap)).run P w.drew = .ok ⟨old⟩ w.drew) (hnew : (Builtin.firstCells i.size n x').run P w.drew = .ok ⟨new⟩ w.drew) :
    ∃ (c : Nat) (rest : List Value), sLen + n ≤ c ∧ rest.length = (c - (sLen + n)) * z.cells.size ∧
    (Builtin.append_ #[st, xt] ty #[.slice base sLen sCap, x']).run P w =
      .ok (.slice (some ⟨w.heap.size, 0, none⟩) (sLen + n) c) (w.drew.alloc (.cells ⟨old ++ new ++ rest⟩ e (0, 0))) := by
  have hfit := growslice_fits (need := sLen + n) (old := sCap) (bytes := i.bytes) hneed hb
  have hfit' : ¬ (281474976710656 < Builtin.nextslicecap (sLen + n) sCap * i.bytes) := by omega
  have hn : ¬ (sLen + n ≤ sCap) := by omega
  have h63' : ¬ (9223372036854775807 < ((sLen : Int) + (n : Int))) := by omega
  refine ⟨grownCap w (sLen + n) sCap e, (Builtin.zeroCells z.cells (grownCap w (sLen + n) sCap e - (sLen + n))).toList, grownCap_ge _ _ _ _, by simp [Builtin.zeroCells], ?_⟩
  have fin : ∀ a b c : Array Value, (⟨a.toList ++ b.toList ++ c.toList⟩ : Array Value) = a ++ b ++ c := fun a b c => by apply Array.ext'; simp
  have hfo : ∀ c, (Builtin.firstCells i.size sLen (.slice base sLen c)).run P w.drew = .ok ⟨old⟩ w.drew := fun c => by
    rw [← hold]; cases base <;> rfl
  have e2 := fin ⟨old⟩ ⟨new⟩ (Builtin.zeroCells z.cells (grownCap w (sLen + n) sCap e - (sLen + n)))
  simp only at e2
  rw [e2]
  rcases appendable_cases hxi with ⟨e', rfl⟩ | rfl
  · simp [Builtin.append_, underlying_run hst, underlying_run hxt, sizeOf, typeInfo, hi, hl, hn, h63', hfit', Question.forced, hold, hnew, newRow, grownCap, hz]
    congr 2
    apply Array.ext'
    simp [List.append_assoc]
  · simp [Builtin.append_, underlying_run hst, underlying_run hxt, sizeOf, typeInfo, hi, hl, hn, h63', hfit', Question.forced, hold, hnew, newRow, grownCap, hz]
    congr 2
    apply Array.ext'
    simp [List.append_assoc]

/-- the step of 'append' that finds room -/
theorem room_run {st e : TypeId} {ty : TypeId} {i : TypeInfo} {xt : TypeId} {xd : TypeDesc} {a : Addr} {sLen sCap n : Nat} {x' : Value} {new : List Value} {w' : World}
    (hst : P.underlying st = some (.slice e)) (hxt : P.underlying xt = some xd) (hxi : appendable xd = true) (hi : P.info? e = some i)
    (hl : (Builtin.lenOf x').run P w = .ok n w) (hneed : sLen + n ≤ sCap)
    (hnew : (Builtin.firstCells i.size n x').run P w = .ok ⟨new⟩ w) (hs : (storeCells (a.add (sLen * i.size)) new).run P w = .ok () w') :
    (Builtin.append_ #[st, xt] ty #[.slice (some a) sLen sCap, x']).run P w = .ok (.slice (some a) (sLen + n) sCap) w' := by
  rcases appendable_cases hxi with ⟨e', rfl⟩ | rfl
  · simp [Builtin.append_, underlying_run hst, underlying_run hxt, sizeOf, typeInfo, hi, hl, hneed, hnew, hs]
  · simp [Builtin.append_, underlying_run hst, underlying_run hxt, sizeOf, typeInfo, hi, hl, hneed, hnew, hs]

/-- the step of 'append' that appends nothing -/
theorem nothing_run {st e : TypeId} {ty : TypeId} {i : TypeInfo} {xt : TypeId} {xd : TypeDesc} {base : Option Addr} {sLen sCap : Nat} {x' : Value}
    (hst : P.underlying st = some (.slice e)) (hxt : P.underlying xt = some xd) (hxi : appendable xd = true) (hi : P.info? e = some i)
    (hl : (Builtin.lenOf x').run P w = .ok 0 w) (hneed : sLen ≤ sCap)
    (hnew : (Builtin.firstCells i.size 0 x').run P w = .ok ⟨[]⟩ w) :
    (Builtin.append_ #[st, xt] ty #[.slice base sLen sCap, x']).run P w = .ok (.slice base sLen sCap) w := by
  rcases appendable_cases hxi with ⟨e', rfl⟩ | rfl
  · cases base <;> simp [Builtin.append_, underlying_run hst, underlying_run hxt, sizeOf, typeInfo, hi, hl, hneed, hnew, storeCells]
  · cases base <;> simp [Builtin.append_, underlying_run hst, underlying_run hxt, sizeOf, typeInfo, hi, hl, hneed, hnew, storeCells]

theorem appended_grow {S : Nat → Prop} (E : Emb P w0 φ H w) {nm : Nat} (hnm : φ nm = none) (hlt : nm < H.next) (hS : S nm) {st e ty : TypeId} {i : TypeInfo} {z : Value} {xt : TypeId} {xd : TypeDesc}
    {base : Option Addr} {sLen sCap n : Nat} {x' : Value} {old old' new new' : List Value}
    (hst : P.underlying st = some (.slice e)) (hxt : P.underlying xt = some xd) (hxi : appendable xd = true) (hi : P.info? e = some i) (hz : zeroOf? P e = some z)
    (hl : lenA x' = some n) (hneed : sCap < sLen + n) (hb : (sLen + n) * i.bytes ≤ 140737488355328) (h62 : sLen + n ≤ 4611686018427387904)
    (ho : VRels φ old old') (hol : old.length = sLen * i.size) (hn : VRels φ new new') (hnl : new.length = n * i.size) (hzl : z.cells.size = i.size)
    (hold : (Builtin.firstCells i.size sLen (.slice base sLen sCap)).run P w.drew = .ok ⟨old'⟩ w.drew) (hnew : (Builtin.firstCells i.size n x').run P w.drew = .ok ⟨new'⟩ w.drew) :
    ∃ v' φ' w', (Builtin.append_ #[st, xt] ty #[.slice base sLen sCap, x']).run P w = .ok v' w' ∧ VRel φ' (.slice (some ⟨nm, 0, some 0⟩) (sLen + n) capU) v' ∧
      Emb P w0 φ' (newRowA H nm (old ++ new) e) w' ∧ Keeps S φ H w φ' (newRowA H nm (old ++ new) e) w' := by
  obtain ⟨c, rest, hc, hrl, hrun⟩ := grow_run (ty := ty) hst hxt hxi hi (zero_run hz) (lenOf_run hl) hneed hb h62 hold hnew
  have hrel : VRels φ (old ++ new) (old' ++ new') := ho.append hn
  obtain ⟨g1, g2⟩ := goes_row (S := S) E.drew hnm hlt hS (lo := 0) (hi := 0) (cs := old ++ new) (cs' := old' ++ new') rest hrel (info_size hi) no_freeze
  refine ⟨_, _, _, hrun, ?_, g1, g2.of_drew⟩
  have hlen : (old' ++ new' ++ rest).length = c * i.size := by
    have h1 := rel_length ho
    have h2 := rel_length hn
    simp only [List.length_append, hrl, hzl, h1, h2, hol, hnl]
    rw [← Nat.add_mul, ← Nat.add_mul]
    congr 1
    omega
  have := VRel.sliceNew (φ := φ.upd nm ⟨w.heap.size, 0, (old' ++ new' ++ rest).length, i.size⟩) (b := nm) (i := ⟨w.heap.size, 0, (old' ++ new' ++ rest).length, i.size⟩) 0 0 (sLen + n) capU c (Ren.upd_same _ _ _) hc
    (.inr ⟨rfl, by simp only [hlen]; omega⟩)
  simpa using this

theorem Emb.kill (E : Emb P w0 φ H w) (b : Nat) : Emb P w0 φ (H.set b none) w := by
  have hl : ∀ c, (H.set b none).get c ≠ none → c ≠ b ∧ H.get c ≠ none := fun c hc => by
    by_cases e : c = b
    · subst e; rw [AH.get_set_same] at hc; exact absurd rfl hc
    · rw [AH.get_set_other _ _ e] at hc; exact ⟨e, hc⟩
  exact ⟨E.bound, fun c d i j hc hd h1 h2 h3 => E.inj c d i j hc hd (hl c h1).2 (hl d h2).2 h3, fun c i hc h1 => E.base c i hc (hl c h1).2, E.old,
    fun c i x hc h1 => E.holds c i x hc (by have := hl c (by rw [h1]; simp); rw [AH.get_set_other _ _ this.1] at h1; exact h1)⟩

theorem Keeps.of_kill {S : Nat → Prop} {φ' : Ren} {H' : AH} {w' : World} {b : Nat} (k : Keeps S φ (H.set b none) w φ' H' w') : Keeps S φ H w φ' H' w' := by
  have hl : ∀ c, (H.set b none).get c ≠ none → H.get c ≠ none := fun c hc => by
    by_cases e : c = b
    · subst e; rw [AH.get_set_same] at hc; exact absurd rfl hc
    · rw [AH.get_set_other _ _ e] at hc; exact hc
  exact ⟨k.ext, k.dom, k.next, k.size, fun c hc h => k.out c hc fun b i hb hg => h b i hb (hl b hg), fun c i hc hg => (k.img c i hc hg).imp (fun ⟨b0, i0, h0, h1, h2⟩ => ⟨b0, i0, h0, hl b0 h1, h2⟩) id, k.tape, k.os, k.output⟩

/-- APPEND -/
theorem aAppend_spec {S : Nat → Prop} (E : Emb P w0 φ H w) {nm : Nat} (hnm : φ nm = none) (hlt : nm < H.next) (hS : S nm) {ats : Array TypeId} {ty : TypeId} {s s' x x' v : Value} {H' : AH} (hs : VRel φ s s') (hx : VRel φ x x')
    (hat : ats.size = 2) (h : aAppend P w0 H nm ats s x = some (v, H')) :
    ∃ v' φ' w', (Builtin.append_ ats ty #[s', x']).run P w = .ok v' w' ∧ VRel φ' v v' ∧ Emb P w0 φ' H' w' ∧ Keeps S φ H w φ' H' w' := by
  obtain ⟨st, xt, rfl⟩ : ∃ a b, ats = #[a, b] := by
    obtain ⟨l⟩ := ats
    match l, hat with
    | [a, b], _ => exact ⟨a, b, rfl⟩
  unfold aAppend at h
  simp only [List.getElem?_toArray, List.getElem?_cons_zero, List.getElem?_cons_succ, Option.bind_some] at h
  split at h
  · rename_i st' base sLen sCap e1
    cases e1
    split at h
    · rename_i e hst
      split at h
      · rename_i i n xd hi hn hxt
        cases hap : appendable xd with
        | false => rw [hap] at h; simp at h
        | true =>
        rw [hap] at h
        simp only [cond_true] at h
        have hlx' : lenA x' = some n := by rw [lenA_rel hx, hn]
        obtain ⟨base', cap', rfl, hle⟩ := hs.slice_inv
        cases hn0 : Nat.beq n 0 with
        | true =>
          rw [hn0] at h
          have hn0 := Nat.eq_of_beq_eq_true hn0
          subst hn0
          simp only [cond_true, Option.some.injEq, Prod.mk.injEq] at h
          obtain ⟨rfl, rfl⟩ := h
          have hfc : (Builtin.firstCells i.size 0 x').run P w = .ok ⟨[]⟩ w := by
            cases x' <;> simp [lenA] at hlx'
            · simp [Builtin.firstCells]
            · rename_i a _ _
              cases a <;> simp [Builtin.firstCells, loadCells, loadCellsFrom]
          exact ⟨_, φ, w, nothing_run hst hxt hap hi (lenOf_run hlx') hle hfc, hs, E, Keeps.refl _ _ _ _⟩
        | false =>
        rw [hn0] at h
        simp only [cond_false] at h
        have hn0 : n ≠ 0 := fun e => by rw [beq_true e] at hn0; cases hn0
        cases hc : (Nat.ble ((sLen + n) * i.bytes) roomMost && Nat.ble (sLen + n) 4611686018427387904 && !(Nat.beq i.size 0) && zeroOk P e) with
        | false => rw [hc] at h; simp at h
        | true =>
        rw [hc] at h
        simp only [cond_true] at h
        simp only [Bool.and_eq_true, Bool.not_eq_true'] at hc
        obtain ⟨⟨⟨c1, c2⟩, c3⟩, c4⟩ := hc
        have c1 := Nat.le_of_ble_eq_true c1
        have c2 := Nat.le_of_ble_eq_true c2
        obtain ⟨z, hz, hzl⟩ : ∃ z, zeroOf? P e = some z ∧ z.cells.size = i.size := by
          unfold zeroOk at c4
          split at c4
          · rename_i z m hz hm
            rw [info_size hi] at hm
            cases hm
            exact ⟨z, hz, by simpa [cellsL] using Nat.eq_of_beq_eq_true c4⟩
          · cases c4
        split at h
        · simp at h
        · rename_i new hnew
          cases hone : new.all oneCellB with
          | false => rw [hone] at h; simp at h
          | true =>
          rw [hone] at h
          simp only [cond_true] at h
          obtain ⟨new', n1, n2, n3⟩ := newCells_spec E.drew hx hn (Nat.le_refl _) hnew
          split at h
          · cases hb0 : (Nat.beq sLen 0 && Nat.beq sCap 0) with
            | false => rw [hb0] at h; simp at h
            | true =>
            rw [hb0] at h
            simp only [Bool.and_eq_true] at hb0
            obtain ⟨rfl, rfl⟩ : sLen = 0 ∧ sCap = 0 := ⟨Nat.eq_of_beq_eq_true hb0.1, Nat.eq_of_beq_eq_true hb0.2⟩
            simp only [cond_true, Option.some.injEq, Prod.mk.injEq] at h
            obtain ⟨rfl, rfl⟩ := h
            cases hs
            have := appended_grow (S := S) (ty := ty) (base := none) (sLen := 0) (sCap := 0) (old := []) (old' := []) E hnm hlt hS hst hxt hap hi hz hlx' (by omega) c1 c2 .nil (by simp) n1 n2 hzl rfl n3
            simpa using this
          · rename_i a
            split at h
            · simp at h
            · rename_i old hold
              obtain ⟨old', o1, o2, o3⟩ := rdCells_firstCells E.drew hs hold
              split at h
              · rename_i hsp
                cases hlt2 : Nat.blt sCap (sLen + n) with
                | false => rw [hlt2] at h; simp at h
                | true =>
                rw [hlt2] at h
                simp only [cond_true, Option.some.injEq, Prod.mk.injEq] at h
                obtain ⟨rfl, rfl⟩ := h
                have hlt2 : sCap < sLen + n := by simpa using hlt2
                have hcap : cap' = sCap := by
                  cases hs with
                  | sliceOld => rfl
                  | sliceNew => cases hsp
                  | slice0 => cases hsp
                subst hcap
                exact appended_grow (S := S) (ty := ty) E hnm hlt hS hst hxt hap hi hz hlx' hlt2 c1 c2 o1 o2 n1 n2 hzl o3 n3
              · rename_i s hsp
                cases hcu : Nat.beq sCap capU with
                | true =>
                  rw [hcu] at h
                  simp only [cond_true] at h
                  have hcu := Nat.eq_of_beq_eq_true hcu
                  subst hcu
                  split at h
                  · rename_i cs e' hg
                    cases hee : Nat.beq e e' with
                    | false => rw [hee] at h; simp at h
                    | true =>
                    rw [hee] at h
                    have hee := Nat.eq_of_beq_eq_true hee
                    subst hee
                    simp only [cond_true, Option.some.injEq, Prod.mk.injEq] at h
                    obtain ⟨rfl, rfl⟩ := h
                    by_cases hroom : sLen + n ≤ cap'
                    · cases hs with
                      | sliceOld => cases hsp
                      | slice0 => omega
                      | sliceNew off s2 _ _ _ hφ h1 h2 =>
                        rename_i b j
                        rcases h2 with ⟨h2, _⟩ | ⟨_, h2⟩
                        · exact absurd rfl h2
                        · obtain ⟨cs', lo, hi', hw, ht, hlen, hcc, hf, hsz⟩ := E.holds b j _ hφ hg
                          have hes : j.esz = i.size := by rw [info_size hi] at hsz; exact (Option.some.inj hsz).symm
                          obtain ⟨new2, m1, m2, m3⟩ := newCells_spec E hx hn (Nat.le_refl _) hnew
                          have hnl : new2.length = n * i.size := by rw [rel_length m1, m2]
                          have hfit : off + j.sh + sLen * i.size + new2.length ≤ cs'.length := by
                            rw [hnl, ← ht]
                            rw [hes] at h2
                            have : (sLen + n) * i.size ≤ cap' * i.size := Nat.mul_le_mul_right _ hroom
                            rw [Nat.add_mul] at this
                            omega
                          have hst2 := run_storeRow (P := P) new2 0 (off + j.sh + sLen * i.size) cs' w hw (by omega) hf (oneCell_all m1 hone)
                          rw [Nat.add_zero] at hst2
                          have hrun := room_run (ty := ty) (a := ⟨j.blk, off + j.sh, none⟩) (sLen := sLen) (sCap := cap') hst hxt hap hi (lenOf_run hlx') hroom m3 (by rw [add_none]; exact hst2)
                          have hlayl : (lay cs' (off + j.sh + sLen * i.size) new2).length = cs'.length := lay_length hfit
                          have hold2 : old = (cs.drop off).take (sLen * i.size) ∧ sLen * i.size ≤ cs.length - off ∨ sLen * i.size = 0 := by
                            simp only [rdCells, hg] at hold
                            obtain ⟨q1, q2⟩ := takeExact_eq hold
                            exact .inl ⟨q1, by simpa using q2⟩
                          have hx3 : Holds P (φ.upd nm ⟨j.blk, j.sh + off, j.top, j.esz⟩) (putObj w j.blk (.cells ⟨lay cs' (off + j.sh + sLen * i.size) new2⟩ e (lo, hi'))) ⟨j.blk, j.sh + off, j.top, j.esz⟩ (.row (old ++ new) e) := by
                            refine ⟨lay cs' (off + j.sh + sLen * i.size) new2, lo, hi', putObj_same _ (E.holds b j _ hφ hg).lt, by rw [hlayl]; exact ht, ?_, ?_, by rw [hlayl]; exact hf, hsz⟩
                            · rw [hlayl, List.length_append, o2, ← rel_length m1]
                              simp only
                              omega
                            · intro k v hk
                              simp only
                              rw [lay_get hfit]
                              rw [List.getElem?_append] at hk
                              by_cases hk1 : k < old.length
                              · rw [if_pos hk1] at hk
                                rw [o2] at hk1
                                rw [if_pos (by omega)]
                                rcases hold2 with ⟨q1, q2⟩ | q1
                                · rw [q1, List.getElem?_take, if_pos hk1, List.getElem?_drop] at hk
                                  obtain ⟨v', r1, r2⟩ := hcc _ _ hk
                                  exact ⟨v', by rw [Nat.add_assoc]; exact r1, r2.mono (Ren.le_upd hnm)⟩
                                · omega
                              · rw [if_neg hk1] at hk
                                rw [o2] at hk1 hk
                                obtain ⟨y, hy, hr⟩ := m1.get hk
                                have hky : k - sLen * i.size < new2.length := by
                                  rcases Nat.lt_or_ge (k - sLen * i.size) new2.length with h | h
                                  · exact h
                                  · rw [List.getElem?_eq_none h] at hy; cases hy
                                rw [if_neg (by omega), if_pos (by omega)]
                                exact ⟨y, by rw [show j.sh + off + k - (off + j.sh + sLen * i.size) = k - sLen * i.size by omega]; exact hy, hr.mono (Ren.le_upd hnm)⟩
                          obtain ⟨g1, g2⟩ := goes_move (S := S) E hφ hg hnm hlt hS (j := ⟨j.blk, j.sh + off, j.top, j.esz⟩) rfl hx3
                          refine ⟨_, _, _, hrun, ?_, g1, g2⟩
                          have := VRel.sliceNew (φ := φ.upd nm ⟨j.blk, j.sh + off, j.top, j.esz⟩) (b := nm) (i := ⟨j.blk, j.sh + off, j.top, j.esz⟩) 0 0 (sLen + n) capU cap' (Ren.upd_same _ _ _) hroom
                            (.inr ⟨rfl, by simp only; omega⟩)
                          simpa [Nat.add_comm] using this
                    · obtain ⟨v', φ', w', r1, r2, r3, r4⟩ := appended_grow (S := S) (ty := ty) (E.kill a.block) hnm hlt hS hst hxt hap hi hz hlx' (by omega) c1 c2 o1 o2 n1 n2 hzl o3 n3
                      exact ⟨v', φ', w', r1, r2, r3, r4.of_kill⟩
                  · simp at h
                | false =>
                  rw [hcu] at h
                  simp only [cond_false] at h
                  have hcu : sCap ≠ capU := fun e => by rw [beq_true e] at hcu; cases hcu
                  cases hlt2 : Nat.blt sCap (sLen + n) with
                  | false => rw [hlt2] at h; simp at h
                  | true =>
                  rw [hlt2] at h
                  simp only [cond_true, Option.some.injEq, Prod.mk.injEq] at h
                  obtain ⟨rfl, rfl⟩ := h
                  have hlt2 : sCap < sLen + n := by simpa using hlt2
                  have hcap : cap' = sCap := by
                    cases hs with
                    | sliceOld => rfl
                    | sliceNew _ _ _ _ _ _ _ h2 =>
                      rcases h2 with ⟨_, h2⟩ | ⟨h2, _⟩
                      · exact h2
                      · exact absurd h2 hcu
                    | slice0 _ _ _ _ _ h2 =>
                      rcases h2 with h2 | h2
                      · exact absurd h2 hcu
                      · exact h2.symm
                  subst hcap
                  exact appended_grow (S := S) (ty := ty) E hnm hlt hS hst hxt hap hi hz hlx' hlt2 c1 c2 o1 o2 n1 n2 hzl o3 n3
      · simp at h
    · simp at h
  · simp at h

end Go.Sim
