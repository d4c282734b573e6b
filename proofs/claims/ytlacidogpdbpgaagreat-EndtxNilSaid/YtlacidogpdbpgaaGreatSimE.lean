/-
  Operations that leave memory alone: what the determinate reading says of them holds in every world.
-/
import Derived.Test.YtlacidogpdbpgaaGreatSimD
namespace Go.Sim
open Go
set_option linter.unusedSimpArgs false
set_option linter.unusedVariables false

variable {P : Program} {w0 : World} {φ : Ren} {H : AH} {w : World}

theorem overwrite_eq : ∀ {cs : List Value} {o : Nat} {vs cs' : List Value}, overwrite cs o vs = some cs' → o + vs.length ≤ cs.length ∧ cs' = lay cs o vs
  | [], 0, [], cs', h => by simp [overwrite] at h; subst h; simp [lay]
  | [], 0, _ :: _, cs', h => by simp [overwrite] at h
  | [], _ + 1, _, cs', h => by simp [overwrite] at h
  | c :: cs, 0, [], cs', h => by simp [overwrite] at h; subst h; simp [lay]
  | c :: cs, 0, v :: vs, cs', h => by
    simp only [overwrite, Option.map_eq_some_iff] at h
    obtain ⟨l, h1, rfl⟩ := h
    obtain ⟨e1, rfl⟩ := overwrite_eq h1
    exact ⟨by simp at e1 ⊢; omega, by simp [lay]⟩
  | c :: cs, o + 1, vs, cs', h => by
    simp only [overwrite, Option.map_eq_some_iff] at h
    obtain ⟨l, h1, rfl⟩ := h
    obtain ⟨e1, rfl⟩ := overwrite_eq h1
    refine ⟨by simp; omega, ?_⟩
    simp only [lay, List.take_succ_cons, List.cons_append, List.append_assoc]
    rw [show o + 1 + vs.length = (o + vs.length) + 1 by omega, List.drop_succ_cons]

theorem lay_length {cs vs : List Value} {o : Nat} (h : o + vs.length ≤ cs.length) : (lay cs o vs).length = cs.length := by
  simp [lay]; omega

theorem lay_rel {a b c d : List Value} (h : VRels φ a b) (k : VRels φ c d) (o : Nat) : VRels φ (lay a o c) (lay b o d) := by
  unfold lay
  rw [k.1]
  exact ((h.take o).append k).append (h.drop _)

theorem fill_fold (off : Nat) : ∀ (l : List Value) (k : Nat) (cs : Array Value), off + k + l.length ≤ cs.size →
    (l.zipIdx k).foldl (fun (cs : Array Value) (p : Value × Nat) => cs.setIfInBounds (off + p.2) p.1) cs = ⟨lay cs.toList (off + k) l⟩
  | [], k, cs, h => by simp [lay]
  | v :: l, k, cs, h => by
    simp only [List.length_cons] at h
    simp only [List.zipIdx_cons, List.foldl_cons]
    rw [fill_fold off l (k + 1) (cs.setIfInBounds (off + k) v) (by simp; omega)]
    congr 1
    simp only [Array.toList_setIfInBounds]
    have hk : off + k < cs.toList.length := by simp; omega
    unfold lay
    apply List.ext_getElem?
    intro j
    simp only [List.getElem?_append, List.getElem?_take, List.getElem?_drop, List.length_take, List.length_set, List.length_append, List.length_cons, List.getElem?_set, List.getElem?_cons]
    have m1 : min (off + (k + 1)) cs.toList.length = off + k + 1 := by omega
    have m2 : min (off + k) cs.toList.length = off + k := by omega
    rw [m1, m2]
    by_cases c1 : j < off + k
    · have : off + k ≠ j := by omega
      simp [c1, show j < off + k + 1 + l.length by omega, show j < off + k + 1 by omega, show j < off + (k + 1) by omega, show j < off + k + (l.length + 1) by omega, this]
    · by_cases c2 : j = off + k
      · subst c2
        have hk' : off + k < cs.size := by simpa using hk
        simp [show off + k < off + k + 1 + l.length by omega, show off + k < off + k + (l.length + 1) by omega, show off + k < off + (k + 1) by omega, hk']
      · by_cases c3 : j < off + k + 1 + l.length
        · simp [c1, c3, show ¬ j < off + k + 1 by omega, show j < off + k + (l.length + 1) by omega, show ¬ j - (off + k) = 0 by omega]
          congr 1
        · simp [c3, show ¬ j < off + k + (l.length + 1) by omega]
          rw [if_neg (by omega)]
          congr 1
          omega

theorem fill_eq {place : Nat → Option (Nat × Nat)} : ∀ {parts parts' : List (Nat × Value)} {cs cs' l : List Value},
    VRels φ cs cs' → parts.length = parts'.length → (∀ (j : Nat) (x y : Nat × Value), parts[j]? = some x → parts'[j]? = some y → x.1 = y.1 ∧ VRel φ x.2 y.2) →
    fillL place cs parts = some l → ∃ l', Instr.fill place ⟨cs'⟩ parts' = some ⟨l'⟩ ∧ VRels φ l l'
  | [], [], cs, cs', l, hr, _, _, h => by
    simp only [fillL, Option.some.injEq] at h
    subst h
    exact ⟨cs', by simp [Instr.fill], hr⟩
  | [], _ :: _, _, _, _, _, hl, _, _ => by simp at hl
  | _ :: _, [], _, _, _, _, hl, _, _ => by simp at hl
  | (i, v) :: rest, (i', v') :: rest', cs, cs', l, hr, hl, hp, h => by
    obtain ⟨e1, hv⟩ := hp 0 _ _ rfl rfl
    simp only at e1 hv
    subst e1
    simp only [fillL] at h
    cases hpl : place i with
    | none => rw [hpl] at h; simp at h
    | some q =>
      obtain ⟨off, size⟩ := q
      rw [hpl] at h
      simp only at h
      cases hs : Nat.beq (cellsL v).length size with
      | false => rw [hs] at h; simp at h
      | true =>
        rw [hs] at h
        have hs := Nat.eq_of_beq_eq_true hs
        simp only [cond_true] at h
        cases ho : overwrite cs off (cellsL v) with
        | none => rw [ho] at h; simp at h
        | some cs2 =>
          rw [ho] at h
          simp only at h
          obtain ⟨hle, rfl⟩ := overwrite_eq ho
          have hc : VRels φ (cellsL v) (cellsL v') := cells_rel hv
          have hr2 := lay_rel hr hc off
          obtain ⟨l', e, hr3⟩ := fill_eq hr2 (by simpa using hl) (fun j x y hx hy => hp (j + 1) x y (by simpa using hx) (by simpa using hy)) h
          refine ⟨l', ?_, hr3⟩
          have hlc : v'.cells.size = size := by
            have := hc.1
            simp only [cellsL, Array.length_toList] at this hs
            omega
          have hsz : cs'.length = cs.length := hr.1.symm
          simp only [Instr.fill, hpl]
          rw [if_neg (by
            have : ¬ (v'.cells.size ≠ size) := by omega
            have h2 : ¬ (off + v'.cells.size > (⟨cs'⟩ : Array Value).size) := by
              simp only [cellsL, Array.length_toList] at hle hs
              simp; omega
            simp only [ne_eq, Bool.or_eq_true, decide_eq_true_eq]
            intro hh; rcases hh with hh | hh
            · exact this hh
            · exact h2 hh)]
          have hf := fill_fold off v'.cells.toList 0 ⟨cs'⟩ (by
            simp only [cellsL, Array.length_toList] at hle hs
            simp; omega)
          rw [← e]
          congr 1
          rw [← Array.foldl_toList, Array.toList_zipIdx]
          simpa [cellsL] using hf
  where
  cells_rel {v v' : Value} (h : VRel φ v v') : VRels φ (cellsL v) (cellsL v') := by
    cases h with
    | agg a b h1 h2 => exact ⟨h1, h2⟩
    | bool b => exact .cons (.bool b) .nil
    | int k n => exact .cons (.int k n) .nil
    | string s => exact .cons (.string s) .nil
    | ptrNil => exact .cons .ptrNil .nil
    | ptrOld b off => exact .cons (.ptrOld b off) .nil
    | ptrNew off s h => exact .cons (.ptrNew off s h) .nil
    | sliceNil => exact .cons .sliceNil .nil
    | sliceOld b off len cap h => exact .cons (.sliceOld b off len cap h) .nil
    | sliceNew off s len cap cap' h h1 h2 => exact .cons (.sliceNew off s len cap cap' h h1 h2) .nil
    | slice0 b off s c a' h => exact .cons (.slice0 b off s c a' h) .nil
    | mapNil => exact .cons .mapNil .nil
    | mapNew h => exact .cons (.mapNew h) .nil
    | nilFunc => exact .cons .nilFunc .nil
    | func f a b c d h1 h2 h3 h4 => exact .cons (.func f a b c d h1 h2 h3 h4) .nil
    | nilIface => exact .cons .nilIface .nil
    | iface t h => exact .cons (.iface t h) .nil
    | tuple a b h1 h2 => exact .cons (.tuple a b h1 h2) .nil

theorem VRel.cells {v v' : Value} (h : VRel φ v v') : VRels φ (cellsL v) (cellsL v') := fill_eq.cells_rel h

theorem aFieldAddr_spec {s : TypeId} {x x' v : Value} {f : Nat} (hx : VRel φ x x') (h : aFieldAddr P s x f = some v) :
    ∃ v', (Instr.fieldAt s x' f).run P w = .ok v' w ∧ VRel φ v v' := by
  unfold aFieldAddr at h
  split at h
  · rename_i fields a hu
    obtain ⟨a', rfl, ha⟩ := hx.inv_ptr
    split at h
    · rename_i fd hfd
      split at h
      · rename_i n hn
        cases hz : Nat.beq n 0 with
        | true => rw [hz] at h; simp at h
        | false =>
          rw [hz] at h
          simp only [cond_false, Option.some.injEq] at h
          subst h
          have hn0 : n ≠ 0 := fun e => by subst e; simp at hz
          exact ⟨_, by simp [Instr.fieldAt, underlying_run hu, hfd, Instr.sureAddr, fieldPlace, sizeOf_run hn, hn0], .ptr (ha.add _)⟩
      · simp at h
    · simp at h
  · simp at h

theorem slice_addr {a a' : Option Addr} {len len' cap cap' : Nat} (h : VRel φ (.slice a len cap) (.slice a' len' cap')) (hl : 0 < len) :
    len' = len ∧ ∃ b b', a = some b ∧ a' = some b' ∧ ARel φ b b' := by
  cases h with
  | sliceNil => omega
  | sliceOld b off _ _ h => exact ⟨rfl, _, _, rfl, rfl, rfl⟩
  | sliceNew off s _ _ _ h h1 h2 => exact ⟨rfl, _, _, rfl, rfl, _, h, rfl⟩
  | slice0 => omega

theorem aIndexAddr_spec {t : TypeId} {x x' ix ix' v : Value} (hx : VRel φ x x') (hi : VRel φ ix ix') (h : aIndexAddr P t x ix = some v) :
    ∃ v', (Instr.indexAt t x' ix').run P w = .ok v' w ∧ VRel φ v v' := by
  unfold aIndexAddr at h
  split at h
  · rename_i k i
    cases hi
    split at h
    · rename_i len e a hu
      obtain ⟨a', rfl, ha⟩ := hx.inv_ptr
      unfold aIndexAddr.at_ at h
      split at h
      · rename_i a2 n e1 hn
        cases e1
        cases hc : (decide (0 ≤ i) && decide (i < (len : Int))) with
        | false => rw [hc] at h; simp at h
        | true =>
          rw [hc] at h
          simp only [cond_true, Option.some.injEq] at h
          subst h
          simp only [Bool.and_eq_true, decide_eq_true_eq] at hc
          exact ⟨_, by simp [Instr.indexAt, asIntOf, underlying_run hu, Instr.sureAddr, hc, sizeOf_run hn], .ptr (ha.add _)⟩
      · simp at h
    · rename_i e a len cap hu
      unfold aIndexAddr.at_ at h
      split at h
      · rename_i a2 n hn
        cases hc : (decide (0 ≤ i) && decide (i < (len : Int))) with
        | false => rw [hc] at h; simp at h
        | true =>
          rw [hc] at h
          simp only [cond_true, Option.some.injEq] at h
          subst h
          simp only [Bool.and_eq_true, decide_eq_true_eq] at hc
          have hx' : ∃ a' cap', x' = .slice a' len cap' := by cases hx <;> exact ⟨_, _, rfl⟩
          obtain ⟨a', cap', rfl⟩ := hx'
          obtain ⟨-, b, b', e1, rfl, hab⟩ := slice_addr hx (by omega)
          cases e1
          exact ⟨_, by simp [Instr.indexAt, asIntOf, underlying_run hu, hc, sizeOf_run hn], .ptr (hab.add _)⟩
      · simp at h
    · simp at h
  · simp at h

theorem aPart_spec {t : TypeId} {cs cs' : List Value} {off : Nat} {v : Value} (hc : VRels φ cs cs') (h : aPart P t cs off = some v) :
    ∃ v', (part t ⟨cs'⟩ off).run P w = .ok v' w ∧ VRel φ v v' := by
  unfold aPart at h
  split at h
  · rename_i ha
    simp only [Option.map_eq_some_iff] at h
    obtain ⟨n, hn, rfl⟩ := h
    refine ⟨.agg ⟨(cs'.drop off).take n⟩, ?_, .agg' ((hc.drop off).take n)⟩
    simp [part, isAgg_run ha, sizeOf_run hn, List.extract_eq_take_drop]
  · rename_i ha
    obtain ⟨y, hy, hr⟩ := hc.get h
    exact ⟨y, by simp [part, isAgg_run ha, hy], hr⟩
  · simp at h

theorem aField_spec {t : TypeId} {x x' v : Value} {f : Nat} (hx : VRel φ x x') (h : aField P t x f = some v) :
    ∃ v', (Instr.field t x' f).run P w = .ok v' w ∧ VRel φ v v' := by
  unfold aField at h
  split at h
  · rename_i fields cs hu
    split at h
    · rename_i fd hfd
      obtain ⟨cs⟩ := cs
      obtain ⟨b, rfl, hr⟩ := hx.inv_agg
      obtain ⟨v', h1, h2⟩ := aPart_spec (w := w) hr h
      exact ⟨v', by simp [Instr.field, underlying_run hu, hfd, asAgg, h1], h2⟩
    · simp at h
  · simp at h

theorem aIndex_spec {t : TypeId} {x x' ix ix' v : Value} (hx : VRel φ x x') (hi : VRel φ ix ix') (h : aIndex P t x ix = some v) :
    ∃ v', (Instr.index t x' ix').run P w = .ok v' w ∧ VRel φ v v' := by
  unfold aIndex at h
  split at h
  · rename_i k i
    cases hi
    split at h
    · rename_i len e cs hu
      split at h
      · rename_i n hn
        cases hc : (decide (0 ≤ i) && decide (i < (len : Int))) with
        | false => rw [hc] at h; simp at h
        | true =>
          rw [hc] at h
          simp only [cond_true] at h
          simp only [Bool.and_eq_true, decide_eq_true_eq] at hc
          obtain ⟨cs⟩ := cs
          obtain ⟨b, rfl, hr⟩ := hx.inv_agg
          obtain ⟨v', h1, h2⟩ := aPart_spec (w := w) hr h
          exact ⟨v', by simp [Instr.index, underlying_run hu, asIntOf, hc, sizeOf_run hn, h1], h2⟩
      · simp at h
    · rename_i s hu
      cases hx
      cases hc : decide (0 ≤ i) with
      | false => rw [hc] at h; simp at h
      | true =>
        rw [hc] at h
        simp only [cond_true] at h
        simp only [decide_eq_true_eq] at hc
        split at h
        · rename_i b hb
          simp only [Option.some.injEq] at h
          subst h
          have hb' : s[i.toNat]? = some b := by
            have hlt : i.toNat < s.data.toList.length := by
              rcases Nat.lt_or_ge i.toNat s.data.toList.length with h' | h'
              · exact h'
              · rw [List.getElem?_eq_none h'] at hb; simp at hb
            have hlt2 : i.toNat < s.size := by show i.toNat < s.data.size; rw [← Array.length_toList]; exact hlt
            rw [getElem?_pos s i.toNat hlt2]
            rw [List.getElem?_eq_getElem hlt] at hb
            simp only [Option.some.injEq] at hb ⊢
            rw [← hb]
            rfl
          exact ⟨_, by simp [Instr.index, underlying_run hu, asIntOf, hc, hb'], .int _ _⟩
        · simp at h
    · simp at h
  · simp at h

theorem zero_cells {t : TypeId} {z : Value} (hz : zeroOf? P t = some z) : VRels φ (cellsL z) (cellsL z) := (ground_rel φ z (zero_ground hz)).cells

theorem getElem?_parts {ρ : Operand → Value} (parts : Array (Nat × Operand)) (j : Nat) (x : Nat × Value)
    (h : (parts.toList.map fun p => (p.1, ρ p.2))[j]? = some x) : ∃ p, parts.toList[j]? = some p ∧ x = (p.1, ρ p.2) := by
  simp only [List.getElem?_map, Option.map_eq_some_iff] at h
  obtain ⟨p, h1, rfl⟩ := h
  exact ⟨p, h1, rfl⟩

end Go.Sim
