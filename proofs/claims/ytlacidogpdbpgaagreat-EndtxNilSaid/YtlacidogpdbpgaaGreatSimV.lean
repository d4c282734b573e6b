/-
  Regions, code, functions: the determinate reading holds.
-/
import Derived.Test.YtlacidogpdbpgaaGreatSimU
import Derived.ScopeJumps
namespace Go.Sim
open Go
set_option linter.unusedSimpArgs false
set_option linter.unusedVariables false

variable {P : Program} {w0 : World} {call : CallA}

/-- how many of the first n are not yet done -/
def cnt (lst : Nat → Bool) : Nat → Nat
  | 0 => 0
  | n + 1 => cnt lst n + (if lst n = true then 0 else 1)

theorem cnt_also {lst : Nat → Bool} {j : Nat} (hj : lst j = false) : ∀ n, cnt lst n = cnt (Tr.also lst j) n + (if j < n then 1 else 0)
  | 0 => by simp [cnt]
  | n + 1 => by
    simp only [cnt]
    rw [cnt_also hj n]
    by_cases e : n = j
    · subst e
      rw [Tr.also_same, hj]
      simp
    · rw [Tr.also_other _ e]
      by_cases h1 : j < n
      · rw [if_pos h1, if_pos (show j < n + 1 by omega)]; omega
      · rw [if_neg h1, if_neg (show ¬ j < n + 1 by omega)]; omega

theorem cnt_zero {lst : Nat → Bool} : ∀ {n : Nat}, cnt lst n = 0 → ∀ k, k < n → lst k = true
  | 0, _, k, hk => by omega
  | n + 1, h, k, hk => by
    simp only [cnt] at h
    by_cases e : k = n
    · subst e
      cases hl : lst k with
      | true => rfl
      | false => rw [hl] at h; simp at h
    · exact cnt_zero (n := n) (by omega) k (by omega)

theorem cnt_pos {lst : Nat → Bool} : ∀ {n : Nat}, 0 < cnt lst n → ∃ j, j < n ∧ lst j = false ∧ ∀ k, k < j → lst k = true
  | 0, h => by simp [cnt] at h
  | n + 1, h => by
    rcases Nat.eq_zero_or_pos (cnt lst n) with h0 | h0
    · refine ⟨n, by omega, ?_, cnt_zero h0⟩
      simp only [cnt, h0] at h
      cases hl : lst n with
      | false => rfl
      | true => rw [hl] at h; simp at h
    · obtain ⟨j, h1, h2, h3⟩ := cnt_pos h0
      exact ⟨j, by omega, h2, h3⟩

namespace Tr
variable {ops : Array Oper} {base : Nat} (t : Tr P w0 call ops base) {N : Nat} {φ0 : Ren} {ws : World}

theorem any_wp (hcall : CallOk P w0 call) (hok : ∀ o ∈ ops.toList, opOk N o = true) {Q : Exit → Act → World → Prop}
    (hQ : ∀ φ' a' w', TRel φ' (t.TT ops.size) a' N → Emb P w0 φ' (t.HH ops.size) w' → Keeps (fun b => base ≤ b) φ0 (t.HH 0) ws φ' (t.HH ops.size) w' → Q .normal a' w') :
    ∀ (fuel : Nat) (listed : Array Bool) (φ : Ren) (q : Nat) (a : Act) (w : World), listed.size = ops.size → cnt (fun k => listed.getD k false) ops.size = fuel →
      t.Inv N φ0 ws (fun k => listed.getD k false) φ q a w → wpAny P .any ops Q fuel listed a w := by
  intro fuel
  induction fuel with
  | zero =>
    intro listed φ q a w hs hc I
    have hall := cnt_zero hc
    have hrd : Region.ready .any ops listed = [] := by
      cases hr : Region.ready .any ops listed with
      | nil => rfl
      | cons j l =>
        have hm : j ∈ Region.ready .any ops listed := by rw [hr]; simp
        obtain ⟨h1, o, ho, h2⟩ := mem_ready.1 hm
        have := hall j (lt_of ho)
        have hj : j < listed.size := by rw [hs]; exact lt_of ho
        simp only [Array.getD, hj, dite_true] at h1 this
        rw [h1] at this
        cases this
    refine ⟨hrd, ?_⟩
    have hq : q = ops.size := by
      rcases I.q_eff with h | ⟨o, ho, hw, hcl⟩
      · exact h
      · have := (I.effs q ⟨o, ho, hw, hcl⟩).1 (hall q (lt_of ho))
        omega
    subst hq
    have hau : t.aug (fun k => listed.getD k false) ops.size = t.HH ops.size := by
      unfold aug
      rw [Nat.sub_self]
      rfl
    have hE := I.emb
    have hKp := I.keeps
    rw [hau] at hE hKp
    refine hQ φ a w ⟨I.size, fun d => ?_, I.defers⟩ hE hKp
    obtain ⟨p, hp, hw, hr⟩ := I.tmps d
    rw [t.tt_same hp (Nat.le_refl _) (fun k o h1 h2 ho hd => by
      have := (hw k o ho hd).1 (hall k (lt_of ho))
      omega)]
    exact hr
  | succ fuel ih =>
    intro listed φ q a w hs hc I
    refine ⟨fun hrd => ?_, fun j hj => ?_⟩
    · exfalso
      obtain ⟨j, h1, h2, h3⟩ := cnt_pos (lst := fun k => listed.getD k false) (n := ops.size) (by omega)
      have ho : ops[j]? = some ops[j] := Array.getElem?_eq_getElem h1
      have hm : j ∈ Region.ready .any ops listed := by
        refine mem_ready.2 ⟨?_, _, ho, fun e he hb => ?_⟩
        · have hj : j < listed.size := by omega
          simp only [Array.getD, hj, dite_true] at h2 ⊢
          exact h2
        · exact h3 e.on (t.back j _ ho e (by simpa using he) hb)
      rw [hrd] at hm
      cases hm
    · obtain ⟨h1, o, ho, h2⟩ := mem_ready.1 hj
      have hlt := lt_of ho
      have hjl : j < listed.size := by omega
      have hlj : (fun k => listed.getD k false) j = false := by
        simp only [Array.getD, hjl, dite_true] at h1 ⊢
        exact h1
      have hah : ∀ i, t.ahead i j = true → (fun k => listed.getD k false) i = true := by
        intro i hi
        obtain ⟨o', ho', e, he, hb, _, hc'⟩ := t.edge i j hi
        rw [ho] at ho'
        cases ho'
        have hl := h2 e (by simpa using he) hb
        rcases hc' with rfl | hc'
        · exact hl
        · exact I.down i e.on hl hc'
      have hal : also (fun k => listed.getD k false) j = fun k => (listed.setIfInBounds j true).getD k false := by
        funext k
        unfold also
        simp only [Array.getD_eq_getD_getElem?, Array.getElem?_setIfInBounds]
        by_cases e : k = j
        · subst e; simp [hjl]
        · simp [e, Ne.symm e]
      refine I.step_wp t hcall ho hlj hah (hok o (by
        have := Array.mem_of_getElem? ho
        simpa using this)) ?_
      intro φ' q' a' w' I'
      rw [hal] at I'
      refine ih _ φ' q' a' w' (by simp [hs]) ?_ I'
      have := cnt_also (lst := fun k => listed.getD k false) (j := j) hlj ops.size
      rw [if_pos hlt, hal] at this
      omega
end Tr

theorem emb_room {φ : Ren} {H : AH} {w : World} (E : Emb P w0 φ H w) (n : Nat) : Emb P w0 φ ⟨H.next + n, H.blk⟩ w :=
  ⟨fun b i h => Nat.lt_of_lt_of_le (E.bound b i h) (Nat.le_add_right _ _), E.inj, E.base, E.old, E.holds⟩

theorem keeps_room {S : Nat → Prop} {φ φ' : Ren} {H H' : AH} {w w' : World} {n : Nat} (K : Keeps S φ ⟨H.next + n, H.blk⟩ w φ' H' w') : Keeps S φ H w φ' H' w' :=
  ⟨K.ext, K.dom, Nat.le_trans (Nat.le_add_right _ _) K.next, K.size, K.out, K.img, K.tape, K.os, K.output⟩

/-- A REGION -/
theorem region_wp (hcall : CallOk P w0 call) (hmix : P.follows .mixedOrders = true) {N : Nat} {id : Nat} {ops : Array Oper} {draw : Bool} (hok : ∀ o ∈ ops.toList, opOk N o = true) {T T' : Tmps} {H H' : AH} {a : Act} {w : World} {φ : Ren}
    (h : aRegion P w0 call ops draw T H = some (T', H')) (hT : TRel φ T a N) (E : Emb P w0 φ H w) {Q : Exit → Act → World → Prop}
    (hQ : ∀ φ' a' w', TRel φ' T' a' N → Emb P w0 φ' H' w' → Keeps (fun b => H.next ≤ b ∧ b < H'.next) φ H w φ' H' w' → Q .normal a' w') : (Code.region id ops draw).wp P Q a w := by
  unfold aRegion at h
  dsimp only at h
  have hfree : ∀ b, H.next ≤ b → φ b = none := fun b hb => by
    cases hc : φ b with
    | none => rfl
    | some i => have := E.bound b i hc; omega
  cases draw with
  | false =>
    simp only [cond_false] at h
    refine wp_region ?_
    have := ops_wp hcall hok (Q := Q) ops.toList 0 H.next T _ a w φ T' H' (by simp) h hT (emb_room E ops.size) (fun b h1 h2 => ⟨hfree b h1, by simpa using h2⟩) (by
      intro φ' a' w' h1 h2 h3
      refine hQ φ' a' w' h1 h2 ((keeps_room h3).mono fun b hb => ?_)
      have hn := h3.next
      simp only [Array.length_toList] at hb hn
      rcases hb with hb | hb <;> omega)
    rw [List.range_eq_range']
    simpa using this
  | true =>
    simp only [cond_true] at h
    cases htr : aTrace P w0 call ops ops.toList H.next T ⟨H.next + ops.size, H.blk⟩ with
    | none => rw [htr] at h; simp at h
    | some r =>
      obtain ⟨recs, T2, H2⟩ := r
      rw [htr] at h
      simp only at h
      cases hck : (drawOk ops && pairsOk (fun x y => !x.want || !y.want || meddleNot P w0 call x y) recs recs (befores ops.toList []) 0) with
      | false => rw [hck] at h; simp at h
      | true =>
        rw [hck] at h
        simp only [cond_true, Option.some.injEq, Prod.mk.injEq] at h
        obtain ⟨rfl, rfl⟩ := h
        simp only [Bool.and_eq_true] at hck
        obtain ⟨t, t1, t2, t3, t4⟩ := tr_of htr hck.1 hck.2
        refine wp_region_any hmix ?_
        have hg : (fun k => (Array.replicate ops.size false).getD k false) = fun _ => false := by
          funext k
          simp only [Array.getD_eq_getD_getElem?]
          cases hx : (Array.replicate ops.size false)[k]? with
          | none => rfl
          | some b =>
            rw [Array.getElem?_replicate] at hx
            split at hx
            · cases hx; rfl
            · cases hx
        obtain ⟨q, n1, n2, n3, n4⟩ := t.next_eff 0 (Nat.zero_le _)
        have hau : ∀ b y, φ b ≠ none → (t.aug (fun _ => false) q).get b = some y → (⟨H.next + ops.size, H.blk⟩ : AH).get b = some y := by
          intro b y hφ hy
          obtain ⟨g1, g2, g3⟩ := t.segment n1 n2 n4
          rw [t.aug_other (fun i _ _ h _ => by cases h), g2 b, t2] at hy
          · exact hy
          · intro k _ _ _ e
            exact hφ (hfree b (by omega))
        have hnx : (t.aug (fun _ => false) q).next = (⟨H.next + ops.size, H.blk⟩ : AH).next := by
          obtain ⟨g1, g2, g3⟩ := t.segment n1 n2 n4
          rw [t.aug_next, g1, t2]
        refine t.any_wp hcall hok (φ0 := φ) (ws := w) ?_ ops.size _ φ q a _ (by simp) ?_ ?_
        · intro φ' a' w' h1 h2 h3
          rw [t3] at h1
          rw [t4] at h2 h3
          rw [t2] at h3
          have h3' := keeps_room h3
          refine hQ φ' a' w' h1 h2 ⟨h3'.ext, fun b hb hb' => ⟨h3'.dom b hb hb', ?_⟩, h3'.next, h3'.size, h3'.out, h3'.img, h3'.tape, h3'.os, h3'.output⟩
          cases hc : φ' b with
          | none => exact absurd hc hb'
          | some i => exact h2.bound b i hc
        · rw [hg]
          have : ∀ n, cnt (fun _ => false) n = n := by
            intro n
            induction n with
            | zero => rfl
            | succ n ih => simp [cnt, ih]
          exact this _
        · rw [hg]
          have E0 : Emb P w0 φ ⟨H.next + ops.size, H.blk⟩ w := emb_room E ops.size
          have E1 : Emb P w0 φ ⟨H.next + ops.size, H.blk⟩ w.drew := E0.drew
          refine ⟨n2, n3, fun j hj => ?_, fun i j h => (by cases h), hT.size, hT.defers, fun d => ⟨0, Nat.zero_le _, fun j o _ _ => by simp, ?_⟩, E1.sub hnx hau, fun i hi _ => hfree _ (by omega), ?_, by rw [t2]; exact Nat.le_refl _⟩
          · simp only [Bool.false_eq_true, false_iff]
            intro h
            exact n4 j (Nat.zero_le _) h hj
          · rw [t1]; exact hT.rel d
          · rw [t2]
            exact Keeps.sub (A := ⟨H.next + ops.size, H.blk⟩) (Keeps.of_drew (Keeps.refl _ _ _ _)) hnx hau

end Go.Sim
