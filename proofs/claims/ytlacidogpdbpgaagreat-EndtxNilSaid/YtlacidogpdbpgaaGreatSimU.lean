/-
  Each order of a drawn region: all of it.
-/
import Derived.Test.YtlacidogpdbpgaaGreatSimT
namespace Go.Sim
open Go
set_option linter.unusedSimpArgs false
set_option linter.unusedVariables false

variable {P : Program} {w0 : World} {call : CallA}

namespace Tr
variable {ops : Array Oper} {base : Nat} (t : Tr P w0 call ops base) {N : Nat} {φ0 : Ren} {ws : World}

/-- the heap at a place of the segment is a part of the whole one -/
theorem Inv.part {lst : Nat → Bool} {φ : Ren} {q : Nat} {a : Act} {w : World} (I : t.Inv N φ0 ws lst φ q a w) {p : Nat} (hp : p ≤ q) (hs : ∀ j, p ≤ j → j < q → ¬ t.isEff j) :
    ∀ b y, φ b ≠ none → (t.HH p).get b = some y → (t.aug lst q).get b = some y := by
  intro b y hφ hy
  obtain ⟨s1, s2, s3⟩ := t.segment hp I.q_le hs
  have h1 : (t.HH q).get b = some y := by
    rw [s2 b, hy]
    intro k hk1 hk2 hk3 e
    obtain ⟨x, hx⟩ := Option.isSome_iff_exists.1 hk3
    have := (s3 k x hk1 hk2 hx).2
    rw [← e, hy] at this
    cases this
  rw [t.aug_other, h1]
  intro k hk1 hk2 hk3 hk4 e
  obtain ⟨x, hx⟩ := Option.isSome_iff_exists.1 hk4
  obtain ⟨o, ho, hw, hc⟩ := t.blk_alloc hx
  rcases I.q_eff with hq | hq
  · omega
  · have hne : q ≠ k := fun e => by subst e; rw [t.eff_not_blk hq] at hx; cases hx
    obtain ⟨oq, hoq, hwq, hcq⟩ := hq
    have hlq : lst q = false := by
      cases h : lst q with
      | false => rfl
      | true => have := (I.effs q ⟨oq, hoq, hwq, hcq⟩).1 h; omega
    have hah : t.ahead q k = false := by
      cases h : t.ahead q k with
      | false => rfl
      | true => rw [I.down q k hk3 h] at hlq; cases hlq
    have := t.allocs' q k oq o (by omega) hoq ho hwq hw hah hcq hc
    rw [← e, h1] at this
    cases this

theorem Inv.next_ge {lst : Nat → Bool} {φ : Ren} {q : Nat} {a : Act} {w : World} (I : t.Inv N φ0 ws lst φ q a w) : base + ops.size ≤ (t.HH q).next := by
  have := I.keeps.next
  rw [t.aug_next] at this
  exact Nat.le_trans I.room this

theorem aug_also {lst : Nat → Bool} {q j : Nat} (hb : t.blkOf j = none ∨ j < q) (b : Nat) : (t.aug (also lst j) q).get b = (t.aug lst q).get b := by
  by_cases hp : ∃ i, q ≤ i ∧ i < ops.size ∧ lst i = true ∧ (t.blkOf i).isSome = true ∧ b = base + i
  · obtain ⟨i, h1, h2, h3, h4, rfl⟩ := hp
    obtain ⟨x, hx⟩ := Option.isSome_iff_exists.1 h4
    rw [t.aug_same h1 h2 h3 hx, t.aug_same h1 h2 (by unfold also; split <;> simp_all) hx]
  · rw [t.aug_other (fun i h1 h2 h3 h4 e => hp ⟨i, h1, h2, h3, h4, e⟩), t.aug_other]
    intro i h1 h2 h3 h4 e
    by_cases e2 : i = j
    · subst e2
      rcases hb with hb | hb
      · rw [hb] at h4; cases h4
      · omega
    · rw [also_other _ e2] at h3
      exact hp ⟨i, h1, h2, h3, h4, e⟩

/-- ONE STEP OF A RUN -/
theorem Inv.step_wp (hcall : CallOk P w0 call) {lst : Nat → Bool} {φ : Ren} {q : Nat} {a : Act} {w : World} (I : t.Inv N φ0 ws lst φ q a w) {j : Nat} {o : Oper} (ho : ops[j]? = some o) (hj : lst j = false) (hah : ∀ i, t.ahead i j = true → lst i = true)
    (hok : opOk N o = true) {K : Act → World → Prop} {Q : Exit → Act → World → Prop} (hK : ∀ φ' q' a' w', t.Inv N φ0 ws (also lst j) φ' q' a' w' → K a' w') : wpOp P ops Q j K a w := by
  have hjl := lt_of ho
  have hops := I.operand t ho hj hah hok
  have hwd := wanted_of (ops := ops) (φ := φ) (T := t.TT j) (a := a) o (fun d hd => I.tmp_at t ho hj hah hd)
  obtain ⟨s1, s2, s3, s4⟩ := t.step j o ho
  have hnm : φ (base + j) = none := I.free j hjl hj
  have hroom := I.next_ge t
  have freeMono : ∀ (φ' : Ren) (G G' : AH) (w' : World), base + ops.size ≤ G.next → Keeps (fun b => b = base + j ∨ (G.next ≤ b ∧ b < G'.next)) φ G w φ' G' w' → ∀ i, i < ops.size → also lst j i = false → φ' (base + i) = none := by
    intro φ' G G' w' hG Kk i hi hl
    have e : i ≠ j := fun e => by subst e; rw [also_same] at hl; cases hl
    rw [also_other _ e] at hl
    have := I.free i hi hl
    cases hc : φ' (base + i) with
    | none => rfl
    | some y =>
      rcases Kk.dom _ this (by rw [hc]; simp) with h | ⟨h, _⟩
      · omega
      · omega
  unfold wpOp
  rw [ho]
  simp only [hwd]
  cases hw : t.want j with
  | false =>
    rw [← s1, hw]
    simp only [Bool.false_eq_true, if_false]
    have hne : ¬ t.isEff j := fun ⟨o', ho', hw', _⟩ => by rw [hw] at hw'; cases hw'
    have hnb : t.blkOf j = none := by
      cases hb : t.blkOf j with
      | none => rfl
      | some x => obtain ⟨o', ho', hw', _⟩ := t.blk_alloc hb; rw [hw] at hw'; cases hw'
    have hg : ∀ b y, φ b ≠ none → (t.aug (also lst j) q).get b = some y → (t.aug lst q).get b = some y := fun b y _ h => by rw [t.aug_also (.inl hnb)] at h; exact h
    have hn : (t.aug (also lst j) q).next = (t.aug lst q).next := by rw [t.aug_next, t.aug_next]
    refine hK φ q _ w (I.next t ho hj hah hok (by rw [(s4 hw).1]; exact VRel.undef φ) I.q_le I.q_eff ?_ (I.emb.sub hn hg) ((Keeps.refl _ φ (t.aug lst q) w).sub hn hg) ?_)
    · intro k hk
      have e : k ≠ j := fun e => hne (e ▸ hk)
      rw [also_other _ e]
      exact I.effs k hk
    · intro i hi hl
      have e : i ≠ j := fun e => by subst e; rw [also_same] at hl; cases hl
      rw [also_other _ e] at hl
      exact I.free i hi hl
  | true =>
    rw [← s1, hw]
    simp only [if_true]
    refine .inl ?_
    obtain ⟨hname, hrun⟩ := s3 hw
    by_cases hc : clsOf P o.op = .eff
    · -- an effect: it is the next one
      have heff : t.isEff j := ⟨o, ho, hw, hc⟩
      have hjq : j = q := by
        have h1 : ¬ j < q := fun h => by rw [(I.effs j heff).2 h] at hj; cases hj
        rcases Nat.lt_or_eq_of_le (Nat.le_of_not_lt h1) with h | h
        · rcases I.q_eff with hq | ⟨oq, hoq, hwq, hcq⟩
          · omega
          · have := hah q (t.effs q j oq o h hoq ho hwq hw hcq hc)
            have := (I.effs q ⟨oq, hoq, hwq, hcq⟩).1 this
            omega
        · exact h.symm
      subst hjq
      have hpart := I.part t (Nat.le_refl _) (fun k h1 h2 => by omega)
      have EG : Emb P w0 φ (t.HH j) w := I.emb.sub (t.aug_next _ _).symm hpart
      refine op_wp' hcall EG hnm (by omega) hops hrun ?_
      intro v' φ' w' hv hE hKK
      obtain ⟨q', n1, n2, n3, n4⟩ := t.next_eff (j + 1) (by omega)
      obtain ⟨g1, g2, g3⟩ := t.segment n1 n2 n4
      have hfree := freeMono φ' (t.HH j) (t.HH (j + 1)) w' hroom hKK
      have hdef : ∀ k i, k < ops.size → k ≠ j → φ' (base + k) = some i → φ (base + k) = some i := by
        intro k i hk hkj hi
        cases hφ : φ (base + k) with
        | none =>
          rcases hKK.dom _ hφ (by rw [hi]; simp) with h | ⟨h, _⟩
          · omega
          · omega
        | some i' =>
          have := hKK.ext _ _ hφ
          rw [hi] at this
          exact this.symm
      have hpend : ∀ k x, j < k → k < ops.size → lst k = true → t.blkOf k = some x → (t.HH j).get (base + k) = none := by
        intro k x h1 h2 h3 hx
        obtain ⟨ok, hok', hwk, hck⟩ := t.blk_alloc hx
        have hah' : t.ahead j k = false := by
          cases h : t.ahead j k with
          | false => rfl
          | true => rw [I.down j k h3 h] at hj; cases hj
        exact t.allocs' j k o ok h1 ho hok' hw hwk hah' hc hck
      have htr := transfer (A' := t.aug (also lst j) q') I.emb hpart hE hKK (by rw [t.aug_next, g1]; exact Nat.le_refl _) (by rw [t.aug_next, t.aug_next, g1]; exact hKK.next) (by
        intro b i y hi hy
        by_cases hp : ∃ k x, j < k ∧ k < ops.size ∧ lst k = true ∧ t.blkOf k = some x ∧ b = base + k
        · obtain ⟨k, x, h1, h2, h3, hx, rfl⟩ := hp
          have hyx : y = x := by
            by_cases hk : q' ≤ k
            · rw [t.aug_same hk h2 (by rw [also_other _ (by omega)]; exact h3) hx] at hy
              exact (Option.some.inj hy).symm
            · rw [t.aug_other (fun m m1 m2 m3 m4 e => by omega), (g3 k x (by omega) (by omega) hx).1] at hy
              exact (Option.some.inj hy).symm
          subst hyx
          exact .inl ⟨hdef k i h2 (by omega) hi, t.aug_same (by omega) h2 h3 hx, hpend k y h1 h2 h3 hx⟩
        · refine .inr ?_
          have hnb : t.blkOf j = none := t.eff_not_blk heff
          have e1 : (t.aug (also lst j) q').get b = (t.HH q').get b := t.aug_other (fun m m1 m2 m3 m4 e => by
            by_cases e2 : m = j
            · omega
            · rw [also_other _ e2] at m3
              obtain ⟨x, hx⟩ := Option.isSome_iff_exists.1 m4
              exact hp ⟨m, x, by omega, m2, m3, hx, e⟩)
          rw [e1] at hy
          rw [g2 b] at hy
          · exact hy
          · intro k k1 k2 k3 e
            obtain ⟨x, hx⟩ := Option.isSome_iff_exists.1 k3
            cases hl : lst k with
            | true => exact hp ⟨k, x, by omega, by omega, hl, hx, e⟩
            | false =>
              have := hfree k (by omega) (by rw [also_other _ (by omega)]; exact hl)
              rw [← e, hi] at this
              cases this)
      refine hK φ' q' _ w' (I.next t ho hj hah hok hv n2 n3 ?_ htr.1 (htr.2.mono fun b hb => by rcases hb with hb | hb <;> omega) hfree)
      intro k hk
      by_cases e : k = j
      · subst e; simp [also_same]; omega
      · rw [also_other _ e, I.effs k hk]
        constructor
        · intro h; omega
        · intro h
          rcases Nat.lt_or_ge k j with h2 | h2
          · exact h2
          · exact absurd hk (n4 k (by omega) h)
    · -- no effect
      have hne : ¬ t.isEff j := fun ⟨o', ho', _, hc'⟩ => by
        rw [ho] at ho'
        cases ho'
        exact hc hc'
      have heffs : ∀ k, t.isEff k → (also lst j k = true ↔ k < q) := by
        intro k hk
        have e : k ≠ j := fun e => hne (e ▸ hk)
        rw [also_other _ e]
        exact I.effs k hk
      have hauG : base + j < (t.aug lst q).next := by rw [t.aug_next]; omega
      have hnx : (t.aug (also lst j) q).next = (t.aug lst q).next := by rw [t.aug_next, t.aug_next]
      cases hcl : clsOf P o.op with
      | eff => exact absurd hcl hc
      | pure =>
        have hnb : t.blkOf j = none := by
          cases hb : t.blkOf j with
          | none => rfl
          | some x =>
            obtain ⟨o', ho', _, hc'⟩ := t.blk_alloc hb
            rw [ho] at ho'
            cases ho'
            rw [hcl] at hc'
            cases hc'
        have hrun' := (aOp_pure hcl hrun).2 (base + j) (t.aug lst q)
        refine op_wp' hcall I.emb hnm hauG hops hrun' ?_
        intro v' φ' w' hv hE hKK
        have htr := transfer (A' := t.aug (also lst j) q) I.emb (fun b y _ h => h) hE hKK (by rw [hnx]; exact Nat.le_refl _) (by rw [hnx]; exact Nat.le_refl _) (by
          intro b i y hi hy
          rw [t.aug_also (.inl hnb)] at hy
          exact .inr hy)
        exact hK φ' q _ w' (I.next t ho hj hah hok hv I.q_le I.q_eff heffs htr.1 (htr.2.mono fun b hb => by rw [t.aug_next] at hb; rcases hb with hb | hb <;> omega)
          (freeMono φ' _ _ w' (by rw [t.aug_next]; exact hroom) hKK))
      | alloc =>
        obtain ⟨x, b1, b2, b3, b4⟩ := t.alloc_step ho hw hcl
        refine op_wp' hcall I.emb hnm hauG hops (b4 (t.aug lst q)) ?_
        intro v' φ' w' hv hE hKK
        have hx : ∀ b y, (t.aug (also lst j) q).get b = some y → ((t.aug lst q).set (base + j) (some x)).get b = some y := by
          intro b y hy
          by_cases e : b = base + j
          · subst e
            rw [AH.get_set_same]
            by_cases hjq : j < q
            · rw [t.aug_also (.inr hjq), t.aug_other (fun m m1 m2 m3 m4 e => by omega)] at hy
              have key : ∀ p, j + 1 ≤ p → p ≤ q → (t.HH p).get (base + j) = some x := by
                intro p hp
                induction hp with
                | refl => intro _; rw [b2]; exact AH.get_set_same _ _ _
                | step hp ih =>
                  rename_i p
                  intro hpq
                  have hp' : j + 1 ≤ p := hp
                  have ihp := ih (by omega)
                  by_cases hep : t.isEff p
                  · obtain ⟨op, hop, hwp, hcp⟩ := hep
                    have hlp : lst p = true := (I.effs p ⟨op, hop, hwp, hcp⟩).2 (by omega)
                    have hah' : t.ahead j p = false := by
                      cases h : t.ahead j p with
                      | false => rfl
                      | true => rw [I.down j p hlp h] at hj; cases hj
                    rw [t.allocs j p o op (by omega) ho hop hw hwp hah' hcl hcp, b2]
                    exact AH.get_set_same _ _ _
                  · rcases t.quiet_step (j := p) (by have := I.q_le; omega) hep with hs | ⟨y', _, hs, _⟩
                    · rw [hs]; exact ihp
                    · rw [hs, AH.get_set_other _ _ (by omega)]; exact ihp
              rw [key q hjq (Nat.le_refl _)] at hy
              exact hy
            · rw [t.aug_same (by omega) hjl (also_same _ _) b1] at hy
              exact hy
          · rw [AH.get_set_other _ _ e]
            by_cases hp : ∃ m, q ≤ m ∧ m < ops.size ∧ lst m = true ∧ (t.blkOf m).isSome = true ∧ b = base + m
            · obtain ⟨m, m1, m2, m3, m4, rfl⟩ := hp
              obtain ⟨z, hz⟩ := Option.isSome_iff_exists.1 m4
              rw [t.aug_same m1 m2 (by unfold also; split <;> simp_all) hz] at hy
              rw [t.aug_same m1 m2 m3 hz]
              exact hy
            · rw [t.aug_other (fun m m1 m2 m3 m4 e2 => by
                by_cases e3 : m = j
                · subst e3; exact e e2
                · rw [also_other _ e3] at m3; exact hp ⟨m, m1, m2, m3, m4, e2⟩)] at hy
              rw [t.aug_other (fun m m1 m2 m3 m4 e2 => hp ⟨m, m1, m2, m3, m4, e2⟩)]
              exact hy
        have htr := transfer (A' := t.aug (also lst j) q) I.emb (fun b y _ h => h) hE hKK (by rw [hnx]; exact Nat.le_refl _) (by rw [hnx]; exact Nat.le_refl _) (fun b i y hi hy => .inr (hx b y hy))
        exact hK φ' q _ w' (I.next t ho hj hah hok hv I.q_le I.q_eff heffs htr.1 (htr.2.mono fun b hb => by
            rw [t.aug_next, AH.next_set, t.aug_next] at hb; rcases hb with hb | hb <;> omega)
          (freeMono φ' _ _ w' (by rw [t.aug_next]; exact hroom) hKK))
      | read =>
        have hnb : t.blkOf j = none := by
          cases hb : t.blkOf j with
          | none => rfl
          | some x =>
            obtain ⟨o', ho', _, hc'⟩ := t.blk_alloc hb
            rw [ho] at ho'
            cases ho'
            rw [hcl] at hc'
            cases hc'
        have hG : ∃ p, p ≤ q ∧ (∀ k, p ≤ k → k < q → ¬ t.isEff k) ∧ aOp P w0 call (base + j) o (t.TT j) (t.HH p) = some (t.VV j, t.HH p) := by
          rcases Nat.lt_or_ge q j with hqj | hqj
          · -- the next effect stands ahead of it in the text
            rcases I.q_eff with hq | hq
            · omega
            · obtain ⟨oq, hoq, hwq, hcq⟩ := hq
              have hlq : lst q = false := by
                cases h : lst q with
                | false => rfl
                | true => have := (I.effs q ⟨oq, hoq, hwq, hcq⟩).1 h; omega
              have hah' : t.ahead q j = false := by
                cases h : t.ahead q j with
                | false => rfl
                | true => rw [hah q h] at hlq; cases hlq
              exact ⟨q, Nat.le_refl _, fun k k1 k2 => by omega, t.reads' q j oq o hqj hoq ho hwq hw hah' hcq hcl⟩
          · rcases t.last_eff hqj with hn | ⟨e, e1, e2, e3, e4⟩
            · refine ⟨j, hqj, hn, ?_⟩
              have := aOp_read hcl hrun
              rw [this] at hrun
              exact hrun
            · obtain ⟨oe, hoe, hwe, hce⟩ := e3
              have hje : j < e := by
                rcases Nat.lt_or_eq_of_le e1 with h | h
                · exact h
                · subst h; exact absurd ⟨oe, hoe, hwe, hce⟩ hne
              have hle : lst e = true := (I.effs e ⟨oe, hoe, hwe, hce⟩).2 e2
              have hah' : t.ahead j e = false := by
                cases h : t.ahead j e with
                | false => rfl
                | true => rw [I.down j e hle h] at hj; cases hj
              exact ⟨e + 1, e2, fun k k1 k2 => e4 k (by omega) k2, t.reads j e o oe hje ho hoe hw hwe hah' hcl hce⟩
        obtain ⟨p, p1, p2, p3⟩ := hG
        obtain ⟨g1, g2, g3⟩ := t.segment p1 I.q_le p2
        have hpart := I.part t p1 p2
        have EG : Emb P w0 φ (t.HH p) w := I.emb.sub (by rw [t.aug_next, g1]) hpart
        refine op_wp' hcall EG hnm (by rw [← g1]; omega) hops p3 ?_
        intro v' φ' w' hv hE hKK
        have htr := transfer (A' := t.aug (also lst j) q) I.emb hpart hE hKK (by rw [t.aug_next, g1]; exact Nat.le_refl _) (by rw [hnx]; exact Nat.le_refl _) (by
          intro b i y hi hy
          rw [t.aug_also (.inl hnb)] at hy
          cases hφ : φ b with
          | none =>
            rcases hKK.dom b hφ (by rw [hi]; simp) with h | ⟨h, h'⟩
            · subst h
              have hnn : ∀ k, (t.blkOf k).isSome = true → base + j ≠ base + k := fun k hk e => by
                have : k = j := by omega
                rw [this, hnb] at hk
                cases hk
              rw [t.aug_other (fun m _ _ _ m4 => hnn m m4), g2 _ (fun k _ _ hk => hnn k hk)] at hy
              exact .inr hy
            · omega
          | some i' =>
            have e := hKK.ext _ _ hφ
            rw [hi] at e
            cases e
            cases hg : (t.HH p).get b with
            | none => exact .inl ⟨rfl, hy, rfl⟩
            | some z =>
              rw [hpart b z (by rw [hφ]; simp) hg] at hy
              exact .inr hy)
        exact hK φ' q _ w' (I.next t ho hj hah hok hv I.q_le I.q_eff heffs htr.1 (htr.2.mono fun b hb => by rcases hb with hb | hb <;> omega)
          (freeMono φ' _ _ w' (by rw [← g1]; exact hroom) hKK))

end Tr
end Go.Sim
