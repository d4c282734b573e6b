/-
  Each order of a drawn region: the steps.
-/
import Derived.Test.YtlacidogpdbpgaaGreatSimS
namespace Go.Sim
open Go
set_option linter.unusedSimpArgs false
set_option linter.unusedVariables false

variable {P : Program} {w0 : World} {call : CallA}

/-- a step that was made on a part of a heap, seen on the whole of it -/
theorem transfer {S : Nat → Prop} {φ φ' : Ren} {A A' G G' : AH} {w w' : World} (E : Emb P w0 φ A w) (hG : ∀ b y, φ b ≠ none → G.get b = some y → A.get b = some y) (E' : Emb P w0 φ' G' w') (K : Keeps S φ G w φ' G' w')
    (hb : G'.next ≤ A'.next) (hn : A.next ≤ A'.next)
    (h : ∀ b i y, φ' b = some i → A'.get b = some y → (φ b = some i ∧ A.get b = some y ∧ G.get b = none) ∨ G'.get b = some y) :
    Emb P w0 φ' A' w' ∧ Keeps S φ A w φ' A' w' := by
  have hGl : ∀ c, φ c ≠ none → G.get c ≠ none → A.get c ≠ none := fun c h1 h2 => by
    cases hc : G.get c with
    | none => exact absurd hc h2
    | some y => rw [hG c y h1 hc]; simp
  have out : ∀ b i y, φ b = some i → A.get b = some y → G.get b = none → w'.heap[i.blk]? = w.heap[i.blk]? := by
    intro b i y h1 h2 h3
    refine K.out _ (E.holds b i y h1 h2).lt fun c j hc hg e => ?_
    have := E.inj c b j i hc h1 (hGl c (by rw [hc]; simp) hg) (by rw [h2]; simp) e
    subst this
    exact hg h3
  have cross : ∀ b c i j y z, φ b = some i → A.get b = some y → G.get b = none → φ' c = some j → G'.get c = some z → i.blk ≠ j.blk := by
    intro b c i j y z h1 h2 h3 h4 h5 e
    rcases K.img c j h4 (by rw [h5]; simp) with ⟨c0, i0, q1, q2, q3⟩ | hlt
    · have := E.inj c0 b i0 i q1 h1 (hGl c0 (by rw [q1]; simp) q2) (by rw [h2]; simp) (by omega)
      subst this
      exact q2 h3
    · have := (E.holds b i y h1 h2).lt
      omega
  have live : ∀ b, A'.get b ≠ none → ∃ y, A'.get b = some y := fun b h => by
    cases hy : A'.get b with
    | none => exact absurd hy h
    | some y => exact ⟨y, rfl⟩
  refine ⟨⟨fun b i hbi => Nat.lt_of_lt_of_le (E'.bound b i hbi) hb, ?_, ?_, E'.old, ?_⟩, ⟨K.ext, K.dom, hn, K.size, ?_, ?_, K.tape, K.os, K.output⟩⟩
  · intro b c i j hb' hc' hgb hgc e
    obtain ⟨y, hy⟩ := live b hgb
    obtain ⟨z, hz⟩ := live c hgc
    rcases h b i y hb' hy with ⟨p1, p2, p3⟩ | p <;> rcases h c j z hc' hz with ⟨q1, q2, q3⟩ | q
    · exact E.inj b c i j p1 q1 (by rw [p2]; simp) (by rw [q2]; simp) e
    · exact absurd e (cross b c i j y z p1 p2 p3 hc' q)
    · exact absurd e.symm (cross c b j i z y q1 q2 q3 hb' p)
    · exact E'.inj b c i j hb' hc' (by rw [p]; simp) (by rw [q]; simp) e
  · intro b i hb' hgb
    obtain ⟨y, hy⟩ := live b hgb
    rcases h b i y hb' hy with ⟨p1, p2, p3⟩ | p
    · exact E.base b i p1 (by rw [p2]; simp)
    · exact E'.base b i hb' (by rw [p]; simp)
  · intro b i y hb' hy
    rcases h b i y hb' hy with ⟨p1, p2, p3⟩ | p
    · exact (E.holds b i y p1 p2).mono K.ext (out b i y p1 p2 p3)
    · exact E'.holds b i y hb' p
  · intro c hc hh
    exact K.out c hc fun b i hbi hg => hh b i hbi (hGl b (by rw [hbi]; simp) hg)
  · intro b i hb' hgb
    obtain ⟨y, hy⟩ := live b hgb
    rcases h b i y hb' hy with ⟨p1, p2, p3⟩ | p
    · exact .inl ⟨b, i, p1, by rw [p2]; simp, rfl⟩
    · rcases K.img b i hb' (by rw [p]; simp) with ⟨c0, i0, q1, q2, q3⟩ | hlt
      · exact .inl ⟨c0, i0, q1, hGl c0 (by rw [q1]; simp) q2, q3⟩
      · exact .inr hlt

/-- one operation, its operands known alone -/
theorem op_wp' (hcall : CallOk P w0 call) {φ : Ren} {H : AH} {w : World} (E : Emb P w0 φ H w) {nm : Nat} (hnm : φ nm = none) (hlt : nm < H.next) {o : Oper} {T : Tmps} {a : Act}
    (hops : ∀ y ∈ o.op.operands, VRel φ (ev T y) (a.eval y)) {v : Value} {H' : AH} (h : aOp P w0 call nm o T H = some (v, H')) {next : Act → World → Prop} {Q : Exit → Act → World → Prop}
    (hnext : ∀ v' φ' w', VRel φ' v v' → Emb P w0 φ' H' w' → Keeps (fun b => b = nm ∨ (H.next ≤ b ∧ b < H'.next)) φ H w φ' H' w' → next (a.put o.dst v') w') : o.wp P a w next Q := by
  rcases aOp_spec (S := fun b => b = nm ∨ (H.next ≤ b ∧ b < H'.next)) E hnm hlt (.inl rfl) hops h with ⟨v', φ', w', hr, hv, hE, hK⟩ | ⟨k, args, args', hr, ha, hc⟩
  · unfold Oper.wp
    rcases hr with hr | ⟨hr, hu⟩
    · rw [hr, Oper.upon_value]
      exact hnext v' φ' w' hv hE hK
    · rw [hr, Oper.upon_skip]
      have := hnext v' φ' w' hv hE hK
      rw [hu] at this
      exact this
  · unfold Oper.wp
    rw [hr, Oper.upon_enter]
    refine (hcall φ H w k args args' v H' E ha hc).mono ?_
    rintro e w' ⟨v', φ', rfl, hv, hE, hK⟩
    exact hnext v' φ' w' hv hE (hK.mono fun b hb => .inr hb)

namespace Tr
variable {ops : Array Oper} {base : Nat} (t : Tr P w0 call ops base) {N : Nat} {φ0 : Ren} {ws : World}

theorem tt_same {d : Nat} {p : Nat} : ∀ {q : Nat}, p ≤ q → q ≤ ops.size → (∀ k o, p ≤ k → k < q → ops[k]? = some o → o.dst ≠ some d) → (t.TT q).get d = (t.TT p).get d := by
  intro q hpq
  induction hpq with
  | refl => intro _ _; rfl
  | step hpq ih =>
    rename_i q
    intro hq h
    have ho : ops[q]? = some (ops[q]'(by omega)) := Array.getElem?_eq_getElem _
    obtain ⟨_, h2, _, _⟩ := t.step q _ ho
    rw [h2]
    have hd := h q _ hpq (by omega) ho
    rw [← ih (by omega) (fun k o h1 h2 => h k o h1 (by omega))]
    unfold putT
    split
    · rename_i d' hd'
      rw [Trie.get_set, if_neg]
      intro e
      exact hd (by rw [hd', e])
    · rfl

theorem Inv.writers {lst : Nat → Bool} {φ : Ren} {q : Nat} {a : Act} {w : World} (I : t.Inv N φ0 ws lst φ q a w) {j : Nat} {o : Oper} (ho : ops[j]? = some o) (hj : lst j = false) (hah : ∀ i, t.ahead i j = true → lst i = true)
    {d : Nat} (hd : d ∈ o.looksAt ops ∨ o.dst = some d) {k : Nat} {x : Oper} (hx : ops[k]? = some x) (hxd : x.dst = some d) : lst k = true ↔ k < j := by
  rcases Nat.lt_trichotomy k j with h | h | h
  · have : lst k = true := by
      rcases t.temps k j x o h hx ho with h1 | h1
      · exact hah k h1
      · obtain ⟨a1, a2, a3⟩ := Oper.apart_spec h1
        rcases hd with hd | hd
        · exact absurd hd (a1 d hxd)
        · exact absurd hd (a2 d hxd)
    simp [this, h]
  · subst h
    simp [hj]
  · have : lst k = false := by
      rcases t.temps j k o x h ho hx with h1 | h1
      · cases hk : lst k with
        | false => rfl
        | true => rw [I.down j k hk h1] at hj; cases hj
      · obtain ⟨a1, a2, a3⟩ := Oper.apart_spec h1
        rcases hd with hd | hd
        · exact absurd hd (a3 d hxd)
        · exact absurd hxd (a2 d hd)
    simp [this]
    omega

theorem Inv.tmp_at {lst : Nat → Bool} {φ : Ren} {q : Nat} {a : Act} {w : World} (I : t.Inv N φ0 ws lst φ q a w) {j : Nat} {o : Oper} (ho : ops[j]? = some o) (hj : lst j = false) (hah : ∀ i, t.ahead i j = true → lst i = true)
    {d : Nat} (hd : d ∈ o.looksAt ops) : VRel φ (((t.TT j).get d).getD undef) (a.tmps.getD d undef) := by
  obtain ⟨p, hp, hw, hr⟩ := I.tmps d
  have hjl := lt_of ho
  have same : (t.TT j).get d = (t.TT p).get d := by
    rcases Nat.le_total p j with h | h
    · refine t.tt_same h (by omega) fun k x h1 h2 hx hxd => ?_
      have e1 := I.writers t ho hj hah (.inl hd) hx hxd
      have e2 := hw k x hx hxd
      have : lst k = true := e1.2 h2
      have := e2.1 this
      omega
    · refine (t.tt_same h hp fun k x h1 h2 hx hxd => ?_).symm
      have e1 := I.writers t ho hj hah (.inl hd) hx hxd
      have e2 := hw k x hx hxd
      have : lst k = true := e2.2 h2
      have := e1.1 this
      omega
  rw [same]
  exact hr

theorem Inv.operand {lst : Nat → Bool} {φ : Ren} {q : Nat} {a : Act} {w : World} (I : t.Inv N φ0 ws lst φ q a w) {j : Nat} {o : Oper} (ho : ops[j]? = some o) (hj : lst j = false) (hah : ∀ i, t.ahead i j = true → lst i = true)
    (hok : opOk N o = true) : ∀ y ∈ o.op.operands, VRel φ (ev (t.TT j) y) (a.eval y) := by
  intro y hy
  have hc : constOk y = true := by
    simp only [opOk, Bool.and_eq_true] at hok
    exact List.all_eq_true.1 hok.1 y (by simpa using hy)
  cases y with
  | tmp d =>
    refine I.tmp_at t ho hj hah ?_
    unfold Oper.looksAt
    refine List.mem_append.2 (.inl (List.mem_filterMap.2 ⟨.tmp d, by simpa using hy, rfl⟩))
  | const v => exact ground_rel φ v hc
  | global g => simp [constOk] at hc
  | func f => exact .func' f VRels.nil VRels.nil

theorem wanted_of {φ : Ren} {T : Tmps} {a : Act} (o : Oper) (h : ∀ d ∈ o.looksAt ops, VRel φ ((T.get d).getD undef) (a.tmps.getD d undef)) : Region.wanted o (yielded ops a.tmps) = wantedT o ops T := by
  unfold Region.wanted wantedT
  cases hg : o.guard with
  | none => rfl
  | some g =>
    obtain ⟨j, want⟩ := g
    simp only [yielded]
    cases hd : (ops[j]?).bind (·.dst) with
    | none => rfl
    | some d =>
      simp only [Option.bind_some]
      have hr := h d (by unfold Oper.looksAt; rw [hg]; refine List.mem_append.2 (.inr ?_); simp [hd])
      rw [Array.getD_eq_getD_getElem?] at hr
      cases ht : T.get d with
      | none =>
        rw [ht] at hr
        cases hx : a.tmps[d]? with
        | none => rfl
        | some x =>
          rw [hx] at hr
          simp only [Option.getD_none, Option.getD_some, undef] at hr
          cases hr
          rfl
      | some v =>
        rw [ht] at hr
        cases hx : a.tmps[d]? with
        | none =>
          rw [hx] at hr
          simp only [Option.getD_some, Option.getD_none, undef] at hr
          cases hr
          rfl
        | some x =>
          rw [hx] at hr
          simp only [Option.getD_some] at hr
          cases hr <;> rfl

def also (lst : Nat → Bool) (j : Nat) : Nat → Bool := fun k => if k = j then true else lst k

theorem also_same (lst : Nat → Bool) (j : Nat) : also lst j j = true := by simp [also]
theorem also_other (lst : Nat → Bool) {j k : Nat} (h : k ≠ j) : also lst j k = lst k := by simp [also, h]

/-- what is the same of each step -/
theorem Inv.next {lst : Nat → Bool} {φ φ' : Ren} {q q' : Nat} {a : Act} {w w' : World} (I : t.Inv N φ0 ws lst φ q a w) {j : Nat} {o : Oper} (ho : ops[j]? = some o) (hj : lst j = false) (hah : ∀ i, t.ahead i j = true → lst i = true)
    (hok : opOk N o = true) {v' : Value} (hv : VRel φ' (t.VV j) v') (hq : q' ≤ ops.size) (hqe : q' = ops.size ∨ t.isEff q') (he : ∀ k, t.isEff k → (also lst j k = true ↔ k < q'))
    (E : Emb P w0 φ' (t.aug (also lst j) q') w') (K : Keeps (fun b => base ≤ b) φ (t.aug lst q) w φ' (t.aug (also lst j) q') w') (hf : ∀ i, i < ops.size → also lst j i = false → φ' (base + i) = none) :
    t.Inv N φ0 ws (also lst j) φ' q' (a.put o.dst v') w' := by
  have hjl := lt_of ho
  refine ⟨hq, hqe, he, ?_, ?_, ?_, ?_, E, hf, I.keeps.trans K, I.room⟩
  · intro i k hk hik
    by_cases e : k = j
    · subst e
      have := hah i hik
      by_cases e2 : i = k
      · rw [e2]; exact also_same _ _
      · rw [also_other _ e2]; exact this
    · rw [also_other _ e] at hk
      have := I.down i k hk hik
      by_cases e2 : i = j
      · rw [e2]; exact also_same _ _
      · rw [also_other _ e2]; exact this
  · cases o.dst <;> simp [Act.put, I.size]
  · cases o.dst <;> simp [Act.put, I.defers]
  · intro d
    by_cases hd : o.dst = some d
    · refine ⟨j + 1, by omega, fun k x hx hxd => ?_, ?_⟩
      · by_cases e : k = j
        · subst e; simp [also_same]
        · rw [also_other _ e, I.writers t ho hj hah (.inr hd) hx hxd]
          omega
      · obtain ⟨_, h2, _, _⟩ := t.step j o ho
        rw [h2, hd]
        have hlt := opOk_dst hok d hd
        simp only [putT, Act.put, Trie.get_set, if_true, Option.getD_some, Array.getD_eq_getD_getElem?, Array.getElem?_setIfInBounds]
        rw [if_pos (by rw [I.size]; exact hlt)]
        exact hv
    · obtain ⟨p, hp, hw, hr⟩ := I.tmps d
      refine ⟨p, hp, fun k x hx hxd => ?_, ?_⟩
      · have e : k ≠ j := fun e => by
          subst e
          rw [ho] at hx
          cases hx
          exact hd hxd
        rw [also_other _ e]
        exact hw k x hx hxd
      · have : (a.put o.dst v').tmps.getD d undef = a.tmps.getD d undef := by
          cases ho2 : o.dst with
          | none => rfl
          | some d' =>
            have : d' ≠ d := fun e => hd (by rw [ho2, e])
            simp only [Act.put, Array.getD_eq_getD_getElem?, Array.getElem?_setIfInBounds, if_neg this]
        rw [this]
        exact hr.mono K.ext

end Tr
end Go.Sim
