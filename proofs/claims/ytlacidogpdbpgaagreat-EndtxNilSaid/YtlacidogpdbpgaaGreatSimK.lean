/-
  Maps; copy; conversions; lengths.
-/
import Derived.Test.YtlacidogpdbpgaaGreatSimJ
namespace Go.Sim
open Go
set_option linter.unusedSimpArgs false
set_option linter.unusedVariables false

variable {P : Program} {w0 : World} {φ : Ren} {H : AH} {w : World}

theorem pureRun_bind {α β : Type} (x : Sem α) (f : α → Sem β) : pureRun P (x >>= f) = (pureRun P x).bind fun a => pureRun P (f a) := by
  show pureRun P (x.bind f) = _
  induction x with
  | pure a => rfl
  | program k ih => simp only [Sem.bind, pureRun]; exact ih P
  | _ => simp [Sem.bind, pureRun]

theorem pureRun_pure {α : Type} (a : α) : pureRun P (pure a : Sem α) = some a := rfl

/-- what was found, and what is found in the world -/
def FRel (φ : Ren) : Option (Nat × Value) → Option (Nat × Value) → Prop
  | none, none => True
  | some (i, v), some (j, v') => i = j ∧ VRel φ v v'
  | _, _ => False

theorem ERels.inv_nil {b : List MapEntry} (h : ERels φ [] b) : b = [] := by
  cases b with
  | nil => rfl
  | cons v b => have := h.1; simp at this

theorem ERels.inv_cons {v : MapEntry} {a b : List MapEntry} (h : ERels φ (v :: a) b) : ∃ v' b', b = v' :: b' ∧ ERel φ v v' ∧ ERels φ a b' := by
  cases b with
  | nil => have := h.1; simp at this
  | cons v' b' => exact ⟨v', b', rfl, h.2 0 _ _ rfl rfl, by simpa using h.1, fun i x y hx hy => h.2 (i + 1) x y (by simpa using hx) (by simpa using hy)⟩

theorem ERels.cons {v v' : MapEntry} {a b : List MapEntry} (h : ERel φ v v') (t : ERels φ a b) : ERels φ (v :: a) (v' :: b) :=
  ⟨by simp [t.1], fun i x y hx hy => by
    cases i with
    | zero => simp at hx hy; subst hx; subst hy; exact h
    | succ i => simp at hx hy; exact t.2 i x y hx hy⟩

theorem ERels.nil : ERels φ [] [] := ⟨rfl, fun i x y h => by simp at h⟩

theorem ERels.append {a b c d : List MapEntry} (h : ERels φ a b) (k : ERels φ c d) : ERels φ (a ++ c) (b ++ d) := by
  induction a generalizing b with
  | nil => have := h.inv_nil; subst this; simpa using k
  | cons v a ih => obtain ⟨v', b', rfl, h1, h2⟩ := h.inv_cons; exact ERels.cons h1 (ih h2)

theorem ERels.modify {f f' : MapEntry → MapEntry} {a b : List MapEntry} (h : ERels φ a b) (n : Nat) (hf : ∀ x y, ERel φ x y → ERel φ (f x) (f' y)) : ERels φ (modifyL f a n) (modifyL f' b n) := by
  induction a generalizing b n with
  | nil => have := h.inv_nil; subst this; exact ERels.nil
  | cons v a ih =>
    obtain ⟨v', b', rfl, h1, h2⟩ := h.inv_cons
    cases n with
    | zero => exact ERels.cons (hf _ _ h1) h2
    | succ n => exact ERels.cons h1 (ih h2 n)

theorem ERels.erase {a b : List MapEntry} (h : ERels φ a b) (n : Nat) : ERels φ (eraseL a n) (eraseL b n) := by
  induction a generalizing b n with
  | nil => have := h.inv_nil; subst this; exact ERels.nil
  | cons v a ih =>
    obtain ⟨v', b', rfl, h1, h2⟩ := h.inv_cons
    cases n with
    | zero => exact h2
    | succ n => exact ERels.cons h1 (ih h2 n)

theorem ERels.get {a b : List MapEntry} (h : ERels φ a b) {i : Nat} {x : MapEntry} (hx : a[i]? = some x) : ∃ y, b[i]? = some y ∧ ERel φ x y := by
  have hi : i < a.length := by
    rcases Nat.lt_or_ge i a.length with h | h
    · exact h
    · simp [List.getElem?_eq_none h] at hx
  have hy : b[i]? = some (b[i]'(h.1 ▸ hi)) := List.getElem?_eq_getElem _
  exact ⟨_, hy, h.2 i _ _ hx hy⟩

theorem modify_eq (f : MapEntry → MapEntry) : ∀ (l : List MapEntry) (n : Nat), (⟨l⟩ : Array MapEntry).modify n f = ⟨modifyL f l n⟩ := by
  intro l n
  apply Array.ext'
  rw [Array.toList_modify]
  show l.modify n f = modifyL f l n
  induction l generalizing n with
  | nil => simp [modifyL]
  | cons a l ih =>
    cases n with
    | zero => simp [modifyL]
    | succ n => simp [modifyL, ih]

theorem erase_eq : ∀ (l : List MapEntry) (n : Nat), (⟨l⟩ : Array MapEntry).eraseIdxIfInBounds n = ⟨eraseL l n⟩ := by
  intro l n
  apply Array.ext'
  have : ((⟨l⟩ : Array MapEntry).eraseIdxIfInBounds n).toList = l.eraseIdx n := by simp
  rw [this]
  show l.eraseIdx n = eraseL l n
  clear this
  induction l generalizing n with
  | nil => simp [eraseL]
  | cons a l ih =>
    cases n with
    | zero => simp [eraseL]
    | succ n => simp [eraseL, ih]

theorem findNow_rel (kind : TypeDesc) (k : Value) : ∀ {a b : List MapEntry}, ERels φ a b → ∀ i,
    (Instr.findNow kind k a i = none → Instr.findNow kind k b i = none) ∧
    (∀ r, Instr.findNow kind k a i = some r → ∃ r', Instr.findNow kind k b i = some r' ∧ FRel φ r r')
  | [], b, h, i => by
    have := h.inv_nil; subst this
    exact ⟨fun h => by simp [Instr.findNow] at h, fun r hr => ⟨r, hr, by simp [Instr.findNow] at hr; subst hr; trivial⟩⟩
  | e :: a, b, h, i => by
    obtain ⟨e', b', rfl, ⟨h1, h2, h3, h4⟩, ht⟩ := h.inv_cons
    simp only [Instr.findNow, h2]
    cases hs : Instr.sameNow kind k e.key with
    | none => exact ⟨fun _ => rfl, fun r hr => by simp at hr⟩
    | some t =>
      cases t with
      | true => exact ⟨fun h => by simp at h, fun r hr => by simp at hr; subst hr; exact ⟨_, rfl, rfl, h4⟩⟩
      | false => exact findNow_rel kind k ht (i + 1)

theorem findAsking_rel (kt : TypeId) (k : Value) : ∀ {a b : List MapEntry}, ERels φ a b → ∀ i r, pureRun P (Instr.findAsking kt k a i) = some r →
    ∃ r', pureRun P (Instr.findAsking kt k b i) = some r' ∧ FRel φ r r'
  | [], b, h, i, r, hr => by
    have := h.inv_nil; subst this
    exact ⟨r, hr, by simp [Instr.findAsking, pureRun_pure] at hr; subst hr; trivial⟩
  | e :: a, b, h, i, r, hr => by
    obtain ⟨e', b', rfl, ⟨h1, h2, h3, h4⟩, ht⟩ := h.inv_cons
    simp only [Instr.findAsking, pureRun_bind, h2] at hr ⊢
    cases he : pureRun P (Op.equal kt k e.key) with
    | none => rw [he] at hr; simp at hr
    | some t =>
      rw [he] at hr
      simp only [Option.bind_some] at hr ⊢
      cases t with
      | true =>
        simp only [if_true, pureRun_pure, Option.some.injEq] at hr ⊢
        subst hr
        exact ⟨_, rfl, rfl, h4⟩
      | false =>
        simp only [Bool.false_eq_true, if_false] at hr ⊢
        exact findAsking_rel kt k ht (i + 1) r hr

theorem aFind_rel {kt : TypeId} {k : Value} {a b : List MapEntry} (h : ERels φ a b) {r : Option (Nat × Value)} (hr : aFind P kt k a = some r) :
    ∃ r', (∀ w, (Instr.findKey kt k b).run P w = .ok r' w) ∧ FRel φ r r' := by
  have key : ∃ r', pureRun P (Instr.findKey kt k b) = some r' ∧ FRel φ r r' := by
    unfold aFind Instr.findKey at hr
    unfold Instr.findKey
    simp only [pureRun_bind] at hr ⊢
    cases hu : pureRun P (underlying kt) with
    | none => rw [hu] at hr; simp at hr
    | some d =>
      rw [hu] at hr
      simp only [Option.bind_some] at hr ⊢
      have hn := findNow_rel d k h 0
      cases hf : Instr.findNow d k a 0 with
      | none =>
        rw [hf] at hr
        rw [hn.1 hf]
        exact findAsking_rel kt k h 0 r hr
      | some q =>
        rw [hf] at hr
        obtain ⟨r', h1, h2⟩ := hn.2 q hf
        rw [h1]
        simp only [pureRun_pure, Option.some.injEq] at hr ⊢
        subst hr
        exact ⟨r', rfl, h2⟩
  obtain ⟨r', h1, h2⟩ := key
  exact ⟨r', fun w => pureRun_run h1 w, h2⟩

theorem keyOk_spec {kt : TypeId} {em : Bool} {k k' : Value} (hk : VRel φ k k') (h : keyOk P kt em k = true) : k' = k ∧ ground k = true ∧ ∀ w, (Instr.checkKey em 10000 kt k).run P w = .ok () w := by
  simp only [keyOk, Bool.and_eq_true] at h
  obtain ⟨h1, h2⟩ := h
  obtain ⟨u, hu⟩ := Option.isSome_iff_exists.1 h2
  exact ⟨ground_eq φ _ _ h1 hk, h1, fun w => pureRun_run hu w⟩

theorem getObj_run {r : Nat} {es : Array MapEntry} {c : Nat} (h : w.heap[r]? = some (.map es c)) : (getObj r).run P w = .ok (.map es c) w := by
  simp [getObj, Sem.run, h]

theorem setObj_run {r : Nat} {es : Array MapEntry} {c : Nat} {o : Obj} (h : w.heap[r]? = some (.map es c)) : (setObj r o).run P w = .ok () (putObj w r o) := by
  simp [setObj, Sem.run, h, putObj]

theorem aLookup_spec (E : Emb P w0 φ H w) {t : TypeId} {m m' k k' v : Value} {ok : Bool} (hm : VRel φ m m') (hk : VRel φ k k') (h : aLookup P t m k ok H = some v) :
    ∃ v', (Instr.lookup t m' k' ok).run P w = .ok v' w ∧ VRel φ v v' := by
  unfold aLookup at h
  split at h
  · rename_i kt et hu
    have key : ∀ (es es' : List MapEntry), ERels φ es es' → (cond (keyOk P kt es.isEmpty k)
        (match aFind P kt k es with
         | some (some (_, v)) => some (cond ok (.tuple ⟨[v, .bool true]⟩) v)
         | some none => match zeroOf? P et with
           | some z => some (cond ok (.tuple ⟨[z, .bool false]⟩) z)
           | none => none
         | none => none)
        none) = some v →
        ∃ v', (do
          Instr.checkKey (⟨es'⟩ : Array MapEntry).isEmpty 10000 kt k'
          let (v, o) ← match ← Instr.findKey kt k' es' with
            | some (_, v) => pure (v, true)
            | none => pure (← zeroValue et, false)
          pure (if ok then .tuple #[v, .bool o] else v) : Sem Value).run P w = .ok v' w ∧ VRel φ v v' := by
      intro es es' he hc
      cases hko : keyOk P kt es.isEmpty k with
      | false => rw [hko] at hc; simp at hc
      | true =>
        rw [hko] at hc
        simp only [cond_true] at hc
        obtain ⟨rfl, hg, hck⟩ := keyOk_spec hk hko
        have hem : (⟨es'⟩ : Array MapEntry).isEmpty = es.isEmpty := by
          have := he.1
          cases es <;> cases es' <;> simp at this ⊢
        rw [hem]
        cases hf : aFind P kt k' es with
        | none => rw [hf] at hc; simp at hc
        | some r =>
          rw [hf] at hc
          obtain ⟨r', h1, h2⟩ := aFind_rel he hf
          simp only [Sem.run_bind, hck, Result.andThen_ok, h1]
          cases r with
          | none =>
            cases r' with
            | some _ => simp [FRel] at h2
            | none =>
              simp only at hc
              cases hz : zeroOf? P et with
              | none => rw [hz] at hc; simp at hc
              | some z =>
                rw [hz] at hc
                simp only [Option.some.injEq] at hc
                subst hc
                have hz2 := ground_rel φ z (zero_ground hz)
                simp only [Sem.run_bind, zero_run hz, Result.andThen_ok, Sem.run_pure]
                cases ok with
                | true => exact ⟨_, rfl, .tuple' (.cons hz2 (.cons (.bool _) .nil))⟩
                | false => exact ⟨_, rfl, hz2⟩
          | some q =>
            obtain ⟨i, u⟩ := q
            cases r' with
            | none => simp [FRel] at h2
            | some q' =>
              obtain ⟨i', u'⟩ := q'
              simp only [FRel] at h2
              obtain ⟨rfl, hr⟩ := h2
              simp only [Option.some.injEq] at hc
              subst hc
              simp only [Sem.run_pure, Result.andThen_ok]
              cases ok with
              | true => exact ⟨_, rfl, .tuple' (.cons hr (.cons (.bool _) .nil))⟩
              | false => exact ⟨_, rfl, hr⟩
    split at h
    · rename_i es hes
      split at hes
      · cases hes
        cases hm
        obtain ⟨v', h1, h2⟩ := key [] [] ERels.nil h
        refine ⟨v', ?_, h2⟩
        rw [← h1]
        simp only [Instr.lookup, Sem.run_bind, underlying_run hu, Result.andThen_ok, Sem.run_pure]
        rfl
      · rename_i r
        split at hes
        · rename_i es2 c hg
          cases hes
          cases hm with
          | mapNew hφ =>
            obtain ⟨es', hw, he⟩ := E.holds _ _ _ hφ hg
            obtain ⟨v', h1, h2⟩ := key es es' he h
            refine ⟨v', ?_, h2⟩
            rw [← h1]
            simp only [Instr.lookup, Sem.run_bind, underlying_run hu, Result.andThen_ok, getObj_run hw, Sem.run_pure]
            rfl
        · cases hes
      · cases hes
    · simp at h
  · simp at h

theorem stays_spec {es es' : List MapEntry} {i : Nat} {k : Value} (he : ERels φ es es') (h : staysB es i k = true) :
    ∃ e e', es[i]? = some e ∧ es'[i]? = some e' ∧ ERel φ e e' ∧ ∀ w, (Instr.keyThatStays ((((⟨es'⟩ : Array MapEntry)[i]?).map (·.key)).getD k) k).run P w = .ok k w := by
  unfold staysB at h
  split at h
  · rename_i e hi
    obtain ⟨e', h1, h2⟩ := he.get hi
    refine ⟨e, e', hi, h1, h2, fun w => ?_⟩
    have : (((⟨es'⟩ : Array MapEntry)[i]?).map (·.key)).getD k = e.key := by
      simp [h1, h2.2.1]
    rw [this]
    simp [Instr.keyThatStays, h]
  · cases h

theorem aMapUpdate_spec {S : Nat → Prop} (E : Emb P w0 φ H w) {t : TypeId} {m m' k k' v v' : Value} {H' : AH} (hm : VRel φ m m') (hk : VRel φ k k') (hv : VRel φ v v') (h : aMapUpdate P t m k v H = some H') :
    ∃ w', (Instr.mapUpdate t m' k' v').run P w = .ok () w' ∧ Emb P w0 φ H' w' ∧ Keeps S φ H w φ H' w' := by
  unfold aMapUpdate at h
  split at h
  · rename_i kt et r hu
    split at h
    · rename_i es c hg
      cases hko : keyOk P kt false k with
      | false => rw [hko] at h; simp at h
      | true =>
        rw [hko] at h
        simp only [cond_true] at h
        obtain ⟨rfl, hgk, hck⟩ := keyOk_spec hk hko
        cases hm with
        | mapNew hφ =>
          rename_i i
          obtain ⟨es', hw, he⟩ := E.holds _ _ _ hφ hg
          have hlt : i.blk < w.heap.size := (E.holds _ _ _ hφ hg).lt
          cases hf : aFind P kt k' es with
          | none => rw [hf] at h; simp at h
          | some q =>
            rw [hf] at h
            obtain ⟨q', h1, h2⟩ := aFind_rel he hf
            cases q with
            | none =>
              cases q' with
              | some _ => simp [FRel] at h2
              | none =>
                simp only [Option.some.injEq] at h
                subst h
                have hx : Holds P φ (putObj w i.blk (.map ⟨es' ++ [{ key := k', val := v', born := c }]⟩ (c + 1))) i (.map (es ++ [{ key := k', val := v, born := c }]) (c + 1)) :=
                  ⟨_, putObj_same _ hlt, he.append (ERels.cons ⟨hgk, rfl, rfl, hv⟩ ERels.nil)⟩
                obtain ⟨g1, g2⟩ := goes_put (S := S) E hφ hg hx
                refine ⟨_, ?_, g1, g2⟩
                have e1 : (⟨es'⟩ : Array MapEntry).push { key := k', val := v', born := c } = ⟨es' ++ [{ key := k', val := v', born := c }]⟩ := by apply Array.ext'; simp
                simp only [Instr.mapUpdate, Sem.run_bind, underlying_run hu, Result.andThen_ok, getObj_run hw, hck, h1, e1, setObj_run hw]
            | some p =>
              obtain ⟨n, u⟩ := p
              cases q' with
              | none => simp [FRel] at h2
              | some p' =>
                obtain ⟨n', u'⟩ := p'
                simp only [FRel] at h2
                obtain ⟨rfl, hr⟩ := h2
                simp only at h
                cases hst : staysB es n k' with
                | false => rw [hst] at h; simp at h
                | true =>
                  rw [hst] at h
                  simp only [cond_true, Option.some.injEq] at h
                  subst h
                  obtain ⟨e, e', s1, s2, s3, s4⟩ := stays_spec (P := P) he hst
                  have hx : Holds P φ (putObj w i.blk (.map ⟨modifyL (fun e => { e with key := k', val := v' }) es' n⟩ c)) i (.map (modifyL (fun e => { e with key := k', val := v }) es n) c) :=
                    ⟨_, putObj_same _ hlt, he.modify n (fun x y hxy => ⟨hgk, rfl, hxy.2.2.1, hv⟩)⟩
                  obtain ⟨g1, g2⟩ := goes_put (S := S) E hφ hg hx
                  refine ⟨_, ?_, g1, g2⟩
                  simp only [Instr.mapUpdate, Sem.run_bind, underlying_run hu, Result.andThen_ok, getObj_run hw, hck, h1, s4, modify_eq, setObj_run hw]
    · simp at h
  · simp at h

theorem aMapEntry_spec {S : Nat → Prop} (E : Emb P w0 φ H w) {t : TypeId} {m m' k k' v : Value} {H' : AH} (hm : VRel φ m m') (hk : VRel φ k k') (h : aMapEntry P t m k H = some (v, H')) :
    ∃ v' w', (Instr.mapEntry t m' k').run P w = .ok v' w' ∧ VRel φ v v' ∧ Emb P w0 φ H' w' ∧ Keeps S φ H w φ H' w' := by
  unfold aMapEntry at h
  split at h
  · rename_i kt et r hu
    split at h
    · rename_i es c hg
      cases hko : keyOk P kt false k with
      | false => rw [hko] at h; simp at h
      | true =>
        rw [hko] at h
        simp only [cond_true] at h
        obtain ⟨rfl, hgk, hck⟩ := keyOk_spec hk hko
        cases hm with
        | mapNew hφ =>
          rename_i i
          obtain ⟨es', hw, he⟩ := E.holds _ _ _ hφ hg
          have hlt : i.blk < w.heap.size := (E.holds _ _ _ hφ hg).lt
          cases hf : aFind P kt k' es with
          | none => rw [hf] at h; simp at h
          | some q =>
            rw [hf] at h
            obtain ⟨q', h1, h2⟩ := aFind_rel he hf
            cases q with
            | none =>
              cases q' with
              | some _ => simp [FRel] at h2
              | none =>
                simp only at h
                cases hz : zeroOf? P et with
                | none => rw [hz] at h; simp at h
                | some z =>
                rw [hz] at h
                simp only [Option.some.injEq, Prod.mk.injEq] at h
                obtain ⟨rfl, rfl⟩ := h
                have hz2 := ground_rel φ z (zero_ground hz)
                have hx : Holds P φ (putObj w i.blk (.map ⟨es' ++ [{ key := k', val := z, born := c }]⟩ (c + 1))) i (.map (es ++ [{ key := k', val := z, born := c }]) (c + 1)) :=
                  ⟨_, putObj_same _ hlt, he.append (ERels.cons ⟨hgk, rfl, rfl, hz2⟩ ERels.nil)⟩
                obtain ⟨g1, g2⟩ := goes_put (S := S) E hφ hg hx
                refine ⟨.tuple #[z, goInt c], _, ?_, .tuple' (.cons hz2 (.cons (.int _ _) .nil)), g1, g2⟩
                have e1 : (⟨es'⟩ : Array MapEntry).push { key := k', val := z, born := c } = ⟨es' ++ [{ key := k', val := z, born := c }]⟩ := by apply Array.ext'; simp
                simp only [Instr.mapEntry, Sem.run_bind, underlying_run hu, Result.andThen_ok, getObj_run hw, hck, h1, zero_run hz, e1, setObj_run hw, Sem.run_pure]
            | some p =>
              obtain ⟨n, u⟩ := p
              cases q' with
              | none => simp [FRel] at h2
              | some p' =>
                obtain ⟨n', u'⟩ := p'
                simp only [FRel] at h2
                obtain ⟨rfl, hr⟩ := h2
                simp only at h
                cases hst : staysB es n k' with
                | false => rw [hst] at h; simp at h
                | true =>
                  rw [hst] at h
                  simp only [cond_true] at h
                  obtain ⟨e, e', s1, s2, s3, s4⟩ := stays_spec (P := P) he hst
                  rw [s1] at h
                  simp only [Option.some.injEq, Prod.mk.injEq] at h
                  obtain ⟨rfl, rfl⟩ := h
                  have hx : Holds P φ (putObj w i.blk (.map ⟨modifyL (fun e => { e with key := k' }) es' n⟩ c)) i (.map (modifyL (fun e => { e with key := k' }) es n) c) :=
                    ⟨_, putObj_same _ hlt, he.modify n (fun x y hxy => ⟨hgk, rfl, hxy.2.2.1, hxy.2.2.2⟩)⟩
                  obtain ⟨g1, g2⟩ := goes_put (S := S) E hφ hg hx
                  refine ⟨.tuple #[u', goInt e.born], _, ?_, .tuple' (.cons hr (.cons (.int _ _) .nil)), g1, g2⟩
                  have hb : (Option.map (fun x : MapEntry => (x.born : Int)) (⟨es'⟩ : Array MapEntry)[n]?).getD 0 = (e.born : Int) := by simp [s2, s3.2.2.1]
                  simp only [Instr.mapEntry, Sem.run_bind, underlying_run hu, Result.andThen_ok, getObj_run hw, hck, h1, s4, modify_eq, setObj_run hw, Sem.run_pure, hb]
    · simp at h
  · simp at h

theorem findBorn_eq (n : Int) : ∀ {es es' : List MapEntry} (i : Nat), ERels φ es es' → findBorn n es i = (es'.findIdx? fun e => (e.born : Int) == n).map (· + i)
  | [], es', i, h => by have := h.inv_nil; subst this; simp [findBorn]
  | e :: es, es', i, h => by
    obtain ⟨e', b', rfl, h1, h2⟩ := h.inv_cons
    simp only [findBorn, List.findIdx?_cons]
    have hb : ((e'.born : Int) == n) = decide ((e.born : Int) = n) := by rw [h1.2.2.1]; rfl
    rw [hb]
    cases hd : decide ((e.born : Int) = n) with
    | true => simp
    | false =>
      simp only [cond_false, Bool.false_eq_true, if_false]
      rw [findBorn_eq n (i + 1) h2]
      cases List.findIdx? (fun e => (e.born : Int) == n) b' <;> simp; omega

theorem aEntryStore_spec {S : Nat → Prop} (E : Emb P w0 φ H w) {t : TypeId} {m m' s s' v v' : Value} {H' : AH} (hm : VRel φ m m') (hs : VRel φ s s') (hv : VRel φ v v') (h : aEntryStore m s v H = some H') :
    ∃ w', (Instr.entryStore t m' s' v').run P w = .ok () w' ∧ Emb P w0 φ H' w' ∧ Keeps S φ H w φ H' w' := by
  unfold aEntryStore at h
  split at h
  · rename_i r k n
    split at h
    · rename_i es c hg
      cases hm with
      | mapNew hφ =>
        rename_i i
        cases hs
        obtain ⟨es', hw, he⟩ := E.holds _ _ _ hφ hg
        have hlt : i.blk < w.heap.size := (E.holds _ _ _ hφ hg).lt
        split at h
        · rename_i j hj
          simp only [Option.some.injEq] at h
          subst h
          have hx : Holds P φ (putObj w i.blk (.map ⟨modifyL (fun e => { e with val := v' }) es' j⟩ c)) i (.map (modifyL (fun e => { e with val := v }) es j) c) :=
            ⟨_, putObj_same _ hlt, he.modify j (fun x y hxy => ⟨hxy.1, hxy.2.1, hxy.2.2.1, hv⟩)⟩
          obtain ⟨g1, g2⟩ := goes_put (S := S) E hφ hg hx
          refine ⟨_, ?_, g1, g2⟩
          rw [findBorn_eq n 0 he] at hj
          have hj' : (⟨es'⟩ : Array MapEntry).findIdx? (fun e => (e.born : Int) == n) = some j := by
            have := @List.findIdx?_toArray _ (fun e : MapEntry => (e.born : Int) == n) es'
            rw [show (⟨es'⟩ : Array MapEntry) = es'.toArray from rfl, this]
            simpa using hj
          simp only [Instr.entryStore, Sem.run_bind, getObj_run hw, Result.andThen_ok, asInt, asIntOf, Sem.run_pure, hj', modify_eq, setObj_run hw]
        · simp at h
    · simp at h
  · simp at h

theorem aDelete_spec {S : Nat → Prop} (E : Emb P w0 φ H w) {t ty : TypeId} {m m' k k' : Value} {H' : AH} (hm : VRel φ m m') (hk : VRel φ k k') (h : aDelete P t m k H = some H') :
    ∃ w', (Builtin.delete_ #[t] ty #[m', k']).run P w = .ok (.tuple #[]) w' ∧ Emb P w0 φ H' w' ∧ Keeps S φ H w φ H' w' := by
  unfold aDelete at h
  split at h
  · rename_i kt et hu
    cases hko : keyOk P kt true k with
    | false => rw [hko] at h; simp at h
    | true =>
      rw [hko] at h
      simp only [cond_true, Option.some.injEq] at h
      subst h
      obtain ⟨rfl, hgk, hck⟩ := keyOk_spec hk hko
      cases hm
      exact ⟨w, by simp [Builtin.delete_, underlying_run hu, hck], E, Keeps.refl _ _ _ _⟩
  · rename_i kt et r hu
    split at h
    · rename_i es c hg
      cases hko : keyOk P kt es.isEmpty k with
      | false => rw [hko] at h; simp at h
      | true =>
        rw [hko] at h
        simp only [cond_true] at h
        obtain ⟨rfl, hgk, hck⟩ := keyOk_spec hk hko
        cases hm with
        | mapNew hφ =>
          rename_i i
          obtain ⟨es', hw, he⟩ := E.holds _ _ _ hφ hg
          have hlt : i.blk < w.heap.size := (E.holds _ _ _ hφ hg).lt
          have hem : (⟨es'⟩ : Array MapEntry).isEmpty = es.isEmpty := by
            have := he.1
            cases es <;> cases es' <;> simp at this ⊢
          cases hf : aFind P kt k' es with
          | none => rw [hf] at h; simp at h
          | some q =>
            rw [hf] at h
            obtain ⟨q', h1, h2⟩ := aFind_rel he hf
            cases q with
            | none =>
              cases q' with
              | some _ => simp [FRel] at h2
              | none =>
                simp only [Option.some.injEq] at h
                subst h
                have e0 : putObj w i.blk (.map ⟨es'⟩ c) = w := by
                  unfold putObj
                  have : w.heap.setIfInBounds i.blk (.map ⟨es'⟩ c) = w.heap := by
                    apply Array.ext_getElem?
                    intro j
                    simp only [Array.getElem?_setIfInBounds]
                    by_cases e : i.blk = j
                    · subst e; simp only [if_true, hlt, hw]
                    · simp [e]
                  rw [this]
                refine ⟨w, ?_, E, Keeps.refl _ _ _ _⟩
                simp only [Builtin.delete_, List.getElem?_toArray, List.getElem?_cons_zero, List.getElem?_cons_succ, Sem.run_bind, underlying_run hu, Result.andThen_ok, getObj_run hw, hem, hck, h1, setObj_run hw, e0, Sem.run_pure]
            | some p =>
              obtain ⟨n, u⟩ := p
              cases q' with
              | none => simp [FRel] at h2
              | some p' =>
                obtain ⟨n', u'⟩ := p'
                simp only [FRel] at h2
                obtain ⟨rfl, hr⟩ := h2
                simp only [Option.some.injEq] at h
                subst h
                have hx : Holds P φ (putObj w i.blk (.map ⟨eraseL es' n⟩ c)) i (.map (eraseL es n) c) := ⟨_, putObj_same _ hlt, he.erase n⟩
                obtain ⟨g1, g2⟩ := goes_put (S := S) E hφ hg hx
                refine ⟨_, ?_, g1, g2⟩
                simp only [Builtin.delete_, List.getElem?_toArray, List.getElem?_cons_zero, List.getElem?_cons_succ, Sem.run_bind, underlying_run hu, Result.andThen_ok, getObj_run hw, hem, hck, h1, erase_eq, setObj_run hw, Sem.run_pure]
    · simp at h
  · simp at h

theorem aCopy_spec {S : Nat → Prop} (E : Emb P w0 φ H w) {ats : Array TypeId} {ty : TypeId} {d d' s s' v : Value} {H' : AH} (hd : VRel φ d d') (hs : VRel φ s s') (h : aCopy P w0 H ats d s = some (v, H')) :
    ∃ w', (Builtin.copy_ ats ty #[d', s']).run P w = .ok v w' ∧ VRel φ v v ∧ Emb P w0 φ H' w' ∧ Keeps S φ H w φ H' w' := by
  unfold aCopy at h
  split at h
  · rename_i dt base dLen dCap m hat hm
    split at h
    · rename_i e hu
      split at h
      · rename_i size hsz
        obtain ⟨base', cap', rfl, hle⟩ := hd.slice_inv
        have hm' : lenA s' = some m := by rw [lenA_rel hs, hm]
        have hmin : cond (Nat.ble m dLen) m dLen = Nat.min m dLen := by
          cases hb : Nat.ble m dLen with
          | true => have := Nat.le_of_ble_eq_true hb; simp [Nat.min_eq_left this]
          | false =>
            have : ¬ m ≤ dLen := fun e => by rw [Nat.ble_eq_true_of_le e] at hb; cases hb
            simp only [cond_false]
            exact (Nat.min_eq_right (by omega)).symm
        rw [hmin] at h
        simp only at h
        split at h
        · rename_i cs hcs
          obtain ⟨cs', n1, n2, n3⟩ := newCells_spec E hs hm (Nat.min_le_left _ _) hcs
          have fin : ∀ w', (match base' with | some a => storeCells a cs' | none => pure () : Sem Unit).run P w = .ok () w' →
              (Builtin.copy_ ats ty #[.slice base' dLen cap', s']).run P w = .ok (.int .i64 (Nat.min m dLen)) w' := by
            intro w' hw'
            unfold Builtin.copy_
            rw [hat]
            simp only [List.getElem?_toArray, List.getElem?_cons_zero, List.getElem?_cons_succ, Sem.run_bind, underlying_run hu, Result.andThen_ok, lenOf_run hm', sizeOf_run hsz, n3]
            cases base' with
            | none => simp only [Sem.run_pure, Result.ok.injEq, true_and] at hw' ⊢; exact ⟨rfl, hw'⟩
            | some a => simp only [Sem.run_bind, hw', Result.andThen_ok, Sem.run_pure]; rfl
          split at h
          · simp only [Option.some.injEq, Prod.mk.injEq] at h
            obtain ⟨rfl, rfl⟩ := h
            cases hd
            exact ⟨w, fin w rfl, .int _ _, E, Keeps.refl _ _ _ _⟩
          · rename_i a
            cases hn0 : Nat.beq (Nat.min m dLen) 0 with
            | true =>
              rw [hn0] at h
              simp only [cond_true, Option.some.injEq, Prod.mk.injEq] at h
              obtain ⟨rfl, rfl⟩ := h
              have hn0 : min m dLen = 0 := Nat.eq_of_beq_eq_true hn0
              have : cs' = [] := by
                apply List.eq_nil_of_length_eq_zero
                rw [rel_length n1, n2, hn0, Nat.zero_mul]
              subst this
              exact ⟨w, fin w (by cases base' <;> rfl), .int _ _, E, Keeps.refl _ _ _ _⟩
            | false =>
              rw [hn0] at h
              simp only [cond_false, Option.map_eq_some_iff, Prod.mk.injEq] at h
              obtain ⟨H2, hwr, rfl, rfl⟩ := h
              have hn0 : Nat.min m dLen ≠ 0 := fun e => by rw [beq_true e] at hn0; cases hn0
              have hdl : 0 < dLen := by
                rcases Nat.eq_zero_or_pos dLen with h | h
                · exact absurd (by rw [h]; exact Nat.min_zero m) hn0
                · exact h
              obtain ⟨-, b, b', e1, rfl, hab⟩ := slice_addr hd hdl
              cases e1
              obtain ⟨w', q1, q2, q3⟩ := wrCells_spec (S := S) E hab n1 hwr
              exact ⟨w', fin w' q1, .int _ _, q2, q3⟩
        · simp at h
      · simp at h
    · simp at h
  · simp at h

theorem underlying_run_any (t : TypeId) {d : TypeDesc} (h : P.underlying t = some d) (w : World) : (underlying t).run P w = .ok d w := underlying_run h

theorem aClear_spec {S : Nat → Prop} (E : Emb P w0 φ H w) {t ty : TypeId} {d : TypeDesc} (hu : P.underlying t = some d) {x x' : Value} {H' : AH} (hx : VRel φ x x') (h : aClear P t x H = some H') :
    ∃ w', (Builtin.clear_ #[t] ty #[x']).run P w = .ok (.tuple #[]) w' ∧ Emb P w0 φ H' w' ∧ Keeps S φ H w φ H' w' := by
  unfold aClear at h
  rw [hu] at h
  have run0 : ∀ x', (x' = .map none ∨ (∃ l c, x' = .slice none l c) ∨ (∃ a c, x' = .slice a 0 c)) → (Builtin.clear_ #[t] ty #[x']).run P w = .ok (.tuple #[]) w := by
    intro x' hx'
    unfold Builtin.clear_
    simp only [List.getElem?_toArray, List.getElem?_cons_zero, Sem.run_bind, underlying_run hu, Result.andThen_ok]
    rcases hx' with rfl | ⟨l, c, rfl⟩ | ⟨a, c, rfl⟩
    · cases d <;> rfl
    · cases d <;> rfl
    · cases a <;> cases d <;> rfl
  split at h
  · simp only [Option.some.injEq] at h
    subst h
    cases hx
    exact ⟨w, run0 _ (.inl rfl), E, Keeps.refl _ _ _ _⟩
  · simp only [Option.some.injEq] at h
    subst h
    cases hx
    exact ⟨w, run0 _ (.inr (.inl ⟨_, _, rfl⟩)), E, Keeps.refl _ _ _ _⟩
  · simp only [Option.some.injEq] at h
    subst h
    obtain ⟨a', cap', rfl, -⟩ := hx.slice_inv
    exact ⟨w, run0 _ (.inr (.inr ⟨_, _, rfl⟩)), E, Keeps.refl _ _ _ _⟩
  · rename_i e a n c hn hd
    cases hd
    split at h
    · rename_i z hz
      cases hz0 : Nat.beq (cellsL z).length 0 with
      | true => rw [hz0] at h; simp at h
      | false =>
        rw [hz0] at h
        simp only [cond_false] at h
        have hz0 : (cellsL z).length ≠ 0 := fun e => by rw [beq_true e] at hz0; cases hz0
        have hzs : z.cells.size ≠ 0 := by simpa [cellsL] using hz0
        obtain ⟨a', cap', rfl, -⟩ := hx.slice_inv
        have hn0 : n ≠ 0 := by intro e; first | exact hn e | (subst e; simp_all)
        obtain ⟨-, b, b', e1, rfl, hab⟩ := slice_addr hx (Nat.pos_of_ne_zero hn0)
        cases e1
        obtain ⟨w', q1, q2, q3⟩ := wrCells_spec (S := S) E hab (repeat_rel (zero_cells (φ := φ) hz) n) h
        refine ⟨w', ?_, q2, q3⟩
        have hzz : (Builtin.zeroCells z.cells n).toList = repeatL (cellsL z) n := zeros_eq z.cells n z.cells.size rfl (Nat.pos_of_ne_zero hzs)
        obtain ⟨n, rfl⟩ : ∃ m, n = m + 1 := ⟨n - 1, by omega⟩
        unfold Builtin.clear_
        simp only [List.getElem?_toArray, List.getElem?_cons_zero, Sem.run_bind, underlying_run hu, Result.andThen_ok, zero_run hz, hzz, q1, Sem.run_pure]
    · simp at h
  · simp at h

theorem aLen_spec (E : Emb P w0 φ H w) {t ty : TypeId} {x x' : Value} {n : Nat} (hx : VRel φ x x') (h : aLen P t x H = some n) :
    (Builtin.len_ #[t] ty #[x']).run P w = .ok (.int .i64 n) w := by
  unfold aLen at h
  split at h
  · rename_i s hu
    cases hx
    simp only [Option.some.injEq] at h
    subst h
    simp [Builtin.len_, underlying_run hu, goInt]
  · rename_i n' e hu
    simp only [Option.some.injEq] at h
    subst h
    simp only [Builtin.len_, List.getElem?_toArray, List.getElem?_cons_zero, Sem.run_bind, underlying_run hu, Result.andThen_ok]
    rfl
  · rename_i arr hu
    split at h
    · rename_i n' e hu2
      simp only [Option.some.injEq] at h
      subst h
      simp only [Builtin.len_, List.getElem?_toArray, List.getElem?_cons_zero, Sem.run_bind, underlying_run hu, Result.andThen_ok, underlying_run hu2]
      rfl
    · simp at h
  · rename_i e a n' c hu
    obtain ⟨a', cap', rfl, -⟩ := hx.slice_inv
    simp only [Option.some.injEq] at h
    subst h
    simp [Builtin.len_, underlying_run hu, goInt]
  · rename_i kt et hu
    cases hx
    simp only [Option.some.injEq] at h
    subst h
    simp [Builtin.len_, underlying_run hu, goInt]
  · rename_i kt et r hu
    split at h
    · rename_i es c hg
      cases hx with
      | mapNew hφ =>
        obtain ⟨es', hw, he⟩ := E.holds _ _ _ hφ hg
        simp only [Option.some.injEq] at h
        subst h
        simp only [Builtin.len_, List.getElem?_toArray, List.getElem?_cons_zero, Sem.run_bind, underlying_run hu, Result.andThen_ok, getObj_run hw, Sem.run_pure, goInt]
        congr 2
        simp [he.1]
    · simp at h
  · simp at h

end Go.Sim
