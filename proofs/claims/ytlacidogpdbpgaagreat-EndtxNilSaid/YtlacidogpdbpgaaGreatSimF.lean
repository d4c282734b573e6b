/-
  Slices, parts laid together, comparisons.
-/
import Derived.Test.YtlacidogpdbpgaaGreatSimE
namespace Go.Sim
open Go
set_option linter.unusedSimpArgs false
set_option linter.unusedVariables false

variable {P : Program} {w0 : World} {φ : Ren} {H : AH} {w : World}

/-- an operand that may be there, and what it is -/
def ORel (φ : Ren) : Option Value → Option Value → Prop
  | none, none => True
  | some v, some v' => VRel φ v v'
  | _, _ => False

theorem ORel.map {ρ ρ' : Operand → Value} (o : Option Operand) (h : ∀ x ∈ o.toList, VRel φ (ρ x) (ρ' x)) : ORel φ (o.map ρ) (o.map ρ') := by
  cases o with
  | none => trivial
  | some x => exact h x (by simp)

theorem ORel.inv_none {v : Option Value} (h : ORel φ none v) : v = none := by cases v <;> simp_all [ORel]

theorem bound_some {v : Value} {d most n : Nat} (h : bound (some v) d most = some n) : ∃ k, ∃ i : Int, v = .int k i ∧ 0 ≤ i ∧ i ≤ (most : Int) ∧ n = i.toNat := by
  unfold bound at h
  split at h
  · rename_i e; cases e
  · rename_i k i e
    cases e
    cases hc : (decide (0 ≤ i) && decide (i ≤ (most : Int))) with
    | false => rw [hc] at h; simp at h
    | true =>
      rw [hc] at h
      simp only [Bool.and_eq_true, decide_eq_true_eq] at hc
      simp only [cond_true, Option.some.injEq] at h
      exact ⟨k, i, rfl, hc.1, hc.2, h.symm⟩
  · simp at h

theorem bound_none {d most n : Nat} (h : bound none d most = some n) : n = d := by
  simp only [bound, Option.some.injEq] at h; exact h.symm

theorem sliceBound_run {v v' : Value} {d most most' n : Nat} {c : BoundsCode} (h : bound (some v) d most = some n) (hr : VRel φ v v') (hm : most ≤ most') :
    (Instr.sliceBound v' most' c).run P w = .ok n w := by
  obtain ⟨k, i, rfl, h0, h1, rfl⟩ := bound_some h
  cases hr
  have : i ≤ (most' : Int) := by omega
  simp [Instr.sliceBound, asIntOf, h0, this]

theorem bound_le {v : Option Value} {d most n : Nat} (h : bound v d most = some n) (hd : d ≤ most) : n ≤ most := by
  cases v with
  | none => rw [bound_none h]; exact hd
  | some v => obtain ⟨k, i, rfl, h0, h1, rfl⟩ := bound_some h; omega

theorem low_run {low low' : Option Value} {c : BoundsCode} {l h m : Nat} (hlo : ORel φ low low') (hl : bound low 0 h = some l) :
    (match (generalizing := false) low' with
      | some v => do
        let l ← Instr.sliceBound v h c
        pure (l, h, m)
      | none => do
        let l ← pure 0
        pure (l, h, m) : Sem (Nat × Nat × Nat)).run P w = .ok (l, h, m) w := by
  cases low with
  | none =>
    cases low' with
    | none => obtain rfl := bound_none hl; rfl
    | some _ => simp [ORel] at hlo
  | some lv =>
    cases low' with
    | none => simp [ORel] at hlo
    | some lv' => simp only [Sem.run_bind, sliceBound_run hl hlo (Nat.le_refl _), Result.andThen_ok]; rfl

theorem sliceBounds_run {isSl : Bool} {len cap' l h m hm mm d : Nat} {low high max low' high' max' : Option Value} (hlo : ORel φ low low') (hhi : ORel φ high high') (hmx : ORel φ max max')
    (hm0 : max = none → m = cap') (hm1 : ∀ v, max = some v → bound (some v) d mm = some m) (hmm : mm ≤ cap')
    (hh : bound high len hm = some h) (hhm : hm ≤ m) (hne : max ≠ none → high ≠ none) (hl : bound low 0 h = some l) :
    (Instr.sliceBounds isSl len cap' low' high' max').run P w = .ok (l, h, m) w := by
  cases max with
  | none =>
    obtain rfl := ORel.inv_none hmx
    obtain rfl := hm0 rfl
    cases high with
    | none =>
      obtain rfl := ORel.inv_none hhi
      obtain rfl := bound_none hh
      unfold Instr.sliceBounds
      simp only [Sem.run_bind, Sem.run_pure, Result.andThen_ok]
      exact low_run hlo hl
    | some hv =>
      cases high' with
      | none => simp [ORel] at hhi
      | some hv' =>
        unfold Instr.sliceBounds
        simp only [Sem.run_bind, Sem.run_pure, Result.andThen_ok]
        rw [sliceBound_run hh hhi hhm]
        simp only [Result.andThen_ok]
        exact low_run hlo hl
  | some mv =>
    cases max' with
    | none => simp [ORel] at hmx
    | some mv' =>
      cases high with
      | none => exact absurd rfl (hne (by simp))
      | some hv =>
        cases high' with
        | none => simp [ORel] at hhi
        | some hv' =>
          unfold Instr.sliceBounds
          simp only [Sem.run_bind]
          rw [sliceBound_run (hm1 mv rfl) hmx hmm]
          simp only [Result.andThen_ok]
          rw [sliceBound_run hh hhi hhm]
          simp only [Result.andThen_ok]
          exact low_run hlo hl

theorem aSliceX_spec {a : Option Addr} {len cap size : Nat} {low high max low' high' max' : Option Value} {v : Value} {isSl : Bool}
    (hlo : ORel φ low low') (hhi : ORel φ high high') (hmx : ORel φ max max') (hlc : len ≤ cap) (h : aSliceX a len cap size low high max = some v) :
    ∃ l h' m, l ≤ h' ∧ h' ≤ m ∧ m ≤ cap ∧ (Instr.sliceBounds isSl len cap low' high' max').run P w = .ok (l, h', m) w ∧
      v = .slice (cond (Nat.beq m l) a (a.map fun a => aadd a (l * size))) (h' - l) (m - l) := by
  unfold aSliceX at h
  split at h
  · simp at h
  · rename_i hne
    split at h
    · rename_i m hm
      split at h
      · rename_i hh hhh
        split at h
        · rename_i l hl
          simp only [Option.some.injEq] at h
          have hmc := bound_le hm (Nat.le_refl _)
          have hlh := bound_le hl (Nat.zero_le _)
          have hhm : hh ≤ m := by
            cases high with
            | none =>
              have := bound_none hhh
              cases max with
              | none => have := bound_none hm; omega
              | some mv => exact absurd rfl (hne mv rfl)
            | some hv => obtain ⟨_, _, _, _, h1, rfl⟩ := bound_some hhh; omega
          refine ⟨l, hh, m, hlh, hhm, hmc, ?_, h.symm⟩
          exact sliceBounds_run hlo hhi hmx (fun e => by subst e; exact bound_none hm) (fun v e => by subst e; exact hm) (Nat.le_refl _) hhh (Nat.le_refl _)
            (fun e1 e2 => by
              cases max with
              | none => exact e1 rfl
              | some mv => exact hne mv rfl e2) hl
        · simp at h
      · simp at h
    · simp at h

theorem aSliceU_spec {b off s len size cap' : Nat} {low high max low' high' max' : Option Value} {v : Value}
    (hlo : ORel φ low low') (hhi : ORel φ high high') (hmx : ORel φ max max') (hlc : len ≤ cap') (h : aSliceU b off s len size low high max = some v) :
    ∃ l h' m, l ≤ h' ∧ h' ≤ m ∧ m ≤ cap' ∧ (Instr.sliceBounds true len cap' low' high' max').run P w = .ok (l, h', m) w ∧
      ((m = cap' ∧ v = .slice (some ⟨b, off + l * size, some s⟩) (h' - l) capU) ∨
       (m < capU ∧ v = .slice (some (cond (Nat.beq m l) ⟨b, off, some s⟩ ⟨b, off + l * size, some s⟩)) (h' - l) (m - l))) := by
  unfold aSliceU at h
  split at h
  · split at h
    · rename_i hh hhh
      split at h
      · rename_i l hl
        simp only [Option.some.injEq] at h
        have hlh := bound_le hl (Nat.zero_le _)
        have hhm := bound_le hhh (Nat.le_refl _)
        refine ⟨l, hh, cap', hlh, by omega, Nat.le_refl _, ?_, .inl ⟨rfl, h.symm⟩⟩
        exact sliceBounds_run (mm := 0) (d := 0) hlo hhi hmx (fun _ => rfl) (fun v e => by cases e) (Nat.zero_le _) hhh hlc (fun e => absurd rfl e) hl
      · simp at h
    · simp at h
  · rename_i mv
    split at h
    · simp at h
    · rename_i hv
      split at h
      · rename_i m hm
        cases hcu : Nat.blt m capU with
        | false => rw [hcu] at h; simp at h
        | true =>
        rw [hcu] at h
        simp only [cond_true] at h
        have hcu : m < capU := by simpa using hcu
        split at h
        · rename_i hh hhh
          split at h
          · rename_i l hl
            simp only [Option.some.injEq] at h
            have hml := bound_le hm (Nat.le_refl _)
            have hlh := bound_le hl (Nat.zero_le _)
            have hhm : hh ≤ m := by obtain ⟨_, _, _, _, h1, rfl⟩ := bound_some hhh; omega
            refine ⟨l, hh, m, hlh, hhm, by omega, ?_, .inr ⟨hcu, h.symm⟩⟩
            exact sliceBounds_run hlo hhi hmx (fun e => by cases e) (fun v e => by cases e; exact hm) hlc hhh (Nat.le_refl _) (fun _ e => by cases e) hl
          · simp at h
        · simp at h
      · simp at h

theorem beq_true {a b : Nat} (h : a = b) : Nat.beq a b = true := by subst h; simp

/-- SLICE EXPRESSIONS -/
theorem aSlice_spec (E : Emb P w0 φ H w) {t : TypeId} {x x' v : Value} {low high max low' high' max' : Option Value} (hx : VRel φ x x')
    (hlo : ORel φ low low') (hhi : ORel φ high high') (hmx : ORel φ max max') (h : aSlice P t x low high max H = some v) :
    ∃ v', (Instr.sliceAt t x' low' high' max').run P w = .ok v' w ∧ VRel φ v v' := by
  unfold aSlice at h
  split at h
  · rename_i s hu
    cases hx
    split at h
    · rename_i hh hhh
      split at h
      · rename_i l hl
        simp only [Option.some.injEq] at h
        subst h
        rw [ORel.inv_none hmx]
        refine ⟨_, ?_, .string _⟩
        have hS : (Instr.sliceBounds false s.size s.size low' high' none).run P w = .ok (l, hh, s.size) w :=
          sliceBounds_run (max := none) (mm := 0) (d := 0) hlo hhi trivial (fun _ => rfl) (fun v e => by cases e) (Nat.zero_le _) hhh (Nat.le_refl _) (fun e => absurd rfl e) hl
        simp [Instr.sliceAt, Instr.slice, underlying_run hu, hS]
      · simp at h
    · simp at h
  · rename_i e a len cap hu
    split at h
    · simp at h
    · rename_i size hsz
      split at h
      · rename_i b off s
        cases hcu : Nat.beq cap capU with
        | true =>
          rw [hcu] at h
          simp only [cond_true] at h
          have hcu := Nat.eq_of_beq_eq_true hcu
          split at h
          · rename_i cs e' hg
            cases hee : Nat.beq e e' with
            | false => rw [hee] at h; simp at h
            | true =>
              rw [hee] at h
              simp only [cond_true] at h
              have hee := Nat.eq_of_beq_eq_true hee
              subst hee
              cases hx with
              | slice0 _ _ _ _ a' =>
                obtain ⟨l, h', m, h1, h2, h3, hr, hv⟩ := aSliceU_spec (P := P) (w := w) hlo hhi hmx (Nat.le_refl _) h
                have e1 : m = 0 := by omega
                have e2 : h' = 0 := by omega
                have e3 : l = 0 := by omega
                subst e1; subst e2; subst e3
                refine ⟨.slice (some a') 0 0, by simp [Instr.sliceAt, Instr.slice, underlying_run hu, hr, sizeOf_run hsz], ?_⟩
                rcases hv with ⟨-, rfl⟩ | ⟨-, rfl⟩
                · exact .slice0 _ _ _ _ _ (.inl rfl)
                · exact .slice0 _ _ _ _ _ (.inr rfl)
              | sliceNew _ _ _ _ cap' hφ hle hb =>
                rename_i i
                rcases hb with ⟨hb, _⟩ | ⟨_, hb⟩
                · exact absurd hcu hb
                · obtain ⟨l, h', m, h1, h2, h3, hr, hv⟩ := aSliceU_spec (P := P) (w := w) hlo hhi hmx hle h
                  have hes : size = i.esz := by
                    obtain ⟨_, _, _, _, _, _, _, _, hs⟩ := E.holds _ _ _ hφ hg
                    rw [hsz] at hs; exact Option.some.inj hs
                  refine ⟨.slice (some (if m = l then ⟨i.blk, off + i.sh, none⟩ else (⟨i.blk, off + i.sh, none⟩ : Addr).add (l * size))) (h' - l) (m - l), ?_, ?_⟩
                  · simp only [Instr.sliceAt, Sem.run_bind, underlying_run hu, Result.andThen_ok, Instr.slice, hr, sizeOf_run hsz, Sem.run_pure]
                    congr 2
                    split <;> simp
                  · rcases hv with ⟨hm, rfl⟩ | ⟨hm, rfl⟩
                    · by_cases hml : m = l
                      · have e0 : h' - l = 0 := by omega
                        have e1 : m - l = 0 := by omega
                        rw [e0, e1]
                        exact .slice0 _ _ _ _ _ (.inl rfl)
                      · rw [if_neg hml, add_none, show off + i.sh + l * size = (off + l * size) + i.sh by omega]
                        refine .sliceNew _ _ _ _ _ hφ (by omega) (.inr ⟨rfl, ?_⟩)
                        rw [hes, hm, Nat.sub_mul]
                        have : l * i.esz ≤ cap' * i.esz := Nat.mul_le_mul_right _ (by omega)
                        omega
                    · by_cases hml : m = l
                      · rw [if_pos hml, beq_true hml]
                        exact .sliceNew _ _ _ _ _ hφ (by omega) (.inl ⟨by omega, rfl⟩)
                      · rw [if_neg hml, nbeq hml, add_none, show off + i.sh + l * size = (off + l * size) + i.sh by omega]
                        exact .sliceNew _ _ _ _ _ hφ (by omega) (.inl ⟨by omega, rfl⟩)
          · simp at h
        | false =>
          rw [hcu] at h
          simp only [cond_false] at h
          have hcu : cap ≠ capU := fun e => by rw [beq_true e] at hcu; simp at hcu
          cases hlt : Nat.blt cap capU with
          | false => rw [hlt] at h; simp at h
          | true =>
          rw [hlt] at h
          simp only [cond_true] at h
          have hlt : cap < capU := by simpa using hlt
          cases hx with
          | slice0 _ _ _ _ a' hc =>
            obtain rfl : cap = 0 := hc.resolve_left hcu
            obtain ⟨l, h', m, h1, h2, h3, hr, rfl⟩ := aSliceX_spec (P := P) (w := w) (isSl := true) hlo hhi hmx (Nat.le_refl _) h
            have e1 : m = 0 := by omega
            have e2 : h' = 0 := by omega
            have e3 : l = 0 := by omega
            subst e1; subst e2; subst e3
            exact ⟨.slice (some a') 0 0, by simp [Instr.sliceAt, Instr.slice, underlying_run hu, hr, sizeOf_run hsz], .slice0 _ _ _ _ _ (.inr rfl)⟩
          | sliceNew _ _ _ _ cap' hφ hle hb =>
            rename_i i
            rcases hb with ⟨_, rfl⟩ | ⟨hb, _⟩
            · obtain ⟨l, h', m, h1, h2, h3, hr, rfl⟩ := aSliceX_spec (P := P) (w := w) (isSl := true) hlo hhi hmx hle h
              refine ⟨.slice (some (if m = l then ⟨i.blk, off + i.sh, none⟩ else (⟨i.blk, off + i.sh, none⟩ : Addr).add (l * size))) (h' - l) (m - l), ?_, ?_⟩
              · simp only [Instr.sliceAt, Sem.run_bind, underlying_run hu, Result.andThen_ok, Instr.slice, hr, sizeOf_run hsz, Sem.run_pure]
                congr 2
                split <;> simp
              · by_cases hml : m = l
                · rw [if_pos hml, beq_true hml]
                  exact .sliceNew _ _ _ _ _ hφ (by omega) (.inl ⟨by omega, rfl⟩)
                · rw [if_neg hml, nbeq hml, add_none, show off + i.sh + l * size = (off + l * size) + i.sh by omega]
                  exact .sliceNew _ _ _ _ _ hφ (by omega) (.inl ⟨by omega, rfl⟩)
            · exact absurd hb hcu
      · rename_i hns
        cases hx with
        | sliceNil =>
          obtain ⟨l, h', m, h1, h2, h3, hr, rfl⟩ := aSliceX_spec (P := P) (w := w) (isSl := true) hlo hhi hmx (Nat.le_refl _) h
          have e1 : m = 0 := by omega
          have e2 : h' = 0 := by omega
          have e3 : l = 0 := by omega
          subst e1; subst e2; subst e3
          exact ⟨.slice none 0 0, by simp [Instr.sliceAt, underlying_run hu, Instr.slice, hr, sizeOf_run hsz], .sliceNil⟩
        | sliceOld b off _ _ hlen =>
          obtain ⟨l, h', m, h1, h2, h3, hr, rfl⟩ := aSliceX_spec (P := P) (w := w) (isSl := true) hlo hhi hmx hlen h
          refine ⟨.slice (if m = l then some ⟨b, off, none⟩ else some ((⟨b, off, none⟩ : Addr).add (l * size))) (h' - l) (m - l), ?_, ?_⟩
          · simp only [Instr.sliceAt, Sem.run_bind, underlying_run hu, Result.andThen_ok, Instr.slice, hr, sizeOf_run hsz, Sem.run_pure, Option.map_some]
          · by_cases hml : m = l
            · rw [if_pos hml, beq_true hml]; exact .sliceOld _ _ _ _ (by omega)
            · rw [if_neg hml, nbeq hml, add_none]; exact .sliceOld _ _ _ _ (by omega)
        | sliceNew off s => exact absurd rfl (hns _ _ _)
        | slice0 b off s => exact absurd rfl (hns _ _ _)
  · rename_i n e a hu
    obtain ⟨a', rfl, ha⟩ := hx.inv_ptr
    split at h
    · simp at h
    · rename_i size hsz
      cases hlt : Nat.blt n capU with
      | false => rw [hlt] at h; simp at h
      | true =>
        rw [hlt] at h
        simp only [cond_true] at h
        have hlt : n < capU := by simpa using hlt
        obtain ⟨l, h', m, h1, h2, h3, hr, rfl⟩ := aSliceX_spec (P := P) (w := w) (isSl := false) hlo hhi hmx (Nat.le_refl _) h
        refine ⟨.slice (some (if m = l then a' else a'.add (l * size))) (h' - l) (m - l), ?_, ?_⟩
        · simp only [Instr.sliceAt, Sem.run_bind, underlying_run hu, Result.andThen_ok, Instr.sureAddr, Sem.run_pure, hr, sizeOf_run hsz]
        · have key : ∀ a2 a2' : Addr, ARel φ a2 a2' → VRel φ (.slice (some a2) (h' - l) (m - l)) (.slice (some a2') (h' - l) (m - l)) := by
            rintro ⟨b, off, s⟩ a2' hr2
            cases s with
            | none => simp only [ARel] at hr2; subst hr2; exact .sliceOld _ _ _ _ (by omega)
            | some s =>
              simp only [ARel] at hr2
              obtain ⟨i, h4, rfl⟩ := hr2
              exact .sliceNew _ _ _ _ _ h4 (by omega) (.inl ⟨by omega, rfl⟩)
          by_cases hml : m = l
          · rw [if_pos hml, beq_true hml]; exact key _ _ ha
          · rw [if_neg hml, nbeq hml]; exact key _ _ (ha.add _)
  · simp at h
end Go.Sim
