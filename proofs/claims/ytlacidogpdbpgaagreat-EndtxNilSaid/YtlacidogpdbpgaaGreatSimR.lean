/-
  The trace of a drawn region in the order of the text.
-/
import Derived.Test.YtlacidogpdbpgaaGreatSimQ
namespace Go.Sim
open Go
set_option linter.unusedSimpArgs false
set_option linter.unusedVariables false

variable {P : Program} {w0 : World} {call : CallA}

def tAt (recs : List Rec) (T' : Tmps) (j : Nat) : Tmps := match recs[j]? with | some r => r.T | none => T'
def hAt (recs : List Rec) (H' : AH) (j : Nat) : AH := match recs[j]? with | some r => r.pre | none => H'

theorem trace_spec {ops : Array Oper} : ∀ (os : List Oper) (nm : Nat) (T : Tmps) (H : AH) (recs : List Rec) (T' : Tmps) (H' : AH), aTrace P w0 call ops os nm T H = some (recs, T', H') →
    recs.length = os.length ∧ tAt recs T' 0 = T ∧ hAt recs H' 0 = H ∧
    ∀ j r, recs[j]? = some r → os[j]? = some r.o ∧ r.nm = nm + j ∧ r.T = tAt recs T' j ∧ r.pre = hAt recs H' j ∧ r.post = hAt recs H' (j + 1) ∧ tAt recs T' (j + 1) = putT r.T r.o.dst r.v ∧
      r.want = wantedT r.o ops r.T ∧ (r.want = true → nameOk P r.o r.nm r.pre = true ∧ aOp P w0 call r.nm r.o r.T r.pre = some (r.v, r.post)) ∧ (r.want = false → r.v = undef ∧ r.post = r.pre)
  | [], nm, T, H, recs, T', H', h => by
    simp only [aTrace, Option.some.injEq, Prod.mk.injEq] at h
    obtain ⟨rfl, rfl, rfl⟩ := h
    exact ⟨rfl, rfl, rfl, fun j r hr => by simp at hr⟩
  | o :: os, nm, T, H, recs, T', H', h => by
    simp only [aTrace] at h
    have fin : ∀ (r0 : Rec) (rest : List Rec) (T1 : Tmps) (H1 : AH), aTrace P w0 call ops os (nm + 1) T1 H1 = some (rest, T', H') → r0.o = o → r0.nm = nm → r0.T = T → r0.pre = H → r0.post = H1 → T1 = putT r0.T r0.o.dst r0.v →
        r0.want = wantedT r0.o ops r0.T → (r0.want = true → nameOk P r0.o r0.nm r0.pre = true ∧ aOp P w0 call r0.nm r0.o r0.T r0.pre = some (r0.v, r0.post)) → (r0.want = false → r0.v = undef ∧ r0.post = r0.pre) → recs = r0 :: rest →
        recs.length = (o :: os).length ∧ tAt recs T' 0 = T ∧ hAt recs H' 0 = H ∧
        ∀ j r, recs[j]? = some r → (o :: os)[j]? = some r.o ∧ r.nm = nm + j ∧ r.T = tAt recs T' j ∧ r.pre = hAt recs H' j ∧ r.post = hAt recs H' (j + 1) ∧ tAt recs T' (j + 1) = putT r.T r.o.dst r.v ∧
          r.want = wantedT r.o ops r.T ∧ (r.want = true → nameOk P r.o r.nm r.pre = true ∧ aOp P w0 call r.nm r.o r.T r.pre = some (r.v, r.post)) ∧ (r.want = false → r.v = undef ∧ r.post = r.pre) := by
      intro r0 rest T1 H1 hrest e1 e2 e3 e4 e5 e6 e7 e8 e9 e10
      subst e10
      obtain ⟨i1, i2, i3, i4⟩ := trace_spec os (nm + 1) T1 H1 rest T' H' hrest
      refine ⟨by simp [i1], e3, e4, fun j r hr => ?_⟩
      cases j with
      | zero =>
        simp only [List.getElem?_cons_zero, Option.some.injEq] at hr
        subst hr
        refine ⟨by simp [e1], by simp [e2], rfl, rfl, ?_, ?_, e7, e8, e9⟩
        · rw [e5]; exact i3.symm
        · rw [← e6]; exact i2
      | succ j =>
        simp only [List.getElem?_cons_succ] at hr
        obtain ⟨q1, q2, q3, q4, q5, q6, q7, q8, q9⟩ := i4 j r hr
        exact ⟨by simpa using q1, by omega, q3, q4, q5, q6, q7, q8, q9⟩
    cases hw : wantedT o ops T with
    | true =>
      rw [hw] at h
      simp only [cond_true] at h
      cases hn : nameOk P o nm H with
      | false => rw [hn] at h; simp at h
      | true =>
        rw [hn] at h
        simp only [cond_true] at h
        cases hop : aOp P w0 call nm o T H with
        | none => rw [hop] at h; simp at h
        | some q =>
          obtain ⟨v, H1⟩ := q
          rw [hop] at h
          simp only [Option.map_eq_some_iff, Prod.mk.injEq] at h
          obtain ⟨⟨rest, T2, H2⟩, hrest, rfl, h1⟩ := h
          simp only [Prod.mk.injEq] at h1
          obtain ⟨rfl, rfl⟩ := h1
          exact fin ⟨o, nm, true, T, H, v, H1⟩ rest _ H1 hrest rfl rfl rfl rfl rfl rfl hw.symm (fun _ => ⟨hn, hop⟩) (fun e => by cases e) rfl
    | false =>
      rw [hw] at h
      simp only [cond_false, Option.map_eq_some_iff, Prod.mk.injEq] at h
      obtain ⟨⟨rest, T2, H2⟩, hrest, rfl, h1⟩ := h
      simp only [Prod.mk.injEq] at h1
      obtain ⟨rfl, rfl⟩ := h1
      exact fin ⟨o, nm, false, T, H, undef, H⟩ rest _ H hrest rfl rfl rfl rfl rfl rfl hw.symm (fun e => by cases e) (fun _ => ⟨rfl, rfl⟩) rfl

/-- what is known of a drawn region's trace -/
structure Tr (P : Program) (w0 : World) (call : CallA) (ops : Array Oper) (base : Nat) where
  TT : Nat → Tmps
  HH : Nat → AH
  VV : Nat → Value
  want : Nat → Bool
  ahead : Nat → Nat → Bool
  step : ∀ j o, ops[j]? = some o → want j = wantedT o ops (TT j) ∧ TT (j + 1) = putT (TT j) o.dst (VV j) ∧
    (want j = true → nameOk P o (base + j) (HH j) = true ∧ aOp P w0 call (base + j) o (TT j) (HH j) = some (VV j, HH (j + 1))) ∧ (want j = false → VV j = undef ∧ HH (j + 1) = HH j)
  edge : ∀ i j, ahead i j = true → ∃ o, ops[j]? = some o ∧ ∃ e ∈ o.after.toList, Region.binds .any e = true ∧ e.on < j ∧ (i = e.on ∨ ahead i e.on = true)
  back : ∀ (j : Nat) (o : Oper), ops[j]? = some o → ∀ e ∈ o.after.toList, Region.binds .any e = true → e.on < j
  temps : ∀ (i j : Nat) (x y : Oper), i < j → ops[i]? = some x → ops[j]? = some y → ahead i j = true ∨ Oper.apart ops x y = true
  reads : ∀ (i j : Nat) (x y : Oper), i < j → ops[i]? = some x → ops[j]? = some y → want i = true → want j = true → ahead i j = false → clsOf P x.op = .read → clsOf P y.op = .eff →
    aOp P w0 call (base + i) x (TT i) (HH (j + 1)) = some (VV i, HH (j + 1))
  reads' : ∀ (i j : Nat) (x y : Oper), i < j → ops[i]? = some x → ops[j]? = some y → want i = true → want j = true → ahead i j = false → clsOf P x.op = .eff → clsOf P y.op = .read →
    aOp P w0 call (base + j) y (TT j) (HH i) = some (VV j, HH i)
  allocs : ∀ (i j : Nat) (x y : Oper), i < j → ops[i]? = some x → ops[j]? = some y → want i = true → want j = true → ahead i j = false → clsOf P x.op = .alloc → clsOf P y.op = .eff →
    (HH (j + 1)).get (base + i) = (HH (i + 1)).get (base + i)
  allocs' : ∀ (i j : Nat) (x y : Oper), i < j → ops[i]? = some x → ops[j]? = some y → want i = true → want j = true → ahead i j = false → clsOf P x.op = .eff → clsOf P y.op = .alloc →
    (HH i).get (base + j) = none
  effs : ∀ (i j : Nat) (x y : Oper), i < j → ops[i]? = some x → ops[j]? = some y → want i = true → want j = true → clsOf P x.op = .eff → clsOf P y.op = .eff → ahead i j = true

theorem backOk_get : ∀ {l : List Oper} {k : Nat}, backOk l k = true → ∀ (j : Nat) (o : Oper), l[j]? = some o → ∀ e ∈ o.after.toList, Region.binds .any e = true → e.on < k + j
  | [], k, _, j, o, ho, _, _, _ => by simp at ho
  | x :: l, k, h, j, o, ho, e, he, hb => by
    simp only [backOk, Bool.and_eq_true] at h
    cases j with
    | zero =>
      simp at ho
      subst ho
      have := List.all_eq_true.1 h.1 e he
      simp only [hb, Bool.not_true, Bool.false_or] at this
      simpa using this
    | succ j =>
      have := backOk_get h.2 j o (by simpa using ho) e he hb
      omega

theorem again_eq {r : Rec} {H : AH} (hc : clsOf P r.o.op = .read) (h : again P w0 call r H = true) : aOp P w0 call r.nm r.o r.T H = some (r.v, H) := by
  unfold again at h
  split at h
  · rename_i v H' hop
    have := aOp_read hc hop
    rw [this] at hop
    rw [sameV_eq h] at hop
    exact hop
  · cases h

theorem tr_of {ops : Array Oper} {base : Nat} {T T' : Tmps} {H H' : AH} {recs : List Rec} (h : aTrace P w0 call ops ops.toList base T H = some (recs, T', H')) (hd : drawOk ops = true)
    (hm : pairsOk (fun x y => !x.want || !y.want || meddleNot P w0 call x y) recs recs (befores ops.toList []) 0 = true) :
    ∃ t : Tr P w0 call ops base, t.TT 0 = T ∧ t.HH 0 = H ∧ t.TT ops.size = T' ∧ t.HH ops.size = H' := by
  obtain ⟨hl, h0, h1, hr⟩ := trace_spec _ _ _ _ _ _ _ h
  have hrec : ∀ (j : Nat) (o : Oper), ops[j]? = some o → ∃ r : Rec, recs[j]? = some r ∧ r.o = o := by
    intro j o ho
    have hj : j < recs.length := by
      rw [hl]
      rcases Nat.lt_or_ge j ops.toList.length with h | h
      · exact h
      · rw [← Array.getElem?_toList, List.getElem?_eq_none h] at ho; cases ho
    refine ⟨recs[j], List.getElem?_eq_getElem hj, ?_⟩
    obtain ⟨q1, _⟩ := hr j _ (List.getElem?_eq_getElem hj)
    rw [Array.getElem?_toList, ho] at q1
    exact (Option.some.inj q1).symm
  have hmask : ∀ (j : Nat) (o : Oper), ops[j]? = some o → ∃ m, (befores ops.toList [])[j]? = some m := by
    intro j o ho
    have hj : j < (befores ops.toList []).length := by
      rw [befores_length]
      rcases Nat.lt_or_ge j ops.toList.length with h | h
      · exact h
      · rw [← Array.getElem?_toList, List.getElem?_eq_none h] at ho; cases ho
    exact ⟨_, List.getElem?_eq_getElem hj⟩
  simp only [drawOk, Bool.and_eq_true] at hd
  have pair : ∀ (i j : Nat) (x y : Oper), i < j → ops[i]? = some x → ops[j]? = some y → ∃ rx ry : Rec, recs[i]? = some rx ∧ recs[j]? = some ry ∧ rx.o = x ∧ ry.o = y ∧
      (((befores ops.toList []).getD j 0).testBit i = true ∨ (!rx.want || !ry.want || meddleNot P w0 call rx ry) = true) := by
    intro i j x y hij hx hy
    obtain ⟨rx, hrx, ex⟩ := hrec i x hx
    obtain ⟨ry, hry, ey⟩ := hrec j y hy
    obtain ⟨m, hmj⟩ := hmask j y hy
    refine ⟨rx, ry, hrx, hry, ex, ey, ?_⟩
    have := pairsOk_get hm j ry m hry hmj i rx (by omega) hrx
    rw [List.getD_eq_getElem?_getD, hmj]
    exact this
  have get : ∀ (j : Nat) (r : Rec), recs[j]? = some r → r.nm = base + j ∧ r.T = tAt recs T' j ∧ r.pre = hAt recs H' j ∧ r.post = hAt recs H' (j + 1) := fun j r h => by
    obtain ⟨_, q2, q3, q4, q5, _⟩ := hr j r h
    exact ⟨q2, q3, q4, q5⟩
  have hwant : ∀ (j : Nat) (r : Rec), recs[j]? = some r → ((recs[j]?).map (·.want)).getD false = r.want := fun j r h => by rw [h]; rfl
  have hval : ∀ (j : Nat) (r : Rec), recs[j]? = some r → ((recs[j]?).map (·.v)).getD undef = r.v := fun j r h => by rw [h]; rfl
  refine ⟨{ TT := tAt recs T', HH := hAt recs H', VV := fun j => ((recs[j]?).map (·.v)).getD undef, want := fun j => ((recs[j]?).map (·.want)).getD false, ahead := fun i j => ((befores ops.toList []).getD j 0).testBit i, step := ?_, edge := ?_, back := ?_, temps := ?_, reads := ?_, reads' := ?_, allocs := ?_, allocs' := ?_, effs := ?_ }, h0, h1, ?_, ?_⟩
  · intro j o ho
    obtain ⟨r, hrj, e⟩ := hrec j o ho
    obtain ⟨q1, q2, q3, q4, q5, q6, q7, q8, q9⟩ := hr j r hrj
    subst e
    simp only [hrj, Option.map_some, Option.getD_some]
    rw [← q3, ← q4, ← q5, ← q2]
    exact ⟨q7, q6, q8, q9⟩
  · intro i j hij
    rw [List.getD_eq_getElem?_getD] at hij
    cases hmj : (befores ops.toList [])[j]? with
    | none => rw [hmj] at hij; simp at hij
    | some m =>
      rw [hmj] at hij
      simp only [Option.getD_some] at hij
      have hj : j < ops.toList.length := by
        rw [← befores_length ops.toList []]
        rcases Nat.lt_or_ge j (befores ops.toList []).length with h | h
        · exact h
        · rw [List.getElem?_eq_none h] at hmj; cases hmj
      have hoj : ops.toList[j]? = some ops.toList[j] := List.getElem?_eq_getElem hj
      obtain ⟨e, he, hb, hc⟩ := befores_bit ops.toList [] j _ m hoj hmj i hij
      have hlt := backOk_get hd.1 j _ hoj e he hb
      rw [Nat.zero_add] at hlt
      refine ⟨ops.toList[j], by rw [← Array.getElem?_toList]; exact hoj, e, he, hb, hlt, hc.imp id fun hc => ?_⟩
      simp only [List.nil_append, List.length_nil, Nat.zero_add, List.getD_eq_getElem?_getD, List.getElem?_take, if_pos hlt] at hc
      rw [List.getD_eq_getElem?_getD]
      exact hc
  · intro j o ho e he hb
    have := backOk_get hd.1 j o (by rw [Array.getElem?_toList]; exact ho) e he hb
    omega
  · intro i j x y hij hx hy
    obtain ⟨m, hmj⟩ := hmask j y hy
    have := pairsOk_get hd.2 j y m (by rw [Array.getElem?_toList]; exact hy) hmj i x (by omega) (by rw [Array.getElem?_toList]; exact hx)
    rw [List.getD_eq_getElem?_getD, hmj]
    exact this
  · intro i j x y hij hx hy wx wy ha cx cy
    obtain ⟨rx, ry, hrx, hry, ex, ey, hp⟩ := pair i j x y hij hx hy
    rw [hwant i rx hrx] at wx
    rw [hwant j ry hry] at wy
    simp only [ha, wx, wy, Bool.false_eq_true, false_or, Bool.not_true, Bool.false_or] at hp
    simp only [meddleNot, ex, ey, cx, cy] at hp
    have := again_eq (by rw [ex]; exact cx) hp
    obtain ⟨a1, a2, a3, a4⟩ := get i rx hrx
    obtain ⟨b1, b2, b3, b4⟩ := get j ry hry
    rw [hval i rx hrx, ← a1, ← a2, ← b4, ← ex]
    exact this
  · intro i j x y hij hx hy wx wy ha cx cy
    obtain ⟨rx, ry, hrx, hry, ex, ey, hp⟩ := pair i j x y hij hx hy
    rw [hwant i rx hrx] at wx
    rw [hwant j ry hry] at wy
    simp only [ha, wx, wy, Bool.false_eq_true, false_or, Bool.not_true, Bool.false_or] at hp
    simp only [meddleNot, ex, ey, cx, cy] at hp
    have := again_eq (by rw [ey]; exact cy) hp
    obtain ⟨a1, a2, a3, a4⟩ := get i rx hrx
    obtain ⟨b1, b2, b3, b4⟩ := get j ry hry
    rw [hval j ry hry, ← b1, ← b2, ← a3, ← ey]
    exact this
  · intro i j x y hij hx hy wx wy ha cx cy
    obtain ⟨rx, ry, hrx, hry, ex, ey, hp⟩ := pair i j x y hij hx hy
    rw [hwant i rx hrx] at wx
    rw [hwant j ry hry] at wy
    simp only [ha, wx, wy, Bool.false_eq_true, false_or, Bool.not_true, Bool.false_or] at hp
    simp only [meddleNot, ex, ey, cx, cy] at hp
    have := sameBlk_eq hp
    obtain ⟨a1, a2, a3, a4⟩ := get i rx hrx
    obtain ⟨b1, b2, b3, b4⟩ := get j ry hry
    rw [← a1, ← a4, ← b4]
    exact this
  · intro i j x y hij hx hy wx wy ha cx cy
    obtain ⟨rx, ry, hrx, hry, ex, ey, hp⟩ := pair i j x y hij hx hy
    rw [hwant i rx hrx] at wx
    rw [hwant j ry hry] at wy
    simp only [ha, wx, wy, Bool.false_eq_true, false_or, Bool.not_true, Bool.false_or] at hp
    simp only [meddleNot, ex, ey, cx, cy] at hp
    obtain ⟨a1, a2, a3, a4⟩ := get i rx hrx
    obtain ⟨b1, b2, b3, b4⟩ := get j ry hry
    rw [← b1, ← a3]
    simpa using hp
  · intro i j x y hij hx hy wx wy cx cy
    obtain ⟨rx, ry, hrx, hry, ex, ey, hp⟩ := pair i j x y hij hx hy
    rw [hwant i rx hrx] at wx
    rw [hwant j ry hry] at wy
    simp only [wx, wy, Bool.not_true, Bool.false_or] at hp
    simp only [meddleNot, ex, ey, cx, cy] at hp
    simpa using hp
  · have : recs[ops.size]? = none := List.getElem?_eq_none (by rw [hl]; simp)
    simp [tAt, this]
  · have : recs[ops.size]? = none := List.getElem?_eq_none (by rw [hl]; simp)
    simp [hAt, this]

end Go.Sim
