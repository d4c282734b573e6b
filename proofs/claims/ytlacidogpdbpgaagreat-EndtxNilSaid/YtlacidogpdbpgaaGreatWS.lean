/-
  First contracts.
-/
import Derived.Test.YtlacidogpdbpgaaGreatWT0
namespace Go.Sim
open Go
set_option linter.unusedVariables false
set_option linter.unusedSimpArgs false
set_option maxRecDepth 100000

variable {pr : CallA} [PrB pr] {w : World}

abbrev vi (n : Int) : Value := .int .i64 n
abbrev vp (b off : Nat) : Value := .pointer (some ⟨b, off, some 0⟩)

theorem sp126 (n a b : Int) : Spec PG pr w 126 [vi n, vi a, vi b] [] fun v B => v = .bool (decide (a ≤ n ∧ n ≤ b)) ∧ B = [] := by
  refine Spec.intro fun R k H hk s => ?_
  refine n126 ?_
  unfold N126
  refine p_rgn s ?_; intro m0 h0 s
  refine p_rgn s ?_; intro m1 h1 s
  simp only [go_sem]
  refine gd_dec (fun hc => ?_) (fun hc => ?_) <;> simp only [go_sem, hc, decide_true, decide_false]
  · exact hk _ [] _ ⟨by simp [ge_iff_le.1 hc], rfl⟩ s.noFree
  · exact hk _ [] _ ⟨by simp; omega, rfl⟩ s.noFree

/-- a row of old memory -/
def Old (w : World) (b off : Nat) (cs : List Value) : Prop := ∀ i v, cs[i]? = some v → w.cell? ⟨b, off + i, none⟩ = some v ∧ plainCell v = true

theorem sp128 {p : Nat} {hosts : Int} {cs : List Value} {e : TypeId} (h : Int) (hh : cs[0]? = some (vi hosts)) : Spec PG pr w 128 [vp p 0, vi h] [pt p (some (.row cs e))] fun v B => v = .bool (decide (0 ≤ h ∧ h ≤ IntKind.i64.wrap (hosts - 1))) ∧ B = [pt p (some (.row cs e))] := by
  refine Spec.intro fun R k H hk s => ?_
  simp only [List.cons_append, List.nil_append] at s
  refine n128 ?_
  unfold N128
  refine p_rgn s ?_; intro m0 h0 s
  refine p_rgn s ?_; intro m1 h1 s
  simp only [go_sem, Nat.add_zero]
  refine p_ld1 s hh ?_
  simp only [go_sem]
  refine (sp126 _ _ _).call s ?_
  rintro _ _ h2 ⟨rfl, rfl⟩ s
  simp only [List.cons_append, List.nil_append] at s
  exact hk _ _ _ ⟨rfl, rfl⟩ s.noFree

/-- the links of a network, as a reader of memory sees them -/
structure VLm where
  id : Int
  host : Int
  bag : Int
  smax : Int
  high : Bool
  subs : Int
  skew : Int
  to : Value
def VLm.cells (v : VLm) : List Value := [vi v.id, vi v.host, vi v.bag, vi v.smax, .bool v.high, vi v.subs, vi v.skew, v.to]

theorem rdOld_of {w : World} {b : Nat} : ∀ (cs : List Value) (off : Nat), Old w b off cs → rdOld w b off cs.length = some cs
  | [], off, _ => rfl
  | c :: cs, off, h => by
    have h0 := h 0 c rfl
    have ih := rdOld_of cs (off + 1) fun i v hv => by
      have := h (i + 1) v (by simpa using hv)
      rwa [show off + 1 + i = off + (i + 1) by omega]
    simp only [List.length_cons, rdOld]
    rw [show off + 0 = off from rfl] at h0
    rw [h0.1]
    simp only [h0.2, cond_true, ih, Option.map_some]

/-- loads from old memory -/
theorem p_oldA {n : Nat} {b off : Nat} {l : List Value} {H : AH} {k : Value → Prop} (h : Old w b off l) (hn : l.length = n) (hk : k (.agg ⟨l⟩)) : opt (ldA w n (.pointer (some ⟨b, off, none⟩)) H) k := by
  subst hn
  simp only [ldA, rdCells, rdOld_of l off h, Option.map_some]
  exact hk
theorem p_old1 {b off : Nat} {v : Value} {H : AH} {k : Value → Prop} (h : Old w b off [v]) (hk : k v) : opt (ld1 w (.pointer (some ⟨b, off, none⟩)) H) k := by
  have := rdOld_of [v] off h
  simp only [List.length_cons, List.length_nil] at this
  simp only [ld1, rdCells, this]
  exact hk

/-- a slice of old memory -/
def OldS (w : World) (v : Value) (sz : Nat) (rows : List (List Value)) : Prop :=
  (∀ r ∈ rows, r.length = sz) ∧ ((v = .slice none 0 0 ∧ rows = []) ∨ ∃ b off c, v = .slice (some ⟨b, off, none⟩) rows.length c ∧ ∀ i r, rows[i]? = some r → Old w b (off + i * sz) r)

theorem OldS.len {v : Value} {sz : Nat} {rows : List (List Value)} (h : OldS w v sz rows) : lenS v = some rows.length := by
  rcases h.2 with ⟨rfl, rfl⟩ | ⟨b, off, c, rfl, _⟩ <;> rfl

theorem p_oldIx {v : Value} {sz : Nat} {rows : List (List Value)} {i : Int} {k : Value → Prop} (h : OldS w v sz rows) (h0 : 0 ≤ i) (h1 : i < rows.length)
    (hk : ∀ b off, Old w b off (rows[i.toNat]'(by omega)) → k (.pointer (some ⟨b, off, none⟩))) : opt (ixS sz v (vi i)) k := by
  rcases h.2 with ⟨rfl, rfl⟩ | ⟨b, off, c, rfl, hr⟩
  · simp at h1; omega
  · simp only [ixS, h0, h1, decide_true, Bool.and_self, cond_true]
    exact hk b _ (hr _ _ (List.getElem?_eq_getElem (by omega)))

theorem plain_one {v : Value} (h : plainCell v = true) : oneCellB v = true := by
  cases v <;> first | rfl | simp [plainCell] at h

/-! ### Jitter -/
def jitM (host : Int) : List VLm → Int → Int
  | [], n => n
  | v :: vs, n => jitM host vs (if v.host = host then IntKind.i64.wrap (n + IntKind.i64.wrap (v.smax + 20)) else n)

theorem wrap_small {n : Int} (h0 : -9223372036854775808 ≤ n) (h1 : n < 9223372036854775808) : IntKind.i64.wrap n = n := by
  simp only [IntKind.wrap, IntKind.bits, IntKind.signed]
  simp
  omega

theorem wrap_succ {i : Nat} (h : i < 9223372036854775807) : IntKind.i64.wrap ((i : Int) + 1) = ((i + 1 : Nat) : Int) := by
  rw [wrap_small (by omega) (by omega)]
  simp

theorem sp44 {c0 c1 c2 c3 c4 c5 : Value} {vls : List VLm} (hv : OldS w c4 8 (vls.map VLm.cells)) (hl : vls.length < 1000000) (host : Int) :
    Spec PG pr w 44 [.agg ⟨[c0, c1, c2, c3, c4, c5]⟩, vi host] [] fun v B => v = vi (jitM host vls 500) ∧ B = [] := by
  refine Spec.intro fun R k H hk s => ?_
  simp only [List.nil_append] at s
  refine n44 ?_
  unfold N44
  refine p_rgn s ?_; intro m0 h0 s
  simp only [go_sem]
  refine p_al s (Nat.le_refl _) (by omega) ?_; intro h0 s
  refine p_rgn s ?_; intro m1 h1 s
  refine p_rgn s ?_; intro m2 h2 s
  simp only [go_sem, Nat.zero_add]
  refine p_ld1 s rfl ?_
  rw [hv.len]
  simp only [go_sem, List.length_map]
  refine W_loop (fun n E H => ∃ (i : Nat) (acc : Int), n = vls.length - i ∧ i ≤ vls.length ∧ E 1 = vi host ∧ E 9 = c4 ∧ E 10 = vi vls.length ∧ E 11 = vi i ∧ E 5 = vi acc ∧ jitM host (vls.drop i) acc = jitM host vls 500 ∧ Sat R H) ?_ vls.length _ _ ⟨0, 500, by simp, by simp, rfl, rfl, rfl, rfl, rfl, rfl, s.noFree.tail⟩
  rintro n E H ⟨i, acc, rfl, hi, e1, e9, e10, e11, e5, hj, s⟩
  refine Wc_sound _ _ _ _ (s44_110100 ?_)
  unfold S44_110100
  refine p_rgn s ?_; intro m0 h0 s
  simp only [e1, e9, e10, e11, e5, go_sem]
  refine ite_dec (fun hc => ?_) (fun hc => ?_)
  · refine p_rgn s ?_; intro m1 h1 s
    refine p_oldIx hv (by omega) (by simpa using hc) ?_; intro b off ho
    have hi' : i < vls.length := by omega
    simp only [Int.toNat_natCast, List.getElem_map] at ho
    have hj' : jitM host (vls.drop i) acc = jitM host (vls[i] :: vls.drop (i + 1)) acc := by rw [List.drop_eq_getElem_cons hi']
    rw [hj] at hj'
    generalize vls[i] = v at ho hj'
    have hto : oneCellB v.to = true := plain_one (ho 7 v.to rfl).2
    refine p_oldA ho rfl ?_
    refine p_al s (by omega) (by omega) ?_; intro h2 s
    refine p_st s rfl (by simp only [VLm.cells, cellsL_agg, List.all_cons, List.all_nil, hto]; rfl) rfl ?_; intro h3 s
    refine p_rgn s ?_; intro m2 h4 s
    simp only [go_sem]
    refine p_ld1 s rfl ?_
    simp only [go_sem]
    refine ite_bool (fun hc => ?_) (fun hc => ?_)
    · refine p_rgn s ?_; intro m3 h5 s
      try simp only [go_sem]
      refine p_ld1 s rfl ?_
      try simp only [go_sem]
      refine p_rgn s ?_; intro m4 h6 s
      rw [wrap_succ (by omega)]
      refine ⟨vls.length - (i + 1), by omega, i + 1, _, rfl, by omega, e1, e9, e10, rfl, rfl, ?_, s.noFree.tail⟩
      rw [hj']
      simp only [jitM, beq_iff_eq.1 hc, if_true]
    · refine p_rgn s ?_; intro m3 h5 s
      try simp only [go_sem]
      rw [wrap_succ (by omega)]
      refine ⟨vls.length - (i + 1), by omega, i + 1, _, rfl, by omega, e1, e9, e10, rfl, e5, ?_, s.noFree.tail⟩
      rw [hj']
      simp only [jitM, beq_eq_false_iff_ne.1 hc, if_false]
  · have hi' : i = vls.length := by omega
    subst hi'
    refine s44_111 ?_
    unfold S44_111
    refine p_rgn s ?_; intro m1 h1 s
    simp only [go_sem]
    refine hk _ [] _ ⟨?_, rfl⟩ s.noFree
    change E 5 = _
    rw [e5]
    rw [← hj]
    simp [jitM]
end Go.Sim
