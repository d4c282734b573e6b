/-
  Steps over what is owned: one for each kind of operation.
-/
import Derived.Test.YtlacidogpdbpgaaGreatWN
import Derived.Attr
namespace Go.Sim
open Go
set_option linter.unusedSimpArgs false
set_option linter.unusedVariables false

section
variable {w0 : World} {Ls Ls' rest : List HPred} {H : AH} {b off : Nat} {cs : List Value} {e : TypeId}

theorem rd_row (h : H.get b = some (.row cs e)) (n : Nat) : rdCells w0 H ⟨b, off, some 0⟩ n = takeExact n (cs.drop off) := by
  simp only [rdCells, h]

theorem takeExact_one : ∀ (l : List Value) (n : Nat) (v : Value), l[n]? = some v → takeExact 1 (l.drop n) = some [v]
  | [], n, v, h => by simp at h
  | x :: l, 0, v, h => by simp at h; subst h; rfl
  | x :: l, n + 1, v, h => by simpa using takeExact_one l n v (by simpa using h)

theorem p_ld1 {v : Value} {k : Value → Prop} (s : Sat Ls H) [t : TakeB Ls b (some (.row cs e)) rest] (hc : cs[off]? = some v) (hk : k v) : opt (ld1 w0 (.pointer (some ⟨b, off, some 0⟩)) H) k := by
  simp only [ld1, rd_row (s.takeB (t := t)).get_pt.1, takeExact_one _ _ _ hc]
  exact hk

theorem p_ldA {n : Nat} {l : List Value} {k : Value → Prop} (s : Sat Ls H) [t : TakeB Ls b (some (.row cs e)) rest] (hc : takeExact n (cs.drop off) = some l) (hk : k (.agg ⟨l⟩)) : opt (ldA w0 n (.pointer (some ⟨b, off, some 0⟩)) H) k := by
  simp only [ldA, rd_row (s.takeB (t := t)).get_pt.1, hc]
  exact hk

theorem p_st {n : Nat} {v : Value} {cs' : List Value} {k : AH → Prop} (s : Sat Ls H) [t : TakeB Ls b (some (.row cs e)) rest] (hl : Nat.beq (cellsL v).length n = true) (hb : (cellsL v).all oneCellB = true) (ho : overwrite cs off (cellsL v) = some cs')
    (hk : ∀ H', Sat (pt b (some (.row cs' e)) :: rest) H' → k H') : opt (stC n (.pointer (some ⟨b, off, some 0⟩)) v H) k := by
  have s' := s.takeB (t := t)
  simp only [stC, hl, cond_true, wrCells, s'.get_pt.1, hb, ho, Option.map_some]
  exact hk _ (s'.set_pt _)

theorem p_rgn {sz : Nat} {k : Nat → AH → Prop} (s : Sat Ls H) [t : NoFree Ls Ls'] (hk : ∀ n H', Sat (free n (n + sz) :: Ls') H' → k n H') : rgn sz H k :=
  hk _ _ ((s.noFree (t := t)).region sz)

theorem p_al {lo hi nm : Nat} {k : Value → AH → Prop} (s : Sat Ls H) [t : TakeF Ls lo hi rest] (h1 : lo ≤ nm) (h2 : nm < hi) (hk : ∀ H', Sat (pt nm (some (.row cs e)) :: free (nm + 1) hi :: rest) H' → k (.pointer (some ⟨nm, 0, some 0⟩)) H') : al nm cs e H k :=
  hk _ ((s.takeF (t := t)).alloc h1 h2 _)

theorem p_alS {lo hi nm len : Nat} {k : Value → AH → Prop} (s : Sat Ls H) [t : TakeF Ls lo hi rest] (h1 : lo ≤ nm) (h2 : nm < hi) (hk : ∀ H', Sat (pt nm (some (.row cs e)) :: free (nm + 1) hi :: rest) H' → k (.slice (some ⟨nm, 0, some 0⟩) len len) H') : alS nm len cs e H k :=
  hk _ ((s.takeF (t := t)).alloc h1 h2 _)

theorem p_alM {lo hi nm : Nat} {k : Value → AH → Prop} (s : Sat Ls H) [t : TakeF Ls lo hi rest] (h1 : lo ≤ nm) (h2 : nm < hi) (hk : ∀ H', Sat (pt nm (some (.map [] 0)) :: free (nm + 1) hi :: rest) H' → k (.map (some nm)) H') : alM nm H k :=
  hk _ ((s.takeF (t := t)).alloc h1 h2 _)

theorem p_nm {lo hi nm : Nat} {X : Prop} (s : Sat Ls H) [t : TakeF Ls lo hi rest] (h1 : lo ≤ nm) (h2 : nm < hi) (hX : X) : nmOk H nm X := by
  unfold nmOk
  rw [((s.takeF (t := t)).get_free h1 h2).1]
  exact hX

/-! ### without memory -/
attribute [go_sem] opt_some cond_true cond_false List.getElem?_cons_zero List.getElem?_cons_succ true_and and_true
@[go_sem] theorem aadd_mk (b o n : Nat) (s : Option Nat) : aadd ⟨b, o, s⟩ n = ⟨b, o + n, s⟩ := rfl
@[go_sem] theorem fa_p (off : Nat) (a : Addr) : fa off (.pointer (some a)) = some (.pointer (some (aadd a off))) := rfl
@[go_sem] theorem nck_p (a : Addr) : nckV (.pointer (some a)) = some (.pointer (some a)) := rfl
@[go_sem] theorem nck_f (f : FuncId) (x c : Array Value) : nckV (.func (.func f) x c) = some (.func (.func f) x c) := rfl
@[go_sem] theorem pick_t (a b : Value) : pickV (.bool true) a b = some a := rfl
@[go_sem] theorem pick_f (a b : Value) : pickV (.bool false) a b = some b := rfl
@[go_sem] theorem ext_t (i : Nat) (vs : List Value) : extV i (.tuple ⟨vs⟩) = vs[i]? := rfl
@[go_sem] theorem ite_t (a b : Prop) : iteV (.bool true) a b = a := rfl
@[go_sem] theorem ite_f (a b : Prop) : iteV (.bool false) a b = b := rfl
@[go_sem] theorem gw_tt : gw (.bool true) true = true := rfl
@[go_sem] theorem gw_tf : gw (.bool true) false = false := rfl
@[go_sem] theorem gw_ft : gw (.bool false) true = false := rfl
@[go_sem] theorem gw_ff : gw (.bool false) false = true := rfl
@[go_sem] theorem gdP_true (X : (Value → AH → Prop) → Prop) (H : AH) (k : Value → AH → Prop) : gdP true X H k = X k := rfl
@[go_sem] theorem gdP_false (X : (Value → AH → Prop) → Prop) (H : AH) (k : Value → AH → Prop) : gdP false X H k = k undef H := rfl
@[go_sem] theorem lenS_s (a : Option Addr) (n c : Nat) : lenS (.slice a n c) = some n := rfl
@[go_sem] theorem lenStr_s (s : ByteArray) : lenStr (.string s) = some s.size := rfl
@[go_sem] theorem fl1_a (off : Nat) (cs : List Value) : fl1 off (.agg ⟨cs⟩) = cs[off]? := rfl
@[go_sem] theorem flA_a (off n : Nat) (cs : List Value) : flA off n (.agg ⟨cs⟩) = some (.agg ⟨(cs.drop off).take n⟩) := rfl
@[go_sem] theorem cellsL_int (k : IntKind) (n : Int) : cellsL (.int k n) = [.int k n] := rfl
@[go_sem] theorem cellsL_bool (b : Bool) : cellsL (.bool b) = [.bool b] := rfl
@[go_sem] theorem cellsL_string (b : ByteArray) : cellsL (.string b) = [.string b] := rfl
@[go_sem] theorem cellsL_pointer (b : Option Addr) : cellsL (.pointer b) = [.pointer b] := rfl
@[go_sem] theorem cellsL_slice (b : Option Addr) (n c : Nat) : cellsL (.slice b n c) = [.slice b n c] := rfl
@[go_sem] theorem cellsL_map (b : Option Nat) : cellsL (.map b) = [.map b] := rfl
@[go_sem] theorem cellsL_func (f : Fn) (a b : Array Value) : cellsL (.func f a b) = [.func f a b] := rfl
@[go_sem] theorem cellsL_agg (l : List Value) : cellsL (.agg ⟨l⟩) = l := rfl
@[go_sem] theorem cal_f {P : Program} {pr : CallA} {w : World} (g : FuncId) (a c : List Value) (args : List Value) (H : AH) (k : Value → AH → Prop) : calV P pr w (.func (.func g) ⟨a⟩ ⟨c⟩) args H k = cond (goesInto P g) (CallW P pr w g (a ++ args ++ c) H k) False := rfl

section
variable {P : Program} {pr : CallA} {w : World} {b : Code} {Q : Ex → Env → AH → Prop} {q : Env → AH → Prop} {E : Env} {H : AH} {i l : Nat} {rs : List ResultVar} {k : Value → AH → Prop}
@[go_sem] theorem at_normal : andThen q Q .normal E H = q E H := rfl
@[go_sem] theorem at_ret : andThen q Q .ret E H = Q .ret E H := rfl
@[go_sem] theorem at_exit : andThen q Q (.exit i) E H = Q (.exit i) E H := rfl
@[go_sem] theorem at_goto : andThen q Q (.goto i) E H = Q (.goto i) E H := rfl
@[go_sem] theorem of_normal : outOf i Q .normal E H = Q .normal E H := rfl
@[go_sem] theorem of_ret : outOf i Q .ret E H = Q .ret E H := rfl
@[go_sem] theorem of_exit : outOf i Q (.exit l) E H = cond (Nat.beq l i) (Q .normal E H) (Q (.exit l) E H) := rfl
@[go_sem] theorem of_goto : outOf i Q (.goto l) E H = Q (.goto l) E H := rfl
@[go_sem] theorem tw_normal : thenW P pr w b Q .normal E H = Wc P pr w b Q E H := rfl
@[go_sem] theorem tw_ret : thenW P pr w b Q .ret E H = Q .ret E H := rfl
@[go_sem] theorem tw_exit : thenW P pr w b Q (.exit i) E H = Q (.exit i) E H := rfl
@[go_sem] theorem tw_goto : thenW P pr w b Q (.goto i) E H = Q (.goto i) E H := rfl
@[go_sem] theorem ec_normal : endC P w rs k .normal E H = opt (resE P w E H rs) fun vs => k (packed vs) H := rfl
@[go_sem] theorem ec_ret : endC P w rs k .ret E H = opt (resE P w E H rs) fun vs => k (packed vs) H := rfl
@[go_sem] theorem res_nil : resE P w E H [] = some [] := rfl
@[go_sem] theorem res_tmp {t : Nat} {rs : List ResultVar} {vs : List Value} (h : resE P w E H rs = some vs) : resE P w E H (.tmp t :: rs) = some (E t :: vs) := by simp only [resE, h]
@[go_sem] theorem packed_one {v : Value} : packed [v] = v := rfl
@[go_sem] theorem packed_nil : packed [] = .tuple ⟨[]⟩ := rfl
@[go_sem] theorem packed_more {u v : Value} {l : List Value} : packed (u :: v :: l) = .tuple ⟨u :: v :: l⟩ := rfl
@[go_sem] theorem beq_zero : Nat.beq 0 0 = true := rfl
@[go_sem] theorem beq_same (n : Nat) : Nat.beq n n = true := Nat.beq_refl n
end

/-- a test: both ways -/
theorem gd_dec {p : Prop} [Decidable p] {want : Bool} {X : (Value → AH → Prop) → Prop} {H : AH} {k : Value → AH → Prop} (h1 : p → gdP (gw (.bool (decide p)) want) X H k) (h2 : ¬ p → gdP (gw (.bool (decide p)) want) X H k) : gdP (gw (.bool (decide p)) want) X H k := by
  by_cases h : p
  · exact h1 h
  · exact h2 h
theorem ite_dec {p : Prop} [Decidable p] {a b : Prop} (ha : p → a) (hb : ¬ p → b) : iteV (.bool (decide p)) a b := by
  by_cases h : p
  · rw [decide_eq_true h]; exact ha h
  · rw [decide_eq_false h]; exact hb h
theorem ite_bool {t : Bool} {a b : Prop} (ha : t = true → a) (hb : t = false → b) : iteV (.bool t) a b := by
  cases t with
  | true => exact ha rfl
  | false => exact hb rfl
theorem upd_eq (E : Env) (d : Tmp) (v : Value) (n : Nat) : upd E (some d) v n = if n = d then v else E n := by
  change cond (Nat.beq n d) v (E n) = _
  by_cases h : n = d
  · subst h; simp
  · rw [if_neg h, nbeq h]; rfl

end
end Go.Sim
