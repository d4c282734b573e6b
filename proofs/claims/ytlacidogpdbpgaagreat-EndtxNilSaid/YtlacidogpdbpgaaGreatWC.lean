/-
  Parts of an abstract heap: what a piece of code owns, one thing beside the other.
-/
import Derived.Test.YtlacidogpdbpgaaGreatWB
namespace Go.Sim
open Go
set_option linter.unusedSimpArgs false
set_option linter.unusedVariables false

/-- a part of a heap: which names it has, and what stands there (none: a name that is kept free) -/
abbrev Hp := Nat → Option (Option Blk)
abbrev HPred := Hp → Prop

def Hp.le (a b : Hp) : Prop := ∀ n x, a n = some x → b n = some x
def Hp.disj (a b : Hp) : Prop := ∀ n x y, a n = some x → b n = some y → False
def Hp.join (a b : Hp) : Hp := fun n => match a n with
  | some x => some x
  | none => b n

theorem Hp.le_refl (a : Hp) : a.le a := fun _ _ h => h
theorem Hp.le_trans {a b c : Hp} (h : a.le b) (g : b.le c) : a.le c := fun n x e => g n x (h n x e)
theorem Hp.join_left (a b : Hp) : a.le (a.join b) := fun n x e => by simp [Hp.join, e]
theorem Hp.join_right {a b : Hp} (h : a.disj b) : b.le (a.join b) := fun n x e => by
  unfold Hp.join
  cases ha : a n with
  | none => exact e
  | some y => exact (h n y x ha e).elim
theorem Hp.join_le {a b c : Hp} (h : a.le c) (g : b.le c) : (a.join b).le c := fun n x e => by
  unfold Hp.join at e
  cases ha : a n with
  | none => rw [ha] at e; exact g n x e
  | some y => rw [ha] at e; exact h n x (ha.trans e)
theorem Hp.join_disj {a b c : Hp} (h : a.disj c) (g : b.disj c) : (a.join b).disj c := fun n x y e f => by
  unfold Hp.join at e
  cases ha : a n with
  | none => rw [ha] at e; exact g n x y e f
  | some z => exact h n z y ha f
theorem Hp.disj_symm {a b : Hp} (h : a.disj b) : b.disj a := fun n x y e f => h n y x f e
theorem Hp.disj_le {a b c : Hp} (h : a.disj b) (g : c.le b) : a.disj c := fun n x y e f => h n x y e (g n y f)

def star (A B : HPred) : HPred := fun h => ∃ a b, Hp.le a h ∧ Hp.le b h ∧ Hp.disj a b ∧ A a ∧ B b

def sep : List HPred → HPred
  | [] => fun _ => True
  | A :: Ls => star A (sep Ls)

theorem star_up {A B : HPred} {h g : Hp} (e : star A B h) (l : h.le g) : star A B g :=
  let ⟨a, b, h1, h2, h3, h4, h5⟩ := e; ⟨a, b, Hp.le_trans h1 l, Hp.le_trans h2 l, h3, h4, h5⟩
theorem sep_up : ∀ {Ls : List HPred} {h g : Hp}, sep Ls h → h.le g → sep Ls g
  | [], _, _, _, _ => trivial
  | _ :: _, _, _, e, l => star_up e l
theorem star_mono {A B B' : HPred} (hB : ∀ h, B h → B' h) {h : Hp} (e : star A B h) : star A B' h :=
  let ⟨a, b, h1, h2, h3, h4, h5⟩ := e; ⟨a, b, h1, h2, h3, h4, hB _ h5⟩
theorem star_left {A B C : HPred} {h : Hp} (e : star A (star B C) h) : star B (star A C) h := by
  obtain ⟨a, x, h1, h2, h3, h4, b, c, g1, g2, g3, g4, g5⟩ := e
  have ac : a.disj c := Hp.disj_le h3 g2
  have ab : a.disj b := Hp.disj_le h3 g1
  exact ⟨b, a.join c, Hp.le_trans g1 h2, Hp.join_le h1 (Hp.le_trans g2 h2), Hp.disj_symm (Hp.join_disj ab (Hp.disj_symm g3)), g4, a, c, Hp.join_left a c, Hp.join_right ac, ac, h4, g5⟩
theorem sep_swap {A B : HPred} {Ls : List HPred} {h : Hp} (e : sep (A :: B :: Ls) h) : sep (B :: A :: Ls) h := star_left e
theorem sep_tail {A : HPred} {Ls : List HPred} {h : Hp} (e : sep (A :: Ls) h) : sep Ls h :=
  let ⟨_, _, _, h2, _, _, h5⟩ := e; sep_up h5 h2
theorem sep_cons {A : HPred} {Ls Ls' : List HPred} (g : ∀ h, sep Ls h → sep Ls' h) {h : Hp} (e : sep (A :: Ls) h) : sep (A :: Ls') h := star_mono g e

/-! ### finding a thing -/
class TakeI (Ls : List HPred) (A : HPred) (rest : outParam (List HPred)) : Prop where
  ok : ∀ h, sep Ls h → sep (A :: rest) h
instance TakeI.tail {B A : HPred} {Ls rest : List HPred} [t : TakeI Ls A rest] : TakeI (B :: Ls) A (B :: rest) := ⟨fun h e => sep_swap (sep_cons t.ok e)⟩
instance TakeI.head {A : HPred} {Ls : List HPred} : TakeI (A :: Ls) A Ls := ⟨fun _ e => e⟩

class TakeL (Ls As : List HPred) (rest : outParam (List HPred)) : Prop where
  ok : ∀ h, sep Ls h → sep (As ++ rest) h
instance TakeL.nil {Ls : List HPred} : TakeL Ls [] Ls := ⟨fun _ e => e⟩
instance TakeL.cons {Ls As r1 r2 : List HPred} {A : HPred} [t : TakeI Ls A r1] [u : TakeL r1 As r2] : TakeL Ls (A :: As) r2 := ⟨fun h e => sep_cons u.ok (t.ok h e)⟩

/-- a block -/
def pt (b : Nat) (x : Option Blk) : HPred := fun h => h = fun n => if n = b then some x else none
/-- names that are kept free -/
def free (lo hi : Nat) : HPred := fun h => h = fun n => if lo ≤ n ∧ n < hi then some none else none

class TakeB (Ls : List HPred) (b : Nat) (x : outParam (Option Blk)) (rest : outParam (List HPred)) : Prop where
  ok : ∀ h, sep Ls h → sep (pt b x :: rest) h
instance TakeB.tail {B : HPred} {Ls rest : List HPred} {b : Nat} {x : Option Blk} [t : TakeB Ls b x rest] : TakeB (B :: Ls) b x (B :: rest) := ⟨fun h e => sep_swap (sep_cons t.ok e)⟩
instance TakeB.head {b : Nat} {x : Option Blk} {Ls : List HPred} : TakeB (pt b x :: Ls) b x Ls := ⟨fun _ e => e⟩

class TakeF (Ls : List HPred) (lo hi : outParam Nat) (rest : outParam (List HPred)) : Prop where
  ok : ∀ h, sep Ls h → sep (free lo hi :: rest) h
instance TakeF.tail {B : HPred} {Ls rest : List HPred} {lo hi : Nat} [t : TakeF Ls lo hi rest] : TakeF (B :: Ls) lo hi (B :: rest) := ⟨fun h e => sep_swap (sep_cons t.ok e)⟩
instance TakeF.head {lo hi : Nat} {Ls : List HPred} : TakeF (free lo hi :: Ls) lo hi Ls := ⟨fun _ e => e⟩

/-- the names that were kept free are let go -/
class NoFree (Ls : List HPred) (Ls' : outParam (List HPred)) : Prop where
  ok : ∀ h, sep Ls h → sep Ls' h
instance (priority := low) NoFree.any {Ls : List HPred} : NoFree Ls Ls := ⟨fun _ e => e⟩
instance NoFree.keep {A : HPred} {Ls Ls' : List HPred} [t : NoFree Ls Ls'] : NoFree (A :: Ls) (A :: Ls') := ⟨fun _ e => sep_cons t.ok e⟩
instance NoFree.drop {lo hi : Nat} {Ls Ls' : List HPred} [t : NoFree Ls Ls'] : NoFree (free lo hi :: Ls) Ls' := ⟨fun _ e => t.ok _ (sep_tail e)⟩

/-! ### a heap that has the parts -/
structure Sat (Ls : List HPred) (H : AH) : Prop where
  parts : ∃ h, sep Ls h ∧ ∀ n x, h n = some x → H.get n = x ∧ n < H.next
  wf : ∀ n, H.next ≤ n → H.get n = none

namespace Sat
variable {Ls Ls' rest : List HPred} {H : AH} {b : Nat} {x : Option Blk}

theorem ent (s : Sat Ls H) (g : ∀ h, sep Ls h → sep Ls' h) : Sat Ls' H := ⟨let ⟨h, h1, h2⟩ := s.parts; ⟨h, g h h1, h2⟩, s.wf⟩
theorem tail {A : HPred} (s : Sat (A :: Ls) H) : Sat Ls H := s.ent fun _ => sep_tail
theorem takeB (s : Sat Ls H) [t : TakeB Ls b x rest] : Sat (pt b x :: rest) H := s.ent t.ok
theorem takeI {A : HPred} (s : Sat Ls H) [t : TakeI Ls A rest] : Sat (A :: rest) H := s.ent t.ok
theorem takeL {As : List HPred} (s : Sat Ls H) [t : TakeL Ls As rest] : Sat (As ++ rest) H := s.ent t.ok
theorem takeF {lo hi : Nat} (s : Sat Ls H) [t : TakeF Ls lo hi rest] : Sat (free lo hi :: rest) H := s.ent t.ok
theorem noFree (s : Sat Ls H) [t : NoFree Ls Ls'] : Sat Ls' H := s.ent t.ok

theorem get_pt (s : Sat (pt b x :: Ls) H) : H.get b = x ∧ b < H.next := by
  obtain ⟨h, ⟨a, c, h1, h2, h3, h4, h5⟩, hh⟩ := s.parts
  refine hh b x (h1 b x ?_)
  rw [h4]; simp

theorem set_pt (s : Sat (pt b x :: Ls) H) (y : Option Blk) : Sat (pt b y :: Ls) (H.set b y) := by
  have hb := s.get_pt.2
  obtain ⟨h, ⟨a, c, h1, h2, h3, h4, h5⟩, hh⟩ := s.parts
  have hcb : c b = none := by
    cases hc : c b with
    | none => rfl
    | some z => exact (h3 b x z (by rw [h4]; simp) hc).elim
  refine ⟨⟨Hp.join (fun n => if n = b then some y else none) c, ⟨_, c, Hp.join_left _ _, Hp.join_right ?_, ?_, rfl, h5⟩, ?_⟩, fun n hn => ?_⟩
  · intro n u v hu hv
    by_cases e : n = b
    · subst e; rw [hcb] at hv; cases hv
    · simp [e] at hu
  · intro n u v hu hv
    by_cases e : n = b
    · subst e; rw [hcb] at hv; cases hv
    · simp [e] at hu
  · intro n u hu
    by_cases e : n = b
    · subst e
      simp only [Hp.join, if_true, Option.some.injEq] at hu
      subst hu
      exact ⟨AH.get_set_same _ _ _, hb⟩
    · simp only [Hp.join, e, if_false] at hu
      rw [AH.get_set_other _ _ e]
      exact hh n u (h2 n u hu)
  · rw [AH.next_set] at hn
    rw [AH.get_set_other _ _ (by omega)]
    exact s.wf n hn

theorem region (s : Sat Ls H) (k : Nat) : Sat (free H.next (H.next + k) :: Ls) ⟨H.next + k, H.blk⟩ := by
  obtain ⟨h, h1, hh⟩ := s.parts
  have hlt : ∀ n x, h n = some x → n < H.next := fun n x e => (hh n x e).2
  refine ⟨⟨Hp.join (fun n => if H.next ≤ n ∧ n < H.next + k then some none else none) h, ⟨_, h, Hp.join_left _ _, Hp.join_right ?_, ?_, rfl, h1⟩, ?_⟩, fun n hn => s.wf n (by simp only at hn; omega)⟩
  · intro n u v hu hv
    have := hlt n v hv
    dsimp only at hu
    rw [if_neg (by omega)] at hu
    cases hu
  · intro n u v hu hv
    have := hlt n v hv
    dsimp only at hu
    rw [if_neg (by omega)] at hu
    cases hu
  · intro n u hu
    unfold Hp.join at hu
    by_cases e : H.next ≤ n ∧ n < H.next + k
    · simp only [e, and_self, if_true, Option.some.injEq] at hu
      subst hu
      exact ⟨s.wf n e.1, e.2⟩
    · simp only [e, if_false] at hu
      have := hh n u hu
      exact ⟨this.1, by simp only; omega⟩

theorem get_free {lo hi nm : Nat} (s : Sat (free lo hi :: Ls) H) (h1 : lo ≤ nm) (h2 : nm < hi) : H.get nm = none ∧ nm < H.next := by
  obtain ⟨h, ⟨a, c, g1, g2, g3, g4, g5⟩, hh⟩ := s.parts
  refine hh nm none (g1 nm none ?_)
  rw [g4]; simp [h1, h2]

theorem alloc {lo hi nm : Nat} (s : Sat (free lo hi :: Ls) H) (h1 : lo ≤ nm) (h2 : nm < hi) (y : Option Blk) : Sat (pt nm y :: free (nm + 1) hi :: Ls) (H.set nm y) := by
  have s' : Sat (pt nm none :: free (nm + 1) hi :: Ls) H := by
    refine s.ent fun h e => ?_
    obtain ⟨a, c, g1, g2, g3, g4, g5⟩ := e
    have ha : ∀ n, a n = if lo ≤ n ∧ n < hi then some none else none := fun n => by rw [g4]
    have l1 : Hp.le (fun n => if n = nm then some none else none) a := fun n x e => by
      by_cases hn : n = nm
      · subst hn; rw [ha]; simpa [h1, h2] using e
      · simp [hn] at e
    have l2 : Hp.le (fun n => if nm + 1 ≤ n ∧ n < hi then some none else none) a := fun n x e => by
      dsimp only at e
      by_cases hn : nm + 1 ≤ n ∧ n < hi
      · rw [if_pos hn] at e; rw [ha, if_pos (by omega)]; exact e
      · rw [if_neg hn] at e; cases e
    have dj : Hp.disj (fun n => if nm + 1 ≤ n ∧ n < hi then some none else none) c := fun n x y e f => g3 n x y (l2 n x e) f
    refine ⟨_, Hp.join (fun n => if nm + 1 ≤ n ∧ n < hi then some none else none) c, Hp.le_trans l1 g1, Hp.join_le (Hp.le_trans l2 g1) g2, ?_, rfl, _, c, Hp.join_left _ _, Hp.join_right dj, dj, rfl, g5⟩
    refine Hp.disj_symm (Hp.join_disj ?_ (Hp.disj_symm fun n x y e f => g3 n x y (l1 n x e) f))
    intro n x y e f
    dsimp only at e f
    by_cases hn : n = nm
    · subst hn; rw [if_neg (by omega)] at e; cases e
    · simp [hn] at f
  exact s'.set_pt y

end Sat

section
variable (P : Program) (pr : CallA) (w0 : World)

/-- what a function does to what it owns: from A to one of Post -/
def Spec (f : FuncId) (args : List Value) (A : List HPred) (Post : Value → List HPred → Prop) : Prop :=
  ∀ R H, Sat (A ++ R) H → CallW P pr w0 f args H fun v H' => ∃ B, Post v B ∧ Sat (B ++ R) H'
end

theorem Spec.intro {P : Program} {pr : CallA} {w0 : World} {f : FuncId} {args : List Value} {A : List HPred} {Post : Value → List HPred → Prop}
    (h : ∀ (R : List HPred) (k : Value → AH → Prop) (H : AH), (∀ v B H', Post v B → Sat (B ++ R) H' → k v H') → Sat (A ++ R) H → CallW P pr w0 f args H k) : Spec P pr w0 f args A Post :=
  fun R H s => h R _ H (fun v B H' hp hs => ⟨B, hp, hs⟩) s

theorem Spec.call {P : Program} {pr : CallA} {w0 : World} {f : FuncId} {args : List Value} {A : List HPred} {Post : Value → List HPred → Prop} (h : Spec P pr w0 f args A Post) {Ls rest : List HPred} {H : AH} (s : Sat Ls H) [t : TakeL Ls A rest]
    {k : Value → AH → Prop} (hk : ∀ v B H', Post v B → Sat (B ++ rest) H' → k v H') : CallW P pr w0 f args H k := by
  obtain ⟨v, H', hr, B, hp, hs⟩ := h rest H s.takeL
  exact ⟨v, H', hr, hk v B H' hp hs⟩

end Go.Sim
