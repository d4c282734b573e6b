/-
  What an abstract heap says of a world, and what stays from one to the next.
-/
import Derived.Test.YtlacidogpdbpgaaGreatSimB
import Derived.Laws.Sem
import Derived.Laws.World
import Derived.Laws.Cells
namespace Go.Sim
open Go
set_option linter.unusedSimpArgs false
set_option linter.unusedVariables false

theorem nbeq {a b : Nat} (h : a ≠ b) : Nat.beq a b = false := Bool.eq_false_iff.2 fun e => h (Nat.eq_of_beq_eq_true e)

namespace Trie
variable {α : Type}
theorem get_leaf (n : Nat) : (Trie.leaf : Trie α).get n = none := rfl
theorem get_node (l r : Trie α) (v : Option α) (n : Nat) : (Trie.node l v r).get n = if n = 0 then v else if n % 2 = 1 then l.get (n / 2) else r.get (n / 2 - 1) := by
  simp only [get]
  by_cases h : n = 0
  · simp [h]
  · rw [nbeq h]
    by_cases h2 : n % 2 = 1
    · simp [h, h2]
    · rw [nbeq h2]; simp [h, h2]

theorem get_single (v : Option α) : ∀ (f n m : Nat), n ≤ f → (single v f n).get m = if m = n then v else none := by
  intro f
  induction f with
  | zero =>
    intro n m h
    have : n = 0 := by omega
    subst this
    simp only [single, get_node, get_leaf]
    split <;> simp
  | succ f ih =>
    intro n m h
    simp only [single]
    by_cases h0 : n = 0
    · simp only [h0, Nat.beq_refl, cond_true, get_node, get_leaf]
      split <;> simp
    · have e0 : Nat.beq n 0 = false := nbeq h0
      rw [e0]
      by_cases h1 : n % 2 = 1
      · simp only [h1, Nat.beq_refl, cond_true, cond_false, get_node, get_leaf]
        by_cases hm : m = 0
        · rw [if_pos hm, if_neg (by omega)]
        · rw [if_neg hm]
          by_cases hm1 : m % 2 = 1
          · rw [if_pos hm1, ih _ _ (by omega)]
            by_cases e : m = n
            · rw [if_pos (by omega), if_pos e]
            · rw [if_neg (by omega), if_neg e]
          · rw [if_neg hm1, if_neg (by omega)]
      · have e1 : Nat.beq (n % 2) 1 = false := nbeq h1
        rw [e1]
        simp only [cond_false, get_node, get_leaf]
        by_cases hm : m = 0
        · rw [if_pos hm, if_neg (by omega)]
        · rw [if_neg hm]
          by_cases hm1 : m % 2 = 1
          · rw [if_pos hm1, if_neg (by omega)]
          · rw [if_neg hm1, ih _ _ (by omega)]
            by_cases e : m = n
            · rw [if_pos (by omega), if_pos e]
            · rw [if_neg (by omega), if_neg e]

theorem get_set (v : Option α) : ∀ (t : Trie α) (n m : Nat), (t.set v n).get m = if m = n then v else t.get m := by
  intro t
  induction t with
  | leaf => intro n m; simp only [set, get_single v n n m (Nat.le_refl _), get_leaf]
  | node l u r ihl ihr =>
    intro n m
    simp only [set]
    by_cases h0 : n = 0
    · simp only [h0, Nat.beq_refl, cond_true, get_node]
      by_cases hm : m = 0 <;> simp [hm]
    · have e0 : Nat.beq n 0 = false := nbeq h0
      rw [e0]
      by_cases h1 : n % 2 = 1
      · simp only [h1, Nat.beq_refl, cond_true, cond_false, get_node]
        by_cases hm : m = 0
        · rw [if_pos hm, if_pos hm, if_neg (by omega)]
        · rw [if_neg hm, if_neg hm]
          by_cases hm1 : m % 2 = 1
          · rw [if_pos hm1, if_pos hm1, ihl]
            by_cases e : m = n
            · rw [if_pos (by omega), if_pos e]
            · rw [if_neg (by omega), if_neg e]
          · rw [if_neg hm1, if_neg hm1, if_neg (by omega)]
      · have e1 : Nat.beq (n % 2) 1 = false := nbeq h1
        rw [e1]
        simp only [cond_false, get_node]
        by_cases hm : m = 0
        · rw [if_pos hm, if_pos hm, if_neg (by omega)]
        · rw [if_neg hm, if_neg hm]
          by_cases hm1 : m % 2 = 1
          · rw [if_pos hm1, if_pos hm1, if_neg (by omega)]
          · rw [if_neg hm1, if_neg hm1, ihr]
            by_cases e : m = n
            · rw [if_pos (by omega), if_pos e]
            · rw [if_neg (by omega), if_neg e]
end Trie

theorem AH.get_set (H : AH) (b c : Nat) (x : Option Blk) : (H.set b x).get c = if c = b then x else H.get c := Trie.get_set x H.blk b c
theorem AH.get_set_same (H : AH) (b : Nat) (x : Option Blk) : (H.set b x).get b = x := by simp [AH.get_set]
theorem AH.get_set_other (H : AH) {b c : Nat} (x : Option Blk) (h : c ≠ b) : (H.set b x).get c = H.get c := by simp [AH.get_set, h]
theorem AH.next_set (H : AH) (b : Nat) (x : Option Blk) : (H.set b x).next = H.next := rfl

/-- where a named block lies: the block, the place of its first cell, how many cells lie there in all, how many an element has -/
structure Info where
  blk : Nat
  sh : Nat
  top : Nat
  esz : Nat

abbrev Ren := Nat → Option Info

inductive VRel (φ : Ren) : Value → Value → Prop
  | bool (b : Bool) : VRel φ (.bool b) (.bool b)
  | int (k : IntKind) (n : Int) : VRel φ (.int k n) (.int k n)
  | string (s : ByteArray) : VRel φ (.string s) (.string s)
  | ptrNil : VRel φ (.pointer none) (.pointer none)
  | ptrOld (b off : Nat) : VRel φ (.pointer (some ⟨b, off, none⟩)) (.pointer (some ⟨b, off, none⟩))
  | ptrNew {b : Nat} {i : Info} (off s : Nat) (h : φ b = some i) : VRel φ (.pointer (some ⟨b, off, some s⟩)) (.pointer (some ⟨i.blk, off + i.sh, none⟩))
  | sliceNil : VRel φ (.slice none 0 0) (.slice none 0 0)
  | sliceOld (b off len cap : Nat) (h : len ≤ cap) : VRel φ (.slice (some ⟨b, off, none⟩) len cap) (.slice (some ⟨b, off, none⟩) len cap)
  | sliceNew {b : Nat} {i : Info} (off s len cap cap' : Nat) (h : φ b = some i) (h1 : len ≤ cap')
      (h2 : (cap ≠ capU ∧ cap' = cap) ∨ (cap = capU ∧ off + i.sh + cap' * i.esz ≤ i.top)) :
      VRel φ (.slice (some ⟨b, off, some s⟩) len cap) (.slice (some ⟨i.blk, off + i.sh, none⟩) len cap')
  | slice0 (b off s cap : Nat) (a' : Addr) (h : cap = capU ∨ cap = 0) : VRel φ (.slice (some ⟨b, off, some s⟩) 0 cap) (.slice (some a') 0 0)
  | mapNil : VRel φ (.map none) (.map none)
  | mapNew {r : Nat} {i : Info} (h : φ r = some i) : VRel φ (.map (some r)) (.map (some i.blk))
  | nilFunc : VRel φ .nilFunc .nilFunc
  | func (f : FuncId) (a b c d : List Value) (h1 : a.length = c.length) (h2 : b.length = d.length)
      (h3 : ∀ (i : Nat) (x y : Value), a[i]? = some x → c[i]? = some y → VRel φ x y)
      (h4 : ∀ (i : Nat) (x y : Value), b[i]? = some x → d[i]? = some y → VRel φ x y) : VRel φ (.func (.func f) ⟨a⟩ ⟨b⟩) (.func (.func f) ⟨c⟩ ⟨d⟩)
  | nilIface : VRel φ .nilIface .nilIface
  | iface (t : TypeId) {v v' : Value} (h : VRel φ v v') : VRel φ (.iface t v) (.iface t v')
  | agg (a b : List Value) (h1 : a.length = b.length) (h2 : ∀ (i : Nat) (x y : Value), a[i]? = some x → b[i]? = some y → VRel φ x y) : VRel φ (.agg ⟨a⟩) (.agg ⟨b⟩)
  | tuple (a b : List Value) (h1 : a.length = b.length) (h2 : ∀ (i : Nat) (x y : Value), a[i]? = some x → b[i]? = some y → VRel φ x y) : VRel φ (.tuple ⟨a⟩) (.tuple ⟨b⟩)

def VRels (φ : Ren) (a b : List Value) : Prop := a.length = b.length ∧ ∀ (i : Nat) (x y : Value), a[i]? = some x → b[i]? = some y → VRel φ x y

def Ren.le (φ ψ : Ren) : Prop := ∀ b i, φ b = some i → ψ b = some i

theorem VRel.mono {φ ψ : Ren} (h : φ.le ψ) {v v' : Value} (r : VRel φ v v') : VRel ψ v v' := by
  induction r with
  | bool b => exact .bool b
  | int k n => exact .int k n
  | string s => exact .string s
  | ptrNil => exact .ptrNil
  | ptrOld b off => exact .ptrOld b off
  | ptrNew off s hh => exact .ptrNew off s (h _ _ hh)
  | sliceNil => exact .sliceNil
  | sliceOld b off len cap h => exact .sliceOld b off len cap h
  | sliceNew off s len cap cap' hh h1 h2 => exact .sliceNew off s len cap cap' (h _ _ hh) h1 h2
  | slice0 b off s c a' h => exact .slice0 b off s c a' h
  | mapNil => exact .mapNil
  | mapNew hh => exact .mapNew (h _ _ hh)
  | nilFunc => exact .nilFunc
  | func f a b c d h1 h2 _ _ i3 i4 => exact .func f a b c d h1 h2 i3 i4
  | nilIface => exact .nilIface
  | iface t _ ih => exact .iface t ih
  | agg a b h1 _ ih => exact .agg a b h1 ih
  | tuple a b h1 _ ih => exact .tuple a b h1 ih

namespace VRels
variable {φ : Ren}
theorem nil : VRels φ [] [] := ⟨rfl, fun i x y h => by simp at h⟩
theorem cons {v v' : Value} {a b : List Value} (h : VRel φ v v') (t : VRels φ a b) : VRels φ (v :: a) (v' :: b) :=
  ⟨by simp [t.1], fun i x y hx hy => by
    cases i with
    | zero => simp at hx hy; subst hx; subst hy; exact h
    | succ i => simp at hx hy; exact t.2 i x y hx hy⟩
theorem head {v v' : Value} {a b : List Value} (h : VRels φ (v :: a) (v' :: b)) : VRel φ v v' := h.2 0 _ _ rfl rfl
theorem tail {v v' : Value} {a b : List Value} (h : VRels φ (v :: a) (v' :: b)) : VRels φ a b :=
  ⟨by simpa using h.1, fun i x y hx hy => h.2 (i + 1) x y (by simpa using hx) (by simpa using hy)⟩
theorem mono {ψ : Ren} (h : φ.le ψ) {a b : List Value} (r : VRels φ a b) : VRels ψ a b := ⟨r.1, fun i x y hx hy => (r.2 i x y hx hy).mono h⟩
theorem get {a b : List Value} (h : VRels φ a b) {i : Nat} {x : Value} (hx : a[i]? = some x) : ∃ y, b[i]? = some y ∧ VRel φ x y := by
  have hi : i < a.length := by
    rcases Nat.lt_or_ge i a.length with h | h
    · exact h
    · simp [List.getElem?_eq_none h] at hx
  have hy : b[i]? = some (b[i]'(h.1 ▸ hi)) := List.getElem?_eq_getElem _
  exact ⟨_, hy, h.2 i _ _ hx hy⟩
theorem inv_nil {b : List Value} (h : VRels φ [] b) : b = [] := by
  cases b with
  | nil => rfl
  | cons v b => have := h.1; simp at this
theorem inv_cons {v : Value} {a b : List Value} (h : VRels φ (v :: a) b) : ∃ v' b', b = v' :: b' ∧ VRel φ v v' ∧ VRels φ a b' := by
  cases b with
  | nil => have := h.1; simp at this
  | cons v' b' => exact ⟨v', b', rfl, h.head, h.tail⟩
theorem append {a b c d : List Value} (h : VRels φ a b) (k : VRels φ c d) : VRels φ (a ++ c) (b ++ d) := by
  induction a generalizing b with
  | nil => have := h.inv_nil; subst this; simpa using k
  | cons v a ih => obtain ⟨v', b', rfl, h1, h2⟩ := h.inv_cons; exact cons h1 (ih h2)
theorem drop {a b : List Value} (h : VRels φ a b) (n : Nat) : VRels φ (a.drop n) (b.drop n) :=
  ⟨by simp [h.1], fun i x y hx hy => h.2 (n + i) x y (by simpa using hx) (by simpa using hy)⟩
theorem take {a b : List Value} (h : VRels φ a b) (n : Nat) : VRels φ (a.take n) (b.take n) :=
  ⟨by simp [h.1], fun i x y hx hy => by
    rw [List.getElem?_take] at hx hy
    split at hx
    · rename_i hi; rw [if_pos hi] at hy; exact h.2 i x y hx hy
    · simp at hx⟩
theorem map {α : Type} {f g : α → Value} (l : List α) (h : ∀ x ∈ l, VRel φ (f x) (g x)) : VRels φ (l.map f) (l.map g) := by
  induction l with
  | nil => exact nil
  | cons x l ih => exact cons (h x (by simp)) (ih fun y hy => h y (by simp [hy]))
end VRels

theorem VRel.agg' {φ : Ren} {a b : List Value} (h : VRels φ a b) : VRel φ (.agg ⟨a⟩) (.agg ⟨b⟩) := .agg a b h.1 h.2
theorem VRel.tuple' {φ : Ren} {a b : List Value} (h : VRels φ a b) : VRel φ (.tuple ⟨a⟩) (.tuple ⟨b⟩) := .tuple a b h.1 h.2
theorem VRel.func' {φ : Ren} (f : FuncId) {a b c d : List Value} (h : VRels φ a c) (k : VRels φ b d) : VRel φ (.func (.func f) ⟨a⟩ ⟨b⟩) (.func (.func f) ⟨c⟩ ⟨d⟩) := .func f a b c d h.1 k.1 h.2 k.2

theorem VRel.inv_agg {φ : Ren} {a : List Value} {v : Value} (h : VRel φ (.agg ⟨a⟩) v) : ∃ b, v = .agg ⟨b⟩ ∧ VRels φ a b := by
  cases h with
  | agg _ b h1 h2 => exact ⟨b, rfl, h1, h2⟩
theorem VRel.inv_tuple {φ : Ren} {a : List Value} {v : Value} (h : VRel φ (.tuple ⟨a⟩) v) : ∃ b, v = .tuple ⟨b⟩ ∧ VRels φ a b := by
  cases h with
  | tuple _ b h1 h2 => exact ⟨b, rfl, h1, h2⟩
theorem VRel.inv_func {φ : Ren} {f : FuncId} {a b : List Value} {v : Value} (h : VRel φ (.func (.func f) ⟨a⟩ ⟨b⟩) v) : ∃ c d, v = .func (.func f) ⟨c⟩ ⟨d⟩ ∧ VRels φ a c ∧ VRels φ b d := by
  cases h with
  | func _ _ _ c d h1 h2 h3 h4 => exact ⟨c, d, rfl, ⟨h1, h3⟩, ⟨h2, h4⟩⟩

theorem VRel.undef (φ : Ren) : VRel φ Go.undef Go.undef := .tuple' VRels.nil

mutual
theorem ground_rel (φ : Ren) : ∀ v : Value, ground v = true → VRel φ v v
  | .bool b, _ => .bool b
  | .int k n, _ => .int k n
  | .string s, _ => .string s
  | .pointer none, _ => .ptrNil
  | .map none, _ => .mapNil
  | .nilFunc, _ => .nilFunc
  | .nilIface, _ => .nilIface
  | .slice none l c, h => by
    have h : Nat.beq l 0 = true ∧ Nat.beq c 0 = true := by simpa [ground] using h
    obtain rfl := Nat.eq_of_beq_eq_true h.1
    obtain rfl := Nat.eq_of_beq_eq_true h.2
    exact .sliceNil
  | .agg ⟨cs⟩, h => .agg' (groundL_rel φ cs (by simpa [ground, groundA] using h))
  | .tuple ⟨cs⟩, h => .tuple' (groundL_rel φ cs (by simpa [ground, groundA] using h))
  | .iface t v, h => .iface t (ground_rel φ v (by simpa [ground] using h))
  | .float _ _, h | .complex _ _ _, h | .pointer (some _), h | .slice (some _) _ _, h | .map (some _), h | .chan _, h | .func _ _ _, h => by simp [ground] at h
theorem groundL_rel (φ : Ren) : ∀ cs : List Value, groundL cs = true → VRels φ cs cs
  | [], _ => .nil
  | v :: vs, h => by
    have h : ground v = true ∧ groundL vs = true := by simpa [groundL] using h
    exact .cons (ground_rel φ v h.1) (groundL_rel φ vs h.2)
end

mutual
theorem ground_eq (φ : Ren) : ∀ (v v' : Value), ground v = true → VRel φ v v' → v' = v
  | .bool b, _, _, h => by cases h; rfl
  | .int k n, _, _, h => by cases h; rfl
  | .string s, _, _, h => by cases h; rfl
  | .pointer none, _, _, h => by cases h; rfl
  | .map none, _, _, h => by cases h; rfl
  | .nilFunc, _, _, h => by cases h; rfl
  | .nilIface, _, _, h => by cases h; rfl
  | .slice none l c, _, _, h => by cases h; rfl
  | .agg ⟨cs⟩, v', g, h => by
    obtain ⟨b, rfl, hr⟩ := h.inv_agg
    rw [groundL_eq φ cs b (by simpa [ground, groundA] using g) hr]
  | .tuple ⟨cs⟩, v', g, h => by
    obtain ⟨b, rfl, hr⟩ := h.inv_tuple
    rw [groundL_eq φ cs b (by simpa [ground, groundA] using g) hr]
  | .iface t v, v', g, h => by
    cases h with
    | iface _ h => rw [ground_eq φ v _ (by simpa [ground] using g) h]
  | .float _ _, _, h, _ | .complex _ _ _, _, h, _ | .pointer (some _), _, h, _ | .slice (some _) _ _, _, h, _ | .map (some _), _, h, _ | .chan _, _, h, _ | .func _ _ _, _, h, _ => by simp [ground] at h
theorem groundL_eq (φ : Ren) : ∀ (a b : List Value), groundL a = true → VRels φ a b → b = a
  | [], b, _, h => h.inv_nil
  | v :: vs, b, g, h => by
    have g : ground v = true ∧ groundL vs = true := by simpa [groundL] using g
    obtain ⟨v', b', rfl, h1, h2⟩ := h.inv_cons
    rw [ground_eq φ v v' g.1 h1, groundL_eq φ vs b' g.2 h2]
end

theorem plainCell_rel (φ : Ren) : ∀ v : Value, plainCell v = true → VRel φ v v
  | .bool b, _ => .bool b
  | .int k n, _ => .int k n
  | .string s, _ => .string s
  | .pointer none, _ => .ptrNil
  | .pointer (some ⟨b, off, none⟩), _ => .ptrOld b off
  | .map none, _ => .mapNil
  | .nilFunc, _ => .nilFunc
  | .nilIface, _ => .nilIface
  | .slice none l c, h => by
    have h : Nat.beq l 0 = true ∧ Nat.beq c 0 = true := by simpa [plainCell] using h
    obtain rfl := Nat.eq_of_beq_eq_true h.1
    obtain rfl := Nat.eq_of_beq_eq_true h.2
    exact .sliceNil
  | .slice (some ⟨b, off, none⟩) l c, h => .sliceOld b off l c (Nat.le_of_ble_eq_true (by simpa [plainCell] using h))
  | .float _ _, h | .complex _ _ _, h | .pointer (some ⟨_, _, some _⟩), h | .slice (some ⟨_, _, some _⟩) _ _, h | .map (some _), h | .chan _, h | .func _ _ _, h | .iface _ _, h | .agg _, h | .tuple _, h => by simp [plainCell] at h

/-- an entry of a map, and what it is -/
def ERel (φ : Ren) (e e' : MapEntry) : Prop := ground e.key = true ∧ e'.key = e.key ∧ e'.born = e.born ∧ VRel φ e.val e'.val

def ERels (φ : Ren) (a b : List MapEntry) : Prop := a.length = b.length ∧ ∀ (i : Nat) (x y : MapEntry), a[i]? = some x → b[i]? = some y → ERel φ x y

/-- does a world hold a named block? -/
def Holds (P : Program) (φ : Ren) (w : World) (i : Info) : Blk → Prop
  | .row cs e => ∃ (cs' : List Value) (lo hi : Nat), w.heap[i.blk]? = some (.cells ⟨cs'⟩ e (lo, hi)) ∧ i.top = cs'.length ∧ i.sh + cs.length ≤ cs'.length ∧
      (∀ k v, cs[k]? = some v → ∃ v', cs'[i.sh + k]? = some v' ∧ VRel φ v v') ∧ (∀ k, k < cs'.length → ¬ (lo ≤ k ∧ k < hi)) ∧ sizeOf? P e = some i.esz
  | .map es clock => ∃ es' : List MapEntry, w.heap[i.blk]? = some (.map ⟨es'⟩ clock) ∧ ERels φ es es'

structure Emb (P : Program) (w0 : World) (φ : Ren) (H : AH) (w : World) : Prop where
  bound : ∀ b i, φ b = some i → b < H.next
  inj : ∀ b c i j, φ b = some i → φ c = some j → H.get b ≠ none → H.get c ≠ none → i.blk = j.blk → b = c
  base : ∀ b i, φ b = some i → H.get b ≠ none → w0.heap.size ≤ i.blk
  old : ∀ c, c < w0.heap.size → w.heap[c]? = w0.heap[c]?
  holds : ∀ b i x, φ b = some i → H.get b = some x → Holds P φ w i x

/-- what stays, from (φ, H, w) to (φ', H', w'); S: the names that may be new -/
structure Keeps (S : Nat → Prop) (φ : Ren) (H : AH) (w : World) (φ' : Ren) (H' : AH) (w' : World) : Prop where
  ext : φ.le φ'
  dom : ∀ b, φ b = none → φ' b ≠ none → S b
  next : H.next ≤ H'.next
  size : w.heap.size ≤ w'.heap.size
  out : ∀ c, c < w.heap.size → (∀ b i, φ b = some i → H.get b ≠ none → i.blk ≠ c) → w'.heap[c]? = w.heap[c]?
  img : ∀ b i, φ' b = some i → H'.get b ≠ none → (∃ b0 i0, φ b0 = some i0 ∧ H.get b0 ≠ none ∧ i0.blk = i.blk) ∨ w.heap.size ≤ i.blk
  tape : w'.tape = w.tape
  os : w'.os = w.os
  output : w'.output = w.output

theorem Ren.le_refl (φ : Ren) : φ.le φ := fun _ _ h => h
theorem Ren.le_trans {φ ψ χ : Ren} (h : φ.le ψ) (k : ψ.le χ) : φ.le χ := fun b i hb => k b i (h b i hb)

theorem Keeps.refl (S : Nat → Prop) (φ : Ren) (H : AH) (w : World) : Keeps S φ H w φ H w :=
  ⟨φ.le_refl, fun _ h h' => absurd h h', Nat.le_refl _, Nat.le_refl _, fun _ _ _ => rfl, fun b i h h' => .inl ⟨b, i, h, h', rfl⟩, rfl, rfl, rfl⟩

theorem Keeps.mono {S S' : Nat → Prop} (hS : ∀ b, S b → S' b) {φ : Ren} {H : AH} {w : World} {φ' : Ren} {H' : AH} {w' : World} (k : Keeps S φ H w φ' H' w') : Keeps S' φ H w φ' H' w' :=
  { k with dom := fun b h h' => hS b (k.dom b h h') }

theorem Keeps.trans {S : Nat → Prop} {φ φ' φ'' : Ren} {H H' H'' : AH} {w w' w'' : World} (k : Keeps S φ H w φ' H' w') (l : Keeps S φ' H' w' φ'' H'' w'') : Keeps S φ H w φ'' H'' w'' where
  ext := Ren.le_trans k.ext l.ext
  dom b h h' := by
    cases hb : φ' b with
    | none => exact l.dom b hb h'
    | some i => exact k.dom b h (by simp [hb])
  next := Nat.le_trans k.next l.next
  size := Nat.le_trans k.size l.size
  out c hc h := by
    rw [l.out c (Nat.lt_of_lt_of_le hc k.size), k.out c hc h]
    intro b i hb hg hcb
    rcases k.img b i hb hg with ⟨b0, i0, h0, h1, h2⟩ | hlt
    · exact h b0 i0 h0 h1 (by omega)
    · omega
  img b i hb hg := by
    rcases l.img b i hb hg with ⟨b0, i0, h0, h1, h2⟩ | hlt
    · rcases k.img b0 i0 h0 h1 with ⟨b1, i1, h3, h4, h5⟩ | hlt
      · exact .inl ⟨b1, i1, h3, h4, by omega⟩
      · exact .inr (by omega)
    · exact .inr (Nat.le_trans k.size hlt)
  tape := l.tape.trans k.tape
  os := l.os.trans k.os
  output := l.output.trans k.output

end Go.Sim
