/-
  Steps on slices that grow, texts and bytes.
-/
import Derived.Test.YtlacidogpdbpgaaGreatWS
namespace Go.Sim
open Go
set_option linter.unusedVariables false
set_option linter.unusedSimpArgs false
set_option maxRecDepth 100000

variable {w : World} {Ls rest rest2 rest3 : List HPred} {H : AH}

/-- what stands second is let go -/
theorem Sat.d1 {A B : HPred} (s : Sat (A :: B :: Ls) H) : Sat (A :: Ls) H := s.ent fun _ e => sep_cons (fun _ => sep_tail) e
/-- what stands third is let go -/
theorem Sat.d2 {A B C : HPred} (s : Sat (A :: B :: C :: Ls) H) : Sat (A :: B :: Ls) H := s.ent fun _ e => sep_cons (fun _ => sep_cons fun _ => sep_tail) e

theorem p_cvSB {lo hi nm e : Nat} {b : ByteArray} {k : Value × AH → Prop} (s : Sat Ls H) [t : TakeF Ls lo hi rest] (h1 : lo ≤ nm) (h2 : nm < hi)
    (hk : ∀ H', Sat (pt nm (some (.row (cellsOfBytes b) e)) :: free (nm + 1) hi :: rest) H' → k (.slice (some ⟨nm, 0, some 0⟩) b.size capU, H')) : opt (cvSB e nm (.string b) H) k :=
  hk _ ((s.takeF (t := t)).alloc h1 h2 _)

theorem bytes_cells : ∀ l : List UInt8, bytesOfCells (l.map fun b => Value.int .u8 b.toNat) = some l
  | [] => rfl
  | b :: l => by
    simp only [List.map_cons, bytesOfCells, bytes_cells l, Option.map_some, Option.some.injEq, List.cons.injEq, and_true]
    simp

theorem bytes_append : ∀ (a b : List Value) (x y : List UInt8), bytesOfCells a = some x → bytesOfCells b = some y → bytesOfCells (a ++ b) = some (x ++ y)
  | [], b, x, y, h, g => by
    cases h
    exact g
  | v :: a, b, x, y, h, g => by
    unfold bytesOfCells at h
    split at h
    · rename_i l heq; cases heq
    · rename_i n r heq
      cases heq
      simp only [Option.map_eq_some_iff] at h
      obtain ⟨x', hx, rfl⟩ := h
      simp only [List.cons_append, bytesOfCells, bytes_append _ b x' y hx g, Option.map_some]
    · cases h

theorem p_cvBS {b off n : Nat} {cs cells : List Value} {e : TypeId} {l : List UInt8} {k : Value × AH → Prop} {c : Nat} (s : Sat Ls H) [t : TakeB Ls b (some (.row cs e)) rest] (hc : takeExact n (cs.drop off) = some cells) (hb : bytesOfCells cells = some l)
    (hk : k (.string ⟨⟨l⟩⟩, H)) : opt (cvBS w (.slice (some ⟨b, off, some 0⟩) n c) H) k := by
  simp only [cvBS, rd_row (s.takeB (t := t)).get_pt.1, hc, Option.bind_some, hb, Option.map_some]
  exact hk

/-- append of what a row holds to a slice whose room is not known -/
theorem p_app {P : Program} {lo hi nm st xt e n len sz : Nat} {b off : Nat} {cs old new : List Value} {i : TypeInfo} {xd : TypeDesc} {x : Value} {k : Value × AH → Prop}
    (s : Sat Ls H) [t : TakeB Ls b (some (.row cs e)) rest] [u : TakeF rest lo hi rest2] (h1 : lo ≤ nm) (h2 : nm < hi)
    (hst : P.underlying st = some (.slice e)) (hi' : P.info? e = some i) (hxt : P.underlying xt = some xd) (ha : appendable xd = true) (hx : lenA x = some n) (hn : n ≠ 0)
    (hb1 : (len + n) * i.bytes ≤ roomMost) (hb2 : len + n ≤ 4611686018427387904) (hsz : i.size = sz) (hz : sz ≠ 0) (hzo : zeroOk P e = true)
    (hnew : newCells w H sz n x = some new) (hone : new.all oneCellB = true) (hold : takeExact (len * sz) (cs.drop off) = some old)
    (hk : ∀ H', Sat (pt nm (some (.row (old ++ new) e)) :: free (nm + 1) hi :: pt b none :: rest2) H' → k (.slice (some ⟨nm, 0, some 0⟩) (len + n) capU, H')) :
    opt (aAppend P w H nm #[st, xt] (.slice (some ⟨b, off, some 0⟩) len capU) x) k := by
  subst hsz
  have s1 := s.takeB (t := t)
  have hg := s1.get_pt.1
  have e1 : Nat.beq n 0 = false := nbeq hn
  have e2 : (Nat.ble ((len + n) * i.bytes) roomMost && Nat.ble (len + n) 4611686018427387904 && !(Nat.beq i.size 0) && zeroOk P e) = true := by
    rw [hzo, nbeq hz, Nat.ble_eq_true_of_le hb1, Nat.ble_eq_true_of_le hb2]; rfl
  have heq : aAppend P w H nm #[st, xt] (.slice (some ⟨b, off, some 0⟩) len capU) x = some (.slice (some ⟨nm, 0, some 0⟩) (len + n) capU, newRowA (H.set b none) nm (old ++ new) e) := by
    have a0 : (#[st, xt] : Array TypeId)[0]? = some st := rfl
    have a1 : ((#[st, xt] : Array TypeId)[1]?).bind P.underlying = some xd := hxt
    simp only [aAppend, a0, a1, hst, hi', hx, ha, cond_true, e1, cond_false, e2, hnew, hone, rd_row hg, hold, hg, Nat.beq_refl]
  rw [heq]
  have s2 : Sat (free lo hi :: pt b none :: rest2) (H.set b none) := (s1.set_pt none).ent fun h e => sep_swap (sep_cons u.ok e)
  exact hk _ (s2.alloc h1 h2 _)

/-- a slice type of the program: of which elements, how many cells and bytes each has -/
class SlT (st : TypeId) (e sz bytes : outParam Nat) : Prop where
  und : PG.underlying st = some (.slice e)
  info : (PG.info? e).map (fun i => (i.bytes, i.size)) = some (bytes, sz)
  zok : zeroOk PG e = true

theorem p_appS {lo hi nm st e n len sz bytes : Nat} {b off : Nat} {cs old new : List Value} {x : Value} {k : Value × AH → Prop} [T : SlT st e sz bytes]
    (s : Sat Ls H) [t : TakeB Ls b (some (.row cs e)) rest] [u : TakeF rest lo hi rest2] (h1 : lo ≤ nm) (h2 : nm < hi) (hx : lenA x = some n) (hn : n ≠ 0) (hsz : sz ≠ 0)
    (hb1 : (len + n) * bytes ≤ roomMost) (hb2 : len + n ≤ 4611686018427387904)
    (hnew : newCells w H sz n x = some new) (hone : new.all oneCellB = true) (hold : takeExact (len * sz) (cs.drop off) = some old)
    (hk : ∀ H', Sat (pt nm (some (.row (old ++ new) e)) :: free (nm + 1) hi :: pt b none :: rest2) H' → k (.slice (some ⟨nm, 0, some 0⟩) (len + n) capU, H')) :
    opt (aAppend PG w H nm #[st, st] (.slice (some ⟨b, off, some 0⟩) len capU) x) k := by
  have h := T.info
  simp only [Option.map_eq_some_iff, Prod.mk.injEq] at h
  obtain ⟨i, hi', rfl, rfl⟩ := h
  exact p_app s h1 h2 T.und hi' T.und rfl hx hn hb1 hb2 rfl hsz T.zok hnew hone hold hk

theorem overwrite_at : ∀ (pre : List Value) (c v : Value) (post : List Value), overwrite (pre ++ c :: post) pre.length [v] = some (pre ++ v :: post)
  | [], c, v, post => by
    cases post <;> rfl
  | p :: pre, c, v, post => by
    simp only [List.cons_append, List.length_cons, overwrite, overwrite_at pre c v post, Option.map_some]

theorem takeExact_all : ∀ l : List Value, takeExact l.length l = some l
  | [] => rfl
  | v :: l => by simp only [List.length_cons, takeExact, takeExact_all l, Option.map_some]
theorem takeExact_append : ∀ (l r : List Value), takeExact l.length (l ++ r) = some l
  | [], _ => by simp [takeExact]
  | v :: l, r => by simp only [List.length_cons, List.cons_append, takeExact, takeExact_append l r, Option.map_some]

end Go.Sim
