/-
  Conversions; each operation that is no call of a Go function.
-/
import Derived.Test.YtlacidogpdbpgaaGreatSimK
import Derived.Laws.BytesArg
namespace Go.Sim
open Go
set_option linter.unusedSimpArgs false
set_option linter.unusedVariables false

variable {P : Program} {w0 : World} {φ : Ren} {H : AH} {w : World}

theorem bytesOfCells_spec : ∀ {l : List Value} {bs : List UInt8}, bytesOfCells l = some bs → ∃ ns : List Int, l = ns.map (Value.int .u8) ∧ bs = ns.map fun n => UInt8.ofNat n.toNat
  | [], bs, h => by simp [bytesOfCells] at h; subst h; exact ⟨[], rfl, rfl⟩
  | v :: l, bs, h => by
    cases v with
    | int k n =>
      cases k <;> simp only [bytesOfCells, Option.map_eq_some_iff] at h <;> try (simp at h; done)
      obtain ⟨bs', h1, rfl⟩ := h
      obtain ⟨ns, rfl, rfl⟩ := bytesOfCells_spec h1
      exact ⟨n :: ns, rfl, rfl⟩
    | _ => simp [bytesOfCells] at h

theorem ints_rel : ∀ {ns : List Int} {l : List Value}, VRels φ (ns.map (Value.int .u8)) l → l = ns.map (Value.int .u8)
  | [], l, h => by simpa using h.inv_nil
  | n :: ns, l, h => by
    obtain ⟨v', b', rfl, h1, h2⟩ := h.inv_cons
    cases h1
    rw [ints_rel h2]
    rfl

theorem freeze_end (w : World) (cs : List Value) (e : TypeId) :
    (w.alloc (.cells ⟨cs⟩ e (0, 0))).freeze { block := w.heap.size, off := cs.length } 1 = w.alloc (.cells ⟨cs⟩ e (cs.length, cs.length + 1)) := by
  unfold World.freeze
  simp only [Nat.one_ne_zero, if_false]
  unfold World.alloc
  congr 1
  apply Array.ext_getElem?
  intro j
  simp only [Array.getElem?_modify, Array.getElem?_push]
  by_cases h : j = w.heap.size
  · subst h; simp
  · simp only [if_neg h, if_neg (Ne.symm h)]

def pad (s : ByteArray) (c : Nat) : List Value := cellsOfBytes s ++ List.replicate (c - s.size) (Value.int .u8 0)

theorem stringToBytes_run (e : TypeId) (s : ByteArray) : ∃ c, s.size ≤ c ∧ (Conv.stringToBytes e s).run P w = .ok (.slice (some ⟨w.heap.size, 0, none⟩) s.size c)
    (w.drew.alloc (.cells ⟨pad s c⟩ e ((pad s c).length, (pad s c).length + 1))) := by
  refine ⟨grownCap w s.size 0 e, grownCap_ge _ _ _ _, ?_⟩
  have hch : (choose (.appendCap s.size 0 e)).run P w = .ok (grownCap w s.size 0 e) w.drew := by
    simp [run_choose, Question.forced, grownCap]
  unfold Conv.stringToBytes
  simp only [Sem.run_bind, hch, Result.andThen_ok, newRow_run, Sem.run_pure]
  have e1 : (s.data.map fun b => (Value.int .u8 (b.toNat : Int))) ++ Array.replicate (grownCap w s.size 0 e - s.size) (.int .u8 0) = ⟨pad s (grownCap w s.size 0 e)⟩ := by
    apply Array.ext'
    simp [cellsOfBytes, pad]
  rw [e1]
  have hsh : (w.drew.alloc (.cells ⟨pad s (grownCap w s.size 0 e)⟩ e (0, 0))).shape? w.drew.heap.size = some (e, (pad s (grownCap w s.size 0 e)).length) := by
    simp only [World.shape?, alloc_same]
    simp
  have hm : (markStringish ⟨w.drew.heap.size, 0, none⟩).run P (w.drew.alloc (.cells ⟨pad s (grownCap w s.size 0 e)⟩ e (0, 0))) =
      .ok () (w.drew.alloc (.cells ⟨pad s (grownCap w s.size 0 e)⟩ e ((pad s (grownCap w s.size 0 e)).length, (pad s (grownCap w s.size 0 e)).length + 1))) := by
    unfold markStringish
    simp only [Sem.run_bind, run_shape, Result.andThen_ok, hsh, run_freeze]
    rw [freeze_end]
  rw [hm]
  rfl

theorem cellsOfBytes_rel (s : ByteArray) : VRels φ (cellsOfBytes s) (cellsOfBytes s) := by
  refine ⟨rfl, fun i x y hx hy => ?_⟩
  rw [hx] at hy
  cases hy
  have : x ∈ cellsOfBytes s := List.mem_of_getElem? hx
  simp only [cellsOfBytes, List.mem_map] at this
  obtain ⟨b, -, rfl⟩ := this
  exact .int _ _

theorem cellsOfBytes_length (s : ByteArray) : (cellsOfBytes s).length = s.size := by
  simp only [cellsOfBytes, List.length_map, Array.length_toList]; rfl

/-- what an operation that is no call comes to -/
def Done (P : Program) (w0 : World) (S : Nat → Prop) (φ : Ren) (H : AH) (w : World) (s : Sem Next) (v : Value) (H' : AH) : Prop := Goes P w0 S φ H w (s.run P w) v H'

theorem Done.value {S : Nat → Prop} {s : Sem Value} {v v' : Value} {φ' : Ren} {H' : AH} {w' : World} (h : s.run P w = .ok v' w') (hr : VRel φ' v v') (E : Emb P w0 φ' H' w') (K : Keeps S φ H w φ' H' w') :
    Done P w0 S φ H w (do pure (Next.value (← s))) v H' := ⟨v', φ', w', .inl (by simp [h]), hr, E, K⟩

theorem Done.unit {S : Nat → Prop} {s : Sem Unit} {φ' : Ren} {H' : AH} {w' : World} (h : s.run P w = .ok () w') (E : Emb P w0 φ' H' w') (K : Keeps S φ H w φ' H' w') :
    Done P w0 S φ H w (do s; pure .skip) undef H' := ⟨undef, φ', w', .inr ⟨by simp [h], rfl⟩, VRel.undef _, E, K⟩

theorem convKind_bytesStr {s d e : TypeId} (h : convKind P s d = .bytesStr e) : P.underlying s = some (.slice e) ∧ P.underlying d = some .string := by
  unfold convKind at h
  split at h <;> simp at h
  subst h
  exact ⟨by assumption, by assumption⟩

theorem convKind_strBytes {s d e : TypeId} (h : convKind P s d = .strBytes e) : P.underlying s = some .string ∧ P.underlying d = some (.slice e) := by
  unfold convKind at h
  split at h <;> simp at h
  subst h
  exact ⟨by assumption, by assumption⟩

theorem aConvert_spec {S : Nat → Prop} (E : Emb P w0 φ H w) {nm : Nat} (hnm : φ nm = none) (hlt : nm < H.next) (hS : S nm) {src dst : TypeId} {x : Operand} {ρ ρ' : Operand → Value} {o : Oper} (ho : o.op = .convert src dst x)
    (hρ : ∀ y ∈ o.op.operands, VRel φ (ρ y) (ρ' y)) {v : Value} {H' : AH} (h : aConvert P w0 src dst x ρ o nm H = some (v, H')) : Done P w0 S φ H w (execOp ρ' o) v H' := by
  have hx : VRel φ (ρ x) (ρ' x) := hρ x (by rw [ho]; simp [Op.operands])
  have hex : execOp ρ' o = (do pure (Next.value (← convert src dst (ρ' x)))) := by unfold execOp; rw [ho]
  unfold aConvert at h
  split at h
  · rename_i e hck
    obtain ⟨hs, hd⟩ := convKind_bytesStr hck
    split at h
    · rename_i l c he hu
      simp only [Option.some.injEq, Prod.mk.injEq] at h
      obtain ⟨rfl, rfl⟩ := h
      rw [hex]
      cases hx' : ρ' x <;> (rw [hu, hx'] at hx; try (cases hx; done))
      rename_i a' l' c'
      obtain ⟨a2, c2, e2, -⟩ := hx.slice_inv
      cases e2
      cases hx
      exact Done.value (run_convert_bytes_nil w src e hs he 0 0 dst hd) (.string _) E (Keeps.refl _ _ _ _)
    · rename_i a len c he hu
      simp only [Option.map_eq_some_iff, Option.bind_eq_some_iff, Prod.mk.injEq] at h
      obtain ⟨bs, ⟨l, hl, hb⟩, rfl, rfl⟩ := h
      rw [hex]
      rw [hu] at hx
      have hl' : rdCells w0 H a (len * 1) = some l := by rw [Nat.mul_one]; exact hl
      obtain ⟨l', r1, r2, r3⟩ := rdCells_firstCells E hx hl'
      obtain ⟨a', cap', e2, -⟩ := hx.slice_inv
      obtain ⟨ns, rfl, rfl⟩ := bytesOfCells_spec hb
      obtain rfl := ints_rel r1
      rw [e2] at r3 ⊢
      have e3 : (⟨⟨ns.map fun n => UInt8.ofNat n.toNat⟩⟩ : ByteArray) = ns.foldl (fun r n => r.push (UInt8.ofNat n.toNat)) ByteArray.empty := by
        rw [foldl_push_bytes]
        simp [ByteArray.empty, ByteArray.emptyWithCapacity]
        rfl
      rw [e3]
      cases a' with
      | none =>
        have hz : ns = [] := by
          simp only [Builtin.firstCells, Sem.run_pure, Result.ok.injEq, and_true] at r3
          have := congrArg Array.toList r3
          simpa using this.symm
        subst hz
        exact Done.value (run_convert_bytes_nil w src e hs he len cap' dst hd) (.string _) E (Keeps.refl _ _ _ _)
      | some a' =>
        refine Done.value ?_ (.string _) E (Keeps.refl _ _ _ _)
        rw [run_convert_bytes_string w src dst e _ len cap' hs he hd]
        refine run_bytesToString w a' len cap' ns ?_
        simp only [Builtin.firstCells, Nat.mul_one] at r3
        exact r3
    · simp at h
  · rename_i e hck
    obtain ⟨hs, hd⟩ := convKind_strBytes hck
    split at h
    · rename_i i s he hi hu
      cases hsz : Nat.beq i.size 1 with
      | false => rw [hsz] at h; simp at h
      | true =>
        rw [hsz] at h
        have hsz := Nat.eq_of_beq_eq_true hsz
        simp only [cond_true, Option.some.injEq, Prod.mk.injEq] at h
        obtain ⟨rfl, rfl⟩ := h
        rw [hex]
        rw [hu] at hx
        have hx' : ρ' x = .string s := by generalize ρ' x = y at hx ⊢; cases hx; rfl
        rw [hx']
        obtain ⟨c, hc, hrun⟩ := stringToBytes_run (P := P) (w := w) e s
        obtain ⟨g1, g2⟩ := goes_row (S := S) E.drew hnm hlt hS (List.replicate (c - s.size) (.int .u8 0)) (cellsOfBytes_rel s) (info_size hi)
          (lo := (pad s c).length) (hi := (pad s c).length + 1) (fun k hk => by have : k < (pad s c).length := hk; omega)
        have hr : (convert src dst (.string s)).run P w = (Conv.stringToBytes e s).run P w := by
          simp only [convert, Sem.run_bind, underlying_run hs, underlying_run hd, Result.andThen_ok, underlying_run he]
        refine Done.value (hr.trans hrun) ?_ g1 g2.of_drew
        have hlen : (pad s c).length = c := by
          rw [pad, List.length_append, cellsOfBytes_length, List.length_replicate]; omega
        have := VRel.sliceNew (φ := φ.upd nm ⟨w.drew.heap.size, 0, (pad s c).length, i.size⟩) (b := nm)
          (i := ⟨w.drew.heap.size, 0, (pad s c).length, i.size⟩) 0 0 s.size capU c (Ren.upd_same _ _ _) hc (.inr ⟨rfl, by simp only [hlen, hsz]; omega⟩)
        rw [Nat.zero_add] at this
        exact this
    · simp at h
  · simp only [Option.map_eq_some_iff, Prod.mk.injEq] at h
    obtain ⟨u, hg, rfl, rfl⟩ := h
    obtain ⟨h1, h2⟩ := groundOp_spec (w := w) hρ (fun cs b => by rw [ho]; simp) hg
    exact ⟨_, φ, w, .inl h1, h2, E, Keeps.refl _ _ _ _⟩
  · simp at h

end Go.Sim
