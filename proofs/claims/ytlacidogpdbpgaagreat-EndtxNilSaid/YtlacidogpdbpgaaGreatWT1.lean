/-
  What functions of the given program ask (printed by gen.lean).
-/
import Derived.Test.YtlacidogpdbpgaaGreatWR
namespace Go.Sim
open Go
set_option linter.unusedVariables false
set_option maxRecDepth 100000

/-- pitot/crc.Make -/
noncomputable def N370 (pr : CallA) (w : World) (k : Value → AH → Prop) (h0 : AH) : Prop :=
  rgn 1 h0 fun n100 h101 =>
  rgn 3 h101 fun n102 h103 =>
  opt ((fillP [(.int .u32 0), (.int .u32 0), (.int .u32 0), (.int .u32 0), (.int .u32 0), (.int .u32 0), (.int .u32 0), (.int .u32 0), (.int .u32 0), (.int .u32 0), (.int .u32 0), (.int .u32 0), (.int .u32 0), (.int .u32 0), (.int .u32 0), (.int .u32 0), (.int .u32 0), (.int .u32 0), (.int .u32 0), (.int .u32 0), (.int .u32 0), (.int .u32 0), (.int .u32 0), (.int .u32 0), (.int .u32 0), (.int .u32 0), (.int .u32 0), (.int .u32 0), (.int .u32 0), (.int .u32 0), (.int .u32 0), (.int .u32 0), (.int .u32 0), (.int .u32 0), (.int .u32 0), (.int .u32 0), (.int .u32 0), (.int .u32 0), (.int .u32 0), (.int .u32 0), (.int .u32 0), (.int .u32 0), (.int .u32 0), (.int .u32 0), (.int .u32 0), (.int .u32 0), (.int .u32 0), (.int .u32 0), (.int .u32 0), (.int .u32 0), (.int .u32 0), (.int .u32 0), (.int .u32 0), (.int .u32 0), (.int .u32 0), (.int .u32 0), (.int .u32 0), (.int .u32 0), (.int .u32 0), (.int .u32 0), (.int .u32 0), (.int .u32 0), (.int .u32 0), (.int .u32 0), (.int .u32 0), (.int .u32 0), (.int .u32 0), (.int .u32 0), (.int .u32 0), (.int .u32 0), (.int .u32 0), (.int .u32 0), (.int .u32 0), (.int .u32 0), (.int .u32 0), (.int .u32 0), (.int .u32 0), (.int .u32 0), (.int .u32 0), (.int .u32 0), (.int .u32 0), (.int .u32 0), (.int .u32 0), (.int .u32 0), (.int .u32 0), (.int .u32 0), (.int .u32 0), (.int .u32 0), (.int .u32 0), (.int .u32 0), (.int .u32 0), (.int .u32 0), (.int .u32 0), (.int .u32 0), (.int .u32 0), (.int .u32 0), (.int .u32 0), (.int .u32 0), (.int .u32 0), (.int .u32 0), (.int .u32 0), (.int .u32 0), (.int .u32 0), (.int .u32 0), (.int .u32 0), (.int .u32 0), (.int .u32 0), (.int .u32 0), (.int .u32 0), (.int .u32 0), (.int .u32 0), (.int .u32 0), (.int .u32 0), (.int .u32 0), (.int .u32 0), (.int .u32 0), (.int .u32 0), (.int .u32 0), (.int .u32 0), (.int .u32 0), (.int .u32 0), (.int .u32 0), (.int .u32 0), (.int .u32 0), (.int .u32 0), (.int .u32 0), (.int .u32 0), (.int .u32 0), (.int .u32 0), (.int .u32 0), (.int .u32 0), (.int .u32 0), (.int .u32 0), (.int .u32 0), (.int .u32 0), (.int .u32 0), (.int .u32 0), (.int .u32 0), (.int .u32 0), (.int .u32 0), (.int .u32 0), (.int .u32 0), (.int .u32 0), (.int .u32 0), (.int .u32 0), (.int .u32 0), (.int .u32 0), (.int .u32 0), (.int .u32 0), (.int .u32 0), (.int .u32 0), (.int .u32 0), (.int .u32 0), (.int .u32 0), (.int .u32 0), (.int .u32 0), (.int .u32 0), (.int .u32 0), (.int .u32 0), (.int .u32 0), (.int .u32 0), (.int .u32 0), (.int .u32 0), (.int .u32 0), (.int .u32 0), (.int .u32 0), (.int .u32 0), (.int .u32 0), (.int .u32 0), (.int .u32 0), (.int .u32 0), (.int .u32 0), (.int .u32 0), (.int .u32 0), (.int .u32 0), (.int .u32 0), (.int .u32 0), (.int .u32 0), (.int .u32 0), (.int .u32 0), (.int .u32 0), (.int .u32 0), (.int .u32 0), (.int .u32 0), (.int .u32 0), (.int .u32 0), (.int .u32 0), (.int .u32 0), (.int .u32 0), (.int .u32 0), (.int .u32 0), (.int .u32 0), (.int .u32 0), (.int .u32 0), (.int .u32 0), (.int .u32 0), (.int .u32 0), (.int .u32 0), (.int .u32 0), (.int .u32 0), (.int .u32 0), (.int .u32 0), (.int .u32 0), (.int .u32 0), (.int .u32 0), (.int .u32 0), (.int .u32 0), (.int .u32 0), (.int .u32 0), (.int .u32 0), (.int .u32 0), (.int .u32 0), (.int .u32 0), (.int .u32 0), (.int .u32 0), (.int .u32 0), (.int .u32 0), (.int .u32 0), (.int .u32 0), (.int .u32 0), (.int .u32 0), (.int .u32 0), (.int .u32 0), (.int .u32 0), (.int .u32 0), (.int .u32 0), (.int .u32 0), (.int .u32 0), (.int .u32 0), (.int .u32 0), (.int .u32 0), (.int .u32 0), (.int .u32 0), (.int .u32 0), (.int .u32 0), (.int .u32 0), (.int .u32 0), (.int .u32 0), (.int .u32 0), (.int .u32 0), (.int .u32 0), (.int .u32 0), (.int .u32 0), (.int .u32 0), (.int .u32 0), (.int .u32 0), (.int .u32 0), (.int .u32 0), (.int .u32 0), (.int .u32 0), (.int .u32 0), (.int .u32 0), (.int .u32 0), (.int .u32 0), (.int .u32 0), (.int .u32 0)] []).map fun l => Value.agg ⟨l⟩) fun x104 =>
  al (n102 + 1) (cellsL x104) 580 h103 fun x105 h106 =>
  rgn 1 h106 fun n107 h108 =>
  Wg PG pr w none (.loop (cd PG 370 [1, 1, 0, 1, 0, 0])) (outOf 0 (thenW PG pr w (cd PG 370 [1, 1, 1]) (endC PG w [(.tmp 0)] k))) (us (argsE []) [(0, (.pointer none)), (4, x104), (5, x105), (1, x105), (6, (.int .i64 0))]) h108
theorem n370 {pr : CallA} [PrB pr] {w : World} {k : Value → AH → Prop} {h0 : AH}  (h : N370 pr w k  h0) : CW pr w 370 [] h0 k :=
  call_c (fn := Proofs.Tryz.f370) (PrB.other _ _ _ rfl) Proofs.Tryz.func370 (c := bodyC PG 370) (by kernel_rfl) (by kernel_rfl) (by kernel_rfl) (by
    have e : Wc PG pr w (bodyC PG 370) (endC PG w Proofs.Tryz.f370.results.toList k) (argsE []) h0 = N370 pr w k  h0 := by kernel_rfl
    exact e.mpr h)
noncomputable def S370_110100 (pr : CallA) (w : World) (Q : Ex → Env → AH → Prop) (E0 : Env) (h0 : AH) : Prop :=
  rgn 1 h0 fun n100 h101 =>
  opt (gbin PG .lss 3 (E0 6) (.int .i64 256) 3 0) fun x102 =>
  iteV x102
  (rgn 2 h101 fun n103 h104 =>
  rgn 3 h104 fun n105 h106 =>
  opt ((gcv PG 3 416 (E0 6) 416).map fun v => (v, h106)) fun q107 =>
  rgn 1 q107.2 fun n108 h109 =>
  Wg PG pr w none (.loop (cd PG 370 [1, 1, 0, 1, 0, 0, 1, 1, 0, 0, 1, 1, 0, 1, 0, 0])) (outOf 2 (thenW PG pr w (cd PG 370 [1, 1, 0, 1, 0, 0, 1, 1, 0, 0, 1, 1, 1]) (outOf 1 (thenW PG pr w (cd PG 370 [1, 1, 0, 1, 0, 0, 1, 1, 1]) Q)))) (us E0 [(7, x102), (8, (E0 6)), (2, (E0 6)), (9, (E0 6)), (10, q107.1), (3, q107.1), (11, (.int .i64 0))]) h109)
  (Q (.exit 0) (us E0 [(7, x102)]) h101)
theorem s370_110100 {pr : CallA} {w : World} {Q : Ex → Env → AH → Prop} {E0 : Env} {h0 : AH} (h : S370_110100 pr w Q E0 h0) : Wc PG pr w (cd PG 370 [1, 1, 0, 1, 0, 0]) Q E0 h0 := by
    have e : Wc PG pr w (cd PG 370 [1, 1, 0, 1, 0, 0]) Q E0 h0 = S370_110100 pr w Q E0 h0 := by kernel_rfl
    exact e.mpr h
noncomputable def S370_111 (pr : CallA) (w : World) (Q : Ex → Env → AH → Prop) (E0 : Env) (h0 : AH) : Prop :=
  rgn 2 h0 fun n100 h101 =>
  Q .ret (us E0 [(27, (E0 1)), (0, (E0 1))]) h101
theorem s370_111 {pr : CallA} {w : World} {Q : Ex → Env → AH → Prop} {E0 : Env} {h0 : AH} (h : S370_111 pr w Q E0 h0) : Wc PG pr w (cd PG 370 [1, 1, 1]) Q E0 h0 := by
    have e : Wc PG pr w (cd PG 370 [1, 1, 1]) Q E0 h0 = S370_111 pr w Q E0 h0 := by kernel_rfl
    exact e.mpr h
noncomputable def S370_1101001100110100 (pr : CallA) (w : World) (Q : Ex → Env → AH → Prop) (E0 : Env) (h0 : AH) : Prop :=
  rgn 1 h0 fun n100 h101 =>
  opt (gbin PG .lss 3 (E0 11) (.int .i64 8) 3 4) fun x102 =>
  iteV x102
  (rgn 8 h101 fun n103 h104 =>
  opt (gbin PG .shr 416 (E0 3) (.int .u64 1) 250 416) fun x105 =>
  opt (gbin PG .and 416 (E0 3) (.int .u32 1) 416 416) fun x106 =>
  opt (gun PG .neg 416 x106 416) fun x107 =>
  opt (gbin PG .and 416 (.int .u32 3988292384) x107 416 416) fun x108 =>
  opt (gbin PG .xor 416 x105 x108 416 416) fun x109 =>
  rgn 2 h104 fun n110 h111 =>
  opt (gbin PG .add 3 (E0 11) (.int .i64 1) 3 3) fun x112 =>
  Q .normal (us E0 [(12, x102), (13, (E0 3)), (14, x105), (15, (E0 3)), (16, x106), (17, x107), (18, x108), (19, x109), (3, x109), (20, x112), (11, x112)]) h111)
  (Q (.exit 2) (us E0 [(12, x102)]) h101)
theorem s370_1101001100110100 {pr : CallA} {w : World} {Q : Ex → Env → AH → Prop} {E0 : Env} {h0 : AH} (h : S370_1101001100110100 pr w Q E0 h0) : Wc PG pr w (cd PG 370 [1, 1, 0, 1, 0, 0, 1, 1, 0, 0, 1, 1, 0, 1, 0, 0]) Q E0 h0 := by
    have e : Wc PG pr w (cd PG 370 [1, 1, 0, 1, 0, 0, 1, 1, 0, 0, 1, 1, 0, 1, 0, 0]) Q E0 h0 = S370_1101001100110100 pr w Q E0 h0 := by kernel_rfl
    exact e.mpr h
noncomputable def S370_1101001100111 (pr : CallA) (w : World) (Q : Ex → Env → AH → Prop) (E0 : Env) (h0 : AH) : Prop :=
  rgn 6 h0 fun n100 h101 =>
  opt (nckV (E0 1)) fun x102 =>
  opt (ixR 256 1 x102 (E0 2)) fun x103 =>
  opt (stC 1 x103 (E0 3) h101) fun h104 =>
  Q .normal (us E0 [(21, (E0 1)), (22, (E0 2)), (23, (E0 3)), (24, x102), (25, x103)]) h104
theorem s370_1101001100111 {pr : CallA} {w : World} {Q : Ex → Env → AH → Prop} {E0 : Env} {h0 : AH} (h : S370_1101001100111 pr w Q E0 h0) : Wc PG pr w (cd PG 370 [1, 1, 0, 1, 0, 0, 1, 1, 0, 0, 1, 1, 1]) Q E0 h0 := by
    have e : Wc PG pr w (cd PG 370 [1, 1, 0, 1, 0, 0, 1, 1, 0, 0, 1, 1, 1]) Q E0 h0 = S370_1101001100111 pr w Q E0 h0 := by kernel_rfl
    exact e.mpr h
noncomputable def S370_110100111 (pr : CallA) (w : World) (Q : Ex → Env → AH → Prop) (E0 : Env) (h0 : AH) : Prop :=
  rgn 2 h0 fun n100 h101 =>
  opt (gbin PG .add 3 (E0 6) (.int .i64 1) 3 3) fun x102 =>
  Q .normal (us E0 [(26, x102), (6, x102)]) h101
theorem s370_110100111 {pr : CallA} {w : World} {Q : Ex → Env → AH → Prop} {E0 : Env} {h0 : AH} (h : S370_110100111 pr w Q E0 h0) : Wc PG pr w (cd PG 370 [1, 1, 0, 1, 0, 0, 1, 1, 1]) Q E0 h0 := by
    have e : Wc PG pr w (cd PG 370 [1, 1, 0, 1, 0, 0, 1, 1, 1]) Q E0 h0 = S370_110100111 pr w Q E0 h0 := by kernel_rfl
    exact e.mpr h

/-- (*pitot/crc.Table).Go -/
noncomputable def N371 (pr : CallA) (w : World) (k : Value → AH → Prop) (x0 x1 x2 : Value) (h0 : AH) : Prop :=
  rgn 1 h0 fun n100 h101 =>
  rgn 2 h101 fun n102 h103 =>
  opt (eqC PG .eql 556 false x0 true (.pointer none) 556 4) fun x104 =>
  iteV x104
  (rgn 2 h103 fun n105 h106 =>
  k x1 h106)
  (rgn 4 h103 fun n107 h108 =>
  opt (cvSB 5 (n107 + 1) x2 h108) fun q109 =>
  opt (lenS q109.1) fun n110 =>
  Wg PG pr w none (.loop (cd PG 371 [1, 1, 0, 1, 0, 0])) (outOf 0 (thenW PG pr w (cd PG 371 [1, 1, 1]) (endC PG w [(.tmp 6)] k))) (us (argsE [x0, x1, x2]) [(6, (.int .u32 0)), (9, x0), (10, x104), (12, x2), (13, q109.1), (14, (.int .i64 n110)), (15, (.int .i64 0))]) q109.2)
theorem n371 {pr : CallA} [PrB pr] {w : World} {k : Value → AH → Prop} {x0 x1 x2 : Value} {h0 : AH}  (h : N371 pr w k x0 x1 x2 h0) : CW pr w 371 [x0, x1, x2] h0 k :=
  call_c (fn := Proofs.Tryz.f371) (PrB.other _ _ _ rfl) Proofs.Tryz.func371 (c := bodyC PG 371) (by kernel_rfl) (by kernel_rfl) (by kernel_rfl) (by
    have e : Wc PG pr w (bodyC PG 371) (endC PG w Proofs.Tryz.f371.results.toList k) (argsE [x0, x1, x2]) h0 = N371 pr w k x0 x1 x2 h0 := by kernel_rfl
    exact e.mpr h)
noncomputable def S371_110100 (pr : CallA) (w : World) (Q : Ex → Env → AH → Prop) (E0 : Env) (h0 : AH) : Prop :=
  rgn 1 h0 fun n100 h101 =>
  opt (gbin PG .lss 3 (E0 15) (E0 14) 3 0) fun x102 =>
  iteV x102
  (rgn 3 h101 fun n103 h104 =>
  opt (ixS 1 (E0 13) (E0 15)) fun x105 =>
  opt (ld1 w x105 h104) fun x106 =>
  rgn 12 h104 fun n107 h108 =>
  opt (gbin PG .shr 416 (E0 1) (.int .u64 8) 250 416) fun x109 =>
  opt ((gcv PG 416 5 (E0 1) 5).map fun v => (v, h108)) fun q110 =>
  opt (gbin PG .xor 5 q110.1 x106 5 5) fun x111 =>
  opt (nckV (E0 0)) fun x112 =>
  opt (ixR 256 1 x112 x111) fun x113 =>
  opt (ld1 w x113 q110.2) fun x114 =>
  opt (gbin PG .xor 416 x109 x114 416 416) fun x115 =>
  rgn 2 q110.2 fun n116 h117 =>
  opt (gbin PG .add 3 (E0 15) (.int .i64 1) 3 3) fun x118 =>
  Q .normal (us E0 [(16, x102), (17, x105), (18, x106), (8, x106), (19, (E0 1)), (20, x109), (21, (E0 0)), (22, (E0 1)), (23, q110.1), (24, x106), (25, x111), (26, x112), (27, x113), (28, x114), (29, x115), (1, x115), (30, x118), (15, x118)]) h117)
  (Q (.exit 0) (us E0 [(16, x102)]) h101)
theorem s371_110100 {pr : CallA} {w : World} {Q : Ex → Env → AH → Prop} {E0 : Env} {h0 : AH} (h : S371_110100 pr w Q E0 h0) : Wc PG pr w (cd PG 371 [1, 1, 0, 1, 0, 0]) Q E0 h0 := by
    have e : Wc PG pr w (cd PG 371 [1, 1, 0, 1, 0, 0]) Q E0 h0 = S371_110100 pr w Q E0 h0 := by kernel_rfl
    exact e.mpr h
noncomputable def S371_111 (pr : CallA) (w : World) (Q : Ex → Env → AH → Prop) (E0 : Env) (h0 : AH) : Prop :=
  rgn 2 h0 fun n100 h101 =>
  Q .ret (us E0 [(31, (E0 1)), (6, (E0 1))]) h101
theorem s371_111 {pr : CallA} {w : World} {Q : Ex → Env → AH → Prop} {E0 : Env} {h0 : AH} (h : S371_111 pr w Q E0 h0) : Wc PG pr w (cd PG 371 [1, 1, 1]) Q E0 h0 := by
    have e : Wc PG pr w (cd PG 371 [1, 1, 1]) Q E0 h0 = S371_111 pr w Q E0 h0 := by kernel_rfl
    exact e.mpr h

/-- pitot/crc.Sum -/
noncomputable def N306 (pr : CallA) (w : World) (k : Value → AH → Prop) (x0 : Value) (h0 : AH) : Prop :=
  rgn 1 h0 fun n100 h101 =>
  rgn 3 h101 fun n102 h103 =>
  CW pr w 370 [] h103 fun x104 h105 =>
  rgn 3 h105 fun n106 h107 =>
  opt (lenS x0) fun n108 =>
  Wg PG pr w none (.loop (cd PG 306 [1, 1, 0, 1, 0, 0])) (outOf 0 (thenW PG pr w (cd PG 306 [1, 1, 1]) (endC PG w [(.tmp 2)] k))) (us (argsE [x0]) [(2, (.int .u32 0)), (7, x104), (3, x104), (4, (.int .u32 4294967295)), (8, x0), (9, (.int .i64 n108)), (10, (.int .i64 0))]) h107
theorem n306 {pr : CallA} [PrB pr] {w : World} {k : Value → AH → Prop} {x0 : Value} {h0 : AH}  (h : N306 pr w k x0 h0) : CW pr w 306 [x0] h0 k :=
  call_c (fn := Proofs.Tryz.f306) (PrB.other _ _ _ rfl) Proofs.Tryz.func306 (c := bodyC PG 306) (by kernel_rfl) (by kernel_rfl) (by kernel_rfl) (by
    have e : Wc PG pr w (bodyC PG 306) (endC PG w Proofs.Tryz.f306.results.toList k) (argsE [x0]) h0 = N306 pr w k x0 h0 := by kernel_rfl
    exact e.mpr h)
noncomputable def S306_110100 (pr : CallA) (w : World) (Q : Ex → Env → AH → Prop) (E0 : Env) (h0 : AH) : Prop :=
  rgn 1 h0 fun n100 h101 =>
  opt (gbin PG .lss 3 (E0 10) (E0 9) 3 0) fun x102 =>
  iteV x102
  (rgn 3 h101 fun n103 h104 =>
  opt (ixS 1 (E0 8) (E0 10)) fun x105 =>
  opt (ld1 w x105 h104) fun x106 =>
  rgn 5 h104 fun n107 h108 =>
  CW pr w 371 [(E0 3), (E0 4), x106] h108 fun x109 h110 =>
  rgn 2 h110 fun n111 h112 =>
  opt (gbin PG .add 3 (E0 10) (.int .i64 1) 3 3) fun x113 =>
  Q .normal (us E0 [(11, x102), (12, x105), (13, x106), (6, x106), (14, (E0 3)), (15, (E0 4)), (16, x106), (17, x109), (4, x109), (18, x113), (10, x113)]) h112)
  (Q (.exit 0) (us E0 [(11, x102)]) h101)
theorem s306_110100 {pr : CallA} {w : World} {Q : Ex → Env → AH → Prop} {E0 : Env} {h0 : AH} (h : S306_110100 pr w Q E0 h0) : Wc PG pr w (cd PG 306 [1, 1, 0, 1, 0, 0]) Q E0 h0 := by
    have e : Wc PG pr w (cd PG 306 [1, 1, 0, 1, 0, 0]) Q E0 h0 = S306_110100 pr w Q E0 h0 := by kernel_rfl
    exact e.mpr h
noncomputable def S306_111 (pr : CallA) (w : World) (Q : Ex → Env → AH → Prop) (E0 : Env) (h0 : AH) : Prop :=
  rgn 3 h0 fun n100 h101 =>
  opt (gun PG .xor 416 (E0 4) 416) fun x102 =>
  Q .ret (us E0 [(19, (E0 4)), (20, x102), (2, x102)]) h101
theorem s306_111 {pr : CallA} {w : World} {Q : Ex → Env → AH → Prop} {E0 : Env} {h0 : AH} (h : S306_111 pr w Q E0 h0) : Wc PG pr w (cd PG 306 [1, 1, 1]) Q E0 h0 := by
    have e : Wc PG pr w (cd PG 306 [1, 1, 1]) Q E0 h0 = S306_111 pr w Q E0 h0 := by kernel_rfl
    exact e.mpr h

/-- pitot/crc.Seal -/
noncomputable def N215 (pr : CallA) (w : World) (k : Value → AH → Prop) (x0 : Value) (h0 : AH) : Prop :=
  rgn 1 h0 fun n100 h101 =>
  rgn 3 h101 fun n102 h103 =>
  opt (cvSB 5 (n102 + 1) x0 h103) fun q104 =>
  rgn 5 q104.2 fun n105 h106 =>
  opt ((fillP [(.string ⟨#[]⟩)] [(0, 1, x0)]).map fun l => (l, 9)) fun q107 =>
  alS (n105 + 1) 1 q107.1 q107.2 h106 fun x108 h109 =>
  CW pr w 306 [x108] h109 fun x110 h111 =>
  Wg PG pr w none (.loop (cd PG 215 [1, 1, 0, 1, 0, 0])) (outOf 0 (thenW PG pr w (cd PG 215 [1, 1, 1]) (endC PG w [(.tmp 2)] k))) (us (argsE [x0]) [(2, (.string ⟨#[]⟩)), (6, x0), (7, q104.1), (3, q104.1), (8, x0), (9, x108), (10, x110), (4, x110), (5, (.int .i64 0))]) h111
theorem n215 {pr : CallA} [PrB pr] {w : World} {k : Value → AH → Prop} {x0 : Value} {h0 : AH}  (h : N215 pr w k x0 h0) : CW pr w 215 [x0] h0 k :=
  call_c (fn := Proofs.Tryz.f215) (PrB.other _ _ _ rfl) Proofs.Tryz.func215 (c := bodyC PG 215) (by kernel_rfl) (by kernel_rfl) (by kernel_rfl) (by
    have e : Wc PG pr w (bodyC PG 215) (endC PG w Proofs.Tryz.f215.results.toList k) (argsE [x0]) h0 = N215 pr w k x0 h0 := by kernel_rfl
    exact e.mpr h)
noncomputable def S215_110100 (pr : CallA) (w : World) (Q : Ex → Env → AH → Prop) (E0 : Env) (h0 : AH) : Prop :=
  rgn 2 h0 fun n100 h101 =>
  opt (gbin PG .lss 3 (E0 5) (.int .i64 4) 3 4) fun x102 =>
  iteV x102
  (rgn 10 h101 fun n103 h104 =>
  opt (gbin PG .mul 3 (.int .i64 8) (E0 5) 3 3) fun x105 =>
  opt ((gcv PG 3 250 x105 250).map fun v => (v, h104)) fun q106 =>
  opt (gbin PG .shr 416 (E0 4) q106.1 250 416) fun x107 =>
  opt ((gcv PG 416 5 x107 5).map fun v => (v, q106.2)) fun q108 =>
  opt ((fillP [(.int .u8 0)] [(0, 1, q108.1)]).map fun l => (l, 5)) fun q109 =>
  alS (n103 + 7) 1 q109.1 q109.2 q108.2 fun x110 h111 =>
  opt (aAppend PG w h111 (n103 + 8) #[186, 186] (E0 3) x110) fun q112 =>
  rgn 3 q112.2 fun n113 h114 =>
  opt (gbin PG .add 3 (E0 5) (.int .i64 1) 3 3) fun x115 =>
  Q .normal (us E0 [(11, (E0 5)), (12, x102), (15, (E0 3)), (16, (E0 4)), (17, (E0 5)), (18, x105), (19, q106.1), (20, x107), (21, q108.1), (22, x110), (23, q112.1), (3, q112.1), (13, (E0 5)), (14, x115), (5, x115)]) h114)
  (Q (.exit 0) (us E0 [(11, (E0 5)), (12, x102)]) h101)
theorem s215_110100 {pr : CallA} {w : World} {Q : Ex → Env → AH → Prop} {E0 : Env} {h0 : AH} (h : S215_110100 pr w Q E0 h0) : Wc PG pr w (cd PG 215 [1, 1, 0, 1, 0, 0]) Q E0 h0 := by
    have e : Wc PG pr w (cd PG 215 [1, 1, 0, 1, 0, 0]) Q E0 h0 = S215_110100 pr w Q E0 h0 := by kernel_rfl
    exact e.mpr h
noncomputable def S215_111 (pr : CallA) (w : World) (Q : Ex → Env → AH → Prop) (E0 : Env) (h0 : AH) : Prop :=
  rgn 3 h0 fun n100 h101 =>
  opt (cvBS w (E0 3) h101) fun q102 =>
  Q .ret (us E0 [(24, (E0 3)), (25, q102.1), (2, q102.1)]) q102.2
theorem s215_111 {pr : CallA} {w : World} {Q : Ex → Env → AH → Prop} {E0 : Env} {h0 : AH} (h : S215_111 pr w Q E0 h0) : Wc PG pr w (cd PG 215 [1, 1, 1]) Q E0 h0 := by
    have e : Wc PG pr w (cd PG 215 [1, 1, 1]) Q E0 h0 = S215_111 pr w Q E0 h0 := by kernel_rfl
    exact e.mpr h

/-- pitot/crc.Open -/
noncomputable def N115 (pr : CallA) (w : World) (k : Value → AH → Prop) (x0 : Value) (h0 : AH) : Prop :=
  rgn 2 h0 fun n100 h101 =>
  rgn 4 h101 fun n102 h103 =>
  opt (lenStr x0) fun n104 =>
  opt (gbin PG .sub 3 (.int .i64 n104) (.int .i64 4) 3 3) fun x105 =>
  rgn 2 h103 fun n106 h107 =>
  opt (gbin PG .lss 3 x105 (.int .i64 0) 3 4) fun x108 =>
  iteV x108
  (rgn 2 h107 fun n109 h110 =>
  k (.tuple ⟨[(.string ⟨#[]⟩), (.int .i64 10)]⟩) h110)
  (rgn 6 h107 fun n111 h112 =>
  opt (aSlice PG 9 x0 none (some x105) none h112) fun x113 =>
  CW pr w 215 [x113] h112 fun x114 h115 =>
  opt (eqC PG .neq 9 false x114 false x0 9 4) fun x116 =>
  iteV x116
  (rgn 2 h115 fun n117 h118 =>
  k (.tuple ⟨[(.string ⟨#[]⟩), (.int .i64 12)]⟩) h118)
  (rgn 5 h115 fun n119 h120 =>
  opt (aSlice PG 9 x0 none (some x105) none h120) fun x121 =>
  k (.tuple ⟨[x121, (.int .i64 0)]⟩) h120))
theorem n115 {pr : CallA} [PrB pr] {w : World} {k : Value → AH → Prop} {x0 : Value} {h0 : AH}  (h : N115 pr w k x0 h0) : CW pr w 115 [x0] h0 k :=
  call_c (fn := Proofs.Tryz.f115) (PrB.other _ _ _ rfl) Proofs.Tryz.func115 (c := bodyC PG 115) (by kernel_rfl) (by kernel_rfl) (by kernel_rfl) (by
    have e : Wc PG pr w (bodyC PG 115) (endC PG w Proofs.Tryz.f115.results.toList k) (argsE [x0]) h0 = N115 pr w k x0 h0 := by kernel_rfl
    exact e.mpr h)


end Go.Sim
