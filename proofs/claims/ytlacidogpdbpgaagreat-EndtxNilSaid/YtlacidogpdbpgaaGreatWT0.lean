/-
  What functions of the given program ask (printed by gen.lean).
-/
import Derived.Test.YtlacidogpdbpgaaGreatWR
namespace Go.Sim
open Go
set_option linter.unusedVariables false
set_option maxRecDepth 100000

/-- pitot/config.between -/
noncomputable def N126 (pr : CallA) (w : World) (k : Value → AH → Prop) (x0 x1 x2 : Value) (h0 : AH) : Prop :=
  rgn 1 h0 fun n100 h101 =>
  rgn 9 h101 fun n102 h103 =>
  opt (gbin PG .geq 3 x0 x1 3 4) fun x104 =>
  gdP (gw x104 true) (fun k' => k' x0 h103) h103 fun x105 h106 =>
  gdP (gw x104 true) (fun k' => k' x2 h106) h106 fun x107 h108 =>
  gdP (gw x104 true) (fun k' => opt (gbin PG .leq 3 x105 x107 3 4) fun x109 =>
  k' x109 h108) h108 fun x110 h111 =>
  opt (pickV x104 x110 (.bool false)) fun x112 =>
  k x112 h111
theorem n126 {pr : CallA} [PrB pr] {w : World} {k : Value → AH → Prop} {x0 x1 x2 : Value} {h0 : AH}  (h : N126 pr w k x0 x1 x2 h0) : CW pr w 126 [x0, x1, x2] h0 k :=
  call_c (fn := Proofs.Tryz.f126) (PrB.other _ _ _ rfl) Proofs.Tryz.func126 (c := bodyC PG 126) (by kernel_rfl) (by kernel_rfl) (by kernel_rfl) (by
    have e : Wc PG pr w (bodyC PG 126) (endC PG w Proofs.Tryz.f126.results.toList k) (argsE [x0, x1, x2]) h0 = N126 pr w k x0 x1 x2 h0 := by kernel_rfl
    exact e.mpr h)

/-- (*pitot/config.net).host -/
noncomputable def N128 (pr : CallA) (w : World) (k : Value → AH → Prop) (x0 x1 : Value) (h0 : AH) : Prop :=
  rgn 1 h0 fun n100 h101 =>
  rgn 9 h101 fun n102 h103 =>
  opt (nckV x0) fun x104 =>
  opt (fa 0 x104) fun x105 =>
  opt (fa 0 x105) fun x106 =>
  opt (ld1 w x106 h103) fun x107 =>
  opt (gbin PG .sub 3 x107 (.int .i64 1) 3 3) fun x108 =>
  CW pr w 126 [x1, (.int .i64 0), x108] h103 fun x109 h110 =>
  k x109 h110
theorem n128 {pr : CallA} [PrB pr] {w : World} {k : Value → AH → Prop} {x0 x1 : Value} {h0 : AH}  (h : N128 pr w k x0 x1 h0) : CW pr w 128 [x0, x1] h0 k :=
  call_c (fn := Proofs.Tryz.f128) (PrB.other _ _ _ rfl) Proofs.Tryz.func128 (c := bodyC PG 128) (by kernel_rfl) (by kernel_rfl) (by kernel_rfl) (by
    have e : Wc PG pr w (bodyC PG 128) (endC PG w Proofs.Tryz.f128.results.toList k) (argsE [x0, x1]) h0 = N128 pr w k x0 x1 h0 := by kernel_rfl
    exact e.mpr h)

/-- pitot/config.Check$3 -/
noncomputable def N129 (pr : CallA) (w : World) (k : Value → AH → Prop) (x0 x1 x2 : Value) (h0 : AH) : Prop :=
  rgn 1 h0 fun n100 h101 =>
  rgn 5 h101 fun n102 h103 =>
  opt (ld1 w x1 h103) fun x104 =>
  opt (ld1 w x2 h103) fun x105 =>
  CW pr w 130 [x104, x0, x105] h103 fun x106 h107 =>
  k x106 h107
theorem n129 {pr : CallA} [PrB pr] {w : World} {k : Value → AH → Prop} {x0 x1 x2 : Value} {h0 : AH}  (h : N129 pr w k x0 x1 x2 h0) : CW pr w 129 [x0, x1, x2] h0 k :=
  call_c (fn := Proofs.Tryz.f129) (PrB.other _ _ _ rfl) Proofs.Tryz.func129 (c := bodyC PG 129) (by kernel_rfl) (by kernel_rfl) (by kernel_rfl) (by
    have e : Wc PG pr w (bodyC PG 129) (endC PG w Proofs.Tryz.f129.results.toList k) (argsE [x0, x1, x2]) h0 = N129 pr w k x0 x1 x2 h0 := by kernel_rfl
    exact e.mpr h)

/-- pitot/config.Check$2 -/
noncomputable def N127 (pr : CallA) (w : World) (k : Value → AH → Prop) (x0 x1 x2 x3 : Value) (h0 : AH) : Prop :=
  rgn 1 h0 fun n100 h101 =>
  rgn 16 h101 fun n102 h103 =>
  opt (ld1 w x1 h103) fun x104 =>
  opt (gbin PG .lss 3 x0 (.int .i64 64) 3 4) fun x105 =>
  gdP (gw x105 true) (fun k' => opt (ld1 w x2 h103) fun x106 =>
  k' x106 h103) h103 fun x107 h108 =>
  gdP (gw x105 true) (fun k' => opt (fa 1 x3) fun x109 =>
  k' x109 h108) h108 fun x110 h111 =>
  gdP (gw x105 true) (fun k' => opt (ld1 w x110 h111) fun x112 =>
  k' x112 h111) h111 fun x113 h114 =>
  gdP (gw x105 true) (fun k' => k' x0 h114) h114 fun x115 h116 =>
  gdP (gw x105 true) (fun k' => opt (ixS 1 x113 x115) fun x117 =>
  k' x117 h116) h116 fun x118 h119 =>
  gdP (gw x105 true) (fun k' => opt (ld1 w x118 h119) fun x120 =>
  k' x120 h119) h119 fun x121 h122 =>
  gdP (gw x105 true) (fun k' => CW pr w 128 [x107, x121] h122 fun x123 h124 =>
  k' x123 h124) h122 fun x125 h126 =>
  opt (pickV x105 x125 (.bool false)) fun x127 =>
  calV PG pr w x104 [x127] h126 fun x128 h129 =>
  calV PG pr w x128 [x0] h129 fun x130 h131 =>
  ((cond (gw x105 true) (opt ((ld1 w x1 h126).map fun v => (v, h126)) fun q => sameV q.1 x104 = true) True) ∧ True) ∧ (k x130 h131)
theorem n127 {pr : CallA} [PrB pr] {w : World} {k : Value → AH → Prop} {x0 x1 x2 x3 : Value} {h0 : AH}  (h : N127 pr w k x0 x1 x2 x3 h0) : CW pr w 127 [x0, x1, x2, x3] h0 k :=
  call_c (fn := Proofs.Tryz.f127) (PrB.other _ _ _ rfl) Proofs.Tryz.func127 (c := bodyC PG 127) (by kernel_rfl) (by kernel_rfl) (by kernel_rfl) (by
    have e : Wc PG pr w (bodyC PG 127) (endC PG w Proofs.Tryz.f127.results.toList k) (argsE [x0, x1, x2, x3]) h0 = N127 pr w k x0 x1 x2 x3 h0 := by kernel_rfl
    exact e.mpr h)

/-- pitot/config.Check$1$1 -/
noncomputable def N125 (pr : CallA) (w : World) (k : Value → AH → Prop) (x0 x1 : Value) (h0 : AH) : Prop :=
  rgn 1 h0 fun n100 h101 =>
  rgn 1 h101 fun n102 h103 =>
  opt (ld1 w x1 h103) fun x104 =>
  iteV x104
  (rgn 1 h103 fun n105 h106 =>
  k (.int .i64 0) h106)
  (rgn 1 h103 fun n107 h108 =>
  k (.int .i64 1) h108)
theorem n125 {pr : CallA} [PrB pr] {w : World} {k : Value → AH → Prop} {x0 x1 : Value} {h0 : AH}  (h : N125 pr w k x0 x1 h0) : CW pr w 125 [x0, x1] h0 k :=
  call_c (fn := Proofs.Tryz.f125) (PrB.other _ _ _ rfl) Proofs.Tryz.func125 (c := bodyC PG 125) (by kernel_rfl) (by kernel_rfl) (by kernel_rfl) (by
    have e : Wc PG pr w (bodyC PG 125) (endC PG w Proofs.Tryz.f125.results.toList k) (argsE [x0, x1]) h0 = N125 pr w k x0 x1 h0 := by kernel_rfl
    exact e.mpr h)

/-- pitot/config.Check$1 -/
noncomputable def N124 (pr : CallA) (w : World) (k : Value → AH → Prop) (x0 : Value) (h0 : AH) : Prop :=
  rgn 2 h0 fun n100 h101 =>
  al n100 (cellsL x0) 4 h101 fun x102 h103 =>
  rgn 2 h103 fun n104 h105 =>
  k (.func (.func 125) #[] #[x102]) h105
theorem n124 {pr : CallA} [PrB pr] {w : World} {k : Value → AH → Prop} {x0 : Value} {h0 : AH}  (h : N124 pr w k x0 h0) : CW pr w 124 [x0] h0 k :=
  call_c (fn := Proofs.Tryz.f124) (PrB.other _ _ _ rfl) Proofs.Tryz.func124 (c := bodyC PG 124) (by kernel_rfl) (by kernel_rfl) (by kernel_rfl) (by
    have e : Wc PG pr w (bodyC PG 124) (endC PG w Proofs.Tryz.f124.results.toList k) (argsE [x0]) h0 = N124 pr w k x0 h0 := by kernel_rfl
    exact e.mpr h)

/-- pitot/config.Check$4 -/
noncomputable def N132 (pr : CallA) (w : World) (k : Value → AH → Prop) (x0 x1 x2 : Value) (h0 : AH) : Prop :=
  rgn 1 h0 fun n100 h101 =>
  rgn 5 h101 fun n102 h103 =>
  opt (ld1 w x1 h103) fun x104 =>
  opt (ld1 w x2 h103) fun x105 =>
  CW pr w 133 [x104, x0, x105] h103 fun x106 h107 =>
  k x106 h107
theorem n132 {pr : CallA} [PrB pr] {w : World} {k : Value → AH → Prop} {x0 x1 x2 : Value} {h0 : AH}  (h : N132 pr w k x0 x1 x2 h0) : CW pr w 132 [x0, x1, x2] h0 k :=
  call_c (fn := Proofs.Tryz.f132) (PrB.other _ _ _ rfl) Proofs.Tryz.func132 (c := bodyC PG 132) (by kernel_rfl) (by kernel_rfl) (by kernel_rfl) (by
    have e : Wc PG pr w (bodyC PG 132) (endC PG w Proofs.Tryz.f132.results.toList k) (argsE [x0, x1, x2]) h0 = N132 pr w k x0 x1 x2 h0 := by kernel_rfl
    exact e.mpr h)

/-- pitot/config.Check$5 -/
noncomputable def N134 (pr : CallA) (w : World) (k : Value → AH → Prop) (x0 x1 : Value) (h0 : AH) : Prop :=
  rgn 1 h0 fun n100 h101 =>
  rgn 4 h101 fun n102 h103 =>
  opt (ldA w 6 x1 h103) fun x104 =>
  CW pr w 44 [x104, x0] h103 fun x105 h106 =>
  opt (gbin PG .gtr 3 x105 (.int .i64 6250) 3 4) fun x107 =>
  iteV x107
  (rgn 1 h106 fun n108 h109 =>
  k (.int .i64 26) h109)
  (rgn 1 h106 fun n110 h111 =>
  k (.int .i64 0) h111)
theorem n134 {pr : CallA} [PrB pr] {w : World} {k : Value → AH → Prop} {x0 x1 : Value} {h0 : AH}  (h : N134 pr w k x0 x1 h0) : CW pr w 134 [x0, x1] h0 k :=
  call_c (fn := Proofs.Tryz.f134) (PrB.other _ _ _ rfl) Proofs.Tryz.func134 (c := bodyC PG 134) (by kernel_rfl) (by kernel_rfl) (by kernel_rfl) (by
    have e : Wc PG pr w (bodyC PG 134) (endC PG w Proofs.Tryz.f134.results.toList k) (argsE [x0, x1]) h0 = N134 pr w k x0 x1 h0 := by kernel_rfl
    exact e.mpr h)

/-- (*pitot/config.net).part -/
noncomputable def N229 (pr : CallA) (w : World) (k : Value → AH → Prop) (x0 x1 : Value) (h0 : AH) : Prop :=
  rgn 1 h0 fun n100 h101 =>
  rgn 10 h101 fun n102 h103 =>
  opt (nckV x0) fun x104 =>
  opt (fa 0 x104) fun x105 =>
  opt (fa 1 x105) fun x106 =>
  opt (ld1 w x106 h103) fun x107 =>
  opt (lenS x107) fun n108 =>
  opt (gbin PG .sub 3 (.int .i64 n108) (.int .i64 1) 3 3) fun x109 =>
  CW pr w 126 [x1, (.int .i64 0), x109] h103 fun x110 h111 =>
  k x110 h111
theorem n229 {pr : CallA} [PrB pr] {w : World} {k : Value → AH → Prop} {x0 x1 : Value} {h0 : AH}  (h : N229 pr w k x0 x1 h0) : CW pr w 229 [x0, x1] h0 k :=
  call_c (fn := Proofs.Tryz.f229) (PrB.other _ _ _ rfl) Proofs.Tryz.func229 (c := bodyC PG 229) (by kernel_rfl) (by kernel_rfl) (by kernel_rfl) (by
    have e : Wc PG pr w (bodyC PG 229) (endC PG w Proofs.Tryz.f229.results.toList k) (argsE [x0, x1]) h0 = N229 pr w k x0 x1 h0 := by kernel_rfl
    exact e.mpr h)

/-- pitot/config.Jitter -/
noncomputable def N44 (pr : CallA) (w : World) (k : Value → AH → Prop) (x0 x1 : Value) (h0 : AH) : Prop :=
  rgn 2 h0 fun n100 h101 =>
  al n100 (cellsL x0) 36 h101 fun x102 h103 =>
  rgn 1 h103 fun n104 h105 =>
  rgn 4 h105 fun n106 h107 =>
  opt (fa 4 x102) fun x108 =>
  opt (ld1 w x108 h107) fun x109 =>
  opt (lenS x109) fun n110 =>
  Wg PG pr w none (.loop (cd PG 44 [1, 1, 0, 1, 0, 0])) (outOf 0 (thenW PG pr w (cd PG 44 [1, 1, 1]) (endC PG w [(.tmp 4)] k))) (us (argsE [x0, x1]) [(2, x102), (4, (.int .i64 0)), (5, (.int .i64 500)), (8, x108), (9, x109), (10, (.int .i64 n110)), (11, (.int .i64 0))]) h107
theorem n44 {pr : CallA} [PrB pr] {w : World} {k : Value → AH → Prop} {x0 x1 : Value} {h0 : AH}  (h : N44 pr w k x0 x1 h0) : CW pr w 44 [x0, x1] h0 k :=
  call_c (fn := Proofs.Tryz.f44) (PrB.other _ _ _ rfl) Proofs.Tryz.func44 (c := bodyC PG 44) (by kernel_rfl) (by kernel_rfl) (by kernel_rfl) (by
    have e : Wc PG pr w (bodyC PG 44) (endC PG w Proofs.Tryz.f44.results.toList k) (argsE [x0, x1]) h0 = N44 pr w k x0 x1 h0 := by kernel_rfl
    exact e.mpr h)
noncomputable def S44_110100 (pr : CallA) (w : World) (Q : Ex → Env → AH → Prop) (E0 : Env) (h0 : AH) : Prop :=
  rgn 1 h0 fun n100 h101 =>
  opt (gbin PG .lss 3 (E0 11) (E0 10) 3 0) fun x102 =>
  iteV x102
  (rgn 4 h101 fun n103 h104 =>
  opt (ixS 8 (E0 9) (E0 11)) fun x105 =>
  opt (ldA w 8 x105 h104) fun x106 =>
  al (n103 + 2) [(.int .i64 0), (.int .i64 0), (.int .i64 0), (.int .i64 0), (.bool false), (.int .i64 0), (.int .i64 0), (.slice none 0 0)] 50 h104 fun x107 h108 =>
  opt (stC 8 x107 x106 h108) fun h109 =>
  rgn 4 h109 fun n110 h111 =>
  opt (fa 1 x107) fun x112 =>
  opt (ld1 w x112 h111) fun x113 =>
  opt (eqC PG .eql 3 false x113 false (E0 1) 3 4) fun x114 =>
  iteV x114
  (rgn 6 h111 fun n115 h116 =>
  opt (fa 3 x107) fun x117 =>
  opt (ld1 w x117 h116) fun x118 =>
  opt (gbin PG .add 3 x118 (.int .i64 20) 3 3) fun x119 =>
  opt (gbin PG .add 3 (E0 5) x119 3 3) fun x120 =>
  rgn 2 h116 fun n121 h122 =>
  opt (gbin PG .add 3 (E0 11) (.int .i64 1) 3 3) fun x123 =>
  Q .normal (us E0 [(12, x102), (13, x105), (14, x106), (7, x107), (15, x112), (16, x113), (17, (E0 1)), (18, x114), (19, (E0 5)), (20, x117), (21, x118), (22, x119), (23, x120), (5, x120), (24, x123), (11, x123)]) h122)
  (rgn 2 h111 fun n124 h125 =>
  opt (gbin PG .add 3 (E0 11) (.int .i64 1) 3 3) fun x126 =>
  Q .normal (us E0 [(12, x102), (13, x105), (14, x106), (7, x107), (15, x112), (16, x113), (17, (E0 1)), (18, x114), (24, x126), (11, x126)]) h125))
  (Q (.exit 0) (us E0 [(12, x102)]) h101)
theorem s44_110100 {pr : CallA} {w : World} {Q : Ex → Env → AH → Prop} {E0 : Env} {h0 : AH} (h : S44_110100 pr w Q E0 h0) : Wc PG pr w (cd PG 44 [1, 1, 0, 1, 0, 0]) Q E0 h0 := by
    have e : Wc PG pr w (cd PG 44 [1, 1, 0, 1, 0, 0]) Q E0 h0 = S44_110100 pr w Q E0 h0 := by kernel_rfl
    exact e.mpr h
noncomputable def S44_111 (pr : CallA) (w : World) (Q : Ex → Env → AH → Prop) (E0 : Env) (h0 : AH) : Prop :=
  rgn 2 h0 fun n100 h101 =>
  Q .ret (us E0 [(25, (E0 5)), (4, (E0 5))]) h101
theorem s44_111 {pr : CallA} {w : World} {Q : Ex → Env → AH → Prop} {E0 : Env} {h0 : AH} (h : S44_111 pr w Q E0 h0) : Wc PG pr w (cd PG 44 [1, 1, 1]) Q E0 h0 := by
    have e : Wc PG pr w (cd PG 44 [1, 1, 1]) Q E0 h0 = S44_111 pr w Q E0 h0 := by kernel_rfl
    exact e.mpr h

/-- pitot/config.first -/
noncomputable def N135 (pr : CallA) (w : World) (k : Value → AH → Prop) (x0 x1 : Value) (h0 : AH) : Prop :=
  rgn 2 h0 fun n100 h101 =>
  rgn 2 h101 fun n102 h103 =>
  Wg PG pr w none (.loop (cd PG 135 [1, 0, 1, 0, 0])) (outOf 0 (thenW PG pr w (cd PG 135 [1, 1]) (endC PG w [(.tmp 4), (.tmp 5)] k))) (us (argsE [x0, x1]) [(4, (.int .i64 0)), (5, (.int .i64 0)), (8, x0), (9, (.int .i64 0))]) h103
theorem n135 {pr : CallA} [PrB pr] {w : World} {k : Value → AH → Prop} {x0 x1 : Value} {h0 : AH}  (h : N135 pr w k x0 x1 h0) : CW pr w 135 [x0, x1] h0 k :=
  call_c (fn := Proofs.Tryz.f135) (PrB.other _ _ _ rfl) Proofs.Tryz.func135 (c := bodyC PG 135) (by kernel_rfl) (by kernel_rfl) (by kernel_rfl) (by
    have e : Wc PG pr w (bodyC PG 135) (endC PG w Proofs.Tryz.f135.results.toList k) (argsE [x0, x1]) h0 = N135 pr w k x0 x1 h0 := by kernel_rfl
    exact e.mpr h)
noncomputable def S135_10100 (pr : CallA) (w : World) (Q : Ex → Env → AH → Prop) (E0 : Env) (h0 : AH) : Prop :=
  rgn 1 h0 fun n100 h101 =>
  opt (gbin PG .lss 3 (E0 9) (E0 8) 3 4) fun x102 =>
  iteV x102
  (rgn 2 h101 fun n103 h104 =>
  rgn 4 h104 fun n105 h106 =>
  calV PG pr w (E0 1) [(E0 9)] h106 fun x107 h108 =>
  rgn 2 h108 fun n109 h110 =>
  opt (eqC PG .neq 25 false x107 true (.int .i64 0) 25 4) fun x111 =>
  iteV x111
  (rgn 4 h110 fun n112 h113 =>
  Q .ret (us E0 [(10, x102), (11, (E0 9)), (6, (E0 9)), (12, (E0 1)), (13, (E0 9)), (14, x107), (7, x107), (15, x107), (16, x111), (17, (E0 9)), (18, x107), (4, (E0 9)), (5, x107)]) h113)
  (rgn 2 h110 fun n114 h115 =>
  opt (gbin PG .add 3 (E0 9) (.int .i64 1) 3 3) fun x116 =>
  Q .normal (us E0 [(10, x102), (11, (E0 9)), (6, (E0 9)), (12, (E0 1)), (13, (E0 9)), (14, x107), (7, x107), (15, x107), (16, x111), (19, x116), (9, x116)]) h115))
  (Q (.exit 0) (us E0 [(10, x102)]) h101)
theorem s135_10100 {pr : CallA} {w : World} {Q : Ex → Env → AH → Prop} {E0 : Env} {h0 : AH} (h : S135_10100 pr w Q E0 h0) : Wc PG pr w (cd PG 135 [1, 0, 1, 0, 0]) Q E0 h0 := by
    have e : Wc PG pr w (cd PG 135 [1, 0, 1, 0, 0]) Q E0 h0 = S135_10100 pr w Q E0 h0 := by kernel_rfl
    exact e.mpr h
noncomputable def S135_11 (pr : CallA) (w : World) (Q : Ex → Env → AH → Prop) (E0 : Env) (h0 : AH) : Prop :=
  rgn 2 h0 fun n100 h101 =>
  Q .ret (us E0 [(4, (.int .i64 (-1))), (5, (.int .i64 0))]) h101
theorem s135_11 {pr : CallA} {w : World} {Q : Ex → Env → AH → Prop} {E0 : Env} {h0 : AH} (h : S135_11 pr w Q E0 h0) : Wc PG pr w (cd PG 135 [1, 1]) Q E0 h0 := by
    have e : Wc PG pr w (cd PG 135 [1, 1]) Q E0 h0 = S135_11 pr w Q E0 h0 := by kernel_rfl
    exact e.mpr h

/-- (*pitot/config.net).window -/
noncomputable def N130 (pr : CallA) (w : World) (k : Value → AH → Prop) (x0 x1 x2 : Value) (h0 : AH) : Prop :=
  rgn 1 h0 fun n100 h101 =>
  rgn 10 h101 fun n102 h103 =>
  opt (nckV x0) fun x104 =>
  opt (fa 0 x104) fun x105 =>
  opt (fa 3 x105) fun x106 =>
  opt (ld1 w x106 h103) fun x107 =>
  opt (ixS 3 x107 x1) fun x108 =>
  opt (ldA w 3 x108 h103) fun x109 =>
  al (n102 + 8) [(.int .i64 0), (.int .i64 0), (.int .i64 0)] 127 h103 fun x110 h111 =>
  opt (stC 3 x110 x109 h111) fun h112 =>
  rgn 34 h112 fun n113 h114 =>
  opt (gbin PG .geq 3 x1 (.int .i64 256) 3 4) fun x115 =>
  gdP (gw x115 false) (fun k' => k' x0 h114) h114 fun x116 h117 =>
  gdP (gw x115 false) (fun k' => opt (fa 0 x110) fun x118 =>
  k' x118 h117) h117 fun x119 h120 =>
  gdP (gw x115 false) (fun k' => opt (ld1 w x119 h120) fun x121 =>
  k' x121 h120) h120 fun x122 h123 =>
  gdP (gw x115 false) (fun k' => CW pr w 229 [x116, x122] h123 fun x124 h125 =>
  k' x124 h125) h123 fun x126 h127 =>
  gdP (gw x115 false) (fun k' => opt (gun PG .not 4 x126 4) fun x128 =>
  k' x128 h127) h127 fun x129 h130 =>
  opt (pickV x115 (.bool true) x129) fun x131 =>
  gdP (gw x131 false) (fun k' => opt (fa 1 x110) fun x132 =>
  k' x132 h130) h130 fun x133 h134 =>
  gdP (gw x131 false) (fun k' => opt (ld1 w x133 h134) fun x135 =>
  k' x135 h134) h134 fun x136 h137 =>
  gdP (gw x131 false) (fun k' => k' x0 h137) h137 fun x138 h139 =>
  gdP (gw x131 false) (fun k' => opt (nckV x138) fun x140 =>
  k' x140 h139) h139 fun x141 h142 =>
  gdP (gw x131 false) (fun k' => opt (fa 0 x141) fun x143 =>
  k' x143 h142) h142 fun x144 h145 =>
  gdP (gw x131 false) (fun k' => opt (fa 2 x144) fun x146 =>
  k' x146 h145) h145 fun x147 h148 =>
  gdP (gw x131 false) (fun k' => opt (ld1 w x147 h148) fun x149 =>
  k' x149 h148) h148 fun x150 h151 =>
  gdP (gw x131 false) (fun k' => CW pr w 126 [x136, (.int .i64 0), x150] h151 fun x152 h153 =>
  k' x152 h153) h151 fun x154 h155 =>
  gdP (gw x131 false) (fun k' => opt (gun PG .not 4 x154 4) fun x156 =>
  k' x156 h155) h155 fun x157 h158 =>
  opt (pickV x131 (.bool true) x157) fun x159 =>
  gdP (gw x159 false) (fun k' => opt (fa 2 x110) fun x160 =>
  k' x160 h158) h158 fun x161 h162 =>
  gdP (gw x159 false) (fun k' => opt (ld1 w x161 h162) fun x163 =>
  k' x163 h162) h162 fun x164 h165 =>
  gdP (gw x159 false) (fun k' => k' x0 h165) h165 fun x166 h167 =>
  gdP (gw x159 false) (fun k' => opt (nckV x166) fun x168 =>
  k' x168 h167) h167 fun x169 h170 =>
  gdP (gw x159 false) (fun k' => opt (fa 0 x169) fun x171 =>
  k' x171 h170) h170 fun x172 h173 =>
  gdP (gw x159 false) (fun k' => opt (fa 2 x172) fun x174 =>
  k' x174 h173) h173 fun x175 h176 =>
  gdP (gw x159 false) (fun k' => opt (ld1 w x175 h176) fun x177 =>
  k' x177 h176) h176 fun x178 h179 =>
  gdP (gw x159 false) (fun k' => opt (fa 1 x110) fun x180 =>
  k' x180 h179) h179 fun x181 h182 =>
  gdP (gw x159 false) (fun k' => opt (ld1 w x181 h182) fun x183 =>
  k' x183 h182) h182 fun x184 h185 =>
  gdP (gw x159 false) (fun k' => opt (gbin PG .sub 3 x178 x184 3 3) fun x186 =>
  k' x186 h185) h185 fun x187 h188 =>
  gdP (gw x159 false) (fun k' => CW pr w 126 [x164, (.int .i64 1), x187] h188 fun x189 h190 =>
  k' x189 h190) h188 fun x191 h192 =>
  gdP (gw x159 false) (fun k' => opt (gun PG .not 4 x191 4) fun x193 =>
  k' x193 h192) h192 fun x194 h195 =>
  opt (pickV x159 (.bool true) x194) fun x196 =>
  (True) ∧ (iteV x196
  (rgn 1 h195 fun n197 h198 =>
  k (.int .i64 1) h198)
  (rgn 10 h195 fun n199 h200 =>
  opt (nckV x0) fun x201 =>
  opt (fa 0 x201) fun x202 =>
  opt (fa 1 x202) fun x203 =>
  opt (ld1 w x203 h200) fun x204 =>
  opt (fa 0 x110) fun x205 =>
  opt (ld1 w x205 h200) fun x206 =>
  opt (ixS 1 x204 x206) fun x207 =>
  opt (ld1 w x207 h200) fun x208 =>
  (True) ∧ (rgn 6 h200 fun n209 h210 =>
  opt (fa 1 x110) fun x211 =>
  opt (ld1 w x211 h210) fun x212 =>
  opt (aLookup PG 94 x2 x208 false h210) fun x213 =>
  opt (gbin PG .lss 3 x212 x213 3 4) fun x214 =>
  iteV x214
  (rgn 1 h210 fun n215 h216 =>
  k (.int .i64 25) h216)
  (rgn 8 h210 fun n217 h218 =>
  opt (fa 1 x110) fun x219 =>
  opt (ld1 w x219 h218) fun x220 =>
  opt (fa 2 x110) fun x221 =>
  opt (ld1 w x221 h218) fun x222 =>
  opt (gbin PG .add 3 x220 x222 3 3) fun x223 =>
  opt (aMapUpdate PG 94 x2 x208 x223 h218) fun h224 =>
  rgn 1 h224 fun n225 h226 =>
  k (.int .i64 0) h226))))
theorem n130 {pr : CallA} [PrB pr] {w : World} {k : Value → AH → Prop} {x0 x1 x2 : Value} {h0 : AH}  (h : N130 pr w k x0 x1 x2 h0) : CW pr w 130 [x0, x1, x2] h0 k :=
  call_c (fn := Proofs.Tryz.f130) (PrB.other _ _ _ rfl) Proofs.Tryz.func130 (c := bodyC PG 130) (by kernel_rfl) (by kernel_rfl) (by kernel_rfl) (by
    have e : Wc PG pr w (bodyC PG 130) (endC PG w Proofs.Tryz.f130.results.toList k) (argsE [x0, x1, x2]) h0 = N130 pr w k x0 x1 x2 h0 := by kernel_rfl
    exact e.mpr h)

/-- pitot/config.Check -/
noncomputable def N41 (pr : CallA) (w : World) (k : Value → AH → Prop) (x0 : Value) (h0 : AH) : Prop :=
  rgn 3 h0 fun n100 h101 =>
  al n100 (cellsL x0) 36 h101 fun x102 h103 =>
  al (n100 + 1) [(.int .i64 0), (.int .i64 0)] 62 h103 fun x104 h105 =>
  rgn 6 h105 fun n106 h107 =>
  opt (ldA w 6 x102 h107) fun x108 =>
  alM (n106 + 1) h107 fun x109 h110 =>
  opt ((fillP [(.int .i64 0), (.slice none 0 0), (.int .i64 0), (.slice none 0 0), (.slice none 0 0), (.slice none 0 0), (.map none)] [(0, 6, x108), (6, 1, x109)]).map fun l => Value.agg ⟨l⟩) fun x111 =>
  al (n106 + 3) (cellsL x111) 240 h110 fun x112 h113 =>
  al (n106 + 4) [(.pointer none)] 237 h113 fun x114 h115 =>
  opt (stC 1 x114 x112 h115) fun h116 =>
  rgn 6 h116 fun n117 h118 =>
  alM n117 h118 fun x119 h120 =>
  alM (n117 + 1) h120 fun x121 h122 =>
  al (n117 + 2) [(.map none)] 94 h122 fun x123 h124 =>
  al (n117 + 3) [(.map none)] 241 h124 fun x125 h126 =>
  opt (stC 1 x123 x119 h126) fun h127 =>
  opt (stC 1 x125 x121 h127) fun h128 =>
  rgn 2 h128 fun n129 h130 =>
  al n129 [.nilFunc] 242 h130 fun x131 h132 =>
  opt (stC 1 x131 (.func (.func 124) #[] #[]) h132) fun h133 =>
  rgn 41 h133 fun n134 h135 =>
  opt (ld1 w x131 h135) fun x136 =>
  opt (fa 0 x102) fun x137 =>
  opt (ld1 w x137 h135) fun x138 =>
  CW pr w 126 [x138, (.int .i64 1), (.int .i64 64)] h135 fun x139 h140 =>
  calV PG pr w x136 [x139] h140 fun x141 h142 =>
  opt ((fillP [(.int .i64 0), (.int .i64 0), .nilFunc] [(0, 1, (.int .i64 1)), (1, 1, (.int .i64 1)), (2, 1, x141)]).map fun l => Value.agg ⟨l⟩) fun x143 =>
  opt (fa 1 x102) fun x144 =>
  opt (ld1 w x144 h142) fun x145 =>
  opt (lenS x145) fun n146 =>
  opt ((fillP [(.int .i64 0), (.int .i64 0), .nilFunc] [(0, 1, (.int .i64 2)), (1, 1, (.int .i64 n146)), (2, 1, (.func (.func 127) #[] #[x131, x114, x102]))]).map fun l => Value.agg ⟨l⟩) fun x147 =>
  opt (ld1 w x131 h142) fun x148 =>
  opt (fa 2 x102) fun x149 =>
  opt (ld1 w x149 h142) fun x150 =>
  CW pr w 126 [x150, (.int .i64 1), (.int .i64 1073741824)] h142 fun x151 h152 =>
  calV PG pr w x148 [x151] h152 fun x153 h154 =>
  opt ((fillP [(.int .i64 0), (.int .i64 0), .nilFunc] [(0, 1, (.int .i64 3)), (1, 1, (.int .i64 1)), (2, 1, x153)]).map fun l => Value.agg ⟨l⟩) fun x155 =>
  opt (fa 3 x102) fun x156 =>
  opt (ld1 w x156 h154) fun x157 =>
  opt (lenS x157) fun n158 =>
  opt ((fillP [(.int .i64 0), (.int .i64 0), .nilFunc] [(0, 1, (.int .i64 4)), (1, 1, (.int .i64 n158)), (2, 1, (.func (.func 129) #[] #[x114, x123]))]).map fun l => Value.agg ⟨l⟩) fun x159 =>
  opt (fa 4 x102) fun x160 =>
  opt (ld1 w x160 h154) fun x161 =>
  opt (lenS x161) fun n162 =>
  opt (ld1 w x114 h154) fun x163 =>
  opt ((fillP [(.int .i64 0), (.int .i64 0), .nilFunc] [(0, 1, (.int .i64 5)), (1, 1, (.int .i64 n162)), (2, 1, (.func (.func 131) #[x163] #[]))]).map fun l => Value.agg ⟨l⟩) fun x164 =>
  opt (fa 5 x102) fun x165 =>
  opt (ld1 w x165 h154) fun x166 =>
  opt (lenS x166) fun n167 =>
  opt ((fillP [(.int .i64 0), (.int .i64 0), .nilFunc] [(0, 1, (.int .i64 6)), (1, 1, (.int .i64 n167)), (2, 1, (.func (.func 132) #[] #[x114, x125]))]).map fun l => Value.agg ⟨l⟩) fun x168 =>
  opt (fa 0 x102) fun x169 =>
  opt (ld1 w x169 h154) fun x170 =>
  opt (gmm PG false [x170, (.int .i64 64)] #[3, 3] 3) fun x171 =>
  opt ((fillP [(.int .i64 0), (.int .i64 0), .nilFunc] [(0, 1, (.int .i64 7)), (1, 1, x171), (2, 1, (.func (.func 134) #[] #[x102]))]).map fun l => Value.agg ⟨l⟩) fun x172 =>
  nmOk h154 (n134 + 38) (opt ((fillP [(.int .i64 0), (.int .i64 0), .nilFunc, (.int .i64 0), (.int .i64 0), .nilFunc, (.int .i64 0), (.int .i64 0), .nilFunc, (.int .i64 0), (.int .i64 0), .nilFunc, (.int .i64 0), (.int .i64 0), .nilFunc, (.int .i64 0), (.int .i64 0), .nilFunc, (.int .i64 0), (.int .i64 0), .nilFunc] [(0, 3, x143), (3, 3, x147), (6, 3, x155), (9, 3, x159), (12, 3, x164), (15, 3, x168), (18, 3, x172)]).map fun l => (l, 244)) fun q173 =>
  alS (n134 + 38) 7 q173.1 q173.2 h154 fun x174 h175 =>
  opt (lenS x174) fun n176 =>
  ((opt ((ld1 w x131 h140).map fun v => (v, h140)) fun q => sameV q.1 x136 = true) ∧ (opt ((ld1 w x144 h135).map fun v => (v, h135)) fun q => sameV q.1 x145 = true) ∧ (opt ((ld1 w x144 h140).map fun v => (v, h140)) fun q => sameV q.1 x145 = true) ∧ (opt ((lenS x145).map fun (n : Nat) => (Value.int .i64 n, h135)) fun q => sameV q.1 (.int .i64 n146) = true) ∧ (opt ((lenS x145).map fun (n : Nat) => (Value.int .i64 n, h140)) fun q => sameV q.1 (.int .i64 n146) = true) ∧ (opt ((ld1 w x131 h135).map fun v => (v, h135)) fun q => sameV q.1 x148 = true) ∧ (opt ((ld1 w x131 h140).map fun v => (v, h140)) fun q => sameV q.1 x148 = true) ∧ (opt ((ld1 w x149 h135).map fun v => (v, h135)) fun q => sameV q.1 x150 = true) ∧ (opt ((ld1 w x149 h140).map fun v => (v, h140)) fun q => sameV q.1 x150 = true) ∧ (opt ((ld1 w x144 h152).map fun v => (v, h152)) fun q => sameV q.1 x145 = true) ∧ (opt ((lenS x145).map fun (n : Nat) => (Value.int .i64 n, h152)) fun q => sameV q.1 (.int .i64 n146) = true) ∧ (opt ((ld1 w x131 h152).map fun v => (v, h152)) fun q => sameV q.1 x148 = true) ∧ (opt ((ld1 w x144 h154).map fun v => (v, h154)) fun q => sameV q.1 x145 = true) ∧ (opt ((lenS x145).map fun (n : Nat) => (Value.int .i64 n, h154)) fun q => sameV q.1 (.int .i64 n146) = true) ∧ (opt ((ld1 w x156 h135).map fun v => (v, h135)) fun q => sameV q.1 x157 = true) ∧ (opt ((ld1 w x156 h140).map fun v => (v, h140)) fun q => sameV q.1 x157 = true) ∧ (opt ((ld1 w x156 h142).map fun v => (v, h142)) fun q => sameV q.1 x157 = true) ∧ (opt ((ld1 w x156 h152).map fun v => (v, h152)) fun q => sameV q.1 x157 = true) ∧ (opt ((lenS x157).map fun (n : Nat) => (Value.int .i64 n, h135)) fun q => sameV q.1 (.int .i64 n158) = true) ∧ (opt ((lenS x157).map fun (n : Nat) => (Value.int .i64 n, h140)) fun q => sameV q.1 (.int .i64 n158) = true) ∧ (opt ((lenS x157).map fun (n : Nat) => (Value.int .i64 n, h142)) fun q => sameV q.1 (.int .i64 n158) = true) ∧ (opt ((lenS x157).map fun (n : Nat) => (Value.int .i64 n, h152)) fun q => sameV q.1 (.int .i64 n158) = true) ∧ (opt ((ld1 w x160 h135).map fun v => (v, h135)) fun q => sameV q.1 x161 = true) ∧ (opt ((ld1 w x160 h140).map fun v => (v, h140)) fun q => sameV q.1 x161 = true) ∧ (opt ((ld1 w x160 h142).map fun v => (v, h142)) fun q => sameV q.1 x161 = true) ∧ (opt ((ld1 w x160 h152).map fun v => (v, h152)) fun q => sameV q.1 x161 = true) ∧ (opt ((lenS x161).map fun (n : Nat) => (Value.int .i64 n, h135)) fun q => sameV q.1 (.int .i64 n162) = true) ∧ (opt ((lenS x161).map fun (n : Nat) => (Value.int .i64 n, h140)) fun q => sameV q.1 (.int .i64 n162) = true) ∧ (opt ((lenS x161).map fun (n : Nat) => (Value.int .i64 n, h142)) fun q => sameV q.1 (.int .i64 n162) = true) ∧ (opt ((lenS x161).map fun (n : Nat) => (Value.int .i64 n, h152)) fun q => sameV q.1 (.int .i64 n162) = true) ∧ (opt ((ld1 w x114 h135).map fun v => (v, h135)) fun q => sameV q.1 x163 = true) ∧ (opt ((ld1 w x114 h140).map fun v => (v, h140)) fun q => sameV q.1 x163 = true) ∧ (opt ((ld1 w x114 h142).map fun v => (v, h142)) fun q => sameV q.1 x163 = true) ∧ (opt ((ld1 w x114 h152).map fun v => (v, h152)) fun q => sameV q.1 x163 = true) ∧ (opt ((ld1 w x165 h135).map fun v => (v, h135)) fun q => sameV q.1 x166 = true) ∧ (opt ((ld1 w x165 h140).map fun v => (v, h140)) fun q => sameV q.1 x166 = true) ∧ (opt ((ld1 w x165 h142).map fun v => (v, h142)) fun q => sameV q.1 x166 = true) ∧ (opt ((ld1 w x165 h152).map fun v => (v, h152)) fun q => sameV q.1 x166 = true) ∧ (opt ((lenS x166).map fun (n : Nat) => (Value.int .i64 n, h135)) fun q => sameV q.1 (.int .i64 n167) = true) ∧ (opt ((lenS x166).map fun (n : Nat) => (Value.int .i64 n, h140)) fun q => sameV q.1 (.int .i64 n167) = true) ∧ (opt ((lenS x166).map fun (n : Nat) => (Value.int .i64 n, h142)) fun q => sameV q.1 (.int .i64 n167) = true) ∧ (opt ((lenS x166).map fun (n : Nat) => (Value.int .i64 n, h152)) fun q => sameV q.1 (.int .i64 n167) = true) ∧ (opt ((ld1 w x169 h135).map fun v => (v, h135)) fun q => sameV q.1 x170 = true) ∧ (opt ((ld1 w x169 h140).map fun v => (v, h140)) fun q => sameV q.1 x170 = true) ∧ (opt ((ld1 w x169 h142).map fun v => (v, h142)) fun q => sameV q.1 x170 = true) ∧ (opt ((ld1 w x169 h152).map fun v => (v, h152)) fun q => sameV q.1 x170 = true) ∧ True) ∧ (Wg PG pr w none (.loop (cd PG 41 [1, 1, 1, 1, 0, 1, 0, 0])) (outOf 0 (thenW PG pr w (cd PG 41 [1, 1, 1, 1, 1]) (endC PG w [(.cell 2 62), (.tmp 3)] k))) (us (argsE [x0]) [(1, x102), (2, x104), (3, (.int .i64 0)), (12, x108), (13, x109), (14, x111), (15, x112), (4, x114), (16, x119), (17, x121), (5, x123), (6, x125), (7, x131), (18, x136), (19, x137), (20, x138), (21, x139), (22, x141), (23, x143), (24, x144), (25, x145), (26, (.int .i64 n146)), (27, (.func (.func 127) #[] #[x131, x114, x102])), (28, x147), (29, x148), (30, x149), (31, x150), (32, x151), (33, x153), (34, x155), (35, x156), (36, x157), (37, (.int .i64 n158)), (38, (.func (.func 129) #[] #[x114, x123])), (39, x159), (40, x160), (41, x161), (42, (.int .i64 n162)), (43, x163), (44, (.func (.func 131) #[x163] #[])), (45, x164), (46, x165), (47, x166), (48, (.int .i64 n167)), (49, (.func (.func 132) #[] #[x114, x125])), (50, x168), (51, x169), (52, x170), (53, x171), (54, (.func (.func 134) #[] #[x102])), (55, x172), (56, x174), (57, (.int .i64 n176)), (58, (.int .i64 0))]) h175))
theorem n41 {pr : CallA} [PrB pr] {w : World} {k : Value → AH → Prop} {x0 : Value} {h0 : AH}  (h : N41 pr w k x0 h0) : CW pr w 41 [x0] h0 k :=
  call_c (fn := Proofs.Tryz.f41) (PrB.other _ _ _ rfl) Proofs.Tryz.func41 (c := bodyC PG 41) (by kernel_rfl) (by kernel_rfl) (by kernel_rfl) (by
    have e : Wc PG pr w (bodyC PG 41) (endC PG w Proofs.Tryz.f41.results.toList k) (argsE [x0]) h0 = N41 pr w k x0 h0 := by kernel_rfl
    exact e.mpr h)
noncomputable def S41_11110100 (pr : CallA) (w : World) (Q : Ex → Env → AH → Prop) (E0 : Env) (h0 : AH) : Prop :=
  rgn 1 h0 fun n100 h101 =>
  opt (gbin PG .lss 3 (E0 58) (E0 57) 3 0) fun x102 =>
  iteV x102
  (rgn 4 h101 fun n103 h104 =>
  opt (ixS 3 (E0 56) (E0 58)) fun x105 =>
  opt (ldA w 3 x105 h104) fun x106 =>
  al (n103 + 2) [(.int .i64 0), (.int .i64 0), .nilFunc] 244 h104 fun x107 h108 =>
  opt (stC 3 x107 x106 h108) fun h109 =>
  rgn 10 h109 fun n110 h111 =>
  opt (fa 1 x107) fun x112 =>
  opt (ld1 w x112 h111) fun x113 =>
  opt (fa 2 x107) fun x114 =>
  opt (ld1 w x114 h111) fun x115 =>
  CW pr w 135 [x113, x115] h111 fun x116 h117 =>
  opt (extV 0 x116) fun x118 =>
  opt (extV 1 x116) fun x119 =>
  rgn 2 h117 fun n120 h121 =>
  opt (eqC PG .neq 25 false x119 true (.int .i64 0) 25 4) fun x122 =>
  iteV x122
  (rgn 7 h121 fun n123 h124 =>
  opt (fa 0 x107) fun x125 =>
  opt (ld1 w x125 h124) fun x126 =>
  opt ((fillP [(.int .i64 0), (.int .i64 0)] [(0, 1, x126), (1, 1, x118)]).map fun l => Value.agg ⟨l⟩) fun x127 =>
  opt (stC 2 (E0 2) x127 h124) fun h128 =>
  Q .ret (us E0 [(59, x102), (60, x105), (61, x106), (9, x107), (63, x112), (64, x113), (65, x114), (66, x115), (67, x116), (62, x116), (68, x118), (69, x119), (10, x118), (11, x119), (70, x119), (71, x122), (72, x125), (73, x126), (74, x118), (75, x127), (76, x119), (3, x119)]) h128)
  (rgn 2 h121 fun n129 h130 =>
  opt (gbin PG .add 3 (E0 58) (.int .i64 1) 3 3) fun x131 =>
  Q .normal (us E0 [(59, x102), (60, x105), (61, x106), (9, x107), (63, x112), (64, x113), (65, x114), (66, x115), (67, x116), (62, x116), (68, x118), (69, x119), (10, x118), (11, x119), (70, x119), (71, x122), (77, x131), (58, x131)]) h130))
  (Q (.exit 0) (us E0 [(59, x102)]) h101)
theorem s41_11110100 {pr : CallA} {w : World} {Q : Ex → Env → AH → Prop} {E0 : Env} {h0 : AH} (h : S41_11110100 pr w Q E0 h0) : Wc PG pr w (cd PG 41 [1, 1, 1, 1, 0, 1, 0, 0]) Q E0 h0 := by
    have e : Wc PG pr w (cd PG 41 [1, 1, 1, 1, 0, 1, 0, 0]) Q E0 h0 = S41_11110100 pr w Q E0 h0 := by kernel_rfl
    exact e.mpr h
noncomputable def S41_11111 (pr : CallA) (w : World) (Q : Ex → Env → AH → Prop) (E0 : Env) (h0 : AH) : Prop :=
  rgn 3 h0 fun n100 h101 =>
  opt ((fillP [(.int .i64 0), (.int .i64 0)] []).map fun l => Value.agg ⟨l⟩) fun x102 =>
  opt (stC 2 (E0 2) x102 h101) fun h103 =>
  Q .ret (us E0 [(78, x102), (3, (.int .i64 0))]) h103
theorem s41_11111 {pr : CallA} {w : World} {Q : Ex → Env → AH → Prop} {E0 : Env} {h0 : AH} (h : S41_11111 pr w Q E0 h0) : Wc PG pr w (cd PG 41 [1, 1, 1, 1, 1]) Q E0 h0 := by
    have e : Wc PG pr w (cd PG 41 [1, 1, 1, 1, 1]) Q E0 h0 = S41_11111 pr w Q E0 h0 := by kernel_rfl
    exact e.mpr h

/-- slices.ContainsFunc[[]int,int] -/
noncomputable def N230 (pr : CallA) (w : World) (k : Value → AH → Prop) (x0 x1 : Value) (h0 : AH) : Prop :=
  rgn 1 h0 fun n100 h101 =>
  rgn 5 h101 fun n102 h103 =>
  CW pr w 318 [x0, x1] h103 fun x104 h105 =>
  opt (gbin PG .geq 3 x104 (.int .i64 0) 3 4) fun x106 =>
  k x106 h105
theorem n230 {pr : CallA} [PrB pr] {w : World} {k : Value → AH → Prop} {x0 x1 : Value} {h0 : AH}  (h : N230 pr w k x0 x1 h0) : CW pr w 230 [x0, x1] h0 k :=
  call_c (fn := Proofs.Tryz.f230) (PrB.other _ _ _ rfl) Proofs.Tryz.func230 (c := bodyC PG 230) (by kernel_rfl) (by kernel_rfl) (by kernel_rfl) (by
    have e : Wc PG pr w (bodyC PG 230) (endC PG w Proofs.Tryz.f230.results.toList k) (argsE [x0, x1]) h0 = N230 pr w k x0 x1 h0 := by kernel_rfl
    exact e.mpr h)

/-- slices.IndexFunc[[]int,int] -/
noncomputable def N318 (pr : CallA) (w : World) (k : Value → AH → Prop) (x0 x1 : Value) (h0 : AH) : Prop :=
  rgn 1 h0 fun n100 h101 =>
  rgn 3 h101 fun n102 h103 =>
  opt (lenS x0) fun n104 =>
  Wg PG pr w none (.loop (cd PG 318 [1, 0, 1, 0, 0])) (outOf 0 (thenW PG pr w (cd PG 318 [1, 1]) (endC PG w [(.tmp 4)] k))) (us (argsE [x0, x1]) [(4, (.int .i64 0)), (6, x0), (7, (.int .i64 n104)), (8, (.int .i64 0))]) h103
theorem n318 {pr : CallA} [PrB pr] {w : World} {k : Value → AH → Prop} {x0 x1 : Value} {h0 : AH}  (h : N318 pr w k x0 x1 h0) : CW pr w 318 [x0, x1] h0 k :=
  call_c (fn := Proofs.Tryz.f318) (PrB.other _ _ _ rfl) Proofs.Tryz.func318 (c := bodyC PG 318) (by kernel_rfl) (by kernel_rfl) (by kernel_rfl) (by
    have e : Wc PG pr w (bodyC PG 318) (endC PG w Proofs.Tryz.f318.results.toList k) (argsE [x0, x1]) h0 = N318 pr w k x0 x1 h0 := by kernel_rfl
    exact e.mpr h)
noncomputable def S318_10100 (pr : CallA) (w : World) (Q : Ex → Env → AH → Prop) (E0 : Env) (h0 : AH) : Prop :=
  rgn 1 h0 fun n100 h101 =>
  opt (gbin PG .lss 3 (E0 8) (E0 7) 3 0) fun x102 =>
  iteV x102
  (rgn 2 h101 fun n103 h104 =>
  rgn 6 h104 fun n105 h106 =>
  opt (ixS 1 (E0 0) (E0 8)) fun x107 =>
  opt (ld1 w x107 h106) fun x108 =>
  calV PG pr w (E0 1) [x108] h106 fun x109 h110 =>
  iteV x109
  (rgn 2 h110 fun n111 h112 =>
  Q .ret (us E0 [(9, x102), (10, (E0 8)), (5, (E0 8)), (11, (E0 1)), (12, (E0 0)), (13, (E0 8)), (14, x107), (15, x108), (16, x109), (17, (E0 8)), (4, (E0 8))]) h112)
  (rgn 2 h110 fun n113 h114 =>
  opt (gbin PG .add 3 (E0 8) (.int .i64 1) 3 3) fun x115 =>
  Q .normal (us E0 [(9, x102), (10, (E0 8)), (5, (E0 8)), (11, (E0 1)), (12, (E0 0)), (13, (E0 8)), (14, x107), (15, x108), (16, x109), (18, x115), (8, x115)]) h114))
  (Q (.exit 0) (us E0 [(9, x102)]) h101)
theorem s318_10100 {pr : CallA} {w : World} {Q : Ex → Env → AH → Prop} {E0 : Env} {h0 : AH} (h : S318_10100 pr w Q E0 h0) : Wc PG pr w (cd PG 318 [1, 0, 1, 0, 0]) Q E0 h0 := by
    have e : Wc PG pr w (cd PG 318 [1, 0, 1, 0, 0]) Q E0 h0 = S318_10100 pr w Q E0 h0 := by kernel_rfl
    exact e.mpr h
noncomputable def S318_11 (pr : CallA) (w : World) (Q : Ex → Env → AH → Prop) (E0 : Env) (h0 : AH) : Prop :=
  rgn 1 h0 fun n100 h101 =>
  Q .ret (us E0 [(4, (.int .i64 (-1)))]) h101
theorem s318_11 {pr : CallA} {w : World} {Q : Ex → Env → AH → Prop} {E0 : Env} {h0 : AH} (h : S318_11 pr w Q E0 h0) : Wc PG pr w (cd PG 318 [1, 1]) Q E0 h0 := by
    have e : Wc PG pr w (cd PG 318 [1, 1]) Q E0 h0 = S318_11 pr w Q E0 h0 := by kernel_rfl
    exact e.mpr h

/-- (*pitot/config.net).link$1 -/
noncomputable def N231 (pr : CallA) (w : World) (k : Value → AH → Prop) (x0 x1 x2 : Value) (h0 : AH) : Prop :=
  rgn 1 h0 fun n100 h101 =>
  rgn 11 h101 fun n102 h103 =>
  opt (ld1 w x1 h103) fun x104 =>
  CW pr w 128 [x104, x0] h103 fun x105 h106 =>
  opt (gun PG .not 4 x105 4) fun x107 =>
  gdP (gw x107 false) (fun k' => k' x0 h106) h106 fun x108 h109 =>
  gdP (gw x107 false) (fun k' => opt (fa 1 x2) fun x110 =>
  k' x110 h109) h109 fun x111 h112 =>
  gdP (gw x107 false) (fun k' => opt (ld1 w x111 h112) fun x113 =>
  k' x113 h112) h112 fun x114 h115 =>
  gdP (gw x107 false) (fun k' => opt (eqC PG .eql 3 false x108 false x114 3 4) fun x116 =>
  k' x116 h115) h115 fun x117 h118 =>
  opt (pickV x107 (.bool true) x117) fun x119 =>
  k x119 h118
theorem n231 {pr : CallA} [PrB pr] {w : World} {k : Value → AH → Prop} {x0 x1 x2 : Value} {h0 : AH}  (h : N231 pr w k x0 x1 x2 h0) : CW pr w 231 [x0, x1, x2] h0 k :=
  call_c (fn := Proofs.Tryz.f231) (PrB.other _ _ _ rfl) Proofs.Tryz.func231 (c := bodyC PG 231) (by kernel_rfl) (by kernel_rfl) (by kernel_rfl) (by
    have e : Wc PG pr w (bodyC PG 231) (endC PG w Proofs.Tryz.f231.results.toList k) (argsE [x0, x1, x2]) h0 = N231 pr w k x0 x1 x2 h0 := by kernel_rfl
    exact e.mpr h)

/-- (*pitot/config.net).link -/
noncomputable def N131 (pr : CallA) (w : World) (k : Value → AH → Prop) (x0 x1 : Value) (h0 : AH) : Prop :=
  rgn 2 h0 fun n100 h101 =>
  al n100 (cellsL x0) 237 h101 fun x102 h103 =>
  rgn 10 h103 fun n104 h105 =>
  opt (ld1 w x102 h105) fun x106 =>
  opt (nckV x106) fun x107 =>
  opt (fa 0 x107) fun x108 =>
  opt (fa 4 x108) fun x109 =>
  opt (ld1 w x109 h105) fun x110 =>
  opt (ixS 8 x110 x1) fun x111 =>
  opt (ldA w 8 x111 h105) fun x112 =>
  al (n104 + 8) [(.int .i64 0), (.int .i64 0), (.int .i64 0), (.int .i64 0), (.bool false), (.int .i64 0), (.int .i64 0), (.slice none 0 0)] 50 h105 fun x113 h114 =>
  opt (stC 8 x113 x112 h114) fun h115 =>
  rgn 22 h115 fun n116 h117 =>
  opt (gbin PG .geq 3 x1 (.int .i64 256) 3 4) fun x118 =>
  gdP (gw x118 false) (fun k' => opt (fa 0 x113) fun x119 =>
  k' x119 h117) h117 fun x120 h121 =>
  gdP (gw x118 false) (fun k' => opt (ld1 w x120 h121) fun x122 =>
  k' x122 h121) h121 fun x123 h124 =>
  gdP (gw x118 false) (fun k' => CW pr w 126 [x123, (.int .i64 1), (.int .i64 65535)] h124 fun x125 h126 =>
  k' x125 h126) h124 fun x127 h128 =>
  gdP (gw x118 false) (fun k' => opt (gun PG .not 4 x127 4) fun x129 =>
  k' x129 h128) h128 fun x130 h131 =>
  opt (pickV x118 (.bool true) x130) fun x132 =>
  gdP (gw x132 false) (fun k' => opt (ld1 w x102 h131) fun x133 =>
  k' x133 h131) h131 fun x134 h135 =>
  gdP (gw x132 false) (fun k' => opt (fa 1 x113) fun x136 =>
  k' x136 h135) h135 fun x137 h138 =>
  gdP (gw x132 false) (fun k' => opt (ld1 w x137 h138) fun x139 =>
  k' x139 h138) h138 fun x140 h141 =>
  gdP (gw x132 false) (fun k' => CW pr w 128 [x134, x140] h141 fun x142 h143 =>
  k' x142 h143) h141 fun x144 h145 =>
  gdP (gw x132 false) (fun k' => opt (gun PG .not 4 x144 4) fun x146 =>
  k' x146 h145) h145 fun x147 h148 =>
  opt (pickV x132 (.bool true) x147) fun x149 =>
  gdP (gw x149 false) (fun k' => opt (fa 2 x113) fun x150 =>
  k' x150 h148) h148 fun x151 h152 =>
  gdP (gw x149 false) (fun k' => opt (ld1 w x151 h152) fun x153 =>
  k' x153 h152) h152 fun x154 h155 =>
  gdP (gw x149 false) (fun k' => CW pr w 126 [x154, (.int .i64 0), (.int .i64 7)] h155 fun x156 h157 =>
  k' x156 h157) h155 fun x158 h159 =>
  gdP (gw x149 false) (fun k' => opt (gun PG .not 4 x158 4) fun x160 =>
  k' x160 h159) h159 fun x161 h162 =>
  opt (pickV x149 (.bool true) x161) fun x163 =>
  iteV x163
  (rgn 1 h162 fun n164 h165 =>
  k (.int .i64 1) h165)
  (rgn 23 h162 fun n166 h167 =>
  opt (fa 3 x113) fun x168 =>
  opt (ld1 w x168 h167) fun x169 =>
  CW pr w 126 [x169, (.int .i64 64), (.int .i64 1518)] h167 fun x170 h171 =>
  opt (gun PG .not 4 x170 4) fun x172 =>
  gdP (gw x172 false) (fun k' => opt (fa 5 x113) fun x173 =>
  k' x173 h171) h171 fun x174 h175 =>
  gdP (gw x172 false) (fun k' => opt (ld1 w x174 h175) fun x176 =>
  k' x176 h175) h175 fun x177 h178 =>
  gdP (gw x172 false) (fun k' => CW pr w 126 [x177, (.int .i64 1), (.int .i64 4)] h178 fun x179 h180 =>
  k' x179 h180) h178 fun x181 h182 =>
  gdP (gw x172 false) (fun k' => opt (gun PG .not 4 x181 4) fun x183 =>
  k' x183 h182) h182 fun x184 h185 =>
  opt (pickV x172 (.bool true) x184) fun x186 =>
  gdP (gw x186 false) (fun k' => opt (fa 6 x113) fun x187 =>
  k' x187 h185) h185 fun x188 h189 =>
  gdP (gw x186 false) (fun k' => opt (ld1 w x188 h189) fun x190 =>
  k' x190 h189) h189 fun x191 h192 =>
  gdP (gw x186 false) (fun k' => CW pr w 126 [x191, (.int .i64 0), (.int .i64 1073741824)] h192 fun x193 h194 =>
  k' x193 h194) h192 fun x195 h196 =>
  gdP (gw x186 false) (fun k' => opt (gun PG .not 4 x195 4) fun x197 =>
  k' x197 h196) h196 fun x198 h199 =>
  opt (pickV x186 (.bool true) x198) fun x200 =>
  gdP (gw x200 false) (fun k' => opt (fa 7 x113) fun x201 =>
  k' x201 h199) h199 fun x202 h203 =>
  gdP (gw x200 false) (fun k' => opt (ld1 w x202 h203) fun x204 =>
  k' x204 h203) h203 fun x205 h206 =>
  gdP (gw x200 false) (fun k' => opt (lenS x205) fun n207 =>
  k' (.int .i64 n207) h206) h206 fun x208 h209 =>
  gdP (gw x200 false) (fun k' => opt (eqC PG .eql 3 false x208 true (.int .i64 0) 3 4) fun x210 =>
  k' x210 h209) h209 fun x211 h212 =>
  opt (pickV x200 (.bool true) x211) fun x213 =>
  iteV x213
  (rgn 1 h212 fun n214 h215 =>
  k (.int .i64 1) h215)
  (rgn 18 h212 fun n216 h217 =>
  opt (gbin PG .gtr 3 x1 (.int .i64 0) 3 4) fun x218 =>
  gdP (gw x218 true) (fun k' => opt (ld1 w x102 h217) fun x219 =>
  k' x219 h217) h217 fun x220 h221 =>
  gdP (gw x218 true) (fun k' => opt (nckV x220) fun x222 =>
  k' x222 h221) h221 fun x223 h224 =>
  gdP (gw x218 true) (fun k' => opt (fa 0 x223) fun x225 =>
  k' x225 h224) h224 fun x226 h227 =>
  gdP (gw x218 true) (fun k' => opt (fa 4 x226) fun x228 =>
  k' x228 h227) h227 fun x229 h230 =>
  gdP (gw x218 true) (fun k' => opt (ld1 w x229 h230) fun x231 =>
  k' x231 h230) h230 fun x232 h233 =>
  gdP (gw x218 true) (fun k' => k' x1 h233) h233 fun x234 h235 =>
  gdP (gw x218 true) (fun k' => opt (gbin PG .sub 3 x234 (.int .i64 1) 3 3) fun x236 =>
  k' x236 h235) h235 fun x237 h238 =>
  gdP (gw x218 true) (fun k' => opt (ixS 8 x232 x237) fun x239 =>
  k' x239 h238) h238 fun x240 h241 =>
  gdP (gw x218 true) (fun k' => opt (fa 0 x240) fun x242 =>
  k' x242 h241) h241 fun x243 h244 =>
  gdP (gw x218 true) (fun k' => opt (ld1 w x243 h244) fun x245 =>
  k' x245 h244) h244 fun x246 h247 =>
  gdP (gw x218 true) (fun k' => opt (fa 0 x113) fun x248 =>
  k' x248 h247) h247 fun x249 h250 =>
  gdP (gw x218 true) (fun k' => opt (ld1 w x249 h250) fun x251 =>
  k' x251 h250) h250 fun x252 h253 =>
  gdP (gw x218 true) (fun k' => opt (gbin PG .geq 3 x246 x252 3 4) fun x254 =>
  k' x254 h253) h253 fun x255 h256 =>
  opt (pickV x218 x255 (.bool false)) fun x257 =>
  (True) ∧ (iteV x257
  (rgn 1 h256 fun n258 h259 =>
  k (.int .i64 25) h259)
  (rgn 5 h256 fun n260 h261 =>
  opt (fa 7 x113) fun x262 =>
  opt (ld1 w x262 h261) fun x263 =>
  opt (aSlice PG 31 x263 (some (.int .i64 1)) none none h261) fun x264 =>
  opt (lenS x264) fun n265 =>
  Wg PG pr w none (.loop (cd PG 131 [1, 1, 1, 0, 1, 0, 0])) (outOf 1 (thenW PG pr w (cd PG 131 [1, 1, 1, 1]) (endC PG w [(.tmp 4)] k))) (us (argsE [x0, x1]) [(2, x102), (4, (.int .i64 0)), (7, x106), (8, x107), (9, x108), (10, x109), (11, x110), (12, x1), (13, x111), (14, x112), (5, x113), (16, x1), (17, x118), (18, x118), (19, x120), (20, x123), (21, x127), (22, x130), (23, x132), (24, x132), (25, x134), (26, x137), (27, x140), (28, x144), (29, x147), (30, x149), (31, x149), (32, x151), (33, x154), (34, x158), (35, x161), (36, x163), (15, x163), (38, x168), (39, x169), (40, x170), (41, x172), (42, x172), (43, x174), (44, x177), (45, x181), (46, x184), (47, x186), (48, x186), (49, x188), (50, x191), (51, x195), (52, x198), (53, x200), (54, x200), (55, x202), (56, x205), (57, x208), (58, x211), (59, x213), (37, x213), (61, x1), (62, x218), (63, x218), (64, x220), (65, x223), (66, x226), (67, x229), (68, x232), (69, x234), (70, x237), (71, x240), (72, x243), (73, x246), (74, x249), (75, x252), (76, x255), (77, x257), (60, x257), (78, x262), (79, x263), (80, x264), (81, (.int .i64 n265)), (82, (.int .i64 0))]) h261))))
theorem n131 {pr : CallA} [PrB pr] {w : World} {k : Value → AH → Prop} {x0 x1 : Value} {h0 : AH}  (h : N131 pr w k x0 x1 h0) : CW pr w 131 [x0, x1] h0 k :=
  call_c (fn := Proofs.Tryz.f131) (PrB.other _ _ _ rfl) Proofs.Tryz.func131 (c := bodyC PG 131) (by kernel_rfl) (by kernel_rfl) (by kernel_rfl) (by
    have e : Wc PG pr w (bodyC PG 131) (endC PG w Proofs.Tryz.f131.results.toList k) (argsE [x0, x1]) h0 = N131 pr w k x0 x1 h0 := by kernel_rfl
    exact e.mpr h)
noncomputable def S131_1110100 (pr : CallA) (w : World) (Q : Ex → Env → AH → Prop) (E0 : Env) (h0 : AH) : Prop :=
  rgn 1 h0 fun n100 h101 =>
  opt (gbin PG .lss 3 (E0 82) (E0 81) 3 0) fun x102 =>
  iteV x102
  (rgn 2 h101 fun n103 h104 =>
  rgn 12 h104 fun n105 h106 =>
  opt (fa 7 (E0 5)) fun x107 =>
  opt (ld1 w x107 h106) fun x108 =>
  opt (ixS 1 x108 (E0 82)) fun x109 =>
  opt (ld1 w x109 h106) fun x110 =>
  opt (fa 7 (E0 5)) fun x111 =>
  opt (ld1 w x111 h106) fun x112 =>
  opt (gbin PG .add 3 (E0 82) (.int .i64 1) 3 3) fun x113 =>
  opt (ixS 1 x112 x113) fun x114 =>
  opt (ld1 w x114 h106) fun x115 =>
  opt (gbin PG .geq 3 x110 x115 3 4) fun x116 =>
  (True) ∧ (iteV x116
  (rgn 1 h106 fun n117 h118 =>
  Q .ret (us E0 [(83, x102), (84, (E0 82)), (6, (E0 82)), (85, x107), (86, x108), (87, (E0 82)), (88, x109), (89, x110), (90, x111), (91, x112), (92, (E0 82)), (93, x113), (94, x114), (95, x115), (96, x116), (4, (.int .i64 25))]) h118)
  (rgn 2 h106 fun n119 h120 =>
  opt (gbin PG .add 3 (E0 82) (.int .i64 1) 3 3) fun x121 =>
  Q .normal (us E0 [(83, x102), (84, (E0 82)), (6, (E0 82)), (85, x107), (86, x108), (87, (E0 82)), (88, x109), (89, x110), (90, x111), (91, x112), (92, (E0 82)), (93, x113), (94, x114), (95, x115), (96, x116), (97, x121), (82, x121)]) h120)))
  (Q (.exit 1) (us E0 [(83, x102)]) h101)
theorem s131_1110100 {pr : CallA} {w : World} {Q : Ex → Env → AH → Prop} {E0 : Env} {h0 : AH} (h : S131_1110100 pr w Q E0 h0) : Wc PG pr w (cd PG 131 [1, 1, 1, 0, 1, 0, 0]) Q E0 h0 := by
    have e : Wc PG pr w (cd PG 131 [1, 1, 1, 0, 1, 0, 0]) Q E0 h0 = S131_1110100 pr w Q E0 h0 := by kernel_rfl
    exact e.mpr h
noncomputable def S131_1111 (pr : CallA) (w : World) (Q : Ex → Env → AH → Prop) (E0 : Env) (h0 : AH) : Prop :=
  rgn 4 h0 fun n100 h101 =>
  opt (fa 7 (E0 5)) fun x102 =>
  opt (ld1 w x102 h101) fun x103 =>
  CW pr w 230 [x103, (.func (.func 231) #[] #[(E0 2), (E0 5)])] h101 fun x104 h105 =>
  iteV x104
  (rgn 1 h105 fun n106 h107 =>
  Q .ret (us E0 [(98, x102), (99, x103), (100, (.func (.func 231) #[] #[(E0 2), (E0 5)])), (101, x104), (4, (.int .i64 20))]) h107)
  (rgn 8 h105 fun n108 h109 =>
  opt (ld1 w (E0 2) h109) fun x110 =>
  opt (nckV x110) fun x111 =>
  opt (fa 6 x111) fun x112 =>
  opt (ld1 w x112 h109) fun x113 =>
  opt (fa 0 (E0 5)) fun x114 =>
  opt (ld1 w x114 h109) fun x115 =>
  opt (ldA w 8 (E0 5) h109) fun x116 =>
  opt (aMapUpdate PG 238 x113 x115 x116 h109) fun h117 =>
  (True) ∧ (rgn 1 h117 fun n118 h119 =>
  Q .ret (us E0 [(98, x102), (99, x103), (100, (.func (.func 231) #[] #[(E0 2), (E0 5)])), (101, x104), (102, x110), (103, x111), (104, x112), (105, x113), (106, x114), (107, x115), (108, x116), (4, (.int .i64 0))]) h119))
theorem s131_1111 {pr : CallA} {w : World} {Q : Ex → Env → AH → Prop} {E0 : Env} {h0 : AH} (h : S131_1111 pr w Q E0 h0) : Wc PG pr w (cd PG 131 [1, 1, 1, 1]) Q E0 h0 := by
    have e : Wc PG pr w (cd PG 131 [1, 1, 1, 1]) Q E0 h0 = S131_1111 pr w Q E0 h0 := by kernel_rfl
    exact e.mpr h

/-- pitot/config.ends -/
noncomputable def N232 (pr : CallA) (w : World) (k : Value → AH → Prop) (x0 x1 : Value) (h0 : AH) : Prop :=
  rgn 3 h0 fun n100 h101 =>
  al n100 (cellsL x0) 114 h101 fun x102 h103 =>
  al (n100 + 1) (cellsL x1) 50 h103 fun x104 h105 =>
  rgn 1 h105 fun n106 h107 =>
  rgn 10 h107 fun n108 h109 =>
  opt (fa 4 x102) fun x110 =>
  opt (ld1 w x110 h109) fun x111 =>
  gdP (gw x111 true) (fun k' => opt (fa 1 x104) fun x112 =>
  k' x112 h109) h109 fun x113 h114 =>
  gdP (gw x111 true) (fun k' => opt (ld1 w x113 h114) fun x115 =>
  k' x115 h114) h114 fun x116 h117 =>
  gdP (gw x111 true) (fun k' => opt (fa 1 x102) fun x118 =>
  k' x118 h117) h117 fun x119 h120 =>
  gdP (gw x111 true) (fun k' => opt (ld1 w x119 h120) fun x121 =>
  k' x121 h120) h120 fun x122 h123 =>
  gdP (gw x111 true) (fun k' => opt (eqC PG .neq 3 false x116 false x122 3 4) fun x124 =>
  k' x124 h123) h123 fun x125 h126 =>
  opt (pickV x111 x125 (.bool false)) fun x127 =>
  iteV x127
  (rgn 1 h126 fun n128 h129 =>
  k (.int .i64 20) h129)
  (rgn 12 h126 fun n130 h131 =>
  opt (fa 4 x102) fun x132 =>
  opt (ld1 w x132 h131) fun x133 =>
  opt (gun PG .not 4 x133 4) fun x134 =>
  gdP (gw x134 true) (fun k' => opt (fa 7 x104) fun x135 =>
  k' x135 h131) h131 fun x136 h137 =>
  gdP (gw x134 true) (fun k' => opt (ld1 w x136 h137) fun x138 =>
  k' x138 h137) h137 fun x139 h140 =>
  gdP (gw x134 true) (fun k' => opt (fa 1 x102) fun x141 =>
  k' x141 h140) h140 fun x142 h143 =>
  gdP (gw x134 true) (fun k' => opt (ld1 w x142 h143) fun x144 =>
  k' x144 h143) h143 fun x145 h146 =>
  gdP (gw x134 true) (fun k' => CW pr w 274 [x139, x145] h146 fun x147 h148 =>
  k' x147 h148) h146 fun x149 h150 =>
  gdP (gw x134 true) (fun k' => opt (gun PG .not 4 x149 4) fun x151 =>
  k' x151 h150) h150 fun x152 h153 =>
  opt (pickV x134 x152 (.bool false)) fun x154 =>
  iteV x154
  (rgn 1 h153 fun n155 h156 =>
  k (.int .i64 20) h156)
  (rgn 3 h153 fun n157 h158 =>
  opt (fa 4 x102) fun x159 =>
  opt (ld1 w x159 h158) fun x160 =>
  (fun (j161 : Value → AH → Prop) => iteV x160
  (rgn 4 h158 fun n175 h176 =>
  opt (fa 5 x104) fun x177 =>
  opt (ld1 w x177 h176) fun x178 =>
  opt (gbin PG .sub 3 x178 (.int .i64 1) 3 3) fun x179 =>
  j161 x179 h176)
  (j161 (.int .i64 0) h158)) (fun y162 h163 =>
  rgn 5 h163 fun n164 h165 =>
  opt (fa 6 x102) fun x166 =>
  opt (ld1 w x166 h165) fun x167 =>
  CW pr w 126 [x167, (.int .i64 0), y162] h165 fun x168 h169 =>
  opt (gun PG .not 4 x168 4) fun x170 =>
  iteV x170
  (rgn 1 h169 fun n171 h172 =>
  k (.int .i64 1) h172)
  (rgn 1 h169 fun n173 h174 =>
  k (.int .i64 0) h174))))
theorem n232 {pr : CallA} [PrB pr] {w : World} {k : Value → AH → Prop} {x0 x1 : Value} {h0 : AH}  (h : N232 pr w k x0 x1 h0) : CW pr w 232 [x0, x1] h0 k :=
  call_c (fn := Proofs.Tryz.f232) (PrB.other _ _ _ rfl) Proofs.Tryz.func232 (c := bodyC PG 232) (by kernel_rfl) (by kernel_rfl) (by kernel_rfl) (by
    have e : Wc PG pr w (bodyC PG 232) (endC PG w Proofs.Tryz.f232.results.toList k) (argsE [x0, x1]) h0 = N232 pr w k x0 x1 h0 := by kernel_rfl
    exact e.mpr h)

/-- pitot/config.sampling -/
noncomputable def N233 (pr : CallA) (w : World) (k : Value → AH → Prop) (x0 x1 : Value) (h0 : AH) : Prop :=
  rgn 3 h0 fun n100 h101 =>
  al n100 (cellsL x0) 114 h101 fun x102 h103 =>
  al (n100 + 1) (cellsL x1) 50 h103 fun x104 h105 =>
  rgn 24 h105 fun n106 h107 =>
  opt (fa 9 x102) fun x108 =>
  opt (ld1 w x108 h107) fun x109 =>
  opt (eqC PG .neq 3 false x109 true (.int .i64 0) 3 4) fun x110 =>
  gdP (gw x110 false) (fun k' => opt (fa 4 x102) fun x111 =>
  k' x111 h107) h107 fun x112 h113 =>
  gdP (gw x110 false) (fun k' => opt (ld1 w x112 h113) fun x114 =>
  k' x114 h113) h113 fun x115 h116 =>
  gdP (gw x110 false) (fun k' => k' x115 h116) h116 fun x117 h118 =>
  gdP (gw x117 true) (fun k' => opt (fa 10 x102) fun x119 =>
  k' x119 h118) h118 fun x120 h121 =>
  gdP (gw x117 true) (fun k' => opt (ld1 w x120 h121) fun x122 =>
  k' x122 h121) h121 fun x123 h124 =>
  gdP (gw x117 true) (fun k' => opt (eqC PG .neq 3 false x123 true (.int .i64 0) 3 4) fun x125 =>
  k' x125 h124) h124 fun x126 h127 =>
  gdP (gw x110 false) (fun k' => opt (pickV x117 x126 (.bool false)) fun x128 =>
  k' x128 h127) h127 fun x129 h130 =>
  opt (pickV x110 (.bool true) x129) fun x131 =>
  gdP (gw x131 false) (fun k' => opt (fa 4 x102) fun x132 =>
  k' x132 h130) h130 fun x133 h134 =>
  gdP (gw x131 false) (fun k' => opt (ld1 w x133 h134) fun x135 =>
  k' x135 h134) h134 fun x136 h137 =>
  gdP (gw x131 false) (fun k' => opt (gun PG .not 4 x136 4) fun x138 =>
  k' x138 h137) h137 fun x139 h140 =>
  gdP (gw x131 false) (fun k' => k' x139 h140) h140 fun x141 h142 =>
  gdP (gw x141 true) (fun k' => opt (fa 10 x102) fun x143 =>
  k' x143 h142) h142 fun x144 h145 =>
  gdP (gw x141 true) (fun k' => opt (ld1 w x144 h145) fun x146 =>
  k' x146 h145) h145 fun x147 h148 =>
  gdP (gw x141 true) (fun k' => CW pr w 126 [x147, (.int .i64 1), (.int .i64 1099511627776)] h148 fun x149 h150 =>
  k' x149 h150) h148 fun x151 h152 =>
  gdP (gw x141 true) (fun k' => opt (gun PG .not 4 x151 4) fun x153 =>
  k' x153 h152) h152 fun x154 h155 =>
  gdP (gw x131 false) (fun k' => opt (pickV x141 x154 (.bool false)) fun x156 =>
  k' x156 h155) h155 fun x157 h158 =>
  opt (pickV x131 (.bool true) x157) fun x159 =>
  iteV x159
  (rgn 1 h158 fun n160 h161 =>
  k (.int .i64 1) h161)
  (rgn 7 h158 fun n162 h163 =>
  opt (fa 8 x102) fun x164 =>
  opt (ld1 w x164 h163) fun x165 =>
  opt (fa 3 x104) fun x166 =>
  opt (ld1 w x166 h163) fun x167 =>
  CW pr w 319 [x167] h163 fun x168 h169 =>
  opt (gbin PG .gtr 3 x165 x168 3 4) fun x170 =>
  ((opt ((ld1 w x164 h169).map fun v => (v, h169)) fun q => sameV q.1 x165 = true) ∧ True) ∧ (iteV x170
  (rgn 1 h169 fun n171 h172 =>
  k (.int .i64 11) h172)
  (rgn 1 h169 fun n173 h174 =>
  k (.int .i64 0) h174)))
theorem n233 {pr : CallA} [PrB pr] {w : World} {k : Value → AH → Prop} {x0 x1 : Value} {h0 : AH}  (h : N233 pr w k x0 x1 h0) : CW pr w 233 [x0, x1] h0 k :=
  call_c (fn := Proofs.Tryz.f233) (PrB.other _ _ _ rfl) Proofs.Tryz.func233 (c := bodyC PG 233) (by kernel_rfl) (by kernel_rfl) (by kernel_rfl) (by
    have e : Wc PG pr w (bodyC PG 233) (endC PG w Proofs.Tryz.f233.results.toList k) (argsE [x0, x1]) h0 = N233 pr w k x0 x1 h0 := by kernel_rfl
    exact e.mpr h)

/-- slices.Contains[[]int,int] -/
noncomputable def N274 (pr : CallA) (w : World) (k : Value → AH → Prop) (x0 x1 : Value) (h0 : AH) : Prop :=
  rgn 1 h0 fun n100 h101 =>
  rgn 5 h101 fun n102 h103 =>
  CW pr w 341 [x0, x1] h103 fun x104 h105 =>
  opt (gbin PG .geq 3 x104 (.int .i64 0) 3 4) fun x106 =>
  k x106 h105
theorem n274 {pr : CallA} [PrB pr] {w : World} {k : Value → AH → Prop} {x0 x1 : Value} {h0 : AH}  (h : N274 pr w k x0 x1 h0) : CW pr w 274 [x0, x1] h0 k :=
  call_c (fn := Proofs.Tryz.f274) (PrB.other _ _ _ rfl) Proofs.Tryz.func274 (c := bodyC PG 274) (by kernel_rfl) (by kernel_rfl) (by kernel_rfl) (by
    have e : Wc PG pr w (bodyC PG 274) (endC PG w Proofs.Tryz.f274.results.toList k) (argsE [x0, x1]) h0 = N274 pr w k x0 x1 h0 := by kernel_rfl
    exact e.mpr h)

/-- slices.Index[[]int,int] -/
noncomputable def N341 (pr : CallA) (w : World) (k : Value → AH → Prop) (x0 x1 : Value) (h0 : AH) : Prop :=
  rgn 1 h0 fun n100 h101 =>
  rgn 3 h101 fun n102 h103 =>
  opt (lenS x0) fun n104 =>
  Wg PG pr w none (.loop (cd PG 341 [1, 0, 1, 0, 0])) (outOf 0 (thenW PG pr w (cd PG 341 [1, 1]) (endC PG w [(.tmp 4)] k))) (us (argsE [x0, x1]) [(4, (.int .i64 0)), (6, x0), (7, (.int .i64 n104)), (8, (.int .i64 0))]) h103
theorem n341 {pr : CallA} [PrB pr] {w : World} {k : Value → AH → Prop} {x0 x1 : Value} {h0 : AH}  (h : N341 pr w k x0 x1 h0) : CW pr w 341 [x0, x1] h0 k :=
  call_c (fn := Proofs.Tryz.f341) (PrB.other _ _ _ rfl) Proofs.Tryz.func341 (c := bodyC PG 341) (by kernel_rfl) (by kernel_rfl) (by kernel_rfl) (by
    have e : Wc PG pr w (bodyC PG 341) (endC PG w Proofs.Tryz.f341.results.toList k) (argsE [x0, x1]) h0 = N341 pr w k x0 x1 h0 := by kernel_rfl
    exact e.mpr h)
noncomputable def S341_10100 (pr : CallA) (w : World) (Q : Ex → Env → AH → Prop) (E0 : Env) (h0 : AH) : Prop :=
  rgn 1 h0 fun n100 h101 =>
  opt (gbin PG .lss 3 (E0 8) (E0 7) 3 0) fun x102 =>
  iteV x102
  (rgn 2 h101 fun n103 h104 =>
  rgn 6 h104 fun n105 h106 =>
  opt (ixS 1 (E0 0) (E0 8)) fun x107 =>
  opt (ld1 w x107 h106) fun x108 =>
  opt (eqC PG .eql 3 false (E0 1) false x108 3 4) fun x109 =>
  iteV x109
  (rgn 2 h106 fun n110 h111 =>
  Q .ret (us E0 [(9, x102), (10, (E0 8)), (5, (E0 8)), (11, (E0 1)), (12, (E0 0)), (13, (E0 8)), (14, x107), (15, x108), (16, x109), (17, (E0 8)), (4, (E0 8))]) h111)
  (rgn 2 h106 fun n112 h113 =>
  opt (gbin PG .add 3 (E0 8) (.int .i64 1) 3 3) fun x114 =>
  Q .normal (us E0 [(9, x102), (10, (E0 8)), (5, (E0 8)), (11, (E0 1)), (12, (E0 0)), (13, (E0 8)), (14, x107), (15, x108), (16, x109), (18, x114), (8, x114)]) h113))
  (Q (.exit 0) (us E0 [(9, x102)]) h101)
theorem s341_10100 {pr : CallA} {w : World} {Q : Ex → Env → AH → Prop} {E0 : Env} {h0 : AH} (h : S341_10100 pr w Q E0 h0) : Wc PG pr w (cd PG 341 [1, 0, 1, 0, 0]) Q E0 h0 := by
    have e : Wc PG pr w (cd PG 341 [1, 0, 1, 0, 0]) Q E0 h0 = S341_10100 pr w Q E0 h0 := by kernel_rfl
    exact e.mpr h
noncomputable def S341_11 (pr : CallA) (w : World) (Q : Ex → Env → AH → Prop) (E0 : Env) (h0 : AH) : Prop :=
  rgn 1 h0 fun n100 h101 =>
  Q .ret (us E0 [(4, (.int .i64 (-1)))]) h101
theorem s341_11 {pr : CallA} {w : World} {Q : Ex → Env → AH → Prop} {E0 : Env} {h0 : AH} (h : S341_11 pr w Q E0 h0) : Wc PG pr w (cd PG 341 [1, 1]) Q E0 h0 := by
    have e : Wc PG pr w (cd PG 341 [1, 1]) Q E0 h0 = S341_11 pr w Q E0 h0 := by kernel_rfl
    exact e.mpr h

/-- pitot/config.Largest -/
noncomputable def N319 (pr : CallA) (w : World) (k : Value → AH → Prop) (x0 : Value) (h0 : AH) : Prop :=
  rgn 1 h0 fun n100 h101 =>
  rgn 3 h101 fun n102 h103 =>
  opt (gbin PG .sub 3 x0 (.int .i64 47) 3 3) fun x104 =>
  k x104 h103
theorem n319 {pr : CallA} [PrB pr] {w : World} {k : Value → AH → Prop} {x0 : Value} {h0 : AH}  (h : N319 pr w k x0 h0) : CW pr w 319 [x0] h0 k :=
  call_c (fn := Proofs.Tryz.f319) (PrB.other _ _ _ rfl) Proofs.Tryz.func319 (c := bodyC PG 319) (by kernel_rfl) (by kernel_rfl) (by kernel_rfl) (by
    have e : Wc PG pr w (bodyC PG 319) (endC PG w Proofs.Tryz.f319.results.toList k) (argsE [x0]) h0 = N319 pr w k x0 h0 := by kernel_rfl
    exact e.mpr h)

/-- (*pitot/config.net).port -/
noncomputable def N133 (pr : CallA) (w : World) (k : Value → AH → Prop) (x0 x1 x2 : Value) (h0 : AH) : Prop :=
  rgn 1 h0 fun n100 h101 =>
  rgn 10 h101 fun n102 h103 =>
  opt (nckV x0) fun x104 =>
  opt (fa 0 x104) fun x105 =>
  opt (fa 5 x105) fun x106 =>
  opt (ld1 w x106 h103) fun x107 =>
  opt (ixS 11 x107 x1) fun x108 =>
  opt (ldA w 11 x108 h103) fun x109 =>
  al (n102 + 8) [(.int .i64 0), (.int .i64 0), (.int .i64 0), (.int .i64 0), (.bool false), (.int .i64 0), (.int .i64 0), (.int .i64 0), (.int .i64 0), (.int .i64 0), (.int .i64 0)] 114 h103 fun x110 h111 =>
  opt (stC 11 x110 x109 h111) fun h112 =>
  rgn 21 h112 fun n113 h114 =>
  opt (gbin PG .geq 3 x1 (.int .i64 512) 3 4) fun x115 =>
  gdP (gw x115 false) (fun k' => opt (fa 0 x110) fun x116 =>
  k' x116 h114) h114 fun x117 h118 =>
  gdP (gw x115 false) (fun k' => opt (ld1 w x117 h118) fun x119 =>
  k' x119 h118) h118 fun x120 h121 =>
  gdP (gw x115 false) (fun k' => opt (gbin PG .lss 3 x120 (.int .i64 1) 3 4) fun x122 =>
  k' x122 h121) h121 fun x123 h124 =>
  opt (pickV x115 (.bool true) x123) fun x125 =>
  gdP (gw x125 false) (fun k' => opt (fa 3 x110) fun x126 =>
  k' x126 h124) h124 fun x127 h128 =>
  gdP (gw x125 false) (fun k' => opt (ld1 w x127 h128) fun x129 =>
  k' x129 h128) h128 fun x130 h131 =>
  gdP (gw x125 false) (fun k' => CW pr w 126 [x130, (.int .i64 1), (.int .i64 2)] h131 fun x132 h133 =>
  k' x132 h133) h131 fun x134 h135 =>
  gdP (gw x125 false) (fun k' => opt (gun PG .not 4 x134 4) fun x136 =>
  k' x136 h135) h135 fun x137 h138 =>
  opt (pickV x125 (.bool true) x137) fun x139 =>
  gdP (gw x139 false) (fun k' => k' x0 h138) h138 fun x140 h141 =>
  gdP (gw x139 false) (fun k' => opt (fa 2 x110) fun x142 =>
  k' x142 h141) h141 fun x143 h144 =>
  gdP (gw x139 false) (fun k' => opt (ld1 w x143 h144) fun x145 =>
  k' x145 h144) h144 fun x146 h147 =>
  gdP (gw x139 false) (fun k' => CW pr w 229 [x140, x146] h147 fun x148 h149 =>
  k' x148 h149) h147 fun x150 h151 =>
  gdP (gw x139 false) (fun k' => opt (gun PG .not 4 x150 4) fun x152 =>
  k' x152 h151) h151 fun x153 h154 =>
  opt (pickV x139 (.bool true) x153) fun x155 =>
  iteV x155
  (rgn 1 h154 fun n156 h157 =>
  k (.int .i64 1) h157)
  (rgn 11 h154 fun n158 h159 =>
  opt (fa 7 x110) fun x160 =>
  opt (ld1 w x160 h159) fun x161 =>
  CW pr w 126 [x161, (.int .i64 0), (.int .i64 65535)] h159 fun x162 h163 =>
  opt (gun PG .not 4 x162 4) fun x164 =>
  gdP (gw x164 false) (fun k' => opt (fa 8 x110) fun x165 =>
  k' x165 h163) h163 fun x166 h167 =>
  gdP (gw x164 false) (fun k' => opt (ld1 w x166 h167) fun x168 =>
  k' x168 h167) h167 fun x169 h170 =>
  gdP (gw x164 false) (fun k' => CW pr w 126 [x169, (.int .i64 1), (.int .i64 8192)] h170 fun x171 h172 =>
  k' x171 h172) h170 fun x173 h174 =>
  gdP (gw x164 false) (fun k' => opt (gun PG .not 4 x173 4) fun x175 =>
  k' x175 h174) h174 fun x176 h177 =>
  opt (pickV x164 (.bool true) x176) fun x178 =>
  iteV x178
  (rgn 1 h177 fun n179 h180 =>
  k (.int .i64 1) h180)
  (rgn 18 h177 fun n181 h182 =>
  opt (gbin PG .gtr 3 x1 (.int .i64 0) 3 4) fun x183 =>
  gdP (gw x183 true) (fun k' => k' x0 h182) h182 fun x184 h185 =>
  gdP (gw x183 true) (fun k' => opt (nckV x184) fun x186 =>
  k' x186 h185) h185 fun x187 h188 =>
  gdP (gw x183 true) (fun k' => opt (fa 0 x187) fun x189 =>
  k' x189 h188) h188 fun x190 h191 =>
  gdP (gw x183 true) (fun k' => opt (fa 5 x190) fun x192 =>
  k' x192 h191) h191 fun x193 h194 =>
  gdP (gw x183 true) (fun k' => opt (ld1 w x193 h194) fun x195 =>
  k' x195 h194) h194 fun x196 h197 =>
  gdP (gw x183 true) (fun k' => k' x1 h197) h197 fun x198 h199 =>
  gdP (gw x183 true) (fun k' => opt (gbin PG .sub 3 x198 (.int .i64 1) 3 3) fun x200 =>
  k' x200 h199) h199 fun x201 h202 =>
  gdP (gw x183 true) (fun k' => opt (ixS 11 x196 x201) fun x203 =>
  k' x203 h202) h202 fun x204 h205 =>
  gdP (gw x183 true) (fun k' => opt (fa 0 x204) fun x206 =>
  k' x206 h205) h205 fun x207 h208 =>
  gdP (gw x183 true) (fun k' => opt (ld1 w x207 h208) fun x209 =>
  k' x209 h208) h208 fun x210 h211 =>
  gdP (gw x183 true) (fun k' => opt (fa 0 x110) fun x212 =>
  k' x212 h211) h211 fun x213 h214 =>
  gdP (gw x183 true) (fun k' => opt (ld1 w x213 h214) fun x215 =>
  k' x215 h214) h214 fun x216 h217 =>
  gdP (gw x183 true) (fun k' => opt (gbin PG .geq 3 x210 x216 3 4) fun x218 =>
  k' x218 h217) h217 fun x219 h220 =>
  opt (pickV x183 x219 (.bool false)) fun x221 =>
  (True) ∧ (iteV x221
  (rgn 1 h220 fun n222 h223 =>
  k (.int .i64 25) h223)
  (rgn 13 h220 fun n224 h225 =>
  opt (nckV x0) fun x226 =>
  opt (fa 6 x226) fun x227 =>
  opt (ld1 w x227 h225) fun x228 =>
  opt (fa 5 x110) fun x229 =>
  opt (ld1 w x229 h225) fun x230 =>
  opt (aLookup PG 238 x228 x230 true h225) fun x231 =>
  opt (extV 0 x231) fun x232 =>
  opt (extV 1 x231) fun x233 =>
  nmOk h225 (n224 + 10) (al (n224 + 10) [(.int .i64 0), (.int .i64 0), (.int .i64 0), (.int .i64 0), (.bool false), (.int .i64 0), (.int .i64 0), (.slice none 0 0)] 50 h225 fun x234 h235 =>
  opt (stC 8 x234 x232 h235) fun h236 =>
  (True) ∧ (rgn 16 h236 fun n237 h238 =>
  opt (gun PG .not 4 x233 4) fun x239 =>
  gdP (gw x239 false) (fun k' => opt (fa 1 x110) fun x240 =>
  k' x240 h238) h238 fun x241 h242 =>
  gdP (gw x239 false) (fun k' => opt (ld1 w x241 h242) fun x243 =>
  k' x243 h242) h242 fun x244 h245 =>
  gdP (gw x239 false) (fun k' => k' x0 h245) h245 fun x246 h247 =>
  gdP (gw x239 false) (fun k' => opt (nckV x246) fun x248 =>
  k' x248 h247) h247 fun x249 h250 =>
  gdP (gw x239 false) (fun k' => opt (fa 0 x249) fun x251 =>
  k' x251 h250) h250 fun x252 h253 =>
  gdP (gw x239 false) (fun k' => opt (fa 1 x252) fun x254 =>
  k' x254 h253) h253 fun x255 h256 =>
  gdP (gw x239 false) (fun k' => opt (ld1 w x255 h256) fun x257 =>
  k' x257 h256) h256 fun x258 h259 =>
  gdP (gw x239 false) (fun k' => opt (fa 2 x110) fun x260 =>
  k' x260 h259) h259 fun x261 h262 =>
  gdP (gw x239 false) (fun k' => opt (ld1 w x261 h262) fun x263 =>
  k' x263 h262) h262 fun x264 h265 =>
  gdP (gw x239 false) (fun k' => opt (ixS 1 x258 x264) fun x266 =>
  k' x266 h265) h265 fun x267 h268 =>
  gdP (gw x239 false) (fun k' => opt (ld1 w x267 h268) fun x269 =>
  k' x269 h268) h268 fun x270 h271 =>
  gdP (gw x239 false) (fun k' => opt (eqC PG .neq 3 false x244 false x270 3 4) fun x272 =>
  k' x272 h271) h271 fun x273 h274 =>
  opt (pickV x239 (.bool true) x273) fun x275 =>
  (True) ∧ (iteV x275
  (rgn 1 h274 fun n276 h277 =>
  k (.int .i64 20) h277)
  (rgn 4 h274 fun n278 h279 =>
  opt (ldA w 11 x110 h279) fun x280 =>
  opt (ldA w 8 x234 h279) fun x281 =>
  CW pr w 232 [x280, x281] h279 fun x282 h283 =>
  rgn 2 h283 fun n284 h285 =>
  opt (eqC PG .neq 25 false x282 true (.int .i64 0) 25 4) fun x286 =>
  iteV x286
  (rgn 2 h285 fun n287 h288 =>
  k x282 h288)
  (rgn 4 h285 fun n289 h290 =>
  opt (fa 3 x110) fun x291 =>
  opt (ld1 w x291 h290) fun x292 =>
  opt (eqC PG .eql 3 false x292 true (.int .i64 1) 3 4) fun x293 =>
  (fun (j294 : Value → AH → Prop) => iteV x293
  (rgn 4 h290 fun n328 h329 =>
  opt (ldA w 11 x110 h329) fun x330 =>
  opt (ldA w 8 x234 h329) fun x331 =>
  CW pr w 233 [x330, x331] h329 fun x332 h333 =>
  rgn 2 h333 fun n334 h335 =>
  opt (eqC PG .neq 25 false x332 true (.int .i64 0) 25 4) fun x336 =>
  iteV x336
  (rgn 2 h335 fun n337 h338 =>
  k x332 h338)
  (j294 (.int .i64 0) h335))
  (rgn 10 h290 fun n339 h340 =>
  opt (fa 9 x110) fun x341 =>
  opt (ld1 w x341 h340) fun x342 =>
  CW pr w 126 [x342, (.int .i64 1), (.int .i64 64)] h340 fun x343 h344 =>
  opt (gun PG .not 4 x343 4) fun x345 =>
  gdP (gw x345 false) (fun k' => opt (fa 10 x110) fun x346 =>
  k' x346 h344) h344 fun x347 h348 =>
  gdP (gw x345 false) (fun k' => opt (ld1 w x347 h348) fun x349 =>
  k' x349 h348) h348 fun x350 h351 =>
  gdP (gw x345 false) (fun k' => opt (eqC PG .neq 3 false x350 true (.int .i64 0) 3 4) fun x352 =>
  k' x352 h351) h351 fun x353 h354 =>
  opt (pickV x345 (.bool true) x353) fun x355 =>
  iteV x355
  (rgn 1 h354 fun n356 h357 =>
  k (.int .i64 1) h357)
  (j294 (.int .i64 0) h354))) (fun y295 h296 =>
  rgn 11 h296 fun n297 h298 =>
  opt (fa 1 x110) fun x299 =>
  opt (ld1 w x299 h298) fun x300 =>
  opt (fa 4 x110) fun x301 =>
  opt (ld1 w x301 h298) fun x302 =>
  opt (fa 5 x110) fun x303 =>
  opt (ld1 w x303 h298) fun x304 =>
  opt (fa 7 x110) fun x305 =>
  opt (ld1 w x305 h298) fun x306 =>
  opt ((fillP [(.int .i64 0), (.bool false), (.int .i64 0), (.int .i64 0)] [(0, 1, x300), (1, 1, x302), (2, 1, x304), (3, 1, x306)]).map fun l => Value.agg ⟨l⟩) fun x307 =>
  al (n297 + 9) [(.int .i64 0), (.bool false), (.int .i64 0), (.int .i64 0)] 421 h298 fun x308 h309 =>
  opt (stC 4 x308 x307 h309) fun h310 =>
  rgn 7 h310 fun n311 h312 =>
  opt (ldA w 4 x308 h312) fun x313 =>
  opt (aLookup PG 241 x2 x313 false h312) fun x314 =>
  opt (gbin PG .add 3 x314 (.int .i64 1) 3 3) fun x315 =>
  opt (aMapEntry PG 241 x2 x313 h312) fun q316 =>
  opt (extV 1 q316.1) fun x317 =>
  opt (aEntryStore x2 x317 x315 q316.2) fun h318 =>
  ((opt ((aLookup PG 241 x2 x313 false q316.2).map fun v => (v, q316.2)) fun q => sameV q.1 x314 = true) ∧ True) ∧ (rgn 4 h318 fun n319 h320 =>
  opt (ldA w 4 x308 h320) fun x321 =>
  opt (aLookup PG 241 x2 x321 false h320) fun x322 =>
  opt (gbin PG .gtr 3 x322 (.int .i64 1) 3 4) fun x323 =>
  iteV x323
  (rgn 1 h320 fun n324 h325 =>
  k (.int .i64 21) h325)
  (rgn 1 h320 fun n326 h327 =>
  k (.int .i64 0) h327))))))))))))
theorem n133 {pr : CallA} [PrB pr] {w : World} {k : Value → AH → Prop} {x0 x1 x2 : Value} {h0 : AH}  (h : N133 pr w k x0 x1 x2 h0) : CW pr w 133 [x0, x1, x2] h0 k :=
  call_c (fn := Proofs.Tryz.f133) (PrB.other _ _ _ rfl) Proofs.Tryz.func133 (c := bodyC PG 133) (by kernel_rfl) (by kernel_rfl) (by kernel_rfl) (by
    have e : Wc PG pr w (bodyC PG 133) (endC PG w Proofs.Tryz.f133.results.toList k) (argsE [x0, x1, x2]) h0 = N133 pr w k x0 x1 x2 h0 := by kernel_rfl
    exact e.mpr h)


end Go.Sim
