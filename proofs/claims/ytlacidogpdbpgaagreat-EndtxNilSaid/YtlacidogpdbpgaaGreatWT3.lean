/-
  What functions of the given program ask (printed by gen.lean).
-/
import Derived.Test.YtlacidogpdbpgaaGreatWR
namespace Go.Sim
open Go
set_option linter.unusedVariables false
set_option maxRecDepth 100000

/-- pitot/pitotlaw20.AvswitchNil -/
noncomputable def N3 (pr : CallA) (w : World) (k : Value → AH → Prop) (x0 x1 x2 : Value) (h0 : AH) : Prop :=
  rgn 1 h0 fun n100 h101 =>
  rgn 3 h101 fun n102 h103 =>
  opt (lenStr x2) fun n104 =>
  opt (gbin PG .gtr 3 (.int .i64 n104) (.int .i64 100) 3 4) fun x105 =>
  iteV x105
  (rgn 2 h103 fun n106 h107 =>
  CW pr w 28 [] h107 fun x108 h109 =>
  k x108 h109)
  (rgn 1 h103 fun n110 h111 =>
  rgn 8 h111 fun n112 h113 =>
  CW pr w 29 [(.pointer none), x0] h113 fun x114 h115 =>
  opt (extV 0 x114) fun x116 =>
  opt (extV 1 x114) fun x117 =>
  rgn 24 h115 fun n118 h119 =>
  CW pr w 30 [(.pointer none), x0, x1, x2, (.int .i64 0)] h119 fun x120 h121 =>
  opt (eqC PG .eql 25 false x120 true (.int .i64 2) 25 4) fun x122 =>
  gdP (gw x122 true) (fun k' => k' x116 h121) h121 fun x123 h124 =>
  gdP (gw x122 true) (fun k' => opt (lenS x123) fun n125 =>
  k' (.int .i64 n125) h124) h124 fun x126 h127 =>
  gdP (gw x122 true) (fun k' => opt (eqC PG .eql 3 false x126 true (.int .i64 0) 3 4) fun x128 =>
  k' x128 h127) h127 fun x129 h130 =>
  opt (pickV x122 x129 (.bool false)) fun x131 =>
  gdP (gw x131 true) (fun k' => k' x117 h130) h130 fun x132 h133 =>
  gdP (gw x131 true) (fun k' => opt (eqC PG .eql 25 false x132 true (.int .i64 2) 25 4) fun x134 =>
  k' x134 h133) h133 fun x135 h136 =>
  opt (pickV x131 x135 (.bool false)) fun x137 =>
  gdP (gw x137 true) (fun k' => k' (.pointer none) h136) h136 fun x138 h139 =>
  gdP (gw x137 true) (fun k' => CW pr w 31 [x138, (.int .i64 0)] h139 fun x140 h141 =>
  k' x140 h141) h139 fun x142 h143 =>
  gdP (gw x137 true) (fun k' => opt (eqC PG .eql 3 false x142 true (.int .i64 0) 3 4) fun x144 =>
  k' x144 h143) h143 fun x145 h146 =>
  opt (pickV x137 x145 (.bool false)) fun x147 =>
  gdP (gw x147 true) (fun k' => CW pr w 28 [] h146 fun x148 h149 =>
  k' x148 h149) h146 fun x150 h151 =>
  opt (pickV x147 x150 (.bool false)) fun x152 =>
  k x152 h151)
theorem n3 {pr : CallA} [PrB pr] {w : World} {k : Value → AH → Prop} {x0 x1 x2 : Value} {h0 : AH}  (h : N3 pr w k x0 x1 x2 h0) : CW pr w 3 [x0, x1, x2] h0 k :=
  call_c (fn := Proofs.Tryz.f3) (PrB.other _ _ _ rfl) Proofs.Tryz.func3 (c := bodyC PG 3) (by kernel_rfl) (by kernel_rfl) (by kernel_rfl) (by
    have e : Wc PG pr w (bodyC PG 3) (endC PG w Proofs.Tryz.f3.results.toList k) (argsE [x0, x1, x2]) h0 = N3 pr w k x0 x1 x2 h0 := by kernel_rfl
    exact e.mpr h)

/-- (*pitot/avswitch.Switch).Pass -/
noncomputable def N29 (pr : CallA) (w : World) (k : Value → AH → Prop) (x0 x1 : Value) (h0 : AH) : Prop :=
  rgn 2 h0 fun n100 h101 =>
  rgn 4 h101 fun n102 h103 =>
  CW pr w 105 [x0, x1] h103 fun x104 h105 =>
  rgn 2 h105 fun n106 h107 =>
  opt (eqC PG .neq 25 false x104 true (.int .i64 0) 25 4) fun x108 =>
  iteV x108
  (rgn 3 h107 fun n109 h110 =>
  k (.tuple ⟨[(.slice none 0 0), x104]⟩) h110)
  (rgn 3 h107 fun n111 h112 =>
  CW pr w 106 [x0, x1] h112 fun x113 h114 =>
  rgn 1 h114 fun n115 h116 =>
  rgn 6 h116 fun n117 h118 =>
  opt (nckV x0) fun x119 =>
  opt (fa 1 x119) fun x120 =>
  opt (ld1 w x120 h118) fun x121 =>
  opt (lenS x121) fun n122 =>
  Wg PG pr w none (.loop (cd PG 29 [1, 1, 1, 1, 0, 1, 0, 0])) (outOf 0 (thenW PG pr w (cd PG 29 [1, 1, 1, 1, 1]) (endC PG w [(.tmp 4), (.tmp 5)] k))) (us (argsE [x0, x1]) [(4, (.slice none 0 0)), (5, (.int .i64 0)), (14, x0), (15, x1), (16, x104), (6, x104), (17, x104), (18, x108), (20, x0), (21, x1), (22, x113), (7, (.slice none 0 0)), (23, x0), (24, x119), (25, x120), (26, x121), (27, (.int .i64 n122)), (28, (.int .i64 0))]) h118)
theorem n29 {pr : CallA} [PrB pr] {w : World} {k : Value → AH → Prop} {x0 x1 : Value} {h0 : AH}  (h : N29 pr w k x0 x1 h0) : CW pr w 29 [x0, x1] h0 k :=
  call_c (fn := Proofs.Tryz.f29) (PrB.other _ _ _ rfl) Proofs.Tryz.func29 (c := bodyC PG 29) (by kernel_rfl) (by kernel_rfl) (by kernel_rfl) (by
    have e : Wc PG pr w (bodyC PG 29) (endC PG w Proofs.Tryz.f29.results.toList k) (argsE [x0, x1]) h0 = N29 pr w k x0 x1 h0 := by kernel_rfl
    exact e.mpr h)
noncomputable def S29_11110100 (pr : CallA) (w : World) (Q : Ex → Env → AH → Prop) (E0 : Env) (h0 : AH) : Prop :=
  rgn 1 h0 fun n100 h101 =>
  opt (gbin PG .lss 3 (E0 28) (E0 27) 3 0) fun x102 =>
  iteV x102
  (rgn 5 h101 fun n103 h104 =>
  opt (ixS 1 (E0 26) (E0 28)) fun x105 =>
  opt (ld1 w x105 h104) fun x106 =>
  rgn 8 h104 fun n107 h108 =>
  CW pr w 107 [x106, (E0 1)] h108 fun x109 h110 =>
  opt (extV 0 x109) fun x111 =>
  opt (extV 1 x109) fun x112 =>
  rgn 3 h110 fun n113 h114 =>
  opt (lenS x111) fun n115 =>
  Wg PG pr w none (.loop (cd PG 29 [1, 1, 1, 1, 0, 1, 0, 0, 1, 1, 0, 0, 1, 1, 1, 0, 0])) (outOf 2 (outOf 1 (thenW PG pr w (cd PG 29 [1, 1, 1, 1, 0, 1, 0, 0, 1, 1, 1]) Q))) (us E0 [(29, x102), (30, (E0 28)), (31, x105), (32, x106), (8, (E0 28)), (9, x106), (34, x106), (35, (E0 1)), (36, x109), (33, x109), (37, x111), (38, x112), (10, x111), (11, x112), (39, x111), (40, (.int .i64 n115)), (41, (.int .i64 0))]) h114)
  (Q (.exit 0) (us E0 [(29, x102)]) h101)
theorem s29_11110100 {pr : CallA} {w : World} {Q : Ex → Env → AH → Prop} {E0 : Env} {h0 : AH} (h : S29_11110100 pr w Q E0 h0) : Wc PG pr w (cd PG 29 [1, 1, 1, 1, 0, 1, 0, 0]) Q E0 h0 := by
    have e : Wc PG pr w (cd PG 29 [1, 1, 1, 1, 0, 1, 0, 0]) Q E0 h0 = S29_11110100 pr w Q E0 h0 := by kernel_rfl
    exact e.mpr h
noncomputable def S29_11111 (pr : CallA) (w : World) (Q : Ex → Env → AH → Prop) (E0 : Env) (h0 : AH) : Prop :=
  rgn 2 h0 fun n100 h101 =>
  CW pr w 108 [(E0 7), (.func (.func 109) #[] #[])] h101 fun x102 h103 =>
  rgn 3 h103 fun n104 h105 =>
  Q .ret (us E0 [(60, (E0 7)), (61, x102), (62, (E0 7)), (4, (E0 7)), (5, (.int .i64 0))]) h105
theorem s29_11111 {pr : CallA} {w : World} {Q : Ex → Env → AH → Prop} {E0 : Env} {h0 : AH} (h : S29_11111 pr w Q E0 h0) : Wc PG pr w (cd PG 29 [1, 1, 1, 1, 1]) Q E0 h0 := by
    have e : Wc PG pr w (cd PG 29 [1, 1, 1, 1, 1]) Q E0 h0 = S29_11111 pr w Q E0 h0 := by kernel_rfl
    exact e.mpr h
noncomputable def S29_11110100110011100 (pr : CallA) (w : World) (Q : Ex → Env → AH → Prop) (E0 : Env) (h0 : AH) : Prop :=
  rgn 1 h0 fun n100 h101 =>
  opt (gbin PG .lss 3 (E0 41) (E0 40) 3 0) fun x102 =>
  iteV x102
  (rgn 4 h101 fun n103 h104 =>
  opt (ixS 4 (E0 39) (E0 41)) fun x105 =>
  opt (ldA w 4 x105 h104) fun x106 =>
  al (n103 + 2) [(.int .i64 0), (.string ⟨#[]⟩), (.int .i64 0), (.int .i64 0)] 214 h104 fun x107 h108 =>
  opt (stC 4 x107 x106 h108) fun h109 =>
  rgn 14 h109 fun n110 h111 =>
  opt (fa 0 x107) fun x112 =>
  opt (ld1 w x112 h111) fun x113 =>
  opt (fa 1 x107) fun x114 =>
  opt (ld1 w x114 h111) fun x115 =>
  opt (fa 2 x107) fun x116 =>
  opt (ld1 w x116 h111) fun x117 =>
  opt (fa 3 x107) fun x118 =>
  opt (ld1 w x118 h111) fun x119 =>
  opt ((fillP [(.int .i64 0), (.int .i64 0), (.string ⟨#[]⟩), (.int .i64 0), (.int .i64 0)] [(0, 1, (E0 8)), (1, 1, x113), (2, 1, x115), (3, 1, x117), (4, 1, x119)]).map fun l => Value.agg ⟨l⟩) fun x120 =>
  opt ((fillP [(.int .i64 0), (.int .i64 0), (.string ⟨#[]⟩), (.int .i64 0), (.int .i64 0)] [(0, 5, x120)]).map fun l => (l, 54)) fun q121 =>
  alS (n110 + 11) 1 q121.1 q121.2 h111 fun x122 h123 =>
  opt (aAppend PG w h123 (n110 + 12) #[24, 24] (E0 7) x122) fun q124 =>
  rgn 2 q124.2 fun n125 h126 =>
  opt (gbin PG .add 3 (E0 41) (.int .i64 1) 3 3) fun x127 =>
  Q .normal (us E0 [(42, x102), (43, x105), (44, x106), (13, x107), (45, (E0 7)), (46, (E0 8)), (47, x112), (48, x113), (49, x114), (50, x115), (51, x116), (52, x117), (53, x118), (54, x119), (55, x120), (56, x122), (57, q124.1), (7, q124.1), (58, x127), (41, x127)]) h126)
  (Q (.exit 2) (us E0 [(42, x102)]) h101)
theorem s29_11110100110011100 {pr : CallA} {w : World} {Q : Ex → Env → AH → Prop} {E0 : Env} {h0 : AH} (h : S29_11110100110011100 pr w Q E0 h0) : Wc PG pr w (cd PG 29 [1, 1, 1, 1, 0, 1, 0, 0, 1, 1, 0, 0, 1, 1, 1, 0, 0]) Q E0 h0 := by
    have e : Wc PG pr w (cd PG 29 [1, 1, 1, 1, 0, 1, 0, 0, 1, 1, 0, 0, 1, 1, 1, 0, 0]) Q E0 h0 = S29_11110100110011100 pr w Q E0 h0 := by kernel_rfl
    exact e.mpr h
noncomputable def S29_11110100111 (pr : CallA) (w : World) (Q : Ex → Env → AH → Prop) (E0 : Env) (h0 : AH) : Prop :=
  rgn 2 h0 fun n100 h101 =>
  opt (gbin PG .add 3 (E0 28) (.int .i64 1) 3 3) fun x102 =>
  Q .normal (us E0 [(59, x102), (28, x102)]) h101
theorem s29_11110100111 {pr : CallA} {w : World} {Q : Ex → Env → AH → Prop} {E0 : Env} {h0 : AH} (h : S29_11110100111 pr w Q E0 h0) : Wc PG pr w (cd PG 29 [1, 1, 1, 1, 0, 1, 0, 0, 1, 1, 1]) Q E0 h0 := by
    have e : Wc PG pr w (cd PG 29 [1, 1, 1, 1, 0, 1, 0, 0, 1, 1, 1]) Q E0 h0 = S29_11110100111 pr w Q E0 h0 := by kernel_rfl
    exact e.mpr h

/-- (*pitot/avswitch.Switch).Take -/
noncomputable def N30 (pr : CallA) (w : World) (k : Value → AH → Prop) (x0 x1 x2 x3 x4 : Value) (h0 : AH) : Prop :=
  rgn 1 h0 fun n100 h101 =>
  rgn 4 h101 fun n102 h103 =>
  CW pr w 105 [x0, x1] h103 fun x104 h105 =>
  rgn 3 h105 fun n106 h107 =>
  opt (eqC PG .eql 25 false x104 true (.int .i64 2) 25 4) fun x108 =>
  iteV x108
  (rgn 2 h107 fun n109 h110 =>
  k x104 h110)
  (rgn 24 h107 fun n111 h112 =>
  opt (eqC PG .eql 25 false x104 true (.int .i64 1) 25 4) fun x113 =>
  gdP (gw x113 false) (fun k' => k' x2 h112) h112 fun x114 h115 =>
  gdP (gw x113 false) (fun k' => opt (gbin PG .lss 3 x114 (.int .i64 0) 3 4) fun x116 =>
  k' x116 h115) h115 fun x117 h118 =>
  opt (pickV x113 (.bool true) x117) fun x119 =>
  gdP (gw x119 false) (fun k' => k' x2 h118) h118 fun x120 h121 =>
  gdP (gw x119 false) (fun k' => k' x0 h121) h121 fun x122 h123 =>
  gdP (gw x119 false) (fun k' => opt (nckV x122) fun x124 =>
  k' x124 h123) h123 fun x125 h126 =>
  gdP (gw x119 false) (fun k' => opt (fa 1 x125) fun x127 =>
  k' x127 h126) h126 fun x128 h129 =>
  gdP (gw x119 false) (fun k' => opt (ld1 w x128 h129) fun x130 =>
  k' x130 h129) h129 fun x131 h132 =>
  gdP (gw x119 false) (fun k' => opt (lenS x131) fun n133 =>
  k' (.int .i64 n133) h132) h132 fun x134 h135 =>
  gdP (gw x119 false) (fun k' => opt (gbin PG .geq 3 x120 x134 3 4) fun x136 =>
  k' x136 h135) h135 fun x137 h138 =>
  opt (pickV x119 (.bool true) x137) fun x139 =>
  gdP (gw x139 false) (fun k' => k' x4 h138) h138 fun x140 h141 =>
  gdP (gw x139 false) (fun k' => opt (gbin PG .lss 3 x140 (.int .i64 0) 3 4) fun x142 =>
  k' x142 h141) h141 fun x143 h144 =>
  opt (pickV x139 (.bool true) x143) fun x145 =>
  gdP (gw x145 false) (fun k' => k' x4 h144) h144 fun x146 h147 =>
  gdP (gw x145 false) (fun k' => opt (gbin PG .gtr 3 x146 (.int .i64 1000) 3 4) fun x148 =>
  k' x148 h147) h147 fun x149 h150 =>
  opt (pickV x145 (.bool true) x149) fun x151 =>
  iteV x151
  (rgn 1 h150 fun n152 h153 =>
  k (.int .i64 1) h153)
  (rgn 3 h150 fun n154 h155 =>
  opt (eqC PG .neq 25 false x104 true (.int .i64 0) 25 4) fun x156 =>
  iteV x156
  (rgn 2 h155 fun n157 h158 =>
  k x104 h158)
  (rgn 3 h155 fun n159 h160 =>
  CW pr w 106 [x0, x1] h160 fun x161 h162 =>
  rgn 7 h162 fun n163 h164 =>
  CW pr w 111 [x0, x1, x2, x3, x4] h164 fun x165 h166 =>
  rgn 8 h166 fun n167 h168 =>
  opt (nckV x0) fun x169 =>
  opt (fa 5 x169) fun x170 =>
  opt (ld1 w x170 h168) fun x171 =>
  opt (aLookup PG 206 x171 x165 false h168) fun x172 =>
  opt (gbin PG .add 3 x172 (.int .i64 1) 3 3) fun x173 =>
  opt (aMapUpdate PG 206 x171 x165 x173 h168) fun h174 =>
  rgn 2 h174 fun n175 h176 =>
  k x165 h176)))
theorem n30 {pr : CallA} [PrB pr] {w : World} {k : Value → AH → Prop} {x0 x1 x2 x3 x4 : Value} {h0 : AH}  (h : N30 pr w k x0 x1 x2 x3 x4 h0) : CW pr w 30 [x0, x1, x2, x3, x4] h0 k :=
  call_c (fn := Proofs.Tryz.f30) (PrB.other _ _ _ rfl) Proofs.Tryz.func30 (c := bodyC PG 30) (by kernel_rfl) (by kernel_rfl) (by kernel_rfl) (by
    have e : Wc PG pr w (bodyC PG 30) (endC PG w Proofs.Tryz.f30.results.toList k) (argsE [x0, x1, x2, x3, x4]) h0 = N30 pr w k x0 x1 x2 x3 x4 h0 := by kernel_rfl
    exact e.mpr h)

/-- (*pitot/avswitch.Switch).Count -/
noncomputable def N31 (pr : CallA) (w : World) (k : Value → AH → Prop) (x0 x1 : Value) (h0 : AH) : Prop :=
  rgn 1 h0 fun n100 h101 =>
  rgn 2 h101 fun n102 h103 =>
  opt (eqC PG .eql 23 false x0 true (.pointer none) 23 4) fun x104 =>
  iteV x104
  (rgn 1 h103 fun n105 h106 =>
  k (.int .i64 0) h106)
  (rgn 7 h103 fun n107 h108 =>
  opt (nckV x0) fun x109 =>
  opt (fa 5 x109) fun x110 =>
  opt (ld1 w x110 h108) fun x111 =>
  opt (aLookup PG 206 x111 x1 false h108) fun x112 =>
  k x112 h108)
theorem n31 {pr : CallA} [PrB pr] {w : World} {k : Value → AH → Prop} {x0 x1 : Value} {h0 : AH}  (h : N31 pr w k x0 x1 h0) : CW pr w 31 [x0, x1] h0 k :=
  call_c (fn := Proofs.Tryz.f31) (PrB.other _ _ _ rfl) Proofs.Tryz.func31 (c := bodyC PG 31) (by kernel_rfl) (by kernel_rfl) (by kernel_rfl) (by
    have e : Wc PG pr w (bodyC PG 31) (endC PG w Proofs.Tryz.f31.results.toList k) (argsE [x0, x1]) h0 = N31 pr w k x0 x1 h0 := by kernel_rfl
    exact e.mpr h)

/-- (*pitot/avswitch.Switch).timely -/
noncomputable def N105 (pr : CallA) (w : World) (k : Value → AH → Prop) (x0 x1 : Value) (h0 : AH) : Prop :=
  rgn 1 h0 fun n100 h101 =>
  rgn 3 h101 fun n102 h103 =>
  opt (eqC PG .eql 23 false x0 true (.pointer none) 23 4) fun x104 =>
  iteV x104
  (rgn 1 h103 fun n105 h106 =>
  k (.int .i64 2) h106)
  (rgn 7 h103 fun n107 h108 =>
  opt (gbin PG .lss 3 x1 (.int .i64 0) 3 4) fun x109 =>
  gdP (gw x109 false) (fun k' => k' x1 h108) h108 fun x110 h111 =>
  gdP (gw x109 false) (fun k' => opt (gbin PG .gtr 3 x110 (.int .i64 1099511627776) 3 4) fun x112 =>
  k' x112 h111) h111 fun x113 h114 =>
  opt (pickV x109 (.bool true) x113) fun x115 =>
  iteV x115
  (rgn 1 h114 fun n116 h117 =>
  k (.int .i64 1) h117)
  (rgn 7 h114 fun n118 h119 =>
  opt (nckV x0) fun x120 =>
  opt (fa 4 x120) fun x121 =>
  opt (ld1 w x121 h119) fun x122 =>
  opt (gbin PG .lss 3 x1 x122 3 4) fun x123 =>
  iteV x123
  (rgn 1 h119 fun n124 h125 =>
  k (.int .i64 24) h125)
  (rgn 1 h119 fun n126 h127 =>
  k (.int .i64 0) h127)))
theorem n105 {pr : CallA} [PrB pr] {w : World} {k : Value → AH → Prop} {x0 x1 : Value} {h0 : AH}  (h : N105 pr w k x0 x1 h0) : CW pr w 105 [x0, x1] h0 k :=
  call_c (fn := Proofs.Tryz.f105) (PrB.other _ _ _ rfl) Proofs.Tryz.func105 (c := bodyC PG 105) (by kernel_rfl) (by kernel_rfl) (by kernel_rfl) (by
    have e : Wc PG pr w (bodyC PG 105) (endC PG w Proofs.Tryz.f105.results.toList k) (argsE [x0, x1]) h0 = N105 pr w k x0 x1 h0 := by kernel_rfl
    exact e.mpr h)

/-- pitot/pitotlaw15.EndtxNil -/
noncomputable def N7 (pr : CallA) (w : World) (k : Value → AH → Prop) (x0 x1 x2 : Value) (h0 : AH) : Prop :=
  rgn 1 h0 fun n100 h101 =>
  rgn 3 h101 fun n102 h103 =>
  opt (lenStr x2) fun n104 =>
  opt (gbin PG .gtr 3 (.int .i64 n104) (.int .i64 100) 3 4) fun x105 =>
  iteV x105
  (rgn 2 h103 fun n106 h107 =>
  CW pr w 40 [] h107 fun x108 h109 =>
  k x108 h109)
  (rgn 1 h103 fun n110 h111 =>
  rgn 8 h111 fun n112 h113 =>
  CW pr w 49 [(.pointer none), x0] h113 fun x114 h115 =>
  opt (extV 0 x114) fun x116 =>
  opt (extV 1 x114) fun x117 =>
  rgn 31 h115 fun n118 h119 =>
  CW pr w 47 [(.pointer none), x0, x1, x2] h119 fun x120 h121 =>
  opt (eqC PG .eql 25 false x120 true (.int .i64 2) 25 4) fun x122 =>
  gdP (gw x122 true) (fun k' => k' x116 h121) h121 fun x123 h124 =>
  gdP (gw x122 true) (fun k' => opt (lenS x123) fun n125 =>
  k' (.int .i64 n125) h124) h124 fun x126 h127 =>
  gdP (gw x122 true) (fun k' => opt (eqC PG .eql 3 false x126 true (.int .i64 0) 3 4) fun x128 =>
  k' x128 h127) h127 fun x129 h130 =>
  opt (pickV x122 x129 (.bool false)) fun x131 =>
  gdP (gw x131 true) (fun k' => k' x117 h130) h130 fun x132 h133 =>
  gdP (gw x131 true) (fun k' => opt (eqC PG .eql 25 false x132 true (.int .i64 2) 25 4) fun x134 =>
  k' x134 h133) h133 fun x135 h136 =>
  opt (pickV x131 x135 (.bool false)) fun x137 =>
  gdP (gw x137 true) (fun k' => k' (.pointer none) h136) h136 fun x138 h139 =>
  gdP (gw x137 true) (fun k' => k' x0 h139) h139 fun x140 h141 =>
  gdP (gw x137 true) (fun k' => CW pr w 52 [x138, x140] h141 fun x142 h143 =>
  k' x142 h143) h141 fun x144 h145 =>
  gdP (gw x137 true) (fun k' => opt (eqC PG .eql 25 false x144 true (.int .i64 2) 25 4) fun x146 =>
  k' x146 h145) h145 fun x147 h148 =>
  opt (pickV x137 x147 (.bool false)) fun x149 =>
  gdP (gw x149 true) (fun k' => k' (.pointer none) h148) h148 fun x150 h151 =>
  gdP (gw x149 true) (fun k' => k' x1 h151) h151 fun x152 h153 =>
  gdP (gw x149 true) (fun k' => CW pr w 54 [x150, x152] h153 fun x154 h155 =>
  k' x154 h155) h153 fun x156 h157 =>
  gdP (gw x149 true) (fun k' => opt (eqC PG .eql 3 false x156 true (.int .i64 0) 3 4) fun x158 =>
  k' x158 h157) h157 fun x159 h160 =>
  opt (pickV x149 x159 (.bool false)) fun x161 =>
  gdP (gw x161 true) (fun k' => CW pr w 40 [] h160 fun x162 h163 =>
  k' x162 h163) h160 fun x164 h165 =>
  opt (pickV x161 x164 (.bool false)) fun x166 =>
  k x166 h165)
theorem n7 {pr : CallA} [PrB pr] {w : World} {k : Value → AH → Prop} {x0 x1 x2 : Value} {h0 : AH}  (h : N7 pr w k x0 x1 x2 h0) : CW pr w 7 [x0, x1, x2] h0 k :=
  call_c (fn := Proofs.Tryz.f7) (PrB.other _ _ _ rfl) Proofs.Tryz.func7 (c := bodyC PG 7) (by kernel_rfl) (by kernel_rfl) (by kernel_rfl) (by
    have e : Wc PG pr w (bodyC PG 7) (endC PG w Proofs.Tryz.f7.results.toList k) (argsE [x0, x1, x2]) h0 = N7 pr w k x0 x1 x2 h0 := by kernel_rfl
    exact e.mpr h)

/-- (*pitot/endtx.End).Send -/
noncomputable def N47 (pr : CallA) (w : World) (k : Value → AH → Prop) (x0 x1 x2 x3 : Value) (h0 : AH) : Prop :=
  rgn 1 h0 fun n100 h101 =>
  rgn 4 h101 fun n102 h103 =>
  CW pr w 145 [x0, x1] h103 fun x104 h105 =>
  rgn 2 h105 fun n106 h107 =>
  opt (eqC PG .neq 25 false x104 true (.int .i64 0) 25 4) fun x108 =>
  iteV x108
  (rgn 2 h107 fun n109 h110 =>
  k x104 h110)
  (rgn 12 h107 fun n111 h112 =>
  opt (nckV x0) fun x113 =>
  opt (fa 0 x113) fun x114 =>
  opt (ldA w 6 x114 h112) fun x115 =>
  CW pr w 146 [x115, x2] h112 fun x116 h117 =>
  opt (extV 0 x116) fun x118 =>
  opt (extV 1 x116) fun x119 =>
  al (n111 + 9) [(.int .i64 0), (.int .i64 0), (.int .i64 0), (.int .i64 0), (.bool false), (.int .i64 0), (.int .i64 0), (.int .i64 0), (.int .i64 0), (.int .i64 0), (.int .i64 0)] 114 h117 fun x120 h121 =>
  opt (stC 11 x120 x118 h121) fun h122 =>
  rgn 17 h122 fun n123 h124 =>
  opt (gun PG .not 4 x119 4) fun x125 =>
  gdP (gw x125 false) (fun k' => opt (fa 4 x120) fun x126 =>
  k' x126 h124) h124 fun x127 h128 =>
  gdP (gw x125 false) (fun k' => opt (ld1 w x127 h128) fun x129 =>
  k' x129 h128) h128 fun x130 h131 =>
  gdP (gw x125 false) (fun k' => opt (gun PG .not 4 x130 4) fun x132 =>
  k' x132 h131) h131 fun x133 h134 =>
  opt (pickV x125 (.bool true) x133) fun x135 =>
  gdP (gw x135 false) (fun k' => opt (fa 1 x120) fun x136 =>
  k' x136 h134) h134 fun x137 h138 =>
  gdP (gw x135 false) (fun k' => opt (ld1 w x137 h138) fun x139 =>
  k' x139 h138) h138 fun x140 h141 =>
  gdP (gw x135 false) (fun k' => k' x0 h141) h141 fun x142 h143 =>
  gdP (gw x135 false) (fun k' => opt (nckV x142) fun x144 =>
  k' x144 h143) h143 fun x145 h146 =>
  gdP (gw x135 false) (fun k' => opt (fa 6 x145) fun x147 =>
  k' x147 h146) h146 fun x148 h149 =>
  gdP (gw x135 false) (fun k' => opt (ld1 w x148 h149) fun x150 =>
  k' x150 h149) h149 fun x151 h152 =>
  gdP (gw x135 false) (fun k' => opt (eqC PG .neq 3 false x140 false x151 3 4) fun x153 =>
  k' x153 h152) h152 fun x154 h155 =>
  opt (pickV x135 (.bool true) x154) fun x156 =>
  (True) ∧ (iteV x156
  (rgn 1 h155 fun n157 h158 =>
  k (.int .i64 20) h158)
  (rgn 6 h155 fun n159 h160 =>
  opt (lenStr x3) fun n161 =>
  opt (fa 8 x120) fun x162 =>
  opt (ld1 w x162 h160) fun x163 =>
  opt (gbin PG .gtr 3 (.int .i64 n161) x163 3 4) fun x164 =>
  iteV x164
  (rgn 1 h160 fun n165 h166 =>
  k (.int .i64 11) h166)
  (rgn 3 h160 fun n167 h168 =>
  CW pr w 147 [x0, x1] h168 fun x169 h170 =>
  rgn 8 h170 fun n171 h172 =>
  opt (nckV x0) fun x173 =>
  opt (fa 7 x173) fun x174 =>
  opt (ld1 w x174 h172) fun x175 =>
  opt (fa 5 x120) fun x176 =>
  opt (ld1 w x176 h172) fun x177 =>
  opt (aLookup PG 251 x175 x177 false h172) fun x178 =>
  (True) ∧ (rgn 14 h172 fun n179 h180 =>
  opt (ldA w 11 x120 h180) fun x181 =>
  opt (nckV x178) fun x182 =>
  opt (fa 0 x182) fun x183 =>
  opt (fa 3 x183) fun x184 =>
  opt (ld1 w x184 h180) fun x185 =>
  CW pr w 148 [x0, x181, x3, x185] h180 fun x186 h187 =>
  opt (extV 0 x186) fun x188 =>
  opt (extV 1 x186) fun x189 =>
  (True) ∧ (rgn 2 h187 fun n190 h191 =>
  opt (eqC PG .neq 25 false x189 true (.int .i64 0) 25 4) fun x192 =>
  iteV x192
  (rgn 2 h191 fun n193 h194 =>
  k x189 h194)
  (rgn 6 h191 fun n195 h196 =>
  opt (nckV x178) fun x197 =>
  opt (fa 8 x197) fun x198 =>
  opt (ld1 w x198 h196) fun x199 =>
  CW pr w 149 [x199] h196 fun x200 h201 =>
  rgn 9 h201 fun n202 h203 =>
  opt (nckV x178) fun x204 =>
  opt (fa 8 x204) fun x205 =>
  opt (ld1 w x205 h203) fun x206 =>
  opt (fa 6 x120) fun x207 =>
  opt (ld1 w x207 h203) fun x208 =>
  CW pr w 150 [x206, x208, x188] h203 fun x209 h210 =>
  (True) ∧ (rgn 2 h210 fun n211 h212 =>
  opt (eqC PG .neq 25 false x209 true (.int .i64 0) 25 4) fun x213 =>
  iteV x213
  (rgn 2 h212 fun n214 h215 =>
  k x209 h215)
  (rgn 2 h212 fun n216 h217 =>
  opt (eqC PG .eql 3 false x200 true (.int .i64 0) 3 4) fun x218 =>
  (fun (j219 : AH → Prop) => iteV x218
  (rgn 5 h217 fun n233 h234 =>
  opt (nckV x178) fun x235 =>
  opt (fa 11 x235) fun x236 =>
  opt (stC 1 x236 x1 h234) fun h237 =>
  j219  h237)
  (j219  h217)) (fun h220 =>
  rgn 10 h220 fun n221 h222 =>
  opt (nckV x0) fun x223 =>
  opt (fa 11 x223) fun x224 =>
  opt (ld1 w x224 h222) fun x225 =>
  opt (gbin PG .add 3 x225 (.int .i64 1) 3 3) fun x226 =>
  opt (gbin PG .and 3 x226 (.int .i64 65535) 3 3) fun x227 =>
  opt (nckV x0) fun x228 =>
  opt (fa 11 x228) fun x229 =>
  opt (stC 1 x229 x227 h222) fun h230 =>
  rgn 1 h230 fun n231 h232 =>
  k (.int .i64 0) h232))))))))))
theorem n47 {pr : CallA} [PrB pr] {w : World} {k : Value → AH → Prop} {x0 x1 x2 x3 : Value} {h0 : AH}  (h : N47 pr w k x0 x1 x2 x3 h0) : CW pr w 47 [x0, x1, x2, x3] h0 k :=
  call_c (fn := Proofs.Tryz.f47) (PrB.other _ _ _ rfl) Proofs.Tryz.func47 (c := bodyC PG 47) (by kernel_rfl) (by kernel_rfl) (by kernel_rfl) (by
    have e : Wc PG pr w (bodyC PG 47) (endC PG w Proofs.Tryz.f47.results.toList k) (argsE [x0, x1, x2, x3]) h0 = N47 pr w k x0 x1 x2 x3 h0 := by kernel_rfl
    exact e.mpr h)

/-- (*pitot/endtx.End).Pass -/
noncomputable def N49 (pr : CallA) (w : World) (k : Value → AH → Prop) (x0 x1 : Value) (h0 : AH) : Prop :=
  rgn 2 h0 fun n100 h101 =>
  rgn 4 h101 fun n102 h103 =>
  CW pr w 145 [x0, x1] h103 fun x104 h105 =>
  rgn 2 h105 fun n106 h107 =>
  opt (eqC PG .neq 25 false x104 true (.int .i64 0) 25 4) fun x108 =>
  iteV x108
  (rgn 3 h107 fun n109 h110 =>
  k (.tuple ⟨[(.slice none 0 0), x104]⟩) h110)
  (rgn 3 h107 fun n111 h112 =>
  CW pr w 147 [x0, x1] h112 fun x113 h114 =>
  rgn 5 h114 fun n115 h116 =>
  opt (nckV x0) fun x117 =>
  opt (fa 14 x117) fun x118 =>
  opt (ld1 w x118 h116) fun x119 =>
  rgn 4 h116 fun n120 h121 =>
  opt (nckV x0) fun x122 =>
  opt (fa 14 x122) fun x123 =>
  opt (stC 1 x123 (.slice none 0 0) h121) fun h124 =>
  rgn 3 h124 fun n125 h126 =>
  k (.tuple ⟨[x119, (.int .i64 0)]⟩) h126)
theorem n49 {pr : CallA} [PrB pr] {w : World} {k : Value → AH → Prop} {x0 x1 : Value} {h0 : AH}  (h : N49 pr w k x0 x1 h0) : CW pr w 49 [x0, x1] h0 k :=
  call_c (fn := Proofs.Tryz.f49) (PrB.other _ _ _ rfl) Proofs.Tryz.func49 (c := bodyC PG 49) (by kernel_rfl) (by kernel_rfl) (by kernel_rfl) (by
    have e : Wc PG pr w (bodyC PG 49) (endC PG w Proofs.Tryz.f49.results.toList k) (argsE [x0, x1]) h0 = N49 pr w k x0 x1 h0 := by kernel_rfl
    exact e.mpr h)

/-- (*pitot/endtx.End).Reset -/
noncomputable def N52 (pr : CallA) (w : World) (k : Value → AH → Prop) (x0 x1 : Value) (h0 : AH) : Prop :=
  rgn 1 h0 fun n100 h101 =>
  rgn 4 h101 fun n102 h103 =>
  CW pr w 145 [x0, x1] h103 fun x104 h105 =>
  rgn 2 h105 fun n106 h107 =>
  opt (eqC PG .neq 25 false x104 true (.int .i64 0) 25 4) fun x108 =>
  iteV x108
  (rgn 2 h107 fun n109 h110 =>
  k x104 h110)
  (rgn 3 h107 fun n111 h112 =>
  CW pr w 147 [x0, x1] h112 fun x113 h114 =>
  rgn 5 h114 fun n115 h116 =>
  opt (nckV x0) fun x117 =>
  opt (fa 7 x117) fun x118 =>
  opt (ld1 w x118 h116) fun x119 =>
  False)
theorem n52 {pr : CallA} [PrB pr] {w : World} {k : Value → AH → Prop} {x0 x1 : Value} {h0 : AH}  (hp : pr 52 [x0, x1] h0 = none) (h : N52 pr w k x0 x1 h0) : CW pr w 52 [x0, x1] h0 k :=
  call_c (fn := Proofs.Tryz.f52) hp Proofs.Tryz.func52 (c := bodyC PG 52) (by kernel_rfl) (by kernel_rfl) (by kernel_rfl) (by
    have e : Wc PG pr w (bodyC PG 52) (endC PG w Proofs.Tryz.f52.results.toList k) (argsE [x0, x1]) h0 = N52 pr w k x0 x1 h0 := by kernel_rfl
    exact e.mpr h)
noncomputable def S52_1110100 (pr : CallA) (w : World) (Q : Ex → Env → AH → Prop) (E0 : Env) (h0 : AH) : Prop :=
  rgn 2 h0 fun n100 h101 =>
  False
theorem s52_1110100 {pr : CallA} {w : World} {Q : Ex → Env → AH → Prop} {E0 : Env} {h0 : AH} (h : S52_1110100 pr w Q E0 h0) : Wc PG pr w (cd PG 52 [1, 1, 1, 0, 1, 0, 0]) Q E0 h0 := by
    have e : Wc PG pr w (cd PG 52 [1, 1, 1, 0, 1, 0, 0]) Q E0 h0 = S52_1110100 pr w Q E0 h0 := by kernel_rfl
    exact e.mpr h
noncomputable def S52_1111 (pr : CallA) (w : World) (Q : Ex → Env → AH → Prop) (E0 : Env) (h0 : AH) : Prop :=
  rgn 1 h0 fun n100 h101 =>
  Q .ret (us E0 [(4, (.int .i64 0))]) h101
theorem s52_1111 {pr : CallA} {w : World} {Q : Ex → Env → AH → Prop} {E0 : Env} {h0 : AH} (h : S52_1111 pr w Q E0 h0) : Wc PG pr w (cd PG 52 [1, 1, 1, 1]) Q E0 h0 := by
    have e : Wc PG pr w (cd PG 52 [1, 1, 1, 1]) Q E0 h0 = S52_1111 pr w Q E0 h0 := by kernel_rfl
    exact e.mpr h

/-- (*pitot/endtx.End).Waits -/
noncomputable def N54 (pr : CallA) (w : World) (k : Value → AH → Prop) (x0 x1 : Value) (h0 : AH) : Prop :=
  rgn 1 h0 fun n100 h101 =>
  rgn 11 h101 fun n102 h103 =>
  opt (eqC PG .eql 76 false x0 true (.pointer none) 76 4) fun x104 =>
  gdP (gw x104 false) (fun k' => k' x0 h103) h103 fun x105 h106 =>
  gdP (gw x104 false) (fun k' => opt (nckV x105) fun x107 =>
  k' x107 h106) h106 fun x108 h109 =>
  gdP (gw x104 false) (fun k' => opt (fa 7 x108) fun x110 =>
  k' x110 h109) h109 fun x111 h112 =>
  gdP (gw x104 false) (fun k' => opt (ld1 w x111 h112) fun x113 =>
  k' x113 h112) h112 fun x114 h115 =>
  gdP (gw x104 false) (fun k' => k' x1 h115) h115 fun x116 h117 =>
  gdP (gw x104 false) (fun k' => opt (aLookup PG 251 x114 x116 false h117) fun x118 =>
  k' x118 h117) h117 fun x119 h120 =>
  gdP (gw x104 false) (fun k' => opt (eqC PG .eql 258 false x119 true (.pointer none) 258 4) fun x121 =>
  k' x121 h120) h120 fun x122 h123 =>
  opt (pickV x104 (.bool true) x122) fun x124 =>
  iteV x124
  (rgn 1 h123 fun n125 h126 =>
  k (.int .i64 0) h126)
  (rgn 11 h123 fun n127 h128 =>
  opt (nckV x0) fun x129 =>
  opt (fa 7 x129) fun x130 =>
  opt (ld1 w x130 h128) fun x131 =>
  opt (aLookup PG 251 x131 x1 false h128) fun x132 =>
  opt (nckV x132) fun x133 =>
  opt (fa 8 x133) fun x134 =>
  opt (ld1 w x134 h128) fun x135 =>
  CW pr w 149 [x135] h128 fun x136 h137 =>
  k x136 h137)
theorem n54 {pr : CallA} [PrB pr] {w : World} {k : Value → AH → Prop} {x0 x1 : Value} {h0 : AH}  (h : N54 pr w k x0 x1 h0) : CW pr w 54 [x0, x1] h0 k :=
  call_c (fn := Proofs.Tryz.f54) (PrB.other _ _ _ rfl) Proofs.Tryz.func54 (c := bodyC PG 54) (by kernel_rfl) (by kernel_rfl) (by kernel_rfl) (by
    have e : Wc PG pr w (bodyC PG 54) (endC PG w Proofs.Tryz.f54.results.toList k) (argsE [x0, x1]) h0 = N54 pr w k x0 x1 h0 := by kernel_rfl
    exact e.mpr h)

/-- (*pitot/endtx.End).timely -/
noncomputable def N145 (pr : CallA) (w : World) (k : Value → AH → Prop) (x0 x1 : Value) (h0 : AH) : Prop :=
  rgn 1 h0 fun n100 h101 =>
  rgn 3 h101 fun n102 h103 =>
  opt (eqC PG .eql 76 false x0 true (.pointer none) 76 4) fun x104 =>
  iteV x104
  (rgn 1 h103 fun n105 h106 =>
  k (.int .i64 2) h106)
  (rgn 7 h103 fun n107 h108 =>
  opt (gbin PG .lss 3 x1 (.int .i64 0) 3 4) fun x109 =>
  gdP (gw x109 false) (fun k' => k' x1 h108) h108 fun x110 h111 =>
  gdP (gw x109 false) (fun k' => opt (gbin PG .gtr 3 x110 (.int .i64 1099511627776) 3 4) fun x112 =>
  k' x112 h111) h111 fun x113 h114 =>
  opt (pickV x109 (.bool true) x113) fun x115 =>
  iteV x115
  (rgn 1 h114 fun n116 h117 =>
  k (.int .i64 1) h117)
  (rgn 7 h114 fun n118 h119 =>
  opt (nckV x0) fun x120 =>
  opt (fa 10 x120) fun x121 =>
  opt (ld1 w x121 h119) fun x122 =>
  opt (gbin PG .lss 3 x1 x122 3 4) fun x123 =>
  iteV x123
  (rgn 1 h119 fun n124 h125 =>
  k (.int .i64 24) h125)
  (rgn 1 h119 fun n126 h127 =>
  k (.int .i64 0) h127)))
theorem n145 {pr : CallA} [PrB pr] {w : World} {k : Value → AH → Prop} {x0 x1 : Value} {h0 : AH}  (h : N145 pr w k x0 x1 h0) : CW pr w 145 [x0, x1] h0 k :=
  call_c (fn := Proofs.Tryz.f145) (PrB.other _ _ _ rfl) Proofs.Tryz.func145 (c := bodyC PG 145) (by kernel_rfl) (by kernel_rfl) (by kernel_rfl) (by
    have e : Wc PG pr w (bodyC PG 145) (endC PG w Proofs.Tryz.f145.results.toList k) (argsE [x0, x1]) h0 = N145 pr w k x0 x1 h0 := by kernel_rfl
    exact e.mpr h)


end Go.Sim
