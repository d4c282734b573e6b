/-
  What operations on numbers, truths and texts come to in the given program.
-/
import Derived.Test.YtlacidogpdbpgaaGreatWQ
namespace Go.Sim
open Go
set_option maxRecDepth 100000

@[go_sem] theorem eqp_23_n : eqC PG .eql 23 false (.pointer none) true (.pointer none) 23 4 = some (.bool true) := by kernel_rfl
@[go_sem] theorem eqp_23_s (a : Addr) : eqC PG .eql 23 false (.pointer (some a)) true (.pointer none) 23 4 = some (.bool false) := by kernel_rfl
@[go_sem] theorem nep_23_n : eqC PG .neq 23 false (.pointer none) true (.pointer none) 23 4 = some (.bool false) := by kernel_rfl
@[go_sem] theorem nep_23_s (a : Addr) : eqC PG .neq 23 false (.pointer (some a)) true (.pointer none) 23 4 = some (.bool true) := by kernel_rfl
@[go_sem] theorem eqp_76_n : eqC PG .eql 76 false (.pointer none) true (.pointer none) 76 4 = some (.bool true) := by kernel_rfl
@[go_sem] theorem eqp_76_s (a : Addr) : eqC PG .eql 76 false (.pointer (some a)) true (.pointer none) 76 4 = some (.bool false) := by kernel_rfl
@[go_sem] theorem nep_76_n : eqC PG .neq 76 false (.pointer none) true (.pointer none) 76 4 = some (.bool false) := by kernel_rfl
@[go_sem] theorem nep_76_s (a : Addr) : eqC PG .neq 76 false (.pointer (some a)) true (.pointer none) 76 4 = some (.bool true) := by kernel_rfl
@[go_sem] theorem eqp_79_n : eqC PG .eql 79 false (.pointer none) true (.pointer none) 79 4 = some (.bool true) := by kernel_rfl
@[go_sem] theorem eqp_79_s (a : Addr) : eqC PG .eql 79 false (.pointer (some a)) true (.pointer none) 79 4 = some (.bool false) := by kernel_rfl
@[go_sem] theorem nep_79_n : eqC PG .neq 79 false (.pointer none) true (.pointer none) 79 4 = some (.bool false) := by kernel_rfl
@[go_sem] theorem nep_79_s (a : Addr) : eqC PG .neq 79 false (.pointer (some a)) true (.pointer none) 79 4 = some (.bool true) := by kernel_rfl
@[go_sem] theorem eqp_98_n : eqC PG .eql 98 false (.pointer none) true (.pointer none) 98 4 = some (.bool true) := by kernel_rfl
@[go_sem] theorem eqp_98_s (a : Addr) : eqC PG .eql 98 false (.pointer (some a)) true (.pointer none) 98 4 = some (.bool false) := by kernel_rfl
@[go_sem] theorem nep_98_n : eqC PG .neq 98 false (.pointer none) true (.pointer none) 98 4 = some (.bool false) := by kernel_rfl
@[go_sem] theorem nep_98_s (a : Addr) : eqC PG .neq 98 false (.pointer (some a)) true (.pointer none) 98 4 = some (.bool true) := by kernel_rfl
@[go_sem] theorem eqp_121_n : eqC PG .eql 121 false (.pointer none) true (.pointer none) 121 4 = some (.bool true) := by kernel_rfl
@[go_sem] theorem eqp_121_s (a : Addr) : eqC PG .eql 121 false (.pointer (some a)) true (.pointer none) 121 4 = some (.bool false) := by kernel_rfl
@[go_sem] theorem nep_121_n : eqC PG .neq 121 false (.pointer none) true (.pointer none) 121 4 = some (.bool false) := by kernel_rfl
@[go_sem] theorem nep_121_s (a : Addr) : eqC PG .neq 121 false (.pointer (some a)) true (.pointer none) 121 4 = some (.bool true) := by kernel_rfl
@[go_sem] theorem eqp_132_n : eqC PG .eql 132 false (.pointer none) true (.pointer none) 132 4 = some (.bool true) := by kernel_rfl
@[go_sem] theorem eqp_132_s (a : Addr) : eqC PG .eql 132 false (.pointer (some a)) true (.pointer none) 132 4 = some (.bool false) := by kernel_rfl
@[go_sem] theorem nep_132_n : eqC PG .neq 132 false (.pointer none) true (.pointer none) 132 4 = some (.bool false) := by kernel_rfl
@[go_sem] theorem nep_132_s (a : Addr) : eqC PG .neq 132 false (.pointer (some a)) true (.pointer none) 132 4 = some (.bool true) := by kernel_rfl
@[go_sem] theorem eqp_152_n : eqC PG .eql 152 false (.pointer none) true (.pointer none) 152 4 = some (.bool true) := by kernel_rfl
@[go_sem] theorem eqp_152_s (a : Addr) : eqC PG .eql 152 false (.pointer (some a)) true (.pointer none) 152 4 = some (.bool false) := by kernel_rfl
@[go_sem] theorem nep_152_n : eqC PG .neq 152 false (.pointer none) true (.pointer none) 152 4 = some (.bool false) := by kernel_rfl
@[go_sem] theorem nep_152_s (a : Addr) : eqC PG .neq 152 false (.pointer (some a)) true (.pointer none) 152 4 = some (.bool true) := by kernel_rfl
@[go_sem] theorem eqp_182_n : eqC PG .eql 182 false (.pointer none) true (.pointer none) 182 4 = some (.bool true) := by kernel_rfl
@[go_sem] theorem eqp_182_s (a : Addr) : eqC PG .eql 182 false (.pointer (some a)) true (.pointer none) 182 4 = some (.bool false) := by kernel_rfl
@[go_sem] theorem nep_182_n : eqC PG .neq 182 false (.pointer none) true (.pointer none) 182 4 = some (.bool false) := by kernel_rfl
@[go_sem] theorem nep_182_s (a : Addr) : eqC PG .neq 182 false (.pointer (some a)) true (.pointer none) 182 4 = some (.bool true) := by kernel_rfl
@[go_sem] theorem eqp_209_n : eqC PG .eql 209 false (.pointer none) true (.pointer none) 209 4 = some (.bool true) := by kernel_rfl
@[go_sem] theorem eqp_209_s (a : Addr) : eqC PG .eql 209 false (.pointer (some a)) true (.pointer none) 209 4 = some (.bool false) := by kernel_rfl
@[go_sem] theorem nep_209_n : eqC PG .neq 209 false (.pointer none) true (.pointer none) 209 4 = some (.bool false) := by kernel_rfl
@[go_sem] theorem nep_209_s (a : Addr) : eqC PG .neq 209 false (.pointer (some a)) true (.pointer none) 209 4 = some (.bool true) := by kernel_rfl
@[go_sem] theorem eqp_220_n : eqC PG .eql 220 false (.pointer none) true (.pointer none) 220 4 = some (.bool true) := by kernel_rfl
@[go_sem] theorem eqp_220_s (a : Addr) : eqC PG .eql 220 false (.pointer (some a)) true (.pointer none) 220 4 = some (.bool false) := by kernel_rfl
@[go_sem] theorem nep_220_n : eqC PG .neq 220 false (.pointer none) true (.pointer none) 220 4 = some (.bool false) := by kernel_rfl
@[go_sem] theorem nep_220_s (a : Addr) : eqC PG .neq 220 false (.pointer (some a)) true (.pointer none) 220 4 = some (.bool true) := by kernel_rfl
@[go_sem] theorem eqp_225_n : eqC PG .eql 225 false (.pointer none) true (.pointer none) 225 4 = some (.bool true) := by kernel_rfl
@[go_sem] theorem eqp_225_s (a : Addr) : eqC PG .eql 225 false (.pointer (some a)) true (.pointer none) 225 4 = some (.bool false) := by kernel_rfl
@[go_sem] theorem nep_225_n : eqC PG .neq 225 false (.pointer none) true (.pointer none) 225 4 = some (.bool false) := by kernel_rfl
@[go_sem] theorem nep_225_s (a : Addr) : eqC PG .neq 225 false (.pointer (some a)) true (.pointer none) 225 4 = some (.bool true) := by kernel_rfl
@[go_sem] theorem eqp_229_n : eqC PG .eql 229 false (.pointer none) true (.pointer none) 229 4 = some (.bool true) := by kernel_rfl
@[go_sem] theorem eqp_229_s (a : Addr) : eqC PG .eql 229 false (.pointer (some a)) true (.pointer none) 229 4 = some (.bool false) := by kernel_rfl
@[go_sem] theorem nep_229_n : eqC PG .neq 229 false (.pointer none) true (.pointer none) 229 4 = some (.bool false) := by kernel_rfl
@[go_sem] theorem nep_229_s (a : Addr) : eqC PG .neq 229 false (.pointer (some a)) true (.pointer none) 229 4 = some (.bool true) := by kernel_rfl
@[go_sem] theorem eqp_253_n : eqC PG .eql 253 false (.pointer none) true (.pointer none) 253 4 = some (.bool true) := by kernel_rfl
@[go_sem] theorem eqp_253_s (a : Addr) : eqC PG .eql 253 false (.pointer (some a)) true (.pointer none) 253 4 = some (.bool false) := by kernel_rfl
@[go_sem] theorem nep_253_n : eqC PG .neq 253 false (.pointer none) true (.pointer none) 253 4 = some (.bool false) := by kernel_rfl
@[go_sem] theorem nep_253_s (a : Addr) : eqC PG .neq 253 false (.pointer (some a)) true (.pointer none) 253 4 = some (.bool true) := by kernel_rfl
@[go_sem] theorem eqp_258_n : eqC PG .eql 258 false (.pointer none) true (.pointer none) 258 4 = some (.bool true) := by kernel_rfl
@[go_sem] theorem eqp_258_s (a : Addr) : eqC PG .eql 258 false (.pointer (some a)) true (.pointer none) 258 4 = some (.bool false) := by kernel_rfl
@[go_sem] theorem nep_258_n : eqC PG .neq 258 false (.pointer none) true (.pointer none) 258 4 = some (.bool false) := by kernel_rfl
@[go_sem] theorem nep_258_s (a : Addr) : eqC PG .neq 258 false (.pointer (some a)) true (.pointer none) 258 4 = some (.bool true) := by kernel_rfl
@[go_sem] theorem eqp_259_n : eqC PG .eql 259 false (.pointer none) true (.pointer none) 259 4 = some (.bool true) := by kernel_rfl
@[go_sem] theorem eqp_259_s (a : Addr) : eqC PG .eql 259 false (.pointer (some a)) true (.pointer none) 259 4 = some (.bool false) := by kernel_rfl
@[go_sem] theorem nep_259_n : eqC PG .neq 259 false (.pointer none) true (.pointer none) 259 4 = some (.bool false) := by kernel_rfl
@[go_sem] theorem nep_259_s (a : Addr) : eqC PG .neq 259 false (.pointer (some a)) true (.pointer none) 259 4 = some (.bool true) := by kernel_rfl
@[go_sem] theorem eqp_260_n : eqC PG .eql 260 false (.pointer none) true (.pointer none) 260 4 = some (.bool true) := by kernel_rfl
@[go_sem] theorem eqp_260_s (a : Addr) : eqC PG .eql 260 false (.pointer (some a)) true (.pointer none) 260 4 = some (.bool false) := by kernel_rfl
@[go_sem] theorem nep_260_n : eqC PG .neq 260 false (.pointer none) true (.pointer none) 260 4 = some (.bool false) := by kernel_rfl
@[go_sem] theorem nep_260_s (a : Addr) : eqC PG .neq 260 false (.pointer (some a)) true (.pointer none) 260 4 = some (.bool true) := by kernel_rfl
@[go_sem] theorem eqp_282_n : eqC PG .eql 282 false (.pointer none) true (.pointer none) 282 4 = some (.bool true) := by kernel_rfl
@[go_sem] theorem eqp_282_s (a : Addr) : eqC PG .eql 282 false (.pointer (some a)) true (.pointer none) 282 4 = some (.bool false) := by kernel_rfl
@[go_sem] theorem nep_282_n : eqC PG .neq 282 false (.pointer none) true (.pointer none) 282 4 = some (.bool false) := by kernel_rfl
@[go_sem] theorem nep_282_s (a : Addr) : eqC PG .neq 282 false (.pointer (some a)) true (.pointer none) 282 4 = some (.bool true) := by kernel_rfl
@[go_sem] theorem eqp_318_n : eqC PG .eql 318 false (.pointer none) true (.pointer none) 318 4 = some (.bool true) := by kernel_rfl
@[go_sem] theorem eqp_318_s (a : Addr) : eqC PG .eql 318 false (.pointer (some a)) true (.pointer none) 318 4 = some (.bool false) := by kernel_rfl
@[go_sem] theorem nep_318_n : eqC PG .neq 318 false (.pointer none) true (.pointer none) 318 4 = some (.bool false) := by kernel_rfl
@[go_sem] theorem nep_318_s (a : Addr) : eqC PG .neq 318 false (.pointer (some a)) true (.pointer none) 318 4 = some (.bool true) := by kernel_rfl
@[go_sem] theorem eqp_327_n : eqC PG .eql 327 false (.pointer none) true (.pointer none) 327 4 = some (.bool true) := by kernel_rfl
@[go_sem] theorem eqp_327_s (a : Addr) : eqC PG .eql 327 false (.pointer (some a)) true (.pointer none) 327 4 = some (.bool false) := by kernel_rfl
@[go_sem] theorem nep_327_n : eqC PG .neq 327 false (.pointer none) true (.pointer none) 327 4 = some (.bool false) := by kernel_rfl
@[go_sem] theorem nep_327_s (a : Addr) : eqC PG .neq 327 false (.pointer (some a)) true (.pointer none) 327 4 = some (.bool true) := by kernel_rfl
@[go_sem] theorem eqp_336_n : eqC PG .eql 336 false (.pointer none) true (.pointer none) 336 4 = some (.bool true) := by kernel_rfl
@[go_sem] theorem eqp_336_s (a : Addr) : eqC PG .eql 336 false (.pointer (some a)) true (.pointer none) 336 4 = some (.bool false) := by kernel_rfl
@[go_sem] theorem nep_336_n : eqC PG .neq 336 false (.pointer none) true (.pointer none) 336 4 = some (.bool false) := by kernel_rfl
@[go_sem] theorem nep_336_s (a : Addr) : eqC PG .neq 336 false (.pointer (some a)) true (.pointer none) 336 4 = some (.bool true) := by kernel_rfl
@[go_sem] theorem eqp_337_n : eqC PG .eql 337 false (.pointer none) true (.pointer none) 337 4 = some (.bool true) := by kernel_rfl
@[go_sem] theorem eqp_337_s (a : Addr) : eqC PG .eql 337 false (.pointer (some a)) true (.pointer none) 337 4 = some (.bool false) := by kernel_rfl
@[go_sem] theorem nep_337_n : eqC PG .neq 337 false (.pointer none) true (.pointer none) 337 4 = some (.bool false) := by kernel_rfl
@[go_sem] theorem nep_337_s (a : Addr) : eqC PG .neq 337 false (.pointer (some a)) true (.pointer none) 337 4 = some (.bool true) := by kernel_rfl
@[go_sem] theorem eqp_339_n : eqC PG .eql 339 false (.pointer none) true (.pointer none) 339 4 = some (.bool true) := by kernel_rfl
@[go_sem] theorem eqp_339_s (a : Addr) : eqC PG .eql 339 false (.pointer (some a)) true (.pointer none) 339 4 = some (.bool false) := by kernel_rfl
@[go_sem] theorem nep_339_n : eqC PG .neq 339 false (.pointer none) true (.pointer none) 339 4 = some (.bool false) := by kernel_rfl
@[go_sem] theorem nep_339_s (a : Addr) : eqC PG .neq 339 false (.pointer (some a)) true (.pointer none) 339 4 = some (.bool true) := by kernel_rfl
@[go_sem] theorem eqp_359_n : eqC PG .eql 359 false (.pointer none) true (.pointer none) 359 4 = some (.bool true) := by kernel_rfl
@[go_sem] theorem eqp_359_s (a : Addr) : eqC PG .eql 359 false (.pointer (some a)) true (.pointer none) 359 4 = some (.bool false) := by kernel_rfl
@[go_sem] theorem nep_359_n : eqC PG .neq 359 false (.pointer none) true (.pointer none) 359 4 = some (.bool false) := by kernel_rfl
@[go_sem] theorem nep_359_s (a : Addr) : eqC PG .neq 359 false (.pointer (some a)) true (.pointer none) 359 4 = some (.bool true) := by kernel_rfl
@[go_sem] theorem eqp_394_n : eqC PG .eql 394 false (.pointer none) true (.pointer none) 394 4 = some (.bool true) := by kernel_rfl
@[go_sem] theorem eqp_394_s (a : Addr) : eqC PG .eql 394 false (.pointer (some a)) true (.pointer none) 394 4 = some (.bool false) := by kernel_rfl
@[go_sem] theorem nep_394_n : eqC PG .neq 394 false (.pointer none) true (.pointer none) 394 4 = some (.bool false) := by kernel_rfl
@[go_sem] theorem nep_394_s (a : Addr) : eqC PG .neq 394 false (.pointer (some a)) true (.pointer none) 394 4 = some (.bool true) := by kernel_rfl
@[go_sem] theorem eqp_497_n : eqC PG .eql 497 false (.pointer none) true (.pointer none) 497 4 = some (.bool true) := by kernel_rfl
@[go_sem] theorem eqp_497_s (a : Addr) : eqC PG .eql 497 false (.pointer (some a)) true (.pointer none) 497 4 = some (.bool false) := by kernel_rfl
@[go_sem] theorem nep_497_n : eqC PG .neq 497 false (.pointer none) true (.pointer none) 497 4 = some (.bool false) := by kernel_rfl
@[go_sem] theorem nep_497_s (a : Addr) : eqC PG .neq 497 false (.pointer (some a)) true (.pointer none) 497 4 = some (.bool true) := by kernel_rfl
@[go_sem] theorem eqp_556_n : eqC PG .eql 556 false (.pointer none) true (.pointer none) 556 4 = some (.bool true) := by kernel_rfl
@[go_sem] theorem eqp_556_s (a : Addr) : eqC PG .eql 556 false (.pointer (some a)) true (.pointer none) 556 4 = some (.bool false) := by kernel_rfl
@[go_sem] theorem nep_556_n : eqC PG .neq 556 false (.pointer none) true (.pointer none) 556 4 = some (.bool false) := by kernel_rfl
@[go_sem] theorem nep_556_s (a : Addr) : eqC PG .neq 556 false (.pointer (some a)) true (.pointer none) 556 4 = some (.bool true) := by kernel_rfl
@[go_sem] theorem gbadd_3 (a b : Int) : gbin PG .add 3 (.int .i64 a) (.int .i64 b) 3 3 = some (.int .i64 (IntKind.wrap .i64 (a + b))) := by kernel_rfl
@[go_sem] theorem gbsub_3 (a b : Int) : gbin PG .sub 3 (.int .i64 a) (.int .i64 b) 3 3 = some (.int .i64 (IntKind.wrap .i64 (a - b))) := by kernel_rfl
@[go_sem] theorem gbmul_3 (a b : Int) : gbin PG .mul 3 (.int .i64 a) (.int .i64 b) 3 3 = some (.int .i64 (IntKind.wrap .i64 (a * b))) := by kernel_rfl
@[go_sem] theorem gbadd_458 (a b : Int) : gbin PG .add 458 (.int .u64 a) (.int .u64 b) 458 458 = some (.int .u64 (IntKind.wrap .u64 (a + b))) := by kernel_rfl
@[go_sem] theorem gbmul_458 (a b : Int) : gbin PG .mul 458 (.int .u64 a) (.int .u64 b) 458 458 = some (.int .u64 (IntKind.wrap .u64 (a * b))) := by kernel_rfl
@[go_sem] theorem gbsub_458 (a b : Int) : gbin PG .sub 458 (.int .u64 a) (.int .u64 b) 458 458 = some (.int .u64 (IntKind.wrap .u64 (a - b))) := by kernel_rfl
@[go_sem] theorem gbsub_5 (a b : Int) : gbin PG .sub 5 (.int .u8 a) (.int .u8 b) 5 5 = some (.int .u8 (IntKind.wrap .u8 (a - b))) := by kernel_rfl
@[go_sem] theorem gbsub_250 (a b : Int) : gbin PG .sub 250 (.int .u64 a) (.int .u64 b) 250 250 = some (.int .u64 (IntKind.wrap .u64 (a - b))) := by kernel_rfl
@[go_sem] theorem gband_250 (a b : Int) : gbin PG .and 250 (.int .u64 a) (.int .u64 b) 250 250 = some (.int .u64 (band .u64 a b)) := by kernel_rfl
@[go_sem] theorem gband_3 (a b : Int) : gbin PG .and 3 (.int .i64 a) (.int .i64 b) 3 3 = some (.int .i64 (band .i64 a b)) := by kernel_rfl
@[go_sem] theorem gband_416 (a b : Int) : gbin PG .and 416 (.int .u32 a) (.int .u32 b) 416 416 = some (.int .u32 (band .u32 a b)) := by kernel_rfl
@[go_sem] theorem gband_458 (a b : Int) : gbin PG .and 458 (.int .u64 a) (.int .u64 b) 458 458 = some (.int .u64 (band .u64 a b)) := by kernel_rfl
@[go_sem] theorem gbandNot_3 (a b : Int) : gbin PG .andNot 3 (.int .i64 a) (.int .i64 b) 3 3 = some (.int .i64 (bandNot .i64 a b)) := by kernel_rfl
@[go_sem] theorem gbor_3 (a b : Int) : gbin PG .or 3 (.int .i64 a) (.int .i64 b) 3 3 = some (.int .i64 (bor .i64 a b)) := by kernel_rfl
@[go_sem] theorem gbor_416 (a b : Int) : gbin PG .or 416 (.int .u32 a) (.int .u32 b) 416 416 = some (.int .u32 (bor .u32 a b)) := by kernel_rfl
@[go_sem] theorem gbor_458 (a b : Int) : gbin PG .or 458 (.int .u64 a) (.int .u64 b) 458 458 = some (.int .u64 (bor .u64 a b)) := by kernel_rfl
@[go_sem] theorem gbxor_416 (a b : Int) : gbin PG .xor 416 (.int .u32 a) (.int .u32 b) 416 416 = some (.int .u32 (bxor .u32 a b)) := by kernel_rfl
@[go_sem] theorem gbxor_5 (a b : Int) : gbin PG .xor 5 (.int .u8 a) (.int .u8 b) 5 5 = some (.int .u8 (bxor .u8 a b)) := by kernel_rfl
@[go_sem] theorem gblss_3_0 (a b : Int) : gbin PG .lss 3 (.int .i64 a) (.int .i64 b) 3 0 = some (.bool (decide (a < b))) := by kernel_rfl
@[go_sem] theorem gblss_3_4 (a b : Int) : gbin PG .lss 3 (.int .i64 a) (.int .i64 b) 3 4 = some (.bool (decide (a < b))) := by kernel_rfl
@[go_sem] theorem gbleq_3_4 (a b : Int) : gbin PG .leq 3 (.int .i64 a) (.int .i64 b) 3 4 = some (.bool (decide (a ≤ b))) := by kernel_rfl
@[go_sem] theorem gbgtr_3_4 (a b : Int) : gbin PG .gtr 3 (.int .i64 a) (.int .i64 b) 3 4 = some (.bool (decide (a > b))) := by kernel_rfl
@[go_sem] theorem gbgeq_3_4 (a b : Int) : gbin PG .geq 3 (.int .i64 a) (.int .i64 b) 3 4 = some (.bool (decide (a ≥ b))) := by kernel_rfl
@[go_sem] theorem gbgeq_416_4 (a b : Int) : gbin PG .geq 416 (.int .u32 a) (.int .u32 b) 416 4 = some (.bool (decide (a ≥ b))) := by kernel_rfl
@[go_sem] theorem gbgeq_458_4 (a b : Int) : gbin PG .geq 458 (.int .u64 a) (.int .u64 b) 458 4 = some (.bool (decide (a ≥ b))) := by kernel_rfl
@[go_sem] theorem gbgtr_250_4 (a b : Int) : gbin PG .gtr 250 (.int .u64 a) (.int .u64 b) 250 4 = some (.bool (decide (a > b))) := by kernel_rfl
@[go_sem] theorem eq_25_true (a b : Int) : eqC PG .eql 25 false (.int .i64 a) true (.int .i64 b) 25 4 = some (.bool (a == b)) := by kernel_rfl
@[go_sem] theorem ne_25_true (a b : Int) : eqC PG .neq 25 false (.int .i64 a) true (.int .i64 b) 25 4 = some (.bool (a != b)) := by kernel_rfl
@[go_sem] theorem eq_25_false (a b : Int) : eqC PG .eql 25 false (.int .i64 a) false (.int .i64 b) 25 4 = some (.bool (a == b)) := by kernel_rfl
@[go_sem] theorem ne_25_false (a b : Int) : eqC PG .neq 25 false (.int .i64 a) false (.int .i64 b) 25 4 = some (.bool (a != b)) := by kernel_rfl
@[go_sem] theorem eq_250_true (a b : Int) : eqC PG .eql 250 false (.int .u64 a) true (.int .u64 b) 250 4 = some (.bool (a == b)) := by kernel_rfl
@[go_sem] theorem ne_250_true (a b : Int) : eqC PG .neq 250 false (.int .u64 a) true (.int .u64 b) 250 4 = some (.bool (a != b)) := by kernel_rfl
@[go_sem] theorem eq_250_false (a b : Int) : eqC PG .eql 250 false (.int .u64 a) false (.int .u64 b) 250 4 = some (.bool (a == b)) := by kernel_rfl
@[go_sem] theorem ne_250_false (a b : Int) : eqC PG .neq 250 false (.int .u64 a) false (.int .u64 b) 250 4 = some (.bool (a != b)) := by kernel_rfl
@[go_sem] theorem eq_3_true (a b : Int) : eqC PG .eql 3 false (.int .i64 a) true (.int .i64 b) 3 4 = some (.bool (a == b)) := by kernel_rfl
@[go_sem] theorem ne_3_true (a b : Int) : eqC PG .neq 3 false (.int .i64 a) true (.int .i64 b) 3 4 = some (.bool (a != b)) := by kernel_rfl
@[go_sem] theorem eq_3_false (a b : Int) : eqC PG .eql 3 false (.int .i64 a) false (.int .i64 b) 3 4 = some (.bool (a == b)) := by kernel_rfl
@[go_sem] theorem ne_3_false (a b : Int) : eqC PG .neq 3 false (.int .i64 a) false (.int .i64 b) 3 4 = some (.bool (a != b)) := by kernel_rfl
@[go_sem] theorem eq_416_true (a b : Int) : eqC PG .eql 416 false (.int .u32 a) true (.int .u32 b) 416 4 = some (.bool (a == b)) := by kernel_rfl
@[go_sem] theorem ne_416_true (a b : Int) : eqC PG .neq 416 false (.int .u32 a) true (.int .u32 b) 416 4 = some (.bool (a != b)) := by kernel_rfl
@[go_sem] theorem eq_416_false (a b : Int) : eqC PG .eql 416 false (.int .u32 a) false (.int .u32 b) 416 4 = some (.bool (a == b)) := by kernel_rfl
@[go_sem] theorem ne_416_false (a b : Int) : eqC PG .neq 416 false (.int .u32 a) false (.int .u32 b) 416 4 = some (.bool (a != b)) := by kernel_rfl
@[go_sem] theorem eq_458_true (a b : Int) : eqC PG .eql 458 false (.int .u64 a) true (.int .u64 b) 458 4 = some (.bool (a == b)) := by kernel_rfl
@[go_sem] theorem ne_458_true (a b : Int) : eqC PG .neq 458 false (.int .u64 a) true (.int .u64 b) 458 4 = some (.bool (a != b)) := by kernel_rfl
@[go_sem] theorem eq_458_false (a b : Int) : eqC PG .eql 458 false (.int .u64 a) false (.int .u64 b) 458 4 = some (.bool (a == b)) := by kernel_rfl
@[go_sem] theorem ne_458_false (a b : Int) : eqC PG .neq 458 false (.int .u64 a) false (.int .u64 b) 458 4 = some (.bool (a != b)) := by kernel_rfl
@[go_sem] theorem eq_5_true (a b : Int) : eqC PG .eql 5 false (.int .u8 a) true (.int .u8 b) 5 4 = some (.bool (a == b)) := by kernel_rfl
@[go_sem] theorem ne_5_true (a b : Int) : eqC PG .neq 5 false (.int .u8 a) true (.int .u8 b) 5 4 = some (.bool (a != b)) := by kernel_rfl
@[go_sem] theorem eq_5_false (a b : Int) : eqC PG .eql 5 false (.int .u8 a) false (.int .u8 b) 5 4 = some (.bool (a == b)) := by kernel_rfl
@[go_sem] theorem ne_5_false (a b : Int) : eqC PG .neq 5 false (.int .u8 a) false (.int .u8 b) 5 4 = some (.bool (a != b)) := by kernel_rfl
@[go_sem] theorem eq_b_true (a b : Bool) : eqC PG .eql 4 false (.bool a) true (.bool b) 4 4 = some (.bool (a == b)) := by kernel_rfl
@[go_sem] theorem ne_b_true (a b : Bool) : eqC PG .neq 4 false (.bool a) true (.bool b) 4 4 = some (.bool (a != b)) := by kernel_rfl
@[go_sem] theorem eq_s_true (a b : ByteArray) : eqC PG .eql 9 false (.string a) true (.string b) 9 4 = some (.bool (a.toList == b.toList)) := by kernel_rfl
@[go_sem] theorem ne_s_true (a b : ByteArray) : eqC PG .neq 9 false (.string a) true (.string b) 9 4 = some (.bool (!(a.toList == b.toList))) := by kernel_rfl
@[go_sem] theorem eq_b_false (a b : Bool) : eqC PG .eql 4 false (.bool a) false (.bool b) 4 4 = some (.bool (a == b)) := by kernel_rfl
@[go_sem] theorem ne_b_false (a b : Bool) : eqC PG .neq 4 false (.bool a) false (.bool b) 4 4 = some (.bool (a != b)) := by kernel_rfl
@[go_sem] theorem eq_s_false (a b : ByteArray) : eqC PG .eql 9 false (.string a) false (.string b) 9 4 = some (.bool (a.toList == b.toList)) := by kernel_rfl
@[go_sem] theorem ne_s_false (a b : ByteArray) : eqC PG .neq 9 false (.string a) false (.string b) 9 4 = some (.bool (!(a.toList == b.toList))) := by kernel_rfl
@[go_sem] theorem gu_not (a : Bool) : gun PG .not 4 (.bool a) 4 = some (.bool (!a)) := by kernel_rfl
@[go_sem] theorem gc_250_3 (a : Int) : gcv PG 250 3 (.int .u64 a) 3 = some (.int .i64 (IntKind.wrap .i64 a)) := by kernel_rfl
@[go_sem] theorem gc_250_416 (a : Int) : gcv PG 250 416 (.int .u64 a) 416 = some (.int .u32 (IntKind.wrap .u32 a)) := by kernel_rfl
@[go_sem] theorem gc_3_250 (a : Int) : gcv PG 3 250 (.int .i64 a) 250 = some (.int .u64 (IntKind.wrap .u64 a)) := by kernel_rfl
@[go_sem] theorem gc_3_416 (a : Int) : gcv PG 3 416 (.int .i64 a) 416 = some (.int .u32 (IntKind.wrap .u32 a)) := by kernel_rfl
@[go_sem] theorem gc_3_458 (a : Int) : gcv PG 3 458 (.int .i64 a) 458 = some (.int .u64 (IntKind.wrap .u64 a)) := by kernel_rfl
@[go_sem] theorem gc_3_5 (a : Int) : gcv PG 3 5 (.int .i64 a) 5 = some (.int .u8 (IntKind.wrap .u8 a)) := by kernel_rfl
@[go_sem] theorem gc_416_250 (a : Int) : gcv PG 416 250 (.int .u32 a) 250 = some (.int .u64 (IntKind.wrap .u64 a)) := by kernel_rfl
@[go_sem] theorem gc_416_3 (a : Int) : gcv PG 416 3 (.int .u32 a) 3 = some (.int .i64 (IntKind.wrap .i64 a)) := by kernel_rfl
@[go_sem] theorem gc_416_458 (a : Int) : gcv PG 416 458 (.int .u32 a) 458 = some (.int .u64 (IntKind.wrap .u64 a)) := by kernel_rfl
@[go_sem] theorem gc_416_5 (a : Int) : gcv PG 416 5 (.int .u32 a) 5 = some (.int .u8 (IntKind.wrap .u8 a)) := by kernel_rfl
@[go_sem] theorem gc_458_3 (a : Int) : gcv PG 458 3 (.int .u64 a) 3 = some (.int .i64 (IntKind.wrap .i64 a)) := by kernel_rfl
@[go_sem] theorem gc_458_416 (a : Int) : gcv PG 458 416 (.int .u64 a) 416 = some (.int .u32 (IntKind.wrap .u32 a)) := by kernel_rfl
@[go_sem] theorem gc_5_3 (a : Int) : gcv PG 5 3 (.int .u8 a) 3 = some (.int .i64 (IntKind.wrap .i64 a)) := by kernel_rfl
@[go_sem] theorem gc_5_416 (a : Int) : gcv PG 5 416 (.int .u8 a) 416 = some (.int .u32 (IntKind.wrap .u32 a)) := by kernel_rfl
@[go_sem] theorem gc_458_5 (a : Int) : gcv PG 458 5 (.int .u64 a) 5 = some (.int .u8 (IntKind.wrap .u8 a)) := by kernel_rfl
@[go_sem] theorem gc_5_458 (a : Int) : gcv PG 5 458 (.int .u8 a) 458 = some (.int .u64 (IntKind.wrap .u64 a)) := by kernel_rfl
@[go_sem] theorem gmin (a b : Int) : gmm PG false [.int .i64 a, .int .i64 b] #[3, 3] 3 = some (.int .i64 (if b < a then b else a)) := by kernel_rfl
@[go_sem] theorem gmax (a b : Int) : gmm PG true [.int .i64 a, .int .i64 b] #[3, 3] 3 = some (.int .i64 (if b > a then b else a)) := by kernel_rfl

end Go.Sim
