/-
  DERIVED: THE SHELF's CONTRACTS AT THIS DUMP, IN PLAIN WORDS (tools/lay-plain.mjs out of 'TryzRep.lean', which tools/lay-shelf.mjs wrote): THE SAME DECLARATIONS UNDER THE SAME NAMES: 'import', 'namespace', 'open', 'def', 'theorem' AND NOTHING ELSE: no command of the shelf's: FOR A HAND-IN. Each laying: the table of numbers ('.._ren') and one theorem, a field a fact of the dump's own or the kernel's comparison; each contract: ONE APPLICATION.
-/
import Derived.Shelf.Strings.Repeat
import Derived.Test.YtlacidogpdbpgaaGreatProg
namespace Go.Proofs
open Go.Shelf
def Tryz.lays105_ren : Go.Shelf.Ren := ⟨fun | 105 => 212 | 212 => 300 | 99 => 301 | 165 => 302 | 166 => 303 | 170 => 304 | 169 => 305 | 263 => 365 | 264 => 366 | 206 => 367 | 240 => 368 | 241 => 369 | 276 => 395 | 277 => 396 | n => n, fun | 9 => 9 | 3 => 3 | 4 => 4 | 20 => 20 | 0 => 0 | 46 => 250 | 109 => 494 | 5 => 5 | 72 => 499 | 76 => 502 | 51 => 416 | 146 => 551 | 53 => 458 | 148 => 553 | 70 => 497 | 37 => 186 | 75 => 501 | 127 => 555 | 164 => 576 | 80 => 325 | n => n, fun | n => n⟩
theorem Tryz.lays105 : Go.Proofs.Lays.n105 Tryz.prog Tryz.lays105_ren := {
  mixed := by kernel_rfl
  f99 := Tryz.func301.trans (congrArg some (by kernel_rfl))
  f105 := Tryz.func212.trans (congrArg some (by kernel_rfl))
  f165 := Tryz.func302.trans (congrArg some (by kernel_rfl))
  f166 := Tryz.func303.trans (congrArg some (by kernel_rfl))
  f169 := Tryz.func305.trans (congrArg some (by kernel_rfl))
  f170 := Tryz.func304.trans (congrArg some (by kernel_rfl))
  f206 := Tryz.func367.trans (congrArg some (by kernel_rfl))
  f212 := Tryz.func300.trans (congrArg some (by kernel_rfl))
  f240 := Tryz.func368.trans (congrArg some (by kernel_rfl))
  f241 := Tryz.func369.trans (congrArg some (by kernel_rfl))
  f263 := Tryz.func365.trans (congrArg some (by kernel_rfl))
  f264 := Tryz.func366.trans (congrArg some (by kernel_rfl))
  f276 := Tryz.func395.trans (congrArg some (by kernel_rfl))
  f277 := Tryz.func396.trans (congrArg some (by kernel_rfl))
  t0 := Tryz.underlying0
  a0 := Tryz.isAgg0
  z0 := Tryz.sizeOf0
  v0 := Tryz.zeroValue0
  t3 := Tryz.underlying3
  a3 := Tryz.isAgg3
  z3 := Tryz.sizeOf3
  v3 := Tryz.zeroValue3
  t4 := Tryz.underlying4
  a4 := Tryz.isAgg4
  z4 := Tryz.sizeOf4
  v4 := Tryz.zeroValue4
  t5 := Tryz.underlying5
  a5 := Tryz.isAgg5
  z5 := Tryz.sizeOf5
  v5 := Tryz.zeroValue5
  t9 := Tryz.underlying9
  a9 := Tryz.isAgg9
  z9 := Tryz.sizeOf9
  v9 := Tryz.zeroValue9
  t20 := Tryz.underlying20
  a20 := Tryz.isAgg20
  z20 := Tryz.sizeOf20
  v20 := Tryz.zeroValue20
  t37 := Tryz.underlying186
  a37 := Tryz.isAgg186
  z37 := Tryz.sizeOf186
  v37 := Tryz.zeroValue186
  t46 := Tryz.underlying250
  a46 := Tryz.isAgg250
  z46 := Tryz.sizeOf250
  v46 := Tryz.zeroValue250
  t51 := Tryz.underlying416
  a51 := Tryz.isAgg416
  z51 := Tryz.sizeOf416
  v51 := Tryz.zeroValue416
  t53 := Tryz.underlying458
  a53 := Tryz.isAgg458
  z53 := Tryz.sizeOf458
  v53 := Tryz.zeroValue458
  t70 := Tryz.underlying497
  a70 := Tryz.isAgg497
  z70 := Tryz.sizeOf497
  v70 := Tryz.zeroValue497
  t72 := Tryz.underlying499
  a72 := Tryz.isAgg499
  z72 := Tryz.sizeOf499
  v72 := Tryz.zeroValue499
  t75 := Tryz.underlying501
  a75 := Tryz.isAgg501
  z75 := Tryz.sizeOf501
  v75 := Tryz.zeroValue501
  t76 := Tryz.underlying502
  a76 := Tryz.isAgg502
  z76 := Tryz.sizeOf502
  v76 := Tryz.zeroValue502
  t109 := Tryz.underlying494
  a109 := Tryz.isAgg494
  z109 := Tryz.sizeOf494
  v109 := Tryz.zeroValue494
  t127 := Tryz.underlying555
  a127 := Tryz.isAgg555
  z127 := Tryz.sizeOf555
  v127 := Tryz.zeroValue555
  t146 := Tryz.underlying551
  a146 := Tryz.isAgg551
  z146 := Tryz.sizeOf551
  v146 := Tryz.zeroValue551
  t148 := Tryz.underlying553
  a148 := Tryz.isAgg553
  z148 := Tryz.sizeOf553
  v148 := Tryz.zeroValue553
  t164 := Tryz.underlying576
  a164 := Tryz.isAgg576
  z164 := Tryz.sizeOf576
  v164 := Tryz.zeroValue576 }
theorem Tryz.Builder_Extra_105 : Builder.Extra Tryz.prog Tryz.lays105_ren := {
  sizeBuilder := by kernel_rfl
  liesBuilder := by kernel_rfl
  t5 := Tryz.underlying5
  a5 := Tryz.isAgg5
  z5 := Tryz.sizeOf5
  v5 := Tryz.zeroValue5
  infoByte := by kernel_rfl
  cellsByte := by kernel_rfl
  sizeByte := by kernel_rfl
  neB5 := by decide }
open Go.RowKit Go.Lib in
/-- **strings.Repeat: count ≥ 0, the result within one allocation: count copies of s.** (LAID: no walk: one application.) -/
theorem Tryz.strings_Repeat (s : ByteArray) (c : Nat) (w : World) (hc : c ≤ 9223372036854775807) (hlen : s.size * c ≤ 140737488355328) :
    Calls Tryz.prog 212 #[.string s, .int .i64 c] w fun e w' => e = .returned (.string ⟨(Lib.repeatL s.data.toList c).toArray⟩) ∧ Below w.heap.size w w' := Any.strings_Repeat Tryz.lays105 Tryz.Builder_Extra_105 s c w hc hlen
end Go.Proofs
