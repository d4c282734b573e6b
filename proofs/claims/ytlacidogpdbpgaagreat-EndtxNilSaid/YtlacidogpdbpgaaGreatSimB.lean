/-
  The determinate reading, second part: regions whose order is drawn, code, functions.
-/
import Derived.Test.YtlacidogpdbpgaaGreatSimA
namespace Go.Sim
open Go
set_option linter.unusedSimpArgs false
set_option linter.unusedVariables false

mutual
/-- the same value, sign by sign -/
def sameV : Value → Value → Bool
  | .bool a, .bool b => a == b
  | .int j a, .int k b => j == k && a == b
  | .string a, .string b => decide (a.data.toList = b.data.toList)
  | .pointer a, .pointer b => a == b
  | .slice a l c, .slice b m d => a == b && Nat.beq l m && Nat.beq c d
  | .map a, .map b => a == b
  | .nilFunc, .nilFunc => true
  | .nilIface, .nilIface => true
  | .func f a b, .func g c d => f == g && sameA a c && sameA b d
  | .iface t v, .iface u w => Nat.beq t u && sameV v w
  | .agg a, .agg b => sameA a b
  | .tuple a, .tuple b => sameA a b
  | _, _ => false
def sameA : Array Value → Array Value → Bool
  | ⟨a⟩, ⟨b⟩ => sameL a b
def sameL : List Value → List Value → Bool
  | [], [] => true
  | a :: x, b :: y => sameV a b && sameL x y
  | _, _ => false
end

def sameEs : List MapEntry → List MapEntry → Bool
  | [], [] => true
  | a :: x, b :: y => sameV a.key b.key && sameV a.val b.val && Nat.beq a.born b.born && sameEs x y
  | _, _ => false

def sameBlk : Option Blk → Option Blk → Bool
  | some (.row a t), some (.row b u) => sameL a b && Nat.beq t u
  | some (.map a m), some (.map b n) => sameEs a b && Nat.beq m n
  | _, _ => false

inductive Cls where
  | pure | read | alloc | eff

instance : DecidableEq Cls := fun a b => by cases a <;> cases b <;> first | exact .isTrue rfl | exact .isFalse (fun h => by cases h)

def clsOf (P : Program) : Op → Cls
  | .move _ | .assign _ | .pick .. | .nilCheck _ | .binOp .. | .unOp .. | .extract .. | .fieldAddr .. | .field .. | .indexAddr .. | .index ..
  |   .build .. | .sliceToArrayPointer .. | .makeInterface .. | .makeFunc .. | .typeAssert .. => .pure
  | .load .. | .lookup .. | .slice .. => .read
  | .call { callee := .builtin .len, .. } => .read
  | .call { callee := .builtin .min, .. } | .call { callee := .builtin .max, .. } => .pure
  | .convert s d _ => match convKind P s d with
    | .bytesStr _ => .read
    | .strBytes _ => .alloc
    | _ => .pure
  | .alloc _ | .box .. | .buildSlice .. | .makeMap .. => .alloc
  | _ => .eff

structure Rec where
  o : Oper
  nm : Nat
  want : Bool
  T : Tmps
  pre : AH
  v : Value
  post : AH

/-- those that stand ahead of an operation, as a mask -/
def maskOf (o : Oper) (acc : List Nat) : Nat := o.after.toList.foldl (fun s e => cond (Region.binds .any e) (s ||| 2 ^ e.on ||| acc.getD e.on 0) s) 0

/-- of each operation: those that stand ahead of it, as a mask -/
def befores : List Oper → List Nat → List Nat
  | [], _ => []
  | o :: os, acc => maskOf o acc :: befores os (acc ++ [maskOf o acc])

section
variable (P : Program) (w0 : World) (call : CallA)

/-- a new block's name is free -/
def nameOk (o : Oper) (nm : Nat) (H : AH) : Bool :=
  match clsOf P o.op with
  | .alloc => (H.get nm).isNone
  | _ => true

def aTrace (ops : Array Oper) : List Oper → Nat → Tmps → AH → Option (List Rec × Tmps × AH)
  | [], _, T, H => some ([], T, H)
  | o :: os, nm, T, H =>
    cond (wantedT o ops T)
      (cond (nameOk P o nm H) (match aOp P w0 call nm o T H with
       | some (v, H') => (aTrace ops os (nm + 1) (putT T o.dst v) H').map fun r => (⟨o, nm, true, T, H, v, H'⟩ :: r.1, r.2)
       | none => none) none)
      ((aTrace ops os (nm + 1) (putT T o.dst undef) H).map fun r => (⟨o, nm, false, T, H, undef, H⟩ :: r.1, r.2))

/-- does a read give the same with the heap as it is given? -/
def again (r : Rec) (H : AH) : Bool :=
  match aOp P w0 call r.nm r.o r.T H with
  | some (v, _) => sameV v r.v
  | none => false

/-- of two operations that stand in no order (x ahead of y in the text): do they not meddle? -/
def meddleNot (x y : Rec) : Bool :=
  match clsOf P x.o.op, clsOf P y.o.op with
  | .read, .eff => again P w0 call x y.post
  | .eff, .read => again P w0 call y x.pre
  | .alloc, .eff => sameBlk (y.post.get x.nm) (x.post.get x.nm)
  | .eff, .alloc => (x.pre.get y.nm).isNone
  | .eff, .eff => false
  | _, _ => true

def rowOk {α : Type} (f : α → α → Bool) (y : α) (m : Nat) : List α → Nat → Bool
  | [], _ => true
  | x :: xs, i => (m.testBit i || f x y) && rowOk f y m xs (i + 1)

/-- each pair stands in an order, or fits -/
def pairsOk {α : Type} (f : α → α → Bool) (all : List α) : List α → List Nat → Nat → Bool
  | y :: ys, m :: ms, j => rowOk f y m (all.take j) 0 && pairsOk f all ys ms (j + 1)
  | _, _, _ => true

def backOk : List Oper → Nat → Bool
  | [], _ => true
  | o :: os, i => (o.after.toList.all fun e => !Region.binds .any e || Nat.blt e.on i) && backOk os (i + 1)

def drawOk (ops : Array Oper) : Bool := backOk ops.toList 0 && pairsOk (Oper.apart ops) ops.toList ops.toList (befores ops.toList []) 0

def aRegion (ops : Array Oper) (draw : Bool) (T : Tmps) (H : AH) : Option (Tmps × AH) :=
  let H0 : AH := ⟨H.next + ops.size, H.blk⟩
  cond draw
    (match aTrace P w0 call ops ops.toList H.next T H0 with
     | some (recs, T', H') => cond (drawOk ops && pairsOk (fun x y => !x.want || !y.want || meddleNot P w0 call x y) recs recs (befores ops.toList []) 0) (some (T', H')) none
     | none => none)
    (aOps P w0 call ops ops.toList H.next T H0)

inductive Ex where
  | normal
  | exit (id : Nat)
  | goto (l : Nat)
  | ret

def aCode : Nat → Option Code → Code → Tmps → AH → Option (Ex × Tmps × AH)
  | 0, _, _, _, _ => none
  | n + 1, some body, c, T, H =>
    match aCode n none c T H with
    | some (.goto l, T', H') => match findLabel body l with
      | some rest => aCode n (some body) rest T' H'
      | none => some (.goto l, T', H')
    | r => r
  | n + 1, none, c, T, H =>
    match c with
    | .skip | .label _ => some (.normal, T, H)
    | .region _ ops draw => (aRegion P w0 call ops draw T H).map fun r => (.normal, r)
    | .seq a b => match aCode n none a T H with
      | some (.normal, T', H') => aCode n none b T' H'
      | r => r
    | .cond c a b => match ev T c with
      | .bool t => cond t (aCode n none a T H) (aCode n none b T H)
      | _ => none
    | .block id body => match aCode n none body T H with
      | some (.exit i, T', H') => cond (Nat.beq i id) (some (.normal, T', H')) (some (.exit i, T', H'))
      | r => r
    | .loop body => match aCode n none body T H with
      | some (.normal, T', H') => aCode n none (.loop body) T' H'
      | r => r
    | .exit id => some (.exit id, T, H)
    | .scope body => aCode n (some body) body T H
    | .goto l => some (.goto l, T, H)
    | .ret => some (.ret, T, H)
    | _ => none

end

/-- a constant that may stand in a text -/
def constOk : Operand → Bool
  | .const v => ground v
  | .global _ => false
  | _ => true

def opOk (N : Nat) (o : Oper) : Bool :=
  (o.op.operands.toList.all constOk) && (match o.dst with | some d => Nat.blt d N | none => true)

def codeOk (N : Nat) : Code → Bool
  | .region _ ops _ => ops.toList.all (opOk N)
  | .seq a b => codeOk N a && codeOk N b
  | .cond c a b => constOk c && codeOk N a && codeOk N b
  | .rangeFunc .. => false
  | .block _ c | .loop c | .scope c => codeOk N c
  | .refuse _ => true
  | _ => true

def fnOk (fn : Func) : Bool :=
  match fn.body with
  | some c => codeOk fn.ntmps c
  | none => false

def argsT : List Value → Nat → Tmps → Tmps
  | [], _, T => T
  | v :: vs, i, T => argsT vs (i + 1) (T.set (some v) i)

def aResult (P : Program) (w0 : World) (T : Tmps) (H : AH) : ResultVar → Option Value
  | .tmp t => some ((T.get t).getD undef)
  | .cell a t => aLoad P w0 t ((T.get a).getD undef) H

def aResults (P : Program) (w0 : World) (T : Tmps) (H : AH) : List ResultVar → Option (List Value)
  | [] => some []
  | r :: rs => match aResult P w0 T H r, aResults P w0 T H rs with
    | some v, some vs => some (v :: vs)
    | _, _ => none

def packed : List Value → Value
  | [v] => v
  | vs => .tuple ⟨vs⟩

/-- functions that are known without being gone through: a value for their arguments, the heap as it was -/
abbrev Prims := FuncId → List Value → Option Value

/-- what a call answers: K bounds the rounds, the second number how deep calls lie -/
def aFn (P : Program) (pr : Prims) (w0 : World) (K : Nat) : Nat → CallA
  | 0, _, _, _ => none
  | n + 1, f, args, H =>
    match pr f args with
    | some v => some (v, H)
    | none =>
    match P.funcs[f]? with
    | none => none
    | some fn =>
      match fn.body with
      | none => none
      | some c =>
        cond (fnOk fn && Nat.ble args.length fn.ntmps)
          (match aCode P w0 (aFn P pr w0 K n) K none c (argsT args 0 .leaf) H with
           | some (ex, T, H') =>
             match ex with
             | .normal | .ret => (aResults P w0 T H' fn.results.toList).map fun vs => (packed vs, H')
             | _ => none
           | none => none)
          none

end Go.Sim
