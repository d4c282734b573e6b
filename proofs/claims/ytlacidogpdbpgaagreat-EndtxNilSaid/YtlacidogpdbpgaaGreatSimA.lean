/-
  A determinate reading of the model's program text: an abstract heap with names of its own, and what each operation does to it.
-/
import Derived.Orders
import Derived.ScopeJumps
import Derived.Below
namespace Go.Sim
open Go
set_option linter.unusedSimpArgs false
set_option linter.unusedVariables false

/-- the capacity of a slice whose room is not known (it has grown by append): no more than its length is known to be there -/
def capU : Nat := 1180591620717411303424

/-- maps from numbers, as trees -/
inductive Trie (α : Type) where
  | leaf
  | node (l : Trie α) (v : Option α) (r : Trie α)

namespace Trie
variable {α : Type}
def get : Trie α → Nat → Option α
  | .leaf, _ => none
  | .node l v r, n => cond (Nat.beq n 0) v (cond (Nat.beq (n % 2) 1) (l.get (n / 2)) (r.get (n / 2 - 1)))
def single (v : Option α) : Nat → Nat → Trie α
  | 0, _ => .node .leaf v .leaf
  | f + 1, n => cond (Nat.beq n 0) (.node .leaf v .leaf) (cond (Nat.beq (n % 2) 1) (.node (single v f (n / 2)) none .leaf) (.node .leaf none (single v f (n / 2 - 1))))
def set (v : Option α) : Trie α → Nat → Trie α
  | .leaf, n => single v n n
  | .node l u r, n => cond (Nat.beq n 0) (.node l v r) (cond (Nat.beq (n % 2) 1) (.node (l.set v (n / 2)) u r) (.node l u (r.set v (n / 2 - 1))))
end Trie

inductive Blk where
  | row (cs : List Value) (elem : TypeId)
  | map (es : List MapEntry) (clock : Nat)

/-- the abstract heap: the next name, the blocks that live -/
structure AH where
  next : Nat
  blk : Trie Blk

def AH.get (H : AH) (b : Nat) : Option Blk := H.blk.get b
def AH.set (H : AH) (b : Nat) (x : Option Blk) : AH := { H with blk := H.blk.set x b }

/-- what a computation that asks for nothing but the program comes to -/
def pureRun {α : Type} (P : Program) : Sem α → Option α
  | .pure a => some a
  | .program k => pureRun P (k P)
  | _ => none

mutual
/-- values in which no address stands -/
def ground : Value → Bool
  | .bool _ | .int _ _ | .string _ | .pointer none | .map none | .nilFunc | .nilIface => true
  | .slice none l c => Nat.beq l 0 && Nat.beq c 0
  | .agg cs => groundA cs
  | .tuple cs => groundA cs
  | .iface _ v => ground v
  | _ => false
def groundA : Array Value → Bool
  | ⟨cs⟩ => groundL cs
def groundL : List Value → Bool
  | [] => true
  | v :: vs => ground v && groundL vs
end

/-- a cell's value in which no name stands: old addresses may -/
def plainCell : Value → Bool
  | .bool _ | .int _ _ | .string _ | .pointer none | .pointer (some ⟨_, _, none⟩) | .map none | .nilFunc | .nilIface => true
  | .slice none l c => Nat.beq l 0 && Nat.beq c 0
  | .slice (some ⟨_, _, none⟩) l c => Nat.ble l c
  | _ => false

def aadd (a : Addr) (n : Nat) : Addr := ⟨a.block, a.off + n, a.spot⟩

abbrev Tmps := Trie Value

def ev (T : Tmps) : Operand → Value
  | .tmp t => (T.get t).getD undef
  | .const v => v
  | .global _ => .chan none
  | .func f => .func (.func f) #[] #[]

def putT (T : Tmps) (d : Option Tmp) (v : Value) : Tmps :=
  match d with
  | some d => T.set (some v) d
  | none => T

def wantedT (o : Oper) (ops : Array Oper) (T : Tmps) : Bool :=
  match o.guard with
  | none => true
  | some (j, want) =>
    match (ops[j]?).bind (·.dst) with
    | some d => match T.get d with
      | some (.bool b) => b == want
      | _ => false
    | none => false

structure Shape where
  agg : Bool
  size : Nat

def aggOf (P : Program) (t : TypeId) : Option Bool :=
  match P.underlying t with
  | some (.struct _) | some (.array _ _) => some true
  | some _ => some false
  | none => none

def sizeOf? (P : Program) (t : TypeId) : Option Nat := (P.info? t).map (·.size)

def zeroOf? (P : Program) (t : TypeId) : Option Value := (P.info? t).bind fun i => i.zero.bind fun z => cond (ground z) (some z) none

/-- cells of old memory -/
def rdOld (w0 : World) (b : Nat) : Nat → Nat → Option (List Value)
  | _, 0 => some []
  | off, n + 1 =>
    match w0.cell? ⟨b, off, none⟩ with
    | some v => cond (plainCell v) ((rdOld w0 b (off + 1) n).map (v :: ·)) none
    | none => none

def takeExact : Nat → List Value → Option (List Value)
  | 0, _ => some []
  | _ + 1, [] => none
  | n + 1, v :: vs => (takeExact n vs).map (v :: ·)

def rdCells (w0 : World) (H : AH) (a : Addr) (n : Nat) : Option (List Value) :=
  match a.spot with
  | none => rdOld w0 a.block a.off n
  | some _ => match H.get a.block with
    | some (.row cs _) => takeExact n (cs.drop a.off)
    | _ => none

/-- one value over those of a row, from a place on; none: they do not all lie in it -/
def overwrite : List Value → Nat → List Value → Option (List Value)
  | cs, 0, [] => some cs
  | _ :: cs, 0, v :: vs => (overwrite cs 0 vs).map (v :: ·)
  | c :: cs, n + 1, vs => (overwrite cs n vs).map (c :: ·)
  | _, _, _ => none

def oneCellB : Value → Bool
  | .agg _ | .tuple _ => false
  | _ => true

def wrCells (H : AH) (a : Addr) (vs : List Value) : Option AH :=
  match a.spot with
  | none => none
  | some _ => match H.get a.block with
    | some (.row cs e) => cond (vs.all oneCellB) ((overwrite cs a.off vs).map fun cs' => H.set a.block (some (.row cs' e))) none
    | _ => none

def aLoad (P : Program) (w0 : World) (t : TypeId) (x : Value) (H : AH) : Option Value :=
  match x with
  | .pointer (some a) =>
    match aggOf P t with
    | some true => match sizeOf? P t with
      | some n => (rdCells w0 H a n).map fun l => .agg ⟨l⟩
      | none => none
    | some false => match rdCells w0 H a 1 with
      | some (v :: _) => some v
      | _ => none
    | none => none
  | _ => none

def cellsL (v : Value) : List Value := v.cells.toList

def aStore (P : Program) (t : TypeId) (x v : Value) (H : AH) : Option AH :=
  match x with
  | .pointer (some a) =>
    match sizeOf? P t with
    | some n => cond (Nat.beq (cellsL v).length n) (wrCells H a (cellsL v)) none
    | none => none
  | _ => none

/-- a new row of cells under a name -/
def newRowA (H : AH) (nm : Nat) (cs : List Value) (e : TypeId) : AH := H.set nm (some (.row cs e))

def groundOp (P : Program) (o : Oper) (ρ : Operand → Value) : Option Value :=
  cond (o.op.operands.toList.all fun x => ground (ρ x))
    (match pureRun P (execOp ρ o) with
     | some (.value v) => cond (ground v) (some v) none
     | _ => none)
    none

def nilLike : Value → Bool
  | .pointer none | .map none | .nilFunc | .nilIface => true
  | .slice none 0 0 => true
  | _ => false

/-- is it nil, of a value that may be held against nil? -/
def isNil : Value → Option Bool
  | .pointer none | .map none | .nilFunc | .nilIface => some true
  | .slice none 0 0 => some true
  | .pointer (some _) | .map (some _) | .func _ _ _ | .iface _ _ => some false
  | .slice (some _) _ _ => some false
  | _ => none

def sameSort : TypeDesc → Value → Bool
  | .pointer _, .pointer _ | .map _ _, .map _ | .func _ _ _, .nilFunc | .func _ _ _, .func _ _ _ | .slice _, .slice _ _ _
  | .interface _, .nilIface | .interface _, .iface _ _ => true
  | _, _ => false

/-- a thing held against the literal nil -/
def nilEq (P : Program) (t : TypeId) (x y : Value) : Option Bool :=
  match P.underlying t with
  | some d => cond (sameSort d x && sameSort d y)
      (match isNil x, isNil y with
       | some true, some b => some b
       | some b, some true => some b
       | _, _ => none) none
  | none => none

def isConst : Operand → Bool
  | .const _ => true
  | _ => false

def aBinOp (P : Program) (op : BinOp) (t : TypeId) (x y : Operand) (ρ : Operand → Value) : Option Value :=
  match op with
  | .eql => cond (isConst x || isConst y) ((nilEq P t (ρ x) (ρ y)).map .bool) none
  | .neq => cond (isConst x || isConst y) ((nilEq P t (ρ x) (ρ y)).map fun b => .bool (!b)) none
  | _ => none

/-- bounds of a slice expression: low, high, and the third; all as numbers -/
def bound (v : Option Value) (dflt : Nat) (most : Nat) : Option Nat :=
  match v with
  | none => some dflt
  | some (.int _ i) => cond (decide (0 ≤ i) && decide (i ≤ (most : Int))) (some i.toNat) none
  | _ => none

/-- a slice expression of a slice whose room is not known -/
def aSliceU (b off s len size : Nat) (low high max : Option Value) : Option Value :=
  match max with
  | none => match bound high len len with
    | some h => match bound low 0 h with
      | some l => some (.slice (some ⟨b, off + l * size, some s⟩) (h - l) capU)
      | none => none
    | none => none
  | some _ => match high with
    | none => none
    | some _ => match bound max len len with
      | some m => cond (Nat.blt m capU) (match bound high len m with
        | some h => match bound low 0 h with
          | some l => some (.slice (some (cond (Nat.beq m l) ⟨b, off, some s⟩ ⟨b, off + l * size, some s⟩)) (h - l) (m - l))
          | none => none
        | none => none) none
      | none => none

/-- a slice expression of a slice whose room is known -/
def aSliceX (a : Option Addr) (len cap size : Nat) (low high max : Option Value) : Option Value :=
  match max, high with
  | some _, none => none
  | _, _ =>
    match bound max cap cap with
    | some m => match bound high len m with
      | some h => match bound low 0 h with
        | some l => some (.slice (cond (Nat.beq m l) a (a.map fun a => aadd a (l * size))) (h - l) (m - l))
        | none => none
      | none => none
    | none => none

def aSlice (P : Program) (t : TypeId) (x : Value) (low high max : Option Value) (H : AH) : Option Value :=
  match P.underlying t, x with
  | some (.string), .string s =>
    match max, bound high s.size s.size with
    | none, some h => match bound low 0 h with
      | some l => some (.string (s.extract l h))
      | none => none
    | _, _ => none
  | some (.slice e), .slice a len cap =>
    match sizeOf? P e with
    | none => none
    | some size =>
      match a with
      | some ⟨b, off, some s⟩ =>
        cond (Nat.beq cap capU)
          (match H.get b with
           | some (.row _ e') => cond (Nat.beq e e') (aSliceU b off s len size low high max) none
           | _ => none)
          (cond (Nat.blt cap capU) (aSliceX a len cap size low high max) none)
      | _ => aSliceX a len cap size low high max
  | some (.array n e), .pointer (some a) =>
    match sizeOf? P e with
    | none => none
    | some size => cond (Nat.blt n capU) (aSliceX (some a) n n size low high max) none
  | _, _ => none

def aFieldAddr (P : Program) (s : TypeId) (x : Value) (f : Nat) : Option Value :=
  match P.underlying s, x with
  | some (.struct fields), .pointer (some a) =>
    match fields[f]? with
    | some fd => match sizeOf? P fd.type with
      | some n => cond (Nat.beq n 0) none (some (.pointer (some (aadd a fd.offset))))
      | none => none
    | none => none
  | _, _ => none

def aIndexAddr (P : Program) (t : TypeId) (x ix : Value) : Option Value :=
  match ix with
  | .int _ i =>
    match P.underlying t, x with
    | some (.array len e), .pointer (some a) => at_ (some a) len e i
    | some (.slice e), .slice a len _ => at_ a len e i
    | _, _ => none
  | _ => none
  where
  at_ (a : Option Addr) (len : Nat) (e : TypeId) (i : Int) : Option Value :=
    match a, sizeOf? P e with
    | some a, some n => cond (decide (0 ≤ i) && decide (i < (len : Int))) (some (.pointer (some (aadd a (i.toNat * n))))) none
    | _, _ => none

def aPart (P : Program) (t : TypeId) (cs : List Value) (off : Nat) : Option Value :=
  match aggOf P t with
  | some true => (sizeOf? P t).map fun n => .agg ⟨(cs.drop off).take n⟩
  | some false => cs[off]?
  | none => none

def aField (P : Program) (t : TypeId) (x : Value) (f : Nat) : Option Value :=
  match P.underlying t, x with
  | some (.struct fields), .agg cs => match fields[f]? with
    | some fd => aPart P fd.type cs.toList fd.offset
    | none => none
  | _, _ => none

def aIndex (P : Program) (t : TypeId) (x ix : Value) : Option Value :=
  match ix with
  | .int _ i =>
    match P.underlying t, x with
    | some (.array len e), .agg cs =>
      match sizeOf? P e with
      | some n => cond (decide (0 ≤ i) && decide (i < (len : Int))) (aPart P e cs.toList (i.toNat * n)) none
      | none => none
    | some .string, .string s =>
      cond (decide (0 ≤ i)) (match s.data.toList[i.toNat]? with
        | some b => some (.int .u8 b.toNat)
        | none => none) none
    | _, _ => none
  | _ => none

/-- parts laid over cells -/
def fillL (place : Nat → Option (Nat × Nat)) : List Value → List (Nat × Value) → Option (List Value)
  | cs, [] => some cs
  | cs, (i, v) :: rest =>
    match place i with
    | none => none
    | some (off, size) => cond (Nat.beq (cellsL v).length size) (match overwrite cs off (cellsL v) with
        | some cs' => fillL place cs' rest
        | none => none) none

def aBuild (P : Program) (t : TypeId) (parts : List (Nat × Value)) : Option Value :=
  match P.underlying t, zeroOf? P t with
  | some (.struct fields), some z => cond (fields.toList.all fun f => (sizeOf? P f.type).isSome)
    ((fillL (fun i => (fields[i]?).bind fun f => (sizeOf? P f.type).map fun n => (f.offset, n)) (cellsL z) parts).map fun l => .agg ⟨l⟩) none
  | some (.array _ e), some z =>
    (sizeOf? P e).bind fun n => (fillL (fun i => some (i * n, n)) (cellsL z) parts).map fun l => .agg ⟨l⟩
  | _, _ => none

def repeatL (l : List Value) : Nat → List Value
  | 0 => []
  | n + 1 => l ++ repeatL l n

def aBuildSlice (P : Program) (t : TypeId) (len : Nat) (parts : List (Nat × Value)) : Option (List Value × TypeId) :=
  match P.underlying t with
  | some (.slice e) =>
    match sizeOf? P e, zeroOf? P e with
    | some n, some z => cond (Nat.ble (len * n) 65536 && Nat.beq (cellsL z).length n && !(Nat.beq n 0))
        ((fillL (fun i => some (i * n, n)) (repeatL (cellsL z) len) parts).map fun l => (l, e)) none
    | _, _ => none
  | _ => none

def lenA (x : Value) : Option Nat :=
  match x with
  | .slice _ n _ => some n
  | .string s => some s.size
  | _ => none

def aLen (P : Program) (t : TypeId) (x : Value) (H : AH) : Option Nat :=
  match P.underlying t, x with
  | some .string, .string s => some s.size
  | some (.array n _), _ => some n
  | some (.pointer arr), _ => match P.underlying arr with
    | some (.array n _) => some n
    | _ => none
  | some (.slice _), .slice _ n _ => some n
  | some (.map _ _), .map none => some 0
  | some (.map _ _), .map (some r) => match H.get r with
    | some (.map es _) => some es.length
    | _ => none
  | _, _ => none

def bytesOfCells : List Value → Option (List UInt8)
  | [] => some []
  | .int .u8 n :: r => (bytesOfCells r).map (UInt8.ofNat n.toNat :: ·)
  | _ => none

def cellsOfBytes (s : ByteArray) : List Value := s.data.toList.map fun b => .int .u8 b.toNat

/-- the cells that are appended -/
def newCells (w0 : World) (H : AH) (size n : Nat) (x : Value) : Option (List Value) :=
  match x with
  | .slice (some a) _ _ => rdCells w0 H a (n * size)
  | .slice none _ _ => some []
  | .string s => cond (Nat.beq size 1) (some ((cellsOfBytes s).take n)) none
  | _ => none

def roomMost : Nat := 140737488355328

def zeroOk (P : Program) (e : TypeId) : Bool :=
  match zeroOf? P e, sizeOf? P e with
  | some z, some n => Nat.beq (cellsL z).length n
  | _, _ => false

def appendable : TypeDesc → Bool
  | .slice _ | .string => true
  | _ => false

/-- append: it always lays a new row; the row of a slice that might have had room dies -/
def aAppend (P : Program) (w0 : World) (H : AH) (nm : Nat) (argTypes : Array TypeId) (s x : Value) : Option (Value × AH) :=
  match argTypes[0]?, s with
  | some st, .slice base sLen sCap =>
    match P.underlying st with
    | some (.slice e) =>
      match P.info? e, lenA x, (argTypes[1]?).bind P.underlying with
      | some i, some n, some xd =>
        cond (appendable xd) (
        cond (Nat.beq n 0) (some (s, H)) (
        cond (Nat.ble ((sLen + n) * i.bytes) roomMost && Nat.ble (sLen + n) 4611686018427387904 && !(Nat.beq i.size 0) && zeroOk P e) (
          match newCells w0 H i.size n x with
          | none => none
          | some new => cond (new.all oneCellB) (
            match base with
            | none => cond (Nat.beq sLen 0 && Nat.beq sCap 0) (some (.slice (some ⟨nm, 0, some 0⟩) n capU, newRowA H nm new e)) none
            | some a =>
              match rdCells w0 H a (sLen * i.size) with
              | none => none
              | some old =>
                match a.spot with
                | none => cond (Nat.blt sCap (sLen + n)) (some (.slice (some ⟨nm, 0, some 0⟩) (sLen + n) capU, newRowA H nm (old ++ new) e)) none
                | some _ =>
                  cond (Nat.beq sCap capU)
                    (match H.get a.block with
                     | some (.row _ e') => cond (Nat.beq e e') (some (.slice (some ⟨nm, 0, some 0⟩) (sLen + n) capU, newRowA (H.set a.block none) nm (old ++ new) e)) none
                     | _ => none)
                    (cond (Nat.blt sCap (sLen + n)) (some (.slice (some ⟨nm, 0, some 0⟩) (sLen + n) capU, newRowA H nm (old ++ new) e)) none)) none) none)) none
      | _, _, _ => none
    | _ => none
  | _, _ => none

def aCopy (P : Program) (w0 : World) (H : AH) (argTypes : Array TypeId) (dst src : Value) : Option (Value × AH) :=
  match argTypes[0]?, dst, lenA src with
  | some dt, .slice base dLen _, some m =>
    match P.underlying dt with
    | some (.slice e) =>
      match sizeOf? P e with
      | some size =>
        let n := cond (Nat.ble m dLen) m dLen
        match newCells w0 H size n src with
        | some cs => match base with
          | none => some (.int .i64 n, H)
          | some a => cond (Nat.beq n 0) (some (.int .i64 n, H)) ((wrCells H a cs).map fun H' => (.int .i64 n, H'))
        | none => none
      | none => none
    | _ => none
  | _, _, _ => none

def keyOk (P : Program) (kt : TypeId) (empty : Bool) (k : Value) : Bool :=
  ground k && (pureRun P (Instr.checkKey empty 10000 kt k)).isSome

def aFind (P : Program) (kt : TypeId) (k : Value) (es : List MapEntry) : Option (Option (Nat × Value)) := pureRun P (Instr.findKey kt k es)

def modifyL (f : MapEntry → MapEntry) : List MapEntry → Nat → List MapEntry
  | [], _ => []
  | e :: es, 0 => f e :: es
  | e :: es, n + 1 => e :: modifyL f es n

def eraseL : List MapEntry → Nat → List MapEntry
  | [], _ => []
  | _ :: es, 0 => es
  | e :: es, n + 1 => e :: eraseL es n

def aLookup (P : Program) (t : TypeId) (m k : Value) (ok : Bool) (H : AH) : Option Value :=
  match P.underlying t with
  | some (.map kt et) =>
    match (match m with
      | .map none => some []
      | .map (some r) => match H.get r with
        | some (.map es _) => some es
        | _ => none
      | _ => none) with
    | some es =>
      cond (keyOk P kt es.isEmpty k)
        (match aFind P kt k es with
         | some (some (_, v)) => some (cond ok (.tuple ⟨[v, .bool true]⟩) v)
         | some none => match zeroOf? P et with
           | some z => some (cond ok (.tuple ⟨[z, .bool false]⟩) z)
           | none => none
         | none => none)
        none
    | none => none
  | _ => none

def staysB (es : List MapEntry) (i : Nat) (k : Value) : Bool :=
  match es[i]? with
  | some e => Instr.sameBits 10000 e.key k
  | none => false

def aMapUpdate (P : Program) (t : TypeId) (m k v : Value) (H : AH) : Option AH :=
  match P.underlying t, m with
  | some (.map kt _), .map (some r) =>
    match H.get r with
    | some (.map es clock) =>
      cond (keyOk P kt false k)
        (match aFind P kt k es with
         | some (some (i, _)) => cond (staysB es i k) (some (H.set r (some (.map (modifyL (fun e => { e with key := k, val := v }) es i) clock)))) none
         | some none => some (H.set r (some (.map (es ++ [{ key := k, val := v, born := clock }]) (clock + 1))))
         | none => none)
        none
    | _ => none
  | _, _ => none

def aMapEntry (P : Program) (t : TypeId) (m k : Value) (H : AH) : Option (Value × AH) :=
  match P.underlying t, m with
  | some (.map kt et), .map (some r) =>
    match H.get r with
    | some (.map es clock) =>
      cond (keyOk P kt false k)
        (match aFind P kt k es with
         | some (some (i, v)) => cond (staysB es i k) (match es[i]? with
             | some e => some (.tuple ⟨[v, .int .i64 e.born]⟩, H.set r (some (.map (modifyL (fun e => { e with key := k }) es i) clock)))
             | none => none) none
         | some none => match zeroOf? P et with
           | some z => some (.tuple ⟨[z, .int .i64 clock]⟩, H.set r (some (.map (es ++ [{ key := k, val := z, born := clock }]) (clock + 1))))
           | none => none
         | none => none)
        none
    | _ => none
  | _, _ => none

def findBorn (n : Int) : List MapEntry → Nat → Option Nat
  | [], _ => none
  | e :: es, i => cond (decide ((e.born : Int) = n)) (some i) (findBorn n es (i + 1))

def aEntryStore (m s v : Value) (H : AH) : Option AH :=
  match m, s with
  | .map (some r), .int _ n =>
    match H.get r with
    | some (.map es clock) => match findBorn n es 0 with
      | some i => some (H.set r (some (.map (modifyL (fun e => { e with val := v }) es i) clock)))
      | none => none
    | _ => none
  | _, _ => none

def aDelete (P : Program) (t : TypeId) (m k : Value) (H : AH) : Option AH :=
  match P.underlying t, m with
  | some (.map kt _), .map none => cond (keyOk P kt true k) (some H) none
  | some (.map kt _), .map (some r) =>
    match H.get r with
    | some (.map es clock) =>
      cond (keyOk P kt es.isEmpty k)
        (match aFind P kt k es with
         | some (some (i, _)) => some (H.set r (some (.map (eraseL es i) clock)))
         | some none => some H
         | none => none)
        none
    | _ => none
  | _, _ => none

def aClear (P : Program) (t : TypeId) (x : Value) (H : AH) : Option AH :=
  match P.underlying t, x with
  | _, .map none => some H
  | _, .slice none _ _ => some H
  | _, .slice (some _) 0 _ => some H
  | some (.slice e), .slice (some a) n _ => match zeroOf? P e with
    | some z => cond (Nat.beq (cellsL z).length 0) none (wrCells H a (repeatL (cellsL z) n))
    | none => none
  | _, _ => none

/-- which function an invoked method is -/
def methodA (P : Program) (recv : Value) (name : String) : Option (FuncId × Value) :=
  match recv with
  | .iface t v =>
    match (P.info? t).bind fun i => i.methods.find? (·.name == name) with
    | some m => match m.path.isEmpty, m.func, P.underlying t, v with
      | true, some (f, true), some (.pointer _), .pointer a => some (f, .pointer a)
      | _, _, _, _ => none
    | none => none
  | _ => none

abbrev CallA := FuncId → List Value → AH → Option (Value × AH)

def goesInto (P : Program) (f : FuncId) : Bool :=
  match P.funcs[f]? with
  | some fn => !(fn.name == "runtime.NumGoroutine") && fn.body.isSome
  | none => false

inductive ConvKind where
  | bytesStr (e : TypeId)
  | strBytes (e : TypeId)
  | plain
  | no

/-- what a conversion is between -/
def convKind (P : Program) (s d : TypeId) : ConvKind :=
  match P.underlying s, P.underlying d with
  | some (.slice e), some .string => .bytesStr e
  | some .string, some (.slice e) => .strBytes e
  | some (.slice _), some (.slice _) => .no
  | some _, some _ => .plain
  | _, _ => .no

section
variable (P : Program) (w0 : World) (call : CallA)

def aConvert (src dst : TypeId) (x : Operand) (ρ : Operand → Value) (o : Oper) (nm : Nat) (H : AH) : Option (Value × AH) :=
  match convKind P src dst with
  | .bytesStr e => match (P.underlying e), ρ x with
    | some (.int .u8), .slice none _ _ => some (.string .empty, H)
    | some (.int .u8), .slice (some a) len _ => ((rdCells w0 H a len).bind bytesOfCells).map fun l => (.string ⟨⟨l⟩⟩, H)
    | _, _ => none
  | .strBytes e => match P.underlying e, P.info? e, ρ x with
    | some (.int .u8), some i, .string s => cond (Nat.beq i.size 1)
        (some (.slice (some ⟨nm, 0, some 0⟩) s.size capU, newRowA H nm (cellsOfBytes s) e)) none
    | _, _, _ => none
  | .plain => (groundOp P o ρ).map fun v => (v, H)
  | .no => none

def aCall (c : Call) (ρ : Operand → Value) (nm : Nat) (o : Oper) (H : AH) : Option (Value × AH) :=
  match c.callee with
  | .value f =>
    match ρ f with
    | .func (.func k) first captured => cond (goesInto P k) (call k (first.toList ++ c.args.toList.map ρ ++ captured.toList) H) none
    | _ => none
  | .invoke recv name =>
    match methodA P (ρ recv) name with
    | some (f, v) => cond (goesInto P f) (call f (v :: c.args.toList.map ρ) H) none
    | none => none
  | .builtin b =>
    match b, c.args.toList with
    | .append, [s, x] => cond (Nat.beq c.argTypes.size 2) (aAppend P w0 H nm c.argTypes (ρ s) (ρ x)) none
    | .copy, [d, s] => aCopy P w0 H c.argTypes (ρ d) (ρ s)
    | .len, [x] => match c.argTypes[0]? with
      | some t => (aLen P t (ρ x) H).map fun (n : Nat) => (Value.int .i64 n, H)
      | none => none
    | .delete, [m, k] => match c.argTypes[0]? with
      | some t => (aDelete P t (ρ m) (ρ k) H).map fun H' => (.tuple #[], H')
      | none => none
    | .clear, [x] => match c.argTypes[0]? with
      | some t => (match P.underlying t with | some _ => aClear P t (ρ x) H | none => none).map fun H' => (.tuple #[], H')
      | none => none
    | .min, _ | .max, _ => (groundOp P o ρ).map fun v => (v, H)
    | _, _ => none

def aOp (nm : Nat) (o : Oper) (T : Tmps) (H : AH) : Option (Value × AH) :=
  let ρ := ev T
  match o.op with
  | .move x | .assign x => some (ρ x, H)
  | .pick c a b => match ρ c with
    | .bool t => some (cond t (ρ a) (ρ b), H)
    | _ => none
  | .load t a => (aLoad P w0 t (ρ a) H).map fun v => (v, H)
  | .fieldAddr s x f => (aFieldAddr P s (ρ x) f).map fun v => (v, H)
  | .store t a x => (aStore P t (ρ a) (ρ x) H).map fun H' => (undef, H')
  | .indexAddr t x ix => (aIndexAddr P t (ρ x) (ρ ix)).map fun v => (v, H)
  | .nilCheck x => match ρ x with
    | .pointer (some a) => some (.pointer (some a), H)
    | .func (.func f) first cap => some (.func (.func f) first cap, H)
    | _ => none
  | .binOp op t x y _ =>
    match aBinOp P op t x y ρ with
    | some v => some (v, H)
    | none => (groundOp P o ρ).map fun v => (v, H)
  | .unOp _ _ _ => (groundOp P o ρ).map fun v => (v, H)
  | .extract t i => match ρ t with
    | .tuple vs => (vs.toList[i]?).map fun v => (v, H)
    | _ => none
  | .call c => aCall P w0 call c ρ nm o H
  | .alloc e => (zeroOf? P e).map fun z => (.pointer (some ⟨nm, 0, some 0⟩), newRowA H nm (cellsL z) e)
  | .box e x => match sizeOf? P e with
    | some _ => some (.pointer (some ⟨nm, 0, some 0⟩), newRowA H nm (cellsL (ρ x)) e)
    | none => none
  | .build t parts => (aBuild P t (parts.toList.map fun p => (p.1, ρ p.2))).map fun v => (v, H)
  | .buildSlice t len parts => (aBuildSlice P t len (parts.toList.map fun p => (p.1, ρ p.2))).map fun q => (.slice (some ⟨nm, 0, some 0⟩) len len, newRowA H nm q.1 q.2)
  | .convert s d x => aConvert P w0 s d x ρ o nm H
  | .sliceToArrayPointer arr x => match P.underlying arr, ρ x with
    | some (.array n _), .slice a len _ => cond (Nat.blt len n || Nat.beq n 0) none (some (.pointer a, H))
    | _, _ => none
  | .makeInterface t x => match P.underlying t with
    | some (.interface _) => none
    | some _ => some (.iface t (ρ x), H)
    | none => none
  | .makeFunc (.func f) first captured => some (.func (.func f) (first.map ρ) (captured.map ρ), H)
  | .makeMap t r => match r with
    | none => some (.map (some nm), H.set nm (some (.map [] 0)))
    | some x => match P.underlying t, ρ x with
      | some (.map _ _), .int _ _ => some (.map (some nm), H.set nm (some (.map [] 0)))
      | _, _ => none
  | .slice t x lo hi mx => (aSlice P t (ρ x) (lo.map ρ) (hi.map ρ) (mx.map ρ) H).map fun v => (v, H)
  | .field t x f => (aField P t (ρ x) f).map fun v => (v, H)
  | .index t x i => (aIndex P t (ρ x) (ρ i)).map fun v => (v, H)
  | .lookup t m k ok => (aLookup P t (ρ m) (ρ k) ok H).map fun v => (v, H)
  | .mapUpdate t m k v => (aMapUpdate P t (ρ m) (ρ k) (ρ v) H).map fun H' => (undef, H')
  | .insert t m k v => (aMapUpdate P t (ρ m) (ρ k) (ρ v) H).map fun H' => (undef, H')
  | .mapEntry t m k => aMapEntry P t (ρ m) (ρ k) H
  | .entryStore _ m s v => (aEntryStore (ρ m) (ρ s) (ρ v) H).map fun H' => (undef, H')
  | .typeAssert x _ asserted ok => match P.underlying asserted, ρ x with
    | some (.interface _), _ => none
    | some _, .iface t v => cond (Nat.beq t asserted) (some (cond ok (.tuple ⟨[v, .bool true]⟩) v, H))
        (cond ok ((zeroOf? P asserted).map fun z => (.tuple ⟨[z, .bool false]⟩, H)) none)
    | some _, .nilIface => cond ok ((zeroOf? P asserted).map fun z => (.tuple ⟨[z, .bool false]⟩, H)) none
    | _, _ => none
  | _ => none

/-- operations one behind the other -/
def aOps (ops : Array Oper) : List Oper → Nat → Tmps → AH → Option (Tmps × AH)
  | [], _, T, H => some (T, H)
  | o :: os, nm, T, H =>
    cond (wantedT o ops T)
      (match aOp P w0 call nm o T H with
       | some (v, H') => aOps ops os (nm + 1) (putT T o.dst v) H'
       | none => none)
      (aOps ops os (nm + 1) (putT T o.dst undef) H)

end
end Go.Sim
