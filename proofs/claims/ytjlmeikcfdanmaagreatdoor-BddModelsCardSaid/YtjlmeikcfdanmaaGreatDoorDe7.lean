/-
  WHICH CODE OF THE PROGRAM THE EVALUATOR's CODE STANDS FOR.
-/
import Derived.Test.YtjlmeikcfdanmaaGreatDoorDe4
namespace Go.Proofs.YtjlmeikcfdanmaaGreatDoor.DE
open Go

section
variable (P : Program) (dp : Nat → Option Fn)

def mGd (ops : List Oper) : Option (Nat × Bool) → Option (Nat × Bool) → Bool
  | none, none => true
  | some (j, x), some (t, y) => x == y && (match ops[j]? with | some o => (match o.dst with | some u => u == t | none => false) | none => false)
  | _, _ => false

def mDst : Option Nat → Option Nat → Bool
  | none, none => true
  | some a, some b => a == b
  | _, _ => false

/-- The item stands for the operation. -/
def mI (ops : List Oper) (o : Oper) : I → Bool
  | .op dst gd r => mDst o.dst dst && mGd ops o.guard gd && mR P dp o.op r
  | _ => false

def mReg (ops : List Oper) : List Oper → List I → Bool
  | [], [] => true
  | l, .fz _ :: is => mReg ops l is
  | o :: l, i :: is => mI P dp ops o i && mReg ops l is
  | _, _ => false

end

/-! ### Regions that draw their order -/

inductive Kd where
  | p | r | x

/-- What an operation has to do with the store: nothing (p), it reads (r), it may change it (x). -/
def kdR : R → Kd
  | .ld _ _ _ => .r
  | .lk _ _ _ _ _ => .r
  | .alloc _ => .x
  | .box _ _ _ => .x
  | .bsl _ _ own xs => if own && !xs.isEmpty then .x else .p
  | .st _ _ _ _ => .x
  | .mkmap => .x
  | .mksl _ _ _ _ => .x
  | .mu _ _ _ _ => .x
  | .ment _ _ _ _ => .x
  | .est _ _ _ => .x
  | .app _ _ _ _ => .x
  | .clr _ _ _ => .x
  | .call _ iso _ => if iso then .p else .x
  | .calld _ iso _ => if iso then .p else .x
  | _ => .p

def kdI : I → Kd
  | .op _ _ r => kdR r
  | _ => .x

def usA : A → List Nat
  | .t n => [n]
  | .c _ => []

def usAo : Option A → List Nat
  | some x => usA x
  | none => []

def usAs : List A → List Nat
  | [] => []
  | x :: l => usA x ++ usAs l

def usPs : List (Nat × Nat × Bool × A) → List Nat
  | [] => []
  | (_, _, _, x) :: l => usA x ++ usPs l

def usR : R → List Nat
  | .mv x => usA x
  | .nilck x => usA x
  | .pick c a b => usA c ++ (usA a ++ usA b)
  | .alloc _ => []
  | .box _ _ x => usA x
  | .bld _ ps => usPs ps
  | .bsl _ _ _ xs => usAs xs
  | .ld _ _ a => usA a
  | .st _ _ a v => usA a ++ usA v
  | .bin _ _ x y => usA x ++ usA y
  | .un _ x => usA x
  | .conv _ x => usA x
  | .mkfn _ cs => usAs cs
  | .mkmap => []
  | .mksl _ _ _ n => usA n
  | .slc _ x lo hi => usA x ++ (usAo lo ++ usAo hi)
  | .slcs x lo hi => usA x ++ (usAo lo ++ usAo hi)
  | .fa _ x => usA x
  | .fld _ _ _ x => usA x
  | .ia _ x i => usA x ++ usA i
  | .iaa _ _ x i => usA x ++ usA i
  | .ixs x i => usA x ++ usA i
  | .lk _ _ _ m key => usA m ++ usA key
  | .mu _ m key v => usA m ++ (usA key ++ usA v)
  | .ment _ _ m key => usA m ++ usA key
  | .est m j v => usA m ++ (usA j ++ usA v)
  | .ext x _ => usA x
  | .len _ x => usA x
  | .app _ _ x y => usA x ++ usA y
  | .mx x y => usA x ++ usA y
  | .mn x y => usA x ++ usA y
  | .clr _ _ x => usA x
  | .call _ _ args => usAs args
  | .calld f _ args => usA f ++ usAs args
  | .cmps x y => usA x ++ usA y

def usG : Option (Nat × Bool) → List Nat
  | some (t, _) => [t]
  | none => []

/-- The edges that bind in every order: on each operation, those that must stand before it, as a number's bits. -/
def befores (ops : List Oper) : List Nat → List Nat
  | acc => match ops with
    | [] => acc
    | o :: l => befores l (acc ++ [o.after.toList.foldl (fun s e => if Region.binds .any e then s ||| 2 ^ e.on ||| acc.getD e.on 0 else s) 0])

end Go.Proofs.YtjlmeikcfdanmaaGreatDoor.DE
