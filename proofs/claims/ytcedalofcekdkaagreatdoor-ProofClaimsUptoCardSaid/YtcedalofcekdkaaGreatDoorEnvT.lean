/- What the executor knows of the program. -/
import Derived.Test.YtcedalofcekdkaaGreatDoorTabTi
import Derived.Test.YtcedalofcekdkaaGreatDoorTabFn
import Derived.Test.YtcedalofcekdkaaGreatDoorExB
import Derived.Test.YtcedalofcekdkaaGreatDoorExT
import Derived.Lib.Bytealg
import Derived.Lib.UnsafeStr
import Derived.Laws.Externs
import Derived.KernelRfl
set_option linter.unusedSimpArgs false
set_option linter.unusedVariables false
namespace Go.Proofs.YtcedalofcekdkaaGreatDoor.Ex
def zeros : Nat → List AV → List AV
  | 0, l => l
  | n + 1, l => .int .u8 (.ofNat 0) :: zeros n l

def space : List AV := zeros 9 (.int .u8 (.ofNat 1) :: .int .u8 (.ofNat 1) :: .int .u8 (.ofNat 1) :: .int .u8 (.ofNat 1) :: .int .u8 (.ofNat 1) :: zeros 18 (.int .u8 (.ofNat 1) :: zeros 223 []))
def globT (g : Nat) : Option (List AV) := bif Nat.beq g 4 then some space else bif Nat.beq g 0 then some [.tok 0] else none
def eqTab (t : Nat) : Option (List CK) :=
  bif Nat.beq t 348 then some [.i .u16, .i .u16] else
  bif Nat.beq t 212 then some [.i .i64, .i .i64, .b, .b, .b, .b, .b, .b, .b, .b, .b, .b, .b, .b, .b, .b, .b, .b, .i .i64] else
  bif Nat.beq t 374 then some [.i .i64, .s, .i .i64] else
  bif Nat.beq t 296 then some [.i .i64, .i .i64] else
  bif Nat.beq t 238 then some [.i .i64] else none

def summ0 (f : Nat) (args : List AV) : Option AV :=
  bif Nat.beq f 251 then (match args with
    | [.str l, .int .u8 (.ofNat c)] => some (.int .i64 (.ofNat (Lib.countByte (l.map UInt8.ofNat) c.toUInt8)))
    | _ => none) else
  bif Nat.beq f 394 then (match args with
    | [.str l, .int .u8 (.ofNat c)] => some (.int .i64 (Lib.indexByte (l.map UInt8.ofNat) c.toUInt8))
    | _ => none) else none
def isA : List AV → Bool
  | [.str [c]] => Nat.beq c 97
  | _ => false
def cmp2 : List AV → Option AV
  | [.int .i64 (.ofNat a), .int .i64 (.ofNat b)] => some (.int .i64 (bif Nat.blt a b then Int.negSucc 0 else bif Nat.blt b a then .ofNat 1 else .ofNat 0))
  | _ => none
def summ1 (f : Nat) (args : List AV) : Option AV :=
  bif Nat.beq f 135 then cmp2 args else bif Nat.beq f 207 then (bif isA args then some (.bool true) else none) else summ0 f args
noncomputable def envOf (s : Nat → List AV → Option AV) : Env := { glob := globT, fn := fun f => Tr.get fnN0 f, ti := fun t => Tr.get tiN0 t, eqT := eqTab, summ := s, noZero := fun f => bif Nat.beq f 261 then some 5 else none, same := fun f => Nat.beq f 260, byteAt := fun t => Nat.beq t 5, seesAs := fun t u => Nat.beq t 155 && Nat.beq u 155, P := Go.Proofs.Tryz.prog }
noncomputable def E0 : Env := envOf summ0
noncomputable def E1 : Env := envOf summ1
end Go.Proofs.YtcedalofcekdkaaGreatDoor.Ex
