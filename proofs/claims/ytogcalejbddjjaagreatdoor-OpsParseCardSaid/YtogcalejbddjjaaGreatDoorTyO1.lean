import Derived.Test.YtogcalejbddjjaaGreatDoorPCosC
set_option linter.all false
namespace Ink.D
open Go Go.Proofs
set_option maxRecDepth 100000

/-! operators: what ops.Parse tells, in plain Lean -/
def constS (s : List UInt8) : Bool := decide (s = [116, 114, 117, 101]) || decide (s = [102, 97, 108, 115, 101]) || decide (s = [110, 117, 108, 108])
def operT (t : Tok) : Bool := decide (t.kind = 8) && !constS t.s

def opObj (s : List UInt8) (t : Tok) : PR :=
  if t.kind ≠ 1 then parseR s t.from_ else (.mk 2 (if t.whole then 1 else 0) t.f [] [] [], t.to, 0)

abbrev OpL := List UInt8 × List Ob

def parO (s : List UInt8) : Nat → Int → List OpL → List Ob → List OpL × Int
  | 0, _, _, _ => ([], 6)
  | n + 1, at_, out, args =>
    if (nextL s at_).2 ≠ 0 then ([], (nextL s at_).2)
    else if (nextL s at_).1.kind = 0 ∧ args = [] then (out, 0)
    else if (nextL s at_).1.kind = 0 ∨ (operT (nextL s at_).1 = true ∧ (nextL s at_).1.s = [66, 73]) then ([], 3)
    else if (operT (nextL s at_).1 = true ∧ out.length = 65536) ∨ (operT (nextL s at_).1 = false ∧ args.length = 64) then ([], 6)
    else if operT (nextL s at_).1 = true then parO s n (nextL s at_).1.to (out ++ [((nextL s at_).1.s, args)]) []
    else if (opObj s (nextL s at_).1).2.2 ≠ 0 then ([], (opObj s (nextL s at_).1).2.2)
    else parO s n (opObj s (nextL s at_).1).2.1 out (args ++ [(opObj s (nextL s at_).1).1])

def parM (out : List OpL) (args : List Ob) : Nat := (65536 - out.length) * 65 + (64 - args.length) + 1
def parseO (s : List UInt8) : List OpL × Int := parO s (parM [] []) 0 [] []

/-! so many ones, and an operator -/
variable {s R : List UInt8} {p : Nat}
end Ink.D
