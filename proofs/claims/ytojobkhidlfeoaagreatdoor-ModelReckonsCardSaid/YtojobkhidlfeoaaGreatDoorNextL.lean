/- Where an instruction leads, plain. -/
import Derived.Test.YtojobkhidlfeoaaGreatDoorPrg
namespace Go.Proofs.YtojobkhidlfeoaaGreatDoor

/-- Where an instruction goes on, rising. -/
def nextL (xs : List Ins) (pc : Int) : List Int :=
  if 0 ≤ pc ∧ pc < xs.length then
    if (xs.getD pc.toNat default).op = 33 then []
    else if (xs.getD pc.toNat default).op = 22 then [(xs.getD pc.toNat default).a]
    else if (xs.getD pc.toNat default).op = 23 then
      if (xs.getD pc.toNat default).a = pc + 1 then [pc + 1] else if (xs.getD pc.toNat default).a ≤ pc + 1 then [(xs.getD pc.toNat default).a, pc + 1] else [pc + 1, (xs.getD pc.toNat default).a]
    else [pc + 1]
  else []

end Go.Proofs.YtojobkhidlfeoaaGreatDoor
