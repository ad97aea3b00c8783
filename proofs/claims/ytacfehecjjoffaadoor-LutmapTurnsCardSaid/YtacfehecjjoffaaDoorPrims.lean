/- Functions that the abstract interpreter takes as they are told here, each proved by a walk of its own. -/
import Derived.Test.YtacfehecjjoffaaDoorAiCore
namespace Go.AI

/-- The bools of rows of one bool. -/
def boolRows : List (List Cell) → Option (List Bool)
  | [] => some []
  | [.bool b] :: l => (boolRows l).map (b :: ·)
  | _ => none
/-- The number whose bits these are, the lowest one first. -/
def bitsNat : List Bool → Nat
  | [] => 0
  | b :: l => 2 * bitsNat l + b.toNat

/-- lutmap.bit: a table's value. -/
def bitPrim : List AV → Option AV
  | [.one (.int .u64 t), .one (.slice _ 1 rows)] =>
    match boolRows rows with
    | some l => if l.length ≤ 6 ∧ 0 ≤ t then some (.one (.bool (t.toNat.testBit (bitsNat l)))) else none
    | none => none
  | _ => none

end Go.AI
