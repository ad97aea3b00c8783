import Derived.Test.YtacfehecjjoffaaDoorCfg
namespace Go.Proofs.Tryd.Ai
open Go Go.AI
set_option maxRecDepth 100000
def isTrue : Option Out → Bool
  | some (.call (.one (.bool b)) []) => b
  | _ => false
theorem live_true : isTrue (run cfg 3000 (.call 7 0 [] [])) = true := by kernel_rfl
end Go.Proofs.Tryd.Ai
