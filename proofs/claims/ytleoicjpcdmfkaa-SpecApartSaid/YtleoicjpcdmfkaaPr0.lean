/-
  What each row's last step wants: the program's own facts; from a walk to a call of the model's.
-/
import Derived.Test.YtleoicjpcdmfkaaLa1
import Derived.Test.YtleoicjpcdmfkaaAb25
set_option linter.unusedSimpArgs false
set_option linter.unusedVariables false
namespace Go.Proofs.Ytleoicjpcdmfkaa
open Go.ChangeShapes Go.WideShapes Go.ChangeAt Go.RowKit
open Ab

theorem own : ownKnob Try.prog.godebug = none := by kernel_rfl
theorem laidOut : laidOutB Try.prog = true := by kernel_rfl

theorem callOf {f : FuncId} {args : Array Value} {w : World} {h : FH} {φ : Emb} {args' : Array Value} (hs : Sim φ h w) (ha : AR φ args args') (hro : ∀ b B, Heap.get h b = some B → wr B = false)
    (hc : CallsTo tt f args h fun v _ => v = .bool true) : Calls Try.prog f args' w fun e w' => e = .returned (.bool true) ∧ Below w.heap.size w w' := by
  unfold tt at hc
  exact lift mixed hs ha hro hc

end Go.Proofs.Ytleoicjpcdmfkaa
