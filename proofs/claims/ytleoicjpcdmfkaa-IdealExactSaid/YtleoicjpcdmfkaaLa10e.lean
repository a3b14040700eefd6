/-
  Layer 9: an access of both (does); all.
-/
import Derived.Test.YtleoicjpcdmfkaaLa10b
import Derived.Test.YtleoicjpcdmfkaaLa10c
import Derived.Test.YtleoicjpcdmfkaaLa10d
set_option linter.unusedSimpArgs false
set_option linter.unusedVariables false
namespace Go.Proofs.Ytleoicjpcdmfkaa
open Go Ab
open Heap (get put next skip)

section
variable {H : Type} [Heap H]
attribute [local irreducible] wpG wpOG wpTG stepG CallsG cfunc bfunc tmOf upd

theorem k27 {h : H} {w l i nm s u k : Nat} {cnt : Int} (hB : BothX h w l i nm s u k cnt) (hk : k < 150) (kd pk ps pp id ow oi : Int) (os : Bool) (vw vi : Int) (vs : Bool) (h9 : pk ≠ 9) (hvi : -9223372036854775808 ≤ vi ∧ vi < 9223372036854775808) :
    Fresh h → CallsTo tt 27 #[.pointer (some ⟨i, 0, none⟩), .pointer (some ⟨u, 0, none⟩), .agg (actV kd pk ps pp id ow oi os vw vi vs)] h fun v h1 =>
      v = .bool true ∧ BothX h1 w l i nm s u (k + 1) (if 1 ≤ kd ∧ kd ≤ 5 then cnt + 1 else cnt) ∧ ∀ b, b < w → get h1 b = get h b := by
  intro hf
  by_cases k1 : kd = 1
  · exact k27_1 hB hk kd pk ps pp id ow oi os vw vi vs k1 h9 hvi hf
  by_cases k2 : kd = 2
  · exact k27_2 hB hk kd pk ps pp id ow oi os vw vi vs k2 h9 hvi hf
  by_cases k3 : kd = 3
  · exact k27_3 hB hk kd pk ps pp id ow oi os vw vi vs k3 h9 hvi hf
  by_cases k4 : kd = 4
  · exact k27_4 hB hk kd pk ps pp id ow oi os vw vi vs k4 h9 hvi hf
  by_cases k5 : kd = 5
  · exact k27_5 hB hk kd pk ps pp id ow oi os vw vi vs k5 h9 hvi hf
  by_cases k6 : kd = 6
  · exact k27_6 hB hk kd pk ps pp id ow oi os vw vi vs k6 h9 hvi hf
  by_cases k7 : kd = 7
  · exact k27_7 hB hk kd pk ps pp id ow oi os vw vi vs k7 h9 hvi hf
  exact k27_8 hB hk kd pk ps pp id ow oi os vw vi vs (by simpa using k1) (by simpa using k2) (by simpa using k3) (by simpa using k4) (by simpa using k5) (by simpa using k6) (by simpa using k7) h9 hvi hf

end
end Go.Proofs.Ytleoicjpcdmfkaa
