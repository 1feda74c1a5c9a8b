import Derived.Test.YtjnkppjlhmkjaaaAvG0
import Derived.Test.YtjnkppjlhmkjaaaAvTie
namespace Go.Proofs.Ytjnkppjlhmkjaaa.Av
open Go
set_option linter.unusedVariables false
set_option maxRecDepth 10000
theorem mixed : Try.prog.follows .mixedOrders = true := by kernel_rfl
theorem TT_bad (t : Nat) (h : 79 ≤ t) : TT.d t = .bad := by
  show TT.d_.getD t .bad = .bad
  rw [List.getD_eq_getElem?_getD, List.getElem?_eq_none (by rw [show TT.d_.length = 79 from rfl]; exact h)]
  rfl
theorem TT_all : (List.range 79).all (tyOk Try.prog TT) = true := by kernel_rfl
theorem TT_ok : TabOk Try.prog TT := tab_ok TT_bad TT_all
end Go.Proofs.Ytjnkppjlhmkjaaa.Av
