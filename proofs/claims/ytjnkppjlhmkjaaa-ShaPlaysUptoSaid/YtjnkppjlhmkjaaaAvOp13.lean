/- copy. -/
import Derived.Test.YtjnkppjlhmkjaaaAvCall3
namespace Go.Proofs.Ytjnkppjlhmkjaaa.Av
open Go
variable {CT : Nat → Type}
section
variable {P : Program} {T : TyTab CT} {CR : CallR CT} {X0 X : Cx CT} {W w : World} {ob ob' : Ob CT} {r : AV CT}
theorem copy_good (M : Mem X0 W X ob w) {t tx ty e : Nat} {s x : AV CT} {u v : Value}
    (h : Ev CR (copyM T e s x .ret) ob r ob') : Good P X0 X W w (do Pure.pure (.value (← Builtin.copy_ #[t, tx] ty #[u, v]))) r ob' := h.fail_inv.elim
end
end Go.Proofs.Ytjnkppjlhmkjaaa.Av
