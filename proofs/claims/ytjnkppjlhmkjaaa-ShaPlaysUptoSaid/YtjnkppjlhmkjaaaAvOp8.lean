/- Small builtins: min, max, complex, real, imag. -/
import Derived.Test.YtjnkppjlhmkjaaaAvOp7
namespace Go.Proofs.Ytjnkppjlhmkjaaa.Av
open Go
variable {CT : Nat → Type}
section
variable {P : Program} {T : TyTab CT} {CR : CallR CT} {X0 X : Cx CT} {W w : World} {ob ob' : Ob CT} {r : AV CT}
theorem foldMin (M : Mem X0 W X ob w) : ∀ (l : List (AV CT)) (vs : List Value) (a : AV CT) (v : Value), RV X a v → l.length = vs.length → (∀ (j : Nat) (b : AV CT) (u : Value), l[j]? = some b → vs[j]? = some u → RV X b u) →
    Ev CR (foldM2 min2M a l .ret) ob r ob' → ob' = ob ∧ ∃ u, (vs.foldlM Builtin.min2 v).run P w = .ok u w ∧ RV X r u := by
  intro l
  induction l with
  | nil =>
    intro vs a v ha hl _ h
    obtain ⟨rfl, rfl⟩ := h.ret_inv
    cases vs with
    | nil => exact ⟨rfl, v, rfl, ha⟩
    | cons u vs => simp at hl
  | cons b l ih =>
    intro vs a v ha hl hv h
    cases vs with
    | nil => simp at hl
    | cons u vs =>
      unfold foldM2 min2M at h
      split at h
      · rename_i k x k' y
        obtain ⟨hk, h'⟩ := cond_fail h
        clear h
        obtain rfl := kindEq_eq hk
        obtain ⟨rfl, h1⟩ := ha.int
        obtain ⟨rfl, h2⟩ := (hv 0 _ u rfl rfl).int
        have hz : RV X (.int k (if y < x then y else x)) (.int k (if y < x then y else x)) := by split; exact RV.of_int h2.1 h2.2; exact RV.of_int h1.1 h1.2
        obtain ⟨e, z, hr, g⟩ := ih vs _ _ hz (by simpa using hl) (fun j b u hb hu => hv (j + 1) b u (by simpa using hb) (by simpa using hu)) h'
        refine ⟨e, z, ?_, g⟩
        simpa [List.foldlM_cons, Builtin.min2] using hr
      · exact h.fail_inv.elim
theorem foldMax (M : Mem X0 W X ob w) : ∀ (l : List (AV CT)) (vs : List Value) (a : AV CT) (v : Value), RV X a v → l.length = vs.length → (∀ (j : Nat) (b : AV CT) (u : Value), l[j]? = some b → vs[j]? = some u → RV X b u) →
    Ev CR (foldM2 max2M a l .ret) ob r ob' → ob' = ob ∧ ∃ u, (vs.foldlM Builtin.max2 v).run P w = .ok u w ∧ RV X r u := by
  intro l
  induction l with
  | nil =>
    intro vs a v ha hl _ h
    obtain ⟨rfl, rfl⟩ := h.ret_inv
    cases vs with
    | nil => exact ⟨rfl, v, rfl, ha⟩
    | cons u vs => simp at hl
  | cons b l ih =>
    intro vs a v ha hl hv h
    cases vs with
    | nil => simp at hl
    | cons u vs =>
      unfold foldM2 max2M at h
      split at h
      · rename_i k x k' y
        obtain ⟨hk, h'⟩ := cond_fail h
        clear h
        obtain rfl := kindEq_eq hk
        obtain ⟨rfl, h1⟩ := ha.int
        obtain ⟨rfl, h2⟩ := (hv 0 _ u rfl rfl).int
        have hz : RV X (.int k (if y > x then y else x)) (.int k (if y > x then y else x)) := by split; exact RV.of_int h2.1 h2.2; exact RV.of_int h1.1 h1.2
        obtain ⟨e, z, hr, g⟩ := ih vs _ _ hz (by simpa using hl) (fun j b u hb hu => hv (j + 1) b u (by simpa using hb) (by simpa using hu)) h'
        refine ⟨e, z, ?_, g⟩
        simpa [List.foldlM_cons, Builtin.max2] using hr
      · exact h.fail_inv.elim
end
end Go.Proofs.Ytjnkppjlhmkjaaa.Av
