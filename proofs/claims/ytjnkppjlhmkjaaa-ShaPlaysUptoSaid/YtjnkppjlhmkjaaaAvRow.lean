/- A law's row: what a call comes to, told as the row asks. -/
import Derived.Test.YtjnkppjlhmkjaaaAvRd
import Derived.WalkKit
import Derived.ProofKit
import Derived.OpenShut
import Derived.ShutString
import Derived.ChangeOld
import Derived.JoinedCond
import Derived.Below
import Derived.Carry
namespace Go.Proofs.Ytjnkppjlhmkjaaa.Av
open Go
variable {CT : Nat → Type}
section
variable {P : Program} {T : TyTab CT} {W : World} {H : Type} {enc0 : TypeId × Value → H}
theorem rv_of {t : TypeId} {α : Type} {f : α → AV CT} {g : α → Nat} {q : α → Prop} (h : Rd P T W H enc0 t f g q) (hs : ∀ x, (f x).isAgg = false) {v : Value} (hsg : Sg v) {d : DataW H} {ps : List MemPlace} (hr : DataW.Trod enc0 P W 0 (fun _ => true) true t v d ps) :
    ∃ x, RV (Cx.law T.C W) (f x) v ∧ g x ≤ Rows.uptoBulk d ∧ q x := by
  obtain ⟨fuel, hf⟩ := hr
  obtain ⟨x, r1, r2, r3⟩ := h fuel _ _ _ hf
  exact ⟨x, RC.rv ⟨r1, fun e => (by rw [hs] at e; cases e), fun _ => hsg⟩, r2, r3⟩
theorem rv_agg {t : TypeId} {α : Type} {f : α → AV CT} {g : α → Nat} {q : α → Prop} (h : Rd P T W H enc0 t f g q) (hs : ∀ x, (f x).isAgg = true) {v : Value} (hsg : ∃ cs, v = .agg cs) {d : DataW H} {ps : List MemPlace} (hr : DataW.Trod enc0 P W 0 (fun _ => true) true t v d ps) :
    ∃ x, RV (Cx.law T.C W) (f x) v ∧ g x ≤ Rows.uptoBulk d ∧ q x := by
  obtain ⟨fuel, hf⟩ := hr
  obtain ⟨x, r1, r2, r3⟩ := h fuel _ _ _ hf
  exact ⟨x, RC.rv ⟨r1, fun _ => hsg, fun e => (by rw [hs] at e; cases e)⟩, r2, r3⟩
theorem law_calls {f : Nat} {args : List (AV CT)} {res : Res CT} {vs : List Value} (h : CallsOk P T.C f args [] res) (hl : args.length = vs.length) (hv : ∀ (j : Nat) (a : AV CT) (v : Value), args[j]? = some a → vs[j]? = some v → RV (Cx.law T.C W) a v) (hr : res.r = .bool true) :
    Calls P f vs.toArray W fun e W' => e = .returned (.bool true) ∧ Go.RowKit.Below W.heap.size W W' := by
  refine (h.2 (Cx.law T.C W) W vs rfl (mem_law T.C W) hl hv).mono fun e w' hh => ?_
  obtain ⟨u, Z, ob', rfl, _, hM, _, hu, _⟩ := hh
  rw [hr] at hu
  obtain ⟨h1, _, h3⟩ := (hu : RC Z (.bool true) u)
  have hsg := h3 rfl
  rw [cells_sg hsg] at h1
  have hu' : u = .bool true := by
    generalize hc : (#[u] : Array Value).toList = c at h1
    cases h1; simp at hc; exact hc
  subst hu'
  exact ⟨rfl, hM.os, hM.tape, hM.output, hM.size, fun k hk => hM.frame k hk fun ⟨i, c, n, e⟩ => by cases e⟩
end
end Go.Proofs.Ytjnkppjlhmkjaaa.Av
