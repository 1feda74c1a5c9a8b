/- ShaSameUptoSaid is proved: where what comes in is of bulk at most 1048576, which bytes are the same and sums of parts are as the statement says. -/
import Derived.Test.YtjnkppjlhmkjaaaAvRow
import Derived.Test.YtjnkppjlhmkjaaaAvG3
import Derived.Test.YtjnkppjlhmkjaaaAvSha7
namespace Go.Proofs.Ytjnkppjlhmkjaaa.Av
open Go
open Go.ChangeShapes Go.WideShapes Go.ChangeAt Go.RowKit
set_option linter.unusedVariables false
set_option linter.unusedSimpArgs false
theorem own : ownKnob Try.prog.godebug = none := by kernel_rfl
theorem laidOut : laidOutB Try.prog = true := by kernel_rfl
theorem ones (x : List UInt8) : (x.map fun _ => 1).sum = x.length := by
  induction x with
  | nil => rfl
  | cons a x ih => rw [List.map_cons, List.sum_cons, ih, List.length_cons]; omega
/-- What is read. -/
theorem rd24 {W : World} {H : Type} {enc0 : TypeId × Value → H} : Rd Try.prog TT W H enc0 24 (fun l : List UInt8 => (.vs false (.u8 l) : AV CT)) (fun l => l.length + 1) (fun _ => True) :=
  (rd_slice TT_ok (t := 24) (e := 5) (by kernel_rfl) (lists_u8 TT_ok (by kernel_rfl)) (by decide) (rd_u8 TT_ok (by kernel_rfl))).map id (fun _ _ => rfl) (fun x _ => by rw [ones]; exact Nat.le_refl _) (fun _ _ => trivial)
theorem shaSame_contract (H : Type) (enc : TypeId × Value → H) (W : World) (base : Nat) (args : Array Value) (ds gs : List (DataW H)) (before : List MemPlace)
    (hval : ∀ (j : Nat) t v, Try.f5.params[j]? = some t → args[j]? = some v → Value.okWide Try.prog W .any base t v)
    (hW : DataW.Whole enc Try.prog Try.f5.params.toList Rows.shaSameSpec.vars false W args.toList ds gs before) (hk : Rows.uptoSmall H (ds ++ gs) = true) :
    Calls Try.prog 5 args W fun e W' => ∃ v, e = .returned v ∧ Rows.shaSameSpec.post enc Try.prog Try.f5 false true false false W args v W' := by
  have hW' := hW
  obtain ⟨p, q, hA0, hV, rfl, hfz, hnd⟩ := hW
  have hA : DataW.TrodAll enc Try.prog W 0 (fun _ => true) true Try.f5.params.toList args.toList ds p := hA0
  rw [Try.params5] at hA hval
  obtain ⟨v0, vs0, d0, ds0, p0, q0, hargs, rfl, rfl, h0, r0⟩ := trodAll_cons hA
  obtain ⟨v1, vs1, d1, ds1, p1, q1, rfl, rfl, rfl, h1, r1⟩ := trodAll_cons r0
  obtain ⟨v2, vs2, d2, ds2, p2, q2, rfl, rfl, rfl, h2, r2⟩ := trodAll_cons r1
  obtain ⟨rfl, rfl, rfl⟩ := trodAll_nil r2
  obtain rfl : args = #[v0, v1, v2] := by cases args; simp_all
  obtain ⟨rfl, rfl⟩ := trodVars_none hV
  have hv0 := hval 0 24 v0 rfl rfl
  obtain ⟨a0, len0, cap0, rfl⟩ := okWide_slice Try.underlying24 hv0
  have lt0 : ∀ x ∈ p0, x.block < W.heap.size := by obtain ⟨m, hm⟩ := h0; exact DataW.trod_lt m _ _ _ hm
  obtain ⟨x0, rv0, b0, g0⟩ := rv_of rd24 (fun _ => rfl) (v := .slice a0 len0 cap0) trivial h0
  have hv1 := hval 1 24 v1 rfl rfl
  obtain ⟨a1, len1, cap1, rfl⟩ := okWide_slice Try.underlying24 hv1
  have lt1 : ∀ x ∈ p1, x.block < W.heap.size := by obtain ⟨m, hm⟩ := h1; exact DataW.trod_lt m _ _ _ hm
  obtain ⟨x1, rv1, b1, g1⟩ := rv_of rd24 (fun _ => rfl) (v := .slice a1 len1 cap1) trivial h1
  have hv2 := hval 2 47 v2 rfl rfl
  obtain ⟨n2, rfl⟩ := okWide_int Try.underlying47 hv2
  have lt2 : ∀ x ∈ p2, x.block < W.heap.size := by obtain ⟨m, hm⟩ := h2; exact DataW.trod_lt m _ _ _ hm
  obtain ⟨x2, rv2, b2, g2⟩ := rv_of (rd_int TT_ok (t := 47) (k := .u16) (by kernel_rfl)) (fun _ => rfl) (v := .int _ n2) trivial h2
  have hb : Rows.uptoBulkAll _ ≤ 1048576 := of_decide_eq_true hk
  simp only [List.append_nil, List.cons_append, List.nil_append, Rows.uptoBulkAll] at hb
  simp only [IntKind.min, IntKind.max, IntKind.signed, IntKind.bits] at g2
  have hlaw := same_true x0 x1 x2 (by simpa using g2.1) (by simpa using g2.2) (by omega) (fun z0 => some (⟨.bool z0, [], []⟩ : Res CT))
  obtain ⟨res, hc, hr⟩ := law01_ShaSame_ok NN (Res CT) [.vs false (.u8 x0), .vs false (.u8 x1), .int .u16 x2] [] _ some _ rfl hlaw
  cases hr
  refine (law_calls (T := TT) (W := W) hc (vs := [.slice a0 len0 cap0, .slice a1 len1 cap1, .int _ n2]) rfl (fun j a v ha hv => by
    match j with
    | 0 => cases ha; cases hv; exact rv0
    | 1 => cases ha; cases hv; exact rv1
    | 2 => cases ha; cases hv; exact rv2
    | j + 3 => cases ha) rfl).mono fun e W' ⟨he, bel⟩ => ?_
  subst he
  exact ⟨_, rfl, _, _, _, [], _, [], hW', trodAll_mk1 (shut_bool Try.underlying4 _), (trodAll_cons_mk (Below.trod laidOut (by kernel_rfl) (of_decide_eq_true (by kernel_rfl)) h0 bel lt0) (trodAll_cons_mk (Below.trod laidOut (by kernel_rfl) (of_decide_eq_true (by kernel_rfl)) h1 bel lt1) (trodAll_cons_mk (Below.trod laidOut (by kernel_rfl) (of_decide_eq_true (by kernel_rfl)) h2 bel lt2) trodAll_mk0))), rfl, bel.frame _, fun h => by cases h⟩
set_option maxRecDepth 100000 in
theorem shaSame_lifted (os : Os) (started : os.Started) (H : Type) (enc : TypeId × Value → H) (F : Stop.Interp) :
    ReturnsInHanded {} Try.checked os 5 .any ((Rows.OpenSpec.upto Rows.shaSameSpec).pre6 enc Try.prog Try.f5 Rows.shaSameUptoRow.domain false) (((Rows.OpenSpec.upto Rows.shaSameSpec).at F).post enc Try.prog Try.f5 false true false false) := by
  refine returnsInHanded_of_cond (C := Try.checked) (s := Rows.OpenSpec.upto Rows.shaSameSpec) (k := Rows.uptoSmall) rfl own started (by kernel_rfl) Try.func5
    (OpenSpec.witness (enc := enc) (C := Try.checked) (s := Rows.OpenSpec.upto Rows.shaSameSpec) (k := Rows.uptoSmall) rfl false ⟨#[], #[.slice none 0 0, .slice none 0 0, .int .u16 0], []⟩ 8 (by kernel_rfl) (by kernel_rfl) (by kernel_rfl)
      (x := ([.nil, .nil, .lit (.int .u16 0)], [], [])) (by kernel_rfl) rfl (by kernel_rfl)) ?_
  intro W base args ds gs before hval hW _ hk _
  exact shaSame_contract H enc W base args ds gs before hval hW hk
theorem shaSame_proved : Rows.ShaSameUptoSaid :=
  OpenClaim.holds_of_cond 5 Try.f5 rfl rfl rfl rfl rfl rfl rfl ⟨rfl, rfl, rfl, rfl, rfl⟩ rfl rfl rfl rfl rfl (by kernel_rfl) Try.func5 (by kernel_rfl)
    (of_decide_eq_true (by kernel_rfl)) (by unfold Func.isWrapper; first | (rw [if_pos (by decide +kernel)]; kernel_rfl) | (rw [if_neg (by decide +kernel)]; exact ⟨rfl, rfl⟩))
    (fun os started H enc _ F => shaSame_lifted os started H enc F)
end Go.Proofs.Ytjnkppjlhmkjaaa.Av
namespace Go.Proofs.Ytjnkppjlhmkjaaa
/-- The statement, proved. -/
theorem shaSameUpto_holds : Rows.ShaSameUptoSaid := Av.shaSame_proved
#print axioms shaSameUpto_holds
end Go.Proofs.Ytjnkppjlhmkjaaa
