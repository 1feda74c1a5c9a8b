/- ShaSumsUptoSaid is proved: where the lists of bytes that come in are of bulk at most 1048576, the program's sum of them and the document's are the same. -/
import Derived.Test.YtjnkppjlhmkjaaaAvRow
import Derived.Test.YtjnkppjlhmkjaaaAvG3
import Derived.Test.YtjnkppjlhmkjaaaAvSha6
namespace Go.Proofs.Ytjnkppjlhmkjaaa.Av
open Go
open Go.ChangeShapes Go.WideShapes Go.ChangeAt Go.RowKit
theorem own : ownKnob Try.prog.godebug = none := by kernel_rfl
theorem laidOut : laidOutB Try.prog = true := by kernel_rfl
/-- What is read. -/
theorem rd22 {W : World} {H : Type} {enc0 : TypeId × Value → H} : Rd Try.prog TT W H enc0 22 (fun l : List (List UInt8) => (.vs false (.typ 24 1 false l) : AV CT)) (fun l => (l.map fun x => (x.map fun _ => 1).sum + 1).sum + 1) (fun _ => True) := by
  have h24 := rd_slice (W := W) (H := H) (enc0 := enc0) TT_ok (t := 24) (e := 5) (by kernel_rfl) (lists_u8 TT_ok (by kernel_rfl)) (by decide) (rd_u8 TT_ok (by kernel_rfl))
  exact (rd_slice TT_ok (t := 22) (e := 24) (by kernel_rfl) (lists_typ (by kernel_rfl) (by intro h; cases h) TT_ok) (by decide) h24).map id (fun _ _ => rfl) (fun _ _ => Nat.le_refl _) (fun _ _ => trivial)
theorem ones (x : List UInt8) : (x.map fun _ => 1).sum = x.length := by
  induction x with
  | nil => rfl
  | cons a x ih => rw [List.map_cons, List.sum_cons, ih, List.length_cons]; omega
theorem bulk22 : ∀ l : List (List UInt8), (l.map fun x => (x.map fun _ => 1).sum + 1).sum = total l + l.length
  | [] => rfl
  | x :: l => by
    have := bulk22 l
    unfold total at this ⊢
    rw [List.map_cons, List.sum_cons, this, ones, List.map_cons, List.sum_cons, List.length_cons]; omega
theorem shaSums_contract (H : Type) (enc : TypeId × Value → H) (W : World) (base : Nat) (args : Array Value) (ds gs : List (DataW H)) (before : List MemPlace)
    (hval : ∀ (j : Nat) t v, Try.f3.params[j]? = some t → args[j]? = some v → Value.okWide Try.prog W .any base t v)
    (hW : DataW.Whole enc Try.prog Try.f3.params.toList Rows.shaSumsSpec.vars false W args.toList ds gs before) (hk : Rows.uptoSmall H (ds ++ gs) = true) :
    Calls Try.prog 3 args W fun e W' => ∃ v, e = .returned v ∧ Rows.shaSumsSpec.post enc Try.prog Try.f3 false true false false W args v W' := by
  have hW' := hW
  obtain ⟨p, q, hA0, hV, rfl, hfz, hnd⟩ := hW
  have hA : DataW.TrodAll enc Try.prog W 0 (fun _ => true) true Try.f3.params.toList args.toList ds p := hA0
  rw [Try.params3] at hA hval
  obtain ⟨v0, vs0, d0, ds0, p0, q0, hargs, rfl, rfl, h0, r0⟩ := trodAll_cons hA
  obtain ⟨rfl, rfl, rfl⟩ := trodAll_nil r0
  obtain rfl : args = #[v0] := by cases args; simp_all
  obtain ⟨rfl, rfl⟩ := trodVars_none hV
  have hv0 := hval 0 22 v0 rfl rfl
  obtain ⟨a0, len0, cap0, rfl⟩ := okWide_slice Try.underlying22 hv0
  have lt0 : ∀ x ∈ p0, x.block < W.heap.size := by obtain ⟨m, hm⟩ := h0; exact DataW.trod_lt m _ _ _ hm
  obtain ⟨x0, rv0, b0, -⟩ := rv_of rd22 (fun _ => rfl) (v := .slice a0 len0 cap0) trivial h0
  have hb : Rows.uptoBulkAll ([d0] ++ [] ++ ([] : List (DataW H))) ≤ 1048576 := of_decide_eq_true hk
  have hb1 : total x0 + x0.length + 1 ≤ Rows.uptoBulk d0 := by rw [← bulk22]; exact b0
  have hb2 : Rows.uptoBulk d0 ≤ 1048576 := by
    simp only [List.append_nil, List.cons_append, List.nil_append, Rows.uptoBulkAll] at hb
    omega
  have hlaw := sums_true false x0 (by omega) (by omega) (fun z0 => some (⟨.bool z0, [], []⟩ : Res CT))
  obtain ⟨res, hc, hr⟩ := law01_ShaSums_ok NN (Res CT) [.vs false (.typ 24 1 false x0)] [] _ some _ rfl hlaw
  cases hr
  refine (law_calls (T := TT) (W := W) hc (vs := [.slice a0 len0 cap0]) rfl (fun j a v ha hv => by
    cases j with
    | zero => cases ha; cases hv; exact rv0
    | succ j => cases ha) rfl).mono fun e W' ⟨he, bel⟩ => ?_
  subst he
  exact ⟨_, rfl, _, _, _, [], _, [], hW', trodAll_mk1 (shut_bool Try.underlying4 _), (trodAll_cons_mk (Below.trod laidOut (by kernel_rfl) (of_decide_eq_true (by kernel_rfl)) h0 bel lt0) trodAll_mk0), rfl, bel.frame _, fun h => by cases h⟩
set_option maxRecDepth 100000 in
theorem shaSums_lifted (os : Os) (started : os.Started) (H : Type) (enc : TypeId × Value → H) (F : Stop.Interp) :
    ReturnsInHanded {} Try.checked os 3 .any ((Rows.OpenSpec.upto Rows.shaSumsSpec).pre6 enc Try.prog Try.f3 Rows.shaSumsUptoRow.domain false) (((Rows.OpenSpec.upto Rows.shaSumsSpec).at F).post enc Try.prog Try.f3 false true false false) := by
  refine returnsInHanded_of_cond (C := Try.checked) (s := Rows.OpenSpec.upto Rows.shaSumsSpec) (k := Rows.uptoSmall) rfl own started (by kernel_rfl) Try.func3
    (OpenSpec.witness (enc := enc) (C := Try.checked) (s := Rows.OpenSpec.upto Rows.shaSumsSpec) (k := Rows.uptoSmall) rfl false ⟨#[], #[.slice none 0 0], []⟩ 8 (by kernel_rfl) (by kernel_rfl) (by kernel_rfl)
      (x := ([.nil], [], [])) (by kernel_rfl) rfl (by kernel_rfl)) ?_
  intro W base args ds gs before hval hW _ hk _
  exact shaSums_contract H enc W base args ds gs before hval hW hk
theorem shaSums_proved : Rows.ShaSumsUptoSaid :=
  OpenClaim.holds_of_cond 3 Try.f3 rfl rfl rfl rfl rfl rfl rfl ⟨rfl, rfl, rfl, rfl, rfl⟩ rfl rfl rfl rfl rfl (by kernel_rfl) Try.func3 (by kernel_rfl)
    (of_decide_eq_true (by kernel_rfl)) (by unfold Func.isWrapper; first | (rw [if_pos (by decide +kernel)]; kernel_rfl) | (rw [if_neg (by decide +kernel)]; exact ⟨rfl, rfl⟩))
    (fun os started H enc _ F => shaSums_lifted os started H enc F)
end Go.Proofs.Ytjnkppjlhmkjaaa.Av
namespace Go.Proofs.Ytjnkppjlhmkjaaa
/-- The statement, proved. -/
theorem shaSumsUpto_holds : Rows.ShaSumsUptoSaid := Av.shaSums_proved
#print axioms shaSumsUpto_holds
end Go.Proofs.Ytjnkppjlhmkjaaa
