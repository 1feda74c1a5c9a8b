/- ShaPlaysUptoSaid is proved: where the acts that come in are of bulk at most 1048576, what a hash tells is what the document says. -/
import Derived.Test.YtjnkppjlhmkjaaaAvRow
import Derived.Test.YtjnkppjlhmkjaaaAvG4
import Derived.Test.YtjnkppjlhmkjaaaAvSha7
namespace Go.Proofs.Ytjnkppjlhmkjaaa.Av
open Go
open Go.ChangeShapes Go.WideShapes Go.ChangeAt Go.RowKit
set_option linter.unusedVariables false
set_option linter.unusedSimpArgs false
theorem own : ownKnob Try.prog.godebug = none := by kernel_rfl
theorem laidOut : laidOutB Try.prog = true := by kernel_rfl
theorem ones (x : List UInt8) : (x.map fun _ => 1).sum = x.length := by
  induction x with
  | nil => rfl
  | cons a x ih => rw [List.map_cons, List.sum_cons, ih, List.length_cons]; omega
/-- What is read. -/
theorem rd24 {W : World} {H : Type} {enc0 : TypeId × Value → H} : Rd Try.prog TT W H enc0 24 (fun l : List UInt8 => (.vs false (.u8 l) : AV CT)) (fun l => l.length + 1) (fun _ => True) :=
  (rd_slice TT_ok (t := 24) (e := 5) (by kernel_rfl) (lists_u8 TT_ok (by kernel_rfl)) (by decide) (rd_u8 TT_ok (by kernel_rfl))).map id (fun _ _ => rfl) (fun x _ => by rw [ones]; exact Nat.le_refl _) (fun _ _ => trivial)
theorem rd39 {W : World} {H : Type} {enc0 : TypeId × Value → H} : Rd Try.prog TT W H enc0 39 (fun x : CT 39 => TT.C.enc 39 x) (fun x : Waterclocklaw01Op => x.b.length + 1) (fun _ => True) :=
  (rd_struct TT_ok (t := 39) (fs := [(3, 0), (24, 1)]) (by kernel_rfl) (rdf_cons (rd_int TT_ok (t := 3) (k := .i64) (by kernel_rfl)) (rdf_cons rd24 rdf_nil)) (by kernel_rfl)).map (fun s => (⟨s.1, s.2.1⟩ : Waterclocklaw01Op)) (fun _ _ => rfl) (fun _ _ => by simp only; omega) (fun _ _ => trivial)
theorem rd29 {W : World} {H : Type} {enc0 : TypeId × Value → H} : Rd Try.prog TT W H enc0 29 (fun l : List Waterclocklaw01Op => (.vs false (.typ 39 2 false l) : AV CT)) (fun l => (l.map fun x => x.b.length + 1).sum) (fun _ => True) :=
  (rd_slice TT_ok (t := 29) (e := 39) (by kernel_rfl) (lists_typ (by kernel_rfl) (by intro h; cases h) TT_ok) (by decide) rd39).map id (fun _ _ => rfl) (fun _ _ => by simp only [id]; omega) (fun _ _ => trivial)
theorem sum_len (l : List Waterclocklaw01Op) : l.length ≤ (l.map fun x => x.b.length + 1).sum ∧ ∀ o ∈ l, o.b.length ≤ (l.map fun x => x.b.length + 1).sum := by
  induction l with
  | nil => exact ⟨Nat.le_refl _, fun o h => by cases h⟩
  | cons a l ih =>
    rw [List.map_cons, List.sum_cons, List.length_cons]
    refine ⟨by omega, fun o h => ?_⟩
    rcases List.mem_cons.1 h with rfl | h
    · omega
    · have := ih.2 o h; omega
theorem shaPlays_contract (H : Type) (enc : TypeId × Value → H) (W : World) (base : Nat) (args : Array Value) (ds gs : List (DataW H)) (before : List MemPlace)
    (hval : ∀ (j : Nat) t v, Try.f4.params[j]? = some t → args[j]? = some v → Value.okWide Try.prog W .any base t v)
    (hW : DataW.Whole enc Try.prog Try.f4.params.toList Rows.shaPlaysSpec.vars false W args.toList ds gs before) (hk : Rows.uptoSmall H (ds ++ gs) = true) :
    Calls Try.prog 4 args W fun e W' => ∃ v, e = .returned v ∧ Rows.shaPlaysSpec.post enc Try.prog Try.f4 false true false false W args v W' := by
  have hW' := hW
  obtain ⟨p, q, hA0, hV, rfl, hfz, hnd⟩ := hW
  have hA : DataW.TrodAll enc Try.prog W 0 (fun _ => true) true Try.f4.params.toList args.toList ds p := hA0
  rw [Try.params4] at hA hval
  obtain ⟨v0, vs0, d0, ds0, p0, q0, hargs, rfl, rfl, h0, r0⟩ := trodAll_cons hA
  obtain ⟨rfl, rfl, rfl⟩ := trodAll_nil r0
  obtain rfl : args = #[v0] := by cases args; simp_all
  obtain ⟨rfl, rfl⟩ := trodVars_none hV
  have hv0 := hval 0 29 v0 rfl rfl
  obtain ⟨a0, len0, cap0, rfl⟩ := okWide_slice Try.underlying29 hv0
  have lt0 : ∀ x ∈ p0, x.block < W.heap.size := by obtain ⟨m, hm⟩ := h0; exact DataW.trod_lt m _ _ _ hm
  obtain ⟨x0, rv0, b0, g0⟩ := rv_of rd29 (fun _ => rfl) (v := .slice a0 len0 cap0) trivial h0
  have hb : Rows.uptoBulkAll _ ≤ 1048576 := of_decide_eq_true hk
  simp only [List.append_nil, List.cons_append, List.nil_append, Rows.uptoBulkAll] at hb
  have hs := sum_len x0
  have hlaw := plays_true x0 (by omega) (fun o ho => by have := hs.2 o ho; omega) (fun z0 => some (⟨.bool z0, [], []⟩ : Res CT))
  obtain ⟨res, hc, hr⟩ := law01_ShaPlays_ok NN (Res CT) [.vs false (.typ 39 2 false x0)] [] _ some _ rfl hlaw
  cases hr
  refine (law_calls (T := TT) (W := W) hc (vs := [.slice a0 len0 cap0]) rfl (fun j a v ha hv => by
    match j with
    | 0 => cases ha; cases hv; exact rv0
    | j + 1 => cases ha) rfl).mono fun e W' ⟨he, bel⟩ => ?_
  subst he
  exact ⟨_, rfl, _, _, _, [], _, [], hW', trodAll_mk1 (shut_bool Try.underlying4 _), (trodAll_cons_mk (Below.trod laidOut (by kernel_rfl) (of_decide_eq_true (by kernel_rfl)) h0 bel lt0) trodAll_mk0), rfl, bel.frame _, fun h => by cases h⟩
set_option maxRecDepth 100000 in
theorem shaPlays_lifted (os : Os) (started : os.Started) (H : Type) (enc : TypeId × Value → H) (F : Stop.Interp) :
    ReturnsInHanded {} Try.checked os 4 .any ((Rows.OpenSpec.upto Rows.shaPlaysSpec).pre6 enc Try.prog Try.f4 Rows.shaPlaysUptoRow.domain false) (((Rows.OpenSpec.upto Rows.shaPlaysSpec).at F).post enc Try.prog Try.f4 false true false false) := by
  refine returnsInHanded_of_cond (C := Try.checked) (s := Rows.OpenSpec.upto Rows.shaPlaysSpec) (k := Rows.uptoSmall) rfl own started (by kernel_rfl) Try.func4
    (OpenSpec.witness (enc := enc) (C := Try.checked) (s := Rows.OpenSpec.upto Rows.shaPlaysSpec) (k := Rows.uptoSmall) rfl false ⟨#[], #[.slice none 0 0], []⟩ 8 (by kernel_rfl) (by kernel_rfl) (by kernel_rfl)
      (x := ([.nil], [], [])) (by kernel_rfl) rfl (by kernel_rfl)) ?_
  intro W base args ds gs before hval hW _ hk _
  exact shaPlays_contract H enc W base args ds gs before hval hW hk
theorem shaPlays_proved : Rows.ShaPlaysUptoSaid :=
  OpenClaim.holds_of_cond 4 Try.f4 rfl rfl rfl rfl rfl rfl rfl ⟨rfl, rfl, rfl, rfl, rfl⟩ rfl rfl rfl rfl rfl (by kernel_rfl) Try.func4 (by kernel_rfl)
    (of_decide_eq_true (by kernel_rfl)) (by unfold Func.isWrapper; first | (rw [if_pos (by decide +kernel)]; kernel_rfl) | (rw [if_neg (by decide +kernel)]; exact ⟨rfl, rfl⟩))
    (fun os started H enc _ F => shaPlays_lifted os started H enc F)
end Go.Proofs.Ytjnkppjlhmkjaaa.Av
namespace Go.Proofs.Ytjnkppjlhmkjaaa
/-- The statement, proved. -/
theorem shaPlaysUpto_holds : Rows.ShaPlaysUptoSaid := Av.shaPlays_proved
#print axioms shaPlaysUpto_holds
end Go.Proofs.Ytjnkppjlhmkjaaa
