import Derived.Test.YtjnkppjlhmkjaaaAvG3
namespace Go.Proofs.Ytjnkppjlhmkjaaa.Av
open Go
set_option linter.unusedVariables false
set_option maxRecDepth 10000
noncomputable def sha_Hash_Len_1_G (n : Nat) : Gam CT := gl []
noncomputable def sha_Hash_Len_1_Λ (n : Nat) : Lam CT := ll []
theorem sha_Hash_Len_1_r (n : Nat) {β : Type}  (K : Res CT → Option β) : runFn TT (sha_Hash_Len_1_G n) (sha_Hash_Len_1_Λ n) Try.f14 c14 false true [.nilp] [] K = sha_Hash_Len_1 n  (fun z0 => K ⟨(.int .i64 z0), [], []⟩) := by kernel_rfl
theorem sha_Hash_Len_1_Gok (n : Nat) : GamOk (CallsOk Try.prog cod) (sha_Hash_Len_1_G n) := gl_nil _ _
theorem sha_Hash_Len_1_ok (n : Nat) : SpecOk Try.prog cod 14 (sha_Hash_Len_1_p n) := by
  intro β args objs F K r hs hF
  unfold sha_Hash_Len_1_p at hs
  split at hs
  · cases hs
    exact fn_sound TT_ok (fun _ _ _ _ h => h) (sha_Hash_Len_1_Gok n) mixed Try.func14 (by kernel_rfl) (by kernel_rfl) (by kernel_rfl) (Nat.le_of_ble_eq_true (by kernel_rfl)) (ll_ok (by kernel_rfl) (loops_nil)) ((sha_Hash_Len_1_r n  K).trans hF)
  · cases hs

noncomputable def c4 : Code := Try.f4.body.getD .skip
noncomputable def law01_ShaPlays_G (n : Nat) : Gam CT := gl [(6, law01_first_p n), (13, ref01_Mixed_p n), (9, ref01_Table_p n), (11, sha_Hash_Clone_p n), (11, sha_Hash_Clone_1_p n), (14, sha_Hash_Len_p n), (14, sha_Hash_Len_1_p n), (12, sha_Hash_Sum_p n), (12, sha_Hash_Sum_1_p n), (10, sha_Hash_Write_p n), (10, sha_Hash_Write_1_p n), (7, sha_Sum_p n)]
noncomputable def law01_ShaPlays_l0_h : Keep := ⟨[3, 4, 5, 6, 7, 19, 20, 21], [((.slot 5), 5000)], [], [(.fld 18 1)], []⟩
noncomputable def law01_ShaPlays_l0_x : EX → Keep
  | .ret => ⟨[2], [], [], [], []⟩
  | .exit 0 => ⟨[3, 4, 5, 6, 7], [], [5000], [], []⟩
  | _ => ⟨[], [], [], [], []⟩
noncomputable def law01_ShaPlays_l0_p (n : Nat) : PLoop CT := fun _ v o => match v, o with
  | [(.vs false (.int .u32 p0)), (.vs false (.int .u32 p1)), (.ptr 5000 []), (.str p2), .nilp, (.vs false (.typ 39 2 false p3)), (.int .i64 p4), (.int .i64 p5)], [(.agg 11 [(.arr 8 (.int .u32 p6)), (.vs false (.u8 p7)), (.int .i64 p8), (.bool p9)])] => some fun k => law01_ShaPlays_l0 n n p0 p1 p2 p3 p4 p5 p6 p7 p8 p9 (fun x0 => k .ret (mkSt (law01_ShaPlays_l0_x (.ret)) [(.bool x0)] [])) (fun x0 x1 x2 x3 x4 x5 x6 => k .nrm (mkSt (law01_ShaPlays_l0_x (.exit 0)) [(.vs false (.int .u32 x0)), (.vs false (.int .u32 x1)), (.ptr 5000 []), (.str x2), .nilp] [(.agg 11 [(.arr 8 (.int .u32 x3)), (.vs false (.u8 x4)), (.int .i64 x5), (.bool x6)])]))
  | _, _ => none
noncomputable def law01_ShaPlays_l0_L (n : Nat) : Lam CT := ll []
noncomputable def law01_ShaPlays_l0_c : Code := cLoop (cBody (cB (cA (cB (cB (cB (cB (cB (cB c4)))))))))
theorem law01_ShaPlays_l0_e (n : Nat) {β : Type} (k : EX → St CT → Option β) : ∀ (m : Nat) (p0 : List Int) (p1 : List Int) (p2 : List UInt8) (p3 : List Waterclocklaw01Op) (p4 : Int) (p5 : Int) (p6 : List Int) (p7 : List UInt8) (p8 : Int) (p9 : Bool), loopK TT (law01_ShaPlays_G n) (law01_ShaPlays_l0_L n) law01_ShaPlays_l0_h law01_ShaPlays_l0_x 0 law01_ShaPlays_l0_c k (m) (mkSt law01_ShaPlays_l0_h [(.vs false (.int .u32 p0)), (.vs false (.int .u32 p1)), (.ptr 5000 []), (.str p2), .nilp, (.vs false (.typ 39 2 false p3)), (.int .i64 p4), (.int .i64 p5)] [(.agg 11 [(.arr 8 (.int .u32 p6)), (.vs false (.u8 p7)), (.int .i64 p8), (.bool p9)])]) = law01_ShaPlays_l0 n m p0 p1 p2 p3 p4 p5 p6 p7 p8 p9 (fun x0 => k .ret (mkSt (law01_ShaPlays_l0_x (.ret)) [(.bool x0)] [])) (fun x0 x1 x2 x3 x4 x5 x6 => k .nrm (mkSt (law01_ShaPlays_l0_x (.exit 0)) [(.vs false (.int .u32 x0)), (.vs false (.int .u32 x1)), (.ptr 5000 []), (.str x2), .nilp] [(.agg 11 [(.arr 8 (.int .u32 x3)), (.vs false (.u8 x4)), (.int .i64 x5), (.bool x6)])]))
  | 0, _, _, _, _, _, _, _, _, _, _ => rfl
  | m + 1, p0, p1, p2, p3, p4, p5, p6, p7, p8, p9 => (show loopK TT (law01_ShaPlays_G n) (law01_ShaPlays_l0_L n) law01_ShaPlays_l0_h law01_ShaPlays_l0_x 0 law01_ShaPlays_l0_c k (m + 1) (mkSt law01_ShaPlays_l0_h [(.vs false (.int .u32 p0)), (.vs false (.int .u32 p1)), (.ptr 5000 []), (.str p2), .nilp, (.vs false (.typ 39 2 false p3)), (.int .i64 p4), (.int .i64 p5)] [(.agg 11 [(.arr 8 (.int .u32 p6)), (.vs false (.u8 p7)), (.int .i64 p8), (.bool p9)])]) = law01_ShaPlays_l0_s n p0 p1 p2 p3 p4 p5 p6 p7 p8 p9 (fun p0 p1 p2 p3 p4 p5 p6 p7 p8 p9 => loopK TT (law01_ShaPlays_G n) (law01_ShaPlays_l0_L n) law01_ShaPlays_l0_h law01_ShaPlays_l0_x 0 law01_ShaPlays_l0_c k (m) (mkSt law01_ShaPlays_l0_h [(.vs false (.int .u32 p0)), (.vs false (.int .u32 p1)), (.ptr 5000 []), (.str p2), .nilp, (.vs false (.typ 39 2 false p3)), (.int .i64 p4), (.int .i64 p5)] [(.agg 11 [(.arr 8 (.int .u32 p6)), (.vs false (.u8 p7)), (.int .i64 p8), (.bool p9)])])) (fun x0 => k .ret (mkSt (law01_ShaPlays_l0_x (.ret)) [(.bool x0)] [])) (fun x0 x1 x2 x3 x4 x5 x6 => k .nrm (mkSt (law01_ShaPlays_l0_x (.exit 0)) [(.vs false (.int .u32 x0)), (.vs false (.int .u32 x1)), (.ptr 5000 []), (.str x2), .nilp] [(.agg 11 [(.arr 8 (.int .u32 x3)), (.vs false (.u8 x4)), (.int .i64 x5), (.bool x6)])])) by kernel_rfl).trans (congrArg (fun R => law01_ShaPlays_l0_s n p0 p1 p2 p3 p4 p5 p6 p7 p8 p9 R (fun x0 => k .ret (mkSt (law01_ShaPlays_l0_x (.ret)) [(.bool x0)] [])) (fun x0 x1 x2 x3 x4 x5 x6 => k .nrm (mkSt (law01_ShaPlays_l0_x (.exit 0)) [(.vs false (.int .u32 x0)), (.vs false (.int .u32 x1)), (.ptr 5000 []), (.str x2), .nilp] [(.agg 11 [(.arr 8 (.int .u32 x3)), (.vs false (.u8 x4)), (.int .i64 x5), (.bool x6)])]))) (funext fun p0 => funext fun p1 => funext fun p2 => funext fun p3 => funext fun p4 => funext fun p5 => funext fun p6 => funext fun p7 => funext fun p8 => funext fun p9 => law01_ShaPlays_l0_e n k m p0 p1 p2 p3 p4 p5 p6 p7 p8 p9))
noncomputable def law01_ShaPlays_Λ (n : Nat) : Lam CT := ll [(0, law01_ShaPlays_l0_h, law01_ShaPlays_l0_p n)]
theorem law01_ShaPlays_r (n : Nat) {β : Type} (a0 : List Waterclocklaw01Op) (K : Res CT → Option β) : runFn TT (law01_ShaPlays_G n) (law01_ShaPlays_Λ n) Try.f4 c4 false true [(.vs false (.typ 39 2 false a0))] [] K = law01_ShaPlays n a0 (fun z0 => K ⟨(.bool z0), [], []⟩) := by kernel_rfl
theorem law01_ShaPlays_Gok (n : Nat) : GamOk (CallsOk Try.prog cod) (law01_ShaPlays_G n) := gl_cons (law01_first_ok n) (gl_cons (ref01_Mixed_ok n) (gl_cons (ref01_Table_ok n) (gl_cons (sha_Hash_Clone_ok n) (gl_cons (sha_Hash_Clone_1_ok n) (gl_cons (sha_Hash_Len_ok n) (gl_cons (sha_Hash_Len_1_ok n) (gl_cons (sha_Hash_Sum_ok n) (gl_cons (sha_Hash_Sum_1_ok n) (gl_cons (sha_Hash_Write_ok n) (gl_cons (sha_Hash_Write_1_ok n) (gl_cons (sha_Sum_ok n) (gl_nil _ _))))))))))))
theorem law01_ShaPlays_l0_ok (n : Nat) : LoopOk Try.prog TT Try.f4.ntmps 0 (.loop law01_ShaPlays_l0_c) law01_ShaPlays_l0_h (law01_ShaPlays_l0_p n) := by
  intro β vals obs F k r hs hF
  unfold law01_ShaPlays_l0_p at hs
  split at hs
  · cases hs
    exact loop_sound TT_ok (fun _ _ _ _ h => h) (law01_ShaPlays_Gok n) mixed (by kernel_rfl) (ll_ok (by kernel_rfl) (loops_nil)) n _ ((law01_ShaPlays_l0_e n k n _ _ _ _ _ _ _ _ _ _).trans hF)
  · cases hs
theorem law01_ShaPlays_ok (n : Nat) : SpecOk Try.prog cod 4 (law01_ShaPlays_p n) := by
  intro β args objs F K r hs hF
  unfold law01_ShaPlays_p at hs
  split at hs
  · cases hs
    exact fn_sound TT_ok (fun _ _ _ _ h => h) (law01_ShaPlays_Gok n) mixed Try.func4 (by kernel_rfl) (by kernel_rfl) (by kernel_rfl) (Nat.le_of_ble_eq_true (by kernel_rfl)) (ll_ok (by kernel_rfl) (loops_cons (by kernel_rfl) (law01_ShaPlays_l0_ok n) (loops_nil))) ((law01_ShaPlays_r n _ K).trans hF)
  · cases hs

end Go.Proofs.Ytjnkppjlhmkjaaa.Av
