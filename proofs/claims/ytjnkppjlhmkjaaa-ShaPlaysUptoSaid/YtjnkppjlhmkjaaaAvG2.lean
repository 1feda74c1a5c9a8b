import Derived.Test.YtjnkppjlhmkjaaaAvG1
namespace Go.Proofs.Ytjnkppjlhmkjaaa.Av
open Go
set_option linter.unusedVariables false
set_option maxRecDepth 10000
noncomputable def c15 : Code := Try.f15.body.getD .skip
noncomputable def sha_New_G (n : Nat) : Gam CT := gl []
noncomputable def sha_New_Λ (n : Nat) : Lam CT := ll []
theorem sha_New_r (n : Nat) {β : Type}  (K : Res CT → Option β) : runFn TT (sha_New_G n) (sha_New_Λ n) Try.f15 c15 false true [] [] K = sha_New n  (fun z0 z1 z2 z3 => K ⟨(.ptr 10000 []), [], [(.agg 11 [(.arr 8 (.int .u32 z0)), (.vs false (.u8 z1)), (.int .i64 z2), (.bool z3)])]⟩) := by kernel_rfl
theorem sha_New_Gok (n : Nat) : GamOk (CallsOk Try.prog cod) (sha_New_G n) := gl_nil _ _
theorem sha_New_ok (n : Nat) : SpecOk Try.prog cod 15 (sha_New_p n) := by
  intro β args objs F K r hs hF
  unfold sha_New_p at hs
  split at hs
  · cases hs
    exact fn_sound TT_ok (fun _ _ _ _ h => h) (sha_New_Gok n) mixed Try.func15 (by kernel_rfl) (by kernel_rfl) (by kernel_rfl) (Nat.le_of_ble_eq_true (by kernel_rfl)) (ll_ok (by kernel_rfl) (loops_nil)) ((sha_New_r n  K).trans hF)
  · cases hs

noncomputable def c19 : Code := Try.f19.body.getD .skip
noncomputable def sha_Hash_lay_G (n : Nat) : Gam CT := gl []
noncomputable def sha_Hash_lay_Λ (n : Nat) : Lam CT := ll []
theorem sha_Hash_lay_r (n : Nat) {β : Type} (a0 : List Int) (a1 : List UInt8) (a2 : Int) (a3 : Bool) (K : Res CT → Option β) : runFn TT (sha_Hash_lay_G n) (sha_Hash_lay_Λ n) Try.f19 c19 false true [(.ptr 10000 [])] [(.agg 11 [(.arr 8 (.int .u32 a0)), (.vs false (.u8 a1)), (.int .i64 a2), (.bool a3)])] K = sha_Hash_lay n a0 a1 a2 a3 (fun z0 z1 z2 z3 => K ⟨(.tup []), [some (.agg 11 [(.arr 8 (.int .u32 z0)), (.vs false (.u8 z1)), (.int .i64 z2), (.bool z3)])], []⟩) := by kernel_rfl
theorem sha_Hash_lay_Gok (n : Nat) : GamOk (CallsOk Try.prog cod) (sha_Hash_lay_G n) := gl_nil _ _
theorem sha_Hash_lay_ok (n : Nat) : SpecOk Try.prog cod 19 (sha_Hash_lay_p n) := by
  intro β args objs F K r hs hF
  unfold sha_Hash_lay_p at hs
  split at hs
  · cases hs
    exact fn_sound TT_ok (fun _ _ _ _ h => h) (sha_Hash_lay_Gok n) mixed Try.func19 (by kernel_rfl) (by kernel_rfl) (by kernel_rfl) (Nat.le_of_ble_eq_true (by kernel_rfl)) (ll_ok (by kernel_rfl) (loops_nil)) ((sha_Hash_lay_r n _ _ _ _ K).trans hF)
  · cases hs

noncomputable def c28 : Code := Try.f28.body.getD .skip
noncomputable def math_bits_RotateLeft32_G (n : Nat) : Gam CT := gl []
noncomputable def math_bits_RotateLeft32_Λ (n : Nat) : Lam CT := ll []
theorem math_bits_RotateLeft32_r (n : Nat) {β : Type} (a0 : Int) (a1 : Int) (K : Res CT → Option β) : runFn TT (math_bits_RotateLeft32_G n) (math_bits_RotateLeft32_Λ n) Try.f28 c28 false true [(.int .u32 a0), (.int .i64 a1)] [] K = math_bits_RotateLeft32 n a0 a1 (fun z0 => K ⟨(.int .u32 z0), [], []⟩) := by kernel_rfl
theorem math_bits_RotateLeft32_Gok (n : Nat) : GamOk (CallsOk Try.prog cod) (math_bits_RotateLeft32_G n) := gl_nil _ _
theorem math_bits_RotateLeft32_ok (n : Nat) : SpecOk Try.prog cod 28 (math_bits_RotateLeft32_p n) := by
  intro β args objs F K r hs hF
  unfold math_bits_RotateLeft32_p at hs
  split at hs
  · cases hs
    exact fn_sound TT_ok (fun _ _ _ _ h => h) (math_bits_RotateLeft32_Gok n) mixed Try.func28 (by kernel_rfl) (by kernel_rfl) (by kernel_rfl) (Nat.le_of_ble_eq_true (by kernel_rfl)) (ll_ok (by kernel_rfl) (loops_nil)) ((math_bits_RotateLeft32_r n _ _ K).trans hF)
  · cases hs

noncomputable def c27 : Code := Try.f27.body.getD .skip
noncomputable def sha_down_G (n : Nat) : Gam CT := gl [(28, math_bits_RotateLeft32_p n)]
noncomputable def sha_down_Λ (n : Nat) : Lam CT := ll []
theorem sha_down_r (n : Nat) {β : Type} (a0 : Int) (a1 : Int) (K : Res CT → Option β) : runFn TT (sha_down_G n) (sha_down_Λ n) Try.f27 c27 false true [(.int .u32 a0), (.int .i64 a1)] [] K = sha_down n a0 a1 (fun z0 => K ⟨(.int .u32 z0), [], []⟩) := by kernel_rfl
theorem sha_down_Gok (n : Nat) : GamOk (CallsOk Try.prog cod) (sha_down_G n) := gl_cons (math_bits_RotateLeft32_ok n) (gl_nil _ _)
theorem sha_down_ok (n : Nat) : SpecOk Try.prog cod 27 (sha_down_p n) := by
  intro β args objs F K r hs hF
  unfold sha_down_p at hs
  split at hs
  · cases hs
    exact fn_sound TT_ok (fun _ _ _ _ h => h) (sha_down_Gok n) mixed Try.func27 (by kernel_rfl) (by kernel_rfl) (by kernel_rfl) (Nat.le_of_ble_eq_true (by kernel_rfl)) (ll_ok (by kernel_rfl) (loops_nil)) ((sha_down_r n _ _ K).trans hF)
  · cases hs

noncomputable def c25 : Code := Try.f25.body.getD .skip
noncomputable def sha_schedule_G (n : Nat) : Gam CT := gl [(27, sha_down_p n)]
noncomputable def sha_schedule_l0_h : Keep := ⟨[0, 2, 3, 10], [], [2, 3], [], []⟩
noncomputable def sha_schedule_l0_x : EX → Keep
  | .exit 0 => ⟨[2, 3], [], [2, 3], [], []⟩
  | _ => ⟨[], [], [], [], []⟩
noncomputable def sha_schedule_l0_p (n : Nat) : PLoop CT := fun _ v o => match v, o with
  | [(.vs p0 (.u8 p1)), (.ptr 2 []), (.ptr 3 []), (.int .i64 p2)], [(.arr 64 (.int .u32 p3)), (.arr 64 (.int .u32 p4))] => some fun k => sha_schedule_l0 n n p0 p1 p2 p3 p4 (fun x0 x1 => k .nrm (mkSt (sha_schedule_l0_x (.exit 0)) [(.ptr 2 []), (.ptr 3 [])] [(.arr 64 (.int .u32 x0)), (.arr 64 (.int .u32 x1))]))
  | _, _ => none
noncomputable def sha_schedule_l0_L (n : Nat) : Lam CT := ll []
noncomputable def sha_schedule_l0_c : Code := cLoop (cBody (cB (cA (cB (cB c25)))))
theorem sha_schedule_l0_e (n : Nat) {β : Type} (k : EX → St CT → Option β) : ∀ (m : Nat) (p0 : Bool) (p1 : List UInt8) (p2 : Int) (p3 : List Int) (p4 : List Int), loopK TT (sha_schedule_G n) (sha_schedule_l0_L n) sha_schedule_l0_h sha_schedule_l0_x 0 sha_schedule_l0_c k (m) (mkSt sha_schedule_l0_h [(.vs p0 (.u8 p1)), (.ptr 2 []), (.ptr 3 []), (.int .i64 p2)] [(.arr 64 (.int .u32 p3)), (.arr 64 (.int .u32 p4))]) = sha_schedule_l0 n m p0 p1 p2 p3 p4 (fun x0 x1 => k .nrm (mkSt (sha_schedule_l0_x (.exit 0)) [(.ptr 2 []), (.ptr 3 [])] [(.arr 64 (.int .u32 x0)), (.arr 64 (.int .u32 x1))]))
  | 0, _, _, _, _, _ => rfl
  | m + 1, p0, p1, p2, p3, p4 => (show loopK TT (sha_schedule_G n) (sha_schedule_l0_L n) sha_schedule_l0_h sha_schedule_l0_x 0 sha_schedule_l0_c k (m + 1) (mkSt sha_schedule_l0_h [(.vs p0 (.u8 p1)), (.ptr 2 []), (.ptr 3 []), (.int .i64 p2)] [(.arr 64 (.int .u32 p3)), (.arr 64 (.int .u32 p4))]) = sha_schedule_l0_s n p0 p1 p2 p3 p4 (fun p0 p1 p2 p3 p4 => loopK TT (sha_schedule_G n) (sha_schedule_l0_L n) sha_schedule_l0_h sha_schedule_l0_x 0 sha_schedule_l0_c k (m) (mkSt sha_schedule_l0_h [(.vs p0 (.u8 p1)), (.ptr 2 []), (.ptr 3 []), (.int .i64 p2)] [(.arr 64 (.int .u32 p3)), (.arr 64 (.int .u32 p4))])) (fun x0 x1 => k .nrm (mkSt (sha_schedule_l0_x (.exit 0)) [(.ptr 2 []), (.ptr 3 [])] [(.arr 64 (.int .u32 x0)), (.arr 64 (.int .u32 x1))])) by kernel_rfl).trans (congrArg (fun R => sha_schedule_l0_s n p0 p1 p2 p3 p4 R (fun x0 x1 => k .nrm (mkSt (sha_schedule_l0_x (.exit 0)) [(.ptr 2 []), (.ptr 3 [])] [(.arr 64 (.int .u32 x0)), (.arr 64 (.int .u32 x1))]))) (funext fun p0 => funext fun p1 => funext fun p2 => funext fun p3 => funext fun p4 => sha_schedule_l0_e n k m p0 p1 p2 p3 p4))
noncomputable def sha_schedule_l2_h : Keep := ⟨[2, 3, 5], [], [2, 3], [], []⟩
noncomputable def sha_schedule_l2_x : EX → Keep
  | .exit 2 => ⟨[2, 3], [], [2, 3], [], []⟩
  | _ => ⟨[], [], [], [], []⟩
noncomputable def sha_schedule_l2_p (n : Nat) : PLoop CT := fun _ v o => match v, o with
  | [(.ptr 2 []), (.ptr 3 []), (.int .i64 p0)], [(.arr 64 (.int .u32 p1)), (.arr 64 (.int .u32 p2))] => some fun k => sha_schedule_l2 n n p0 p1 p2 (fun x0 x1 => k .nrm (mkSt (sha_schedule_l2_x (.exit 2)) [(.ptr 2 []), (.ptr 3 [])] [(.arr 64 (.int .u32 x0)), (.arr 64 (.int .u32 x1))]))
  | _, _ => none
noncomputable def sha_schedule_l2_L (n : Nat) : Lam CT := ll []
noncomputable def sha_schedule_l2_c : Code := cLoop (cBody (cB (cA (cB (cB (cB c25))))))
theorem sha_schedule_l2_e (n : Nat) {β : Type} (k : EX → St CT → Option β) : ∀ (m : Nat) (p0 : Int) (p1 : List Int) (p2 : List Int), loopK TT (sha_schedule_G n) (sha_schedule_l2_L n) sha_schedule_l2_h sha_schedule_l2_x 2 sha_schedule_l2_c k (m) (mkSt sha_schedule_l2_h [(.ptr 2 []), (.ptr 3 []), (.int .i64 p0)] [(.arr 64 (.int .u32 p1)), (.arr 64 (.int .u32 p2))]) = sha_schedule_l2 n m p0 p1 p2 (fun x0 x1 => k .nrm (mkSt (sha_schedule_l2_x (.exit 2)) [(.ptr 2 []), (.ptr 3 [])] [(.arr 64 (.int .u32 x0)), (.arr 64 (.int .u32 x1))]))
  | 0, _, _, _ => rfl
  | m + 1, p0, p1, p2 => (show loopK TT (sha_schedule_G n) (sha_schedule_l2_L n) sha_schedule_l2_h sha_schedule_l2_x 2 sha_schedule_l2_c k (m + 1) (mkSt sha_schedule_l2_h [(.ptr 2 []), (.ptr 3 []), (.int .i64 p0)] [(.arr 64 (.int .u32 p1)), (.arr 64 (.int .u32 p2))]) = sha_schedule_l2_s n p0 p1 p2 (fun p0 p1 p2 => loopK TT (sha_schedule_G n) (sha_schedule_l2_L n) sha_schedule_l2_h sha_schedule_l2_x 2 sha_schedule_l2_c k (m) (mkSt sha_schedule_l2_h [(.ptr 2 []), (.ptr 3 []), (.int .i64 p0)] [(.arr 64 (.int .u32 p1)), (.arr 64 (.int .u32 p2))])) (fun x0 x1 => k .nrm (mkSt (sha_schedule_l2_x (.exit 2)) [(.ptr 2 []), (.ptr 3 [])] [(.arr 64 (.int .u32 x0)), (.arr 64 (.int .u32 x1))])) by kernel_rfl).trans (congrArg (fun R => sha_schedule_l2_s n p0 p1 p2 R (fun x0 x1 => k .nrm (mkSt (sha_schedule_l2_x (.exit 2)) [(.ptr 2 []), (.ptr 3 [])] [(.arr 64 (.int .u32 x0)), (.arr 64 (.int .u32 x1))]))) (funext fun p0 => funext fun p1 => funext fun p2 => sha_schedule_l2_e n k m p0 p1 p2))
noncomputable def sha_schedule_Λ (n : Nat) : Lam CT := ll [(0, sha_schedule_l0_h, sha_schedule_l0_p n), (2, sha_schedule_l2_h, sha_schedule_l2_p n)]
theorem sha_schedule_r (n : Nat) {β : Type} (a0 : Bool) (a1 : List UInt8) (K : Res CT → Option β) : runFn TT (sha_schedule_G n) (sha_schedule_Λ n) Try.f25 c25 false true [(.vs a0 (.u8 a1))] [] K = sha_schedule n a0 a1 (fun z0 => K ⟨(.arr 64 (.int .u32 z0)), [], []⟩) := by kernel_rfl
theorem sha_schedule_Gok (n : Nat) : GamOk (CallsOk Try.prog cod) (sha_schedule_G n) := gl_cons (sha_down_ok n) (gl_nil _ _)
theorem sha_schedule_l0_ok (n : Nat) : LoopOk Try.prog TT Try.f25.ntmps 0 (.loop sha_schedule_l0_c) sha_schedule_l0_h (sha_schedule_l0_p n) := by
  intro β vals obs F k r hs hF
  unfold sha_schedule_l0_p at hs
  split at hs
  · cases hs
    exact loop_sound TT_ok (fun _ _ _ _ h => h) (sha_schedule_Gok n) mixed (by kernel_rfl) (ll_ok (by kernel_rfl) (loops_nil)) n _ ((sha_schedule_l0_e n k n _ _ _ _ _).trans hF)
  · cases hs
theorem sha_schedule_l2_ok (n : Nat) : LoopOk Try.prog TT Try.f25.ntmps 2 (.loop sha_schedule_l2_c) sha_schedule_l2_h (sha_schedule_l2_p n) := by
  intro β vals obs F k r hs hF
  unfold sha_schedule_l2_p at hs
  split at hs
  · cases hs
    exact loop_sound TT_ok (fun _ _ _ _ h => h) (sha_schedule_Gok n) mixed (by kernel_rfl) (ll_ok (by kernel_rfl) (loops_nil)) n _ ((sha_schedule_l2_e n k n _ _ _).trans hF)
  · cases hs
theorem sha_schedule_ok (n : Nat) : SpecOk Try.prog cod 25 (sha_schedule_p n) := by
  intro β args objs F K r hs hF
  unfold sha_schedule_p at hs
  split at hs
  · cases hs
    exact fn_sound TT_ok (fun _ _ _ _ h => h) (sha_schedule_Gok n) mixed Try.func25 (by kernel_rfl) (by kernel_rfl) (by kernel_rfl) (Nat.le_of_ble_eq_true (by kernel_rfl)) (ll_ok (by kernel_rfl) (loops_cons (by kernel_rfl) (sha_schedule_l0_ok n) (loops_cons (by kernel_rfl) (sha_schedule_l2_ok n) (loops_nil)))) ((sha_schedule_r n _ _ K).trans hF)
  · cases hs

noncomputable def c26 : Code := Try.f26.body.getD .skip
noncomputable def sha_constants_G (n : Nat) : Gam CT := gl []
noncomputable def sha_constants_Λ (n : Nat) : Lam CT := ll []
theorem sha_constants_r (n : Nat) {β : Type}  (K : Res CT → Option β) : runFn TT (sha_constants_G n) (sha_constants_Λ n) Try.f26 c26 false true [] [] K = sha_constants n  (fun z0 => K ⟨(.arr 64 (.int .u32 z0)), [], []⟩) := by kernel_rfl
theorem sha_constants_Gok (n : Nat) : GamOk (CallsOk Try.prog cod) (sha_constants_G n) := gl_nil _ _
theorem sha_constants_ok (n : Nat) : SpecOk Try.prog cod 26 (sha_constants_p n) := by
  intro β args objs F K r hs hF
  unfold sha_constants_p at hs
  split at hs
  · cases hs
    exact fn_sound TT_ok (fun _ _ _ _ h => h) (sha_constants_Gok n) mixed Try.func26 (by kernel_rfl) (by kernel_rfl) (by kernel_rfl) (Nat.le_of_ble_eq_true (by kernel_rfl)) (ll_ok (by kernel_rfl) (loops_nil)) ((sha_constants_r n  K).trans hF)
  · cases hs

noncomputable def c20 : Code := Try.f20.body.getD .skip
noncomputable def sha_mix_G (n : Nat) : Gam CT := gl [(26, sha_constants_p n), (27, sha_down_p n), (25, sha_schedule_p n)]
noncomputable def sha_mix_l0_h : Keep := ⟨[2, 4, 5, 6, 7, 18], [], [2, 4, 5, 6, 7], [], []⟩
noncomputable def sha_mix_l0_x : EX → Keep
  | .exit 0 => ⟨[2, 4, 7], [], [2, 4, 7], [], []⟩
  | _ => ⟨[], [], [], [], []⟩
noncomputable def sha_mix_l0_p (n : Nat) : PLoop CT := fun _ v o => match v, o with
  | [(.ptr 2 []), (.ptr 4 []), (.ptr 5 []), (.ptr 6 []), (.ptr 7 []), (.int .i64 p0)], [(.arr 8 (.int .u32 p1)), (.arr 8 (.int .u32 p2)), (.arr 64 (.int .u32 p3)), (.arr 64 (.int .u32 p4)), (.arr 8 (.int .u32 p5))] => some fun k => sha_mix_l0 n n p0 p1 p2 p3 p4 p5 (fun x0 x1 x2 => k .nrm (mkSt (sha_mix_l0_x (.exit 0)) [(.ptr 2 []), (.ptr 4 []), (.ptr 7 [])] [(.arr 8 (.int .u32 x0)), (.arr 8 (.int .u32 x1)), (.arr 8 (.int .u32 x2))]))
  | _, _ => none
noncomputable def sha_mix_l0_L (n : Nat) : Lam CT := ll []
noncomputable def sha_mix_l0_c : Code := cLoop (cBody (cB (cA (cB (cB c20)))))
theorem sha_mix_l0_e (n : Nat) {β : Type} (k : EX → St CT → Option β) : ∀ (m : Nat) (p0 : Int) (p1 : List Int) (p2 : List Int) (p3 : List Int) (p4 : List Int) (p5 : List Int), loopK TT (sha_mix_G n) (sha_mix_l0_L n) sha_mix_l0_h sha_mix_l0_x 0 sha_mix_l0_c k (m) (mkSt sha_mix_l0_h [(.ptr 2 []), (.ptr 4 []), (.ptr 5 []), (.ptr 6 []), (.ptr 7 []), (.int .i64 p0)] [(.arr 8 (.int .u32 p1)), (.arr 8 (.int .u32 p2)), (.arr 64 (.int .u32 p3)), (.arr 64 (.int .u32 p4)), (.arr 8 (.int .u32 p5))]) = sha_mix_l0 n m p0 p1 p2 p3 p4 p5 (fun x0 x1 x2 => k .nrm (mkSt (sha_mix_l0_x (.exit 0)) [(.ptr 2 []), (.ptr 4 []), (.ptr 7 [])] [(.arr 8 (.int .u32 x0)), (.arr 8 (.int .u32 x1)), (.arr 8 (.int .u32 x2))]))
  | 0, _, _, _, _, _, _ => rfl
  | m + 1, p0, p1, p2, p3, p4, p5 => (show loopK TT (sha_mix_G n) (sha_mix_l0_L n) sha_mix_l0_h sha_mix_l0_x 0 sha_mix_l0_c k (m + 1) (mkSt sha_mix_l0_h [(.ptr 2 []), (.ptr 4 []), (.ptr 5 []), (.ptr 6 []), (.ptr 7 []), (.int .i64 p0)] [(.arr 8 (.int .u32 p1)), (.arr 8 (.int .u32 p2)), (.arr 64 (.int .u32 p3)), (.arr 64 (.int .u32 p4)), (.arr 8 (.int .u32 p5))]) = sha_mix_l0_s n p0 p1 p2 p3 p4 p5 (fun p0 p1 p2 p3 p4 p5 => loopK TT (sha_mix_G n) (sha_mix_l0_L n) sha_mix_l0_h sha_mix_l0_x 0 sha_mix_l0_c k (m) (mkSt sha_mix_l0_h [(.ptr 2 []), (.ptr 4 []), (.ptr 5 []), (.ptr 6 []), (.ptr 7 []), (.int .i64 p0)] [(.arr 8 (.int .u32 p1)), (.arr 8 (.int .u32 p2)), (.arr 64 (.int .u32 p3)), (.arr 64 (.int .u32 p4)), (.arr 8 (.int .u32 p5))])) (fun x0 x1 x2 => k .nrm (mkSt (sha_mix_l0_x (.exit 0)) [(.ptr 2 []), (.ptr 4 []), (.ptr 7 [])] [(.arr 8 (.int .u32 x0)), (.arr 8 (.int .u32 x1)), (.arr 8 (.int .u32 x2))])) by kernel_rfl).trans (congrArg (fun R => sha_mix_l0_s n p0 p1 p2 p3 p4 p5 R (fun x0 x1 x2 => k .nrm (mkSt (sha_mix_l0_x (.exit 0)) [(.ptr 2 []), (.ptr 4 []), (.ptr 7 [])] [(.arr 8 (.int .u32 x0)), (.arr 8 (.int .u32 x1)), (.arr 8 (.int .u32 x2))]))) (funext fun p0 => funext fun p1 => funext fun p2 => funext fun p3 => funext fun p4 => funext fun p5 => sha_mix_l0_e n k m p0 p1 p2 p3 p4 p5))
noncomputable def sha_mix_l2_h : Keep := ⟨[2, 4, 7, 98], [], [2, 4, 7], [], []⟩
noncomputable def sha_mix_l2_x : EX → Keep
  | .exit 2 => ⟨[4, 7], [], [4, 7], [], []⟩
  | _ => ⟨[], [], [], [], []⟩
noncomputable def sha_mix_l2_p (n : Nat) : PLoop CT := fun _ v o => match v, o with
  | [(.ptr 2 []), (.ptr 4 []), (.ptr 7 []), (.int .i64 p0)], [(.arr 8 (.int .u32 p1)), (.arr 8 (.int .u32 p2)), (.arr 8 (.int .u32 p3))] => some fun k => sha_mix_l2 n n p0 p1 p2 p3 (fun x0 x1 => k .nrm (mkSt (sha_mix_l2_x (.exit 2)) [(.ptr 4 []), (.ptr 7 [])] [(.arr 8 (.int .u32 x0)), (.arr 8 (.int .u32 x1))]))
  | _, _ => none
noncomputable def sha_mix_l2_L (n : Nat) : Lam CT := ll []
noncomputable def sha_mix_l2_c : Code := cLoop (cBody (cB (cA (cB (cB (cB c20))))))
theorem sha_mix_l2_e (n : Nat) {β : Type} (k : EX → St CT → Option β) : ∀ (m : Nat) (p0 : Int) (p1 : List Int) (p2 : List Int) (p3 : List Int), loopK TT (sha_mix_G n) (sha_mix_l2_L n) sha_mix_l2_h sha_mix_l2_x 2 sha_mix_l2_c k (m) (mkSt sha_mix_l2_h [(.ptr 2 []), (.ptr 4 []), (.ptr 7 []), (.int .i64 p0)] [(.arr 8 (.int .u32 p1)), (.arr 8 (.int .u32 p2)), (.arr 8 (.int .u32 p3))]) = sha_mix_l2 n m p0 p1 p2 p3 (fun x0 x1 => k .nrm (mkSt (sha_mix_l2_x (.exit 2)) [(.ptr 4 []), (.ptr 7 [])] [(.arr 8 (.int .u32 x0)), (.arr 8 (.int .u32 x1))]))
  | 0, _, _, _, _ => rfl
  | m + 1, p0, p1, p2, p3 => (show loopK TT (sha_mix_G n) (sha_mix_l2_L n) sha_mix_l2_h sha_mix_l2_x 2 sha_mix_l2_c k (m + 1) (mkSt sha_mix_l2_h [(.ptr 2 []), (.ptr 4 []), (.ptr 7 []), (.int .i64 p0)] [(.arr 8 (.int .u32 p1)), (.arr 8 (.int .u32 p2)), (.arr 8 (.int .u32 p3))]) = sha_mix_l2_s n p0 p1 p2 p3 (fun p0 p1 p2 p3 => loopK TT (sha_mix_G n) (sha_mix_l2_L n) sha_mix_l2_h sha_mix_l2_x 2 sha_mix_l2_c k (m) (mkSt sha_mix_l2_h [(.ptr 2 []), (.ptr 4 []), (.ptr 7 []), (.int .i64 p0)] [(.arr 8 (.int .u32 p1)), (.arr 8 (.int .u32 p2)), (.arr 8 (.int .u32 p3))])) (fun x0 x1 => k .nrm (mkSt (sha_mix_l2_x (.exit 2)) [(.ptr 4 []), (.ptr 7 [])] [(.arr 8 (.int .u32 x0)), (.arr 8 (.int .u32 x1))])) by kernel_rfl).trans (congrArg (fun R => sha_mix_l2_s n p0 p1 p2 p3 R (fun x0 x1 => k .nrm (mkSt (sha_mix_l2_x (.exit 2)) [(.ptr 4 []), (.ptr 7 [])] [(.arr 8 (.int .u32 x0)), (.arr 8 (.int .u32 x1))]))) (funext fun p0 => funext fun p1 => funext fun p2 => funext fun p3 => sha_mix_l2_e n k m p0 p1 p2 p3))
noncomputable def sha_mix_Λ (n : Nat) : Lam CT := ll [(0, sha_mix_l0_h, sha_mix_l0_p n), (2, sha_mix_l2_h, sha_mix_l2_p n)]
theorem sha_mix_r (n : Nat) {β : Type} (a0 : List Int) (a1 : Bool) (a2 : List UInt8) (K : Res CT → Option β) : runFn TT (sha_mix_G n) (sha_mix_Λ n) Try.f20 c20 false true [(.arr 8 (.int .u32 a0)), (.vs a1 (.u8 a2))] [] K = sha_mix n a0 a1 a2 (fun z0 => K ⟨(.arr 8 (.int .u32 z0)), [], []⟩) := by kernel_rfl
theorem sha_mix_Gok (n : Nat) : GamOk (CallsOk Try.prog cod) (sha_mix_G n) := gl_cons (sha_constants_ok n) (gl_cons (sha_down_ok n) (gl_cons (sha_schedule_ok n) (gl_nil _ _)))
theorem sha_mix_l0_ok (n : Nat) : LoopOk Try.prog TT Try.f20.ntmps 0 (.loop sha_mix_l0_c) sha_mix_l0_h (sha_mix_l0_p n) := by
  intro β vals obs F k r hs hF
  unfold sha_mix_l0_p at hs
  split at hs
  · cases hs
    exact loop_sound TT_ok (fun _ _ _ _ h => h) (sha_mix_Gok n) mixed (by kernel_rfl) (ll_ok (by kernel_rfl) (loops_nil)) n _ ((sha_mix_l0_e n k n _ _ _ _ _ _).trans hF)
  · cases hs
theorem sha_mix_l2_ok (n : Nat) : LoopOk Try.prog TT Try.f20.ntmps 2 (.loop sha_mix_l2_c) sha_mix_l2_h (sha_mix_l2_p n) := by
  intro β vals obs F k r hs hF
  unfold sha_mix_l2_p at hs
  split at hs
  · cases hs
    exact loop_sound TT_ok (fun _ _ _ _ h => h) (sha_mix_Gok n) mixed (by kernel_rfl) (ll_ok (by kernel_rfl) (loops_nil)) n _ ((sha_mix_l2_e n k n _ _ _ _).trans hF)
  · cases hs
theorem sha_mix_ok (n : Nat) : SpecOk Try.prog cod 20 (sha_mix_p n) := by
  intro β args objs F K r hs hF
  unfold sha_mix_p at hs
  split at hs
  · cases hs
    exact fn_sound TT_ok (fun _ _ _ _ h => h) (sha_mix_Gok n) mixed Try.func20 (by kernel_rfl) (by kernel_rfl) (by kernel_rfl) (Nat.le_of_ble_eq_true (by kernel_rfl)) (ll_ok (by kernel_rfl) (loops_cons (by kernel_rfl) (sha_mix_l0_ok n) (loops_cons (by kernel_rfl) (sha_mix_l2_ok n) (loops_nil)))) ((sha_mix_r n _ _ _ K).trans hF)
  · cases hs

noncomputable def c10 : Code := Try.f10.body.getD .skip
noncomputable def sha_Hash_Write_G (n : Nat) : Gam CT := gl [(19, sha_Hash_lay_p n), (20, sha_mix_p n)]
noncomputable def sha_Hash_Write_l0_h : Keep := ⟨[0, 1, 5], [], [10000, 26], [], [(.slot 5)]⟩
noncomputable def sha_Hash_Write_l0_x : EX → Keep
  | .exit 0 => ⟨[0, 1, 5], [], [10000, 26], [], []⟩
  | _ => ⟨[], [], [], [], []⟩
noncomputable def sha_Hash_Write_l0_p (n : Nat) : PLoop CT := fun _ v o => match v, o with
  | [(.ptr 10000 []), (.vs p0 (.u8 p1)), (.ms 26 [] .u8 p2 p3 p4)], [(.agg 11 [(.arr 8 (.int .u32 p5)), (.vs false (.u8 p6)), (.int .i64 p7), (.bool p8)]), (.lst (.u8 p9))] => some fun k => sha_Hash_Write_l0 n n p0 p1 p2 p3 p4 p5 p6 p7 p8 p9 (fun x0 x1 x2 x3 x4 x5 x6 x7 x8 x9 => k .nrm (mkSt (sha_Hash_Write_l0_x (.exit 0)) [(.ptr 10000 []), (.vs x0 (.u8 x1)), (.ms 26 [] .u8 x2 x3 x4)] [(.agg 11 [(.arr 8 (.int .u32 x5)), (.vs false (.u8 x6)), (.int .i64 x7), (.bool x8)]), (.lst (.u8 x9))]))
  | _, _ => none
noncomputable def sha_Hash_Write_l0_L (n : Nat) : Lam CT := ll []
noncomputable def sha_Hash_Write_l0_c : Code := cLoop (cBody (cA (cB (cB (cB (cB (cB c10)))))))
theorem sha_Hash_Write_l0_e (n : Nat) {β : Type} (k : EX → St CT → Option β) : ∀ (m : Nat) (p0 : Bool) (p1 : List UInt8) (p2 : Nat) (p3 : Nat) (p4 : Nat) (p5 : List Int) (p6 : List UInt8) (p7 : Int) (p8 : Bool) (p9 : List UInt8), loopK TT (sha_Hash_Write_G n) (sha_Hash_Write_l0_L n) sha_Hash_Write_l0_h sha_Hash_Write_l0_x 0 sha_Hash_Write_l0_c k (m) (mkSt sha_Hash_Write_l0_h [(.ptr 10000 []), (.vs p0 (.u8 p1)), (.ms 26 [] .u8 p2 p3 p4)] [(.agg 11 [(.arr 8 (.int .u32 p5)), (.vs false (.u8 p6)), (.int .i64 p7), (.bool p8)]), (.lst (.u8 p9))]) = sha_Hash_Write_l0 n m p0 p1 p2 p3 p4 p5 p6 p7 p8 p9 (fun x0 x1 x2 x3 x4 x5 x6 x7 x8 x9 => k .nrm (mkSt (sha_Hash_Write_l0_x (.exit 0)) [(.ptr 10000 []), (.vs x0 (.u8 x1)), (.ms 26 [] .u8 x2 x3 x4)] [(.agg 11 [(.arr 8 (.int .u32 x5)), (.vs false (.u8 x6)), (.int .i64 x7), (.bool x8)]), (.lst (.u8 x9))]))
  | 0, _, _, _, _, _, _, _, _, _, _ => rfl
  | m + 1, p0, p1, p2, p3, p4, p5, p6, p7, p8, p9 => (show loopK TT (sha_Hash_Write_G n) (sha_Hash_Write_l0_L n) sha_Hash_Write_l0_h sha_Hash_Write_l0_x 0 sha_Hash_Write_l0_c k (m + 1) (mkSt sha_Hash_Write_l0_h [(.ptr 10000 []), (.vs p0 (.u8 p1)), (.ms 26 [] .u8 p2 p3 p4)] [(.agg 11 [(.arr 8 (.int .u32 p5)), (.vs false (.u8 p6)), (.int .i64 p7), (.bool p8)]), (.lst (.u8 p9))]) = sha_Hash_Write_l0_s n p0 p1 p2 p3 p4 p5 p6 p7 p8 p9 (fun p0 p1 p2 p3 p4 p5 p6 p7 p8 p9 => loopK TT (sha_Hash_Write_G n) (sha_Hash_Write_l0_L n) sha_Hash_Write_l0_h sha_Hash_Write_l0_x 0 sha_Hash_Write_l0_c k (m) (mkSt sha_Hash_Write_l0_h [(.ptr 10000 []), (.vs p0 (.u8 p1)), (.ms 26 [] .u8 p2 p3 p4)] [(.agg 11 [(.arr 8 (.int .u32 p5)), (.vs false (.u8 p6)), (.int .i64 p7), (.bool p8)]), (.lst (.u8 p9))])) (fun x0 x1 x2 x3 x4 x5 x6 x7 x8 x9 => k .nrm (mkSt (sha_Hash_Write_l0_x (.exit 0)) [(.ptr 10000 []), (.vs x0 (.u8 x1)), (.ms 26 [] .u8 x2 x3 x4)] [(.agg 11 [(.arr 8 (.int .u32 x5)), (.vs false (.u8 x6)), (.int .i64 x7), (.bool x8)]), (.lst (.u8 x9))])) by kernel_rfl).trans (congrArg (fun R => sha_Hash_Write_l0_s n p0 p1 p2 p3 p4 p5 p6 p7 p8 p9 R (fun x0 x1 x2 x3 x4 x5 x6 x7 x8 x9 => k .nrm (mkSt (sha_Hash_Write_l0_x (.exit 0)) [(.ptr 10000 []), (.vs x0 (.u8 x1)), (.ms 26 [] .u8 x2 x3 x4)] [(.agg 11 [(.arr 8 (.int .u32 x5)), (.vs false (.u8 x6)), (.int .i64 x7), (.bool x8)]), (.lst (.u8 x9))]))) (funext fun p0 => funext fun p1 => funext fun p2 => funext fun p3 => funext fun p4 => funext fun p5 => funext fun p6 => funext fun p7 => funext fun p8 => funext fun p9 => sha_Hash_Write_l0_e n k m p0 p1 p2 p3 p4 p5 p6 p7 p8 p9))
noncomputable def sha_Hash_Write_Λ (n : Nat) : Lam CT := ll [(0, sha_Hash_Write_l0_h, sha_Hash_Write_l0_p n)]
theorem sha_Hash_Write_r (n : Nat) {β : Type} (a0 : Bool) (a1 : List UInt8) (a2 : List Int) (a3 : List UInt8) (a4 : Int) (a5 : Bool) (K : Res CT → Option β) : runFn TT (sha_Hash_Write_G n) (sha_Hash_Write_Λ n) Try.f10 c10 false true [(.ptr 10000 []), (.vs a0 (.u8 a1))] [(.agg 11 [(.arr 8 (.int .u32 a2)), (.vs false (.u8 a3)), (.int .i64 a4), (.bool a5)])] K = sha_Hash_Write n a0 a1 a2 a3 a4 a5 (fun z0 z1 z2 z3 z4 => K ⟨(.int .i64 z0), [some (.agg 11 [(.arr 8 (.int .u32 z1)), (.vs false (.u8 z2)), (.int .i64 z3), (.bool z4)])], []⟩) := by kernel_rfl
theorem sha_Hash_Write_Gok (n : Nat) : GamOk (CallsOk Try.prog cod) (sha_Hash_Write_G n) := gl_cons (sha_Hash_lay_ok n) (gl_cons (sha_mix_ok n) (gl_nil _ _))
theorem sha_Hash_Write_l0_ok (n : Nat) : LoopOk Try.prog TT Try.f10.ntmps 0 (.loop sha_Hash_Write_l0_c) sha_Hash_Write_l0_h (sha_Hash_Write_l0_p n) := by
  intro β vals obs F k r hs hF
  unfold sha_Hash_Write_l0_p at hs
  split at hs
  · cases hs
    exact loop_sound TT_ok (fun _ _ _ _ h => h) (sha_Hash_Write_Gok n) mixed (by kernel_rfl) (ll_ok (by kernel_rfl) (loops_nil)) n _ ((sha_Hash_Write_l0_e n k n _ _ _ _ _ _ _ _ _ _).trans hF)
  · cases hs
theorem sha_Hash_Write_ok (n : Nat) : SpecOk Try.prog cod 10 (sha_Hash_Write_p n) := by
  intro β args objs F K r hs hF
  unfold sha_Hash_Write_p at hs
  split at hs
  · cases hs
    exact fn_sound TT_ok (fun _ _ _ _ h => h) (sha_Hash_Write_Gok n) mixed Try.func10 (by kernel_rfl) (by kernel_rfl) (by kernel_rfl) (Nat.le_of_ble_eq_true (by kernel_rfl)) (ll_ok (by kernel_rfl) (loops_cons (by kernel_rfl) (sha_Hash_Write_l0_ok n) (loops_nil))) ((sha_Hash_Write_r n _ _ _ _ _ _ K).trans hF)
  · cases hs

noncomputable def c11 : Code := Try.f11.body.getD .skip
noncomputable def sha_Hash_Clone_G (n : Nat) : Gam CT := gl []
noncomputable def sha_Hash_Clone_Λ (n : Nat) : Lam CT := ll []
theorem sha_Hash_Clone_r (n : Nat) {β : Type} (a0 : List Int) (a1 : List UInt8) (a2 : Int) (a3 : Bool) (K : Res CT → Option β) : runFn TT (sha_Hash_Clone_G n) (sha_Hash_Clone_Λ n) Try.f11 c11 false true [(.ptr 10000 [])] [(.agg 11 [(.arr 8 (.int .u32 a0)), (.vs false (.u8 a1)), (.int .i64 a2), (.bool a3)])] K = sha_Hash_Clone n a0 a1 a2 a3 (fun z0 z1 z2 z3 z4 z5 z6 z7 => K ⟨(.ptr 10001 []), [some (.agg 11 [(.arr 8 (.int .u32 z0)), (.vs false (.u8 z1)), (.int .i64 z2), (.bool z3)])], [(.agg 11 [(.arr 8 (.int .u32 z4)), (.vs false (.u8 z5)), (.int .i64 z6), (.bool z7)])]⟩) := by kernel_rfl
theorem sha_Hash_Clone_Gok (n : Nat) : GamOk (CallsOk Try.prog cod) (sha_Hash_Clone_G n) := gl_nil _ _
theorem sha_Hash_Clone_ok (n : Nat) : SpecOk Try.prog cod 11 (sha_Hash_Clone_p n) := by
  intro β args objs F K r hs hF
  unfold sha_Hash_Clone_p at hs
  split at hs
  · cases hs
    exact fn_sound TT_ok (fun _ _ _ _ h => h) (sha_Hash_Clone_Gok n) mixed Try.func11 (by kernel_rfl) (by kernel_rfl) (by kernel_rfl) (Nat.le_of_ble_eq_true (by kernel_rfl)) (ll_ok (by kernel_rfl) (loops_nil)) ((sha_Hash_Clone_r n _ _ _ _ K).trans hF)
  · cases hs

noncomputable def c21 : Code := Try.f21.body.getD .skip
noncomputable def sha_tail_G (n : Nat) : Gam CT := gl []
noncomputable def sha_tail_l0_h : Keep := ⟨[4, 5, 6], [((.slot 4), 5000)], [], [], []⟩
noncomputable def sha_tail_l0_x : EX → Keep
  | .exit 0 => ⟨[4], [], [5000], [], []⟩
  | _ => ⟨[], [], [], [], []⟩
noncomputable def sha_tail_l0_p (n : Nat) : PLoop CT := fun _ v o => match v, o with
  | [(.mw 5000 .u8), (.int .u64 p0), (.int .i64 p1)], [(.lst (.u8 p2))] => some fun k => sha_tail_l0 n n p0 p1 p2 (fun x0 => k .nrm (mkSt (sha_tail_l0_x (.exit 0)) [(.mw 5000 .u8)] [(.lst (.u8 x0))]))
  | _, _ => none
noncomputable def sha_tail_l0_L (n : Nat) : Lam CT := ll []
noncomputable def sha_tail_l0_c : Code := cLoop (cBody (cB (cA (cB (cB (cB (cB c21)))))))
theorem sha_tail_l0_e (n : Nat) {β : Type} (k : EX → St CT → Option β) : ∀ (m : Nat) (p0 : Int) (p1 : Int) (p2 : List UInt8), loopK TT (sha_tail_G n) (sha_tail_l0_L n) sha_tail_l0_h sha_tail_l0_x 0 sha_tail_l0_c k (m) (mkSt sha_tail_l0_h [(.mw 5000 .u8), (.int .u64 p0), (.int .i64 p1)] [(.lst (.u8 p2))]) = sha_tail_l0 n m p0 p1 p2 (fun x0 => k .nrm (mkSt (sha_tail_l0_x (.exit 0)) [(.mw 5000 .u8)] [(.lst (.u8 x0))]))
  | 0, _, _, _ => rfl
  | m + 1, p0, p1, p2 => (show loopK TT (sha_tail_G n) (sha_tail_l0_L n) sha_tail_l0_h sha_tail_l0_x 0 sha_tail_l0_c k (m + 1) (mkSt sha_tail_l0_h [(.mw 5000 .u8), (.int .u64 p0), (.int .i64 p1)] [(.lst (.u8 p2))]) = sha_tail_l0_s n p0 p1 p2 (fun p0 p1 p2 => loopK TT (sha_tail_G n) (sha_tail_l0_L n) sha_tail_l0_h sha_tail_l0_x 0 sha_tail_l0_c k (m) (mkSt sha_tail_l0_h [(.mw 5000 .u8), (.int .u64 p0), (.int .i64 p1)] [(.lst (.u8 p2))])) (fun x0 => k .nrm (mkSt (sha_tail_l0_x (.exit 0)) [(.mw 5000 .u8)] [(.lst (.u8 x0))])) by kernel_rfl).trans (congrArg (fun R => sha_tail_l0_s n p0 p1 p2 R (fun x0 => k .nrm (mkSt (sha_tail_l0_x (.exit 0)) [(.mw 5000 .u8)] [(.lst (.u8 x0))]))) (funext fun p0 => funext fun p1 => funext fun p2 => sha_tail_l0_e n k m p0 p1 p2))
noncomputable def sha_tail_Λ (n : Nat) : Lam CT := ll [(0, sha_tail_l0_h, sha_tail_l0_p n)]
theorem sha_tail_r (n : Nat) {β : Type} (a0 : Int) (K : Res CT → Option β) : runFn TT (sha_tail_G n) (sha_tail_Λ n) Try.f21 c21 false true [(.int .i64 a0)] [] K = sha_tail n a0 (fun z0 => K ⟨(.vs false (.u8 z0)), [], []⟩) := by kernel_rfl
theorem sha_tail_Gok (n : Nat) : GamOk (CallsOk Try.prog cod) (sha_tail_G n) := gl_nil _ _
theorem sha_tail_l0_ok (n : Nat) : LoopOk Try.prog TT Try.f21.ntmps 0 (.loop sha_tail_l0_c) sha_tail_l0_h (sha_tail_l0_p n) := by
  intro β vals obs F k r hs hF
  unfold sha_tail_l0_p at hs
  split at hs
  · cases hs
    exact loop_sound TT_ok (fun _ _ _ _ h => h) (sha_tail_Gok n) mixed (by kernel_rfl) (ll_ok (by kernel_rfl) (loops_nil)) n _ ((sha_tail_l0_e n k n _ _ _).trans hF)
  · cases hs
theorem sha_tail_ok (n : Nat) : SpecOk Try.prog cod 21 (sha_tail_p n) := by
  intro β args objs F K r hs hF
  unfold sha_tail_p at hs
  split at hs
  · cases hs
    exact fn_sound TT_ok (fun _ _ _ _ h => h) (sha_tail_Gok n) mixed Try.func21 (by kernel_rfl) (by kernel_rfl) (by kernel_rfl) (Nat.le_of_ble_eq_true (by kernel_rfl)) (ll_ok (by kernel_rfl) (loops_cons (by kernel_rfl) (sha_tail_l0_ok n) (loops_nil))) ((sha_tail_r n _ K).trans hF)
  · cases hs

noncomputable def c12 : Code := Try.f12.body.getD .skip
noncomputable def sha_Hash_Sum_G (n : Nat) : Gam CT := gl [(11, sha_Hash_Clone_p n), (10, sha_Hash_Write_p n), (21, sha_tail_p n)]
noncomputable def sha_Hash_Sum_l0_h : Keep := ⟨[2, 4, 22, 23], [], [2, 4, 10000], [], []⟩
noncomputable def sha_Hash_Sum_l0_x : EX → Keep
  | .exit 0 => ⟨[2, 4], [], [2, 4, 10000], [], []⟩
  | _ => ⟨[], [], [], [], []⟩
noncomputable def sha_Hash_Sum_l0_p (n : Nat) : PLoop CT := fun _ v o => match v, o with
  | [(.ptr 2 []), (.ptr 4 []), (.arr 8 (.int .u32 p0)), (.int .i64 p1)], [(.arr 32 (.u8 p2)), (.arr 32 (.u8 p3)), (.agg 11 [(.arr 8 (.int .u32 p4)), (.vs false (.u8 p5)), (.int .i64 p6), (.bool p7)])] => some fun k => sha_Hash_Sum_l0 n n p0 p1 p2 p3 p4 p5 p6 p7 (fun x0 x1 x2 x3 x4 x5 => k .nrm (mkSt (sha_Hash_Sum_l0_x (.exit 0)) [(.ptr 2 []), (.ptr 4 [])] [(.arr 32 (.u8 x0)), (.arr 32 (.u8 x1)), (.agg 11 [(.arr 8 (.int .u32 x2)), (.vs false (.u8 x3)), (.int .i64 x4), (.bool x5)])]))
  | _, _ => none
noncomputable def sha_Hash_Sum_l0_L (n : Nat) : Lam CT := ll []
noncomputable def sha_Hash_Sum_l0_c : Code := cLoop (cBody (cB (cA (cB (cB (cB (cB (cB c12))))))))
theorem sha_Hash_Sum_l0_e (n : Nat) {β : Type} (k : EX → St CT → Option β) : ∀ (m : Nat) (p0 : List Int) (p1 : Int) (p2 : List UInt8) (p3 : List UInt8) (p4 : List Int) (p5 : List UInt8) (p6 : Int) (p7 : Bool), loopK TT (sha_Hash_Sum_G n) (sha_Hash_Sum_l0_L n) sha_Hash_Sum_l0_h sha_Hash_Sum_l0_x 0 sha_Hash_Sum_l0_c k (m) (mkSt sha_Hash_Sum_l0_h [(.ptr 2 []), (.ptr 4 []), (.arr 8 (.int .u32 p0)), (.int .i64 p1)] [(.arr 32 (.u8 p2)), (.arr 32 (.u8 p3)), (.agg 11 [(.arr 8 (.int .u32 p4)), (.vs false (.u8 p5)), (.int .i64 p6), (.bool p7)])]) = sha_Hash_Sum_l0 n m p0 p1 p2 p3 p4 p5 p6 p7 (fun x0 x1 x2 x3 x4 x5 => k .nrm (mkSt (sha_Hash_Sum_l0_x (.exit 0)) [(.ptr 2 []), (.ptr 4 [])] [(.arr 32 (.u8 x0)), (.arr 32 (.u8 x1)), (.agg 11 [(.arr 8 (.int .u32 x2)), (.vs false (.u8 x3)), (.int .i64 x4), (.bool x5)])]))
  | 0, _, _, _, _, _, _, _, _ => rfl
  | m + 1, p0, p1, p2, p3, p4, p5, p6, p7 => (show loopK TT (sha_Hash_Sum_G n) (sha_Hash_Sum_l0_L n) sha_Hash_Sum_l0_h sha_Hash_Sum_l0_x 0 sha_Hash_Sum_l0_c k (m + 1) (mkSt sha_Hash_Sum_l0_h [(.ptr 2 []), (.ptr 4 []), (.arr 8 (.int .u32 p0)), (.int .i64 p1)] [(.arr 32 (.u8 p2)), (.arr 32 (.u8 p3)), (.agg 11 [(.arr 8 (.int .u32 p4)), (.vs false (.u8 p5)), (.int .i64 p6), (.bool p7)])]) = sha_Hash_Sum_l0_s n p0 p1 p2 p3 p4 p5 p6 p7 (fun p0 p1 p2 p3 p4 p5 p6 p7 => loopK TT (sha_Hash_Sum_G n) (sha_Hash_Sum_l0_L n) sha_Hash_Sum_l0_h sha_Hash_Sum_l0_x 0 sha_Hash_Sum_l0_c k (m) (mkSt sha_Hash_Sum_l0_h [(.ptr 2 []), (.ptr 4 []), (.arr 8 (.int .u32 p0)), (.int .i64 p1)] [(.arr 32 (.u8 p2)), (.arr 32 (.u8 p3)), (.agg 11 [(.arr 8 (.int .u32 p4)), (.vs false (.u8 p5)), (.int .i64 p6), (.bool p7)])])) (fun x0 x1 x2 x3 x4 x5 => k .nrm (mkSt (sha_Hash_Sum_l0_x (.exit 0)) [(.ptr 2 []), (.ptr 4 [])] [(.arr 32 (.u8 x0)), (.arr 32 (.u8 x1)), (.agg 11 [(.arr 8 (.int .u32 x2)), (.vs false (.u8 x3)), (.int .i64 x4), (.bool x5)])])) by kernel_rfl).trans (congrArg (fun R => sha_Hash_Sum_l0_s n p0 p1 p2 p3 p4 p5 p6 p7 R (fun x0 x1 x2 x3 x4 x5 => k .nrm (mkSt (sha_Hash_Sum_l0_x (.exit 0)) [(.ptr 2 []), (.ptr 4 [])] [(.arr 32 (.u8 x0)), (.arr 32 (.u8 x1)), (.agg 11 [(.arr 8 (.int .u32 x2)), (.vs false (.u8 x3)), (.int .i64 x4), (.bool x5)])]))) (funext fun p0 => funext fun p1 => funext fun p2 => funext fun p3 => funext fun p4 => funext fun p5 => funext fun p6 => funext fun p7 => sha_Hash_Sum_l0_e n k m p0 p1 p2 p3 p4 p5 p6 p7))
noncomputable def sha_Hash_Sum_Λ (n : Nat) : Lam CT := ll [(0, sha_Hash_Sum_l0_h, sha_Hash_Sum_l0_p n)]
theorem sha_Hash_Sum_r (n : Nat) {β : Type} (a0 : List Int) (a1 : List UInt8) (a2 : Int) (a3 : Bool) (K : Res CT → Option β) : runFn TT (sha_Hash_Sum_G n) (sha_Hash_Sum_Λ n) Try.f12 c12 false true [(.ptr 10000 [])] [(.agg 11 [(.arr 8 (.int .u32 a0)), (.vs false (.u8 a1)), (.int .i64 a2), (.bool a3)])] K = sha_Hash_Sum n a0 a1 a2 a3 (fun z0 z1 z2 z3 z4 => K ⟨(.arr 32 (.u8 z0)), [some (.agg 11 [(.arr 8 (.int .u32 z1)), (.vs false (.u8 z2)), (.int .i64 z3), (.bool z4)])], []⟩) := by kernel_rfl
theorem sha_Hash_Sum_Gok (n : Nat) : GamOk (CallsOk Try.prog cod) (sha_Hash_Sum_G n) := gl_cons (sha_Hash_Clone_ok n) (gl_cons (sha_Hash_Write_ok n) (gl_cons (sha_tail_ok n) (gl_nil _ _)))
theorem sha_Hash_Sum_l0_ok (n : Nat) : LoopOk Try.prog TT Try.f12.ntmps 0 (.loop sha_Hash_Sum_l0_c) sha_Hash_Sum_l0_h (sha_Hash_Sum_l0_p n) := by
  intro β vals obs F k r hs hF
  unfold sha_Hash_Sum_l0_p at hs
  split at hs
  · cases hs
    exact loop_sound TT_ok (fun _ _ _ _ h => h) (sha_Hash_Sum_Gok n) mixed (by kernel_rfl) (ll_ok (by kernel_rfl) (loops_nil)) n _ ((sha_Hash_Sum_l0_e n k n _ _ _ _ _ _ _ _).trans hF)
  · cases hs
theorem sha_Hash_Sum_ok (n : Nat) : SpecOk Try.prog cod 12 (sha_Hash_Sum_p n) := by
  intro β args objs F K r hs hF
  unfold sha_Hash_Sum_p at hs
  split at hs
  · cases hs
    exact fn_sound TT_ok (fun _ _ _ _ h => h) (sha_Hash_Sum_Gok n) mixed Try.func12 (by kernel_rfl) (by kernel_rfl) (by kernel_rfl) (Nat.le_of_ble_eq_true (by kernel_rfl)) (ll_ok (by kernel_rfl) (loops_cons (by kernel_rfl) (sha_Hash_Sum_l0_ok n) (loops_nil))) ((sha_Hash_Sum_r n _ _ _ _ K).trans hF)
  · cases hs

noncomputable def c14 : Code := Try.f14.body.getD .skip
noncomputable def sha_Hash_Len_G (n : Nat) : Gam CT := gl []
noncomputable def sha_Hash_Len_Λ (n : Nat) : Lam CT := ll []
theorem sha_Hash_Len_r (n : Nat) {β : Type} (a0 : List Int) (a1 : List UInt8) (a2 : Int) (a3 : Bool) (K : Res CT → Option β) : runFn TT (sha_Hash_Len_G n) (sha_Hash_Len_Λ n) Try.f14 c14 false true [(.ptr 10000 [])] [(.agg 11 [(.arr 8 (.int .u32 a0)), (.vs false (.u8 a1)), (.int .i64 a2), (.bool a3)])] K = sha_Hash_Len n a0 a1 a2 a3 (fun z0 z1 z2 z3 z4 => K ⟨(.int .i64 z0), [some (.agg 11 [(.arr 8 (.int .u32 z1)), (.vs false (.u8 z2)), (.int .i64 z3), (.bool z4)])], []⟩) := by kernel_rfl
theorem sha_Hash_Len_Gok (n : Nat) : GamOk (CallsOk Try.prog cod) (sha_Hash_Len_G n) := gl_nil _ _
theorem sha_Hash_Len_ok (n : Nat) : SpecOk Try.prog cod 14 (sha_Hash_Len_p n) := by
  intro β args objs F K r hs hF
  unfold sha_Hash_Len_p at hs
  split at hs
  · cases hs
    exact fn_sound TT_ok (fun _ _ _ _ h => h) (sha_Hash_Len_Gok n) mixed Try.func14 (by kernel_rfl) (by kernel_rfl) (by kernel_rfl) (Nat.le_of_ble_eq_true (by kernel_rfl)) (ll_ok (by kernel_rfl) (loops_nil)) ((sha_Hash_Len_r n _ _ _ _ K).trans hF)
  · cases hs

noncomputable def c7 : Code := Try.f7.body.getD .skip
noncomputable def sha_Sum_G (n : Nat) : Gam CT := gl [(12, sha_Hash_Sum_p n), (10, sha_Hash_Write_p n), (15, sha_New_p n)]
noncomputable def sha_Sum_l0_h : Keep := ⟨[2, 3, 7, 8, 9], [], [2, 1006], [], []⟩
noncomputable def sha_Sum_l0_x : EX → Keep
  | .exit 0 => ⟨[2, 3], [], [2, 1006], [], []⟩
  | _ => ⟨[], [], [], [], []⟩
noncomputable def sha_Sum_l0_p (n : Nat) : PLoop CT := fun _ v o => match v, o with
  | [(.ptr 2 []), (.ptr 1006 []), (.vs p0 (.typ 24 1 false p1)), (.int .i64 p2), (.int .i64 p3)], [(.arr 32 (.u8 p4)), (.agg 11 [(.arr 8 (.int .u32 p5)), (.vs false (.u8 p6)), (.int .i64 p7), (.bool p8)])] => some fun k => sha_Sum_l0 n n p0 p1 p2 p3 p4 p5 p6 p7 p8 (fun x0 x1 x2 x3 x4 => k .nrm (mkSt (sha_Sum_l0_x (.exit 0)) [(.ptr 2 []), (.ptr 1006 [])] [(.arr 32 (.u8 x0)), (.agg 11 [(.arr 8 (.int .u32 x1)), (.vs false (.u8 x2)), (.int .i64 x3), (.bool x4)])]))
  | _, _ => none
noncomputable def sha_Sum_l0_L (n : Nat) : Lam CT := ll []
noncomputable def sha_Sum_l0_c : Code := cLoop (cBody (cB (cA (cB (cB c7)))))
theorem sha_Sum_l0_e (n : Nat) {β : Type} (k : EX → St CT → Option β) : ∀ (m : Nat) (p0 : Bool) (p1 : List (List UInt8)) (p2 : Int) (p3 : Int) (p4 : List UInt8) (p5 : List Int) (p6 : List UInt8) (p7 : Int) (p8 : Bool), loopK TT (sha_Sum_G n) (sha_Sum_l0_L n) sha_Sum_l0_h sha_Sum_l0_x 0 sha_Sum_l0_c k (m) (mkSt sha_Sum_l0_h [(.ptr 2 []), (.ptr 1006 []), (.vs p0 (.typ 24 1 false p1)), (.int .i64 p2), (.int .i64 p3)] [(.arr 32 (.u8 p4)), (.agg 11 [(.arr 8 (.int .u32 p5)), (.vs false (.u8 p6)), (.int .i64 p7), (.bool p8)])]) = sha_Sum_l0 n m p0 p1 p2 p3 p4 p5 p6 p7 p8 (fun x0 x1 x2 x3 x4 => k .nrm (mkSt (sha_Sum_l0_x (.exit 0)) [(.ptr 2 []), (.ptr 1006 [])] [(.arr 32 (.u8 x0)), (.agg 11 [(.arr 8 (.int .u32 x1)), (.vs false (.u8 x2)), (.int .i64 x3), (.bool x4)])]))
  | 0, _, _, _, _, _, _, _, _, _ => rfl
  | m + 1, p0, p1, p2, p3, p4, p5, p6, p7, p8 => (show loopK TT (sha_Sum_G n) (sha_Sum_l0_L n) sha_Sum_l0_h sha_Sum_l0_x 0 sha_Sum_l0_c k (m + 1) (mkSt sha_Sum_l0_h [(.ptr 2 []), (.ptr 1006 []), (.vs p0 (.typ 24 1 false p1)), (.int .i64 p2), (.int .i64 p3)] [(.arr 32 (.u8 p4)), (.agg 11 [(.arr 8 (.int .u32 p5)), (.vs false (.u8 p6)), (.int .i64 p7), (.bool p8)])]) = sha_Sum_l0_s n p0 p1 p2 p3 p4 p5 p6 p7 p8 (fun p0 p1 p2 p3 p4 p5 p6 p7 p8 => loopK TT (sha_Sum_G n) (sha_Sum_l0_L n) sha_Sum_l0_h sha_Sum_l0_x 0 sha_Sum_l0_c k (m) (mkSt sha_Sum_l0_h [(.ptr 2 []), (.ptr 1006 []), (.vs p0 (.typ 24 1 false p1)), (.int .i64 p2), (.int .i64 p3)] [(.arr 32 (.u8 p4)), (.agg 11 [(.arr 8 (.int .u32 p5)), (.vs false (.u8 p6)), (.int .i64 p7), (.bool p8)])])) (fun x0 x1 x2 x3 x4 => k .nrm (mkSt (sha_Sum_l0_x (.exit 0)) [(.ptr 2 []), (.ptr 1006 [])] [(.arr 32 (.u8 x0)), (.agg 11 [(.arr 8 (.int .u32 x1)), (.vs false (.u8 x2)), (.int .i64 x3), (.bool x4)])])) by kernel_rfl).trans (congrArg (fun R => sha_Sum_l0_s n p0 p1 p2 p3 p4 p5 p6 p7 p8 R (fun x0 x1 x2 x3 x4 => k .nrm (mkSt (sha_Sum_l0_x (.exit 0)) [(.ptr 2 []), (.ptr 1006 [])] [(.arr 32 (.u8 x0)), (.agg 11 [(.arr 8 (.int .u32 x1)), (.vs false (.u8 x2)), (.int .i64 x3), (.bool x4)])]))) (funext fun p0 => funext fun p1 => funext fun p2 => funext fun p3 => funext fun p4 => funext fun p5 => funext fun p6 => funext fun p7 => funext fun p8 => sha_Sum_l0_e n k m p0 p1 p2 p3 p4 p5 p6 p7 p8))
noncomputable def sha_Sum_Λ (n : Nat) : Lam CT := ll [(0, sha_Sum_l0_h, sha_Sum_l0_p n)]
theorem sha_Sum_r (n : Nat) {β : Type} (a0 : Bool) (a1 : List (List UInt8)) (K : Res CT → Option β) : runFn TT (sha_Sum_G n) (sha_Sum_Λ n) Try.f7 c7 false true [(.vs a0 (.typ 24 1 false a1))] [] K = sha_Sum n a0 a1 (fun z0 => K ⟨(.arr 32 (.u8 z0)), [], []⟩) := by kernel_rfl
theorem sha_Sum_Gok (n : Nat) : GamOk (CallsOk Try.prog cod) (sha_Sum_G n) := gl_cons (sha_Hash_Sum_ok n) (gl_cons (sha_Hash_Write_ok n) (gl_cons (sha_New_ok n) (gl_nil _ _)))
theorem sha_Sum_l0_ok (n : Nat) : LoopOk Try.prog TT Try.f7.ntmps 0 (.loop sha_Sum_l0_c) sha_Sum_l0_h (sha_Sum_l0_p n) := by
  intro β vals obs F k r hs hF
  unfold sha_Sum_l0_p at hs
  split at hs
  · cases hs
    exact loop_sound TT_ok (fun _ _ _ _ h => h) (sha_Sum_Gok n) mixed (by kernel_rfl) (ll_ok (by kernel_rfl) (loops_nil)) n _ ((sha_Sum_l0_e n k n _ _ _ _ _ _ _ _ _).trans hF)
  · cases hs
theorem sha_Sum_ok (n : Nat) : SpecOk Try.prog cod 7 (sha_Sum_p n) := by
  intro β args objs F K r hs hF
  unfold sha_Sum_p at hs
  split at hs
  · cases hs
    exact fn_sound TT_ok (fun _ _ _ _ h => h) (sha_Sum_Gok n) mixed Try.func7 (by kernel_rfl) (by kernel_rfl) (by kernel_rfl) (Nat.le_of_ble_eq_true (by kernel_rfl)) (ll_ok (by kernel_rfl) (loops_cons (by kernel_rfl) (sha_Sum_l0_ok n) (loops_nil))) ((sha_Sum_r n _ _ K).trans hF)
  · cases hs

noncomputable def c16 : Code := Try.f16.body.getD .skip
noncomputable def sha_Same_G (n : Nat) : Gam CT := gl []
noncomputable def sha_Same_l0_h : Keep := ⟨[0, 1, 5, 13, 14], [], [], [], []⟩
noncomputable def sha_Same_l0_x : EX → Keep
  | .exit 0 => ⟨[5], [], [], [], []⟩
  | _ => ⟨[], [], [], [], []⟩
noncomputable def sha_Same_l0_p (n : Nat) : PLoop CT := fun _ v o => match v, o with
  | [(.vs p0 (.u8 p1)), (.vs p2 (.u8 p3)), (.int .u8 p4), (.int .i64 p5), (.int .i64 p6)], [] => some fun k => sha_Same_l0 n n p0 p1 p2 p3 p4 p5 p6 (fun x0 => k .nrm (mkSt (sha_Same_l0_x (.exit 0)) [(.int .u8 x0)] []))
  | _, _ => none
noncomputable def sha_Same_l0_L (n : Nat) : Lam CT := ll []
noncomputable def sha_Same_l0_c : Code := cLoop (cBody (cB (cA (cB (cB (cB c16))))))
theorem sha_Same_l0_e (n : Nat) {β : Type} (k : EX → St CT → Option β) : ∀ (m : Nat) (p0 : Bool) (p1 : List UInt8) (p2 : Bool) (p3 : List UInt8) (p4 : Int) (p5 : Int) (p6 : Int), loopK TT (sha_Same_G n) (sha_Same_l0_L n) sha_Same_l0_h sha_Same_l0_x 0 sha_Same_l0_c k (m) (mkSt sha_Same_l0_h [(.vs p0 (.u8 p1)), (.vs p2 (.u8 p3)), (.int .u8 p4), (.int .i64 p5), (.int .i64 p6)] []) = sha_Same_l0 n m p0 p1 p2 p3 p4 p5 p6 (fun x0 => k .nrm (mkSt (sha_Same_l0_x (.exit 0)) [(.int .u8 x0)] []))
  | 0, _, _, _, _, _, _, _ => rfl
  | m + 1, p0, p1, p2, p3, p4, p5, p6 => (show loopK TT (sha_Same_G n) (sha_Same_l0_L n) sha_Same_l0_h sha_Same_l0_x 0 sha_Same_l0_c k (m + 1) (mkSt sha_Same_l0_h [(.vs p0 (.u8 p1)), (.vs p2 (.u8 p3)), (.int .u8 p4), (.int .i64 p5), (.int .i64 p6)] []) = sha_Same_l0_s n p0 p1 p2 p3 p4 p5 p6 (fun p0 p1 p2 p3 p4 p5 p6 => loopK TT (sha_Same_G n) (sha_Same_l0_L n) sha_Same_l0_h sha_Same_l0_x 0 sha_Same_l0_c k (m) (mkSt sha_Same_l0_h [(.vs p0 (.u8 p1)), (.vs p2 (.u8 p3)), (.int .u8 p4), (.int .i64 p5), (.int .i64 p6)] [])) (fun x0 => k .nrm (mkSt (sha_Same_l0_x (.exit 0)) [(.int .u8 x0)] [])) by kernel_rfl).trans (congrArg (fun R => sha_Same_l0_s n p0 p1 p2 p3 p4 p5 p6 R (fun x0 => k .nrm (mkSt (sha_Same_l0_x (.exit 0)) [(.int .u8 x0)] []))) (funext fun p0 => funext fun p1 => funext fun p2 => funext fun p3 => funext fun p4 => funext fun p5 => funext fun p6 => sha_Same_l0_e n k m p0 p1 p2 p3 p4 p5 p6))
noncomputable def sha_Same_Λ (n : Nat) : Lam CT := ll [(0, sha_Same_l0_h, sha_Same_l0_p n)]
theorem sha_Same_r (n : Nat) {β : Type} (a0 : Bool) (a1 : List UInt8) (a2 : Bool) (a3 : List UInt8) (K : Res CT → Option β) : runFn TT (sha_Same_G n) (sha_Same_Λ n) Try.f16 c16 false true [(.vs a0 (.u8 a1)), (.vs a2 (.u8 a3))] [] K = sha_Same n a0 a1 a2 a3 (fun z0 => K ⟨(.bool z0), [], []⟩) := by kernel_rfl
theorem sha_Same_Gok (n : Nat) : GamOk (CallsOk Try.prog cod) (sha_Same_G n) := gl_nil _ _
theorem sha_Same_l0_ok (n : Nat) : LoopOk Try.prog TT Try.f16.ntmps 0 (.loop sha_Same_l0_c) sha_Same_l0_h (sha_Same_l0_p n) := by
  intro β vals obs F k r hs hF
  unfold sha_Same_l0_p at hs
  split at hs
  · cases hs
    exact loop_sound TT_ok (fun _ _ _ _ h => h) (sha_Same_Gok n) mixed (by kernel_rfl) (ll_ok (by kernel_rfl) (loops_nil)) n _ ((sha_Same_l0_e n k n _ _ _ _ _ _ _).trans hF)
  · cases hs
theorem sha_Same_ok (n : Nat) : SpecOk Try.prog cod 16 (sha_Same_p n) := by
  intro β args objs F K r hs hF
  unfold sha_Same_p at hs
  split at hs
  · cases hs
    exact fn_sound TT_ok (fun _ _ _ _ h => h) (sha_Same_Gok n) mixed Try.func16 (by kernel_rfl) (by kernel_rfl) (by kernel_rfl) (Nat.le_of_ble_eq_true (by kernel_rfl)) (ll_ok (by kernel_rfl) (loops_cons (by kernel_rfl) (sha_Same_l0_ok n) (loops_nil))) ((sha_Same_r n _ _ _ _ K).trans hF)
  · cases hs

noncomputable def c6 : Code := Try.f6.body.getD .skip
noncomputable def law01_first_G (n : Nat) : Gam CT := gl [(11, sha_Hash_Clone_p n), (14, sha_Hash_Len_p n), (12, sha_Hash_Sum_p n), (10, sha_Hash_Write_p n), (15, sha_New_p n), (16, sha_Same_p n), (7, sha_Sum_p n)]
noncomputable def law01_first_Λ (n : Nat) : Lam CT := ll []
theorem law01_first_r (n : Nat) {β : Type}  (K : Res CT → Option β) : runFn TT (law01_first_G n) (law01_first_Λ n) Try.f6 c6 false true [] [] K = law01_first n  (fun z0 => K ⟨(.bool z0), [], []⟩) := by kernel_rfl
theorem law01_first_Gok (n : Nat) : GamOk (CallsOk Try.prog cod) (law01_first_G n) := gl_cons (sha_Hash_Clone_ok n) (gl_cons (sha_Hash_Len_ok n) (gl_cons (sha_Hash_Sum_ok n) (gl_cons (sha_Hash_Write_ok n) (gl_cons (sha_New_ok n) (gl_cons (sha_Same_ok n) (gl_cons (sha_Sum_ok n) (gl_nil _ _)))))))
theorem law01_first_ok (n : Nat) : SpecOk Try.prog cod 6 (law01_first_p n) := by
  intro β args objs F K r hs hF
  unfold law01_first_p at hs
  split at hs
  · cases hs
    exact fn_sound TT_ok (fun _ _ _ _ h => h) (law01_first_Gok n) mixed Try.func6 (by kernel_rfl) (by kernel_rfl) (by kernel_rfl) (Nat.le_of_ble_eq_true (by kernel_rfl)) (ll_ok (by kernel_rfl) (loops_nil)) ((law01_first_r n  K).trans hF)
  · cases hs

noncomputable def c17 : Code := Try.f17.body.getD .skip
noncomputable def ref01_primes_G (n : Nat) : Gam CT := gl []
noncomputable def ref01_primes_l2_h : Keep := ⟨[0, 3, 4, 5, 14, 15, 16], [], [5000], [], []⟩
noncomputable def ref01_primes_l2_x : EX → Keep
  | .exit 2 => ⟨[0, 3, 4, 5], [], [5000], [], []⟩
  | _ => ⟨[], [], [], [], []⟩
noncomputable def ref01_primes_l2_p (n : Nat) : PLoop CT := fun _ v o => match v, o with
  | [(.int .i64 p0), (.mw 5000 (.int .u64)), (.int .u64 p1), (.bool p2), (.mw 5000 (.int .u64)), (.int .i64 p3), (.int .i64 p4)], [(.lst (.int .u64 p5))] => some fun k => ref01_primes_l2 n n p0 p1 p2 p3 p4 p5 (fun x0 x1 x2 x3 => k .nrm (mkSt (ref01_primes_l2_x (.exit 2)) [(.int .i64 x0), (.mw 5000 (.int .u64)), (.int .u64 x1), (.bool x2)] [(.lst (.int .u64 x3))]))
  | _, _ => none
noncomputable def ref01_primes_l2_L (n : Nat) : Lam CT := ll []
noncomputable def ref01_primes_l2_c : Code := cLoop (cBody (cB (cA (cB (cBody (cA (cB (cBody (cBody (cB (cA (cB (cB c17)))))))))))))
theorem ref01_primes_l2_e (n : Nat) {β : Type} (k : EX → St CT → Option β) : ∀ (m : Nat) (p0 : Int) (p1 : Int) (p2 : Bool) (p3 : Int) (p4 : Int) (p5 : List Int), loopK TT (ref01_primes_G n) (ref01_primes_l2_L n) ref01_primes_l2_h ref01_primes_l2_x 2 ref01_primes_l2_c k (m) (mkSt ref01_primes_l2_h [(.int .i64 p0), (.mw 5000 (.int .u64)), (.int .u64 p1), (.bool p2), (.mw 5000 (.int .u64)), (.int .i64 p3), (.int .i64 p4)] [(.lst (.int .u64 p5))]) = ref01_primes_l2 n m p0 p1 p2 p3 p4 p5 (fun x0 x1 x2 x3 => k .nrm (mkSt (ref01_primes_l2_x (.exit 2)) [(.int .i64 x0), (.mw 5000 (.int .u64)), (.int .u64 x1), (.bool x2)] [(.lst (.int .u64 x3))]))
  | 0, _, _, _, _, _, _ => rfl
  | m + 1, p0, p1, p2, p3, p4, p5 => (show loopK TT (ref01_primes_G n) (ref01_primes_l2_L n) ref01_primes_l2_h ref01_primes_l2_x 2 ref01_primes_l2_c k (m + 1) (mkSt ref01_primes_l2_h [(.int .i64 p0), (.mw 5000 (.int .u64)), (.int .u64 p1), (.bool p2), (.mw 5000 (.int .u64)), (.int .i64 p3), (.int .i64 p4)] [(.lst (.int .u64 p5))]) = ref01_primes_l2_s n p0 p1 p2 p3 p4 p5 (fun p0 p1 p2 p3 p4 p5 => loopK TT (ref01_primes_G n) (ref01_primes_l2_L n) ref01_primes_l2_h ref01_primes_l2_x 2 ref01_primes_l2_c k (m) (mkSt ref01_primes_l2_h [(.int .i64 p0), (.mw 5000 (.int .u64)), (.int .u64 p1), (.bool p2), (.mw 5000 (.int .u64)), (.int .i64 p3), (.int .i64 p4)] [(.lst (.int .u64 p5))])) (fun x0 x1 x2 x3 => k .nrm (mkSt (ref01_primes_l2_x (.exit 2)) [(.int .i64 x0), (.mw 5000 (.int .u64)), (.int .u64 x1), (.bool x2)] [(.lst (.int .u64 x3))])) by kernel_rfl).trans (congrArg (fun R => ref01_primes_l2_s n p0 p1 p2 p3 p4 p5 R (fun x0 x1 x2 x3 => k .nrm (mkSt (ref01_primes_l2_x (.exit 2)) [(.int .i64 x0), (.mw 5000 (.int .u64)), (.int .u64 x1), (.bool x2)] [(.lst (.int .u64 x3))]))) (funext fun p0 => funext fun p1 => funext fun p2 => funext fun p3 => funext fun p4 => funext fun p5 => ref01_primes_l2_e n k m p0 p1 p2 p3 p4 p5))
noncomputable def ref01_primes_l0_h : Keep := ⟨[0, 3, 4], [((.slot 3), 5000)], [], [], []⟩
noncomputable def ref01_primes_l0_x : EX → Keep
  | .exit 0 => ⟨[3], [], [5000], [], []⟩
  | _ => ⟨[], [], [], [], []⟩
noncomputable def ref01_primes_l0_p (n : Nat) : PLoop CT := fun _ v o => match v, o with
  | [(.int .i64 p0), (.mw 5000 (.int .u64)), (.int .u64 p1)], [(.lst (.int .u64 p2))] => some fun k => ref01_primes_l0 n n p0 p1 p2 (fun x0 => k .nrm (mkSt (ref01_primes_l0_x (.exit 0)) [(.mw 5000 (.int .u64))] [(.lst (.int .u64 x0))]))
  | _, _ => none
noncomputable def ref01_primes_l0_L (n : Nat) : Lam CT := ll [(2, ref01_primes_l2_h, ref01_primes_l2_p n)]
noncomputable def ref01_primes_l0_c : Code := cLoop (cBody (cB (cA (cB (cB c17)))))
theorem ref01_primes_l0_e (n : Nat) {β : Type} (k : EX → St CT → Option β) : ∀ (m : Nat) (p0 : Int) (p1 : Int) (p2 : List Int), loopK TT (ref01_primes_G n) (ref01_primes_l0_L n) ref01_primes_l0_h ref01_primes_l0_x 0 ref01_primes_l0_c k (m) (mkSt ref01_primes_l0_h [(.int .i64 p0), (.mw 5000 (.int .u64)), (.int .u64 p1)] [(.lst (.int .u64 p2))]) = ref01_primes_l0 n m p0 p1 p2 (fun x0 => k .nrm (mkSt (ref01_primes_l0_x (.exit 0)) [(.mw 5000 (.int .u64))] [(.lst (.int .u64 x0))]))
  | 0, _, _, _ => rfl
  | m + 1, p0, p1, p2 => (show loopK TT (ref01_primes_G n) (ref01_primes_l0_L n) ref01_primes_l0_h ref01_primes_l0_x 0 ref01_primes_l0_c k (m + 1) (mkSt ref01_primes_l0_h [(.int .i64 p0), (.mw 5000 (.int .u64)), (.int .u64 p1)] [(.lst (.int .u64 p2))]) = ref01_primes_l0_s n p0 p1 p2 (fun p0 p1 p2 => loopK TT (ref01_primes_G n) (ref01_primes_l0_L n) ref01_primes_l0_h ref01_primes_l0_x 0 ref01_primes_l0_c k (m) (mkSt ref01_primes_l0_h [(.int .i64 p0), (.mw 5000 (.int .u64)), (.int .u64 p1)] [(.lst (.int .u64 p2))])) (fun x0 => k .nrm (mkSt (ref01_primes_l0_x (.exit 0)) [(.mw 5000 (.int .u64))] [(.lst (.int .u64 x0))])) by kernel_rfl).trans (congrArg (fun R => ref01_primes_l0_s n p0 p1 p2 R (fun x0 => k .nrm (mkSt (ref01_primes_l0_x (.exit 0)) [(.mw 5000 (.int .u64))] [(.lst (.int .u64 x0))]))) (funext fun p0 => funext fun p1 => funext fun p2 => ref01_primes_l0_e n k m p0 p1 p2))
noncomputable def ref01_primes_Λ (n : Nat) : Lam CT := ll [(2, ref01_primes_l2_h, ref01_primes_l2_p n), (0, ref01_primes_l0_h, ref01_primes_l0_p n)]
theorem ref01_primes_r (n : Nat) {β : Type} (a0 : Int) (K : Res CT → Option β) : runFn TT (ref01_primes_G n) (ref01_primes_Λ n) Try.f17 c17 false true [(.int .i64 a0)] [] K = ref01_primes n a0 (fun z0 => K ⟨(.vs false (.int .u64 z0)), [], []⟩) := by kernel_rfl
theorem ref01_primes_Gok (n : Nat) : GamOk (CallsOk Try.prog cod) (ref01_primes_G n) := gl_nil _ _
theorem ref01_primes_l2_ok (n : Nat) : LoopOk Try.prog TT Try.f17.ntmps 2 (.loop ref01_primes_l2_c) ref01_primes_l2_h (ref01_primes_l2_p n) := by
  intro β vals obs F k r hs hF
  unfold ref01_primes_l2_p at hs
  split at hs
  · cases hs
    exact loop_sound TT_ok (fun _ _ _ _ h => h) (ref01_primes_Gok n) mixed (by kernel_rfl) (ll_ok (by kernel_rfl) (loops_nil)) n _ ((ref01_primes_l2_e n k n _ _ _ _ _ _).trans hF)
  · cases hs
theorem ref01_primes_l0_ok (n : Nat) : LoopOk Try.prog TT Try.f17.ntmps 0 (.loop ref01_primes_l0_c) ref01_primes_l0_h (ref01_primes_l0_p n) := by
  intro β vals obs F k r hs hF
  unfold ref01_primes_l0_p at hs
  split at hs
  · cases hs
    exact loop_sound TT_ok (fun _ _ _ _ h => h) (ref01_primes_Gok n) mixed (by kernel_rfl) (ll_ok (by kernel_rfl) (loops_cons (by kernel_rfl) (ref01_primes_l2_ok n) (loops_nil))) n _ ((ref01_primes_l0_e n k n _ _ _).trans hF)
  · cases hs
theorem ref01_primes_ok (n : Nat) : SpecOk Try.prog cod 17 (ref01_primes_p n) := by
  intro β args objs F K r hs hF
  unfold ref01_primes_p at hs
  split at hs
  · cases hs
    exact fn_sound TT_ok (fun _ _ _ _ h => h) (ref01_primes_Gok n) mixed Try.func17 (by kernel_rfl) (by kernel_rfl) (by kernel_rfl) (Nat.le_of_ble_eq_true (by kernel_rfl)) (ll_ok (by kernel_rfl) (loops_cons (by kernel_rfl) (ref01_primes_l2_ok n) (loops_cons (by kernel_rfl) (ref01_primes_l0_ok n) (loops_nil)))) ((ref01_primes_r n _ K).trans hF)
  · cases hs

noncomputable def c23 : Code := Try.f23.body.getD .skip
noncomputable def ref01_times_G (n : Nat) : Gam CT := gl []
noncomputable def ref01_times_l2_h : Keep := ⟨[3, 4, 5, 6, 7, 8, 9, 11, 12], [], [3, 4, 5], [], []⟩
noncomputable def ref01_times_l2_x : EX → Keep
  | .exit 2 => ⟨[3, 4, 5, 11, 12], [], [3, 4, 5], [], []⟩
  | _ => ⟨[], [], [], [], []⟩
noncomputable def ref01_times_l2_p (n : Nat) : PLoop CT := fun _ v o => match v, o with
  | [(.ptr 3 []), (.ptr 4 []), (.ptr 5 []), (.int .i64 p0), (.int .u64 p1), (.int .u64 p2), (.int .i64 p3), (.arr 6 (.int .u64 p4)), (.int .i64 p5)], [(.arr 6 (.int .u64 p6)), (.arr 6 (.int .u64 p7)), (.arr 6 (.int .u64 p8))] => some fun k => ref01_times_l2 n n p0 p1 p2 p3 p4 p5 p6 p7 p8 (fun x0 x1 x2 x3 x4 => k .nrm (mkSt (ref01_times_l2_x (.exit 2)) [(.ptr 3 []), (.ptr 4 []), (.ptr 5 []), (.arr 6 (.int .u64 x0)), (.int .i64 x1)] [(.arr 6 (.int .u64 x2)), (.arr 6 (.int .u64 x3)), (.arr 6 (.int .u64 x4))]))
  | _, _ => none
noncomputable def ref01_times_l2_L (n : Nat) : Lam CT := ll []
noncomputable def ref01_times_l2_c : Code := cLoop (cBody (cB (cB (cB (cBody (cA (cB (cB (cBody (cBody (cB (cA (cB (cB c23))))))))))))))
theorem ref01_times_l2_e (n : Nat) {β : Type} (k : EX → St CT → Option β) : ∀ (m : Nat) (p0 : Int) (p1 : Int) (p2 : Int) (p3 : Int) (p4 : List Int) (p5 : Int) (p6 : List Int) (p7 : List Int) (p8 : List Int), loopK TT (ref01_times_G n) (ref01_times_l2_L n) ref01_times_l2_h ref01_times_l2_x 2 ref01_times_l2_c k (m) (mkSt ref01_times_l2_h [(.ptr 3 []), (.ptr 4 []), (.ptr 5 []), (.int .i64 p0), (.int .u64 p1), (.int .u64 p2), (.int .i64 p3), (.arr 6 (.int .u64 p4)), (.int .i64 p5)] [(.arr 6 (.int .u64 p6)), (.arr 6 (.int .u64 p7)), (.arr 6 (.int .u64 p8))]) = ref01_times_l2 n m p0 p1 p2 p3 p4 p5 p6 p7 p8 (fun x0 x1 x2 x3 x4 => k .nrm (mkSt (ref01_times_l2_x (.exit 2)) [(.ptr 3 []), (.ptr 4 []), (.ptr 5 []), (.arr 6 (.int .u64 x0)), (.int .i64 x1)] [(.arr 6 (.int .u64 x2)), (.arr 6 (.int .u64 x3)), (.arr 6 (.int .u64 x4))]))
  | 0, _, _, _, _, _, _, _, _, _ => rfl
  | m + 1, p0, p1, p2, p3, p4, p5, p6, p7, p8 => (show loopK TT (ref01_times_G n) (ref01_times_l2_L n) ref01_times_l2_h ref01_times_l2_x 2 ref01_times_l2_c k (m + 1) (mkSt ref01_times_l2_h [(.ptr 3 []), (.ptr 4 []), (.ptr 5 []), (.int .i64 p0), (.int .u64 p1), (.int .u64 p2), (.int .i64 p3), (.arr 6 (.int .u64 p4)), (.int .i64 p5)] [(.arr 6 (.int .u64 p6)), (.arr 6 (.int .u64 p7)), (.arr 6 (.int .u64 p8))]) = ref01_times_l2_s n p0 p1 p2 p3 p4 p5 p6 p7 p8 (fun p0 p1 p2 p3 p4 p5 p6 p7 p8 => loopK TT (ref01_times_G n) (ref01_times_l2_L n) ref01_times_l2_h ref01_times_l2_x 2 ref01_times_l2_c k (m) (mkSt ref01_times_l2_h [(.ptr 3 []), (.ptr 4 []), (.ptr 5 []), (.int .i64 p0), (.int .u64 p1), (.int .u64 p2), (.int .i64 p3), (.arr 6 (.int .u64 p4)), (.int .i64 p5)] [(.arr 6 (.int .u64 p6)), (.arr 6 (.int .u64 p7)), (.arr 6 (.int .u64 p8))])) (fun x0 x1 x2 x3 x4 => k .nrm (mkSt (ref01_times_l2_x (.exit 2)) [(.ptr 3 []), (.ptr 4 []), (.ptr 5 []), (.arr 6 (.int .u64 x0)), (.int .i64 x1)] [(.arr 6 (.int .u64 x2)), (.arr 6 (.int .u64 x3)), (.arr 6 (.int .u64 x4))])) by kernel_rfl).trans (congrArg (fun R => ref01_times_l2_s n p0 p1 p2 p3 p4 p5 p6 p7 p8 R (fun x0 x1 x2 x3 x4 => k .nrm (mkSt (ref01_times_l2_x (.exit 2)) [(.ptr 3 []), (.ptr 4 []), (.ptr 5 []), (.arr 6 (.int .u64 x0)), (.int .i64 x1)] [(.arr 6 (.int .u64 x2)), (.arr 6 (.int .u64 x3)), (.arr 6 (.int .u64 x4))]))) (funext fun p0 => funext fun p1 => funext fun p2 => funext fun p3 => funext fun p4 => funext fun p5 => funext fun p6 => funext fun p7 => funext fun p8 => ref01_times_l2_e n k m p0 p1 p2 p3 p4 p5 p6 p7 p8))
noncomputable def ref01_times_l0_h : Keep := ⟨[3, 4, 5, 11, 12], [], [3, 4, 5], [], []⟩
noncomputable def ref01_times_l0_x : EX → Keep
  | .exit 0 => ⟨[4, 5], [], [4, 5], [], []⟩
  | _ => ⟨[], [], [], [], []⟩
noncomputable def ref01_times_l0_p (n : Nat) : PLoop CT := fun _ v o => match v, o with
  | [(.ptr 3 []), (.ptr 4 []), (.ptr 5 []), (.arr 6 (.int .u64 p0)), (.int .i64 p1)], [(.arr 6 (.int .u64 p2)), (.arr 6 (.int .u64 p3)), (.arr 6 (.int .u64 p4))] => some fun k => ref01_times_l0 n n p0 p1 p2 p3 p4 (fun x0 x1 => k .nrm (mkSt (ref01_times_l0_x (.exit 0)) [(.ptr 4 []), (.ptr 5 [])] [(.arr 6 (.int .u64 x0)), (.arr 6 (.int .u64 x1))]))
  | _, _ => none
noncomputable def ref01_times_l0_L (n : Nat) : Lam CT := ll [(2, ref01_times_l2_h, ref01_times_l2_p n)]
noncomputable def ref01_times_l0_c : Code := cLoop (cBody (cB (cA (cB (cB c23)))))
theorem ref01_times_l0_e (n : Nat) {β : Type} (k : EX → St CT → Option β) : ∀ (m : Nat) (p0 : List Int) (p1 : Int) (p2 : List Int) (p3 : List Int) (p4 : List Int), loopK TT (ref01_times_G n) (ref01_times_l0_L n) ref01_times_l0_h ref01_times_l0_x 0 ref01_times_l0_c k (m) (mkSt ref01_times_l0_h [(.ptr 3 []), (.ptr 4 []), (.ptr 5 []), (.arr 6 (.int .u64 p0)), (.int .i64 p1)] [(.arr 6 (.int .u64 p2)), (.arr 6 (.int .u64 p3)), (.arr 6 (.int .u64 p4))]) = ref01_times_l0 n m p0 p1 p2 p3 p4 (fun x0 x1 => k .nrm (mkSt (ref01_times_l0_x (.exit 0)) [(.ptr 4 []), (.ptr 5 [])] [(.arr 6 (.int .u64 x0)), (.arr 6 (.int .u64 x1))]))
  | 0, _, _, _, _, _ => rfl
  | m + 1, p0, p1, p2, p3, p4 => (show loopK TT (ref01_times_G n) (ref01_times_l0_L n) ref01_times_l0_h ref01_times_l0_x 0 ref01_times_l0_c k (m + 1) (mkSt ref01_times_l0_h [(.ptr 3 []), (.ptr 4 []), (.ptr 5 []), (.arr 6 (.int .u64 p0)), (.int .i64 p1)] [(.arr 6 (.int .u64 p2)), (.arr 6 (.int .u64 p3)), (.arr 6 (.int .u64 p4))]) = ref01_times_l0_s n p0 p1 p2 p3 p4 (fun p0 p1 p2 p3 p4 => loopK TT (ref01_times_G n) (ref01_times_l0_L n) ref01_times_l0_h ref01_times_l0_x 0 ref01_times_l0_c k (m) (mkSt ref01_times_l0_h [(.ptr 3 []), (.ptr 4 []), (.ptr 5 []), (.arr 6 (.int .u64 p0)), (.int .i64 p1)] [(.arr 6 (.int .u64 p2)), (.arr 6 (.int .u64 p3)), (.arr 6 (.int .u64 p4))])) (fun x0 x1 => k .nrm (mkSt (ref01_times_l0_x (.exit 0)) [(.ptr 4 []), (.ptr 5 [])] [(.arr 6 (.int .u64 x0)), (.arr 6 (.int .u64 x1))])) by kernel_rfl).trans (congrArg (fun R => ref01_times_l0_s n p0 p1 p2 p3 p4 R (fun x0 x1 => k .nrm (mkSt (ref01_times_l0_x (.exit 0)) [(.ptr 4 []), (.ptr 5 [])] [(.arr 6 (.int .u64 x0)), (.arr 6 (.int .u64 x1))]))) (funext fun p0 => funext fun p1 => funext fun p2 => funext fun p3 => funext fun p4 => ref01_times_l0_e n k m p0 p1 p2 p3 p4))
noncomputable def ref01_times_Λ (n : Nat) : Lam CT := ll [(2, ref01_times_l2_h, ref01_times_l2_p n), (0, ref01_times_l0_h, ref01_times_l0_p n)]
theorem ref01_times_r (n : Nat) {β : Type} (a0 : List Int) (a1 : List Int) (K : Res CT → Option β) : runFn TT (ref01_times_G n) (ref01_times_Λ n) Try.f23 c23 false true [(.arr 6 (.int .u64 a0)), (.arr 6 (.int .u64 a1))] [] K = ref01_times n a0 a1 (fun z0 => K ⟨(.arr 6 (.int .u64 z0)), [], []⟩) := by kernel_rfl
theorem ref01_times_Gok (n : Nat) : GamOk (CallsOk Try.prog cod) (ref01_times_G n) := gl_nil _ _
theorem ref01_times_l2_ok (n : Nat) : LoopOk Try.prog TT Try.f23.ntmps 2 (.loop ref01_times_l2_c) ref01_times_l2_h (ref01_times_l2_p n) := by
  intro β vals obs F k r hs hF
  unfold ref01_times_l2_p at hs
  split at hs
  · cases hs
    exact loop_sound TT_ok (fun _ _ _ _ h => h) (ref01_times_Gok n) mixed (by kernel_rfl) (ll_ok (by kernel_rfl) (loops_nil)) n _ ((ref01_times_l2_e n k n _ _ _ _ _ _ _ _ _).trans hF)
  · cases hs
theorem ref01_times_l0_ok (n : Nat) : LoopOk Try.prog TT Try.f23.ntmps 0 (.loop ref01_times_l0_c) ref01_times_l0_h (ref01_times_l0_p n) := by
  intro β vals obs F k r hs hF
  unfold ref01_times_l0_p at hs
  split at hs
  · cases hs
    exact loop_sound TT_ok (fun _ _ _ _ h => h) (ref01_times_Gok n) mixed (by kernel_rfl) (ll_ok (by kernel_rfl) (loops_cons (by kernel_rfl) (ref01_times_l2_ok n) (loops_nil))) n _ ((ref01_times_l0_e n k n _ _ _ _ _).trans hF)
  · cases hs
theorem ref01_times_ok (n : Nat) : SpecOk Try.prog cod 23 (ref01_times_p n) := by
  intro β args objs F K r hs hF
  unfold ref01_times_p at hs
  split at hs
  · cases hs
    exact fn_sound TT_ok (fun _ _ _ _ h => h) (ref01_times_Gok n) mixed Try.func23 (by kernel_rfl) (by kernel_rfl) (by kernel_rfl) (Nat.le_of_ble_eq_true (by kernel_rfl)) (ll_ok (by kernel_rfl) (loops_cons (by kernel_rfl) (ref01_times_l2_ok n) (loops_cons (by kernel_rfl) (ref01_times_l0_ok n) (loops_nil)))) ((ref01_times_r n _ _ K).trans hF)
  · cases hs

end Go.Proofs.Ytjnkppjlhmkjaaa.Av
