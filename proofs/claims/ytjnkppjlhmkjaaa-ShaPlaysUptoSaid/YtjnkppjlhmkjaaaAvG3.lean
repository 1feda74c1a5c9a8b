import Derived.Test.YtjnkppjlhmkjaaaAvG2
namespace Go.Proofs.Ytjnkppjlhmkjaaa.Av
open Go
set_option linter.unusedVariables false
set_option maxRecDepth 10000
noncomputable def c24 : Code := Try.f24.body.getD .skip
noncomputable def ref01_less_G (n : Nat) : Gam CT := gl []
noncomputable def ref01_less_l0_h : Keep := ⟨[2, 3, 5], [], [2, 3], [], []⟩
noncomputable def ref01_less_l0_x : EX → Keep
  | .ret => ⟨[4], [], [], [], []⟩
  | .exit 0 => ⟨[], [], [], [], []⟩
  | _ => ⟨[], [], [], [], []⟩
noncomputable def ref01_less_l0_p (n : Nat) : PLoop CT := fun _ v o => match v, o with
  | [(.ptr 2 []), (.ptr 3 []), (.int .i64 p0)], [(.arr 6 (.int .u64 p1)), (.arr 6 (.int .u64 p2))] => some fun k => ref01_less_l0 n n p0 p1 p2 (fun x0 => k .ret (mkSt (ref01_less_l0_x (.ret)) [(.bool x0)] [])) (k .nrm (mkSt (ref01_less_l0_x (.exit 0)) [] []))
  | _, _ => none
noncomputable def ref01_less_l0_L (n : Nat) : Lam CT := ll []
noncomputable def ref01_less_l0_c : Code := cLoop (cBody (cB (cA (cB c24))))
theorem ref01_less_l0_e (n : Nat) {β : Type} (k : EX → St CT → Option β) : ∀ (m : Nat) (p0 : Int) (p1 : List Int) (p2 : List Int), loopK TT (ref01_less_G n) (ref01_less_l0_L n) ref01_less_l0_h ref01_less_l0_x 0 ref01_less_l0_c k (m) (mkSt ref01_less_l0_h [(.ptr 2 []), (.ptr 3 []), (.int .i64 p0)] [(.arr 6 (.int .u64 p1)), (.arr 6 (.int .u64 p2))]) = ref01_less_l0 n m p0 p1 p2 (fun x0 => k .ret (mkSt (ref01_less_l0_x (.ret)) [(.bool x0)] [])) (k .nrm (mkSt (ref01_less_l0_x (.exit 0)) [] []))
  | 0, _, _, _ => rfl
  | m + 1, p0, p1, p2 => (show loopK TT (ref01_less_G n) (ref01_less_l0_L n) ref01_less_l0_h ref01_less_l0_x 0 ref01_less_l0_c k (m + 1) (mkSt ref01_less_l0_h [(.ptr 2 []), (.ptr 3 []), (.int .i64 p0)] [(.arr 6 (.int .u64 p1)), (.arr 6 (.int .u64 p2))]) = ref01_less_l0_s n p0 p1 p2 (fun p0 p1 p2 => loopK TT (ref01_less_G n) (ref01_less_l0_L n) ref01_less_l0_h ref01_less_l0_x 0 ref01_less_l0_c k (m) (mkSt ref01_less_l0_h [(.ptr 2 []), (.ptr 3 []), (.int .i64 p0)] [(.arr 6 (.int .u64 p1)), (.arr 6 (.int .u64 p2))])) (fun x0 => k .ret (mkSt (ref01_less_l0_x (.ret)) [(.bool x0)] [])) (k .nrm (mkSt (ref01_less_l0_x (.exit 0)) [] [])) by kernel_rfl).trans (congrArg (fun R => ref01_less_l0_s n p0 p1 p2 R (fun x0 => k .ret (mkSt (ref01_less_l0_x (.ret)) [(.bool x0)] [])) (k .nrm (mkSt (ref01_less_l0_x (.exit 0)) [] []))) (funext fun p0 => funext fun p1 => funext fun p2 => ref01_less_l0_e n k m p0 p1 p2))
noncomputable def ref01_less_Λ (n : Nat) : Lam CT := ll [(0, ref01_less_l0_h, ref01_less_l0_p n)]
theorem ref01_less_r (n : Nat) {β : Type} (a0 : List Int) (a1 : List Int) (K : Res CT → Option β) : runFn TT (ref01_less_G n) (ref01_less_Λ n) Try.f24 c24 false true [(.arr 6 (.int .u64 a0)), (.arr 6 (.int .u64 a1))] [] K = ref01_less n a0 a1 (fun z0 => K ⟨(.bool z0), [], []⟩) := by kernel_rfl
theorem ref01_less_Gok (n : Nat) : GamOk (CallsOk Try.prog cod) (ref01_less_G n) := gl_nil _ _
theorem ref01_less_l0_ok (n : Nat) : LoopOk Try.prog TT Try.f24.ntmps 0 (.loop ref01_less_l0_c) ref01_less_l0_h (ref01_less_l0_p n) := by
  intro β vals obs F k r hs hF
  unfold ref01_less_l0_p at hs
  split at hs
  · cases hs
    exact loop_sound TT_ok (fun _ _ _ _ h => h) (ref01_less_Gok n) mixed (by kernel_rfl) (ll_ok (by kernel_rfl) (loops_nil)) n _ ((ref01_less_l0_e n k n _ _ _).trans hF)
  · cases hs
theorem ref01_less_ok (n : Nat) : SpecOk Try.prog cod 24 (ref01_less_p n) := by
  intro β args objs F K r hs hF
  unfold ref01_less_p at hs
  split at hs
  · cases hs
    exact fn_sound TT_ok (fun _ _ _ _ h => h) (ref01_less_Gok n) mixed Try.func24 (by kernel_rfl) (by kernel_rfl) (by kernel_rfl) (Nat.le_of_ble_eq_true (by kernel_rfl)) (ll_ok (by kernel_rfl) (loops_cons (by kernel_rfl) (ref01_less_l0_ok n) (loops_nil))) ((ref01_less_r n _ _ K).trans hF)
  · cases hs

noncomputable def c18 : Code := Try.f18.body.getD .skip
noncomputable def ref01_fraction_G (n : Nat) : Gam CT := gl [(24, ref01_less_p n), (23, ref01_times_p n)]
noncomputable def ref01_fraction_l0_h : Keep := ⟨[1, 5, 6, 7], [], [5], [], []⟩
noncomputable def ref01_fraction_l0_x : EX → Keep
  | .exit 0 => ⟨[6], [], [], [], []⟩
  | _ => ⟨[], [], [], [], []⟩
noncomputable def ref01_fraction_l0_p (n : Nat) : PLoop CT := fun _ v o => match v, o with
  | [(.int .i64 p0), (.ptr 5 []), (.int .u64 p1), (.int .u64 p2)], [(.arr 6 (.int .u64 p3))] => some fun k => ref01_fraction_l0 n n p0 p1 p2 p3 (fun x0 => k .nrm (mkSt (ref01_fraction_l0_x (.exit 0)) [(.int .u64 x0)] []))
  | _, _ => none
noncomputable def ref01_fraction_l0_L (n : Nat) : Lam CT := ll []
noncomputable def ref01_fraction_l0_c : Code := cLoop (cBody (cB (cA (cB (cB (cB (cB c18)))))))
theorem ref01_fraction_l0_e (n : Nat) {β : Type} (k : EX → St CT → Option β) : ∀ (m : Nat) (p0 : Int) (p1 : Int) (p2 : Int) (p3 : List Int), loopK TT (ref01_fraction_G n) (ref01_fraction_l0_L n) ref01_fraction_l0_h ref01_fraction_l0_x 0 ref01_fraction_l0_c k (m) (mkSt ref01_fraction_l0_h [(.int .i64 p0), (.ptr 5 []), (.int .u64 p1), (.int .u64 p2)] [(.arr 6 (.int .u64 p3))]) = ref01_fraction_l0 n m p0 p1 p2 p3 (fun x0 => k .nrm (mkSt (ref01_fraction_l0_x (.exit 0)) [(.int .u64 x0)] []))
  | 0, _, _, _, _ => rfl
  | m + 1, p0, p1, p2, p3 => (show loopK TT (ref01_fraction_G n) (ref01_fraction_l0_L n) ref01_fraction_l0_h ref01_fraction_l0_x 0 ref01_fraction_l0_c k (m + 1) (mkSt ref01_fraction_l0_h [(.int .i64 p0), (.ptr 5 []), (.int .u64 p1), (.int .u64 p2)] [(.arr 6 (.int .u64 p3))]) = ref01_fraction_l0_s n p0 p1 p2 p3 (fun p0 p1 p2 p3 => loopK TT (ref01_fraction_G n) (ref01_fraction_l0_L n) ref01_fraction_l0_h ref01_fraction_l0_x 0 ref01_fraction_l0_c k (m) (mkSt ref01_fraction_l0_h [(.int .i64 p0), (.ptr 5 []), (.int .u64 p1), (.int .u64 p2)] [(.arr 6 (.int .u64 p3))])) (fun x0 => k .nrm (mkSt (ref01_fraction_l0_x (.exit 0)) [(.int .u64 x0)] [])) by kernel_rfl).trans (congrArg (fun R => ref01_fraction_l0_s n p0 p1 p2 p3 R (fun x0 => k .nrm (mkSt (ref01_fraction_l0_x (.exit 0)) [(.int .u64 x0)] []))) (funext fun p0 => funext fun p1 => funext fun p2 => funext fun p3 => ref01_fraction_l0_e n k m p0 p1 p2 p3))
noncomputable def ref01_fraction_Λ (n : Nat) : Lam CT := ll [(0, ref01_fraction_l0_h, ref01_fraction_l0_p n)]
theorem ref01_fraction_r (n : Nat) {β : Type} (a0 : Int) (a1 : Int) (K : Res CT → Option β) : runFn TT (ref01_fraction_G n) (ref01_fraction_Λ n) Try.f18 c18 false true [(.int .u64 a0), (.int .i64 a1)] [] K = ref01_fraction n a0 a1 (fun z0 => K ⟨(.int .u32 z0), [], []⟩) := by kernel_rfl
theorem ref01_fraction_Gok (n : Nat) : GamOk (CallsOk Try.prog cod) (ref01_fraction_G n) := gl_cons (ref01_less_ok n) (gl_cons (ref01_times_ok n) (gl_nil _ _))
theorem ref01_fraction_l0_ok (n : Nat) : LoopOk Try.prog TT Try.f18.ntmps 0 (.loop ref01_fraction_l0_c) ref01_fraction_l0_h (ref01_fraction_l0_p n) := by
  intro β vals obs F k r hs hF
  unfold ref01_fraction_l0_p at hs
  split at hs
  · cases hs
    exact loop_sound TT_ok (fun _ _ _ _ h => h) (ref01_fraction_Gok n) mixed (by kernel_rfl) (ll_ok (by kernel_rfl) (loops_nil)) n _ ((ref01_fraction_l0_e n k n _ _ _ _).trans hF)
  · cases hs
theorem ref01_fraction_ok (n : Nat) : SpecOk Try.prog cod 18 (ref01_fraction_p n) := by
  intro β args objs F K r hs hF
  unfold ref01_fraction_p at hs
  split at hs
  · cases hs
    exact fn_sound TT_ok (fun _ _ _ _ h => h) (ref01_fraction_Gok n) mixed Try.func18 (by kernel_rfl) (by kernel_rfl) (by kernel_rfl) (Nat.le_of_ble_eq_true (by kernel_rfl)) (ll_ok (by kernel_rfl) (loops_cons (by kernel_rfl) (ref01_fraction_l0_ok n) (loops_nil))) ((ref01_fraction_r n _ _ K).trans hF)
  · cases hs

noncomputable def c9 : Code := Try.f9.body.getD .skip
noncomputable def ref01_Table_G (n : Nat) : Gam CT := gl [(18, ref01_fraction_p n), (17, ref01_primes_p n)]
noncomputable def ref01_Table_l0_h : Keep := ⟨[2, 3, 6, 7, 8], [((.slot 2), 5000), ((.slot 3), 5010)], [], [], []⟩
noncomputable def ref01_Table_l0_x : EX → Keep
  | .exit 0 => ⟨[2, 3], [], [5000, 5010], [], []⟩
  | _ => ⟨[], [], [], [], []⟩
noncomputable def ref01_Table_l0_p (n : Nat) : PLoop CT := fun _ v o => match v, o with
  | [(.mw 5000 (.int .u32)), (.mw 5010 (.int .u32)), (.vs false (.int .u64 p0)), (.int .i64 p1), (.int .i64 p2)], [(.lst (.int .u32 p3)), (.lst (.int .u32 p4))] => some fun k => ref01_Table_l0 n n p0 p1 p2 p3 p4 (fun x0 x1 => k .nrm (mkSt (ref01_Table_l0_x (.exit 0)) [(.mw 5000 (.int .u32)), (.mw 5010 (.int .u32))] [(.lst (.int .u32 x0)), (.lst (.int .u32 x1))]))
  | _, _ => none
noncomputable def ref01_Table_l0_L (n : Nat) : Lam CT := ll []
noncomputable def ref01_Table_l0_c : Code := cLoop (cBody (cB (cA (cB (cB c9)))))
theorem ref01_Table_l0_e (n : Nat) {β : Type} (k : EX → St CT → Option β) : ∀ (m : Nat) (p0 : List Int) (p1 : Int) (p2 : Int) (p3 : List Int) (p4 : List Int), loopK TT (ref01_Table_G n) (ref01_Table_l0_L n) ref01_Table_l0_h ref01_Table_l0_x 0 ref01_Table_l0_c k (m) (mkSt ref01_Table_l0_h [(.mw 5000 (.int .u32)), (.mw 5010 (.int .u32)), (.vs false (.int .u64 p0)), (.int .i64 p1), (.int .i64 p2)] [(.lst (.int .u32 p3)), (.lst (.int .u32 p4))]) = ref01_Table_l0 n m p0 p1 p2 p3 p4 (fun x0 x1 => k .nrm (mkSt (ref01_Table_l0_x (.exit 0)) [(.mw 5000 (.int .u32)), (.mw 5010 (.int .u32))] [(.lst (.int .u32 x0)), (.lst (.int .u32 x1))]))
  | 0, _, _, _, _, _ => rfl
  | m + 1, p0, p1, p2, p3, p4 => (show loopK TT (ref01_Table_G n) (ref01_Table_l0_L n) ref01_Table_l0_h ref01_Table_l0_x 0 ref01_Table_l0_c k (m + 1) (mkSt ref01_Table_l0_h [(.mw 5000 (.int .u32)), (.mw 5010 (.int .u32)), (.vs false (.int .u64 p0)), (.int .i64 p1), (.int .i64 p2)] [(.lst (.int .u32 p3)), (.lst (.int .u32 p4))]) = ref01_Table_l0_s n p0 p1 p2 p3 p4 (fun p0 p1 p2 p3 p4 => loopK TT (ref01_Table_G n) (ref01_Table_l0_L n) ref01_Table_l0_h ref01_Table_l0_x 0 ref01_Table_l0_c k (m) (mkSt ref01_Table_l0_h [(.mw 5000 (.int .u32)), (.mw 5010 (.int .u32)), (.vs false (.int .u64 p0)), (.int .i64 p1), (.int .i64 p2)] [(.lst (.int .u32 p3)), (.lst (.int .u32 p4))])) (fun x0 x1 => k .nrm (mkSt (ref01_Table_l0_x (.exit 0)) [(.mw 5000 (.int .u32)), (.mw 5010 (.int .u32))] [(.lst (.int .u32 x0)), (.lst (.int .u32 x1))])) by kernel_rfl).trans (congrArg (fun R => ref01_Table_l0_s n p0 p1 p2 p3 p4 R (fun x0 x1 => k .nrm (mkSt (ref01_Table_l0_x (.exit 0)) [(.mw 5000 (.int .u32)), (.mw 5010 (.int .u32))] [(.lst (.int .u32 x0)), (.lst (.int .u32 x1))]))) (funext fun p0 => funext fun p1 => funext fun p2 => funext fun p3 => funext fun p4 => ref01_Table_l0_e n k m p0 p1 p2 p3 p4))
noncomputable def ref01_Table_Λ (n : Nat) : Lam CT := ll [(0, ref01_Table_l0_h, ref01_Table_l0_p n)]
theorem ref01_Table_r (n : Nat) {β : Type}  (K : Res CT → Option β) : runFn TT (ref01_Table_G n) (ref01_Table_Λ n) Try.f9 c9 false true [] [] K = ref01_Table n  (fun z0 z1 => K ⟨(.tup [(.vs false (.int .u32 z0)), (.vs false (.int .u32 z1))]), [], []⟩) := by kernel_rfl
theorem ref01_Table_Gok (n : Nat) : GamOk (CallsOk Try.prog cod) (ref01_Table_G n) := gl_cons (ref01_fraction_ok n) (gl_cons (ref01_primes_ok n) (gl_nil _ _))
theorem ref01_Table_l0_ok (n : Nat) : LoopOk Try.prog TT Try.f9.ntmps 0 (.loop ref01_Table_l0_c) ref01_Table_l0_h (ref01_Table_l0_p n) := by
  intro β vals obs F k r hs hF
  unfold ref01_Table_l0_p at hs
  split at hs
  · cases hs
    exact loop_sound TT_ok (fun _ _ _ _ h => h) (ref01_Table_Gok n) mixed (by kernel_rfl) (ll_ok (by kernel_rfl) (loops_nil)) n _ ((ref01_Table_l0_e n k n _ _ _ _ _).trans hF)
  · cases hs
theorem ref01_Table_ok (n : Nat) : SpecOk Try.prog cod 9 (ref01_Table_p n) := by
  intro β args objs F K r hs hF
  unfold ref01_Table_p at hs
  split at hs
  · cases hs
    exact fn_sound TT_ok (fun _ _ _ _ h => h) (ref01_Table_Gok n) mixed Try.func9 (by kernel_rfl) (by kernel_rfl) (by kernel_rfl) (Nat.le_of_ble_eq_true (by kernel_rfl)) (ll_ok (by kernel_rfl) (loops_cons (by kernel_rfl) (ref01_Table_l0_ok n) (loops_nil))) ((ref01_Table_r n  K).trans hF)
  · cases hs

noncomputable def c22 : Code := Try.f22.body.getD .skip
noncomputable def ref01_rotr_G (n : Nat) : Gam CT := gl []
noncomputable def ref01_rotr_Λ (n : Nat) : Lam CT := ll []
theorem ref01_rotr_r (n : Nat) {β : Type} (a0 : Int) (a1 : Int) (K : Res CT → Option β) : runFn TT (ref01_rotr_G n) (ref01_rotr_Λ n) Try.f22 c22 false true [(.int .u32 a0), (.int .i64 a1)] [] K = ref01_rotr n a0 a1 (fun z0 => K ⟨(.int .u32 z0), [], []⟩) := by kernel_rfl
theorem ref01_rotr_Gok (n : Nat) : GamOk (CallsOk Try.prog cod) (ref01_rotr_G n) := gl_nil _ _
theorem ref01_rotr_ok (n : Nat) : SpecOk Try.prog cod 22 (ref01_rotr_p n) := by
  intro β args objs F K r hs hF
  unfold ref01_rotr_p at hs
  split at hs
  · cases hs
    exact fn_sound TT_ok (fun _ _ _ _ h => h) (ref01_rotr_Gok n) mixed Try.func22 (by kernel_rfl) (by kernel_rfl) (by kernel_rfl) (Nat.le_of_ble_eq_true (by kernel_rfl)) (ll_ok (by kernel_rfl) (loops_nil)) ((ref01_rotr_r n _ _ K).trans hF)
  · cases hs

noncomputable def c13 : Code := Try.f13.body.getD .skip
noncomputable def ref01_Mixed_G (n : Nat) : Gam CT := gl [(22, ref01_rotr_p n)]
noncomputable def ref01_Mixed_l0_h : Keep := ⟨[1, 2, 6, 7, 8], [], [6], [], []⟩
noncomputable def ref01_Mixed_l0_x : EX → Keep
  | .exit 0 => ⟨[1, 2, 6, 7, 8], [], [6], [], []⟩
  | _ => ⟨[], [], [], [], []⟩
noncomputable def ref01_Mixed_l0_p (n : Nat) : PLoop CT := fun _ v o => match v, o with
  | [(.vs p0 (.int .u32 p1)), (.vs p2 (.int .u32 p3)), (.ptr 6 []), (.int .u64 p4), (.str p5)], [(.arr 32 (.u8 p6))] => some fun k => ref01_Mixed_l0 n n p0 p1 p2 p3 p4 p5 p6 (fun x0 x1 x2 x3 x4 x5 x6 => k .nrm (mkSt (ref01_Mixed_l0_x (.exit 0)) [(.vs x0 (.int .u32 x1)), (.vs x2 (.int .u32 x3)), (.ptr 6 []), (.int .u64 x4), (.str x5)] [(.arr 32 (.u8 x6))]))
  | _, _ => none
noncomputable def ref01_Mixed_l0_L (n : Nat) : Lam CT := ll []
noncomputable def ref01_Mixed_l0_c : Code := cLoop (cBody (cA (cB (cB (cB c13)))))
theorem ref01_Mixed_l0_e (n : Nat) {β : Type} (k : EX → St CT → Option β) : ∀ (m : Nat) (p0 : Bool) (p1 : List Int) (p2 : Bool) (p3 : List Int) (p4 : Int) (p5 : List UInt8) (p6 : List UInt8), loopK TT (ref01_Mixed_G n) (ref01_Mixed_l0_L n) ref01_Mixed_l0_h ref01_Mixed_l0_x 0 ref01_Mixed_l0_c k (m) (mkSt ref01_Mixed_l0_h [(.vs p0 (.int .u32 p1)), (.vs p2 (.int .u32 p3)), (.ptr 6 []), (.int .u64 p4), (.str p5)] [(.arr 32 (.u8 p6))]) = ref01_Mixed_l0 n m p0 p1 p2 p3 p4 p5 p6 (fun x0 x1 x2 x3 x4 x5 x6 => k .nrm (mkSt (ref01_Mixed_l0_x (.exit 0)) [(.vs x0 (.int .u32 x1)), (.vs x2 (.int .u32 x3)), (.ptr 6 []), (.int .u64 x4), (.str x5)] [(.arr 32 (.u8 x6))]))
  | 0, _, _, _, _, _, _, _ => rfl
  | m + 1, p0, p1, p2, p3, p4, p5, p6 => (show loopK TT (ref01_Mixed_G n) (ref01_Mixed_l0_L n) ref01_Mixed_l0_h ref01_Mixed_l0_x 0 ref01_Mixed_l0_c k (m + 1) (mkSt ref01_Mixed_l0_h [(.vs p0 (.int .u32 p1)), (.vs p2 (.int .u32 p3)), (.ptr 6 []), (.int .u64 p4), (.str p5)] [(.arr 32 (.u8 p6))]) = ref01_Mixed_l0_s n p0 p1 p2 p3 p4 p5 p6 (fun p0 p1 p2 p3 p4 p5 p6 => loopK TT (ref01_Mixed_G n) (ref01_Mixed_l0_L n) ref01_Mixed_l0_h ref01_Mixed_l0_x 0 ref01_Mixed_l0_c k (m) (mkSt ref01_Mixed_l0_h [(.vs p0 (.int .u32 p1)), (.vs p2 (.int .u32 p3)), (.ptr 6 []), (.int .u64 p4), (.str p5)] [(.arr 32 (.u8 p6))])) (fun x0 x1 x2 x3 x4 x5 x6 => k .nrm (mkSt (ref01_Mixed_l0_x (.exit 0)) [(.vs x0 (.int .u32 x1)), (.vs x2 (.int .u32 x3)), (.ptr 6 []), (.int .u64 x4), (.str x5)] [(.arr 32 (.u8 x6))])) by kernel_rfl).trans (congrArg (fun R => ref01_Mixed_l0_s n p0 p1 p2 p3 p4 p5 p6 R (fun x0 x1 x2 x3 x4 x5 x6 => k .nrm (mkSt (ref01_Mixed_l0_x (.exit 0)) [(.vs x0 (.int .u32 x1)), (.vs x2 (.int .u32 x3)), (.ptr 6 []), (.int .u64 x4), (.str x5)] [(.arr 32 (.u8 x6))]))) (funext fun p0 => funext fun p1 => funext fun p2 => funext fun p3 => funext fun p4 => funext fun p5 => funext fun p6 => ref01_Mixed_l0_e n k m p0 p1 p2 p3 p4 p5 p6))
noncomputable def ref01_Mixed_l2_h : Keep := ⟨[1, 2, 6, 7, 8, 9, 10], [], [6], [], []⟩
noncomputable def ref01_Mixed_l2_x : EX → Keep
  | .exit 2 => ⟨[1, 2, 6, 8, 9], [], [6], [], []⟩
  | _ => ⟨[], [], [], [], []⟩
noncomputable def ref01_Mixed_l2_p (n : Nat) : PLoop CT := fun _ v o => match v, o with
  | [(.vs p0 (.int .u32 p1)), (.vs p2 (.int .u32 p3)), (.ptr 6 []), (.int .u64 p4), (.str p5), (.str p6), (.int .i64 p7)], [(.arr 32 (.u8 p8))] => some fun k => ref01_Mixed_l2 n n p0 p1 p2 p3 p4 p5 p6 p7 p8 (fun x0 x1 x2 x3 x4 x5 x6 => k .nrm (mkSt (ref01_Mixed_l2_x (.exit 2)) [(.vs x0 (.int .u32 x1)), (.vs x2 (.int .u32 x3)), (.ptr 6 []), (.str x4), (.str x5)] [(.arr 32 (.u8 x6))]))
  | _, _ => none
noncomputable def ref01_Mixed_l2_L (n : Nat) : Lam CT := ll []
noncomputable def ref01_Mixed_l2_c : Code := cLoop (cBody (cB (cA (cB (cB (cB (cB (cB c13))))))))
theorem ref01_Mixed_l2_e (n : Nat) {β : Type} (k : EX → St CT → Option β) : ∀ (m : Nat) (p0 : Bool) (p1 : List Int) (p2 : Bool) (p3 : List Int) (p4 : Int) (p5 : List UInt8) (p6 : List UInt8) (p7 : Int) (p8 : List UInt8), loopK TT (ref01_Mixed_G n) (ref01_Mixed_l2_L n) ref01_Mixed_l2_h ref01_Mixed_l2_x 2 ref01_Mixed_l2_c k (m) (mkSt ref01_Mixed_l2_h [(.vs p0 (.int .u32 p1)), (.vs p2 (.int .u32 p3)), (.ptr 6 []), (.int .u64 p4), (.str p5), (.str p6), (.int .i64 p7)] [(.arr 32 (.u8 p8))]) = ref01_Mixed_l2 n m p0 p1 p2 p3 p4 p5 p6 p7 p8 (fun x0 x1 x2 x3 x4 x5 x6 => k .nrm (mkSt (ref01_Mixed_l2_x (.exit 2)) [(.vs x0 (.int .u32 x1)), (.vs x2 (.int .u32 x3)), (.ptr 6 []), (.str x4), (.str x5)] [(.arr 32 (.u8 x6))]))
  | 0, _, _, _, _, _, _, _, _, _ => rfl
  | m + 1, p0, p1, p2, p3, p4, p5, p6, p7, p8 => (show loopK TT (ref01_Mixed_G n) (ref01_Mixed_l2_L n) ref01_Mixed_l2_h ref01_Mixed_l2_x 2 ref01_Mixed_l2_c k (m + 1) (mkSt ref01_Mixed_l2_h [(.vs p0 (.int .u32 p1)), (.vs p2 (.int .u32 p3)), (.ptr 6 []), (.int .u64 p4), (.str p5), (.str p6), (.int .i64 p7)] [(.arr 32 (.u8 p8))]) = ref01_Mixed_l2_s n p0 p1 p2 p3 p4 p5 p6 p7 p8 (fun p0 p1 p2 p3 p4 p5 p6 p7 p8 => loopK TT (ref01_Mixed_G n) (ref01_Mixed_l2_L n) ref01_Mixed_l2_h ref01_Mixed_l2_x 2 ref01_Mixed_l2_c k (m) (mkSt ref01_Mixed_l2_h [(.vs p0 (.int .u32 p1)), (.vs p2 (.int .u32 p3)), (.ptr 6 []), (.int .u64 p4), (.str p5), (.str p6), (.int .i64 p7)] [(.arr 32 (.u8 p8))])) (fun x0 x1 x2 x3 x4 x5 x6 => k .nrm (mkSt (ref01_Mixed_l2_x (.exit 2)) [(.vs x0 (.int .u32 x1)), (.vs x2 (.int .u32 x3)), (.ptr 6 []), (.str x4), (.str x5)] [(.arr 32 (.u8 x6))])) by kernel_rfl).trans (congrArg (fun R => ref01_Mixed_l2_s n p0 p1 p2 p3 p4 p5 p6 p7 p8 R (fun x0 x1 x2 x3 x4 x5 x6 => k .nrm (mkSt (ref01_Mixed_l2_x (.exit 2)) [(.vs x0 (.int .u32 x1)), (.vs x2 (.int .u32 x3)), (.ptr 6 []), (.str x4), (.str x5)] [(.arr 32 (.u8 x6))]))) (funext fun p0 => funext fun p1 => funext fun p2 => funext fun p3 => funext fun p4 => funext fun p5 => funext fun p6 => funext fun p7 => funext fun p8 => ref01_Mixed_l2_e n k m p0 p1 p2 p3 p4 p5 p6 p7 p8))
noncomputable def ref01_Mixed_l8_h : Keep := ⟨[1, 6, 8, 11, 12, 13, 14, 15, 16], [], [6, 60, 5000], [], []⟩
noncomputable def ref01_Mixed_l8_x : EX → Keep
  | .exit 8 => ⟨[1, 6, 8, 11, 12, 13, 14, 15], [], [6, 60, 5000], [], []⟩
  | _ => ⟨[], [], [], [], []⟩
noncomputable def ref01_Mixed_l8_p (n : Nat) : PLoop CT := fun _ v o => match v, o with
  | [(.vs p0 (.int .u32 p1)), (.ptr 6 []), (.str p2), (.mw 60 (.int .u32)), (.int .i64 p3), (.mw 5000 (.int .u32)), (.int .i64 p4), (.int .u32 p5), (.int .i64 p6)], [(.arr 32 (.u8 p7)), (.lst (.int .u32 p8)), (.lst (.int .u32 p9))] => some fun k => ref01_Mixed_l8 n n p0 p1 p2 p3 p4 p5 p6 p7 p8 p9 (fun x0 x1 x2 x3 x4 x5 x6 x7 x8 => k .nrm (mkSt (ref01_Mixed_l8_x (.exit 8)) [(.vs x0 (.int .u32 x1)), (.ptr 6 []), (.str x2), (.mw 60 (.int .u32)), (.int .i64 x3), (.mw 5000 (.int .u32)), (.int .i64 x4), (.int .u32 x5)] [(.arr 32 (.u8 x6)), (.lst (.int .u32 x7)), (.lst (.int .u32 x8))]))
  | _, _ => none
noncomputable def ref01_Mixed_l8_L (n : Nat) : Lam CT := ll []
noncomputable def ref01_Mixed_l8_c : Code := cLoop (cBody (cB (cA (cB (cA (cB (cA (cBody (cA (cB (cBody (cBody (cB (cA (cB (cBody (cA (cB (cBody (cBody (cB (cA (cB (cB (cB (cB (cB (cB (cB (cB c13))))))))))))))))))))))))))))))
theorem ref01_Mixed_l8_e (n : Nat) {β : Type} (k : EX → St CT → Option β) : ∀ (m : Nat) (p0 : Bool) (p1 : List Int) (p2 : List UInt8) (p3 : Int) (p4 : Int) (p5 : Int) (p6 : Int) (p7 : List UInt8) (p8 : List Int) (p9 : List Int), loopK TT (ref01_Mixed_G n) (ref01_Mixed_l8_L n) ref01_Mixed_l8_h ref01_Mixed_l8_x 8 ref01_Mixed_l8_c k (m) (mkSt ref01_Mixed_l8_h [(.vs p0 (.int .u32 p1)), (.ptr 6 []), (.str p2), (.mw 60 (.int .u32)), (.int .i64 p3), (.mw 5000 (.int .u32)), (.int .i64 p4), (.int .u32 p5), (.int .i64 p6)] [(.arr 32 (.u8 p7)), (.lst (.int .u32 p8)), (.lst (.int .u32 p9))]) = ref01_Mixed_l8 n m p0 p1 p2 p3 p4 p5 p6 p7 p8 p9 (fun x0 x1 x2 x3 x4 x5 x6 x7 x8 => k .nrm (mkSt (ref01_Mixed_l8_x (.exit 8)) [(.vs x0 (.int .u32 x1)), (.ptr 6 []), (.str x2), (.mw 60 (.int .u32)), (.int .i64 x3), (.mw 5000 (.int .u32)), (.int .i64 x4), (.int .u32 x5)] [(.arr 32 (.u8 x6)), (.lst (.int .u32 x7)), (.lst (.int .u32 x8))]))
  | 0, _, _, _, _, _, _, _, _, _, _ => rfl
  | m + 1, p0, p1, p2, p3, p4, p5, p6, p7, p8, p9 => (show loopK TT (ref01_Mixed_G n) (ref01_Mixed_l8_L n) ref01_Mixed_l8_h ref01_Mixed_l8_x 8 ref01_Mixed_l8_c k (m + 1) (mkSt ref01_Mixed_l8_h [(.vs p0 (.int .u32 p1)), (.ptr 6 []), (.str p2), (.mw 60 (.int .u32)), (.int .i64 p3), (.mw 5000 (.int .u32)), (.int .i64 p4), (.int .u32 p5), (.int .i64 p6)] [(.arr 32 (.u8 p7)), (.lst (.int .u32 p8)), (.lst (.int .u32 p9))]) = ref01_Mixed_l8_s n p0 p1 p2 p3 p4 p5 p6 p7 p8 p9 (fun p0 p1 p2 p3 p4 p5 p6 p7 p8 p9 => loopK TT (ref01_Mixed_G n) (ref01_Mixed_l8_L n) ref01_Mixed_l8_h ref01_Mixed_l8_x 8 ref01_Mixed_l8_c k (m) (mkSt ref01_Mixed_l8_h [(.vs p0 (.int .u32 p1)), (.ptr 6 []), (.str p2), (.mw 60 (.int .u32)), (.int .i64 p3), (.mw 5000 (.int .u32)), (.int .i64 p4), (.int .u32 p5), (.int .i64 p6)] [(.arr 32 (.u8 p7)), (.lst (.int .u32 p8)), (.lst (.int .u32 p9))])) (fun x0 x1 x2 x3 x4 x5 x6 x7 x8 => k .nrm (mkSt (ref01_Mixed_l8_x (.exit 8)) [(.vs x0 (.int .u32 x1)), (.ptr 6 []), (.str x2), (.mw 60 (.int .u32)), (.int .i64 x3), (.mw 5000 (.int .u32)), (.int .i64 x4), (.int .u32 x5)] [(.arr 32 (.u8 x6)), (.lst (.int .u32 x7)), (.lst (.int .u32 x8))])) by kernel_rfl).trans (congrArg (fun R => ref01_Mixed_l8_s n p0 p1 p2 p3 p4 p5 p6 p7 p8 p9 R (fun x0 x1 x2 x3 x4 x5 x6 x7 x8 => k .nrm (mkSt (ref01_Mixed_l8_x (.exit 8)) [(.vs x0 (.int .u32 x1)), (.ptr 6 []), (.str x2), (.mw 60 (.int .u32)), (.int .i64 x3), (.mw 5000 (.int .u32)), (.int .i64 x4), (.int .u32 x5)] [(.arr 32 (.u8 x6)), (.lst (.int .u32 x7)), (.lst (.int .u32 x8))]))) (funext fun p0 => funext fun p1 => funext fun p2 => funext fun p3 => funext fun p4 => funext fun p5 => funext fun p6 => funext fun p7 => funext fun p8 => funext fun p9 => ref01_Mixed_l8_e n k m p0 p1 p2 p3 p4 p5 p6 p7 p8 p9))
noncomputable def ref01_Mixed_l10_h : Keep := ⟨[1, 6, 8, 11, 12, 13, 19, 20], [((.slot 19), 5010)], [6, 60, 5000], [], []⟩
noncomputable def ref01_Mixed_l10_x : EX → Keep
  | .exit 10 => ⟨[1, 6, 8, 11, 12, 19], [], [6, 60, 5010], [], []⟩
  | _ => ⟨[], [], [], [], []⟩
noncomputable def ref01_Mixed_l10_p (n : Nat) : PLoop CT := fun _ v o => match v, o with
  | [(.vs p0 (.int .u32 p1)), (.ptr 6 []), (.str p2), (.mw 60 (.int .u32)), (.int .i64 p3), (.mw 5000 (.int .u32)), (.mw 5010 (.int .u32)), (.int .i64 p4)], [(.lst (.int .u32 p5)), (.arr 32 (.u8 p6)), (.lst (.int .u32 p7)), (.lst (.int .u32 p8))] => some fun k => ref01_Mixed_l10 n n p0 p1 p2 p3 p4 p5 p6 p7 p8 (fun x0 x1 x2 x3 x4 x5 x6 => k .nrm (mkSt (ref01_Mixed_l10_x (.exit 10)) [(.vs x0 (.int .u32 x1)), (.ptr 6 []), (.str x2), (.mw 60 (.int .u32)), (.int .i64 x3), (.mw 5010 (.int .u32))] [(.arr 32 (.u8 x4)), (.lst (.int .u32 x5)), (.lst (.int .u32 x6))]))
  | _, _ => none
noncomputable def ref01_Mixed_l10_L (n : Nat) : Lam CT := ll []
noncomputable def ref01_Mixed_l10_c : Code := cLoop (cBody (cB (cA (cB (cB (cB (cBody (cA (cB (cBody (cBody (cB (cA (cB (cB (cB (cB (cB (cB (cB (cB c13)))))))))))))))))))))
theorem ref01_Mixed_l10_e (n : Nat) {β : Type} (k : EX → St CT → Option β) : ∀ (m : Nat) (p0 : Bool) (p1 : List Int) (p2 : List UInt8) (p3 : Int) (p4 : Int) (p5 : List Int) (p6 : List UInt8) (p7 : List Int) (p8 : List Int), loopK TT (ref01_Mixed_G n) (ref01_Mixed_l10_L n) ref01_Mixed_l10_h ref01_Mixed_l10_x 10 ref01_Mixed_l10_c k (m) (mkSt ref01_Mixed_l10_h [(.vs p0 (.int .u32 p1)), (.ptr 6 []), (.str p2), (.mw 60 (.int .u32)), (.int .i64 p3), (.mw 5000 (.int .u32)), (.mw 5010 (.int .u32)), (.int .i64 p4)] [(.lst (.int .u32 p5)), (.arr 32 (.u8 p6)), (.lst (.int .u32 p7)), (.lst (.int .u32 p8))]) = ref01_Mixed_l10 n m p0 p1 p2 p3 p4 p5 p6 p7 p8 (fun x0 x1 x2 x3 x4 x5 x6 => k .nrm (mkSt (ref01_Mixed_l10_x (.exit 10)) [(.vs x0 (.int .u32 x1)), (.ptr 6 []), (.str x2), (.mw 60 (.int .u32)), (.int .i64 x3), (.mw 5010 (.int .u32))] [(.arr 32 (.u8 x4)), (.lst (.int .u32 x5)), (.lst (.int .u32 x6))]))
  | 0, _, _, _, _, _, _, _, _, _ => rfl
  | m + 1, p0, p1, p2, p3, p4, p5, p6, p7, p8 => (show loopK TT (ref01_Mixed_G n) (ref01_Mixed_l10_L n) ref01_Mixed_l10_h ref01_Mixed_l10_x 10 ref01_Mixed_l10_c k (m + 1) (mkSt ref01_Mixed_l10_h [(.vs p0 (.int .u32 p1)), (.ptr 6 []), (.str p2), (.mw 60 (.int .u32)), (.int .i64 p3), (.mw 5000 (.int .u32)), (.mw 5010 (.int .u32)), (.int .i64 p4)] [(.lst (.int .u32 p5)), (.arr 32 (.u8 p6)), (.lst (.int .u32 p7)), (.lst (.int .u32 p8))]) = ref01_Mixed_l10_s n p0 p1 p2 p3 p4 p5 p6 p7 p8 (fun p0 p1 p2 p3 p4 p5 p6 p7 p8 => loopK TT (ref01_Mixed_G n) (ref01_Mixed_l10_L n) ref01_Mixed_l10_h ref01_Mixed_l10_x 10 ref01_Mixed_l10_c k (m) (mkSt ref01_Mixed_l10_h [(.vs p0 (.int .u32 p1)), (.ptr 6 []), (.str p2), (.mw 60 (.int .u32)), (.int .i64 p3), (.mw 5000 (.int .u32)), (.mw 5010 (.int .u32)), (.int .i64 p4)] [(.lst (.int .u32 p5)), (.arr 32 (.u8 p6)), (.lst (.int .u32 p7)), (.lst (.int .u32 p8))])) (fun x0 x1 x2 x3 x4 x5 x6 => k .nrm (mkSt (ref01_Mixed_l10_x (.exit 10)) [(.vs x0 (.int .u32 x1)), (.ptr 6 []), (.str x2), (.mw 60 (.int .u32)), (.int .i64 x3), (.mw 5010 (.int .u32))] [(.arr 32 (.u8 x4)), (.lst (.int .u32 x5)), (.lst (.int .u32 x6))])) by kernel_rfl).trans (congrArg (fun R => ref01_Mixed_l10_s n p0 p1 p2 p3 p4 p5 p6 p7 p8 R (fun x0 x1 x2 x3 x4 x5 x6 => k .nrm (mkSt (ref01_Mixed_l10_x (.exit 10)) [(.vs x0 (.int .u32 x1)), (.ptr 6 []), (.str x2), (.mw 60 (.int .u32)), (.int .i64 x3), (.mw 5010 (.int .u32))] [(.arr 32 (.u8 x4)), (.lst (.int .u32 x5)), (.lst (.int .u32 x6))]))) (funext fun p0 => funext fun p1 => funext fun p2 => funext fun p3 => funext fun p4 => funext fun p5 => funext fun p6 => funext fun p7 => funext fun p8 => ref01_Mixed_l10_e n k m p0 p1 p2 p3 p4 p5 p6 p7 p8))
noncomputable def ref01_Mixed_l12_h : Keep := ⟨[1, 6, 8, 11, 12, 19, 255, 256], [], [6, 60, 5010], [], []⟩
noncomputable def ref01_Mixed_l12_x : EX → Keep
  | .exit 12 => ⟨[1, 6, 8, 11, 12], [], [6, 60], [], []⟩
  | _ => ⟨[], [], [], [], []⟩
noncomputable def ref01_Mixed_l12_p (n : Nat) : PLoop CT := fun _ v o => match v, o with
  | [(.vs p0 (.int .u32 p1)), (.ptr 6 []), (.str p2), (.mw 60 (.int .u32)), (.int .i64 p3), (.mw 5010 (.int .u32)), (.int .i64 p4), (.int .i64 p5)], [(.arr 32 (.u8 p6)), (.lst (.int .u32 p7)), (.lst (.int .u32 p8))] => some fun k => ref01_Mixed_l12 n n p0 p1 p2 p3 p4 p5 p6 p7 p8 (fun x0 x1 x2 x3 x4 x5 => k .nrm (mkSt (ref01_Mixed_l12_x (.exit 12)) [(.vs x0 (.int .u32 x1)), (.ptr 6 []), (.str x2), (.mw 60 (.int .u32)), (.int .i64 x3)] [(.arr 32 (.u8 x4)), (.lst (.int .u32 x5))]))
  | _, _ => none
noncomputable def ref01_Mixed_l12_L (n : Nat) : Lam CT := ll []
noncomputable def ref01_Mixed_l12_c : Code := cLoop (cBody (cB (cB (cB (cB (cB (cBody (cA (cB (cBody (cBody (cB (cA (cB (cB (cB (cB (cB (cB (cB (cB c13)))))))))))))))))))))
theorem ref01_Mixed_l12_e (n : Nat) {β : Type} (k : EX → St CT → Option β) : ∀ (m : Nat) (p0 : Bool) (p1 : List Int) (p2 : List UInt8) (p3 : Int) (p4 : Int) (p5 : Int) (p6 : List UInt8) (p7 : List Int) (p8 : List Int), loopK TT (ref01_Mixed_G n) (ref01_Mixed_l12_L n) ref01_Mixed_l12_h ref01_Mixed_l12_x 12 ref01_Mixed_l12_c k (m) (mkSt ref01_Mixed_l12_h [(.vs p0 (.int .u32 p1)), (.ptr 6 []), (.str p2), (.mw 60 (.int .u32)), (.int .i64 p3), (.mw 5010 (.int .u32)), (.int .i64 p4), (.int .i64 p5)] [(.arr 32 (.u8 p6)), (.lst (.int .u32 p7)), (.lst (.int .u32 p8))]) = ref01_Mixed_l12 n m p0 p1 p2 p3 p4 p5 p6 p7 p8 (fun x0 x1 x2 x3 x4 x5 => k .nrm (mkSt (ref01_Mixed_l12_x (.exit 12)) [(.vs x0 (.int .u32 x1)), (.ptr 6 []), (.str x2), (.mw 60 (.int .u32)), (.int .i64 x3)] [(.arr 32 (.u8 x4)), (.lst (.int .u32 x5))]))
  | 0, _, _, _, _, _, _, _, _, _ => rfl
  | m + 1, p0, p1, p2, p3, p4, p5, p6, p7, p8 => (show loopK TT (ref01_Mixed_G n) (ref01_Mixed_l12_L n) ref01_Mixed_l12_h ref01_Mixed_l12_x 12 ref01_Mixed_l12_c k (m + 1) (mkSt ref01_Mixed_l12_h [(.vs p0 (.int .u32 p1)), (.ptr 6 []), (.str p2), (.mw 60 (.int .u32)), (.int .i64 p3), (.mw 5010 (.int .u32)), (.int .i64 p4), (.int .i64 p5)] [(.arr 32 (.u8 p6)), (.lst (.int .u32 p7)), (.lst (.int .u32 p8))]) = ref01_Mixed_l12_s n p0 p1 p2 p3 p4 p5 p6 p7 p8 (fun p0 p1 p2 p3 p4 p5 p6 p7 p8 => loopK TT (ref01_Mixed_G n) (ref01_Mixed_l12_L n) ref01_Mixed_l12_h ref01_Mixed_l12_x 12 ref01_Mixed_l12_c k (m) (mkSt ref01_Mixed_l12_h [(.vs p0 (.int .u32 p1)), (.ptr 6 []), (.str p2), (.mw 60 (.int .u32)), (.int .i64 p3), (.mw 5010 (.int .u32)), (.int .i64 p4), (.int .i64 p5)] [(.arr 32 (.u8 p6)), (.lst (.int .u32 p7)), (.lst (.int .u32 p8))])) (fun x0 x1 x2 x3 x4 x5 => k .nrm (mkSt (ref01_Mixed_l12_x (.exit 12)) [(.vs x0 (.int .u32 x1)), (.ptr 6 []), (.str x2), (.mw 60 (.int .u32)), (.int .i64 x3)] [(.arr 32 (.u8 x4)), (.lst (.int .u32 x5))])) by kernel_rfl).trans (congrArg (fun R => ref01_Mixed_l12_s n p0 p1 p2 p3 p4 p5 p6 p7 p8 R (fun x0 x1 x2 x3 x4 x5 => k .nrm (mkSt (ref01_Mixed_l12_x (.exit 12)) [(.vs x0 (.int .u32 x1)), (.ptr 6 []), (.str x2), (.mw 60 (.int .u32)), (.int .i64 x3)] [(.arr 32 (.u8 x4)), (.lst (.int .u32 x5))]))) (funext fun p0 => funext fun p1 => funext fun p2 => funext fun p3 => funext fun p4 => funext fun p5 => funext fun p6 => funext fun p7 => funext fun p8 => ref01_Mixed_l12_e n k m p0 p1 p2 p3 p4 p5 p6 p7 p8))
noncomputable def ref01_Mixed_l16_h : Keep := ⟨[6, 26, 27, 28, 29, 270, 271, 272], [], [6, 26, 60], [], []⟩
noncomputable def ref01_Mixed_l16_x : EX → Keep
  | .exit 16 => ⟨[6, 26, 270, 271, 272], [], [6, 26, 60], [], []⟩
  | _ => ⟨[], [], [], [], []⟩
noncomputable def ref01_Mixed_l16_p (n : Nat) : PLoop CT := fun _ v o => match v, o with
  | [(.ptr 6 []), (.ptr 26 []), (.int .i64 p0), (.int .u32 p1), (.int .i64 p2), (.mw 60 (.int .u32)), (.int .i64 p3), (.int .i64 p4)], [(.arr 32 (.u8 p5)), (.arr 32 (.u8 p6)), (.lst (.int .u32 p7))] => some fun k => ref01_Mixed_l16 n n p0 p1 p2 p3 p4 p5 p6 p7 (fun x0 x1 x2 x3 x4 => k .nrm (mkSt (ref01_Mixed_l16_x (.exit 16)) [(.ptr 6 []), (.ptr 26 []), (.mw 60 (.int .u32)), (.int .i64 x0), (.int .i64 x1)] [(.arr 32 (.u8 x2)), (.arr 32 (.u8 x3)), (.lst (.int .u32 x4))]))
  | _, _ => none
noncomputable def ref01_Mixed_l16_L (n : Nat) : Lam CT := ll []
noncomputable def ref01_Mixed_l16_c : Code := cLoop (cBody (cB (cB (cBody (cA (cB (cB (cBody (cBody (cB (cA (cB (cB (cB (cB (cB (cB (cB (cB (cB (cB c13)))))))))))))))))))))
theorem ref01_Mixed_l16_e (n : Nat) {β : Type} (k : EX → St CT → Option β) : ∀ (m : Nat) (p0 : Int) (p1 : Int) (p2 : Int) (p3 : Int) (p4 : Int) (p5 : List UInt8) (p6 : List UInt8) (p7 : List Int), loopK TT (ref01_Mixed_G n) (ref01_Mixed_l16_L n) ref01_Mixed_l16_h ref01_Mixed_l16_x 16 ref01_Mixed_l16_c k (m) (mkSt ref01_Mixed_l16_h [(.ptr 6 []), (.ptr 26 []), (.int .i64 p0), (.int .u32 p1), (.int .i64 p2), (.mw 60 (.int .u32)), (.int .i64 p3), (.int .i64 p4)] [(.arr 32 (.u8 p5)), (.arr 32 (.u8 p6)), (.lst (.int .u32 p7))]) = ref01_Mixed_l16 n m p0 p1 p2 p3 p4 p5 p6 p7 (fun x0 x1 x2 x3 x4 => k .nrm (mkSt (ref01_Mixed_l16_x (.exit 16)) [(.ptr 6 []), (.ptr 26 []), (.mw 60 (.int .u32)), (.int .i64 x0), (.int .i64 x1)] [(.arr 32 (.u8 x2)), (.arr 32 (.u8 x3)), (.lst (.int .u32 x4))]))
  | 0, _, _, _, _, _, _, _, _ => rfl
  | m + 1, p0, p1, p2, p3, p4, p5, p6, p7 => (show loopK TT (ref01_Mixed_G n) (ref01_Mixed_l16_L n) ref01_Mixed_l16_h ref01_Mixed_l16_x 16 ref01_Mixed_l16_c k (m + 1) (mkSt ref01_Mixed_l16_h [(.ptr 6 []), (.ptr 26 []), (.int .i64 p0), (.int .u32 p1), (.int .i64 p2), (.mw 60 (.int .u32)), (.int .i64 p3), (.int .i64 p4)] [(.arr 32 (.u8 p5)), (.arr 32 (.u8 p6)), (.lst (.int .u32 p7))]) = ref01_Mixed_l16_s n p0 p1 p2 p3 p4 p5 p6 p7 (fun p0 p1 p2 p3 p4 p5 p6 p7 => loopK TT (ref01_Mixed_G n) (ref01_Mixed_l16_L n) ref01_Mixed_l16_h ref01_Mixed_l16_x 16 ref01_Mixed_l16_c k (m) (mkSt ref01_Mixed_l16_h [(.ptr 6 []), (.ptr 26 []), (.int .i64 p0), (.int .u32 p1), (.int .i64 p2), (.mw 60 (.int .u32)), (.int .i64 p3), (.int .i64 p4)] [(.arr 32 (.u8 p5)), (.arr 32 (.u8 p6)), (.lst (.int .u32 p7))])) (fun x0 x1 x2 x3 x4 => k .nrm (mkSt (ref01_Mixed_l16_x (.exit 16)) [(.ptr 6 []), (.ptr 26 []), (.mw 60 (.int .u32)), (.int .i64 x0), (.int .i64 x1)] [(.arr 32 (.u8 x2)), (.arr 32 (.u8 x3)), (.lst (.int .u32 x4))])) by kernel_rfl).trans (congrArg (fun R => ref01_Mixed_l16_s n p0 p1 p2 p3 p4 p5 p6 p7 R (fun x0 x1 x2 x3 x4 => k .nrm (mkSt (ref01_Mixed_l16_x (.exit 16)) [(.ptr 6 []), (.ptr 26 []), (.mw 60 (.int .u32)), (.int .i64 x0), (.int .i64 x1)] [(.arr 32 (.u8 x2)), (.arr 32 (.u8 x3)), (.lst (.int .u32 x4))]))) (funext fun p0 => funext fun p1 => funext fun p2 => funext fun p3 => funext fun p4 => funext fun p5 => funext fun p6 => funext fun p7 => ref01_Mixed_l16_e n k m p0 p1 p2 p3 p4 p5 p6 p7))
noncomputable def ref01_Mixed_l6_h : Keep := ⟨[1, 6, 8, 11, 12, 13, 14], [((.slot 13), 5000)], [6, 60], [], []⟩
noncomputable def ref01_Mixed_l6_x : EX → Keep
  | .exit 6 => ⟨[1, 6, 8, 11, 12, 13], [], [6, 60, 5000], [], []⟩
  | _ => ⟨[], [], [], [], []⟩
noncomputable def ref01_Mixed_l6_p (n : Nat) : PLoop CT := fun _ v o => match v, o with
  | [(.vs p0 (.int .u32 p1)), (.ptr 6 []), (.str p2), (.mw 60 (.int .u32)), (.int .i64 p3), (.mw 5000 (.int .u32)), (.int .i64 p4)], [(.lst (.int .u32 p5)), (.arr 32 (.u8 p6)), (.lst (.int .u32 p7))] => some fun k => ref01_Mixed_l6 n n p0 p1 p2 p3 p4 p5 p6 p7 (fun x0 x1 x2 x3 x4 x5 x6 => k .nrm (mkSt (ref01_Mixed_l6_x (.exit 6)) [(.vs x0 (.int .u32 x1)), (.ptr 6 []), (.str x2), (.mw 60 (.int .u32)), (.int .i64 x3), (.mw 5000 (.int .u32))] [(.arr 32 (.u8 x4)), (.lst (.int .u32 x5)), (.lst (.int .u32 x6))]))
  | _, _ => none
noncomputable def ref01_Mixed_l6_L (n : Nat) : Lam CT := ll [(8, ref01_Mixed_l8_h, ref01_Mixed_l8_p n)]
noncomputable def ref01_Mixed_l6_c : Code := cLoop (cBody (cB (cA (cB (cBody (cA (cB (cBody (cBody (cB (cA (cB (cB (cB (cB (cB (cB (cB (cB c13)))))))))))))))))))
theorem ref01_Mixed_l6_e (n : Nat) {β : Type} (k : EX → St CT → Option β) : ∀ (m : Nat) (p0 : Bool) (p1 : List Int) (p2 : List UInt8) (p3 : Int) (p4 : Int) (p5 : List Int) (p6 : List UInt8) (p7 : List Int), loopK TT (ref01_Mixed_G n) (ref01_Mixed_l6_L n) ref01_Mixed_l6_h ref01_Mixed_l6_x 6 ref01_Mixed_l6_c k (m) (mkSt ref01_Mixed_l6_h [(.vs p0 (.int .u32 p1)), (.ptr 6 []), (.str p2), (.mw 60 (.int .u32)), (.int .i64 p3), (.mw 5000 (.int .u32)), (.int .i64 p4)] [(.lst (.int .u32 p5)), (.arr 32 (.u8 p6)), (.lst (.int .u32 p7))]) = ref01_Mixed_l6 n m p0 p1 p2 p3 p4 p5 p6 p7 (fun x0 x1 x2 x3 x4 x5 x6 => k .nrm (mkSt (ref01_Mixed_l6_x (.exit 6)) [(.vs x0 (.int .u32 x1)), (.ptr 6 []), (.str x2), (.mw 60 (.int .u32)), (.int .i64 x3), (.mw 5000 (.int .u32))] [(.arr 32 (.u8 x4)), (.lst (.int .u32 x5)), (.lst (.int .u32 x6))]))
  | 0, _, _, _, _, _, _, _, _ => rfl
  | m + 1, p0, p1, p2, p3, p4, p5, p6, p7 => (show loopK TT (ref01_Mixed_G n) (ref01_Mixed_l6_L n) ref01_Mixed_l6_h ref01_Mixed_l6_x 6 ref01_Mixed_l6_c k (m + 1) (mkSt ref01_Mixed_l6_h [(.vs p0 (.int .u32 p1)), (.ptr 6 []), (.str p2), (.mw 60 (.int .u32)), (.int .i64 p3), (.mw 5000 (.int .u32)), (.int .i64 p4)] [(.lst (.int .u32 p5)), (.arr 32 (.u8 p6)), (.lst (.int .u32 p7))]) = ref01_Mixed_l6_s n p0 p1 p2 p3 p4 p5 p6 p7 (fun p0 p1 p2 p3 p4 p5 p6 p7 => loopK TT (ref01_Mixed_G n) (ref01_Mixed_l6_L n) ref01_Mixed_l6_h ref01_Mixed_l6_x 6 ref01_Mixed_l6_c k (m) (mkSt ref01_Mixed_l6_h [(.vs p0 (.int .u32 p1)), (.ptr 6 []), (.str p2), (.mw 60 (.int .u32)), (.int .i64 p3), (.mw 5000 (.int .u32)), (.int .i64 p4)] [(.lst (.int .u32 p5)), (.arr 32 (.u8 p6)), (.lst (.int .u32 p7))])) (fun x0 x1 x2 x3 x4 x5 x6 => k .nrm (mkSt (ref01_Mixed_l6_x (.exit 6)) [(.vs x0 (.int .u32 x1)), (.ptr 6 []), (.str x2), (.mw 60 (.int .u32)), (.int .i64 x3), (.mw 5000 (.int .u32))] [(.arr 32 (.u8 x4)), (.lst (.int .u32 x5)), (.lst (.int .u32 x6))])) by kernel_rfl).trans (congrArg (fun R => ref01_Mixed_l6_s n p0 p1 p2 p3 p4 p5 p6 p7 R (fun x0 x1 x2 x3 x4 x5 x6 => k .nrm (mkSt (ref01_Mixed_l6_x (.exit 6)) [(.vs x0 (.int .u32 x1)), (.ptr 6 []), (.str x2), (.mw 60 (.int .u32)), (.int .i64 x3), (.mw 5000 (.int .u32))] [(.arr 32 (.u8 x4)), (.lst (.int .u32 x5)), (.lst (.int .u32 x6))]))) (funext fun p0 => funext fun p1 => funext fun p2 => funext fun p3 => funext fun p4 => funext fun p5 => funext fun p6 => funext fun p7 => ref01_Mixed_l6_e n k m p0 p1 p2 p3 p4 p5 p6 p7))
noncomputable def ref01_Mixed_l14_h : Keep := ⟨[6, 26, 270, 271, 272], [], [6, 26, 60], [], []⟩
noncomputable def ref01_Mixed_l14_x : EX → Keep
  | .exit 14 => ⟨[6, 26], [], [6, 26], [], []⟩
  | _ => ⟨[], [], [], [], []⟩
noncomputable def ref01_Mixed_l14_p (n : Nat) : PLoop CT := fun _ v o => match v, o with
  | [(.ptr 6 []), (.ptr 26 []), (.mw 60 (.int .u32)), (.int .i64 p0), (.int .i64 p1)], [(.arr 32 (.u8 p2)), (.arr 32 (.u8 p3)), (.lst (.int .u32 p4))] => some fun k => ref01_Mixed_l14 n n p0 p1 p2 p3 p4 (fun x0 x1 => k .nrm (mkSt (ref01_Mixed_l14_x (.exit 14)) [(.ptr 6 []), (.ptr 26 [])] [(.arr 32 (.u8 x0)), (.arr 32 (.u8 x1))]))
  | _, _ => none
noncomputable def ref01_Mixed_l14_L (n : Nat) : Lam CT := ll [(16, ref01_Mixed_l16_h, ref01_Mixed_l16_p n)]
noncomputable def ref01_Mixed_l14_c : Code := cLoop (cBody (cB (cA (cB (cB (cB (cB (cB (cB (cB (cB (cB (cB c13)))))))))))))
theorem ref01_Mixed_l14_e (n : Nat) {β : Type} (k : EX → St CT → Option β) : ∀ (m : Nat) (p0 : Int) (p1 : Int) (p2 : List UInt8) (p3 : List UInt8) (p4 : List Int), loopK TT (ref01_Mixed_G n) (ref01_Mixed_l14_L n) ref01_Mixed_l14_h ref01_Mixed_l14_x 14 ref01_Mixed_l14_c k (m) (mkSt ref01_Mixed_l14_h [(.ptr 6 []), (.ptr 26 []), (.mw 60 (.int .u32)), (.int .i64 p0), (.int .i64 p1)] [(.arr 32 (.u8 p2)), (.arr 32 (.u8 p3)), (.lst (.int .u32 p4))]) = ref01_Mixed_l14 n m p0 p1 p2 p3 p4 (fun x0 x1 => k .nrm (mkSt (ref01_Mixed_l14_x (.exit 14)) [(.ptr 6 []), (.ptr 26 [])] [(.arr 32 (.u8 x0)), (.arr 32 (.u8 x1))]))
  | 0, _, _, _, _, _ => rfl
  | m + 1, p0, p1, p2, p3, p4 => (show loopK TT (ref01_Mixed_G n) (ref01_Mixed_l14_L n) ref01_Mixed_l14_h ref01_Mixed_l14_x 14 ref01_Mixed_l14_c k (m + 1) (mkSt ref01_Mixed_l14_h [(.ptr 6 []), (.ptr 26 []), (.mw 60 (.int .u32)), (.int .i64 p0), (.int .i64 p1)] [(.arr 32 (.u8 p2)), (.arr 32 (.u8 p3)), (.lst (.int .u32 p4))]) = ref01_Mixed_l14_s n p0 p1 p2 p3 p4 (fun p0 p1 p2 p3 p4 => loopK TT (ref01_Mixed_G n) (ref01_Mixed_l14_L n) ref01_Mixed_l14_h ref01_Mixed_l14_x 14 ref01_Mixed_l14_c k (m) (mkSt ref01_Mixed_l14_h [(.ptr 6 []), (.ptr 26 []), (.mw 60 (.int .u32)), (.int .i64 p0), (.int .i64 p1)] [(.arr 32 (.u8 p2)), (.arr 32 (.u8 p3)), (.lst (.int .u32 p4))])) (fun x0 x1 => k .nrm (mkSt (ref01_Mixed_l14_x (.exit 14)) [(.ptr 6 []), (.ptr 26 [])] [(.arr 32 (.u8 x0)), (.arr 32 (.u8 x1))])) by kernel_rfl).trans (congrArg (fun R => ref01_Mixed_l14_s n p0 p1 p2 p3 p4 R (fun x0 x1 => k .nrm (mkSt (ref01_Mixed_l14_x (.exit 14)) [(.ptr 6 []), (.ptr 26 [])] [(.arr 32 (.u8 x0)), (.arr 32 (.u8 x1))]))) (funext fun p0 => funext fun p1 => funext fun p2 => funext fun p3 => funext fun p4 => ref01_Mixed_l14_e n k m p0 p1 p2 p3 p4))
noncomputable def ref01_Mixed_l4_h : Keep := ⟨[1, 6, 8, 11, 12], [], [6, 60], [], []⟩
noncomputable def ref01_Mixed_l4_x : EX → Keep
  | .exit 4 => ⟨[6, 11], [], [6, 60], [], []⟩
  | _ => ⟨[], [], [], [], []⟩
noncomputable def ref01_Mixed_l4_p (n : Nat) : PLoop CT := fun _ v o => match v, o with
  | [(.vs p0 (.int .u32 p1)), (.ptr 6 []), (.str p2), (.mw 60 (.int .u32)), (.int .i64 p3)], [(.arr 32 (.u8 p4)), (.lst (.int .u32 p5))] => some fun k => ref01_Mixed_l4 n n p0 p1 p2 p3 p4 p5 (fun x0 x1 => k .nrm (mkSt (ref01_Mixed_l4_x (.exit 4)) [(.ptr 6 []), (.mw 60 (.int .u32))] [(.arr 32 (.u8 x0)), (.lst (.int .u32 x1))]))
  | _, _ => none
noncomputable def ref01_Mixed_l4_L (n : Nat) : Lam CT := ll [(8, ref01_Mixed_l8_h, ref01_Mixed_l8_p n), (6, ref01_Mixed_l6_h, ref01_Mixed_l6_p n), (10, ref01_Mixed_l10_h, ref01_Mixed_l10_p n), (12, ref01_Mixed_l12_h, ref01_Mixed_l12_p n)]
noncomputable def ref01_Mixed_l4_c : Code := cLoop (cBody (cB (cA (cB (cB (cB (cB (cB (cB (cB (cB c13)))))))))))
theorem ref01_Mixed_l4_e (n : Nat) {β : Type} (k : EX → St CT → Option β) : ∀ (m : Nat) (p0 : Bool) (p1 : List Int) (p2 : List UInt8) (p3 : Int) (p4 : List UInt8) (p5 : List Int), loopK TT (ref01_Mixed_G n) (ref01_Mixed_l4_L n) ref01_Mixed_l4_h ref01_Mixed_l4_x 4 ref01_Mixed_l4_c k (m) (mkSt ref01_Mixed_l4_h [(.vs p0 (.int .u32 p1)), (.ptr 6 []), (.str p2), (.mw 60 (.int .u32)), (.int .i64 p3)] [(.arr 32 (.u8 p4)), (.lst (.int .u32 p5))]) = ref01_Mixed_l4 n m p0 p1 p2 p3 p4 p5 (fun x0 x1 => k .nrm (mkSt (ref01_Mixed_l4_x (.exit 4)) [(.ptr 6 []), (.mw 60 (.int .u32))] [(.arr 32 (.u8 x0)), (.lst (.int .u32 x1))]))
  | 0, _, _, _, _, _, _ => rfl
  | m + 1, p0, p1, p2, p3, p4, p5 => (show loopK TT (ref01_Mixed_G n) (ref01_Mixed_l4_L n) ref01_Mixed_l4_h ref01_Mixed_l4_x 4 ref01_Mixed_l4_c k (m + 1) (mkSt ref01_Mixed_l4_h [(.vs p0 (.int .u32 p1)), (.ptr 6 []), (.str p2), (.mw 60 (.int .u32)), (.int .i64 p3)] [(.arr 32 (.u8 p4)), (.lst (.int .u32 p5))]) = ref01_Mixed_l4_s n p0 p1 p2 p3 p4 p5 (fun p0 p1 p2 p3 p4 p5 => loopK TT (ref01_Mixed_G n) (ref01_Mixed_l4_L n) ref01_Mixed_l4_h ref01_Mixed_l4_x 4 ref01_Mixed_l4_c k (m) (mkSt ref01_Mixed_l4_h [(.vs p0 (.int .u32 p1)), (.ptr 6 []), (.str p2), (.mw 60 (.int .u32)), (.int .i64 p3)] [(.arr 32 (.u8 p4)), (.lst (.int .u32 p5))])) (fun x0 x1 => k .nrm (mkSt (ref01_Mixed_l4_x (.exit 4)) [(.ptr 6 []), (.mw 60 (.int .u32))] [(.arr 32 (.u8 x0)), (.lst (.int .u32 x1))])) by kernel_rfl).trans (congrArg (fun R => ref01_Mixed_l4_s n p0 p1 p2 p3 p4 p5 R (fun x0 x1 => k .nrm (mkSt (ref01_Mixed_l4_x (.exit 4)) [(.ptr 6 []), (.mw 60 (.int .u32))] [(.arr 32 (.u8 x0)), (.lst (.int .u32 x1))]))) (funext fun p0 => funext fun p1 => funext fun p2 => funext fun p3 => funext fun p4 => funext fun p5 => ref01_Mixed_l4_e n k m p0 p1 p2 p3 p4 p5))
noncomputable def ref01_Mixed_Λ (n : Nat) : Lam CT := ll [(0, ref01_Mixed_l0_h, ref01_Mixed_l0_p n), (2, ref01_Mixed_l2_h, ref01_Mixed_l2_p n), (8, ref01_Mixed_l8_h, ref01_Mixed_l8_p n), (10, ref01_Mixed_l10_h, ref01_Mixed_l10_p n), (12, ref01_Mixed_l12_h, ref01_Mixed_l12_p n), (16, ref01_Mixed_l16_h, ref01_Mixed_l16_p n), (6, ref01_Mixed_l6_h, ref01_Mixed_l6_p n), (14, ref01_Mixed_l14_h, ref01_Mixed_l14_p n), (4, ref01_Mixed_l4_h, ref01_Mixed_l4_p n)]
theorem ref01_Mixed_r (n : Nat) {β : Type} (a0 : List UInt8) (a1 : Bool) (a2 : List Int) (a3 : Bool) (a4 : List Int) (K : Res CT → Option β) : runFn TT (ref01_Mixed_G n) (ref01_Mixed_Λ n) Try.f13 c13 false true [(.str a0), (.vs a1 (.int .u32 a2)), (.vs a3 (.int .u32 a4))] [] K = ref01_Mixed n a0 a1 a2 a3 a4 (fun z0 => K ⟨(.arr 32 (.u8 z0)), [], []⟩) := by kernel_rfl
theorem ref01_Mixed_Gok (n : Nat) : GamOk (CallsOk Try.prog cod) (ref01_Mixed_G n) := gl_cons (ref01_rotr_ok n) (gl_nil _ _)
theorem ref01_Mixed_l0_ok (n : Nat) : LoopOk Try.prog TT Try.f13.ntmps 0 (.loop ref01_Mixed_l0_c) ref01_Mixed_l0_h (ref01_Mixed_l0_p n) := by
  intro β vals obs F k r hs hF
  unfold ref01_Mixed_l0_p at hs
  split at hs
  · cases hs
    exact loop_sound TT_ok (fun _ _ _ _ h => h) (ref01_Mixed_Gok n) mixed (by kernel_rfl) (ll_ok (by kernel_rfl) (loops_nil)) n _ ((ref01_Mixed_l0_e n k n _ _ _ _ _ _ _).trans hF)
  · cases hs
theorem ref01_Mixed_l2_ok (n : Nat) : LoopOk Try.prog TT Try.f13.ntmps 2 (.loop ref01_Mixed_l2_c) ref01_Mixed_l2_h (ref01_Mixed_l2_p n) := by
  intro β vals obs F k r hs hF
  unfold ref01_Mixed_l2_p at hs
  split at hs
  · cases hs
    exact loop_sound TT_ok (fun _ _ _ _ h => h) (ref01_Mixed_Gok n) mixed (by kernel_rfl) (ll_ok (by kernel_rfl) (loops_nil)) n _ ((ref01_Mixed_l2_e n k n _ _ _ _ _ _ _ _ _).trans hF)
  · cases hs
theorem ref01_Mixed_l8_ok (n : Nat) : LoopOk Try.prog TT Try.f13.ntmps 8 (.loop ref01_Mixed_l8_c) ref01_Mixed_l8_h (ref01_Mixed_l8_p n) := by
  intro β vals obs F k r hs hF
  unfold ref01_Mixed_l8_p at hs
  split at hs
  · cases hs
    exact loop_sound TT_ok (fun _ _ _ _ h => h) (ref01_Mixed_Gok n) mixed (by kernel_rfl) (ll_ok (by kernel_rfl) (loops_nil)) n _ ((ref01_Mixed_l8_e n k n _ _ _ _ _ _ _ _ _ _).trans hF)
  · cases hs
theorem ref01_Mixed_l10_ok (n : Nat) : LoopOk Try.prog TT Try.f13.ntmps 10 (.loop ref01_Mixed_l10_c) ref01_Mixed_l10_h (ref01_Mixed_l10_p n) := by
  intro β vals obs F k r hs hF
  unfold ref01_Mixed_l10_p at hs
  split at hs
  · cases hs
    exact loop_sound TT_ok (fun _ _ _ _ h => h) (ref01_Mixed_Gok n) mixed (by kernel_rfl) (ll_ok (by kernel_rfl) (loops_nil)) n _ ((ref01_Mixed_l10_e n k n _ _ _ _ _ _ _ _ _).trans hF)
  · cases hs
theorem ref01_Mixed_l12_ok (n : Nat) : LoopOk Try.prog TT Try.f13.ntmps 12 (.loop ref01_Mixed_l12_c) ref01_Mixed_l12_h (ref01_Mixed_l12_p n) := by
  intro β vals obs F k r hs hF
  unfold ref01_Mixed_l12_p at hs
  split at hs
  · cases hs
    exact loop_sound TT_ok (fun _ _ _ _ h => h) (ref01_Mixed_Gok n) mixed (by kernel_rfl) (ll_ok (by kernel_rfl) (loops_nil)) n _ ((ref01_Mixed_l12_e n k n _ _ _ _ _ _ _ _ _).trans hF)
  · cases hs
theorem ref01_Mixed_l16_ok (n : Nat) : LoopOk Try.prog TT Try.f13.ntmps 16 (.loop ref01_Mixed_l16_c) ref01_Mixed_l16_h (ref01_Mixed_l16_p n) := by
  intro β vals obs F k r hs hF
  unfold ref01_Mixed_l16_p at hs
  split at hs
  · cases hs
    exact loop_sound TT_ok (fun _ _ _ _ h => h) (ref01_Mixed_Gok n) mixed (by kernel_rfl) (ll_ok (by kernel_rfl) (loops_nil)) n _ ((ref01_Mixed_l16_e n k n _ _ _ _ _ _ _ _).trans hF)
  · cases hs
theorem ref01_Mixed_l6_ok (n : Nat) : LoopOk Try.prog TT Try.f13.ntmps 6 (.loop ref01_Mixed_l6_c) ref01_Mixed_l6_h (ref01_Mixed_l6_p n) := by
  intro β vals obs F k r hs hF
  unfold ref01_Mixed_l6_p at hs
  split at hs
  · cases hs
    exact loop_sound TT_ok (fun _ _ _ _ h => h) (ref01_Mixed_Gok n) mixed (by kernel_rfl) (ll_ok (by kernel_rfl) (loops_cons (by kernel_rfl) (ref01_Mixed_l8_ok n) (loops_nil))) n _ ((ref01_Mixed_l6_e n k n _ _ _ _ _ _ _ _).trans hF)
  · cases hs
theorem ref01_Mixed_l14_ok (n : Nat) : LoopOk Try.prog TT Try.f13.ntmps 14 (.loop ref01_Mixed_l14_c) ref01_Mixed_l14_h (ref01_Mixed_l14_p n) := by
  intro β vals obs F k r hs hF
  unfold ref01_Mixed_l14_p at hs
  split at hs
  · cases hs
    exact loop_sound TT_ok (fun _ _ _ _ h => h) (ref01_Mixed_Gok n) mixed (by kernel_rfl) (ll_ok (by kernel_rfl) (loops_cons (by kernel_rfl) (ref01_Mixed_l16_ok n) (loops_nil))) n _ ((ref01_Mixed_l14_e n k n _ _ _ _ _).trans hF)
  · cases hs
theorem ref01_Mixed_l4_ok (n : Nat) : LoopOk Try.prog TT Try.f13.ntmps 4 (.loop ref01_Mixed_l4_c) ref01_Mixed_l4_h (ref01_Mixed_l4_p n) := by
  intro β vals obs F k r hs hF
  unfold ref01_Mixed_l4_p at hs
  split at hs
  · cases hs
    exact loop_sound TT_ok (fun _ _ _ _ h => h) (ref01_Mixed_Gok n) mixed (by kernel_rfl) (ll_ok (by kernel_rfl) (loops_cons (by kernel_rfl) (ref01_Mixed_l8_ok n) (loops_cons (by kernel_rfl) (ref01_Mixed_l6_ok n) (loops_cons (by kernel_rfl) (ref01_Mixed_l10_ok n) (loops_cons (by kernel_rfl) (ref01_Mixed_l12_ok n) (loops_nil)))))) n _ ((ref01_Mixed_l4_e n k n _ _ _ _ _ _).trans hF)
  · cases hs
theorem ref01_Mixed_ok (n : Nat) : SpecOk Try.prog cod 13 (ref01_Mixed_p n) := by
  intro β args objs F K r hs hF
  unfold ref01_Mixed_p at hs
  split at hs
  · cases hs
    exact fn_sound TT_ok (fun _ _ _ _ h => h) (ref01_Mixed_Gok n) mixed Try.func13 (by kernel_rfl) (by kernel_rfl) (by kernel_rfl) (Nat.le_of_ble_eq_true (by kernel_rfl)) (ll_ok (by kernel_rfl) (loops_cons (by kernel_rfl) (ref01_Mixed_l0_ok n) (loops_cons (by kernel_rfl) (ref01_Mixed_l2_ok n) (loops_cons (by kernel_rfl) (ref01_Mixed_l8_ok n) (loops_cons (by kernel_rfl) (ref01_Mixed_l10_ok n) (loops_cons (by kernel_rfl) (ref01_Mixed_l12_ok n) (loops_cons (by kernel_rfl) (ref01_Mixed_l16_ok n) (loops_cons (by kernel_rfl) (ref01_Mixed_l6_ok n) (loops_cons (by kernel_rfl) (ref01_Mixed_l14_ok n) (loops_cons (by kernel_rfl) (ref01_Mixed_l4_ok n) (loops_nil))))))))))) ((ref01_Mixed_r n _ _ _ _ _ K).trans hF)
  · cases hs

noncomputable def c8 : Code := Try.f8.body.getD .skip
noncomputable def ref01_Sum_G (n : Nat) : Gam CT := gl [(13, ref01_Mixed_p n), (9, ref01_Table_p n)]
noncomputable def ref01_Sum_Λ (n : Nat) : Lam CT := ll []
theorem ref01_Sum_r (n : Nat) {β : Type} (a0 : List UInt8) (K : Res CT → Option β) : runFn TT (ref01_Sum_G n) (ref01_Sum_Λ n) Try.f8 c8 false true [(.str a0)] [] K = ref01_Sum n a0 (fun z0 => K ⟨(.arr 32 (.u8 z0)), [], []⟩) := by kernel_rfl
theorem ref01_Sum_Gok (n : Nat) : GamOk (CallsOk Try.prog cod) (ref01_Sum_G n) := gl_cons (ref01_Mixed_ok n) (gl_cons (ref01_Table_ok n) (gl_nil _ _))
theorem ref01_Sum_ok (n : Nat) : SpecOk Try.prog cod 8 (ref01_Sum_p n) := by
  intro β args objs F K r hs hF
  unfold ref01_Sum_p at hs
  split at hs
  · cases hs
    exact fn_sound TT_ok (fun _ _ _ _ h => h) (ref01_Sum_Gok n) mixed Try.func8 (by kernel_rfl) (by kernel_rfl) (by kernel_rfl) (Nat.le_of_ble_eq_true (by kernel_rfl)) (ll_ok (by kernel_rfl) (loops_nil)) ((ref01_Sum_r n _ K).trans hF)
  · cases hs

noncomputable def c3 : Code := Try.f3.body.getD .skip
noncomputable def law01_ShaSums_G (n : Nat) : Gam CT := gl [(6, law01_first_p n), (8, ref01_Sum_p n), (7, sha_Sum_p n)]
noncomputable def law01_ShaSums_l0_h : Keep := ⟨[0, 3, 8, 9, 10], [], [], [], []⟩
noncomputable def law01_ShaSums_l0_x : EX → Keep
  | .exit 0 => ⟨[0, 3], [], [], [], []⟩
  | _ => ⟨[], [], [], [], []⟩
noncomputable def law01_ShaSums_l0_p (n : Nat) : PLoop CT := fun _ v o => match v, o with
  | [(.vs p0 (.typ 24 1 false p1)), (.str p2), (.vs p3 (.typ 24 1 false p4)), (.int .i64 p5), (.int .i64 p6)], [] => some fun k => law01_ShaSums_l0 n n p0 p1 p2 p3 p4 p5 p6 (fun x0 x1 x2 => k .nrm (mkSt (law01_ShaSums_l0_x (.exit 0)) [(.vs x0 (.typ 24 1 false x1)), (.str x2)] []))
  | _, _ => none
noncomputable def law01_ShaSums_l0_L (n : Nat) : Lam CT := ll []
noncomputable def law01_ShaSums_l0_c : Code := cLoop (cBody (cB (cA (cB (cB (cB c3))))))
theorem law01_ShaSums_l0_e (n : Nat) {β : Type} (k : EX → St CT → Option β) : ∀ (m : Nat) (p0 : Bool) (p1 : List (List UInt8)) (p2 : List UInt8) (p3 : Bool) (p4 : List (List UInt8)) (p5 : Int) (p6 : Int), loopK TT (law01_ShaSums_G n) (law01_ShaSums_l0_L n) law01_ShaSums_l0_h law01_ShaSums_l0_x 0 law01_ShaSums_l0_c k (m) (mkSt law01_ShaSums_l0_h [(.vs p0 (.typ 24 1 false p1)), (.str p2), (.vs p3 (.typ 24 1 false p4)), (.int .i64 p5), (.int .i64 p6)] []) = law01_ShaSums_l0 n m p0 p1 p2 p3 p4 p5 p6 (fun x0 x1 x2 => k .nrm (mkSt (law01_ShaSums_l0_x (.exit 0)) [(.vs x0 (.typ 24 1 false x1)), (.str x2)] []))
  | 0, _, _, _, _, _, _, _ => rfl
  | m + 1, p0, p1, p2, p3, p4, p5, p6 => (show loopK TT (law01_ShaSums_G n) (law01_ShaSums_l0_L n) law01_ShaSums_l0_h law01_ShaSums_l0_x 0 law01_ShaSums_l0_c k (m + 1) (mkSt law01_ShaSums_l0_h [(.vs p0 (.typ 24 1 false p1)), (.str p2), (.vs p3 (.typ 24 1 false p4)), (.int .i64 p5), (.int .i64 p6)] []) = law01_ShaSums_l0_s n p0 p1 p2 p3 p4 p5 p6 (fun p0 p1 p2 p3 p4 p5 p6 => loopK TT (law01_ShaSums_G n) (law01_ShaSums_l0_L n) law01_ShaSums_l0_h law01_ShaSums_l0_x 0 law01_ShaSums_l0_c k (m) (mkSt law01_ShaSums_l0_h [(.vs p0 (.typ 24 1 false p1)), (.str p2), (.vs p3 (.typ 24 1 false p4)), (.int .i64 p5), (.int .i64 p6)] [])) (fun x0 x1 x2 => k .nrm (mkSt (law01_ShaSums_l0_x (.exit 0)) [(.vs x0 (.typ 24 1 false x1)), (.str x2)] [])) by kernel_rfl).trans (congrArg (fun R => law01_ShaSums_l0_s n p0 p1 p2 p3 p4 p5 p6 R (fun x0 x1 x2 => k .nrm (mkSt (law01_ShaSums_l0_x (.exit 0)) [(.vs x0 (.typ 24 1 false x1)), (.str x2)] []))) (funext fun p0 => funext fun p1 => funext fun p2 => funext fun p3 => funext fun p4 => funext fun p5 => funext fun p6 => law01_ShaSums_l0_e n k m p0 p1 p2 p3 p4 p5 p6))
noncomputable def law01_ShaSums_Λ (n : Nat) : Lam CT := ll [(0, law01_ShaSums_l0_h, law01_ShaSums_l0_p n)]
theorem law01_ShaSums_r (n : Nat) {β : Type} (a0 : Bool) (a1 : List (List UInt8)) (K : Res CT → Option β) : runFn TT (law01_ShaSums_G n) (law01_ShaSums_Λ n) Try.f3 c3 false true [(.vs a0 (.typ 24 1 false a1))] [] K = law01_ShaSums n a0 a1 (fun z0 => K ⟨(.bool z0), [], []⟩) := by kernel_rfl
theorem law01_ShaSums_Gok (n : Nat) : GamOk (CallsOk Try.prog cod) (law01_ShaSums_G n) := gl_cons (law01_first_ok n) (gl_cons (ref01_Sum_ok n) (gl_cons (sha_Sum_ok n) (gl_nil _ _)))
theorem law01_ShaSums_l0_ok (n : Nat) : LoopOk Try.prog TT Try.f3.ntmps 0 (.loop law01_ShaSums_l0_c) law01_ShaSums_l0_h (law01_ShaSums_l0_p n) := by
  intro β vals obs F k r hs hF
  unfold law01_ShaSums_l0_p at hs
  split at hs
  · cases hs
    exact loop_sound TT_ok (fun _ _ _ _ h => h) (law01_ShaSums_Gok n) mixed (by kernel_rfl) (ll_ok (by kernel_rfl) (loops_nil)) n _ ((law01_ShaSums_l0_e n k n _ _ _ _ _ _ _).trans hF)
  · cases hs
theorem law01_ShaSums_ok (n : Nat) : SpecOk Try.prog cod 3 (law01_ShaSums_p n) := by
  intro β args objs F K r hs hF
  unfold law01_ShaSums_p at hs
  split at hs
  · cases hs
    exact fn_sound TT_ok (fun _ _ _ _ h => h) (law01_ShaSums_Gok n) mixed Try.func3 (by kernel_rfl) (by kernel_rfl) (by kernel_rfl) (Nat.le_of_ble_eq_true (by kernel_rfl)) (ll_ok (by kernel_rfl) (loops_cons (by kernel_rfl) (law01_ShaSums_l0_ok n) (loops_nil))) ((law01_ShaSums_r n _ _ K).trans hF)
  · cases hs

noncomputable def c5 : Code := Try.f5.body.getD .skip
noncomputable def law01_ShaSame_G (n : Nat) : Gam CT := gl [(6, law01_first_p n), (12, sha_Hash_Sum_p n), (10, sha_Hash_Write_p n), (15, sha_New_p n), (16, sha_Same_p n), (7, sha_Sum_p n)]
noncomputable def law01_ShaSame_Λ (n : Nat) : Lam CT := ll []
theorem law01_ShaSame_r (n : Nat) {β : Type} (a0 : List UInt8) (a1 : List UInt8) (a2 : Int) (K : Res CT → Option β) : runFn TT (law01_ShaSame_G n) (law01_ShaSame_Λ n) Try.f5 c5 false true [(.vs false (.u8 a0)), (.vs false (.u8 a1)), (.int .u16 a2)] [] K = law01_ShaSame n a0 a1 a2 (fun z0 => K ⟨(.bool z0), [], []⟩) := by kernel_rfl
theorem law01_ShaSame_Gok (n : Nat) : GamOk (CallsOk Try.prog cod) (law01_ShaSame_G n) := gl_cons (law01_first_ok n) (gl_cons (sha_Hash_Sum_ok n) (gl_cons (sha_Hash_Write_ok n) (gl_cons (sha_New_ok n) (gl_cons (sha_Same_ok n) (gl_cons (sha_Sum_ok n) (gl_nil _ _))))))
theorem law01_ShaSame_ok (n : Nat) : SpecOk Try.prog cod 5 (law01_ShaSame_p n) := by
  intro β args objs F K r hs hF
  unfold law01_ShaSame_p at hs
  split at hs
  · cases hs
    exact fn_sound TT_ok (fun _ _ _ _ h => h) (law01_ShaSame_Gok n) mixed Try.func5 (by kernel_rfl) (by kernel_rfl) (by kernel_rfl) (Nat.le_of_ble_eq_true (by kernel_rfl)) (ll_ok (by kernel_rfl) (loops_nil)) ((law01_ShaSame_r n _ _ _ K).trans hF)
  · cases hs

noncomputable def sha_Hash_Write_1_G (n : Nat) : Gam CT := gl []
noncomputable def sha_Hash_Write_1_Λ (n : Nat) : Lam CT := ll []
theorem sha_Hash_Write_1_r (n : Nat) {β : Type} (a0 : Bool) (a1 : List UInt8) (K : Res CT → Option β) : runFn TT (sha_Hash_Write_1_G n) (sha_Hash_Write_1_Λ n) Try.f10 c10 false true [.nilp, (.vs a0 (.u8 a1))] [] K = sha_Hash_Write_1 n a0 a1 (fun z0 => K ⟨(.int .i64 z0), [], []⟩) := by kernel_rfl
theorem sha_Hash_Write_1_Gok (n : Nat) : GamOk (CallsOk Try.prog cod) (sha_Hash_Write_1_G n) := gl_nil _ _
theorem sha_Hash_Write_1_ok (n : Nat) : SpecOk Try.prog cod 10 (sha_Hash_Write_1_p n) := by
  intro β args objs F K r hs hF
  unfold sha_Hash_Write_1_p at hs
  split at hs
  · cases hs
    exact fn_sound TT_ok (fun _ _ _ _ h => h) (sha_Hash_Write_1_Gok n) mixed Try.func10 (by kernel_rfl) (by kernel_rfl) (by kernel_rfl) (Nat.le_of_ble_eq_true (by kernel_rfl)) (ll_ok (by kernel_rfl) (loops_nil)) ((sha_Hash_Write_1_r n _ _ K).trans hF)
  · cases hs

noncomputable def sha_Hash_Clone_1_G (n : Nat) : Gam CT := gl []
noncomputable def sha_Hash_Clone_1_Λ (n : Nat) : Lam CT := ll []
theorem sha_Hash_Clone_1_r (n : Nat) {β : Type}  (K : Res CT → Option β) : runFn TT (sha_Hash_Clone_1_G n) (sha_Hash_Clone_1_Λ n) Try.f11 c11 false true [.nilp] [] K = sha_Hash_Clone_1 n  (K ⟨.nilp, [], []⟩) := by kernel_rfl
theorem sha_Hash_Clone_1_Gok (n : Nat) : GamOk (CallsOk Try.prog cod) (sha_Hash_Clone_1_G n) := gl_nil _ _
theorem sha_Hash_Clone_1_ok (n : Nat) : SpecOk Try.prog cod 11 (sha_Hash_Clone_1_p n) := by
  intro β args objs F K r hs hF
  unfold sha_Hash_Clone_1_p at hs
  split at hs
  · cases hs
    exact fn_sound TT_ok (fun _ _ _ _ h => h) (sha_Hash_Clone_1_Gok n) mixed Try.func11 (by kernel_rfl) (by kernel_rfl) (by kernel_rfl) (Nat.le_of_ble_eq_true (by kernel_rfl)) (ll_ok (by kernel_rfl) (loops_nil)) ((sha_Hash_Clone_1_r n  K).trans hF)
  · cases hs

noncomputable def sha_Hash_Sum_1_G (n : Nat) : Gam CT := gl [(11, sha_Hash_Clone_1_p n), (10, sha_Hash_Write_p n), (15, sha_New_p n), (21, sha_tail_p n)]
noncomputable def sha_Hash_Sum_1_l0_h : Keep := ⟨[2, 4, 22, 23], [], [2, 4], [], []⟩
noncomputable def sha_Hash_Sum_1_l0_x : EX → Keep
  | .exit 0 => ⟨[2, 4], [], [2, 4], [], []⟩
  | _ => ⟨[], [], [], [], []⟩
noncomputable def sha_Hash_Sum_1_l0_p (n : Nat) : PLoop CT := fun _ v o => match v, o with
  | [(.ptr 2 []), (.ptr 4 []), (.arr 8 (.int .u32 p0)), (.int .i64 p1)], [(.arr 32 (.u8 p2)), (.arr 32 (.u8 p3))] => some fun k => sha_Hash_Sum_1_l0 n n p0 p1 p2 p3 (fun x0 x1 => k .nrm (mkSt (sha_Hash_Sum_1_l0_x (.exit 0)) [(.ptr 2 []), (.ptr 4 [])] [(.arr 32 (.u8 x0)), (.arr 32 (.u8 x1))]))
  | _, _ => none
noncomputable def sha_Hash_Sum_1_l0_L (n : Nat) : Lam CT := ll []
noncomputable def sha_Hash_Sum_1_l0_c : Code := cLoop (cBody (cB (cA (cB (cB (cB (cB (cB c12))))))))
theorem sha_Hash_Sum_1_l0_e (n : Nat) {β : Type} (k : EX → St CT → Option β) : ∀ (m : Nat) (p0 : List Int) (p1 : Int) (p2 : List UInt8) (p3 : List UInt8), loopK TT (sha_Hash_Sum_1_G n) (sha_Hash_Sum_1_l0_L n) sha_Hash_Sum_1_l0_h sha_Hash_Sum_1_l0_x 0 sha_Hash_Sum_1_l0_c k (m) (mkSt sha_Hash_Sum_1_l0_h [(.ptr 2 []), (.ptr 4 []), (.arr 8 (.int .u32 p0)), (.int .i64 p1)] [(.arr 32 (.u8 p2)), (.arr 32 (.u8 p3))]) = sha_Hash_Sum_1_l0 n m p0 p1 p2 p3 (fun x0 x1 => k .nrm (mkSt (sha_Hash_Sum_1_l0_x (.exit 0)) [(.ptr 2 []), (.ptr 4 [])] [(.arr 32 (.u8 x0)), (.arr 32 (.u8 x1))]))
  | 0, _, _, _, _ => rfl
  | m + 1, p0, p1, p2, p3 => (show loopK TT (sha_Hash_Sum_1_G n) (sha_Hash_Sum_1_l0_L n) sha_Hash_Sum_1_l0_h sha_Hash_Sum_1_l0_x 0 sha_Hash_Sum_1_l0_c k (m + 1) (mkSt sha_Hash_Sum_1_l0_h [(.ptr 2 []), (.ptr 4 []), (.arr 8 (.int .u32 p0)), (.int .i64 p1)] [(.arr 32 (.u8 p2)), (.arr 32 (.u8 p3))]) = sha_Hash_Sum_1_l0_s n p0 p1 p2 p3 (fun p0 p1 p2 p3 => loopK TT (sha_Hash_Sum_1_G n) (sha_Hash_Sum_1_l0_L n) sha_Hash_Sum_1_l0_h sha_Hash_Sum_1_l0_x 0 sha_Hash_Sum_1_l0_c k (m) (mkSt sha_Hash_Sum_1_l0_h [(.ptr 2 []), (.ptr 4 []), (.arr 8 (.int .u32 p0)), (.int .i64 p1)] [(.arr 32 (.u8 p2)), (.arr 32 (.u8 p3))])) (fun x0 x1 => k .nrm (mkSt (sha_Hash_Sum_1_l0_x (.exit 0)) [(.ptr 2 []), (.ptr 4 [])] [(.arr 32 (.u8 x0)), (.arr 32 (.u8 x1))])) by kernel_rfl).trans (congrArg (fun R => sha_Hash_Sum_1_l0_s n p0 p1 p2 p3 R (fun x0 x1 => k .nrm (mkSt (sha_Hash_Sum_1_l0_x (.exit 0)) [(.ptr 2 []), (.ptr 4 [])] [(.arr 32 (.u8 x0)), (.arr 32 (.u8 x1))]))) (funext fun p0 => funext fun p1 => funext fun p2 => funext fun p3 => sha_Hash_Sum_1_l0_e n k m p0 p1 p2 p3))
noncomputable def sha_Hash_Sum_1_Λ (n : Nat) : Lam CT := ll [(0, sha_Hash_Sum_1_l0_h, sha_Hash_Sum_1_l0_p n)]
theorem sha_Hash_Sum_1_r (n : Nat) {β : Type}  (K : Res CT → Option β) : runFn TT (sha_Hash_Sum_1_G n) (sha_Hash_Sum_1_Λ n) Try.f12 c12 false true [.nilp] [] K = sha_Hash_Sum_1 n  (fun z0 => K ⟨(.arr 32 (.u8 z0)), [], []⟩) := by kernel_rfl
theorem sha_Hash_Sum_1_Gok (n : Nat) : GamOk (CallsOk Try.prog cod) (sha_Hash_Sum_1_G n) := gl_cons (sha_Hash_Clone_1_ok n) (gl_cons (sha_Hash_Write_ok n) (gl_cons (sha_New_ok n) (gl_cons (sha_tail_ok n) (gl_nil _ _))))
theorem sha_Hash_Sum_1_l0_ok (n : Nat) : LoopOk Try.prog TT Try.f12.ntmps 0 (.loop sha_Hash_Sum_1_l0_c) sha_Hash_Sum_1_l0_h (sha_Hash_Sum_1_l0_p n) := by
  intro β vals obs F k r hs hF
  unfold sha_Hash_Sum_1_l0_p at hs
  split at hs
  · cases hs
    exact loop_sound TT_ok (fun _ _ _ _ h => h) (sha_Hash_Sum_1_Gok n) mixed (by kernel_rfl) (ll_ok (by kernel_rfl) (loops_nil)) n _ ((sha_Hash_Sum_1_l0_e n k n _ _ _ _).trans hF)
  · cases hs
theorem sha_Hash_Sum_1_ok (n : Nat) : SpecOk Try.prog cod 12 (sha_Hash_Sum_1_p n) := by
  intro β args objs F K r hs hF
  unfold sha_Hash_Sum_1_p at hs
  split at hs
  · cases hs
    exact fn_sound TT_ok (fun _ _ _ _ h => h) (sha_Hash_Sum_1_Gok n) mixed Try.func12 (by kernel_rfl) (by kernel_rfl) (by kernel_rfl) (Nat.le_of_ble_eq_true (by kernel_rfl)) (ll_ok (by kernel_rfl) (loops_cons (by kernel_rfl) (sha_Hash_Sum_1_l0_ok n) (loops_nil))) ((sha_Hash_Sum_1_r n  K).trans hF)
  · cases hs

end Go.Proofs.Ytjnkppjlhmkjaaa.Av
