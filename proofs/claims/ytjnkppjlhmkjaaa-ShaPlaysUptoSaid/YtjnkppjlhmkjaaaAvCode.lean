/- Code and loops. -/
import Derived.Test.YtjnkppjlhmkjaaaAvNorm
import Derived.LoopN
namespace Go.Proofs.Ytjnkppjlhmkjaaa.Av
open Go
variable {CT : Nat → Type}
def exOf : EX → Exit
  | .nrm => .normal
  | .exit i => .exit i
  | .ret => .ret
  | .goto l => .goto l
/-- Where it ends. -/
def Ends (X0 : Cx CT) (W : World) (nt : Nat) (ex : EX) (st : St CT) : Exit → Act → World → Prop := fun e a w => e = exOf ex ∧ ∃ X, StOk X0 W nt X st a w
/-- What a piece of code comes to. -/
def SoundC (P : Program) (T : TyTab CT) (nt : Nat) (c : Code) (st : St CT) (ex : EX) (st' : St CT) : Prop :=
  ∀ (X0 : Cx CT) (W : World) (X : Cx CT) (a : Act) (w : World), X0.C = T.C → Handed X0 → StOk X0 W nt X st a w → c.wp P (Ends X0 W nt ex st') a w
def codeOk (nt : Nat) : Code → Bool
  | .region _ ops _ => ops.toList.all (operOk nt)
  | .seq a b => codeOk nt a && codeOk nt b
  | .cond c a b => opndOk c && (codeOk nt a && codeOk nt b)
  | .block _ c => codeOk nt c
  | .loop c => codeOk nt c
  | .scope c => codeOk nt c
  | _ => true
/-- The blocks in a piece of code. -/
def blks : Code → List (Nat × Code)
  | .seq a b => blks a ++ blks b
  | .cond _ a b => blks a ++ blks b
  | .block id c => (id, c) :: blks c
  | .loop c => blks c
  | .scope c => blks c
  | _ => []
section
variable {P : Program} {T : TyTab CT} {CR : CallR CT} {nt : Nat}
/-- What is told of a block's loop. -/
def LamAt (P : Program) (T : TyTab CT) (nt : Nat) (Λ : Lam CT) (id : Nat) (c : Code) : Prop :=
  ∀ (β : Type) (L : LoopF CT β), Λ β id = some L → ∀ vals obs (k : EX → St CT → Option β) (r : β), L.F vals obs k = some r → ∃ ex st', k ex st' = some r ∧ SoundC P T nt (.block id c) (mkSt L.kh vals obs) ex st'
theorem sound_seq {a b : Code} {st st1 st' : St CT} {ex : EX} (h1 : SoundC P T nt a st .nrm st1) (h2 : SoundC P T nt b st1 ex st') : SoundC P T nt (.seq a b) st ex st' := by
  intro X0 W X act w hC hH S
  refine wp_seq (wp_mono (h1 X0 W X act w hC hH S) fun e a' w' h => ?_)
  obtain ⟨rfl, X', S'⟩ := h
  exact h2 X0 W X' a' w' hC hH S'
theorem sound_seq' {a b : Code} {st st' : St CT} {ex : EX} (he : ex ≠ .nrm) (h1 : SoundC P T nt a st ex st') : SoundC P T nt (.seq a b) st ex st' := by
  intro X0 W X act w hC hH S
  refine wp_seq (wp_mono (h1 X0 W X act w hC hH S) fun e a' w' h => ?_)
  obtain ⟨rfl, X', S'⟩ := h
  cases ex <;> first | exact absurd rfl he | exact ⟨rfl, X', S'⟩
theorem sound_block {id : Nat} {c : Code} {st st' : St CT} {ex : EX} (h : SoundC P T nt c st ex st') : SoundC P T nt (.block id c) st (match ex with | .exit i => cond (Nat.beq i id) .nrm (.exit i) | e => e) st' := by
  intro X0 W X act w hC hH S
  refine wp_block (wp_mono (h X0 W X act w hC hH S) fun e a' w' h => ?_)
  obtain ⟨rfl, X', S'⟩ := h
  cases ex with
  | exit i =>
    simp only [exOf, Exit.inBlock]
    by_cases hi : i = id
    · subst hi; simp only [if_true, Nat.beq_refl, cond_true]; exact ⟨rfl, X', S'⟩
    · rw [if_neg hi, beq_ne hi]; exact ⟨rfl, X', S'⟩
  | nrm => exact ⟨rfl, X', S'⟩
  | ret => exact ⟨rfl, X', S'⟩
  | goto l => exact ⟨rfl, X', S'⟩
theorem region_sound (H : TabOk P T) (hCR : ∀ f args objs res, CR f args objs res → CallsOk P T.C f args objs res) {Γ : Gam CT} (hΓ : GamOk CR Γ) (hm : P.follows .mixedOrders = true) {β : Type} {id : Nat} {ops : Array Oper} {draw : Bool} (hok : ops.toList.all (operOk nt) = true)
    {st : St CT} {k : EX → St CT → Option β} {r : β} (h : regK T Γ ops.toList draw ops.toList 0 st [] [] (k .nrm) = some r) : ∃ st', k .nrm st' = some r ∧ SoundC P T nt (.region id ops draw) st .nrm st' := by
  obtain ⟨sts, fp, h1, h2, h3, h4⟩ := reg_trace hΓ ops.toList 0 st [] [] rfl h
  rw [Nat.zero_add] at h3
  refine ⟨_, h3, fun X0 W X a w hC hH S => ?_⟩
  have hall := List.all_eq_true.1 hok
  have hops : ops.toList.toArray = ops := by simp
  have hsz : ops.toList.length = ops.size := by simp
  have hQ : ∀ X' a' w', StOk X0 W nt X' (sts ops.toList.length) a' w' → Ends X0 W nt .nrm (sts ops.toList.length) .normal a' w' := fun X' a' w' S' => ⟨rfl, X', S'⟩
  cases draw with
  | false =>
    refine wp_region ?_
    have := ops_wp H hCR hC h2 hall hQ ops.toList.length 0 X a w (by omega) (h1 ▸ S)
    rw [hops, hsz, ← List.range_eq_range'] at this
    rw [hsz]; exact this
  | true =>
    refine wp_region_any hm ?_
    have hI := h4 rfl
    simp only [List.append_nil, Nat.zero_add] at hI
    have S0 : StOk X0 W nt X st a { w with drawn := w.drawn + 1 } := ⟨S.mem.drew _, S.le, S.slots, S.size, S.defers⟩
    have hfalse : ∀ i : Nat, (Array.replicate ops.size false)[i]? ≠ some true := by
      intro i; rw [Array.getElem?_replicate]; split <;> simp
    have := any_wp H hCR hC h2 (indep_pair hI) hall hQ ops.size (Array.replicate ops.size false) X a { w with drawn := w.drawn + 1 } st (by simp) (by rw [hsz]; omega) (fun i o _ hL => absurd hL (hfalse i))
      ⟨fun x i _ hL => absurd hL (hfalse i), fun x _ => by rw [h1]⟩ S0
    rw [hops] at this
    exact this
theorem exec_sound (H : TabOk P T) (hCR : ∀ f args objs res, CR f args objs res → CallsOk P T.C f args objs res) {Γ : Gam CT} (hΓ : GamOk CR Γ) (hm : P.follows .mixedOrders = true) {Λ : Lam CT} {β : Type} : ∀ (c : Code) (st : St CT) (k : EX → St CT → Option β) (r : β), codeOk nt c = true →
    (∀ p ∈ blks c, LamAt P T nt Λ p.1 p.2) → exec T Γ Λ c st k = some r → ∃ ex st', k ex st' = some r ∧ SoundC P T nt c st ex st' := by
  intro c
  induction c with
  | skip => intro st k r _ _ h; exact ⟨_, _, h, fun X0 W X a w _ _ S => wp_skip ⟨rfl, X, S⟩⟩
  | label l => intro st k r _ _ h; exact ⟨_, _, h, fun X0 W X a w _ _ S => wp_label ⟨rfl, X, S⟩⟩
  | exit i => intro st k r _ _ h; exact ⟨_, _, h, fun X0 W X a w _ _ S => wp_exit ⟨rfl, X, S⟩⟩
  | goto l => intro st k r _ _ h; exact ⟨_, _, h, fun X0 W X a w _ _ S => wp_goto ⟨rfl, X, S⟩⟩
  | ret => intro st k r _ _ h; exact ⟨_, _, h, fun X0 W X a w _ _ S => wp_ret ⟨rfl, X, S⟩⟩
  | region id ops draw =>
    intro st k r hok _ h
    obtain ⟨st', h1, h2⟩ := region_sound H hCR hΓ hm (id := id) hok h
    exact ⟨_, _, h1, h2⟩
  | seq a b iha ihb =>
    intro st k r hok hL h
    simp only [codeOk, Bool.and_eq_true] at hok
    obtain ⟨e, st1, h1, h2⟩ := iha st _ r hok.1 (fun p hp => hL p (List.mem_append_left _ hp)) h
    split at h1
    · obtain ⟨ex, st', h3, h4⟩ := ihb st1 k r hok.2 (fun p hp => hL p (List.mem_append_right _ hp)) h1
      exact ⟨ex, st', h3, sound_seq h2 h4⟩
    · rename_i hne
      exact ⟨_, _, h1, sound_seq' (fun e => hne e) h2⟩
  | cond c a b iha ihb =>
    intro st k r hok hL h
    simp only [codeOk, Bool.and_eq_true] at hok
    have ha := iha
    unfold exec at h
    split at h
    · rename_i t
      split at h
      · rename_i v hv
        have hev : ∀ (X0 : Cx CT) (W : World) (X : Cx CT) (act : Act) (w : World), StOk X0 W nt X st act w → act.eval (.tmp t) = .bool v := fun X0 W X act w S => by
          have := S.slots t; rw [hv] at this; exact this.bool
        cases v with
        | true =>
          obtain ⟨ex, st', h1, h2⟩ := iha _ k r hok.2.1 (fun p hp => hL p (List.mem_append_left _ hp)) h
          exact ⟨ex, st', h1, fun X0 W X act w hC hH S => wp_cond_true (hev X0 W X act w S) (h2 X0 W X act w hC hH (S.same (tset_same hv) fun _ => rfl))⟩
        | false =>
          obtain ⟨ex, st', h1, h2⟩ := ihb _ k r hok.2.2 (fun p hp => hL p (List.mem_append_right _ hp)) h
          exact ⟨ex, st', h1, fun X0 W X act w hC hH S => wp_cond_false (hev X0 W X act w S) (h2 X0 W X act w hC hH (S.same (tset_same hv) fun _ => rfl))⟩
      · cases h
    · rename_i v
      cases v with
      | true =>
        obtain ⟨ex, st', h1, h2⟩ := iha _ k r hok.2.1 (fun p hp => hL p (List.mem_append_left _ hp)) h
        exact ⟨ex, st', h1, fun X0 W X act w hC hH S => wp_cond_true rfl (h2 X0 W X act w hC hH S)⟩
      | false =>
        obtain ⟨ex, st', h1, h2⟩ := ihb _ k r hok.2.2 (fun p hp => hL p (List.mem_append_right _ hp)) h
        exact ⟨ex, st', h1, fun X0 W X act w hC hH S => wp_cond_false rfl (h2 X0 W X act w hC hH S)⟩
    · cases h
  | block id c ih =>
    intro st k r hok hL h
    unfold exec at h
    split at h
    · rename_i L hl
      obtain ⟨vals, obs, h1, h2⟩ := norm_ok h
      obtain ⟨ex, st', h3, h4⟩ := hL (id, c) List.mem_cons_self β L hl vals obs k r h1
      refine ⟨ex, st', h3, fun X0 W X a w hC hH S => ?_⟩
      obtain ⟨X', S'⟩ := h2 X0 W nt X a w hH S
      exact h4 X0 W X' a w hC hH S'
    · obtain ⟨e, st1, h1, h2⟩ := ih st _ r hok (fun p hp => hL p (List.mem_cons_of_mem _ hp)) h
      have h3 := sound_block (id := id) h2
      split at h1
      · rename_i i
        simp only at h3
        cases hi : Nat.beq i id with
        | true => rw [hi] at h1 h3; exact ⟨_, _, h1, h3⟩
        | false => rw [hi] at h1 h3; exact ⟨_, _, h1, h3⟩
      · rename_i hne
        cases e with
        | exit i => exact absurd rfl (hne i)
        | nrm => exact ⟨_, _, h1, h3⟩
        | ret => exact ⟨_, _, h1, h3⟩
        | goto l => exact ⟨_, _, h1, h3⟩
  | _ => intro st k r _ _ h; exact absurd h (by unfold exec; simp)
/-- Rounds. -/
theorem loop_sound (H : TabOk P T) (hCR : ∀ f args objs res, CR f args objs res → CallsOk P T.C f args objs res) {Γ : Gam CT} (hΓ : GamOk CR Γ) (hm : P.follows .mixedOrders = true) {Λ : Lam CT} {β : Type} {kh : Keep} {kx : EX → Keep} {id : Nat} {body : Code} (hok : codeOk nt body = true)
    (hL : ∀ p ∈ blks body, LamAt P T nt Λ p.1 p.2) {k : EX → St CT → Option β} {r : β} : ∀ (m : Nat) (st : St CT), loopK T Γ Λ kh kx id body k m st = some r →
    ∃ ex st', k ex st' = some r ∧ SoundC P T nt (.block id (.loop body)) st ex st' := by
  have key : ∀ (m : Nat) (st : St CT), loopK T Γ Λ kh kx id body k m st = some r → ∃ ex st', k ex st' = some r ∧ ∀ (X0 : Cx CT) (W : World) (X : Cx CT) (a : Act) (w : World), X0.C = T.C → Handed X0 → StOk X0 W nt X st a w →
      Code.rounds P body (Exit.inBlock id (Ends X0 W nt ex st')) m a w := by
    intro m
    induction m with
    | zero => intro st h; cases h
    | succ m ih =>
      intro st h
      unfold loopK at h
      obtain ⟨e, st1, h1, h2⟩ := exec_sound H hCR hΓ hm body st _ r hok hL h
      cases e with
      | nrm =>
        simp only at h1
        obtain ⟨vals, obs, h3, h4⟩ := norm_ok h1
        obtain ⟨ex, st', h5, h6⟩ := ih _ h3
        refine ⟨ex, st', h5, fun X0 W X a w hC hH S => ?_⟩
        rw [rounds_succ]
        refine wp_mono (h2 X0 W X a w hC hH S) fun e a' w' he => ?_
        obtain ⟨rfl, X', S'⟩ := he
        obtain ⟨X'', S''⟩ := h4 X0 W nt X' a' w' hH S'
        exact h6 X0 W X'' a' w' hC hH S''
      | exit i =>
        simp only at h1
        obtain ⟨vals, obs, h3, h4⟩ := norm_ok h1
        have fin : ∀ ex, (∀ (X0 : Cx CT) (W : World) (a : Act) (w : World), (∃ X, StOk X0 W nt X (mkSt (kx (.exit i)) vals obs) a w) → Exit.inBlock id (Ends X0 W nt ex (mkSt (kx (.exit i)) vals obs)) (.exit i) a w) → ∀ (X0 : Cx CT) (W : World) (X : Cx CT) (a : Act) (w : World), X0.C = T.C → Handed X0 → StOk X0 W nt X st a w →
            Code.rounds P body (Exit.inBlock id (Ends X0 W nt ex (mkSt (kx (.exit i)) vals obs))) (m + 1) a w := by
          intro ex hex X0 W X a w hC hH S
          rw [rounds_succ]
          refine wp_mono (h2 X0 W X a w hC hH S) fun e a' w' he => ?_
          obtain ⟨rfl, X', S'⟩ := he
          exact hex X0 W a' w' (h4 X0 W nt X' a' w' hH S')
        by_cases hi : i = id
        · subst hi
          simp only [Nat.beq_refl, cond_true] at h3
          exact ⟨_, _, h3, fin .nrm fun X0 W a w h => by simp only [Exit.inBlock, if_true]; exact ⟨rfl, h⟩⟩
        · rw [beq_ne hi] at h3
          exact ⟨_, _, h3, fin (.exit i) fun X0 W a w h => by simp only [Exit.inBlock, if_neg hi]; exact ⟨rfl, h⟩⟩
      | ret =>
        simp only at h1
        obtain ⟨vals, obs, h3, h4⟩ := norm_ok h1
        refine ⟨_, _, h3, fun X0 W X a w hC hH S => ?_⟩
        rw [rounds_succ]
        refine wp_mono (h2 X0 W X a w hC hH S) fun e a' w' he => ?_
        obtain ⟨rfl, X', S'⟩ := he
        exact ⟨rfl, h4 X0 W nt X' a' w' hH S'⟩
      | goto l =>
        simp only at h1
        obtain ⟨vals, obs, h3, h4⟩ := norm_ok h1
        refine ⟨_, _, h3, fun X0 W X a w hC hH S => ?_⟩
        rw [rounds_succ]
        refine wp_mono (h2 X0 W X a w hC hH S) fun e a' w' he => ?_
        obtain ⟨rfl, X', S'⟩ := he
        exact ⟨rfl, h4 X0 W nt X' a' w' hH S'⟩
  intro m st h
  obtain ⟨ex, st', h1, h2⟩ := key m st h
  exact ⟨ex, st', h1, fun X0 W X a w hC hH S => wp_block (wp_loop_rounds m (h2 X0 W X a w hC hH S))⟩
end
end Go.Proofs.Ytjnkppjlhmkjaaa.Av
