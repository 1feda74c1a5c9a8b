/- What a program over objects comes to, told as a relation; what its pieces come to; what it touches. -/
import Derived.Test.YtjnkppjlhmkjaaaAvRel
namespace Go.Proofs.Ytjnkppjlhmkjaaa.Av
open Go
variable {CT : Nat → Type}

/-- What calls may come to. -/
abbrev CallR (CT : Nat → Type) := Nat → List (AV CT) → List (AV CT) → Res CT → Prop

/-- With what was read and written. -/
inductive EvM (CR : CallR CT) {α : Type} : M CT α → Ob CT → List Nat → List Nat → α → Ob CT → List Nat → List Nat → Prop
  | ret {a : α} {ob : Ob CT} {rs ws : List Nat} : EvM CR (.ret a) ob rs ws a ob rs ws
  | rd {id : Nat} {k : Option (Option (AV CT)) → M CT α} {ob ob' : Ob CT} {rs ws rs' ws' : List Nat} {a : α} : EvM CR (k (ob.get id)) ob (id :: rs) ws a ob' rs' ws' → EvM CR (.rd id k) ob rs ws a ob' rs' ws'
  | wr {id : Nat} {v : Option (AV CT)} {k : M CT α} {ob ob' : Ob CT} {rs ws rs' ws' : List Nat} {a : α} : EvM CR k (ob.set id v) rs (id :: ws) a ob' rs' ws' → EvM CR (.wr id v k) ob rs ws a ob' rs' ws'
  | gd {k : M CT α} {ob ob' : Ob CT} {rs ws rs' ws' : List Nat} {a : α} : EvM CR k ob rs ws a ob' rs' ws' → EvM CR (.gd true k) ob rs ws a ob' rs' ws'
  | spT {t f : M CT α} {ob ob' : Ob CT} {rs ws rs' ws' : List Nat} {a : α} : EvM CR t ob rs ws a ob' rs' ws' → EvM CR (.sp true t f) ob rs ws a ob' rs' ws'
  | spF {t f : M CT α} {ob ob' : Ob CT} {rs ws rs' ws' : List Nat} {a : α} : EvM CR f ob rs ws a ob' rs' ws' → EvM CR (.sp false t f) ob rs ws a ob' rs' ws'
  | ub {x : UInt8} {k : UInt8 → M CT α} {ob ob' : Ob CT} {rs ws rs' ws' : List Nat} {a : α} : EvM CR (k x) ob rs ws a ob' rs' ws' → EvM CR (.ub (some x) k) ob rs ws a ob' rs' ws'
  | ui {x : Int} {k : Int → M CT α} {ob ob' : Ob CT} {rs ws rs' ws' : List Nat} {a : α} : EvM CR (k x) ob rs ws a ob' rs' ws' → EvM CR (.ui (some x) k) ob rs ws a ob' rs' ws'
  | us {x : List UInt8} {k : List UInt8 → M CT α} {ob ob' : Ob CT} {rs ws rs' ws' : List Nat} {a : α} : EvM CR (k x) ob rs ws a ob' rs' ws' → EvM CR (.us (some x) k) ob rs ws a ob' rs' ws'
  | un {x : Nat} {k : Nat → M CT α} {ob ob' : Ob CT} {rs ws rs' ws' : List Nat} {a : α} : EvM CR (k x) ob rs ws a ob' rs' ws' → EvM CR (.un (some x) k) ob rs ws a ob' rs' ws'
  | ut {c : Nat} {x : CT c} {k : CT c → M CT α} {ob ob' : Ob CT} {rs ws rs' ws' : List Nat} {a : α} : EvM CR (k x) ob rs ws a ob' rs' ws' → EvM CR (.ut c (some x) k) ob rs ws a ob' rs' ws'
  | call {f : Nat} {args objs : List (AV CT)} {res : Res CT} {k : Res CT → M CT α} {ob ob' : Ob CT} {rs ws rs' ws' : List Nat} {a : α} : CR f args objs res → EvM CR (k res) ob rs ws a ob' rs' ws' → EvM CR (.call f args objs k) ob rs ws a ob' rs' ws'

def GamOk (CR : CallR CT) (Γ : Gam CT) : Prop := ∀ (β : Type) (f : Nat) (args objs : List (AV CT)) (K : Res CT → Option β) (r : β), Γ β f args objs K = some r → ∃ res, CR f args objs res ∧ K res = some r

theorem run_leaf {CR : CallR CT} {Γ : Gam CT} (hΓ : GamOk CR Γ) {α β : Type} (m : M CT α) : ∀ (ob : Ob CT) (rs ws : List Nat) (K : α → Ob CT → List Nat → List Nat → Option β) (r : β),
    m.run Γ ob rs ws K = some r → ∃ a ob' rs' ws', EvM CR m ob rs ws a ob' rs' ws' ∧ K a ob' rs' ws' = some r := by
  induction m with
  | ret a => intro ob rs ws K r h; exact ⟨a, ob, rs, ws, .ret, h⟩
  | fail => intro ob rs ws K r h; cases h
  | rd id k ih => intro ob rs ws K r h; obtain ⟨a, ob', rs', ws', h1, h2⟩ := ih _ _ _ _ _ _ h; exact ⟨a, ob', rs', ws', .rd h1, h2⟩
  | wr id v k ih => intro ob rs ws K r h; obtain ⟨a, ob', rs', ws', h1, h2⟩ := ih _ _ _ _ _ h; exact ⟨a, ob', rs', ws', .wr h1, h2⟩
  | gd b k ih =>
    intro ob rs ws K r h
    cases b with
    | false => cases h
    | true => obtain ⟨a, ob', rs', ws', h1, h2⟩ := ih _ _ _ _ _ h; exact ⟨a, ob', rs', ws', .gd h1, h2⟩
  | sp b t f iht ihf =>
    intro ob rs ws K r h
    cases b with
    | false => obtain ⟨a, ob', rs', ws', h1, h2⟩ := ihf _ _ _ _ _ h; exact ⟨a, ob', rs', ws', .spF h1, h2⟩
    | true => obtain ⟨a, ob', rs', ws', h1, h2⟩ := iht _ _ _ _ _ h; exact ⟨a, ob', rs', ws', .spT h1, h2⟩
  | ub o k ih =>
    intro ob rs ws K r h
    cases o with
    | none => cases h
    | some x => obtain ⟨a, ob', rs', ws', h1, h2⟩ := ih _ _ _ _ _ _ h; exact ⟨a, ob', rs', ws', .ub h1, h2⟩
  | ui o k ih =>
    intro ob rs ws K r h
    cases o with
    | none => cases h
    | some x => obtain ⟨a, ob', rs', ws', h1, h2⟩ := ih _ _ _ _ _ _ h; exact ⟨a, ob', rs', ws', .ui h1, h2⟩
  | us o k ih =>
    intro ob rs ws K r h
    cases o with
    | none => cases h
    | some x => obtain ⟨a, ob', rs', ws', h1, h2⟩ := ih _ _ _ _ _ _ h; exact ⟨a, ob', rs', ws', .us h1, h2⟩
  | un o k ih =>
    intro ob rs ws K r h
    cases o with
    | none => cases h
    | some x => obtain ⟨a, ob', rs', ws', h1, h2⟩ := ih _ _ _ _ _ _ h; exact ⟨a, ob', rs', ws', .un h1, h2⟩
  | ut c o k ih =>
    intro ob rs ws K r h
    cases o with
    | none => cases h
    | some x => obtain ⟨a, ob', rs', ws', h1, h2⟩ := ih _ _ _ _ _ _ h; exact ⟨a, ob', rs', ws', .ut h1, h2⟩
  | call f args objs k ih =>
    intro ob rs ws K r h
    obtain ⟨res, h1, h2⟩ := hΓ _ _ _ _ _ _ h
    obtain ⟨a, ob', rs', ws', h3, h4⟩ := ih _ _ _ _ _ _ h2
    exact ⟨a, ob', rs', ws', .call h1 h3, h4⟩

/-! ### Objects as a map -/
theorem beq_ne {i j : Nat} (h : ¬ i = j) : Nat.beq i j = false := by
  cases hb : Nat.beq i j with
  | false => rfl
  | true => exact absurd (Nat.eq_of_beq_eq_true hb) h
theorem Ob.get_set (ob : Ob CT) (i j : Nat) (v : Option (AV CT)) : (ob.set i v).get j = if i = j then some v else ob.get j := by
  induction ob with
  | nil =>
    simp only [Ob.set, Ob.get]
    by_cases h : i = j
    · subst h; simp
    · rw [if_neg h, beq_ne h]; rfl
  | cons p r ih =>
    obtain ⟨k, u⟩ := p
    simp only [Ob.set]
    by_cases hk : k = i
    · subst hk
      simp only [Nat.beq_refl, cond_true, Ob.get]
      by_cases h : k = j
      · subst h; simp
      · simp [beq_ne h, h]
    · have hk' : Nat.beq k i = false := beq_ne hk
      simp only [hk', cond_false, Ob.get, ih]
      by_cases h : k = j
      · subst h
        simp [Ne.symm hk]
      · simp [beq_ne h]

/-- What was touched alone decides; the rest stays. -/
theorem EvM.grow {CR : CallR CT} {α : Type} {m : M CT α} {ob ob' : Ob CT} {rs ws rs' ws' : List Nat} {a : α} (h : EvM CR m ob rs ws a ob' rs' ws') :
    (∀ i ∈ rs, i ∈ rs') ∧ (∀ i ∈ ws, i ∈ ws') ∧ ∀ i, i ∉ ws' → ob'.get i = ob.get i := by
  induction h with
  | ret => exact ⟨fun _ h => h, fun _ h => h, fun _ _ => rfl⟩
  | rd _ ih => exact ⟨fun i hi => ih.1 i (List.mem_cons_of_mem _ hi), ih.2.1, ih.2.2⟩
  | @wr id v k ob _ _ ws _ _ _ _ ih =>
    refine ⟨ih.1, fun i hi => ih.2.1 i (List.mem_cons_of_mem _ hi), fun i hi => ?_⟩
    rw [ih.2.2 i hi, Ob.get_set, if_neg]
    rintro rfl; exact hi (ih.2.1 _ List.mem_cons_self)
  | call _ _ ih => exact ih
  | _ => assumption

theorem EvM.local {CR : CallR CT} {α : Type} {m : M CT α} {ob ob' : Ob CT} {rs ws rs' ws' : List Nat} {a : α} (h : EvM CR m ob rs ws a ob' rs' ws') :
    ∀ q : Ob CT, (∀ i, (i ∈ rs' ∨ i ∈ ws) → q.get i = ob.get i) →
      ∃ q', EvM CR m q rs ws a q' rs' ws' ∧ (∀ i ∈ ws', q'.get i = ob'.get i) ∧ ∀ i, i ∉ ws' → q'.get i = q.get i := by
  induction h with
  | @ret a ob rs ws => intro q hq; exact ⟨q, .ret, fun i hi => hq i (.inr hi), fun _ _ => rfl⟩
  | @rd id k ob _ rs ws _ _ _ h ih =>
    intro q hq
    obtain ⟨q', h1, h2, h3⟩ := ih q hq
    refine ⟨q', .rd ?_, h2, h3⟩
    rw [hq id (.inl (h.grow.1 _ List.mem_cons_self))]; exact h1
  | @wr id v k ob _ rs ws _ _ _ h ih =>
    intro q hq
    obtain ⟨q', h1, h2, h3⟩ := ih (q.set id v) (fun i hi => by
      rw [Ob.get_set, Ob.get_set]
      by_cases e : id = i
      · rw [if_pos e, if_pos e]
      · rw [if_neg e, if_neg e]
        refine hq i (hi.imp (fun h => h) (fun hi => ?_))
        rcases List.mem_cons.1 hi with rfl | hi
        · exact absurd rfl e
        · exact hi)
    refine ⟨q', .wr h1, h2, fun i hi => ?_⟩
    rw [h3 i hi, Ob.get_set, if_neg]
    rintro rfl; exact hi (h.grow.2.1 _ List.mem_cons_self)
  | gd _ ih => intro q hq; obtain ⟨q', h1, h2⟩ := ih q hq; exact ⟨q', .gd h1, h2⟩
  | spT _ ih => intro q hq; obtain ⟨q', h1, h2⟩ := ih q hq; exact ⟨q', .spT h1, h2⟩
  | spF _ ih => intro q hq; obtain ⟨q', h1, h2⟩ := ih q hq; exact ⟨q', .spF h1, h2⟩
  | ub _ ih => intro q hq; obtain ⟨q', h1, h2⟩ := ih q hq; exact ⟨q', .ub h1, h2⟩
  | ui _ ih => intro q hq; obtain ⟨q', h1, h2⟩ := ih q hq; exact ⟨q', .ui h1, h2⟩
  | us _ ih => intro q hq; obtain ⟨q', h1, h2⟩ := ih q hq; exact ⟨q', .us h1, h2⟩
  | un _ ih => intro q hq; obtain ⟨q', h1, h2⟩ := ih q hq; exact ⟨q', .un h1, h2⟩
  | ut _ ih => intro q hq; obtain ⟨q', h1, h2⟩ := ih q hq; exact ⟨q', .ut h1, h2⟩
  | call hc _ ih => intro q hq; obtain ⟨q', h1, h2⟩ := ih q hq; exact ⟨q', .call hc h1, h2⟩

/-! ### Without footprints -/
/-- What a program comes to. -/
def Ev (CR : CallR CT) {α : Type} (m : M CT α) (ob : Ob CT) (a : α) (ob' : Ob CT) : Prop := ∃ rs ws rs' ws', EvM CR m ob rs ws a ob' rs' ws'
section
variable {CR : CallR CT} {α : Type} {ob ob' : Ob CT} {v : α}
theorem Ev.ret_inv {a : α} (h : Ev CR (.ret a) ob v ob') : v = a ∧ ob' = ob := by
  obtain ⟨_, _, _, _, h⟩ := h; cases h; exact ⟨rfl, rfl⟩
theorem Ev.fail_inv (h : Ev CR (.fail : M CT α) ob v ob') : False := by
  obtain ⟨_, _, _, _, h⟩ := h; cases h
theorem Ev.rd_inv {id : Nat} {k : Option (Option (AV CT)) → M CT α} (h : Ev CR (.rd id k) ob v ob') : Ev CR (k (ob.get id)) ob v ob' := by
  obtain ⟨_, _, _, _, h⟩ := h; cases h with | rd h => exact ⟨_, _, _, _, h⟩
theorem Ev.wr_inv {id : Nat} {x : Option (AV CT)} {k : M CT α} (h : Ev CR (.wr id x k) ob v ob') : Ev CR k (ob.set id x) v ob' := by
  obtain ⟨_, _, _, _, h⟩ := h; cases h with | wr h => exact ⟨_, _, _, _, h⟩
theorem Ev.gd_inv {b : Bool} {k : M CT α} (h : Ev CR (.gd b k) ob v ob') : b = true ∧ Ev CR k ob v ob' := by
  obtain ⟨_, _, _, _, h⟩ := h; cases h with | gd h => exact ⟨rfl, _, _, _, _, h⟩
theorem Ev.sp_inv {b : Bool} {t f : M CT α} (h : Ev CR (.sp b t f) ob v ob') : Ev CR (cond b t f) ob v ob' := by
  obtain ⟨_, _, _, _, h⟩ := h; cases h with | spT h => exact ⟨_, _, _, _, h⟩ | spF h => exact ⟨_, _, _, _, h⟩
theorem Ev.ub_inv {o : Option UInt8} {k : UInt8 → M CT α} (h : Ev CR (.ub o k) ob v ob') : ∃ x, o = some x ∧ Ev CR (k x) ob v ob' := by
  obtain ⟨_, _, _, _, h⟩ := h; cases h with | ub h => exact ⟨_, rfl, _, _, _, _, h⟩
theorem Ev.ui_inv {o : Option Int} {k : Int → M CT α} (h : Ev CR (.ui o k) ob v ob') : ∃ x, o = some x ∧ Ev CR (k x) ob v ob' := by
  obtain ⟨_, _, _, _, h⟩ := h; cases h with | ui h => exact ⟨_, rfl, _, _, _, _, h⟩
theorem Ev.us_inv {o : Option (List UInt8)} {k : List UInt8 → M CT α} (h : Ev CR (.us o k) ob v ob') : ∃ x, o = some x ∧ Ev CR (k x) ob v ob' := by
  obtain ⟨_, _, _, _, h⟩ := h; cases h with | us h => exact ⟨_, rfl, _, _, _, _, h⟩
theorem Ev.un_inv {o : Option Nat} {k : Nat → M CT α} (h : Ev CR (.un o k) ob v ob') : ∃ x, o = some x ∧ Ev CR (k x) ob v ob' := by
  obtain ⟨_, _, _, _, h⟩ := h; cases h with | un h => exact ⟨_, rfl, _, _, _, _, h⟩
theorem Ev.ut_inv {c : Nat} {o : Option (CT c)} {k : CT c → M CT α} (h : Ev CR (.ut c o k) ob v ob') : ∃ x, o = some x ∧ Ev CR (k x) ob v ob' := by
  obtain ⟨_, _, _, _, h⟩ := h; cases h with | ut h => exact ⟨_, rfl, _, _, _, _, h⟩
theorem Ev.call_inv {f : Nat} {args objs : List (AV CT)} {k : Res CT → M CT α} (h : Ev CR (.call f args objs k) ob v ob') : ∃ res, CR f args objs res ∧ Ev CR (k res) ob v ob' := by
  obtain ⟨_, _, _, _, h⟩ := h; cases h with | call h1 h => exact ⟨_, h1, _, _, _, _, h⟩

theorem Ev.getM_inv {C : Cod CT} {l : LS CT (AV CT)} {i : Nat} {k : AV CT → M CT α} (h : Ev CR (l.getM C i k) ob v ob') : ∃ b, l.get? C i = some b ∧ Ev CR (k b) ob v ob' := by
  cases l with
  | u8 l => obtain ⟨x, h1, h2⟩ := h.ub_inv; exact ⟨_, by simp only [LS.get?, h1]; rfl, h2⟩
  | int kd l => obtain ⟨x, h1, h2⟩ := h.ui_inv; exact ⟨_, by simp only [LS.get?, h1]; rfl, h2⟩
  | str l => obtain ⟨x, h1, h2⟩ := h.us_inv; exact ⟨_, by simp only [LS.get?, h1]; rfl, h2⟩
  | typ c s sc l => obtain ⟨x, h1, h2⟩ := h.ut_inv; exact ⟨_, by simp only [LS.get?, h1]; rfl, h2⟩
  | gen s l =>
    simp only [LS.getM] at h
    split at h
    · rename_i a ha; exact ⟨a, ha, h⟩
    · exact h.fail_inv.elim
theorem kindEq_eq {a b : IntKind} (h : kindEq a b = true) : a = b := by
  unfold kindEq at h; split at h
  · assumption
  · cases h
theorem fkindEq_eq {a b : FloatKind} (h : fkindEq a b = true) : a = b := by
  unfold fkindEq at h; split at h
  · assumption
  · cases h
theorem cond_fail {b : Bool} {m : M CT α} (h : Ev CR (cond b m .fail) ob v ob') : b = true ∧ Ev CR m ob v ob' := by
  cases b with
  | true => exact ⟨rfl, h⟩
  | false => exact h.fail_inv.elim
theorem Ev.setM_inv {C : Cod CT} {l : LS CT (AV CT)} {i : Nat} {x : AV CT} {k : LS CT (AV CT) → M CT α} (h : Ev CR (l.setM C i x k) ob v ob') : ∃ l', SetL C l i x l' ∧ Ev CR (k l') ob v ob' := by
  cases l with
  | u8 l =>
    simp only [LS.setM] at h
    split at h
    · obtain ⟨h1, h2⟩ := cond_fail h
      obtain rfl := kindEq_eq h1; exact ⟨_, .u8, h2⟩
    · exact h.fail_inv.elim
  | int kd l =>
    simp only [LS.setM] at h
    split at h
    · obtain ⟨h1, h2⟩ := cond_fail h
      obtain rfl := kindEq_eq h1; exact ⟨_, .int, h2⟩
    · exact h.fail_inv.elim
  | str l =>
    simp only [LS.setM] at h
    split at h
    · exact ⟨_, .str, h⟩
    · exact h.fail_inv.elim
  | typ c s sc l =>
    simp only [LS.setM] at h
    split at h
    · rename_i x hx; exact ⟨_, .typ hx, h⟩
    · exact h.fail_inv.elim
  | gen s l =>
    simp only [LS.setM] at h
    obtain ⟨h1, h2⟩ := cond_fail h
    simp only [Bool.and_eq_true] at h1
    exact ⟨_, .gen h1.1 (Nat.eq_of_beq_eq_true h1.2), h2⟩
theorem Ev.getP_inv {C : Cod CT} (p : List Step) : ∀ {a : AV CT} {k : AV CT → M CT α}, Ev CR (getP C p a k) ob v ob' → ∃ b, GetR C p a b ∧ Ev CR (k b) ob v ob' := by
  induction p with
  | nil => intro a k h; exact ⟨a, .nil, h⟩
  | cons s p ih =>
    intro a k h
    cases s with
    | fld off j =>
      simp only [getP] at h
      split at h
      · obtain ⟨h1, h2⟩ := cond_fail h
        split at h2
        · rename_i b hb
          obtain ⟨c, h3, h4⟩ := ih h2
          exact ⟨c, .fld (Nat.eq_of_beq_eq_true h1) hb h3, h4⟩
        · exact h2.fail_inv.elim
      · exact h.fail_inv.elim
    | idx s i =>
      simp only [getP] at h
      split at h
      · obtain ⟨h1, h2⟩ := cond_fail h
        obtain ⟨b, hb, h3⟩ := h2.getM_inv
        obtain ⟨c, h4, h5⟩ := ih h3
        exact ⟨c, .arr (Nat.eq_of_beq_eq_true h1) hb h4, h5⟩
      · obtain ⟨h1, h2⟩ := cond_fail h
        obtain ⟨b, hb, h3⟩ := h2.getM_inv
        obtain ⟨c, h4, h5⟩ := ih h3
        exact ⟨c, .lst (Nat.eq_of_beq_eq_true h1) hb h4, h5⟩
      · exact h.fail_inv.elim
theorem Ev.setP_inv {C : Cod CT} (p : List Step) : ∀ {a x : AV CT} {k : AV CT → M CT α}, Ev CR (setP C p a x k) ob v ob' → ∃ b, SetR C p a x b ∧ Ev CR (k b) ob v ob' := by
  induction p with
  | nil => intro a x k h; obtain ⟨h1, h2⟩ := cond_fail h; exact ⟨x, .nil h1, h2⟩
  | cons s p ih =>
    intro a x k h
    cases s with
    | fld off j =>
      simp only [setP] at h
      split at h
      · obtain ⟨h1, h2⟩ := cond_fail h
        split at h2
        · rename_i b hb
          obtain ⟨c, h3, h4⟩ := ih h2
          exact ⟨_, .fld (Nat.eq_of_beq_eq_true h1) hb h3, h4⟩
        · exact h2.fail_inv.elim
      · exact h.fail_inv.elim
    | idx s i =>
      simp only [setP] at h
      split at h
      · obtain ⟨h1, h2⟩ := cond_fail h
        obtain ⟨b, hb, h3⟩ := h2.getM_inv
        obtain ⟨c, h4, h5⟩ := ih h3
        obtain ⟨l', h6, h7⟩ := h5.setM_inv
        exact ⟨_, .arr (Nat.eq_of_beq_eq_true h1) hb h4 h6, h7⟩
      · obtain ⟨h1, h2⟩ := cond_fail h
        obtain ⟨b, hb, h3⟩ := h2.getM_inv
        obtain ⟨c, h4, h5⟩ := ih h3
        obtain ⟨l', h6, h7⟩ := h5.setM_inv
        exact ⟨_, .lst (Nat.eq_of_beq_eq_true h1) hb h4 h6, h7⟩
      · exact h.fail_inv.elim
theorem Ev.newObj_inv {id : Nat} {x : AV CT} {k : M CT α} (h : Ev CR (newObj id x k) ob v ob') : ob.get id = none ∧ x.isCell = true ∧ Ev CR k (ob.set id (some x)) v ob' := by
  have h := h.rd_inv
  split at h
  · rename_i hn
    obtain ⟨h1, h2⟩ := cond_fail h
    exact ⟨hn, h1, h2.wr_inv⟩
  · exact h.fail_inv.elim
theorem Ev.rdObj_inv {id : Nat} {k : AV CT → M CT α} (h : Ev CR (rdObj id k) ob v ob') : ∃ a, ob.get id = some (some a) ∧ Ev CR (k a) ob v ob' := by
  have h := h.rd_inv
  split at h
  · rename_i a ha; exact ⟨a, ha, h⟩
  · exact h.fail_inv.elim
theorem Ev.rdLst_inv {id : Nat} {k : LS CT (AV CT) → M CT α} (h : Ev CR (rdLst id k) ob v ob') : ∃ l, ob.get id = some (some (.lst l)) ∧ Ev CR (k l) ob v ob' := by
  obtain ⟨a, ha, h⟩ := h.rdObj_inv
  split at h
  · exact ⟨_, ha, h⟩
  · exact h.fail_inv.elim

/-- What a slice reads as. -/
inductive SliceR (C : Cod CT) (ob : Ob CT) : AV CT → Bool → LS CT (AV CT) → Prop
  | vnil {k : LK} : SliceR C ob (.vnil k) false k.nil
  | vs {lent : Bool} {l : LS CT (AV CT)} : SliceR C ob (.vs lent l) lent l
  | mw {id : Nat} {k : LK} {l : LS CT (AV CT)} : ob.get id = some (some (.lst l)) → SliceR C ob (.mw id k) true l
  | msA {id : Nat} {p : List Step} {k : LK} {off len cap n : Nat} {a : AV CT} {l : LS CT (AV CT)} : ob.get id = some (some a) → GetR C p a (.arr n l) → off + len ≤ l.len → k.sz = l.sz → SliceR C ob (.ms id p k off len cap) true (l.ext off len)
  | msL {id : Nat} {p : List Step} {k : LK} {off len cap : Nat} {a : AV CT} {l : LS CT (AV CT)} : ob.get id = some (some a) → GetR C p a (.lst l) → off + len ≤ l.len → k.sz = l.sz → SliceR C ob (.ms id p k off len cap) true (l.ext off len)
theorem Ev.sliceOf_inv {C : Cod CT} {a : AV CT} {k : Bool → LS CT (AV CT) → M CT α} (h : Ev CR (sliceOf C a k) ob v ob') : ∃ lent l, SliceR C ob a lent l ∧ Ev CR (k lent l) ob v ob' := by
  unfold sliceOf at h
  split at h
  · exact ⟨_, _, .vnil, h⟩
  · exact ⟨_, _, .vs, h⟩
  · obtain ⟨l, h1, h2⟩ := h.rdLst_inv; exact ⟨_, _, .mw h1, h2⟩
  · obtain ⟨c, h1, h2⟩ := h.rdObj_inv
    obtain ⟨b, h3, h4⟩ := h2.getP_inv
    split at h4
    · obtain ⟨g1, h5⟩ := h4.gd_inv
      obtain ⟨g2, h6⟩ := cond_fail h5
      exact ⟨_, _, .msA h1 h3 (Nat.ble_eq.mp g1) (Nat.eq_of_beq_eq_true g2), h6⟩
    · obtain ⟨g1, h5⟩ := h4.gd_inv
      obtain ⟨g2, h6⟩ := cond_fail h5
      exact ⟨_, _, .msL h1 h3 (Nat.ble_eq.mp g1) (Nat.eq_of_beq_eq_true g2), h6⟩
    · exact h4.fail_inv.elim
  · exact h.fail_inv.elim
end
end Go.Proofs.Ytjnkppjlhmkjaaa.Av
