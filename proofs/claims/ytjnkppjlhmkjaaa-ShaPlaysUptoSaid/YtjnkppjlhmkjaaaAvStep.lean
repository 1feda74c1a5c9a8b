/- One operation. -/
import Derived.Test.YtjnkppjlhmkjaaaAvOp13
namespace Go.Proofs.Ytjnkppjlhmkjaaa.Av
open Go
variable {CT : Nat → Type}
section
variable {P : Program} {T : TyTab CT} {CR : CallR CT} {X0 X : Cx CT} {W w : World} {ob ob' : Ob CT} {r : AV CT}
/-- What an operation comes to, a call or not. -/
def OpOk (P : Program) (X0 X : Cx CT) (W w : World) (s : Sem Next) (v : AV CT) (ob' : Ob CT) : Prop :=
  Good P X0 X W w s v ob' ∨ ∃ f args, s.run P w = .ok (.enter f args) w ∧ Calls P f args w fun e w' => ∃ u X', e = .returned u ∧ Le X X' ∧ Mem X0 W X' ob' w' ∧ RV X' v u
theorem OpOk.wp {o : Oper} {a : Act} {v : AV CT} (h : OpOk P X0 X W w (execOp a.eval o) v ob') {next : Act → World → Prop} {Q : Exit → Act → World → Prop}
    (hK : ∀ u w' X', Le X X' → Mem X0 W X' ob' w' → RV X' v u → next (a.put o.dst u) w') : o.wp P a w next Q := by
  unfold Oper.wp
  rcases h with ⟨u, w', X', hr, E, M, hv⟩ | ⟨f, args, hr, hc⟩
  · rcases hr with hr | ⟨hr, rfl⟩
    · rw [hr]; exact hK u w' X' E M hv
    · rw [hr]; exact hK _ w' X' E M hv
  · rw [hr, Oper.upon_enter]
    refine hc.mono ?_
    rintro e w' ⟨u, X', rfl, E, M, hv⟩
    exact hK u w' X' E M hv
theorem builtin_good (H : TabOk P T) (hC : X.C = T.C) (M : Mem X0 W X ob w) {d : Nat} {b : Builtin} {ts : Array TypeId} {ty : Nat} {cs : Array Bool} {args : List (AV CT)} {vs : Array Value} (hl : args.length = vs.toList.length)
    (hv : ∀ (j : Nat) (a : AV CT) (v : Value), args[j]? = some a → vs.toList[j]? = some v → RV X a v) (h : Ev CR (builtinM T d b ts.toList args .ret) ob r ob') :
    Good P X0 X W w (builtin b ts ty cs vs) r ob' := by
  obtain ⟨vs⟩ := vs
  obtain ⟨ts⟩ := ts
  simp only at hl hv h
  unfold builtinM at h
  split at h
  · rename_i x l
    obtain ⟨v, vs, rfl⟩ : ∃ v l, vs = v :: l := by cases vs with | nil => simp at hl | cons v l => exact ⟨v, l, rfl⟩
    cases ts with
    | nil => exact h.fail_inv.elim
    | cons t ts => exact len_good H M (ts := (t :: ts).toArray) (vs := (v :: vs).toArray) (by simp) (by simp) (hv 0 x v rfl rfl) h
  · rename_i s x
    obtain ⟨u, v, rfl⟩ : ∃ u v, vs = [u, v] := by
      match vs, hl with
      | [u, v], _ => exact ⟨u, v, rfl⟩
    split at h
    · rename_i t tx
      split at h
      · rename_i e hd
        obtain ⟨hk, h⟩ := cond_fail h
        exact append_good H hC M hd ((hv 0 s u rfl rfl).fixed H hC) ((hv 1 x v rfl rfl).fixed H hC) hk h
      · exact h.fail_inv.elim
    · exact h.fail_inv.elim
  · rename_i s x
    obtain ⟨u, v, rfl⟩ : ∃ u v, vs = [u, v] := by
      match vs, hl with
      | [u, v], _ => exact ⟨u, v, rfl⟩
    split at h
    · rename_i t tx
      split at h
      · rename_i e hd
        exact copy_good M h
      · exact h.fail_inv.elim
    · exact h.fail_inv.elim
  · rename_i a l
    obtain ⟨v, vs, rfl⟩ : ∃ v l, vs = v :: l := by cases vs with | nil => simp at hl | cons v l => exact ⟨v, l, rfl⟩
    obtain ⟨rfl, u, h1, h2⟩ := foldMin (P := P) M l vs a v (hv 0 a v rfl rfl) (by simpa using hl) (fun j b u hb hu => hv (j + 1) b u (by simpa using hb) (by simpa using hu)) h
    exact .of_run M (u := u) (by simpa [Builtin.min_] using h1) h2
  · rename_i a l
    obtain ⟨v, vs, rfl⟩ : ∃ v l, vs = v :: l := by cases vs with | nil => simp at hl | cons v l => exact ⟨v, l, rfl⟩
    obtain ⟨rfl, u, h1, h2⟩ := foldMax (P := P) M l vs a v (hv 0 a v rfl rfl) (by simpa using hl) (fun j b u hb hu => hv (j + 1) b u (by simpa using hb) (by simpa using hu)) h
    exact .of_run M (u := u) (by simpa [Builtin.max_] using h1) h2
  · rename_i k a k' b
    obtain ⟨hk, h'⟩ := cond_fail h
    clear h
    obtain rfl := fkindEq_eq hk
    obtain ⟨rfl, rfl⟩ := h'.ret_inv
    obtain ⟨u, v, rfl⟩ : ∃ u v, vs = [u, v] := by
      match vs, hl with
      | [u, v], _ => exact ⟨u, v, rfl⟩
    obtain rfl := (hv 0 _ u rfl rfl).flt
    obtain rfl := (hv 1 _ v rfl rfl).flt
    exact .of_run M (u := .complex k a b) (by show Sem.run P (if k = k then Pure.pure (Value.complex k a b) else _) w = _; rw [if_pos rfl]; rfl) RV.of_cpx
  · rename_i k a b
    obtain ⟨rfl, rfl⟩ := h.ret_inv
    obtain ⟨u, rfl⟩ : ∃ u, vs = [u] := by
      match vs, hl with
      | [u], _ => exact ⟨u, rfl⟩
    obtain rfl := (hv 0 _ u rfl rfl).cpx
    exact .of_run M (u := .float k a) rfl RV.of_flt
  · rename_i k a b
    obtain ⟨rfl, rfl⟩ := h.ret_inv
    obtain ⟨u, rfl⟩ : ∃ u, vs = [u] := by
      match vs, hl with
      | [u], _ => exact ⟨u, rfl⟩
    obtain rfl := (hv 0 _ u rfl rfl).cpx
    exact .of_run M (u := .float k b) rfl RV.of_flt
  · exact h.fail_inv.elim
theorem PR_of {ρ : Operand → AV CT} {ρ' : Operand → Value} : ∀ (ps : List (Nat × Operand)), (∀ x ∈ ps.map (·.2), RV X (ρ x) (ρ' x)) → PR X (ps.map fun p => (p.1, ρ p.2)) (ps.map fun p => (p.1, ρ' p.2))
  | [], _ => trivial
  | p :: ps, h => ⟨rfl, h _ (by simp), PR_of ps fun x hx => h x (List.mem_cons_of_mem _ hx)⟩
theorem PR_parts {ρ : Operand → AV CT} {ρ' : Operand → Value} (ps : Array (Nat × Operand)) (h : ∀ x ∈ (ps.toList.map (·.2)).toArray, RV X (ρ x) (ρ' x)) : PR X (partsOf ρ ps) (ps.map fun (i, x) => (i, ρ' x)).toList := by
  have := PR_of (X := X) (ρ := ρ) (ρ' := ρ') ps.toList fun x hx => h x (by simpa using hx)
  rw [Array.toList_map]
  exact this
theorem fixAll_len : ∀ (ts : List Nat) (l : List (AV CT)), (fixAll T ts l).length = l.length
  | [], _ => by simp [fixAll]
  | _ :: _, [] => by simp [fixAll]
  | t :: ts, a :: l => by simp [fixAll, fixAll_len ts l]
theorem fixAll_rv (H : TabOk P T) (hC : X.C = T.C) : ∀ (ts : List Nat) (l : List (AV CT)) (vs : List Value), (∀ (j : Nat) (a : AV CT) (v : Value), l[j]? = some a → vs[j]? = some v → RV X a v) →
    ∀ (j : Nat) (a : AV CT) (v : Value), (fixAll T ts l)[j]? = some a → vs[j]? = some v → RV X a v
  | [], l, vs, h => by simpa [fixAll] using h
  | _ :: _, [], vs, h => by simp [fixAll]
  | t :: ts, b :: l, [], h => by simp
  | t :: ts, b :: l, u :: vs, h => fun j a v ha hv => by
    simp only [fixAll] at ha
    cases j with
    | zero => simp at ha hv; subst ha; subst hv; exact (h 0 b u rfl rfl).fixed H hC
    | succ j => exact fixAll_rv H hC ts l vs (fun j a v ha hv => h (j + 1) a v (by simpa using ha) (by simpa using hv)) j a v (by simpa using ha) (by simpa using hv)
theorem opcall_ok (H : TabOk P T) (hCR : ∀ f args objs res, CR f args objs res → CallsOk P X.C f args objs res) (hC : X.C = T.C) (M : Mem X0 W X ob w) {d : Nat} {c : Call} {dst : Option Nat} {type : Nat} {pos : String} {after : Array Edge} {guard : Option (Nat × Bool)} {ρ : Operand → AV CT} {ρ' : Operand → Value}
    (hρ : ∀ x ∈ c.operands, RV X (ρ x) (ρ' x)) (h : Ev CR (match c.callee with
    | .builtin b => builtinM T d b c.argTypes.toList (c.args.toList.map ρ) .ret
    | .value f => match ρ f with
      | .fn f caps => cond (caps.all fun a => !a.isAgg) (callM T d f (fixAll T c.argTypes.toList (c.args.toList.map ρ) ++ caps) .ret) .fail
      | _ => .fail
    | _ => .fail) ob r ob') : OpOk P X0 X W w (execOp ρ' ⟨dst, .call c, type, pos, after, guard⟩) r ob' := by
  split at h
  · rename_i b hb
    refine .inl ?_
    unfold Good
    simp only [execOp, resolve, hb, Sem.run_bind, Sem.run_pure, Result.andThen_ok, invoke]
    exact builtin_good (P := P) (X0 := X0) (W := W) H hC M (args := c.args.toList.map ρ) (vs := c.args.map ρ') (by simp) (fun j a v ha hv => by
      rw [List.getElem?_map, Option.map_eq_some_iff] at ha
      obtain ⟨x, hx, rfl⟩ := ha
      have hx' : c.args[j]? = some x := by simpa using hx
      rw [Array.getElem?_toList, Array.getElem?_map, hx'] at hv
      cases hv
      exact hρ x (by simp [Call.operands, hb]; exact Array.mem_of_getElem? hx')) h
  · rename_i f hb
    split at h
    · rename_i g caps hg
      have hf := hg ▸ hρ f (by simp [Call.operands, hb])
      obtain ⟨cv, e1, e2, e3⟩ := hf.fn
      obtain ⟨hcaps, h⟩ := cond_fail h
      have := call_good (P := P) (T := T) (X0 := X0) (W := W) hCR hC M (args := fixAll T c.argTypes.toList (c.args.toList.map ρ) ++ caps) (vs := (c.args.map ρ').toList ++ cv) (by simp [fixAll_len, e2]) (fun j a v ha hv => by
        by_cases hj : j < c.args.size
        · rw [List.getElem?_append_left (by simpa [fixAll_len] using hj)] at ha
          rw [List.getElem?_append_left (by simpa using hj)] at hv
          refine fixAll_rv H hC _ _ _ (fun j a v ha hv => ?_) j a v ha hv
          rw [List.getElem?_map, Option.map_eq_some_iff] at ha
          obtain ⟨x, hx, rfl⟩ := ha
          have hx' : c.args[j]? = some x := by simpa using hx
          rw [Array.getElem?_toList, Array.getElem?_map, hx'] at hv
          cases hv
          exact hρ x (by simp [Call.operands, hb]; exact .inr (Array.mem_of_getElem? hx'))
        · rw [List.getElem?_append_right (by simpa [fixAll_len] using hj)] at ha
          rw [List.getElem?_append_right (by simpa using hj)] at hv
          simp only [fixAll_len, List.length_map, Array.length_toList, Array.size_map] at ha hv
          have := e3 _ a v ha hv
          have hag : a.isAgg = false := by simpa using List.all_eq_true.1 hcaps a (List.mem_of_getElem? ha)
          exact (R.rc1 this hag).rv) h
      obtain ⟨h1, h2⟩ := this
      refine .inr ⟨g, _, ?_, h2⟩
      have e4 : ((c.args.map ρ').toList ++ cv).toArray = c.args.map ρ' ++ cv.toArray := by apply Array.ext'; simp
      rw [e4]
      have := h1 ((c.args.map ρ') ++ cv.toArray) w
      simp only [execOp, resolve, hb, e1, Deferred.ofValue, Sem.run_bind, Sem.run_pure, Result.andThen_ok, invoke]
      simpa using this
    · exact h.fail_inv.elim
  · exact h.fail_inv.elim
theorem op_ok (H : TabOk P T) (hCR : ∀ f args objs res, CR f args objs res → CallsOk P X.C f args objs res) (hC : X.C = T.C) (M : Mem X0 W X ob w) {d : Nat} {o : Oper} {ρ : Operand → AV CT} {ρ' : Operand → Value}
    (hρ : ∀ x ∈ o.op.operands, RV X (ρ x) (ρ' x)) (h : Ev CR (opM T d o ρ .ret) ob r ob') : OpOk P X0 X W w (execOp ρ' o) r ob' := by
  obtain ⟨dst, op, type, pos, after, guard⟩ := o
  unfold opM at h
  cases op <;> simp only [Op.operands] at hρ h
  case move x => obtain ⟨rfl, rfl⟩ := h.ret_inv; exact .inl (Good.pure M ((hρ x (by simp)).fixed H hC))
  case assign x => obtain ⟨rfl, rfl⟩ := h.ret_inv; exact .inl (Good.pure M ((hρ x (by simp)).fixed H hC))
  case pick c a b =>
    split at h
    · rename_i v hc
      have hb := (hc ▸ hρ c (by simp)).bool
      have h := h.sp_inv
      refine .inl ?_
      cases v with
      | true => obtain ⟨rfl, rfl⟩ := h.ret_inv; exact ⟨ρ' a, w, X, .inl (by simp [execOp, hb, asBool]), .refl X, M, hρ a (by simp)⟩
      | false => obtain ⟨rfl, rfl⟩ := h.ret_inv; exact ⟨ρ' b, w, X, .inl (by simp [execOp, hb, asBool]), .refl X, M, hρ b (by simp)⟩
    · exact h.fail_inv.elim
  case alloc t => obtain ⟨ht, h⟩ := cond_fail h; exact .inl (alloc_good H hC M (Ty.ok_ne ht) h)
  case box t x => exact .inl (box_good H hC M (hρ x (by simp)) h)
  case build t ps =>
    exact .inl (build_good H hC M (PR_parts ps hρ) h)
  case buildSlice t len ps =>
    exact .inl (buildSlice_good H hC M (PR_parts ps hρ) h)
  case load t x => exact .inl (load_good H hC M (hρ x (by simp)) h)
  case store t x v => exact .inl (store_good H hC M (hρ x (by simp)) (hρ v (by simp)) h)
  case nilCheck x => exact .inl (nilCheck_good M rfl (hρ x (by simp)) h)
  case fieldAddr t x j => exact .inl (fieldAddr_good H M (hρ x (by simp)) h)
  case field t x j => exact .inl (field_good H M (hρ x (by simp)) h)
  case indexAddr t x i => exact .inl (indexAddr_good H hC M (hρ x (by simp)) (hρ i (by simp)) h)
  case index t x i => exact .inl (index_good H hC M (hρ x (by simp)) (hρ i (by simp)) h)
  case slice t x lo hi mx =>
    cases mx with
    | some m => exact h.fail_inv.elim
    | none =>
      refine .inl (slice_good H hC M (hρ x (by simp)) (lv := lo.map ρ') (hv := hi.map ρ') ?_ ?_ h)
      · cases lo with
        | none => trivial
        | some l => exact hρ l (by simp)
      · cases hi with
        | none => trivial
        | some l => exact hρ l (by simp)
  case makeSlice t n c => exact .inl (makeSlice_good H hC M (hρ n (by simp)) (hρ c (by simp)) h)
  case binOp op t x y yt => exact .inl (bin_good H hC M (hρ x (by simp)) (hρ y (by simp)) h)
  case unOp op t x => exact .inl (un_good M (hρ x (by simp)) h)
  case convert s t x => obtain ⟨hs, h⟩ := cond_fail h; exact .inl (conv_good H hC M (hρ x (by simp)) (Ty.ok_ne hs) h)
  case makeInterface t x =>
    obtain ⟨hc, h⟩ := cond_fail h
    simp only [Bool.and_eq_true] at hc
    obtain ⟨rfl, rfl⟩ := h.ret_inv
    have ht : T.d t ≠ .bad := by intro e; rw [e] at hc; exact absurd hc.2 (by simp)
    obtain ⟨i, u, z, _, hu, hdu, _⟩ := H.ok t ht
    refine .inl (makeInterface_good M (hρ x (by simp)) hc.1 hu fun m e => ?_)
    subst e
    cases hd : T.d t <;> simp [hd, DescOk] at hdu hc
  case makeFunc f first caps =>
    split at h
    · rename_i f hf
      obtain ⟨hc, h⟩ := cond_fail h
      obtain ⟨rfl, rfl⟩ := h.ret_inv
      have hfirst : first = #[] := by apply Array.ext'; simpa using hf
      subst hfirst
      have := makeFunc_good (P := P) (W := W) (X0 := X0) (f := f) M (as := caps.toList.map ρ) (vs := caps.map ρ') (by simp) (fun j a v ha hv => by
        rw [List.getElem?_map, Option.map_eq_some_iff] at ha
        obtain ⟨x, hx, rfl⟩ := ha
        rw [Array.getElem?_map] at hv
        have hx' : caps[j]? = some x := by simpa using hx
        rw [hx'] at hv; cases hv
        exact hρ x (by simp; exact Array.mem_of_getElem? hx')) (fun a ha => by
        have := List.all_eq_true.1 hc a ha
        simpa using this)
      exact .inl (by simpa [execOp] using this)
    · exact h.fail_inv.elim
  case extract x i => exact .inl (extract_good M (hρ x (by simp)) h)
  case call c =>
    exact opcall_ok H hCR hC M hρ h
  all_goals exact h.fail_inv.elim
end
end Go.Proofs.Ytjnkppjlhmkjaaa.Av
