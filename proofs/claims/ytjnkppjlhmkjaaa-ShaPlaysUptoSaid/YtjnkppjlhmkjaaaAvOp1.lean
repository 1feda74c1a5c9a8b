/- Operations on memory: alloc, box, load, store, nilCheck, fieldAddr, field. -/
import Derived.Test.YtjnkppjlhmkjaaaAvTab
namespace Go.Proofs.Ytjnkppjlhmkjaaa.Av
open Go
variable {CT : Nat → Type}

theorem pathOff_app (p q : List Step) : pathOff (p ++ q) = pathOff p + pathOff q := by
  induction p with
  | nil => simp [pathOff]
  | cons s p ih => simp [pathOff, ih, Nat.add_assoc]
theorem Ty.ok_ne {d : Ty} (h : d.ok = true) : d ≠ .bad := by rintro rfl; cases h
theorem fits_spec {T : TyTab CT} {t : Nat} {a : AV CT} (h : fits T t a = true) : T.d t ≠ .bad ∧ a.isCell = true ∧ a.isLst = false ∧ a.size = T.sz t ∧ a.isAgg = (T.d t).isAgg := by
  simp only [fits, Bool.and_eq_true, Bool.not_eq_true'] at h
  obtain ⟨⟨⟨h1, h2⟩, h3⟩, h4, h5⟩ := h
  refine ⟨Ty.ok_ne h1, h2, h3, Nat.eq_of_beq_eq_true h4, ?_⟩
  cases h6 : a.isAgg <;> cases h7 : (T.d t).isAgg <;> rw [h6, h7] at h5 <;> first | rfl | cases h5
theorem not_lst {a : AV CT} (h : a.isLst = false) : ∀ l, a ≠ .lst l := by rintro l rfl; cases h

section
variable {P : Program} {T : TyTab CT} {CR : CallR CT} {X0 X : Cx CT} {W w : World} {ob ob' : Ob CT} {r : AV CT}

/-- A value read from cells. -/
theorem load_run (H : TabOk P T) {t : Nat} {b : AV CT} (hf : fits T t b = true) {c : List Value} (hr : R X b c) {B off : Nat}
    (hc : ∀ j v, c[j]? = some v → w.cell? ⟨B, off + j, none⟩ = some v) : ∃ u, (loadVar t ⟨B, off, none⟩).run P w = .ok u w ∧ RC X b u := by
  obtain ⟨h1, h2, h3, h4, h5⟩ := fits_spec hf
  have hs := hr.size
  cases ha : (T.d t).isAgg with
  | true =>
    have := run_loadCells_list (P := P) w ⟨B, off, none⟩ c (fun j v hj => by rw [addr_add]; exact hc j v hj)
    rw [hs, h4] at this
    refine ⟨.agg c.toArray, ?_, hr.rca (h5.trans ha)⟩
    simp [loadVar, H.agg w h1, ha, H.size w h1, this]
  | false =>
    have hn : b.isAgg = false := h5.trans ha
    obtain ⟨v, rfl⟩ : ∃ v, c = [v] := by
      have : c.length = 1 := by rw [hs]; cases b <;> first | rfl | (simp [AV.isAgg] at hn; done)
      match c, this with
      | [v], _ => exact ⟨v, rfl⟩
    have := hc 0 v rfl
    refine ⟨v, ?_, hr.rc1 hn⟩
    simp only [Nat.add_zero] at this
    simp [loadVar, H.agg w h1, ha, this]

theorem Mem.loc (M : Mem X0 W X ob w) {id : Nat} {a : AV CT} (h : ob.get id = some (some a)) : ∃ o, X.loc id = some o ∧ Live X w a o := M.live id a h

theorem load_good (H : TabOk P T) (hC : X.C = T.C) (M : Mem X0 W X ob w) {t : Nat} {x : AV CT} {v : Value} (hv : RV X x v)
    (h : Ev CR (match x with
      | .ptr id p => rdObj id fun c => getP T.C p c fun a => cond (fits T t a) (.ret a) .fail
      | .vptr lent a => cond (fits T t a) (.ret (a.taint lent)) .fail
      | _ => .fail) ob r ob') : Good P X0 X W w (do Pure.pure (.value (← Instr.loadAt t v))) r ob' := by
  split at h
  · rename_i id p
    obtain ⟨c, h1, h2⟩ := h.rdObj_inv
    obtain ⟨b, g, h3⟩ := h2.getP_inv
    obtain ⟨hf, h4⟩ := cond_fail h3
    obtain ⟨rfl, rfl⟩ := h4.ret_inv
    obtain ⟨B, rfl, _, hl⟩ := hv.ptr
    obtain ⟨o, ho, _⟩ := M.loc h1
    obtain ⟨cp, hcp⟩ := hl o ho
    obtain ⟨o1, n⟩ := o
    simp only at hcp; subst hcp
    obtain ⟨cs, hr, hc⟩ := M.at h1 (hC ▸ g) ho
    obtain ⟨u, hu, hru⟩ := load_run H hf hr hc
    exact .of_run M (by simpa [Instr.loadAt, Instr.sureAddr] using hu) hru.rv
  · rename_i lent a
    obtain ⟨hf, h4⟩ := cond_fail h
    obtain ⟨rfl, rfl⟩ := h4.ret_inv
    obtain ⟨B, off, c, rfl, hr, _, hs⟩ := hv.vptr
    have hf' : fits T t (a.taint lent) = true := by
      have e1 : (a.taint lent).isCell = a.isCell := by unfold AV.taint; split <;> rfl
      have e2 : (a.taint lent).isLst = a.isLst := by unfold AV.taint; split <;> rfl
      have e3 : (a.taint lent).size = a.size := by unfold AV.taint; split <;> rfl
      simp only [fits, e1, e2, e3, taint_isAgg] at hf ⊢; exact hf
    obtain ⟨u, hu, hru⟩ := load_run H hf' hr (M.stable hs)
    exact .of_run M (by simpa [Instr.loadAt, Instr.sureAddr] using hu) hru.rv
  · exact h.fail_inv.elim

theorem SetR.form {C : Cod CT} {p : List Step} {a v a' : AV CT} (h : SetR C p a v a') : a'.isCell = true ∧ ∀ l', a' = .lst l' → ∃ l, a = .lst l ∧ l'.len = l.len ∧ l'.sz = l.sz := by
  cases h with
  | nil h =>
    simp only [sameForm, Bool.and_eq_true, Bool.not_eq_true'] at h
    exact ⟨h.1.1, fun l e => absurd e (not_lst h.1.2 l)⟩
  | fld _ _ _ => exact ⟨rfl, fun l e => by cases e⟩
  | arr _ _ _ _ => exact ⟨rfl, fun l e => by cases e⟩
  | lst _ _ _ hL => exact ⟨rfl, fun l e => by cases e; exact ⟨_, rfl, hL.len.1, hL.len.2.1⟩⟩

/-- A part of a living object is written. -/
theorem Mem.put (M : Mem X0 W X ob w) {id : Nat} {a a' x : AV CT} (h1 : ob.get id = some (some a)) {p : List Step} (g : SetR X.C p a x a') {vc : List Value} (hr : R X x vc)
    {B cp n : Nat} (ho : X.loc id = some (some (B, cp), n)) :
    ∃ w', (storeCells ⟨B, pathOff p, none⟩ vc).run P w = .ok () w' ∧ ∃ X', Le X X' ∧ Mem X0 W X' (ob.set id (some a')) w' := by
  obtain ⟨o, ho', hL⟩ := M.loc h1
  rw [ho] at ho'; cases ho'
  cases hL with
  | blk k1 k2 k3 k4 =>
    rename_i c rest e f
    obtain ⟨old, A, D, s1, s2, s3, s4⟩ := g.spec k3 hr
    have hst := run_storeCells_fr P B (pathOff p) e f vc 0 _ w (by simpa using k1.2) k2 (by simp [s1]; omega) (fun v hv => (hr.sg v hv).one)
    have hcells : ((c ++ rest).toArray.toList.take (pathOff p + 0) ++ vc ++ (c ++ rest).toArray.toList.drop (pathOff p + 0 + vc.length)).toArray = ((A ++ (vc ++ D)) ++ rest).toArray := by
      congr 1
      simp only [Nat.add_zero, s1, List.append_assoc]
      rw [← s2, List.take_left', List.drop_append, List.drop_eq_nil_of_le (by omega)]
      · rw [show A.length + vc.length - A.length = old.length by omega, List.drop_left']
        · simp
        · rfl
      · rfl
    rw [hcells] at hst
    have F := g.form
    obtain ⟨E, M'⟩ := M.write ho (e := e) k2 (by have := k1.2; simp only [s1, List.length_append, s3] at this ⊢; exact this) F.1 s4 (rest := rest) (fun l' e' => by
      obtain ⟨l, el, e1, e2⟩ := F.2 l' e'
      have := k4 l el
      rw [e1, e2]
      refine ⟨this.1, this.2.1, this.2.2.1, this.2.2.2.trans ?_⟩
      simp [s1, s3])
    exact ⟨_, hst, _, E, M'⟩

theorem store_good (H : TabOk P T) (hC : X.C = T.C) (M : Mem X0 W X ob w) {t : Nat} {x y : AV CT} {v u : Value} (hv : RV X x v) (hu : RV X y u)
    (h : Ev CR (match x with
      | .ptr id p => rdObj id fun c => setP T.C p c (fixN T t y) fun c' => cond (fits T t (fixN T t y)) (.wr id (some c') (.ret .und)) .fail
      | _ => .fail) ob r ob') : Good P X0 X W w (do Instr.storeAt t v u; Pure.pure .skip) r ob' := by
  split at h
  · rename_i id p
    obtain ⟨c, h1, h2⟩ := h.rdObj_inv
    obtain ⟨b, g, h3⟩ := h2.setP_inv
    obtain ⟨hf, h4⟩ := cond_fail h3
    obtain ⟨rfl, rfl⟩ := h4.wr_inv.ret_inv
    obtain ⟨B, rfl, _, hl⟩ := hv.ptr
    obtain ⟨o, ho, _⟩ := M.loc h1
    obtain ⟨cp, hcp⟩ := hl o ho
    obtain ⟨o1, n⟩ := o
    simp only at hcp; subst hcp
    have hF := fits_spec hf
    have hy : RC X (fixN T t y) u := (hu.fixed H hC).rc hF.2.1
    obtain ⟨w', hw, X', E, M'⟩ := M.put (P := P) h1 (hC ▸ g) hy.1 ho
    refine ⟨undef, w', X', .inr ⟨?_, rfl⟩, E, M', rfl⟩
    have hsz : u.cells.size = T.sz t := by rw [← hF.2.2.2.1, ← hy.1.size]; simp
    simp [Instr.storeAt, Instr.sureAddr, storeVar, H.size w hF.1, hsz, hw]
  · exact h.fail_inv.elim

/-- A new variable. -/
theorem new_good (M : Mem X0 W X ob w) {d t : Nat} {a : AV CT} {u : Value} (ha : a.isLst = false) (hr : RC X a u)
    (h : Ev CR (newObj d a (.ret (.ptr d []))) ob r ob') {s : Sem Value} (hs : s.run P w = .ok (.pointer (some ⟨w.heap.size, 0, none⟩)) { w with heap := w.heap.push (.cells u.cells t) }) :
    Good P X0 X W w (do Pure.pure (.value (← s))) r ob' := by
  obtain ⟨h1, h2, h3⟩ := h.newObj_inv
  obtain ⟨rfl, rfl⟩ := h3.ret_inv
  obtain ⟨E, M'⟩ := M.new h1 h2 hr.1 (rest := []) (e := t) (cp := 0) (n := 0) (fun l e => absurd e (not_lst ha l)) (cells := u.cells) (by simp) w.drawn
  refine .of_step E M' hs (RC.rv (R.rc1 (a := .ptr d []) (.ptr (by simp [Cx.new]) (fun o ho => ?_)) rfl))
  simp [Cx.new] at ho
  exact ⟨0, by rw [← ho]⟩

theorem alloc_good (H : TabOk P T) (hC : X.C = T.C) (M : Mem X0 W X ob w) {d t : Nat} (ht : T.d t ≠ .bad) (h : Ev CR (newObj d (T.zero t) (.ret (.ptr d []))) ob r ob') :
    Good P X0 X W w (do Pure.pure (.value (← Instr.alloc t true (.tuple #[])))) r ob' := by
  obtain ⟨z, h1, h2, h3, h4, h5⟩ := H.zero w ht
  refine new_good M (t := t) h3 (h2 X hC) h ?_
  simp [Instr.alloc, h1, newVar, newRow]
theorem box_good (H : TabOk P T) (hC : X.C = T.C) (M : Mem X0 W X ob w) {d t : Nat} {x : AV CT} {u : Value} (hu : RV X x u)
    (h : Ev CR (cond (fits T t (fixN T t x)) (newObj d (fixN T t x) (.ret (.ptr d []))) .fail) ob r ob') :
    Good P X0 X W w (do Pure.pure (.value (← Instr.box t u))) r ob' := by
  obtain ⟨hf, h⟩ := cond_fail h
  have hF := fits_spec hf
  refine new_good M (t := t) hF.2.2.1 ((hu.fixed H hC).rc hF.2.1) h ?_
  simp [Instr.box, newVar, newRow]

theorem fieldAddr_good (H : TabOk P T) (M : Mem X0 W X ob w) {t j : Nat} {x : AV CT} {v : Value} (hv : RV X x v)
    (h : Ev CR (match T.d t with
      | .strct fts => match fts[j]? with
        | some ft => match x with
          | .ptr id p => .ret (.ptr id (p ++ [.fld ft.2 j]))
          | .vptr lent a => match a with
            | .agg _ fs => cond (Nat.beq (offOf fs j) ft.2) (match fs[j]? with | some b => .ret (.vptr lent b) | none => .fail) .fail
            | _ => .fail
          | _ => .fail
        | none => .fail
      | _ => .fail) ob r ob') : Good P X0 X W w (do Pure.pure (.value (← Instr.fieldAt t v j))) r ob' := by
  split at h
  · rename_i fts hd
    obtain ⟨gs, hg, hm⟩ := H.strct hd
    split at h
    · rename_i ft hft
      obtain ⟨hb, hz⟩ := H.fld t fts hd ft (List.mem_of_getElem? hft)
      obtain ⟨f, hf, rfl⟩ : ∃ f, gs[j]? = some f ∧ (f.type, f.offset) = ft := by
        rw [← hm, List.getElem?_map, Option.map_eq_some_iff] at hft
        obtain ⟨f, h1, h2⟩ := hft; exact ⟨f, by simpa using h1, h2⟩
      have hrun : ∀ B off, (Instr.fieldAt t (.pointer (some ⟨B, off, none⟩)) j).run P w = .ok (.pointer (some ⟨B, off + f.offset, none⟩)) w := by
        intro B off
        simp [Instr.fieldAt, run_underlying hg, hf, Instr.sureAddr, fieldPlace, H.size w hb, hz, addr_add]
      split at h
      · rename_i id p
        obtain ⟨rfl, rfl⟩ := h.ret_inv
        obtain ⟨B, rfl, hu, hl⟩ := hv.ptr
        refine .of_run M (hrun _ _) (RC.rv (R.rc1 (a := .ptr id (p ++ [.fld f.offset j])) ?_ rfl))
        have : pathOff p + f.offset = pathOff (p ++ [.fld f.offset j]) := by rw [pathOff_app]; simp [pathOff, Step.off]
        rw [this]; exact .ptr hu hl
      · rename_i lent a
        split at h
        · rename_i s fs
          obtain ⟨ho, h⟩ := cond_fail h
          split at h
          · rename_i b hfb
            obtain ⟨rfl, rfl⟩ := h.ret_inv
            obtain ⟨B, off, c, rfl, hr, hi, hs⟩ := hv.vptr
            refine .of_run M (hrun _ _) (RC.rv (R.rc1 (a := .vptr lent b) ?_ rfl))
            have g : GetR X.C [.fld f.offset j] ((AV.agg s fs).taint lent) (b.taint lent) := by
              simp only [AV.taint]
              refine .fld ?_ (by rw [taints_get, hfb]; rfl) .nil
              have key : ∀ (l : List (AV CT)) (j : Nat), offOf (taints lent l) j = offOf l j := by
                intro l
                induction l with
                | nil => intro j; cases j <;> rfl
                | cons a l ih =>
                  intro j
                  cases j with
                  | zero => rfl
                  | succ j =>
                    simp only [taints, offOf, ih]
                    have e3 : (a.taint lent).size = a.size := by unfold AV.taint; split <;> rfl
                    rw [e3]
              rw [key]; exact Nat.eq_of_beq_eq_true ho
            obtain ⟨c', A, D, r1, r2, r3⟩ := g.spec hr
            refine .vptr r1 ?_ ?_
            · simp only [AV.ids] at hi; exact idss_nil hi hfb
            · obtain ⟨cs, q1, q2⟩ := hs
              refine ⟨cs, q1, fun i v hi => ?_⟩
              have e : A.length = f.offset := by rw [r3]; simp [pathOff, Step.off]
              rw [Nat.add_assoc, ← e]
              refine q2 _ v ?_
              rw [r2, List.getElem?_append_right (by omega), Nat.add_sub_cancel_left, List.getElem?_append_left (List.getElem?_eq_some_iff.1 hi).1]
              exact hi
          · exact h.fail_inv.elim
        · exact h.fail_inv.elim
      · exact h.fail_inv.elim
    · exact h.fail_inv.elim
  · exact h.fail_inv.elim

/-- A part of an aggregate. -/
theorem part_run (H : TabOk P T) {t : Nat} {b : AV CT} (hf : fits T t b = true) {A c D : List Value} (hr : R X b c) : ∃ u, (part t (A ++ (c ++ D)).toArray A.length).run P w = .ok u w ∧ RC X b u := by
  obtain ⟨h1, h2, h3, h4, h5⟩ := fits_spec hf
  have hs := hr.size
  cases ha : (T.d t).isAgg with
  | true =>
    refine ⟨.agg c.toArray, ?_, hr.rca (h5.trans ha)⟩
    have : (A ++ (c ++ D)).toArray.extract A.length (A.length + T.sz t) = c.toArray := by
      rw [← h4, ← hs]
      apply Array.ext'
      simp
    simp only [part, Sem.run_bind, H.agg w h1, ha, Result.andThen_ok, if_true, H.size w h1, Sem.run_pure, this]
  | false =>
    have hn : b.isAgg = false := h5.trans ha
    obtain ⟨v, rfl⟩ : ∃ v, c = [v] := by
      have : c.length = 1 := by rw [hs]; cases b <;> first | rfl | (simp [AV.isAgg] at hn; done)
      match c, this with
      | [v], _ => exact ⟨v, rfl⟩
    refine ⟨v, ?_, hr.rc1 hn⟩
    have : (A ++ ([v] ++ D)).toArray[A.length]? = some v := by simp
    simp only [part, Sem.run_bind, H.agg w h1, ha, Result.andThen_ok, Bool.false_eq_true, if_false, this, Sem.run_pure]

theorem field_good (H : TabOk P T) (M : Mem X0 W X ob w) {t j : Nat} {x : AV CT} {v : Value} (hv : RV X x v)
    (h : Ev CR (match T.d t with
      | .strct fts => match fts[j]?, x with
        | some ft, .agg _ fs => cond (Nat.beq (offOf fs j) ft.2) (match fs[j]? with
          | some b => cond (fits T ft.1 b) (.ret b) .fail
          | none => .fail) .fail
        | _, _ => .fail
      | _ => .fail) ob r ob') : Good P X0 X W w (do Pure.pure (.value (← Instr.field t v j))) r ob' := by
  split at h
  · rename_i fts hd
    obtain ⟨gs, hg, hm⟩ := H.strct hd
    split at h
    · rename_i ft s fs hft
      obtain ⟨ho, h⟩ := cond_fail h
      split at h
      · rename_i b hfb
        obtain ⟨hf, h⟩ := cond_fail h
        obtain ⟨rfl, rfl⟩ := h.ret_inv
        obtain ⟨f, hgf, rfl⟩ : ∃ f, gs[j]? = some f ∧ (f.type, f.offset) = ft := by
          rw [← hm, List.getElem?_map, Option.map_eq_some_iff] at hft
          obtain ⟨f, h1, h2⟩ := hft; exact ⟨f, by simpa using h1, h2⟩
        obtain ⟨cs, rfl, hr⟩ := RC.agg (a := .agg s fs) hv rfl
        have g : GetR X.C [.fld f.offset j] (.agg s fs) r := .fld (Nat.eq_of_beq_eq_true ho) hfb .nil
        obtain ⟨c, A, D, r1, r2, r3⟩ := g.spec hr
        obtain ⟨u, hu, hru⟩ := part_run (w := w) H hf (A := A) (D := D) r1
        refine .of_run M ?_ hru.rv
        have e : A.length = f.offset := by rw [r3]; simp [pathOff, Step.off]
        have ec : cs = (A ++ (c ++ D)).toArray := by rw [← r2]
        rw [e] at hu
        simp [Instr.field, run_underlying hg, hgf, asAgg, ec, hu]
      · exact h.fail_inv.elim
    · exact h.fail_inv.elim
  · exact h.fail_inv.elim
end
end Go.Proofs.Ytjnkppjlhmkjaaa.Av
