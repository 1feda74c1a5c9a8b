/- Operations on places and slices: indexAddr, index, slice, makeSlice, nilCheck, makeInterface, makeFunc, extract. -/
import Derived.Test.YtjnkppjlhmkjaaaAvOp1
namespace Go.Proofs.Ytjnkppjlhmkjaaa.Av
open Go
variable {CT : Nat → Type}

section
variable {P : Program} {T : TyTab CT} {CR : CallR CT} {X0 X : Cx CT} {W w : World} {ob ob' : Ob CT} {r : AV CT}

theorem RV.mw {id : Nat} {k : LK} {v : Value} (h : RV X (.mw id k) v) : k.Ok X.C ∧ X.us id ∧ ∀ o, X.loc id = some o → o.2 ≤ maxI ∧ ((∃ b cap, o.1 = some (b, cap) ∧ o.2 ≤ cap ∧ v = .slice (some ⟨b, 0, none⟩) o.2 cap) ∨ (o.1 = none ∧ o.2 = 0 ∧ v = .slice none 0 0)) := by
  have := RC.one (a := .mw id k) h rfl; cases this with | mw h1 h2 _ h3 => exact ⟨h1, h2, h3⟩
theorem RV.ms {id : Nat} {p : List Step} {k : LK} {off len cap : Nat} {v : Value} (h : RV X (.ms id p k off len cap) v) : k.Ok X.C ∧ X.us id ∧
    ((∃ b capc, (cap ≤ maxI ∧ len ≤ cap) ∧ cap ≤ capc ∧ (∀ o, X.loc id = some o → ∃ cp, o.1 = some (b, cp)) ∧ v = .slice (some ⟨b, pathOff p + off * k.sz, none⟩) len capc) ∨ (len = 0 ∧ cap = 0 ∧ ∃ a capc, v = .slice a 0 capc)) := by
  have := RC.one (a := .ms id p k off len cap) h rfl
  cases this with
  | ms h0 h1 h2 h3 h4 => exact ⟨h0, h1, .inl ⟨_, _, h2, h3, h4, rfl⟩⟩
  | ms0 h0 h1 => exact ⟨h0, h1, .inr ⟨rfl, rfl, _, _, rfl⟩⟩
theorem LS.kindOk {C : Cod CT} {l : LS CT (AV CT)} : l.Ok C ↔ l.kind.Ok C := by cases l <;> rfl
theorem LS.kindSz (l : LS CT (AV CT)) : l.kind.sz = l.sz := by cases l <;> rfl
theorem RV.vs {lent : Bool} {l : LS CT (AV CT)} {v : Value} (h : RV X (.vs lent l) v) : l.Ok X.C ∧
    ((∃ b off cap, ∃ c : Nat → List Value, v = .slice (some ⟨b, off, none⟩) l.len cap ∧ l.len ≤ maxI ∧ l.len ≤ cap ∧ (∀ (j : Nat) (a : AV CT), l.get? X.C j = some a → R X (a.taint lent) (c j)) ∧
      (∀ (j : Nat) (a : AV CT), l.get? X.C j = some a → a.ids = [] ∧ (c j).length = l.sz ∧ Stable X lent b (off + j * l.sz) (c j))) ∨ (l.len = 0 ∧ ∃ a cap, v = .slice a 0 cap)) := by
  have := RC.one (a := .vs lent l) h rfl
  cases this with
  | vs c h0 h1 h2 h3 => exact ⟨h0, .inl ⟨_, _, _, c, rfl, h1.1, h1.2, h2, h3⟩⟩
  | vs0 h0 h1 => exact ⟨h0, .inr ⟨h1, _, _, rfl⟩⟩
theorem getM_lt {C : Cod CT} {l : LS CT (AV CT)} {i : Nat} {a : AV CT} (h : l.get? C i = some a) : i < l.len := get_lt C h

theorem R.arr_get {n : Nat} {l : LS CT (AV CT)} {c : List Value} (h : R X (.arr n l) c) : l.Ok X.C ∧ l.len = n ∧
    ∀ (j : Nat) (a : AV CT), l.get? X.C j = some a → ∃ d A D, R X a d ∧ c = A ++ (d ++ D) ∧ A.length = j * l.sz ∧ d.length = l.sz := by
  cases h with
  | @arr _ _ css h0 h1 h2 h3 h4 =>
    refine ⟨h0, h1, fun j a ha => ?_⟩
    have hlt := get_lt _ ha
    have hd : css[j]? = some (css[j]'(by omega)) := List.getElem?_eq_getElem (by omega)
    refine ⟨_, _, _, h3 j a _ ha hd, (set_split css j _ (css[j]'(by omega)) hd).1, ?_, h4 _ (List.getElem_mem _)⟩
    rw [off_arr h4 j (by omega), Nat.mul_comm]
theorem R.taint_get {C : Cod CT} {lent : Bool} {n : Nat} {l : LS CT (AV CT)} {c : List Value} (h : R X ((AV.arr n l).taint lent) c) (hC : X.C = C) : l.Ok X.C ∧ l.len = n ∧
    ∀ (j : Nat) (a : AV CT), l.get? C j = some a → ∃ d A D, R X (a.taint lent) d ∧ c = A ++ (d ++ D) ∧ A.length = j * l.sz ∧ d.length = l.sz := by
  subst hC
  cases l with
  | gen s l =>
    simp only [AV.taint] at h
    obtain ⟨h0, h1, h2⟩ := h.arr_get
    refine ⟨trivial, by simpa [LS.len, taints_len] using h1, fun j a ha => h2 j _ ?_⟩
    simp only [LS.get?, taints_get] at ha ⊢; rw [ha]; rfl
  | _ =>
    simp only [AV.taint] at h
    obtain ⟨h0, h1, h2⟩ := h.arr_get
    refine ⟨h0, h1, fun j a ha => ?_⟩
    obtain ⟨d, A, D, k1, k2⟩ := h2 j a ha
    exact ⟨d, A, D, k1.taint lent, k2⟩
theorem Stable.part {lent : Bool} {b off : Nat} {A c D : List Value} (h : Stable X lent b off (A ++ (c ++ D))) : Stable X lent b (off + A.length) c := by
  obtain ⟨cs, q1, q2⟩ := h
  refine ⟨cs, q1, fun i v hi => ?_⟩
  rw [Nat.add_assoc]
  refine q2 _ v ?_
  rw [List.getElem?_append_right (by omega), Nat.add_sub_cancel_left, List.getElem?_append_left (List.getElem?_eq_some_iff.1 hi).1]
  exact hi

theorem indexAddr_good (H : TabOk P T) (hC : X.C = T.C) (M : Mem X0 W X ob w) {t : Nat} {x i : AV CT} {v u : Value} (hv : RV X x v) (hu : RV X i u)
    (h : Ev CR (indexAddrM T t x i .ret) ob r ob') : Good P X0 X W w (do Pure.pure (.value (← Instr.indexAt t v u))) r ob' := by
  unfold indexAddrM at h
  split at h
  case h_2 => exact h.fail_inv.elim
  rename_i k i
  obtain ⟨rfl, _, _⟩ := hu.int
  have runS : ∀ {e : Nat}, T.d t = .slc e → ∀ (a : Addr) (len cap : Nat), 0 ≤ i → i.toNat < len → (Instr.indexAt t (.slice (some a) len cap) (.int k i)).run P w = .ok (.pointer (some (a.add (i.toNat * T.sz e)))) w := by
    intro e hd a len cap h0 hlt
    have : 0 ≤ i ∧ i < (len : Int) := ⟨h0, by omega⟩
    simp [Instr.indexAt, asIntOf, run_underlying (H.slc hd), this, H.size w (H.elS _ _ hd)]
  have runA : ∀ {n e : Nat}, T.d t = .arr n e → ∀ (a : Addr), 0 ≤ i → i.toNat < n → (Instr.indexAt t (.pointer (some a)) (.int k i)).run P w = .ok (.pointer (some (a.add (i.toNat * T.sz e)))) w := by
    intro n e hd a h0 hlt
    have : 0 ≤ i ∧ i < (n : Int) := ⟨h0, by omega⟩
    simp [Instr.indexAt, asIntOf, run_underlying (H.arr hd), this, H.size w (H.elA _ _ _ hd).1, Instr.sureAddr]
  split at h
  · rename_i e lent l hd
    obtain ⟨h0, h⟩ := h.gd_inv
    have h0 := of_decide_eq_true h0
    obtain ⟨hs, h⟩ := cond_fail h
    have hs := Nat.eq_of_beq_eq_true hs
    obtain ⟨a, ha, h⟩ := h.getM_inv
    obtain ⟨rfl, rfl⟩ := h.ret_inv
    have hlt := getM_lt ha
    obtain ⟨hok, hh⟩ := hv.vs
    rcases hh with ⟨b, off, cap, c, rfl, hm, hcap, h1, h2⟩ | ⟨hz, _⟩
    · rw [← hC] at ha
      have g2 := h2 _ _ ha
      refine .of_run M (runS hd _ _ _ h0 hlt) (RC.rv (R.rc1 (a := .vptr lent a) ?_ rfl))
      rw [addr_add]
      exact .vptr (h1 _ _ ha) g2.1 (hs ▸ g2.2.2)
    · omega
  · rename_i e id kd hd
    obtain ⟨h0, h⟩ := h.gd_inv
    have h0 := of_decide_eq_true h0
    obtain ⟨l, hl, h⟩ := h.rdLst_inv
    obtain ⟨hlt, h⟩ := h.gd_inv
    have hlt := Nat.blt_eq.mp hlt
    obtain ⟨rfl, rfl⟩ := h.ret_inv
    obtain ⟨_, hus, hloc⟩ := hv.mw
    obtain ⟨o, ho, hL⟩ := M.loc hl
    obtain ⟨hmx, hcase⟩ := hloc o ho
    cases hL with
    | nil e1 e2 _ => cases e1; omega
    | blk k1 k2 k3 k4 =>
      rename_i b cp n c rest ee
      have := k4 l rfl
      rcases hcase with ⟨b', cap, q1, q2, rfl⟩ | ⟨q1, _⟩
      · cases q1
        refine .of_run M (runS hd _ _ _ h0 (by simpa [this.1] using hlt)) (RC.rv (R.rc1 (a := .ptr id [.idx (T.sz e) i.toNat]) ?_ rfl))
        rw [addr_add, show 0 + i.toNat * T.sz e = pathOff [.idx (T.sz e) i.toNat] by simp [pathOff, Step.off, Nat.mul_comm]]
        exact .ptr hus fun o ho' => by rw [ho] at ho'; cases ho'; exact ⟨_, rfl⟩
      · cases q1
  · rename_i e id p kd off len cap hd
    obtain ⟨h0, h⟩ := h.gd_inv
    have h0 := of_decide_eq_true h0
    obtain ⟨hlt, h⟩ := h.gd_inv
    have hlt := Nat.blt_eq.mp hlt
    obtain ⟨hs, h⟩ := cond_fail h
    have hs := Nat.eq_of_beq_eq_true hs
    obtain ⟨rfl, rfl⟩ := h.ret_inv
    obtain ⟨_, hus, hh⟩ := hv.ms
    rcases hh with ⟨b, capc, q1, q2, q3, rfl⟩ | ⟨hz, _⟩
    · refine .of_run M (runS hd _ _ _ h0 hlt) (RC.rv (R.rc1 (a := .ptr id (p ++ [.idx (T.sz e) (off + i.toNat)])) ?_ rfl))
      rw [addr_add, show pathOff p + off * kd.sz + i.toNat * T.sz e = pathOff (p ++ [.idx (T.sz e) (off + i.toNat)]) by
        rw [pathOff_app, hs]; simp only [pathOff, Step.off, Nat.add_zero]; rw [Nat.mul_comm (T.sz e), Nat.add_mul, Nat.add_assoc]]
      exact .ptr hus q3
    · omega
  · rename_i n e id p hd
    obtain ⟨h0, h⟩ := h.gd_inv
    have h0 := of_decide_eq_true h0
    obtain ⟨hlt, h⟩ := h.gd_inv
    have hlt := Nat.blt_eq.mp hlt
    obtain ⟨rfl, rfl⟩ := h.ret_inv
    obtain ⟨B, rfl, hus, hl⟩ := hv.ptr
    refine .of_run M (runA hd _ h0 hlt) (RC.rv (R.rc1 (a := .ptr id (p ++ [.idx (T.sz e) i.toNat])) ?_ rfl))
    rw [addr_add, show pathOff p + i.toNat * T.sz e = pathOff (p ++ [.idx (T.sz e) i.toNat]) by rw [pathOff_app]; simp [pathOff, Step.off, Nat.mul_comm]]
    exact .ptr hus hl
  · rename_i n e lent m l hd
    obtain ⟨h0, h⟩ := h.gd_inv
    have h0 := of_decide_eq_true h0
    obtain ⟨hs, h2⟩ := cond_fail h
    clear h
    simp only [Bool.and_eq_true] at hs
    have hs1 := Nat.eq_of_beq_eq_true hs.1
    obtain rfl := Nat.eq_of_beq_eq_true hs.2
    obtain ⟨a, ha, h⟩ := h2.getM_inv
    obtain ⟨rfl, rfl⟩ := h.ret_inv
    have hlt := getM_lt ha
    obtain ⟨B, off, c, rfl, hr, hi, hst⟩ := hv.vptr
    obtain ⟨hok, hlen, hg⟩ := hr.taint_get hC
    obtain ⟨d, A, D, r1, rfl, r3, _⟩ := hg _ _ ha
    refine .of_run M (runA hd _ h0 (by omega)) (RC.rv (R.rc1 (a := .vptr lent a) ?_ rfl))
    rw [addr_add, ← hs1, ← r3]
    refine .vptr r1 ?_ hst.part
    exact get_ids T.C (by rintro s x rfl; simpa [AV.ids] using hi) ha
  · exact h.fail_inv.elim

theorem index_good (H : TabOk P T) (hC : X.C = T.C) (M : Mem X0 W X ob w) {t : Nat} {x i : AV CT} {v u : Value} (hv : RV X x v) (hu : RV X i u)
    (h : Ev CR (indexM T t x i .ret) ob r ob') : Good P X0 X W w (do Pure.pure (.value (← Instr.index t v u))) r ob' := by
  unfold indexM at h
  split at h
  case h_2 => exact h.fail_inv.elim
  rename_i k i
  obtain ⟨rfl, _, _⟩ := hu.int
  split at h
  · rename_i n e m l hd
    obtain ⟨h0, h⟩ := h.gd_inv
    have h0 := of_decide_eq_true h0
    obtain ⟨hs, h2⟩ := cond_fail h
    clear h
    simp only [Bool.and_eq_true] at hs
    have hs1 := Nat.eq_of_beq_eq_true hs.1
    obtain rfl := Nat.eq_of_beq_eq_true hs.2
    obtain ⟨a, ha, h⟩ := h2.getM_inv
    obtain ⟨hf, h⟩ := cond_fail h
    obtain ⟨rfl, rfl⟩ := h.ret_inv
    have hlt := getM_lt ha
    obtain ⟨cs, rfl, hr⟩ := RC.agg (a := .arr m l) hv rfl
    rw [← taint_false (.arr m l)] at hr
    obtain ⟨hok, hlen, hg⟩ := hr.taint_get hC
    obtain ⟨d, A, D, r1, r2, r3, _⟩ := hg _ _ ha
    rw [taint_false] at r1
    obtain ⟨u, hu, hru⟩ := part_run (w := w) H hf (A := A) (D := D) r1
    refine .of_run M ?_ hru.rv
    have ec : cs = (A ++ (d ++ D)).toArray := by rw [← r2]
    have hin : 0 ≤ i ∧ i < (m : Int) := ⟨h0, by omega⟩
    rw [r3, hs1] at hu
    simp [Instr.index, asIntOf, run_underlying (H.arr hd), hin, H.size w (H.elA _ _ _ hd).1, ec, hu]
  · rename_i s hd
    obtain ⟨h0, h⟩ := h.gd_inv
    have h0 := of_decide_eq_true h0
    obtain ⟨b, hb, h⟩ := h.ub_inv
    obtain ⟨rfl, rfl⟩ := h.ret_inv
    obtain ⟨rfl, _⟩ := hv.str
    have hb2 := b.toNat_lt
    refine .of_run M (u := .int .u8 b.toNat) ?_ (RV.of_int (by show (0 : Int) ≤ _; omega) (by show _ ≤ (255 : Int); omega))
    have hbb : (⟨s.toArray⟩ : ByteArray)[i.toNat]? = some b := by
      obtain ⟨hlt, he⟩ := List.getElem?_eq_some_iff.1 hb
      have : i.toNat < (⟨s.toArray⟩ : ByteArray).size := by simpa [ByteArray.size] using hlt
      rw [getElem?_pos (⟨s.toArray⟩ : ByteArray) i.toNat this]
      exact congrArg some he
    simp [Instr.index, asIntOf, run_underlying (H.str hd), h0, hbb]
  · exact h.fail_inv.elim

theorem nilCheck_good (M : Mem X0 W X ob w) {o : Oper} {ρ : Operand → Value} {y : Operand} (ho : o.op = .nilCheck y) {x : AV CT} (hv : RV X x (ρ y))
    (h : Ev CR (match x with
      | .ptr id p => .ret (.ptr id p)
      | .vptr lent a => .ret (.vptr lent a)
      | _ => .fail) ob r ob') : Good P X0 X W w (execOp ρ o) r ob' := by
  have hv' := hv
  split at h
  · obtain ⟨rfl, rfl⟩ := h.ret_inv
    obtain ⟨B, e, _⟩ := hv.ptr
    rw [e] at hv'
    exact ⟨_, w, X, .inl (by simp only [execOp, ho, e]; rfl), .refl X, M, hv'⟩
  · obtain ⟨rfl, rfl⟩ := h.ret_inv
    obtain ⟨B, _, _, e, _⟩ := hv.vptr
    rw [e] at hv'
    exact ⟨_, w, X, .inl (by simp only [execOp, ho, e]; rfl), .refl X, M, hv'⟩
  · exact h.fail_inv.elim

theorem extract_good (M : Mem X0 W X ob w) {x : AV CT} {i : Nat} {v : Value} (hv : RV X x v)
    (h : Ev CR (match x with
      | .tup l => match l[i]? with | some a => .ret a | none => .fail
      | _ => .fail) ob r ob') : Good P X0 X W w (do Pure.pure (.value (← Instr.extract v i))) r ob' := by
  split at h
  · rename_i l
    split at h
    · rename_i a ha
      obtain ⟨rfl, rfl⟩ := h.ret_inv
      obtain ⟨vs, rfl, h1, h2⟩ := hv
      have hlt := (List.getElem?_eq_some_iff.1 ha).1
      have hvi : vs[i]? = some (vs[i]'(by omega)) := List.getElem?_eq_getElem (by omega)
      exact .of_run M (by simp [Instr.extract, hvi]) (h2 i _ _ ha hvi).rv
    · exact h.fail_inv.elim
  · exact h.fail_inv.elim
theorem makeFunc_good (M : Mem X0 W X ob w) {f : Nat} {as : List (AV CT)} {vs : Array Value} (hl : as.length = vs.size) (hv : ∀ (j : Nat) (a : AV CT) (v : Value), as[j]? = some a → vs[j]? = some v → RV X a v)
    (hc : ∀ a ∈ as, a.isCell = true ∧ a.isAgg = false) : Good P X0 X W w (do Pure.pure (.value (← Instr.makeFunc (.func f) #[] vs))) (.fn f as) ob := by
  refine .of_run M (u := .func (.func f) #[] vs) rfl (RC.rv (R.rc1 (a := .fn f as) ?_ rfl))
  refine R.fn (vs := vs.toList) (by simpa using hl) fun j a v ha hj => ?_
  have hc := hc a (List.mem_of_getElem? ha)
  exact RC.one ((hv j a v ha (by simpa using hj)).rc hc.1) hc.2
theorem makeInterface_good (M : Mem X0 W X ob w) {t : Nat} {a : AV CT} {v : Value} (hv : RV X a v) (hc : a.isCell = true) {u : TypeDesc} (hu : P.underlying t = some u) (hn : ∀ m, u ≠ .interface m) :
    Good P X0 X W w (do Pure.pure (.value (← Instr.makeInterface t v))) (.ifc t a) ob := by
  have h := hv.rc hc
  refine .of_run M (u := .iface t v) ?_ (RC.rv (R.rc1 (a := .ifc t a) (.ifc h.1 h.2.1 h.2.2) rfl))
  cases u <;> first | (exact absurd rfl (hn _)) | simp [Instr.makeInterface, run_underlying hu]
end
end Go.Proofs.Ytjnkppjlhmkjaaa.Av
