/- Slicing, made slices, lengths. -/
import Derived.Test.YtjnkppjlhmkjaaaAvOp2
namespace Go.Proofs.Ytjnkppjlhmkjaaa.Av
open Go
variable {CT : Nat → Type}

section
variable {P : Program} {T : TyTab CT} {CR : CallR CT} {X0 X : Cx CT} {W w : World} {ob ob' : Ob CT} {r : AV CT}

/-- A bound, read. -/
def BoundR (x : Option (AV CT)) (dflt y n : Nat) : Prop := (x = none ∧ n = dflt) ∨ ∃ k i, x = some (.int k i) ∧ 0 ≤ i ∧ i.toNat ≤ y ∧ n = i.toNat
theorem boundM_inv {x : Option (AV CT)} {dflt y : Nat} {k : Nat → M CT (AV CT)} (h : Ev CR (boundM x dflt y k) ob r ob') : ∃ n, BoundR x dflt y n ∧ Ev CR (k n) ob r ob' := by
  unfold boundM at h
  split at h
  · exact ⟨_, .inl ⟨rfl, rfl⟩, h⟩
  · obtain ⟨h0, h⟩ := h.gd_inv
    obtain ⟨h1, h⟩ := h.gd_inv
    exact ⟨_, .inr ⟨_, _, rfl, of_decide_eq_true h0, Nat.ble_eq.mp h1, rfl⟩, h⟩
  · exact h.fail_inv.elim
/-- Values of optional operands. -/
def OptR (X : Cx CT) : Option (AV CT) → Option Value → Prop
  | none, none => True
  | some a, some v => RV X a v
  | _, _ => False
theorem bound_run {x : Option (AV CT)} {v : Option Value} (hv : OptR X x v) {dflt y y' n : Nat} (hb : BoundR x dflt y n) (hy : y ≤ y') (code : BoundsCode) :
    (match v with | some v => Instr.sliceBound v y' code | none => pure dflt).run P w = .ok n w := by
  rcases hb with ⟨rfl, rfl⟩ | ⟨k, i, rfl, h0, h1, rfl⟩
  · cases v with
    | none => rfl
    | some v => exact hv.elim
  · cases v with
    | none => exact hv.elim
    | some v =>
      obtain ⟨rfl, _⟩ := RV.int hv
      have : 0 ≤ i ∧ i ≤ (y' : Int) := ⟨h0, by omega⟩
      simp [Instr.sliceBound, asIntOf, this]
theorem bounds_run {lo hi : Option (AV CT)} {lv hv : Option Value} (hl : OptR X lo lv) (hh : OptR X hi hv) {b : Bool} {len cap y h l : Nat} (hb : BoundR hi len y h) (hy : y ≤ cap) (lb : BoundR lo 0 h l) :
    (Instr.sliceBounds b len cap lv hv none).run P w = .ok (l, h, cap) w := by
  have h1 := bound_run (P := P) (w := w) hh hb hy (if b then .sliceAcap else .sliceAlen)
  have h2 := bound_run (P := P) (w := w) hl lb (Nat.le_refl h) (if false then .slice3C else .sliceB)
  unfold Instr.sliceBounds
  cases hv <;> cases lv <;> simp only [Sem.run_bind, Sem.run_pure, Result.andThen_ok, Option.isSome] at h1 h2 ⊢ <;> simp [h1] at h2 ⊢ <;> simp_all
theorem BoundR.le {x : Option (AV CT)} {dflt y n : Nat} (h : BoundR x dflt y n) (hd : dflt ≤ y) : n ≤ y := by
  rcases h with ⟨_, rfl⟩ | ⟨_, _, _, _, h, rfl⟩
  · exact hd
  · exact h
theorem ext_len {l : LS CT (AV CT)} (lo n : Nat) : (l.ext lo n).len = min n (l.len - lo) := by cases l <;> simp [LS.ext, LS.len]
theorem ext_sz {l : LS CT (AV CT)} (lo n : Nat) : (l.ext lo n).sz = l.sz := by cases l <;> rfl
theorem ext_ok {C : Cod CT} {l : LS CT (AV CT)} (lo n : Nat) (h : l.Ok C) : (l.ext lo n).Ok C := by cases l <;> exact h
theorem ext_get {C : Cod CT} {l : LS CT (AV CT)} {lo n j : Nat} {a : AV CT} (h : (l.ext lo n).get? C j = some a) : l.get? C (lo + j) = some a ∧ j < n := by
  have hlt := get_lt C h
  rw [ext_len] at hlt
  have hj : j < n := by omega
  refine ⟨?_, hj⟩
  cases l <;> simpa [LS.ext, LS.get?, List.getElem?_take, hj, List.getElem?_drop] using h

theorem arrS_good (H : TabOk P T) (hC : X.C = T.C) (M : Mem X0 W X ob w) {n e : Nat} {x : AV CT} {lo hi : Option (AV CT)} {v : Value} (hx : RV X x v) {s : Sem Value} (he : T.d e ≠ .bad)
    (hs : ∀ l h b off, v = .pointer (some ⟨b, off, none⟩) → BoundR hi n n h → BoundR lo 0 h l →
      s.run P w = .ok (.slice (some (if n = l then ⟨b, off, none⟩ else (⟨b, off, none⟩ : Addr).add (l * T.sz e))) (h - l) (n - l)) w) (hn : n ≤ maxI)
    (h : Ev CR (arrS T n e x lo hi .ret) ob r ob') : Good P X0 X W w (do Pure.pure (.value (← s))) r ob' := by
  have hlk := H.lk e he
  unfold arrS at h
  split at h
  · rename_i id p
    obtain ⟨hh, b1, h⟩ := boundM_inv h
    obtain ⟨ll, b2, h⟩ := boundM_inv h
    obtain ⟨rfl, rfl⟩ := h.ret_inv
    obtain ⟨B, rfl, hus, hL⟩ := hx.ptr
    have e1 := b1.le (Nat.le_refl n)
    have e2 := b2.le (Nat.zero_le _)
    refine .of_run M (hs ll hh _ _ rfl b1 b2) (RC.rv (R.rc1 (a := .ms id p (T.lk e) ll (hh - ll) (n - ll)) ?_ rfl))
    by_cases hm : n = ll
    · have z1 : hh - ll = 0 := by omega
      have z2 : n - ll = 0 := by omega
      rw [z1, z2]; exact .ms0 (hC ▸ hlk.2) hus
    · rw [if_neg hm, addr_add, ← hlk.1]
      exact .ms (hC ▸ hlk.2) hus ⟨by omega, by omega⟩ (Nat.le_refl _) hL
  · rename_i lent m ls
    obtain ⟨hc, h⟩ := cond_fail h
    simp only [Bool.and_eq_true] at hc
    have hs1 := Nat.eq_of_beq_eq_true hc.1
    have hmn := Nat.eq_of_beq_eq_true hc.2
    obtain ⟨hh, b1, h⟩ := boundM_inv h
    obtain ⟨ll, b2, h⟩ := boundM_inv h
    obtain ⟨rfl, rfl⟩ := h.ret_inv
    obtain ⟨B, off, c, rfl, hr, hi', hst⟩ := hx.vptr
    obtain ⟨hok, hlen, hg⟩ := hr.taint_get rfl
    have e1 := b1.le (Nat.le_refl n)
    have e2 := b2.le (Nat.zero_le _)
    have hlen' : (ls.ext ll (hh - ll)).len = hh - ll := by rw [ext_len]; omega
    refine .of_run M (hs ll hh _ _ rfl b1 b2) (RC.rv (R.rc1 (a := .vs lent (ls.ext ll (hh - ll))) ?_ rfl))
    by_cases hm : n = ll
    · have z1 : hh - ll = 0 := by omega
      rw [z1]; rw [z1] at hlen'
      exact .vs0 (ext_ok _ _ hok) hlen'
    · rw [if_neg hm, addr_add, ← hs1]
      have key : ∀ (j : Nat) (a : AV CT), (ls.ext ll (hh - ll)).get? X.C j = some a → ∃ d A D, (c.drop ((ll + j) * ls.sz)).take ls.sz = d ∧ R X (a.taint lent) d ∧
          c = A ++ (d ++ D) ∧ A.length = (ll + j) * ls.sz ∧ d.length = ls.sz := by
        intro j a ha
        obtain ⟨d, A, D, r1, r2, r3, r4⟩ := hg _ a (ext_get ha).1
        exact ⟨d, A, D, by rw [← r3, r2, List.drop_left' rfl, ← r4, List.take_left' rfl], r1, r2, r3, r4⟩
      have := R.vs (X := X) (lent := lent) (l := ls.ext ll (hh - ll)) (b := B) (off := off + ll * ls.sz) (cap := n - ll)
        (fun j => (c.drop ((ll + j) * ls.sz)).take ls.sz) (ext_ok _ _ hok) (by rw [hlen']; omega) ?_ ?_
      · rw [hlen'] at this; exact this
      · intro j a ha
        obtain ⟨d, A, D, r0, r1, _⟩ := key j a ha
        rw [r0]; exact r1
      · intro j a ha
        obtain ⟨d, A, D, r0, r1, r2, r3, r4⟩ := key j a ha
        rw [r0]
        refine ⟨get_ids X.C (l := ls) (by rintro s x rfl; simpa [AV.ids] using hi') (ext_get ha).1, by rw [ext_sz]; exact r4, ?_⟩
        rw [ext_sz, Nat.add_assoc, ← Nat.add_mul, ← r3]
        have hst' : Stable X lent B off (A ++ (d ++ D)) := r2 ▸ hst
        exact hst'.part
  · exact h.fail_inv.elim

theorem vs_ext {lent : Bool} {l : LS CT (AV CT)} {b off cap lw n : Nat} {c : Nat → List Value} (hok : l.Ok X.C) (hm : l.len ≤ maxI) (hw : lw + n ≤ l.len) (hn : n ≤ cap)
    (h1 : ∀ (j : Nat) (a : AV CT), l.get? X.C j = some a → R X (a.taint lent) (c j))
    (h2 : ∀ (j : Nat) (a : AV CT), l.get? X.C j = some a → a.ids = [] ∧ (c j).length = l.sz ∧ Stable X lent b (off + j * l.sz) (c j)) :
    R X (.vs lent (l.ext lw n)) [.slice (some ⟨b, off + lw * l.sz, none⟩) n cap] := by
  have hlen : (l.ext lw n).len = n := by rw [ext_len]; omega
  have := R.vs (X := X) (lent := lent) (l := l.ext lw n) (b := b) (off := off + lw * l.sz) (cap := cap) (fun j => c (lw + j)) (ext_ok _ _ hok) (by rw [hlen]; omega)
    (fun j a ha => h1 _ a (ext_get ha).1) (fun j a ha => by
      have := h2 _ a (ext_get ha).1
      rw [ext_sz]
      refine ⟨this.1, this.2.1, ?_⟩
      rw [Nat.add_assoc, ← Nat.add_mul]; exact this.2.2)
  rw [hlen] at this; exact this

theorem slice_good (H : TabOk P T) (hC : X.C = T.C) (M : Mem X0 W X ob w) {t : Nat} {x : AV CT} {lo hi : Option (AV CT)} {v : Value} {lv hv : Option Value} (hx : RV X x v)
    (hl : OptR X lo lv) (hh : OptR X hi hv) (h : Ev CR (sliceM T t x lo hi .ret) ob r ob') : Good P X0 X W w (do Pure.pure (.value (← Instr.sliceAt t v lv hv none))) r ob' := by
  unfold sliceM at h
  have runS : ∀ {e : Nat}, T.d t = .slc e → ∀ (a : Option Addr) (len cap : Nat) {y hb lb : Nat}, BoundR hi len y hb → BoundR lo 0 hb lb → y ≤ cap →
      (Instr.sliceAt t (.slice a len cap) lv hv none).run P w = .ok (.slice (if cap = lb then a else a.map (·.add (lb * T.sz e))) (hb - lb) (cap - lb)) w := by
    intro e hd a len cap y hb lb b1 b2 hc
    simp [Instr.sliceAt, run_underlying (H.slc hd), Instr.slice, bounds_run hl hh b1 hc b2, H.size w (H.elS _ _ hd)]
  split at h
  · rename_i s hd
    obtain ⟨hb, b1, h⟩ := boundM_inv h
    obtain ⟨lb, b2, h⟩ := boundM_inv h
    obtain ⟨rfl, rfl⟩ := h.ret_inv
    obtain ⟨rfl, hm⟩ := hx.str
    have hsz : (⟨s.toArray⟩ : ByteArray).size = s.length := by simp [ByteArray.size]
    have e1 := b1.le (Nat.le_refl _)
    refine .of_run M (u := .string ((⟨s.toArray⟩ : ByteArray).extract lb hb)) ?_ ?_
    · simp [Instr.sliceAt, run_underlying (H.str hd), Instr.slice, hsz, bounds_run (P := P) (w := w) hl hh b1 (Nat.le_refl _) b2]
    · have : (⟨s.toArray⟩ : ByteArray).extract lb hb = ⟨((s.drop lb).take (hb - lb)).toArray⟩ := by
        apply ByteArray.ext
        apply Array.ext'
        simp [ByteArray.data_extract]
      rw [this]
      exact RV.of_str (by simp; omega)
  · rename_i e kd hd
    obtain ⟨hb, b1, h⟩ := boundM_inv h
    obtain ⟨lb, b2, h⟩ := boundM_inv h
    obtain ⟨rfl, rfl⟩ := h.ret_inv
    obtain ⟨rfl, hk⟩ := hx.vnil
    have e1 := b1.le (Nat.le_refl _)
    have e2 := b2.le (Nat.zero_le _)
    refine .of_run M (runS hd none 0 0 b1 b2 (Nat.le_refl _)) ?_
    have z1 : hb = 0 := by omega
    have z2 : lb = 0 := by omega
    subst z1; subst z2
    simpa using RV.of_vnil hk
  · rename_i e lent l hd
    obtain ⟨hs, h⟩ := cond_fail h
    have hs := Nat.eq_of_beq_eq_true hs
    obtain ⟨hb, b1, h⟩ := boundM_inv h
    obtain ⟨lb, b2, h⟩ := boundM_inv h
    obtain ⟨rfl, rfl⟩ := h.ret_inv
    have e1 := b1.le (Nat.le_refl _)
    have e2 := b2.le (Nat.zero_le _)
    have hlen : (l.ext lb (hb - lb)).len = hb - lb := by rw [ext_len]; omega
    obtain ⟨hok, hcase⟩ := hx.vs
    rcases hcase with ⟨b, off, cap, c, rfl, hm, hcap, h1, h2⟩ | ⟨hz, a, cap, rfl⟩
    · refine .of_run M (runS hd _ _ _ b1 b2 hcap) (RC.rv (R.rc1 (a := .vs lent (l.ext lb (hb - lb))) ?_ rfl))
      by_cases hc : cap = lb
      · have z1 : hb - lb = 0 := by omega
        rw [z1]; rw [z1] at hlen
        exact .vs0 (ext_ok _ _ hok) hlen
      · rw [if_neg hc]
        simp only [Option.map_some, addr_add]
        rw [← hs]
        exact vs_ext hok hm (by omega) (by omega) h1 h2
    · rw [hz] at b1
      refine .of_run M (runS hd a 0 cap b1 b2 (Nat.zero_le _)) (RC.rv (R.rc1 (a := .vs lent (l.ext lb (hb - lb))) ?_ rfl))
      have z1 : hb - lb = 0 := by omega
      rw [z1]; rw [z1] at hlen
      exact .vs0 (ext_ok _ _ hok) hlen
  · rename_i e id kd hd
    obtain ⟨hs, h⟩ := cond_fail h
    have hs := Nat.eq_of_beq_eq_true hs
    obtain ⟨ls, hls, h⟩ := h.rdLst_inv
    obtain ⟨hb, b1, h⟩ := boundM_inv h
    obtain ⟨lb, b2, h⟩ := boundM_inv h
    obtain ⟨rfl, rfl⟩ := h.ret_inv
    have e1 := b1.le (Nat.le_refl _)
    have e2 := b2.le (Nat.zero_le _)
    obtain ⟨hk, hus, hloc⟩ := hx.mw
    obtain ⟨o, ho, hL⟩ := M.loc hls
    obtain ⟨hmx, hcase⟩ := hloc o ho
    have hlen : ls.len = o.2 := by
      cases hL with
      | nil g1 g2 _ => cases g1; exact g2
      | blk _ _ _ k4 => exact (k4 ls rfl).1
    rcases hcase with ⟨b', cap, q1, q2, rfl⟩ | ⟨q1, q2, rfl⟩
    · rw [hlen] at b1
      refine .of_run M (runS hd _ _ _ b1 b2 q2) (RC.rv (R.rc1 (a := .ms id [] kd lb (hb - lb) (ls.len - lb)) ?_ rfl))
      by_cases hc : cap = lb
      · have z1 : hb - lb = 0 := by omega
        have z2 : ls.len - lb = 0 := by omega
        rw [z1, z2]
        exact .ms0 hk hus
      · rw [if_neg hc]
        simp only [Option.map_some, addr_add]
        have := R.ms (X := X) (id := id) (p := []) (k := kd) (off := lb) (len := hb - lb) (cap := ls.len - lb) (b := b') (capc := cap - lb) hk hus ⟨by omega, by omega⟩ (by omega)
          (fun o' ho' => by rw [ho] at ho'; cases ho'; exact ⟨_, q1⟩)
        rw [hs] at this
        simpa [pathOff] using this
    · have z : ls.len = 0 := by omega
      rw [z] at b1 e1
      refine .of_run M (runS hd none 0 0 b1 b2 (Nat.le_refl _)) (RC.rv (R.rc1 (a := .ms id [] kd lb (hb - lb) (ls.len - lb)) ?_ rfl))
      have z1 : hb - lb = 0 := by omega
      have z2 : ls.len - lb = 0 := by omega
      have z3 : (0 : Nat) = lb := by omega
      rw [z1, z2, if_pos z3, ← z3]
      exact .ms0 hk hus
  · rename_i e id p kd off len cap hd
    obtain ⟨hs, h⟩ := cond_fail h
    have hs := Nat.eq_of_beq_eq_true hs
    obtain ⟨hb, b1, h⟩ := boundM_inv h
    obtain ⟨lb, b2, h⟩ := boundM_inv h
    obtain ⟨rfl, rfl⟩ := h.ret_inv
    have e2 := b2.le (Nat.zero_le _)
    obtain ⟨hk, hus, hcase⟩ := hx.ms
    rcases hcase with ⟨b, capc, q1, q2, q3, rfl⟩ | ⟨rfl, rfl, a, capc, rfl⟩
    · have e1 := b1.le q1.2
      refine .of_run M (runS hd _ _ _ b1 b2 q2) (RC.rv (R.rc1 (a := .ms id p kd (off + lb) (hb - lb) (cap - lb)) ?_ rfl))
      by_cases hc : capc = lb
      · have z1 : hb - lb = 0 := by omega
        have z2 : cap - lb = 0 := by omega
        rw [z1, z2]
        exact .ms0 hk hus
      · rw [if_neg hc]
        simp only [Option.map_some, addr_add]
        have := R.ms (X := X) (id := id) (p := p) (k := kd) (off := off + lb) (len := hb - lb) (cap := cap - lb) (b := b) (capc := capc - lb) hk hus ⟨by omega, by omega⟩ (by omega) q3
        rw [Nat.add_mul, ← Nat.add_assoc, hs] at this
        rw [hs]; exact this
    · have e1 := b1.le (Nat.le_refl 0)
      refine .of_run M (runS hd a 0 capc b1 b2 (Nat.zero_le _)) (RC.rv (R.rc1 (a := .ms id p kd (off + lb) (hb - lb) (0 - lb)) ?_ rfl))
      have z1 : hb - lb = 0 := by omega
      have z2 : 0 - lb = 0 := by omega
      rw [z1, z2]
      exact .ms0 hk hus
  · rename_i x' a' hd
    split at h
    · rename_i n e hda
      have hb := H.elA _ _ _ hda
      refine arrS_good H hC M hx hb.1 (fun l h b off hv b1 b2 => ?_) hb.2 h
      subst hv
      simp [Instr.sliceAt, run_underlying (H.ptr hd), Instr.slice, asAddr, run_underlying (H.arr hda), bounds_run (P := P) (w := w) hl hh b1 (Nat.le_refl _) b2, H.size w hb.1]
    · exact h.fail_inv.elim
  · rename_i n e hd
    have hb := H.elA _ _ _ hd
    refine arrS_good H hC M hx hb.1 (fun l h b off hv b1 b2 => ?_) hb.2 h
    subst hv
    simp [Instr.sliceAt, run_underlying (H.arr hd), Instr.sureAddr, bounds_run (P := P) (w := w) hl hh b1 (Nat.le_refl _) b2, H.size w hb.1]
  · exact h.fail_inv.elim
end
end Go.Proofs.Ytjnkppjlhmkjaaa.Av
