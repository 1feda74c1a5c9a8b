/- '==', unary operators, conversions. -/
import Derived.Test.YtjnkppjlhmkjaaaAvOp4
import Derived.ChangeKeysEq
namespace Go.Proofs.Ytjnkppjlhmkjaaa.Av
open Go
variable {CT : Nat → Type}

section
variable {P : Program} {T : TyTab CT} {CR : CallR CT} {X0 X : Cx CT} {W w : World} {ob ob' : Ob CT} {r : AV CT}

theorem un_good (M : Mem X0 W X ob w) {op : UnOp} {x : AV CT} {v : Value} (hv : RV X x v) (h : Ev CR (unM op x .ret) ob r ob') :
    Good P X0 X W w (do Pure.pure (.value (← Op.unary op v))) r ob' := by
  unfold unM at h
  split at h
  · obtain ⟨rfl, rfl⟩ := h.ret_inv
    obtain ⟨rfl, _⟩ := hv.int
    exact .of_run M (by simp [Op.unary, Op.intArith]) (RV.of_int (wrap_lo _ _) (wrap_hi _ _))
  · obtain ⟨rfl, rfl⟩ := h.ret_inv
    obtain ⟨rfl, _⟩ := hv.int
    exact .of_run M (by simp only [Op.unary, Op.intBits, Sem.run_pure]; rfl) (RV.of_int (wrap_lo _ _) (wrap_hi _ _))
  · obtain ⟨rfl, rfl⟩ := h.ret_inv
    obtain rfl := hv.flt
    exact .of_run M (by simp [Op.unary]; rfl) RV.of_flt
  · obtain ⟨rfl, rfl⟩ := h.ret_inv
    obtain rfl := hv.cpx
    exact .of_run M (by simp [Op.unary]; exact ⟨rfl, rfl⟩) RV.of_cpx
  · obtain ⟨rfl, rfl⟩ := h.ret_inv
    obtain rfl := hv.bool
    exact .of_run M (by simp [Op.unary]) RV.of_bool
  · exact h.fail_inv.elim

theorem RV.nilp {v : Value} (h : RV X .nilp v) : v = .pointer none := by
  have := RC.one (a := .nilp) h rfl; cases this; rfl
theorem RV.nilf {v : Value} (h : RV X .nilf v) : v = .nilFunc := by
  have := RC.one (a := .nilf) h rfl; cases this; rfl
theorem RV.nili {v : Value} (h : RV X .nili v) : v = .nilIface := by
  have := RC.one (a := .nili) h rfl; cases this; rfl
theorem RV.errb {b : Bool} {v : Value} (h : RV X (.errb b) v) : ∃ t u, v = if b then .nilIface else .iface t u := by
  have := RC.one (a := .errb b) h rfl; cases this; exact ⟨_, _, rfl⟩
theorem RV.ifc {t : Nat} {a : AV CT} {v : Value} (h : RV X (.ifc t a) v) : ∃ u, v = .iface t u ∧ RC X a u := by
  have := RC.one (a := .ifc t a) h rfl; cases this with | ifc h1 h2 h3 => exact ⟨_, rfl, h1, h2, h3⟩
theorem RV.fn {f : Nat} {caps : List (AV CT)} {v : Value} (h : RV X (.fn f caps) v) : ∃ vs : List Value, v = .func (.func f) #[] vs.toArray ∧ caps.length = vs.length ∧ ∀ (j : Nat) (a : AV CT) (u : Value), caps[j]? = some a → vs[j]? = some u → R X a [u] := by
  have := RC.one (a := .fn f caps) h rfl; cases this with | fn h1 h2 => exact ⟨_, rfl, h1, h2⟩

/-- '==' computes. -/
theorem eqItems_run (H : TabOk P T) {e : Nat} (he : T.d e ≠ .bad) (ha : (T.d e).isAgg = false) {d : Nat} {xs ys : Array Value} {α : Type} [BEq α] [LawfulBEq α] (f : α → Value)
    (heq : ∀ a b, (Op.equalIn d e (f a) (f b)).run P w = .ok (a == b) w) (hs : T.sz e = 1) :
    ∀ (is : List Nat) (la lb : List α), la.length = lb.length → (∀ (k i : Nat), is[k]? = some i → ∃ a b, la[k]? = some a ∧ lb[k]? = some b ∧ xs[i]? = some (f a) ∧ ys[i]? = some (f b)) → is.length = la.length →
      (Op.eqItems d e (T.sz e) xs ys is).run P w = .ok (la == lb) w := by
  intro is
  induction is with
  | nil => intro la lb hl _ hn; cases la <;> cases lb <;> simp at hl hn <;> simp [Op.eqItems]
  | cons i is ih =>
    intro la lb hl h hn
    cases la with
    | nil => simp at hn
    | cons a la =>
      cases lb with
      | nil => simp at hl
      | cons b lb =>
        obtain ⟨a', b', h1, h2, h3, h4⟩ := h 0 i rfl
        simp at h1 h2; subst h1; subst h2
        have ih := ih la lb (by simpa using hl) (fun k i hk => by simpa using h (k + 1) i (by simpa using hk)) (by simpa using hn)
        have p1 : (part e xs (i * T.sz e)).run P w = .ok (f a) w := by simp [part, H.agg w he, ha, hs, h3]
        have p2 : (part e ys (i * T.sz e)).run P w = .ok (f b) w := by simp [part, H.agg w he, ha, hs, h4]
        simp only [Op.eqItems, Sem.run_bind, p1, p2, Result.andThen_ok, heq]
        by_cases hab : a = b
        · subst hab; simp [ih]
        · have hb : (a == b) = false := by simpa using hab
          simp [hb]
theorem arr_cells {n : Nat} {l : LS CT (AV CT)} {c : List Value} (h : R X (.arr n l) c) (hs : l.sz = 1) {j : Nat} {a : AV CT} (ha : l.get? X.C j = some a) {v : Value} (hv : ∀ d, R X a d → d = [v]) : c[j]? = some v := by
  obtain ⟨_, _, h3⟩ := h.arr_get
  obtain ⟨d, A, D, r1, r2, r3, r4⟩ := h3 j a ha
  have := hv d r1
  subst this
  rw [hs, Nat.mul_one] at r3
  rw [r2, ← r3, List.getElem?_append_right (Nat.le_refl _)]; simp
theorem arr_eq (H : TabOk P T) {n e : Nat} {l l' : LS CT (AV CT)} {xs ys : Array Value} (rx : R X (.arr n l) xs.toList) (ry : R X (.arr n l') ys.toList) (he : T.d e ≠ .bad) (ha : (T.d e).isAgg = false)
    {α : Type} [BEq α] [LawfulBEq α] (f : α → Value) (g : α → AV CT) (la lb : List α) (hl : ∀ (j : Nat), l.get? X.C j = la[j]?.map g) (hl' : ∀ (j : Nat), l'.get? X.C j = lb[j]?.map g)
    (h1 : l.sz = 1) (h1' : l'.sz = 1) (h2 : la.length = n) (h2' : lb.length = n) (hg : ∀ a d, R X (g a) d → d = [f a]) {d : Nat}
    (heq : ∀ a b, (Op.equalIn d e (f a) (f b)).run P w = .ok (a == b) w) : T.sz e = 1 → (Op.eqItems d e (T.sz e) xs ys (List.range n)).run P w = .ok (la == lb) w := by
  intro hs
  refine eqItems_run H he ha f heq hs _ la lb (h2.trans h2'.symm) (fun k i hk => ?_) (by simp [h2])
  have hlt := (List.getElem?_eq_some_iff.1 hk).1
  simp only [List.length_range] at hlt
  have e1 : i = k := by
    rw [List.getElem?_range hlt] at hk; exact (Option.some.inj hk).symm
  subst e1
  have q1 : la[i]? = some (la[i]'(by omega)) := List.getElem?_eq_getElem (by omega)
  have q2 : lb[i]? = some (lb[i]'(by omega)) := List.getElem?_eq_getElem (by omega)
  refine ⟨_, _, q1, q2, ?_, ?_⟩
  · have := arr_cells rx h1 (j := i) (a := g (la[i]'(by omega))) (by rw [hl, q1]; rfl) (hg _); simpa using this
  · have := arr_cells ry h1' (j := i) (a := g (lb[i]'(by omega))) (by rw [hl', q2]; rfl) (hg _); simpa using this

set_option maxHeartbeats 2000000 in
theorem eq_in (H : TabOk P T) (hC : X.C = T.C) {t d : Nat} {x y : AV CT} {v u : Value} (hx : RV X x v) (hy : RV X y u) {b : Bool} (h : eqV T t x y = some b) : (Op.equalIn (d + 1 + 1) t v u).run P w = .ok b w := by
  unfold eqV at h
  obtain ⟨d', hd'⟩ : ∃ d', d + 1 = d' := ⟨_, rfl⟩
  rw [hd']
  have ifc : T.d t = .ifc → ∃ ms, P.underlying t = some (.interface ms) := by
    intro hd
    obtain ⟨u, h1, h2⟩ := H.und hd (by simp)
    cases u <;> simp [DescOk] at h2; exact ⟨_, h1⟩
  have fnn : T.d t = .fn → ∃ a b c, P.underlying t = some (.func a b c) := by
    intro hd
    obtain ⟨u, h1, h2⟩ := H.und hd (by simp)
    cases u <;> simp [DescOk] at h2; exact ⟨_, _, _, h1⟩
  split at h
  case h_1 hd => cases h; obtain rfl := hx.bool; obtain rfl := hy.bool; simp [Op.equalIn, run_underlying (H.bool hd)]
  case h_2 hd => cases h; obtain rfl := hx.nilp; obtain rfl := hy.nilp; simp [Op.equalIn, run_underlying (H.ptr hd)]
  case h_3 hd => cases h; obtain rfl := hx.nilp; obtain ⟨_, rfl, _⟩ := hy.ptr; simp [Op.equalIn, run_underlying (H.ptr hd)]
  case h_4 hd => cases h; obtain rfl := hx.nilp; obtain ⟨_, _, _, rfl, _⟩ := hy.vptr; simp [Op.equalIn, run_underlying (H.ptr hd)]
  case h_5 hd => cases h; obtain rfl := hy.nilp; obtain ⟨_, rfl, _⟩ := hx.ptr; simp [Op.equalIn, run_underlying (H.ptr hd)]
  case h_6 hd => cases h; obtain rfl := hy.nilp; obtain ⟨_, _, _, rfl, _⟩ := hx.vptr; simp [Op.equalIn, run_underlying (H.ptr hd)]
  case h_7 hd => cases h; obtain ⟨ms, hm⟩ := ifc hd; obtain rfl := hx.nili; obtain rfl := hy.nili; simp [Op.equalIn, run_underlying hm]
  case h_8 hd => cases h; obtain ⟨ms, hm⟩ := ifc hd; obtain rfl := hx.nili; obtain ⟨_, rfl, _⟩ := hy.ifc; simp [Op.equalIn, run_underlying hm]
  case h_9 hd => cases h; obtain ⟨ms, hm⟩ := ifc hd; obtain rfl := hy.nili; obtain ⟨_, rfl, _⟩ := hx.ifc; simp [Op.equalIn, run_underlying hm]
  case h_10 b' hd => cases h; obtain ⟨ms, hm⟩ := ifc hd; obtain rfl := hx.nili; obtain ⟨_, _, rfl⟩ := hy.errb; cases b <;> simp [Op.equalIn, run_underlying hm]
  case h_11 b' hd => cases h; obtain ⟨ms, hm⟩ := ifc hd; obtain rfl := hy.nili; obtain ⟨_, _, rfl⟩ := hx.errb; cases b <;> simp [Op.equalIn, run_underlying hm]
  case h_12 hd => cases h; obtain ⟨_, _, _, hm⟩ := fnn hd; obtain rfl := hx.nilf; obtain rfl := hy.nilf; simp [Op.equalIn, run_underlying hm]
  case h_13 hd => cases h; obtain ⟨_, _, _, hm⟩ := fnn hd; obtain rfl := hx.nilf; obtain ⟨_, rfl, _⟩ := hy.fn; simp [Op.equalIn, run_underlying hm]
  case h_14 hd => cases h; obtain ⟨_, _, _, hm⟩ := fnn hd; obtain rfl := hy.nilf; obtain ⟨_, rfl, _⟩ := hx.fn; simp [Op.equalIn, run_underlying hm]
  case h_15 hd => cases h; obtain ⟨rfl, _⟩ := hx.vnil; obtain ⟨rfl, _⟩ := hy.vnil; simp [Op.equalIn, run_underlying (H.slc hd)]
  case h_17 => cases h
  case h_16 n e m l m' l' hd =>
    cases hc : (Nat.beq n m && Nat.beq n m') with
    | false => rw [hc] at h; cases h
    | true =>
      rw [hc] at h
      simp only [cond_true] at h
      simp only [Bool.and_eq_true] at hc
      obtain rfl := Nat.eq_of_beq_eq_true hc.1
      obtain rfl := Nat.eq_of_beq_eq_true hc.2
      obtain ⟨xs, rfl, rx⟩ := RC.agg (a := .arr n l) hx rfl
      obtain ⟨ys, rfl, ry⟩ := RC.agg (a := .arr n l') hy rfl
      have he := (H.elA _ _ _ hd).1
      obtain ⟨i, hi, hsz, _⟩ := H.info he
      rw [run_equalIn_array w d' xs ys (H.arr hd) hi]
      have hcs : P.cellsOf e = T.sz e := by simp [Program.cellsOf, hi, hsz]
      rw [hcs]
      have lx := rx.arr_get.2.1
      have ly := ry.arr_get.2.1
      subst hd'
      have s1 : (T.d e).isAgg = false → T.sz e = 1 := by
        intro hag
        exact H.one e he hag
      split at h
      · rename_i la lb hde
        cases h
        have hag : (T.d e).isAgg = false := by rw [hde]; rfl
        refine arr_eq H rx ry he hag (fun b : UInt8 => .int .u8 b.toNat) (fun b => .int .u8 b.toNat) la lb (fun j => rfl) (fun j => rfl) rfl rfl lx ly (fun a d h => by cases h; rfl) (fun a b => ?_) (s1 hag)
        simp [Op.equalIn, run_underlying (H.int hde)]
        by_cases hab : a = b
        · subst hab; simp
        · have h1 : (a == b) = false := by simpa using hab
          have h2 : ((a.toNat : Int) == (b.toNat : Int)) = false := by
            rw [beq_eq_false_iff_ne]; intro h; exact hab (UInt8.toNat_inj.1 (by omega))
          rw [h1]; exact h2
      · rename_i k0 k a k' b' hde
        obtain ⟨hk, h'⟩ : kindEq k k' = true ∧ (a == b') = b := by
          cases hk : kindEq k k' with
          | true => rw [hk] at h; exact ⟨rfl, Option.some.inj h⟩
          | false => rw [hk] at h; cases h
        clear h
        obtain rfl := kindEq_eq hk
        subst h'
        have hag : (T.d e).isAgg = false := by rw [hde]; rfl
        refine arr_eq H rx ry he hag (fun n : Int => .int k n) (fun n => .int k n) a b' (fun j => rfl) (fun j => rfl) rfl rfl lx ly (fun a d h => by cases h; rfl) (fun a b => ?_) (s1 hag)
        simp [Op.equalIn, run_underlying (H.int hde)]
      · rename_i a b' hde
        cases h
        have hag : (T.d e).isAgg = false := by rw [hde]; rfl
        refine arr_eq H rx ry he hag (fun n : List UInt8 => .string ⟨n.toArray⟩) (fun n => .str n) a b' (fun j => rfl) (fun j => rfl) rfl rfl lx ly (fun a d h => by cases h; rfl) (fun a b => ?_) (s1 hag)
        rw [run_equalIn_string w d e _ _ (H.str hde), ByteArray.toList_eq, ByteArray.toList_eq]
      · cases h
theorem eq_run (H : TabOk P T) (hC : X.C = T.C) {t : Nat} {x y : AV CT} {v u : Value} (hx : RV X x v) (hy : RV X y u) {b : Bool} (h : eqV T t x y = some b) : (Op.equal t v u).run P w = .ok b w :=
  eq_in (d := 9998) H hC hx hy h

theorem ifc_of (H : TabOk P T) {t : Nat} (hd : T.d t = .ifc) : ∃ ms, P.underlying t = some (.interface ms) := by
  obtain ⟨u, h1, h2⟩ := H.und hd (by simp)
  cases u <;> simp [DescOk] at h2; exact ⟨_, h1⟩
theorem guard_other {op : BinOp} {t : Nat} {ox oy : Operand} {v u : Value} (h1 : ¬ (v = .nilIface ∧ u = .nilIface)) (h2 : ∀ a b, ¬ (v = .agg a ∧ u = .agg b)) : (eqGuard op t ox oy v u).run P w = .ok () w := by
  unfold eqGuard
  cases op <;> first
    | rfl
    | (simp only [Bool.not_true, Bool.false_eq_true, if_false]
       split
       · exact absurd ⟨rfl, rfl⟩ h1
       · exact absurd ⟨rfl, rfl⟩ (h2 _ _)
       · rfl)
theorem guard_nil {op : BinOp} {t : Nat} {ox oy : Operand} (h : (isConstO ox || isConstO oy) = true) : (eqGuard op t ox oy .nilIface .nilIface).run P w = .ok () w := by
  unfold eqGuard
  cases op <;> first | rfl | (cases ox <;> cases oy <;> first | rfl | (simp [isConstO] at h))
theorem guard_agg {op : BinOp} {t : Nat} {ox oy : Operand} {a b : Array Value} (h : P.eqGuardType P.depth t = false) : (eqGuard op t ox oy (.agg a) (.agg b)).run P w = .ok () w := by
  unfold eqGuard
  cases op <;> first | rfl | simp [h]

/-- The guard of '=='. -/
theorem guard_run (H : TabOk P T) {op : BinOp} {t : Nat} {ox oy : Operand} {x y : AV CT} {v u : Value} (hx : RV X x v) (hy : RV X y u)
    (hc : (match T.d t with | .ifc => isConstO ox || isConstO oy | _ => true) = true) {b : Bool} (h : eqV T t x y = some b) : (eqGuard op t ox oy v u).run P w = .ok () w := by
  unfold eqV at h
  split at h
  case h_1 hd => obtain rfl := hx.bool; exact guard_other (by simp) (by simp)
  case h_2 hd => obtain rfl := hx.nilp; exact guard_other (by simp) (by simp)
  case h_3 hd => obtain rfl := hx.nilp; exact guard_other (by simp) (by simp)
  case h_4 hd => obtain rfl := hx.nilp; exact guard_other (by simp) (by simp)
  case h_5 hd => obtain rfl := hy.nilp; exact guard_other (by simp) (by simp)
  case h_6 hd => obtain rfl := hy.nilp; exact guard_other (by simp) (by simp)
  case h_7 hd => rw [hd] at hc; obtain rfl := hx.nili; obtain rfl := hy.nili; exact guard_nil hc
  case h_8 hd => obtain rfl := hx.nili; obtain ⟨_, rfl, _⟩ := hy.ifc; exact guard_other (by simp) (by simp)
  case h_9 hd => obtain rfl := hy.nili; obtain ⟨_, rfl, _⟩ := hx.ifc; exact guard_other (by simp) (by simp)
  case h_10 b' hd =>
    rw [hd] at hc; obtain rfl := hx.nili; obtain ⟨_, _, rfl⟩ := hy.errb
    cases b' with
    | true => exact guard_nil hc
    | false => exact guard_other (by simp) (by simp)
  case h_11 b' hd =>
    rw [hd] at hc; obtain rfl := hy.nili; obtain ⟨_, _, rfl⟩ := hx.errb
    cases b' with
    | true => exact guard_nil hc
    | false => exact guard_other (by simp) (by simp)
  case h_12 hd => obtain rfl := hx.nilf; exact guard_other (by simp) (by simp)
  case h_13 hd => obtain rfl := hx.nilf; exact guard_other (by simp) (by simp)
  case h_14 hd => obtain rfl := hy.nilf; exact guard_other (by simp) (by simp)
  case h_15 hd => obtain ⟨rfl, _⟩ := hx.vnil; exact guard_other (by simp) (by simp)
  case h_17 => cases h
  case h_16 n e m l m' l' hd =>
    obtain ⟨xs, rfl, _⟩ := RC.agg (a := .arr m l) hx rfl
    obtain ⟨ys, rfl, _⟩ := RC.agg (a := .arr m' l') hy rfl
    refine guard_agg ?_
    have he : P.underlying e ≠ none ∧ (∀ ms, P.underlying e ≠ some (.interface ms)) ∧ (∀ fs, P.underlying e ≠ some (.struct fs)) ∧ ∀ n e', P.underlying e ≠ some (.array n e') := by
      cases hb : (Nat.beq n m && Nat.beq n m') with
      | false => rw [hb] at h; cases h
      | true =>
        rw [hb] at h
        simp only [cond_true] at h
        split at h
        · rename_i hde _ _; rw [H.int hde]; simp
        · rename_i hde _ _; rw [H.int hde]; simp
        · rename_i hde _ _; rw [H.str hde]; simp
        · cases h
    show P.eqGuardType ((2 * (P.types.size + Made.depth)) + 1 + 1) t = false
    simp only [Program.eqGuardType, H.arr hd]
    obtain ⟨h1, h2, h3, h4⟩ := he
    split
    · rename_i ms hm; exact absurd hm (h2 ms)
    · rename_i fs hm; exact absurd hm (h3 fs)
    · rename_i k e' hm; exact absurd hm (h4 k e')
    · rfl

theorem eqV_left {t : Nat} {x y : AV CT} {v : Value} (hx : RV X x v) {b : Bool} (h : eqV T t x y = some b) :
    (∀ k n, v ≠ .int k n) ∧ (∀ k n, v ≠ .float k n) ∧ (∀ k n m, v ≠ .complex k n m) ∧ ∀ s, v ≠ .string s := by
  unfold eqV at h
  split at h
  case h_1 hd => obtain rfl := hx.bool; simp
  case h_2 hd => obtain rfl := hx.nilp; simp
  case h_3 hd => obtain rfl := hx.nilp; simp
  case h_4 hd => obtain rfl := hx.nilp; simp
  case h_5 hd => obtain ⟨_, rfl, _⟩ := hx.ptr; simp
  case h_6 hd => obtain ⟨_, _, _, rfl, _⟩ := hx.vptr; simp
  case h_7 hd => obtain rfl := hx.nili; simp
  case h_8 hd => obtain rfl := hx.nili; simp
  case h_9 hd => obtain ⟨_, rfl, _⟩ := hx.ifc; simp
  case h_10 b' hd => obtain rfl := hx.nili; simp
  case h_11 b' hd => obtain ⟨_, _, rfl⟩ := hx.errb; cases b' <;> simp
  case h_12 hd => obtain rfl := hx.nilf; simp
  case h_13 hd => obtain rfl := hx.nilf; simp
  case h_14 hd => obtain ⟨_, rfl, _⟩ := hx.fn; simp
  case h_15 hd => obtain ⟨rfl, _⟩ := hx.vnil; simp
  case h_17 => cases h
  case h_16 n e m l m' l' hd => obtain ⟨xs, rfl, _⟩ := RC.agg (a := .arr m l) hx rfl; simp
theorem eql_run {t : Nat} {v u : Value} (hv : (∀ k n, v ≠ .int k n) ∧ (∀ k n, v ≠ .float k n) ∧ (∀ k n m, v ≠ .complex k n m) ∧ ∀ s, v ≠ .string s) {b : Bool}
    (h : (Op.equal t v u).run P w = .ok b w) : (binOp .eql t v u).run P w = .ok (.bool b) w ∧ (binOp .neq t v u).run P w = .ok (.bool !b) w := by
  obtain ⟨h1, h2, h3, h4⟩ := hv
  cases v <;> first | exact absurd rfl (h1 _ _) | exact absurd rfl (h2 _ _) | exact absurd rfl (h3 _ _ _) | exact absurd rfl (h4 _) | simp [binOp, h]

theorem bin_good (H : TabOk P T) (hC : X.C = T.C) (M : Mem X0 W X ob w) {op : BinOp} {t : Nat} {ox oy : Operand} {x y : AV CT} {v u : Value} (hx : RV X x v) (hy : RV X y u)
    (h : Ev CR (cond (match T.d t with
      | .ifc => isConstO ox || isConstO oy
      | _ => true) (binM T op t x y .ret) .fail) ob r ob') : Good P X0 X W w (do Pure.pure (.value (← (do eqGuard op t ox oy v u; binOp op t v u)))) r ob' := by
  obtain ⟨hc, h⟩ := cond_fail h
  have lift : (eqGuard op t ox oy v u).run P w = .ok () w → Good P X0 X W w (do Pure.pure (.value (← binOp op t v u))) r ob' → Good P X0 X W w (do Pure.pure (.value (← (do eqGuard op t ox oy v u; binOp op t v u)))) r ob' := by
    rintro hg ⟨z, w', X', hr, g⟩
    exact ⟨z, w', X', by simpa [hg] using hr, g⟩
  unfold binM at h
  split at h
  · obtain ⟨rfl, ha⟩ := hx.int; obtain ⟨rfl, _⟩ := hy.int
    exact lift (guard_other (by simp) (by simp)) (shift_good M (.inl rfl) ha h)
  · obtain ⟨rfl, ha⟩ := hx.int; obtain ⟨rfl, _⟩ := hy.int
    exact lift (guard_other (by simp) (by simp)) (shift_good M (.inr rfl) ha h)
  · obtain ⟨hk, h'⟩ := cond_fail h
    clear h
    obtain rfl := kindEq_eq hk
    obtain ⟨rfl, ha⟩ := hx.int; obtain ⟨rfl, _⟩ := hy.int
    refine lift (guard_other (by simp) (by simp)) (int_good M ⟨?_, ?_⟩ ha h')
    · rintro rfl; simp_all
    · rintro rfl; simp_all
  · obtain ⟨hk, h'⟩ := cond_fail h
    clear h
    obtain rfl := fkindEq_eq hk
    obtain rfl := hx.flt; obtain rfl := hy.flt
    exact lift (guard_other (by simp) (by simp)) (flt_good M h')
  · obtain ⟨hk, h'⟩ := cond_fail h
    clear h
    obtain rfl := fkindEq_eq hk
    obtain rfl := hx.cpx; obtain rfl := hy.cpx
    exact lift (guard_other (by simp) (by simp)) (cpx_good M h')
  · obtain ⟨rfl, _⟩ := hx.str; obtain ⟨rfl, _⟩ := hy.str
    exact lift (guard_other (by simp) (by simp)) (str_good M h)
  · split at h
    · rename_i b hb
      obtain ⟨rfl, rfl⟩ := h.ret_inv
      exact lift (guard_run H hx hy hc hb) (.of_run M (eql_run (eqV_left hx hb) (eq_run (w := w) H hC hx hy hb)).1 RV.of_bool)
    · exact h.fail_inv.elim
  · split at h
    · rename_i b hb
      obtain ⟨rfl, rfl⟩ := h.ret_inv
      exact lift (guard_run H hx hy hc hb) (.of_run M (eql_run (eqV_left hx hb) (eq_run (w := w) H hC hx hy hb)).2 RV.of_bool)
    · exact h.fail_inv.elim
  · exact h.fail_inv.elim
end
end Go.Proofs.Ytjnkppjlhmkjaaa.Av
