/- Operators: whole numbers, floats, complex numbers, texts, '=='. -/
import Derived.Test.YtjnkppjlhmkjaaaAvOp3
import Derived.Laws.Strings
namespace Go.Proofs.Ytjnkppjlhmkjaaa.Av
open Go
variable {CT : Nat → Type}

theorem wrap_lo (k : IntKind) (n : Int) : k.min ≤ k.wrap n := by
  cases k <;> simp [IntKind.wrap, IntKind.min, IntKind.bits, IntKind.signed] <;> (try split) <;> omega
theorem wrap_hi (k : IntKind) (n : Int) : k.wrap n ≤ k.max := by
  cases k <;> simp [IntKind.wrap, IntKind.max, IntKind.bits, IntKind.signed] <;> (try split) <;> omega
theorem min_le0 (k : IntKind) : k.min ≤ 0 := by cases k <;> simp [IntKind.min, IntKind.bits, IntKind.signed]
theorem max_ge0 (k : IntKind) : 0 ≤ k.max := by cases k <;> simp [IntKind.max, IntKind.bits, IntKind.signed]
theorem tmod_in {a b lo hi : Int} (h0 : lo ≤ 0) (h1 : 0 ≤ hi) (hl : lo ≤ a) (hh : a ≤ hi) : lo ≤ a.tmod b ∧ a.tmod b ≤ hi := by
  rcases Int.le_total 0 a with h | h
  · have h2 := Int.tmod_nonneg b h
    have h3 : a.tmod b ≤ a := by
      have := Int.natAbs_tmod a b
      have h4 : (a.tmod b).natAbs ≤ a.natAbs := by rw [this]; exact Nat.mod_le _ _
      omega
    omega
  · have h2 : (-a).tmod b = -(a.tmod b) := Int.neg_tmod a b
    have h3 := Int.tmod_nonneg b (show 0 ≤ -a by omega)
    have h4 : (a.tmod b).natAbs ≤ a.natAbs := by rw [Int.natAbs_tmod]; exact Nat.mod_le _ _
    omega
theorem shr_in {a lo hi : Int} (n : Nat) (h0 : lo ≤ 0) (h1 : 0 ≤ hi) (hl : lo ≤ a) (hh : a ≤ hi) : lo ≤ a.fdiv (2 ^ n) ∧ a.fdiv (2 ^ n) ≤ hi := by
  have hp : (0 : Int) < 2 ^ n := Int.pow_pos (by omega)
  rw [Int.fdiv_eq_ediv_of_nonneg _ (by omega)]
  constructor
  · rw [Int.le_ediv_iff_mul_le hp]
    have : lo * 2 ^ n ≤ lo * 1 := Int.mul_le_mul_of_nonpos_left h0 (by omega)
    omega
  · rcases Int.le_total 0 a with h | h
    · have := Int.ediv_le_self (2 ^ n : Int) h; omega
    · have : a / 2 ^ n ≤ 0 := Int.ediv_nonpos_of_nonpos_of_neg h (by omega)
      omega

section
variable {P : Program} {T : TyTab CT} {CR : CallR CT} {X0 X : Cx CT} {W w : World} {ob ob' : Ob CT} {r : AV CT}

theorem int_good (M : Mem X0 W X ob w) {op : BinOp} {k : IntKind} {a b : Int} {t : Nat} (hop : op ≠ .shl ∧ op ≠ .shr) (ha : k.min ≤ a ∧ a ≤ k.max) (h : Ev CR (intM op k a b .ret) ob r ob') :
    Good P X0 X W w (do Pure.pure (.value (← binOp op t (.int k a) (.int k b)))) r ob' := by
  have wr : ∀ n, RV X (.int k (k.wrap n)) (.int k (k.wrap n)) := fun n => RV.of_int (wrap_lo k n) (wrap_hi k n)
  cases op <;> simp only [intM, bitsInt, cmpInt] at h
  case add => obtain ⟨rfl, rfl⟩ := h.ret_inv; exact .of_run M (by simp [binOp, Op.intArith]) (wr _)
  case sub => obtain ⟨rfl, rfl⟩ := h.ret_inv; exact .of_run M (by simp [binOp, Op.intArith]) (wr _)
  case mul => obtain ⟨rfl, rfl⟩ := h.ret_inv; exact .of_run M (by simp [binOp, Op.intArith]) (wr _)
  case quo =>
    obtain ⟨h0, h⟩ := h.gd_inv
    obtain ⟨rfl, rfl⟩ := h.ret_inv
    have h0 : b ≠ 0 := by simpa using h0
    exact .of_run M (by simp [binOp, Op.intDiv, h0]) (wr _)
  case rem =>
    obtain ⟨h0, h⟩ := h.gd_inv
    obtain ⟨rfl, rfl⟩ := h.ret_inv
    have h0 : b ≠ 0 := by simpa using h0
    have := tmod_in (b := b) (min_le0 k) (max_ge0 k) ha.1 ha.2
    exact .of_run M (by simp [binOp, Op.intDiv, h0]) (RV.of_int this.1 this.2)
  case and => obtain ⟨rfl, rfl⟩ := h.ret_inv; exact .of_run M (by simp [binOp, Op.intBits, andI]) (wr _)
  case or => obtain ⟨rfl, rfl⟩ := h.ret_inv; exact .of_run M (by simp [binOp, Op.intBits, orI]) (wr _)
  case xor => obtain ⟨rfl, rfl⟩ := h.ret_inv; exact .of_run M (by simp [binOp, Op.intBits, xorI]) (wr _)
  case andNot => obtain ⟨rfl, rfl⟩ := h.ret_inv; exact .of_run M (by simp [binOp, Op.intBits, andNotI]) (wr _)
  case shl => exact absurd rfl hop.1
  case shr => exact absurd rfl hop.2
  all_goals (obtain ⟨rfl, rfl⟩ := h.ret_inv; exact .of_run M (by simp [binOp, Op.intCmp]) RV.of_bool)

theorem shift_good (M : Mem X0 W X ob w) {op : BinOp} {k k' : IntKind} {a b : Int} {t : Nat} (hop : op = .shl ∨ op = .shr) (ha : k.min ≤ a ∧ a ≤ k.max) (h : Ev CR (shiftM op k a b .ret) ob r ob') :
    Good P X0 X W w (do Pure.pure (.value (← binOp op t (.int k a) (.int k' b)))) r ob' := by
  rcases hop with rfl | rfl
  · obtain ⟨h0, h⟩ := h.gd_inv
    obtain ⟨rfl, rfl⟩ := h.ret_inv
    have h0 : ¬ b < 0 := by have := of_decide_eq_true h0; omega
    exact .of_run M (by simp [binOp, Op.shift, h0, shlI]) (RV.of_int (wrap_lo _ _) (wrap_hi _ _))
  · obtain ⟨h0, h⟩ := h.gd_inv
    obtain ⟨rfl, rfl⟩ := h.ret_inv
    have h0 : ¬ b < 0 := by have := of_decide_eq_true h0; omega
    have := shr_in (min b.toNat k.bits) (min_le0 k) (max_ge0 k) ha.1 ha.2
    exact .of_run M (by simp [binOp, Op.shift, h0, shrI]) (RV.of_int this.1 this.2)

theorem str_good (M : Mem X0 W X ob w) {op : BinOp} {a b : List UInt8} {t : Nat} (h : Ev CR (strM op a b .ret) ob r ob') :
    Good P X0 X W w (do Pure.pure (.value (← binOp op t (.string ⟨a.toArray⟩) (.string ⟨b.toArray⟩)))) r ob' := by
  have ea : (⟨a.toArray⟩ : ByteArray).toList = a := ByteArray.toList_eq _
  have eb : (⟨b.toArray⟩ : ByteArray).toList = b := ByteArray.toList_eq _
  have fin : ∀ {x : Bool}, (binOp op t (.string ⟨a.toArray⟩) (.string ⟨b.toArray⟩)).run P w = .ok (.bool x) w → Ev CR (.ret (.bool x)) ob r ob' →
      Good P X0 X W w (do Pure.pure (.value (← binOp op t (.string ⟨a.toArray⟩) (.string ⟨b.toArray⟩)))) r ob' := by
    intro x hx h
    obtain ⟨rfl, rfl⟩ := h.ret_inv
    exact .of_run M hx RV.of_bool
  cases op <;> simp only [strM] at h
  case add =>
    obtain ⟨h0, h⟩ := h.gd_inv
    obtain ⟨rfl, rfl⟩ := h.ret_inv
    have h0 := Nat.ble_eq.mp h0
    have hm : most ≤ maxI := by decide
    have hs1 : (⟨a.toArray⟩ : ByteArray).size = a.length := by simp [ByteArray.size]
    have hs2 : (⟨b.toArray⟩ : ByteArray).size = b.length := by simp [ByteArray.size]
    have e : (⟨a.toArray⟩ : ByteArray) ++ ⟨b.toArray⟩ = ⟨(a ++ b).toArray⟩ := by
      apply ByteArray.ext; simp
    have hn : ¬ IntKind.max .i64 < ((a.length + b.length : Nat) : Int) := by
      have : IntKind.max .i64 = 9223372036854775807 := by decide
      rw [this]; simp only [most] at h0; omega
    refine .of_run M (u := .string ⟨(a ++ b).toArray⟩) ?_ (RV.of_str (by simp; omega))
    simp only [binOp, Op.stringOp, hs1, hs2, e]
    rw [if_neg hn]; rfl
  case eql => exact fin (by simp [binOp, Op.stringOp, ea, eb]) h
  case neq => exact fin (by simp [binOp, Op.stringOp, ea, eb]) h
  case lss => exact fin (by simp [binOp, Op.stringOp, ea, eb]) h
  case leq => exact fin (by simp [binOp, Op.stringOp, ea, eb]) h
  case gtr => exact fin (by simp [binOp, Op.stringOp, ea, eb]) h
  case geq => exact fin (by simp [binOp, Op.stringOp, ea, eb]) h
  all_goals exact h.fail_inv.elim

theorem flt_run {op : BinOp} {k : FloatKind} {x y z : Nat} (h : arith? op k x y = some z) : (Op.floatArith op k x y).run P w = .ok (.float k z) w := by
  cases op <;> simp only [arith?] at h <;> first | (cases h; done) | simp [Op.floatArith, h]
theorem flt_good (M : Mem X0 W X ob w) {op : BinOp} {k : FloatKind} {a b : Nat} {t : Nat} (h : Ev CR (fltM op k a b .ret) ob r ob') :
    Good P X0 X W w (do Pure.pure (.value (← binOp op t (.float k a) (.float k b)))) r ob' := by
  unfold fltM at h
  split at h
  · rename_i x hx
    obtain ⟨rfl, rfl⟩ := h.ret_inv
    refine .of_run M (u := .bool x) ?_ RV.of_bool
    cases op <;> simp only [cmpFlt] at hx <;> first | (cases hx; done) | (cases hx; simp [binOp, Op.floatCmp])
  · obtain ⟨z, hz, h⟩ := h.un_inv
    obtain ⟨rfl, rfl⟩ := h.ret_inv
    refine .of_run M (u := .float k z) ?_ RV.of_flt
    have := flt_run (P := P) (w := w) hz
    cases op <;> simp only [arith?] at hz <;> first | (cases hz; done) | simpa [binOp] using this
theorem cpx_good (M : Mem X0 W X ob w) {op : BinOp} {k : FloatKind} {a b c d : Nat} {t : Nat} (h : Ev CR (cpxM op k a b c d .ret) ob r ob') :
    Good P X0 X W w (do Pure.pure (.value (← binOp op t (.complex k a b) (.complex k c d)))) r ob' := by
  have ar : ∀ {op : BinOp} {k : FloatKind} {x y z : Nat}, arith? op k x y = some z → (Op.Complex.arith op k x y).run P w = .ok z w := by
    intro op k x y z hz; simp [Op.Complex.arith, flt_run (P := P) (w := w) hz]
  cases op <;> simp only [cpxM] at h
  case add =>
    obtain ⟨z1, h1, h⟩ := h.un_inv
    obtain ⟨z2, h2, h⟩ := h.un_inv
    obtain ⟨rfl, rfl⟩ := h.ret_inv
    exact .of_run M (by simp [binOp, Op.complexOp, ar h1, ar h2]) RV.of_cpx
  case sub =>
    obtain ⟨z1, h1, h⟩ := h.un_inv
    obtain ⟨z2, h2, h⟩ := h.un_inv
    obtain ⟨rfl, rfl⟩ := h.ret_inv
    exact .of_run M (by simp [binOp, Op.complexOp, ar h1, ar h2]) RV.of_cpx
  case mul =>
    obtain ⟨hk, h⟩ := cond_fail h
    obtain rfl := fkindEq_eq hk
    obtain ⟨ac, h1, h⟩ := h.un_inv
    obtain ⟨bd, h2, h⟩ := h.un_inv
    obtain ⟨z1, h3, h⟩ := h.un_inv
    obtain ⟨ad, h4, h⟩ := h.un_inv
    obtain ⟨bc, h5, h⟩ := h.un_inv
    obtain ⟨z2, h6, h⟩ := h.un_inv
    obtain ⟨rfl, rfl⟩ := h.ret_inv
    exact .of_run M (by simp [binOp, Op.complexOp, Op.Complex.conv, Op.Complex.product, Op.Complex.mul, Op.Complex.sub, Op.Complex.add, ar h1, ar h2, ar h3, ar h4, ar h5, ar h6]) RV.of_cpx
  case eql =>
    obtain ⟨rfl, rfl⟩ := h.ret_inv
    refine .of_run M (u := .bool (cpxEq k a b c d)) ?_ RV.of_bool
    simp [binOp, Op.complexOp, Op.Complex.cmp, Op.floatCmp, asBool, cpxEq]
    try (cases (k.format.order a c == some Ordering.eq) <;> simp)
  case neq =>
    obtain ⟨rfl, rfl⟩ := h.ret_inv
    refine .of_run M (u := .bool (!cpxEq k a b c d)) ?_ RV.of_bool
    simp [binOp, Op.complexOp, Op.Complex.cmp, Op.floatCmp, asBool, cpxEq]
    try (cases (k.format.order a c == some Ordering.eq) <;> simp)
  all_goals exact h.fail_inv.elim
end
end Go.Proofs.Ytjnkppjlhmkjaaa.Av
