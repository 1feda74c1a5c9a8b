/- Plain words for printed functions. -/
import Derived.Test.YtjnkppjlhmkjaaaAvDef
namespace Go.Proofs.Ytjnkppjlhmkjaaa.Av
open Go
theorem cond_dec_t {p : Prop} [Decidable p] {α : Type} {a b : α} (h : p) : cond (decide p) a b = a := by rw [decide_eq_true h]; rfl
theorem cond_dec_f {p : Prop} [Decidable p] {α : Type} {a b : α} (h : ¬ p) : cond (decide p) a b = b := by rw [decide_eq_false h]; rfl
theorem cond_ble_t {x y : Nat} {α : Type} {a b : α} (h : x ≤ y) : cond (Nat.ble x y) a b = a := by rw [Nat.ble_eq.mpr h]; rfl
theorem cond_blt_t {x y : Nat} {α : Type} {a b : α} (h : x < y) : cond (Nat.blt x y) a b = a := by rw [show Nat.blt x y = true from Nat.ble_eq.mpr h]; rfl
theorem bind_get {α β : Type} {l : List α} {i : Nat} (h : i < l.length) (d : α) (f : α → Option β) : (l[i]?).bind f = f (l.getD i d) := by
  rw [List.getD_eq_getElem?_getD, List.getElem?_eq_getElem h]; rfl
theorem wi64_id {x : Int} (h1 : -9223372036854775808 ≤ x) (h2 : x ≤ 9223372036854775807) : IntKind.i64.wrap x = x := by
  simp [IntKind.wrap, IntKind.bits, IntKind.signed]; omega
theorem wu64_id {x : Int} (h1 : 0 ≤ x) (h2 : x ≤ 18446744073709551615) : IntKind.u64.wrap x = x := by
  simp [IntKind.wrap, IntKind.bits, IntKind.signed]; omega
theorem wu32_id {x : Int} (h1 : 0 ≤ x) (h2 : x ≤ 4294967295) : IntKind.u32.wrap x = x := by
  simp [IntKind.wrap, IntKind.bits, IntKind.signed]; omega
theorem wu8_id {x : Int} (h1 : 0 ≤ x) (h2 : x ≤ 255) : IntKind.u8.wrap x = x := by
  simp [IntKind.wrap, IntKind.bits, IntKind.signed]; omega
theorem wu32_mod (x : Int) : IntKind.u32.wrap x = x % 4294967296 := by simp [IntKind.wrap, IntKind.bits, IntKind.signed]
theorem wu64_mod (x : Int) : IntKind.u64.wrap x = x % 18446744073709551616 := by simp [IntKind.wrap, IntKind.bits, IntKind.signed]
theorem wu8_mod (x : Int) : IntKind.u8.wrap x = x % 256 := by simp [IntKind.wrap, IntKind.bits, IntKind.signed]
theorem set_app {α : Type} (l : List α) (n : Nat) (z v : α) : (l ++ List.replicate (n + 1) z).set l.length v = (l ++ [v]) ++ List.replicate n z := by
  rw [List.set_append_right _ _ (Nat.le_refl _), Nat.sub_self, List.replicate_succ]; simp
theorem getD_app_left {α : Type} {l r : List α} {i : Nat} (d : α) (h : i < l.length) : (l ++ r).getD i d = l.getD i d := by
  rw [List.getD_eq_getElem?_getD, List.getD_eq_getElem?_getD, List.getElem?_append_left h]
/-! ### Bits of words -/
theorem ofInt_nat (w a : Nat) : BitVec.ofInt w (a : Int) = BitVec.ofNat w a := by simp
theorem orI_nat {a b : Nat} (ha : a < 4294967296) (hb : b < 4294967296) : orI .u32 (a : Int) (b : Int) = ((a ||| b : Nat) : Int) := by
  unfold orI
  have h : a ||| b < 2 ^ 32 := Nat.or_lt_two_pow (by omega) (by omega)
  rw [show IntKind.u32.bits = 32 from rfl, ofInt_nat, ofInt_nat, BitVec.toNat_or, BitVec.toNat_ofNat, BitVec.toNat_ofNat, Nat.mod_eq_of_lt (by omega), Nat.mod_eq_of_lt (by omega), wu32_mod]
  omega
theorem orI_comm (k : IntKind) (x y : Int) : orI k x y = orI k y x := by unfold orI; rw [BitVec.or_comm]
theorem shl_or {a b n : Nat} (h : b < 2 ^ n) : a * 2 ^ n ||| b = a * 2 ^ n + b := by
  rw [← Nat.shiftLeft_eq, Nat.shiftLeft_add_eq_or_of_lt h]
end Go.Proofs.Ytjnkppjlhmkjaaa.Av
