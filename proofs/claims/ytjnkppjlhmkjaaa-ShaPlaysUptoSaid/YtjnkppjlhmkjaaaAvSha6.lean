/- The table, and the two sums at one. -/
import Derived.Test.YtjnkppjlhmkjaaaAvSha5
namespace Go.Proofs.Ytjnkppjlhmkjaaa.Av
open Go
section
variable {β : Type}
theorem cubes (k : Int → Option β) : ∀ t, t < 64 → ref01_fraction NN (pp.getD t 0) 3 k = k (kk.getD t 0)
  | 0, _ => cube2 k
  | 1, _ => cube3 k
  | 2, _ => cube5 k
  | 3, _ => cube7 k
  | 4, _ => cube11 k
  | 5, _ => cube13 k
  | 6, _ => cube17 k
  | 7, _ => cube19 k
  | 8, _ => cube23 k
  | 9, _ => cube29 k
  | 10, _ => cube31 k
  | 11, _ => cube37 k
  | 12, _ => cube41 k
  | 13, _ => cube43 k
  | 14, _ => cube47 k
  | 15, _ => cube53 k
  | 16, _ => cube59 k
  | 17, _ => cube61 k
  | 18, _ => cube67 k
  | 19, _ => cube71 k
  | 20, _ => cube73 k
  | 21, _ => cube79 k
  | 22, _ => cube83 k
  | 23, _ => cube89 k
  | 24, _ => cube97 k
  | 25, _ => cube101 k
  | 26, _ => cube103 k
  | 27, _ => cube107 k
  | 28, _ => cube109 k
  | 29, _ => cube113 k
  | 30, _ => cube127 k
  | 31, _ => cube131 k
  | 32, _ => cube137 k
  | 33, _ => cube139 k
  | 34, _ => cube149 k
  | 35, _ => cube151 k
  | 36, _ => cube157 k
  | 37, _ => cube163 k
  | 38, _ => cube167 k
  | 39, _ => cube173 k
  | 40, _ => cube179 k
  | 41, _ => cube181 k
  | 42, _ => cube191 k
  | 43, _ => cube193 k
  | 44, _ => cube197 k
  | 45, _ => cube199 k
  | 46, _ => cube211 k
  | 47, _ => cube223 k
  | 48, _ => cube227 k
  | 49, _ => cube229 k
  | 50, _ => cube233 k
  | 51, _ => cube239 k
  | 52, _ => cube241 k
  | 53, _ => cube251 k
  | 54, _ => cube257 k
  | 55, _ => cube263 k
  | 56, _ => cube269 k
  | 57, _ => cube271 k
  | 58, _ => cube277 k
  | 59, _ => cube281 k
  | 60, _ => cube283 k
  | 61, _ => cube293 k
  | 62, _ => cube307 k
  | 63, _ => cube311 k
  | t + 64, h => absurd h (by omega)
theorem squares (k : Int → Option β) : ∀ t, t < 8 → ref01_fraction NN (pp.getD t 0) 2 k = k (h0.getD t 0)
  | 0, _ => square2 k
  | 1, _ => square3 k
  | 2, _ => square5 k
  | 3, _ => square7 k
  | 4, _ => square11 k
  | 5, _ => square13 k
  | 6, _ => square17 k
  | 7, _ => square19 k
  | t + 8, h => absurd h (by omega)
theorem take_snoc (l : List Int) (t : Nat) (h : t < l.length) : l.take t ++ [l.getD t 0] = l.take (t + 1) := by
  rw [List.take_add_one, List.getD_eq_getElem?_getD, List.getElem?_eq_getElem h]; rfl
theorem table_l0 (e0 : List Int → List Int → Option β) : ∀ (d t f : Nat), t + d = 64 → d < f → ref01_Table_l0 NN f pp 64 (t : Int) (kk.take t) (h0.take t) e0 = e0 kk h0
  | 0, t, f, h, hf => by
    obtain ⟨f, rfl⟩ : ∃ k, f = k + 1 := ⟨f - 1, by omega⟩
    obtain rfl : t = 64 := by omega
    simp only [ref01_Table_l0, ref01_Table_l0_s]
    rw [cond_dec_f (by omega)]
    rfl
  | d + 1, t, f, h, hf => by
    obtain ⟨f, rfl⟩ : ∃ k, f = k + 1 := ⟨f - 1, by omega⟩
    have hmost : (100000000 : Nat) ≤ most := by decide
    have hpl : pp.length = 64 := rfl
    have hkl : kk.length = 64 := rfl
    have hhl : h0.length = 8 := rfl
    have i4 : wi64 ((t : Int) + 1) = ((t + 1 : Nat) : Int) := by rw [wi64, wi64_id (by omega) (by omega)]; omega
    have ih := table_l0 e0 d (t + 1) f (by omega) (by omega)
    simp only [ref01_Table_l0, ref01_Table_l0_s, i4, Int.toNat_natCast]
    rw [cond_dec_t (by omega), cond_dec_t (by omega), bind_get (by omega) 0, cubes _ t (by omega)]
    rw [take_snoc kk t (by omega)]
    rw [cond_ble_t (by rw [List.length_take]; omega)]
    by_cases h8 : t < 8
    · rw [cond_dec_t (by omega), squares _ t h8, take_snoc h0 t (by omega), cond_ble_t (by rw [List.length_take]; omega)]
      exact ih
    · rw [cond_dec_f (by omega)]
      have e : h0.take t = h0.take (t + 1) := by rw [List.take_of_length_le (by omega), List.take_of_length_le (by omega)]
      rw [e]; exact ih
theorem table_eq (k : List Int → List Int → Option β) : ref01_Table NN k = k kk h0 := by
  unfold ref01_Table
  rw [primes_eq]
  exact table_l0 _ 64 0 NN (by omega) (by decide)
theorem refSum_eq (m : List UInt8) (hm : m.length ≤ 2000000) (k : List UInt8 → Option β) : ref01_Sum NN m k = k (shaS m) := by
  unfold ref01_Sum
  rw [table_eq, mixed_eq m hm]
theorem first_eq (k : Bool → Option β) : law01_first NN k = k true := by kernel_rfl
theorem sums_l0 (p0 : Bool) (l : List (List UInt8)) (hl : l.length ≤ 2000000) (p3 : Bool) (e0 : Bool → List (List UInt8) → List UInt8 → Option β) : ∀ (d t m : Nat) (z : List UInt8), t + d = l.length → d < m → z.length + total (l.drop t) ≤ 10000000 →
    law01_ShaSums_l0 NN m p0 l z p3 l (l.length : Int) (t : Int) e0 = e0 p0 l (z ++ (l.drop t).flatten)
  | 0, t, m, z, h, hm, hb => by
    obtain ⟨m, rfl⟩ : ∃ k, m = k + 1 := ⟨m - 1, by omega⟩
    simp only [law01_ShaSums_l0, law01_ShaSums_l0_s]
    rw [cond_dec_f (by omega), List.drop_eq_nil_of_le (by omega)]
    simp
  | d + 1, t, m, z, h, hm, hb => by
    obtain ⟨m, rfl⟩ : ∃ k, m = k + 1 := ⟨m - 1, by omega⟩
    have hmost : (100000000 : Nat) ≤ most := by decide
    have i4 : wi64 ((t : Int) + 1) = ((t + 1 : Nat) : Int) := by rw [wi64, wi64_id (by omega) (by omega)]; omega
    have hd : l.drop t = l.getD t [] :: l.drop (t + 1) := by
      rw [List.drop_eq_getElem_cons (show t < l.length by omega), List.getD_eq_getElem?_getD, List.getElem?_eq_getElem (show t < l.length by omega)]; rfl
    rw [hd] at hb ⊢
    have hb' : z.length + ((l.getD t []).length + total (l.drop (t + 1))) ≤ 10000000 := by simpa [total] using hb
    simp only [law01_ShaSums_l0, law01_ShaSums_l0_s, i4, Int.toNat_natCast]
    rw [cond_dec_t (by omega), cond_dec_t (by omega), bind_get (by omega) [], cond_ble_t (by omega)]
    have ih := sums_l0 p0 l hl p3 e0 d (t + 1) m (z ++ l.getD t []) (by omega) (by omega) (by rw [List.length_append]; omega)
    rw [ih, List.flatten_cons, List.append_assoc]
theorem cond_both {b : Bool} {x y : Option β} {z : Option β} (h1 : b = true → x = z) (h2 : b = false → y = z) : cond b x y = z := by
  cases b
  · exact h2 rfl
  · exact h1 rfl
theorem sums_end (p : Bool) (l : List (List UInt8)) (hl : l.length ≤ 2000000) (ht : total l ≤ 2000000) (k : Bool → Option β) :
    cond (decide ((l.flatten.length : Int) > 1000)) (k true) (cond (decide ((l.length : Int) > 50)) (k true) (sha_Sum NN p l fun r6 => ref01_Sum NN l.flatten fun r7 => k (r6 == r7))) = k true := by
  refine cond_both (fun _ => rfl) fun _ => cond_both (fun _ => rfl) fun _ => ?_
  rw [shaSum_eq p l hl (by omega), refSum_eq _ (by rw [total_flat]; omega), beq_self_eq_true]
theorem sums_mid (p : Bool) (l : List (List UInt8)) (hl : l.length ≤ 2000000) (ht : total l ≤ 2000000) (e0 : Bool → List (List UInt8) → List UInt8 → Option β) :
    law01_ShaSums_l0 NN NN p l [] p l (l.length : Int) 0 e0 = e0 p l l.flatten := by
  have := sums_l0 p l hl p e0 l.length 0 NN [] (by omega) (by
    have : (2000000 : Nat) < NN := by decide
    omega) (by simp only [List.length_nil, List.drop_zero]; omega)
  rw [List.drop_zero, List.nil_append] at this
  exact this
/-- The law, plainly. -/
theorem sums_true (p : Bool) (l : List (List UInt8)) (hl : l.length ≤ 2000000) (ht : total l ≤ 2000000) (k : Bool → Option β) : law01_ShaSums NN p l k = k true := by
  unfold law01_ShaSums
  rw [first_eq, Bool.not_true, cond_false, sums_mid p l hl ht]
  exact sums_end p l hl ht k
end
end Go.Proofs.Ytjnkppjlhmkjaaa.Av
