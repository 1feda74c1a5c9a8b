/- SHA-256, plainly: what makes a message longer, and sums. -/
import Derived.Test.YtjnkppjlhmkjaaaAvSha2
namespace Go.Proofs.Ytjnkppjlhmkjaaa.Av
open Go
/-- A size in eight bytes. -/
def be8 (n : Nat) : List UInt8 := [UInt8.ofNat (n / 256 ^ 7 % 256), UInt8.ofNat (n / 256 ^ 6 % 256), UInt8.ofNat (n / 256 ^ 5 % 256), UInt8.ofNat (n / 256 ^ 4 % 256), UInt8.ofNat (n / 256 ^ 3 % 256), UInt8.ofNat (n / 256 ^ 2 % 256), UInt8.ofNat (n / 256 % 256), UInt8.ofNat (n % 256)]
def pad (n : Nat) : List UInt8 := ([128] ++ List.replicate ((119 - n % 64) % 64) 0) ++ be8 (n * 8)
def word4 (x : Int) : List UInt8 := [UInt8.ofNat (wu8 (shrI .u32 x 24)).toNat, UInt8.ofNat (wu8 (shrI .u32 x 16)).toNat, UInt8.ofNat (wu8 (shrI .u32 x 8)).toNat, UInt8.ofNat (wu8 x).toNat]
def outB (s : List Int) : List UInt8 := s.flatMap word4
def shaS (m : List UInt8) : List UInt8 := outB (absorb h0 (m ++ pad m.length)).1
theorem shr_byte {n i : Nat} (hi : i ≤ 7) : UInt8.ofNat (wu8 (shrI .u64 (n : Int) ((8 * i : Nat) : Int))).toNat = UInt8.ofNat (n / 256 ^ i % 256) := by
  unfold shrI
  have : min ((8 * i : Nat) : Int).toNat IntKind.u64.bits = 8 * i := by simp [IntKind.bits]; omega
  rw [this, wu8, wu8_mod]
  have e : (n : Int).fdiv (2 ^ (8 * i)) = ((n / 256 ^ i : Nat) : Int) := by
    rw [Int.fdiv_eq_ediv_of_nonneg _ (by exact_mod_cast Nat.zero_le _)]
    have e2 : (2 : Int) ^ (8 * i) = ((256 ^ i : Nat) : Int) := by
      rw [show (2 : Int) ^ (8 * i) = ((2 ^ (8 * i) : Nat) : Int) by norm_cast, Nat.pow_mul]
    rw [e2]
    norm_cast
  rw [e]
  congr 1
section
variable {β : Type}
theorem tail_step (sz : Int) (n : Nat) (hsz : sz = (n : Int)) (i m : Nat) (hi : i ≤ 7) (l : List UInt8) (hl : l.length ≤ 1000) (e0 : List UInt8 → Option β) :
    sha_tail_l0 NN (m + 1) sz (i : Int) l e0 = sha_tail_l0 NN m sz ((i : Int) - 1) (l ++ [UInt8.ofNat (n / 256 ^ i % 256)]) e0 := by
  subst hsz
  have h8 : wi64 (8 * (i : Int)) = ((8 * i : Nat) : Int) := by rw [wi64, wi64_id (by omega) (by omega)]; omega
  have h1 : wi64 ((i : Int) - 1) = (i : Int) - 1 := by rw [wi64, wi64_id (by omega) (by omega)]
  have hmost : (100000000 : Nat) ≤ most := by decide
  simp only [sha_tail_l0, sha_tail_l0_s, h8, h1, shr_byte hi]
  rw [cond_dec_t (by omega), cond_dec_t (by omega), cond_ble_t (by simp; omega)]
theorem tail_end (sz : Int) (m : Nat) (l : List UInt8) (e0 : List UInt8 → Option β) : sha_tail_l0 NN (m + 1) sz (((0 : Nat) : Int) - 1) l e0 = e0 l := by
  simp only [sha_tail_l0, sha_tail_l0_s]
  rw [cond_dec_f (by omega)]
theorem tail_eq (n : Nat) (hn : n ≤ 100000000) (k : List UInt8 → Option β) : sha_tail NN (n : Int) k = k (pad n) := by
  unfold sha_tail
  have hz : (wi64 (119 - ((n : Int).tmod 64))).tmod 64 = (((119 - n % 64) % 64 : Nat) : Int) := by
    have h1 : (n : Int).tmod 64 = ((n % 64 : Nat) : Int) := by
      rw [Int.tmod_eq_emod_of_nonneg (by omega)]; omega
    rw [h1, wi64, wi64_id (by omega) (by omega), Int.tmod_eq_emod_of_nonneg (by omega)]
    omega
  have hs : wu64 ((wu64 (n : Int)) * 8) = ((n * 8 : Nat) : Int) := by
    have : wu64 (n : Int) = n := wu64_id (by omega) (by omega)
    rw [this, wu64, wu64_id (by omega) (by omega)]; omega
  have hmost : (100000000 : Nat) ≤ most := by decide
  simp only [hz, hs, Int.toNat_natCast]
  have hr : (119 - n % 64) % 64 < 64 := Nat.mod_lt _ (by omega)
  rw [cond_dec_t (by omega), cond_ble_t (by omega), cond_ble_t (by simp; omega)]
  generalize hl : ([128] : List UInt8) ++ List.replicate ((119 - n % 64) % 64) 0 = l
  have hll : l.length ≤ 64 := by rw [← hl]; simp; omega
  have st := fun (i m : Nat) (hi : i ≤ 7) (l : List UInt8) (hl : l.length ≤ 1000) => tail_step ((n * 8 : Nat) : Int) (n * 8) rfl i m hi l hl (fun q1 => k q1)
  have s7 := st 7 2097151 (by omega) l (by omega)
  have s6 := st 6 2097150 (by omega) (l ++ [UInt8.ofNat (n * 8 / 256 ^ 7 % 256)]) (by simp; omega)
  have s5 := st 5 2097149 (by omega) (l ++ [UInt8.ofNat (n * 8 / 256 ^ 7 % 256)] ++ [UInt8.ofNat (n * 8 / 256 ^ 6 % 256)]) (by simp; omega)
  have s4 := st 4 2097148 (by omega) (l ++ [UInt8.ofNat (n * 8 / 256 ^ 7 % 256)] ++ [UInt8.ofNat (n * 8 / 256 ^ 6 % 256)] ++ [UInt8.ofNat (n * 8 / 256 ^ 5 % 256)]) (by simp; omega)
  have s3 := st 3 2097147 (by omega) (l ++ [UInt8.ofNat (n * 8 / 256 ^ 7 % 256)] ++ [UInt8.ofNat (n * 8 / 256 ^ 6 % 256)] ++ [UInt8.ofNat (n * 8 / 256 ^ 5 % 256)] ++ [UInt8.ofNat (n * 8 / 256 ^ 4 % 256)]) (by simp; omega)
  have s2 := st 2 2097146 (by omega) (l ++ [UInt8.ofNat (n * 8 / 256 ^ 7 % 256)] ++ [UInt8.ofNat (n * 8 / 256 ^ 6 % 256)] ++ [UInt8.ofNat (n * 8 / 256 ^ 5 % 256)] ++ [UInt8.ofNat (n * 8 / 256 ^ 4 % 256)] ++ [UInt8.ofNat (n * 8 / 256 ^ 3 % 256)]) (by simp; omega)
  have s1 := st 1 2097145 (by omega) (l ++ [UInt8.ofNat (n * 8 / 256 ^ 7 % 256)] ++ [UInt8.ofNat (n * 8 / 256 ^ 6 % 256)] ++ [UInt8.ofNat (n * 8 / 256 ^ 5 % 256)] ++ [UInt8.ofNat (n * 8 / 256 ^ 4 % 256)] ++ [UInt8.ofNat (n * 8 / 256 ^ 3 % 256)] ++ [UInt8.ofNat (n * 8 / 256 ^ 2 % 256)]) (by simp; omega)
  have s0 := st 0 2097144 (by omega) (l ++ [UInt8.ofNat (n * 8 / 256 ^ 7 % 256)] ++ [UInt8.ofNat (n * 8 / 256 ^ 6 % 256)] ++ [UInt8.ofNat (n * 8 / 256 ^ 5 % 256)] ++ [UInt8.ofNat (n * 8 / 256 ^ 4 % 256)] ++ [UInt8.ofNat (n * 8 / 256 ^ 3 % 256)] ++ [UInt8.ofNat (n * 8 / 256 ^ 2 % 256)] ++ [UInt8.ofNat (n * 8 / 256 ^ 1 % 256)]) (by simp; omega)
  refine s7.trans (s6.trans (s5.trans (s4.trans (s3.trans (s2.trans (s1.trans (s0.trans ?_)))))))
  refine (tail_end _ 2097143 _ _).trans ?_
  unfold pad
  rw [← hl]
  congr 1
  simp [be8]
theorem out_loop (s0 s1 s2 s3 s4 s5 s6 s7 : Int) (z : List UInt8) (b : List Int) (c : List UInt8) (d : Int) (on : Bool) (e0 : List UInt8 → List UInt8 → List Int → List UInt8 → Int → Bool → Option β) :
    sha_Hash_Sum_l0 NN NN [s0, s1, s2, s3, s4, s5, s6, s7] 0 z (List.replicate 32 0) b c d on e0 = e0 z (outB [s0, s1, s2, s3, s4, s5, s6, s7]) b c d on := by kernel_rfl
theorem sum_eq {st : List Int} {rest : List UInt8} {n : Int} {on : Bool} {msg : List UInt8} (hI : HInv st rest n on msg) (hm : msg.length ≤ 10000000) (k : List UInt8 → List Int → List UInt8 → Int → Bool → Option β) :
    sha_Hash_Sum NN st rest n on k = k (shaS msg) st rest n on := by
  have hn : n = (msg.length : Int) := by rcases hI with ⟨_, _, _, h⟩ | ⟨_, rfl, _, h⟩ <;> simpa using h
  have hr : rest.length ≤ 10000000 := by
    rcases hI with ⟨_, _, rfl, _⟩ | ⟨_, _, rfl, _⟩
    · have := (absorb_ok msg).2.2; omega
    · simp
  unfold sha_Hash_Sum sha_Hash_Clone
  have hmost : (100000000 : Nat) ≤ most := by decide
  have hp : (pad msg.length).length ≤ 200 := by
    unfold pad be8
    have hr : (119 - msg.length % 64) % 64 < 64 := Nat.mod_lt _ (by omega)
    simp; omega
  simp only [List.nil_append, Nat.mul_one]
  rw [cond_ble_t (by omega)]
  have hI2 := hI
  rw [hn, tail_eq _ (by omega), write_eq (hn ▸ hI) false (pad msg.length) (by omega)]
  have ha := absorb_ok (msg ++ pad msg.length)
  obtain ⟨s0, s1, s2, s3, s4, s5, s6, s7, hs⟩ := len8 ha.1
  unfold shaS
  rw [hs]
  exact out_loop s0 s1 s2 s3 s4 s5 s6 s7 _ _ _ _ _ _
theorem new_inv : HInv ([0, 0, 0, 0, 0, 0, 0, 0] : List Int) [] 0 false [] := .inr ⟨rfl, rfl, rfl, rfl⟩
theorem inv_on (msg : List UInt8) : HInv (absorb h0 msg).1 (absorb h0 msg).2 (msg.length : Int) true msg := .inl ⟨rfl, rfl, rfl, rfl⟩
def total (l : List (List UInt8)) : Nat := (l.map List.length).sum
theorem total_flat (l : List (List UInt8)) : l.flatten.length = total l := by simp [total, List.length_flatten]
theorem sum_l0 (p0 : Bool) (l : List (List UInt8)) (hl : l.length ≤ 2000000) (z : List UInt8) (k : List UInt8 → Option β) : ∀ (d t m : Nat) (msg : List UInt8) (st : List Int) (rest : List UInt8) (n : Int) (on : Bool), t + d = l.length → d < m →
    HInv st rest n on msg → msg.length + total (l.drop t) ≤ 10000000 →
    sha_Sum_l0 NN m p0 l (l.length : Int) (t : Int) z st rest n on (fun q11 q12 q13 q14 q15 => sha_Hash_Sum NN q12 q13 q14 q15 fun r16 r17 r18 r19 r20 => k r16) = k (shaS (msg ++ (l.drop t).flatten))
  | 0, t, m, msg, st, rest, n, on, h, hm, hI, hb => by
    obtain ⟨m, rfl⟩ : ∃ k, m = k + 1 := ⟨m - 1, by omega⟩
    simp only [sha_Sum_l0, sha_Sum_l0_s]
    rw [cond_dec_f (by omega), sum_eq hI (by omega), List.drop_eq_nil_of_le (by omega)]
    simp
  | d + 1, t, m, msg, st, rest, n, on, h, hm, hI, hb => by
    obtain ⟨m, rfl⟩ : ∃ k, m = k + 1 := ⟨m - 1, by omega⟩
    have i4 : wi64 ((t : Int) + 1) = ((t + 1 : Nat) : Int) := by rw [wi64, wi64_id (by omega) (by omega)]; omega
    have hd : l.drop t = l.getD t [] :: l.drop (t + 1) := by
      rw [List.drop_eq_getElem_cons (show t < l.length by omega), List.getD_eq_getElem?_getD, List.getElem?_eq_getElem (show t < l.length by omega)]; rfl
    rw [hd] at hb ⊢
    have hb' : msg.length + ((l.getD t []).length + total (l.drop (t + 1))) ≤ 10000000 := by simpa [total] using hb
    simp only [sha_Sum_l0, sha_Sum_l0_s, i4, Int.toNat_natCast]
    rw [cond_dec_t (by omega), cond_dec_t (by omega), bind_get (by omega) [], write_eq hI p0 _ (by omega)]
    have ih := sum_l0 p0 l hl z k d (t + 1) m (msg ++ l.getD t []) _ _ _ _ (by omega) (by omega) (inv_on (msg ++ l.getD t [])) (by rw [List.length_append]; omega)
    rw [ih, List.flatten_cons, List.append_assoc]
theorem shaSum_eq (p : Bool) (l : List (List UInt8)) (hl : l.length ≤ 2000000) (ht : total l ≤ 10000000) (k : List UInt8 → Option β) : sha_Sum NN p l k = k (shaS l.flatten) := by
  unfold sha_Sum sha_New
  have := sum_l0 p l hl (List.replicate 32 0) k l.length 0 NN [] _ _ _ _ (by omega) (by have : (2000000 : Nat) < NN := by decide
                                                                                        omega) new_inv (by simpa using ht)
  simpa using this
end
end Go.Proofs.Ytjnkppjlhmkjaaa.Av
