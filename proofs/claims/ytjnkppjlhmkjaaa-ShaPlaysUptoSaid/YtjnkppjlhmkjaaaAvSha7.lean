/- ShaSame and ShaPlays, plainly. -/
import Derived.Test.YtjnkppjlhmkjaaaAvSha6
namespace Go.Proofs.Ytjnkppjlhmkjaaa.Av
open Go
theorem wu8_nat {n : Nat} (h : n < 256) : wu8 (n : Int) = n := by rw [wu8, wu8_id (by omega) (by omega)]
theorem or8_nat {a b : Nat} (ha : a < 256) (hb : b < 256) : orI .u8 (a : Int) (b : Int) = ((a ||| b : Nat) : Int) := by
  unfold orI
  have h : a ||| b < 2 ^ 8 := Nat.or_lt_two_pow (by omega) (by omega)
  rw [show IntKind.u8.bits = 8 from rfl, ofInt_nat, ofInt_nat, BitVec.toNat_or, BitVec.toNat_ofNat, BitVec.toNat_ofNat, Nat.mod_eq_of_lt (by omega), Nat.mod_eq_of_lt (by omega)]
  exact wu8_nat h
theorem xor8_nat {a b : Nat} (ha : a < 256) (hb : b < 256) : xorI .u8 (a : Int) (b : Int) = ((a ^^^ b : Nat) : Int) := by
  unfold xorI
  have h : a ^^^ b < 2 ^ 8 := Nat.xor_lt_two_pow (by omega) (by omega)
  rw [show IntKind.u8.bits = 8 from rfl, ofInt_nat, ofInt_nat, BitVec.toNat_xor, BitVec.toNat_ofNat, BitVec.toNat_ofNat, Nat.mod_eq_of_lt (by omega), Nat.mod_eq_of_lt (by omega)]
  exact wu8_nat h
/-- What tells two lists apart, so far. -/
def diff (a b : List UInt8) : Nat → Nat
  | 0 => 0
  | t + 1 => diff a b t ||| ((a.getD t 0).toNat ^^^ (b.getD t 0).toNat)
theorem diff_lt (a b : List UInt8) : ∀ t, diff a b t < 256
  | 0 => (by decide : 0 < 256)
  | t + 1 => Nat.or_lt_two_pow (n := 8) (diff_lt a b t) (Nat.xor_lt_two_pow (n := 8) (a.getD t 0).toNat_lt (b.getD t 0).toNat_lt)
theorem xor_zero_iff {a b : Nat} : a ^^^ b = 0 ↔ a = b := by
  constructor
  · intro h
    have : a ^^^ b ^^^ b = 0 ^^^ b := by rw [h]
    rwa [Nat.xor_assoc, Nat.xor_self, Nat.xor_zero, Nat.zero_xor] at this
  · rintro rfl; exact Nat.xor_self _
theorem diff_zero (a b : List UInt8) : ∀ t, diff a b t = 0 ↔ ∀ i, i < t → a.getD i 0 = b.getD i 0
  | 0 => by simp [diff]
  | t + 1 => by
    simp only [diff, Nat.or_eq_zero_iff, xor_zero_iff, diff_zero a b t]
    constructor
    · rintro ⟨h1, h2⟩ i hi
      by_cases h : i < t
      · exact h1 i h
      · obtain rfl : i = t := by omega
        exact UInt8.toNat_inj.1 h2
    · intro h
      exact ⟨fun i hi => h i (by omega), congrArg UInt8.toNat (h t (by omega))⟩
theorem diff_eq {a b : List UInt8} (h : a.length = b.length) : (diff a b a.length = 0) = (a = b) := by
  rw [diff_zero]
  apply propext
  constructor
  · intro hh
    refine List.ext_getElem h fun i h1 h2 => ?_
    have := hh i h1
    rw [List.getD_eq_getElem?_getD, List.getD_eq_getElem?_getD, List.getElem?_eq_getElem h1, List.getElem?_eq_getElem h2] at this
    exact this
  · rintro rfl i _; rfl
section
variable {β : Type}
theorem same_l0 (p q : Bool) (a b : List UInt8) (hl : a.length ≤ 10000000) (h : a.length = b.length) (e0 : Int → Option β) : ∀ (d t f : Nat), t + d = a.length → d < f →
    sha_Same_l0 NN f p a q b ((diff a b t : Nat) : Int) (a.length : Int) (t : Int) e0 = e0 ((diff a b a.length : Nat) : Int)
  | 0, t, f, ht, hf => by
    obtain ⟨f, rfl⟩ : ∃ k, f = k + 1 := ⟨f - 1, by omega⟩
    obtain rfl : t = a.length := by omega
    simp only [sha_Same_l0, sha_Same_l0_s]
    rw [cond_dec_f (by omega)]
  | d + 1, t, f, ht, hf => by
    obtain ⟨f, rfl⟩ : ∃ k, f = k + 1 := ⟨f - 1, by omega⟩
    have i4 : wi64 ((t : Int) + 1) = ((t + 1 : Nat) : Int) := by rw [wi64, wi64_id (by omega) (by omega)]; omega
    have ih := same_l0 p q a b hl h e0 d (t + 1) f (by omega) (by omega)
    simp only [sha_Same_l0, sha_Same_l0_s, i4, Int.toNat_natCast]
    rw [cond_dec_t (by omega), cond_dec_t (by omega), bind_get (by omega) 0, cond_dec_t (by omega), bind_get (by omega) 0,
      xor8_nat (a.getD t 0).toNat_lt (b.getD t 0).toNat_lt, or8_nat (diff_lt a b t) (Nat.xor_lt_two_pow (n := 8) (a.getD t 0).toNat_lt (b.getD t 0).toNat_lt)]
    exact ih
theorem same_eq (p q : Bool) (a b : List UInt8) (hl : a.length ≤ 2000000) (k : Bool → Option β) : sha_Same NN p a q b k = k (a == b) := by
  unfold sha_Same
  by_cases h : a.length = b.length
  · have h1 : ((a.length : Int) != (b.length : Int)) = false := by rw [h]; simp
    have r := same_l0 p q a b (by omega) h (fun q3 => k (q3 == 0)) a.length 0 NN (by omega) (by
      have : (2000000 : Nat) < NN := by decide
      omega)
    rw [h1, cond_false]
    refine r.trans ?_
    have e := diff_eq h
    have : ((((diff a b a.length : Nat) : Int)) == 0) = (a == b) := by
      rw [Bool.eq_iff_iff, beq_iff_eq, beq_iff_eq, ← e]; omega
    simp only [this]
  · have h1 : ((a.length : Int) != (b.length : Int)) = true := by simp only [bne_iff_ne, ne_eq]; omega
    rw [h1, cond_true]
    have : (a == b) = false := by
      rw [Bool.eq_false_iff]; intro hh
      exact h (congrArg List.length (eq_of_beq hh))
    rw [this]
theorem new_eq (k : List Int → List UInt8 → Int → Bool → Option β) : sha_New NN k = k [0, 0, 0, 0, 0, 0, 0, 0] [] 0 false := rfl
theorem cut_app (a : List UInt8) (m : Nat) : ([] ++ a.take m) ++ (a.drop m).take (a.length - m) = a := by
  rw [List.nil_append, List.take_of_length_le (l := a.drop m) (by rw [List.length_drop]; omega), List.take_append_drop]
theorem same_true (a b : List UInt8) (c : Int) (h0 : 0 ≤ c) (h1 : c ≤ 65535) (hl : a.length + b.length ≤ 2000000) (k : Bool → Option β) : law01_ShaSame NN a b c k = k true := by
  unfold law01_ShaSame
  rw [first_eq, Bool.not_true, cond_false]
  refine cond_both (fun _ => rfl) fun _ => ?_
  have hmost : (100000000 : Nat) ≤ most := by decide
  obtain ⟨n, rfl⟩ : ∃ n : Nat, c = n := ⟨c.toNat, by omega⟩
  have e1 : wi64 ((a.length : Int) + 1) = ((a.length + 1 : Nat) : Int) := by rw [wi64, wi64_id (by omega) (by omega)]; omega
  have e2 : wi64 (n : Int) = (n : Int) := by rw [wi64, wi64_id (by omega) (by omega)]
  have e3 : (n : Int).tmod ((a.length + 1 : Nat) : Int) = ((n % (a.length + 1) : Nat) : Int) := by rw [Int.tmod_eq_emod_of_nonneg (by omega)]; omega
  have hm : n % (a.length + 1) ≤ a.length := by have := Nat.mod_lt n (show 0 < a.length + 1 by omega); omega
  have hne : (((a.length + 1 : Nat) : Int) != 0) = true := by simp only [bne_iff_ne, ne_eq]; omega
  simp only [e1, e2, e3, hne, cond_true, new_eq, Int.toNat_natCast, List.drop_zero, Nat.sub_zero]
  generalize n % (a.length + 1) = m at *
  have ht1 : (a.take m).length ≤ 2000000 := by rw [List.length_take]; omega
  have ht2 : ((a.drop m).take (a.length - m)).length ≤ 2000000 := by rw [List.length_take, List.length_drop]; omega
  rw [cond_dec_t (by omega), cond_ble_t hm, write_eq new_inv false (a.take m) (by simp only [List.length_nil]; omega), sum_eq (inv_on ([] ++ a.take m)) (by rw [List.nil_append]; omega), cond_dec_t (by omega), cond_ble_t hm,
    write_eq (inv_on ([] ++ a.take m)) false _ (by rw [List.nil_append]; omega), same_eq false false a b (by omega), beq_self_eq_true, cond_true, cond_ble_t (by rw [List.nil_append]; omega), same_eq false true a _ (by omega), List.nil_append a, beq_self_eq_true, cond_true,
    cut_app, sum_eq (inv_on a) (by omega), shaSum_eq true [a] (by simp) (by simp [total]; omega)]
  rw [show ([a] : List (List UInt8)).flatten = a by simp, beq_self_eq_true, cond_true, cond_dec_t (by omega), cond_ble_t hm, cond_dec_t (by omega), cond_ble_t hm, shaSum_eq true [a.take m, (a.drop m).take (a.length - m)] (by simp) (by simp [total]; omega), shaSum_eq true [a] (by simp) (by simp [total]; omega)]
  rw [show ([a] : List (List UInt8)).flatten = a by simp, show ([a.take m, (a.drop m).take (a.length - m)] : List (List UInt8)).flatten = a by have := cut_app a m; simpa using this, beq_self_eq_true]
/-! ### Plays -/
theorem inv_len {st : List Int} {rest : List UInt8} {n : Int} {on : Bool} {msg : List UInt8} (hI : HInv st rest n on msg) : n = (msg.length : Int) := by
  rcases hI with ⟨_, _, _, h⟩ | ⟨_, rfl, _, h⟩ <;> simpa using h
theorem inv_rest {st : List Int} {rest : List UInt8} {n : Int} {on : Bool} {msg : List UInt8} (hI : HInv st rest n on msg) : rest.length < 64 := by
  rcases hI with ⟨_, _, rfl, _⟩ | ⟨_, _, rfl, _⟩
  · exact (absorb_ok msg).2.1
  · decide
theorem clone_eq {st : List Int} {rest : List UInt8} {n : Int} {on : Bool} {msg : List UInt8} (hI : HInv st rest n on msg) (k : List Int → List UInt8 → Int → Bool → List Int → List UInt8 → Int → Bool → Option β) :
    sha_Hash_Clone NN st rest n on k = k st rest n on st rest n on := by
  have hmost : (100000000 : Nat) ≤ most := by decide
  have := inv_rest hI
  unfold sha_Hash_Clone
  rw [cond_ble_t (by rw [List.nil_append]; omega), List.nil_append]
theorem empty_eq (k : List UInt8 → Option β) : sha_Hash_Sum_1 NN k = k [227, 176, 196, 66, 152, 252, 28, 20, 154, 251, 244, 200, 153, 111, 185, 36, 39, 174, 65, 228, 100, 155, 147, 76, 164, 149, 153, 27, 120, 82, 184, 85] := by kernel_rfl
theorem empty_sum (k : List UInt8 → Option β) : sha_Sum NN false [] k = k [227, 176, 196, 66, 152, 252, 28, 20, 154, 251, 244, 200, 153, 111, 185, 36, 39, 174, 65, 228, 100, 155, 147, 76, 164, 149, 153, 27, 120, 82, 184, 85] := by kernel_rfl
theorem plays_l0 (l : List Waterclocklaw01Op) (hl : l.length ≤ 2000000) (e0 : Bool → Option β) (e1 : List Int → List Int → List UInt8 → List Int → List UInt8 → Int → Bool → Option β) (R : Option β) (he0 : e0 true = R)
    (he1 : ∀ msg st rest n on, HInv st rest n on msg → msg.length ≤ 1500 → e1 kk h0 msg st rest n on = R) : ∀ (d t f : Nat) (msg : List UInt8) (st : List Int) (rest : List UInt8) (n : Int) (on : Bool), t + d = l.length → d < f → HInv st rest n on msg → msg.length ≤ 1500 →
    (∀ o ∈ l, o.b.length ≤ 2000000) → law01_ShaPlays_l0 NN f kk h0 msg l (l.length : Int) (t : Int) st rest n on e0 e1 = R
  | 0, t, f, msg, st, rest, n, on, ht, hf, hI, hm, hb => by
    obtain ⟨f, rfl⟩ : ∃ k, f = k + 1 := ⟨f - 1, by omega⟩
    simp only [law01_ShaPlays_l0, law01_ShaPlays_l0_s]
    rw [cond_dec_f (by omega)]
    exact he1 _ _ _ _ _ hI hm
  | d + 1, t, f, msg, st, rest, n, on, ht, hf, hI, hm, hb => by
    obtain ⟨f, rfl⟩ : ∃ k, f = k + 1 := ⟨f - 1, by omega⟩
    have hmost : (100000000 : Nat) ≤ most := by decide
    have i4 : wi64 ((t : Int) + 1) = ((t + 1 : Nat) : Int) := by rw [wi64, wi64_id (by omega) (by omega)]; omega
    have ih := fun msg st rest n on hI hm => plays_l0 l hl e0 e1 R he0 he1 d (t + 1) f msg st rest n on (by omega) (by omega) hI hm hb
    simp only [law01_ShaPlays_l0, law01_ShaPlays_l0_s, i4, Int.toNat_natCast]
    rw [cond_dec_t (by omega), cond_dec_t (by omega), bind_get (by omega) ⟨0, []⟩]
    have ho : (l.getD t ⟨0, []⟩).b.length ≤ 2000000 := by
      refine hb _ ?_
      rw [List.getD_eq_getElem?_getD, List.getElem?_eq_getElem (show t < l.length by omega)]
      exact List.getElem_mem _
    generalize l.getD t ⟨0, []⟩ = o at *
    refine cond_both (fun _ => he0) fun _ => cond_both (fun _ => he0) fun hlen => ?_
    have e5 : wi64 ((msg.length : Int) + (o.b.length : Int)) = ((msg.length + o.b.length : Nat) : Int) := by rw [wi64, wi64_id (by omega) (by omega)]; omega
    rw [e5] at hlen
    have hlen := of_decide_eq_false hlen
    have hn := inv_len hI
    refine cond_both (fun _ => ?_) fun _ => cond_both (fun _ => ?_) fun _ => cond_both (fun _ => ?_) fun _ => ?_
    · rw [write_eq hI false o.b (by omega), bne_self_eq_false, cond_false]
      simp only [sha_Hash_Write_1, sha_Hash_Len]
      rw [show ((0 : Int) != 0) = false by decide, cond_false, cond_ble_t (by omega), bne_self_eq_false, cond_false]
      exact ih _ _ _ _ _ (inv_on (msg ++ o.b)) (by rw [List.length_append]; omega)
    · rw [clone_eq hI]
      simp only [sha_Hash_Len]
      rw [hn, bne_self_eq_false, cond_false]
      exact ih _ _ _ _ _ (hn ▸ hI) hm
    · rw [clone_eq hI, write_eq hI false o.b (by omega)]
      simp only [sha_Hash_Len]
      rw [hn, bne_self_eq_false, cond_false]
      exact ih _ _ _ _ _ (hn ▸ hI) hm
    · rw [sum_eq hI (by omega), mixed_eq msg (by omega), beq_self_eq_true, Bool.not_true, cond_false]
      simp only [sha_Hash_Len]
      rw [hn, bne_self_eq_false, cond_false]
      exact ih _ _ _ _ _ (hn ▸ hI) hm
theorem plays_true (l : List Waterclocklaw01Op) (hl : l.length ≤ 2000000) (hb : ∀ o ∈ l, o.b.length ≤ 2000000) (k : Bool → Option β) : law01_ShaPlays NN l k = k true := by
  unfold law01_ShaPlays
  rw [first_eq, Bool.not_true, cond_false, table_eq]
  refine plays_l0 l hl _ _ _ rfl (fun msg st rest n on hI hm => ?_) l.length 0 NN [] _ _ _ _ (by omega) (by
    have : (2000000 : Nat) < NN := by decide
    omega) new_inv (by decide) hb
  rw [sum_eq hI (by omega), mixed_eq msg (by omega), beq_self_eq_true, cond_true, empty_eq, empty_sum, beq_self_eq_true, cond_true]
  simp only [sha_Hash_Len_1, sha_Hash_Clone_1]
  rfl
end
end Go.Proofs.Ytjnkppjlhmkjaaa.Av
