/- SHA-256, plainly: blocks mixed, bytes written, sums. -/
import Derived.Test.YtjnkppjlhmkjaaaAvSha1
namespace Go.Proofs.Ytjnkppjlhmkjaaa.Av
open Go
def kk : List Int := [1116352408, 1899447441, 3049323471, 3921009573, 961987163, 1508970993, 2453635748, 2870763221, 3624381080, 310598401, 607225278, 1426881987, 1925078388, 2162078206, 2614888103, 3248222580, 3835390401, 4022224774, 264347078, 604807628, 770255983, 1249150122, 1555081692, 1996064986, 2554220882, 2821834349, 2952996808, 3210313671, 3336571891, 3584528711, 113926993, 338241895, 666307205, 773529912, 1294757372, 1396182291, 1695183700, 1986661051, 2177026350, 2456956037, 2730485921, 2820302411, 3259730800, 3345764771, 3516065817, 3600352804, 4094571909, 275423344, 430227734, 506948616, 659060556, 883997877, 958139571, 1322822218, 1537002063, 1747873779, 1955562222, 2024104815, 2227730452, 2361852424, 2428436474, 2756734187, 3204031479, 3329325298]
def h0 : List Int := [1779033703, 3144134277, 1013904242, 2773480762, 1359893119, 2600822924, 528734635, 1541459225]
def t1 (v : List Int) (k w : Int) : Int :=
  wu32 (wu32 (wu32 (wu32 (v.getD 7 0 + xorI .u32 (xorI .u32 (rot (v.getD 4 0) 6) (rot (v.getD 4 0) 11)) (rot (v.getD 4 0) 25)) + xorI .u32 (andI .u32 (v.getD 4 0) (v.getD 5 0)) (andI .u32 (notI .u32 (v.getD 4 0)) (v.getD 6 0))) + k) + w)
def t2 (v : List Int) : Int :=
  wu32 (xorI .u32 (xorI .u32 (rot (v.getD 0 0) 2) (rot (v.getD 0 0) 13)) (rot (v.getD 0 0) 22) + xorI .u32 (xorI .u32 (andI .u32 (v.getD 0 0) (v.getD 1 0)) (andI .u32 (v.getD 0 0) (v.getD 2 0))) (andI .u32 (v.getD 1 0) (v.getD 2 0)))
def rnd (v : List Int) (k w : Int) : List Int := [wu32 (t1 v k w + t2 v), v.getD 0 0, v.getD 1 0, v.getD 2 0, wu32 (v.getD 3 0 + t1 v k w), v.getD 4 0, v.getD 5 0, v.getD 6 0]
def rnds (K W s : List Int) : Nat → List Int
  | 0 => s
  | t + 1 => rnd (rnds K W s t) (K.getD t 0) (W.getD t 0)
def add8 (v s : List Int) : List Int := [wu32 (v.getD 0 0 + s.getD 0 0), wu32 (v.getD 1 0 + s.getD 1 0), wu32 (v.getD 2 0 + s.getD 2 0), wu32 (v.getD 3 0 + s.getD 3 0), wu32 (v.getD 4 0 + s.getD 4 0), wu32 (v.getD 5 0 + s.getD 5 0), wu32 (v.getD 6 0 + s.getD 6 0), wu32 (v.getD 7 0 + s.getD 7 0)]
/-- A block into a state. -/
def mixS (s : List Int) (b : List UInt8) : List Int := add8 (rnds kk (sched b 48) s 64) s
theorem len8 {α : Type} {l : List α} (h : l.length = 8) : ∃ a b c d e f g i, l = [a, b, c, d, e, f, g, i] := by
  match l, h with
  | [a, b, c, d, e, f, g, i], _ => exact ⟨a, b, c, d, e, f, g, i, rfl⟩
theorem rnds_len {K W s : List Int} (h : s.length = 8) : ∀ t, (rnds K W s t).length = 8
  | 0 => h
  | _ + 1 => rfl
theorem mixS_len (s : List Int) (b : List UInt8) : (mixS s b).length = 8 := rfl
section
variable {β : Type}
theorem mix_l0 (s z W : List Int) (hW : W.length = 64) (e0 : List Int → List Int → List Int → Option β) (s0 : List Int) (hs : s0.length = 8) : ∀ (d t m : Nat), t + d = 64 → d < m →
    sha_mix_l0 NN m (t : Int) s z W kk (rnds kk W s0 t) e0 = e0 s z (rnds kk W s0 64)
  | 0, t, m, h, hm => by
    obtain ⟨m, rfl⟩ : ∃ k, m = k + 1 := ⟨m - 1, by omega⟩
    obtain rfl : t = 64 := by omega
    simp only [sha_mix_l0, sha_mix_l0_s]
    rw [cond_dec_f (by omega)]
  | d + 1, t, m, h, hm => by
    obtain ⟨m, rfl⟩ : ∃ k, m = k + 1 := ⟨m - 1, by omega⟩
    have ih := mix_l0 s z W hW e0 s0 hs d (t + 1) m (by omega) (by omega)
    have i4 : wi64 ((t : Int) + 1) = ((t + 1 : Nat) : Int) := by rw [wi64, wi64_id (by omega) (by omega)]; omega
    have hk : kk.length = 64 := rfl
    simp only [rnds] at ih
    obtain ⟨v0, v1, v2, v3, v4, v5, v6, v7, hv⟩ := len8 (rnds_len (K := kk) (W := W) hs t)
    rw [hv] at ih ⊢
    simp only [sha_mix_l0, sha_mix_l0_s, i4, Int.toNat_natCast, down6, down11, down25, down2, down13, down22, List.getElem?_cons_zero, List.getElem?_cons_succ, Option.bind_some]
    rw [cond_dec_t (by omega), cond_dec_t (by omega), cond_blt_t (by omega), bind_get (by omega) 0, cond_dec_t (by omega), cond_blt_t (by omega), bind_get (by omega) 0]
    exact ih
theorem mix_l2 (s0 s1 s2 s3 s4 s5 s6 s7 v0 v1 v2 v3 v4 v5 v6 v7 : Int) (z : List Int) (e0 : List Int → List Int → Option β) : sha_mix_l2 NN NN 0 [s0, s1, s2, s3, s4, s5, s6, s7] z [v0, v1, v2, v3, v4, v5, v6, v7] e0 =
    e0 z [wu32 (v0 + s0), wu32 (v1 + s1), wu32 (v2 + s2), wu32 (v3 + s3), wu32 (v4 + s4), wu32 (v5 + s5), wu32 (v6 + s6), wu32 (v7 + s7)] := by kernel_rfl
theorem constants_eq (k : List Int → Option β) : sha_constants NN k = k kk := by kernel_rfl
theorem mix_eq {s : List Int} (hs : s.length = 8) (p : Bool) {b : List UInt8} (hb : b.length = 64) (k : List Int → Option β) : sha_mix NN s p b k = k (mixS s b) := by
  unfold sha_mix
  rw [schedule_eq p b hb, constants_eq]
  have h := mix_l0 s ([0, 0, 0, 0, 0, 0, 0, 0] : List Int) (sched b 48) (sched_len b 48) (fun q25 q26 q27 => sha_mix_l2 NN NN 0 q25 q26 q27 fun q31 q32 => k q32) s hs 64 0 NN (by omega) (by decide)
  refine h.trans ?_
  obtain ⟨v0, v1, v2, v3, v4, v5, v6, v7, hv⟩ := len8 (rnds_len (K := kk) (W := sched b 48) hs 64)
  obtain ⟨s0, s1, s2, s3, s4, s5, s6, s7, rfl⟩ := len8 hs
  simp only [mixS, hv]
  exact mix_l2 s0 s1 s2 s3 s4 s5 s6 s7 v0 v1 v2 v3 v4 v5 v6 v7 _ _
end
/-! ### Blocks one by one -/
def absorbF : Nat → List Int → List UInt8 → List Int × List UInt8
  | 0, s, m => (s, m)
  | f + 1, s, m => if 64 ≤ m.length then absorbF f (mixS s (m.take 64)) (m.drop 64) else (s, m)
theorem absorbF_enough : ∀ (f g : Nat) (s : List Int) (m : List UInt8), m.length < 64 * (f + 1) → m.length < 64 * (g + 1) → absorbF f s m = absorbF g s m
  | 0, 0, s, m, _, _ => rfl
  | 0, g + 1, s, m, h, _ => by simp only [absorbF]; rw [if_neg (by omega)]
  | f + 1, 0, s, m, _, h => by simp only [absorbF]; rw [if_neg (by omega)]
  | f + 1, g + 1, s, m, h1, h2 => by
    simp only [absorbF]
    split
    · exact absorbF_enough f g _ _ (by rw [List.length_drop]; omega) (by rw [List.length_drop]; omega)
    · rfl
def absorb (s : List Int) (m : List UInt8) : List Int × List UInt8 := absorbF m.length s m
theorem absorb_eq (s : List Int) (m : List UInt8) : absorb s m = if 64 ≤ m.length then absorb (mixS s (m.take 64)) (m.drop 64) else (s, m) := by
  unfold absorb
  split
  · rename_i h
    obtain ⟨k, hk⟩ : ∃ k, m.length = k + 1 := ⟨m.length - 1, by omega⟩
    rw [hk]
    simp only [absorbF]
    rw [if_pos h]
    exact absorbF_enough _ _ _ _ (by rw [List.length_drop]; omega) (by rw [List.length_drop]; omega)
  · rename_i h
    exact (absorbF_enough m.length 0 s m (by omega) (by omega)).trans rfl
theorem absorb_inv (P : List Int → Prop) (hP : ∀ s b, P (mixS s b)) : ∀ (n : Nat) (s : List Int) (m : List UInt8), m.length ≤ n → P s → P (absorb s m).1 ∧ (absorb s m).2.length < 64 ∧ (absorb s m).2.length ≤ m.length
  | 0, s, m, h, hs => by rw [absorb_eq, if_neg (by omega)]; exact ⟨hs, by simp; omega, Nat.le_refl _⟩
  | n + 1, s, m, h, hs => by
    rw [absorb_eq]
    split
    · have := absorb_inv P hP n (mixS s (m.take 64)) (m.drop 64) (by rw [List.length_drop]; omega) (hP _ _)
      rw [List.length_drop] at this
      exact ⟨this.1, this.2.1, by omega⟩
    · exact ⟨hs, by simp; omega, Nat.le_refl _⟩
theorem absorb_app : ∀ (n : Nat) (s : List Int) (m1 m2 : List UInt8), m1.length ≤ n → absorb s (m1 ++ m2) = absorb (absorb s m1).1 ((absorb s m1).2 ++ m2)
  | 0, s, m1, m2, h => by
    have : m1 = [] := List.length_eq_zero_iff.1 (by omega)
    subst this
    rw [absorb_eq s [], if_neg (by simp)]
  | n + 1, s, m1, m2, h => by
    by_cases h64 : 64 ≤ m1.length
    · have ih := absorb_app n (mixS s (m1.take 64)) (m1.drop 64) m2 (by rw [List.length_drop]; omega)
      rw [absorb_eq s m1, if_pos h64, ← ih, absorb_eq s (m1 ++ m2), if_pos (by rw [List.length_append]; omega), List.take_append_of_le_length h64, List.drop_append_of_le_length h64]
    · rw [absorb_eq s m1, if_neg h64]
section
variable {β : Type}
theorem write_l0 (p0 : Bool) (p1 p6 : List UInt8) (p7 : Int) (p8 : Bool) (data : List UInt8) (e0 : Bool → List UInt8 → Nat → Nat → Nat → List Int → List UInt8 → Int → Bool → List UInt8 → Option β) : ∀ (d : Nat) (off len m : Nat) (s : List Int), s.length = 8 → len < 64 * (d + 1) → off + len = data.length → d < m →
    ∃ off' len', off' + len' = data.length ∧ data.drop off' = (absorb s (data.drop off)).2 ∧ sha_Hash_Write_l0 NN m p0 p1 off len len s p6 p7 p8 data e0 = e0 p0 p1 off' len' len' (absorb s (data.drop off)).1 p6 p7 p8 data
  | d, off, len, m, s, hs, hd, hl, hm => by
    obtain ⟨m, rfl⟩ : ∃ k, m = k + 1 := ⟨m - 1, by omega⟩
    simp only [sha_Hash_Write_l0, sha_Hash_Write_l0_s]
    by_cases h64 : 64 ≤ len
    · obtain ⟨d, rfl⟩ : ∃ k, d = k + 1 := ⟨d - 1, by omega⟩
      rw [cond_dec_t (by omega), cond_ble_t h64, cond_ble_t (by omega), mix_eq hs true (by rw [List.length_take, List.length_drop]; omega), cond_ble_t h64]
      obtain ⟨off', len', g1, g2, g3⟩ := write_l0 p0 p1 p6 p7 p8 data e0 d (off + 64) (len - 64) m (mixS s ((data.drop (off + 0)).take 64)) (mixS_len _ _) (by omega) (by omega) (by omega)
      have e : absorb s (data.drop off) = absorb (mixS s ((data.drop (off + 0)).take 64)) (data.drop (off + 64)) := by
        rw [absorb_eq s, if_pos (by rw [List.length_drop]; omega), List.drop_drop]; rfl
      rw [e]
      exact ⟨off', len', g1, g2, g3⟩
    · rw [cond_dec_f (by omega)]
      have e : absorb s (data.drop off) = (s, data.drop off) := by rw [absorb_eq, if_neg (by rw [List.length_drop]; omega)]
      rw [e]
      exact ⟨off, len, hl, rfl, rfl⟩
/-- What a hash is that was written so much. -/
def HInv (st : List Int) (rest : List UInt8) (n : Int) (on : Bool) (msg : List UInt8) : Prop :=
  (on = true ∧ st = (absorb h0 msg).1 ∧ rest = (absorb h0 msg).2 ∧ n = (msg.length : Int)) ∨ (on = false ∧ msg = [] ∧ rest = [] ∧ n = 0)
theorem absorb_ok (m : List UInt8) : (absorb h0 m).1.length = 8 ∧ (absorb h0 m).2.length < 64 ∧ (absorb h0 m).2.length ≤ m.length := absorb_inv (fun s => s.length = 8) mixS_len m.length h0 m (Nat.le_refl _) rfl
theorem write_eq {st : List Int} {rest : List UInt8} {n : Int} {on : Bool} {msg : List UInt8} (hI : HInv st rest n on msg) (p : Bool) (b : List UInt8) (hb : msg.length + b.length ≤ 100000000) (k : Int → List Int → List UInt8 → Int → Bool → Option β) :
    sha_Hash_Write NN p b st rest n on k = k (b.length : Int) (absorb h0 (msg ++ b)).1 (absorb h0 (msg ++ b)).2 ((msg ++ b).length : Int) true := by
  have main : ∀ (s : List Int) (r : List UInt8), s.length = 8 → absorb s (r ++ b) = absorb h0 (msg ++ b) → r.length ≤ msg.length → n = (msg.length : Int) →
      (cond (Nat.ble ((([] : List UInt8) ++ r).length * 1) most) (cond (Nat.ble (((([] : List UInt8) ++ r) ++ b).length * 1) most) (
        sha_Hash_Write_l0 NN NN p b 0 (((([] : List UInt8) ++ r) ++ b).length) (((([] : List UInt8) ++ r) ++ b).length) s r (wi64 (n + (b.length : Int))) true ((([] : List UInt8) ++ r) ++ b)
        (fun q7 q8 q9 q10 q11 q12 q13 q14 q15 q16 => cond (Nat.ble (q9 + q10) q16.length) (k (q8.length : Int) q12 ((q16.drop q9).take q10) q14 q15) none)) none) none) =
      k (b.length : Int) (absorb h0 (msg ++ b)).1 (absorb h0 (msg ++ b)).2 ((msg ++ b).length : Int) true := by
    intro s r hs he hr hn
    simp only [List.nil_append, Nat.mul_one]
    have hmost : (100000000 : Nat) ≤ most := by decide
    rw [cond_ble_t (by omega), cond_ble_t (by rw [List.length_append]; omega)]
    obtain ⟨off', len', g1, g2, g3⟩ := write_l0 p b r (wi64 (n + (b.length : Int))) true (r ++ b) (fun q7 q8 q9 q10 q11 q12 q13 q14 q15 q16 => cond (Nat.ble (q9 + q10) q16.length) (k (q8.length : Int) q12 ((q16.drop q9).take q10) q14 q15) none) 2000000 0 (r ++ b).length NN s hs (by rw [List.length_append]; omega) (by omega) (by decide)
    rw [g3, List.drop_zero, he, cond_ble_t (by omega), g2, List.drop_zero, he]
    have ht : ((absorb h0 (msg ++ b)).2).take len' = (absorb h0 (msg ++ b)).2 := by
      refine List.take_of_length_le ?_
      have := congrArg List.length g2
      rw [List.drop_zero, he, List.length_drop] at this
      omega
    rw [ht, wi64, wi64_id (by omega) (by omega), hn, List.length_append]
    norm_cast
  unfold sha_Hash_Write sha_Hash_lay
  rcases hI with ⟨rfl, rfl, rfl, rfl⟩ | ⟨rfl, rfl, rfl, rfl⟩
  · have ha := absorb_ok msg
    exact main _ _ ha.1 (absorb_app msg.length h0 msg b (Nat.le_refl _)).symm ha.2.2 rfl
  · exact main h0 [] rfl rfl (Nat.le_refl _) rfl
end
end Go.Proofs.Ytjnkppjlhmkjaaa.Av
