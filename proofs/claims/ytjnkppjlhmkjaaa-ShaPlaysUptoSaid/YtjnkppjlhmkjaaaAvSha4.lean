/- SHA-256, plainly: the document's answer. -/
import Derived.Test.YtjnkppjlhmkjaaaAvSha3
namespace Go.Proofs.Ytjnkppjlhmkjaaa.Av
open Go
section
variable {β : Type}
theorem rotr7 (x : Int) (k : Int → Option β) : ref01_rotr NN x 7 k = k (rot x 7) := by kernel_rfl
theorem rotr18 (x : Int) (k : Int → Option β) : ref01_rotr NN x 18 k = k (rot x 18) := by kernel_rfl
theorem rotr17 (x : Int) (k : Int → Option β) : ref01_rotr NN x 17 k = k (rot x 17) := by kernel_rfl
theorem rotr19 (x : Int) (k : Int → Option β) : ref01_rotr NN x 19 k = k (rot x 19) := by kernel_rfl
theorem rotr6 (x : Int) (k : Int → Option β) : ref01_rotr NN x 6 k = k (rot x 6) := by kernel_rfl
theorem rotr11 (x : Int) (k : Int → Option β) : ref01_rotr NN x 11 k = k (rot x 11) := by kernel_rfl
theorem rotr25 (x : Int) (k : Int → Option β) : ref01_rotr NN x 25 k = k (rot x 25) := by kernel_rfl
theorem rotr2 (x : Int) (k : Int → Option β) : ref01_rotr NN x 2 k = k (rot x 2) := by kernel_rfl
theorem rotr13 (x : Int) (k : Int → Option β) : ref01_rotr NN x 13 k = k (rot x 13) := by kernel_rfl
theorem rotr22 (x : Int) (k : Int → Option β) : ref01_rotr NN x 22 k = k (rot x 22) := by kernel_rfl
/-- A word of the message, byte by byte. -/
theorem rword_step (p0 : Bool) (p1 : List Int) (m : List UInt8) (at_ t : Nat) (hm : m.length ≤ 10000000) (j f : Nat) (hj : j < 4) (hi : at_ + 4 * t + j < m.length) (v : Nat) (hv : v < 16777216) (p7 : List UInt8) (p8 p9 : List Int)
    (e0 : Bool → List Int → List UInt8 → Int → Int → Int → List UInt8 → List Int → List Int → Option β) :
    ref01_Mixed_l8 NN (f + 1) p0 p1 m (at_ : Int) (t : Int) (v : Int) (j : Int) p7 p8 p9 e0 = ref01_Mixed_l8 NN f p0 p1 m (at_ : Int) (t : Int) ((v * 256 + (m.getD (at_ + 4 * t + j) 0).toNat : Nat) : Int) ((j + 1 : Nat) : Int) p7 p8 p9 e0 := by
  have i0 : wi64 (4 * (t : Int)) = ((4 * t : Nat) : Int) := by rw [wi64, wi64_id (by omega) (by omega)]; omega
  have i1 : wi64 ((at_ : Int) + ((4 * t : Nat) : Int)) = ((at_ + 4 * t : Nat) : Int) := by rw [wi64, wi64_id (by omega) (by omega)]; omega
  have i2 : wi64 (((at_ + 4 * t : Nat) : Int) + (j : Int)) = ((at_ + 4 * t + j : Nat) : Int) := by rw [wi64, wi64_id (by omega) (by omega)]; omega
  have i4 : wi64 ((j : Int) + 1) = ((j + 1 : Nat) : Int) := by rw [wi64, wi64_id (by omega) (by omega)]; omega
  have hb := (m.getD (at_ + 4 * t + j) 0).toNat_lt
  have h1 : wu32 ((v : Int) * 256) = ((v * 256 : Nat) : Int) := by rw [wu32, wu32_id (by omega) (by omega)]; omega
  have h2 : wu32 (((m.getD (at_ + 4 * t + j) 0).toNat : Nat) : Int) = (m.getD (at_ + 4 * t + j) 0).toNat := wu32_id (by omega) (by omega)
  have h3 : wu32 (((v * 256 : Nat) : Int) + ((m.getD (at_ + 4 * t + j) 0).toNat : Nat)) = ((v * 256 + (m.getD (at_ + 4 * t + j) 0).toNat : Nat) : Int) := by rw [wu32, wu32_id (by omega) (by omega)]; omega
  simp only [ref01_Mixed_l8, ref01_Mixed_l8_s, i0, i1, i2, i4, Int.toNat_natCast]
  rw [cond_dec_t (by omega), cond_dec_t (by omega), bind_get hi 0, h1, h2, h3]
theorem rword_end (p0 : Bool) (p1 : List Int) (m : List UInt8) (a t v : Int) (f : Nat) (p7 : List UInt8) (p8 p9 : List Int)
    (e0 : Bool → List Int → List UInt8 → Int → Int → Int → List UInt8 → List Int → List Int → Option β) : ref01_Mixed_l8 NN (f + 1) p0 p1 m a t v ((4 : Nat) : Int) p7 p8 p9 e0 = e0 p0 p1 m a t v p7 p8 p9 := by
  simp only [ref01_Mixed_l8, ref01_Mixed_l8_s]
  rw [cond_dec_f (by omega)]
theorem byte1 {b0 : Nat} (h : b0 < 256) : 0 * 256 + b0 < 16777216 := by omega
theorem byte2 {b0 b1 : Nat} (h : b0 < 256) (h1 : b1 < 256) : (0 * 256 + b0) * 256 + b1 < 16777216 := by omega
theorem byte3 {b0 b1 b2 : Nat} (h : b0 < 256) (h1 : b1 < 256) (h2 : b2 < 256) : ((0 * 256 + b0) * 256 + b1) * 256 + b2 < 16777216 := by omega
theorem rword_f (n : Nat) (hn : 5 ≤ n) (p0 : Bool) (p1 : List Int) (m : List UInt8) (at_ t : Nat) (hm : m.length ≤ 10000000) (hi : at_ + 4 * t + 3 < m.length) (p7 : List UInt8) (p8 p9 : List Int)
    (e0 : Bool → List Int → List UInt8 → Int → Int → Int → List UInt8 → List Int → List Int → Option β) :
    ref01_Mixed_l8 NN n p0 p1 m (at_ : Int) (t : Int) ((0 : Nat) : Int) ((0 : Nat) : Int) p7 p8 p9 e0 = e0 p0 p1 m (at_ : Int) (t : Int) (word (m.drop at_) t) p7 p8 p9 := by
  obtain ⟨f, rfl⟩ : ∃ f, n = f + 5 := ⟨n - 5, by omega⟩
  have g : ∀ i, (m.drop at_).getD i 0 = m.getD (at_ + i) 0 := fun i => by simp [List.getD_eq_getElem?_getD]
  have e0' : at_ + 4 * t = at_ + 4 * t + 0 := rfl
  have e : word (m.drop at_) t = (((((0 * 256 + (m.getD (at_ + 4 * t + 0) 0).toNat) * 256 + (m.getD (at_ + 4 * t + 1) 0).toNat) * 256 + (m.getD (at_ + 4 * t + 2) 0).toNat) * 256 + (m.getD (at_ + 4 * t + 3) 0).toNat : Nat) : Int) := by
    unfold word
    rw [g, g, g, g, Nat.add_zero, show at_ + (4 * t + 1) = at_ + 4 * t + 1 by omega, show at_ + (4 * t + 2) = at_ + 4 * t + 2 by omega, show at_ + (4 * t + 3) = at_ + 4 * t + 3 by omega]
    generalize (m.getD (at_ + 4 * t) 0).toNat = b0
    generalize (m.getD (at_ + 4 * t + 1) 0).toNat = b1
    generalize (m.getD (at_ + 4 * t + 2) 0).toNat = b2
    generalize (m.getD (at_ + 4 * t + 3) 0).toNat = b3
    omega
  rw [e]
  have a0 := rword_step p0 p1 m at_ t hm 0 (f + 4) (by omega) (by omega) 0 (by omega) p7 p8 p9 e0
  have a1 := fun v hv => rword_step p0 p1 m at_ t hm 1 (f + 3) (by omega) (by omega) v hv p7 p8 p9 e0
  have a2 := fun v hv => rword_step p0 p1 m at_ t hm 2 (f + 2) (by omega) (by omega) v hv p7 p8 p9 e0
  have a3 := fun v hv => rword_step p0 p1 m at_ t hm 3 (f + 1) (by omega) (by omega) v hv p7 p8 p9 e0
  have a4 := fun v => rword_end p0 p1 m at_ t v f p7 p8 p9 e0
  have hb0 := (m.getD (at_ + 4 * t + 0) 0).toNat_lt; have hb1 := (m.getD (at_ + 4 * t + 1) 0).toNat_lt; have hb2 := (m.getD (at_ + 4 * t + 2) 0).toNat_lt
  generalize (m.getD (at_ + 4 * t + 0) 0).toNat = b0 at *
  generalize (m.getD (at_ + 4 * t + 1) 0).toNat = b1 at *
  generalize (m.getD (at_ + 4 * t + 2) 0).toNat = b2 at *
  generalize (m.getD (at_ + 4 * t + 3) 0).toNat = b3 at *
  have q1 : 0 * 256 + b0 < 16777216 := byte1 hb0
  have q2 : (0 * 256 + b0) * 256 + b1 < 16777216 := byte2 hb0 hb1
  have q3 : ((0 * 256 + b0) * 256 + b1) * 256 + b2 < 16777216 := byte3 hb0 hb1 hb2
  exact a0.trans ((a1 _ q1).trans ((a2 _ q2).trans ((a3 _ q3).trans (a4 _))))
theorem rword (p0 : Bool) (p1 : List Int) (m : List UInt8) (at_ t : Nat) (hm : m.length ≤ 10000000) (hi : at_ + 4 * t + 3 < m.length) (p7 : List UInt8) (p8 p9 : List Int)
    (e0 : Bool → List Int → List UInt8 → Int → Int → Int → List UInt8 → List Int → List Int → Option β) :
    ref01_Mixed_l8 NN NN p0 p1 m (at_ : Int) (t : Int) 0 0 p7 p8 p9 e0 = e0 p0 p1 m (at_ : Int) (t : Int) (word (m.drop at_) t) p7 p8 p9 :=
  rword_f NN (by decide) p0 p1 m at_ t hm hi p7 p8 p9 e0
/-- The words of a block, as the list grows. -/
def wl (b : List UInt8) (t : Nat) : List Int := if t ≤ 16 then words b t else sched b (t - 16)
theorem wl_len (b : List UInt8) (t : Nat) : (wl b t).length = t := by
  unfold wl; split
  · exact words_len b t
  · rw [sched_len]; omega
theorem wl_ext (b : List UInt8) (t : Nat) (h : 16 ≤ t) : wl b (t + 1) = wl b t ++ [wExt (wl b t)] := by
  have h1 : wl b t = sched b (t - 16) := by
    unfold wl; split
    · obtain rfl : t = 16 := by omega
      rfl
    · rfl
  rw [h1]
  unfold wl; rw [if_neg (by omega), show t + 1 - 16 = (t - 16) + 1 by omega]; rfl
theorem wl_word (b : List UInt8) (t : Nat) (h : t < 16) : wl b (t + 1) = wl b t ++ [word b t] := by
  unfold wl; rw [if_pos (by omega), if_pos (by omega)]; exact words_succ b t
theorem rsched (p0 : Bool) (p1 : List Int) (m : List UInt8) (at_ : Nat) (hm : m.length ≤ 10000000) (hi : at_ + 64 ≤ m.length) (p6 : List UInt8) (p7 : List Int)
    (e0 : Bool → List Int → List UInt8 → Int → List UInt8 → List Int → List Int → Option β) : ∀ (d t f : Nat), t + d = 64 → d < f →
    ref01_Mixed_l6 NN f p0 p1 m (at_ : Int) (t : Int) (wl (m.drop at_) t) p6 p7 e0 = e0 p0 p1 m (at_ : Int) p6 p7 (sched (m.drop at_) 48)
  | 0, t, f, h, hf => by
    obtain ⟨f, rfl⟩ : ∃ k, f = k + 1 := ⟨f - 1, by omega⟩
    obtain rfl : t = 64 := by omega
    simp only [ref01_Mixed_l6, ref01_Mixed_l6_s]
    rw [cond_dec_f (by omega)]
    rfl
  | d + 1, t, f, h, hf => by
    obtain ⟨f, rfl⟩ : ∃ k, f = k + 1 := ⟨f - 1, by omega⟩
    have ih := rsched p0 p1 m at_ hm hi p6 p7 e0 d (t + 1) f (by omega) (by omega)
    have i4 : wi64 ((t : Int) + 1) = ((t + 1 : Nat) : Int) := by rw [wi64, wi64_id (by omega) (by omega)]; omega
    have hl := wl_len (m.drop at_) t
    have hmost : (100000000 : Nat) ≤ most := by decide
    by_cases h16 : t < 16
    · simp only [ref01_Mixed_l6, ref01_Mixed_l6_s]
      rw [cond_dec_t (by omega), cond_dec_t (by omega), rword p0 p1 m at_ t hm (by omega)]
      simp only [i4]
      rw [cond_ble_t (by rw [List.length_append, hl, List.length_singleton]; omega), ← wl_word _ _ h16]
      exact ih
    · have j15 : wi64 ((t : Int) - 15) = ((t - 15 : Nat) : Int) := by rw [wi64, wi64_id (by omega) (by omega)]; omega
      have j2 : wi64 ((t : Int) - 2) = ((t - 2 : Nat) : Int) := by rw [wi64, wi64_id (by omega) (by omega)]; omega
      have j7 : wi64 ((t : Int) - 7) = ((t - 7 : Nat) : Int) := by rw [wi64, wi64_id (by omega) (by omega)]; omega
      have j16 : wi64 ((t : Int) - 16) = ((t - 16 : Nat) : Int) := by rw [wi64, wi64_id (by omega) (by omega)]; omega
      simp only [ref01_Mixed_l6, ref01_Mixed_l6_s, j15, j2, j7, j16, i4, Int.toNat_natCast, rotr7, rotr18, rotr17, rotr19]
      rw [cond_dec_t (by omega), cond_dec_f (by omega), cond_dec_t (by omega), cond_blt_t (by omega), bind_get (by omega) 0, cond_dec_t (by omega), cond_blt_t (by omega), bind_get (by omega) 0,
        cond_dec_t (by omega), cond_blt_t (by omega), bind_get (by omega) 0, cond_dec_t (by omega), cond_blt_t (by omega), bind_get (by omega) 0, cond_ble_t (by rw [List.length_append, hl, List.length_singleton]; omega)]
      have e : wExt (wl (m.drop at_) t) = wu32 (wu32 (wu32 (xorI .u32 (xorI .u32 (rot ((wl (m.drop at_) t).getD (t - 2) 0) 17) (rot ((wl (m.drop at_) t).getD (t - 2) 0) 19)) (shrI .u32 ((wl (m.drop at_) t).getD (t - 2) 0) 10) + (wl (m.drop at_) t).getD (t - 7) 0) +
        xorI .u32 (xorI .u32 (rot ((wl (m.drop at_) t).getD (t - 15) 0) 7) (rot ((wl (m.drop at_) t).getD (t - 15) 0) 18)) (shrI .u32 ((wl (m.drop at_) t).getD (t - 15) 0) 3)) + (wl (m.drop at_) t).getD (t - 16) 0) := by
        unfold wExt; rw [hl]
      rw [← e, ← wl_ext _ _ (by omega)]
      exact ih
end
/-! ### Rounds -/
def InW (x : Int) : Prop := 0 ≤ x ∧ x ≤ 4294967295
theorem inW_wu (x : Int) : InW (wu32 x) := by unfold InW wu32; rw [wu32_mod]; omega
theorem not_eq {x : Int} (h : InW x) : wu32 (4294967295 - x) = notI .u32 x := by
  obtain ⟨h1, h2⟩ := h
  obtain ⟨n, rfl⟩ : ∃ n : Nat, x = n := ⟨x.toNat, by omega⟩
  have hn : n < 2 ^ 32 := by omega
  unfold notI xorI
  have e : (if IntKind.u32.signed = true then (-1 : Int) else IntKind.u32.max) = ((4294967295 : Nat) : Int) := by decide
  rw [e, show IntKind.u32.bits = 32 from rfl, ofInt_nat, ofInt_nat]
  have e2 : (BitVec.ofNat 32 4294967295) = BitVec.allOnes 32 := by decide
  rw [e2, BitVec.allOnes_xor, BitVec.toNat_not, BitVec.toNat_ofNat, Nat.mod_eq_of_lt hn]
  congr 1
  omega
def InV (v : List Int) : Prop := v.length = 8 ∧ ∀ x ∈ v, InW x
theorem inV_h0 : InV h0 := ⟨rfl, by unfold h0 InW; decide⟩
theorem inV_getD {v : List Int} (h : InV v) {i : Nat} (hi : i < 8) : InW (v.getD i 0) := by
  rw [List.getD_eq_getElem?_getD, List.getElem?_eq_getElem (by rw [h.1]; exact hi)]
  exact h.2 _ (List.getElem_mem _)
theorem inV_rnd {v : List Int} (h : InV v) (k w : Int) : InV (rnd v k w) := by
  refine ⟨rfl, fun x hx => ?_⟩
  simp only [rnd, List.mem_cons, List.not_mem_nil, or_false] at hx
  rcases hx with rfl | rfl | rfl | rfl | rfl | rfl | rfl | rfl
  · exact inW_wu _
  · exact inV_getD h (by omega)
  · exact inV_getD h (by omega)
  · exact inV_getD h (by omega)
  · exact inW_wu _
  · exact inV_getD h (by omega)
  · exact inV_getD h (by omega)
  · exact inV_getD h (by omega)
theorem inV_rnds {s : List Int} (h : InV s) (K W : List Int) : ∀ t, InV (rnds K W s t)
  | 0 => h
  | t + 1 => inV_rnd (inV_rnds h K W t) _ _
theorem inV_add8 (v s : List Int) : InV (add8 v s) := by
  refine ⟨rfl, fun x hx => ?_⟩
  simp only [add8, List.mem_cons, List.not_mem_nil, or_false] at hx
  rcases hx with rfl | rfl | rfl | rfl | rfl | rfl | rfl | rfl <;> exact inW_wu _
theorem inV_mixS (s : List Int) (b : List UInt8) : InV (mixS s b) := inV_add8 _ _
section
variable {β : Type}
theorem rrounds (p0 : Bool) (p2 : List UInt8) (p3 : Int) (p6 : List UInt8) (p7 W : List Int) (hW : W.length = 64) (e0 : Bool → List Int → List UInt8 → Int → List UInt8 → List Int → List Int → Option β) (s0 : List Int) (hs : InV s0) : ∀ (d t f : Nat), t + d = 64 → d < f →
    ref01_Mixed_l10 NN f p0 kk p2 p3 (t : Int) (rnds kk W s0 t) p6 p7 W e0 = e0 p0 kk p2 p3 p6 p7 (rnds kk W s0 64)
  | 0, t, f, h, hf => by
    obtain ⟨f, rfl⟩ : ∃ k, f = k + 1 := ⟨f - 1, by omega⟩
    obtain rfl : t = 64 := by omega
    simp only [ref01_Mixed_l10, ref01_Mixed_l10_s]
    rw [cond_dec_f (by omega)]
  | d + 1, t, f, h, hf => by
    obtain ⟨f, rfl⟩ : ∃ k, f = k + 1 := ⟨f - 1, by omega⟩
    have ih := rrounds p0 p2 p3 p6 p7 W hW e0 s0 hs d (t + 1) f (by omega) (by omega)
    have i4 : wi64 ((t : Int) + 1) = ((t + 1 : Nat) : Int) := by rw [wi64, wi64_id (by omega) (by omega)]; omega
    have hk : kk.length = 64 := rfl
    simp only [rnds] at ih
    have hv0 := inV_rnds hs kk W t
    obtain ⟨v0, v1, v2, v3, v4, v5, v6, v7, hv⟩ := len8 hv0.1
    rw [hv] at ih hv0 ⊢
    have h4 : InW v4 := hv0.2 v4 (by simp)
    simp only [ref01_Mixed_l10, ref01_Mixed_l10_s, i4, Int.toNat_natCast, rotr6, rotr11, rotr25, rotr2, rotr13, rotr22, List.getElem?_cons_zero, List.getElem?_cons_succ, Option.bind_some, List.length_cons, List.length_nil, not_eq h4]
    rw [cond_dec_t (by omega)]
    simp only [show ∀ i : Nat, i < 8 → Nat.blt i (0 + 1 + 1 + 1 + 1 + 1 + 1 + 1 + 1) = true from fun i hi => Nat.ble_eq.mpr hi, show (4 : Nat) < 8 by omega, show (0 : Nat) < 8 by omega, show (7 : Nat) < 8 by omega, show (5 : Nat) < 8 by omega, show (6 : Nat) < 8 by omega, show (1 : Nat) < 8 by omega, show (2 : Nat) < 8 by omega, show (3 : Nat) < 8 by omega, cond_true]
    rw [cond_dec_t (by omega), bind_get (by omega) 0, cond_dec_t (by omega), cond_blt_t (by omega), bind_get (by omega) 0]
    exact ih
theorem radd (p0 : Bool) (p1 : List Int) (p2 : List UInt8) (p3 : Int) (p6 : List UInt8) (h0 h1 h2 h3 h4 h5 h6 h7 v0 v1 v2 v3 v4 v5 v6 v7 : Int) (e0 : Bool → List Int → List UInt8 → Int → List UInt8 → List Int → Option β) :
    ref01_Mixed_l12 NN NN p0 p1 p2 p3 8 0 p6 [h0, h1, h2, h3, h4, h5, h6, h7] [v0, v1, v2, v3, v4, v5, v6, v7] e0 =
    e0 p0 p1 p2 p3 p6 [wu32 (h0 + v0), wu32 (h1 + v1), wu32 (h2 + v2), wu32 (h3 + v3), wu32 (h4 + v4), wu32 (h5 + v5), wu32 (h6 + v6), wu32 (h7 + v7)] := by kernel_rfl
theorem sched_take (m : List UInt8) (t : Nat) : sched (m.take 64) t = sched m t := by
  have hw : ∀ i, i < 16 → word (m.take 64) i = word m i := by
    intro i hi
    have g : ∀ j, j < 64 → (m.take 64).getD j 0 = m.getD j 0 := fun j hj => by simp [List.getD_eq_getElem?_getD, List.getElem?_take, hj]
    unfold word; rw [g _ (by omega), g _ (by omega), g _ (by omega), g _ (by omega)]
  induction t with
  | zero =>
    simp only [sched, words]
    exact List.map_congr_left fun i hi => hw i (List.mem_range.1 hi)
  | succ t ih => simp only [sched, ih]
theorem rblocks (p0 : Bool) (m : List UInt8) (hm : m.length ≤ 10000000) (p4 : List UInt8) (e0 : List UInt8 → List Int → Option β) : ∀ (d at_ f : Nat) (s : List Int), InV s → at_ + 64 * d = m.length → d < f →
    ref01_Mixed_l4 NN f p0 kk m (at_ : Int) p4 s e0 = e0 p4 (absorb s (m.drop at_)).1
  | 0, at_, f, s, hs, h, hf => by
    obtain ⟨f, rfl⟩ : ∃ k, f = k + 1 := ⟨f - 1, by omega⟩
    simp only [ref01_Mixed_l4, ref01_Mixed_l4_s]
    rw [cond_dec_f (by omega), absorb_eq, if_neg (by rw [List.length_drop]; omega)]
  | d + 1, at_, f, s, hs, h, hf => by
    obtain ⟨f, rfl⟩ : ∃ k, f = k + 1 := ⟨f - 1, by omega⟩
    have hmost : (100000000 : Nat) ≤ most := by decide
    simp only [ref01_Mixed_l4, ref01_Mixed_l4_s, List.nil_append]
    rw [cond_dec_t (by omega)]
    have r1 := rsched p0 kk m at_ hm (by omega) p4 s (fun q42 q43 q44 q45 q46 q47 q48 =>
      cond (Nat.ble (q47.length * 4) most) (ref01_Mixed_l10 NN NN q42 q43 q44 q45 0 q47 q46 q47 q48 fun q113 q114 q115 q116 q117 q118 q119 =>
        ref01_Mixed_l12 NN NN q113 q114 q115 q116 (q118.length : Int) 0 q117 q118 q119 fun q123 q124 q125 q126 q127 q128 => ref01_Mixed_l4 NN f q123 q124 q125 (wi64 (q126 + 64)) q127 q128 e0) none) 64 0 NN (by omega) (by decide)
    refine r1.trans ?_
    rw [cond_ble_t (by rw [hs.1]; omega)]
    have r2 := rrounds p0 m (at_ : Int) p4 s (sched (m.drop at_) 48) (sched_len _ 48) (fun q113 q114 q115 q116 q117 q118 q119 =>
        ref01_Mixed_l12 NN NN q113 q114 q115 q116 (q118.length : Int) 0 q117 q118 q119 fun q123 q124 q125 q126 q127 q128 => ref01_Mixed_l4 NN f q123 q124 q125 (wi64 (q126 + 64)) q127 q128 e0) s hs 64 0 NN (by omega) (by decide)
    refine r2.trans ?_
    have i4 : wi64 ((at_ : Int) + 64) = ((at_ + 64 : Nat) : Int) := by rw [wi64, wi64_id (by omega) (by omega)]; omega
    have hmix : absorb s (m.drop at_) = absorb (mixS s ((m.drop at_).take 64)) (m.drop (at_ + 64)) := by
      rw [absorb_eq s, if_pos (by rw [List.length_drop]; omega), List.drop_drop]
    have ih := rblocks p0 m hm p4 e0 d (at_ + 64) f (mixS s ((m.drop at_).take 64)) (inV_mixS _ _) (by omega) (by omega)
    rw [hmix]
    refine Eq.trans ?_ ih
    obtain ⟨v0, v1, v2, v3, v4, v5, v6, v7, hv⟩ := len8 (rnds_len (K := kk) (W := sched (m.drop at_) 48) hs.1 64)
    obtain ⟨s0, s1, s2, s3, s4, s5, s6, s7, rfl⟩ := len8 hs.1
    have e : mixS [s0, s1, s2, s3, s4, s5, s6, s7] ((m.drop at_).take 64) = [wu32 (s0 + v0), wu32 (s1 + v1), wu32 (s2 + v2), wu32 (s3 + v3), wu32 (s4 + v4), wu32 (s5 + v5), wu32 (s6 + v6), wu32 (s7 + v7)] := by
      unfold mixS
      rw [sched_take, hv]
      show [wu32 (v0 + s0), wu32 (v1 + s1), wu32 (v2 + s2), wu32 (v3 + s3), wu32 (v4 + s4), wu32 (v5 + s5), wu32 (v6 + s6), wu32 (v7 + s7)] = _
      rw [Int.add_comm v0, Int.add_comm v1, Int.add_comm v2, Int.add_comm v3, Int.add_comm v4, Int.add_comm v5, Int.add_comm v6, Int.add_comm v7]
    rw [e, hv]
    refine (radd p0 kk m (at_ : Int) p4 s0 s1 s2 s3 s4 s5 s6 s7 v0 v1 v2 v3 v4 v5 v6 v7 _).trans ?_
    simp only [i4]
/-- What makes the message longer. -/
theorem rpad_l0 (p0 : Bool) (p1 : List Int) (p2 : Bool) (p3 : List Int) (p4 : Int) (p6 : List UInt8) (e0 : Bool → List Int → Bool → List Int → Int → List UInt8 → List UInt8 → Option β) : ∀ (z f : Nat) (l : List UInt8), (l.length + z) % 64 = 56 → z < 64 → l.length + z ≤ 9000000 → z < f →
    ref01_Mixed_l0 NN f p0 p1 p2 p3 p4 l p6 e0 = e0 p0 p1 p2 p3 p4 (l ++ List.replicate z 0) p6
  | 0, f, l, h, _, hb, hf => by
    obtain ⟨f, rfl⟩ : ∃ k, f = k + 1 := ⟨f - 1, by omega⟩
    simp only [ref01_Mixed_l0, ref01_Mixed_l0_s]
    have : (l.length : Int).tmod 64 = 56 := by rw [Int.tmod_eq_emod_of_nonneg (by omega)]; omega
    rw [this]; simp
  | z + 1, f, l, h, hz, hb, hf => by
    obtain ⟨f, rfl⟩ : ∃ k, f = k + 1 := ⟨f - 1, by omega⟩
    simp only [ref01_Mixed_l0, ref01_Mixed_l0_s]
    have : ((l.length : Int).tmod 64 != 56) = true := by
      rw [Int.tmod_eq_emod_of_nonneg (by omega)]
      simp only [bne_iff_ne, ne_eq]; omega
    have hmost : (100000000 : Nat) ≤ most := by decide
    have hl1 : l.length + 1 ≤ most := by omega
    rw [this, cond_true, cond_ble_t hl1, rpad_l0 p0 p1 p2 p3 p4 p6 e0 z f (l ++ [0]) (by rw [List.length_append, List.length_singleton]; omega) (by omega) (by rw [List.length_append, List.length_singleton]; omega) (by omega)]
    rw [List.append_assoc, List.replicate_succ]; rfl
theorem rsize (p0 : Bool) (p1 : List Int) (p2 : Bool) (p3 : List Int) (x : Int) (p5 p8 : List UInt8) (e0 : Bool → List Int → Bool → List Int → List UInt8 → List UInt8 → List UInt8 → Option β) :
    ref01_Mixed_l2 NN NN p0 p1 p2 p3 x p5 [] 0 p8 e0 = e0 p0 p1 p2 p3 p5
      ((fun (q : Int → Int) => [UInt8.ofNat (wu8 ((q (q (q (q (q (q (q x))))))).tmod 256)).toNat, UInt8.ofNat (wu8 ((q (q (q (q (q (q x)))))).tmod 256)).toNat, UInt8.ofNat (wu8 ((q (q (q (q (q x))))).tmod 256)).toNat, UInt8.ofNat (wu8 ((q (q (q (q x)))).tmod 256)).toNat,
        UInt8.ofNat (wu8 ((q (q (q x))).tmod 256)).toNat, UInt8.ofNat (wu8 ((q (q x)).tmod 256)).toNat, UInt8.ofNat (wu8 ((q x).tmod 256)).toNat, UInt8.ofNat (wu8 (x.tmod 256)).toNat]) fun y => wu64 (y.tdiv 256)) p8 := by kernel_rfl
theorem q_nat (n : Nat) (h : n < 2 ^ 63) : wu64 ((n : Int).tdiv 256) = ((n / 256 : Nat) : Int) := by
  have e : (n : Int).tdiv 256 = ((n / 256 : Nat) : Int) := by rw [Int.tdiv_eq_ediv_of_nonneg (by omega)]; omega
  rw [e, wu64, wu64_id (by omega) (by omega)]
theorem b_nat (n : Nat) : UInt8.ofNat (wu8 ((n : Int).tmod 256)).toNat = UInt8.ofNat (n % 256) := by
  have e : (n : Int).tmod 256 = ((n % 256 : Nat) : Int) := by rw [Int.tmod_eq_emod_of_nonneg (by omega)]; omega
  rw [e, wu8, wu8_id (by omega) (by omega), Int.toNat_natCast]
theorem rsize_eq (p0 : Bool) (p1 : List Int) (p2 : Bool) (p3 : List Int) (n : Nat) (hn : n < 2 ^ 63) (p5 p8 : List UInt8) (e0 : Bool → List Int → Bool → List Int → List UInt8 → List UInt8 → List UInt8 → Option β) :
    ref01_Mixed_l2 NN NN p0 p1 p2 p3 (n : Int) p5 [] 0 p8 e0 = e0 p0 p1 p2 p3 p5 (be8 n) p8 := by
  rw [rsize]
  simp only [q_nat n hn, q_nat (n / 256) (by omega), q_nat (n / 256 / 256) (by omega), q_nat (n / 256 / 256 / 256) (by omega), q_nat (n / 256 / 256 / 256 / 256) (by omega), q_nat (n / 256 / 256 / 256 / 256 / 256) (by omega), q_nat (n / 256 / 256 / 256 / 256 / 256 / 256) (by omega), b_nat, be8]
  simp only [Nat.div_div_eq_div_mul]
theorem shr0 (x : Int) : shrI .u32 x 0 = x := by
  unfold shrI; simp
theorem rout (s0 s1 s2 s3 s4 s5 s6 s7 : Int) (z : List UInt8) (e0 : List UInt8 → List UInt8 → Option β) : ref01_Mixed_l14 NN NN 8 0 z (List.replicate 32 0) [s0, s1, s2, s3, s4, s5, s6, s7] e0 =
    e0 z (List.flatMap (fun x => [UInt8.ofNat (wu8 (shrI .u32 x 24)).toNat, UInt8.ofNat (wu8 (shrI .u32 x 16)).toNat, UInt8.ofNat (wu8 (shrI .u32 x 8)).toNat, UInt8.ofNat (wu8 (shrI .u32 x 0)).toNat]) [s0, s1, s2, s3, s4, s5, s6, s7]) := by kernel_rfl
theorem rout_eq (s : List Int) (hs : s.length = 8) (z : List UInt8) (e0 : List UInt8 → List UInt8 → Option β) : ref01_Mixed_l14 NN NN (s.length : Int) 0 z (List.replicate 32 0) s e0 = e0 z (outB s) := by
  rw [hs]
  obtain ⟨s0, s1, s2, s3, s4, s5, s6, s7, rfl⟩ := len8 hs
  refine (rout s0 s1 s2 s3 s4 s5 s6 s7 z e0).trans ?_
  simp only [shr0]
  rfl
theorem mixed_eq (m : List UInt8) (hm : m.length ≤ 2000000) (p0 p2 : Bool) (k : List UInt8 → Option β) : ref01_Mixed NN m p0 kk p2 h0 k = k (shaS m) := by
  unfold ref01_Mixed
  have hmost : (100000000 : Nat) ≤ most := by decide
  have hw : wu64 ((wu64 ((m.length : Int))) * 8) = ((m.length * 8 : Nat) : Int) := by
    have : wu64 (m.length : Int) = m.length := wu64_id (by omega) (by omega)
    rw [this, wu64, wu64_id (by omega) (by omega)]; omega
  have hz : (119 - m.length % 64) % 64 < 64 := Nat.mod_lt _ (by omega)
  rw [cond_ble_t (by omega), hw, rpad_l0 p0 kk p2 h0 _ _ _ ((119 - m.length % 64) % 64) NN (m ++ [128]) (by rw [List.length_append, List.length_singleton]; omega) hz (by rw [List.length_append, List.length_singleton]; omega) (Nat.lt_trans hz (by decide))]
  rw [rsize_eq _ _ _ _ _ (by omega)]
  have hpad : (m ++ [128] ++ List.replicate ((119 - m.length % 64) % 64) 0) ++ be8 (m.length * 8) = m ++ pad m.length := by unfold pad; simp
  have hb8 : (be8 (m.length * 8)).length = 8 := rfl
  rw [cond_ble_t (by simp [hb8]; omega), cond_ble_t (by decide), hpad, List.nil_append]
  have hpl : (m ++ pad m.length).length = 64 * ((m.length + 9 + (119 - m.length % 64) % 64) / 64) := by
    unfold pad; simp only [List.length_append, List.length_singleton, List.length_replicate, hb8]; omega
  have r := rblocks p0 (m ++ pad m.length) (by omega) (List.replicate 32 0) (fun q129 q130 => ref01_Mixed_l14 NN NN (q130.length : Int) 0 q129 (List.replicate 32 0) q130 fun q138 q139 => k q139) ((m.length + 9 + (119 - m.length % 64) % 64) / 64) 0 NN h0 inV_h0 (by omega) (by
    have : (2000000 : Nat) < NN := by decide
    omega)
  refine r.trans ?_
  rw [List.drop_zero, rout_eq _ (absorb_ok _).1]
  rfl
end
end Go.Proofs.Ytjnkppjlhmkjaaa.Av
