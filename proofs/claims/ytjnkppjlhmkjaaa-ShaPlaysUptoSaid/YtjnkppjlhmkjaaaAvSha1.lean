/- SHA-256, plainly: what the printed functions of sha come to. -/
import Derived.Test.YtjnkppjlhmkjaaaAvG0
import Derived.Test.YtjnkppjlhmkjaaaAvLib
import Derived.KernelRfl
namespace Go.Proofs.Ytjnkppjlhmkjaaa.Av
open Go
abbrev NN : Nat := 2097152
/-- Bits go down, and come in above. -/
def rot (x c : Int) : Int := orI .u32 (shrI .u32 x c) (shlI .u32 x (32 - c))
section
variable {β : Type}
theorem down7 (x : Int) (k : Int → Option β) : sha_down NN x 7 k = k (rot x 7) := (show sha_down NN x 7 k = k (orI .u32 (shlI .u32 x 25) (shrI .u32 x 7)) by kernel_rfl).trans (congrArg k (orI_comm _ _ _))
theorem down18 (x : Int) (k : Int → Option β) : sha_down NN x 18 k = k (rot x 18) := (show sha_down NN x 18 k = k (orI .u32 (shlI .u32 x 14) (shrI .u32 x 18)) by kernel_rfl).trans (congrArg k (orI_comm _ _ _))
theorem down17 (x : Int) (k : Int → Option β) : sha_down NN x 17 k = k (rot x 17) := (show sha_down NN x 17 k = k (orI .u32 (shlI .u32 x 15) (shrI .u32 x 17)) by kernel_rfl).trans (congrArg k (orI_comm _ _ _))
theorem down19 (x : Int) (k : Int → Option β) : sha_down NN x 19 k = k (rot x 19) := (show sha_down NN x 19 k = k (orI .u32 (shlI .u32 x 13) (shrI .u32 x 19)) by kernel_rfl).trans (congrArg k (orI_comm _ _ _))
theorem down6 (x : Int) (k : Int → Option β) : sha_down NN x 6 k = k (rot x 6) := (show sha_down NN x 6 k = k (orI .u32 (shlI .u32 x 26) (shrI .u32 x 6)) by kernel_rfl).trans (congrArg k (orI_comm _ _ _))
theorem down11 (x : Int) (k : Int → Option β) : sha_down NN x 11 k = k (rot x 11) := (show sha_down NN x 11 k = k (orI .u32 (shlI .u32 x 21) (shrI .u32 x 11)) by kernel_rfl).trans (congrArg k (orI_comm _ _ _))
theorem down25 (x : Int) (k : Int → Option β) : sha_down NN x 25 k = k (rot x 25) := (show sha_down NN x 25 k = k (orI .u32 (shlI .u32 x 7) (shrI .u32 x 25)) by kernel_rfl).trans (congrArg k (orI_comm _ _ _))
theorem down2 (x : Int) (k : Int → Option β) : sha_down NN x 2 k = k (rot x 2) := (show sha_down NN x 2 k = k (orI .u32 (shlI .u32 x 30) (shrI .u32 x 2)) by kernel_rfl).trans (congrArg k (orI_comm _ _ _))
theorem down13 (x : Int) (k : Int → Option β) : sha_down NN x 13 k = k (rot x 13) := (show sha_down NN x 13 k = k (orI .u32 (shlI .u32 x 19) (shrI .u32 x 13)) by kernel_rfl).trans (congrArg k (orI_comm _ _ _))
theorem down22 (x : Int) (k : Int → Option β) : sha_down NN x 22 k = k (rot x 22) := (show sha_down NN x 22 k = k (orI .u32 (shlI .u32 x 10) (shrI .u32 x 22)) by kernel_rfl).trans (congrArg k (orI_comm _ _ _))
end
/-- Four bytes as a word. -/
def word (b : List UInt8) (t : Nat) : Int := (((b.getD (4 * t) 0).toNat * 256 + (b.getD (4 * t + 1) 0).toNat) * 256 + (b.getD (4 * t + 2) 0).toNat) * 256 + (b.getD (4 * t + 3) 0).toNat
theorem word_or (a b c d : UInt8) : orI .u32 (orI .u32 (orI .u32 (shlI .u32 (wu32 ((a.toNat : Int))) 24) (shlI .u32 (wu32 ((b.toNat : Int))) 16)) (shlI .u32 (wu32 ((c.toNat : Int))) 8)) (wu32 ((d.toNat : Int))) =
    ((a.toNat * 256 + b.toNat) * 256 + c.toNat) * 256 + d.toNat := by
  have ha := a.toNat_lt; have hb := b.toNat_lt; have hc := c.toNat_lt; have hd := d.toNat_lt
  have e : ∀ (x : UInt8) (s : Nat), s ≤ 24 → shlI .u32 (wu32 ((x.toNat : Int))) (s : Int) = ((x.toNat * 2 ^ s : Nat) : Int) := by
    intro x s hs
    have hx := x.toNat_lt
    unfold shlI
    have hw : wu32 (x.toNat : Int) = x.toNat := wu32_id (by omega) (by omega)
    rw [hw]
    have : min (s : Int).toNat IntKind.u32.bits = s := by simp [IntKind.bits]; omega
    rw [this, wu32_id]
    · simp
    · exact_mod_cast Nat.zero_le _
    · have : x.toNat * 2 ^ s ≤ 255 * 2 ^ 24 := Nat.mul_le_mul (by omega) (Nat.pow_le_pow_right (by omega) hs)
      have e2 : ((x.toNat : Int) * 2 ^ s) = ((x.toNat * 2 ^ s : Nat) : Int) := by simp
      rw [e2]; omega
  rw [show (24 : Int) = ((24 : Nat) : Int) from rfl, show (16 : Int) = ((16 : Nat) : Int) from rfl, show (8 : Int) = ((8 : Nat) : Int) from rfl, e a 24 (by omega), e b 16 (by omega), e c 8 (by omega), show wu32 (d.toNat : Int) = d.toNat from wu32_id (by omega) (by omega)]
  have h1 : a.toNat * 2 ^ 24 ||| b.toNat * 2 ^ 16 = a.toNat * 2 ^ 24 + b.toNat * 2 ^ 16 := shl_or (by omega)
  rw [orI_nat (by omega) (by omega), h1]
  have h2 : (a.toNat * 2 ^ 24 + b.toNat * 2 ^ 16) ||| c.toNat * 2 ^ 8 = (a.toNat * 2 ^ 24 + b.toNat * 2 ^ 16) + c.toNat * 2 ^ 8 := by
    have := shl_or (a := a.toNat * 2 ^ 8 + b.toNat) (b := c.toNat * 2 ^ 8) (n := 16) (by omega)
    rw [show (a.toNat * 2 ^ 8 + b.toNat) * 2 ^ 16 = a.toNat * 2 ^ 24 + b.toNat * 2 ^ 16 by omega] at this
    exact this
  rw [orI_nat (by omega) (by omega), h2]
  have h3 : (a.toNat * 2 ^ 24 + b.toNat * 2 ^ 16 + c.toNat * 2 ^ 8) ||| d.toNat = (a.toNat * 2 ^ 24 + b.toNat * 2 ^ 16 + c.toNat * 2 ^ 8) + d.toNat := by
    have := shl_or (a := a.toNat * 2 ^ 16 + b.toNat * 2 ^ 8 + c.toNat) (b := d.toNat) (n := 8) (by omega)
    rw [show (a.toNat * 2 ^ 16 + b.toNat * 2 ^ 8 + c.toNat) * 2 ^ 8 = a.toNat * 2 ^ 24 + b.toNat * 2 ^ 16 + c.toNat * 2 ^ 8 by omega] at this
    exact this
  rw [orI_nat (by omega) (by omega), h3]
  omega
/-- The words of a block. -/
def words (b : List UInt8) (t : Nat) : List Int := (List.range t).map (word b)
theorem words_len (b : List UInt8) (t : Nat) : (words b t).length = t := by simp [words]
theorem words_succ (b : List UInt8) (t : Nat) : words b (t + 1) = words b t ++ [word b t] := by simp [words, List.range_succ]
def wExt (w : List Int) : Int :=
  wu32 (wu32 (wu32 (xorI .u32 (xorI .u32 (rot (w.getD (w.length - 2) 0) 17) (rot (w.getD (w.length - 2) 0) 19)) (shrI .u32 (w.getD (w.length - 2) 0) 10) + w.getD (w.length - 7) 0) +
    xorI .u32 (xorI .u32 (rot (w.getD (w.length - 15) 0) 7) (rot (w.getD (w.length - 15) 0) 18)) (shrI .u32 (w.getD (w.length - 15) 0) 3)) + w.getD (w.length - 16) 0)
def sched (b : List UInt8) : Nat → List Int
  | 0 => words b 16
  | t + 1 => sched b t ++ [wExt (sched b t)]
theorem sched_len (b : List UInt8) (t : Nat) : (sched b t).length = 16 + t := by
  induction t with
  | zero => exact words_len b 16
  | succ t ih => simp [sched, ih]; omega
section
variable {β : Type}
theorem sched_l0 (p0 : Bool) (b : List UInt8) (hb : b.length = 64) (z : List Int) (e0 : List Int → List Int → Option β) : ∀ (d t m : Nat), t + d = 16 → d < m → sha_schedule_l0 NN m p0 b (t : Int) z (words b t ++ List.replicate (64 - t) 0) e0 = e0 z (words b 16 ++ List.replicate 48 0)
  | 0, t, m, h, hm => by
    obtain ⟨m, rfl⟩ : ∃ k, m = k + 1 := ⟨m - 1, by omega⟩
    obtain rfl : t = 16 := by omega
    simp only [sha_schedule_l0, sha_schedule_l0_s]
    rw [cond_dec_f (by omega)]
  | d + 1, t, m, h, hm => by
    obtain ⟨m, rfl⟩ : ∃ k, m = k + 1 := ⟨m - 1, by omega⟩
    have ih := sched_l0 p0 b hb z e0 d (t + 1) m (by omega) (by omega)
    have i0 : wi64 (4 * (t : Int)) = ((4 * t : Nat) : Int) := by rw [wi64, wi64_id (by omega) (by omega)]; omega
    have i1 : wi64 (((4 * t : Nat) : Int) + 1) = ((4 * t + 1 : Nat) : Int) := by rw [wi64, wi64_id (by omega) (by omega)]; omega
    have i2 : wi64 (((4 * t : Nat) : Int) + 2) = ((4 * t + 2 : Nat) : Int) := by rw [wi64, wi64_id (by omega) (by omega)]; omega
    have i3 : wi64 (((4 * t : Nat) : Int) + 3) = ((4 * t + 3 : Nat) : Int) := by rw [wi64, wi64_id (by omega) (by omega)]; omega
    have i4 : wi64 ((t : Int) + 1) = ((t + 1 : Nat) : Int) := by rw [wi64, wi64_id (by omega) (by omega)]; omega
    simp only [sha_schedule_l0, sha_schedule_l0_s, i0, i1, i2, i3, i4, Int.toNat_natCast]
    rw [cond_dec_t (by omega), cond_dec_t (by omega), bind_get (by omega) 0, cond_dec_t (by omega), bind_get (by omega) 0, cond_dec_t (by omega), bind_get (by omega) 0, cond_dec_t (by omega), bind_get (by omega) 0,
      cond_dec_t (by omega), cond_blt_t (by omega), bind_get (by simp [words_len]; omega) 0, word_or]
    rw [show 64 - t = (63 - t) + 1 by omega]
    have hs := set_app (words b t) (63 - t) 0 (word b t)
    rw [words_len, ← words_succ] at hs
    rw [show 64 - (t + 1) = 63 - t by omega] at ih
    have e : (((b.getD (4 * t) 0).toNat * 256 + (b.getD (4 * t + 1) 0).toNat : Int) * 256 + (b.getD (4 * t + 2) 0).toNat) * 256 + (b.getD (4 * t + 3) 0).toNat = word b t := rfl
    rw [e, hs]
    exact ih
theorem sched_l2 (b : List UInt8) (z : List Int) (e0 : List Int → List Int → Option β) : ∀ (d t m : Nat), t + d = 48 → d < m → sha_schedule_l2 NN m ((16 + t : Nat) : Int) z (sched b t ++ List.replicate (48 - t) 0) e0 = e0 z (sched b 48)
  | 0, t, m, h, hm => by
    obtain ⟨m, rfl⟩ : ∃ k, m = k + 1 := ⟨m - 1, by omega⟩
    obtain rfl : t = 48 := by omega
    simp only [sha_schedule_l2, sha_schedule_l2_s]
    rw [cond_dec_f (by omega)]
    simp
  | d + 1, t, m, h, hm => by
    obtain ⟨m, rfl⟩ : ∃ k, m = k + 1 := ⟨m - 1, by omega⟩
    have ih := sched_l2 b z e0 d (t + 1) m (by omega) (by omega)
    have hl := sched_len b t
    have j : ∀ c : Nat, c ≤ 16 → wi64 (((16 + t : Nat) : Int) - (c : Int)) = ((16 + t - c : Nat) : Int) := fun c hc => by rw [wi64, wi64_id (by omega) (by omega)]; omega
    have j15 : wi64 (((16 + t : Nat) : Int) - 15) = ((16 + t - 15 : Nat) : Int) := j 15 (by omega)
    have j2 : wi64 (((16 + t : Nat) : Int) - 2) = ((16 + t - 2 : Nat) : Int) := j 2 (by omega)
    have j7 : wi64 (((16 + t : Nat) : Int) - 7) = ((16 + t - 7 : Nat) : Int) := j 7 (by omega)
    have j16 : wi64 (((16 + t : Nat) : Int) - 16) = ((16 + t - 16 : Nat) : Int) := j 16 (by omega)
    have i4 : wi64 (((16 + t : Nat) : Int) + 1) = ((16 + (t + 1) : Nat) : Int) := by rw [wi64, wi64_id (by omega) (by omega)]; omega
    simp only [sha_schedule_l2, sha_schedule_l2_s, j15, j2, j7, j16, i4, Int.toNat_natCast, down7, down18, down17, down19]
    have g : ∀ i : Nat, i < 16 + t → (sched b t ++ List.replicate (48 - t) 0).getD i 0 = (sched b t).getD i 0 := fun i hi => getD_app_left _ (by omega)
    rw [cond_dec_t (by omega), cond_dec_t (by omega), cond_blt_t (by omega), bind_get (by simp; omega) 0, cond_dec_t (by omega), cond_blt_t (by omega), bind_get (by simp; omega) 0, cond_dec_t (by omega), cond_blt_t (by omega), bind_get (by simp; omega) 0,
      cond_dec_t (by omega), cond_blt_t (by omega), bind_get (by simp; omega) 0, cond_dec_t (by omega), cond_blt_t (by omega), bind_get (by simp; omega) 0, g _ (by omega), g _ (by omega), g _ (by omega), g _ (by omega)]
    have hs := set_app (sched b t) (47 - t) 0 (wExt (sched b t))
    rw [hl] at hs
    rw [show 48 - t = (47 - t) + 1 by omega]
    rw [show 48 - (t + 1) = 47 - t by omega] at ih
    have e : wExt (sched b t) = wu32 (wu32 (wu32 (xorI .u32 (xorI .u32 (rot ((sched b t).getD (16 + t - 2) 0) 17) (rot ((sched b t).getD (16 + t - 2) 0) 19)) (shrI .u32 ((sched b t).getD (16 + t - 2) 0) 10) + (sched b t).getD (16 + t - 7) 0) +
      xorI .u32 (xorI .u32 (rot ((sched b t).getD (16 + t - 15) 0) 7) (rot ((sched b t).getD (16 + t - 15) 0) 18)) (shrI .u32 ((sched b t).getD (16 + t - 15) 0) 3)) + (sched b t).getD (16 + t - 16) 0) := by
      unfold wExt; rw [hl]
    rw [← e, hs]
    exact ih
theorem schedule_eq (p : Bool) (b : List UInt8) (hb : b.length = 64) (k : List Int → Option β) : sha_schedule NN p b k = k (sched b 48) := by
  unfold sha_schedule
  have h1 := sched_l0 p b hb (List.replicate 64 0) (fun q6 q7 => sha_schedule_l2 NN NN 16 q6 q7 fun q17 q18 => k q18) 16 0 NN (by omega) (by decide)
  have h2 := sched_l2 b (List.replicate 64 0) (fun q17 q18 => k q18) 48 0 NN (by omega) (by decide)
  exact h1.trans h2
end
end Go.Proofs.Ytjnkppjlhmkjaaa.Av
