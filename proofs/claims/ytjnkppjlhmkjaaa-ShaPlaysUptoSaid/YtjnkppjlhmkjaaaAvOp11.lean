/- append, whole. -/
import Derived.Test.YtjnkppjlhmkjaaaAvOp10
namespace Go.Proofs.Ytjnkppjlhmkjaaa.Av
open Go
variable {CT : Nat → Type}
section
variable {P : Program} {T : TyTab CT} {CR : CallR CT} {X0 X : Cx CT} {W w : World} {ob ob' : Ob CT} {r : AV CT} {α : Type}
theorem SliceR.nogen {C : Cod CT} {x : AV CT} {lent : Bool} {l : LS CT (AV CT)} (h : SliceR C ob x lent l) : True := trivial
/-- What srcM hands on. -/
theorem Ev.srcM_inv {C : Cod CT} {x : AV CT} {h : LS CT (AV CT) → M CT α} {v : α} (e : Ev CR (srcM C x h) ob v ob') :
    (∃ t, x = .str t ∧ Ev CR (h (.u8 t)) ob v ob') ∨ ∃ lent l, SliceR C ob x lent l ∧ Solid lent l ∧ Ev CR (h l) ob v ob' := by
  unfold srcM at e
  split at e
  · exact .inl ⟨_, rfl, e⟩
  · obtain ⟨lent, l, h1, h2⟩ := e.sliceOf_inv
    refine .inr ⟨lent, l, h1, ?_⟩
    split at h2
    · obtain ⟨g, h3⟩ := h2.gd_inv; exact ⟨g, h3⟩
    · exact h2.fail_inv.elim
    · rename_i h3 h4
      refine ⟨?_, h2⟩
      cases l with
      | gen s l => exact absurd rfl (h4 _ _)
      | typ c s sc l => exact absurd rfl (h3 _ _ _ _)
      | _ => trivial
theorem src_slice {l : LS CT (AV CT)} {a : Option Addr} {css : List (List Value)} {lent : Bool} (S : SliceC X w lent l a css) (hs : Solid lent l) {tx e' e cap : Nat} (hk : P.underlying tx = some (.slice e')) (hsz : l.len ≠ 0 → l.sz = T.sz e) :
    ∃ css', SrcA P X w e (T.sz e) tx (.slice a l.len cap) l css' := by
  rcases Nat.eq_zero_or_pos l.len with h0 | h0
  · have hcss : css = [] := List.length_eq_zero_iff.1 (S.n.trans h0)
    subst hcss
    refine ⟨[], S.ok, S.le, S.n, by simp, by simp, .of_src ?_⟩
    rw [h0]
    cases a with
    | none => exact Src.ofNil w hk cap
    | some a => exact Src.ofSlice w hk a 0 cap [] (by simp) (by simp) (by simp)
  · obtain ⟨b, off, rfl, hat⟩ := S.at_ (by omega)
    have hsol := S.solid hs
    refine ⟨css, S.ok, S.le, S.n, S.sz, hsol, .of_src (Src.ofSlice w hk _ l.len cap css.flatten ?_ (fun j u hu => ?_) (fun u hu => ?_))⟩
    · rw [flat_len S.sz, S.n, hsz (by omega)]
    · rw [addr_add]; exact hat j u hu
    · obtain ⟨c, hc, hu⟩ := List.mem_flatten.1 hu
      obtain ⟨j, hj⟩ := List.mem_iff_getElem?.1 hc
      have hlt : j < l.len := by have := (List.getElem?_eq_some_iff.1 hj).1; have := S.n; omega
      obtain ⟨b, hb⟩ : ∃ b, l.get? X.C j = some b := by
        cases l <;> simp only [LS.len] at hlt <;> simp only [LS.get?, List.getElem?_eq_getElem hlt] <;> exact ⟨_, rfl⟩
      exact ((hsol j b c hb hj).sg u hu).one
theorem src_str {t : List UInt8} (ht : t.length ≤ maxI) {tx e : Nat} (hk : P.underlying tx = some .string) (hsz : T.sz e = 1) :
    ∃ css, SrcA P X w e (T.sz e) tx (.string ⟨t.toArray⟩) (.u8 t) css := by
  have hfl : ∀ t : List UInt8, (t.map fun b => [Value.int .u8 (b.toNat : Int)]).flatten = t.map fun b => Value.int .u8 (b.toNat : Int) := by
    intro t; induction t with
    | nil => rfl
    | cons a t ih => simp [ih]
  refine ⟨t.map fun b => [.int .u8 (b.toNat : Int)], trivial, ht, by simp [LS.len], fun c hc => ?_, fun j b c hb hc => ?_, .of_src ?_⟩
  · obtain ⟨b, _, rfl⟩ := List.mem_map.1 hc; rfl
  · simp only [LS.get?, Option.map_eq_some_iff] at hb
    obtain ⟨x, hx, rfl⟩ := hb
    rw [List.getElem?_map, hx] at hc
    cases hc
    exact .int (by simp [IntKind.min, IntKind.signed]) (by have := x.toNat_lt; simp [IntKind.max, IntKind.bits, IntKind.signed]; omega)
  · have := Src.ofString (P := P) w hk ⟨t.toArray⟩
    rw [hsz]
    have e1 : (⟨t.toArray⟩ : ByteArray).size = t.length := by simp [ByteArray.size]
    rw [e1] at this
    rw [hfl]
    simpa [byteCells, LS.len] using this
/-- Zeros, that are appended at once. -/
theorem src_zeros (H : TabOk P T) (hC : X.C = T.C) {e tx : Nat} (he : T.d e ≠ .bad) {kx : IntKind} (hk : P.underlying tx = some (.int kx)) {n : Int} (h0 : 0 ≤ n) (hb : 1 ≤ T.bytes e) (hlen : n.toNat * T.bytes e ≤ most)
    {l : LS CT (AV CT)} (hl : LS.rep T.C (T.lk e) (T.zero e) n.toNat = some l) : ∃ css, l.len = n.toNat ∧ SrcA P X w e (T.sz e) tx (.int .i64 n) l css := by
  obtain ⟨i, u, z, hi, _, _, his, hiz, hz, hzr, _, _, hzs⟩ := H.ok e he
  obtain ⟨r1, r2, r3, r4⟩ := rep_spec hl (H.lk e he).2
  have r4 := r4 X hC (hzr X hC).1
  have hn : n.toNat ≤ n.toNat * T.bytes e := Nat.le_mul_of_pos_right _ hb
  have hm : most ≤ maxI := by decide
  have hmx : n.toNat ≤ maxI := by omega
  have hw : IntKind.i64.wrap n = n := wrap_i64 h0 (by omega)
  have hls : l.sz = T.sz e := by rw [← LS.kindSz, r3, (H.lk e he).1]
  have hbig : ¬ (281474976710656 < n * (T.bytes e : Int)) := by
    have : n * (T.bytes e : Int) = ((n.toNat * T.bytes e : Nat) : Int) := by
      rw [Int.natCast_mul, Int.toNat_of_nonneg h0]
    rw [this]; simp only [most] at hlen; omega
  have hneg : ¬ n < 0 := by omega
  have hnews : ∀ c ∈ List.replicate n.toNat z.cells.toList, c.length = T.sz e := fun c hc => by rw [(List.mem_replicate.1 hc).2]; simpa using hzs
  have hnl : (List.replicate n.toNat z.cells.toList).flatten.length = n.toNat * T.sz e := by rw [flatten_len _ _ hnews, List.length_replicate]
  have hzc : Builtin.zeroCells z.cells n.toNat = (List.replicate n.toNat z.cells.toList).flatten.toArray := by
    apply Array.ext'
    have := zero_cells (z := z.cells) (n := n.toNat) (s := z.cells.size) rfl
    simpa [Builtin.zeroCells] using this
  have hz0 : n.toNat * T.sz e = 0 → (List.replicate n.toNat z.cells.toList).flatten = [] := fun h => List.length_eq_zero_iff.1 (hnl.trans h)
  have news : ∀ w' : World, (if n.toNat * T.sz e = 0 then (Pure.pure #[] : Sem (Array Value)) else do Pure.pure (Builtin.zeroCells (← zeroValue e).cells n.toNat)).run P w' = .ok (List.replicate n.toNat z.cells.toList).flatten.toArray w' := by
    intro w'
    split
    · rename_i h; rw [hz0 h]; rfl
    · simp [zeroValue, typeInfo, hi, hz, hzc]
  refine ⟨List.replicate n.toNat z.cells.toList, r1, hC ▸ r2, by omega, by simp [r1], fun c hc => by rw [hnews c hc, hls], fun j b c hb' hc => ?_, ?_⟩
  · have : c = z.cells.toList := by
      rw [List.getElem?_replicate] at hc
      split at hc
      · cases hc; rfl
      · cases hc
    rw [this]; exact r4.1 j b (hC ▸ hb')
  rw [r1]
  refine ⟨hnl, fun u hu => ?_, fun t ty i' ht hi' hs h => ?_, fun t ty i' b sLen sCap w1 ht hi' hs hroom hst => ?_, fun t ty i' z' ht hi' hs hz' base sLen sCap olds hold hg h63 hfit => ?_⟩
  · obtain ⟨c, hc, hu⟩ := List.mem_flatten.1 hu
    rw [(List.mem_replicate.1 hc).2] at hu
    exact ((hzr X hC).1.sg u hu).one
  · rw [hi] at hi'; cases hi'
    obtain rfl : n = 0 := by omega
    simp [Builtin.append_, run_underlying ht, run_underlying hk, sizeOf, typeInfo, hi, asInt, asIntOf, hw, hiz]
  · rw [hi] at hi'; cases hi'
    have hnw := news w
    rw [his] at hs
    by_cases hzz : n.toNat * T.sz e = 0
    · rw [hz0 hzz] at hst
      simp [Builtin.append_, run_underlying ht, run_underlying hk, sizeOf, typeInfo, hi, asInt, asIntOf, hw, hneg, hiz, hbig, hroom, his, Addr.add_lit, hzz, hst]
    · simp [Builtin.append_, run_underlying ht, run_underlying hk, sizeOf, typeInfo, hi, asInt, asIntOf, hw, hneg, hiz, hbig, hroom, his, Addr.add_lit, hzz, zeroValue, hz, hzc, hst]
  · rw [hi] at hi'; cases hi'
    rw [hz] at hz'; cases hz'
    have hnn : ¬ (sLen + n.toNat ≤ sCap) := by omega
    have h63' : ¬ (9223372036854775807 < ((sLen : Int) + max n 0)) := by omega
    have h48' : ¬ (281474976710656 < Builtin.nextslicecap (sLen + n.toNat) sCap * T.bytes e) := by rw [← hiz]; omega
    rw [his] at hold
    by_cases hzz : n.toNat * T.sz e = 0
    · rw [hz0 hzz]
      simp [Builtin.append_, run_underlying ht, run_underlying hk, sizeOf, typeInfo, zeroValue, hi, hz, asInt, asIntOf, hw, hneg, hiz, hbig, hnn, h63', h48', his, Question.forced, hold, newRow, grownCap, hzz]
      try (congr 2; apply Array.ext'; simp [List.append_assoc])
    · simp [Builtin.append_, run_underlying ht, run_underlying hk, sizeOf, typeInfo, zeroValue, hi, hz, asInt, asIntOf, hw, hneg, hiz, hbig, hnn, h63', h48', his, Question.forced, hold, newRow, grownCap, hzz, hzc]
      try (congr 2; apply Array.ext'; simp [List.append_assoc])
theorem appendTo_good (H : TabOk P T) (hC : X.C = T.C) (M : Mem X0 W X ob w) {t tx ty e d : Nat} (hd : T.d t = .slc e) {s : AV CT} {u v : Value} (hu : RV X s u) {xs : LS CT (AV CT)}
    (hS : xs.Ok X.C → (xs.len ≠ 0 → xs.sz = T.sz e) → ∃ css, SrcA P X w e (T.sz e) tx v xs css) (hok : xs.Ok X.C)
    (h : Ev CR (appendTo T d e s .ret xs) ob r ob') : Good P X0 X W w (do Pure.pure (.value (← Builtin.append_ #[t, tx] ty #[u, v]))) r ob' := by
  obtain ⟨hb, h⟩ := cond_fail h
  have hb := Nat.ble_eq.mp hb
  split at h
  · rename_i kd hold
    obtain ⟨hsz, h⟩ := cond_fail h
    have hsz := Nat.eq_of_beq_eq_true hsz
    obtain ⟨hlen, h⟩ := h.gd_inv
    have hlen := Nat.ble_eq.mp hlen
    split at h
    case h_2 => exact h.fail_inv.elim
    rename_i l happ
    obtain ⟨rfl, hk⟩ := hu.vnil
    have A := app_spec (C := X.C) happ
    obtain ⟨css, S⟩ := hS hok fun _ => by rw [A.sz (nilOk hk) hok]; exact (nilOf kd).2.1.trans hsz
    exact appendNil_good H hC M hd hk hsz hb happ hlen S h
  · rename_i id kd
    obtain ⟨hsz, h⟩ := cond_fail h
    have hsz := Nat.eq_of_beq_eq_true hsz
    obtain ⟨l, hl, h⟩ := h.rdLst_inv
    split at h
    case h_2 => exact h.fail_inv.elim
    rename_i l' happ
    obtain ⟨hlen, h⟩ := h.gd_inv
    have hlen := Nat.ble_eq.mp hlen
    obtain ⟨hls, h⟩ := cond_fail h
    have hls := Nat.eq_of_beq_eq_true hls
    have A := app_spec (C := X.C) happ
    have hlok : l.Ok X.C := by
      obtain ⟨o, _, hL⟩ := M.loc hl
      cases hL with
      | nil e1 e2 e3 => cases e1; exact e3
      | blk k1 k2 k3 k4 => cases k3 with | lst h0 _ _ _ => exact h0
    obtain ⟨css, S⟩ := hS hok fun _ => by rw [A.sz hlok hok, hls]
    exact appendMw_good H hC M hd hsz hb hu hl hls happ hlen S h.wr_inv
  · exact h.fail_inv.elim
theorem decAllS_get {C : Cod CT} {c : Nat} : ∀ {l : List (AV CT)} {xs : List (CT c)}, decAllS C c l = some xs → xs.length = l.length ∧ ∀ (j : Nat) (a : AV CT), l[j]? = some a → ∃ x, xs[j]? = some x ∧ C.enc c x = a
  | [], xs, h => by cases h; exact ⟨rfl, fun j a h => by simp at h⟩
  | a :: l, xs, h => by
    simp only [decAllS] at h
    split at h
    · rename_i x ys h1 h2
      cases h
      obtain ⟨g1, g2⟩ := decAllS_get h2
      refine ⟨by simp [g1], fun j b hb => ?_⟩
      cases j with
      | zero => simp at hb; subst hb; exact ⟨x, rfl, C.dec_ok _ _ _ h1⟩
      | succ j => obtain ⟨y, h3, h4⟩ := g2 j b (by simpa using hb); exact ⟨y, by simpa using h3, h4⟩
    · cases h
theorem append_good (H : TabOk P T) (hC : X.C = T.C) (M : Mem X0 W X ob w) {t tx ty e d : Nat} (hd : T.d t = .slc e) {s x : AV CT} {u v : Value} (hu : RV X s u) (hv : RV X x v)
    (hk : appKind x (T.d tx) = true)
    (h : Ev CR (appendM T d e s x .ret) ob r ob') : Good P X0 X W w (do Pure.pure (.value (← Builtin.append_ #[t, tx] ty #[u, v]))) r ob' := by
  unfold appKind at hk
  have he := H.elS _ _ hd
  have src : ∀ {x : AV CT}, RV X x v → ((∃ t, x = .str t) → T.d tx = .str) → (∀ lent l, SliceR T.C ob x lent l → ∃ e', T.d tx = .slc e') → Ev CR (srcM T.C x (appendTo T d e s .ret)) ob r ob' →
      Good P X0 X W w (do Pure.pure (.value (← Builtin.append_ #[t, tx] ty #[u, v]))) r ob' := by
    intro x hv h1 h2 h
    rcases h.srcM_inv with ⟨t, rfl, h⟩ | ⟨lent, l, hs, hsol, h⟩
    · obtain ⟨rfl, ht⟩ := hv.str
      refine appendTo_good H hC M hd hu (fun _ hsz => ?_) (show LS.Ok X.C (LS.u8 t) from trivial) h
      by_cases h0 : t.length = 0
      · obtain rfl := List.length_eq_zero_iff.1 h0
        refine ⟨[], trivial, by simp [LS.len], rfl, by simp, by simp, ?_⟩
        have := Src.ofString (P := P) w (H.str (h1 ⟨_, rfl⟩)) ⟨([] : List UInt8).toArray⟩
        refine .of_src ⟨this.kind, this.len, ?_, ?_, by simp [LS.len], by simp⟩
        · simp [Builtin.firstCells, LS.len]
        · simp [Builtin.firstCells, LS.len]
      · exact src_str ht (H.str (h1 ⟨_, rfl⟩)) (hsz h0).symm
    · obtain ⟨a, cap, css, rfl, S⟩ := slice_cells M hv (hC ▸ hs)
      obtain ⟨e', he'⟩ := h2 _ _ hs
      exact appendTo_good H hC M hd hu (fun _ hsz => src_slice S hsol (H.slc he') hsz) S.ok h
  unfold appendM at h
  split at h
  · rename_i id kd
    obtain ⟨e', he'⟩ : ∃ e', T.d tx = .slc e' := by
      split at hk <;> first | cases hk | (rename_i q _ _; exact ⟨_, q⟩) | (rename_i q; exact ⟨_, q⟩) | skip
      all_goals simp_all
    obtain ⟨l, hl, h⟩ := h.rdLst_inv
    split at h
    · rename_i s' xs
      obtain ⟨o, ho, hL⟩ := M.loc hl
      obtain ⟨hkd, hus, hloc⟩ := hv.mw
      obtain ⟨hmx, hcase⟩ := hloc o ho
      -- the elements, published
      have main : ∀ {css : List (List Value)} {a : Option Addr} {cap : Nat}, v = .slice a xs.length cap → xs.length ≤ maxI → xs.length = css.length → (∀ c ∈ css, c.length = s') →
          (∀ (j : Nat) (a : AV CT) (c : List Value), xs[j]? = some a → css[j]? = some c → R X a c) → (xs.length ≠ 0 → ∃ b, a = some ⟨b, 0, none⟩ ∧ ∀ (j : Nat) (u : Value), css.flatten[j]? = some u → w.cell? ⟨b, 0 + j, none⟩ = some u) →
          Good P X0 X W w (do Pure.pure (.value (← Builtin.append_ #[t, tx] ty #[u, v]))) r ob' := by
        intro css a cap hv' hle hl hsz hR hat
        obtain ⟨xs', ob1, X1, E1, M1, n1, r1, _, h1⟩ := listM_ok (fun M r h => pub_ok deep M r h) xs M hl hR h
        have hC1 : X1.C = T.C := E1.C.trans hC
        split at h1
        · exact h1.fail_inv.elim
        · rename_i hg
          have A : ∃ c s2 sc ys, LS.tidyS T.C kd s' (unnils xs') = .typ c s2 sc ys ∧ kd = .typ c s2 sc ∧ decAllS T.C c (unnils xs') = some ys := by
            cases kd with
            | typ c s2 b =>
              cases hy : decAllS T.C c (unnils xs') with
              | some ys => exact ⟨c, s2, b, ys, by simp [LS.tidyS, hy], rfl, hy⟩
              | none => exact absurd (by simp [LS.tidyS, hy]) (hg s' (unnils xs'))
            | _ => exact absurd rfl (hg s' (unnils xs'))
          obtain ⟨c, s2, sc, ys, hq, rfl, hy⟩ := A
          rw [hq] at h1
          obtain ⟨d1, d2⟩ := decAllS_get hy
          have hyl : ys.length = xs.length := by rw [d1, unnils_len, n1]
          have hel : ∀ (j : Nat) (b : AV CT) (cc : List Value), (LS.typ c s2 sc ys : LS CT (AV CT)).get? X1.C j = some b → css[j]? = some cc → R X1 b cc := by
            intro j b cc hb hc
            simp only [LS.get?, Option.map_eq_some_iff] at hb
            obtain ⟨y, hy1, rfl⟩ := hb
            have hlt := (List.getElem?_eq_some_iff.1 hc).1
            have hx' : xs'[j]? = some xs'[j] := List.getElem?_eq_getElem (by omega)
            obtain ⟨y', q1, q2⟩ := d2 j xs'[j].unnil (by rw [unnils_get, hx']; rfl)
            rw [hy1] at q1; cases q1
            rw [hC1, q2]
            exact (r1 j _ cc hx' hc).unnil
          have hok : (LS.typ c s2 sc ys : LS CT (AV CT)).Ok X1.C := E1.C ▸ hkd
          have hkz : xs.length ≠ 0 → s' = s2 := by
            intro hne
            have hj : 0 < css.length := by omega
            have hc0 : css[0]? = some css[0] := List.getElem?_eq_getElem hj
            obtain ⟨y, hy1⟩ : ∃ y, ys[0]? = some y := ⟨ys[0]'(by omega), List.getElem?_eq_getElem (by omega)⟩
            have := (hel 0 (X1.C.enc c y) _ (by simp [LS.get?, hy1]) hc0).size
            rw [hsz _ (List.mem_of_getElem? hc0), X1.C.size_ok] at this
            rw [this]; exact hok.1.symm
          have S : SrcA P X1 w e (T.sz e) tx v (.typ c s2 sc ys) css ∨ (xs.length ≠ 0 ∧ s2 ≠ T.sz e) := by
            by_cases hq : xs.length ≠ 0 → s2 = T.sz e
            · left
              refine ⟨hok, by simp only [LS.len]; omega, by simp only [LS.len]; omega, fun cc hc => ?_, hel, ?_⟩
              · have hne : xs.length ≠ 0 := by have := List.length_pos_of_mem hc; omega
                rw [hsz cc hc, hkz hne]; rfl
              · subst hv'
                have hle2 : (LS.typ c s2 sc ys : LS CT (AV CT)).len = xs.length := hyl
                rw [hle2]
                by_cases hne : xs.length = 0
                · have : css = [] := List.length_eq_zero_iff.1 (by omega)
                  subst this
                  rw [hne]
                  cases a with
                  | none => exact .of_src (Src.ofNil w (H.slc he') cap)
                  | some a => exact .of_src (Src.ofSlice w (H.slc he') a 0 cap [] (by simp) (by simp) (by simp))
                · obtain ⟨b, rfl, hat2⟩ := hat hne
                  refine .of_src (Src.ofSlice w (H.slc he') _ xs.length cap css.flatten ?_ (fun j u hu => ?_) (fun u hu => ?_))
                  · rw [flat_len hsz, ← hl, hkz hne, hq hne]
                  · rw [addr_add]; exact hat2 j u hu
                  · obtain ⟨cc, hc, hu⟩ := List.mem_flatten.1 hu
                    obtain ⟨j, hj⟩ := List.mem_iff_getElem?.1 hc
                    have hlt := (List.getElem?_eq_some_iff.1 hj).1
                    exact ((hR j _ cc (List.getElem?_eq_getElem (by omega)) hj).sg u hu).one
            · exact .inr (by simpa using hq)
          have hG := appendTo_good (X := X1) H hC1 M1 (tx := tx) (ty := ty) (v := v) hd (hu.mono E1) (fun _ hz => by
            rcases S with S | S
            · exact ⟨css, S⟩
            · exact absurd (hz (by have := S.1; simp only [LS.len]; omega)) S.2) hok h1
          obtain ⟨u', w', X', g1, g2, g3, g4⟩ := hG
          exact ⟨u', w', X', g1, E1.trans g2, g3, g4⟩
      cases hL with
      | nil e1 e2 e3 =>
        cases e1
        rcases hcase with ⟨_, _, q, _⟩ | ⟨_, q, hv'⟩
        · cases q
        · have hx0 : xs.length = 0 := e2
          have := List.length_eq_zero_iff.1 hx0
          subst this
          exact main (css := []) (a := none) (cap := 0) (by rw [hv']; rfl) (by simp) rfl (by simp) (by simp) (fun h => absurd rfl h)
      | blk k1 k2 k3 k4 =>
        rename_i b cp n c rest ee f
        obtain ⟨q1, q2, q3, q4⟩ := k4 _ rfl
        rcases hcase with ⟨b', cap, p1, p2, hv'⟩ | ⟨p, _⟩
        case inr => cases p
        cases p1
        cases k3 with
        | @lst _ css h0 h2 h3 h4 =>
          have q1 : xs.length = n := q1
          refine main (css := css) (a := some ⟨b, 0, none⟩) (cap := cp) (by rw [hv', q1]) (by omega) h2.symm h4 h3 (fun _ => ⟨b, rfl, fun j u hu => ?_⟩)
          rw [cell_of k2, Nat.zero_add, List.getElem?_toArray, List.getElem?_append_left (List.getElem?_eq_some_iff.1 hu).1]
          exact hu
    · rename_i hg
      -- plain lists
      rcases h.srcM_inv with ⟨t, q, _⟩ | ⟨lent, l2, hs, hsol, h⟩
      · cases q
      · cases hs
        obtain ⟨a, cap, css, rfl, S⟩ := slice_cells M hv (lent := true) (.mw hl)
        exact appendTo_good H hC M hd hu (fun _ hsz => src_slice S hsol (H.slc he') hsz) S.ok h
  · rename_i n
    obtain ⟨rfl, hn⟩ := hv.int
    obtain ⟨kx, hkx⟩ : ∃ kx, T.d tx = .int kx := by
      cases hdx : T.d tx <;> simp [hdx] at hk ⊢
    obtain ⟨g0, h1⟩ := h.gd_inv
    obtain ⟨g1, h2⟩ := h1.gd_inv
    have g0 := of_decide_eq_true g0
    have g1 := Nat.ble_eq.mp g1
    split at h2
    case h_2 => exact h2.fail_inv.elim
    rename_i l hl
    have hb : 1 ≤ T.bytes e := by obtain ⟨hb, _⟩ := cond_fail h2; exact Nat.ble_eq.mp hb
    obtain ⟨css, hlen, S⟩ := src_zeros (w := w) (X := X) H hC he (H.int hkx) g0 hb g1 hl
    exact appendTo_good H hC M hd hu (fun _ _ => ⟨css, S⟩) S.ok h2
  · rename_i x hne1 hne2
    refine src hv (fun ⟨t, ht⟩ => ?_) (fun lent l hs => ?_) h
    · subst ht
      cases hdx : T.d tx <;> simp [hdx] at hk ⊢
    · cases hs <;> cases hdx : T.d tx <;> simp [hdx] at hk ⊢
end
end Go.Proofs.Ytjnkppjlhmkjaaa.Av
