/- append. -/
import Derived.Test.YtjnkppjlhmkjaaaAvOp8
import Derived.Deep.AppendSrc
namespace Go.Proofs.Ytjnkppjlhmkjaaa.Av
open Go
variable {CT : Nat → Type}
theorem castT_eq {c c' : Nat} {l : List (CT c)} {l' : List (CT c')} (h : castT l = some l') : ∃ e : c = c', l' = e ▸ l := by
  unfold castT at h
  split at h
  · rename_i e _; cases h; exact ⟨e, rfl⟩
  · cases h
structure AppR (C : Cod CT) (l xs l' : LS CT (AV CT)) : Prop where
  len : l'.len = l.len + xs.len
  kind : l'.kind = l.kind
  sz : l.Ok C → xs.Ok C → xs.sz = l.sz
  get : ∀ (j : Nat) (a : AV CT), l'.get? C j = some a → (j < l.len ∧ l.get? C j = some a) ∨ (l.len ≤ j ∧ xs.get? C (j - l.len) = some a)
theorem app_spec {C : Cod CT} {l xs l' : LS CT (AV CT)} (h : l.app xs = some l') : AppR C l xs l' := by
  have g : ∀ {α : Type} (a b : List α) (f : α → AV CT) (j : Nat) (v : AV CT), ((a ++ b)[j]?.map f) = some v → (j < a.length ∧ (a[j]?.map f) = some v) ∨ (a.length ≤ j ∧ (b[j - a.length]?.map f) = some v) := by
    intro α a b f j v h
    by_cases hj : j < a.length
    · rw [List.getElem?_append_left hj] at h; exact .inl ⟨hj, h⟩
    · rw [List.getElem?_append_right (by omega)] at h; exact .inr ⟨by omega, h⟩
  unfold LS.app at h
  split at h
  · cases h; exact ⟨by simp [LS.len], rfl, fun _ _ => rfl, fun j a ha => g _ _ _ j a ha⟩
  · rename_i k a k' b
    cases hk : kindEq k k' with
    | false => rw [hk] at h; cases h
    | true =>
      rw [hk] at h; cases h
      obtain rfl := kindEq_eq hk
      exact ⟨by simp [LS.len], rfl, fun _ _ => rfl, fun j a ha => g _ _ _ j a ha⟩
  · cases h; exact ⟨by simp [LS.len], rfl, fun _ _ => rfl, fun j a ha => g _ _ _ j a ha⟩
  · split at h
    · rename_i hb
      cases h
      obtain ⟨rfl, rfl⟩ := castT_eq hb
      exact ⟨by simp [LS.len], rfl, fun h1 h2 => h2.1.trans h1.1.symm, fun j a ha => g _ _ _ j a ha⟩
    · cases h
  · rename_i s a s' b
    cases hs : Nat.beq s s' with
    | false => rw [hs] at h; cases h
    | true =>
      rw [hs] at h; cases h
      obtain rfl := Nat.eq_of_beq_eq_true hs
      refine ⟨by simp [LS.len], rfl, fun _ _ => rfl, fun j v ha => ?_⟩
      have := g a b id j v (by simpa [LS.get?] using ha)
      simpa [LS.get?, LS.len] using this
  · cases h
/-- Lists whose elements read alike, lent or not. -/
def Solid (lent : Bool) : LS CT (AV CT) → Prop
  | .gen _ _ => False
  | .typ _ _ sc _ => (!lent || sc) = true
  | _ => True
theorem SliceC.solid {X : Cx CT} {w : World} {lent : Bool} {l : LS CT (AV CT)} {a : Option Addr} {css : List (List Value)} (S : SliceC X w lent l a css) (hs : Solid lent l) :
    ∀ (j : Nat) (b : AV CT) (c : List Value), l.get? X.C j = some b → css[j]? = some c → R X b c := by
  intro j b c hb hc
  have h := S.el j b c hb hc
  have hok := S.ok
  cases l with
  | gen s l => exact hs.elim
  | typ c' s sc l =>
    simp only [LS.get?, Option.map_eq_some_iff] at hb
    obtain ⟨x, _, rfl⟩ := hb
    simp only [Solid, Bool.or_eq_true, Bool.not_eq_true'] at hs
    rcases hs with rfl | hs
    · rwa [taint_false] at h
    · rwa [X.C.scal_ok _ _ _ (hok.2 hs)] at h
  | _ =>
    simp only [LS.get?, Option.map_eq_some_iff] at hb
    obtain ⟨x, _, rfl⟩ := hb
    exact h
section
variable {P : Program} {T : TyTab CT} {CR : CallR CT} {X0 X : Cx CT} {W w : World} {ob ob' : Ob CT} {r : AV CT}
/-- Two lists' cells, put together. -/
theorem app_cells {l xs l' : LS CT (AV CT)} (A : AppR X.C l xs l') (h0 : l.Ok X.C) (h0x : xs.Ok X.C) {c1 c2 : List (List Value)} (n1 : c1.length = l.len) (n2 : c2.length = xs.len)
    (s1 : ∀ c ∈ c1, c.length = l.sz) (s2 : ∀ c ∈ c2, c.length = xs.sz) (r1 : ∀ (j : Nat) (b : AV CT) (c : List Value), l.get? X.C j = some b → c1[j]? = some c → R X b c)
    (r2 : ∀ (j : Nat) (b : AV CT) (c : List Value), xs.get? X.C j = some b → c2[j]? = some c → R X b c) : R X (.lst l') (c1.flatten ++ c2.flatten) := by
  have hsz : l'.sz = l.sz := by rw [← LS.kindSz, A.kind, LS.kindSz]
  have := R.lst (X := X) (l := l') (css := c1 ++ c2) (LS.kindOk.2 (A.kind ▸ LS.kindOk.1 h0)) (by rw [List.length_append, A.len, n1, n2]) ?_ ?_
  · rwa [List.flatten_append] at this
  · intro j a c ha hc
    rcases A.get j a ha with ⟨h1, h2⟩ | ⟨h1, h2⟩
    · rw [List.getElem?_append_left (by omega)] at hc; exact r1 j a c h2 hc
    · rw [List.getElem?_append_right (by omega), n1] at hc; exact r2 _ a c h2 hc
  · intro c hc
    rcases List.mem_append.1 hc with hc | hc
    · rw [hsz]; exact s1 c hc
    · rw [hsz, ← A.sz h0 h0x]; exact s2 c hc
/-- What a source of an append does: where nothing is there, where there is room, where there is none. -/
structure ASrc (P : Program) (e : TypeId) (sz : Nat) (tx : TypeId) (x : Value) (n : Nat) (news : List Value) (w : World) : Prop where
  newsLen : news.length = n * sz
  one : ∀ u ∈ news, u.oneCell' = true
  nil : ∀ (t ty : TypeId) (i : TypeInfo), P.underlying t = some (.slice e) → P.info? e = some i → i.size = sz → n = 0 → (Builtin.append_ #[t, tx] ty #[.slice none 0 0, x]).run P w = .ok (.slice none 0 0) w
  room : ∀ (t ty : TypeId) (i : TypeInfo) (b sLen sCap : Nat) (w1 : World), P.underlying t = some (.slice e) → P.info? e = some i → i.size = sz → sLen + n ≤ sCap → (storeCells ⟨b, sLen * sz, none⟩ news 0).run P w = .ok () w1 →
    (Builtin.append_ #[t, tx] ty #[.slice (some ⟨b, 0, none⟩) sLen sCap, x]).run P w = .ok (.slice (some ⟨b, 0, none⟩) (sLen + n) sCap) w1
  grow : ∀ (t ty : TypeId) (i : TypeInfo) (z : Value), P.underlying t = some (.slice e) → P.info? e = some i → i.size = sz → i.zero = some z → ∀ (base : Option Addr) (sLen sCap : Nat) (olds : List Value),
    (Builtin.firstCells i.size sLen (.slice base sLen sCap)).run P w.drew = .ok olds.toArray w.drew → sCap < sLen + n → ((sLen + n : Nat) : Int) ≤ 9223372036854775807 → Builtin.nextslicecap (sLen + n) sCap * i.bytes ≤ 281474976710656 →
    (Builtin.append_ #[t, tx] ty #[.slice base sLen sCap, x]).run P w =
      .ok (.slice (some ⟨w.heap.size, 0, none⟩) (sLen + n) (grownCap w (sLen + n) sCap e))
        (w.drew.alloc (.cells ((olds ++ news).toArray ++ Builtin.zeroCells z.cells (grownCap w (sLen + n) sCap e - (sLen + n))) e))
theorem ASrc.of_src {P : Program} {e : TypeId} {sz : Nat} {tx : TypeId} {x : Value} {n : Nat} {news : List Value} {w : World} (S : Src P sz tx x n news w) : ASrc P e sz tx x n news w := by
  refine ⟨S.newsLen, S.one, fun t ty i ht hi hs h0 => ?_, fun t ty i b sLen sCap w1 ht hi hs hroom hst => ?_, fun t ty i z ht hi hs hz base sLen sCap olds hold hg h63 hfit => ?_⟩
  · have hsc := S.cells
    subst h0
    rcases S.kind with ⟨e', hk'⟩ | hk' <;> simp [Builtin.append_, run_underlying ht, run_underlying hk', sizeOf, typeInfo, hi, S.len, hs, hsc]
  · have hsc := S.cells
    rcases S.kind with ⟨e', hk'⟩ | hk' <;> simp [Builtin.append_, run_underlying ht, run_underlying hk', sizeOf, typeInfo, hi, S.len, hroom, hs, hsc, Addr.add_lit, hst]
  · exact run_append_grow_src w t tx ty e i z ht hi hz base sLen sCap olds hold x n news (hs ▸ S) hg h63 hfit
/-- What is appended: a list that reads so, from a value. -/
structure SrcA (P : Program) (X : Cx CT) (w : World) (e sz : Nat) (tx : TypeId) (v : Value) (xs : LS CT (AV CT)) (css : List (List Value)) : Prop where
  ok : xs.Ok X.C
  le : xs.len ≤ maxI
  n : css.length = xs.len
  each : ∀ c ∈ css, c.length = xs.sz
  el : ∀ (j : Nat) (b : AV CT) (c : List Value), xs.get? X.C j = some b → css[j]? = some c → R X b c
  src : ASrc P e sz tx v xs.len css.flatten w
theorem nilOf (k : LK) : (k.nil : LS CT (AV CT)).len = 0 ∧ (k.nil : LS CT (AV CT)).sz = k.sz ∧ (k.nil : LS CT (AV CT)).kind = k := by cases k <;> exact ⟨rfl, rfl, rfl⟩
theorem nilOk {C : Cod CT} {k : LK} (h : k.Ok C) : (k.nil : LS CT (AV CT)).Ok C := LS.kindOk.2 (by rw [(nilOf (CT := CT) k).2.2]; exact h)
theorem flat_len {css : List (List Value)} {s : Nat} (h : ∀ c ∈ css, c.length = s) : css.flatten.length = css.length * s := flatten_len s css h

theorem appendNil_good (H : TabOk P T) (hC : X.C = T.C) (M : Mem X0 W X ob w) {t tx ty e d : Nat} (hd : T.d t = .slc e) {kd : LK} {xs l : LS CT (AV CT)} (hk : kd.Ok X.C) (hsz : kd.sz = T.sz e) (hb : 1 ≤ T.bytes e)
    (happ : kd.nil.app xs = some l) (hlen : xs.len * T.bytes e ≤ most) {v : Value} {css : List (List Value)} (S : SrcA P X w e (T.sz e) tx v xs css)
    (h : Ev CR (newObj d (.lst l) (.ret (.mw d kd))) ob r ob') : Good P X0 X W w (do Pure.pure (.value (← Builtin.append_ #[t, tx] ty #[.slice none 0 0, v]))) r ob' := by
  obtain ⟨g1, g2, g3⟩ := h.newObj_inv
  obtain ⟨rfl, rfl⟩ := g3.ret_inv
  have A := app_spec (C := X.C) happ
  have hl : l.len = xs.len := by rw [A.len, (nilOf kd).1, Nat.zero_add]
  have hls : l.sz = T.sz e := by rw [← LS.kindSz, A.kind, (nilOf kd).2.2, hsz]
  have hxs : xs.sz = T.sz e := by rw [A.sz (nilOk hk) S.ok, (nilOf kd).2.1, hsz]
  have he := H.elS _ _ hd
  obtain ⟨i, u, z, hi, _, _, his, hiz, hz, hzr, _, _, hzs⟩ := H.ok e he
  have hR : R X (.lst l) css.flatten := by
    have := app_cells A (nilOk hk) S.ok (c1 := []) (c2 := css) (by simp [(nilOf kd).1]) S.n (by simp) S.each (by simp) S.el
    simpa using this
  rcases Nat.eq_zero_or_pos xs.len with h0 | h0
  · obtain ⟨E, M'⟩ := M.newNil g1 (l := l) (by omega) (LS.kindOk.2 (A.kind ▸ LS.kindOk.1 (nilOk hk)))
    refine .of_step E M' (u := .slice none 0 0) ?_ (RC.rv (R.rc1 (a := .mw d kd) (.mw hk (.inl rfl) trivial fun o ho => ?_) rfl))
    · exact S.src.nil t ty i (H.slc hd) hi his h0
    · simp [Cx.new] at ho; subst ho; exact ⟨by simp [maxI], .inr ⟨rfl, rfl, rfl⟩⟩
  · have h63 : ((0 + xs.len : Nat) : Int) ≤ 9223372036854775807 := by have := S.le; simp only [maxI] at this; omega
    have hfit : Builtin.nextslicecap (0 + xs.len) 0 * i.bytes ≤ 281474976710656 := growslice_fits (by omega) (by rw [Nat.zero_add, hiz]; simp only [most] at hlen; omega)
    have hrun := S.src.grow t ty i z (H.slc hd) hi his hz none 0 0 [] (run_firstCells_none w.drew i.size 0 0 0) (by omega) h63 hfit
    rw [Nat.zero_add, List.nil_append] at hrun
    have hcap : xs.len ≤ grownCap w xs.len 0 e := Nat.le_add_right _ _
    have hrest : (Builtin.zeroCells z.cells (grownCap w xs.len 0 e - xs.len)).size = (grownCap w xs.len 0 e - xs.len) * T.sz e := by rw [size_zeroCells, hzs]
    obtain ⟨E, M'⟩ := M.new g1 g2 hR (rest := (Builtin.zeroCells z.cells (grownCap w xs.len 0 e - xs.len)).toList) (e := e) (cp := grownCap w xs.len 0 e) (n := xs.len) (fun l' e' => by
      cases e'
      refine ⟨hl, S.le, hcap, ?_⟩
      rw [List.length_append, flat_len S.each, S.n, hls, hxs, Array.length_toList, hrest, ← Nat.add_mul, Nat.add_sub_of_le hcap])
      (cells := css.flatten.toArray ++ Builtin.zeroCells z.cells (grownCap w xs.len 0 e - xs.len)) (by apply Array.ext'; simp) (w.drawn + 1)
    exact .of_step E M' hrun (mw_new hk S.le hcap)
theorem SrcA.mono {X' : Cx CT} {e sz tx : Nat} {v : Value} {xs : LS CT (AV CT)} {css : List (List Value)} (S : SrcA P X w e sz tx v xs css) (E : Le X X') : SrcA P X' w e sz tx v xs css :=
  ⟨E.C ▸ S.ok, S.le, S.n, S.each, fun j b c hb hc => (S.el j b c (E.C ▸ hb) hc).mono E, S.src⟩

theorem appendMw_good (H : TabOk P T) (hC : X.C = T.C) (M : Mem X0 W X ob w) {t tx ty e d id : Nat} (hd : T.d t = .slc e) {kd : LK} {xs l l' : LS CT (AV CT)} (hsz : kd.sz = T.sz e) (hb : 1 ≤ T.bytes e)
    {u : Value} (hu : RV X (.mw id kd) u) (hl : ob.get id = some (some (.lst l))) (hls : l.sz = T.sz e)
    (happ : l.app xs = some l') (hlen : l'.len * T.bytes e ≤ most) {v : Value} {css : List (List Value)} (S : SrcA P X w e (T.sz e) tx v xs css)
    (h : Ev CR (newObj d (.lst l') (.ret (.mw d kd))) (ob.set id none) r ob') : Good P X0 X W w (do Pure.pure (.value (← Builtin.append_ #[t, tx] ty #[u, v]))) r ob' := by
  obtain ⟨g1, g2, g3⟩ := h.newObj_inv
  obtain ⟨rfl, rfl⟩ := g3.ret_inv
  have A := app_spec (C := X.C) happ
  have he := H.elS _ _ hd
  obtain ⟨i, _, z, hi, _, _, his, hiz, hz, hzr, _, _, hzs⟩ := H.ok e he
  obtain ⟨hk, hus, hloc⟩ := hu.mw
  obtain ⟨o, ho, hL⟩ := M.loc hl
  obtain ⟨hmx, hcase⟩ := hloc o ho
  have hl's : l'.sz = T.sz e := by rw [← LS.kindSz, A.kind, LS.kindSz, hls]
  have hm : most ≤ maxI := by decide
  have hl'm : l'.len ≤ maxI := by
    have : l'.len ≤ l'.len * T.bytes e := Nat.le_mul_of_pos_right _ hb
    omega
  have E1 := X.kill_le id
  have M1 := M.kill id
  have growth : ∀ (base : Option Addr) (sLen sCap : Nat) (olds : List Value), sLen = l.len → olds.length = l.len * T.sz e → R X (.lst l') (olds ++ css.flatten) → (Builtin.firstCells i.size sLen (.slice base sLen sCap)).run P w.drew = .ok olds.toArray w.drew →
      sCap < sLen + xs.len → u = .slice base sLen sCap → Good P X0 X W w (do Pure.pure (.value (← Builtin.append_ #[t, tx] ty #[u, v]))) (.mw d kd) ((ob.set id none).set d (some (.lst l'))) := by
    rintro base sLen sCap olds rfl hol hR hold hgr rfl
    have hn : l.len + xs.len = l'.len := A.len.symm
    have h63 : ((l.len + xs.len : Nat) : Int) ≤ 9223372036854775807 := by rw [hn]; simp only [maxI] at hl'm; omega
    have hfit : Builtin.nextslicecap (l.len + xs.len) sCap * i.bytes ≤ 281474976710656 := growslice_fits hgr (by rw [hn, hiz]; simp only [most] at hlen; omega)
    have hrun := S.src.grow t ty i z (H.slc hd) hi his hz base l.len sCap olds hold hgr h63 hfit
    have hcap : l'.len ≤ grownCap w (l.len + xs.len) sCap e := by rw [← hn]; exact Nat.le_add_right _ _
    have hrest : (Builtin.zeroCells z.cells (grownCap w (l.len + xs.len) sCap e - (l.len + xs.len))).size = (grownCap w (l.len + xs.len) sCap e - (l.len + xs.len)) * T.sz e := by rw [size_zeroCells, hzs]
    obtain ⟨E, M'⟩ := M1.new g1 g2 (hR.mono E1) (rest := (Builtin.zeroCells z.cells (grownCap w (l.len + xs.len) sCap e - (l.len + xs.len))).toList) (e := e) (cp := grownCap w (l.len + xs.len) sCap e) (n := l'.len) (fun l2 e' => by
      cases e'
      refine ⟨rfl, hl'm, hcap, ?_⟩
      have hc : l.len + xs.len ≤ grownCap w (l.len + xs.len) sCap e := by rw [hn]; rw [hn] at hcap; exact hcap
      have hcs : css.flatten.length = xs.len * T.sz e := S.src.newsLen
      rw [List.length_append, List.length_append, hol, hcs, hl's, Array.length_toList, hrest, ← Nat.add_mul, ← Nat.add_mul, Nat.add_sub_of_le hc])
      (cells := (olds ++ css.flatten).toArray ++ Builtin.zeroCells z.cells (grownCap w (l.len + xs.len) sCap e - (l.len + xs.len))) (by apply Array.ext'; simp) (w.drawn + 1)
    refine .of_step (E1.trans E) M' hrun ?_
    rw [hn]
    rw [hn] at hcap
    exact mw_new hk hl'm hcap
  cases hL with
  | nil e1 e2 e3 =>
    cases e1
    rcases hcase with ⟨_, _, q, _⟩ | ⟨_, _, rfl⟩
    · cases q
    rcases Nat.eq_zero_or_pos xs.len with h0 | h0
    · obtain ⟨E, M'⟩ := M1.newNil g1 (l := l') (by rw [A.len, e2, h0]) (LS.kindOk.2 (A.kind ▸ LS.kindOk.1 e3))
      refine .of_step (E1.trans E) M' (u := .slice none 0 0) ?_ (RC.rv (R.rc1 (a := .mw d kd) (.mw hk (.inl rfl) trivial fun o ho => ?_) rfl))
      · exact S.src.nil t ty i (H.slc hd) hi his h0
      · simp [Cx.new] at ho; subst ho; exact ⟨by simp [maxI], .inr ⟨rfl, rfl, rfl⟩⟩
    · refine growth none 0 0 [] e2.symm (by rw [e2]; simp) ?_ (run_firstCells_none w.drew i.size 0 0 0) (by omega) rfl
      have := app_cells A e3 S.ok (c1 := []) (c2 := css) (by simp [e2]) S.n (by simp) S.each (by simp) S.el
      simpa using this
  | blk k1 k2 k3 k4 =>
    rename_i b cp n c rest ee f
    obtain ⟨q1, q2, q3, q4⟩ := k4 l rfl
    rcases hcase with ⟨b', cap, p1, p2, rfl⟩ | ⟨p, _⟩
    case inr => cases p
    cases p1
    cases k3 with
    | @lst _ c1 h0 h2 h3 h4 =>
      have hcl : c1.flatten.length = l.len * T.sz e := by rw [flat_len h4, h2, hls]
      have hR : R X (.lst l') (c1.flatten ++ css.flatten) := app_cells A h0 S.ok h2 S.n h4 S.each h3 S.el
      have hcs : css.flatten.length = xs.len * T.sz e := S.src.newsLen
      by_cases hroom : n + xs.len ≤ cp
      · have hL := M.locIn _ _ _ _ ho
        have hoff : n * T.sz e = c1.flatten.length := by rw [hcl, q1]
        have hle : n * T.sz e + css.flatten.length ≤ (c1.flatten ++ rest).length := by
          rw [hcs, ← Nat.add_mul, ← q4, hls]; exact Nat.mul_le_mul_right _ hroom
        have hst := run_storeCells_fr P b (n * T.sz e) ee f css.flatten 0 (c1.flatten ++ rest).toArray w (by simpa using k1.2) k2 (by simpa using hle) S.src.one
        have hcur : ((c1.flatten ++ rest).toArray.toList.take (n * T.sz e + 0) ++ css.flatten ++ (c1.flatten ++ rest).toArray.toList.drop (n * T.sz e + 0 + css.flatten.length)).toArray = ((c1.flatten ++ css.flatten) ++ rest.drop css.flatten.length).toArray := by
          rw [Nat.add_zero, hoff]
          simp [List.take_append, List.drop_append]
        rw [hcur] at hst
        have hrun : (Builtin.append_ #[t, tx] ty #[.slice (some ⟨b, 0, none⟩) n cp, v]).run P w = .ok (.slice (some ⟨b, 0, none⟩) (n + xs.len) cp) (w.setRow b ((c1.flatten ++ css.flatten) ++ rest.drop css.flatten.length).toArray) := by
          exact S.src.room t ty i b n cp _ (H.slc hd) hi his hroom hst
        obtain ⟨E, M'⟩ := M1.set (id := d) (b := b) (cp := cp) (n := l'.len) (w' := w.setRow b ((c1.flatten ++ css.flatten) ++ rest.drop css.flatten.length).toArray) (.inl g1) hL.1 hL.2.1 hL.2.2 (fun j c' n' _ hj => by
            simp only [Cx.kill] at hj
            split at hj
            · cases hj
            · rename_i hne; exact hne (M.inj _ _ _ _ _ _ _ hj ho)) rfl rfl rfl (by simp [World.setRow]) (fun k hk _ => by simp only [World.setRow, Array.getElem?_modify]; rw [if_neg (Ne.symm hk)]) rfl
            (c := c1.flatten ++ css.flatten) (rest := rest.drop css.flatten.length) (e := ee) (f := f) (by
              have : ((c1.flatten ++ css.flatten) ++ rest.drop css.flatten.length).length = (c1.flatten ++ rest).length := by
                simp only [List.length_append, List.length_drop] at hle ⊢; omega
              rw [this]; exact k1.2) (setRow_heap w b _ _ _ _ k2) (hR.mono E1) (fun l2 e' => by
              cases e'
              refine ⟨rfl, hl'm, by rw [A.len, q1]; exact hroom, ?_⟩
              have : ((c1.flatten ++ css.flatten) ++ rest.drop css.flatten.length).length = (c1.flatten ++ rest).length := by
                simp only [List.length_append, List.length_drop] at hle ⊢; omega
              rw [this, ← q4, hl's, hls])
        refine .of_step (E1.trans E) M' hrun ?_
        have hn : n + xs.len = l'.len := by rw [A.len, q1]
        rw [hn]
        exact mw_new hk hl'm (by omega)
      · refine growth (some ⟨b, 0, none⟩) n cp c1.flatten q1.symm hcl hR ?_ (by omega) rfl
        refine run_firstCells_some w.drew i.size n ⟨b, 0, none⟩ n cp c1.flatten (by rw [hcl, q1, his]) (fun j x hj => ?_)
        rw [addr_add, Nat.zero_add]
        show w.cell? _ = _
        rw [cell_of k2, List.getElem?_toArray, List.getElem?_append_left (List.getElem?_eq_some_iff.1 hj).1]
        exact hj
end
end Go.Proofs.Ytjnkppjlhmkjaaa.Av
