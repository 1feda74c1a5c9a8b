/- Calls: what is lent reads as a value; the call itself. -/
import Derived.Test.YtjnkppjlhmkjaaaAvCall2
import Derived.Calls
namespace Go.Proofs.Ytjnkppjlhmkjaaa.Av
open Go
variable {CT : Nat → Type}
theorem taint_size (b : Bool) (a : AV CT) : (a.taint b).size = a.size := by unfold AV.taint; split <;> rfl
theorem vs_mk {Y : Cx CT} {l : LS CT (AV CT)} {css : List (List Value)} {b off cap : Nat} {cs : Array Value} (hok : l.Ok Y.C) (hm : l.len ≤ maxI ∧ l.len ≤ cap) (hn : css.length = l.len) (hsz : ∀ c ∈ css, c.length = l.sz)
    (hel : ∀ (j : Nat) (a : AV CT) (c : List Value), l.get? Y.C j = some a → css[j]? = some c → R Y (a.taint true) c) (hid : ∀ (j : Nat) (a : AV CT), l.get? Y.C j = some a → a.ids = []) (hot : Y.ot b = some cs)
    (hcs : ∀ (j : Nat) (v : Value), css.flatten[j]? = some v → cs[off + j]? = some v) : R Y (.vs true l) [.slice (some ⟨b, off, none⟩) l.len cap] := by
  have key : ∀ (j : Nat) (a : AV CT), l.get? Y.C j = some a → ∃ c, css[j]? = some c ∧ css.getD j [] = c := by
    intro j a ha
    have hlt := get_lt _ ha
    have hc : css[j]? = some css[j] := List.getElem?_eq_getElem (by omega)
    exact ⟨_, hc, by simp [List.getD, hc]⟩
  refine .vs (fun j => css.getD j []) hok hm (fun j a ha => ?_) (fun j a ha => ?_)
  · obtain ⟨c, h1, h2⟩ := key j a ha
    rw [h2]; exact hel j a c ha h1
  · obtain ⟨c, h1, h2⟩ := key j a ha
    rw [h2]
    refine ⟨hid j a ha, hsz c (List.mem_of_getElem? h1), cs, .inr ⟨rfl, hot⟩, fun k v hk => ?_⟩
    have := hcs _ v (flat_get hsz h1 hk)
    rwa [← Nat.add_assoc] at this
section
variable {P : Program} {T : TyTab CT} {CR : CallR CT} {X0 X : Cx CT} {W w : World} {ob ob' : Ob CT} {ids : List Nat} {r : AV CT}
/-- Objects that are lent, and all that they reach, are not handed along. -/
structure LentOk (ob : Ob CT) (ids ls : List Nat) : Prop where
  apart : ∀ i ∈ ls, i ∉ ids
  reach : ∀ i ∈ ls, ∃ a, ob.get i = some (some a) ∧ ∀ j ∈ a.ids, j ∈ ls
theorem lend_ok (M : Mem X0 W X ob w) {ls : List Nat} (L : LentOk ob ids ls) {a a' : AV CT} (h : LendR X.C ob a a') : ∀ {c : List Value}, R X a c → (∀ i ∈ a.tops, i ∈ ls) → R (X.side w ids) a' c ∧ a'.isAgg = a.isAgg := by
  -- a slice that is lent
  have slc : ∀ {x : AV CT} {v : Value} {l l' : LS CT (AV CT)}, RawAt X w ob x v l → (∀ i ∈ x.tops, i ∈ ls) → l'.Ok X.C → l'.len = l.len → (l.len ≠ 0 → l'.sz = l.sz) → (∀ (j : Nat) (a : AV CT), l'.get? X.C j = some a → a.ids = []) →
      (∀ css : List (List Value), css.length = l.len → (∀ c ∈ css, c.length = l.sz) → (∀ (j : Nat) (b : AV CT) (c : List Value), l.get? X.C j = some b → css[j]? = some c → R X b c) →
        ∀ (j : Nat) (a : AV CT) (c : List Value), l'.get? X.C j = some a → css[j]? = some c → R (X.side w ids) (a.taint true) c) → R (X.side w ids) (.vs true l') [v] := by
    intro x v l l' hraw ht hok' hlen hsz hid hel
    obtain ⟨id, hi, a0, ha0, _, ad, cap, css, rfl, S⟩ := hraw
    by_cases h0 : l.len = 0
    · rw [h0]; exact .vs0 hok' (hlen.trans h0)
    · obtain ⟨b, off, c, n, rfl, hl, hat⟩ := S.at_ h0
      obtain ⟨o, ho, hL⟩ := M.loc ha0
      rw [hl] at ho; cases ho
      cases hL with
      | blk k1 k2 k3 k4 =>
        rw [← hlen]
        refine vs_mk (css := css) hok' (by rw [hlen]; exact ⟨S.le, S.cap⟩) (by rw [hlen]; exact S.n) (fun c hc => by rw [hsz h0]; exact S.sz c hc) (hel css S.n S.sz S.el) hid (ot_obj (M.locIn _ _ _ _ hl).2.2 (L.apart _ (ht _ hi)) hl k2) (fun j v hj => ?_)
        have := hat j v hj
        rwa [cell_of k2] at this
  induction h with
  | plain hk hs hg =>
    intro c hr ht
    obtain ⟨v, rfl⟩ : ∃ v, c = [v] := by
      rcases hk with ⟨_, rfl⟩ | ⟨_, _, _, _, _, rfl⟩ <;> cases hr <;> exact ⟨_, rfl⟩
    refine ⟨?_, by rcases hk with ⟨_, rfl⟩ | ⟨_, _, _, _, _, rfl⟩ <;> rfl⟩
    obtain ⟨hkd, hraw⟩ := slice_raw M hk (R.rc1 hr (by rcases hk with ⟨_, rfl⟩ | ⟨_, _, _, _, _, rfl⟩ <;> rfl)).rv hs
    have hok : (by assumption : LS CT (AV CT)).Ok X.C := by obtain ⟨_, _, _, _, _, _, _, _, _, S⟩ := hraw; exact S.ok
    exact slc hraw ht hok rfl (fun _ => rfl) (fun j a ha => get_ids X.C (fun s x e => absurd e (hg s x)) ha) (fun css _ _ hel j a c ha hc => ((hel j a c ha hc).mono side_le).taint true)
  | @gen x lent kd s xs xs' hk hs hl hsub hids ih =>
    intro c hr ht
    obtain ⟨v, rfl⟩ : ∃ v, c = [v] := by
      rcases hk with ⟨_, rfl⟩ | ⟨_, _, _, _, _, rfl⟩ <;> cases hr <;> exact ⟨_, rfl⟩
    refine ⟨?_, by rcases hk with ⟨_, rfl⟩ | ⟨_, _, _, _, _, rfl⟩ <;> rfl⟩
    obtain ⟨hkd, hraw⟩ := slice_raw M hk (R.rc1 hr (by rcases hk with ⟨_, rfl⟩ | ⟨_, _, _, _, _, rfl⟩ <;> rfl)).rv hs
    have hraw' := hraw
    obtain ⟨id, hi, a0, ha0, hin, ad, cap, css0, e, S⟩ := hraw'
    -- elements
    have hel : ∀ (j : Nat) (a : AV CT) (c : List Value), xs[j]? = some a → R X a c → ∃ a', xs'[j]? = some a' ∧ R (X.side w ids) a' c := by
      intro j a c ha hc
      have hlt := (List.getElem?_eq_some_iff.1 ha).1
      have ha' : xs'[j]? = some xs'[j] := List.getElem?_eq_getElem (by omega)
      refine ⟨_, ha', (ih j a _ ha ha' hc fun i hi' => ?_).1⟩
      obtain ⟨a1, g1, g2⟩ := L.reach _ (ht _ hi)
      rw [ha0] at g1; cases g1
      exact g2 _ (hin _ (by simp only [AV.ids]; exact idss_mem ha (tops_ids a i hi')))
    cases hq : LS.tidy X.C kd s xs' with
    | gen s2 ys =>
      have : s2 = s ∧ ys = xs' := by
        unfold LS.tidy at hq
        split at hq
        · split at hq <;> cases hq; exact ⟨rfl, rfl⟩
        · cases hq; exact ⟨rfl, rfl⟩
      obtain ⟨rfl, rfl⟩ := this
      refine slc hraw ht trivial hl.symm (fun _ => rfl) (fun j a ha => idss_nil hids ha) (fun css hn _ he j a c ha hc => ?_)
      have hlt := (List.getElem?_eq_some_iff.1 hc).1
      have hx : xs[j]? = some xs[j] := List.getElem?_eq_getElem (by have : css.length = xs.length := hn; omega)
      obtain ⟨a', g1, g2⟩ := hel j _ c hx (he j _ c hx hc)
      simp only [LS.get?] at ha
      rw [ha] at g1; cases g1
      exact g2.taint true
    | typ c s2 sc ys =>
      have : kd = .typ c s2 sc ∧ decAll X.C c xs' = some ys := by
        unfold LS.tidy at hq
        split at hq
        · split at hq
          · rename_i h; cases hq; exact ⟨rfl, h⟩
          · cases hq
        · cases hq
      obtain ⟨rfl, hy⟩ := this
      obtain ⟨d1, d2⟩ := decAll_get hy
      have key : ∀ (j : Nat) (a : AV CT) (cc : List Value), (LS.typ c s2 sc ys : LS CT (AV CT)).get? X.C j = some a → xs[j]? = some (xs.getD j .junk) → R X (xs.getD j .junk) cc → R (X.side w ids) (a.taint true) cc := by
        intro j a cc ha hx hr
        simp only [LS.get?, Option.map_eq_some_iff] at ha
        obtain ⟨y, hy1, rfl⟩ := ha
        obtain ⟨a', g1, g2⟩ := hel j _ cc hx hr
        obtain ⟨y', q1, q2⟩ := d2 j a' g1
        rw [hy1] at q1; cases q1
        rw [q2]; exact g2.unlent
      have hgd : ∀ j, j < xs.length → xs[j]? = some (xs.getD j .junk) := fun j hj => by simp [List.getD, List.getElem?_eq_getElem hj]
      refine slc hraw ht hkd (by simp only [LS.len]; omega) (fun hne => ?_) (fun j a ha => ?_) (fun css hn _ he j a cc ha hc => ?_)
      · have hne : xs.length ≠ 0 := hne
        have hn0 : css0.length = xs.length := S.n
        have hc0 : css0[0]? = some (css0[0]'(by omega)) := List.getElem?_eq_getElem (by omega)
        obtain ⟨y, hy1⟩ : ∃ y, ys[0]? = some y := ⟨ys[0]'(by omega), List.getElem?_eq_getElem (by omega)⟩
        have h1 := (key 0 (X.C.enc c y) _ (by simp [LS.get?, hy1]) (hgd 0 (by omega)) (S.el 0 _ _ (hgd 0 (by omega)) hc0)).size
        rw [S.sz _ (List.mem_of_getElem? hc0)] at h1
        rw [taint_size, X.C.size_ok] at h1
        show s2 = s
        have h3 : s = X.C.csz c := h1
        rw [h3]; exact hkd.1
      · simp only [LS.get?, Option.map_eq_some_iff] at ha
        obtain ⟨y, _, rfl⟩ := ha
        exact X.C.ids_ok _ _
      · have hlt := (List.getElem?_eq_some_iff.1 hc).1
        have hlt : j < xs.length := by have : css.length = xs.length := hn; omega
        exact key j a cc ha (hgd j hlt) (he j _ cc (hgd j hlt) hc)
    | _ =>
      unfold LS.tidy at hq
      split at hq
      · split at hq <;> cases hq
      · cases hq
  | vnil =>
    intro c hr ht
    cases hr with
    | vnil hk => exact ⟨.vs0 (nil_ok _ hk) nil_len, rfl⟩
  | @agg s fs fs' hl hsub ih =>
    intro c hr ht
    cases hr with
    | @agg _ css hl' hR =>
      refine ⟨.agg (hl.symm.trans hl') fun j a c ha hc => ?_, rfl⟩
      have hlt := (List.getElem?_eq_some_iff.1 ha).1
      have hf : fs[j]? = some fs[j] := List.getElem?_eq_getElem (by omega)
      exact (ih j _ a hf ha (hR j _ c hf hc) fun i hi => ht i (by simp only [AV.tops]; exact topss_mem hf hi)).1
  | same => intro c hr _; exact ⟨hr.mono side_le, rfl⟩
theorem lend_rv (M : Mem X0 W X ob w) {ls : List Nat} (L : LentOk ob ids ls) {a a' : AV CT} (h : LendR X.C ob a a') {v : Value} (hv : RV X a v) (ht : ∀ i ∈ a.tops, i ∈ ls) : RV (X.side w ids) a' v := by
  by_cases he : a' = a
  · subst he; exact hv.mono side_le
  · have hc : a.isCell = true := by
      cases h with
      | plain hk _ _ => rcases hk with ⟨_, rfl⟩ | ⟨_, _, _, _, _, rfl⟩ <;> rfl
      | gen hk => rcases hk with ⟨_, rfl⟩ | ⟨_, _, _, _, _, rfl⟩ <;> rfl
      | vnil => rfl
      | agg => rfl
      | same => exact absurd rfl he
    have hv := hv.rc hc
    obtain ⟨g1, g2⟩ := lend_ok M L h hv.1 ht
    exact RC.rv ⟨g1, fun e => hv.2.1 (g2 ▸ e), fun e => hv.2.2 (g2 ▸ e)⟩

/-! ### What a call comes to -/
structure ObRes (m : Nat) (res : Res CT) (ob : Ob CT) : Prop where
  n : res.outs.length = m
  out : ∀ q, q < m → ob.get (base + q) = res.outs[q]?
  new : ∀ q, q < res.news.length → ob.get (base + m + q) = (res.news[q]?).map some
def CallsOk (P : Program) (C : Cod CT) : CallR CT := fun f args objs res =>
  (∀ (as : Array Value) (w : World), (callFunc f as).run P w = .ok (.enter f as) w) ∧
  ∀ (Y : Cx CT) (w : World) (vs : List Value), Y.C = C → Mem Y w Y (objsFrom objs base) w → args.length = vs.length → (∀ (j : Nat) (a : AV CT) (v : Value), args[j]? = some a → vs[j]? = some v → RV Y a v) →
    Calls P f vs.toArray w fun e w' => ∃ u Z ob', e = .returned u ∧ Le Y Z ∧ Mem Y w Z ob' w' ∧ ObRes objs.length res ob' ∧ RV Z res.r u ∧ res.r.clean = true ∧ cleanO res.outs = true ∧ cleans res.news = true
theorem RV.ren {Y Z : Cx CT} {m : List (Nat × Nat)} (E : Emb Y Z m) {a : AV CT} {v : Value} (h : RV Y a v) : RV Z (a.ren m) v := by
  have one : ∀ {a : AV CT} {v : Value}, RC Y a v → RC Z (a.ren m) v := fun h => ⟨h.1.ren E, by simpa using h.2.1, by simpa using h.2.2⟩
  cases a with
  | junk => trivial
  | und => exact h
  | tup l =>
    obtain ⟨vs, h1, h2, h3⟩ := h
    refine (show ∃ vs' : List Value, _ from ⟨vs, h1, by rw [rens_len]; exact h2, fun j b u hb hu => ?_⟩)
    rw [rens_get, Option.map_eq_some_iff] at hb
    obtain ⟨a, ha, rfl⟩ := hb
    exact one (h3 j a u ha hu)
  | _ => exact (one (RV.rc h rfl)).rv
theorem RV.renC {Y Z : Cx CT} {m : List (Nat × Nat)} (E : EmbC Y Z m) {a : AV CT} {v : Value} (h : RV Y a v) (hc : a.clean = true) : RV Z (a.ren m) v := by
  have one : ∀ {a : AV CT} {v : Value}, a.clean = true → RC Y a v → RC Z (a.ren m) v := fun hc h => ⟨h.1.renC E hc, by simpa using h.2.1, by simpa using h.2.2⟩
  cases a with
  | junk => trivial
  | und => exact h
  | tup l =>
    obtain ⟨vs, h1, h2, h3⟩ := h
    refine (show ∃ vs' : List Value, _ from ⟨vs, h1, by rw [rens_len]; exact h2, fun j b u hb hu => ?_⟩)
    rw [rens_get, Option.map_eq_some_iff] at hb
    obtain ⟨a, ha, rfl⟩ := hb
    exact one (cleans_get hc ha) (h3 j a u ha hu)
  | _ => exact (one hc (RV.rc h rfl)).rv
theorem cleanO_get : ∀ {l : List (Option (AV CT))} {q : Nat} {a : AV CT}, cleanO l = true → l[q]? = some (some a) → a.clean = true
  | [], q, a, _, h => by simp at h
  | none :: l, 0, a, _, h => by simp at h
  | some b :: l, 0, a, hc, h => by
    simp only [cleanO, Bool.and_eq_true] at hc
    simp at h; exact h ▸ hc.1
  | none :: l, q + 1, a, hc, h => cleanO_get (l := l) (q := q) (by simpa [cleanO] using hc) (by simpa using h)
  | some b :: l, q + 1, a, hc, h => by
    simp only [cleanO, Bool.and_eq_true] at hc
    exact cleanO_get (l := l) (q := q) hc.2 (by simpa using h)
/-- The caller's place behind a call. -/
def Cx.back (X Z : Cx CT) (all : List Nat) : Cx CT :=
  ⟨X.C, Z.fz, X.ot, fun i => X.us i ∨ i ∈ all, fun i => match assoc (numbered all base) i with | some j => Z.loc j | none => X.loc i⟩
theorem mem_back (M : Mem X0 W X ob w) {Z : Cx CT} {ob2 : Ob CT} {w' : World} {all : List Nat} (hd : all.Nodup) (hids : ∃ t, all = ids ++ t)
    (E : Le (X.callee w ids) Z) (M' : Mem (X.callee w ids) w Z ob2 w')
    (hin : ∀ (q i : Nat), all[q]? = some i → ∃ o, ob2.get (base + q) = some o ∧ ob'.get i = some (o.map (AV.ren (swapped (numbered all base)))) ∧ ∀ a, o = some a → a.clean = true ∧ (a.ren (swapped (numbered all base))).isCell = true)
    (hout : ∀ i, i ∉ all → ob'.get i = ob.get i) (hnew : ∀ (q i : Nat), all[q]? = some i → ids.length ≤ q → ob.get i = none) :
    Le X (X.back Z all) ∧ Mem X0 W (X.back Z all) ob' w' ∧ EmbC Z (X.back Z all) (swapped (numbered all base)) := by
  obtain ⟨t, rfl⟩ := hids
  have loc_in : ∀ {q i : Nat}, (ids ++ t)[q]? = some i → (X.back Z (ids ++ t)).loc i = Z.loc (base + q) := by
    intro q i h
    simp only [Cx.back, (assoc_numbered hd).2 ⟨q, h, rfl⟩]
  have loc_out : ∀ {i : Nat}, i ∉ ids ++ t → (X.back Z (ids ++ t)).loc i = X.loc i := by
    intro i h
    simp only [Cx.back]
    cases ha : assoc (numbered (ids ++ t) base) i with
    | none => rfl
    | some j => obtain ⟨q, hq, _⟩ := (assoc_numbered hd).1 ha; exact absurd (List.mem_of_getElem? hq) h
  have mem_at : ∀ {i : Nat}, i ∈ ids ++ t → ∃ q, (ids ++ t)[q]? = some i := fun h => List.mem_iff_getElem?.1 h
  have old : ∀ {q i : Nat}, (ids ++ t)[q]? = some i → ob.get i ≠ none → q < ids.length ∧ ids[q]? = some i := by
    intro q i h hn
    rcases Nat.lt_or_ge q ids.length with hq | hq
    · rw [List.getElem?_append_left hq] at h; exact ⟨hq, h⟩
    · exact absurd (hnew q i h hq) hn
  have zloc : ∀ {q i : Nat} {o : Option (Nat × Nat) × Nat}, ids[q]? = some i → Z.loc (base + q) = some o → X.loc i = some o := by
    intro q i o h ho
    have := (E.us (base + q) ⟨q, (List.getElem?_eq_some_iff.1 h).1, rfl⟩).2 o ho
    rwa [callee_loc h] at this
  have ownY : ∀ {b : Nat}, Own (X.callee w ids) b → ∃ i c n, i ∈ ids ∧ X.loc i = some (some (b, c), n) := by
    rintro b ⟨j, c, n, h⟩
    obtain ⟨q, i, h1, _, h2⟩ := callee_loc_inv h
    exact ⟨i, c, n, List.mem_of_getElem? h1, h2⟩
  have otZ : ∀ {i b c n : Nat}, i ∉ ids → X.loc i = some (some (b, c), n) → ∃ cs, Z.ot b = some cs := by
    intro i b c n hi hl
    have hlive : ∃ a, ob.get i = some (some a) := by
      by_cases h : ∃ a, ob.get i = some (some a)
      · exact h
      · have := M.dead i (fun a e => h ⟨a, e⟩); rw [hl] at this; cases this
    obtain ⟨a, ha⟩ := hlive
    obtain ⟨o, ho, hL⟩ := M.live i a ha
    rw [hl] at ho; cases ho
    cases hL with
    | blk k1 k2 k3 k4 => exact ⟨_, by rw [M'.ot]; exact ot_obj (M.locIn _ _ _ _ hl).2.2 hi hl k2⟩
  have EC : EmbC Z (X.back Z (ids ++ t)) (swapped (numbered (ids ++ t) base)) := by
    refine ⟨E.C.symm, fun _ _ h => h, fun j i h _ => ?_⟩
    obtain ⟨q, hq, rfl⟩ := assoc_swapped.1 h
    exact ⟨.inr (List.mem_of_getElem? hq), fun o ho => by rwa [loc_in hq] at ho⟩
  have LE : Le X (X.back Z (ids ++ t)) := by
    refine ⟨rfl, fun b cs h => E.fz b cs h, fun _ _ h => h, fun i hu => ⟨.inl hu, fun o ho => ?_⟩⟩
    by_cases hi : i ∈ ids ++ t
    · obtain ⟨q, hq⟩ := mem_at hi
      rw [loc_in hq] at ho
      exact zloc (old hq ((M.us i).1 hu)).2 ho
    · rwa [loc_out hi] at ho
  refine ⟨LE, ⟨M.C, M.ot, M'.os.trans M.os, M'.tape.trans M.tape, M'.output.trans M.output, Nat.le_trans M.size M'.size, ?_, ?_, ?_, ?_, ?_, ?_, ?_, ?_⟩, EC⟩
  · intro k hk ho
    rw [M'.frame k (Nat.lt_of_lt_of_le hk M.size) (fun h => ?_)]
    · exact M.frame k hk ho
    · obtain ⟨i, c, n, _, h2⟩ := ownY h
      rcases (M.locIn _ _ _ _ h2).1 with h3 | h3
      · omega
      · exact ho h3
  · intro b cs h
    rcases M'.fzIn b cs h with h1 | h1 | h1
    · exact M.fzIn b cs h1
    · exact .inr (.inl (Nat.le_trans M.size h1))
    · obtain ⟨i, c, n, _, h2⟩ := ownY h1
      exact .inr (M.locIn _ _ _ _ h2).1
  · intro b cs h
    rcases h with h | h
    · exact M'.fz b cs (.inl h)
    · exact M'.fz b cs (.inr (by rw [M'.ot]; exact ot_old h))
  · intro i
    by_cases hi : i ∈ ids ++ t
    · obtain ⟨q, hq⟩ := mem_at hi
      obtain ⟨o, _, h2, _⟩ := hin q i hq
      rw [h2]; exact ⟨fun _ => by simp, fun _ => .inr hi⟩
    · rw [hout i hi]
      simp only [Cx.back, hi, or_false]; exact M.us i
  · intro i a ha
    by_cases hi : i ∈ ids ++ t
    · obtain ⟨q, hq⟩ := mem_at hi
      obtain ⟨o, h1, h2, h3⟩ := hin q i hq
      rw [h2] at ha
      cases o with
      | none => simp at ha
      | some a0 =>
        simp only [Option.map_some, Option.some.injEq] at ha
        subst ha
        obtain ⟨o', g1, g2⟩ := M'.live _ _ h1
        exact ⟨o', by rw [loc_in hq]; exact g1, g2.renC EC (h3 a0 rfl).1 (h3 a0 rfl).2⟩
    · rw [hout i hi] at ha
      obtain ⟨o, h1, h2⟩ := M.live i a ha
      refine ⟨o, by rw [loc_out hi]; exact h1, h2.mono LE fun b c n e => ?_⟩
      subst e
      refine M'.frame b (M.livelt h1) fun h => ?_
      obtain ⟨i', c', n', g1, g2⟩ := ownY h
      exact hi (List.mem_append_left _ (M.inj _ _ _ _ _ _ _ g2 h1 ▸ g1))
  · intro i h
    by_cases hi : i ∈ ids ++ t
    · obtain ⟨q, hq⟩ := mem_at hi
      rw [loc_in hq]
      refine M'.dead _ fun a e => ?_
      obtain ⟨o, h1, h2, _⟩ := hin q i hq
      rw [h1] at e; cases e
      exact h _ h2
    · rw [loc_out hi]
      exact M.dead i (by rw [hout i hi] at h; exact h)
  · intro i j b c c' n n' h1 h2
    by_cases hi : i ∈ ids ++ t
    · obtain ⟨q, hq⟩ := mem_at hi
      rw [loc_in hq] at h1
      by_cases hj : j ∈ ids ++ t
      · obtain ⟨q', hq'⟩ := mem_at hj
        rw [loc_in hq'] at h2
        have := M'.inj _ _ _ _ _ _ _ h1 h2
        obtain rfl : q = q' := by omega
        rw [hq] at hq'; cases hq'; rfl
      · rw [loc_out hj] at h2
        obtain ⟨cs, hcs⟩ := otZ (fun h => hj (List.mem_append_left _ h)) h2
        rw [(M'.locIn _ _ _ _ h1).2.2] at hcs; cases hcs
    · rw [loc_out hi] at h1
      by_cases hj : j ∈ ids ++ t
      · obtain ⟨q', hq'⟩ := mem_at hj
        rw [loc_in hq'] at h2
        obtain ⟨cs, hcs⟩ := otZ (fun h => hi (List.mem_append_left _ h)) h1
        rw [(M'.locIn _ _ _ _ h2).2.2] at hcs; cases hcs
      · rw [loc_out hj] at h2
        exact M.inj _ _ _ _ _ _ _ h1 h2
  · intro i b c n h
    by_cases hi : i ∈ ids ++ t
    · obtain ⟨q, hq⟩ := mem_at hi
      rw [loc_in hq] at h
      have L := M'.locIn _ _ _ _ h
      refine ⟨?_, L.2.1, ?_⟩
      · rcases L.1 with h1 | h1
        · exact .inl (Nat.le_trans M.size h1)
        · obtain ⟨i', c', n', _, g2⟩ := ownY h1
          exact (M.locIn _ _ _ _ g2).1
      · cases ho : X.ot b with
        | none => exact ho
        | some cs =>
          have := L.2.2
          rw [M'.ot] at this
          have h3 : (X.callee w ids).ot b = some cs := ot_old ho
          rw [this] at h3; cases h3
    · rw [loc_out hi] at h
      have L := M.locIn _ _ _ _ h
      refine ⟨L.1, ?_, L.2.2⟩
      cases hf : Z.fz b with
      | none => exact hf
      | some cs =>
        rcases M'.fzIn b cs hf with h1 | h1 | h1
        · have h1 : X.fz b = some cs := h1
          rw [L.2.1] at h1; cases h1
        · have := M.livelt h; omega
        · obtain ⟨i', c', n', g1, g2⟩ := ownY h1
          exact absurd (List.mem_append_left _ (M.inj _ _ _ _ _ _ _ g2 h ▸ g1)) hi
theorem call_good (hCR : ∀ f args objs res, CR f args objs res → CallsOk P X.C f args objs res) (hC : X.C = T.C) (M : Mem X0 W X ob w) {d f : Nat} {args : List (AV CT)} {vs : List Value} (hl : args.length = vs.length)
    (hv : ∀ (j : Nat) (a : AV CT) (v : Value), args[j]? = some a → vs[j]? = some v → RV X a v) (h : Ev CR (callM T d f args .ret) ob r ob') :
    (∀ (as : Array Value) (w : World), (callFunc f as).run P w = .ok (.enter f as) w) ∧ Calls P f vs.toArray w fun e w' => ∃ u X', e = .returned u ∧ Le X X' ∧ Mem X0 W X' ob' w' ∧ RV X' r u := by
  have key : ∀ (ls : List Nat) (args1 : List (AV CT)), args1.length = vs.length → (∀ ids, (∀ i ∈ ls, i ∉ ids) → ∀ (j : Nat) (a : AV CT) (v : Value), args1[j]? = some a → vs[j]? = some v → RV (X.side w ids) a v) →
      Ev CR (callTail d f .ret ls args1) ob r ob' → (∀ (as : Array Value) (w : World), (callFunc f as).run P w = .ok (.enter f as) w) ∧ Calls P f vs.toArray w fun e w' => ∃ u X', e = .returned u ∧ Le X X' ∧ Mem X0 W X' ob' w' ∧ RV X' r u := by
    intro ls args1 hl1 hv1 h
    unfold callTail at h
    obtain ⟨ids, G, h⟩ := Ev.gatherM_inv 60 h
    obtain ⟨hap, h⟩ := cond_fail h
    obtain ⟨objs, o1, o2, h⟩ := Ev.readAllM_inv h
    obtain ⟨hcell, h⟩ := cond_fail h
    obtain ⟨res, hcr, h⟩ := h.call_inv
    have hnd := G.nodup List.nodup_nil
    rw [back_eq] at h
    obtain ⟨w1, ob1, h, w2, w3⟩ := Ev.wrAllM_inv hnd h
    obtain ⟨ob3, h, n1, n2⟩ := Ev.newAllM_inv h
    obtain ⟨rfl, rfl⟩ := h.ret_inv
    obtain ⟨c0, hcall⟩ := hCR _ _ _ _ hcr
    have hY := mem_callee M hnd o1 o2 hcell
    refine ⟨c0, (hcall (X.callee w ids) w vs rfl hY (by rw [rens_len]; exact hl1) (fun j a v ha hv => ?_)).mono ?_⟩
    · rw [rens_get, Option.map_eq_some_iff] at ha
      obtain ⟨a, ha, rfl⟩ := ha
      exact (hv1 ids (apart_spec hap) j a v ha hv).ren callee_emb
    · rintro e w' ⟨u, Z, ob2, rfl, E, M', hres, hr, c1, c2, c3⟩
      have hm : (rens (numbered ids base) (unnils objs)).length = ids.length := by rw [rens_len, unnils_len, o1]
      rw [hm] at hres
      have hnn : ∀ q, q < res.news.length → ob.get (d + 1000 * (q + 1)) = none ∧ d + 1000 * (q + 1) ∉ ids := by
        intro q hq
        obtain ⟨g1, _, _⟩ := n1 q _ (List.getElem?_eq_getElem hq)
        rw [Nat.zero_add] at g1
        have hni : d + 1000 * (q + 1) ∉ ids := by
          intro hi
          obtain ⟨p, hp⟩ := List.mem_iff_getElem?.1 hi
          obtain ⟨o, _, g2, _⟩ := w2 p _ hp
          rw [g1] at g2; cases g2
        exact ⟨by rw [← w3 _ hni]; exact g1, hni⟩
      have hgt : ∀ {q i : Nat}, (newNames d res.news.length)[q]? = some i → q < res.news.length ∧ i = d + 1000 * (q + 1) := by
        intro q i h
        rw [newNames_get] at h
        split at h
        · rename_i hq; cases h; exact ⟨hq, rfl⟩
        · cases h
      have hall : (ids ++ newNames d res.news.length).Nodup := by
        rw [List.nodup_append]
        refine ⟨hnd, ?_, fun a ha b hb => ?_⟩
        · unfold newNames
          rw [List.Nodup, List.pairwise_map]
          exact List.nodup_range.imp fun h e => h (by omega)
        · obtain ⟨q, hq⟩ := List.mem_iff_getElem?.1 hb
          obtain ⟨hq1, rfl⟩ := hgt hq
          rintro rfl; exact (hnn q hq1).2 ha
      have hmb : Le X (X.back Z (ids ++ newNames d res.news.length)) ∧ Mem X0 W (X.back Z (ids ++ newNames d res.news.length)) ob' w' ∧ EmbC Z (X.back Z (ids ++ newNames d res.news.length)) (swapped (numbered (ids ++ newNames d res.news.length) base)) := by
        refine mem_back (ob' := ob') M hall ⟨_, rfl⟩ E M' (fun q i hq => ?_) (fun i hi => ?_) (fun q i hq hge => ?_)
        · rcases Nat.lt_or_ge q ids.length with hlt | hge
          · rw [List.getElem?_append_left hlt] at hq
            obtain ⟨o, g1, g2, g3⟩ := w2 q i hq
            refine ⟨o, by rw [hres.out q hlt]; exact g1, ?_, fun a e => ⟨cleanO_get c2 (e ▸ g1), g3 a e⟩⟩
            rw [n2 i (fun p hp e => ?_)]
            · exact g2
            · rw [Nat.zero_add] at e; subst e
              exact (hnn p hp).2 (List.mem_of_getElem? hq)
          · rw [List.getElem?_append_right hge] at hq
            obtain ⟨hq1, rfl⟩ := hgt hq
            obtain ⟨_, g2, g3⟩ := n1 _ _ (List.getElem?_eq_getElem hq1)
            rw [Nat.zero_add] at g3
            refine ⟨some res.news[q - ids.length], ?_, g3, fun a e => by cases e; exact ⟨cleans_get c3 (List.getElem?_eq_getElem hq1), g2⟩⟩
            have := hres.new _ hq1
            rw [show base + ids.length + (q - ids.length) = base + q by omega, List.getElem?_eq_getElem hq1] at this
            exact this
        · have h1 : i ∉ ids := fun h => hi (List.mem_append_left _ h)
          rw [n2 i (fun p hp e => hi (List.mem_append_right _ ?_)), w3 i h1]
          refine List.mem_of_getElem? (i := p) ?_
          rw [newNames_get, if_pos hp, e, Nat.zero_add]
        · rw [List.getElem?_append_right hge] at hq
          obtain ⟨hq1, rfl⟩ := hgt hq
          exact (hnn _ hq1).1
      exact ⟨u, _, rfl, hmb.1, hmb.2.1, hr.renC hmb.2.2 c1⟩
  unfold callM at h
  cases hT : T.own f with
  | true =>
    simp only [hT, cond_true] at h
    exact key [] args hl (fun ids _ j a v ha hv' => (hv j a v ha hv').mono side_le) h
  | false =>
    simp only [hT, cond_false] at h
    obtain ⟨ls, G, h⟩ := Ev.gatherM_inv 60 h
    obtain ⟨args1, l1, l2, h⟩ := Ev.listM_inv (fun h => Ev.lendM_inv deep h) h
    refine key ls args1 (l1.symm.trans hl) (fun ids hap j a v ha hv' => ?_) h
    have hlt := (List.getElem?_eq_some_iff.1 ha).1
    have ha0 : args[j]? = some args[j] := List.getElem?_eq_getElem (by omega)
    exact lend_rv M ⟨hap, fun i hi => G.new i hi (by simp)⟩ (hC ▸ l2 j _ a ha0 ha) (hv j _ v ha0 hv') fun i hi => G.todo i (topss_mem ha0 hi)
end
end Go.Proofs.Ytjnkppjlhmkjaaa.Av
