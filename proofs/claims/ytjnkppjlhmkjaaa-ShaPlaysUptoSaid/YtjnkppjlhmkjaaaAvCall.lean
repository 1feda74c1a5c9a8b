/- Calls: what a call comes to, told of the callee's own place; what it does to the caller's. -/
import Derived.Test.YtjnkppjlhmkjaaaAvOp12
namespace Go.Proofs.Ytjnkppjlhmkjaaa.Av
open Go
variable {CT : Nat → Type}

/-! ### Names -/
theorem assoc_app (a b : List (Nat × Nat)) (i : Nat) : assoc (a ++ b) i = (assoc a i).or (assoc b i) := by
  induction a with
  | nil => rfl
  | cons p a ih =>
    obtain ⟨k, v⟩ := p
    simp only [List.cons_append, assoc]
    cases Nat.beq k i <;> simp [ih]
theorem assoc_mem {m : List (Nat × Nat)} {i j : Nat} (h : assoc m i = some j) : (i, j) ∈ m := by
  induction m with
  | nil => cases h
  | cons p a ih =>
    obtain ⟨k, v⟩ := p
    simp only [assoc] at h
    cases hk : Nat.beq k i with
    | true => rw [hk] at h; cases h; obtain rfl := Nat.eq_of_beq_eq_true hk; exact List.mem_cons_self
    | false => rw [hk] at h; exact List.mem_cons_of_mem _ (ih h)
theorem numbered_mem {ids : List Nat} {n i j : Nat} : (i, j) ∈ numbered ids n ↔ ∃ q, ids[q]? = some i ∧ j = n + q := by
  induction ids generalizing n with
  | nil => simp [numbered]
  | cons a l ih =>
    simp only [numbered, List.mem_cons, Prod.mk.injEq, ih]
    constructor
    · rintro (⟨rfl, rfl⟩ | ⟨q, h1, rfl⟩)
      · exact ⟨0, rfl, rfl⟩
      · exact ⟨q + 1, by simpa using h1, by omega⟩
    · rintro ⟨q, h1, rfl⟩
      cases q with
      | zero => simp at h1; exact .inl ⟨h1.symm, rfl⟩
      | succ q => exact .inr ⟨q, by simpa using h1, by omega⟩
theorem numbered_app (a b : List Nat) (n : Nat) : numbered (a ++ b) n = numbered a n ++ numbered b (n + a.length) := by
  induction a generalizing n with
  | nil => rfl
  | cons x a ih => simp only [List.cons_append, numbered, ih, List.length_cons]; congr 3; omega
/-- Each of distinct things has one place. -/
theorem nodup_get {ids : List Nat} (h : ids.Nodup) {p q i : Nat} (hp : ids[p]? = some i) (hq : ids[q]? = some i) : p = q := by
  have h1 := (List.getElem?_eq_some_iff.1 hp).1
  have h2 := (List.getElem?_eq_some_iff.1 hq).1
  exact (List.getElem?_inj h1 h).1 (hp.trans hq.symm)
theorem assoc_of_mem {m : List (Nat × Nat)} {i j : Nat} (h : (i, j) ∈ m) : ∃ j', assoc m i = some j' := by
  induction m with
  | nil => cases h
  | cons p a ih =>
    obtain ⟨k, v⟩ := p
    simp only [assoc]
    cases hk : Nat.beq k i with
    | true => exact ⟨v, rfl⟩
    | false =>
      rcases List.mem_cons.1 h with h | h
      · cases h; simp at hk
      · exact ih h
theorem assoc_numbered {ids : List Nat} (h : ids.Nodup) {n i j : Nat} : assoc (numbered ids n) i = some j ↔ ∃ q, ids[q]? = some i ∧ j = n + q := by
  constructor
  · intro h; exact numbered_mem.1 (assoc_mem h)
  · rintro ⟨q, hq, rfl⟩
    obtain ⟨j', hj⟩ := assoc_of_mem (numbered_mem.2 ⟨q, hq, rfl⟩)
    obtain ⟨q', hq', rfl⟩ := numbered_mem.1 (assoc_mem hj)
    rw [hj, nodup_get h hq' hq]
theorem assoc_swapped {ids : List Nat} {n i j : Nat} : assoc (swapped (numbered ids n)) j = some i ↔ ∃ q, ids[q]? = some i ∧ j = n + q := by
  constructor
  · intro h
    have := assoc_mem h
    simp only [swapped, List.mem_map, Prod.mk.injEq] at this
    obtain ⟨⟨a, b⟩, h1, rfl, rfl⟩ := this
    exact numbered_mem.1 h1
  · rintro ⟨q, hq, rfl⟩
    have : (n + q, i) ∈ swapped (numbered ids n) := by
      simp only [swapped, List.mem_map]
      exact ⟨(i, n + q), numbered_mem.2 ⟨q, hq, rfl⟩, rfl⟩
    obtain ⟨i', hj⟩ := assoc_of_mem this
    have h2 := assoc_mem hj
    simp only [swapped, List.mem_map, Prod.mk.injEq] at h2
    obtain ⟨⟨a, b⟩, h3, rfl, rfl⟩ := h2
    obtain ⟨q', hq', e⟩ := numbered_mem.1 h3
    obtain rfl : q' = q := by omega
    rw [hj]; rw [hq] at hq'; exact hq'.symm ▸ rfl
/-- The names of what is new. -/
def newNames (d k : Nat) : List Nat := (List.range k).map fun q => d + 1000 * (q + 1)
theorem newNames_get {d k q : Nat} : (newNames d k)[q]? = if q < k then some (d + 1000 * (q + 1)) else none := by
  simp only [newNames, List.getElem?_map]
  by_cases h : q < k
  · rw [List.getElem?_range h, if_pos h]; rfl
  · rw [List.getElem?_eq_none (by simpa using h), if_neg h]; rfl
theorem newMap_eq (d m : Nat) : ∀ (l : List (AV CT)) (j : Nat), newMap d m l j = swapped (numbered ((List.range l.length).map fun q => d + 1000 * (j + q + 1)) (base + m + j))
  | [], _ => rfl
  | a :: l, j => by
    show (base + m + j, d + 1000 * (j + 1)) :: newMap d m l (j + 1) = _
    rw [newMap_eq d m l (j + 1)]
    generalize base = B
    have e : ((fun q => d + 1000 * (j + q + 1)) ∘ Nat.succ) = fun q => d + 1000 * (j + 1 + q + 1) := by
      funext q; simp only [Function.comp]; omega
    simp only [List.length_cons, List.range_succ_eq_map, List.map_cons, List.map_map, numbered, swapped, Nat.add_zero, e]
    rw [show B + m + (j + 1) = B + m + j + 1 by omega]
theorem back_eq (d : Nat) (ids : List Nat) (news : List (AV CT)) : swapped (numbered ids base) ++ newMap d ids.length news 0 = swapped (numbered (ids ++ newNames d news.length) base) := by
  rw [newMap_eq]
  generalize base = B
  rw [numbered_app]
  simp only [swapped, List.map_append, newNames, Nat.zero_add, Nat.add_zero]

/-! ### What is reached -/
section
variable {CR : CallR CT} {α : Type} {ob ob' : Ob CT} {v : α}
theorem any_beq {l : List Nat} {i : Nat} : l.any (Nat.beq i) = true ↔ i ∈ l := by
  rw [List.any_eq_true]
  constructor
  · rintro ⟨x, hx, h⟩; exact Nat.eq_of_beq_eq_true h ▸ hx
  · intro h; exact ⟨i, h, Nat.beq_refl i⟩
structure GathR (ob : Ob CT) (todo seen ids : List Nat) : Prop where
  pre : ∃ t, ids = seen ++ t
  nodup : seen.Nodup → ids.Nodup
  todo : ∀ i ∈ todo, i ∈ ids
  new : ∀ i ∈ ids, i ∉ seen → ∃ a, ob.get i = some (some a) ∧ ∀ j ∈ a.ids, j ∈ ids
theorem Ev.gatherM_inv : ∀ (d : Nat) {todo seen : List Nat} {k : List Nat → M CT α}, Ev CR (gatherM d todo seen k) ob v ob' → ∃ ids, GathR ob todo seen ids ∧ Ev CR (k ids) ob v ob'
  | 0, _, _, _, h => h.fail_inv.elim
  | d + 1, [], seen, k, h => ⟨seen, ⟨⟨[], by simp⟩, fun h => h, by simp, fun i h1 h2 => absurd h1 h2⟩, h⟩
  | d + 1, i :: t, seen, k, h => by
    simp only [gatherM] at h
    cases hs : seen.any (Nat.beq i) with
    | true =>
      rw [hs] at h
      obtain ⟨ids, G, h1⟩ := Ev.gatherM_inv d h
      have : i ∈ seen := any_beq.1 hs
      obtain ⟨u, rfl⟩ := G.pre
      exact ⟨_, ⟨⟨u, rfl⟩, G.nodup, fun j hj => by
        rcases List.mem_cons.1 hj with rfl | hj
        · exact List.mem_append_left _ this
        · exact G.todo j hj, G.new⟩, h1⟩
    | false =>
      rw [hs] at h
      have h := Ev.rd_inv h
      split at h
      · rename_i a ha
        obtain ⟨ids, G, h1⟩ := Ev.gatherM_inv d h
        obtain ⟨u, rfl⟩ := G.pre
        have hns : i ∉ seen := fun hm => by rw [any_beq.2 hm] at hs; cases hs
        refine ⟨_, ⟨⟨i :: u, by simp⟩, fun hd => G.nodup ?_, fun j hj => ?_, fun j hj hn => ?_⟩, h1⟩
        · rw [List.nodup_append]
          exact ⟨hd, by simp, fun x hx y hy => by simp at hy; subst hy; rintro rfl; exact hns hx⟩
        · rcases List.mem_cons.1 hj with rfl | hj
          · simp
          · exact G.todo j (List.mem_append_left _ hj)
        · by_cases hji : j = i
          · subst hji
            exact ⟨a, ha, fun x hx => G.todo x (List.mem_append_right _ hx)⟩
          · exact G.new j hj (by simp [hn, hji])
      · exact h.fail_inv.elim
theorem Ev.readAllM_inv : ∀ {ids : List Nat} {k : List (AV CT) → M CT α}, Ev CR (readAllM ids k) ob v ob' → ∃ objs, objs.length = ids.length ∧ (∀ (q i : Nat), ids[q]? = some i → ∃ a, objs[q]? = some a ∧ ob.get i = some (some a)) ∧ Ev CR (k objs) ob v ob'
  | [], k, h => ⟨[], rfl, fun q i h => by simp at h, h⟩
  | i :: l, k, h => by
    obtain ⟨a, ha, h1⟩ := Ev.rdObj_inv h
    obtain ⟨objs, g1, g2, g3⟩ := Ev.readAllM_inv h1
    refine ⟨a :: objs, by simp [g1], fun q j hq => ?_, g3⟩
    cases q with
    | zero => simp at hq; subst hq; exact ⟨a, rfl, ha⟩
    | succ q => exact g2 q j (by simpa using hq)
theorem Ev.wrAllM_inv {m : List (Nat × Nat)} : ∀ {ids : List Nat} {outs : List (Option (AV CT))} {k : M CT α} {ob : Ob CT}, ids.Nodup → Ev CR (wrAllM m ids outs k) ob v ob' →
    outs.length = ids.length ∧ ∃ ob1, Ev CR k ob1 v ob' ∧ (∀ (q i : Nat), ids[q]? = some i → ∃ o, outs[q]? = some o ∧ ob1.get i = some (o.map (AV.ren m)) ∧ ∀ a, o = some a → (a.ren m).isCell = true) ∧ ∀ i, i ∉ ids → ob1.get i = ob.get i
  | [], [], k, ob, _, h => ⟨rfl, ob, h, fun q i h => by simp at h, fun _ _ => rfl⟩
  | i :: l, o :: os, k, ob, hd, h => by
    have hd := List.nodup_cons.1 hd
    obtain ⟨hc, h⟩ : (∀ a, o = some a → (a.ren m).isCell = true) ∧ Ev CR (wrAllM m l os k) (ob.set i (o.map (AV.ren m))) v ob' := by
      simp only [wrAllM] at h
      split at h
      · rename_i a
        obtain ⟨hc, h⟩ := cond_fail h
        exact ⟨(fun b e => by cases e; exact hc), Ev.wr_inv h⟩
      · exact ⟨(fun b e => by cases e), Ev.wr_inv h⟩
    obtain ⟨g1, ob1, g2, g3, g4⟩ := Ev.wrAllM_inv hd.2 h
    refine ⟨by simp [g1], ob1, g2, fun q j hq => ?_, fun j hj => ?_⟩
    · cases q with
      | zero =>
        simp at hq; subst hq
        refine ⟨o, rfl, ?_, hc⟩
        rw [g4 i hd.1, Ob.get_set, if_pos rfl]
      | succ q => exact g3 q j (by simpa using hq)
    · rw [g4 j (fun h => hj (List.mem_cons_of_mem _ h)), Ob.get_set, if_neg (by rintro rfl; exact hj List.mem_cons_self)]
  | [], _ :: _, _, _, _, h => (Ev.fail_inv h).elim
  | _ :: _, [], _, _, _, h => (Ev.fail_inv h).elim
theorem Ev.newAllM_inv {m : List (Nat × Nat)} {d : Nat} : ∀ {news : List (AV CT)} {j : Nat} {k : M CT α} {ob : Ob CT}, Ev CR (newAllM m d news j k) ob v ob' →
    ∃ ob1, Ev CR k ob1 v ob' ∧ (∀ (q : Nat) (a : AV CT), news[q]? = some a → ob.get (d + 1000 * (j + q + 1)) = none ∧ (a.ren m).isCell = true ∧ ob1.get (d + 1000 * (j + q + 1)) = some (some (a.ren m))) ∧
      ∀ i, (∀ q, q < news.length → i ≠ d + 1000 * (j + q + 1)) → ob1.get i = ob.get i
  | [], j, k, ob, h => ⟨ob, h, fun q a h => by simp at h, fun _ _ => rfl⟩
  | a :: l, j, k, ob, h => by
    obtain ⟨h1, h2, h3⟩ := Ev.newObj_inv h
    obtain ⟨ob1, g1, g2, g3⟩ := Ev.newAllM_inv h3
    have e : ∀ q, d + 1000 * (j + 1 + q + 1) = d + 1000 * (j + (q + 1) + 1) := fun q => by omega
    refine ⟨ob1, g1, fun q b hb => ?_, fun i hi => ?_⟩
    · cases q with
      | zero =>
        simp at hb; subst hb
        refine ⟨h1, h2, ?_⟩
        rw [g3 _ (fun q _ => by omega), Ob.get_set, if_pos rfl]
      | succ q =>
        obtain ⟨q1, q2, q3⟩ := g2 q b (by simpa using hb)
        rw [e q] at q1 q3
        refine ⟨?_, q2, q3⟩
        rwa [Ob.get_set, if_neg (by omega)] at q1
    · rw [g3 i (fun q hq => by rw [e]; exact hi (q + 1) (by simpa using hq)), Ob.get_set, if_neg (fun e' => hi 0 (by simp) e'.symm)]
end

/-! ### Lending -/
inductive LendR (C : Cod CT) (ob : Ob CT) : AV CT → AV CT → Prop
  | plain {x : AV CT} {lent : Bool} {kd : LK} {l : LS CT (AV CT)} : ((∃ id, x = .mw id kd) ∨ ∃ id p off len cap, x = .ms id p kd off len cap) → SliceR C ob x lent l → (∀ s xs, l ≠ .gen s xs) → LendR C ob x (.vs true l)
  | gen {x : AV CT} {lent : Bool} {kd : LK} {s : Nat} {xs xs' : List (AV CT)} : ((∃ id, x = .mw id kd) ∨ ∃ id p off len cap, x = .ms id p kd off len cap) → SliceR C ob x lent (.gen s xs) → xs.length = xs'.length →
      (∀ (j : Nat) (a a' : AV CT), xs[j]? = some a → xs'[j]? = some a' → LendR C ob a a') → idss xs' = [] → LendR C ob x (.vs true (LS.tidy C kd s xs'))
  | vnil {kd : LK} : LendR C ob (.vnil kd) (.vs false kd.nil)
  | agg {s : Nat} {fs fs' : List (AV CT)} : fs.length = fs'.length → (∀ (j : Nat) (a a' : AV CT), fs[j]? = some a → fs'[j]? = some a' → LendR C ob a a') → LendR C ob (.agg s fs) (.agg s fs')
  | same {x : AV CT} : LendR C ob x x
section
variable {CR : CallR CT} {α : Type} {ob ob' : Ob CT} {v : α}
theorem Ev.listM_inv {f : AV CT → (AV CT → M CT α) → M CT α} {Q : AV CT → AV CT → Prop} (hf : ∀ {a : AV CT} {k : AV CT → M CT α}, Ev CR (f a k) ob v ob' → ∃ a', Q a a' ∧ Ev CR (k a') ob v ob') :
    ∀ {l : List (AV CT)} {k : List (AV CT) → M CT α}, Ev CR (listM f l k) ob v ob' → ∃ l', l.length = l'.length ∧ (∀ (j : Nat) (a a' : AV CT), l[j]? = some a → l'[j]? = some a' → Q a a') ∧ Ev CR (k l') ob v ob'
  | [], k, h => ⟨[], rfl, fun j a a' h => by simp at h, h⟩
  | a :: l, k, h => by
    obtain ⟨a', g1, g2⟩ := hf h
    obtain ⟨l', q1, q2, q3⟩ := Ev.listM_inv (f := f) (Q := Q) hf g2
    refine ⟨a' :: l', by simp [q1], fun j b b' hb hb' => ?_, q3⟩
    cases j with
    | zero => simp at hb hb'; subst hb; subst hb'; exact g1
    | succ j => exact q2 j b b' (by simpa using hb) (by simpa using hb')
theorem Ev.lendM_inv {C : Cod CT} : ∀ (d : Nat) {a : AV CT} {k : AV CT → M CT α}, Ev CR (lendM C d a k) ob v ob' → ∃ a', LendR C ob a a' ∧ Ev CR (k a') ob v ob'
  | 0, _, _, h => h.fail_inv.elim
  | d + 1, a, k, h => by
    unfold lendM at h
    have slc : ∀ {x : AV CT} {kd : LK}, ((∃ id, x = .mw id kd) ∨ ∃ id p off len cap, x = .ms id p kd off len cap) → Ev CR (sliceOf C x fun _ l => match l with
        | .gen s xs => listM (lendM C d) xs fun xs' => match idss xs' with
          | [] => k (.vs true (LS.tidy C kd s xs'))
          | _ => .fail
        | l => k (.vs true l)) ob v ob' → ∃ a', LendR C ob x a' ∧ Ev CR (k a') ob v ob' := by
      intro x kd hx h
      obtain ⟨lent, l, h1, h2⟩ := h.sliceOf_inv
      split at h2
      · rename_i s xs
        obtain ⟨xs', q1, q2, q3⟩ := Ev.listM_inv (fun h => Ev.lendM_inv d h) h2
        split at q3
        · rename_i hids
          exact ⟨_, .gen hx h1 q1 q2 hids, q3⟩
        · exact q3.fail_inv.elim
      · rename_i hg
        exact ⟨_, .plain hx h1 (fun s xs e => hg s xs e), h2⟩
    split at h
    · exact slc (.inr ⟨_, _, _, _, _, rfl⟩) h
    · exact slc (.inl ⟨_, rfl⟩) h
    · exact ⟨_, .vnil, h⟩
    · obtain ⟨l', q1, q2, q3⟩ := Ev.listM_inv (fun h => Ev.lendM_inv d h) h
      exact ⟨_, .agg q1 q2, q3⟩
    · exact ⟨_, .same, h⟩
end
theorem decAll_get {C : Cod CT} {c : Nat} : ∀ {l : List (AV CT)} {xs : List (CT c)}, decAll C c l = some xs → xs.length = l.length ∧ ∀ (j : Nat) (a : AV CT), l[j]? = some a → ∃ x, xs[j]? = some x ∧ C.enc c x = a.unlent
  | [], xs, h => by cases h; exact ⟨rfl, fun j a h => by simp at h⟩
  | a :: l, xs, h => by
    simp only [decAll] at h
    split at h
    · rename_i x ys h1 h2
      cases h
      obtain ⟨g1, g2⟩ := decAll_get h2
      refine ⟨by simp [g1], fun j b hb => ?_⟩
      cases j with
      | zero => simp at hb; subst hb; exact ⟨x, rfl, C.dec_ok _ _ _ h1⟩
      | succ j => obtain ⟨y, h3, h4⟩ := g2 j b (by simpa using hb); exact ⟨y, by simpa using h3, h4⟩
    · cases h
mutual
theorem tops_ids : ∀ a : AV CT, ∀ i ∈ a.tops, i ∈ a.ids
  | .agg s fs => by simp only [AV.tops, AV.ids]; exact topss_ids fs
  | .ms .. | .mw .. => fun i hi => by simpa [AV.tops, AV.ids] using hi
  | .junk | .und | .bool _ | .int .. | .flt .. | .cpx .. | .str _ | .arr .. | .lst _ | .vnil _ | .vs .. | .vptr .. | .ptr .. | .nilp | .nilf | .nili | .fn .. | .ifc .. | .errb _ | .tup _ => fun i hi => by simp [AV.tops] at hi
theorem topss_ids : ∀ l : List (AV CT), ∀ i ∈ topss l, i ∈ idss l
  | [] => fun i hi => by simp [topss] at hi
  | a :: l => fun i hi => by
    simp only [topss, idss, List.mem_append] at hi ⊢
    exact hi.imp (tops_ids a i) (topss_ids l i)
end
theorem topss_mem {l : List (AV CT)} {j : Nat} {a : AV CT} (ha : l[j]? = some a) {i : Nat} (hi : i ∈ a.tops) : i ∈ topss l := by
  induction l generalizing j with
  | nil => simp at ha
  | cons b l ih =>
    simp only [topss, List.mem_append]
    cases j with
    | zero => simp at ha; subst ha; exact .inl hi
    | succ j => exact .inr (ih (by simpa using ha))
theorem idss_mem {l : List (AV CT)} {j : Nat} {a : AV CT} (ha : l[j]? = some a) {i : Nat} (hi : i ∈ a.ids) : i ∈ idss l := by
  induction l generalizing j with
  | nil => simp at ha
  | cons b l ih =>
    simp only [idss, List.mem_append]
    cases j with
    | zero => simp at ha; subst ha; exact .inl hi
    | succ j => exact .inr (ih (by simpa using ha))
theorem GetR.ids {C : Cod CT} {p : List Step} {a b : AV CT} (g : GetR C p a b) : ∀ i ∈ b.ids, i ∈ a.ids := by
  have el : ∀ (l : LS CT (AV CT)) (j : Nat) (b : AV CT), l.get? C j = some b → ∀ i ∈ b.ids, i ∈ (AV.lst l : AV CT).ids := by
    intro l j b hb i hi
    cases l with
    | gen s x => simp only [AV.ids]; exact idss_mem (l := x) hb hi
    | typ c s sc x =>
      simp only [LS.get?, Option.map_eq_some_iff] at hb
      obtain ⟨x, _, rfl⟩ := hb; rw [C.ids_ok] at hi; cases hi
    | _ =>
      simp only [LS.get?, Option.map_eq_some_iff] at hb
      obtain ⟨x, _, rfl⟩ := hb; simp [AV.ids] at hi
  induction g with
  | nil => exact fun _ h => h
  | fld _ hb _ ih => intro i hi; simp only [AV.ids]; exact idss_mem hb (ih i hi)
  | arr _ hb _ ih =>
    intro i hi
    rename_i l _ _ _ _
    have := el l _ _ hb i (ih i hi)
    cases l <;> first | (simp [AV.ids] at this; done) | simpa [AV.ids] using this
  | lst _ hb _ ih => intro i hi; exact el _ _ _ hb i (ih i hi)
end Go.Proofs.Ytjnkppjlhmkjaaa.Av
