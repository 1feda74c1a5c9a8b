/- Calls: the callee's place, what is lent, and the way back. -/
import Derived.Test.YtjnkppjlhmkjaaaAvCall
namespace Go.Proofs.Ytjnkppjlhmkjaaa.Av
open Go
variable {CT : Nat → Type}
theorem apart_spec {a b : List Nat} (h : apart a b = true) : ∀ i ∈ a, i ∉ b := by
  intro i hi hb
  have := List.all_eq_true.1 (List.all_eq_true.1 h i hi) i hb
  simp at this
theorem objsFrom_get : ∀ (l : List (AV CT)) (n j : Nat), (objsFrom l n).get j = if n ≤ j then (l[j - n]?).map some else none
  | [], n, j => by simp [objsFrom, Ob.get]
  | a :: l, n, j => by
    simp only [objsFrom, Ob.get, objsFrom_get l (n + 1) j]
    by_cases h : n = j
    · subst h; simp
    · rw [beq_ne h]
      by_cases hn : n ≤ j
      · rw [if_pos (show n + 1 ≤ j by omega), if_pos hn, show j - n = (j - (n + 1)) + 1 by omega]; rfl
      · rw [if_neg (show ¬ n + 1 ≤ j by omega), if_neg hn]; rfl
/-- What lies elsewhere, while the call goes. -/
noncomputable def otOf (X : Cx CT) (w : World) (ids : List Nat) (b : Nat) : Option (Array Value) :=
  open Classical in
  match X.ot b with
  | some cs => some cs
  | none => if ∃ i c n, i ∉ ids ∧ X.loc i = some (some (b, c), n) then (match w.heap[b]? with | some (.cells cs _ _) => some cs | _ => none) else none
noncomputable def Cx.side (X : Cx CT) (w : World) (ids : List Nat) : Cx CT := ⟨X.C, X.fz, otOf X w ids, X.us, X.loc⟩
noncomputable def Cx.callee (X : Cx CT) (w : World) (ids : List Nat) : Cx CT :=
  ⟨X.C, X.fz, otOf X w ids, fun j => ∃ q, q < ids.length ∧ j = base + q, fun j => if base ≤ j then (match ids[j - base]? with | some i => X.loc i | none => none) else none⟩
section
variable {X : Cx CT} {w : World} {ids : List Nat}
theorem ot_old {b : Nat} {cs : Array Value} (h : X.ot b = some cs) : otOf X w ids b = some cs := by unfold otOf; rw [h]
theorem ot_obj {b i c n : Nat} (hn : X.ot b = none) (hi : i ∉ ids) (hl : X.loc i = some (some (b, c), n)) {cs : Array Value} {e : TypeId} {f : Nat × Nat} (hb : w.heap[b]? = some (.cells cs e f)) : otOf X w ids b = some cs := by
  unfold otOf; rw [hn]; simp only; rw [if_pos ⟨i, c, n, hi, hl⟩, hb]
theorem side_le : Le X (X.side w ids) := ⟨rfl, fun _ _ h => h, fun _ _ h => ot_old h, fun _ h => ⟨h, fun _ h => h⟩⟩
theorem callee_loc {q i : Nat} (h : ids[q]? = some i) : (X.callee w ids).loc (base + q) = X.loc i := by
  simp only [Cx.callee]
  rw [if_pos (Nat.le_add_right _ _), Nat.add_sub_cancel_left, h]
theorem callee_loc_inv {j : Nat} {o : Option (Nat × Nat) × Nat} (h : (X.callee w ids).loc j = some o) : ∃ q i, ids[q]? = some i ∧ j = base + q ∧ X.loc i = some o := by
  simp only [Cx.callee] at h
  split at h
  · rename_i hb
    split at h
    · rename_i i hi; exact ⟨j - base, i, hi, by omega, h⟩
    · cases h
  · cases h
theorem callee_emb : Emb (X.side w ids) (X.callee w ids) (numbered ids base) := by
  refine ⟨rfl, fun _ _ h => h, fun _ _ h => h, fun i j h _ => ?_⟩
  obtain ⟨q, hq, rfl⟩ := numbered_mem.1 (assoc_mem h)
  refine ⟨⟨q, (List.getElem?_eq_some_iff.1 hq).1, rfl⟩, fun o ho => ?_⟩
  rw [callee_loc hq] at ho; exact ho
end
/-- An object told in other words. -/
theorem Live.map {X Y : Cx CT} {w : World} {a a' : AV CT} {o : Option (Nat × Nat) × Nat} (h : Live X w a o) (hR : ∀ c, R X a c → R Y a' c) (hc : a'.isCell = true)
    (h1 : ∀ l', a' = .lst l' → ∃ l, a = .lst l ∧ l'.len = l.len ∧ l'.sz = l.sz) (h2 : ∀ l, a = .lst l → l.Ok X.C → ∃ l', a' = .lst l' ∧ l'.len = l.len ∧ l'.Ok Y.C) : Live Y w a' o := by
  cases h with
  | blk k1 k2 k3 k4 =>
    refine .blk ⟨hc, k1.2⟩ k2 (hR _ k3) fun l' e => ?_
    obtain ⟨l, e1, e2, e3⟩ := h1 l' e
    rw [e2, e3]; exact k4 l e1
  | nil e1 e2 e3 =>
    obtain ⟨l', q1, q2, q3⟩ := h2 _ e1 e3
    exact .nil q1 (q2.trans e2) q3
theorem ren_lst {m : List (Nat × Nat)} {a : AV CT} {l' : LS CT (AV CT)} (h : a.ren m = .lst l') : ∃ l, a = .lst l ∧ l'.len = l.len ∧ l'.sz = l.sz := by
  unfold AV.ren at h
  split at h <;> first | (cases h; done) | (split at h <;> cases h; done) | skip
  · cases h; exact ⟨_, rfl, by simp [LS.len, rens_len], rfl⟩
  · subst h; exact ⟨_, rfl, rfl, rfl⟩
theorem lst_ren {m : List (Nat × Nat)} {C : Cod CT} (l : LS CT (AV CT)) (h : l.Ok C) : ∃ l', (AV.lst l : AV CT).ren m = .lst l' ∧ l'.len = l.len ∧ l'.Ok C := by
  cases l with
  | gen s x => exact ⟨_, rfl, by simp [LS.len, rens_len], trivial⟩
  | _ => exact ⟨_, rfl, rfl, h⟩
theorem unnil_lst {a : AV CT} {l : LS CT (AV CT)} : a.unnil = .lst l ↔ a = .lst l := by
  cases a <;> simp [AV.unnil]
theorem Live.ren {X Y : Cx CT} {w : World} {m : List (Nat × Nat)} (E : Emb X Y m) {a : AV CT} {o : Option (Nat × Nat) × Nat} (h : Live X w a o) (hc : (a.ren m).isCell = true) : Live Y w (a.ren m) o :=
  h.map (fun _ r => r.ren E) hc (fun _ e => ren_lst e) (fun l e ho => by subst e; rw [E.C]; exact lst_ren l ho)
theorem Live.renC {X Y : Cx CT} {w : World} {m : List (Nat × Nat)} (E : EmbC X Y m) {a : AV CT} {o : Option (Nat × Nat) × Nat} (h : Live X w a o) (hl : a.clean = true) (hc : (a.ren m).isCell = true) : Live Y w (a.ren m) o :=
  h.map (fun _ r => r.renC E hl) hc (fun _ e => ren_lst e) (fun l e ho => by subst e; rw [E.C]; exact lst_ren l ho)
theorem Live.renN {X Y : Cx CT} {w : World} {m : List (Nat × Nat)} (E : Emb X Y m) {a : AV CT} {o : Option (Nat × Nat) × Nat} (h : Live X w a o) (hc : (a.unnil.ren m).isCell = true) : Live Y w (a.unnil.ren m) o := by
  refine h.map (fun _ r => r.unnil.ren E) hc (fun _ e => ?_) (fun l e ho => ?_)
  · obtain ⟨l, h1, h2⟩ := ren_lst e; exact ⟨l, unnil_lst.1 h1, h2⟩
  · subst e; rw [E.C]; exact lst_ren l ho
section
variable {X0 X : Cx CT} {W w : World} {ob : Ob CT} {ids : List Nat}
/-- The callee's place is told truly. -/
theorem mem_callee (M : Mem X0 W X ob w) (hd : ids.Nodup) {objs : List (AV CT)} (hl : objs.length = ids.length) (hg : ∀ (q i : Nat), ids[q]? = some i → ∃ a, objs[q]? = some a ∧ ob.get i = some (some a))
    (hc : (rens (numbered ids base) (unnils objs)).all AV.isCell = true) : Mem (X.callee w ids) w (X.callee w ids) (objsFrom (rens (numbered ids base) (unnils objs)) base) w := by
  have hget : ∀ j, (objsFrom (rens (numbered ids base) (unnils objs)) base).get j = if base ≤ j then (objs[j - base]?).map (fun a => some (a.unnil.ren (numbered ids base))) else none := by
    intro j
    rw [objsFrom_get, rens_get, unnils_get]
    simp [Option.map_map, Function.comp_def]
  have hown : ∀ j b c n, (X.callee w ids).loc j = some (some (b, c), n) → Own (X.callee w ids) b := fun j b c n h => ⟨j, c, n, h⟩
  refine ⟨rfl, rfl, rfl, rfl, rfl, Nat.le_refl _, fun _ _ _ => rfl, fun b cs h => .inl h, ?_, ?_, ?_, ?_, ?_, ?_⟩
  · intro b cs h
    rcases h with h | h
    · exact M.fz b cs (.inl h)
    · simp only [Cx.callee, otOf] at h
      split at h
      · rename_i cs' h'; cases h; exact M.fz b _ (.inr h')
      · split at h
        · split at h
          · rename_i cs' e f he; cases h; exact ⟨e, f, he⟩
          · cases h
        · cases h
  · intro j
    rw [hget]
    simp only [Cx.callee]
    constructor
    · rintro ⟨q, hq, rfl⟩
      rw [if_pos (Nat.le_add_right _ _), Nat.add_sub_cancel_left, List.getElem?_eq_getElem (by omega)]; simp
    · intro h
      split at h
      · rename_i hb
        cases ho : objs[j - base]? with
        | none => rw [ho] at h; simp at h
        | some a => have := (List.getElem?_eq_some_iff.1 ho).1; exact ⟨j - base, by omega, by omega⟩
      · simp at h
  · intro j a' h
    rw [hget] at h
    split at h
    · rename_i hb
      simp only [Option.map_eq_some_iff, Option.some.injEq] at h
      obtain ⟨a, ha, rfl⟩ := h
      have hlt := (List.getElem?_eq_some_iff.1 ha).1
      obtain ⟨i, hi⟩ : ∃ i, ids[j - base]? = some i := by
        cases hi : ids[j - base]? with
        | none => have := List.getElem?_eq_none_iff.1 hi; omega
        | some i => exact ⟨i, rfl⟩
      obtain ⟨a2, g1, g2⟩ := hg _ _ hi
      rw [ha] at g1; cases g1
      obtain ⟨o, ho, hL⟩ := M.live _ _ g2
      refine ⟨o, ?_, (Live.mono side_le hL fun _ _ _ _ => rfl).renN callee_emb ?_⟩
      · have := callee_loc (X := X) (w := w) hi
        rw [show base + (j - base) = j by omega] at this
        rw [this]; exact ho
      · refine List.all_eq_true.1 hc _ (List.mem_of_getElem? (i := j - base) ?_)
        rw [rens_get, unnils_get, ha]; rfl
    · cases h
  · intro j h
    cases hl' : (X.callee w ids).loc j with
    | none => rfl
    | some o =>
      obtain ⟨q, i, h1, rfl, h2⟩ := callee_loc_inv hl'
      obtain ⟨a, g1, g2⟩ := hg _ _ h1
      refine absurd ?_ (h (a.unnil.ren (numbered ids base)))
      rw [hget, if_pos (Nat.le_add_right _ _), Nat.add_sub_cancel_left, g1]; rfl
  · intro i j b c c' n n' h1 h2
    obtain ⟨q, i', e1, rfl, e2⟩ := callee_loc_inv h1
    obtain ⟨q', j', e3, rfl, e4⟩ := callee_loc_inv h2
    obtain rfl := M.inj _ _ _ _ _ _ _ e2 e4
    rw [nodup_get hd e1 e3]
  · intro j b c n h
    obtain ⟨q, i, e1, rfl, e2⟩ := callee_loc_inv h
    have L := M.locIn _ _ _ _ e2
    refine ⟨.inr (hown _ _ _ _ h), L.2.1, ?_⟩
    simp only [Cx.callee, otOf, L.2.2]
    rw [if_neg]
    rintro ⟨i', c', n', h1, h2⟩
    obtain rfl := M.inj _ _ _ _ _ _ _ h2 e2
    exact h1 (List.mem_of_getElem? e1)
/-- A slice of an object in cells: nothing lent in it. -/
structure RawC (X : Cx CT) (w : World) (id : Nat) (l : LS CT (AV CT)) (ad : Option Addr) (cap : Nat) (css : List (List Value)) : Prop where
  ok : l.Ok X.C
  le : l.len ≤ maxI
  cap : l.len ≤ cap
  n : css.length = l.len
  sz : ∀ c ∈ css, c.length = l.sz
  el : ∀ (j : Nat) (b : AV CT) (c : List Value), l.get? X.C j = some b → css[j]? = some c → R X b c
  at_ : l.len ≠ 0 → ∃ b off c n, ad = some ⟨b, off, none⟩ ∧ X.loc id = some (some (b, c), n) ∧ ∀ (j : Nat) (u : Value), css.flatten[j]? = some u → w.cell? ⟨b, off + j, none⟩ = some u
def RawAt (X : Cx CT) (w : World) (ob : Ob CT) (x : AV CT) (v : Value) (l : LS CT (AV CT)) : Prop :=
  ∃ id ∈ x.tops, ∃ a, ob.get id = some (some a) ∧ (∀ j ∈ (AV.lst l : AV CT).ids, j ∈ a.ids) ∧ ∃ ad cap css, v = .slice ad l.len cap ∧ RawC X w id l ad cap css
theorem slice_raw (M : Mem X0 W X ob w) {x : AV CT} {v : Value} {lent : Bool} {l : LS CT (AV CT)} {kd : LK} (hk : (∃ id, x = .mw id kd) ∨ ∃ id p off len cap, x = .ms id p kd off len cap) (hx : RV X x v) (hs : SliceR X.C ob x lent l) :
    kd.Ok X.C ∧ RawAt X w ob x v l := by
  have part : ∀ {id : Nat} {p : List Step} {off len cap : Nat} {a : AV CT} {l : LS CT (AV CT)}, x = .ms id p kd off len cap → ob.get id = some (some a) →
      (∃ b, GetR X.C p a b ∧ (∀ c, R X b c → R X (.lst l) c) ∧ (∀ j ∈ (AV.lst l : AV CT).ids, j ∈ b.ids) ∧ ((∃ c, R X b c) ∨ l.Ok X.C)) → off + len ≤ l.len → kd.sz = l.sz →
      kd.Ok X.C ∧ RawAt X w ob x v (l.ext off len) := by
    intro id p off len cap a l e hl hb h1 h2
    subst e
    obtain ⟨b, hg, hR, hids, hok⟩ := hb
    obtain ⟨hkd, _, hh⟩ := hx.ms
    have hlen : (l.ext off len).len = len := by rw [ext_len]; omega
    have hidx : ∀ j ∈ (AV.lst (l.ext off len) : AV CT).ids, j ∈ a.ids := by
      intro j hj
      refine hg.ids j (hids j ?_)
      cases l with
      | gen s x =>
        simp only [LS.ext, AV.ids] at hj ⊢
        have sub : ∀ (l : List (AV CT)) (n : Nat), (∀ j ∈ idss (l.take n), j ∈ idss l) ∧ (∀ j ∈ idss (l.drop n), j ∈ idss l) := by
          intro l
          induction l with
          | nil => intro n; simp
          | cons a l ih =>
            intro n
            cases n with
            | zero => simp [idss]
            | succ n =>
              simp only [List.take_succ_cons, List.drop_succ_cons, idss, List.mem_append]
              exact ⟨fun j hj => hj.imp (fun h => h) ((ih n).1 j), fun j hj => .inr ((ih n).2 j hj)⟩
        exact (sub x off).2 j ((sub _ len).1 j hj)
      | _ => simp [LS.ext, AV.ids] at hj
    refine ⟨hkd, id, by simp [AV.tops], a, hl, hidx, ?_⟩
    rcases hh with ⟨B, capc, q1, q2, q3, rfl⟩ | ⟨rfl, rfl, ad, capc, rfl⟩
    · obtain ⟨o, ho, _⟩ := M.loc hl
      obtain ⟨cp, hcp⟩ := q3 o ho
      obtain ⟨o1, o2⟩ := o
      simp only at hcp; subst hcp
      obtain ⟨c, hr, hc⟩ := M.at hl hg ho
      have hr := hR c hr
      cases hr with
      | @lst _ css g0 g2 g3 g4 =>
        have S := part_cells (w := w) g0 g2 g4 g3 h1 (by omega) hc
        refine ⟨_, capc, _, by rw [hlen, h2], S.ok, S.le, by omega, S.n, S.sz, fun j b c hb hc' => ?_, fun hne => ?_⟩
        · have hj : j < len := by have := get_lt _ hb; omega
          rw [List.getElem?_take, if_pos hj, List.getElem?_drop] at hc'
          exact g3 _ b c (ext_get hb).1 hc'
        · obtain ⟨b', off', e1, e2⟩ := S.at_ hne
          cases e1
          exact ⟨_, _, _, _, rfl, ho, e2⟩
    · refine ⟨ad, capc, [], by rw [hlen], ?_, by omega, by omega, by rw [hlen]; rfl, by simp, by simp, fun h => absurd hlen h⟩
      rcases hok with ⟨c, hr⟩ | ho
      · have := hR c hr
        cases this with | lst h0 _ _ _ => exact ext_ok _ _ h0
      · exact ext_ok _ _ ho
  cases hs with
  | vnil => rcases hk with ⟨_, e⟩ | ⟨_, _, _, _, _, e⟩ <;> cases e
  | vs => rcases hk with ⟨_, e⟩ | ⟨_, _, _, _, _, e⟩ <;> cases e
  | mw hl =>
    rename_i id k
    obtain rfl : k = kd := by rcases hk with ⟨_, e⟩ | ⟨_, _, _, _, _, e⟩ <;> cases e; rfl
    obtain ⟨hkd, _, hloc⟩ := hx.mw
    obtain ⟨o, ho, hL⟩ := M.loc hl
    obtain ⟨hmx, hcase⟩ := hloc o ho
    refine ⟨hkd, id, by simp [AV.tops], _, hl, fun j hj => hj, ?_⟩
    cases hL with
    | nil g1 g2 g3 =>
      cases g1
      rcases hcase with ⟨_, _, q, _⟩ | ⟨_, _, rfl⟩
      · cases q
      · exact ⟨none, 0, [], by rw [g2], g3, by omega, by omega, by simp [g2], by simp, by simp, fun h => absurd g2 h⟩
    | blk k1 k2 k3 k4 =>
      rename_i b cp n c rest e f
      have hn := k4 l rfl
      rcases hcase with ⟨b', cap, q1, q2, rfl⟩ | ⟨q, _⟩
      · cases q1
        cases k3 with
        | @lst _ css h0 h2 h3 h4 =>
          refine ⟨some ⟨b, 0, none⟩, cp, css, by simp [hn.1], h0, by omega, by omega, h2, h4, h3, fun _ => ⟨b, 0, cp, n, rfl, ho, fun j u hu => ?_⟩⟩
          rw [cell_of k2, Nat.zero_add, List.getElem?_toArray, List.getElem?_append_left (List.getElem?_eq_some_iff.1 hu).1]
          exact hu
      · cases q
  | msA hl hg h1 h2 =>
    rename_i id p k off len cap n a l
    obtain rfl : k = kd := by rcases hk with ⟨_, e⟩ | ⟨_, _, _, _, _, e⟩ <;> cases e; rfl
    refine part rfl hl ⟨_, hg, fun c hr => (arr_lst hr).1, fun j hj => ?_, .inl ?_⟩ h1 h2
    · cases l <;> first | (simp [AV.ids] at hj; done) | simpa [AV.ids] using hj
    · rcases M.okAt hl hg with h | ⟨_, e, _⟩
      · exact h
      · cases e
  | msL hl hg h1 h2 =>
    rename_i id p k off len cap a l
    obtain rfl : k = kd := by rcases hk with ⟨_, e⟩ | ⟨_, _, _, _, _, e⟩ <;> cases e; rfl
    refine part rfl hl ⟨_, hg, fun c hr => hr, fun j hj => hj, ?_⟩ h1 h2
    rcases M.okAt hl hg with h | ⟨_, e, h⟩
    · exact .inl h
    · cases e; exact .inr h
end
end Go.Proofs.Ytjnkppjlhmkjaaa.Av
