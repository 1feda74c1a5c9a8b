/- New names, at loops' heads and exits. -/
import Derived.Test.YtjnkppjlhmkjaaaAvAny
namespace Go.Proofs.Ytjnkppjlhmkjaaa.Av
open Go
variable {CT : Nat → Type}
theorem rens_map (m : List (Nat × Nat)) (l : List (AV CT)) : rens m l = l.map (AV.ren m) := by
  induction l with
  | nil => rfl
  | cons a l ih => simp [rens, ih]
theorem noDup_nodup : ∀ {l : List Nat}, noDup l = true → l.Nodup
  | [], _ => List.nodup_nil
  | a :: l, h => by
    simp only [noDup, Bool.and_eq_true] at h
    refine List.nodup_cons.2 ⟨fun hm => ?_, noDup_nodup h.2⟩
    have := List.all_eq_true.1 h.1 a hm
    simp at this
theorem nodup_fst {m : List (Nat × Nat)} (h : (m.map (·.1)).Nodup) {i j j' : Nat} (h1 : (i, j) ∈ m) (h2 : (i, j') ∈ m) : j = j' := by
  induction m with
  | nil => cases h1
  | cons p m ih =>
    rw [List.map_cons, List.nodup_cons] at h
    rcases List.mem_cons.1 h1 with e1 | h1
    · rcases List.mem_cons.1 h2 with e2 | h2
      · rw [← e1] at e2; cases e2; rfl
      · exact absurd (List.mem_map.2 ⟨_, h2, by rw [← e1]⟩) h.1
    · rcases List.mem_cons.1 h2 with e2 | h2
      · exact absurd (List.mem_map.2 ⟨_, h1, by rw [← e2]⟩) h.1
      · exact ih h.2 h1 h2
theorem nodup_snd {m : List (Nat × Nat)} (h : (m.map (·.2)).Nodup) {i i' j : Nat} (h1 : (i, j) ∈ m) (h2 : (i', j) ∈ m) : i = i' := by
  induction m with
  | nil => cases h1
  | cons p m ih =>
    rw [List.map_cons, List.nodup_cons] at h
    rcases List.mem_cons.1 h1 with e1 | h1
    · rcases List.mem_cons.1 h2 with e2 | h2
      · rw [← e1] at e2; cases e2; rfl
      · exact absurd (List.mem_map.2 ⟨_, h2, by rw [← e1]⟩) h.1
    · rcases List.mem_cons.1 h2 with e2 | h2
      · exact absurd (List.mem_map.2 ⟨_, h1, by rw [← e2]⟩) h.1
      · exact ih h.2 h1 h2
theorem swapped_mem {m : List (Nat × Nat)} {i j : Nat} : (j, i) ∈ swapped m ↔ (i, j) ∈ m := by
  simp only [swapped, List.mem_map, Prod.mk.injEq]
  constructor
  · rintro ⟨⟨a, b⟩, h, rfl, rfl⟩; exact h
  · intro h; exact ⟨(i, j), h, rfl, rfl⟩
theorem assoc_swap {m : List (Nat × Nat)} (h : (m.map (·.2)).Nodup) {i j : Nat} : assoc (swapped m) j = some i ↔ (i, j) ∈ m := by
  constructor
  · intro h1; exact swapped_mem.1 (assoc_mem h1)
  · intro h1
    obtain ⟨i', h2⟩ := assoc_of_mem (swapped_mem.2 h1)
    rw [h2, nodup_snd h (swapped_mem.1 (assoc_mem h2)) h1]
/-- The place under new names. -/
def Cx.named (X : Cx CT) (m : List (Nat × Nat)) : Cx CT :=
  ⟨X.C, X.fz, X.ot, fun j => j ∈ m.map (·.2), fun j => match assoc (swapped m) j with | some i => X.loc i | none => none⟩
section
variable {X0 X : Cx CT} {W w : World} {ob : Ob CT}
theorem mem_ren (M : Mem X0 W X ob w) {m : List (Nat × Nat)} (h1 : (m.map (·.1)).Nodup) (h2 : (m.map (·.2)).Nodup) {ob' : Ob CT} (f : AV CT → AV CT)
    (hf : ∀ a o, Emb X (X.named m) m → Live X w a o → (f a).isCell = true → Live (X.named m) w (f a) o)
    (hin : ∀ i j, (i, j) ∈ m → ∃ o, ob.get i = some o ∧ ob'.get j = some (o.map f) ∧ ∀ a, o = some a → (f a).isCell = true) (hout : ∀ j, j ∉ m.map (·.2) → ob'.get j = none) :
    Emb X (X.named m) m ∧ Mem X0 W (X.named m) ob' w := by
  have E : Emb X (X.named m) m := by
    refine ⟨rfl, fun _ _ h => h, fun _ _ h => h, fun i j h _ => ?_⟩
    have hm := assoc_mem h
    refine ⟨List.mem_map.2 ⟨_, hm, rfl⟩, fun o ho => ?_⟩
    simp only [Cx.named, (assoc_swap h2).2 hm] at ho
    exact ho
  have hloc : ∀ {j o}, (X.named m).loc j = some o → ∃ i, (i, j) ∈ m ∧ X.loc i = some o := by
    intro j o h
    simp only [Cx.named] at h
    split at h
    · rename_i i hi; exact ⟨i, (assoc_swap h2).1 hi, h⟩
    · cases h
  refine ⟨E, M.C, M.ot, M.os, M.tape, M.output, M.size, M.frame, M.fzIn, M.fz, fun j => ?_, fun j a' h => ?_, fun j h => ?_, fun i j b c c' n n' g1 g2 => ?_, fun j b c n h => ?_⟩
  · constructor
    · intro h
      obtain ⟨⟨i, j'⟩, hp, rfl⟩ := List.mem_map.1 h
      obtain ⟨a, _, g, _⟩ := hin i j' hp
      rw [g]; simp
    · intro h
      by_cases hj : j ∈ m.map (·.2)
      · exact hj
      · exact absurd (hout j hj) h
  · by_cases hj : j ∈ m.map (·.2)
    · obtain ⟨⟨i, j'⟩, hp, rfl⟩ := List.mem_map.1 hj
      obtain ⟨a, g1, g2, g3⟩ := hin i j' hp
      simp only at h
      rw [g2] at h
      cases a with
      | none => cases h
      | some b =>
        cases h
        obtain ⟨o, q1, q2⟩ := M.live i b g1
        refine ⟨o, ?_, hf b o E q2 (g3 b rfl)⟩
        simp only [Cx.named, (assoc_swap h2).2 hp]
        exact q1
    · rw [hout j hj] at h; cases h
  · cases hl : (X.named m).loc j with
    | none => rfl
    | some o =>
      obtain ⟨i, hp, hx⟩ := hloc hl
      obtain ⟨a, g1, g2, _⟩ := hin i j hp
      cases a with
      | none => rw [M.dead i (fun b e => by rw [g1] at e; cases e)] at hx; cases hx
      | some b => exact absurd g2 (h _)
  · obtain ⟨i1, hp1, e1⟩ := hloc g1
    obtain ⟨i2, hp2, e2⟩ := hloc g2
    obtain rfl := M.inj _ _ _ _ _ _ _ e1 e2
    exact nodup_fst h1 hp1 hp2
  · obtain ⟨i, hp, e⟩ := hloc h
    exact M.locIn _ _ _ _ e
/-- An object in other words. -/
theorem Mem.recast (M : Mem X0 W X ob w) {id : Nat} {a a' : AV CT} (h : ob.get id = some (some a)) (hR : ∀ c, R X a c → R X a' c) (hc : a'.isCell = true) (h1 : ∀ l, a ≠ .lst l) (h2 : ∀ l, a' ≠ .lst l) : Mem X0 W X (ob.set id (some a')) w := by
  refine ⟨M.C, M.ot, M.os, M.tape, M.output, M.size, M.frame, M.fzIn, M.fz, fun i => ?_, fun i b hb => ?_, fun i hb => ?_, M.inj, M.locIn⟩
  · rw [Ob.get_set]
    split
    · rename_i e; subst e
      exact ⟨fun _ => by simp, fun _ => (M.us id).2 (by rw [h]; simp)⟩
    · exact M.us i
  · rw [Ob.get_set] at hb
    split at hb
    · rename_i e; subst e; cases hb
      obtain ⟨o, g1, g2⟩ := M.live _ _ h
      exact ⟨o, g1, g2.map hR hc (fun l e => absurd e (h2 l)) (fun l e => absurd e (h1 l))⟩
    · exact M.live i b hb
  · rw [Ob.get_set] at hb
    split at hb
    · exact absurd rfl (hb a')
    · exact M.dead i hb
end
section
variable {X0 : Cx CT} {W : World} {nt : Nat} {X : Cx CT} {a : Act} {w : World} {st : St CT}
/-- A place told in other words. -/
theorem StOk.loc_set (S : StOk X0 W nt X st a w) {l : Loc} {x y : AV CT} (hx : l.get st = x) (hnj : x ≠ .junk) (hcell : x.isCell = true) (hxa : x.isAgg = false) (hya : y.isAgg = false) (hR : ∀ v, R X x [v] → R X y [v]) : StOk X0 W nt X (l.set st y) a w := by
  cases l with
  | slot s =>
    refine ⟨S.mem, S.le, fun t => ?_, S.size, S.defers⟩
    simp only [Loc.set, tget_tset]
    split
    · rename_i e; subst e
      have hs := S.slots s
      have hx : tget st.tm s = x := hx
      rw [hx] at hs
      exact (R.rc1 (hR _ ((hs.rc hcell).one hxa)) hya).rv
    · exact S.slots t
  | fld id j =>
    simp only [Loc.get] at hx
    split at hx
    · rename_i s fs hid
      simp only [Loc.set, hid]
      refine ⟨S.mem.recast hid (fun c hr => ?_) rfl (fun l e => by cases e) (fun l e => by cases e), S.le, S.slots, S.size, S.defers⟩
      cases hr with
      | @agg _ css hl hR' =>
        refine .agg (by simpa using hl) fun i b c hb hc => ?_
        by_cases hij : j = i
        · subst hij
          have hlt : j < fs.length := by
            have := (List.getElem?_eq_some_iff.1 hb).1; simpa using this
          rw [List.getElem?_set_self hlt] at hb
          cases hb
          have hfs : fs[j]? = some x := by
            rw [← hx, List.getD_eq_getElem?_getD, List.getElem?_eq_getElem hlt]; rfl
          have hr := hR' j x c hfs hc
          obtain ⟨v, rfl⟩ : ∃ v, c = [v] := by
            have := hr.size
            have h1 : c.length = 1 := by rw [this]; cases x <;> first | rfl | (simp [AV.isAgg] at hxa; done)
            match c, h1 with
            | [v], _ => exact ⟨v, rfl⟩
          exact hR v hr
        · rw [List.getElem?_set_ne hij] at hb
          exact hR' i b c hb hc
    · exact absurd hx.symm hnj
theorem unnil_ok : ∀ (ls : List Loc) (st : St CT), StOk X0 W nt X st a w → StOk X0 W nt X (unnilLocs ls st) a w
  | [], st, S => S
  | l :: ls, st, S => by
    simp only [unnilLocs]
    split
    · rename_i kd hk
      exact unnil_ok ls _ (S.loc_set hk (by simp) rfl rfl rfl fun v hr => by cases hr with | vnil h => exact .vs0 (nil_ok _ h) nil_len)
    · exact unnil_ok ls st S
theorem slide_ok : ∀ (ls : List Loc) (st : St CT), StOk X0 W nt X st a w → StOk X0 W nt X (slideLocs ls st) a w
  | [], st, S => S
  | l :: ls, st, S => by
    simp only [slideLocs]
    split
    · rename_i id kd hk
      split
      · rename_i lst hid
        refine slide_ok ls _ (S.loc_set hk (by simp) rfl rfl rfl fun v hr => ?_)
        cases hr with
        | mw h0 h1 h2 h3 =>
          obtain ⟨o, ho, hL⟩ := S.mem.loc hid
          obtain ⟨hmx, hcase⟩ := h3 o ho
          cases hL with
          | nil e1 e2 e3 =>
            cases e1
            rcases hcase with ⟨_, _, q, _⟩ | ⟨_, _, rfl⟩
            · cases q
            · rw [e2]; exact .ms0 h0 h1
          | blk k1 k2 k3 k4 =>
            rename_i b cp n c rest ee f
            obtain ⟨q1, q2, q3, q4⟩ := k4 _ rfl
            rcases hcase with ⟨b', cap, p1, p2, rfl⟩ | ⟨p, _⟩
            case inr => cases p
            cases p1
            have := R.ms (X := X) (id := id) (p := []) (k := kd) (off := 0) (len := lst.len) (cap := lst.len) (b := b) (capc := cp) h0 h1 ⟨by omega, Nat.le_refl _⟩ (by omega) (fun o' ho' => by rw [ho] at ho'; cases ho'; exact ⟨cp, rfl⟩)
            simp only [pathOff, Nat.zero_mul, Nat.add_zero] at this
            rw [q1] at this ⊢
            exact this
      · exact slide_ok ls st S
    · exact slide_ok ls st S
end
theorem adopt_ok {γ : Type} {k : St CT → List (Nat × Nat) → Option γ} {r : γ} : ∀ (ls : List (Loc × Nat)) (st : St CT) (m : List (Nat × Nat)), adoptAll ls st m k = some r →
    ∃ st' m', k st' m' = some r ∧ m'.reverse.map (·.2) = m.reverse.map (·.2) ++ ls.map (·.2) ∧ ∀ (X0 : Cx CT) (W : World) (nt : Nat) (X : Cx CT) (a : Act) (w : World), StOk X0 W nt X st a w → ∃ X', StOk X0 W nt X' st' a w
  | [], st, m, h => ⟨st, m, h, by simp, fun X0 W nt X a w S => ⟨X, S⟩⟩
  | (l, c) :: ls, st, m, h => by
    simp only [adoptAll] at h
    split at h
    · obtain ⟨st', m', g1, g2, g3⟩ := adopt_ok ls st _ h
      exact ⟨st', m', g1, by rw [g2]; simp, g3⟩
    · obtain ⟨st', m', g1, g2, g3⟩ := adopt_ok ls st _ h
      exact ⟨st', m', g1, by rw [g2]; simp, g3⟩
    · obtain ⟨st', m', g1, g2, g3⟩ := adopt_ok ls st _ h
      exact ⟨st', m', g1, by rw [g2]; simp, g3⟩
    · rename_i kd hk
      split at h
      · rename_i hn
        obtain ⟨st', m', g1, g2, g3⟩ := adopt_ok ls _ _ h
        refine ⟨st', m', g1, by rw [g2]; simp, fun X0 W nt X a w S => ?_⟩
        -- is the kind right? told by the place itself
        by_cases hok : kd.Ok X.C
        · obtain ⟨E, M'⟩ := S.mem.newNil hn (l := kd.nil) nil_len (nil_ok _ hok)
          have S1 : StOk X0 W nt (X.new (c + 1) (none, 0)) ⟨st.tm, st.ob.set (c + 1) (some (.lst kd.nil))⟩ a w := ⟨M', S.le.trans E, fun t => (S.slots t).mono E, S.size, S.defers⟩
          have hk' : l.get (⟨st.tm, st.ob.set (c + 1) (some (.lst kd.nil))⟩ : St CT) = .vnil kd := by
            cases l with
            | slot s => exact hk
            | fld id j =>
              simp only [Loc.get] at hk ⊢
              rw [Ob.get_set, if_neg]
              · exact hk
              · intro e
                rw [← e, hn] at hk; cases hk
          refine g3 X0 W nt _ a w (S1.loc_set hk' (by simp) rfl rfl rfl fun v hr => ?_)
          cases hr with
          | vnil h0 =>
            refine .mw h0 (.inl rfl) trivial fun o ho => ?_
            simp [Cx.new] at ho
            subst ho
            exact ⟨by simp [maxI], .inr ⟨rfl, rfl, rfl⟩⟩
        · -- there is no such place
          exfalso
          apply hok
          cases l with
          | slot s =>
            have hs := S.slots s
            have hk : tget st.tm s = .vnil kd := hk
            rw [hk] at hs
            exact hs.vnil.2
          | fld id j =>
            simp only [Loc.get] at hk
            split at hk
            · rename_i s fs hid
              obtain ⟨o, ho, hL⟩ := S.mem.loc hid
              cases hL with
              | nil e => cases e
              | blk k1 k2 k3 k4 =>
                cases k3 with
                | @agg _ css hl hR' =>
                  have hlt : j < fs.length := by
                    rcases Nat.lt_or_ge j fs.length with h | h
                    · exact h
                    · rw [List.getD_eq_getElem?_getD, List.getElem?_eq_none h] at hk; cases hk
                  have hfs : fs[j]? = some (.vnil kd) := by
                    rw [← hk, List.getD_eq_getElem?_getD, List.getElem?_eq_getElem hlt]; rfl
                  obtain ⟨cc, hc⟩ : ∃ cc, css[j]? = some cc := ⟨css[j]'(by omega), List.getElem?_eq_getElem (by omega)⟩
                  have := hR' j _ cc hfs hc
                  cases this with | vnil h0 => exact h0
            · cases hk
      · cases h
    · cases h
theorem keepObs_get {m : List (Nat × Nat)} {ob : Ob CT} : ∀ {l : List (Nat × Nat)} {obs : List (AV CT)}, keepObs m ob l = some obs → obs.length = l.length ∧ ∀ (q : Nat) (p : Nat × Nat), l[q]? = some p → ∃ a, ob.get p.1 = some (some a) ∧ obs[q]? = some (a.ren m) ∧ (a.ren m).isCell = true
  | [], obs, h => by cases h; exact ⟨rfl, fun q p h => by simp at h⟩
  | (i, c) :: l, obs, h => by
    simp only [keepObs] at h
    split at h
    · rename_i a r h1 h2
      cases hc : (a.ren m).isCell with
      | false => rw [hc] at h; cases h
      | true =>
        rw [hc] at h; cases h
        obtain ⟨g1, g2⟩ := keepObs_get h2
        refine ⟨by simp [g1], fun q p hp => ?_⟩
        cases q with
        | zero => simp at hp; subst hp; exact ⟨a, h1, rfl, hc⟩
        | succ q => exact g2 q p (by simpa using hp)
    · cases h
theorem zipN_tget : ∀ (ts : List Nat) (f : Nat → AV CT) (t : Nat), tget (zipN ts (ts.map f)) t = if t ∈ ts then f t else .junk
  | [], f, t => by simp [zipN, tget]
  | s :: ts, f, t => by
    simp only [List.map_cons, zipN, tget, zipN_tget ts f t]
    by_cases h : s = t
    · subst h; simp
    · simp [beq_ne h, Ne.symm h]
theorem zip_get : ∀ (js : List Nat) (obs : List (AV CT)), js.length = obs.length → (∀ j : Nat, j ∉ js → Ob.get ((zipN js obs).map fun p => (p.1, some p.2)) j = none) ∧
    (js.Nodup → ∀ (q j : Nat), js[q]? = some j → Ob.get ((zipN js obs).map fun p => (p.1, some p.2)) j = (obs[q]?).map some)
  | [], [], _ => ⟨fun _ _ => rfl, fun _ q j h => by simp at h⟩
  | i :: js, a :: obs, h => by
    obtain ⟨g1, g2⟩ := zip_get js obs (by simpa using h)
    refine ⟨fun j hj => ?_, fun hd q j hq => ?_⟩
    · simp only [zipN, List.map_cons, Ob.get]
      rw [beq_ne (show ¬ i = j by rintro rfl; exact hj List.mem_cons_self)]
      exact g1 j fun h => hj (List.mem_cons_of_mem _ h)
    · simp only [zipN, List.map_cons, Ob.get]
      have hd := List.nodup_cons.1 hd
      cases q with
      | zero => simp at hq; subst hq; simp
      | succ q =>
        have hq : js[q]? = some j := by simpa using hq
        rw [beq_ne (show ¬ i = j by rintro rfl; exact hd.1 (List.mem_of_getElem? hq))]
        exact g2 hd.2 q j hq
theorem Ob.get_mem {ob : Ob CT} {i : Nat} (h : ob.get i ≠ none) : ∃ v, (i, v) ∈ ob := by
  induction ob with
  | nil => exact absurd rfl h
  | cons p r ih =>
    obtain ⟨k, u⟩ := p
    simp only [Ob.get] at h
    cases hk : Nat.beq k i with
    | true => obtain rfl := Nat.eq_of_beq_eq_true hk; exact ⟨u, List.mem_cons_self⟩
    | false =>
      rw [hk] at h
      obtain ⟨v, hv⟩ := ih h
      exact ⟨v, List.mem_cons_of_mem _ hv⟩
/-- What is handed in bears names from 'base' on. -/
def Handed (X0 : Cx CT) : Prop := ∀ i, X0.us i → base ≤ i
theorem norm_ok {γ : Type} {kp : Keep} {st : St CT} {k : List (AV CT) → List (AV CT) → Option γ} {r : γ} (h : withNorm kp st k = some r) :
    ∃ vals obs, k vals obs = some r ∧ ∀ (X0 : Cx CT) (W : World) (nt : Nat) (X : Cx CT) (a : Act) (w : World), Handed X0 → StOk X0 W nt X st a w → ∃ X', StOk X0 W nt X' (mkSt kp vals obs) a w := by
  unfold withNorm at h
  obtain ⟨st', m', h, hm, hS⟩ := adopt_ok _ _ _ h
  split at h
  case h_2 => cases h
  rename_i obs hobs
  cases hk : (okMap (keepMap kp m') && keptAll kp st'.ob) with
  | false => rw [hk] at h; cases h
  | true =>
    rw [hk] at h
    simp only [Bool.and_eq_true, okMap] at hk
    refine ⟨_, _, h, fun X0 W nt X a w hH S => ?_⟩
    obtain ⟨X', S'⟩ := hS X0 W nt X a w (slide_ok _ _ (unnil_ok _ _ S))
    have hn1 := noDup_nodup hk.1.1
    have hn2 := noDup_nodup hk.1.2
    obtain ⟨o1, o2⟩ := keepObs_get hobs
    have hnames : (keepMap kp m').map (·.2) = kp.adopt.map (·.2) ++ kp.objs := by
      simp only [keepMap, List.map_append, hm]
      simp [Function.comp_def]
    have hlen : (kp.adopt.map (·.2) ++ kp.objs).length = obs.length := by rw [← hnames, List.length_map, o1]
    obtain ⟨z1, z2⟩ := zip_get (kp.adopt.map (·.2) ++ kp.objs) obs hlen
    have z2 := z2 (hnames ▸ hn2)
    obtain ⟨E, M'⟩ := mem_ren S'.mem hn1 hn2 (ob' := (mkSt kp (rens (keepMap kp m') (kp.slots.map (tget st'.tm))) obs).ob) (AV.ren (keepMap kp m')) (fun a o E hl hc => hl.ren E hc) (fun i j hp => by
      obtain ⟨q, hq⟩ := List.mem_iff_getElem?.1 hp
      obtain ⟨b, g1, g2, g3⟩ := o2 q _ hq
      refine ⟨some b, g1, ?_, fun a e => by cases e; exact g3⟩
      have : (kp.adopt.map (·.2) ++ kp.objs)[q]? = some j := by rw [← hnames, List.getElem?_map, hq]; rfl
      simp only [mkSt]
      rw [z2 q j this, g2]; rfl) (fun j hj => by
      simp only [mkSt]
      exact z1 j (by rw [← hnames]; exact hj))
    have hkept : ∀ i, X0.us i → (i, i) ∈ keepMap kp m' := by
      intro i hu
      have h1 := (S'.mem.us i).1 (S'.le.us i hu).1
      obtain ⟨v, hv⟩ := Ob.get_mem h1
      have h2 := List.all_eq_true.1 hk.2 _ hv
      simp only [Bool.or_eq_true] at h2
      rcases h2 with h2 | h2
      · have h3 := Nat.ble_eq.mp (show Nat.ble (i + 1) base = true from h2)
        have := hH i hu
        omega
      · have h3 : i ∈ kp.objs := any_beq.1 h2
        exact List.mem_append_right _ (List.mem_map.2 ⟨i, h3, rfl⟩)
    refine ⟨X'.named (keepMap kp m'), M', ⟨S'.le.C, S'.le.fz, S'.le.ot, fun i hu => ⟨List.mem_map.2 ⟨_, hkept i hu, rfl⟩, fun o ho => ?_⟩⟩, fun t => ?_, S'.size, S'.defers⟩
    · simp only [Cx.named, (assoc_swap hn2).2 (hkept i hu)] at ho
      exact (S'.le.us i hu).2 o ho
    · simp only [mkSt]
      rw [rens_map, List.map_map, zipN_tget]
      split
      · exact (S'.slots t).ren E
      · exact trivial
end Go.Proofs.Ytjnkppjlhmkjaaa.Av
