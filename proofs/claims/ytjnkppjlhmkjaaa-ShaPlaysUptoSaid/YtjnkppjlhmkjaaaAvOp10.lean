/- Slices of objects that go over to be values. -/
import Derived.Test.YtjnkppjlhmkjaaaAvOp9
namespace Go.Proofs.Ytjnkppjlhmkjaaa.Av
open Go
variable {CT : Nat → Type}
theorem ext_all (l : LS CT (AV CT)) : l.ext 0 l.len = l := by cases l <;> simp [LS.ext, LS.len]
section
variable {P : Program} {T : TyTab CT} {CR : CallR CT} {X0 : Cx CT} {W w : World} {ob' : Ob CT} {r : AV CT} {α : Type}
/-- A list of plain data whose cells stay as they are. -/
theorem vs_pub {X : Cx CT} {l : LS CT (AV CT)} {css : List (List Value)} (hp : l.plain = true) (h0 : l.Ok X.C)
    (h3 : ∀ (j : Nat) (a : AV CT) (c : List Value), l.get? X.C j = some a → css[j]? = some c → R X a c) (h2 : css.length = l.len) (h4 : ∀ c ∈ css, c.length = l.sz) {b : Nat} {cs : Array Value} (hf : X.fz b = some cs)
    (hc : ∀ (j : Nat) (v : Value), css.flatten[j]? = some v → cs[j]? = some v) {off len cap : Nat} (hb : off + len ≤ l.len) (hm : len ≤ maxI) (hcap : len ≤ cap) :
    R X (.vs false (l.ext off len)) [.slice (some ⟨b, off * l.sz, none⟩) len cap] := by
  have hl : (l.ext off len).len = len := by rw [ext_len]; omega
  have key : ∀ (j : Nat) (a : AV CT), (l.ext off len).get? X.C j = some a → l.get? X.C (off + j) = some a ∧ ∃ c, css[off + j]? = some c := by
    intro j a ha
    have h := ext_get ha
    have hlt := get_lt _ h.1
    exact ⟨h.1, _, List.getElem?_eq_getElem (by omega)⟩
  have := R.vs (X := X) (lent := false) (l := l.ext off len) (b := b) (off := off * l.sz) (cap := cap) (fun j => css.getD (off + j) []) (ext_ok _ _ h0) (by rw [hl]; exact ⟨hm, hcap⟩) (fun j a ha => by
    obtain ⟨h, c, hc'⟩ := key j a ha
    rw [taint_false]
    have : css.getD (off + j) [] = c := by simp [List.getD, hc']
    rw [this]; exact h3 _ a c h hc') (fun j a ha => by
    obtain ⟨h, c, hc'⟩ := key j a ha
    have e : css.getD (off + j) [] = c := by simp [List.getD, hc']
    rw [e, ext_sz]
    refine ⟨(plain_get X.C hp h).2, h4 c (List.mem_of_getElem? hc'), cs, .inl hf, fun k v hk => ?_⟩
    have := hc _ v (flat_get h4 hc' hk)
    rwa [Nat.add_mul] at this)
  rwa [hl] at this
/-- An object of plain data goes over to be a value. -/
theorem pub_obj {X : Cx CT} {ob : Ob CT} (M : Mem X0 W X ob w) {id : Nat} {l : LS CT (AV CT)} (hl : ob.get id = some (some (.lst l))) (hp : l.plain = true) :
    ∃ X1, Le X X1 ∧ Mem X0 W X1 (ob.set id none) w ∧ ∀ o, X.loc id = some o → o.2 = l.len ∧ l.Ok X1.C ∧ (∀ b cap, o.1 = some (b, cap) → l.len ≤ maxI ∧ l.len ≤ cap ∧ ∀ off len c, off + len ≤ l.len → len ≤ c → R X1 (.vs false (l.ext off len)) [.slice (some ⟨b, off * l.sz, none⟩) len c]) := by
  obtain ⟨o, ho, hL⟩ := M.loc hl
  have E1 := X.kill_le id
  have M1 := M.kill id
  cases hL with
  | nil e1 e2 e3 =>
    cases e1
    refine ⟨_, E1, M1, fun o' ho' => ?_⟩
    rw [ho] at ho'; cases ho'
    exact ⟨e2.symm, e3, fun b cap h => by cases h⟩
  | blk k1 k2 k3 k4 =>
    rename_i b cp n c rest e f
    obtain ⟨q1, q2, q3, q4⟩ := k4 l rfl
    have hL := M.locIn _ _ _ _ ho
    have hkl : ∀ i c' n', (X.kill id).loc i ≠ some (some (b, c'), n') := by
      intro i c' n' hi
      simp only [Cx.kill] at hi
      split at hi
      · cases hi
      · rename_i hne; exact hne (M.inj _ _ _ _ _ _ _ hi ho)
    obtain ⟨E2, M2⟩ := M1.pub k2 hL.1 hL.2.1 hkl
    refine ⟨_, E1.trans E2, M2, fun o' ho' => ?_⟩
    rw [ho] at ho'; cases ho'
    have k3' := (k3.mono E1).mono E2
    cases k3' with
    | @lst _ css h0 h2 h3 h4 =>
      refine ⟨q1.symm, h0, fun b' cap' h => ?_⟩
      cases h
      refine ⟨by omega, by omega, fun off len c' hb hc => ?_⟩
      refine vs_pub (cs := (css.flatten ++ rest).toArray) hp h0 h3 h2 h4 (by simp [Cx.pub]) (fun j v hj => ?_) hb (by omega) hc
      rw [List.getElem?_toArray, List.getElem?_append_left (List.getElem?_eq_some_iff.1 hj).1]
      exact hj
/-- Elements one by one. -/
theorem listM_ok {f : AV CT → (AV CT → M CT α) → M CT α} {v : α}
    (hf : ∀ {X : Cx CT} {ob : Ob CT} {a : AV CT} {c : List Value} {k : AV CT → M CT α}, Mem X0 W X ob w → R X a c → Ev CR (f a k) ob v ob' →
      ∃ a' ob1 X1, Le X X1 ∧ Mem X0 W X1 ob1 w ∧ R X1 a' c ∧ a'.isAgg = a.isAgg ∧ Ev CR (k a') ob1 v ob') :
    ∀ (l : List (AV CT)) {X : Cx CT} {ob : Ob CT} {css : List (List Value)} {k : List (AV CT) → M CT α}, Mem X0 W X ob w → l.length = css.length →
      (∀ (j : Nat) (a : AV CT) (c : List Value), l[j]? = some a → css[j]? = some c → R X a c) → Ev CR (listM f l k) ob v ob' →
      ∃ l' ob1 X1, Le X X1 ∧ Mem X0 W X1 ob1 w ∧ l'.length = l.length ∧ (∀ (j : Nat) (a : AV CT) (c : List Value), l'[j]? = some a → css[j]? = some c → R X1 a c) ∧
        (∀ (j : Nat) (a a' : AV CT), l[j]? = some a → l'[j]? = some a' → a'.isAgg = a.isAgg) ∧ Ev CR (k l') ob1 v ob'
  | [], X, ob, css, k, M, hl, hr, h => ⟨[], ob, X, .refl X, M, rfl, fun _ _ _ h => by simp at h, fun _ _ _ h => by simp at h, h⟩
  | a :: l, X, ob, css, k, M, hl, hr, h => by
    obtain ⟨c, css, rfl⟩ : ∃ c cs, css = c :: cs := by cases css with | nil => simp at hl | cons c cs => exact ⟨c, cs, rfl⟩
    obtain ⟨a', ob1, X1, E1, M1, r1, g1, h1⟩ := hf M (hr 0 a c rfl rfl) h
    obtain ⟨l', ob2, X2, E2, M2, n2, r2, g2, h2⟩ := listM_ok hf l (css := css) M1 (by simpa using hl) (fun j b d hb hd => (hr (j + 1) b d (by simpa using hb) (by simpa using hd)).mono E1) h1
    refine ⟨a' :: l', ob2, X2, E1.trans E2, M2, by simp [n2], fun j b d hb hd => ?_, fun j b b' hb hb' => ?_, h2⟩
    · cases j with
      | zero => simp at hb hd; subst hb; subst hd; exact r1.mono E2
      | succ j => exact r2 j b d (by simpa using hb) (by simpa using hd)
    · cases j with
      | zero => simp at hb hb'; subst hb; subst hb'; exact g1
      | succ j => exact g2 j b b' (by simpa using hb) (by simpa using hb')
theorem pub_ok {v : α} : ∀ (d : Nat) {X : Cx CT} {ob : Ob CT} {a : AV CT} {c : List Value} {k : AV CT → M CT α}, Mem X0 W X ob w → R X a c → Ev CR (pubM d a k) ob v ob' →
    ∃ a' ob1 X1, Le X X1 ∧ Mem X0 W X1 ob1 w ∧ R X1 a' c ∧ a'.isAgg = a.isAgg ∧ Ev CR (k a') ob1 v ob'
  | 0, _, _, _, _, _, _, _, h => h.fail_inv.elim
  | d + 1, X, ob, a, c, k, M, hr, h => by
    unfold pubM at h
    split at h
    · rename_i id p kd off len cap
      split at h
      · obtain ⟨l, h1, h2⟩ := h.rdLst_inv
        obtain ⟨g1, h3⟩ := h2.gd_inv
        obtain ⟨g2, h4⟩ := cond_fail h3
        simp only [Bool.and_eq_true] at g2
        have g1 := Nat.ble_eq.mp g1
        obtain ⟨X1, E1, M1, hv⟩ := pub_obj M h1 g2.1
        refine ⟨.vs false (l.ext off len), _, X1, E1, M1, ?_, rfl, h4.wr_inv⟩
        obtain ⟨o, ho, _⟩ := M.loc h1
        obtain ⟨q1, q2, q3⟩ := hv o ho
        cases hr with
        | ms k0 k1 k2 k3 k4 =>
          obtain ⟨cp, hcp⟩ := k4 o ho
          have := (q3 _ _ hcp).2.2 off len _ g1 (Nat.le_trans k2.2 k3)
          rw [Nat.eq_of_beq_eq_true g2.2, show pathOff [] = 0 from rfl, Nat.zero_add]
          exact this
        | ms0 k0 k1 => exact .vs0 (ext_ok _ _ q2) (by rw [ext_len]; omega)
      · exact h.fail_inv.elim
    · rename_i id kd
      obtain ⟨l, h1, h2⟩ := h.rdLst_inv
      obtain ⟨g2, h4⟩ := cond_fail h2
      obtain ⟨X1, E1, M1, hv⟩ := pub_obj M h1 g2
      refine ⟨.vs false l, _, X1, E1, M1, ?_, rfl, h4.wr_inv⟩
      obtain ⟨o, ho, _⟩ := M.loc h1
      obtain ⟨q1, q2, q3⟩ := hv o ho
      cases hr with
      | mw k0 k1 k2 k3 =>
        rcases (k3 o ho).2 with ⟨b, cp, e1, e2, rfl⟩ | ⟨e1, e2, rfl⟩
        · have := (q3 _ _ e1).2.2 0 l.len cp (by omega) (by omega)
          rw [ext_all, Nat.zero_mul] at this
          rw [q1]; exact this
        · exact .vs0 q2 (by omega)
    · rename_i s fs
      cases hr with
      | agg hl hR =>
        rename_i css
        obtain ⟨l', ob1, X1, E1, M1, n1, r1, _, h1⟩ := listM_ok (fun M r h => pub_ok d M r h) fs M hl hR h
        exact ⟨_, ob1, X1, E1, M1, .agg (n1.trans hl) r1, rfl, h1⟩
    · cases hr
    · exact ⟨a, ob, X, .refl X, M, hr, rfl, h⟩
/-- Of a whole value. -/
theorem pub_rv {X : Cx CT} {ob : Ob CT} {v : α} (d : Nat) {a : AV CT} {u : Value} {k : AV CT → M CT α} (M : Mem X0 W X ob w) (hu : RV X a u) (h : Ev CR (pubM d a k) ob v ob') :
    ∃ a' ob1 X1, Le X X1 ∧ Mem X0 W X1 ob1 w ∧ RV X1 a' u ∧ Ev CR (k a') ob1 v ob' := by
  have one : ∀ {a : AV CT}, RC X a u → Ev CR (pubM d a k) ob v ob' → ∃ a' ob1 X1, Le X X1 ∧ Mem X0 W X1 ob1 w ∧ RV X1 a' u ∧ Ev CR (k a') ob1 v ob' := by
    intro a hc h
    obtain ⟨a', ob1, X1, E1, M1, r1, g1, h1⟩ := pub_ok d M hc.1 h
    refine ⟨a', ob1, X1, E1, M1, RC.rv ⟨r1, fun e => hc.2.1 (g1 ▸ e), fun e => hc.2.2 (g1 ▸ e)⟩, h1⟩
  cases a with
  | junk =>
    cases d with
    | zero => exact h.fail_inv.elim
    | succ d => exact ⟨.junk, ob, X, .refl X, M, trivial, h⟩
  | und =>
    cases d with
    | zero => exact h.fail_inv.elim
    | succ d => exact ⟨.und, ob, X, .refl X, M, hu, h⟩
  | tup l =>
    cases d with
    | zero => exact h.fail_inv.elim
    | succ d =>
      obtain ⟨vs, rfl, hl, hr⟩ := hu
      obtain ⟨l', ob1, X1, E1, M1, n1, r1, g1, h1⟩ := listM_ok (css := vs.map fun v => v.cells.toList) (fun M r h => pub_ok d M r h) l M (by simpa using hl) (fun j a c ha hc => by
        rw [List.getElem?_map, Option.map_eq_some_iff] at hc
        obtain ⟨v, hv, rfl⟩ := hc
        exact (hr j a v ha hv).1) h
      refine ⟨.tup l', ob1, X1, E1, M1, (show ∃ vs' : List Value, _ from ⟨vs, rfl, n1.trans hl, fun j b u hb hu => ?_⟩), h1⟩
      have hlt := (List.getElem?_eq_some_iff.1 hb).1
      have ha : l[j]? = some l[j] := List.getElem?_eq_getElem (by omega)
      have hg := g1 j _ _ ha hb
      have hc := hr j _ u ha hu
      exact ⟨r1 j b _ hb (by rw [List.getElem?_map, hu]; rfl), fun e => hc.2.1 (hg ▸ e), fun e => hc.2.2 (hg ▸ e)⟩
  | _ => exact one hu h
end
end Go.Proofs.Ytjnkppjlhmkjaaa.Av
