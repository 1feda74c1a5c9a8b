/- Functions: how they end, and what a call of one comes to. -/
import Derived.Test.YtjnkppjlhmkjaaaAvCode
namespace Go.Proofs.Ytjnkppjlhmkjaaa.Av
open Go
variable {CT : Nat → Type}
theorem from_get : ∀ (m n q : Nat), (from_ n m)[q]? = if q < m then some (n + q) else none
  | 0, n, q => by simp [from_]
  | m + 1, n, q => by
    cases q with
    | zero => simp [from_]
    | succ q =>
      simp only [from_, List.getElem?_cons_succ, from_get m (n + 1) q]
      by_cases h : q < m
      · rw [if_pos h, if_pos (by omega)]; congr 1; omega
      · rw [if_neg h, if_neg (by omega)]
theorem from_len : ∀ (m n : Nat), (from_ n m).length = m
  | 0, n => rfl
  | m + 1, n => by simp [from_, from_len m]
theorem from_mem {n m i : Nat} : i ∈ from_ n m ↔ n ≤ i ∧ i < n + m := by
  constructor
  · intro h
    obtain ⟨q, hq⟩ := List.mem_iff_getElem?.1 h
    rw [from_get] at hq
    split at hq
    · cases hq; omega
    · cases hq
  · intro h
    refine List.mem_of_getElem? (i := i - n) ?_
    rw [from_get, if_pos (by omega)]; congr 1; omega
theorem from_nodup : ∀ (m n : Nat), (from_ n m).Nodup
  | 0, n => List.nodup_nil
  | m + 1, n => List.nodup_cons.2 ⟨fun h => by have := from_mem.1 h; omega, from_nodup m (n + 1)⟩
theorem zipN_args : ∀ (l : List (AV CT)) (n t : Nat), tget (zipN (from_ n l.length) l) t = if n ≤ t then l.getD (t - n) .junk else .junk
  | [], n, t => by simp [zipN, from_, tget]
  | a :: l, n, t => by
    simp only [List.length_cons, from_, zipN, tget, zipN_args l (n + 1) t]
    by_cases h : n = t
    · subst h; simp
    · rw [beq_ne h]
      simp only [cond_false]
      by_cases hn : n ≤ t
      · rw [if_pos (by omega), if_pos hn, show t - n = (t - (n + 1)) + 1 by omega]; rfl
      · rw [if_neg (by omega), if_neg hn]
theorem RV.unnil {X : Cx CT} {a : AV CT} {v : Value} (h : RV X a v) : RV X a.unnil v := by
  have one : ∀ {a : AV CT} {v : Value}, RC X a v → RC X a.unnil v := fun h => ⟨h.1.unnil, by simpa using h.2.1, by simpa using h.2.2⟩
  cases a with
  | junk => trivial
  | und => exact h
  | tup l =>
    obtain ⟨vs, h1, h2, h3⟩ := h
    refine (show ∃ vs' : List Value, _ from ⟨vs, h1, by rw [unnils_len]; exact h2, fun j b u hb hu => ?_⟩)
    rw [unnils_get, Option.map_eq_some_iff] at hb
    obtain ⟨a, ha, rfl⟩ := hb
    exact one (h3 j a u ha hu)
  | _ => exact (one (RV.rc h rfl)).rv
theorem renO_eq (m : List (Nat × Nat)) : ∀ l : List (Option (AV CT)), renO m l = l.map (Option.map fun a => a.unnil.ren m)
  | [] => rfl
  | some a :: l => by simp [renO, renO_eq m l]
  | none :: l => by simp [renO, renO_eq m l]
theorem cellO_get : ∀ {l : List (Option (AV CT))} {q : Nat} {a : AV CT}, cellO l = true → l[q]? = some (some a) → a.isCell = true
  | [], q, a, _, h => by simp at h
  | none :: l, 0, a, _, h => by simp at h
  | some b :: l, 0, a, hc, h => by
    simp only [cellO, Bool.and_eq_true] at hc
    simp at h; exact h ▸ hc.1
  | none :: l, q + 1, a, hc, h => cellO_get (l := l) (q := q) (by simpa [cellO] using hc) (by simpa using h)
  | some b :: l, q + 1, a, hc, h => by
    simp only [cellO, Bool.and_eq_true] at hc
    exact cellO_get (l := l) (q := q) hc.2 (by simpa using h)
section
variable {P : Program} {T : TyTab CT} {CR : CallR CT} {nt : Nat} {α : Type} {v : α} {ob ob' : Ob CT}
def resF (tmps : Array Value) : ResultVar → Sem Value
  | .tmp t => Pure.pure (tmps.getD t undef)
  | .cell a t => do loadVar t (← asAddr (tmps.getD a undef))
theorem results_ok (H : TabOk P T) : ∀ (l : List ResultVar) {tm : List (Nat × AV CT)} {k : List (AV CT) → M CT α}, Ev CR (resultsM T T.C l tm k) ob v ob' →
    ∃ vs, Ev CR (k vs) ob v ob' ∧ ∀ (X0 : Cx CT) (W : World) (X : Cx CT) (a : Act) (w : World), X0.C = T.C → StOk X0 W nt X ⟨tm, ob⟩ a w →
      ∃ us : List Value, (l.mapM (resF a.tmps)).run P w = .ok us w ∧ vs.length = us.length ∧ ∀ (j : Nat) (b : AV CT) (u : Value), vs[j]? = some b → us[j]? = some u → RV X b u
  | [], tm, k, h => ⟨[], h, fun X0 W X a w _ S => ⟨[], by simp, rfl, fun j b u h => by simp at h⟩⟩
  | .tmp t :: l, tm, k, h => by
    obtain ⟨vs, h1, h2⟩ := results_ok H l h
    refine ⟨_, h1, fun X0 W X a w hC S => ?_⟩
    obtain ⟨us, g1, g2, g3⟩ := h2 X0 W X a w hC S
    refine ⟨a.tmps.getD t undef :: us, by simp [List.mapM_cons, resF, g1], by simp [g2], fun j b u hb hu => ?_⟩
    cases j with
    | zero => simp at hb hu; subst hb; subst hu; simpa using S.slots t
    | succ j => exact g3 j b u (by simpa using hb) (by simpa using hu)
  | .cell c t :: l, tm, k, h => by
    simp only [resultsM] at h
    split at h
    · rename_i id p hp
      obtain ⟨x, hx, h⟩ := h.rdObj_inv
      obtain ⟨b, hb, h⟩ := h.getP_inv
      obtain ⟨vs, h1, h2⟩ := results_ok H l h
      obtain ⟨hf, h1⟩ := cond_fail h1
      refine ⟨_, h1, fun X0 W X a w hC S => ?_⟩
      obtain ⟨us, g1, g2, g3⟩ := h2 X0 W X a w hC S
      have hs := S.slots c
      rw [hp] at hs
      obtain ⟨B, e, hu, hl⟩ := hs.ptr
      obtain ⟨o, ho, _⟩ := S.mem.loc hx
      obtain ⟨cp, hcp⟩ := hl o ho
      obtain ⟨o1, o2⟩ := o
      simp only at hcp; subst hcp
      have hX : X.C = T.C := S.mem.C.trans hC
      obtain ⟨cs, r1, r2⟩ := S.mem.at hx (hX ▸ hb) ho
      obtain ⟨u, q1, q2⟩ := load_run (P := P) H hf r1 r2
      refine ⟨u :: us, ?_, by simp [g2], fun j b' u' hb' hu' => ?_⟩
      · have e2 : (resF a.tmps (.cell c t)).run P w = .ok u w := by
          simp only [resF, e, Sem.run_bind]
          simpa [asAddr] using q1
        simp [List.mapM_cons, e2, g1]
      · cases j with
        | zero => simp at hb' hu'; subst hb'; subst hu'; exact q2.rv
        | succ j => exact g3 j b' u' (by simpa using hb') (by simpa using hu')
    · exact h.fail_inv.elim
theorem results_run {fn : Func} {tmps : Array Value} {us : List Value} {w : World} (h : (fn.results.toList.mapM (resF tmps)).run P w = .ok us w) : (results fn tmps).run P w = .ok (match us with | [u] => u | us => .tuple us.toArray) w := by
  have h' : (fn.results.mapM (resF tmps)).run P w = .ok us.toArray w := by
    rw [Array.mapM_eq_mapM_toList]
    simp [h]
  have e : results fn tmps = (do let vs ← fn.results.mapM (resF tmps); Pure.pure (if h : vs.size = 1 then vs[0] else .tuple vs)) := by
    unfold results
    congr 2
  rw [e]
  simp only [Sem.run_bind, h', Result.andThen_ok, Sem.run_pure]
  match us with
  | [] => rfl
  | [u] => rfl
  | u :: u' :: l => simp
theorem Ev.gatherSoft_inv : ∀ (d : Nat) {todo seen : List Nat} {k : List Nat → M CT α}, Ev CR (gatherSoftM d todo seen k) ob v ob' → ∃ ids, Ev CR (k ids) ob v ob'
  | 0, _, _, _, h => h.fail_inv.elim
  | d + 1, [], seen, k, h => ⟨seen, h⟩
  | d + 1, i :: t, seen, k, h => by
    simp only [gatherSoftM] at h
    cases hs : seen.any (Nat.beq i) with
    | true => rw [hs] at h; exact Ev.gatherSoft_inv d h
    | false =>
      rw [hs] at h
      have h := Ev.rd_inv h
      split at h
      · exact Ev.gatherSoft_inv d h
      · exact Ev.gatherSoft_inv d h
/-- What follows a step that leaves the world as it is. -/
structure Gh (X0 X X1 : Cx CT) (W w : World) (ob1 : Ob CT) : Prop where
  le : Le X X1
  mem : Mem X0 W X1 ob1 w
theorem Mem.reset {X0 X : Cx CT} {W w : World} (M : Mem X0 W X ob w) {i : Nat} {a0 a' : AV CT} (h0 : ob.get i = some (some a0)) {o : Option (Nat × Nat) × Nat} (ho : X.loc i = some o) (hL : Live X w a' o) : Mem X0 W X (ob.set i (some a')) w := by
  refine ⟨M.C, M.ot, M.os, M.tape, M.output, M.size, M.frame, M.fzIn, M.fz, fun j => ?_, fun j b hb => ?_, fun j hb => ?_, M.inj, M.locIn⟩
  · rw [Ob.get_set]
    split
    · rename_i e; subst e
      exact ⟨fun _ => by simp, fun _ => (M.us i).2 (by rw [h0]; simp)⟩
    · exact M.us j
  · rw [Ob.get_set] at hb
    split at hb
    · rename_i e; subst e; cases hb
      exact ⟨o, ho, hL⟩
    · exact M.live j b hb
  · rw [Ob.get_set] at hb
    split at hb
    · exact absurd rfl (hb a')
    · exact M.dead j hb
end
section
variable {P : Program} {T : TyTab CT} {CR : CallR CT} {nt : Nat} {α : Type} {v : α} {ob' : Ob CT} {X0 : Cx CT} {W w : World}
theorem pubObj_ok : ∀ (l : List Nat) {X : Cx CT} {ob : Ob CT} {k : M CT α}, Mem X0 W X ob w → Ev CR (pubObjM l k) ob v ob' → ∃ X1 ob1, Le X X1 ∧ Mem X0 W X1 ob1 w ∧ Ev CR k ob1 v ob'
  | [], X, ob, k, M, h => ⟨X, ob, .refl X, M, h⟩
  | i :: l, X, ob, k, M, h => by
    simp only [pubObjM] at h
    have h := Ev.rd_inv h
    split at h
    · rename_i s fs hi
      obtain ⟨o, ho, hL⟩ := M.loc hi
      cases hL with
      | nil e => cases e
      | blk k1 k2 k3 k4 =>
        obtain ⟨a', ob1, X1, E1, M1, r1, g1, h1⟩ := pub_ok deep M k3 h
        obtain ⟨hc, h1⟩ := cond_fail h1
        simp only [Bool.and_eq_true, Bool.not_eq_true'] at hc
        have h1 := h1.rd_inv
        split at h1
        · rename_i a0 h0
          have h2 := h1.wr_inv
          obtain ⟨o1, ho1, _⟩ := M1.loc h0
          have hu : X.us i := (M.us i).2 (by rw [hi]; simp)
          have := (E1.us i hu).2 o1 ho1
          rw [ho] at this; cases this
          have M2 := M1.reset h0 ho1 (a' := a') (.blk ⟨by cases a' <;> first | rfl | (simp [AV.isAgg] at hc; done), k1.2⟩ k2 r1 fun l e => absurd e (not_lst hc.2 l))
          obtain ⟨X2, ob2, E2, M3, h3⟩ := pubObj_ok l M2 h2
          exact ⟨X2, ob2, E1.trans E2, M3, h3⟩
        · exact h1.fail_inv.elim
    · exact pubObj_ok l M h
theorem Ev.outsM_inv {ob : Ob CT} : ∀ {l : List Nat} {k : List (Option (AV CT)) → M CT α}, Ev CR (outsM l k) ob v ob' → ∃ outs, outs.length = l.length ∧ (∀ (q i : Nat), l[q]? = some i → ∃ o, outs[q]? = some o ∧ ob.get i = some o) ∧ Ev CR (k outs) ob v ob'
  | [], k, h => ⟨[], rfl, fun q i h => by simp at h, h⟩
  | i :: l, k, h => by
    simp only [outsM] at h
    have h := Ev.rd_inv h
    split at h
    · rename_i o ho
      obtain ⟨outs, g1, g2, g3⟩ := Ev.outsM_inv h
      refine ⟨o :: outs, by simp [g1], fun q j hq => ?_, g3⟩
      cases q with
      | zero => simp at hq; subst hq; exact ⟨o, rfl, ho⟩
      | succ q => exact g2 q j (by simpa using hq)
    · exact h.fail_inv.elim
/-- The answer's names. -/
theorem last_ok {m : Nat} {r1 : AV CT} {ob : Ob CT} {res : Res CT} (h : Ev CR (lastM m r1) ob res ob') :
    res.r.clean = true ∧ cleanO res.outs = true ∧ cleans res.news = true ∧ ∀ (X0 : Cx CT) (W : World) (X : Cx CT) (w : World) (u : Value), (∀ i, X0.us i → base ≤ i ∧ i < base + m) → Le X0 X → Mem X0 W X ob w → RV X r1 u →
      ∃ Z ob2, Le X0 Z ∧ Mem X0 W Z ob2 w ∧ ObRes m res ob2 ∧ RV Z res.r u := by
  unfold lastM at h
  obtain ⟨outs, o1, o2, h⟩ := Ev.outsM_inv h
  obtain ⟨ids, G, h⟩ := Ev.gatherM_inv 60 h
  obtain ⟨objs, p1, p2, h⟩ := Ev.readAllM_inv h
  obtain ⟨hc, h⟩ := cond_fail h
  obtain ⟨rfl, rfl⟩ := h.ret_inv
  simp only [Bool.and_eq_true] at hc
  obtain ⟨t, rfl⟩ := G.pre
  have hnd := G.nodup (from_nodup m base)
  have hdrop : (from_ base m ++ t).drop m = t := by
    have := from_len m base
    rw [List.drop_append, this]; simp [this]
  rw [hdrop] at p1 p2
  refine ⟨hc.1.1, hc.1.2.1, hc.1.2.2, fun X0 W X w u hH E M hu => ?_⟩
  have hfst : ∀ (l : List Nat) (n : Nat), (numbered l n).map (·.1) = l := by
    intro l
    induction l with
    | nil => intro n; rfl
    | cons a l ih => intro n; simp [numbered, ih]
  have hsnd : ∀ (l : List Nat) (n : Nat), (numbered l n).map (·.2) = from_ n l.length := by
    intro l
    induction l with
    | nil => intro n; rfl
    | cons a l ih => intro n; simp [numbered, ih, from_]
  have hlen : outs.length = m := by rw [o1, from_len]
  have ho2 : ∀ q, q < m → ∃ o, outs[q]? = some o ∧ ob'.get (base + q) = some o := fun q hq => o2 q _ (by rw [from_get, if_pos hq])
  -- the objects under their new names
  obtain ⟨z1, z2⟩ : ∃ ob2 : Ob CT, (∀ q, q < m → ob2.get (base + q) = (renO (numbered (from_ base m ++ t) base) outs)[q]?) ∧ (∀ q, q < t.length → ob2.get (base + m + q) = ((rens (numbered (from_ base m ++ t) base) (unnils objs))[q]?).map some) ∧
      ∀ j, j ∉ from_ base (m + t.length) → ob2.get j = none := by
    have key : ∀ (l : List (Option (AV CT))) (n : Nat), ∃ ob2 : Ob CT, (∀ q, q < l.length → ob2.get (n + q) = l[q]?) ∧ ∀ j, j ∉ from_ n l.length → ob2.get j = none := by
      intro l
      induction l with
      | nil => intro n; exact ⟨[], fun q h => by simp at h, fun _ _ => rfl⟩
      | cons o l ih =>
        intro n
        obtain ⟨ob2, g1, g2⟩ := ih (n + 1)
        refine ⟨(n, o) :: ob2, fun q hq => ?_, fun j hj => ?_⟩
        · cases q with
          | zero => simp [Ob.get]
          | succ q =>
            simp only [Ob.get]
            rw [beq_ne (show ¬ n = n + (q + 1) by omega)]
            have := g1 q (by simpa using hq)
            rw [show n + (q + 1) = n + 1 + q by omega]
            simpa using this
        · simp only [Ob.get]
          rw [beq_ne (show ¬ n = j by rintro rfl; exact hj (from_mem.2 ⟨by omega, by simp⟩))]
          exact g2 j fun h => hj (by have := from_mem.1 h; exact from_mem.2 ⟨by omega, by simp; omega⟩)
    obtain ⟨ob2, g1, g2⟩ := key (renO (numbered (from_ base m ++ t) base) outs ++ (rens (numbered (from_ base m ++ t) base) (unnils objs)).map some) base
    have hl1 : (renO (numbered (from_ base m ++ t) base) outs).length = m := by rw [renO_eq, List.length_map, hlen]
    have hl2 : (rens (numbered (from_ base m ++ t) base) (unnils objs)).length = t.length := by rw [rens_len, unnils_len, p1]
    refine ⟨ob2, fun q hq => ?_, fun q hq => ?_, fun j hj => ?_⟩
    · rw [g1 q (by rw [List.length_append, hl1]; omega), List.getElem?_append_left (by omega)]
    · rw [show base + m + q = base + (m + q) by omega, g1 (m + q) (by rw [List.length_append, hl1, List.length_map, hl2]; omega), List.getElem?_append_right (by omega), hl1, Nat.add_sub_cancel_left, List.getElem?_map]
    · exact g2 j (by rw [List.length_append, hl1, List.length_map, hl2]; exact hj)
  obtain ⟨z2, z3, z4⟩ := z2
  have hgl : ∀ q, (from_ base m ++ t)[q]? = if q < m then some (base + q) else t[q - m]? := by
    intro q
    by_cases hq : q < m
    · rw [List.getElem?_append_left (by rw [from_len]; exact hq), from_get, if_pos hq, if_pos hq]
    · rw [List.getElem?_append_right (by rw [from_len]; omega), from_len, if_neg hq]
  obtain ⟨EM, M'⟩ := mem_ren M (m := numbered (from_ base m ++ t) base) (by rw [hfst]; exact hnd) (by rw [hsnd]; exact from_nodup _ _) (ob' := z1) (fun a => a.unnil.ren (numbered (from_ base m ++ t) base)) (fun a o E hl hc => hl.renN E hc) (fun i j hp => by
    obtain ⟨q, hq, rfl⟩ := numbered_mem.1 hp
    rw [hgl] at hq
    split at hq
    · rename_i hlt
      cases hq
      obtain ⟨o, g1, g2⟩ := ho2 q hlt
      have hr : (renO (numbered (from_ base m ++ t) base) outs)[q]? = some (o.map fun a => a.unnil.ren (numbered (from_ base m ++ t) base)) := by rw [renO_eq, List.getElem?_map, g1]; rfl
      refine ⟨o, g2, by rw [z2 q hlt, hr], fun a e => ?_⟩
      subst e
      exact cellO_get hc.2.1 hr
    · rename_i hge
      obtain ⟨a, g1, g2⟩ := p2 _ _ hq
      have hlt := (List.getElem?_eq_some_iff.1 hq).1
      have hr : (rens (numbered (from_ base m ++ t) base) (unnils objs))[q - m]? = some (a.unnil.ren (numbered (from_ base m ++ t) base)) := by rw [rens_get, unnils_get, g1]; rfl
      refine ⟨some a, g2, ?_, fun b e => ?_⟩
      · have := z3 (q - m) hlt
        rw [show base + m + (q - m) = base + q by omega, hr] at this
        exact this
      · cases e; exact List.all_eq_true.1 hc.2.2 _ (List.mem_of_getElem? hr)) (fun j hj => by
    rw [hsnd, List.length_append, from_len] at hj
    exact z4 j hj)
  have hin : ∀ i, X0.us i → (i, i) ∈ numbered (from_ base m ++ t) base := by
    intro i hi
    have := hH i hi
    refine numbered_mem.2 ⟨i - base, ?_, by omega⟩
    rw [hgl, if_pos (by omega), show base + (i - base) = i by omega]
  refine ⟨X.named (numbered (from_ base m ++ t) base), z1, ⟨E.C, E.fz, E.ot, fun i hi => ⟨List.mem_map.2 ⟨_, hin i hi, rfl⟩, fun o ho => ?_⟩⟩, M', ⟨by rw [renO_eq, List.length_map, hlen], z2, fun q hq => z3 q (by rw [rens_len, unnils_len, p1] at hq; exact hq)⟩, hu.unnil.ren EM⟩
  simp only [Cx.named, (assoc_swap (m := numbered (from_ base m ++ t) base) (by rw [hsnd]; exact from_nodup _ _)).2 (hin i hi)] at ho
  exact (E.us i hi).2 o ho
theorem pubs_ok {pubs : Bool} {m : Nat} {r1 : AV CT} {ob : Ob CT} {res : Res CT} (h : Ev CR (pubsM pubs m r1) ob res ob') {X0 : Cx CT} {W : World} {X : Cx CT} {w : World} {u : Value} (hH : ∀ i, X0.us i → base ≤ i ∧ i < base + m) (E : Le X0 X) (M : Mem X0 W X ob w) (hu : RV X r1 u) :
    (res.r.clean = true ∧ cleanO res.outs = true ∧ cleans res.news = true) ∧ ∃ Z ob2, Le X0 Z ∧ Mem X0 W Z ob2 w ∧ ObRes m res ob2 ∧ RV Z res.r u := by
  unfold pubsM at h
  cases pubs with
  | true =>
    simp only [cond_true] at h
    obtain ⟨ids, h⟩ := Ev.gatherSoft_inv 60 h
    obtain ⟨X1, ob1, E1, M1, h⟩ := pubObj_ok ids M h
    obtain ⟨c1, c2, c3, hl⟩ := last_ok h
    exact ⟨⟨c1, c2, c3⟩, hl X0 W X1 w u hH (E.trans E1) M1 (hu.mono E1)⟩
  | false =>
    simp only [cond_false] at h
    obtain ⟨c1, c2, c3, hl⟩ := last_ok h
    exact ⟨⟨c1, c2, c3⟩, hl X0 W X w u hH E M hu⟩
theorem finish_ok (H : TabOk P T) {fn : Func} {keep pubs : Bool} {m : Nat} {tm : List (Nat × AV CT)} {ob : Ob CT} {res : Res CT} (h : Ev CR (finishM T fn keep pubs m tm) ob res ob') {X0 : Cx CT} {W : World} {X : Cx CT} {a : Act} {w : World} (hC : X0.C = T.C)
    (hH : ∀ i, X0.us i → base ≤ i ∧ i < base + m) (S : StOk X0 W nt X ⟨tm, ob⟩ a w) :
    (res.r.clean = true ∧ cleanO res.outs = true ∧ cleans res.news = true) ∧ ∃ u Z ob2, (results fn a.tmps).run P w = .ok u w ∧ Le X0 Z ∧ Mem X0 W Z ob2 w ∧ ObRes m res ob2 ∧ RV Z res.r u := by
  unfold finishM at h
  obtain ⟨vs, h, hvs⟩ := results_ok H _ h
  obtain ⟨us, g1, g2, g3⟩ := hvs X0 W X a w hC S
  have hrun := results_run g1
  -- what follows
  have tail : ∀ {r0 : AV CT} {u : Value}, RV X r0 u → Ev CR (cond keep (pubsM pubs m r0) (pubM deep r0 (pubsM pubs m))) ob res ob' →
      (res.r.clean = true ∧ cleanO res.outs = true ∧ cleans res.news = true) ∧ ∃ Z ob2, Le X0 Z ∧ Mem X0 W Z ob2 w ∧ ObRes m res ob2 ∧ RV Z res.r u := by
    intro r0 u hu h
    cases keep with
    | true => exact pubs_ok h hH S.le S.mem hu
    | false =>
      simp only [cond_false] at h
      obtain ⟨r1, ob1, X1, E1, M1, hu1, h1⟩ := pub_rv deep S.mem hu h
      exact pubs_ok h1 hH (S.le.trans E1) M1 hu1
  unfold resM at h
  split at h
  · rename_i b
    obtain ⟨u, rfl⟩ : ∃ u, us = [u] := by
      match us, g2 with
      | [u], _ => exact ⟨u, rfl⟩
    obtain ⟨c, Z, ob2, q⟩ := tail (g3 0 b u rfl rfl) h
    exact ⟨c, u, Z, ob2, hrun, q⟩
  · rename_i hne
    obtain ⟨hc, h⟩ := cond_fail h
    have hu : RV X (.tup vs) (.tuple us.toArray) := (show ∃ us' : List Value, _ from ⟨us, rfl, g2, fun j b u hb hu => (g3 j b u hb hu).rc (List.all_eq_true.1 hc b (List.mem_of_getElem? hb))⟩)
    obtain ⟨c, Z, ob2, q⟩ := tail hu h
    refine ⟨c, _, Z, ob2, ?_, q⟩
    rw [hrun]
    match us, vs, g2, hne with
    | [], _, _, _ => rfl
    | [u], [b], _, hne => exact absurd rfl (hne b)
    | u :: u' :: l, _, _, _ => rfl
/-- What a function comes to. -/
theorem fn_sound (H : TabOk P T) (hCR : ∀ f args objs res, CR f args objs res → CallsOk P T.C f args objs res) {Γ : Gam CT} (hΓ : GamOk CR Γ) (hm : P.follows .mixedOrders = true) {Λ : Lam CT} {β : Type} {f : Nat} {fn : Func} {code : Code} (hf : P.funcs[f]? = some fn) (hb : fn.body = some code)
    (hname : (fn.name == "runtime.NumGoroutine") = false) (hok : codeOk fn.ntmps code = true) {args objs : List (AV CT)} (hargs : args.length ≤ fn.ntmps) (hΛ : ∀ p ∈ blks code, LamAt P T fn.ntmps Λ p.1 p.2) {keep pubs : Bool} {K : Res CT → Option β} {r : β}
    (h : runFn T Γ Λ fn code keep pubs args objs K = some r) : ∃ res, CallsOk P T.C f args objs res ∧ K res = some r := by
  unfold runFn at h
  obtain ⟨ex, st', h1, hs⟩ := exec_sound H hCR hΓ hm (nt := fn.ntmps) code _ _ r hok hΛ h
  obtain ⟨hex, h2⟩ : (ex = .nrm ∨ ex = .ret) ∧ M.run Γ (finishM T fn keep pubs objs.length st'.tm) st'.ob [] [] (fun res _ _ _ => K res) = some r := by
    cases ex with
    | nrm => exact ⟨.inl rfl, h1⟩
    | ret => exact ⟨.inr rfl, h1⟩
    | exit i => cases h1
    | goto l => cases h1
  obtain ⟨res, ob', rs', ws', hev, hK⟩ := run_leaf hΓ _ _ _ _ _ _ h2
  refine ⟨res, ⟨fun as w => ?_, fun Y w vs hC M hl hv => ?_⟩, hK⟩
  · have hn : ¬ fn.name = "runtime.NumGoroutine" := by simpa using hname
    simp [callFunc, hf, hb, hn]
  · have hus : ∀ i, Y.us i → base ≤ i ∧ i < base + objs.length := by
      intro i hi
      have := (M.us i).1 hi
      rw [objsFrom_get] at this
      split at this
      · rename_i hb
        refine ⟨hb, ?_⟩
        cases ho : objs[i - base]? with
        | none => rw [ho] at this; exact absurd rfl this
        | some a => have := (List.getElem?_eq_some_iff.1 ho).1; omega
      · exact absurd rfl this
    refine calls_of_wp hf hb (wp_mono (hs Y w Y (⟨vs.toArray ++ Array.replicate (fn.ntmps - vs.toArray.size) undef, []⟩ : Act) w hC (fun i hi => (hus i hi).1) ⟨M, .refl Y, fun t => ?_, ?_, rfl⟩) fun e a' w' he => ?_)
    · rw [zipN_args, if_pos (Nat.zero_le _), Nat.sub_zero]
      cases ha : args[t]? with
      | none => rw [List.getD_eq_getElem?_getD, ha]; exact trivial
      | some b =>
        rw [List.getD_eq_getElem?_getD, ha]
        have hlt := (List.getElem?_eq_some_iff.1 ha).1
        have hvt : vs[t]? = some (vs[t]'(by omega)) := List.getElem?_eq_getElem (by omega)
        have e : (vs.toArray ++ Array.replicate (fn.ntmps - vs.toArray.size) undef).getD t undef = vs[t]'(by omega) := by
          rw [Array.getD_eq_getD_getElem?, Array.getElem?_append_left (by simp; omega), List.getElem?_toArray, hvt]; rfl
        rw [e]
        exact hv t b _ ha hvt
    · simp; omega
    · obtain ⟨rfl, X', S'⟩ := he
      obtain ⟨c, u, Z, ob2, q1, q2, q3, q4, q5⟩ := finish_ok (P := P) H ⟨_, _, _, _, hev⟩ hC hus (X := X') S'
      have fin : a'.defers = [] ∧ ∃ v, (results fn a'.tmps).run P w' = .ok v w' ∧ ∃ u Z ob', Ending.returned v = .returned u ∧ Le Y Z ∧ Mem Y w Z ob' w' ∧ ObRes objs.length res ob' ∧ RV Z res.r u ∧ res.r.clean = true ∧ cleanO res.outs = true ∧ cleans res.news = true :=
        ⟨S'.defers, u, q1, u, Z, ob2, rfl, q2, q3, q4, q5, c.1, c.2.1, c.2.2⟩
      rcases hex with rfl | rfl
      · exact fin
      · exact fin
end
end Go.Proofs.Ytjnkppjlhmkjaaa.Av
