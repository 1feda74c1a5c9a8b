/- Regions in any order that Go allows. -/
import Derived.Test.YtjnkppjlhmkjaaaAvReg
namespace Go.Proofs.Ytjnkppjlhmkjaaa.Av
open Go
variable {CT : Nat → Type}
theorem opM_congr {α : Type} (T : TyTab CT) (d : Nat) (o : Oper) {ρ ρ' : Operand → AV CT} (K : AV CT → M CT α) (h : ∀ x ∈ o.op.operands, ρ x = ρ' x) : opM T d o ρ K = opM T d o ρ' K := by
  obtain ⟨dst, op, type, pos, after, guard⟩ := o
  have pairs : ∀ ps : Array (Nat × Operand), (∀ x ∈ (ps.toList.map (·.2)).toArray, ρ x = ρ' x) → partsOf ρ ps = partsOf ρ' ps := fun ps hp => by
    unfold partsOf
    apply List.map_congr_left
    intro p hm
    rw [hp p.2 (by simp; exact ⟨p.1, by simpa using hm⟩)]
  have list : ∀ l : Array Operand, (∀ x ∈ l, ρ x = ρ' x) → l.toList.map ρ = l.toList.map ρ' := fun l hl => List.map_congr_left fun x hx => hl x (by simpa using hx)
  unfold opM
  cases op <;> simp only [Op.operands] at h <;> simp only []
  case build t ps => rw [pairs ps h]
  case buildSlice t n ps => rw [pairs ps h]
  case makeFunc f first caps =>
    rw [list caps fun x hx => h x (by simp [hx])]
  case makeSlice t n c => rw [h n (by simp), h c (by simp)]
  case slice t x lo hi mx =>
    have h1 : lo.map ρ = lo.map ρ' := by cases lo with | none => rfl | some l => simp [h l (by simp)]
    have h2 : hi.map ρ = hi.map ρ' := by cases hi with | none => rfl | some l => simp [h l (by simp)]
    rw [h x (by simp), h1, h2]
  case call c =>
    have hargs : c.args.toList.map ρ = c.args.toList.map ρ' := list c.args fun x hx => h x (by simp [Call.operands, hx])
    rw [hargs]
    cases hc : c.callee with
    | value f => have hf : ρ f = ρ' f := h f (by simp [Call.operands, hc]); simp only [hf]
    | invoke r m => rfl
    | builtin b => rfl
  all_goals (first | rfl | (simp_all; done))
/-- What is in a place: a slot's (twice its number), or an object's. -/
def valOf (s : St CT) (x : Nat) : AV CT ⊕ Option (Option (AV CT)) := if x % 2 = 0 then .inl (tget s.tm (x / 2)) else .inr (s.ob.get (x / 2))
theorem valOf_slot (s : St CT) (t : Nat) : valOf s (2 * t) = .inl (tget s.tm t) := by
  unfold valOf; rw [if_pos (by omega), Nat.mul_div_cancel_left t (by omega)]
theorem valOf_obj (s : St CT) (i : Nat) : valOf s (2 * i + 1) = .inr (s.ob.get i) := by
  unfold valOf; rw [if_neg (by omega), show (2 * i + 1) / 2 = i by omega]
theorem slot_eq {s s' : St CT} {t : Nat} (h : valOf s (2 * t) = valOf s' (2 * t)) : tget s.tm t = tget s'.tm t := by
  rw [valOf_slot, valOf_slot] at h; exact Sum.inl.inj h
theorem obj_eq {s s' : St CT} {t : Nat} (h : valOf s (2 * t + 1) = valOf s' (2 * t + 1)) : s.ob.get t = s'.ob.get t := by
  rw [valOf_obj, valOf_obj] at h; exact Sum.inr.inj h
section
variable {T : TyTab CT} {CR : CallR CT}
/-- What an operation does depends on what it reads alone. -/
theorem step_local {all : List Oper} {i : Nat} {o : Oper} {s s' t : St CT} {fp : Fp} (h : StepAt T CR all i o s fp s') (hr : ∀ x ∈ fp.rd, valOf t x = valOf s x) :
    ∃ t', StepAt T CR all i o t fp t' ∧ (∀ x ∈ fp.wr, valOf t' x = valOf s' x) ∧ ∀ x, x ∉ fp.wr → valOf t' x = valOf t x := by
  obtain ⟨hE, hP, run, G, hres⟩ := h
  have G' : GuardIs all fp.anc o t run := by
    rcases G with h | ⟨j, want, g, h1, h2, h3, h4⟩
    · exact .inl h
    · refine .inr ⟨j, want, g, h1, h2, h3, ?_⟩
      have hg : 2 * g ∈ fp.rd := by
        have : gslots all o = [2 * g] := by simp [gslots, h1, h2, slotsOf]
        cases run with
        | true => obtain ⟨_, _, _, _, _, _, _, e, _⟩ := hres; rw [e, this]; simp
        | false => obtain ⟨_, _, e, _⟩ := hres; rw [e, this]; simp
      rw [slot_eq (hr _ hg)]; exact h4
  cases run with
  | true =>
    obtain ⟨v, ob', rs, ws, hev, h1, h2, h3, h4⟩ := hres
    have hρ : opM T (o.dst.getD 9999) o (rho t.tm) .ret = opM T (o.dst.getD 9999) o (rho s.tm) .ret := by
      refine opM_congr T _ o .ret fun x hx => ?_
      cases x with
      | tmp y =>
        simp only [rho]
        refine slot_eq (hr _ ?_)
        rw [h3]
        refine List.mem_append_right _ (List.mem_append_left _ (List.mem_map.2 ⟨y, ?_, rfl⟩))
        exact List.mem_filterMap.2 ⟨.tmp y, by simpa using hx, rfl⟩
      | _ => rfl
    obtain ⟨q', g1, g2, g3⟩ := hev.local t.ob (fun j hj => by
      rcases hj with hj | hj
      · refine obj_eq (hr _ ?_)
        rw [h3]
        exact List.mem_append_right _ (List.mem_append_right _ (List.mem_map.2 ⟨j, hj, rfl⟩))
      · cases hj)
    refine ⟨⟨tput t.tm o.dst v, q'⟩, ⟨hE, hP, true, G', v, q', rs, ws, by rw [hρ]; exact g1, fun _ => rfl, fun _ => rfl, h3, h4⟩, fun x hx => ?_, fun x hx => ?_⟩
    · unfold valOf
      split
      · rename_i hm
        have hd : o.dst = some (x / 2) := by
          rw [h4] at hx
          rcases List.mem_append.1 hx with hx | hx
          · cases hd : o.dst with
            | none => rw [hd] at hx; cases hx
            | some d => rw [hd] at hx; simp [slotsOf] at hx; rw [hx, Nat.mul_div_cancel_left d (by omega)]
          · obtain ⟨y, _, e⟩ := List.mem_map.1 hx; omega
        rw [h1, tget_tput, tget_tput, if_pos hd, if_pos hd]
      · rename_i hm
        rw [h2]
        have : x / 2 ∈ ws := by
          rw [h4] at hx
          rcases List.mem_append.1 hx with hx | hx
          · cases hd : o.dst with
            | none => rw [hd] at hx; cases hx
            | some d => rw [hd] at hx; simp [slotsOf] at hx; omega
          · obtain ⟨y, hy, e⟩ := List.mem_map.1 hx
            have : y = x / 2 := by omega
            exact this ▸ hy
        rw [g2 _ this]
    · unfold valOf
      split
      · rename_i hm
        rw [tget_tput, if_neg]
        intro hd
        refine hx ?_
        rw [h4, hd]
        simp only [slotsOf]
        exact List.mem_append_left _ (by simp; omega)
      · rename_i hm
        rw [g3 _ fun hw => hx ?_]
        rw [h4]
        exact List.mem_append_right _ (List.mem_map.2 ⟨x / 2, hw, by omega⟩)
  | false =>
    obtain ⟨h1, h2, h3, h4⟩ := hres
    refine ⟨⟨tput t.tm o.dst .und, t.ob⟩, ⟨hE, hP, false, G', fun _ => rfl, fun _ => rfl, h3, h4⟩, fun x hx => ?_, fun x hx => ?_⟩
    · rw [h4] at hx
      cases hd : o.dst with
      | none => rw [hd] at hx; cases hx
      | some d =>
        rw [hd] at hx; simp [slotsOf] at hx
        subst hx
        rw [valOf_slot, valOf_slot, h1, tget_tput, tget_tput, if_pos (by simp), if_pos hd]
    · unfold valOf
      split
      · rename_i hm
        rw [tget_tput, if_neg]
        intro hd
        refine hx ?_
        rw [h4, hd]
        simp only [slotsOf]
        simp; omega
      · rfl
/-- What is not written stays, in the text's order. -/
theorem step_keeps {all : List Oper} {i : Nat} {o : Oper} {s s' : St CT} {fp : Fp} (h : StepAt T CR all i o s fp s') {x : Nat} (hx : x ∉ fp.wr) : valOf s' x = valOf s x := by
  obtain ⟨t', h1, h2, h3⟩ := step_local (t := s) h fun _ _ => rfl
  obtain ⟨hE, hP, run, G, hres⟩ := h
  cases run with
  | true =>
    obtain ⟨v, ob', rs, ws, hev, h1, h2, h3, h4⟩ := hres
    unfold valOf
    split
    · rw [h1, tget_tput, if_neg]
      intro hd
      refine hx ?_
      rw [h4, hd]
      simp only [slotsOf]
      exact List.mem_append_left _ (by simp; omega)
    · rw [h2, hev.grow.2.2 _ fun hw => hx ?_]
      rw [h4]
      exact List.mem_append_right _ (List.mem_map.2 ⟨x / 2, hw, by omega⟩)
  | false =>
    obtain ⟨h1, h2, h3, h4⟩ := hres
    unfold valOf
    split
    · rw [h1, tget_tput, if_neg]
      intro hd
      refine hx ?_
      rw [h4, hd]
      simp only [slotsOf]
      simp; omega
    · rw [h2]

theorem last_below (p : Nat → Prop) (i : Nat) : (∃ j, j < i ∧ p j ∧ ∀ k, j < k → k < i → ¬ p k) ∨ ∀ j, j < i → ¬ p j := by
  induction i with
  | zero => exact .inr fun j h => by omega
  | succ i ih =>
    by_cases h : p i
    · exact .inl ⟨i, by omega, h, fun k h1 h2 => by omega⟩
    · rcases ih with ⟨j, h1, h2, h3⟩ | h1
      · exact .inl ⟨j, by omega, h2, fun k g1 g2 => by
          by_cases hk : k = i
          · subst hk; exact h
          · exact h3 k g1 (by omega)⟩
      · exact .inr fun j hj => by
          by_cases hk : j = i
          · subst hk; exact h
          · exact h1 j (by omega)
theorem anc_bit {acc : List Nat} : ∀ {es : List Edge} {m x : Nat}, Nat.testBit (es.foldl (fun m e => cond (hard e) (Nat.lor (Nat.lor m (Nat.shiftLeft 1 e.on)) (acc.getD e.on 0)) m) m) x = true →
    Nat.testBit m x = true ∨ ∃ e ∈ es, hard e = true ∧ (x = e.on ∨ Nat.testBit (acc.getD e.on 0) x = true)
  | [], m, x, h => .inl h
  | e :: es, m, x, h => by
    rw [List.foldl_cons] at h
    rcases anc_bit h with h | ⟨e', h1, h2⟩
    · cases he : hard e with
      | false => rw [he] at h; exact .inl h
      | true =>
        rw [he] at h
        simp only [cond_true] at h
        have h : Nat.testBit ((m ||| (1 <<< e.on)) ||| acc.getD e.on 0) x = true := h
        rw [Nat.testBit_or, Nat.testBit_or, Nat.testBit_shiftLeft] at h
        simp only [Bool.or_eq_true, Bool.and_eq_true, decide_eq_true_eq] at h
        rcases h with (h | h) | h
        · exact .inl h
        · refine .inr ⟨e, List.mem_cons_self, he, .inl ?_⟩
          have := h.2
          rw [Nat.testBit_one_eq_true_iff_self_eq_zero] at this
          omega
        · exact .inr ⟨e, List.mem_cons_self, he, .inr h⟩
    · exact .inr ⟨e', List.mem_cons_of_mem _ h1, h2⟩
theorem ancOf_bit {acc : List Nat} {es : List Edge} {x : Nat} (h : Nat.testBit (ancOf acc es) x = true) : ∃ e ∈ es, hard e = true ∧ (x = e.on ∨ Nat.testBit (acc.getD e.on 0) x = true) := by
  rcases anc_bit h with h | h
  · simp at h
  · exact h
theorem hard_binds (e : Edge) : Region.binds .any e = hard e := by
  unfold Region.binds hard; cases e.ground <;> rfl
theorem okEdges_lt {es : List Edge} {i : Nat} (h : okEdges es i = true) {e : Edge} (he : e ∈ es) (hh : hard e = true) : e.on < i := by
  have := List.all_eq_true.1 h e he
  rw [hh] at this
  exact Nat.ble_eq.mp (show Nat.ble (e.on + 1) i = true from this)
theorem indep_pair {n : Nat} {fp : Nat → Fp} (h : indep ((List.range n).reverse.map fp) = true) : ∀ i j, i < j → j < n → indep1 (fp i) (fp j) = true := by
  induction n with
  | zero => intro i j _ h; omega
  | succ n ih =>
    rw [List.range_succ, List.reverse_append, List.reverse_singleton, List.singleton_append, List.map_cons] at h
    simp only [indep, Bool.and_eq_true] at h
    intro i j hij hj
    by_cases hjn : j = n
    · subst hjn
      refine List.all_eq_true.1 h.1 (fp i) (List.mem_map.2 ⟨i, ?_, rfl⟩)
      simp [hij]
    · exact ih h.2 i j hij (by omega)
theorem count_set : ∀ (l : List Bool) (i : Nat), l[i]? = some false → (l.set i true).count true = l.count true + 1
  | [], i, h => by simp at h
  | b :: l, 0, h => by
    simp at h; subst h; simp
  | b :: l, i + 1, h => by
    rw [List.set_cons_succ, List.count_cons, List.count_cons, count_set l i (by simpa using h)]; omega
theorem count_all : ∀ (l : List Bool), l.length ≤ l.count true → ∀ i, i < l.length → l[i]? = some true
  | [], _, i, h => by simp at h
  | b :: l, hc, i, h => by
    have hle := List.count_le_length (a := true) (l := l)
    cases b with
    | false => simp at hc; omega
    | true =>
      cases i with
      | zero => rfl
      | succ i => simpa using count_all l (by simpa using hc) i (by simpa using h)
section
variable {P : Program} {X0 : Cx CT} {W : World} {nt : Nat} {all : List Oper} {sts : Nat → St CT} {fp : Nat → Fp}
/-- What has been carried out is closed under what binds. -/
def Shut (all : List Oper) (L : Nat → Prop) : Prop := ∀ i o, all[i]? = some o → L i → ∀ e ∈ o.after, hard e = true → L e.on
/-- Each place holds what its last writer, of those that were carried out, left there. -/
structure Inv (n : Nat) (sts : Nat → St CT) (fp : Nat → Fp) (L : Nat → Prop) (t : St CT) : Prop where
  some : ∀ x i, i < n → L i → x ∈ (fp i).wr → (∀ j, i < j → j < n → L j → x ∉ (fp j).wr) → valOf t x = valOf (sts (i + 1)) x
  none : ∀ x, (∀ i, i < n → L i → x ∉ (fp i).wr) → valOf t x = valOf (sts 0) x
theorem trace_keeps (hT : Trace T CR all all 0 [] sts fp) {x : Nat} : ∀ (m i : Nat), i + m ≤ all.length → (∀ j, i ≤ j → j < i + m → x ∉ (fp j).wr) → valOf (sts (i + m)) x = valOf (sts i) x
  | 0, _, _, _ => rfl
  | m + 1, i, h, hn => by
    have ho : all[i + m]? = some (all[i + m]'(by omega)) := List.getElem?_eq_getElem (by omega)
    have hs := hT.step _ _ ho
    rw [Nat.zero_add] at hs
    rw [show i + (m + 1) = i + m + 1 by omega, step_keeps hs (hn _ (by omega) (by omega))]
    exact trace_keeps hT m i (by omega) fun j h1 h2 => hn j h1 (by omega)
theorem anc_shut (hT : Trace T CR all all 0 [] sts fp) {L : Nat → Prop} (hL : Shut all L) : ∀ (i : Nat) (o : Oper), all[i]? = some o → (∀ e ∈ o.after, hard e = true → L e.on) → ∀ x, Nat.testBit (fp i).anc x = true → L x := by
  intro i
  induction i using Nat.strongRecOn with
  | _ i ih =>
    intro o ho he x hx
    obtain ⟨acc, g1, g2, g3⟩ := hT.anc i o ho
    have hE := (hT.step i o ho).edges
    rw [Nat.zero_add] at g1 hE
    rw [g1] at hx
    obtain ⟨e, h1, h2, h3⟩ := ancOf_bit hx
    have hlt := okEdges_lt hE h1 h2
    have hLe := he e (by simpa using h1) h2
    rcases h3 with rfl | h3
    · exact hLe
    · rw [g3 e.on (by omega) (by omega)] at h3
      have hi : i < all.length := (List.getElem?_eq_some_iff.1 ho).1
      have ho' : all[e.on]? = some (all[e.on]'(by omega)) := List.getElem?_eq_getElem (by omega)
      exact ih e.on hlt _ ho' (fun e' h1' h2' => hL _ _ ho' hLe e' h1' h2') x h3
theorem apart_mem {a b : List Nat} (h : apart a b = true) {x : Nat} (ha : x ∈ a) (hb : x ∈ b) : False := apart_spec h x ha hb
/-- One more. -/
theorem inv_step (hT : Trace T CR all all 0 [] sts fp) (hI : ∀ i j, i < j → j < all.length → indep1 (fp i) (fp j) = true) {L : Nat → Prop} (hL : Shut all L) {t : St CT} (V : Inv all.length sts fp L t) {i : Nat} {o : Oper} (ho : all[i]? = some o)
    (hn : ¬ L i) (hr : ∀ e ∈ o.after, hard e = true → L e.on) : ∃ t', StepAt T CR all i o t (fp i) t' ∧ Inv all.length sts fp (fun j => j = i ∨ L j) t' := by
  have hi := (List.getElem?_eq_some_iff.1 ho).1
  have hplace : ∀ j, j < all.length → (fp j).i = j := by
    intro j hj
    have := (hT.step j _ (List.getElem?_eq_getElem hj)).place
    simpa using this
  -- who comes later in the text and was carried out touches nothing of it; who comes earlier and touches it was carried out
  have later : ∀ j, i < j → j < all.length → L j → apart (fp i).wr (fp j).wr = true ∧ apart (fp i).wr (fp j).rd = true ∧ apart (fp i).rd (fp j).wr = true := by
    intro j h1 h2 h3
    have := hI i j h1 h2
    simp only [indep1, Bool.or_eq_true, Bool.and_eq_true, hplace i hi] at this
    rcases this with h | h
    · exact absurd (anc_shut hT hL j _ (List.getElem?_eq_getElem h2) (fun e g1 g2 => hL j _ (List.getElem?_eq_getElem h2) h3 e g1 g2) i h) hn
    · exact h
  have early : ∀ j, j < i → L j ∨ (apart (fp j).wr (fp i).wr = true ∧ apart (fp j).wr (fp i).rd = true ∧ apart (fp j).rd (fp i).wr = true) := by
    intro j h1
    have := hI j i h1 hi
    simp only [indep1, Bool.or_eq_true, Bool.and_eq_true, hplace j (by omega)] at this
    rcases this with h | h
    · exact .inl (anc_shut hT hL i o ho hr j h)
    · exact .inr h
  have hrd : ∀ x ∈ (fp i).rd, valOf t x = valOf (sts i) x := by
    intro x hx
    rcases last_below (fun j => x ∈ (fp j).wr) i with ⟨j, h1, h2, h3⟩ | h1
    · have hLj : L j := by
        rcases early j h1 with h | h
        · exact h
        · exact (apart_mem h.2.1 h2 hx).elim
      rw [V.some x j (by omega) hLj h2 fun k g1 g2 g3 g4 => ?_]
      · have := trace_keeps hT (x := x) (i - (j + 1)) (j + 1) (by omega) fun k g1 g2 => h3 k (by omega) (by omega)
        rw [show j + 1 + (i - (j + 1)) = i by omega] at this
        exact this.symm
      · by_cases hk : k < i
        · exact h3 k g1 hk g4
        · have hki : k ≠ i := by rintro rfl; exact hn g3
          exact apart_mem (later k (by omega) g2 g3).2.2 hx g4
    · rw [V.none x fun k g2 g3 g4 => ?_]
      · have := trace_keeps hT (x := x) i 0 (by omega) fun k g1 g2 => h1 k (by omega)
        rw [Nat.zero_add] at this
        exact this.symm
      · by_cases hk : k < i
        · exact h1 k hk g4
        · have hki : k ≠ i := by rintro rfl; exact hn g3
          exact apart_mem (later k (by omega) g2 g3).2.2 hx g4
  have hs := hT.step i o ho
  rw [Nat.zero_add] at hs
  obtain ⟨t', g1, g2, g3⟩ := step_local hs hrd
  refine ⟨t', g1, ⟨fun x k hk hLk hxk hlast => ?_, fun x hx => ?_⟩⟩
  · by_cases hxi : x ∈ (fp i).wr
    · have hki : k = i := by
        rcases hLk with h | hLk
        · exact h
        · rcases Nat.lt_trichotomy k i with h | h | h
          · exact absurd hxi (hlast i h hi (.inl rfl))
          · exact h
          · exact (apart_mem (later k h hk hLk).1 hxi hxk).elim
      subst hki
      exact g2 x hxk
    · rw [g3 x hxi]
      have hLk : L k := by
        rcases hLk with rfl | h
        · exact absurd hxk hxi
        · exact h
      exact V.some x k hk hLk hxk fun j h1 h2 h3 => hlast j h1 h2 (.inr h3)
  · rw [g3 x (hx i hi (.inl rfl))]
    exact V.none x fun j h1 h2 => hx j h1 (.inr h2)
theorem inv_end (hT : Trace T CR all all 0 [] sts fp) {L : Nat → Prop} (hall : ∀ i, i < all.length → L i) {t : St CT} (V : Inv all.length sts fp L t) (x : Nat) : valOf t x = valOf (sts all.length) x := by
  rcases last_below (fun j => x ∈ (fp j).wr) all.length with ⟨j, h1, h2, h3⟩ | h1
  · rw [V.some x j h1 (hall j h1) h2 fun k g1 g2 _ => h3 k g1 g2]
    have := trace_keeps hT (x := x) (all.length - (j + 1)) (j + 1) (by omega) fun k g1 g2 => h3 k (by omega) (by omega)
    rw [show j + 1 + (all.length - (j + 1)) = all.length by omega] at this
    exact this.symm
  · rw [V.none x fun k g2 _ => h1 k g2]
    have := trace_keeps hT (x := x) all.length 0 (by omega) fun k _ g2 => h1 k (by omega)
    rw [Nat.zero_add] at this
    exact this.symm
theorem any_wp (H : TabOk P T) (hCR : ∀ f args objs res, CR f args objs res → CallsOk P T.C f args objs res) (hC0 : X0.C = T.C) (hT : Trace T CR all all 0 [] sts fp) (hI : ∀ i j, i < j → j < all.length → indep1 (fp i) (fp j) = true)
    (hall : ∀ o ∈ all, operOk nt o = true) {Q : Exit → Act → World → Prop} (hQ : ∀ X' a' w', StOk X0 W nt X' (sts all.length) a' w' → Q .normal a' w') :
    ∀ (fuel : Nat) (listed : Array Bool) (X : Cx CT) (a : Act) (w : World) (t : St CT), listed.size = all.length → all.length ≤ fuel + listed.toList.count true → Shut all (fun i => listed[i]? = some true) →
      Inv all.length sts fp (fun i => listed[i]? = some true) t → StOk X0 W nt X t a w → wpAny P .any all.toArray Q fuel listed a w := by
  have fin : ∀ (listed : Array Bool) (X : Cx CT) (a : Act) (w : World) (t : St CT), (∀ i, i < all.length → listed[i]? = some true) → Inv all.length sts fp (fun i => listed[i]? = some true) t → StOk X0 W nt X t a w → Q .normal a w := by
    intro listed X a w t h V S
    refine hQ X a w (S.same (fun x => ?_) fun x => ?_)
    · exact (slot_eq (inv_end hT h V (2 * x))).symm
    · exact (obj_eq (inv_end hT h V (2 * x + 1))).symm
  -- where nothing is ready, all has been carried out
  have done : ∀ (listed : Array Bool), listed.size = all.length → Region.ready .any all.toArray listed = [] → ∀ i, i < all.length → listed[i]? = some true := by
    intro listed hsz hr i
    induction i using Nat.strongRecOn with
    | _ i ih =>
      intro hi
      have hl : listed[i]? = some listed[i] := Array.getElem?_eq_getElem (by omega)
      cases hb : listed[i] with
      | true => rw [hl, hb]
      | false =>
        exfalso
        have ho : all[i]? = some (all[i]) := List.getElem?_eq_getElem hi
        have : i ∈ Region.ready .any all.toArray listed := by
          rw [mem_ready]
          refine ⟨by rw [Array.getD_eq_getD_getElem?, hl, hb]; rfl, all[i], by rw [List.getElem?_toArray]; exact ho, fun e he hbd => ?_⟩
          rw [hard_binds] at hbd
          have hE := (hT.step i _ ho).edges
          rw [Nat.zero_add] at hE
          have hlt := okEdges_lt hE (by simpa using he) hbd
          rw [Array.getD_eq_getD_getElem?, ih e.on hlt (by omega)]; rfl
        rw [hr] at this; cases this
  intro fuel
  induction fuel with
  | zero =>
    intro listed X a w t hsz hcnt hS V S
    have hfull : ∀ i, i < all.length → listed[i]? = some true := by
      intro i hi
      have := count_all listed.toList (by rw [Array.length_toList, hsz]; omega) i (by rw [Array.length_toList]; omega)
      simpa using this
    refine ⟨?_, fin listed X a w t hfull V S⟩
    rw [List.eq_nil_iff_forall_not_mem]
    intro i hi
    obtain ⟨h1, o, ho, _⟩ := mem_ready.1 hi
    have hlt := (List.getElem?_eq_some_iff.1 (by simpa using ho)).1
    rw [Array.getD_eq_getD_getElem?, hfull i hlt] at h1
    cases h1
  | succ fuel ih =>
    intro listed X a w t hsz hcnt hS V S
    refine ⟨fun hr => fin listed X a w t (done listed hsz hr) V S, fun i hi => ?_⟩
    obtain ⟨h1, o, ho, h2⟩ := mem_ready.1 hi
    have ho' : all[i]? = some o := by simpa using ho
    have hlt := (List.getElem?_eq_some_iff.1 ho').1
    have hl : listed[i]? = some false := by
      have : listed[i]? = some listed[i] := Array.getElem?_eq_getElem (by omega)
      rw [Array.getD_eq_getD_getElem?, this] at h1
      rw [this]; simpa using h1
    have hready : ∀ e ∈ o.after, hard e = true → listed[e.on]? = some true := by
      intro e he hh
      have := h2 e he (by rw [hard_binds]; exact hh)
      rw [Array.getD_eq_getD_getElem?] at this
      cases hx : listed[e.on]? with
      | none => rw [hx] at this; cases this
      | some b => rw [hx] at this; simpa using this
    obtain ⟨t', g1, g2⟩ := inv_step hT hI hS V ho' (by rw [hl]; simp) hready
    have hset : ∀ j, (listed.setIfInBounds i true)[j]? = some true ↔ (j = i ∨ listed[j]? = some true) := by
      intro j
      by_cases hj : i = j
      · subst hj; simp [Array.getElem?_setIfInBounds, hsz, hlt]
      · rw [Array.getElem?_setIfInBounds_ne hj]
        exact ⟨.inr, fun h => h.resolve_left (Ne.symm hj)⟩
    unfold wpOp
    simp only [ho]
    refine step_wp H hCR hC0 g1 (hall o (List.mem_of_getElem? ho')) S fun X' a' w' S' => ih _ X' a' w' t' (by simpa using hsz) ?_ ?_ ?_ S'
    · rw [Array.toList_setIfInBounds, count_set _ _ (by simpa using hl)]; omega
    · intro k ok hk hLk e he hh
      rw [hset] at hLk ⊢
      rcases hLk with rfl | hLk
      · rw [ho'] at hk; cases hk
        exact .inr (hready e he hh)
      · exact .inr (hS k ok hk hLk e he hh)
    · exact ⟨fun x j h1 h2 h3 h4 => g2.some x j h1 ((hset j).1 h2) h3 fun k q1 q2 q3 => h4 k q1 q2 ((hset k).2 q3), fun x h => g2.none x fun j h1 h2 => h j h1 ((hset j).2 h2)⟩
end
end
end Go.Proofs.Ytjnkppjlhmkjaaa.Av
