/- Regions: in the text's order, and in any order. -/
import Derived.Test.YtjnkppjlhmkjaaaAvStep
import Derived.Orders
namespace Go.Proofs.Ytjnkppjlhmkjaaa.Av
open Go
variable {CT : Nat → Type}

/-! ### Slots -/
theorem tget_tset (tm : List (Nat × AV CT)) (d t : Nat) (v : AV CT) : tget (tset tm d v) t = if d = t then v else tget tm t := by
  induction tm with
  | nil =>
    simp only [tset, tget]
    by_cases h : d = t
    · subst h; simp
    · rw [if_neg h, beq_ne h]; rfl
  | cons p r ih =>
    obtain ⟨k, u⟩ := p
    simp only [tset]
    by_cases hk : k = d
    · subst hk
      simp only [Nat.beq_refl, cond_true, tget]
      by_cases h : k = t
      · subst h; simp
      · simp [beq_ne h, h]
    · simp only [beq_ne hk, cond_false, tget, ih]
      by_cases h : k = t
      · subst h
        simp [Ne.symm hk]
      · simp [beq_ne h]
theorem tget_tput (tm : List (Nat × AV CT)) (d : Option Nat) (t : Nat) (v : AV CT) : tget (tput tm d v) t = if d = some t then v else tget tm t := by
  cases d with
  | none => simp [tput]
  | some d => simp [tput, tget_tset]
theorem rho_eq {tm tm' : List (Nat × AV CT)} (h : ∀ t, tget tm t = tget tm' t) : rho tm = rho tm' := by
  funext x; cases x <;> simp [rho, h]
theorem tset_same {tm : List (Nat × AV CT)} {g : Nat} {v : AV CT} (h : tget tm g = v) : ∀ t, tget (tset tm g v) t = tget tm t := by
  intro t; rw [tget_tset]; split
  · rename_i e; rw [← e, h]
  · rfl
/-- Constants of the text are what they read as. -/
def constOk : Value → Bool
  | .int k n => decide (k.min ≤ n) && decide (n ≤ k.max)
  | .string s => Nat.ble s.size maxI
  | .slice none a b => Nat.beq a 0 && Nat.beq b 0
  | _ => true
def opndOk : Operand → Bool
  | .const v => constOk v
  | _ => true
def operOk (nt : Nat) (o : Oper) : Bool := o.op.operands.toList.all opndOk && (match o.dst with | some d => Nat.blt d nt | none => true)
theorem const_rv {X : Cx CT} {v : Value} (h : constOk v = true) : RV X (ofConst v) v := by
  cases v with
  | bool b => exact RV.of_bool
  | int k n =>
    simp only [constOk, Bool.and_eq_true, decide_eq_true_eq] at h
    exact RV.of_int h.1 h.2
  | float k x => exact RV.of_flt
  | complex k x y => exact RV.of_cpx
  | string s =>
    have h : s.size ≤ maxI := Nat.ble_eq.mp h
    have := RV.of_str (X := X) (s := s.data.toList) (by rw [Array.length_toList]; exact h)
    simpa [ofConst] using this
  | pointer a => cases a <;> first | exact trivial | exact RC.rv (R.rc1 (a := .nilp) .nilp rfl)
  | slice a n c =>
    cases a with
    | some a => exact trivial
    | none =>
      simp only [constOk, Bool.and_eq_true] at h
      obtain rfl := Nat.eq_of_beq_eq_true h.1
      obtain rfl := Nat.eq_of_beq_eq_true h.2
      exact RV.of_vnil trivial
  | nilFunc => exact RC.rv (R.rc1 (a := .nilf) .nilf rfl)
  | nilIface => exact RC.rv (R.rc1 (a := .nili) .nili rfl)
  | _ => exact trivial
structure StOk (X0 : Cx CT) (W : World) (nt : Nat) (X : Cx CT) (st : St CT) (a : Act) (w : World) : Prop where
  mem : Mem X0 W X st.ob w
  le : Le X0 X
  slots : ∀ t, RV X (tget st.tm t) (a.tmps.getD t undef)
  size : a.tmps.size = nt
  defers : a.defers = []
section
variable {P : Program} {T : TyTab CT} {CR : CallR CT} {X0 X : Cx CT} {W w : World} {a : Act} {st : St CT} {nt : Nat}
theorem StOk.opnd (S : StOk X0 W nt X st a w) {x : Operand} (h : opndOk x = true) : RV X (rho st.tm x) (a.eval x) := by
  cases x with
  | tmp t => exact S.slots t
  | const v => exact const_rv h
  | func f => exact RC.rv (R.rc1 (a := .fn f []) (.fn (vs := []) rfl (fun j a v h => by simp at h)) rfl)
  | global g => exact trivial
theorem StOk.same {st' : St CT} (S : StOk X0 W nt X st a w) (h1 : ∀ t, tget st'.tm t = tget st.tm t) (h2 : ∀ i, st'.ob.get i = st.ob.get i) : StOk X0 W nt X st' a w :=
  ⟨S.mem.same h2, S.le, fun t => by rw [h1]; exact S.slots t, S.size, S.defers⟩
theorem StOk.put (S : StOk X0 W nt X st a w) {X' : Cx CT} {ob' : Ob CT} {w' : World} (E : Le X X') (M : Mem X0 W X' ob' w') {v : AV CT} {u : Value} (hv : RV X' v u) {d : Option Nat} (hd : ∀ t, d = some t → t < nt) :
    StOk X0 W nt X' ⟨tput st.tm d v, ob'⟩ (a.put d u) w' := by
  refine ⟨M, S.le.trans E, fun t => ?_, ?_, ?_⟩
  · rw [tget_tput]
    cases d with
    | none => simp only [Act.put]; rw [if_neg (by simp)]; exact (S.slots t).mono E
    | some d =>
      by_cases h : d = t
      · subst h
        have : d < a.tmps.size := by rw [S.size]; exact hd d rfl
        rw [if_pos rfl]; simpa [Act.put, this] using hv
      · rw [if_neg (by simpa using h)]
        have : (a.put (some d) u).tmps.getD t undef = a.tmps.getD t undef := by simp [Act.put, Array.getElem?_setIfInBounds_ne h]
        rw [this]; exact (S.slots t).mono E
  · cases d <;> simp [Act.put, S.size]
  · cases d <;> simp [Act.put, S.defers]

/-! ### An operation of a region -/
def gslots (all : List Oper) (o : Oper) : List Nat := match o.guard with
  | some (j, _) => slotsOf ((all[j]?).bind (·.dst))
  | none => []
/-- Is it carried out? -/
def GuardIs (all : List Oper) (anc : Nat) (o : Oper) (s : St CT) (run : Bool) : Prop :=
  (o.guard = none ∧ run = true) ∨ ∃ j want g, o.guard = some (j, want) ∧ (all[j]?).bind (·.dst) = some g ∧ Nat.testBit anc j = true ∧
    ((∃ b, tget s.tm g = .bool b ∧ run = (b == want)) ∨ (tget s.tm g = .und ∧ run = false))
structure StepAt (T : TyTab CT) (CR : CallR CT) (all : List Oper) (i : Nat) (o : Oper) (s : St CT) (fp : Fp) (s' : St CT) : Prop where
  edges : okEdges o.after.toList i = true
  place : fp.i = i
  res : ∃ run, GuardIs all fp.anc o s run ∧ cond run
    (∃ v ob' rs ws, EvM CR (opM T (o.dst.getD 9999) o (rho s.tm) .ret) s.ob [] [] v ob' rs ws ∧ (∀ t, tget s'.tm t = tget (tput s.tm o.dst v) t) ∧ (∀ i, s'.ob.get i = ob'.get i) ∧
      fp.rd = gslots all o ++ ((tmpsOf o.op).map (2 * ·) ++ rs.map (2 * · + 1)) ∧ fp.wr = slotsOf o.dst ++ ws.map (2 * · + 1))
    ((∀ t, tget s'.tm t = tget (tput s.tm o.dst .und) t) ∧ (∀ i, s'.ob.get i = s.ob.get i) ∧ fp.rd = gslots all o ∧ fp.wr = slotsOf o.dst)
theorem getD_bool {xs : Array Value} {g : Nat} {b : Bool} (h : xs.getD g undef = .bool b) : xs[g]? = some (.bool b) := by
  rw [Array.getD_eq_getD_getElem?] at h
  cases hx : xs[g]? with
  | none => rw [hx] at h; simp [undef] at h
  | some v => rw [hx] at h; simp at h; rw [h]
theorem getD_undef {xs : Array Value} {g : Nat} (h : xs.getD g undef = undef) : ∀ b, xs[g]? ≠ some (.bool b) := by
  intro b hx
  rw [Array.getD_eq_getD_getElem?, hx] at h
  simp [undef] at h
theorem wanted_run {all : List Oper} {anc : Nat} {o : Oper} {run : Bool} (G : GuardIs all anc o st run) (S : StOk X0 W nt X st a w) : Region.wanted o (yielded all.toArray a.tmps) = run := by
  unfold Region.wanted
  rcases G with ⟨h, rfl⟩ | ⟨j, want, g, h1, h2, _, h3⟩
  · rw [h]
  · rw [h1]
    have hy : ∀ r, (∀ b, r = some b → a.tmps[g]? = some (.bool b)) → (r = none → ∀ b, a.tmps[g]? ≠ some (.bool b)) → yielded all.toArray a.tmps j = r := by
      intro r hr1 hr2
      unfold yielded
      have : ((all.toArray[j]?).bind (·.dst)).bind (a.tmps[·]?) = a.tmps[g]? := by
        simp only [List.getElem?_toArray, h2, Option.bind_some]
      rw [this]
      cases r with
      | some b => rw [hr1 b rfl]
      | none =>
        have := hr2 rfl
        split
        · rename_i b hb; exact absurd hb (this b)
        · rfl
    have hs := S.slots g
    rcases h3 with ⟨b, hb, rfl⟩ | ⟨hu, rfl⟩
    · rw [hb] at hs
      show (yielded all.toArray a.tmps j == some want) = _
      rw [hy (some b) (fun c e => by cases e; exact getD_bool hs.bool) (fun e => by cases e)]
      cases b <;> cases want <;> rfl
    · rw [hu] at hs
      show (yielded all.toArray a.tmps j == some want) = _
      rw [hy none (fun b e => by cases e) (fun _ => getD_undef hs)]
      rfl
theorem step_wp (H : TabOk P T) (hCR : ∀ f args objs res, CR f args objs res → CallsOk P T.C f args objs res) (hC0 : X0.C = T.C) {all : List Oper} {i : Nat} {o : Oper} {s s' : St CT} {fp : Fp}
    (hs : StepAt T CR all i o s fp s') (ho : operOk nt o = true) (S : StOk X0 W nt X s a w) {K : Act → World → Prop} {Q : Exit → Act → World → Prop}
    (hK : ∀ X' a' w', StOk X0 W nt X' s' a' w' → K a' w') :
    if Region.wanted o (yielded all.toArray a.tmps) then o.wp P a w K Q ∨ (o.asks P a w ∧ LetsOut Q) else K (a.put o.dst undef) w := by
  obtain ⟨run, G, hres⟩ := hs.res
  simp only [operOk, Bool.and_eq_true] at ho
  have hd : ∀ t, o.dst = some t → t < nt := by
    intro t h
    rw [h] at ho
    exact Nat.ble_eq.mp (show Nat.ble (t + 1) nt = true from ho.2)
  have hX : X.C = T.C := S.mem.C.trans hC0
  rw [wanted_run G S]
  cases run with
  | true =>
    obtain ⟨v, ob', rs, ws, hev, h1, h2, _, _⟩ := hres
    rw [if_pos rfl]
    left
    have := op_ok (P := P) (X0 := X0) (X := X) (W := W) (w := w) H (fun f args objs res h => hX ▸ hCR f args objs res h) hX S.mem (d := o.dst.getD 9999) (o := o) (ρ := rho s.tm) (ρ' := a.eval) (fun x hx => S.opnd (List.all_eq_true.1 ho.1 x (by simpa using hx))) ⟨_, _, _, _, hev⟩
    exact this.wp fun u w' X' E M hv => hK X' _ w' ((S.put E M hv hd).same h1 h2)
  | false =>
    obtain ⟨h1, h2, _, _⟩ := hres
    rw [if_neg (by simp)]
    exact hK X _ w ((S.put (d := o.dst) (.refl X) S.mem (v := .und) rfl hd).same h1 h2)

/-! ### What regK says -/
/-- The states and footprints of a region, in the text's order. -/
structure Trace (T : TyTab CT) (CR : CallR CT) (all rest : List Oper) (i : Nat) (ancs : List Nat) (sts : Nat → St CT) (fp : Nat → Fp) : Prop where
  step : ∀ q o, rest[q]? = some o → StepAt T CR all (i + q) o (sts (i + q)) (fp (i + q)) (sts (i + q + 1))
  anc : ∀ q o, rest[q]? = some o → ∃ acc : List Nat, (fp (i + q)).anc = ancOf acc o.after.toList ∧ (∀ j, j < i → acc.getD j 0 = ancs.getD j 0) ∧ ∀ j, i ≤ j → j < i + q → acc.getD j 0 = (fp j).anc
theorem reg_trace {Γ : Gam CT} (hΓ : GamOk CR Γ) {β : Type} {all : List Oper} {draw : Bool} {k : St CT → Option β} {r : β} : ∀ (rest : List Oper) (i : Nat) (st : St CT) (ancs : List Nat) (fps : List Fp), ancs.length = i →
    regK T Γ all draw rest i st ancs fps k = some r →
    ∃ (sts : Nat → St CT) (fp : Nat → Fp), sts i = st ∧ Trace T CR all rest i ancs sts fp ∧ k (sts (i + rest.length)) = some r ∧ (draw = true → indep ((List.range rest.length).reverse.map (fun q => fp (i + q)) ++ fps) = true)
  | [], i, st, ancs, fps, hl, h => by
    refine ⟨fun _ => st, fun _ => ⟨0, [], [], 0⟩, rfl, ⟨fun q o h => by simp at h, fun q o h => by simp at h⟩, ?_, fun hd => ?_⟩
    · unfold regK at h
      cases draw with
      | false => exact h
      | true =>
        simp only [cond_true] at h
        cases hi : indep fps with
        | true => rw [hi] at h; exact h
        | false => rw [hi] at h; cases h
    · subst hd
      unfold regK at h
      simp only [cond_true] at h
      cases hi : indep fps with
      | true => simpa using hi
      | false => rw [hi] at h; cases h
  | o :: rest, i, st, ancs, fps, hl, h => by
    -- what follows a step
    have tail : ∀ (st1 : St CT) (f : Fp), f.anc = ancOf ancs o.after.toList → StepAt T CR all i o st f st1 → regK T Γ all draw rest (i + 1) st1 (ancs ++ [ancOf ancs o.after.toList]) (f :: fps) k = some r →
        ∃ (sts : Nat → St CT) (fp : Nat → Fp), sts i = st ∧ Trace T CR all (o :: rest) i ancs sts fp ∧ k (sts (i + (o :: rest).length)) = some r ∧ (draw = true → indep ((List.range (o :: rest).length).reverse.map (fun q => fp (i + q)) ++ fps) = true) := by
      intro st1 f hanc hstep h
      obtain ⟨sts, fp, h1, h2, h3, h4⟩ := reg_trace hΓ rest (i + 1) st1 _ _ (by simp [hl]) h
      refine ⟨fun j => if j ≤ i then st else sts j, fun j => if j ≤ i then f else fp j, by simp, ⟨fun q o' ho => ?_, fun q o' ho => ?_⟩, ?_, fun hd => ?_⟩
      · cases q with
        | zero =>
          simp at ho; subst ho
          simp only [Nat.add_zero, Nat.le_refl, if_true]
          rw [if_neg (by omega), h1]; exact hstep
        | succ q =>
          have := h2.step q o' (by simpa using ho)
          rw [if_neg (by omega), if_neg (by omega), if_neg (by omega), show i + (q + 1) = i + 1 + q by omega]
          exact this
      · cases q with
        | zero =>
          simp at ho; subst ho
          exact ⟨ancs, by simp [hanc], fun _ _ => rfl, fun j h1 h2 => by omega⟩
        | succ q =>
          obtain ⟨acc, g1, g2, g3⟩ := h2.anc q o' (by simpa using ho)
          refine ⟨acc, ?_, fun j hj => ?_, fun j hj1 hj2 => ?_⟩
          · rw [if_neg (by omega), show i + (q + 1) = i + 1 + q by omega]; exact g1
          · rw [g2 j (by omega)]
            simp only [List.getD_eq_getElem?_getD]
            rw [List.getElem?_append_left (by omega)]
          · by_cases hji : j = i
            · subst hji
              rw [g2 j (by omega), if_pos (Nat.le_refl _), hanc]
              simp only [List.getD_eq_getElem?_getD]
              rw [List.getElem?_append_right (by omega)]
              simp [hl]
            · rw [if_neg (by omega)]; exact g3 j (by omega) (by omega)
      · show k (if i + (o :: rest).length ≤ i then st else sts (i + (o :: rest).length)) = some r
        rw [if_neg (by simp), List.length_cons, show i + (rest.length + 1) = i + 1 + rest.length by omega]
        exact h3
      · have := h4 hd
        rw [List.length_cons, List.range_succ_eq_map, List.reverse_cons, List.map_append]
        simp only [List.map_cons, List.map_nil, Nat.add_zero, Nat.le_refl, if_true, List.append_assoc, List.singleton_append]
        have e : (List.map Nat.succ (List.range rest.length)).reverse.map (fun q => if i + q ≤ i then f else fp (i + q)) = (List.range rest.length).reverse.map fun q => fp (i + 1 + q) := by
          rw [← List.map_reverse, List.map_map]
          apply List.map_congr_left
          intro q _
          simp only [Function.comp, Nat.succ_eq_add_one]
          rw [if_neg (by omega), show i + (q + 1) = i + 1 + q by omega]
        rw [e]; exact this
    have go : ∀ (s : St CT), (∀ t, tget s.tm t = tget st.tm t) → s.ob = st.ob → GuardIs all (ancOf ancs o.after.toList) o st true → okEdges o.after.toList i = true →
        doOp T Γ o s (fun v ob rs ws => regK T Γ all draw rest (i + 1) ⟨tput s.tm o.dst v, ob⟩ (ancs ++ [ancOf ancs o.after.toList]) ({ i, rd := gslots all o ++ ((tmpsOf o.op).map (2 * ·) ++ rs.map (2 * · + 1)), wr := slotsOf o.dst ++ ws.map (2 * · + 1), anc := ancOf ancs o.after.toList } :: fps) k) = some r →
        ∃ (sts : Nat → St CT) (fp : Nat → Fp), sts i = st ∧ Trace T CR all (o :: rest) i ancs sts fp ∧ k (sts (i + (o :: rest).length)) = some r ∧ (draw = true → indep ((List.range (o :: rest).length).reverse.map (fun q => fp (i + q)) ++ fps) = true) := by
      intro s hs hob hG hE h
      obtain ⟨v, ob', rs, ws, hev, h⟩ := run_leaf hΓ _ _ _ _ _ _ h
      rw [rho_eq hs, hob] at hev
      refine tail _ _ rfl ⟨hE, rfl, true, hG, v, ob', rs, ws, hev, fun t => ?_, fun _ => rfl, rfl, rfl⟩ h
      rw [tget_tput, tget_tput, hs]
    have skip : ∀ (s : St CT), (∀ t, tget s.tm t = tget st.tm t) → s.ob = st.ob → GuardIs all (ancOf ancs o.after.toList) o st false → okEdges o.after.toList i = true →
        regK T Γ all draw rest (i + 1) ⟨tput s.tm o.dst .und, s.ob⟩ (ancs ++ [ancOf ancs o.after.toList]) ({ i, rd := gslots all o, wr := slotsOf o.dst, anc := ancOf ancs o.after.toList } :: fps) k = some r →
        ∃ (sts : Nat → St CT) (fp : Nat → Fp), sts i = st ∧ Trace T CR all (o :: rest) i ancs sts fp ∧ k (sts (i + (o :: rest).length)) = some r ∧ (draw = true → indep ((List.range (o :: rest).length).reverse.map (fun q => fp (i + q)) ++ fps) = true) := by
      intro s hs hob hG hE h
      refine tail _ _ rfl ⟨hE, rfl, false, hG, fun t => ?_, fun j => by rw [hob], rfl, rfl⟩ h
      rw [tget_tput, tget_tput, hs]
    unfold regK at h
    cases hE : okEdges o.after.toList i with
    | false => simp only [hE, cond_false] at h; cases h
    | true =>
      simp only [hE, cond_true] at h
      cases hg : o.guard with
      | none =>
        simp only [hg] at h
        exact go st (fun _ => rfl) rfl (.inl ⟨hg, rfl⟩) hE (by simpa [gslots, hg] using h)
      | some jw =>
        obtain ⟨j, want⟩ := jw
        simp only [hg] at h
        cases hdst : (all[j]?).bind (·.dst) with
        | none => simp only [hdst] at h; cases h
        | some g =>
          simp only [hdst] at h
          cases hb : Nat.testBit (ancOf ancs o.after.toList) j with
          | false => simp only [hb, cond_false] at h; cases h
          | true =>
            simp only [hb, cond_true] at h
            have hgs : gslots all o = slotsOf (some g) := by simp [gslots, hg, hdst]
            cases ht : tget st.tm g with
            | bool b =>
              simp only [ht] at h
              cases b with
              | true =>
                simp only [cond_true] at h
                cases want with
                | true => exact go ⟨tset st.tm g (.bool true), st.ob⟩ (tset_same ht) rfl (.inr ⟨j, true, g, hg, hdst, hb, .inl ⟨true, ht, rfl⟩⟩) hE (by rw [hgs]; exact h)
                | false => exact skip ⟨tset st.tm g (.bool true), st.ob⟩ (tset_same ht) rfl (.inr ⟨j, false, g, hg, hdst, hb, .inl ⟨true, ht, rfl⟩⟩) hE (by rw [hgs]; exact h)
              | false =>
                simp only [cond_false] at h
                cases want with
                | true => exact skip ⟨tset st.tm g (.bool false), st.ob⟩ (tset_same ht) rfl (.inr ⟨j, true, g, hg, hdst, hb, .inl ⟨false, ht, rfl⟩⟩) hE (by rw [hgs]; exact h)
                | false => exact go ⟨tset st.tm g (.bool false), st.ob⟩ (tset_same ht) rfl (.inr ⟨j, false, g, hg, hdst, hb, .inl ⟨false, ht, rfl⟩⟩) hE (by rw [hgs]; exact h)
            | und =>
              simp only [ht] at h
              exact skip st (fun _ => rfl) rfl (.inr ⟨j, want, g, hg, hdst, hb, .inr ⟨ht, rfl⟩⟩) hE (by rw [hgs]; exact h)
            | _ => simp only [ht] at h; cases h
/-- In the text's order. -/
theorem ops_wp (H : TabOk P T) (hCR : ∀ f args objs res, CR f args objs res → CallsOk P T.C f args objs res) (hC0 : X0.C = T.C) {all : List Oper} {sts : Nat → St CT} {fp : Nat → Fp} (hT : Trace T CR all all 0 [] sts fp)
    (hall : ∀ o ∈ all, operOk nt o = true) {Q : Exit → Act → World → Prop} (hQ : ∀ X' a' w', StOk X0 W nt X' (sts all.length) a' w' → Q .normal a' w') :
    ∀ (m i : Nat) (X : Cx CT) (a : Act) (w : World), i + m = all.length → StOk X0 W nt X (sts i) a w → wpOps P all.toArray Q (List.range' i m) a w
  | 0, i, X, a, w, hi, S => by
    simp only [List.range'_zero, wpOps]
    exact hQ X a w (by rw [← hi]; exact S)
  | m + 1, i, X, a, w, hi, S => by
    have ho : all[i]? = some (all[i]'(by omega)) := List.getElem?_eq_getElem (by omega)
    rw [List.range'_succ]
    simp only [wpOps, List.getElem?_toArray, ho]
    have hstep := hT.step i _ ho
    rw [Nat.zero_add] at hstep
    exact step_wp H hCR hC0 hstep (hall _ (List.mem_of_getElem? ho)) S fun X' a' w' S' => ops_wp H hCR hC0 hT hall hQ m (i + 1) X' a' w' (by omega) S'
end
end Go.Proofs.Ytjnkppjlhmkjaaa.Av
