/- A world and the objects that are told of it: 'Mem'; what new things, writings and endings do to it. -/
import Derived.Test.YtjnkppjlhmkjaaaAvEv
import Derived.Laws.AppendOwn
namespace Go.Proofs.Ytjnkppjlhmkjaaa.Av
open Go
variable {CT : Nat → Type}

theorem Sg.one {v : Value} (h : Sg v) : v.oneCell' = true := by cases v <;> first | rfl | exact h.elim
theorem R.sg {X : Cx CT} {a : AV CT} {c : List Value} (h : R X a c) : ∀ v ∈ c, Sg v := by
  have key : ∀ {css : List (List Value)} {get : Nat → Option (AV CT)}, (∀ j c, css[j]? = some c → ∃ a, get j = some a) →
      (∀ (j : Nat) (a : AV CT) (c : List Value), get j = some a → css[j]? = some c → ∀ v ∈ c, Sg v) → ∀ v ∈ css.flatten, Sg v := by
    intro css get hx hr v hv
    obtain ⟨c, hc, hv⟩ := List.mem_flatten.1 hv
    obtain ⟨j, hj⟩ := List.mem_iff_getElem?.1 hc
    obtain ⟨a, ha⟩ := hx j c hj
    exact hr j a c ha hj v hv
  have ex : ∀ {C : Cod CT} (l : LS CT (AV CT)) (j : Nat), j < l.len → ∃ a, l.get? C j = some a := by
    intro C l j hj
    cases l <;> simp only [LS.len] at hj <;> simp only [LS.get?, List.getElem?_eq_getElem hj] <;> exact ⟨_, rfl⟩
  induction h with
  | junk hs => intro v hv; obtain rfl := List.mem_singleton.1 hv; exact hs
  | @agg fs css hl _ ih =>
    refine key (get := fun j => fs[j]?) (fun j c hj => ?_) ih
    have := (List.getElem?_eq_some_iff.1 hj).1
    exact ⟨fs[j]'(by omega), List.getElem?_eq_getElem (by omega)⟩
  | @arr n l css h0 h1 h2 _ h4 ih =>
    refine key (get := fun j => l.get? X.C j) (fun j c hj => ?_) ih
    have := (List.getElem?_eq_some_iff.1 hj).1
    exact ex l j (by omega)
  | @lst l css h0 h2 _ h4 ih =>
    refine key (get := fun j => l.get? X.C j) (fun j c hj => ?_) ih
    have := (List.getElem?_eq_some_iff.1 hj).1
    exact ex l j (by omega)
  | mw _ _ hs _ => intro v hv; obtain rfl := List.mem_singleton.1 hv; exact hs
  | @errb b t v => intro u hu; obtain rfl := List.mem_singleton.1 hu; cases b <;> trivial
  | _ => intro v hv; obtain rfl := List.mem_singleton.1 hv; trivial

/-! ### On to a later place -/
structure Le (X Y : Cx CT) : Prop where
  C : Y.C = X.C
  fz : ∀ b cs, X.fz b = some cs → Y.fz b = some cs
  ot : ∀ b cs, X.ot b = some cs → Y.ot b = some cs
  us : ∀ i, X.us i → Y.us i ∧ ∀ o, Y.loc i = some o → X.loc i = some o
theorem Le.refl (X : Cx CT) : Le X X := ⟨rfl, fun _ _ h => h, fun _ _ h => h, fun _ h => ⟨h, fun _ h => h⟩⟩
theorem Le.trans {X Y Z : Cx CT} (h : Le X Y) (k : Le Y Z) : Le X Z :=
  ⟨k.C.trans h.C, fun b cs e => k.fz b cs (h.fz b cs e), fun b cs e => k.ot b cs (h.ot b cs e),
    fun i u => ⟨(k.us i (h.us i u).1).1, fun o e => (h.us i u).2 o ((k.us i (h.us i u).1).2 o e)⟩⟩

theorem R.mono {X Y : Cx CT} (E : Le X Y) {a : AV CT} {c : List Value} (h : R X a c) : R Y a c := by
  induction h with
  | junk hs => exact .junk hs
  | bool => exact .bool
  | int h1 h2 => exact .int h1 h2
  | flt => exact .flt
  | cpx => exact .cpx
  | str h => exact .str h
  | agg hl _ ih => exact .agg hl ih
  | arr h0 h1 h2 _ h4 ih => exact .arr (E.C ▸ h0) h1 h2 (fun j a c ha hc => ih j a c (E.C ▸ ha) hc) h4
  | lst h0 h2 _ h4 ih => exact .lst (E.C ▸ h0) h2 (fun j a c ha hc => ih j a c (E.C ▸ ha) hc) h4
  | vnil h => exact .vnil (E.C ▸ h)
  | vs c h0 h1 h2 h3 ih => exact .vs c (E.C ▸ h0) h1 (fun j a ha => ih j a (E.C ▸ ha)) (fun j a ha => by
      have := h3 j a (E.C ▸ ha)
      exact ⟨this.1, this.2.1, this.2.2.mono E.fz E.ot⟩)
  | vs0 h0 h => exact .vs0 (E.C ▸ h0) h
  | vptr h1 h2 h3 ih => exact .vptr ih h2 (h3.mono E.fz E.ot)
  | mw h0 h1 h2 h3 => exact .mw (E.C ▸ h0) (E.us _ h1).1 h2 fun o ho => h3 o ((E.us _ h1).2 o ho)
  | ms h0 h1 h2 h4 h3 => exact .ms (E.C ▸ h0) (E.us _ h1).1 h2 h4 fun o ho => h3 o ((E.us _ h1).2 o ho)
  | ms0 h0 h1 => exact .ms0 (E.C ▸ h0) (E.us _ h1).1
  | ptr h1 h3 => exact .ptr (E.us _ h1).1 fun o ho => h3 o ((E.us _ h1).2 o ho)
  | nilp => exact .nilp
  | nilf => exact .nilf
  | nili => exact .nili
  | fn hl _ ih => exact .fn hl ih
  | ifc h h1 h2 ih => exact .ifc ih h1 h2
  | errb => exact .errb
theorem RC.mono {X Y : Cx CT} (E : Le X Y) {a : AV CT} {v : Value} (h : RC X a v) : RC Y a v := ⟨h.1.mono E, h.2⟩
theorem RV.mono {X Y : Cx CT} (E : Le X Y) {a : AV CT} {v : Value} (h : RV X a v) : RV Y a v := by
  unfold RV at *
  split at h
  · trivial
  · exact h
  · obtain ⟨vs, h1, h2, h3⟩ := h; exact ⟨vs, h1, h2, fun j b u hb hu => (h3 j b u hb hu).mono E⟩
  · exact RC.mono E h

/-! ### The world -/
/-- No cell is frozen. -/
def FrOk (f : Nat × Nat) (n : Nat) : Prop := f = (0, 0) ∨ n ≤ f.1
/-- Cells written in a row. -/
theorem run_storeCells_fr (P : Program) (g o : Nat) (t : TypeId) (f : Nat × Nat) : ∀ (vs : List Value) (i : Nat) (cur : Array Value) (w : World), FrOk f cur.size → w.heap[g]? = some (.cells cur t f) → o + i + vs.length ≤ cur.size → (∀ v ∈ vs, v.oneCell' = true) →
    (storeCells ⟨g, o, none⟩ vs i).run P w = .ok () (w.setRow g (cur.toList.take (o + i) ++ vs ++ cur.toList.drop (o + i + vs.length)).toArray)
  | [], i, cur, w, _, hg, _, _ => by
    simp only [storeCells, List.append_nil, List.length_nil, Nat.add_zero, List.take_append_drop, Array.toArray_toList]
    rw [setRow_self w g cur t f hg]
    rfl
  | v :: rest, i, cur, w, hf, hg, hl, h1 => by
    have hi : o + i < cur.size := by simp at hl; omega
    have hadd : (⟨g, o, none⟩ : Addr).add i = ⟨g, o + i, none⟩ := by unfold Addr.add; split <;> simp_all
    have hcell : w.cell? ⟨g, o + i, none⟩ = some cur[o + i] := by simp [World.cell?, hg, hi]
    have hfro : w.frozen? ⟨g, o + i, none⟩ = false := by
      obtain ⟨lo, hi'⟩ := f
      simp only [World.frozen?, hg]
      rcases hf with hf | hf
      · cases hf; simp
      · simp only [Bool.and_eq_false_iff, decide_eq_false_iff_not]; left; simp only at hf; omega
    have hst : (store ((⟨g, o, none⟩ : Addr).add i) v).run P w = .ok () (w.setRow g (cur.setIfInBounds (o + i) v)) := by
      rw [hadd, run_store P w _ v _ (h1 v (by simp)), hcell]
      simp [hfro, setCell_eq_setRow w g (o + i) cur t f v hg]
    have ih := run_storeCells_fr P g o t f rest (i + 1) (cur.setIfInBounds (o + i) v) (w.setRow g (cur.setIfInBounds (o + i) v)) (by simpa using hf) (setRow_heap w g cur _ t _ hg) (by simp at hl ⊢; omega) (fun x hx => h1 x (by simp [hx]))
    simp only [storeCells, Sem.run_bind, hst, Result.andThen_ok, ih, setRow_setRow]
    congr 3
    have e := list_seg_step cur.toList (o + i) v rest (by simp at hl ⊢; omega)
    simpa [Array.toList_setIfInBounds, Nat.add_assoc] using e
/-- What a living object is. -/
inductive Live (X : Cx CT) (w : World) (a : AV CT) : Option (Nat × Nat) × Nat → Prop
  | blk {b cp n : Nat} {c rest : List Value} {e : TypeId} {f : Nat × Nat} : a.isCell = true ∧ FrOk f (c ++ rest).length → w.heap[b]? = some (.cells (c ++ rest).toArray e f) → R X a c →
      (∀ l, a = .lst l → l.len = n ∧ n ≤ maxI ∧ n ≤ cp ∧ cp * l.sz = (c ++ rest).length) → Live X w a (.some (b, cp), n)
  | nil {l : LS CT (AV CT)} : a = .lst l → l.len = 0 → l.Ok X.C → Live X w a (.none, 0)
/-- The blocks that a call may write. -/
def Own (X0 : Cx CT) (b : Nat) : Prop := ∃ i c n, X0.loc i = some (some (b, c), n)
structure Mem (X0 : Cx CT) (W : World) (X : Cx CT) (ob : Ob CT) (w : World) : Prop where
  C : X.C = X0.C
  ot : X.ot = X0.ot
  os : w.os = W.os
  tape : w.tape = W.tape
  output : w.output = W.output
  size : W.heap.size ≤ w.heap.size
  frame : ∀ k, k < W.heap.size → ¬ Own X0 k → w.heap[k]? = W.heap[k]?
  fzIn : ∀ b cs, X.fz b = some cs → X0.fz b = some cs ∨ W.heap.size ≤ b ∨ Own X0 b
  fz : ∀ b cs, (X.fz b = some cs ∨ X.ot b = some cs) → ∃ e f, w.heap[b]? = some (.cells cs e f)
  us : ∀ i, X.us i ↔ ob.get i ≠ none
  live : ∀ i a, ob.get i = some (some a) → ∃ o, X.loc i = some o ∧ Live X w a o
  dead : ∀ i, (∀ a, ob.get i ≠ some (some a)) → X.loc i = none
  inj : ∀ i j b c c' n n', X.loc i = some (some (b, c), n) → X.loc j = some (some (b, c'), n') → i = j
  locIn : ∀ i b c n, X.loc i = some (some (b, c), n) → (W.heap.size ≤ b ∨ Own X0 b) ∧ X.fz b = none ∧ X.ot b = none

theorem cell_of {w : World} {b : Nat} {cs : Array Value} {e : TypeId} {f : Nat × Nat} (h : w.heap[b]? = some (.cells cs e f)) (o : Nat) : w.cell? ⟨b, o, none⟩ = cs[o]? := by
  simp [World.cell?, h]
theorem addr_add (b o j : Nat) : (⟨b, o, none⟩ : Addr).add j = ⟨b, o + j, none⟩ := by
  unfold Addr.add; split <;> simp_all
theorem lt_of_heap {w : World} {b : Nat} {o : Obj} (h : w.heap[b]? = some o) : b < w.heap.size := by
  rcases Nat.lt_or_ge b w.heap.size with h' | h'
  · exact h'
  · simp [h'] at h
section
variable {X0 X : Cx CT} {W w : World} {ob : Ob CT}
/-- A draw changes nothing that is told. -/
theorem Mem.drew (M : Mem X0 W X ob w) (n : Nat) : Mem X0 W X ob { w with drawn := n } :=
  ⟨M.C, M.ot, M.os, M.tape, M.output, M.size, M.frame, M.fzIn, M.fz, M.us, fun i a h => by
    obtain ⟨o, h1, h2⟩ := M.live i a h
    refine ⟨o, h1, ?_⟩
    cases h2 with
    | blk g1 g2 g3 g4 => exact .blk g1 g2 g3 g4
    | nil g1 g2 g3 => exact .nil g1 g2 g3, M.dead, M.inj, M.locIn⟩
/-- Objects that read alike. -/
theorem Mem.same {ob' : Ob CT} (M : Mem X0 W X ob w) (h : ∀ i, ob'.get i = ob.get i) : Mem X0 W X ob' w :=
  ⟨M.C, M.ot, M.os, M.tape, M.output, M.size, M.frame, M.fzIn, M.fz, fun i => by rw [h]; exact M.us i, fun i a e => M.live i a (by rw [← h]; exact e),
    fun i e => M.dead i (fun a => by rw [← h]; exact e a), M.inj, M.locIn⟩
/-- A living object in a place. -/
theorem Mem.at (M : Mem X0 W X ob w) {id : Nat} {a : AV CT} (h : ob.get id = some (some a)) {p : List Step} {b : AV CT} (g : GetR X.C p a b)
    {B cp n : Nat} (hl : X.loc id = some (some (B, cp), n)) : ∃ c, R X b c ∧ ∀ j v, c[j]? = some v → w.cell? ⟨B, pathOff p + j, none⟩ = some v := by
  obtain ⟨o, h1, h2⟩ := M.live id a h
  rw [hl] at h1; cases h1
  cases h2 with
  | blk h1 h2 h3 h4 =>
    rename_i cc rest e
    obtain ⟨c, A, D, r1, r2, r3⟩ := g.spec h3
    refine ⟨c, r1, fun j v hj => ?_⟩
    have hj' := (List.getElem?_eq_some_iff.1 hj).1
    rw [cell_of h2, List.getElem?_toArray, r2, List.append_assoc, List.getElem?_append_right (by omega), List.append_assoc, ← r3, Nat.add_sub_cancel_left,
      List.getElem?_append_left hj']
    exact hj
theorem Mem.livelt (M : Mem X0 W X ob w) {id : Nat} {B cp n : Nat} (hl : X.loc id = some (some (B, cp), n)) : B < w.heap.size := by
  by_cases h : ∃ a, ob.get id = some (some a)
  · obtain ⟨a, h⟩ := h
    obtain ⟨o, h1, h2⟩ := M.live id a h
    rw [hl] at h1; cases h1
    cases h2 with
    | blk h1 h2 h3 h4 => exact lt_of_heap h2
  · have := M.dead id (fun a e => h ⟨a, e⟩)
    rw [hl] at this; cases this
/-- What is stable reads so. -/
theorem Mem.stable (M : Mem X0 W X ob w) {lent : Bool} {b off : Nat} {c : List Value} (h : Stable X lent b off c) : ∀ j v, c[j]? = some v → w.cell? ⟨b, off + j, none⟩ = some v := by
  obtain ⟨cs, h1, h2⟩ := h
  intro j v hj
  obtain ⟨e, f, he⟩ := M.fz b cs (h1.imp id fun h => h.2)
  rw [cell_of he]; exact h2 j v hj

/-- A new object. -/
def Cx.new (X : Cx CT) (id : Nat) (o : Option (Nat × Nat) × Nat) : Cx CT :=
  ⟨X.C, X.fz, X.ot, fun i => i = id ∨ X.us i, fun i => if i = id then some o else X.loc i⟩
theorem Mem.new_le (M : Mem X0 W X ob w) {id : Nat} (h : ob.get id = none) (o : Option (Nat × Nat) × Nat) : Le X (X.new id o) :=
  ⟨rfl, fun _ _ h => h, fun _ _ h => h, fun i u => ⟨.inr u, fun o' e => by
    have : i ≠ id := by rintro rfl; exact (M.us i).1 u h
    simpa [Cx.new, this] using e⟩⟩
theorem Live.mono {Y : Cx CT} {w' : World} (E : Le X Y) {a : AV CT} {o : Option (Nat × Nat) × Nat} (h : Live X w a o)
    (hw : ∀ b c n, o = (some (b, c), n) → w'.heap[b]? = w.heap[b]?) : Live Y w' a o := by
  cases h with
  | blk h1 h2 h3 h4 => exact .blk h1 ((hw _ _ _ rfl).trans h2) (h3.mono E) h4
  | nil h1 h2 h3 => exact .nil h1 h2 (E.C ▸ h3)
/-- An object comes to a block, or is written. -/
theorem Mem.set (M : Mem X0 W X ob w) {id : Nat} {b cp n : Nat} (hid : ob.get id = none ∨ X.loc id = some (some (b, cp), n)) (hown : W.heap.size ≤ b ∨ Own X0 b)
    (hfz : X.fz b = none) (hot : X.ot b = none) (hoth : ∀ j c' n', j ≠ id → X.loc j ≠ some (some (b, c'), n')) {w' : World}
    (hos : w'.os = w.os) (hta : w'.tape = w.tape) (hou : w'.output = w.output) (hsz : w.heap.size ≤ w'.heap.size) (hw : ∀ k, k ≠ b → k < w.heap.size → w'.heap[k]? = w.heap[k]?)
    {a : AV CT} (hc : a.isCell = true) {c rest : List Value} {e : TypeId} {f : Nat × Nat} (hf : FrOk f (c ++ rest).length) (hb : w'.heap[b]? = some (.cells (c ++ rest).toArray e f)) (hr : R X a c)
    (hl : ∀ l, a = .lst l → l.len = n ∧ n ≤ maxI ∧ n ≤ cp ∧ cp * l.sz = (c ++ rest).length) :
    Le X (X.new id (some (b, cp), n)) ∧ Mem X0 W (X.new id (some (b, cp), n)) (ob.set id (some a)) w' := by
  have E : Le X (X.new id (some (b, cp), n)) := by
    rcases hid with h | h
    · exact M.new_le h _
    · refine ⟨rfl, fun _ _ h => h, fun _ _ h => h, fun i u => ⟨.inr u, fun o e => ?_⟩⟩
      by_cases hi : i = id
      · subst hi; simp [Cx.new] at e; rw [← e]; exact h
      · simpa [Cx.new, hi] using e
  have hne : ∀ i, i ≠ id → ∀ o, (X.new id (some (b, cp), n)).loc i = some o → X.loc i = some o := by
    intro i hi o ho; simpa [Cx.new, hi] using ho
  refine ⟨E, M.C, M.ot, hos.trans M.os, hta.trans M.tape, hou.trans M.output, Nat.le_trans M.size hsz, ?_, M.fzIn, ?_, ?_, ?_, ?_, ?_, ?_⟩
  · intro k hk ho
    have hkb : k ≠ b := by
      rintro rfl
      rcases hown with h | h
      · omega
      · exact ho h
    rw [hw k hkb (by have := M.size; omega)]; exact M.frame k hk ho
  · intro k cs hk
    have hkb : k ≠ b := by
      rintro rfl
      rcases hk with h | h
      · change X.fz k = some cs at h; rw [hfz] at h; cases h
      · change X.ot k = some cs at h; rw [hot] at h; cases h
    obtain ⟨e, f, he⟩ := M.fz k cs hk
    exact ⟨e, f, (hw k hkb (lt_of_heap he)).trans he⟩
  · intro i; rw [Ob.get_set]
    by_cases hi : i = id
    · subst hi; simp [Cx.new]
    · rw [if_neg (Ne.symm hi)]; simp only [Cx.new, hi, false_or]; exact M.us i
  · intro i x hx
    rw [Ob.get_set] at hx
    by_cases hi : id = i
    · subst hi
      rw [if_pos rfl] at hx; cases hx
      exact ⟨(some (b, cp), n), by simp [Cx.new], .blk ⟨hc, hf⟩ hb (hr.mono E) hl⟩
    · rw [if_neg hi] at hx
      obtain ⟨o, h1, h2⟩ := M.live i x hx
      refine ⟨o, by simpa [Cx.new, Ne.symm hi] using h1, h2.mono E ?_⟩
      rintro B cc nn rfl
      have := M.livelt h1
      exact hw B (fun e => hoth i cc nn (Ne.symm hi) (e ▸ h1)) this
  · intro i hi
    rw [Ob.get_set] at hi
    by_cases e : id = i
    · subst e; exact absurd (if_pos rfl) (hi a)
    · have := M.dead i (by simpa [e] using hi)
      simpa [Cx.new, Ne.symm e] using this
  · intro i j k c1 c2 n1 n2 h1 h2
    by_cases hi : i = id
    · by_cases hj : j = id
      · rw [hi, hj]
      · have g2 := hne j hj _ h2
        rw [hi] at h1
        simp [Cx.new] at h1
        obtain ⟨⟨rfl, _⟩, _⟩ := h1
        exact absurd g2 (hoth j _ _ hj)
    · have g1 := hne i hi _ h1
      by_cases hj : j = id
      · rw [hj] at h2
        simp [Cx.new] at h2
        obtain ⟨⟨rfl, _⟩, _⟩ := h2
        exact absurd g1 (hoth i _ _ hi)
      · exact M.inj i j k c1 c2 n1 n2 g1 (hne j hj _ h2)
  · intro i k c1 n1 h1
    by_cases hi : i = id
    · rw [hi] at h1
      simp [Cx.new] at h1
      obtain ⟨⟨rfl, rfl⟩, rfl⟩ := h1
      exact ⟨hown, hfz, hot⟩
    · exact M.locIn i k c1 n1 (hne i hi _ h1)
theorem Mem.fresh (M : Mem X0 W X ob w) : X.fz w.heap.size = none ∧ X.ot w.heap.size = none ∧ ∀ j c n, X.loc j ≠ some (some (w.heap.size, c), n) := by
  refine ⟨?_, ?_, fun j c n h => by have := M.livelt h; omega⟩
  · cases hf : X.fz w.heap.size with
    | none => rfl
    | some cs => obtain ⟨e, f, he⟩ := M.fz _ cs (.inl hf); have := lt_of_heap he; omega
  · cases hf : X.ot w.heap.size with
    | none => rfl
    | some cs => obtain ⟨e, f, he⟩ := M.fz _ cs (.inr hf); have := lt_of_heap he; omega
theorem Mem.new (M : Mem X0 W X ob w) {id : Nat} (h : ob.get id = none) {a : AV CT} (hc : a.isCell = true) {c rest : List Value} (hr : R X a c) {e : TypeId} {cp n : Nat}
    (hl : ∀ l, a = .lst l → l.len = n ∧ n ≤ maxI ∧ n ≤ cp ∧ cp * l.sz = (c ++ rest).length) {cells : Array Value} (hcs : cells = (c ++ rest).toArray) (m : Nat) :
    Le X (X.new id (some (w.heap.size, cp), n)) ∧ Mem X0 W (X.new id (some (w.heap.size, cp), n)) (ob.set id (some a)) { w with heap := w.heap.push (.cells cells e), drawn := m } := by
  subst hcs
  have F := M.fresh
  refine M.set (w' := { w with heap := w.heap.push (.cells (c ++ rest).toArray e), drawn := m }) (.inl h) (.inl M.size) F.1 F.2.1 (fun j c n _ => F.2.2 j c n) rfl rfl rfl ?_ ?_ hc (rest := rest) (e := e) (f := (0, 0)) (.inl rfl) ?_ hr hl
  · show _ ≤ (w.heap.push _).size; rw [Array.size_push]; omega
  · intro k hk hlt; show (w.heap.push _)[k]? = _; rw [Array.getElem?_push, if_neg hk]
  · show (w.heap.push _)[w.heap.size]? = _; simp
/-- A living object is written in place. -/
theorem Mem.write (M : Mem X0 W X ob w) {id : Nat} {a' : AV CT} {b cp n : Nat} (hl : X.loc id = some (some (b, cp), n))
    {c c' rest : List Value} {e : TypeId} {f : Nat × Nat} (hw : w.heap[b]? = some (.cells (c ++ rest).toArray e f)) (hf : FrOk f (c' ++ rest).length) (hc : a'.isCell = true) (hr : R X a' c')
    (hk : ∀ l, a' = .lst l → l.len = n ∧ n ≤ maxI ∧ n ≤ cp ∧ cp * l.sz = (c' ++ rest).length) :
    Le X (X.new id (some (b, cp), n)) ∧ Mem X0 W (X.new id (some (b, cp), n)) (ob.set id (some a')) (w.setRow b (c' ++ rest).toArray) := by
  have L := M.locIn id b cp n hl
  refine M.set (w' := w.setRow b (c' ++ rest).toArray) (.inr hl) L.1 L.2.1 L.2.2 (fun j c n hj e => hj (M.inj _ _ _ _ _ _ _ e hl)) rfl rfl rfl ?_ ?_ hc (rest := rest) (e := e) (f := f) hf ?_ hr hk
  · simp [World.setRow]
  · intro k hk hlt; simp only [World.setRow, Array.getElem?_modify]; rw [if_neg (Ne.symm hk)]
  · exact setRow_heap w b _ _ _ _ hw

/-- An object that is no more. -/
def Cx.kill (X : Cx CT) (id : Nat) : Cx CT := ⟨X.C, X.fz, X.ot, fun i => i = id ∨ X.us i, fun i => if i = id then none else X.loc i⟩
theorem Cx.kill_le (X : Cx CT) (id : Nat) : Le X (X.kill id) :=
  ⟨rfl, fun _ _ h => h, fun _ _ h => h, fun i u => ⟨.inr u, fun o e => by
    simp only [Cx.kill] at e
    split at e
    · cases e
    · exact e⟩⟩
theorem Mem.kill (M : Mem X0 W X ob w) (id : Nat) : Mem X0 W (X.kill id) (ob.set id none) w := by
  have hne : ∀ i o, (X.kill id).loc i = some o → X.loc i = some o := by
    intro i o ho; simp only [Cx.kill] at ho
    split at ho
    · cases ho
    · exact ho
  refine ⟨M.C, M.ot, M.os, M.tape, M.output, M.size, M.frame, M.fzIn, M.fz, ?_, ?_, ?_, ?_, ?_⟩
  · intro i; rw [Ob.get_set]
    by_cases hi : i = id
    · subst hi; simp [Cx.kill]
    · rw [if_neg (Ne.symm hi)]; simp only [Cx.kill, hi, false_or]; exact M.us i
  · intro i b hb
    rw [Ob.get_set] at hb
    by_cases hi : id = i
    · rw [if_pos hi] at hb; cases hb
    · rw [if_neg hi] at hb
      obtain ⟨o, h1, h2⟩ := M.live i b hb
      exact ⟨o, by simpa [Cx.kill, Ne.symm hi] using h1, h2.mono (X.kill_le id) fun _ _ _ _ => rfl⟩
  · intro i hi
    rw [Ob.get_set] at hi
    by_cases e : id = i
    · subst e; simp [Cx.kill]
    · have := M.dead i (by simpa [e] using hi)
      simpa [Cx.kill, Ne.symm e] using this
  · intro i j b c1 c2 n1 n2 h1 h2
    exact M.inj i j b c1 c2 n1 n2 (hne _ _ h1) (hne _ _ h2)
  · intro i b c1 n1 h1
    exact M.locIn i b c1 n1 (hne _ _ h1)

/-- Its block stays as it is. -/
def Cx.pub (X : Cx CT) (b : Nat) (cs : Array Value) : Cx CT := ⟨X.C, fun k => if k = b then some cs else X.fz k, X.ot, X.us, X.loc⟩
theorem Mem.pub (M : Mem X0 W X ob w) {b : Nat} {cs : Array Value} {e : TypeId} {f : Nat × Nat} (hb : w.heap[b]? = some (.cells cs e f)) (hn : W.heap.size ≤ b ∨ Own X0 b)
    (hf : X.fz b = none) (hl : ∀ i c n, X.loc i ≠ some (some (b, c), n)) : Le X (X.pub b cs) ∧ Mem X0 W (X.pub b cs) ob w := by
  have E : Le X (X.pub b cs) := ⟨rfl, fun k x h => by
    have : k ≠ b := by rintro rfl; rw [hf] at h; cases h
    simpa [Cx.pub, this] using h, fun _ _ h => h, fun i u => ⟨u, fun _ h => h⟩⟩
  refine ⟨E, M.C, M.ot, M.os, M.tape, M.output, M.size, M.frame, ?_, ?_, M.us, ?_, M.dead, M.inj, ?_⟩
  · intro k x h
    by_cases hk : k = b
    · exact .inr (hk ▸ hn)
    · exact M.fzIn k x (by simpa [Cx.pub, hk] using h)
  · intro k x h
    rcases h with h | h
    · by_cases hk : k = b
      · subst hk; simp [Cx.pub] at h; subst h; exact ⟨e, f, hb⟩
      · exact M.fz k x (.inl (by simpa [Cx.pub, hk] using h))
    · exact M.fz k x (.inr h)
  · intro i a ha
    obtain ⟨o, h1, h2⟩ := M.live i a ha
    exact ⟨o, h1, h2.mono E fun _ _ _ _ => rfl⟩
  · intro i k c n h
    have := M.locIn i k c n h
    refine ⟨this.1, ?_, this.2.2⟩
    have hk : k ≠ b := by rintro rfl; exact hl i c n h
    simpa [Cx.pub, hk] using this.2.1
/-- A list without a block. -/
theorem Mem.newNil (M : Mem X0 W X ob w) {id : Nat} (h : ob.get id = none) {l : LS CT (AV CT)} (h0 : l.len = 0) (hok : l.Ok X.C) :
    Le X (X.new id (none, 0)) ∧ Mem X0 W (X.new id (none, 0)) (ob.set id (some (.lst l))) w := by
  have E := M.new_le h (none, 0)
  have hne : ∀ i b c n, (X.new id (none, 0)).loc i = some (some (b, c), n) → i ≠ id ∧ X.loc i = some (some (b, c), n) := by
    intro i b c n ho
    by_cases hi : i = id
    · subst hi; simp [Cx.new] at ho
    · exact ⟨hi, by simpa [Cx.new, hi] using ho⟩
  refine ⟨E, M.C, M.ot, M.os, M.tape, M.output, M.size, M.frame, M.fzIn, M.fz, ?_, ?_, ?_, ?_, ?_⟩
  · intro i; rw [Ob.get_set]
    by_cases hi : i = id
    · subst hi; simp [Cx.new]
    · rw [if_neg (Ne.symm hi)]; simp only [Cx.new, hi, false_or]; exact M.us i
  · intro i b hb
    rw [Ob.get_set] at hb
    by_cases hi : id = i
    · subst hi
      rw [if_pos rfl] at hb; cases hb
      exact ⟨(none, 0), by simp [Cx.new], .nil rfl h0 hok⟩
    · rw [if_neg hi] at hb
      obtain ⟨o, h1, h2⟩ := M.live i b hb
      exact ⟨o, by simpa [Cx.new, Ne.symm hi] using h1, h2.mono E fun _ _ _ _ => rfl⟩
  · intro i hi
    rw [Ob.get_set] at hi
    by_cases e : id = i
    · subst e; exact absurd (if_pos rfl) (hi (.lst l))
    · have := M.dead i (by simpa [e] using hi)
      simpa [Cx.new, Ne.symm e] using this
  · intro i j b c1 c2 n1 n2 h1 h2
    exact M.inj i j b c1 c2 n1 n2 (hne _ _ _ _ h1).2 (hne _ _ _ _ h2).2
  · intro i b c1 n1 h1
    exact M.locIn i b c1 n1 (hne _ _ _ _ h1).2
end
end Go.Proofs.Ytjnkppjlhmkjaaa.Av
