/- What an abstract value says of cells: the relation 'R', and what keeps it. -/
import Derived.Test.YtjnkppjlhmkjaaaAvDef
namespace Go.Proofs.Ytjnkppjlhmkjaaa.Av
open Go
variable {CT : Nat → Type}

/-- Where things lie: blocks that stay as they are; blocks of others, that stay for now; the names that were used; where what is named lies (its block and the capacity, if it has one, and how many elements a list has). -/
structure Cx (CT : Nat → Type) where
  C : Cod CT
  fz : Nat → Option (Array Value)
  ot : Nat → Option (Array Value)
  us : Nat → Prop
  loc : Nat → Option (Option (Nat × Nat) × Nat)

def Stable (X : Cx CT) (lent : Bool) (b off : Nat) (cells : List Value) : Prop :=
  ∃ cs : Array Value, (X.fz b = some cs ∨ (lent = true ∧ X.ot b = some cs)) ∧ ∀ j v, cells[j]? = some v → cs[off + j]? = some v

def Step.off : Step → Nat
  | .fld o _ => o
  | .idx s i => s * i
def pathOff : List Step → Nat
  | [] => 0
  | s :: p => s.off + pathOff p

/-- A value of one cell. -/
def Sg : Value → Prop
  | .agg _ => False
  | .tuple _ => False
  | _ => True

def maxI : Nat := 9223372036854775807
/-- The kind of a list is right. -/
def LK.Ok (C : Cod CT) : LK → Prop
  | .typ c s sc => s = C.csz c ∧ (sc = true → C.scal c = true)
  | _ => True

inductive R (X : Cx CT) : AV CT → List Value → Prop
  | junk {v : Value} : Sg v → R X .junk [v]
  | bool {b : Bool} : R X (.bool b) [.bool b]
  | int {k : IntKind} {n : Int} : k.min ≤ n → n ≤ k.max → R X (.int k n) [.int k n]
  | flt {k : FloatKind} {x : Nat} : R X (.flt k x) [.float k x]
  | cpx {k : FloatKind} {x y : Nat} : R X (.cpx k x y) [.complex k x y]
  | str {s : List UInt8} : s.length ≤ maxI → R X (.str s) [.string ⟨s.toArray⟩]
  | agg {fs : List (AV CT)} {css : List (List Value)} : fs.length = css.length →
      (∀ (j : Nat) (a : AV CT) (c : List Value), fs[j]? = some a → css[j]? = some c → R X a c) → R X (.agg css.flatten.length fs) css.flatten
  | arr {n : Nat} {l : LS CT (AV CT)} {css : List (List Value)} : l.Ok X.C → l.len = n → css.length = n →
      (∀ (j : Nat) (a : AV CT) (c : List Value), l.get? X.C j = some a → css[j]? = some c → R X a c) → (∀ c ∈ css, c.length = l.sz) → R X (.arr n l) css.flatten
  | lst {l : LS CT (AV CT)} {css : List (List Value)} : l.Ok X.C → css.length = l.len →
      (∀ (j : Nat) (a : AV CT) (c : List Value), l.get? X.C j = some a → css[j]? = some c → R X a c) → (∀ c ∈ css, c.length = l.sz) → R X (.lst l) css.flatten
  | vnil {k : LK} : k.Ok X.C → R X (.vnil k) [.slice none 0 0]
  | vs {lent : Bool} {l : LS CT (AV CT)} {b off cap : Nat} (c : Nat → List Value) : l.Ok X.C → l.len ≤ maxI ∧ l.len ≤ cap →
      (∀ (j : Nat) (a : AV CT), l.get? X.C j = some a → R X (a.taint lent) (c j)) →
      (∀ (j : Nat) (a : AV CT), l.get? X.C j = some a → a.ids = [] ∧ (c j).length = l.sz ∧ Stable X lent b (off + j * l.sz) (c j)) →
      R X (.vs lent l) [.slice (some ⟨b, off, none⟩) l.len cap]
  | vs0 {lent : Bool} {l : LS CT (AV CT)} {a : Option Addr} {cap : Nat} : l.Ok X.C → l.len = 0 → R X (.vs lent l) [.slice a 0 cap]
  | vptr {lent : Bool} {a : AV CT} {b off : Nat} {c : List Value} : R X (a.taint lent) c → a.ids = [] → Stable X lent b off c →
      R X (.vptr lent a) [.pointer (some ⟨b, off, none⟩)]
  | mw {id : Nat} {k : LK} {v : Value} : k.Ok X.C → X.us id → Sg v → (∀ o, X.loc id = some o → o.2 ≤ maxI ∧ ((∃ b cap, o.1 = some (b, cap) ∧ o.2 ≤ cap ∧ v = .slice (some ⟨b, 0, none⟩) o.2 cap) ∨ (o.1 = none ∧ o.2 = 0 ∧ v = .slice none 0 0))) →
      R X (.mw id k) [v]
  | ms {id : Nat} {p : List Step} {k : LK} {off len cap b capc : Nat} : k.Ok X.C → X.us id → cap ≤ maxI ∧ len ≤ cap → cap ≤ capc → (∀ o, X.loc id = some o → ∃ cp, o.1 = some (b, cp)) →
      R X (.ms id p k off len cap) [.slice (some ⟨b, pathOff p + off * k.sz, none⟩) len capc]
  | ms0 {id : Nat} {p : List Step} {k : LK} {off capc : Nat} {a : Option Addr} : k.Ok X.C → X.us id → R X (.ms id p k off 0 0) [.slice a 0 capc]
  | ptr {id : Nat} {p : List Step} {b : Nat} : X.us id → (∀ o, X.loc id = some o → ∃ cp, o.1 = some (b, cp)) →
      R X (.ptr id p) [.pointer (some ⟨b, pathOff p, none⟩)]
  | nilp : R X .nilp [.pointer none]
  | nilf : R X .nilf [.nilFunc]
  | nili : R X .nili [.nilIface]
  | fn {f : Nat} {caps : List (AV CT)} {vs : List Value} : caps.length = vs.length → (∀ (j : Nat) (a : AV CT) (v : Value), caps[j]? = some a → vs[j]? = some v → R X a [v]) →
      R X (.fn f caps) [.func (.func f) #[] vs.toArray]
  | ifc {t : Nat} {a : AV CT} {v : Value} : R X a v.cells.toList → (a.isAgg = true → ∃ cs, v = .agg cs) → (a.isAgg = false → Sg v) → R X (.ifc t a) [.iface t v]
  | errb {b : Bool} {t : Nat} {v : Value} : R X (.errb b) [if b then .nilIface else .iface t v]

/-- Of a whole value: what a slot holds. -/
def RC (X : Cx CT) (a : AV CT) (v : Value) : Prop :=
  R X a v.cells.toList ∧ (a.isAgg = true → ∃ cs, v = .agg cs) ∧ (a.isAgg = false → Sg v)
def RV (X : Cx CT) (a : AV CT) (v : Value) : Prop := match a with
  | .junk => True
  | .und => v = undef
  | .tup l => ∃ vs : List Value, v = .tuple vs.toArray ∧ l.length = vs.length ∧ ∀ (j : Nat) (b : AV CT) (u : Value), l[j]? = some b → vs[j]? = some u → RC X b u
  | a => RC X a v

theorem cells_sg {v : Value} (h : Sg v) : v.cells = #[v] := by cases v <;> first | rfl | exact h.elim

theorem flatten_len {α : Type} (s : Nat) (css : List (List α)) (h : ∀ c ∈ css, c.length = s) : css.flatten.length = css.length * s := by
  induction css with
  | nil => simp
  | cons c l ih =>
    simp only [List.flatten_cons, List.length_append, List.length_cons]
    rw [ih fun c hc => h c (List.mem_cons_of_mem _ hc), h c List.mem_cons_self, Nat.add_mul]
    omega

theorem R.size {X : Cx CT} {a : AV CT} {cs : List Value} (h : R X a cs) : cs.length = a.size := by
  cases h with
  | agg _ _ => rfl
  | arr _ hl hn _ hs => simp only [AV.size]; rw [flatten_len _ _ hs, hn]
  | lst _ hn _ hs => simp only [AV.size]; rw [flatten_len _ _ hs, hn]
  | _ => rfl

theorem R.cellish {X : Cx CT} {a : AV CT} {cs : List Value} (h : R X a cs) : a ≠ .und ∧ ∀ l, a ≠ .tup l := by
  cases h <;> exact ⟨by simp, by simp⟩

/-- What is alike in two places: what is kept under new names. -/
structure Emb (X Y : Cx CT) (m : List (Nat × Nat)) : Prop where
  C : Y.C = X.C
  fz : ∀ b cs, X.fz b = some cs → Y.fz b = some cs
  ot : ∀ b cs, X.ot b = some cs → Y.ot b = some cs
  ids : ∀ i j, assoc m i = some j → X.us i → Y.us j ∧ ∀ o, Y.loc j = some o → X.loc i = some o

theorem Stable.mono {X Y : Cx CT} {lent : Bool} {b off : Nat} {c : List Value} (hf : ∀ b cs, X.fz b = some cs → Y.fz b = some cs)
    (ho : ∀ b cs, X.ot b = some cs → Y.ot b = some cs) (h : Stable X lent b off c) : Stable Y lent b off c := by
  obtain ⟨cs, h1, h2⟩ := h
  exact ⟨cs, h1.imp (hf _ _) (fun h => ⟨h.1, ho _ _ h.2⟩), h2⟩
theorem Stable.lend {X : Cx CT} {lent b' : Bool} {b off : Nat} {c : List Value} (h : Stable X lent b off c) : Stable X (lent || b') b off c := by
  obtain ⟨cs, h1, h2⟩ := h
  exact ⟨cs, h1.imp id (fun h => ⟨by simp [h.1], h.2⟩), h2⟩

theorem rens_get (m : List (Nat × Nat)) (l : List (AV CT)) (j : Nat) : (rens m l)[j]? = (l[j]?).map (AV.ren m) := by
  induction l generalizing j with
  | nil => simp [rens]
  | cons a l ih => cases j <;> simp [rens, ih]
theorem rens_len (m : List (Nat × Nat)) (l : List (AV CT)) : (rens m l).length = l.length := by
  induction l with
  | nil => rfl
  | cons a l ih => simp [rens, ih]
theorem taints_get (b : Bool) (l : List (AV CT)) (j : Nat) : (taints b l)[j]? = (l[j]?).map (AV.taint b) := by
  induction l generalizing j with
  | nil => simp [taints]
  | cons a l ih => cases j <;> simp [taints, ih]
theorem taints_len (b : Bool) (l : List (AV CT)) : (taints b l).length = l.length := by
  induction l with
  | nil => rfl
  | cons a l ih => simp [taints, ih]
theorem unnils_get (l : List (AV CT)) (j : Nat) : (unnils l)[j]? = (l[j]?).map AV.unnil := by
  induction l generalizing j with
  | nil => simp [unnils]
  | cons a l ih => cases j <;> simp [unnils, ih]
theorem unnils_len (l : List (AV CT)) : (unnils l).length = l.length := by
  induction l with
  | nil => rfl
  | cons a l ih => simp [unnils, ih]
theorem unlents_get (l : List (AV CT)) (j : Nat) : (unlents l)[j]? = (l[j]?).map AV.unlent := by
  induction l generalizing j with
  | nil => simp [unlents]
  | cons a l ih => cases j <;> simp [unlents, ih]
theorem unlents_len (l : List (AV CT)) : (unlents l).length = l.length := by
  induction l with
  | nil => rfl
  | cons a l ih => simp [unlents, ih]
theorem idss_nil {l : List (AV CT)} (h : idss l = []) {j : Nat} {a : AV CT} (ha : l[j]? = some a) : a.ids = [] := by
  induction l generalizing j with
  | nil => simp at ha
  | cons b l ih =>
    simp only [idss, List.append_eq_nil_iff] at h
    cases j with
    | zero => simp at ha; exact ha ▸ h.1
    | succ j => exact ih h.2 (by simpa using ha)

@[simp] theorem taint_isAgg (b : Bool) (a : AV CT) : (a.taint b).isAgg = a.isAgg := by
  unfold AV.taint; split <;> rfl
@[simp] theorem ren_isAgg (m : List (Nat × Nat)) (a : AV CT) : (a.ren m).isAgg = a.isAgg := by
  unfold AV.ren; split <;> first | rfl | (split <;> rfl)
@[simp] theorem unnil_isAgg (a : AV CT) : a.unnil.isAgg = a.isAgg := by
  unfold AV.unnil; split <;> rfl

/-- Elements of lists that aren't of anything bear no names, no junk. -/
theorem get_ids (C : Cod CT) {l : LS CT (AV CT)} (h : ∀ s x, l = .gen s x → idss x = []) {j : Nat} {a : AV CT} (ha : l.get? C j = some a) : a.ids = [] := by
  cases l with
  | gen s x => exact idss_nil (h s x rfl) ha
  | typ c s sc x =>
    simp only [LS.get?, Option.map_eq_some_iff] at ha
    obtain ⟨x, _, rfl⟩ := ha; exact C.ids_ok _ _
  | _ =>
    simp only [LS.get?, Option.map_eq_some_iff] at ha
    obtain ⟨x, _, rfl⟩ := ha; rfl

mutual
theorem taint_ids (b : Bool) : ∀ a : AV CT, (a.taint b).ids = a.ids
  | .agg s fs => by simp only [AV.taint, AV.ids]; exact taints_ids b fs
  | .arr n (.gen s l) => by simp only [AV.taint, AV.ids]; exact taints_ids b l
  | .arr n (.typ ..) | .arr n (.u8 _) | .arr n (.int ..) | .arr n (.str _) => rfl
  | .ifc t x => by simp only [AV.taint, AV.ids]; exact taint_ids b x
  | .fn f l => by simp only [AV.taint, AV.ids]; exact taints_ids b l
  | .tup l => by simp only [AV.taint, AV.ids]; exact taints_ids b l
  | .vs .. | .vptr .. | .junk | .und | .bool _ | .int .. | .flt .. | .cpx .. | .str _ | .lst _ | .vnil _ | .mw .. | .ms .. | .ptr .. | .nilp | .nilf | .nili | .errb _ => rfl
theorem taints_ids (b : Bool) : ∀ l : List (AV CT), idss (taints b l) = idss l
  | [] => rfl
  | a :: l => by simp only [taints, idss]; rw [taint_ids b a, taints_ids b l]
end

/-- Nothing that is named: alike wherever what stays, stays. -/
theorem R.noids {X Y : Cx CT} (hC : Y.C = X.C) (hf : ∀ b cs, X.fz b = some cs → Y.fz b = some cs) (ho : ∀ b cs, X.ot b = some cs → Y.ot b = some cs)
    {a : AV CT} {c : List Value} (h : R X a c) (hn : a.ids = []) : R Y a c := by
  induction h with
  | junk hs => exact .junk hs
  | bool => exact .bool
  | int h1 h2 => exact .int h1 h2
  | flt => exact .flt
  | cpx => exact .cpx
  | str h => exact .str h
  | agg hl _ ih => exact .agg hl fun j a c ha hc => ih j a c ha hc (idss_nil (by simpa [AV.ids] using hn) ha)
  | arr h0 h1 h2 _ h4 ih =>
    refine .arr (hC ▸ h0) h1 h2 (fun j a c ha hc => ?_) h4
    rw [hC] at ha
    exact ih j a c ha hc (get_ids X.C (by rintro s x rfl; simpa [AV.ids] using hn) ha)
  | lst h0 h2 _ h4 ih =>
    refine .lst (hC ▸ h0) h2 (fun j a c ha hc => ?_) h4
    rw [hC] at ha
    exact ih j a c ha hc (get_ids X.C (by rintro s x rfl; simpa [AV.ids] using hn) ha)
  | vnil h => exact .vnil (hC ▸ h)
  | vs c h0 h1 h2 h3 ih =>
    refine .vs c (hC ▸ h0) h1 (fun j a ha => ?_) (fun j a ha => ?_)
    · rw [hC] at ha; exact ih j a ha (by rw [taint_ids]; exact (h3 j a ha).1)
    · rw [hC] at ha; exact ⟨(h3 j a ha).1, (h3 j a ha).2.1, (h3 j a ha).2.2.mono hf ho⟩
  | vs0 h0 h => exact .vs0 (hC ▸ h0) h
  | vptr h1 h2 h3 ih => exact .vptr (ih (by rw [taint_ids]; exact h2)) h2 (h3.mono hf ho)
  | mw => simp [AV.ids] at hn
  | ms => simp [AV.ids] at hn
  | ms0 => simp [AV.ids] at hn
  | ptr => simp [AV.ids] at hn
  | nilp => exact .nilp
  | nilf => exact .nilf
  | nili => exact .nili
  | fn hl _ ih => exact .fn hl fun j a v ha hv => ih j a v ha hv (idss_nil (by simpa [AV.ids] using hn) ha)
  | ifc h h1 h2 ih => exact .ifc (ih (by simpa [AV.ids] using hn)) h1 h2
  | errb => exact .errb

/-- What was told under one set of names, told under another one. -/
theorem R.ren {X Y : Cx CT} {m : List (Nat × Nat)} (E : Emb X Y m) {a : AV CT} {c : List Value} (h : R X a c) : R Y (a.ren m) c := by
  induction h with
  | junk hs => exact .junk hs
  | bool => exact .bool
  | int h1 h2 => exact .int h1 h2
  | flt => exact .flt
  | cpx => exact .cpx
  | str h => exact .str h
  | agg hl _ ih =>
    simp only [AV.ren]
    refine .agg (by rw [rens_len]; exact hl) fun j a c ha hc => ?_
    rw [rens_get, Option.map_eq_some_iff] at ha
    obtain ⟨a, ha, rfl⟩ := ha
    exact ih j a c ha hc
  | @arr n l css h0 h1 h2 h3 h4 ih =>
    cases l with
    | gen s l =>
      simp only [AV.ren]
      refine .arr (by trivial) (by simp only [LS.len] at h1 ⊢; rw [rens_len]; exact h1) h2 (fun j a c ha hc => ?_) h4
      simp only [LS.get?, rens_get, Option.map_eq_some_iff] at ha
      obtain ⟨a, ha, rfl⟩ := ha
      exact ih j a c ha hc
    | _ => exact R.noids E.C E.fz E.ot (.arr h0 h1 h2 h3 h4) rfl
  | @lst l css h0 h2 h3 h4 ih =>
    cases l with
    | gen s l =>
      simp only [AV.ren]
      refine .lst (by trivial) (by simp only [LS.len] at h2 ⊢; rw [rens_len]; exact h2) (fun j a c ha hc => ?_) h4
      simp only [LS.get?, rens_get, Option.map_eq_some_iff] at ha
      obtain ⟨a, ha, rfl⟩ := ha
      exact ih j a c ha hc
    | _ => exact R.noids E.C E.fz E.ot (.lst h0 h2 h3 h4) rfl
  | vnil h => exact .vnil (E.C ▸ h)
  | vs c h0 h1 h2 h3 _ => exact R.noids E.C E.fz E.ot (.vs c h0 h1 h2 h3) rfl
  | vs0 h0 h => exact .vs0 (E.C ▸ h0) h
  | vptr h1 h2 h3 _ => exact R.noids E.C E.fz E.ot (.vptr h1 h2 h3) rfl
  | @mw id k v h0 h1 h2 h3 =>
    simp only [AV.ren]
    split
    · rename_i j hj
      have := E.ids _ _ hj h1
      exact .mw (E.C ▸ h0) this.1 h2 fun o ho => h3 o (this.2 o ho)
    · exact .junk h2
  | @ms id p k off len cap b capc h0 h1 h2 h4 h3 =>
    simp only [AV.ren]
    split
    · rename_i j hj
      have := E.ids _ _ hj h1
      exact .ms (E.C ▸ h0) this.1 h2 h4 fun o ho => h3 o (this.2 o ho)
    · exact .junk trivial
  | @ms0 id p k off capc a h0 h1 =>
    simp only [AV.ren]
    split
    · rename_i j hj
      exact .ms0 (E.C ▸ h0) (E.ids _ _ hj h1).1
    · exact .junk trivial
  | @ptr id p b h1 h3 =>
    simp only [AV.ren]
    split
    · rename_i j hj
      have := E.ids _ _ hj h1
      exact .ptr this.1 fun o ho => h3 o (this.2 o ho)
    · exact .junk trivial
  | nilp => exact .nilp
  | nilf => exact .nilf
  | nili => exact .nili
  | fn hl _ ih =>
    simp only [AV.ren]
    refine .fn (by rw [rens_len]; exact hl) fun j a v ha hv => ?_
    rw [rens_get, Option.map_eq_some_iff] at ha
    obtain ⟨a, ha, rfl⟩ := ha
    exact ih j a v ha hv
  | ifc h h1 h2 ih => simp only [AV.ren]; exact .ifc ih (by simpa using h1) (by simpa using h2)
  | errb => exact .errb

mutual
theorem taint_false : ∀ a : AV CT, a.taint false = a
  | .agg s fs => by simp only [AV.taint]; rw [taints_false fs]
  | .arr n (.gen s l) => by simp only [AV.taint]; rw [taints_false l]
  | .arr n (.typ ..) | .arr n (.u8 _) | .arr n (.int ..) | .arr n (.str _) => rfl
  | .ifc t x => by simp only [AV.taint]; rw [taint_false x]
  | .fn f l => by simp only [AV.taint]; rw [taints_false l]
  | .tup l => by simp only [AV.taint]; rw [taints_false l]
  | .vs l _ | .vptr l _ => by simp [AV.taint]
  | .junk | .und | .bool _ | .int .. | .flt .. | .cpx .. | .str _ | .lst _ | .vnil _ | .mw .. | .ms .. | .ptr .. | .nilp | .nilf | .nili | .errb _ => rfl
theorem taints_false : ∀ l : List (AV CT), taints false l = l
  | [] => rfl
  | a :: l => by simp only [taints]; rw [taint_false a, taints_false l]
end
mutual
theorem taint_taint (b b' : Bool) : ∀ a : AV CT, (a.taint b).taint b' = a.taint (b || b')
  | .agg s fs => by simp only [AV.taint]; rw [taints_taints b b' fs]
  | .arr n (.gen s l) => by simp only [AV.taint]; rw [taints_taints b b' l]
  | .arr n (.typ ..) | .arr n (.u8 _) | .arr n (.int ..) | .arr n (.str _) => rfl
  | .ifc t x => by simp only [AV.taint]; rw [taint_taint b b' x]
  | .fn f l => by simp only [AV.taint]; rw [taints_taints b b' l]
  | .tup l => by simp only [AV.taint]; rw [taints_taints b b' l]
  | .vs l _ | .vptr l _ => by simp [AV.taint, Bool.or_assoc]
  | .junk | .und | .bool _ | .int .. | .flt .. | .cpx .. | .str _ | .lst _ | .vnil _ | .mw .. | .ms .. | .ptr .. | .nilp | .nilf | .nili | .errb _ => rfl
theorem taints_taints (b b' : Bool) : ∀ l : List (AV CT), taints b' (taints b l) = taints (b || b') l
  | [] => rfl
  | a :: l => by simp only [taints]; rw [taint_taint b b' a, taints_taints b b' l]
end

/-- A mark more says less. -/
theorem R.taint {X : Cx CT} (b : Bool) {a : AV CT} {c : List Value} (h : R X a c) : R X (a.taint b) c := by
  induction h with
  | junk hs => exact .junk hs
  | bool => exact .bool
  | int h1 h2 => exact .int h1 h2
  | flt => exact .flt
  | cpx => exact .cpx
  | str h => exact .str h
  | agg hl _ ih =>
    simp only [AV.taint]
    refine .agg (by rw [taints_len]; exact hl) fun j a c ha hc => ?_
    rw [taints_get, Option.map_eq_some_iff] at ha
    obtain ⟨a, ha, rfl⟩ := ha
    exact ih j a c ha hc
  | @arr n l css h0 h1 h2 h3 h4 ih =>
    cases l with
    | gen s l =>
      simp only [AV.taint]
      refine .arr (by trivial) (by simp only [LS.len] at h1 ⊢; rw [taints_len]; exact h1) h2 (fun j a c ha hc => ?_) h4
      simp only [LS.get?, taints_get, Option.map_eq_some_iff] at ha
      obtain ⟨a, ha, rfl⟩ := ha
      exact ih j a c ha hc
    | _ => exact .arr h0 h1 h2 h3 h4
  | lst h0 h2 h3 h4 => exact .lst h0 h2 h3 h4
  | vnil h => exact .vnil h
  | vs c h0 h1 h2 h3 ih =>
    simp only [AV.taint]
    refine .vs c h0 h1 (fun j a ha => ?_) (fun j a ha => ⟨(h3 j a ha).1, (h3 j a ha).2.1, (h3 j a ha).2.2.lend⟩)
    rw [← taint_taint]; exact ih j a ha
  | vs0 h0 h => exact .vs0 h0 h
  | vptr h1 h2 h3 ih => simp only [AV.taint]; exact .vptr (by rw [← taint_taint]; exact ih) h2 h3.lend
  | mw h0 h1 h2 h3 => exact .mw h0 h1 h2 h3
  | ms h0 h1 h2 h4 h3 => exact .ms h0 h1 h2 h4 h3
  | ms0 h0 h1 => exact .ms0 h0 h1
  | ptr h1 h3 => exact .ptr h1 h3
  | nilp => exact .nilp
  | nilf => exact .nilf
  | nili => exact .nili
  | fn hl _ ih =>
    simp only [AV.taint]
    refine .fn (by rw [taints_len]; exact hl) fun j a v ha hv => ?_
    rw [taints_get, Option.map_eq_some_iff] at ha
    obtain ⟨a, ha, rfl⟩ := ha
    exact ih j a v ha hv
  | ifc h h1 h2 ih => simp only [AV.taint]; exact .ifc ih (by simpa using h1) (by simpa using h2)
  | errb => exact .errb

theorem nil_len {k : LK} {α : Type} : (k.nil : LS CT α).len = 0 := by cases k <;> rfl
theorem nil_ok (C : Cod CT) {k : LK} (h : k.Ok C) : (k.nil : LS CT (AV CT)).Ok C := by cases k <;> first | trivial | exact h
/-- A nil slice reads as an empty one. -/
theorem R.unnil {X : Cx CT} {a : AV CT} {c : List Value} (h : R X a c) : R X a.unnil c := by
  induction h with
  | agg hl _ ih =>
    simp only [AV.unnil]
    refine .agg (by rw [unnils_len]; exact hl) fun j a c ha hc => ?_
    rw [unnils_get, Option.map_eq_some_iff] at ha
    obtain ⟨a, ha, rfl⟩ := ha
    exact ih j a c ha hc
  | vnil h => exact .vs0 (nil_ok _ h) nil_len
  | junk hs => exact .junk hs
  | bool => exact .bool
  | int h1 h2 => exact .int h1 h2
  | flt => exact .flt
  | cpx => exact .cpx
  | str h => exact .str h
  | arr h0 h1 h2 h3 h4 => exact .arr h0 h1 h2 h3 h4
  | lst h0 h2 h3 h4 => exact .lst h0 h2 h3 h4
  | vs c h0 h1 h2 h3 => exact .vs c h0 h1 h2 h3
  | vs0 h0 h => exact .vs0 h0 h
  | vptr h1 h2 h3 => exact .vptr h1 h2 h3
  | mw h0 h1 h2 h3 => exact .mw h0 h1 h2 h3
  | ms h0 h1 h2 h4 h3 => exact .ms h0 h1 h2 h4 h3
  | ms0 h0 h1 => exact .ms0 h0 h1
  | ptr h1 h3 => exact .ptr h1 h3
  | nilp => exact .nilp
  | nilf => exact .nilf
  | nili => exact .nili
  | fn hl h => exact .fn hl h
  | ifc h h1 h2 => exact .ifc h h1 h2
  | errb => exact .errb

/-- Marks that are taken off, with one around, say no more than they did. -/
theorem R.unlent {X : Cx CT} {a : AV CT} {c : List Value} (h : R X a c) : R X (a.unlent.taint true) c := by
  induction h with
  | agg hl _ ih =>
    simp only [AV.unlent, AV.taint]
    refine .agg (by rw [taints_len, unlents_len]; exact hl) fun j a c ha hc => ?_
    rw [taints_get, unlents_get, Option.map_map, Option.map_eq_some_iff] at ha
    obtain ⟨a, ha, rfl⟩ := ha
    exact ih j a c ha hc
  | @arr n l css h0 h1 h2 h3 h4 ih =>
    cases l with
    | gen s l =>
      simp only [AV.unlent, AV.taint]
      refine .arr (by trivial) (by simp only [LS.len] at h1 ⊢; rw [taints_len, unlents_len]; exact h1) h2 (fun j a c ha hc => ?_) h4
      simp only [LS.get?] at ha
      rw [taints_get, unlents_get, Option.map_map, Option.map_eq_some_iff] at ha
      obtain ⟨a, ha, rfl⟩ := ha
      exact ih j a c ha hc
    | _ => exact .arr h0 h1 h2 h3 h4
  | vs c h0 h1 h2 h3 =>
    simp only [AV.unlent, AV.taint]
    refine .vs c h0 h1 (fun j a ha => ?_) (fun j a ha => ⟨(h3 j a ha).1, (h3 j a ha).2.1, ?_⟩)
    · have := (h2 j a ha).taint true; rw [taint_taint] at this; simpa using this
    · have := (h3 j a ha).2.2.lend (b' := true); simpa using this
  | vs0 h0 h => exact .vs0 h0 h
  | vnil h => exact .vnil h
  | junk hs => exact .junk hs
  | bool => exact .bool
  | int h1 h2 => exact .int h1 h2
  | flt => exact .flt
  | cpx => exact .cpx
  | str h => exact .str h
  | lst h0 h2 h3 h4 => exact .lst h0 h2 h3 h4
  | vptr h1 h2 h3 => exact R.taint true (.vptr h1 h2 h3)
  | mw h0 h1 h2 h3 => exact .mw h0 h1 h2 h3
  | ms h0 h1 h2 h4 h3 => exact .ms h0 h1 h2 h4 h3
  | ms0 h0 h1 => exact .ms0 h0 h1
  | ptr h1 h3 => exact .ptr h1 h3
  | nilp => exact .nilp
  | nilf => exact .nilf
  | nili => exact .nili
  | fn hl h => exact R.taint true (.fn hl h)
  | ifc h h1 h2 => exact R.taint true (.ifc h h1 h2)
  | errb => exact .errb

theorem cleans_get {l : List (AV CT)} (h : cleans l = true) {j : Nat} {a : AV CT} (ha : l[j]? = some a) : a.clean = true := by
  induction l generalizing j with
  | nil => simp at ha
  | cons b l ih =>
    simp only [cleans, Bool.and_eq_true] at h
    cases j with
    | zero => simp at ha; exact ha ▸ h.1
    | succ j => exact ih h.2 (by simpa using ha)
theorem plain_get (C : Cod CT) {l : LS CT (AV CT)} (h : l.plain = true) {j : Nat} {a : AV CT} (ha : l.get? C j = some a) : a.clean = true ∧ a.ids = [] := by
  cases l with
  | gen s x => cases h
  | typ c s sc x =>
    simp only [LS.get?, Option.map_eq_some_iff] at ha
    obtain ⟨x, _, rfl⟩ := ha; exact ⟨C.clean_ok _ _, C.ids_ok _ _⟩
  | _ =>
    simp only [LS.get?, Option.map_eq_some_iff] at ha
    obtain ⟨x, _, rfl⟩ := ha; exact ⟨rfl, rfl⟩

theorem Stable.own {X Y : Cx CT} {b off : Nat} {c : List Value} (hf : ∀ b cs, X.fz b = some cs → Y.fz b = some cs) (h : Stable X false b off c) : Stable Y false b off c := by
  obtain ⟨cs, h1, h2⟩ := h
  exact ⟨cs, h1.imp (hf _ _) (fun h => by simp at h), h2⟩
mutual
theorem ren_noids (m : List (Nat × Nat)) : ∀ a : AV CT, a.ids = [] → a.ren m = a
  | .agg s fs, h => by simp only [AV.ren]; rw [rens_noids m fs (by simpa [AV.ids] using h)]
  | .arr n (.gen s l), h => by simp only [AV.ren]; rw [rens_noids m l (by simpa [AV.ids] using h)]
  | .lst (.gen s l), h => by simp only [AV.ren]; rw [rens_noids m l (by simpa [AV.ids] using h)]
  | .arr n (.typ ..), _ | .arr n (.u8 _), _ | .arr n (.int ..), _ | .arr n (.str _), _ => rfl
  | .lst (.typ ..), _ | .lst (.u8 _), _ | .lst (.int ..), _ | .lst (.str _), _ => rfl
  | .ifc t x, h => by simp only [AV.ren]; rw [ren_noids m x (by simpa [AV.ids] using h)]
  | .fn f l, h => by simp only [AV.ren]; rw [rens_noids m l (by simpa [AV.ids] using h)]
  | .tup l, h => by simp only [AV.ren]; rw [rens_noids m l (by simpa [AV.ids] using h)]
  | .mw .., h | .ms .., h | .ptr .., h => by simp [AV.ids] at h
  | .vs .., _ | .vptr .., _ | .junk, _ | .und, _ | .bool _, _ | .int .., _ | .flt .., _ | .cpx .., _ | .str _, _ | .vnil _, _ | .nilp, _ | .nilf, _ | .nili, _ | .errb _, _ => rfl
theorem rens_noids (m : List (Nat × Nat)) : ∀ l : List (AV CT), idss l = [] → rens m l = l
  | [], _ => rfl
  | a :: l, h => by
    simp only [idss, List.append_eq_nil_iff] at h
    simp only [rens]; rw [ren_noids m a h.1, rens_noids m l h.2]
end
/-- What is clean asks for what is frozen alone. -/
structure EmbC (X Y : Cx CT) (m : List (Nat × Nat)) : Prop where
  C : Y.C = X.C
  fz : ∀ b cs, X.fz b = some cs → Y.fz b = some cs
  ids : ∀ i j, assoc m i = some j → X.us i → Y.us j ∧ ∀ o, Y.loc j = some o → X.loc i = some o
theorem R.renC {X Y : Cx CT} {m : List (Nat × Nat)} (E : EmbC X Y m) {a : AV CT} {c : List Value} (h : R X a c) (hc : a.clean = true) : R Y (a.ren m) c := by
  induction h with
  | junk hs => cases hc
  | bool => exact .bool
  | int h1 h2 => exact .int h1 h2
  | flt => exact .flt
  | cpx => exact .cpx
  | str h => exact .str h
  | agg hl _ ih =>
    simp only [AV.ren]
    refine .agg (by rw [rens_len]; exact hl) fun j a c ha hc' => ?_
    rw [rens_get, Option.map_eq_some_iff] at ha
    obtain ⟨a, ha, rfl⟩ := ha
    exact ih j a c ha hc' (cleans_get (by simpa [AV.clean] using hc) ha)
  | @arr n l css h0 h1 h2 h3 h4 ih =>
    have key : ∀ (j : Nat) (a : AV CT), l.get? X.C j = some a → a.clean = true := by
      intro j a ha
      cases l with
      | gen s x => exact cleans_get (by simpa [AV.clean] using hc) ha
      | _ => exact (plain_get X.C rfl ha).1
    cases l with
    | gen s l =>
      simp only [AV.ren]
      refine .arr (by trivial) (by simp only [LS.len] at h1 ⊢; rw [rens_len]; exact h1) h2 (fun j a c ha hc => ?_) h4
      simp only [LS.get?, rens_get, Option.map_eq_some_iff] at ha
      obtain ⟨a, ha, rfl⟩ := ha
      exact ih j a c ha hc (key j a ha)
    | _ =>
      refine .arr (E.C ▸ h0) h1 h2 (fun j a c ha hc => ?_) h4
      rw [E.C] at ha
      have := ih j a c ha hc (key j a ha)
      rwa [ren_noids _ a (plain_get X.C rfl ha).2] at this
  | @lst l css h0 h2 h3 h4 ih =>
    have key : ∀ (j : Nat) (a : AV CT), l.get? X.C j = some a → a.clean = true := by
      intro j a ha
      cases l with
      | gen s x => exact cleans_get (by simpa [AV.clean] using hc) ha
      | _ => exact (plain_get X.C rfl ha).1
    cases l with
    | gen s l =>
      simp only [AV.ren]
      refine .lst (by trivial) (by simp only [LS.len] at h2 ⊢; rw [rens_len]; exact h2) (fun j a c ha hc => ?_) h4
      simp only [LS.get?, rens_get, Option.map_eq_some_iff] at ha
      obtain ⟨a, ha, rfl⟩ := ha
      exact ih j a c ha hc (key j a ha)
    | _ =>
      refine .lst (E.C ▸ h0) h2 (fun j a c ha hc => ?_) h4
      rw [E.C] at ha
      have := ih j a c ha hc (key j a ha)
      rwa [ren_noids _ a (plain_get X.C rfl ha).2] at this
  | vnil h => exact .vnil (E.C ▸ h)
  | @vs lent l b off cap c h0 h1 h2 h3 ih =>
    simp only [AV.clean, Bool.and_eq_true, Bool.not_eq_true'] at hc
    obtain ⟨rfl, hp⟩ := hc
    simp only [AV.ren]
    refine .vs c (E.C ▸ h0) h1 (fun j a ha => ?_) (fun j a ha => ?_)
    · rw [E.C] at ha
      have hg := plain_get X.C hp ha
      have := ih j a ha (by rw [taint_false]; exact hg.1)
      rw [taint_false] at this ⊢
      rwa [ren_noids _ a hg.2] at this
    · rw [E.C] at ha
      exact ⟨(h3 j a ha).1, (h3 j a ha).2.1, (h3 j a ha).2.2.own E.fz⟩
  | vs0 h0 h => exact .vs0 (E.C ▸ h0) h
  | vptr _ _ _ => simp [AV.clean] at hc
  | @mw id k v h0 h1 h2 h3 =>
    simp only [AV.ren]
    split
    · rename_i j hj
      have := E.ids _ _ hj h1
      exact .mw (E.C ▸ h0) this.1 h2 fun o ho => h3 o (this.2 o ho)
    · exact .junk h2
  | @ms id p k off len cap b capc h0 h1 h2 h4 h3 =>
    simp only [AV.ren]
    split
    · rename_i j hj
      have := E.ids _ _ hj h1
      exact .ms (E.C ▸ h0) this.1 h2 h4 fun o ho => h3 o (this.2 o ho)
    · exact .junk trivial
  | @ms0 id p k off capc a h0 h1 =>
    simp only [AV.ren]
    split
    · rename_i j hj
      exact .ms0 (E.C ▸ h0) (E.ids _ _ hj h1).1
    · exact .junk trivial
  | @ptr id p b h1 h3 =>
    simp only [AV.ren]
    split
    · rename_i j hj
      have := E.ids _ _ hj h1
      exact .ptr this.1 fun o ho => h3 o (this.2 o ho)
    · exact .junk trivial
  | nilp => exact .nilp
  | nilf => exact .nilf
  | nili => exact .nili
  | fn hl _ ih =>
    simp only [AV.ren]
    refine .fn (by rw [rens_len]; exact hl) fun j a v ha hv => ?_
    rw [rens_get, Option.map_eq_some_iff] at ha
    obtain ⟨a, ha, rfl⟩ := ha
    exact ih j a v ha hv (cleans_get (by simpa [AV.clean] using hc) ha)
  | ifc h h1 h2 ih => simp only [AV.ren]; exact .ifc (ih (by simpa [AV.clean] using hc)) (by simpa using h1) (by simpa using h2)
  | errb => exact .errb

/-! ### Parts of values -/
theorem set_split {α : Type} (css : List (List α)) (j : Nat) (c c' : List α) (h : css[j]? = some c) :
    css.flatten = (css.take j).flatten ++ (c ++ (css.drop (j + 1)).flatten) ∧ (css.set j c').flatten = (css.take j).flatten ++ (c' ++ (css.drop (j + 1)).flatten) := by
  induction css generalizing j with
  | nil => simp at h
  | cons d l ih =>
    cases j with
    | zero => simp at h; subst h; simp
    | succ j =>
      have := ih j (by simpa using h)
      simp only [List.flatten_cons, List.set_cons_succ, List.take_succ_cons, List.drop_succ_cons, List.append_assoc]
      exact ⟨by rw [this.1], by rw [this.2]⟩

/-- Where a child begins. -/
theorem off_agg {X : Cx CT} {fs : List (AV CT)} {css : List (List Value)} (hl : fs.length = css.length)
    (h : ∀ (j : Nat) (a : AV CT) (c : List Value), fs[j]? = some a → css[j]? = some c → R X a c) (j : Nat) (hj : j ≤ fs.length) : (css.take j).flatten.length = offOf fs j := by
  induction fs generalizing css j with
  | nil => obtain rfl : j = 0 := by simpa using hj
           rfl
  | cons a fs ih =>
    cases css with
    | nil => simp at hl
    | cons c css =>
      cases j with
      | zero => rfl
      | succ j =>
        simp only [List.take_succ_cons, List.flatten_cons, List.length_append, offOf]
        rw [ih (by simpa using hl) (fun j a c ha hc => h (j + 1) a c (by simpa using ha) (by simpa using hc)) j (by simpa using hj)]
        rw [(h 0 a c (by simp) (by simp)).size]
theorem off_arr {α : Type} {s : Nat} {css : List (List α)} (h : ∀ c ∈ css, c.length = s) (j : Nat) (hj : j ≤ css.length) : (css.take j).flatten.length = s * j := by
  rw [flatten_len s _ (fun c hc => h c (List.mem_of_mem_take hc)), List.length_take, Nat.min_eq_left hj, Nat.mul_comm]

inductive GetR (C : Cod CT) : List Step → AV CT → AV CT → Prop
  | nil {a : AV CT} : GetR C [] a a
  | fld {off j s : Nat} {p : List Step} {fs : List (AV CT)} {b c : AV CT} : offOf fs j = off → fs[j]? = some b → GetR C p b c → GetR C (.fld off j :: p) (.agg s fs) c
  | arr {s i n : Nat} {p : List Step} {l : LS CT (AV CT)} {b c : AV CT} : l.sz = s → l.get? C i = some b → GetR C p b c → GetR C (.idx s i :: p) (.arr n l) c
  | lst {s i : Nat} {p : List Step} {l : LS CT (AV CT)} {b c : AV CT} : l.sz = s → l.get? C i = some b → GetR C p b c → GetR C (.idx s i :: p) (.lst l) c

theorem get_lt (C : Cod CT) {l : LS CT (AV CT)} {i : Nat} {b : AV CT} (h : l.get? C i = some b) : i < l.len := by
  cases l with
  | gen s x => exact (List.getElem?_eq_some_iff.1 h).1
  | _ =>
    simp only [LS.get?, Option.map_eq_some_iff] at h
    obtain ⟨x, hx, _⟩ := h; exact (List.getElem?_eq_some_iff.1 hx).1

theorem GetR.spec {X : Cx CT} {p : List Step} {a b : AV CT} (g : GetR X.C p a b) : ∀ {cs : List Value}, R X a cs →
    ∃ c A B, R X b c ∧ cs = A ++ (c ++ B) ∧ A.length = pathOff p := by
  induction g with
  | nil => intro cs h; exact ⟨cs, [], [], h, by simp, rfl⟩
  | @fld off j s p fs b c ho hb _ ih =>
    intro cs h
    cases h with
    | @agg _ css hl hR =>
      obtain ⟨d, hd⟩ : ∃ d, css[j]? = some d := by
        have := (List.getElem?_eq_some_iff.1 hb).1
        exact ⟨css[j]'(by omega), List.getElem?_eq_getElem (by omega)⟩
      obtain ⟨c', A, B, h1, h2, h3⟩ := ih (hR j b d hb hd)
      refine ⟨c', (css.take j).flatten ++ A, B ++ (css.drop (j + 1)).flatten, h1, ?_, ?_⟩
      · rw [(set_split css j d d hd).1, h2]; simp
      · have := (List.getElem?_eq_some_iff.1 hb).1
        rw [List.length_append, off_agg hl hR j (by omega), ho, h3]; rfl
  | @arr s i n p l b c hs hb _ ih =>
    intro cs h
    cases h with
    | @arr _ _ css h0 h1 h2 hR h4 =>
      have hlt := get_lt _ hb
      obtain ⟨d, hd⟩ : ∃ d, css[i]? = some d := ⟨css[i]'(by omega), List.getElem?_eq_getElem (by omega)⟩
      obtain ⟨c', A, B, h1', h2', h3'⟩ := ih (hR i b d hb hd)
      refine ⟨c', (css.take i).flatten ++ A, B ++ (css.drop (i + 1)).flatten, h1', ?_, ?_⟩
      · rw [(set_split css i d d hd).1, h2']; simp
      · rw [List.length_append, off_arr h4 i (by omega), hs, h3']; rfl
  | @lst s i p l b c hs hb _ ih =>
    intro cs h
    cases h with
    | @lst _ css h0 h2 hR h4 =>
      have hlt := get_lt _ hb
      obtain ⟨d, hd⟩ : ∃ d, css[i]? = some d := ⟨css[i]'(by omega), List.getElem?_eq_getElem (by omega)⟩
      obtain ⟨c', A, B, h1', h2', h3'⟩ := ih (hR i b d hb hd)
      refine ⟨c', (css.take i).flatten ++ A, B ++ (css.drop (i + 1)).flatten, h1', ?_, ?_⟩
      · rw [(set_split css i d d hd).1, h2']; simp
      · rw [List.length_append, off_arr h4 i (by omega), hs, h3']; rfl

/-- A value into a list. -/
inductive SetL (C : Cod CT) : LS CT (AV CT) → Nat → AV CT → LS CT (AV CT) → Prop
  | u8 {l : List UInt8} {i : Nat} {n : Int} : SetL C (.u8 l) i (.int .u8 n) (.u8 (l.set i (UInt8.ofNat n.toNat)))
  | int {k : IntKind} {l : List Int} {i : Nat} {n : Int} : SetL C (.int k l) i (.int k n) (.int k (l.set i n))
  | str {l : List (List UInt8)} {i : Nat} {s : List UInt8} : SetL C (.str l) i (.str s) (.str (l.set i s))
  | typ {c s i : Nat} {sc : Bool} {l : List (CT c)} {v : AV CT} {x : CT c} : C.dec c v.unnil = some x → SetL C (.typ c s sc l) i v (.typ c s sc (l.set i x))
  | gen {s i : Nat} {l : List (AV CT)} {v : AV CT} : v.isCell = true → v.size = s → SetL C (.gen s l) i v (.gen s (l.set i v))
theorem SetL.len {C : Cod CT} {l l' : LS CT (AV CT)} {i : Nat} {v : AV CT} (h : SetL C l i v l') : l'.len = l.len ∧ l'.sz = l.sz ∧ (l.Ok C → l'.Ok C) := by
  cases h <;> simp [LS.len, LS.sz, LS.Ok]
theorem u8_back {n : Int} (h1 : IntKind.min .u8 ≤ n) (h2 : n ≤ IntKind.max .u8) : ((UInt8.ofNat n.toNat).toNat : Int) = n := by
  have h1' : 0 ≤ n := h1
  have h2' : n ≤ 255 := h2
  simp only [UInt8.toNat_ofNat']
  omega
/-- What a list is behind it. -/
theorem SetL.get {X : Cx CT} {l l' : LS CT (AV CT)} {i : Nat} {v : AV CT} (h : SetL X.C l i v l') {vc : List Value} (hv : R X v vc) {j : Nat} {a : AV CT}
    (ha : l'.get? X.C j = some a) : (j = i ∧ R X a vc) ∨ (j ≠ i ∧ l.get? X.C j = some a) := by
  by_cases hj : j = i
  · subst hj
    left; refine ⟨rfl, ?_⟩
    cases h with
    | u8 =>
      simp only [LS.get?, List.getElem?_set, if_true] at ha
      split at ha
      · cases hv with
        | int h1 h2 =>
          simp only [Option.map_some, Option.some.injEq] at ha
          subst ha; rw [u8_back h1 h2]; exact .int h1 h2
      · simp at ha
    | int =>
      simp only [LS.get?, List.getElem?_set, if_true] at ha
      split at ha
      · simp only [Option.map_some, Option.some.injEq] at ha; exact ha ▸ hv
      · simp at ha
    | str =>
      simp only [LS.get?, List.getElem?_set, if_true] at ha
      split at ha
      · simp only [Option.map_some, Option.some.injEq] at ha; exact ha ▸ hv
      · simp at ha
    | typ hd =>
      simp only [LS.get?, List.getElem?_set, if_true] at ha
      split at ha
      · simp only [Option.map_some, Option.some.injEq] at ha
        subst ha; rw [X.C.dec_ok _ _ _ hd]; exact hv.unnil
      · simp at ha
    | gen =>
      simp only [LS.get?, List.getElem?_set, if_true] at ha
      split at ha
      · simp only [Option.some.injEq] at ha; exact ha ▸ hv
      · simp at ha
  · right; refine ⟨hj, ?_⟩
    cases h <;> simpa [LS.get?, List.getElem?_set, Ne.symm hj] using ha
/-- A value that goes in has an element's size. -/
theorem SetL.size {X : Cx CT} {l l' : LS CT (AV CT)} {i : Nat} {v : AV CT} (h : SetL X.C l i v l') (ho : l.Ok X.C) {vc : List Value} (hv : R X v vc) : vc.length = l.sz := by
  cases h with
  | u8 => exact hv.size
  | int => exact hv.size
  | str => exact hv.size
  | typ hd =>
    have := hv.unnil.size
    rw [this, ← X.C.dec_ok _ _ _ hd, X.C.size_ok]; exact ho.1.symm
  | gen _ hs => rw [hv.size, hs]; rfl

inductive SetR (C : Cod CT) : List Step → AV CT → AV CT → AV CT → Prop
  | nil {a v : AV CT} : sameForm v a = true → SetR C [] a v v
  | fld {off j s : Nat} {p : List Step} {fs : List (AV CT)} {b b' v : AV CT} : offOf fs j = off → fs[j]? = some b → SetR C p b v b' → SetR C (.fld off j :: p) (.agg s fs) v (.agg s (fs.set j b'))
  | arr {s i n : Nat} {p : List Step} {l l' : LS CT (AV CT)} {b b' v : AV CT} : l.sz = s → l.get? C i = some b → SetR C p b v b' → SetL C l i b' l' → SetR C (.idx s i :: p) (.arr n l) v (.arr n l')
  | lst {s i : Nat} {p : List Step} {l l' : LS CT (AV CT)} {b b' v : AV CT} : l.sz = s → l.get? C i = some b → SetR C p b v b' → SetL C l i b' l' → SetR C (.idx s i :: p) (.lst l) v (.lst l')

theorem SetR.spec {X : Cx CT} {p : List Step} {a v a' : AV CT} (g : SetR X.C p a v a') : ∀ {cs vc : List Value}, R X a cs → R X v vc →
    ∃ o A B, cs = A ++ (o ++ B) ∧ A.length = pathOff p ∧ o.length = vc.length ∧ R X a' (A ++ (vc ++ B)) := by
  induction g with
  | nil hs =>
    intro cs vc h hv
    simp only [sameForm, Bool.and_eq_true] at hs
    exact ⟨cs, [], [], by simp, rfl, by rw [h.size, hv.size, Nat.eq_of_beq_eq_true hs.2.1], by simpa using hv⟩
  | @fld off j s p fs b b' v ho hb _ ih =>
    intro cs vc h hv
    cases h with
    | @agg _ css hl hR =>
      have hlt := (List.getElem?_eq_some_iff.1 hb).1
      obtain ⟨d, hd⟩ : ∃ d, css[j]? = some d := ⟨css[j]'(by omega), List.getElem?_eq_getElem (by omega)⟩
      obtain ⟨o, A, B, h1, h2, h3, h4⟩ := ih (hR j b d hb hd) hv
      refine ⟨o, (css.take j).flatten ++ A, B ++ (css.drop (j + 1)).flatten, ?_, ?_, h3, ?_⟩
      · rw [(set_split css j d d hd).1, h1]; simp
      · rw [List.length_append, off_agg hl hR j (by omega), ho, h2]; rfl
      · have e := (set_split css j d (A ++ (vc ++ B)) hd)
        have e2 : (css.take j).flatten ++ A ++ (vc ++ (B ++ (css.drop (j + 1)).flatten)) = (css.set j (A ++ (vc ++ B))).flatten := by rw [e.2]; simp
        have e3 : css.flatten.length = (css.set j (A ++ (vc ++ B))).flatten.length := by
          rw [e.1, e.2, h1]; simp only [List.length_append]; omega
        rw [e2, e3]
        refine .agg (by simpa using hl) fun i a c ha hc => ?_
        by_cases hij : i = j
        · subst hij
          rw [List.getElem?_set_self (by omega)] at ha hc
          cases ha; cases hc; exact h4
        · rw [List.getElem?_set_ne (Ne.symm hij)] at ha hc
          exact hR i a c ha hc
  | @arr s i n p l l' b b' v hs hb _ hL ih =>
    intro cs vc h hv
    cases h with
    | @arr _ _ css h0 h1' h2' hR h4' =>
      have hlt := get_lt _ hb
      obtain ⟨d, hd⟩ : ∃ d, css[i]? = some d := ⟨css[i]'(by omega), List.getElem?_eq_getElem (by omega)⟩
      obtain ⟨o, A, B, h1, h2, h3, h4⟩ := ih (hR i b d hb hd) hv
      refine ⟨o, (css.take i).flatten ++ A, B ++ (css.drop (i + 1)).flatten, ?_, ?_, h3, ?_⟩
      · rw [(set_split css i d d hd).1, h1]; simp
      · rw [List.length_append, off_arr h4' i (by omega), hs, h2]; rfl
      · have e := (set_split css i d (A ++ (vc ++ B)) hd)
        have e2 : (css.take i).flatten ++ A ++ (vc ++ (B ++ (css.drop (i + 1)).flatten)) = (css.set i (A ++ (vc ++ B))).flatten := by rw [e.2]; simp
        rw [e2]
        refine .arr (hL.len.2.2 h0) (hL.len.1.trans h1') (by simpa using h2') (fun j a c ha hc => ?_) (fun c hc => ?_)
        · rcases hL.get h4 ha with ⟨rfl, hr⟩ | ⟨hne, hg⟩
          · rw [List.getElem?_set_self (by omega)] at hc
            cases hc; exact hr
          · rw [List.getElem?_set_ne (Ne.symm hne)] at hc
            exact hR j a c hg hc
        · rw [hL.len.2.1]
          rcases List.mem_or_eq_of_mem_set hc with hc | rfl
          · exact h4' c hc
          · exact hL.size h0 h4
  | @lst s i p l l' b b' v hs hb _ hL ih =>
    intro cs vc h hv
    cases h with
    | @lst _ css h0 h2' hR h4' =>
      have hlt := get_lt _ hb
      obtain ⟨d, hd⟩ : ∃ d, css[i]? = some d := ⟨css[i]'(by omega), List.getElem?_eq_getElem (by omega)⟩
      obtain ⟨o, A, B, h1, h2, h3, h4⟩ := ih (hR i b d hb hd) hv
      refine ⟨o, (css.take i).flatten ++ A, B ++ (css.drop (i + 1)).flatten, ?_, ?_, h3, ?_⟩
      · rw [(set_split css i d d hd).1, h1]; simp
      · rw [List.length_append, off_arr h4' i (by omega), hs, h2]; rfl
      · have e := (set_split css i d (A ++ (vc ++ B)) hd)
        have e2 : (css.take i).flatten ++ A ++ (vc ++ (B ++ (css.drop (i + 1)).flatten)) = (css.set i (A ++ (vc ++ B))).flatten := by rw [e.2]; simp
        rw [e2]
        refine .lst (hL.len.2.2 h0) (by rw [hL.len.1]; simpa using h2') (fun j a c ha hc => ?_) (fun c hc => ?_)
        · rcases hL.get h4 ha with ⟨rfl, hr⟩ | ⟨hne, hg⟩
          · rw [List.getElem?_set_self (by omega)] at hc
            cases hc; exact hr
          · rw [List.getElem?_set_ne (Ne.symm hne)] at hc
            exact hR j a c hg hc
        · rw [hL.len.2.1]
          rcases List.mem_or_eq_of_mem_set hc with hc | rfl
          · exact h4' c hc
          · exact hL.size h0 h4
end Go.Proofs.Ytjnkppjlhmkjaaa.Av
