/- The table of types against the program's; what an operation must come to ('Good'); the plain operations. -/
import Derived.Test.YtjnkppjlhmkjaaaAvMem
namespace Go.Proofs.Ytjnkppjlhmkjaaa.Av
open Go
variable {CT : Nat → Type}

def DescOk : Ty → TypeDesc → Prop
  | .bool, .bool => True
  | .int k, .int k' => k = k'
  | .flt k, .float k' => k = k'
  | .cpx k, .complex k' => k = k'
  | .str, .string => True
  | .ptr e, .pointer e' => e = e'
  | .slc e, .slice e' => e = e'
  | .arr n e, .array n' e' => n = n' ∧ e = e'
  | .strct fs, .struct gs => gs.toList.map (fun f => (f.type, f.offset)) = fs
  | .fn, .func _ _ _ => True
  | .ifc, .interface _ => True
  | .mp k e, .map k' e' => k = k' ∧ e = e'
  | _, _ => False
structure TabOk (P : Program) (T : TyTab CT) : Prop where
  ok : ∀ t, T.d t ≠ .bad → ∃ i u z, P.info? t = some i ∧ P.underlying t = some u ∧ DescOk (T.d t) u ∧ i.size = T.sz t ∧ i.bytes = T.bytes t ∧ i.zero = some z ∧
    (∀ X : Cx CT, X.C = T.C → RC X (T.zero t) z) ∧ (T.zero t).isLst = false ∧ (T.zero t).isCell = true ∧ z.cells.size = T.sz t
  one : ∀ t, T.d t ≠ .bad → (T.d t).isAgg = false → T.sz t = 1
  lk : ∀ t, T.d t ≠ .bad → (T.lk t).sz = T.sz t ∧ (T.lk t).Ok T.C
  fld : ∀ t fs, T.d t = .strct fs → ∀ f ∈ fs, T.d f.1 ≠ .bad ∧ T.sz f.1 ≠ 0
  elS : ∀ t e, T.d t = .slc e → T.d e ≠ .bad
  elA : ∀ t n e, T.d t = .arr n e → T.d e ≠ .bad ∧ n ≤ maxI
section
variable {P : Program} {T : TyTab CT} (H : TabOk P T) {t : Nat} (w : World)
include H
theorem TabOk.und {d : Ty} (h : T.d t = d) (hd : d ≠ .bad) : ∃ u, P.underlying t = some u ∧ DescOk d u := by
  obtain ⟨i, u, z, _, h2, h3, _⟩ := H.ok t (h ▸ hd); exact ⟨u, h2, h ▸ h3⟩
theorem TabOk.size (h : T.d t ≠ .bad) : (sizeOf t).run P w = .ok (T.sz t) w := by
  obtain ⟨i, u, z, h1, _, _, h4, _⟩ := H.ok t h; simp [sizeOf, typeInfo, h1, h4]
theorem TabOk.info (h : T.d t ≠ .bad) : ∃ i, P.info? t = some i ∧ i.size = T.sz t ∧ i.bytes = T.bytes t := by
  obtain ⟨i, u, z, h1, _, _, h4, h5, _⟩ := H.ok t h; exact ⟨i, h1, h4, h5⟩
theorem TabOk.zero (h : T.d t ≠ .bad) : ∃ z, (zeroValue t).run P w = .ok z w ∧ (∀ X : Cx CT, X.C = T.C → RC X (T.zero t) z) ∧ (T.zero t).isLst = false ∧ (T.zero t).isCell = true ∧ z.cells.size = T.sz t := by
  obtain ⟨i, u, z, h1, _, _, _, _, h5, h6, h7, h8, h9⟩ := H.ok t h; exact ⟨z, by simp [zeroValue, typeInfo, h1, h5], h6, h7, h8, h9⟩
theorem TabOk.agg (h : T.d t ≠ .bad) : (isAgg t).run P w = .ok (T.d t).isAgg w := by
  obtain ⟨i, u, z, h1, h2, h3, _⟩ := H.ok t h
  simp only [isAgg, Sem.run_bind, run_underlying h2, Result.andThen_ok]
  cases hd : T.d t <;> rw [hd] at h3 <;> cases u <;> simp [DescOk, Ty.isAgg] at h3 ⊢
theorem TabOk.slc {e : Nat} (h : T.d t = .slc e) : P.underlying t = some (.slice e) := by
  obtain ⟨u, h1, h2⟩ := H.und h (by simp)
  cases u <;> simp [DescOk] at h2; subst h2; exact h1
theorem TabOk.arr {n e : Nat} (h : T.d t = .arr n e) : P.underlying t = some (.array n e) := by
  obtain ⟨u, h1, h2⟩ := H.und h (by simp)
  cases u <;> simp [DescOk] at h2; obtain ⟨rfl, rfl⟩ := h2; exact h1
theorem TabOk.ptr {e : Nat} (h : T.d t = .ptr e) : P.underlying t = some (.pointer e) := by
  obtain ⟨u, h1, h2⟩ := H.und h (by simp)
  cases u <;> simp [DescOk] at h2; subst h2; exact h1
theorem TabOk.str (h : T.d t = .str) : P.underlying t = some .string := by
  obtain ⟨u, h1, h2⟩ := H.und h (by simp)
  cases u <;> simp [DescOk] at h2; exact h1
theorem TabOk.bool (h : T.d t = .bool) : P.underlying t = some .bool := by
  obtain ⟨u, h1, h2⟩ := H.und h (by simp)
  cases u <;> simp [DescOk] at h2; exact h1
theorem TabOk.int {k : IntKind} (h : T.d t = .int k) : P.underlying t = some (.int k) := by
  obtain ⟨u, h1, h2⟩ := H.und h (by simp)
  cases u <;> simp [DescOk] at h2; subst h2; exact h1
theorem TabOk.flt {k : FloatKind} (h : T.d t = .flt k) : P.underlying t = some (.float k) := by
  obtain ⟨u, h1, h2⟩ := H.und h (by simp)
  cases u <;> simp [DescOk] at h2; subst h2; exact h1
theorem TabOk.cpx {k : FloatKind} (h : T.d t = .cpx k) : P.underlying t = some (.complex k) := by
  obtain ⟨u, h1, h2⟩ := H.und h (by simp)
  cases u <;> simp [DescOk] at h2; subst h2; exact h1
theorem TabOk.strct {fs : List (Nat × Nat)} (h : T.d t = .strct fs) : ∃ gs, P.underlying t = some (.struct gs) ∧ gs.toList.map (fun f => (f.type, f.offset)) = fs := by
  obtain ⟨u, h1, h2⟩ := H.und h (by simp)
  cases u <;> simp [DescOk] at h2; exact ⟨_, h1, h2⟩
end

/-! ### What an operation comes to -/
def Good (P : Program) (X0 X : Cx CT) (W w : World) (s : Sem Next) (v : AV CT) (ob' : Ob CT) : Prop :=
  ∃ u w' X', (s.run P w = .ok (.value u) w' ∨ (s.run P w = .ok .skip w' ∧ u = undef)) ∧ Le X X' ∧ Mem X0 W X' ob' w' ∧ RV X' v u
section
variable {P : Program} {X0 X : Cx CT} {W w : World} {ob : Ob CT}
theorem Good.pure (M : Mem X0 W X ob w) {v : AV CT} {u : Value} (h : RV X v u) : Good P X0 X W w (Pure.pure (.value u)) v ob :=
  ⟨u, w, X, .inl rfl, .refl X, M, h⟩
/-- Operations that compute alone. -/
theorem Good.of_run (M : Mem X0 W X ob w) {s : Sem Value} {v : AV CT} {u : Value} (hr : s.run P w = .ok u w) (h : RV X v u) : Good P X0 X W w (do Pure.pure (.value (← s))) v ob :=
  ⟨u, w, X, .inl (by simp [hr]), .refl X, M, h⟩
theorem Good.of_step {w' : World} {X' : Cx CT} {ob' : Ob CT} (E : Le X X') (M : Mem X0 W X' ob' w') {s : Sem Value} {v : AV CT} {u : Value} (hr : s.run P w = .ok u w') (h : RV X' v u) :
    Good P X0 X W w (do Pure.pure (.value (← s))) v ob' :=
  ⟨u, w', X', .inl (by simp [hr]), E, M, h⟩
end

/-! ### Values in slots -/
section
variable {X : Cx CT}
theorem RC.rv {a : AV CT} {v : Value} (h : RC X a v) : RV X a v := by
  unfold RV; split
  · trivial
  · exact (h.1.cellish.1 rfl).elim
  · exact (h.1.cellish.2 _ rfl).elim
  · exact h
theorem RV.rc {a : AV CT} {v : Value} (h : RV X a v) (hc : a.isCell = true) : RC X a v := by
  cases a <;> first | (simp [AV.isCell] at hc; done) | exact h
theorem R.rc1 {a : AV CT} {v : Value} (h : R X a [v]) (ha : a.isAgg = false) : RC X a v := by
  have hs : Sg v := h.sg v (by simp)
  exact ⟨by rw [cells_sg hs]; exact h, fun e => (by rw [ha] at e; cases e), fun _ => hs⟩
theorem RC.one {a : AV CT} {v : Value} (h : RC X a v) (ha : a.isAgg = false) : R X a [v] := by
  have := h.1; rwa [cells_sg (h.2.2 ha)] at this
theorem R.rca {a : AV CT} {c : List Value} (h : R X a c) (ha : a.isAgg = true) : RC X a (.agg c.toArray) :=
  ⟨by simpa [Value.cells] using h, fun _ => ⟨_, rfl⟩, fun e => by rw [ha] at e; cases e⟩
theorem RC.agg {a : AV CT} {v : Value} (h : RC X a v) (ha : a.isAgg = true) : ∃ cs : Array Value, v = .agg cs ∧ R X a cs.toList := by
  obtain ⟨cs, rfl⟩ := h.2.1 ha; exact ⟨cs, rfl, h.1⟩

theorem RV.bool {b : Bool} {v : Value} (h : RV X (.bool b) v) : v = .bool b := by
  have := RC.one (a := .bool b) h rfl; cases this; rfl
theorem RV.int {k : IntKind} {n : Int} {v : Value} (h : RV X (.int k n) v) : v = .int k n ∧ k.min ≤ n ∧ n ≤ k.max := by
  have := RC.one (a := .int k n) h rfl; cases this with | int h1 h2 => exact ⟨rfl, h1, h2⟩
theorem RV.flt {k : FloatKind} {n : Nat} {v : Value} (h : RV X (.flt k n) v) : v = .float k n := by
  have := RC.one (a := .flt k n) h rfl; cases this; rfl
theorem RV.cpx {k : FloatKind} {n m : Nat} {v : Value} (h : RV X (.cpx k n m) v) : v = .complex k n m := by
  have := RC.one (a := .cpx k n m) h rfl; cases this; rfl
theorem RV.str {s : List UInt8} {v : Value} (h : RV X (.str s) v) : v = .string ⟨s.toArray⟩ ∧ s.length ≤ maxI := by
  have := RC.one (a := .str s) h rfl; cases this with | str g => exact ⟨rfl, g⟩
theorem RV.vnil {k : LK} {v : Value} (h : RV X (.vnil k) v) : v = .slice none 0 0 ∧ k.Ok X.C := by
  have := RC.one (a := .vnil k) h rfl; cases this with | vnil g => exact ⟨rfl, g⟩
theorem RV.ptr {id : Nat} {p : List Step} {v : Value} (h : RV X (.ptr id p) v) : ∃ b, v = .pointer (some ⟨b, pathOff p, none⟩) ∧ X.us id ∧ ∀ o, X.loc id = some o → ∃ cp, o.1 = some (b, cp) := by
  have := RC.one (a := .ptr id p) h rfl; cases this with | ptr h1 h2 => exact ⟨_, rfl, h1, h2⟩
theorem RV.vptr {lent : Bool} {a : AV CT} {v : Value} (h : RV X (.vptr lent a) v) : ∃ b off c, v = .pointer (some ⟨b, off, none⟩) ∧ R X (a.taint lent) c ∧ a.ids = [] ∧ Stable X lent b off c := by
  have := RC.one (a := .vptr lent a) h rfl; cases this with | vptr h1 h2 h3 => exact ⟨_, _, _, rfl, h1, h2, h3⟩
theorem RV.of_bool {b : Bool} : RV X (.bool b) (.bool b) := R.rc1 (a := .bool b) .bool rfl
theorem RV.of_int {k : IntKind} {n : Int} (h1 : k.min ≤ n) (h2 : n ≤ k.max) : RV X (.int k n) (.int k n) := R.rc1 (a := .int k n) (.int h1 h2) rfl
theorem RV.of_flt {k : FloatKind} {n : Nat} : RV X (.flt k n) (.float k n) := R.rc1 (a := .flt k n) .flt rfl
theorem RV.of_cpx {k : FloatKind} {n m : Nat} : RV X (.cpx k n m) (.complex k n m) := R.rc1 (a := .cpx k n m) .cpx rfl
theorem RV.of_str {s : List UInt8} (h : s.length ≤ maxI) : RV X (.str s) (.string ⟨s.toArray⟩) := R.rc1 (a := .str s) (.str h) rfl
theorem RV.of_vnil {k : LK} (h : k.Ok X.C) : RV X (.vnil k) (.slice none 0 0) := R.rc1 (a := .vnil k) (.vnil h) rfl
theorem RV.of_und : RV X .und undef := rfl

theorem RV.fixed {P : Program} {T : TyTab CT} (H : TabOk P T) (hC : X.C = T.C) {t : Nat} {a : AV CT} {v : Value} (h : RV X a v) : RV X (fixN T t a) v := by
  unfold fixN
  split
  · split
    · rename_i e he
      obtain ⟨rfl, _⟩ := h.vnil
      exact RV.of_vnil (hC ▸ (H.lk e (H.elS _ _ he)).2)
    · exact h
  · exact h
end
end Go.Proofs.Ytjnkppjlhmkjaaa.Av
