/- What arguments read as: readings of data become abstract values. -/
import Derived.Test.YtjnkppjlhmkjaaaAvTie
import Derived.Test.YtjnkppjlhmkjaaaRows
import Derived.DataReads
namespace Go.Proofs.Ytjnkppjlhmkjaaa.Av
open Go
variable {CT : Nat → Type}
/-- The place at a law's call: all that is there stays as it is. -/
def Cx.law (C : Cod CT) (W : World) : Cx CT := ⟨C, fun b => match W.heap[b]? with | some (.cells cs _ _) => some cs | _ => none, fun _ => none, fun _ => False, fun _ => none⟩
theorem mem_law (C : Cod CT) (W : World) : Mem (Cx.law C W) W (Cx.law C W) [] W := by
  refine ⟨rfl, rfl, rfl, rfl, rfl, Nat.le_refl _, fun _ _ _ => rfl, fun b cs h => .inl h, fun b cs h => ?_, fun i => ?_, (fun i a h => by cases h), fun i _ => rfl, (fun i j b c c' n n' h => by cases h), (fun i b c n h => by cases h)⟩
  · rcases h with h | h
    · simp only [Cx.law] at h
      split at h
      · rename_i cs' e f he; cases h; exact ⟨e, f, he⟩
      · cases h
    · cases h
  · exact ⟨fun h => h.elim, fun h => absurd rfl h⟩
section
variable {P : Program} {T : TyTab CT} {W : World} {H : Type} {enc0 : TypeId × Value → H}
/-- A type's readings: what they are values of, how much they hold, what holds of them. -/
def Rd (P : Program) (T : TyTab CT) (W : World) (H : Type) (enc0 : TypeId × Value → H) (t : TypeId) {α : Type} (f : α → AV CT) (g : α → Nat) (q : α → Prop) : Prop :=
  ∀ fuel cs d ps, DataW.trod enc0 P W 0 (fun _ => true) true fuel t cs = some (d, ps) → ∃ x, R (Cx.law T.C W) (f x) cs ∧ g x ≤ Rows.uptoBulk d ∧ q x
theorem Rd.map {t : TypeId} {α β : Type} {f : α → AV CT} {g : α → Nat} {q : α → Prop} (h : Rd P T W H enc0 t f g q) (φ : α → β) {f' : β → AV CT} {g' : β → Nat} {q' : β → Prop} (h1 : ∀ x, q x → f' (φ x) = f x) (h2 : ∀ x, q x → g' (φ x) ≤ g x) (h3 : ∀ x, q x → q' (φ x)) : Rd P T W H enc0 t f' g' q' := by
  intro fuel cs d ps hr
  obtain ⟨x, r1, r2, r3⟩ := h fuel cs d ps hr
  exact ⟨φ x, by rw [h1 x r3]; exact r1, Nat.le_trans (h2 x r3) r2, h3 x r3⟩
theorem rd_int (HT : TabOk P T) {t : Nat} {k : IntKind} (hd : T.d t = .int k) : Rd P T W H enc0 t (fun n : Int => (.int k n : AV CT)) (fun _ => 1) (fun n => k.min ≤ n ∧ n ≤ k.max) := by
  intro fuel cs d ps hr
  cases fuel with
  | zero => cases hr
  | succ fuel =>
    unfold DataW.trod at hr
    rw [HT.int hd] at hr
    split at hr <;> first | (cases hr; done) | skip
    all_goals rename_i h1 <;> first | (cases h1; done) | skip
    · rename_i k' n
      cases h1
      split at hr
      · rename_i hk
        obtain ⟨rfl, hw⟩ := hk
        cases hr
        simp only [Lit.wf, Bool.and_eq_true, decide_eq_true_eq] at hw
        exact ⟨n, .int hw.1 hw.2, by simp [Rows.uptoBulk], hw⟩
      · cases hr
theorem rd_bool (HT : TabOk P T) {t : Nat} (hd : T.d t = .bool) : Rd P T W H enc0 t (fun b : Bool => (.bool b : AV CT)) (fun _ => 1) (fun _ => True) := by
  intro fuel cs d ps hr
  cases fuel with
  | zero => cases hr
  | succ fuel =>
    unfold DataW.trod at hr
    rw [HT.bool hd] at hr
    split at hr <;> first | (cases hr; done) | skip
    all_goals rename_i h1 <;> first | (cases h1; done) | skip
    · rename_i b
      cases hr
      exact ⟨b, .bool, by simp [Rows.uptoBulk], trivial⟩
theorem rd_flt (HT : TabOk P T) {t : Nat} {k : FloatKind} (hd : T.d t = .flt k) : Rd P T W H enc0 t (fun n : Nat => (.flt k n : AV CT)) (fun _ => 1) (fun n => (Lit.float k n).wf = true) := by
  intro fuel cs d ps hr
  cases fuel with
  | zero => cases hr
  | succ fuel =>
    unfold DataW.trod at hr
    rw [HT.flt hd] at hr
    split at hr <;> first | (cases hr; done) | skip
    all_goals rename_i h1 <;> first | (cases h1; done) | skip
    · rename_i k' n
      cases h1
      split at hr
      · rename_i hk
        obtain ⟨rfl, hw⟩ := hk
        cases hr
        exact ⟨n, .flt, by simp [Rows.uptoBulk], hw⟩
      · cases hr
theorem rd_str (HT : TabOk P T) {t : Nat} (hd : T.d t = .str) : Rd P T W H enc0 t (fun s : List UInt8 => (.str s : AV CT)) (fun s => s.length + 1) (fun _ => True) := by
  intro fuel cs d ps hr
  cases fuel with
  | zero => cases hr
  | succ fuel =>
    unfold DataW.trod at hr
    rw [HT.str hd] at hr
    split at hr <;> first | (cases hr; done) | skip
    all_goals rename_i h1 <;> first | (cases h1; done) | skip
    · rename_i s
      split at hr
      · rename_i hm
        cases hr
        refine ⟨s.data.toList, ?_, by simp [Rows.uptoBulk], trivial⟩
        have := R.str (X := Cx.law T.C W) (s := s.data.toList) (by rw [Array.length_toList]; exact hm)
        simpa using this
      · cases hr
/-- How a list of elements stands in a slice or an array. -/
structure Lists (T : TyTab CT) (e : Nat) {α : Type} (f : α → AV CT) (mk : List α → LS CT (AV CT)) : Prop where
  ok : ∀ l, (mk l).Ok T.C
  len : ∀ l, (mk l).len = l.length
  sz : ∀ l, (mk l).sz = T.sz e
  get : ∀ (l : List α) (j : Nat) (a : AV CT), (mk l).get? T.C j = some a → ∃ x, l[j]? = some x ∧ a = f x
  ids : ∀ x, (f x).ids = []
theorem lists_u8 (HT : TabOk P T) {e : Nat} (hd : T.d e = .int .u8) : Lists T e (fun b : UInt8 => (.int .u8 b.toNat : AV CT)) .u8 :=
  ⟨fun _ => trivial, fun _ => rfl, fun _ => (HT.one e (by rw [hd]; simp) (by rw [hd]; rfl)).symm, fun l j a h => by
    simp only [LS.get?, Option.map_eq_some_iff] at h
    obtain ⟨x, h1, rfl⟩ := h; exact ⟨x, h1, rfl⟩, fun _ => rfl⟩
theorem lists_int (HT : TabOk P T) {e : Nat} {k : IntKind} (hd : T.d e = .int k) : Lists T e (fun n : Int => (.int k n : AV CT)) (.int k) :=
  ⟨fun _ => trivial, fun _ => rfl, fun _ => (HT.one e (by rw [hd]; simp) (by rw [hd]; rfl)).symm, fun l j a h => by
    simp only [LS.get?, Option.map_eq_some_iff] at h
    obtain ⟨x, h1, rfl⟩ := h; exact ⟨x, h1, rfl⟩, fun _ => rfl⟩
theorem lists_str (HT : TabOk P T) {e : Nat} (hd : T.d e = .str) : Lists T e (fun s : List UInt8 => (.str s : AV CT)) .str :=
  ⟨fun _ => trivial, fun _ => rfl, fun _ => (HT.one e (by rw [hd]; simp) (by rw [hd]; rfl)).symm, fun l j a h => by
    simp only [LS.get?, Option.map_eq_some_iff] at h
    obtain ⟨x, h1, rfl⟩ := h; exact ⟨x, h1, rfl⟩, fun _ => rfl⟩
theorem lists_typ {c : Nat} {s : Nat} {sc : Bool} (hl : T.lk c = .typ c s sc) (hd : T.d c ≠ .bad) (HT : TabOk P T) : Lists T c (fun x : CT c => T.C.enc c x) (.typ c s sc) := by
  have h := HT.lk c hd
  rw [hl] at h
  exact ⟨fun _ => h.2, fun _ => rfl, fun _ => h.1, fun l j a h => by
    simp only [LS.get?, Option.map_eq_some_iff] at h
    obtain ⟨x, h1, rfl⟩ := h; exact ⟨x, h1, rfl⟩, fun x => T.C.ids_ok _ _⟩
theorem rd_u8 (HT : TabOk P T) {t : Nat} (hd : T.d t = .int .u8) : Rd P T W H enc0 t (fun b : UInt8 => (.int .u8 b.toNat : AV CT)) (fun _ => 1) (fun _ => True) :=
  (rd_int HT hd).map (fun n => UInt8.ofNat n.toNat) (fun n h => by rw [u8_back h.1 h.2]) (fun _ _ => Nat.le_refl _) (fun _ _ => trivial)
theorem bulkAll_ge : ∀ (l : List (DataW H)) (m : Nat) (g : Nat → Nat), l.length = m → (∀ (i : Nat) (d : DataW H), l[i]? = some d → g i ≤ Rows.uptoBulk d) → ((List.range m).map g).sum ≤ Rows.uptoBulkAll l
  | [], m, g, h, _ => by simp at h; subst h; simp
  | d :: l, 0, g, h, _ => by simp at h
  | d :: l, m + 1, g, h, hg => by
    rw [List.range_succ_eq_map, List.map_cons, List.sum_cons, List.map_map]
    have := bulkAll_ge l m (g ∘ Nat.succ) (by simpa using h) fun i d' hd => hg (i + 1) d' (by simpa using hd)
    have h0 := hg 0 d rfl
    simp only [Rows.uptoBulkAll]; omega
theorem cells_at {w : World} {a : Addr} {n : Nat} {cs : List Value} (h : w.cells? 0 a n = some cs) : cs.length = n ∧ ∀ (j : Nat) (v : Value), cs[j]? = some v → w.cell? (a.add j) = some v := by
  unfold World.cells? at h
  rw [if_pos (Nat.zero_le _)] at h
  have hl := mapM_some_length h
  refine ⟨by simpa using hl, fun j v hj => ?_⟩
  have hlt := (List.getElem?_eq_some_iff.1 hj).1
  have := mapM_some_get h j j (by rw [List.getElem?_range (by simpa [hl] using hlt)])
  rw [this]; exact hj
theorem cell_block {w : World} {a : Addr} {v : Value} (h : w.cell? a = some v) : a.spot = none ∧ ∃ cs e f, w.heap[a.block]? = some (.cells cs e f) ∧ cs[a.off]? = some v := by
  unfold World.cell? at h
  split at h
  · rename_i cs e f he
    split at h
    · cases h
    · rename_i hs
      exact ⟨by cases ha : a.spot with | none => rfl | some x => rw [ha] at hs; simp at hs, cs, e, f, he, h⟩
  · cases h
theorem pick_list {α : Type} {p : Nat → α → Prop} : ∀ (n : Nat), (∀ i, i < n → ∃ x, p i x) → ∃ l : List α, l.length = n ∧ ∀ (i : Nat) (x : α), l[i]? = some x → p i x
  | 0, _ => ⟨[], rfl, fun i x h => by simp at h⟩
  | n + 1, h => by
    obtain ⟨l, h1, h2⟩ := pick_list n fun i hi => h i (by omega)
    obtain ⟨x, hx⟩ := h n (by omega)
    refine ⟨l ++ [x], by simp [h1], fun i y hy => ?_⟩
    by_cases hi : i < n
    · rw [List.getElem?_append_left (by omega)] at hy; exact h2 i y hy
    · rw [List.getElem?_append_right (by omega), h1] at hy
      have : i - n = 0 := by
        have := (List.getElem?_eq_some_iff.1 hy).1; simp at this; omega
      rw [this] at hy; simp at hy; subst hy
      have : i = n := by omega
      subst this; exact hx
theorem sum_map_range {α : Type} (g : α → Nat) (l : List α) (d : α) : (l.map g).sum = ((List.range l.length).map fun i => g (l.getD i d)).sum := by
  induction l with
  | nil => rfl
  | cons a l ih =>
    rw [List.map_cons, List.sum_cons, List.length_cons, List.range_succ_eq_map, List.map_cons, List.sum_cons, List.map_map, ih]
    rfl
theorem sum_le {α : Type} {g : α → Nat} {l : List α} {ds : List (DataW H)} (hl : l.length = ds.length) (h : ∀ (i : Nat) (x : α) (d : DataW H), l[i]? = some x → ds[i]? = some d → g x ≤ Rows.uptoBulk d) : (l.map g).sum ≤ Rows.uptoBulkAll ds := by
  cases l with
  | nil => simp
  | cons a l =>
    rw [sum_map_range g (a :: l) a]
    refine bulkAll_ge ds _ _ hl.symm fun i d hd => ?_
    have hlt : i < (a :: l).length := by rw [hl]; exact (List.getElem?_eq_some_iff.1 hd).1
    have : (a :: l)[i]? = some ((a :: l).getD i a) := by rw [List.getD_eq_getElem?_getD, List.getElem?_eq_getElem hlt]; rfl
    exact h i _ d this hd
theorem mem_get {α : Type} {l : List α} {q : α → Prop} (h : ∀ (i : Nat) (x : α), l[i]? = some x → q x) : ∀ x ∈ l, q x := fun x hx => by
  obtain ⟨i, hi⟩ := List.mem_iff_getElem?.1 hx
  exact h i x hi
theorem cellsOf_eq (HT : TabOk P T) {e : Nat} (he : T.d e ≠ .bad) : P.cellsOf e = T.sz e := by
  obtain ⟨i, hi, hs, _⟩ := HT.info he
  simp [Program.cellsOf, hi, hs]
theorem rd_slice (HT : TabOk P T) {t e : Nat} (hd : T.d t = .slc e) {α : Type} {f : α → AV CT} {g : α → Nat} {q : α → Prop} {mk : List α → LS CT (AV CT)} (L : Lists T e f mk) (hz : T.sz e ≠ 0) (h : Rd P T W H enc0 e f g q) :
    Rd P T W H enc0 t (fun l : List α => (.vs false (mk l) : AV CT)) (fun l => (l.map g).sum + 1) (fun l => ∀ x ∈ l, q x) := by
  intro fuel cs d ps hr
  cases fuel with
  | zero => cases hr
  | succ fuel =>
    unfold DataW.trod at hr
    rw [HT.slc hd] at hr
    split at hr <;> first | (cases hr; done) | skip
    all_goals rename_i h1 <;> first | (cases h1; done) | skip
    · cases hr
      exact ⟨[], .vs0 (L.ok _) (L.len _), by simp [Rows.uptoBulk], by simp⟩
    · rename_i e' a len cap
      cases h1
      simp only at hr
      rw [cellsOf_eq HT (HT.elS _ _ hd)] at hr
      split at hr
      case isFalse => cases hr
      rename_i hb
      simp only [Option.bind_eq_some_iff, Option.map_eq_some_iff] at hr
      obtain ⟨elems, he, rest, hrest, hx⟩ := hr
      cases hx
      have hel := mapM_some_length he
      rw [List.length_range] at hel
      have hget : ∀ i, i < len → ∃ cells x, W.cells? 0 (a.add (i * T.sz e)) (T.sz e) = some cells ∧ (∃ y, elems[i]? = some y ∧ g x ≤ Rows.uptoBulk y.1) ∧ R (Cx.law T.C W) (f x) cells ∧ q x := by
        intro i hi
        have := mapM_some_get he i i (by rw [List.getElem?_range hi])
        have hy : elems[i]? = some elems[i] := List.getElem?_eq_getElem (by omega)
        rw [hy] at this
        simp only [Option.bind_eq_some_iff] at this
        obtain ⟨cells, hc, ht⟩ := this
        obtain ⟨x, r1, r2, r3⟩ := h fuel cells _ _ ht
        exact ⟨cells, x, hc, ⟨_, hy, r2⟩, r1, r3⟩
      obtain ⟨l, hl1, hl2⟩ := pick_list (p := fun i x => ∃ cells, W.cells? 0 (a.add (i * T.sz e)) (T.sz e) = some cells ∧ (∃ y, elems[i]? = some y ∧ g x ≤ Rows.uptoBulk y.1) ∧ R (Cx.law T.C W) (f x) cells ∧ q x) len fun i hi => by
        obtain ⟨cells, x, hh⟩ := hget i hi; exact ⟨x, cells, hh⟩
      refine ⟨l, ?_, ?_, mem_get fun i x hx => by obtain ⟨_, _, _, _, hq⟩ := hl2 i x hx; exact hq⟩
      · by_cases h0 : len = 0
        · subst h0; exact .vs0 (L.ok _) (by rw [L.len, hl1])
        · -- the block of the first element
          have hx0 : l[0]? = some (l[0]'(by omega)) := List.getElem?_eq_getElem (by omega)
          obtain ⟨c0, hc0, _, _, _⟩ := hl2 0 _ hx0
          obtain ⟨hl0, hat0⟩ := cells_at hc0
          have hv0 : c0[0]? = some (c0[0]'(by omega)) := List.getElem?_eq_getElem (by omega)
          have hcell := hat0 0 _ hv0
          have e0 : (a.add (0 * T.sz e)).add 0 = a := by simp [Addr.add]
          rw [e0] at hcell
          obtain ⟨hspot, arr, te, fr, hheap, _⟩ := cell_block hcell
          have ha : a = ⟨a.block, a.off, none⟩ := by cases a; simp at hspot; subst hspot; rfl
          have hfz : (Cx.law T.C W).fz a.block = some arr := by simp [Cx.law, hheap]
          have hlen : (mk l).len = len := by rw [L.len, hl1]
          have key : ∀ (j : Nat) (b : AV CT), (mk l).get? T.C j = some b → ∃ x cells, l[j]? = some x ∧ b = f x ∧ cells.length = T.sz e ∧ R (Cx.law T.C W) (f x) cells ∧ ∀ (i : Nat) (v : Value), cells[i]? = some v → arr[a.off + j * T.sz e + i]? = some v := by
            intro j b hb
            obtain ⟨x, hx, rfl⟩ := L.get l j b hb
            obtain ⟨cells, hc, _, hR, _⟩ := hl2 j x hx
            obtain ⟨hcl, hat⟩ := cells_at hc
            refine ⟨x, cells, hx, rfl, hcl, hR, fun i v hv => ?_⟩
            have := hat i v hv
            rw [ha, addr_add, addr_add, cell_of hheap] at this
            exact this
          have key2 : ∀ j, ∃ c : List Value, ∀ b, (mk l).get? T.C j = some b → b.ids = [] ∧ c.length = T.sz e ∧ R (Cx.law T.C W) b c ∧ ∀ (i : Nat) (v : Value), c[i]? = some v → arr[a.off + j * T.sz e + i]? = some v := by
            intro j
            cases hg : (mk l).get? T.C j with
            | none => exact ⟨[], fun b hb => by cases hb⟩
            | some b =>
              obtain ⟨x, cells, _, rfl, h2, h3, h4⟩ := key j b hg
              exact ⟨cells, fun b' hb' => by cases hb'; exact ⟨L.ids x, h2, h3, h4⟩⟩
          have hch := fun j => Classical.choose_spec (key2 j)
          have := R.vs (X := Cx.law T.C W) (lent := false) (l := mk l) (b := a.block) (off := a.off) (cap := cap) (fun j => Classical.choose (key2 j)) (L.ok l) (by rw [hlen]; exact ⟨Nat.le_trans hb.2.1 hb.2.2, hb.2.1⟩)
            (fun j b hb' => by rw [taint_false]; exact (hch j b hb').2.2.1)
            (fun j b hb' => ⟨(hch j b hb').1, by rw [L.sz]; exact (hch j b hb').2.1, arr, .inl hfz, fun i v hv => by rw [L.sz]; exact (hch j b hb').2.2.2 i v hv⟩)
          rw [hlen, ← ha] at this
          exact this
      · have := sum_le (H := H) (l := l) (g := g) (ds := elems.map (·.1)) (by rw [List.length_map]; omega) fun i x d hx hdd => by
          obtain ⟨_, _, ⟨y, hy, hg⟩, _, _⟩ := hl2 i x hx
          rw [List.getElem?_map, hy] at hdd
          cases hdd; exact hg
        simp only [Rows.uptoBulk]; omega
theorem rd_arr (HT : TabOk P T) {t e n : Nat} (hd : T.d t = .arr n e) {α : Type} {f : α → AV CT} {g : α → Nat} {q : α → Prop} {mk : List α → LS CT (AV CT)} (L : Lists T e f mk) (h : Rd P T W H enc0 e f g q) (htz : T.sz t = n * T.sz e) :
    Rd P T W H enc0 t (fun l : List α => (.arr n (mk l) : AV CT)) (fun l => (l.map g).sum + 1) (fun l => l.length = n ∧ ∀ x ∈ l, q x) := by
  intro fuel cs d ps hr
  cases fuel with
  | zero => cases hr
  | succ fuel =>
    simp only [DataW.trod, HT.arr hd] at hr
    · rw [cellsOf_eq HT (by rw [hd]; simp), cellsOf_eq HT (HT.elA _ _ _ hd).1] at hr
      split at hr
      case isFalse => cases hr
      rename_i hlen
      simp only [Option.map_eq_some_iff] at hr
      obtain ⟨elems, he, hx⟩ := hr
      cases hx
      have hel := mapM_some_length he
      rw [List.length_range] at hel
      obtain ⟨l, hl1, hl2⟩ := pick_list (p := fun i x => (∃ y, elems[i]? = some y ∧ g x ≤ Rows.uptoBulk y.1) ∧ R (Cx.law T.C W) (f x) ((cs.drop (i * T.sz e)).take (T.sz e)) ∧ q x) n fun i hi => by
        have := mapM_some_get he i i (by rw [List.getElem?_range hi])
        have hy : elems[i]? = some elems[i] := List.getElem?_eq_getElem (by omega)
        rw [hy] at this
        obtain ⟨x, r1, r2, r3⟩ := h fuel _ _ _ this
        exact ⟨x, ⟨_, hy, r2⟩, r1, r3⟩
      refine ⟨l, ?_, ?_, hl1, mem_get fun i x hx => (hl2 i x hx).2.2⟩
      · rw [htz] at hlen
        rw [← chunks (T.sz e) n cs hlen]
        refine .arr (L.ok l) (by rw [L.len, hl1]) (by simp) (fun j a c ha hc => ?_) (fun c hc => ?_)
        · obtain ⟨x, hx, rfl⟩ := L.get l j a ha
          have hj : j < n := by have := (List.getElem?_eq_some_iff.1 hx).1; omega
          rw [List.getElem?_map, List.getElem?_range hj] at hc
          cases hc
          exact (hl2 j x hx).2.1
        · obtain ⟨j, hj, rfl⟩ := List.mem_map.1 hc
          have hj := List.mem_range.1 hj
          have : (j + 1) * T.sz e ≤ n * T.sz e := Nat.mul_le_mul_right _ hj
          rw [Nat.add_mul] at this
          rw [L.sz, List.length_take, List.length_drop, hlen]; omega
      · have := sum_le (H := H) (l := l) (g := g) (ds := elems.map (·.1)) (by rw [List.length_map]; omega) fun i x d hx hdd => by
          obtain ⟨⟨y, hy, hg⟩, _⟩ := hl2 i x hx
          rw [List.getElem?_map, hy] at hdd
          cases hdd; exact hg
        simp only [Rows.uptoBulk]; omega
/-- Fields. -/
def RdF (P : Program) (T : TyTab CT) (W : World) (H : Type) (enc0 : TypeId × Value → H) (fs : List (Nat × Nat)) {σ : Type} (F : σ → List (AV CT)) (G : σ → Nat) (Q : σ → Prop) : Prop :=
  ∀ (fuel : Nat) (cs : List Value) (xs : List (DataW H × List MemPlace)), fs.mapM (fun f => DataW.trod enc0 P W 0 (fun _ => true) true fuel f.1 ((cs.drop f.2).take (T.sz f.1))) = some xs →
    ∃ s, (F s).length = fs.length ∧ (∀ (j : Nat) (a : AV CT) (ft : Nat × Nat), (F s)[j]? = some a → fs[j]? = some ft → R (Cx.law T.C W) a ((cs.drop ft.2).take (T.sz ft.1))) ∧ G s ≤ Rows.uptoBulkAll (xs.map (·.1)) ∧ Q s
theorem rdf_nil : RdF P T W H enc0 [] (fun _ : Unit => ([] : List (AV CT))) (fun _ => 0) (fun _ => True) := fun fuel cs xs h => ⟨(), rfl, fun j a ft h => by simp at h, by simp, trivial⟩
theorem rdf_cons {t off : Nat} {fs : List (Nat × Nat)} {α σ : Type} {f : α → AV CT} {g : α → Nat} {q : α → Prop} {F : σ → List (AV CT)} {G : σ → Nat} {Q : σ → Prop} (h : Rd P T W H enc0 t f g q) (hs : RdF P T W H enc0 fs F G Q) :
    RdF P T W H enc0 ((t, off) :: fs) (fun s : α × σ => f s.1 :: F s.2) (fun s => g s.1 + G s.2) (fun s => q s.1 ∧ Q s.2) := by
  intro fuel cs xs hx
  rw [List.mapM_cons] at hx
  simp only [Option.bind_eq_bind, Option.bind_eq_some_iff, Option.pure_def, Option.some.injEq] at hx
  obtain ⟨y, hy, ys, hys, rfl⟩ := hx
  obtain ⟨x, r1, r2, r3⟩ := h fuel _ _ _ hy
  obtain ⟨s, s1, s2, s3, s4⟩ := hs fuel cs ys hys
  refine ⟨(x, s), by simp [s1], fun j a ft ha hft => ?_, ?_, r3, s4⟩
  · cases j with
    | zero => simp at ha hft; subst ha; subst hft; exact r1
    | succ j => exact s2 j a ft (by simpa using ha) (by simpa using hft)
  · simp only [List.map_cons, Rows.uptoBulkAll]; omega
def contig (T : TyTab CT) : List (Nat × Nat) → Nat → Nat → Bool
  | [], o, n => Nat.beq o n
  | f :: fs, o, n => Nat.beq f.2 o && contig T fs (o + T.sz f.1) n
theorem contig_flat (T : TyTab CT) : ∀ (fs : List (Nat × Nat)) (o n : Nat) (cs : List Value), cs.length = n → contig T fs o n = true → o ≤ n ∧ (fs.map fun f => (cs.drop f.2).take (T.sz f.1)).flatten = cs.drop o
  | [], o, n, cs, hl, h => by
    obtain rfl := Nat.eq_of_beq_eq_true h
    refine ⟨Nat.le_refl _, ?_⟩
    simp [List.drop_eq_nil_of_le (show cs.length ≤ o by omega)]
  | f :: fs, o, n, cs, hl, h => by
    simp only [contig, Bool.and_eq_true] at h
    obtain ⟨h1, h2⟩ := contig_flat T fs (o + T.sz f.1) n cs hl h.2
    have ho := Nat.eq_of_beq_eq_true h.1
    refine ⟨by omega, ?_⟩
    rw [List.map_cons, List.flatten_cons, h2, ho, ← List.drop_drop, List.take_append_drop]
theorem rd_struct (HT : TabOk P T) {t : Nat} {fs : List (Nat × Nat)} (hd : T.d t = .strct fs) {σ : Type} {F : σ → List (AV CT)} {G : σ → Nat} {Q : σ → Prop} (hF : RdF P T W H enc0 fs F G Q) (hc : contig T fs 0 (T.sz t) = true) :
    Rd P T W H enc0 t (fun s : σ => (.agg (T.sz t) (F s) : AV CT)) (fun s => G s + 1) Q := by
  intro fuel cs d ps hr
  cases fuel with
  | zero => cases hr
  | succ fuel =>
    obtain ⟨gs, hg, hm⟩ := HT.strct hd
    simp only [DataW.trod, hg] at hr
    · rw [cellsOf_eq HT (by rw [hd]; simp)] at hr
      split at hr
      case isFalse => cases hr
      rename_i hlen
      simp only [Option.map_eq_some_iff] at hr
      obtain ⟨xs, hx, he⟩ := hr
      cases he
      have hx' : fs.mapM (fun f => DataW.trod enc0 P W 0 (fun _ => true) true fuel f.1 ((cs.drop f.2).take (T.sz f.1))) = some xs := by
        rw [← hm, List.mapM_map]
        rw [← hx]
        have hgt : ∀ f ∈ gs.toList, P.cellsOf f.type = T.sz f.type := fun f hf => cellsOf_eq HT (HT.fld t fs hd (f.type, f.offset) (by rw [← hm]; exact List.mem_map.2 ⟨f, hf, rfl⟩)).1
        have : ∀ (l : List Field), (∀ f ∈ l, P.cellsOf f.type = T.sz f.type) → l.mapM ((fun f : Nat × Nat => DataW.trod enc0 P W 0 (fun _ => true) true fuel f.1 ((cs.drop f.2).take (T.sz f.1))) ∘ fun f : Field => (f.type, f.offset)) = l.mapM fun f => DataW.trod enc0 P W 0 (fun _ => true) true fuel f.type ((cs.drop f.offset).take (P.cellsOf f.type)) := by
          intro l
          induction l with
          | nil => intro _; rfl
          | cons f l ih =>
            intro hh
            rw [List.mapM_cons, List.mapM_cons, ih fun g hg => hh g (List.mem_cons_of_mem _ hg)]
            simp only [Function.comp, hh f List.mem_cons_self]
        exact this gs.toList hgt
      obtain ⟨s, s1, s2, s3, s4⟩ := hF fuel cs xs hx'
      refine ⟨s, ?_, by simp only [Rows.uptoBulk]; omega, s4⟩
      have hfl := (contig_flat T fs 0 (T.sz t) cs hlen hc).2
      rw [List.drop_zero] at hfl
      have := R.agg (X := Cx.law T.C W) (fs := F s) (css := fs.map fun f => (cs.drop f.2).take (T.sz f.1)) (by simp [s1]) (fun j a c ha hc' => by
        rw [List.getElem?_map, Option.map_eq_some_iff] at hc'
        obtain ⟨ft, hft, rfl⟩ := hc'
        exact s2 j a ft ha hft)
      rw [hfl, hlen] at this
      exact this
end
end Go.Proofs.Ytjnkppjlhmkjaaa.Av
