/- Conversions, lengths, made slices. -/
import Derived.Test.YtjnkppjlhmkjaaaAvOp5
namespace Go.Proofs.Ytjnkppjlhmkjaaa.Av
open Go
variable {CT : Nat → Type}

section
variable {P : Program} {T : TyTab CT} {CR : CallR CT} {X0 X : Cx CT} {W w : World} {ob ob' : Ob CT} {r : AV CT}

theorem i64_ok {n : Nat} (hn : n ≤ maxI) : RV X (.int .i64 n) (goInt n) := by
  have h1 : IntKind.min .i64 = -9223372036854775808 := by decide
  have h2 : IntKind.max .i64 = 9223372036854775807 := by decide
  refine RV.of_int ?_ ?_
  · rw [h1]; omega
  · rw [h2]; simp only [maxI] at hn; omega
theorem len_good (H : TabOk P T) (M : Mem X0 W X ob w) {t ty : Nat} {x : AV CT} {v : Value} {ts : Array TypeId} {vs : Array Value} (ht : ts[0]? = some t) (hv0 : vs[0]? = some v) (hv : RV X x v)
    (h : Ev CR (lenM T t x .ret) ob r ob') : Good P X0 X W w (do Pure.pure (.value (← Builtin.len_ ts ty vs))) r ob' := by
  have i64 : ∀ n : Nat, n ≤ maxI → RV X (.int .i64 n) (goInt n) := fun n hn => i64_ok hn
  unfold lenM at h
  split at h
  · rename_i s hd
    obtain ⟨rfl, rfl⟩ := h.ret_inv
    obtain ⟨rfl, hm⟩ := hv.str
    refine .of_run M (u := goInt s.length) ?_ (i64 _ hm)
    have hs : (⟨s.toArray⟩ : ByteArray).size = s.length := by simp [ByteArray.size]
    simp [Builtin.len_, ht, hv0, run_underlying (H.str hd), hs]
  · rename_i n e hd
    obtain ⟨rfl, rfl⟩ := h.ret_inv
    refine .of_run M (u := goInt n) ?_ (i64 _ (H.elA _ _ _ hd).2)
    simp [Builtin.len_, ht, hv0, run_underlying (H.arr hd)]
  · rename_i e kd hd
    obtain ⟨rfl, rfl⟩ := h.ret_inv
    obtain ⟨rfl, _⟩ := hv.vnil
    refine .of_run M (u := goInt 0) ?_ (i64 0 (by decide))
    simp [Builtin.len_, ht, hv0, run_underlying (H.slc hd)]
  · rename_i e lent l hd
    obtain ⟨rfl, rfl⟩ := h.ret_inv
    obtain ⟨_, hh⟩ := hv.vs
    rcases hh with ⟨b, off, cap, c, rfl, hm, _⟩ | ⟨hz, a, cap, rfl⟩
    · refine .of_run M (u := goInt l.len) ?_ (i64 _ hm)
      simp [Builtin.len_, ht, hv0, run_underlying (H.slc hd)]
    · rw [hz]
      refine .of_run M (u := goInt 0) ?_ (i64 0 (by decide))
      simp [Builtin.len_, ht, hv0, run_underlying (H.slc hd)]
  · rename_i e id kd hd
    obtain ⟨l, hl, h⟩ := h.rdLst_inv
    obtain ⟨rfl, rfl⟩ := h.ret_inv
    obtain ⟨_, _, hloc⟩ := hv.mw
    obtain ⟨o, ho, hL⟩ := M.loc hl
    obtain ⟨hmx, hcase⟩ := hloc o ho
    have hlen : l.len = o.2 := by
      cases hL with
      | nil g1 g2 _ => cases g1; exact g2
      | blk _ _ _ k4 => exact (k4 l rfl).1
    refine .of_run M (u := goInt l.len) ?_ (i64 _ (by omega))
    rw [hlen]
    rcases hcase with ⟨b, cap, _, _, rfl⟩ | ⟨_, h0, rfl⟩
    · simp [Builtin.len_, ht, hv0, run_underlying (H.slc hd)]
    · simp [Builtin.len_, ht, hv0, run_underlying (H.slc hd), h0]
  · rename_i e id p kd off len cap hd
    obtain ⟨rfl, rfl⟩ := h.ret_inv
    obtain ⟨_, _, hh⟩ := hv.ms
    rcases hh with ⟨b, capc, q1, _, _, rfl⟩ | ⟨rfl, rfl, a, capc, rfl⟩
    · refine .of_run M (u := goInt len) ?_ (i64 _ (by omega))
      simp [Builtin.len_, ht, hv0, run_underlying (H.slc hd)]
    · refine .of_run M (u := goInt 0) ?_ (i64 0 (by decide))
      simp [Builtin.len_, ht, hv0, run_underlying (H.slc hd)]
  · exact h.fail_inv.elim

/-- Like elements, many. -/
theorem rep_spec {C : Cod CT} {k : LK} {z : AV CT} {n : Nat} {l : LS CT (AV CT)} (h : LS.rep C k z n = some l) (hk : k.Ok C) : l.len = n ∧ l.Ok C ∧ l.kind = k ∧
    ∀ (X : Cx CT), X.C = C → ∀ {c : List Value}, R X z c → (∀ (j : Nat) (a : AV CT), l.get? C j = some a → R X a c) ∧ (0 < n → c.length = l.sz) := by
  have ok : ∀ (l : LS CT (AV CT)), l.kind = k → l.Ok C := fun l e => LS.kindOk.2 (e ▸ hk)
  unfold LS.rep at h
  split at h
  · rename_i x
    cases h
    refine ⟨by simp [LS.len], trivial, rfl, fun X hX c hr => ⟨fun j a ha => ?_, fun _ => hr.size⟩⟩
    simp only [LS.get?, List.getElem?_replicate] at ha
    split at ha
    · cases hr with
      | int h1 h2 =>
        simp only [Option.map_some, Option.some.injEq] at ha
        subst ha; rw [u8_back h1 h2]; exact .int h1 h2
    · simp at ha
  · rename_i kd kd' x
    cases hk' : kindEq kd kd' with
    | false => rw [hk'] at h; cases h
    | true =>
      rw [hk'] at h; cases h
      obtain rfl := kindEq_eq hk'
      refine ⟨by simp [LS.len], trivial, rfl, fun X hX c hr => ⟨fun j a ha => ?_, fun _ => hr.size⟩⟩
      simp only [LS.get?, List.getElem?_replicate] at ha
      split at ha
      · simp only [Option.map_some, Option.some.injEq] at ha; exact ha ▸ hr
      · simp at ha
  · cases h
    refine ⟨by simp [LS.len], trivial, rfl, fun X hX c hr => ⟨fun j a ha => ?_, fun _ => hr.size⟩⟩
    simp only [LS.get?, List.getElem?_replicate] at ha
    split at ha
    · simp only [Option.map_some, Option.some.injEq] at ha; exact ha ▸ hr
    · simp at ha
  · split at h
    · rename_i c' s b o x hx
      cases h
      refine ⟨by simp [LS.len], hk, rfl, fun X hX c hr => ?_⟩
      have hr' : R X (C.enc c' x) c := by rw [C.dec_ok _ _ _ hx]; exact hr.unnil
      refine ⟨fun j a ha => ?_, fun _ => by rw [hr'.size, C.size_ok]; exact hk.1.symm⟩
      simp only [LS.get?, List.getElem?_replicate] at ha
      split at ha
      · simp only [Option.map_some, Option.some.injEq] at ha; exact ha ▸ hr'
      · simp at ha
    · cases h
  · rename_i s
    cases hc : (z.isCell && Nat.beq z.size s) with
    | false => rw [hc] at h; cases h
    | true =>
      rw [hc] at h; cases h
      simp only [Bool.and_eq_true] at hc
      refine ⟨by simp [LS.len], trivial, rfl, fun X hX c hr => ⟨fun j a ha => ?_, fun _ => hr.size.trans (Nat.eq_of_beq_eq_true hc.2)⟩⟩
      simp only [LS.get?, List.getElem?_replicate] at ha
      split at ha
      · cases ha; exact hr
      · cases ha
  · cases h
/-- A list of like elements in cells. -/
theorem rep_lst {C : Cod CT} {l : LS CT (AV CT)} {n : Nat} (hn : l.len = n) (ho : l.Ok C) (hX : X.C = C) {c : List Value} (h : ∀ (j : Nat) (a : AV CT), l.get? C j = some a → R X a c) (hc : 0 < n → c.length = l.sz) :
    R X (.lst l) (List.replicate n c).flatten := by
  subst hX
  refine .lst ho (by simp [hn]) (fun j a d ha hd => ?_) (fun d hd => ?_)
  · rw [List.getElem?_replicate] at hd
    split at hd
    · cases hd; exact h j a ha
    · cases hd
  · obtain ⟨h0, rfl⟩ := List.mem_replicate.1 hd
    exact hc (by omega)
theorem zero_cells {z : Array Value} {n s : Nat} (hz : z.size = s) : ((Array.range (n * s)).map (z[· % z.size]!)).toList = (List.replicate n z.toList).flatten := by
  subst hz
  induction n with
  | zero => simp
  | succ n ih =>
    rw [List.replicate_succ', List.flatten_append, ← ih]
    apply List.ext_getElem?
    intro i
    simp only [Array.toList_map, Array.toList_range, List.flatten_cons, List.flatten_nil, List.append_nil, List.getElem?_map]
    by_cases h1 : i < n * z.size
    · rw [List.getElem?_append_left (by simpa using h1), List.getElem?_map, List.getElem?_range h1, List.getElem?_range (by rw [Nat.add_mul]; omega)]
    · rw [List.getElem?_append_right (by simpa using h1)]
      simp only [List.length_map, List.length_range]
      by_cases h2 : i < (n + 1) * z.size
      · rw [List.getElem?_range h2]
        have h3 : i - n * z.size < z.size := by rw [Nat.add_mul] at h2; omega
        have h4 : i % z.size = i - n * z.size := by
          have : i = n * z.size + (i - n * z.size) := by omega
          rw [this, Nat.add_comm, Nat.add_mul_mod_self_right, Nat.mod_eq_of_lt h3]; omega
        simp [h4, h3]
      · rw [List.getElem?_eq_none (by simpa using h2), List.getElem?_eq_none (by simp; rw [Nat.add_mul] at h2; omega)]
        rfl
theorem wrap_i64 {n : Int} (h0 : 0 ≤ n) (h1 : n ≤ maxI) : IntKind.i64.wrap n = n := by
  simp only [maxI] at h1
  simp [IntKind.wrap, IntKind.bits, IntKind.signed]; omega
/-- The whole slice of a new list. -/
theorem mw_new {d n cap b : Nat} {k : LK} (hk : k.Ok X.C) (hn : n ≤ maxI) (hc : n ≤ cap) : RV (X.new d (some (b, cap), n)) (.mw d k) (.slice (some ⟨b, 0, none⟩) n cap) := by
  refine RC.rv (R.rc1 (a := .mw d k) (.mw hk (.inl rfl) trivial fun o ho => ?_) rfl)
  simp [Cx.new] at ho
  subst ho
  exact ⟨hn, .inl ⟨b, cap, rfl, hc, rfl⟩⟩
theorem makeSlice_good (H : TabOk P T) (hC : X.C = T.C) (M : Mem X0 W X ob w) {t d : Nat} {x y : AV CT} {v u : Value} (hx : RV X x v) (hy : RV X y u)
    (h : Ev CR (match T.d t, x, y with
    | .slc e, .int _ n, .int _ c => cond (Nat.ble 1 (T.bytes e)) (.gd (decide (0 ≤ n)) (.gd (n == c) (.gd (Nat.ble (n.toNat * T.bytes e) most) (match LS.rep T.C (T.lk e) (T.zero e) n.toNat with
      | some l => newObj d (.lst l) (.ret (.mw d (T.lk e)))
      | none => .fail)))) .fail
    | _, _, _ => .fail) ob r ob') : Good P X0 X W w (do Pure.pure (.value (← Instr.makeSlice t v u))) r ob' := by
  split at h
  case h_2 => exact h.fail_inv.elim
  rename_i e k n k' c hd
  obtain ⟨hb, h⟩ := cond_fail h
  have hb := Nat.ble_eq.mp hb
  obtain ⟨h0, h⟩ := h.gd_inv
  have h0 := of_decide_eq_true h0
  obtain ⟨h1, h'⟩ := h.gd_inv
  clear h
  obtain rfl : n = c := by simpa using h1
  obtain ⟨h2, h⟩ := h'.gd_inv
  have h2 := Nat.ble_eq.mp h2
  split at h
  case h_2 => exact h.fail_inv.elim
  rename_i l hl
  obtain ⟨g1, g2, g3⟩ := h.newObj_inv
  obtain ⟨rfl, rfl⟩ := g3.ret_inv
  obtain ⟨rfl, _⟩ := hx.int
  obtain ⟨rfl, _⟩ := hy.int
  have he := H.elS _ _ hd
  obtain ⟨i, hi, hsz, hby⟩ := H.info he
  obtain ⟨z, hz, hzr, _, _, hzs⟩ := H.zero w he
  have hlk := H.lk e he
  obtain ⟨r1, r2, r3, r4⟩ := rep_spec hl hlk.2
  have r4 := r4 X hC (hzr X hC).1
  have hn : n.toNat ≤ n.toNat * T.bytes e := Nat.le_mul_of_pos_right _ hb
  have hm : most ≤ maxI := by decide
  have hmx : n.toNat ≤ maxI := by omega
  have hw : IntKind.i64.wrap n = n := wrap_i64 h0 (by omega)
  have hls : l.sz = T.sz e := by rw [← LS.kindSz, r3, hlk.1]
  have hR : R X (.lst l) (List.replicate n.toNat z.cells.toList).flatten := rep_lst r1 r2 hC r4.1 r4.2
  have hcells : (Array.range (n.toNat * T.sz e)).map (z.cells[· % z.cells.size]!) = ((List.replicate n.toNat z.cells.toList).flatten ++ []).toArray := by
    apply Array.ext'
    rw [zero_cells hzs]; simp
  have hlen : ((List.replicate n.toNat z.cells.toList).flatten).length = n.toNat * T.sz e := by
    rw [flatten_len z.cells.size _ (fun c hc => by rw [(List.mem_replicate.1 hc).2]; simp), List.length_replicate, hzs]
  obtain ⟨E, M'⟩ := M.new g1 g2 hR (rest := []) (e := e) (cp := n.toNat) (n := n.toNat) (fun l' e' => by
    cases e'
    exact ⟨r1, hmx, Nat.le_refl _, by rw [List.append_nil, hlen, hls]⟩) hcells w.drawn
  refine .of_step E M' (u := .slice (some ⟨w.heap.size, 0, none⟩) n.toNat n.toNat) ?_ (mw_new (hC ▸ hlk.2) hmx (Nat.le_refl _))
  have hbig : ¬ (281474976710656 < (T.bytes e : Int) * n) := by
    have : (T.bytes e : Int) * n = ((n.toNat * T.bytes e : Nat) : Int) := by
      rw [Int.natCast_mul, Int.toNat_of_nonneg h0, Int.mul_comm]
    rw [this]; simp only [most] at h2; omega
  have hneg : ¬ n < 0 := by omega
  by_cases hz0 : n.toNat * T.sz e = 0
  · rw [hz0] at hcells ⊢
    simp [Instr.makeSlice, run_underlying (H.slc hd), asInt, asIntOf, typeInfo, hi, hby, hw, hbig, hneg, H.size w he, hz0, newRow]
    have hr : Array.range 0 = (#[] : Array Nat) := by apply Array.ext'; simp
    rw [hr]; simp only [List.map_toArray, List.map_nil]
  · simp [Instr.makeSlice, run_underlying (H.slc hd), asInt, asIntOf, typeInfo, hi, hby, hw, hbig, hneg, H.size w he, hz0, newRow, hz]
/-- What a slice reads as, in cells: its elements (as what is lent reads). -/
structure SliceC (X : Cx CT) (w : World) (lent : Bool) (l : LS CT (AV CT)) (a : Option Addr) (css : List (List Value)) : Prop where
  ok : l.Ok X.C
  le : l.len ≤ maxI
  n : css.length = l.len
  sz : ∀ c ∈ css, c.length = l.sz
  el : ∀ (j : Nat) (b : AV CT) (c : List Value), l.get? X.C j = some b → css[j]? = some c → R X (b.taint lent) c
  at_ : l.len ≠ 0 → ∃ b off, a = some ⟨b, off, none⟩ ∧ ∀ (j : Nat) (u : Value), css.flatten[j]? = some u → w.cell? ⟨b, off + j, none⟩ = some u
theorem flat_at {css : List (List Value)} {s : Nat} (hs : ∀ c ∈ css, c.length = s) {j : Nat} {u : Value} (h : css.flatten[j]? = some u) : ∃ i k c, css[i]? = some c ∧ c[k]? = some u ∧ j = i * s + k := by
  induction css generalizing j with
  | nil => simp at h
  | cons c css ih =>
    rw [List.flatten_cons] at h
    have hc := hs c List.mem_cons_self
    by_cases hj : j < c.length
    · rw [List.getElem?_append_left hj] at h
      exact ⟨0, j, c, rfl, h, by simp⟩
    · rw [List.getElem?_append_right (by omega)] at h
      obtain ⟨i, k, d, h1, h2, h3⟩ := ih (fun c hc => hs c (List.mem_cons_of_mem _ hc)) h
      exact ⟨i + 1, k, d, by simpa using h1, h2, by rw [Nat.add_mul]; omega⟩
theorem flat_get {css : List (List Value)} {s : Nat} (hs : ∀ c ∈ css, c.length = s) {i k : Nat} {c : List Value} {u : Value} (h : css[i]? = some c) (hk : c[k]? = some u) : css.flatten[i * s + k]? = some u := by
  have hi := (List.getElem?_eq_some_iff.1 h).1
  have hk' := (List.getElem?_eq_some_iff.1 hk).1
  rw [(set_split css i c c h).1, List.getElem?_append_right (by rw [off_arr hs i (by omega), Nat.mul_comm]; omega), off_arr hs i (by omega), Nat.mul_comm s i, Nat.add_sub_cancel_left,
    List.getElem?_append_left hk']
  exact hk
/-- A part of a list in cells. -/
theorem part_cells {l : LS CT (AV CT)} {css : List (List Value)} (h0 : l.Ok X.C) (h2 : css.length = l.len) (h4 : ∀ c ∈ css, c.length = l.sz)
    (h3 : ∀ (j : Nat) (a : AV CT) (c : List Value), l.get? X.C j = some a → css[j]? = some c → R X a c) {off len B o : Nat} (hb : off + len ≤ l.len) (hm : len ≤ maxI)
    (hc : ∀ (j : Nat) (v : Value), css.flatten[j]? = some v → w.cell? ⟨B, o + j, none⟩ = some v) : SliceC X w true (l.ext off len) (some ⟨B, o + off * l.sz, none⟩) ((css.drop off).take len) := by
  have hl : (l.ext off len).len = len := by rw [ext_len]; omega
  have hsz : ∀ c ∈ (css.drop off).take len, c.length = (l.ext off len).sz := fun c hc => by rw [ext_sz]; exact h4 c (List.mem_of_mem_drop (List.mem_of_mem_take hc))
  have hget : ∀ {j : Nat} {c : List Value}, ((css.drop off).take len)[j]? = some c → css[off + j]? = some c := by
    intro j c h
    have hj : j < len := by have := (List.getElem?_eq_some_iff.1 h).1; simp at this; omega
    rw [List.getElem?_take, if_pos hj, List.getElem?_drop] at h; exact h
  refine ⟨ext_ok _ _ h0, by omega, by rw [hl]; simp; omega, hsz, fun j a c ha hc => ((h3 _ a c (ext_get ha).1 (hget hc)).taint true), fun _ => ⟨B, _, rfl, fun j u hu => ?_⟩⟩
  obtain ⟨i, k, c, q1, q2, rfl⟩ := flat_at hsz hu
  have := hc _ u (flat_get h4 (hget q1) q2)
  rw [ext_sz, Nat.add_assoc o, ← Nat.add_assoc (off * l.sz), ← Nat.add_mul]
  exact this
theorem Mem.okAt (M : Mem X0 W X ob w) {id : Nat} {a b : AV CT} (h : ob.get id = some (some a)) {p : List Step} (g : GetR X.C p a b) : (∃ c, R X b c) ∨ ∃ l, b = .lst l ∧ l.Ok X.C := by
  obtain ⟨o, ho, hL⟩ := M.loc h
  cases hL with
  | blk k1 k2 k3 k4 => obtain ⟨c, _, _, r, _⟩ := g.spec k3; exact .inl ⟨c, r⟩
  | nil e1 e2 e3 =>
    subst e1
    cases g with
    | nil => exact .inr ⟨_, rfl, e3⟩
    | lst _ hb _ => have := get_lt _ hb; omega
theorem slice_cells (M : Mem X0 W X ob w) {x : AV CT} {v : Value} {lent : Bool} {l : LS CT (AV CT)} (hx : RV X x v) (hs : SliceR X.C ob x lent l) :
    ∃ a cap css, v = .slice a l.len cap ∧ SliceC X w lent l a css := by
  cases hs with
  | vnil =>
    rename_i k
    obtain ⟨rfl, hk⟩ := hx.vnil
    refine ⟨none, 0, [], by cases k <;> rfl, ?_, by cases k <;> simp [LK.nil, LS.len], by cases k <;> rfl, by simp, by simp, fun h => absurd (by cases k <;> rfl) h⟩
    cases k <;> exact hk
  | vs =>
    obtain ⟨hok, hh⟩ := hx.vs
    rcases hh with ⟨b, off, cap, c, rfl, hm, hcap, h1, h2⟩ | ⟨hz, a, cap, rfl⟩
    · have ex : ∀ j, j < l.len → ∃ a, l.get? X.C j = some a := by
        intro j hj
        cases l <;> simp only [LS.len] at hj <;> simp only [LS.get?, List.getElem?_eq_getElem hj] <;> exact ⟨_, rfl⟩
      have hsz : ∀ d ∈ (List.range l.len).map c, d.length = l.sz := by
        intro d hd
        obtain ⟨j, hj, rfl⟩ := List.mem_map.1 hd
        obtain ⟨a, ha⟩ := ex j (List.mem_range.1 hj)
        exact (h2 j a ha).2.1
      refine ⟨some ⟨b, off, none⟩, cap, (List.range l.len).map c, rfl, hok, hm, by simp, hsz, ?_, fun _ => ⟨b, off, rfl, ?_⟩⟩
      · intro j a d ha hd
        rw [List.getElem?_map] at hd
        have hj := get_lt _ ha
        rw [List.getElem?_range hj] at hd
        cases hd; exact h1 j a ha
      · intro j u hu
        obtain ⟨i, k, d, q1, q2, rfl⟩ := flat_at hsz hu
        rw [List.getElem?_map] at q1
        have hi : i < l.len := by
          rcases Nat.lt_or_ge i l.len with h | h
          · exact h
          · rw [List.getElem?_eq_none (by simpa using h)] at q1; cases q1
        rw [List.getElem?_range hi] at q1
        cases q1
        obtain ⟨a, ha⟩ := ex i hi
        have := M.stable (h2 i a ha).2.2 k u q2
        rwa [Nat.add_assoc] at this
    · refine ⟨a, cap, [], by rw [hz], hok, by omega, by simp [hz], by simp, by simp, fun h => absurd hz h⟩
  | mw hl =>
    rename_i id k
    obtain ⟨_, _, hloc⟩ := hx.mw
    obtain ⟨o, ho, hL⟩ := M.loc hl
    obtain ⟨hmx, hcase⟩ := hloc o ho
    cases hL with
    | nil g1 g2 g3 =>
      cases g1
      rcases hcase with ⟨_, _, q, _⟩ | ⟨_, _, rfl⟩
      · cases q
      · exact ⟨none, 0, [], by rw [g2], g3, by omega, by simp [g2], by simp, by simp, fun h => absurd g2 h⟩
    | blk k1 k2 k3 k4 =>
      rename_i b cp n c rest e f
      have hn := (k4 l rfl).1
      rcases hcase with ⟨b', cap, q1, q2, rfl⟩ | ⟨q, _⟩
      · cases q1
        cases k3 with
        | @lst _ css h0 h2 h3 h4 =>
          refine ⟨some ⟨b, 0, none⟩, cp, css, by simp [hn], h0, by rw [hn]; exact hmx, h2, h4, fun j a d ha hd => (h3 j a d ha hd).taint true, fun _ => ⟨b, 0, rfl, fun j u hu => ?_⟩⟩
          rw [cell_of k2, Nat.zero_add, List.getElem?_toArray, List.getElem?_append_left (List.getElem?_eq_some_iff.1 hu).1]
          exact hu
      · cases q
  | msA hl hg h1 h2 =>
    rename_i id p k off len cap n a l
    obtain ⟨_, _, hh⟩ := hx.ms
    have hlen : (l.ext off len).len = len := by rw [ext_len]; omega
    rcases hh with ⟨b, capc, q1, q2, q3, rfl⟩ | ⟨rfl, rfl, ad, capc, rfl⟩
    · obtain ⟨o, ho, _⟩ := M.loc hl
      obtain ⟨cp, hcp⟩ := q3 o ho
      obtain ⟨o1, o2⟩ := o
      simp only at hcp; subst hcp
      obtain ⟨c, hr, hc⟩ := M.at hl hg ho
      cases hr with
      | @arr _ _ css g0 g1 g2 g3 g4 =>
        refine ⟨_, capc, _, by rw [hlen, h2], part_cells g0 (by omega) g4 g3 h1 (by omega) hc⟩
    · refine ⟨ad, capc, [], by rw [hlen], ?_, by omega, by rw [hlen]; rfl, by simp, by simp, fun h => absurd hlen h⟩
      rcases M.okAt hl hg with ⟨c, hr⟩ | ⟨_, e, _⟩
      · exact ext_ok _ _ hr.arr_get.1
      · cases e
  | msL hl hg h1 h2 =>
    rename_i id p k off len cap a l
    obtain ⟨_, _, hh⟩ := hx.ms
    have hlen : (l.ext off len).len = len := by rw [ext_len]; omega
    rcases hh with ⟨b, capc, q1, q2, q3, rfl⟩ | ⟨rfl, rfl, ad, capc, rfl⟩
    · obtain ⟨o, ho, _⟩ := M.loc hl
      obtain ⟨cp, hcp⟩ := q3 o ho
      obtain ⟨o1, o2⟩ := o
      simp only at hcp; subst hcp
      obtain ⟨c, hr, hc⟩ := M.at hl hg ho
      cases hr with
      | @lst _ css g0 g2 g3 g4 =>
        refine ⟨_, capc, _, by rw [hlen, h2], part_cells g0 (by omega) g4 g3 h1 (by omega) hc⟩
    · refine ⟨ad, capc, [], by rw [hlen], ?_, by omega, by rw [hlen]; rfl, by simp, by simp, fun h => absurd hlen h⟩
      rcases M.okAt hl hg with ⟨c, hr⟩ | ⟨l', e, ho⟩
      · cases hr with
        | lst g0 _ _ _ => exact ext_ok _ _ g0
      · cases e; exact ext_ok _ _ ho
end
end Go.Proofs.Ytjnkppjlhmkjaaa.Av
