/- What texts build: structs, arrays, slices. -/
import Derived.Test.YtjnkppjlhmkjaaaAvOp11
import Derived.Laws.Tables
namespace Go.Proofs.Ytjnkppjlhmkjaaa.Av
open Go
variable {CT : Nat → Type}
theorem zip_set (off : Nat) : ∀ (vc A o D : List Value) (k : Nat), o.length = vc.length → A.length = off + k →
    ((vc.zipIdx k).foldl (fun (cs : Array Value) (p : Value × Nat) => cs.setIfInBounds (off + p.2) p.1) (A ++ (o ++ D)).toArray) = (A ++ (vc ++ D)).toArray
  | [], A, o, D, k, h, _ => by
    have : o = [] := List.length_eq_zero_iff.1 h
    subst this; simp
  | v :: vc, A, o, D, k, h, hA => by
    obtain ⟨o0, os, rfl⟩ : ∃ a b, o = a :: b := by cases o with | nil => simp at h | cons a b => exact ⟨a, b, rfl⟩
    simp only [List.zipIdx_cons, List.foldl_cons]
    have e : (A ++ (o0 :: os ++ D)).toArray.setIfInBounds (off + k) v = ((A ++ [v]) ++ (os ++ D)).toArray := by
      apply Array.ext'
      simp only [Array.toList_setIfInBounds]
      rw [← hA]
      simp
    rw [e, zip_set off vc (A ++ [v]) os D (k + 1) (by simpa using h) (by simp; omega)]
    simp
theorem fill_one {place : Nat → Option (Nat × Nat)} {i off : Nat} {v : Value} {rest : List (Nat × Value)} {A o D : List Value} (hp : place i = some (off, v.cells.size)) (ho : o.length = v.cells.size) (hA : A.length = off) :
    Instr.fill place (A ++ (o ++ D)).toArray ((i, v) :: rest) = Instr.fill place (A ++ (v.cells.toList ++ D)).toArray rest := by
  simp only [Instr.fill, hp]
  rw [if_neg]
  · congr 1
    have := zip_set off v.cells.toList A o D 0 (by simpa using ho) (by omega)
    rw [← this, ← Array.foldl_toList, Array.toList_zipIdx]
  · simp only [ne_eq, not_true, decide_false, Bool.false_or, decide_eq_true_eq]
    simp; omega
/-- Parts, and their values. -/
def PR (X : Cx CT) : List (Nat × AV CT) → List (Nat × Value) → Prop
  | [], [] => True
  | (i, a) :: ps, (j, v) :: qs => i = j ∧ RV X a v ∧ PR X ps qs
  | _, _ => False
theorem PR.mono {X Y : Cx CT} (E : Le X Y) : ∀ {ps : List (Nat × AV CT)} {qs : List (Nat × Value)}, PR X ps qs → PR Y ps qs
  | [], [], h => h
  | (i, a) :: ps, (j, v) :: qs, ⟨h1, h2, h3⟩ => ⟨h1, h2.mono E, PR.mono E h3⟩
theorem SetL.cells {X : Cx CT} {l l' : LS CT (AV CT)} {i : Nat} {v : AV CT} (h : SetL X.C l i v l') {vc : List Value} (hv : R X v vc) {c : List Value} (hr : R X (.lst l) c) (hi : i < l.len) :
    ∃ o A B, c = A ++ (o ++ B) ∧ A.length = i * l.sz ∧ o.length = l.sz ∧ vc.length = l.sz ∧ R X (.lst l') (A ++ (vc ++ B)) := by
  cases hr with
  | @lst _ css h0 h2 hR h4 =>
    obtain ⟨d, hd⟩ : ∃ d, css[i]? = some d := ⟨css[i]'(by omega), List.getElem?_eq_getElem (by omega)⟩
    have e := set_split css i d vc hd
    refine ⟨d, (css.take i).flatten, (css.drop (i + 1)).flatten, e.1, by rw [off_arr h4 i (by omega), Nat.mul_comm], h4 d (List.mem_of_getElem? hd), h.size h0 hv, ?_⟩
    rw [← e.2]
    refine .lst (h.len.2.2 h0) (by rw [h.len.1]; simpa using h2) (fun j a c ha hc => ?_) (fun c hc => ?_)
    · rcases h.get hv ha with ⟨rfl, hr⟩ | ⟨hne, hg⟩
      · rw [List.getElem?_set_self (by omega)] at hc
        cases hc; exact hr
      · rw [List.getElem?_set_ne (Ne.symm hne)] at hc
        exact hR j a c hg hc
    · rw [h.len.2.1]
      rcases List.mem_or_eq_of_mem_set hc with hc | rfl
      · exact h4 c hc
      · exact h.size h0 hv
section
variable {P : Program} {T : TyTab CT} {CR : CallR CT} {X0 : Cx CT} {W w : World} {ob' : Ob CT} {r : AV CT} {α : Type} {v : α}
theorem fillParts_ok : ∀ {ps : List (Nat × AV CT)} {qs : List (Nat × Value)} {X : Cx CT} {ob : Ob CT} {l : LS CT (AV CT)} {c : List Value} {k : LS CT (AV CT) → M CT α}, X.C = T.C → Mem X0 W X ob w → R X (.lst l) c → PR X ps qs →
    Ev CR (fillParts T ps l k) ob v ob' → ∃ l' c' X1 ob1, Le X X1 ∧ Mem X0 W X1 ob1 w ∧ R X1 (.lst l') c' ∧ l'.len = l.len ∧ l'.sz = l.sz ∧ Instr.fill (fun i => some (i * l.sz, l.sz)) c.toArray qs = some c'.toArray ∧ Ev CR (k l') ob1 v ob'
  | [], [], X, ob, l, c, k, _, M, hr, _, h => ⟨l, c, X, ob, .refl X, M, hr, rfl, rfl, rfl, h⟩
  | (i, a) :: ps, (j, u) :: qs, X, ob, l, c, k, hC, M, hr, ⟨hij, hu, hp⟩, h => by
    subst hij
    simp only [fillParts] at h
    obtain ⟨hi, h⟩ := cond_fail h
    have hi := Nat.ble_eq.mp (by simpa [Nat.blt] using hi)
    obtain ⟨a', ob1, X1, E1, M1, r1, h1⟩ := pub_rv deep M hu h
    obtain ⟨l1, hs, h2⟩ := h1.setM_inv
    have hcell : RC X1 a' u := by
      refine r1.rc ?_
      cases hs with
      | typ hd =>
        have := T.C.dec_ok _ _ _ hd
        cases a' <;> first | rfl | (have hc := congrArg AV.isCell this; rw [T.C.cell_ok] at hc; exact hc.symm)
      | gen h _ => exact h
      | _ => rfl
    have hC1 : X1.C = T.C := E1.C.trans hC
    obtain ⟨o, A, B, q1, q2, q3, q4, q5⟩ := SetL.cells (X := X1) (hC1 ▸ hs) hcell.1 (hr.mono E1) (by omega)
    obtain ⟨l', c', X2, ob2, E2, M2, g1, g2, g3, g4, g5⟩ := fillParts_ok (hC1) M1 q5 (hp.mono E1) h2
    refine ⟨l', c', X2, ob2, E1.trans E2, M2, g1, g2.trans hs.len.1, g3.trans hs.len.2.1, ?_, g5⟩
    rw [hs.len.2.1] at g4
    rw [q1, fill_one (off := i * l.sz) (by simp at q4; rw [q4]) (by rw [q3]; simpa using q4.symm) q2]
    exact g4
  | [], _ :: _, _, _, _, _, _, _, _, _, h, _ => h.elim
  | _ :: _, [], _, _, _, _, _, _, _, _, h, _ => h.elim
theorem fillGen_ok {X : Cx CT} {ob : Ob CT} : ∀ {ps : List (Nat × AV CT)} {qs : List (Nat × Value)} {s : Nat} {l : List (AV CT)} {c : List Value} {k : List (AV CT) → M CT α}, R X (.lst (.gen s l)) c → PR X ps qs →
    Ev CR (fillGen s ps l k) ob v ob' → ∃ l' c', R X (.lst (.gen s l')) c' ∧ l'.length = l.length ∧ Instr.fill (fun i => some (i * s, s)) c.toArray qs = some c'.toArray ∧ Ev CR (k l') ob v ob'
  | [], [], s, l, c, k, hr, _, h => ⟨l, c, hr, rfl, rfl, h⟩
  | (i, a) :: ps, (j, u) :: qs, s, l, c, k, hr, ⟨hij, hu, hp⟩, h => by
    subst hij
    simp only [fillGen] at h
    obtain ⟨hi, h⟩ := cond_fail h
    simp only [Bool.and_eq_true] at hi
    have h1 := Nat.ble_eq.mp (by simpa [Nat.blt] using hi.1)
    have hcell : RC X a u := hu.rc hi.2.1
    obtain ⟨o, A, B, q1, q2, q3, q4, q5⟩ := SetL.cells (X := X) (.gen (l := l) (i := i) hi.2.1 (Nat.eq_of_beq_eq_true hi.2.2)) hcell.1 hr (by simp only [LS.len]; omega)
    simp only [LS.sz] at q2 q3 q4
    obtain ⟨l', c', g1, g2, g3, g4⟩ := fillGen_ok q5 hp h
    refine ⟨l', c', g1, by simpa using g2, ?_, g4⟩
    rw [q1, fill_one (off := i * s) (by simp at q4; rw [q4]) (by rw [q3]; simpa using q4.symm) q2]
    exact g3
  | [], _ :: _, _, _, _, _, _, h, _ => h.elim
  | _ :: _, [], _, _, _, _, _, h, _ => h.elim
theorem fillFields_ok (H : TabOk P T) {X : Cx CT} {ob : Ob CT} (hC : X.C = T.C) {fts : List (Nat × Nat)} {place : Nat → Option (Nat × Nat)} (hpl : ∀ (j : Nat) (ft : Nat × Nat), fts[j]? = some ft → place j = some (ft.2, T.sz ft.1)) :
    ∀ {ps : List (Nat × AV CT)} {qs : List (Nat × Value)} {s : Nat} {fs : List (AV CT)} {c : List Value} {k : List (AV CT) → M CT α}, R X (.agg s fs) c → PR X ps qs →
    Ev CR (fillFields T fts ps fs k) ob v ob' → ∃ fs' c', R X (.agg s fs') c' ∧ Instr.fill place c.toArray qs = some c'.toArray ∧ Ev CR (k fs') ob v ob'
  | [], [], s, l, c, k, hr, _, h => ⟨l, c, hr, rfl, h⟩
  | (j, a) :: ps, (j', u) :: qs, s, fs, c, k, hr, ⟨hij, hu, hp⟩, h => by
    subst hij
    simp only [fillFields] at h
    split at h
    · rename_i old ft ho hf
      obtain ⟨hi, h⟩ := cond_fail h
      simp only [Bool.and_eq_true] at hi
      have hF := fits_spec hi.2.1
      have hcell : RC X (fixN T ft.1 a) u := (hu.fixed H hC).rc hF.2.1
      obtain ⟨o, A, B, q1, q2, q3, q4⟩ := SetR.spec (X := X) (.fld (Nat.eq_of_beq_eq_true hi.1) ho (.nil hi.2.2)) hr hcell.1
      obtain ⟨fs', c', g1, g2, g3⟩ := fillFields_ok H hC hpl q4 hp h
      have hsz : u.cells.size = T.sz ft.1 := by have := hcell.1.size; rw [hF.2.2.2.1] at this; simpa using this
      refine ⟨fs', c', g1, ?_, g3⟩
      rw [q1, fill_one (off := ft.2) (by rw [hpl j ft hf, hsz]) (by rw [q3]; simp) (by rw [q2]; simp [pathOff, Step.off])]
      exact g2
    · exact h.fail_inv.elim
  | [], _ :: _, _, _, _, _, _, h, _ => h.elim
  | _ :: _, [], _, _, _, _, _, h, _ => h.elim
theorem places_run (H : TabOk P T) : ∀ (gs : List Field), (∀ f ∈ gs, T.d f.type ≠ .bad) → gs.mapM (fun f => (P.info? f.type).map fun i => (f.offset, i.size)) = some (gs.map fun f => (f.offset, T.sz f.type))
  | [], _ => rfl
  | f :: gs, h => by
    obtain ⟨i, hi, hs, _⟩ := H.info (h f List.mem_cons_self)
    simp [List.mapM_cons, hi, hs, places_run H gs fun g hg => h g (List.mem_cons_of_mem _ hg)]
theorem arr_lst {X : Cx CT} {n : Nat} {l : LS CT (AV CT)} {c : List Value} (h : R X (.arr n l) c) : R X (.lst l) c ∧ l.len = n := by
  cases h with
  | arr h0 h1 h2 h3 h4 => exact ⟨.lst h0 (h2.trans h1.symm) h3 h4, h1⟩
theorem lst_arr {X : Cx CT} {n : Nat} {l : LS CT (AV CT)} {c : List Value} (h : R X (.lst l) c) (hn : l.len = n) : R X (.arr n l) c := by
  cases h with
  | lst h0 h2 h3 h4 => exact .arr h0 hn (h2.trans hn) h3 h4
theorem PR.fixed (H : TabOk P T) {X : Cx CT} (hC : X.C = T.C) {e : Nat} : ∀ {ps : List (Nat × AV CT)} {qs : List (Nat × Value)}, PR X ps qs → PR X (ps.map fun p => (p.1, fixN T e p.2)) qs
  | [], [], h => h
  | (i, a) :: ps, (j, v) :: qs, ⟨h1, h2, h3⟩ => ⟨h1, h2.fixed H hC, PR.fixed H hC h3⟩
theorem build_good (H : TabOk P T) {X : Cx CT} {ob : Ob CT} (hC : X.C = T.C) (M : Mem X0 W X ob w) {t : Nat} {ps : List (Nat × AV CT)} {qs : Array (Nat × Value)} (hp : PR X ps qs.toList)
    (h : Ev CR (buildM T t ps .ret) ob r ob') : Good P X0 X W w (do Pure.pure (.value (← Instr.build t qs))) r ob' := by
  unfold buildM fixP at h
  split at h
  · rename_i fts hd
    obtain ⟨gs, hg, hm⟩ := H.strct hd
    obtain ⟨i, u, z, hi, hu, _, _, _, hz, hzr, _, _, _⟩ := H.ok t (by rw [hd]; simp)
    have hzr := hzr X hC
    split at h
    · rename_i s fs hz0
      rw [hz0] at hzr
      have hgt : ∀ f ∈ gs.toList, T.d f.type ≠ .bad := fun f hf => (H.fld t fts hd (f.type, f.offset) (by rw [← hm]; exact List.mem_map.2 ⟨f, hf, rfl⟩)).1
      obtain ⟨fs', c', g1, g2, g3⟩ := fillFields_ok (place := fun j => (gs.toList.map fun f => (f.offset, T.sz f.type))[j]?) H hC (fun j ft hf => by
        rw [← hm, List.getElem?_map, Option.map_eq_some_iff] at hf
        obtain ⟨f, h1, rfl⟩ := hf
        simp only [List.getElem?_map, h1, Option.map_some]) hzr.1 hp h
      obtain ⟨rfl, rfl⟩ := g3.ret_inv
      refine .of_run M (u := .agg c'.toArray) (run_build w t qs c'.toArray ?_) (g1.rca rfl).rv
      unfold Program.built
      have hpl := places_run H gs.toList hgt
      simp only [hi, hg, hz, hpl]
      simpa using g2
    · exact h.fail_inv.elim
  · rename_i m e hd
    have he := H.elA _ _ _ hd
    obtain ⟨i, u, z, hi, hu, _, _, _, hz, hzr, _, _, _⟩ := H.ok t (by rw [hd]; simp)
    obtain ⟨ie, hie, hes, _⟩ := H.info he.1
    have hzr := hzr X hC
    split at h
    · rename_i n l hz0
      rw [hz0] at hzr
      obtain ⟨hs, h⟩ := cond_fail h
      have hs := Nat.eq_of_beq_eq_true hs
      obtain ⟨hl, hn⟩ := arr_lst hzr.1
      obtain ⟨l', c', X1, ob1, E1, M1, g1, g2, g3, g4, g5⟩ := fillParts_ok hC M hl (hp.fixed H hC) h
      obtain ⟨rfl, rfl⟩ := g5.ret_inv
      refine .of_step E1 M1 (u := .agg c'.toArray) (run_build w t qs c'.toArray ?_) ((lst_arr g1 (g2.trans hn)).rca rfl).rv
      unfold Program.built
      simp only [hi, H.arr hd, hz, hie, hes]
      rw [hs] at g4
      simpa using g4
    · exact h.fail_inv.elim
  · exact h.fail_inv.elim
theorem buildSlice_good (H : TabOk P T) {X : Cx CT} {ob : Ob CT} (hC : X.C = T.C) (M : Mem X0 W X ob w) {t d len : Nat} {ps : List (Nat × AV CT)} {qs : Array (Nat × Value)} (hp : PR X ps qs.toList)
    (h : Ev CR (buildSliceM T d t len ps .ret) ob r ob') : Good P X0 X W w (do Pure.pure (.value (← Instr.buildSlice t len qs))) r ob' := by
  unfold buildSliceM at h
  split at h
  case h_2 => exact h.fail_inv.elim
  rename_i e hd
  obtain ⟨hb, h⟩ := cond_fail h
  simp only [Bool.and_eq_true] at hb
  have hb1 := Nat.ble_eq.mp hb.1
  have hb2 := Nat.ble_eq.mp hb.2
  have he := H.elS _ _ hd
  obtain ⟨i, u, z, hi, hu, _, his, _, hz, hzr, hzl, hzc, hzs⟩ := H.ok e he
  have hlk := H.lk e he
  have hzr := hzr X hC
  have hbig : ¬ (2 ^ 24 < len * T.sz e) := by omega
  have hm : len ≤ maxI := by simp only [maxI]; omega
  have hcells : (Array.range (len * T.sz e)).map (z.cells[· % z.cells.size]!) = ((List.replicate len z.cells.toList).flatten).toArray := by
    apply Array.ext'
    rw [zero_cells hzs]
  have hr0 : Array.range 0 = (#[] : Array Nat) := by apply Array.ext'; simp
  have hcells0 : len * T.sz e = 0 → (List.replicate len z.cells.toList).flatten.toArray = #[] := by
    intro h0; rw [← hcells, h0, hr0]; simp
  have fin : ∀ {l : LS CT (AV CT)} {c' : List Value} {X1 : Cx CT} {ob1 : Ob CT}, Le X X1 → Mem X0 W X1 ob1 w → R X1 (.lst l) c' → l.len = len → l.sz = T.sz e → c'.length = len * T.sz e → Instr.fill (fun i => some (i * T.sz e, T.sz e)) (List.replicate len z.cells.toList).flatten.toArray qs.toList = some c'.toArray →
      Ev CR (newObj d (.lst l) (.ret (.mw d (T.lk e)))) ob1 r ob' → Good P X0 X W w (do Pure.pure (.value (← Instr.buildSlice t len qs))) r ob' := by
    intro l c' X1 ob1 E1 M1 hR hl hls hcl hfill h
    obtain ⟨g1, g2, g3⟩ := h.newObj_inv
    obtain ⟨rfl, rfl⟩ := g3.ret_inv
    obtain ⟨E, M'⟩ := M1.new g1 g2 hR (rest := []) (e := e) (cp := len) (n := len) (fun l' e' => by
      cases e'
      exact ⟨hl, hm, Nat.le_refl _, by rw [List.append_nil, hcl, hls]⟩) (cells := c'.toArray) (by simp) w.drawn
    refine .of_step (E1.trans E) M' (u := .slice (some ⟨w.heap.size, 0, none⟩) len len) ?_ (mw_new (E1.C ▸ hC ▸ hlk.2) hm (Nat.le_refl _))
    have hfill0 := hfill
    by_cases h0 : len * T.sz e = 0
    · rw [hcells0 h0] at hfill
      simp [Instr.buildSlice, run_underlying (H.slc hd), H.size w he, h0, hr0, hfill, newRow]
    · rw [← hcells] at hfill
      have hfill : Instr.fill (fun i => some (i * T.sz e, T.sz e)) ((Array.range (len * T.sz e)).map fun x => z.cells[x % z.cells.size]!) qs.toList = some c'.toArray := hfill
      simp [Instr.buildSlice, run_underlying (H.slc hd), H.size w he, h0, hbig, zeroValue, typeInfo, hi, hz, hfill, newRow]
  have hp' := hp.fixed H hC (e := e)
  unfold buildSliceM' fixP at h
  generalize hps : (ps.map fun p => (p.1, fixN T e p.2)) = ps' at h hp'
  cases hany : anyIds ps' with
  | true =>
    simp only [hany, cond_true] at h
    have hsz : (T.zero e).size = T.sz e := by have := hzr.1.size; simp at this; rw [← this]; exact hzs
    have h0 : R X (.lst (.gen (T.sz e) (List.replicate len (T.zero e)))) (List.replicate len z.cells.toList).flatten := by
      refine .lst trivial (by simp [LS.len]) (fun j a c ha hc => ?_) (fun c hc => ?_)
      · simp only [LS.get?] at ha
        rw [List.getElem?_replicate] at ha hc
        split at ha
        · rename_i hj; rw [if_pos hj] at hc; cases ha; cases hc; exact hzr.1
        · cases ha
      · rw [(List.mem_replicate.1 hc).2]; simp only [LS.sz]; simpa using hzs
    obtain ⟨l', c', g1, g2, g3, g4⟩ := fillGen_ok h0 hp' h
    refine fin (.refl X) M g1 (by simp only [LS.len, g2]; simp) rfl ?_ g3 g4
    have := g1.size
    rw [this]; simp only [AV.size, LS.len, LS.sz, g2, List.length_replicate]
  | false =>
    simp only [hany, cond_false] at h
    split at h
    case h_2 => exact h.fail_inv.elim
    rename_i l hl
    obtain ⟨r1, r2, r3, r4⟩ := rep_spec hl hlk.2
    have r4 := r4 X hC hzr.1
    have hls : l.sz = T.sz e := by rw [← LS.kindSz, r3, hlk.1]
    obtain ⟨l', c', X1, ob1, E1, M1, g1, g2, g3, g4, g5⟩ := fillParts_ok hC M (rep_lst r1 r2 hC r4.1 r4.2) hp' h
    refine fin E1 M1 g1 (g2.trans r1) (g3.trans hls) ?_ (by rw [hls] at g4; exact g4) g5
    have := g1.size
    rw [this]; simp only [AV.size, g2, g3, r1, hls]
end
end Go.Proofs.Ytjnkppjlhmkjaaa.Av
