/- Conversions. -/
import Derived.Test.YtjnkppjlhmkjaaaAvOp6
import Derived.Laws.BytesString
namespace Go.Proofs.Ytjnkppjlhmkjaaa.Av
open Go
variable {CT : Nat → Type}

section
variable {P : Program} {T : TyTab CT} {CR : CallR CT} {X0 X : Cx CT} {W w : World} {ob ob' : Ob CT} {r : AV CT}

/-- Lists of one-cell things in cells. -/
theorem flat_map {α : Type} (f : α → Value) : ∀ (la : List α) (css : List (List Value)), css.length = la.length → (∀ (j : Nat) (a : α) (c : List Value), la[j]? = some a → css[j]? = some c → c = [f a]) → css.flatten = la.map f := by
  intro la
  induction la with
  | nil => intro css h _; cases css <;> simp at h ⊢
  | cons a la ih =>
    intro css h hc
    cases css with
    | nil => simp at h
    | cons c css =>
      have := hc 0 a c rfl rfl
      subst this
      simp only [List.flatten_cons, List.map_cons, List.singleton_append]
      rw [ih css (by simpa using h) fun j a c ha hc' => hc (j + 1) a c (by simpa using ha) (by simpa using hc')]
theorem push_all (bs : List UInt8) : ∀ acc : ByteArray, (bs.map fun b => (b.toNat : Int)).foldl (fun r n => r.push (UInt8.ofNat n.toNat)) acc = ⟨acc.data ++ bs.toArray⟩ := by
  induction bs with
  | nil => intro acc; apply ByteArray.ext; simp
  | cons b bs ih =>
    intro acc
    simp only [List.map_cons, List.foldl_cons, ih]
    apply ByteArray.ext
    apply Array.ext'
    simp [ByteArray.push]
theorem u8_cells {lent : Bool} {bs : List UInt8} {a : Option Addr} {css : List (List Value)} (S : SliceC X w lent (.u8 bs) a css) : css.flatten = bs.map fun b => .int .u8 (b.toNat : Int) := by
  refine flat_map _ bs css S.n fun j b c hb hc => ?_
  have := S.el j (.int .u8 b.toNat) c (by simp [LS.get?, hb]) hc
  cases this; rfl
theorem freeze_heap {w1 : World} {b n : Nat} {cs : Array Value} {e : TypeId} (h : w1.heap[b]? = some (.cells cs e (0, 0))) : (w1.freeze ⟨b, n, none⟩ 1).heap[b]? = some (.cells cs e (n, n + 1)) := by
  simp [World.freeze, Array.getElem?_modify, h]
theorem freeze_other {w1 : World} {b n k : Nat} (h : k ≠ b) : (w1.freeze ⟨b, n, none⟩ 1).heap[k]? = w1.heap[k]? := by
  simp only [World.freeze]
  rw [if_neg (by decide)]
  simp only [Array.getElem?_modify]
  rw [if_neg (Ne.symm h)]
theorem toBytes_good (hC : X.C = T.C) (M : Mem X0 W X ob w) {d e : Nat} {s : List UInt8} (hm : s.length ≤ maxI) (h : Ev CR (newObj d (.lst (.u8 s)) (.ret (.mw d .u8))) ob r ob') :
    Good P X0 X W w (do Pure.pure (.value (← Conv.stringToBytes e ⟨s.toArray⟩))) r ob' := by
  obtain ⟨g1, g2, g3⟩ := h.newObj_inv
  obtain ⟨rfl, rfl⟩ := g3.ret_inv
  have hsz : (⟨s.toArray⟩ : ByteArray).size = s.length := by simp [ByteArray.size]
  let cap := (Question.appendCap s.length 0 e).cut (w.tape w.drawn (.appendCap s.length 0 e))
  have hcap : s.length ≤ cap := Nat.le_add_right _ _
  let c : List Value := s.map fun b => .int .u8 (b.toNat : Int)
  let rest : List Value := List.replicate (cap - s.length) (.int .u8 0)
  have hlen : (c ++ rest).length = cap := by simp [c, rest]; omega
  let w1 : World := { w with heap := w.heap.push (.cells (c ++ rest).toArray e), drawn := w.drawn + 1 }
  let w' := w1.freeze ⟨w.heap.size, cap, none⟩ 1
  have hw1 : w1.heap[w.heap.size]? = some (.cells (c ++ rest).toArray e (0, 0)) := by simp [w1]
  have F := M.fresh
  have hR : R X (.lst (.u8 s)) c := by
    have := R.lst (X := X) (l := .u8 s) (css := s.map fun b => [.int .u8 (b.toNat : Int)]) trivial (by simp [LS.len]) ?_ ?_
    · have e : (s.map fun b => [Value.int .u8 (b.toNat : Int)]).flatten = c := flat_map _ s _ (by simp) (fun j a d ha hd => by
        rw [List.getElem?_map, ha] at hd; exact (Option.some.inj hd).symm)
      rw [e] at this; exact this
    · intro j a d ha hd
      simp only [LS.get?] at ha
      rw [List.getElem?_map] at hd
      cases hs : s[j]? with
      | none => rw [hs] at ha; cases ha
      | some b =>
        rw [hs] at ha hd
        cases ha; cases hd
        have := b.toNat_lt
        exact .int (by show (0 : Int) ≤ _; omega) (by show _ ≤ (255 : Int); omega)
    · intro d hd
      obtain ⟨b, _, rfl⟩ := List.mem_map.1 hd; rfl
  obtain ⟨E, M'⟩ := M.set (w' := w') (id := d) (b := w.heap.size) (cp := cap) (n := s.length) (.inl g1) (.inl M.size) F.1 F.2.1 (fun j c n _ => F.2.2 j c n) rfl rfl rfl
    (by show _ ≤ (w1.freeze _ 1).heap.size; simp [World.freeze, w1]) (fun k hk hlt => by
      show (w1.freeze _ 1).heap[k]? = _
      rw [freeze_other hk]; show (w.heap.push _)[k]? = _; rw [Array.getElem?_push, if_neg hk]) g2 (c := c) (rest := rest) (f := (cap, cap + 1)) (.inr (by rw [hlen]; exact Nat.le_refl _)) (freeze_heap hw1) hR
    (fun l e => by cases e; exact ⟨rfl, hm, hcap, by rw [hlen]; exact Nat.mul_one _⟩)
  refine .of_step E M' (u := .slice (some ⟨w.heap.size, 0, none⟩) s.length cap) ?_ (mw_new trivial hm hcap)
  have hcells : (s.toArray.map fun b : UInt8 => Value.int .u8 (b.toNat : Int)) ++ Array.replicate (cap - s.length) (.int .u8 0) = (c ++ rest).toArray := by
    apply Array.ext'; simp [c, rest]
  have hch : (choose (.appendCap s.length 0 e)).run P w = .ok cap { w with drawn := w.drawn + 1 } := by
    rw [run_choose]; rfl
  have hshape : w1.shape? w.heap.size = some (e, cap) := by
    simp only [World.shape?, hw1]; simp only [List.size_toArray, hlen]
  simp only [Conv.stringToBytes, Sem.run_bind, hsz, hch, Result.andThen_ok, hcells, newRow, run_newObj, Sem.run_pure, markStringish, run_shape]
  have hshape' : ({ heap := w.heap.push (.cells (c ++ rest).toArray e), tape := w.tape, drawn := w.drawn + 1, os := w.os, output := w.output } : World).shape? w.heap.size = some (e, cap) := hshape
  rw [hshape']
  rfl
theorem freeze_fr {w1 : World} {b n : Nat} {cs : Array Value} {e : TypeId} {f : Nat × Nat} (hf : FrOk f n) (h : w1.heap[b]? = some (.cells cs e f)) : ∃ f', FrOk f' n ∧ (w1.freeze ⟨b, n, none⟩ 1).heap[b]? = some (.cells cs e f') := by
  obtain ⟨lo, hi⟩ := f
  refine ⟨if lo == hi then (n, n + 1) else (min lo n, max hi (n + 1)), ?_, ?_⟩
  · rcases hf with hf | hf
    · cases hf; exact .inr (by simp)
    · right
      simp only at hf
      split
      · simp
      · simp only [Nat.min_def]; split <;> omega
  · simp [World.freeze, Array.getElem?_modify, h]
theorem sameBytes_good (H : TabOk P T) (hC : X.C = T.C) (M : Mem X0 W X ob w) {s e id : Nat} {k : LK} {v : Value} (hx : RV X (.mw id k) v) (hd : T.d s = .slc e) (he : T.d e = .int .u8)
    (h : Ev CR (rdLst id fun l => cond (Nat.blt 0 l.len) (.wr id (some (.lst l)) (.ret (.mw id k))) .fail) ob r ob') : Good P X0 X W w (do Pure.pure (.value (← convert s s v))) r ob' := by
  obtain ⟨l, hl, h⟩ := h.rdLst_inv
  obtain ⟨hlt, h⟩ := cond_fail h
  have hlt := Nat.blt_eq.mp hlt
  obtain ⟨rfl, rfl⟩ := h.wr_inv.ret_inv
  have hx' := hx
  obtain ⟨_, _, hloc⟩ := hx.mw
  obtain ⟨o, ho, hL⟩ := M.loc hl
  obtain ⟨hmx, hcase⟩ := hloc o ho
  cases hL with
  | nil g1 g2 g3 => cases g1; omega
  | blk k1 k2 k3 k4 =>
    rename_i b cp n c rest ee f
    rcases hcase with ⟨b', cap, q1, q2, rfl⟩ | ⟨q, _⟩
    case inr => cases q
    cases q1
    have L := M.locIn id b cp n ho
    obtain ⟨f', hf', hb'⟩ := freeze_fr (n := (c ++ rest).length) k1.2 k2
    obtain ⟨E, M'⟩ := M.set (w' := w.freeze ⟨b, (c ++ rest).length, none⟩ 1) (id := id) (b := b) (cp := cp) (n := n) (.inr ho) L.1 L.2.1 L.2.2
      (fun j c n hj e => hj (M.inj _ _ _ _ _ _ _ e ho)) rfl rfl rfl (by simp [World.freeze]) (fun k hk hlt => freeze_other hk) k1.1 hf' hb' k3 k4
    refine .of_step E M' (u := .slice (some ⟨b, 0, none⟩) n cp) ?_ (hx'.mono E)
    have hsh : w.shape? b = some (ee, (c ++ rest).length) := by simp only [World.shape?, k2, List.size_toArray]
    simp only [convert, Sem.run_bind, run_underlying (H.slc hd), Result.andThen_ok, run_underlying (H.int he), beq_self_eq_true, markStringish, run_shape, hsh, run_freeze, Sem.run_pure]
theorem conv_good (H : TabOk P T) (hC : X.C = T.C) (M : Mem X0 W X ob w) {s t d : Nat} {x : AV CT} {v : Value} (hx : RV X x v) (hs : T.d s ≠ .bad)
    (h : Ev CR (convM T d s t x .ret) ob r ob') : Good P X0 X W w (do Pure.pure (.value (← convert s t v))) r ob' := by
  obtain ⟨_, us, _, _, hus, hds, _⟩ := H.ok s hs
  unfold convM at h
  split at h
  · rename_i k k' n hd
    obtain ⟨rfl, rfl⟩ := h.ret_inv
    obtain ⟨rfl, _⟩ := hx.int
    exact .of_run M (by simp [convert, run_underlying hus, run_underlying (H.int hd), Conv.intToInt]) (RV.of_int (wrap_lo _ _) (wrap_hi _ _))
  · rename_i k k' n hd
    obtain ⟨rfl, rfl⟩ := h.ret_inv
    obtain ⟨rfl, _⟩ := hx.int
    exact .of_run M (by simp [convert, run_underlying hus, run_underlying (H.flt hd), Conv.intToFloat]) RV.of_flt
  · rename_i k k' b hd
    obtain ⟨n, hn, h⟩ := h.ui_inv
    obtain ⟨hb, h⟩ := h.gd_inv
    obtain ⟨rfl, rfl⟩ := h.ret_inv
    obtain rfl := hx.flt
    simp only [Bool.and_eq_true, decide_eq_true_eq] at hb
    exact .of_run M (by simp [convert, run_underlying hus, run_underlying (H.int hd), Conv.floatToInt, hn, hb]) (RV.of_int hb.1 hb.2)
  · rename_i k k' b hd
    obtain ⟨hk, h'⟩ := cond_fail h
    clear h
    obtain rfl := fkindEq_eq hk
    obtain ⟨rfl, rfl⟩ := h'.ret_inv
    obtain rfl := hx.flt
    exact .of_run M (by simp [convert, run_underlying hus, run_underlying (H.flt hd), Conv.floatToFloat]) RV.of_flt
  · rename_i k k' a b hd
    obtain ⟨hk, h'⟩ := cond_fail h
    clear h
    obtain rfl := fkindEq_eq hk
    obtain ⟨rfl, rfl⟩ := h'.ret_inv
    obtain rfl := hx.cpx
    exact .of_run M (by simp [convert, run_underlying hus, run_underlying (H.cpx hd), Conv.complexToComplex, Conv.floatToFloat]) RV.of_cpx
  · rename_i b hd
    obtain ⟨rfl, rfl⟩ := h.ret_inv
    obtain ⟨rfl, hm⟩ := hx.str
    exact .of_run M (by simp [convert, run_underlying hus, run_underlying (H.str hd)]) (RV.of_str hm)
  · rename_i e s0 hd hsl
    split at h
    case h_2 => exact h.fail_inv.elim
    rename_i he
    obtain ⟨rfl, hm⟩ := hx.str
    obtain ⟨u, w', X', hr, g⟩ := toBytes_good (P := P) (e := e) hC M hm h
    refine ⟨u, w', X', ?_, g⟩
    have : (convert s t (.string ⟨s0.toArray⟩)).run P w = (Conv.stringToBytes e ⟨s0.toArray⟩).run P w := by
      simp [convert, run_underlying (H.str hd), run_underlying (H.slc hsl), run_underlying (H.int he)]
    simpa [this] using hr
  · rename_i e hsl hd _
    split at h
    case h_2 => exact h.fail_inv.elim
    rename_i he
    obtain ⟨lent, l, hS, h⟩ := h.sliceOf_inv
    split at h
    case h_2 => exact h.fail_inv.elim
    rename_i bs
    obtain ⟨rfl, rfl⟩ := h.ret_inv
    obtain ⟨a, cap, css, rfl, S⟩ := slice_cells M hx (hC ▸ hS)
    have hm : bs.length ≤ maxI := S.le
    have hcells := u8_cells S
    have conv : convert s t (.slice a bs.length cap) = convert s t (.slice a bs.length cap) := rfl
    have hrun : (convert s t (.slice a bs.length cap)).run P w = (Conv.bytesToString (.slice a bs.length cap)).run P w := by
      simp [convert, run_underlying (H.slc hsl), run_underlying (H.str hd), run_underlying (H.int he)]
    refine .of_run M (u := .string ⟨bs.toArray⟩) ?_ (RV.of_str hm)
    show (convert s t (.slice a bs.length cap)).run P w = _
    rw [hrun]
    have fin : (bs.map fun b => (b.toNat : Int)).foldl (fun r n => r.push (UInt8.ofNat n.toNat)) ByteArray.empty = ⟨bs.toArray⟩ := by
      rw [push_all]; apply ByteArray.ext; apply Array.ext'; simp
    cases a with
    | none =>
      have : bs.length = 0 := by
        rcases Nat.eq_zero_or_pos bs.length with h | h
        · exact h
        · obtain ⟨_, _, e, _⟩ := S.at_ (by show bs.length ≠ 0; omega); cases e
      have : bs = [] := List.length_eq_zero_iff.1 this
      subst this
      simp [Conv.bytesToString]; rfl
    | some ad =>
      have hl : (loadCells ad bs.length).run P w = .ok ((bs.map fun b => (b.toNat : Int)).map (Value.int .u8)).toArray w := by
        have := run_loadCells_list (P := P) w ad (bs.map fun b => Value.int .u8 (b.toNat : Int)) (fun j v hj => by
          obtain ⟨b, off, e, hc⟩ := S.at_ (by
            show bs.length ≠ 0
            have := (List.getElem?_eq_some_iff.1 hj).1; simp at this; omega)
          cases e
          rw [addr_add]; exact hc j v (hcells ▸ hj))
        simpa [Function.comp_def] using this
      rw [run_bytesToString w ad bs.length cap _ hl, fin]
  · rename_i e0 e id k hd hs'
    split at h
    case h_2 => exact h.fail_inv.elim
    rename_i he
    obtain ⟨hst, h'⟩ := cond_fail h
    clear h
    obtain rfl := Nat.eq_of_beq_eq_true hst
    exact sameBytes_good H hC M hx hs' he h'
  · exact h.fail_inv.elim
end
end Go.Proofs.Ytjnkppjlhmkjaaa.Av
