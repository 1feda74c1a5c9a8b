/- Tables of calls and loops; the table of types, asked of the program. -/
import Derived.Test.YtjnkppjlhmkjaaaAvFn
import Derived.KernelRfl
namespace Go.Proofs.Ytjnkppjlhmkjaaa.Av
open Go
variable {CT : Nat → Type}
/-- What is told of a function is true. -/
def SpecOk (P : Program) (C : Cod CT) (f : Nat) (s : PSpec CT) : Prop :=
  ∀ (β : Type) (args objs : List (AV CT)) (F : (Res CT → Option β) → Option β) (K : Res CT → Option β) (r : β), s β args objs = some F → F K = some r → ∃ res, CallsOk P C f args objs res ∧ K res = some r
theorem gl_nil (P : Program) (C : Cod CT) : GamOk (CallsOk P C) (gl ([] : List (Nat × PSpec CT))) := fun β f args objs K r h => by cases h
theorem gl_cons {P : Program} {C : Cod CT} {f : Nat} {s : PSpec CT} {l : List (Nat × PSpec CT)} (h : SpecOk P C f s) (hl : GamOk (CallsOk P C) (gl l)) : GamOk (CallsOk P C) (gl ((f, s) :: l)) := by
  intro β g args objs K r hr
  simp only [gl] at hr
  cases hb : Nat.beq f g with
  | false => rw [hb] at hr; exact hl β g args objs K r hr
  | true =>
    rw [hb] at hr
    obtain rfl := Nat.eq_of_beq_eq_true hb
    simp only [cond_true] at hr
    split at hr
    · rename_i F hF; exact h β args objs F K r hF hr
    · exact hl β f args objs K r hr
def LoopOk (P : Program) (T : TyTab CT) (nt id : Nat) (c : Code) (kh : Keep) (p : PLoop CT) : Prop :=
  ∀ (β : Type) (vals obs : List (AV CT)) (F : (EX → St CT → Option β) → Option β) (k : EX → St CT → Option β) (r : β), p β vals obs = some F → F k = some r → ∃ ex st', k ex st' = some r ∧ SoundC P T nt (.block id c) (mkSt kh vals obs) ex st'
def blk? : List (Nat × Code) → Nat → Option Code
  | [], _ => none
  | (i, c) :: l, x => cond (Nat.beq i x) (some c) (blk? l x)
theorem blk?_of {B : List (Nat × Code)} (hn : noDup (B.map (·.1)) = true) {p : Nat × Code} (hp : p ∈ B) : blk? B p.1 = some p.2 := by
  induction B with
  | nil => cases hp
  | cons q B ih =>
    obtain ⟨i, c⟩ := q
    simp only [List.map_cons, noDup, Bool.and_eq_true] at hn
    simp only [blk?]
    rcases List.mem_cons.1 hp with rfl | hp'
    · simp
    · rw [beq_ne (fun e => ?_)]
      · exact ih hn.2 hp'
      · have := List.all_eq_true.1 hn.1 p.1 (List.mem_map.2 ⟨p, hp', rfl⟩)
        rw [e] at this; simp at this
/-- The loops of a function, each with what is told of it. -/
def LoopsOk (P : Program) (T : TyTab CT) (nt : Nat) (B : List (Nat × Code)) (l : List (Nat × Keep × PLoop CT)) : Prop := ∀ e ∈ l, ∀ c, blk? B e.1 = some c → LoopOk P T nt e.1 c e.2.1 e.2.2
theorem loops_nil {P : Program} {T : TyTab CT} {nt : Nat} {B : List (Nat × Code)} : LoopsOk P T nt B ([] : List (Nat × Keep × PLoop CT)) := fun e h => by cases h
theorem loops_cons {P : Program} {T : TyTab CT} {nt : Nat} {B : List (Nat × Code)} {id : Nat} {kh : Keep} {p : PLoop CT} {l : List (Nat × Keep × PLoop CT)} {c : Code} (hc : blk? B id = some c) (h : LoopOk P T nt id c kh p) (hl : LoopsOk P T nt B l) : LoopsOk P T nt B ((id, kh, p) :: l) := by
  intro e he c' hc'
  rcases List.mem_cons.1 he with rfl | he
  · rw [hc] at hc'; cases hc'; exact h
  · exact hl e he c' hc'
theorem ll_ok {P : Program} {T : TyTab CT} {nt : Nat} {B : List (Nat × Code)} (hn : noDup (B.map (·.1)) = true) {l : List (Nat × Keep × PLoop CT)} (h : LoopsOk P T nt B l) : ∀ p ∈ B, LamAt P T nt (ll l) p.1 p.2 := by
  intro p hp β L hL
  have hb := blk?_of hn hp
  induction l with
  | nil => cases hL
  | cons e l ih =>
    obtain ⟨g, kh, s⟩ := e
    simp only [ll] at hL
    cases hg : Nat.beq g p.1 with
    | false => rw [hg] at hL; exact ih (fun e he => h e (List.mem_cons_of_mem _ he)) hL
    | true =>
      rw [hg] at hL
      obtain rfl := Nat.eq_of_beq_eq_true hg
      simp only [cond_true, Option.some.injEq] at hL
      subst hL
      intro vals obs k r hr
      simp only at hr
      split at hr
      · rename_i F hF
        exact h _ List.mem_cons_self p.2 hb β vals obs F k r hF hr
      · cases hr
/-- The blocks within a block. -/
theorem blks_sub {C : Code} {id : Nat} {c : Code} (h : (id, c) ∈ blks C) : ∀ p ∈ blks c, p ∈ blks C := by
  induction C with
  | seq a b iha ihb =>
    rcases List.mem_append.1 h with h | h
    · exact fun p hp => List.mem_append_left _ (iha h p hp)
    · exact fun p hp => List.mem_append_right _ (ihb h p hp)
  | cond x a b iha ihb =>
    rcases List.mem_append.1 h with h | h
    · exact fun p hp => List.mem_append_left _ (iha h p hp)
    · exact fun p hp => List.mem_append_right _ (ihb h p hp)
  | block i d ih =>
    rcases List.mem_cons.1 h with h | h
    · cases h; exact fun p hp => List.mem_cons_of_mem _ hp
    · exact fun p hp => List.mem_cons_of_mem _ (ih h p hp)
  | loop d ih => exact ih h
  | scope d ih => exact ih h
  | _ => cases h
theorem blk?_mem {B : List (Nat × Code)} {id : Nat} {c : Code} (h : blk? B id = some c) : (id, c) ∈ B := by
  induction B with
  | nil => cases h
  | cons q B ih =>
    obtain ⟨i, d⟩ := q
    simp only [blk?] at h
    cases hi : Nat.beq i id with
    | true => rw [hi] at h; cases h; obtain rfl := Nat.eq_of_beq_eq_true hi; exact List.mem_cons_self
    | false => rw [hi] at h; exact List.mem_cons_of_mem _ (ih h)

/-! ### The table of types -/
def wfL : LK → Cod CT → Bool
  | .typ c s sc, C => Nat.beq s (C.csz c) && (!sc || C.scal c)
  | _, _ => true
theorem wfL_ok {C : Cod CT} {k : LK} (h : wfL k C = true) : k.Ok C := by
  cases k with
  | typ c s sc =>
    simp only [wfL, Bool.and_eq_true, Bool.or_eq_true, Bool.not_eq_true'] at h
    exact ⟨Nat.eq_of_beq_eq_true h.1, fun e => by rw [e] at h; simpa using h.2⟩
  | _ => trivial
def strEq (s : List UInt8) (b : ByteArray) : Bool := s == b.data.toList
def allZ (z : AV CT → List Value → Bool) : List (AV CT) → List Value → Bool
  | [], cs => cs.isEmpty
  | a :: l, cs => z a (cs.take a.size) && allZ z l (cs.drop a.size)
/-- Does a value of nothing named read as these cells? -/
def zOk (C : Cod CT) : Nat → AV CT → List Value → Bool
  | 0, _, _ => false
  | d + 1, a, cs => match a, cs with
    | .bool b, [.bool b'] => b == b'
    | .int k n, [.int k' n'] => kindEq k k' && (n == n' && (decide (k.min ≤ n) && decide (n ≤ k.max)))
    | .flt k n, [.float k' n'] => fkindEq k k' && Nat.beq n n'
    | .cpx k x y, [.complex k' x' y'] => fkindEq k k' && (Nat.beq x x' && Nat.beq y y')
    | .str s, [.string b] => strEq s b && Nat.ble s.length maxI
    | .vnil k, [.slice none 0 0] => wfL k C
    | .nilp, [.pointer none] => true
    | .nilf, [.nilFunc] => true
    | .nili, [.nilIface] => true
    | .agg s fs, cs => Nat.beq s cs.length && allZ (zOk C d) fs cs
    | .arr n l, cs => wfL l.kind C && (Nat.beq l.len n && (Nat.beq cs.length (n * l.sz) && (List.range n).all fun j => match l.get? C j with
      | some a => zOk C d a ((cs.drop (j * l.sz)).take l.sz)
      | none => false))
    | _, _ => false
theorem allZ_ok {z : AV CT → List Value → Bool} : ∀ {fs : List (AV CT)} {cs : List Value}, allZ z fs cs = true → ∃ css : List (List Value), cs = css.flatten ∧ fs.length = css.length ∧ ∀ (j : Nat) (a : AV CT) (c : List Value), fs[j]? = some a → css[j]? = some c → z a c = true
  | [], cs, h => ⟨[], by simpa [allZ] using h, rfl, fun j a c h => by simp at h⟩
  | a :: l, cs, h => by
    simp only [allZ, Bool.and_eq_true] at h
    obtain ⟨css, h1, h2, h3⟩ := allZ_ok h.2
    refine ⟨cs.take a.size :: css, by rw [List.flatten_cons, ← h1, List.take_append_drop], by simp [h2], fun j b c hb hc => ?_⟩
    cases j with
    | zero => simp at hb hc; subst hb; subst hc; exact h.1
    | succ j => exact h3 j b c (by simpa using hb) (by simpa using hc)
theorem chunks (s : Nat) : ∀ (n : Nat) (cs : List Value), cs.length = n * s → ((List.range n).map fun j => (cs.drop (j * s)).take s).flatten = cs
  | 0, cs, h => by simp at h; simp [h]
  | n + 1, cs, h => by
    rw [List.range_succ_eq_map, List.map_cons, List.flatten_cons, List.map_map]
    have ih := chunks s n (cs.drop s) (by rw [List.length_drop, h, Nat.add_mul]; omega)
    have e : ((fun j => (cs.drop (j * s)).take s) ∘ Nat.succ) = fun j => ((cs.drop s).drop (j * s)).take s := by
      funext j; simp only [Function.comp, List.drop_drop, Nat.succ_eq_add_one, Nat.add_mul, Nat.one_mul]; rw [Nat.add_comm]
    rw [e, ih]; simp
theorem zOk_ok {C : Cod CT} {X : Cx CT} (hX : X.C = C) : ∀ (d : Nat) {a : AV CT} {cs : List Value}, zOk C d a cs = true → R X a cs
  | 0, _, _, h => by cases h
  | d + 1, a, cs, h => by
    unfold zOk at h
    split at h
    · obtain rfl := eq_of_beq h; exact .bool
    · simp only [Bool.and_eq_true, decide_eq_true_eq] at h
      obtain rfl := kindEq_eq h.1
      obtain rfl := eq_of_beq h.2.1
      exact .int h.2.2.1 h.2.2.2
    · simp only [Bool.and_eq_true] at h
      obtain rfl := fkindEq_eq h.1
      obtain rfl := Nat.eq_of_beq_eq_true h.2
      exact .flt
    · simp only [Bool.and_eq_true] at h
      obtain rfl := fkindEq_eq h.1
      obtain rfl := Nat.eq_of_beq_eq_true h.2.1
      obtain rfl := Nat.eq_of_beq_eq_true h.2.2
      exact .cpx
    · rename_i s b
      simp only [Bool.and_eq_true] at h
      have e : s = b.data.toList := eq_of_beq h.1
      have := R.str (X := X) (Nat.ble_eq.mp h.2)
      subst e
      simpa using this
    · exact .vnil (hX ▸ wfL_ok h)
    · exact .nilp
    · exact .nilf
    · exact .nili
    · rename_i s fs
      simp only [Bool.and_eq_true] at h
      obtain ⟨css, h1, h2, h3⟩ := allZ_ok h.2
      have e := Nat.eq_of_beq_eq_true h.1
      subst h1
      rw [e]
      exact .agg h2 fun j a c ha hc => zOk_ok hX d (h3 j a c ha hc)
    · rename_i n l
      simp only [Bool.and_eq_true] at h
      obtain ⟨h1, h2, h3, h4⟩ := h
      have h2 := Nat.eq_of_beq_eq_true h2
      have h3 := Nat.eq_of_beq_eq_true h3
      rw [← chunks l.sz n cs h3]
      refine .arr (LS.kindOk.2 (hX ▸ wfL_ok h1)) h2 (by simp) (fun j a c ha hc => ?_) (fun c hc => ?_)
      · rw [List.getElem?_map] at hc
        have hj : j < n := by have := get_lt _ ha; omega
        rw [List.getElem?_range hj] at hc
        cases hc
        have := List.all_eq_true.1 h4 j (List.mem_range.2 hj)
        rw [hX] at ha
        rw [ha] at this
        exact zOk_ok hX d this
      · obtain ⟨j, hj, rfl⟩ := List.mem_map.1 hc
        have hj := List.mem_range.1 hj
        have : (j + 1) * l.sz ≤ n * l.sz := Nat.mul_le_mul_right _ hj
        rw [Nat.add_mul] at this
        rw [List.length_take, List.length_drop, h3]; omega
    · cases h
def descOkB : Ty → TypeDesc → Bool
  | .bool, .bool => true
  | .int k, .int k' => kindEq k k'
  | .flt k, .float k' => fkindEq k k'
  | .cpx k, .complex k' => fkindEq k k'
  | .str, .string => true
  | .ptr e, .pointer e' => Nat.beq e e'
  | .slc e, .slice e' => Nat.beq e e'
  | .arr n e, .array n' e' => Nat.beq n n' && Nat.beq e e'
  | .strct fs, .struct gs => gs.toList.map (fun f => (f.type, f.offset)) == fs
  | .fn, .func _ _ _ => true
  | .ifc, .interface _ => true
  | .mp k e, .map k' e' => Nat.beq k k' && Nat.beq e e'
  | _, _ => false
theorem descOkB_ok {d : Ty} {u : TypeDesc} (h : descOkB d u = true) : DescOk d u := by
  cases d <;> cases u <;> simp only [descOkB, Bool.and_eq_true] at h <;> first
    | exact trivial
    | exact kindEq_eq h
    | exact fkindEq_eq h
    | exact Nat.eq_of_beq_eq_true h
    | exact ⟨Nat.eq_of_beq_eq_true h.1, Nat.eq_of_beq_eq_true h.2⟩
    | exact eq_of_beq h
    | cases h
def fieldsOk (T : TyTab CT) (fs : List (Nat × Nat)) : Bool := fs.all fun f => (T.d f.1).ok && !(Nat.beq (T.sz f.1) 0)
/-- A type of the table, asked of the program's. -/
def tyOk (P : Program) (T : TyTab CT) (t : Nat) : Bool := match T.d t with
  | .bad => true
  | d => match P.info? t, P.underlying t with
    | some i, some u => descOkB d u && (Nat.beq i.size (T.sz t) && (Nat.beq i.bytes (T.bytes t) && ((match i.zero with
        | some z => zOk T.C 60 (T.zero t) z.cells.toList && ((match z with | .agg _ => (T.zero t).isAgg | .tuple _ => false | _ => !(T.zero t).isAgg) && Nat.beq z.cells.size (T.sz t))
        | none => false) && (!(T.zero t).isLst && ((T.zero t).isCell && ((d.isAgg || Nat.beq (T.sz t) 1) && (Nat.beq (T.lk t).sz (T.sz t) && (wfL (T.lk t) T.C && (match d with
          | .strct fs => fieldsOk T fs
          | .slc e => (T.d e).ok
          | .arr n e => (T.d e).ok && Nat.ble n maxI
          | _ => true))))))))) 
    | _, _ => false
theorem tab_ok {P : Program} {T : TyTab CT} {n : Nat} (hn : ∀ t, n ≤ t → T.d t = .bad) (h : (List.range n).all (tyOk P T) = true) : TabOk P T := by
  have key : ∀ t, T.d t ≠ .bad → tyOk P T t = true := by
    intro t ht
    rcases Nat.lt_or_ge t n with h1 | h1
    · exact List.all_eq_true.1 h t (List.mem_range.2 h1)
    · exact absurd (hn t h1) ht
  have all : ∀ t, T.d t ≠ .bad → ∃ i u z, P.info? t = some i ∧ P.underlying t = some u ∧ i.zero = some z ∧ descOkB (T.d t) u = true ∧ i.size = T.sz t ∧ i.bytes = T.bytes t ∧ zOk T.C 60 (T.zero t) z.cells.toList = true ∧
      (match z with | .agg _ => (T.zero t).isAgg | .tuple _ => false | _ => !(T.zero t).isAgg) = true ∧ z.cells.size = T.sz t ∧ (T.zero t).isLst = false ∧ (T.zero t).isCell = true ∧ ((T.d t).isAgg = true ∨ T.sz t = 1) ∧ (T.lk t).sz = T.sz t ∧ wfL (T.lk t) T.C = true ∧
      (match T.d t with
          | .strct fs => fieldsOk T fs
          | .slc e => (T.d e).ok
          | .arr n e => (T.d e).ok && Nat.ble n maxI
          | _ => true) = true := by
    intro t ht
    have h := key t ht
    unfold tyOk at h
    split at h
    · rename_i e; exact absurd e ht
    · split at h
      · rename_i i u hi hu
        simp only [Bool.and_eq_true] at h
        obtain ⟨h1, h2, h3, h4, h5, h6, h7, h8, h9, h10⟩ := h
        split at h4
        · rename_i z hz
          simp only [Bool.and_eq_true] at h4
          refine ⟨i, u, z, hi, hu, hz, h1, Nat.eq_of_beq_eq_true h2, Nat.eq_of_beq_eq_true h3, h4.1, h4.2.1, Nat.eq_of_beq_eq_true h4.2.2, by simpa using h5, h6, ?_, Nat.eq_of_beq_eq_true h8, h9, h10⟩
          simp only [Bool.or_eq_true] at h7
          exact h7.imp id Nat.eq_of_beq_eq_true
        · cases h4
      · cases h
  refine ⟨fun t ht => ?_, fun t ht ha => ?_, fun t ht => ?_, fun t fs hd f hf => ?_, fun t e hd => ?_, fun t m e hd => ?_⟩
  · obtain ⟨i, u, z, hi, hu, hz, h1, h2, h3, h4, h5, h6, h7, h8, _⟩ := all t ht
    refine ⟨i, u, z, hi, hu, descOkB_ok h1, h2, h3, hz, fun X hX => ⟨zOk_ok hX _ h4, fun ha => ?_, fun ha => ?_⟩, h7, h8, h6⟩
    · cases z <;> simp [ha] at h5 <;> exact ⟨_, rfl⟩
    · cases z <;> simp [ha] at h5 <;> exact trivial
  · obtain ⟨i, u, z, hi, hu, hz, h1, h2, h3, h4, h5, h6, h7, h8, h9, _⟩ := all t ht
    rcases h9 with h9 | h9
    · rw [ha] at h9; cases h9
    · exact h9
  · obtain ⟨i, u, z, hi, hu, hz, h1, h2, h3, h4, h5, h6, h7, h8, h9, h10, h11, _⟩ := all t ht
    exact ⟨h10, wfL_ok h11⟩
  · obtain ⟨i, u, z, hi, hu, hz, h1, h2, h3, h4, h5, h6, h7, h8, h9, h10, h11, h12⟩ := all t (by rw [hd]; simp)
    rw [hd] at h12
    have := List.all_eq_true.1 h12 f hf
    simp only [Bool.and_eq_true, Bool.not_eq_true'] at this
    exact ⟨Ty.ok_ne this.1, fun e => by rw [e] at this; simp at this⟩
  · obtain ⟨i, u, z, hi, hu, hz, h1, h2, h3, h4, h5, h6, h7, h8, h9, h10, h11, h12⟩ := all t (by rw [hd]; simp)
    rw [hd] at h12
    exact Ty.ok_ne h12
  · obtain ⟨i, u, z, hi, hu, hz, h1, h2, h3, h4, h5, h6, h7, h8, h9, h10, h11, h12⟩ := all t (by rw [hd]; simp)
    rw [hd] at h12
    simp only [Bool.and_eq_true] at h12
    exact ⟨Ty.ok_ne h12.1, Nat.ble_eq.mp h12.2⟩
end Go.Proofs.Ytjnkppjlhmkjaaa.Av
