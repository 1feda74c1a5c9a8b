import Derived.Test.YtjnkppjlhmkjaaaProg
import Derived.Test.YtjnkppjlhmkjaaaAvDef
namespace Go.Proofs.Ytjnkppjlhmkjaaa.Av
open Go
set_option linter.unusedVariables false
set_option maxRecDepth 10000

abbrev wi64 (x : Int) : Int := IntKind.i64.wrap x
abbrev wi32 (x : Int) : Int := IntKind.i32.wrap x
abbrev wi16 (x : Int) : Int := IntKind.i16.wrap x
abbrev wi8 (x : Int) : Int := IntKind.i8.wrap x
abbrev wu64 (x : Int) : Int := IntKind.u64.wrap x
abbrev wu32 (x : Int) : Int := IntKind.u32.wrap x
abbrev wu16 (x : Int) : Int := IntKind.u16.wrap x
abbrev wu8 (x : Int) : Int := IntKind.u8.wrap x
def cA : Code → Code
  | .seq a _ => a
  | .cond _ a _ => a
  | c => c
def cB : Code → Code
  | .seq _ b => b
  | .cond _ _ b => b
  | c => c
def cBody : Code → Code
  | .block _ c => c
  | .loop c => c
  | .scope c => c
  | c => c
def cLoop : Code → Code
  | .loop c => c
  | c => c
structure Waterclocklaw01Op where
  kind : Int
  b : (List UInt8)
@[reducible] def CT : Nat → Type
  | 24 => (List UInt8)
  | 39 => Waterclocklaw01Op
  | _ => Unit
def enc : (c : Nat) → CT c → AV CT
  | 24, x => (.vs false (.u8 x))
  | 39, x => (.agg 2 [(.int .i64 x.kind), (.vs false (.u8 x.b))])
  | _, _ => .bool false
def dec24 : AV CT → Option (CT 24)
  | (.vs false (.u8 x)) => some x
  | _ => none
def dec39 : AV CT → Option (CT 39)
  | (.agg 2 [(.int .i64 xa), (.vs false (.u8 xb))]) => some (Waterclocklaw01Op.mk xa xb)
  | _ => none
def dec : (c : Nat) → AV CT → Option (CT c)
  | 24, a => dec24 a
  | 39, a => dec39 a
  | _, _ => none
theorem dec_ok24 (v : AV CT) (x : CT 24) (h : dec24 v = some x) : enc 24 x = v := by
  unfold dec24 at h; split at h
  · cases h; rfl
  · cases h
theorem dec_ok39 (v : AV CT) (x : CT 39) (h : dec39 v = some x) : enc 39 x = v := by
  unfold dec39 at h; split at h
  · cases h; rfl
  · cases h
def csz : Nat → Nat
  | 24 => 1
  | 39 => 2
  | _ => 1
def scal : Nat → Bool
  | 24 => false
  | 39 => false
  | _ => false
theorem enc_df (c : Nat) (x : CT c) (h24 : c ≠ 24) (h39 : c ≠ 39) : enc c x = .bool false := by
  unfold enc; split <;> first | rfl | contradiction
theorem dec_df (c : Nat) (v : AV CT) (h24 : c ≠ 24) (h39 : c ≠ 39) : dec c v = none := by
  unfold dec; split <;> first | rfl | contradiction
theorem csz_df (c : Nat) (h24 : c ≠ 24) (h39 : c ≠ 39) : csz c = 1 := by
  unfold csz; split <;> first | rfl | contradiction
theorem scal_df (c : Nat) (h24 : c ≠ 24) (h39 : c ≠ 39) : scal c = false := by
  unfold scal; split <;> first | rfl | contradiction
theorem dec_ok : ∀ c : Nat, ∀ (v : AV CT) (x : CT c), dec c v = some x → enc c x = v := by
  intro c
  by_cases h24 : c = 24
  · subst h24; exact dec_ok24
  by_cases h39 : c = 39
  · subst h39; exact dec_ok39
  · intro v x h; rw [dec_df c v h24 h39] at h; cases h
theorem size_ok : ∀ c : Nat, ∀ x : CT c, (enc c x).size = csz c := by
  intro c
  by_cases h24 : c = 24
  · subst h24; intro x; rfl
  by_cases h39 : c = 39
  · subst h39; intro x; rfl
  · intro x; rw [(enc_df c x h24 h39), csz_df c h24 h39]; rfl
theorem ids_ok : ∀ c : Nat, ∀ x : CT c, (enc c x).ids = [] := by
  intro c
  by_cases h24 : c = 24
  · subst h24; intro x; rfl
  by_cases h39 : c = 39
  · subst h39; intro x; rfl
  · intro x; rw [(enc_df c x h24 h39)]; rfl
theorem cell_ok : ∀ c : Nat, ∀ x : CT c, (enc c x).isCell = true := by
  intro c
  by_cases h24 : c = 24
  · subst h24; intro x; rfl
  by_cases h39 : c = 39
  · subst h39; intro x; rfl
  · intro x; rw [(enc_df c x h24 h39)]; rfl
theorem clean_ok : ∀ c : Nat, ∀ x : CT c, (enc c x).clean = true := by
  intro c
  by_cases h24 : c = 24
  · subst h24; intro x; rfl
  by_cases h39 : c = 39
  · subst h39; intro x; rfl
  · intro x; rw [(enc_df c x h24 h39)]; rfl
theorem scal_ok : ∀ c : Nat, ∀ (x : CT c) (b : Bool), scal c = true → (enc c x).taint b = enc c x := by
  intro c
  by_cases h24 : c = 24
  · subst h24; intro x b h; cases h
  by_cases h39 : c = 39
  · subst h39; intro x b h; cases h
  · intro x b h; rw [scal_df c h24 h39] at h; cases h
def cod : Cod CT := ⟨enc, dec, csz, scal, dec_ok, size_ok, ids_ok, cell_ok, clean_ok, scal_ok⟩
def TT.d_ : List Ty := [.bad, .fn, (.int .i64), (.int .i64), .bool, (.int .u8), (.int .u8), (.strct [(2, 0), (3, 1), (4, 2), (6, 3)]), (.strct [(2, 0), (3, 1), (4, 2), (6, 3)]), .str, .str, .str, (.int .u64), (.strct [(9, 0), (12, 1)]), (.strct [(9, 0), (12, 1)]), (.ptr 66), (.ptr 69), (.ptr 77), (.strct [(17, 0)]), (.strct [(17, 0)]), .ifc, (.int .i32), (.slc 24), .fn, (.slc 5), (.arr 32 5), .fn, .fn, .fn, (.slc 39), (.slc 34), .bad, .fn, (.ptr 37), (.int .u32), (.arr 8 34), (.strct [(35, 0), (24, 8), (3, 9), (4, 10)]), (.strct [(35, 0), (24, 8), (3, 9), (4, 10)]), (.strct [(3, 0), (24, 1)]), (.strct [(3, 0), (24, 1)]), (.int .u64), .fn, .fn, .fn, .fn, .fn, .fn, (.int .u16), .fn, .fn, (.slc 52), .fn, (.int .u64), .fn, .fn, .fn, .fn, (.arr 6 52), (.arr 6 52), .fn, .fn, (.arr 64 34), .fn, .fn, .fn, (.strct [(17, 0), (17, 1), (17, 2), (9, 3)]), (.strct [(17, 0), (17, 1), (17, 2), (9, 3)]), .bad, .bad, .bad, (.int .u8), (.int .u8), .fn, (.ptr 5), (.int .i32), (.int .i32), (.strct [(12, 0), (12, 1), (34, 2), (70, 3), (5, 4), (5, 5), (71, 6), (72, 7), (73, 8), (74, 9), (75, 10)]), (.strct [(12, 0), (12, 1), (34, 2), (70, 3), (5, 4), (5, 5), (71, 6), (72, 7), (73, 8), (74, 9), (75, 10)]), .bad]
def TT.sz_ : List Nat := [1, 1, 1, 1, 1, 1, 1, 4, 4, 1, 1, 1, 1, 2, 2, 1, 1, 1, 1, 1, 1, 1, 1, 1, 1, 32, 1, 1, 1, 1, 1, 1, 1, 1, 1, 8, 11, 11, 2, 2, 1, 1, 1, 1, 1, 1, 1, 1, 1, 1, 1, 1, 1, 1, 1, 1, 1, 6, 6, 1, 1, 64, 1, 1, 1, 4, 4, 0, 0, 0, 1, 1, 1, 1, 1, 1, 11, 11, 1]
def TT.by_ : List Nat := [0, 8, 8, 8, 1, 1, 1, 24, 24, 16, 16, 16, 8, 24, 24, 8, 8, 8, 8, 8, 16, 4, 24, 8, 24, 32, 8, 8, 8, 24, 24, 0, 8, 8, 4, 32, 72, 72, 32, 32, 8, 8, 8, 8, 8, 8, 8, 2, 8, 8, 24, 8, 8, 8, 8, 8, 8, 48, 48, 8, 8, 256, 8, 8, 8, 40, 40, 0, 0, 0, 1, 1, 8, 8, 4, 4, 48, 48, 8]
def TT.z_ : List (AV CT) := [.junk, .nilf, (.int .i64 0), (.int .i64 0), (.bool false), (.int .u8 0), (.int .u8 0), (.agg 4 [(.int .i64 0), (.int .i64 0), (.bool false), (.int .u8 0)]), (.agg 4 [(.int .i64 0), (.int .i64 0), (.bool false), (.int .u8 0)]), (.str ([] : List UInt8)), (.str ([] : List UInt8)), (.str ([] : List UInt8)), (.int .u64 0), (.agg 2 [(.str ([] : List UInt8)), (.int .u64 0)]), (.agg 2 [(.str ([] : List UInt8)), (.int .u64 0)]), .nilp, .nilp, .nilp, (.agg 1 [.nilp]), (.agg 1 [.nilp]), .nili, (.int .i32 0), (.vnil (.typ 24 1 false)), .nilf, (.vnil .u8), (.arr 32 (.u8 (List.replicate 32 0))), .nilf, .nilf, .nilf, (.vnil (.typ 39 2 false)), (.vnil (.int .u32)), .junk, .nilf, .nilp, (.int .u32 0), (.arr 8 (.int .u32 ([0, 0, 0, 0, 0, 0, 0, 0] : List Int))), (.agg 11 [(.arr 8 (.int .u32 ([0, 0, 0, 0, 0, 0, 0, 0] : List Int))), (.vnil .u8), (.int .i64 0), (.bool false)]), (.agg 11 [(.arr 8 (.int .u32 ([0, 0, 0, 0, 0, 0, 0, 0] : List Int))), (.vnil .u8), (.int .i64 0), (.bool false)]), (.agg 2 [(.int .i64 0), (.vnil .u8)]), (.agg 2 [(.int .i64 0), (.vnil .u8)]), (.int .u64 0), .nilf, .nilf, .nilf, .nilf, .nilf, .nilf, (.int .u16 0), .nilf, .nilf, (.vnil (.int .u64)), .nilf, (.int .u64 0), .nilf, .nilf, .nilf, .nilf, (.arr 6 (.int .u64 ([0, 0, 0, 0, 0, 0] : List Int))), (.arr 6 (.int .u64 ([0, 0, 0, 0, 0, 0] : List Int))), .nilf, .nilf, (.arr 64 (.int .u32 (List.replicate 64 0))), .nilf, .nilf, .nilf, (.agg 4 [.nilp, .nilp, .nilp, (.str ([] : List UInt8))]), (.agg 4 [.nilp, .nilp, .nilp, (.str ([] : List UInt8))]), (.arr 0 (.gen 1 [])), (.agg 0 [(.arr 0 (.gen 1 []))]), (.agg 0 [(.arr 0 (.gen 1 []))]), (.int .u8 0), (.int .u8 0), .nilf, .nilp, (.int .i32 0), (.int .i32 0), (.agg 11 [(.int .u64 0), (.int .u64 0), (.int .u32 0), (.int .u8 0), (.int .u8 0), (.int .u8 0), (.int .u8 0), .nilf, .nilp, (.int .i32 0), (.int .i32 0)]), (.agg 11 [(.int .u64 0), (.int .u64 0), (.int .u32 0), (.int .u8 0), (.int .u8 0), (.int .u8 0), (.int .u8 0), .nilf, .nilp, (.int .i32 0), (.int .i32 0)]), .junk]
def TT.lk_ : List LK := [(.gen 1), (.gen 1), (.int .i64), (.int .i64), (.gen 1), .u8, .u8, (.gen 4), (.gen 4), .str, .str, .str, (.int .u64), (.gen 2), (.gen 2), (.gen 1), (.gen 1), (.gen 1), (.gen 1), (.gen 1), (.gen 1), (.int .i32), (.gen 1), (.gen 1), (.typ 24 1 false), (.gen 32), (.gen 1), (.gen 1), (.gen 1), (.gen 1), (.gen 1), (.gen 1), (.gen 1), (.gen 1), (.int .u32), (.gen 8), (.gen 11), (.gen 11), (.gen 2), (.typ 39 2 false), (.int .u64), (.gen 1), (.gen 1), (.gen 1), (.gen 1), (.gen 1), (.gen 1), (.int .u16), (.gen 1), (.gen 1), (.gen 1), (.gen 1), (.int .u64), (.gen 1), (.gen 1), (.gen 1), (.gen 1), (.gen 6), (.gen 6), (.gen 1), (.gen 1), (.gen 64), (.gen 1), (.gen 1), (.gen 1), (.gen 4), (.gen 4), (.gen 0), (.gen 0), (.gen 0), .u8, .u8, (.gen 1), (.gen 1), (.int .i32), (.int .i32), (.gen 11), (.gen 11), (.gen 1)]
def TT : TyTab CT := { C := cod, d := fun t => TT.d_.getD t .bad, sz := fun t => TT.sz_.getD t 0, bytes := fun t => TT.by_.getD t 0, zero := fun t => TT.z_.getD t .junk, lk := fun t => TT.lk_.getD t (.gen 1), own := fun f => [].any (Nat.beq f) }
noncomputable def sha_New (n : Nat) {β : Type}  (k0 : List Int → List UInt8 → Int → Bool → Option β) : Option β :=
 k0 ([0, 0, 0, 0, 0, 0, 0, 0] : List Int) ([] : List UInt8) 0 false
noncomputable def sha_New_p (n : Nat) : PSpec CT := fun _ a o => match a, o with
  | [], [] => some fun K => sha_New n  (fun z0 z1 z2 z3 => K ⟨(.ptr 10000 []), [], [(.agg 11 [(.arr 8 (.int .u32 z0)), (.vs false (.u8 z1)), (.int .i64 z2), (.bool z3)])]⟩)
  | _, _ => none

noncomputable def sha_Hash_lay (n : Nat) {β : Type} (a0 : List Int) (a1 : List UInt8) (a2 : Int) (a3 : Bool) (k0 : List Int → List UInt8 → Int → Bool → Option β) : Option β :=
 cond (!a3) (
 k0 ([1779033703, 3144134277, 1013904242, 2773480762, 1359893119, 2600822924, 528734635, 1541459225] : List Int) a1 a2 true) (
 k0 a0 a1 a2 a3)
noncomputable def sha_Hash_lay_p (n : Nat) : PSpec CT := fun _ a o => match a, o with
  | [(.ptr 10000 [])], [(.agg 11 [(.arr 8 (.int .u32 a0)), (.vs false (.u8 a1)), (.int .i64 a2), (.bool a3)])] => some fun K => sha_Hash_lay n a0 a1 a2 a3 (fun z0 z1 z2 z3 => K ⟨(.tup []), [some (.agg 11 [(.arr 8 (.int .u32 z0)), (.vs false (.u8 z1)), (.int .i64 z2), (.bool z3)])], []⟩)
  | _, _ => none

noncomputable def math_bits_RotateLeft32 (n : Nat) {β : Type} (a0 : Int) (a1 : Int) (k0 : Int → Option β) : Option β :=
 cond (decide (0 ≤ andI .u64 (wu64 (a1)) 31)) (
 cond (decide (0 ≤ wu64 (32 - (andI .u64 (wu64 (a1)) 31)))) (
 k0 (orI .u32 (shlI .u32 a0 (andI .u64 (wu64 (a1)) 31)) (shrI .u32 a0 (wu64 (32 - (andI .u64 (wu64 (a1)) 31)))))) none) none
noncomputable def math_bits_RotateLeft32_p (n : Nat) : PSpec CT := fun _ a o => match a, o with
  | [(.int .u32 a0), (.int .i64 a1)], [] => some fun K => math_bits_RotateLeft32 n a0 a1 (fun z0 => K ⟨(.int .u32 z0), [], []⟩)
  | _, _ => none

noncomputable def sha_down (n : Nat) {β : Type} (a0 : Int) (a1 : Int) (k0 : Int → Option β) : Option β :=
 math_bits_RotateLeft32 n a0 (wi64 (0 - a1))
 (fun r1 =>
 k0 r1)
noncomputable def sha_down_p (n : Nat) : PSpec CT := fun _ a o => match a, o with
  | [(.int .u32 a0), (.int .i64 a1)], [] => some fun K => sha_down n a0 a1 (fun z0 => K ⟨(.int .u32 z0), [], []⟩)
  | _, _ => none

noncomputable def sha_schedule_l0_s (n : Nat) {β : Type} (p0 : Bool) (p1 : List UInt8) (p2 : Int) (p3 : List Int) (p4 : List Int) (R : Bool → List UInt8 → Int → List Int → List Int → Option β) (e0 : List Int → List Int → Option β) : Option β :=
 cond (decide (p2 < 16)) (
 cond (decide (0 ≤ wi64 (4 * p2))) (
 (p1[(wi64 (4 * p2)).toNat]?).bind fun b1 =>
 cond (decide (0 ≤ wi64 ((wi64 (4 * p2)) + 1))) (
 (p1[(wi64 ((wi64 (4 * p2)) + 1)).toNat]?).bind fun b2 =>
 cond (decide (0 ≤ wi64 ((wi64 (4 * p2)) + 2))) (
 (p1[(wi64 ((wi64 (4 * p2)) + 2)).toNat]?).bind fun b3 =>
 cond (decide (0 ≤ wi64 ((wi64 (4 * p2)) + 3))) (
 (p1[(wi64 ((wi64 (4 * p2)) + 3)).toNat]?).bind fun b4 =>
 cond (decide (0 ≤ p2)) (
 cond (Nat.blt p2.toNat 64) (
 (p4[p2.toNat]?).bind fun n5 =>
 R p0 p1 (wi64 (p2 + 1)) p3 (p4.set p2.toNat (orI .u32 (orI .u32 (orI .u32 (shlI .u32 (wu32 ((b1.toNat : Int))) 24) (shlI .u32 (wu32 ((b2.toNat : Int))) 16)) (shlI .u32 (wu32 ((b3.toNat : Int))) 8)) (wu32 ((b4.toNat : Int)))))) none) none) none) none) none) none) (
 e0 p3 p4)
noncomputable def sha_schedule_l0 (n : Nat) {β : Type} : Nat → Bool → List UInt8 → Int → List Int → List Int → (List Int → List Int → Option β) → Option β
  | 0, _, _, _, _, _, _ => none
  | m + 1, p0, p1, p2, p3, p4, e0 => sha_schedule_l0_s n p0 p1 p2 p3 p4 (fun p0 p1 p2 p3 p4 => sha_schedule_l0 n m p0 p1 p2 p3 p4 e0) e0
noncomputable def sha_schedule_l2_s (n : Nat) {β : Type} (p0 : Int) (p1 : List Int) (p2 : List Int) (R : Int → List Int → List Int → Option β) (e0 : List Int → List Int → Option β) : Option β :=
 cond (decide (p0 < 64)) (
 cond (decide (0 ≤ wi64 (p0 - 15))) (
 cond (Nat.blt ((wi64 (p0 - 15)).toNat) 64) (
 (p2[(wi64 (p0 - 15)).toNat]?).bind fun n8 =>
 cond (decide (0 ≤ wi64 (p0 - 2))) (
 cond (Nat.blt ((wi64 (p0 - 2)).toNat) 64) (
 (p2[(wi64 (p0 - 2)).toNat]?).bind fun n9 =>
 sha_down n n8 7
 (fun r10 =>
 sha_down n n8 18
 (fun r11 =>
 sha_down n n9 17
 (fun r12 =>
 sha_down n n9 19
 (fun r13 =>
 cond (decide (0 ≤ wi64 (p0 - 7))) (
 cond (Nat.blt ((wi64 (p0 - 7)).toNat) 64) (
 (p2[(wi64 (p0 - 7)).toNat]?).bind fun n14 =>
 cond (decide (0 ≤ wi64 (p0 - 16))) (
 cond (Nat.blt ((wi64 (p0 - 16)).toNat) 64) (
 (p2[(wi64 (p0 - 16)).toNat]?).bind fun n15 =>
 cond (decide (0 ≤ p0)) (
 cond (Nat.blt p0.toNat 64) (
 (p2[p0.toNat]?).bind fun n16 =>
 R (wi64 (p0 + 1)) p1 (p2.set p0.toNat (wu32 ((wu32 ((wu32 ((xorI .u32 (xorI .u32 r12 r13) (shrI .u32 n9 10)) + n14)) + (xorI .u32 (xorI .u32 r10 r11) (shrI .u32 n8 3)))) + n15)))) none) none) none) none) none) none))))) none) none) none) none) (
 e0 p1 p2)
noncomputable def sha_schedule_l2 (n : Nat) {β : Type} : Nat → Int → List Int → List Int → (List Int → List Int → Option β) → Option β
  | 0, _, _, _, _ => none
  | m + 1, p0, p1, p2, e0 => sha_schedule_l2_s n p0 p1 p2 (fun p0 p1 p2 => sha_schedule_l2 n m p0 p1 p2 e0) e0
noncomputable def sha_schedule (n : Nat) {β : Type} (a0 : Bool) (a1 : List UInt8) (k0 : List Int → Option β) : Option β :=
 sha_schedule_l0 n n a0 a1 0 (List.replicate 64 0) (List.replicate 64 0)
 (fun q6 q7 =>
 sha_schedule_l2 n n 16 q6 q7
 (fun q17 q18 =>
 k0 q18))
noncomputable def sha_schedule_p (n : Nat) : PSpec CT := fun _ a o => match a, o with
  | [(.vs a0 (.u8 a1))], [] => some fun K => sha_schedule n a0 a1 (fun z0 => K ⟨(.arr 64 (.int .u32 z0)), [], []⟩)
  | _, _ => none

noncomputable def sha_constants (n : Nat) {β : Type}  (k0 : List Int → Option β) : Option β :=
 k0 (((((((((((((((((((((((((((((((((((((((((((((((((((((((((((((((((List.replicate 64 0).set 0 1116352408).set 1 1899447441).set 2 3049323471).set 3 3921009573).set 4 961987163).set 5 1508970993).set 6 2453635748).set 7 2870763221).set 8 3624381080).set 9 310598401).set 10 607225278).set 11 1426881987).set 12 1925078388).set 13 2162078206).set 14 2614888103).set 15 3248222580).set 16 3835390401).set 17 4022224774).set 18 264347078).set 19 604807628).set 20 770255983).set 21 1249150122).set 22 1555081692).set 23 1996064986).set 24 2554220882).set 25 2821834349).set 26 2952996808).set 27 3210313671).set 28 3336571891).set 29 3584528711).set 30 113926993).set 31 338241895).set 32 666307205).set 33 773529912).set 34 1294757372).set 35 1396182291).set 36 1695183700).set 37 1986661051).set 38 2177026350).set 39 2456956037).set 40 2730485921).set 41 2820302411).set 42 3259730800).set 43 3345764771).set 44 3516065817).set 45 3600352804).set 46 4094571909).set 47 275423344).set 48 430227734).set 49 506948616).set 50 659060556).set 51 883997877).set 52 958139571).set 53 1322822218).set 54 1537002063).set 55 1747873779).set 56 1955562222).set 57 2024104815).set 58 2227730452).set 59 2361852424).set 60 2428436474).set 61 2756734187).set 62 3204031479).set 63 3329325298)
noncomputable def sha_constants_p (n : Nat) : PSpec CT := fun _ a o => match a, o with
  | [], [] => some fun K => sha_constants n  (fun z0 => K ⟨(.arr 64 (.int .u32 z0)), [], []⟩)
  | _, _ => none

noncomputable def sha_mix_l0_s (n : Nat) {β : Type} (p0 : Int) (p1 : List Int) (p2 : List Int) (p3 : List Int) (p4 : List Int) (p5 : List Int) (R : Int → List Int → List Int → List Int → List Int → List Int → Option β) (e0 : List Int → List Int → List Int → Option β) : Option β :=
 cond (decide (p0 < 64)) (
 (p5[0]?).bind fun n3 =>
 (p5[4]?).bind fun n4 =>
 (p5[7]?).bind fun n5 =>
 sha_down n n4 6
 (fun r6 =>
 sha_down n n4 11
 (fun r7 =>
 sha_down n n4 25
 (fun r8 =>
 (p5[5]?).bind fun n9 =>
 (p5[6]?).bind fun n10 =>
 cond (decide (0 ≤ p0)) (
 cond (Nat.blt p0.toNat 64) (
 (p4[p0.toNat]?).bind fun n11 =>
 cond (decide (0 ≤ p0)) (
 cond (Nat.blt p0.toNat 64) (
 (p3[p0.toNat]?).bind fun n12 =>
 sha_down n n3 2
 (fun r13 =>
 sha_down n n3 13
 (fun r14 =>
 sha_down n n3 22
 (fun r15 =>
 (p5[1]?).bind fun n16 =>
 (p5[2]?).bind fun n17 =>
 (p5[1]?).bind fun n18 =>
 (p5[2]?).bind fun n19 =>
 (p5[1]?).bind fun n20 =>
 (p5[2]?).bind fun n21 =>
 (p5[3]?).bind fun n22 =>
 (p5[5]?).bind fun n23 =>
 (p5[6]?).bind fun n24 =>
 R (wi64 (p0 + 1)) p1 p2 p3 p4 ([wu32 ((wu32 ((wu32 ((wu32 ((wu32 (n5 + (xorI .u32 (xorI .u32 r6 r7) r8))) + (xorI .u32 (andI .u32 n4 n9) (andI .u32 (notI .u32 n4) n10)))) + n11)) + n12)) + (wu32 ((xorI .u32 (xorI .u32 r13 r14) r15) + (xorI .u32 (xorI .u32 (andI .u32 n3 n16) (andI .u32 n3 n17)) (andI .u32 n18 n19))))), n3, n20, n21, wu32 (n22 + (wu32 ((wu32 ((wu32 ((wu32 (n5 + (xorI .u32 (xorI .u32 r6 r7) r8))) + (xorI .u32 (andI .u32 n4 n9) (andI .u32 (notI .u32 n4) n10)))) + n11)) + n12))), n4, n23, n24] : List Int))))) none) none) none) none)))) (
 e0 p1 p2 p5)
noncomputable def sha_mix_l0 (n : Nat) {β : Type} : Nat → Int → List Int → List Int → List Int → List Int → List Int → (List Int → List Int → List Int → Option β) → Option β
  | 0, _, _, _, _, _, _, _ => none
  | m + 1, p0, p1, p2, p3, p4, p5, e0 => sha_mix_l0_s n p0 p1 p2 p3 p4 p5 (fun p0 p1 p2 p3 p4 p5 => sha_mix_l0 n m p0 p1 p2 p3 p4 p5 e0) e0
noncomputable def sha_mix_l2_s (n : Nat) {β : Type} (p0 : Int) (p1 : List Int) (p2 : List Int) (p3 : List Int) (R : Int → List Int → List Int → List Int → Option β) (e0 : List Int → List Int → Option β) : Option β :=
 cond (decide (p0 < 8)) (
 cond (decide (0 ≤ p0)) (
 cond (Nat.blt p0.toNat 8) (
 (p3[p0.toNat]?).bind fun n28 =>
 cond (decide (0 ≤ p0)) (
 cond (Nat.blt p0.toNat 8) (
 (p1[p0.toNat]?).bind fun n29 =>
 cond (decide (0 ≤ p0)) (
 cond (Nat.blt p0.toNat 8) (
 (p3[p0.toNat]?).bind fun n30 =>
 R (wi64 (p0 + 1)) p1 p2 (p3.set p0.toNat (wu32 (n28 + n29)))) none) none) none) none) none) none) (
 e0 p2 p3)
noncomputable def sha_mix_l2 (n : Nat) {β : Type} : Nat → Int → List Int → List Int → List Int → (List Int → List Int → Option β) → Option β
  | 0, _, _, _, _, _ => none
  | m + 1, p0, p1, p2, p3, e0 => sha_mix_l2_s n p0 p1 p2 p3 (fun p0 p1 p2 p3 => sha_mix_l2 n m p0 p1 p2 p3 e0) e0
noncomputable def sha_mix (n : Nat) {β : Type} (a0 : List Int) (a1 : Bool) (a2 : List UInt8) (k0 : List Int → Option β) : Option β :=
 sha_schedule n a1 a2
 (fun r1 =>
 sha_constants n 
 (fun r2 =>
 sha_mix_l0 n n 0 a0 ([0, 0, 0, 0, 0, 0, 0, 0] : List Int) r1 r2 a0
 (fun q25 q26 q27 =>
 sha_mix_l2 n n 0 q25 q26 q27
 (fun q31 q32 =>
 k0 q32))))
noncomputable def sha_mix_p (n : Nat) : PSpec CT := fun _ a o => match a, o with
  | [(.arr 8 (.int .u32 a0)), (.vs a1 (.u8 a2))], [] => some fun K => sha_mix n a0 a1 a2 (fun z0 => K ⟨(.arr 8 (.int .u32 z0)), [], []⟩)
  | _, _ => none

noncomputable def sha_Hash_Write_l0_s (n : Nat) {β : Type} (p0 : Bool) (p1 : List UInt8) (p2 : Nat) (p3 : Nat) (p4 : Nat) (p5 : List Int) (p6 : List UInt8) (p7 : Int) (p8 : Bool) (p9 : List UInt8) (R : Bool → List UInt8 → Nat → Nat → Nat → List Int → List UInt8 → Int → Bool → List UInt8 → Option β) (e0 : Bool → List UInt8 → Nat → Nat → Nat → List Int → List UInt8 → Int → Bool → List UInt8 → Option β) : Option β :=
 cond (decide ((p3 : Int) ≥ 64)) (
 cond (Nat.ble 64 p4) (
 cond (Nat.ble ((p2 + 0) + 64) p9.length) (
 sha_mix n p5 true ((p9.drop (p2 + 0)).take 64)
 (fun r6 =>
 cond (Nat.ble 64 p3) (
 R p0 p1 (p2 + 64) (p3 - 64) (p4 - 64) r6 p6 p7 p8 p9) none)) none) none) (
 e0 p0 p1 p2 p3 p4 p5 p6 p7 p8 p9)
noncomputable def sha_Hash_Write_l0 (n : Nat) {β : Type} : Nat → Bool → List UInt8 → Nat → Nat → Nat → List Int → List UInt8 → Int → Bool → List UInt8 → (Bool → List UInt8 → Nat → Nat → Nat → List Int → List UInt8 → Int → Bool → List UInt8 → Option β) → Option β
  | 0, _, _, _, _, _, _, _, _, _, _, _ => none
  | m + 1, p0, p1, p2, p3, p4, p5, p6, p7, p8, p9, e0 => sha_Hash_Write_l0_s n p0 p1 p2 p3 p4 p5 p6 p7 p8 p9 (fun p0 p1 p2 p3 p4 p5 p6 p7 p8 p9 => sha_Hash_Write_l0 n m p0 p1 p2 p3 p4 p5 p6 p7 p8 p9 e0) e0
noncomputable def sha_Hash_Write (n : Nat) {β : Type} (a0 : Bool) (a1 : List UInt8) (a2 : List Int) (a3 : List UInt8) (a4 : Int) (a5 : Bool) (k0 : Int → List Int → List UInt8 → Int → Bool → Option β) : Option β :=
 sha_Hash_lay n a2 a3 a4 a5
 (fun r1 r2 r3 r4 =>
 cond (Nat.ble ((([] : List UInt8) ++ r2).length * 1) most) (
 cond (Nat.ble (((([] : List UInt8) ++ r2) ++ a1).length * 1) most) (
 sha_Hash_Write_l0 n n a0 a1 0 (((([] : List UInt8) ++ r2) ++ a1).length) (((([] : List UInt8) ++ r2) ++ a1).length) r1 r2 (wi64 (r3 + (a1.length : Int))) r4 ((([] : List UInt8) ++ r2) ++ a1)
 (fun q7 q8 q9 q10 q11 q12 q13 q14 q15 q16 =>
 cond (Nat.ble (q9 + q10) q16.length) (
 k0 (q8.length : Int) q12 ((q16.drop q9).take q10) q14 q15) none)) none) none)
noncomputable def sha_Hash_Write_p (n : Nat) : PSpec CT := fun _ a o => match a, o with
  | [(.ptr 10000 []), (.vs a0 (.u8 a1))], [(.agg 11 [(.arr 8 (.int .u32 a2)), (.vs false (.u8 a3)), (.int .i64 a4), (.bool a5)])] => some fun K => sha_Hash_Write n a0 a1 a2 a3 a4 a5 (fun z0 z1 z2 z3 z4 => K ⟨(.int .i64 z0), [some (.agg 11 [(.arr 8 (.int .u32 z1)), (.vs false (.u8 z2)), (.int .i64 z3), (.bool z4)])], []⟩)
  | _, _ => none

noncomputable def sha_Hash_Clone (n : Nat) {β : Type} (a0 : List Int) (a1 : List UInt8) (a2 : Int) (a3 : Bool) (k0 : List Int → List UInt8 → Int → Bool → List Int → List UInt8 → Int → Bool → Option β) : Option β :=
 cond (Nat.ble ((([] : List UInt8) ++ a1).length * 1) most) (
 k0 a0 a1 a2 a3 a0 (([] : List UInt8) ++ a1) a2 a3) none
noncomputable def sha_Hash_Clone_p (n : Nat) : PSpec CT := fun _ a o => match a, o with
  | [(.ptr 10000 [])], [(.agg 11 [(.arr 8 (.int .u32 a0)), (.vs false (.u8 a1)), (.int .i64 a2), (.bool a3)])] => some fun K => sha_Hash_Clone n a0 a1 a2 a3 (fun z0 z1 z2 z3 z4 z5 z6 z7 => K ⟨(.ptr 10001 []), [some (.agg 11 [(.arr 8 (.int .u32 z0)), (.vs false (.u8 z1)), (.int .i64 z2), (.bool z3)])], [(.agg 11 [(.arr 8 (.int .u32 z4)), (.vs false (.u8 z5)), (.int .i64 z6), (.bool z7)])]⟩)
  | _, _ => none

noncomputable def sha_tail_l0_s (n : Nat) {β : Type} (p0 : Int) (p1 : Int) (p2 : List UInt8) (R : Int → Int → List UInt8 → Option β) (e0 : List UInt8 → Option β) : Option β :=
 cond (decide (p1 ≥ 0)) (
 cond (decide (0 ≤ wi64 (8 * p1))) (
 cond (Nat.ble ((p2 ++ ([UInt8.ofNat (wu8 (shrI .u64 p0 (wi64 (8 * p1)))).toNat] : List UInt8)).length * 1) most) (
 R p0 (wi64 (p1 - 1)) (p2 ++ ([UInt8.ofNat (wu8 (shrI .u64 p0 (wi64 (8 * p1)))).toNat] : List UInt8))) none) none) (
 e0 p2)
noncomputable def sha_tail_l0 (n : Nat) {β : Type} : Nat → Int → Int → List UInt8 → (List UInt8 → Option β) → Option β
  | 0, _, _, _, _ => none
  | m + 1, p0, p1, p2, e0 => sha_tail_l0_s n p0 p1 p2 (fun p0 p1 p2 => sha_tail_l0 n m p0 p1 p2 e0) e0
noncomputable def sha_tail (n : Nat) {β : Type} (a0 : Int) (k0 : List UInt8 → Option β) : Option β :=
 cond (decide (0 ≤ (wi64 (119 - (a0.tmod 64))).tmod 64)) (
 cond (Nat.ble (((wi64 (119 - (a0.tmod 64))).tmod 64).toNat * 1) most) (
 cond (Nat.ble ((([128] : List UInt8) ++ (List.replicate (((wi64 (119 - (a0.tmod 64))).tmod 64).toNat) 0)).length * 1) most) (
 sha_tail_l0 n n (wu64 ((wu64 (a0)) * 8)) 7 (([128] : List UInt8) ++ (List.replicate (((wi64 (119 - (a0.tmod 64))).tmod 64).toNat) 0))
 (fun q1 =>
 k0 q1)) none) none) none
noncomputable def sha_tail_p (n : Nat) : PSpec CT := fun _ a o => match a, o with
  | [(.int .i64 a0)], [] => some fun K => sha_tail n a0 (fun z0 => K ⟨(.vs false (.u8 z0)), [], []⟩)
  | _, _ => none

noncomputable def sha_Hash_Sum_l0_s (n : Nat) {β : Type} (p0 : List Int) (p1 : Int) (p2 : List UInt8) (p3 : List UInt8) (p4 : List Int) (p5 : List UInt8) (p6 : Int) (p7 : Bool) (R : List Int → Int → List UInt8 → List UInt8 → List Int → List UInt8 → Int → Bool → Option β) (e0 : List UInt8 → List UInt8 → List Int → List UInt8 → Int → Bool → Option β) : Option β :=
 cond (decide (p1 < 8)) (
 cond (decide (0 ≤ p1)) (
 (p0[p1.toNat]?).bind fun n15 =>
 cond (decide (0 ≤ wi64 (4 * p1))) (
 cond (Nat.blt ((wi64 (4 * p1)).toNat) 32) (
 (p3[(wi64 (4 * p1)).toNat]?).bind fun b16 =>
 cond (decide (0 ≤ wi64 ((wi64 (4 * p1)) + 1))) (
 cond (Nat.blt ((wi64 ((wi64 (4 * p1)) + 1)).toNat) 32) (
 ((p3.set ((wi64 (4 * p1)).toNat) (UInt8.ofNat (wu8 (shrI .u32 n15 24)).toNat))[(wi64 ((wi64 (4 * p1)) + 1)).toNat]?).bind fun b17 =>
 cond (decide (0 ≤ wi64 ((wi64 (4 * p1)) + 2))) (
 cond (Nat.blt ((wi64 ((wi64 (4 * p1)) + 2)).toNat) 32) (
 (((p3.set ((wi64 (4 * p1)).toNat) (UInt8.ofNat (wu8 (shrI .u32 n15 24)).toNat)).set ((wi64 ((wi64 (4 * p1)) + 1)).toNat) (UInt8.ofNat (wu8 (shrI .u32 n15 16)).toNat))[(wi64 ((wi64 (4 * p1)) + 2)).toNat]?).bind fun b18 =>
 cond (decide (0 ≤ wi64 ((wi64 (4 * p1)) + 3))) (
 cond (Nat.blt ((wi64 ((wi64 (4 * p1)) + 3)).toNat) 32) (
 ((((p3.set ((wi64 (4 * p1)).toNat) (UInt8.ofNat (wu8 (shrI .u32 n15 24)).toNat)).set ((wi64 ((wi64 (4 * p1)) + 1)).toNat) (UInt8.ofNat (wu8 (shrI .u32 n15 16)).toNat)).set ((wi64 ((wi64 (4 * p1)) + 2)).toNat) (UInt8.ofNat (wu8 (shrI .u32 n15 8)).toNat))[(wi64 ((wi64 (4 * p1)) + 3)).toNat]?).bind fun b19 =>
 R p0 (wi64 (p1 + 1)) p2 ((((p3.set ((wi64 (4 * p1)).toNat) (UInt8.ofNat (wu8 (shrI .u32 n15 24)).toNat)).set ((wi64 ((wi64 (4 * p1)) + 1)).toNat) (UInt8.ofNat (wu8 (shrI .u32 n15 16)).toNat)).set ((wi64 ((wi64 (4 * p1)) + 2)).toNat) (UInt8.ofNat (wu8 (shrI .u32 n15 8)).toNat)).set ((wi64 ((wi64 (4 * p1)) + 3)).toNat) (UInt8.ofNat (wu8 (n15)).toNat)) p4 p5 p6 p7) none) none) none) none) none) none) none) none) none) (
 e0 p2 p3 p4 p5 p6 p7)
noncomputable def sha_Hash_Sum_l0 (n : Nat) {β : Type} : Nat → List Int → Int → List UInt8 → List UInt8 → List Int → List UInt8 → Int → Bool → (List UInt8 → List UInt8 → List Int → List UInt8 → Int → Bool → Option β) → Option β
  | 0, _, _, _, _, _, _, _, _, _ => none
  | m + 1, p0, p1, p2, p3, p4, p5, p6, p7, e0 => sha_Hash_Sum_l0_s n p0 p1 p2 p3 p4 p5 p6 p7 (fun p0 p1 p2 p3 p4 p5 p6 p7 => sha_Hash_Sum_l0 n m p0 p1 p2 p3 p4 p5 p6 p7 e0) e0
noncomputable def sha_Hash_Sum (n : Nat) {β : Type} (a0 : List Int) (a1 : List UInt8) (a2 : Int) (a3 : Bool) (k0 : List UInt8 → List Int → List UInt8 → Int → Bool → Option β) : Option β :=
 sha_Hash_Clone n a0 a1 a2 a3
 (fun r1 r2 r3 r4 r5 r6 r7 r8 =>
 sha_tail n r7
 (fun r9 =>
 sha_Hash_Write n false r9 r5 r6 r7 r8
 (fun r10 r11 r12 r13 r14 =>
 sha_Hash_Sum_l0 n n r11 0 (List.replicate 32 0) (List.replicate 32 0) r1 r2 r3 r4
 (fun q20 q21 q22 q23 q24 q25 =>
 k0 q21 q22 q23 q24 q25))))
noncomputable def sha_Hash_Sum_p (n : Nat) : PSpec CT := fun _ a o => match a, o with
  | [(.ptr 10000 [])], [(.agg 11 [(.arr 8 (.int .u32 a0)), (.vs false (.u8 a1)), (.int .i64 a2), (.bool a3)])] => some fun K => sha_Hash_Sum n a0 a1 a2 a3 (fun z0 z1 z2 z3 z4 => K ⟨(.arr 32 (.u8 z0)), [some (.agg 11 [(.arr 8 (.int .u32 z1)), (.vs false (.u8 z2)), (.int .i64 z3), (.bool z4)])], []⟩)
  | _, _ => none

noncomputable def sha_Hash_Len (n : Nat) {β : Type} (a0 : List Int) (a1 : List UInt8) (a2 : Int) (a3 : Bool) (k0 : Int → List Int → List UInt8 → Int → Bool → Option β) : Option β :=
 k0 a2 a0 a1 a2 a3
noncomputable def sha_Hash_Len_p (n : Nat) : PSpec CT := fun _ a o => match a, o with
  | [(.ptr 10000 [])], [(.agg 11 [(.arr 8 (.int .u32 a0)), (.vs false (.u8 a1)), (.int .i64 a2), (.bool a3)])] => some fun K => sha_Hash_Len n a0 a1 a2 a3 (fun z0 z1 z2 z3 z4 => K ⟨(.int .i64 z0), [some (.agg 11 [(.arr 8 (.int .u32 z1)), (.vs false (.u8 z2)), (.int .i64 z3), (.bool z4)])], []⟩)
  | _, _ => none

noncomputable def sha_Sum_l0_s (n : Nat) {β : Type} (p0 : Bool) (p1 : List (List UInt8)) (p2 : Int) (p3 : Int) (p4 : List UInt8) (p5 : List Int) (p6 : List UInt8) (p7 : Int) (p8 : Bool) (R : Bool → List (List UInt8) → Int → Int → List UInt8 → List Int → List UInt8 → Int → Bool → Option β) (e0 : List UInt8 → List Int → List UInt8 → Int → Bool → Option β) : Option β :=
 cond (decide (p3 < p2)) (
 cond (decide (0 ≤ p3)) (
 (p1[p3.toNat]?).bind fun x5 =>
 sha_Hash_Write n p0 x5 p5 p6 p7 p8
 (fun r6 r7 r8 r9 r10 =>
 R p0 p1 p2 (wi64 (p3 + 1)) p4 r7 r8 r9 r10)) none) (
 e0 p4 p5 p6 p7 p8)
noncomputable def sha_Sum_l0 (n : Nat) {β : Type} : Nat → Bool → List (List UInt8) → Int → Int → List UInt8 → List Int → List UInt8 → Int → Bool → (List UInt8 → List Int → List UInt8 → Int → Bool → Option β) → Option β
  | 0, _, _, _, _, _, _, _, _, _, _ => none
  | m + 1, p0, p1, p2, p3, p4, p5, p6, p7, p8, e0 => sha_Sum_l0_s n p0 p1 p2 p3 p4 p5 p6 p7 p8 (fun p0 p1 p2 p3 p4 p5 p6 p7 p8 => sha_Sum_l0 n m p0 p1 p2 p3 p4 p5 p6 p7 p8 e0) e0
noncomputable def sha_Sum (n : Nat) {β : Type} (a0 : Bool) (a1 : List (List UInt8)) (k0 : List UInt8 → Option β) : Option β :=
 sha_New n 
 (fun r1 r2 r3 r4 =>
 sha_Sum_l0 n n a0 a1 (a1.length : Int) 0 (List.replicate 32 0) r1 r2 r3 r4
 (fun q11 q12 q13 q14 q15 =>
 sha_Hash_Sum n q12 q13 q14 q15
 (fun r16 r17 r18 r19 r20 =>
 k0 r16)))
noncomputable def sha_Sum_p (n : Nat) : PSpec CT := fun _ a o => match a, o with
  | [(.vs a0 (.typ 24 1 false a1))], [] => some fun K => sha_Sum n a0 a1 (fun z0 => K ⟨(.arr 32 (.u8 z0)), [], []⟩)
  | _, _ => none

noncomputable def sha_Same_l0_s (n : Nat) {β : Type} (p0 : Bool) (p1 : List UInt8) (p2 : Bool) (p3 : List UInt8) (p4 : Int) (p5 : Int) (p6 : Int) (R : Bool → List UInt8 → Bool → List UInt8 → Int → Int → Int → Option β) (e0 : Int → Option β) : Option β :=
 cond (decide (p6 < p5)) (
 cond (decide (0 ≤ p6)) (
 (p1[p6.toNat]?).bind fun b1 =>
 cond (decide (0 ≤ p6)) (
 (p3[p6.toNat]?).bind fun b2 =>
 R p0 p1 p2 p3 (orI .u8 p4 (xorI .u8 (b1.toNat : Int) (b2.toNat : Int))) p5 (wi64 (p6 + 1))) none) none) (
 e0 p4)
noncomputable def sha_Same_l0 (n : Nat) {β : Type} : Nat → Bool → List UInt8 → Bool → List UInt8 → Int → Int → Int → (Int → Option β) → Option β
  | 0, _, _, _, _, _, _, _, _ => none
  | m + 1, p0, p1, p2, p3, p4, p5, p6, e0 => sha_Same_l0_s n p0 p1 p2 p3 p4 p5 p6 (fun p0 p1 p2 p3 p4 p5 p6 => sha_Same_l0 n m p0 p1 p2 p3 p4 p5 p6 e0) e0
noncomputable def sha_Same (n : Nat) {β : Type} (a0 : Bool) (a1 : List UInt8) (a2 : Bool) (a3 : List UInt8) (k0 : Bool → Option β) : Option β :=
 cond ((a1.length : Int) != (a3.length : Int)) (
 k0 false) (
 sha_Same_l0 n n a0 a1 a2 a3 0 (a1.length : Int) 0
 (fun q3 =>
 k0 (q3 == 0)))
noncomputable def sha_Same_p (n : Nat) : PSpec CT := fun _ a o => match a, o with
  | [(.vs a0 (.u8 a1)), (.vs a2 (.u8 a3))], [] => some fun K => sha_Same n a0 a1 a2 a3 (fun z0 => K ⟨(.bool z0), [], []⟩)
  | _, _ => none

noncomputable def law01_first (n : Nat) {β : Type}  (k0 : Bool → Option β) : Option β :=
 sha_New n 
 (fun r1 r2 r3 r4 =>
 sha_Hash_Write n true ([97, 98] : List UInt8) r1 r2 r3 r4
 (fun r5 r6 r7 r8 r9 =>
 sha_Hash_Clone n r6 r7 r8 r9
 (fun r10 r11 r12 r13 r14 r15 r16 r17 =>
 sha_Hash_Write n true ([99] : List UInt8) r10 r11 r12 r13
 (fun r18 r19 r20 r21 r22 =>
 sha_Hash_Sum n r19 r20 r21 r22
 (fun r23 r24 r25 r26 r27 =>
 cond (r5 == 2) (
 sha_Hash_Len n r24 r25 r26 r27
 (fun r28 r29 r30 r31 r32 =>
 cond (r28 == 3) (
 sha_Hash_Len n r14 r15 r16 r17
 (fun r33 r34 r35 r36 r37 =>
 cond (r33 == 2) (
 sha_Sum n true ([([97] : List UInt8), ([] : List UInt8), ([98, 99] : List UInt8)] : List (List UInt8))
 (fun r38 =>
 cond (r23 == r38) (
 (r23[0]?).bind fun b39 =>
 cond ((b39.toNat : Int) == 186) (
 (r23[31]?).bind fun b40 =>
 cond ((b40.toNat : Int) == 173) (
 sha_Same n true ([97, 98] : List UInt8) true ([97, 98] : List UInt8)
 (fun r41 =>
 cond (r41) (
 sha_Same n true ([97, 98] : List UInt8) true ([97, 99] : List UInt8)
 (fun r42 =>
 k0 (!r42))) (
 k0 false))) (
 k0 false)) (
 k0 false)) (
 k0 false))) (
 k0 false))) (
 k0 false))) (
 k0 false))))))
noncomputable def law01_first_p (n : Nat) : PSpec CT := fun _ a o => match a, o with
  | [], [] => some fun K => law01_first n  (fun z0 => K ⟨(.bool z0), [], []⟩)
  | _, _ => none

noncomputable def ref01_primes_l2_s (n : Nat) {β : Type} (p0 : Int) (p1 : Int) (p2 : Bool) (p3 : Int) (p4 : Int) (p5 : List Int) (R : Int → Int → Bool → Int → Int → List Int → Option β) (e0 : Int → Int → Bool → List Int → Option β) : Option β :=
 cond (decide (p4 < p3)) (
 cond (decide (0 ≤ p4)) (
 cond (Nat.blt p4.toNat p5.length) (
 (p5[p4.toNat]?).bind fun n4 =>
 cond (p2) (
 cond (n4 != 0) (
 R p0 p1 ((p1.tmod n4) != 0) p3 (wi64 (p4 + 1)) p5) none) (
 R p0 p1 false p3 (wi64 (p4 + 1)) p5)) none) none) (
 e0 p0 p1 p2 p5)
noncomputable def ref01_primes_l2 (n : Nat) {β : Type} : Nat → Int → Int → Bool → Int → Int → List Int → (Int → Int → Bool → List Int → Option β) → Option β
  | 0, _, _, _, _, _, _, _ => none
  | m + 1, p0, p1, p2, p3, p4, p5, e0 => ref01_primes_l2_s n p0 p1 p2 p3 p4 p5 (fun p0 p1 p2 p3 p4 p5 => ref01_primes_l2 n m p0 p1 p2 p3 p4 p5 e0) e0
noncomputable def ref01_primes_l0_s (n : Nat) {β : Type} (p0 : Int) (p1 : Int) (p2 : List Int) (R : Int → Int → List Int → Option β) (e0 : List Int → Option β) : Option β :=
 cond (decide ((p2.length : Int) < p0)) (
 ref01_primes_l2 n n p0 p1 true (p2.length : Int) 0 p2
 (fun q5 q6 q7 q8 =>
 cond (q7) (
 cond (Nat.ble ((q8 ++ ([q6] : List Int)).length * 8) most) (
 R q5 (wu64 (q6 + 1)) (q8 ++ ([q6] : List Int))) none) (
 R q5 (wu64 (q6 + 1)) q8))) (
 e0 p2)
noncomputable def ref01_primes_l0 (n : Nat) {β : Type} : Nat → Int → Int → List Int → (List Int → Option β) → Option β
  | 0, _, _, _, _ => none
  | m + 1, p0, p1, p2, e0 => ref01_primes_l0_s n p0 p1 p2 (fun p0 p1 p2 => ref01_primes_l0 n m p0 p1 p2 e0) e0
noncomputable def ref01_primes (n : Nat) {β : Type} (a0 : Int) (k0 : List Int → Option β) : Option β :=
 ref01_primes_l0 n n a0 2 ([] : List Int)
 (fun q9 =>
 k0 q9)
noncomputable def ref01_primes_p (n : Nat) : PSpec CT := fun _ a o => match a, o with
  | [(.int .i64 a0)], [] => some fun K => ref01_primes n a0 (fun z0 => K ⟨(.vs false (.int .u64 z0)), [], []⟩)
  | _, _ => none

noncomputable def ref01_times_l2_s (n : Nat) {β : Type} (p0 : Int) (p1 : Int) (p2 : Int) (p3 : Int) (p4 : List Int) (p5 : Int) (p6 : List Int) (p7 : List Int) (p8 : List Int) (R : Int → Int → Int → Int → List Int → Int → List Int → List Int → List Int → Option β) (e0 : List Int → Int → List Int → List Int → List Int → Option β) : Option β :=
 cond (decide (p1 > 0)) (
 cond (decide ((wi64 (p0 + p3)) < 6)) (
 cond (decide (0 ≤ p3)) (
 cond (Nat.blt p3.toNat 6) (
 (p6[p3.toNat]?).bind fun n2 =>
 cond (decide (0 ≤ wi64 (p0 + p3))) (
 cond (Nat.blt ((wi64 (p0 + p3)).toNat) 6) (
 (p8[(wi64 (p0 + p3)).toNat]?).bind fun n3 =>
 cond (decide (0 ≤ wi64 (p0 + p3))) (
 cond (Nat.blt ((wi64 (p0 + p3)).toNat) 6) (
 (p8[(wi64 (p0 + p3)).toNat]?).bind fun n4 =>
 R p0 p1 (wu64 ((wu64 ((wu64 ((wu64 (p1 * n2)) + n3)) + p2)).tdiv 4294967296)) (wi64 (p3 + 1)) p4 p5 p6 p7 (p8.set ((wi64 (p0 + p3)).toNat) ((wu64 ((wu64 ((wu64 (p1 * n2)) + n3)) + p2)).tmod 4294967296))) none) none) none) none) none) none) (
 e0 p4 p5 p6 p7 p8)) (
 e0 p4 p5 p6 p7 p8)
noncomputable def ref01_times_l2 (n : Nat) {β : Type} : Nat → Int → Int → Int → Int → List Int → Int → List Int → List Int → List Int → (List Int → Int → List Int → List Int → List Int → Option β) → Option β
  | 0, _, _, _, _, _, _, _, _, _, _ => none
  | m + 1, p0, p1, p2, p3, p4, p5, p6, p7, p8, e0 => ref01_times_l2_s n p0 p1 p2 p3 p4 p5 p6 p7 p8 (fun p0 p1 p2 p3 p4 p5 p6 p7 p8 => ref01_times_l2 n m p0 p1 p2 p3 p4 p5 p6 p7 p8 e0) e0
noncomputable def ref01_times_l0_s (n : Nat) {β : Type} (p0 : List Int) (p1 : Int) (p2 : List Int) (p3 : List Int) (p4 : List Int) (R : List Int → Int → List Int → List Int → List Int → Option β) (e0 : List Int → List Int → Option β) : Option β :=
 cond (decide (p1 < 6)) (
 cond (decide (0 ≤ p1)) (
 (p0[p1.toNat]?).bind fun n1 =>
 ref01_times_l2 n n p1 n1 0 0 p0 p1 p2 p3 p4
 (fun q5 q6 q7 q8 q9 =>
 R q5 (wi64 (q6 + 1)) q7 q8 q9)) none) (
 e0 p3 p4)
noncomputable def ref01_times_l0 (n : Nat) {β : Type} : Nat → List Int → Int → List Int → List Int → List Int → (List Int → List Int → Option β) → Option β
  | 0, _, _, _, _, _, _ => none
  | m + 1, p0, p1, p2, p3, p4, e0 => ref01_times_l0_s n p0 p1 p2 p3 p4 (fun p0 p1 p2 p3 p4 => ref01_times_l0 n m p0 p1 p2 p3 p4 e0) e0
noncomputable def ref01_times (n : Nat) {β : Type} (a0 : List Int) (a1 : List Int) (k0 : List Int → Option β) : Option β :=
 ref01_times_l0 n n a0 0 a1 ([0, 0, 0, 0, 0, 0] : List Int) ([0, 0, 0, 0, 0, 0] : List Int)
 (fun q10 q11 =>
 k0 q11)
noncomputable def ref01_times_p (n : Nat) : PSpec CT := fun _ a o => match a, o with
  | [(.arr 6 (.int .u64 a0)), (.arr 6 (.int .u64 a1))], [] => some fun K => ref01_times n a0 a1 (fun z0 => K ⟨(.arr 6 (.int .u64 z0)), [], []⟩)
  | _, _ => none

noncomputable def ref01_less_l0_s (n : Nat) {β : Type} (p0 : Int) (p1 : List Int) (p2 : List Int) (R : Int → List Int → List Int → Option β) (e0 : Bool → Option β) (e1 : Option β) : Option β :=
 cond (decide (p0 ≥ 0)) (
 cond (decide (0 ≤ p0)) (
 cond (Nat.blt p0.toNat 6) (
 (p1[p0.toNat]?).bind fun n1 =>
 cond (decide (0 ≤ p0)) (
 cond (Nat.blt p0.toNat 6) (
 (p2[p0.toNat]?).bind fun n2 =>
 cond (n1 != n2) (
 cond (decide (0 ≤ p0)) (
 cond (Nat.blt p0.toNat 6) (
 (p1[p0.toNat]?).bind fun n3 =>
 cond (decide (0 ≤ p0)) (
 cond (Nat.blt p0.toNat 6) (
 (p2[p0.toNat]?).bind fun n4 =>
 e0 (decide (n3 < n4))) none) none) none) none) (
 R (wi64 (p0 - 1)) p1 p2)) none) none) none) none) (
 e1)
noncomputable def ref01_less_l0 (n : Nat) {β : Type} : Nat → Int → List Int → List Int → (Bool → Option β) → (Option β) → Option β
  | 0, _, _, _, _, _ => none
  | m + 1, p0, p1, p2, e0, e1 => ref01_less_l0_s n p0 p1 p2 (fun p0 p1 p2 => ref01_less_l0 n m p0 p1 p2 e0 e1) e0 e1
noncomputable def ref01_less (n : Nat) {β : Type} (a0 : List Int) (a1 : List Int) (k0 : Bool → Option β) : Option β :=
 ref01_less_l0 n n 5 a0 a1
 (fun q5 =>
 k0 q5)
 (k0 false)
noncomputable def ref01_less_p (n : Nat) : PSpec CT := fun _ a o => match a, o with
  | [(.arr 6 (.int .u64 a0)), (.arr 6 (.int .u64 a1))], [] => some fun K => ref01_less n a0 a1 (fun z0 => K ⟨(.bool z0), [], []⟩)
  | _, _ => none

noncomputable def ref01_fraction_l0_s (n : Nat) {β : Type} (p0 : Int) (p1 : Int) (p2 : Int) (p3 : List Int) (R : Int → Int → Int → List Int → Option β) (e0 : Int → Option β) : Option β :=
 cond (decide (p2 > 0)) (
 ref01_times n ([(wu64 (p1 + p2)).tmod 4294967296, wu64 ((wu64 (p1 + p2)).tdiv 4294967296), 0, 0, 0, 0] : List Int) ([(wu64 (p1 + p2)).tmod 4294967296, wu64 ((wu64 (p1 + p2)).tdiv 4294967296), 0, 0, 0, 0] : List Int)
 (fun r2 =>
 cond (p0 == 3) (
 ref01_times n r2 ([(wu64 (p1 + p2)).tmod 4294967296, wu64 ((wu64 (p1 + p2)).tdiv 4294967296), 0, 0, 0, 0] : List Int)
 (fun r3 =>
 ref01_less n p3 r3
 (fun r4 =>
 cond (!r4) (
 R p0 (wu64 (p1 + p2)) (wu64 (p2.tdiv 2)) p3) (
 R p0 p1 (wu64 (p2.tdiv 2)) p3)))) (
 ref01_less n p3 r2
 (fun r5 =>
 cond (!r5) (
 R p0 (wu64 (p1 + p2)) (wu64 (p2.tdiv 2)) p3) (
 R p0 p1 (wu64 (p2.tdiv 2)) p3))))) (
 e0 p1)
noncomputable def ref01_fraction_l0 (n : Nat) {β : Type} : Nat → Int → Int → Int → List Int → (Int → Option β) → Option β
  | 0, _, _, _, _, _ => none
  | m + 1, p0, p1, p2, p3, e0 => ref01_fraction_l0_s n p0 p1 p2 p3 (fun p0 p1 p2 p3 => ref01_fraction_l0 n m p0 p1 p2 p3 e0) e0
noncomputable def ref01_fraction (n : Nat) {β : Type} (a0 : Int) (a1 : Int) (k0 : Int → Option β) : Option β :=
 cond (decide (0 ≤ a1)) (
 cond (Nat.blt a1.toNat 6) (
 (([0, 0, 0, 0, 0, 0] : List Int)[a1.toNat]?).bind fun n1 =>
 ref01_fraction_l0 n n a1 0 68719476736 (([0, 0, 0, 0, 0, 0] : List Int).set a1.toNat a0)
 (fun q6 =>
 k0 (wu32 (q6.tmod 4294967296)))) none) none
noncomputable def ref01_fraction_p (n : Nat) : PSpec CT := fun _ a o => match a, o with
  | [(.int .u64 a0), (.int .i64 a1)], [] => some fun K => ref01_fraction n a0 a1 (fun z0 => K ⟨(.int .u32 z0), [], []⟩)
  | _, _ => none

noncomputable def ref01_Table_l0_s (n : Nat) {β : Type} (p0 : List Int) (p1 : Int) (p2 : Int) (p3 : List Int) (p4 : List Int) (R : List Int → Int → Int → List Int → List Int → Option β) (e0 : List Int → List Int → Option β) : Option β :=
 cond (decide (p2 < p1)) (
 cond (decide (0 ≤ p2)) (
 (p0[p2.toNat]?).bind fun n5 =>
 ref01_fraction n n5 3
 (fun r6 =>
 cond (Nat.ble ((p3 ++ ([r6] : List Int)).length * 4) most) (
 cond (decide (p2 < 8)) (
 ref01_fraction n n5 2
 (fun r7 =>
 cond (Nat.ble ((p4 ++ ([r7] : List Int)).length * 4) most) (
 R p0 p1 (wi64 (p2 + 1)) (p3 ++ ([r6] : List Int)) (p4 ++ ([r7] : List Int))) none)) (
 R p0 p1 (wi64 (p2 + 1)) (p3 ++ ([r6] : List Int)) p4)) none)) none) (
 e0 p3 p4)
noncomputable def ref01_Table_l0 (n : Nat) {β : Type} : Nat → List Int → Int → Int → List Int → List Int → (List Int → List Int → Option β) → Option β
  | 0, _, _, _, _, _, _ => none
  | m + 1, p0, p1, p2, p3, p4, e0 => ref01_Table_l0_s n p0 p1 p2 p3 p4 (fun p0 p1 p2 p3 p4 => ref01_Table_l0 n m p0 p1 p2 p3 p4 e0) e0
noncomputable def ref01_Table (n : Nat) {β : Type}  (k0 : List Int → List Int → Option β) : Option β :=
 ref01_primes n 64
 (fun r1 =>
 ref01_Table_l0 n n r1 (r1.length : Int) 0 ([] : List Int) ([] : List Int)
 (fun q8 q9 =>
 k0 q8 q9))
noncomputable def ref01_Table_p (n : Nat) : PSpec CT := fun _ a o => match a, o with
  | [], [] => some fun K => ref01_Table n  (fun z0 z1 => K ⟨(.tup [(.vs false (.int .u32 z0)), (.vs false (.int .u32 z1))]), [], []⟩)
  | _, _ => none

noncomputable def ref01_rotr (n : Nat) {β : Type} (a0 : Int) (a1 : Int) (k0 : Int → Option β) : Option β :=
 cond (decide (0 ≤ a1)) (
 cond (decide (0 ≤ wi64 (32 - a1))) (
 k0 (orI .u32 (shrI .u32 a0 a1) (shlI .u32 a0 (wi64 (32 - a1))))) none) none
noncomputable def ref01_rotr_p (n : Nat) : PSpec CT := fun _ a o => match a, o with
  | [(.int .u32 a0), (.int .i64 a1)], [] => some fun K => ref01_rotr n a0 a1 (fun z0 => K ⟨(.int .u32 z0), [], []⟩)
  | _, _ => none

noncomputable def ref01_Mixed_l0_s (n : Nat) {β : Type} (p0 : Bool) (p1 : List Int) (p2 : Bool) (p3 : List Int) (p4 : Int) (p5 : List UInt8) (p6 : List UInt8) (R : Bool → List Int → Bool → List Int → Int → List UInt8 → List UInt8 → Option β) (e0 : Bool → List Int → Bool → List Int → Int → List UInt8 → List UInt8 → Option β) : Option β :=
 cond (((p5.length : Int).tmod 64) != 56) (
 cond (Nat.ble (p5.length + 1) most) (
 R p0 p1 p2 p3 p4 (p5 ++ ([0] : List UInt8)) p6) none) (
 e0 p0 p1 p2 p3 p4 p5 p6)
noncomputable def ref01_Mixed_l0 (n : Nat) {β : Type} : Nat → Bool → List Int → Bool → List Int → Int → List UInt8 → List UInt8 → (Bool → List Int → Bool → List Int → Int → List UInt8 → List UInt8 → Option β) → Option β
  | 0, _, _, _, _, _, _, _, _ => none
  | m + 1, p0, p1, p2, p3, p4, p5, p6, e0 => ref01_Mixed_l0_s n p0 p1 p2 p3 p4 p5 p6 (fun p0 p1 p2 p3 p4 p5 p6 => ref01_Mixed_l0 n m p0 p1 p2 p3 p4 p5 p6 e0) e0
noncomputable def ref01_Mixed_l2_s (n : Nat) {β : Type} (p0 : Bool) (p1 : List Int) (p2 : Bool) (p3 : List Int) (p4 : Int) (p5 : List UInt8) (p6 : List UInt8) (p7 : Int) (p8 : List UInt8) (R : Bool → List Int → Bool → List Int → Int → List UInt8 → List UInt8 → Int → List UInt8 → Option β) (e0 : Bool → List Int → Bool → List Int → List UInt8 → List UInt8 → List UInt8 → Option β) : Option β :=
 cond (decide (p7 < 8)) (
 cond (Nat.ble (1 + p6.length) most) (
 R p0 p1 p2 p3 (wu64 (p4.tdiv 256)) p5 (([UInt8.ofNat (wu8 (p4.tmod 256)).toNat] : List UInt8) ++ p6) (wi64 (p7 + 1)) p8) none) (
 e0 p0 p1 p2 p3 p5 p6 p8)
noncomputable def ref01_Mixed_l2 (n : Nat) {β : Type} : Nat → Bool → List Int → Bool → List Int → Int → List UInt8 → List UInt8 → Int → List UInt8 → (Bool → List Int → Bool → List Int → List UInt8 → List UInt8 → List UInt8 → Option β) → Option β
  | 0, _, _, _, _, _, _, _, _, _, _ => none
  | m + 1, p0, p1, p2, p3, p4, p5, p6, p7, p8, e0 => ref01_Mixed_l2_s n p0 p1 p2 p3 p4 p5 p6 p7 p8 (fun p0 p1 p2 p3 p4 p5 p6 p7 p8 => ref01_Mixed_l2 n m p0 p1 p2 p3 p4 p5 p6 p7 p8 e0) e0
noncomputable def ref01_Mixed_l8_s (n : Nat) {β : Type} (p0 : Bool) (p1 : List Int) (p2 : List UInt8) (p3 : Int) (p4 : Int) (p5 : Int) (p6 : Int) (p7 : List UInt8) (p8 : List Int) (p9 : List Int) (R : Bool → List Int → List UInt8 → Int → Int → Int → Int → List UInt8 → List Int → List Int → Option β) (e0 : Bool → List Int → List UInt8 → Int → Int → Int → List UInt8 → List Int → List Int → Option β) : Option β :=
 cond (decide (p6 < 4)) (
 cond (decide (0 ≤ wi64 ((wi64 (p3 + (wi64 (4 * p4)))) + p6))) (
 (p2[(wi64 ((wi64 (p3 + (wi64 (4 * p4)))) + p6)).toNat]?).bind fun b24 =>
 R p0 p1 p2 p3 p4 (wu32 ((wu32 (p5 * 256)) + (wu32 ((b24.toNat : Int))))) (wi64 (p6 + 1)) p7 p8 p9) none) (
 e0 p0 p1 p2 p3 p4 p5 p7 p8 p9)
noncomputable def ref01_Mixed_l8 (n : Nat) {β : Type} : Nat → Bool → List Int → List UInt8 → Int → Int → Int → Int → List UInt8 → List Int → List Int → (Bool → List Int → List UInt8 → Int → Int → Int → List UInt8 → List Int → List Int → Option β) → Option β
  | 0, _, _, _, _, _, _, _, _, _, _, _ => none
  | m + 1, p0, p1, p2, p3, p4, p5, p6, p7, p8, p9, e0 => ref01_Mixed_l8_s n p0 p1 p2 p3 p4 p5 p6 p7 p8 p9 (fun p0 p1 p2 p3 p4 p5 p6 p7 p8 p9 => ref01_Mixed_l8 n m p0 p1 p2 p3 p4 p5 p6 p7 p8 p9 e0) e0
noncomputable def ref01_Mixed_l6_s (n : Nat) {β : Type} (p0 : Bool) (p1 : List Int) (p2 : List UInt8) (p3 : Int) (p4 : Int) (p5 : List Int) (p6 : List UInt8) (p7 : List Int) (R : Bool → List Int → List UInt8 → Int → Int → List Int → List UInt8 → List Int → Option β) (e0 : Bool → List Int → List UInt8 → Int → List UInt8 → List Int → List Int → Option β) : Option β :=
 cond (decide (p4 < 64)) (
 cond (decide (p4 < 16)) (
 ref01_Mixed_l8 n n p0 p1 p2 p3 p4 0 0 p6 p7 p5
 (fun q25 q26 q27 q28 q29 q30 q31 q32 q33 =>
 cond (Nat.ble ((q33 ++ ([q30] : List Int)).length * 4) most) (
 R q25 q26 q27 q28 (wi64 (q29 + 1)) (q33 ++ ([q30] : List Int)) q31 q32) none)) (
 cond (decide (0 ≤ wi64 (p4 - 15))) (
 cond (Nat.blt ((wi64 (p4 - 15)).toNat) p5.length) (
 (p5[(wi64 (p4 - 15)).toNat]?).bind fun n34 =>
 cond (decide (0 ≤ wi64 (p4 - 2))) (
 cond (Nat.blt ((wi64 (p4 - 2)).toNat) p5.length) (
 (p5[(wi64 (p4 - 2)).toNat]?).bind fun n35 =>
 ref01_rotr n n35 17
 (fun r36 =>
 ref01_rotr n n35 19
 (fun r37 =>
 cond (decide (0 ≤ wi64 (p4 - 7))) (
 cond (Nat.blt ((wi64 (p4 - 7)).toNat) p5.length) (
 (p5[(wi64 (p4 - 7)).toNat]?).bind fun n38 =>
 ref01_rotr n n34 7
 (fun r39 =>
 ref01_rotr n n34 18
 (fun r40 =>
 cond (decide (0 ≤ wi64 (p4 - 16))) (
 cond (Nat.blt ((wi64 (p4 - 16)).toNat) p5.length) (
 (p5[(wi64 (p4 - 16)).toNat]?).bind fun n41 =>
 cond (Nat.ble ((p5 ++ ([wu32 ((wu32 ((wu32 ((xorI .u32 (xorI .u32 r36 r37) (shrI .u32 n35 10)) + n38)) + (xorI .u32 (xorI .u32 r39 r40) (shrI .u32 n34 3)))) + n41)] : List Int)).length * 4) most) (
 R p0 p1 p2 p3 (wi64 (p4 + 1)) (p5 ++ ([wu32 ((wu32 ((wu32 ((xorI .u32 (xorI .u32 r36 r37) (shrI .u32 n35 10)) + n38)) + (xorI .u32 (xorI .u32 r39 r40) (shrI .u32 n34 3)))) + n41)] : List Int)) p6 p7) none) none) none))) none) none))) none) none) none) none)) (
 e0 p0 p1 p2 p3 p6 p7 p5)
noncomputable def ref01_Mixed_l6 (n : Nat) {β : Type} : Nat → Bool → List Int → List UInt8 → Int → Int → List Int → List UInt8 → List Int → (Bool → List Int → List UInt8 → Int → List UInt8 → List Int → List Int → Option β) → Option β
  | 0, _, _, _, _, _, _, _, _, _ => none
  | m + 1, p0, p1, p2, p3, p4, p5, p6, p7, e0 => ref01_Mixed_l6_s n p0 p1 p2 p3 p4 p5 p6 p7 (fun p0 p1 p2 p3 p4 p5 p6 p7 => ref01_Mixed_l6 n m p0 p1 p2 p3 p4 p5 p6 p7 e0) e0
noncomputable def ref01_Mixed_l10_s (n : Nat) {β : Type} (p0 : Bool) (p1 : List Int) (p2 : List UInt8) (p3 : Int) (p4 : Int) (p5 : List Int) (p6 : List UInt8) (p7 : List Int) (p8 : List Int) (R : Bool → List Int → List UInt8 → Int → Int → List Int → List UInt8 → List Int → List Int → Option β) (e0 : Bool → List Int → List UInt8 → Int → List UInt8 → List Int → List Int → Option β) : Option β :=
 cond (decide (p4 < 64)) (
 cond (Nat.blt 4 p5.length) (
 (p5[4]?).bind fun n81 =>
 ref01_rotr n n81 6
 (fun r82 =>
 cond (Nat.blt 4 p5.length) (
 (p5[4]?).bind fun n83 =>
 ref01_rotr n n83 11
 (fun r84 =>
 cond (Nat.blt 4 p5.length) (
 (p5[4]?).bind fun n85 =>
 ref01_rotr n n85 25
 (fun r86 =>
 cond (Nat.blt 0 p5.length) (
 (p5[0]?).bind fun n87 =>
 ref01_rotr n n87 2
 (fun r88 =>
 cond (Nat.blt 0 p5.length) (
 (p5[0]?).bind fun n89 =>
 ref01_rotr n n89 13
 (fun r90 =>
 cond (Nat.blt 0 p5.length) (
 (p5[0]?).bind fun n91 =>
 ref01_rotr n n91 22
 (fun r92 =>
 cond (Nat.blt 7 p5.length) (
 (p5[7]?).bind fun n93 =>
 cond (Nat.blt 4 p5.length) (
 (p5[4]?).bind fun n94 =>
 cond (Nat.blt 5 p5.length) (
 (p5[5]?).bind fun n95 =>
 cond (Nat.blt 4 p5.length) (
 (p5[4]?).bind fun n96 =>
 cond (Nat.blt 6 p5.length) (
 (p5[6]?).bind fun n97 =>
 cond (decide (0 ≤ p4)) (
 (p1[p4.toNat]?).bind fun n98 =>
 cond (decide (0 ≤ p4)) (
 cond (Nat.blt p4.toNat p8.length) (
 (p8[p4.toNat]?).bind fun n99 =>
 cond (Nat.blt 0 p5.length) (
 (p5[0]?).bind fun n100 =>
 cond (Nat.blt 1 p5.length) (
 (p5[1]?).bind fun n101 =>
 cond (Nat.blt 0 p5.length) (
 (p5[0]?).bind fun n102 =>
 cond (Nat.blt 2 p5.length) (
 (p5[2]?).bind fun n103 =>
 cond (Nat.blt 1 p5.length) (
 (p5[1]?).bind fun n104 =>
 cond (Nat.blt 2 p5.length) (
 (p5[2]?).bind fun n105 =>
 cond (Nat.blt 0 p5.length) (
 (p5[0]?).bind fun n106 =>
 cond (Nat.blt 1 p5.length) (
 (p5[1]?).bind fun n107 =>
 cond (Nat.blt 2 p5.length) (
 (p5[2]?).bind fun n108 =>
 cond (Nat.blt 3 p5.length) (
 (p5[3]?).bind fun n109 =>
 cond (Nat.blt 4 p5.length) (
 (p5[4]?).bind fun n110 =>
 cond (Nat.blt 5 p5.length) (
 (p5[5]?).bind fun n111 =>
 cond (Nat.blt 6 p5.length) (
 (p5[6]?).bind fun n112 =>
 R p0 p1 p2 p3 (wi64 (p4 + 1)) ([wu32 ((wu32 ((wu32 ((wu32 ((wu32 (n93 + (xorI .u32 (xorI .u32 r82 r84) r86))) + (xorI .u32 (andI .u32 n94 n95) (andI .u32 (wu32 (4294967295 - n96)) n97)))) + n98)) + n99)) + (wu32 ((xorI .u32 (xorI .u32 r88 r90) r92) + (xorI .u32 (xorI .u32 (andI .u32 n100 n101) (andI .u32 n102 n103)) (andI .u32 n104 n105))))), n106, n107, n108, wu32 (n109 + (wu32 ((wu32 ((wu32 ((wu32 (n93 + (xorI .u32 (xorI .u32 r82 r84) r86))) + (xorI .u32 (andI .u32 n94 n95) (andI .u32 (wu32 (4294967295 - n96)) n97)))) + n98)) + n99))), n110, n111, n112] : List Int) p6 p7 p8) none) none) none) none) none) none) none) none) none) none) none) none) none) none) none) none) none) none) none) none) none)) none)) none)) none)) none)) none)) none) (
 e0 p0 p1 p2 p3 p6 p7 p5)
noncomputable def ref01_Mixed_l10 (n : Nat) {β : Type} : Nat → Bool → List Int → List UInt8 → Int → Int → List Int → List UInt8 → List Int → List Int → (Bool → List Int → List UInt8 → Int → List UInt8 → List Int → List Int → Option β) → Option β
  | 0, _, _, _, _, _, _, _, _, _, _ => none
  | m + 1, p0, p1, p2, p3, p4, p5, p6, p7, p8, e0 => ref01_Mixed_l10_s n p0 p1 p2 p3 p4 p5 p6 p7 p8 (fun p0 p1 p2 p3 p4 p5 p6 p7 p8 => ref01_Mixed_l10 n m p0 p1 p2 p3 p4 p5 p6 p7 p8 e0) e0
noncomputable def ref01_Mixed_l12_s (n : Nat) {β : Type} (p0 : Bool) (p1 : List Int) (p2 : List UInt8) (p3 : Int) (p4 : Int) (p5 : Int) (p6 : List UInt8) (p7 : List Int) (p8 : List Int) (R : Bool → List Int → List UInt8 → Int → Int → Int → List UInt8 → List Int → List Int → Option β) (e0 : Bool → List Int → List UInt8 → Int → List UInt8 → List Int → Option β) : Option β :=
 cond (decide (p5 < p4)) (
 cond (decide (0 ≤ p5)) (
 cond (Nat.blt p5.toNat p7.length) (
 (p7[p5.toNat]?).bind fun n120 =>
 cond (decide (0 ≤ p5)) (
 cond (Nat.blt p5.toNat p8.length) (
 (p8[p5.toNat]?).bind fun n121 =>
 cond (decide (0 ≤ p5)) (
 cond (Nat.blt p5.toNat p7.length) (
 (p7[p5.toNat]?).bind fun n122 =>
 R p0 p1 p2 p3 p4 (wi64 (p5 + 1)) p6 (p7.set p5.toNat (wu32 (n120 + n121))) p8) none) none) none) none) none) none) (
 e0 p0 p1 p2 p3 p6 p7)
noncomputable def ref01_Mixed_l12 (n : Nat) {β : Type} : Nat → Bool → List Int → List UInt8 → Int → Int → Int → List UInt8 → List Int → List Int → (Bool → List Int → List UInt8 → Int → List UInt8 → List Int → Option β) → Option β
  | 0, _, _, _, _, _, _, _, _, _, _ => none
  | m + 1, p0, p1, p2, p3, p4, p5, p6, p7, p8, e0 => ref01_Mixed_l12_s n p0 p1 p2 p3 p4 p5 p6 p7 p8 (fun p0 p1 p2 p3 p4 p5 p6 p7 p8 => ref01_Mixed_l12 n m p0 p1 p2 p3 p4 p5 p6 p7 p8 e0) e0
noncomputable def ref01_Mixed_l4_s (n : Nat) {β : Type} (p0 : Bool) (p1 : List Int) (p2 : List UInt8) (p3 : Int) (p4 : List UInt8) (p5 : List Int) (R : Bool → List Int → List UInt8 → Int → List UInt8 → List Int → Option β) (e0 : List UInt8 → List Int → Option β) : Option β :=
 cond (decide (p3 < (p2.length : Int))) (
 ref01_Mixed_l6 n n p0 p1 p2 p3 0 ([] : List Int) p4 p5
 (fun q42 q43 q44 q45 q46 q47 q48 =>
 cond (Nat.ble ((([] : List Int) ++ q47).length * 4) most) (
 ref01_Mixed_l10 n n q42 q43 q44 q45 0 (([] : List Int) ++ q47) q46 q47 q48
 (fun q113 q114 q115 q116 q117 q118 q119 =>
 ref01_Mixed_l12 n n q113 q114 q115 q116 (q118.length : Int) 0 q117 q118 q119
 (fun q123 q124 q125 q126 q127 q128 =>
 R q123 q124 q125 (wi64 (q126 + 64)) q127 q128))) none)) (
 e0 p4 p5)
noncomputable def ref01_Mixed_l4 (n : Nat) {β : Type} : Nat → Bool → List Int → List UInt8 → Int → List UInt8 → List Int → (List UInt8 → List Int → Option β) → Option β
  | 0, _, _, _, _, _, _, _ => none
  | m + 1, p0, p1, p2, p3, p4, p5, e0 => ref01_Mixed_l4_s n p0 p1 p2 p3 p4 p5 (fun p0 p1 p2 p3 p4 p5 => ref01_Mixed_l4 n m p0 p1 p2 p3 p4 p5 e0) e0
noncomputable def ref01_Mixed_l16_s (n : Nat) {β : Type} (p0 : Int) (p1 : Int) (p2 : Int) (p3 : Int) (p4 : Int) (p5 : List UInt8) (p6 : List UInt8) (p7 : List Int) (R : Int → Int → Int → Int → Int → List UInt8 → List UInt8 → List Int → Option β) (e0 : Int → Int → List UInt8 → List UInt8 → List Int → Option β) : Option β :=
 cond (decide (p2 < 4)) (
 cond (decide (0 ≤ wi64 (24 - (wi64 (8 * p2))))) (
 cond (decide (0 ≤ wi64 ((wi64 (4 * p0)) + p2))) (
 cond (Nat.blt ((wi64 ((wi64 (4 * p0)) + p2)).toNat) 32) (
 (p6[(wi64 ((wi64 (4 * p0)) + p2)).toNat]?).bind fun b132 =>
 R p0 p1 (wi64 (p2 + 1)) p3 p4 p5 (p6.set ((wi64 ((wi64 (4 * p0)) + p2)).toNat) (UInt8.ofNat (wu8 (shrI .u32 p1 (wi64 (24 - (wi64 (8 * p2)))))).toNat)) p7) none) none) none) (
 e0 p3 p4 p5 p6 p7)
noncomputable def ref01_Mixed_l16 (n : Nat) {β : Type} : Nat → Int → Int → Int → Int → Int → List UInt8 → List UInt8 → List Int → (Int → Int → List UInt8 → List UInt8 → List Int → Option β) → Option β
  | 0, _, _, _, _, _, _, _, _, _ => none
  | m + 1, p0, p1, p2, p3, p4, p5, p6, p7, e0 => ref01_Mixed_l16_s n p0 p1 p2 p3 p4 p5 p6 p7 (fun p0 p1 p2 p3 p4 p5 p6 p7 => ref01_Mixed_l16 n m p0 p1 p2 p3 p4 p5 p6 p7 e0) e0
noncomputable def ref01_Mixed_l14_s (n : Nat) {β : Type} (p0 : Int) (p1 : Int) (p2 : List UInt8) (p3 : List UInt8) (p4 : List Int) (R : Int → Int → List UInt8 → List UInt8 → List Int → Option β) (e0 : List UInt8 → List UInt8 → Option β) : Option β :=
 cond (decide (p1 < p0)) (
 cond (decide (0 ≤ p1)) (
 cond (Nat.blt p1.toNat p4.length) (
 (p4[p1.toNat]?).bind fun n131 =>
 ref01_Mixed_l16 n n p1 n131 0 p0 p1 p2 p3 p4
 (fun q133 q134 q135 q136 q137 =>
 R q133 (wi64 (q134 + 1)) q135 q136 q137)) none) none) (
 e0 p2 p3)
noncomputable def ref01_Mixed_l14 (n : Nat) {β : Type} : Nat → Int → Int → List UInt8 → List UInt8 → List Int → (List UInt8 → List UInt8 → Option β) → Option β
  | 0, _, _, _, _, _, _ => none
  | m + 1, p0, p1, p2, p3, p4, e0 => ref01_Mixed_l14_s n p0 p1 p2 p3 p4 (fun p0 p1 p2 p3 p4 => ref01_Mixed_l14 n m p0 p1 p2 p3 p4 e0) e0
noncomputable def ref01_Mixed (n : Nat) {β : Type} (a0 : List UInt8) (a1 : Bool) (a2 : List Int) (a3 : Bool) (a4 : List Int) (k0 : List UInt8 → Option β) : Option β :=
 cond (Nat.ble (a0.length + 1) most) (
 ref01_Mixed_l0 n n a1 a2 a3 a4 (wu64 ((wu64 ((a0.length : Int))) * 8)) (a0 ++ ([128] : List UInt8)) (List.replicate 32 0)
 (fun q1 q2 q3 q4 q5 q6 q7 =>
 ref01_Mixed_l2 n n q1 q2 q3 q4 q5 q6 ([] : List UInt8) 0 q7
 (fun q8 q9 q10 q11 q12 q13 q14 =>
 cond (Nat.ble (q12.length + q13.length) most) (
 cond (Nat.ble ((([] : List Int) ++ q11).length * 4) most) (
 ref01_Mixed_l4 n n q8 q9 (q12 ++ q13) 0 q14 (([] : List Int) ++ q11)
 (fun q129 q130 =>
 ref01_Mixed_l14 n n (q130.length : Int) 0 q129 (List.replicate 32 0) q130
 (fun q138 q139 =>
 k0 q139))) none) none))) none
noncomputable def ref01_Mixed_p (n : Nat) : PSpec CT := fun _ a o => match a, o with
  | [(.str a0), (.vs a1 (.int .u32 a2)), (.vs a3 (.int .u32 a4))], [] => some fun K => ref01_Mixed n a0 a1 a2 a3 a4 (fun z0 => K ⟨(.arr 32 (.u8 z0)), [], []⟩)
  | _, _ => none

noncomputable def ref01_Sum (n : Nat) {β : Type} (a0 : List UInt8) (k0 : List UInt8 → Option β) : Option β :=
 ref01_Table n 
 (fun r1 r2 =>
 ref01_Mixed n a0 false r1 false r2
 (fun r3 =>
 k0 r3))
noncomputable def ref01_Sum_p (n : Nat) : PSpec CT := fun _ a o => match a, o with
  | [(.str a0)], [] => some fun K => ref01_Sum n a0 (fun z0 => K ⟨(.arr 32 (.u8 z0)), [], []⟩)
  | _, _ => none

noncomputable def law01_ShaSums_l0_s (n : Nat) {β : Type} (p0 : Bool) (p1 : List (List UInt8)) (p2 : List UInt8) (p3 : Bool) (p4 : List (List UInt8)) (p5 : Int) (p6 : Int) (R : Bool → List (List UInt8) → List UInt8 → Bool → List (List UInt8) → Int → Int → Option β) (e0 : Bool → List (List UInt8) → List UInt8 → Option β) : Option β :=
 cond (decide (p6 < p5)) (
 cond (decide (0 ≤ p6)) (
 (p4[p6.toNat]?).bind fun x2 =>
 cond (Nat.ble (p2.length + x2.length) most) (
 R p0 p1 (p2 ++ x2) p3 p4 p5 (wi64 (p6 + 1))) none) none) (
 e0 p0 p1 p2)
noncomputable def law01_ShaSums_l0 (n : Nat) {β : Type} : Nat → Bool → List (List UInt8) → List UInt8 → Bool → List (List UInt8) → Int → Int → (Bool → List (List UInt8) → List UInt8 → Option β) → Option β
  | 0, _, _, _, _, _, _, _, _ => none
  | m + 1, p0, p1, p2, p3, p4, p5, p6, e0 => law01_ShaSums_l0_s n p0 p1 p2 p3 p4 p5 p6 (fun p0 p1 p2 p3 p4 p5 p6 => law01_ShaSums_l0 n m p0 p1 p2 p3 p4 p5 p6 e0) e0
noncomputable def law01_ShaSums (n : Nat) {β : Type} (a0 : Bool) (a1 : List (List UInt8)) (k0 : Bool → Option β) : Option β :=
 law01_first n 
 (fun r1 =>
 cond (!r1) (
 k0 false) (
 law01_ShaSums_l0 n n a0 a1 ([] : List UInt8) a0 a1 (a1.length : Int) 0
 (fun q3 q4 q5 =>
 cond (decide ((q5.length : Int) > 1000)) (
 k0 true) (
 cond (decide ((q4.length : Int) > 50)) (
 k0 true) (
 sha_Sum n q3 q4
 (fun r6 =>
 ref01_Sum n q5
 (fun r7 =>
 k0 (r6 == r7))))))))
noncomputable def law01_ShaSums_p (n : Nat) : PSpec CT := fun _ a o => match a, o with
  | [(.vs a0 (.typ 24 1 false a1))], [] => some fun K => law01_ShaSums n a0 a1 (fun z0 => K ⟨(.bool z0), [], []⟩)
  | _, _ => none

noncomputable def law01_ShaSame (n : Nat) {β : Type} (a0 : List UInt8) (a1 : List UInt8) (a2 : Int) (k0 : Bool → Option β) : Option β :=
 law01_first n 
 (fun r1 =>
 cond (!r1) (
 k0 false) (
 cond (decide ((wi64 ((a0.length : Int) + (a1.length : Int))) > 3000)) (
 k0 true) (
 cond ((wi64 ((a0.length : Int) + 1)) != 0) (
 sha_New n 
 (fun r2 r3 r4 r5 =>
 cond (decide (0 ≤ (wi64 (a2)).tmod (wi64 ((a0.length : Int) + 1)))) (
 cond (Nat.ble (((wi64 (a2)).tmod (wi64 ((a0.length : Int) + 1))).toNat) a0.length) (
 sha_Hash_Write n false ((a0.drop 0).take ((((wi64 (a2)).tmod (wi64 ((a0.length : Int) + 1))).toNat) - 0)) r2 r3 r4 r5
 (fun r6 r7 r8 r9 r10 =>
 sha_Hash_Sum n r7 r8 r9 r10
 (fun r11 r12 r13 r14 r15 =>
 cond (decide (0 ≤ (wi64 (a2)).tmod (wi64 ((a0.length : Int) + 1)))) (
 cond (Nat.ble (((wi64 (a2)).tmod (wi64 ((a0.length : Int) + 1))).toNat) a0.length) (
 sha_Hash_Write n false ((a0.drop (((wi64 (a2)).tmod (wi64 ((a0.length : Int) + 1))).toNat)).take (a0.length - (((wi64 (a2)).tmod (wi64 ((a0.length : Int) + 1))).toNat))) r12 r13 r14 r15
 (fun r16 r17 r18 r19 r20 =>
 sha_Same n false a0 false a1
 (fun r21 =>
 cond (r21 == (a0 == a1)) (
 cond (Nat.ble ((([] : List UInt8) ++ a0).length * 1) most) (
 sha_Same n false a0 true (([] : List UInt8) ++ a0)
 (fun r22 =>
 cond (r22) (
 sha_Hash_Sum n r17 r18 r19 r20
 (fun r23 r24 r25 r26 r27 =>
 sha_Sum n true ([a0] : List (List UInt8))
 (fun r28 =>
 cond (r23 == r28) (
 cond (decide (0 ≤ (wi64 (a2)).tmod (wi64 ((a0.length : Int) + 1)))) (
 cond (Nat.ble (((wi64 (a2)).tmod (wi64 ((a0.length : Int) + 1))).toNat) a0.length) (
 cond (decide (0 ≤ (wi64 (a2)).tmod (wi64 ((a0.length : Int) + 1)))) (
 cond (Nat.ble (((wi64 (a2)).tmod (wi64 ((a0.length : Int) + 1))).toNat) a0.length) (
 sha_Sum n true ([(a0.drop 0).take ((((wi64 (a2)).tmod (wi64 ((a0.length : Int) + 1))).toNat) - 0), (a0.drop (((wi64 (a2)).tmod (wi64 ((a0.length : Int) + 1))).toNat)).take (a0.length - (((wi64 (a2)).tmod (wi64 ((a0.length : Int) + 1))).toNat))] : List (List UInt8))
 (fun r29 =>
 sha_Sum n true ([a0] : List (List UInt8))
 (fun r30 =>
 k0 (r29 == r30)))) none) none) none) none) (
 k0 false)))) (
 k0 false))) none) (
 k0 false)))) none) none))) none) none)) none)))
noncomputable def law01_ShaSame_p (n : Nat) : PSpec CT := fun _ a o => match a, o with
  | [(.vs false (.u8 a0)), (.vs false (.u8 a1)), (.int .u16 a2)], [] => some fun K => law01_ShaSame n a0 a1 a2 (fun z0 => K ⟨(.bool z0), [], []⟩)
  | _, _ => none

noncomputable def sha_Hash_Write_1 (n : Nat) {β : Type} (a0 : Bool) (a1 : List UInt8) (k0 : Int → Option β) : Option β :=
 k0 0
noncomputable def sha_Hash_Write_1_p (n : Nat) : PSpec CT := fun _ a o => match a, o with
  | [.nilp, (.vs a0 (.u8 a1))], [] => some fun K => sha_Hash_Write_1 n a0 a1 (fun z0 => K ⟨(.int .i64 z0), [], []⟩)
  | _, _ => none

noncomputable def sha_Hash_Clone_1 (n : Nat) {β : Type}  (k0 : Option β) : Option β :=
 k0
noncomputable def sha_Hash_Clone_1_p (n : Nat) : PSpec CT := fun _ a o => match a, o with
  | [.nilp], [] => some fun K => sha_Hash_Clone_1 n  (K ⟨.nilp, [], []⟩)
  | _, _ => none

noncomputable def sha_Hash_Sum_1_l0_s (n : Nat) {β : Type} (p0 : List Int) (p1 : Int) (p2 : List UInt8) (p3 : List UInt8) (R : List Int → Int → List UInt8 → List UInt8 → Option β) (e0 : List UInt8 → List UInt8 → Option β) : Option β :=
 cond (decide (p1 < 8)) (
 cond (decide (0 ≤ p1)) (
 (p0[p1.toNat]?).bind fun n11 =>
 cond (decide (0 ≤ wi64 (4 * p1))) (
 cond (Nat.blt ((wi64 (4 * p1)).toNat) 32) (
 (p3[(wi64 (4 * p1)).toNat]?).bind fun b12 =>
 cond (decide (0 ≤ wi64 ((wi64 (4 * p1)) + 1))) (
 cond (Nat.blt ((wi64 ((wi64 (4 * p1)) + 1)).toNat) 32) (
 ((p3.set ((wi64 (4 * p1)).toNat) (UInt8.ofNat (wu8 (shrI .u32 n11 24)).toNat))[(wi64 ((wi64 (4 * p1)) + 1)).toNat]?).bind fun b13 =>
 cond (decide (0 ≤ wi64 ((wi64 (4 * p1)) + 2))) (
 cond (Nat.blt ((wi64 ((wi64 (4 * p1)) + 2)).toNat) 32) (
 (((p3.set ((wi64 (4 * p1)).toNat) (UInt8.ofNat (wu8 (shrI .u32 n11 24)).toNat)).set ((wi64 ((wi64 (4 * p1)) + 1)).toNat) (UInt8.ofNat (wu8 (shrI .u32 n11 16)).toNat))[(wi64 ((wi64 (4 * p1)) + 2)).toNat]?).bind fun b14 =>
 cond (decide (0 ≤ wi64 ((wi64 (4 * p1)) + 3))) (
 cond (Nat.blt ((wi64 ((wi64 (4 * p1)) + 3)).toNat) 32) (
 ((((p3.set ((wi64 (4 * p1)).toNat) (UInt8.ofNat (wu8 (shrI .u32 n11 24)).toNat)).set ((wi64 ((wi64 (4 * p1)) + 1)).toNat) (UInt8.ofNat (wu8 (shrI .u32 n11 16)).toNat)).set ((wi64 ((wi64 (4 * p1)) + 2)).toNat) (UInt8.ofNat (wu8 (shrI .u32 n11 8)).toNat))[(wi64 ((wi64 (4 * p1)) + 3)).toNat]?).bind fun b15 =>
 R p0 (wi64 (p1 + 1)) p2 ((((p3.set ((wi64 (4 * p1)).toNat) (UInt8.ofNat (wu8 (shrI .u32 n11 24)).toNat)).set ((wi64 ((wi64 (4 * p1)) + 1)).toNat) (UInt8.ofNat (wu8 (shrI .u32 n11 16)).toNat)).set ((wi64 ((wi64 (4 * p1)) + 2)).toNat) (UInt8.ofNat (wu8 (shrI .u32 n11 8)).toNat)).set ((wi64 ((wi64 (4 * p1)) + 3)).toNat) (UInt8.ofNat (wu8 (n11)).toNat))) none) none) none) none) none) none) none) none) none) (
 e0 p2 p3)
noncomputable def sha_Hash_Sum_1_l0 (n : Nat) {β : Type} : Nat → List Int → Int → List UInt8 → List UInt8 → (List UInt8 → List UInt8 → Option β) → Option β
  | 0, _, _, _, _, _ => none
  | m + 1, p0, p1, p2, p3, e0 => sha_Hash_Sum_1_l0_s n p0 p1 p2 p3 (fun p0 p1 p2 p3 => sha_Hash_Sum_1_l0 n m p0 p1 p2 p3 e0) e0
noncomputable def sha_Hash_Sum_1 (n : Nat) {β : Type}  (k0 : List UInt8 → Option β) : Option β :=
 sha_Hash_Clone_1 n 
 (sha_New n 
 (fun r1 r2 r3 r4 =>
 sha_tail n r3
 (fun r5 =>
 sha_Hash_Write n false r5 r1 r2 r3 r4
 (fun r6 r7 r8 r9 r10 =>
 sha_Hash_Sum_1_l0 n n r7 0 (List.replicate 32 0) (List.replicate 32 0)
 (fun q16 q17 =>
 k0 q17)))))
noncomputable def sha_Hash_Sum_1_p (n : Nat) : PSpec CT := fun _ a o => match a, o with
  | [.nilp], [] => some fun K => sha_Hash_Sum_1 n  (fun z0 => K ⟨(.arr 32 (.u8 z0)), [], []⟩)
  | _, _ => none

noncomputable def sha_Hash_Len_1 (n : Nat) {β : Type}  (k0 : Int → Option β) : Option β :=
 k0 0
noncomputable def sha_Hash_Len_1_p (n : Nat) : PSpec CT := fun _ a o => match a, o with
  | [.nilp], [] => some fun K => sha_Hash_Len_1 n  (fun z0 => K ⟨(.int .i64 z0), [], []⟩)
  | _, _ => none

noncomputable def law01_ShaPlays_l0_s (n : Nat) {β : Type} (p0 : List Int) (p1 : List Int) (p2 : List UInt8) (p3 : List Waterclocklaw01Op) (p4 : Int) (p5 : Int) (p6 : List Int) (p7 : List UInt8) (p8 : Int) (p9 : Bool) (R : List Int → List Int → List UInt8 → List Waterclocklaw01Op → Int → Int → List Int → List UInt8 → Int → Bool → Option β) (e0 : Bool → Option β) (e1 : List Int → List Int → List UInt8 → List Int → List UInt8 → Int → Bool → Option β) : Option β :=
 cond (decide (p5 < p4)) (
 cond (decide (0 ≤ p5)) (
 (p3[p5.toNat]?).bind fun x112 =>
 cond (decide (p5 ≥ 30)) (
 e0 true) (
 cond (decide ((wi64 ((p2.length : Int) + (x112.b.length : Int))) > 1500)) (
 e0 true) (
 cond (((wu64 (x112.kind)).tmod 4) == 0) (
 sha_Hash_Write n false x112.b p6 p7 p8 p9
 (fun r113 r114 r115 r116 r117 =>
 cond (r113 != (x112.b.length : Int)) (
 e0 false) (
 sha_Hash_Write_1 n false x112.b
 (fun r118 =>
 cond (r118 != 0) (
 e0 false) (
 cond (Nat.ble (p2.length + x112.b.length) most) (
 sha_Hash_Len n r114 r115 r116 r117
 (fun r119 r120 r121 r122 r123 =>
 cond (r119 != ((p2 ++ x112.b).length : Int)) (
 e0 false) (
 R p0 p1 (p2 ++ x112.b) p3 p4 (wi64 (p5 + 1)) r120 r121 r122 r123))) none))))) (
 cond (((wu64 (x112.kind)).tmod 4) == 2) (
 sha_Hash_Clone n p6 p7 p8 p9
 (fun r124 r125 r126 r127 r128 r129 r130 r131 =>
 sha_Hash_Len n r128 r129 r130 r131
 (fun r132 r133 r134 r135 r136 =>
 cond (r132 != (p2.length : Int)) (
 e0 false) (
 R p0 p1 p2 p3 p4 (wi64 (p5 + 1)) r133 r134 r135 r136)))) (
 cond (((wu64 (x112.kind)).tmod 4) == 3) (
 sha_Hash_Clone n p6 p7 p8 p9
 (fun r137 r138 r139 r140 r141 r142 r143 r144 =>
 sha_Hash_Write n false x112.b r137 r138 r139 r140
 (fun r145 r146 r147 r148 r149 =>
 sha_Hash_Len n r141 r142 r143 r144
 (fun r150 r151 r152 r153 r154 =>
 cond (r150 != (p2.length : Int)) (
 e0 false) (
 R p0 p1 p2 p3 p4 (wi64 (p5 + 1)) r151 r152 r153 r154))))) (
 sha_Hash_Sum n p6 p7 p8 p9
 (fun r155 r156 r157 r158 r159 =>
 ref01_Mixed n p2 false p0 false p1
 (fun r160 =>
 cond (!(r155 == r160)) (
 e0 false) (
 sha_Hash_Len n r156 r157 r158 r159
 (fun r161 r162 r163 r164 r165 =>
 cond (r161 != (p2.length : Int)) (
 e0 false) (
 R p0 p1 p2 p3 p4 (wi64 (p5 + 1)) r162 r163 r164 r165))))))))))) none) (
 e1 p0 p1 p2 p6 p7 p8 p9)
noncomputable def law01_ShaPlays_l0 (n : Nat) {β : Type} : Nat → List Int → List Int → List UInt8 → List Waterclocklaw01Op → Int → Int → List Int → List UInt8 → Int → Bool → (Bool → Option β) → (List Int → List Int → List UInt8 → List Int → List UInt8 → Int → Bool → Option β) → Option β
  | 0, _, _, _, _, _, _, _, _, _, _, _, _ => none
  | m + 1, p0, p1, p2, p3, p4, p5, p6, p7, p8, p9, e0, e1 => law01_ShaPlays_l0_s n p0 p1 p2 p3 p4 p5 p6 p7 p8 p9 (fun p0 p1 p2 p3 p4 p5 p6 p7 p8 p9 => law01_ShaPlays_l0 n m p0 p1 p2 p3 p4 p5 p6 p7 p8 p9 e0 e1) e0 e1
noncomputable def law01_ShaPlays (n : Nat) {β : Type} (a0 : List Waterclocklaw01Op) (k0 : Bool → Option β) : Option β :=
 law01_first n 
 (fun r1 =>
 cond (!r1) (
 k0 false) (
 ref01_Table n 
 (fun r2 r3 =>
 law01_ShaPlays_l0 n n r2 r3 ([] : List UInt8) a0 (a0.length : Int) 0 ([0, 0, 0, 0, 0, 0, 0, 0] : List Int) ([] : List UInt8) 0 false
 (fun q166 =>
 k0 q166)
 (fun q167 q168 q169 q170 q171 q172 q173 =>
 sha_Hash_Sum n q170 q171 q172 q173
 (fun r174 r175 r176 r177 r178 =>
 ref01_Mixed n q169 false q167 false q168
 (fun r179 =>
 cond (r174 == r179) (
 sha_Hash_Sum_1 n 
 (fun r180 =>
 sha_Sum n false ([] : List (List UInt8))
 (fun r181 =>
 cond (r180 == r181) (
 sha_Hash_Len_1 n 
 (fun r182 =>
 cond (r182 == 0) (
 sha_Hash_Clone_1 n 
 (k0 true)) (
 k0 false))) (
 k0 false)))) (
 k0 false)))))))
noncomputable def law01_ShaPlays_p (n : Nat) : PSpec CT := fun _ a o => match a, o with
  | [(.vs false (.typ 39 2 false a0))], [] => some fun K => law01_ShaPlays n a0 (fun z0 => K ⟨(.bool z0), [], []⟩)
  | _, _ => none
end Go.Proofs.Ytjnkppjlhmkjaaa.Av
