/- The evaluator 'Av': the IR run over abstract values. No proof stands here; AvRel and what follows show that it is sound. -/
import Derived.Orders
namespace Go.Proofs.Ytjnkppjlhmkjaaa.Av
open Go

/-- The kind of a list's elements: bytes, whole numbers, texts, plain data of a type (its number, its cells, is it of scalars alone?), anything. -/
inductive LK where
  | u8 | int (k : IntKind) | str | typ (c sz : Nat) (sc : Bool) | gen (sz : Nat)
deriving DecidableEq
def LK.sz : LK → Nat
  | .gen s => s
  | .typ _ s _ => s
  | _ => 1

/-- A step into a value: a field (its offset in cells, its place), an element (the elements' size in cells, its place). -/
inductive Step where
  | fld (off j : Nat)
  | idx (sz i : Nat)
deriving DecidableEq

/-- Lists of elements, by their kind. -/
inductive LS (CT : Nat → Type) (α : Type) where
  | u8 (l : List UInt8)
  | int (k : IntKind) (l : List Int)
  | str (l : List (List UInt8))
  | typ (c sz : Nat) (sc : Bool) (l : List (CT c))
  | gen (sz : Nat) (l : List α)

/-- Abstract values. -/
inductive AV (CT : Nat → Type) where
  | junk | und
  | bool (b : Bool)
  | int (k : IntKind) (n : Int)
  | flt (k : FloatKind) (x : Nat)
  | cpx (k : FloatKind) (re im : Nat)
  | str (s : List UInt8)
  | agg (sz : Nat) (fs : List (AV CT))
  | arr (n : Nat) (l : LS CT (AV CT))
  | lst (l : LS CT (AV CT))        -- what a slice's own array holds
  | vnil (k : LK)
  | mw (id : Nat) (k : LK)         -- the whole slice of such an object
  | vs (lent : Bool) (l : LS CT (AV CT))
  | vptr (lent : Bool) (a : AV CT)
  | ms (id : Nat) (p : List Step) (k : LK) (off len cap : Nat)
  | ptr (id : Nat) (p : List Step)
  | nilp | nilf | nili
  | fn (f : Nat) (caps : List (AV CT))
  | ifc (t : Nat) (a : AV CT)
  | errb (none : Bool)
  | tup (l : List (AV CT))

variable {CT : Nat → Type}
namespace LS
def sz {α : Type} : LS CT α → Nat
  | .gen s _ => s
  | .typ _ s _ _ => s
  | _ => 1
def len {α : Type} : LS CT α → Nat
  | .u8 l => l.length
  | .int _ l => l.length
  | .str l => l.length
  | .typ _ _ _ l => l.length
  | .gen _ l => l.length
def kind {α : Type} : LS CT α → LK
  | .u8 _ => .u8
  | .int k _ => .int k
  | .str _ => .str
  | .typ c s b _ => .typ c s b
  | .gen s _ => .gen s
/-- The part from lo on, n elements. -/
def ext {α : Type} (lo n : Nat) : LS CT α → LS CT α
  | .u8 l => .u8 ((l.drop lo).take n)
  | .int k l => .int k ((l.drop lo).take n)
  | .str l => .str ((l.drop lo).take n)
  | .typ c s b l => .typ c s b ((l.drop lo).take n)
  | .gen s l => .gen s ((l.drop lo).take n)
/-- Plain data alone? -/
def plain {α : Type} : LS CT α → Bool
  | .gen _ _ => false
  | _ => true
/-- Scalars alone? -/
def scalar {α : Type} : LS CT α → Bool
  | .gen _ _ => false
  | .typ _ _ sc _ => sc
  | _ => true
end LS
def LK.nil {α : Type} : LK → LS CT α
  | .u8 => .u8 []
  | .int k => .int k []
  | .str => .str []
  | .typ c s b => .typ c s b []
  | .gen s => .gen s []

/-- How many cells a value takes. -/
def AV.size : AV CT → Nat
  | .agg s _ => s
  | .arr n l => n * l.sz
  | .lst l => l.len * l.sz
  | _ => 1
def AV.isAgg : AV CT → Bool
  | .agg _ _ => true
  | .arr _ _ => true
  | .lst _ => true
  | _ => false
def AV.isCell : AV CT → Bool
  | .junk => false
  | .und => false
  | .tup _ => false
  | _ => true
def offOf : List (AV CT) → Nat → Nat
  | _, 0 => 0
  | [], _ + 1 => 0
  | a :: l, j + 1 => a.size + offOf l j

mutual
/-- What was read out of what is lent is lent. -/
def AV.taint (b : Bool) : AV CT → AV CT
  | .vs l x => .vs (l || b) x
  | .vptr l x => .vptr (l || b) x
  | .agg s fs => .agg s (taints b fs)
  | .arr n (.gen s l) => .arr n (.gen s (taints b l))
  | .ifc t x => .ifc t (x.taint b)
  | .fn f caps => .fn f (taints b caps)
  | .tup l => .tup (taints b l)
  | x => x
termination_by structural x => x
def taints (b : Bool) : List (AV CT) → List (AV CT)
  | [] => []
  | a :: l => a.taint b :: taints b l
termination_by structural x => x
end
mutual
/-- Marks of what is lent, taken off (the one around them stays). -/
def AV.unlent : AV CT → AV CT
  | .vs _ l => .vs false l
  | .agg s fs => .agg s (unlents fs)
  | .arr n (.gen s l) => .arr n (.gen s (unlents l))
  | x => x
termination_by structural x => x
def unlents : List (AV CT) → List (AV CT)
  | [] => []
  | a :: l => a.unlent :: unlents l
termination_by structural x => x
end
mutual
/-- The references in a value. -/
def AV.ids : AV CT → List Nat
  | .ms i _ _ _ _ _ => [i]
  | .mw i _ => [i]
  | .ptr i _ => [i]
  | .agg _ fs => idss fs
  | .arr _ (.gen _ l) => idss l
  | .lst (.gen _ l) => idss l
  | .fn _ caps => idss caps
  | .ifc _ x => x.ids
  | .tup l => idss l
  | _ => []
termination_by structural x => x
def idss : List (AV CT) → List Nat
  | [] => []
  | a :: l => a.ids ++ idss l
termination_by structural x => x
end

def assoc : List (Nat × Nat) → Nat → Option Nat
  | [], _ => none
  | (i, v) :: r, x => cond (Nat.beq i x) (some v) (assoc r x)

mutual
/-- References by their new names; what has none is junk. -/
def AV.ren (m : List (Nat × Nat)) : AV CT → AV CT
  | .ms i p k off len cap => match assoc m i with | some j => .ms j p k off len cap | none => .junk
  | .mw i k => match assoc m i with | some j => .mw j k | none => .junk
  | .ptr i p => match assoc m i with | some j => .ptr j p | none => .junk
  | .agg s fs => .agg s (rens m fs)
  | .arr n (.gen s l) => .arr n (.gen s (rens m l))
  | .lst (.gen s l) => .lst (.gen s (rens m l))
  | .fn f caps => .fn f (rens m caps)
  | .ifc t x => .ifc t (x.ren m)
  | .tup l => .tup (rens m l)
  | x => x
termination_by structural x => x
def rens (m : List (Nat × Nat)) : List (AV CT) → List (AV CT)
  | [] => []
  | a :: l => a.ren m :: rens m l
termination_by structural x => x
end
mutual
/-- No junk, nothing lent. -/
def AV.clean : AV CT → Bool
  | .junk => false
  | .vs lent l => !lent && l.plain
  | .vptr _ _ => false
  | .agg _ fs => cleans fs
  | .arr _ (.gen _ l) => cleans l
  | .lst (.gen _ l) => cleans l
  | .fn _ caps => cleans caps
  | .ifc _ x => x.clean
  | .tup l => cleans l
  | _ => true
termination_by structural x => x
def cleans : List (AV CT) → Bool
  | [] => true
  | a :: l => a.clean && cleans l
termination_by structural x => x
end
mutual
/-- A nil slice reads as an empty one. -/
def AV.unnil : AV CT → AV CT
  | .vnil k => .vs false k.nil
  | .agg s fs => .agg s (unnils fs)
  | .tup l => .tup (unnils l)
  | x => x
termination_by structural x => x
def unnils : List (AV CT) → List (AV CT)
  | [] => []
  | a :: l => a.unnil :: unnils l
termination_by structural x => x
end

/-- Plain data as values, and back. -/
structure Cod (CT : Nat → Type) where
  enc : (c : Nat) → CT c → AV CT
  dec : (c : Nat) → AV CT → Option (CT c)
  csz : Nat → Nat
  scal : Nat → Bool
  dec_ok : ∀ c v x, dec c v = some x → enc c x = v
  size_ok : ∀ c x, (enc c x).size = csz c
  ids_ok : ∀ c x, (enc c x).ids = []
  cell_ok : ∀ c x, (enc c x).isCell = true
  clean_ok : ∀ c x, (enc c x).clean = true
  scal_ok : ∀ c x b, scal c = true → (enc c x).taint b = enc c x
def LS.get? (C : Cod CT) : LS CT (AV CT) → Nat → Option (AV CT)
  | .u8 l, i => (l[i]?).map fun b => .int .u8 b.toNat
  | .int k l, i => (l[i]?).map fun n => .int k n
  | .str l, i => (l[i]?).map fun s => .str s
  | .typ c _ _ l, i => (l[i]?).map fun x => C.enc c x
  | .gen _ l, i => l[i]?
/-- Marks on lists of plain data are true. -/
def LS.Ok (C : Cod CT) : LS CT (AV CT) → Prop
  | .typ c s sc _ => s = C.csz c ∧ (sc = true → C.scal c = true)
  | _ => True

/-! ### Objects, and programs over them -/
abbrev Ob (CT : Nat → Type) := List (Nat × Option (AV CT))
def Ob.get : Ob CT → Nat → Option (Option (AV CT))
  | [], _ => none
  | (i, v) :: r, x => cond (Nat.beq i x) (some v) (Ob.get r x)
def Ob.set : Ob CT → Nat → Option (AV CT) → Ob CT
  | [], x, v => [(x, v)]
  | (i, u) :: r, x, v => cond (Nat.beq i x) ((i, v) :: r) ((i, u) :: Ob.set r x v)

structure Res (CT : Nat → Type) where
  r : AV CT
  outs : List (Option (AV CT))
  news : List (AV CT)

inductive M (CT : Nat → Type) (α : Type) : Type where
  | ret (a : α)
  | fail
  | rd (id : Nat) (k : Option (Option (AV CT)) → M CT α)
  | wr (id : Nat) (v : Option (AV CT)) (k : M CT α)
  | gd (b : Bool) (k : M CT α)
  | sp (b : Bool) (t f : M CT α)
  | ub (o : Option UInt8) (k : UInt8 → M CT α)
  | ui (o : Option Int) (k : Int → M CT α)
  | us (o : Option (List UInt8)) (k : List UInt8 → M CT α)
  | un (o : Option Nat) (k : Nat → M CT α)
  | ut (c : Nat) (o : Option (CT c)) (k : CT c → M CT α)
  | call (f : Nat) (args objs : List (AV CT)) (k : Res CT → M CT α)

/-- What calls come to: from arguments and the objects that are handed along (named 10000, 10001, ..), to the answer, what became of those, and new ones. -/
def Gam (CT : Nat → Type) : Type 1 := (β : Type) → Nat → List (AV CT) → List (AV CT) → (Res CT → Option β) → Option β

def M.run {α β : Type} (Γ : Gam CT) : M CT α → Ob CT → List Nat → List Nat → (α → Ob CT → List Nat → List Nat → Option β) → Option β
  | .ret a, ob, rs, ws, K => K a ob rs ws
  | .fail, _, _, _, _ => none
  | .rd id k, ob, rs, ws, K => (k (ob.get id)).run Γ ob (id :: rs) ws K
  | .wr id v k, ob, rs, ws, K => k.run Γ (ob.set id v) rs (id :: ws) K
  | .gd b k, ob, rs, ws, K => cond b (k.run Γ ob rs ws K) none
  | .sp b t f, ob, rs, ws, K => cond b (t.run Γ ob rs ws K) (f.run Γ ob rs ws K)
  | .ub o k, ob, rs, ws, K => match o with | none => none | some x => (k x).run Γ ob rs ws K
  | .ui o k, ob, rs, ws, K => match o with | none => none | some x => (k x).run Γ ob rs ws K
  | .us o k, ob, rs, ws, K => match o with | none => none | some x => (k x).run Γ ob rs ws K
  | .un o k, ob, rs, ws, K => match o with | none => none | some x => (k x).run Γ ob rs ws K
  | .ut _ o k, ob, rs, ws, K => match o with | none => none | some x => (k x).run Γ ob rs ws K
  | .call f args objs k, ob, rs, ws, K => Γ β f args objs fun res => (k res).run Γ ob rs ws K

/-! ### Types -/
inductive Ty where
  | bad
  | bool | int (k : IntKind) | flt (k : FloatKind) | cpx (k : FloatKind) | str
  | ptr (e : Nat) | slc (e : Nat) | arr (n e : Nat) | strct (fs : List (Nat × Nat)) | fn | ifc | mp (k e : Nat)
structure TyTab (CT : Nat → Type) where
  C : Cod CT
  d : Nat → Ty
  sz : Nat → Nat
  bytes : Nat → Nat
  zero : Nat → AV CT
  lk : Nat → LK        -- the kind of elements of a type
  own : Nat → Bool     -- is a function handed its slices as objects?

def Ty.isAgg : Ty → Bool
  | .arr _ _ => true
  | .strct _ => true
  | _ => false
/-- A nil slice that the text says: of which kind? -/
def fixN (T : TyTab CT) (t : Nat) (a : AV CT) : AV CT := match a with
  | .vnil (.gen 0) => match T.d t with | .slc e => .vnil (T.lk e) | _ => a
  | a => a

/-! ### Steps of programs -/
section
variable {α : Type}
def LS.getM (C : Cod CT) : LS CT (AV CT) → Nat → (AV CT → M CT α) → M CT α
  | .u8 l, i, k => .ub l[i]? fun b => k (.int .u8 (b.toNat : Int))
  | .int kd l, i, k => .ui l[i]? fun n => k (.int kd n)
  | .str l, i, k => .us l[i]? fun s => k (.str s)
  | .typ c _ _ l, i, k => .ut c l[i]? fun x => k (C.enc c x)
  | .gen _ l, i, k => match l[i]? with | some a => k a | none => .fail
def kindEq (a b : IntKind) : Bool := match decEq a b with | .isTrue _ => true | .isFalse _ => false
def fkindEq (a b : FloatKind) : Bool := match decEq a b with | .isTrue _ => true | .isFalse _ => false
def lkEq (a b : LK) : Bool := match decEq a b with | .isTrue _ => true | .isFalse _ => false
/-- A value that goes into a list (its place is known to be there). -/
def LS.setM (C : Cod CT) : LS CT (AV CT) → Nat → AV CT → (LS CT (AV CT) → M CT α) → M CT α
  | .u8 l, i, v, k => match v with | .int kd n => cond (kindEq kd .u8) (k (.u8 (l.set i (UInt8.ofNat n.toNat)))) .fail | _ => .fail
  | .int kd l, i, v, k => match v with | .int kd' n => cond (kindEq kd kd') (k (.int kd (l.set i n))) .fail | _ => .fail
  | .str l, i, v, k => match v with | .str s => k (.str (l.set i s)) | _ => .fail
  | .typ c s b l, i, v, k => match C.dec c v.unnil with | some x => k (.typ c s b (l.set i x)) | none => .fail
  | .gen s l, i, v, k => cond (v.isCell && Nat.beq v.size s) (k (.gen s (l.set i v))) .fail
def getP (C : Cod CT) : List Step → AV CT → (AV CT → M CT α) → M CT α
  | [], a, k => k a
  | .fld off j :: p, a, k => match a with
    | .agg _ fs => cond (Nat.beq (offOf fs j) off) (match fs[j]? with | some b => getP C p b k | none => .fail) .fail
    | _ => .fail
  | .idx s i :: p, a, k => match a with
    | .arr _ l => cond (Nat.beq l.sz s) (l.getM C i fun b => getP C p b k) .fail
    | .lst l => cond (Nat.beq l.sz s) (l.getM C i fun b => getP C p b k) .fail
    | _ => .fail
def AV.isLst : AV CT → Bool
  | .lst _ => true
  | _ => false
def sameForm (a b : AV CT) : Bool := a.isCell && !a.isLst && (Nat.beq a.size b.size && (match a.isAgg, b.isAgg with | true, true => true | false, false => true | _, _ => false))
def setP (C : Cod CT) : List Step → AV CT → AV CT → (AV CT → M CT α) → M CT α
  | [], a, v, k => cond (sameForm v a) (k v) .fail
  | .fld off j :: p, a, v, k => match a with
    | .agg s fs => cond (Nat.beq (offOf fs j) off) (match fs[j]? with | some b => setP C p b v fun b' => k (.agg s (fs.set j b')) | none => .fail) .fail
    | _ => .fail
  | .idx s i :: p, a, v, k => match a with
    | .arr n l => cond (Nat.beq l.sz s) (l.getM C i fun b => setP C p b v fun b' => l.setM C i b' fun l' => k (.arr n l')) .fail
    | .lst l => cond (Nat.beq l.sz s) (l.getM C i fun b => setP C p b v fun b' => l.setM C i b' fun l' => k (.lst l')) .fail
    | _ => .fail

def newObj (id : Nat) (v : AV CT) (k : M CT α) : M CT α :=
  .rd id fun o => match o with
    | none => cond v.isCell (.wr id (some v) k) .fail
    | some _ => .fail
def rdObj (id : Nat) (k : AV CT → M CT α) : M CT α :=
  .rd id fun o => match o with
    | some (some a) => k a
    | _ => .fail

def rdLst (id : Nat) (k : LS CT (AV CT) → M CT α) : M CT α :=
  rdObj id fun a => match a with
    | .lst l => k l
    | _ => .fail
/-- A list's elements as one slice is read. -/
def sliceOf (C : Cod CT) (a : AV CT) (k : Bool → LS CT (AV CT) → M CT α) : M CT α := match a with
  | .vnil kd => k false kd.nil
  | .vs lent l => k lent l
  | .mw id _ => rdLst id fun l => k true l
  | .ms id p kd off len _ => rdObj id fun c => getP C p c fun a => match a with
    | .arr _ l => .gd (Nat.ble (off + len) l.len) (cond (Nat.beq kd.sz l.sz) (k true (l.ext off len)) .fail)
    | .lst l => .gd (Nat.ble (off + len) l.len) (cond (Nat.beq kd.sz l.sz) (k true (l.ext off len)) .fail)
    | _ => .fail
  | _ => .fail

def listM (f : AV CT → (AV CT → M CT α) → M CT α) : List (AV CT) → (List (AV CT) → M CT α) → M CT α
  | [], k => k []
  | a :: l, k => f a fun a' => listM f l fun l' => k (a' :: l')
def decAll (C : Cod CT) (c : Nat) : List (AV CT) → Option (List (CT c))
  | [] => some []
  | a :: l => match C.dec c a.unlent, decAll C c l with
    | some x, some xs => some (x :: xs)
    | _, _ => none
/-- A list of values, as plain data where it is. -/
def LS.tidy (C : Cod CT) (kd : LK) (s : Nat) (l : List (AV CT)) : LS CT (AV CT) := match kd with
  | .typ c s' b => match decAll C c l with | some xs => .typ c s' b xs | none => .gen s l
  | _ => .gen s l

def decAllS (C : Cod CT) (c : Nat) : List (AV CT) → Option (List (CT c))
  | [] => some []
  | a :: l => match C.dec c a, decAllS C c l with
    | some x, some xs => some (x :: xs)
    | _, _ => none
/-- A list of values, as plain data where it is (nothing lent). -/
def LS.tidyS (C : Cod CT) (kd : LK) (s : Nat) (l : List (AV CT)) : LS CT (AV CT) := match kd with
  | .typ c s' b => match decAllS C c l with | some xs => .typ c s' b xs | none => .gen s l
  | _ => .gen s l
/-- Slices of objects are lent: they read as values as long as the call goes. -/
def lendM (C : Cod CT) : Nat → AV CT → (AV CT → M CT α) → M CT α
  | 0, _, _ => .fail
  | d + 1, a, k => match a with
    | .ms _ _ kd _ _ _ => sliceOf C a fun _ l => match l with
      | .gen s xs => listM (lendM C d) xs fun xs' => match idss xs' with
        | [] => k (.vs true (LS.tidy C kd s xs'))
        | _ => .fail
      | l => k (.vs true l)
    | .mw _ kd => sliceOf C a fun _ l => match l with
      | .gen s xs => listM (lendM C d) xs fun xs' => match idss xs' with
        | [] => k (.vs true (LS.tidy C kd s xs'))
        | _ => .fail
      | l => k (.vs true l)
    | .vnil kd => k (.vs false kd.nil)
    | .agg s fs => listM (lendM C d) fs fun fs' => k (.agg s fs')
    | x => k x

/-- Slices of objects go over to be values: the objects are no more. -/
def pubM : Nat → AV CT → (AV CT → M CT α) → M CT α
  | 0, _, _ => .fail
  | d + 1, a, k => match a with
    | .ms id p kd off len _ => match p with
      | [] => rdLst id fun l => .gd (Nat.ble (off + len) l.len) (cond (l.plain && Nat.beq kd.sz l.sz) (.wr id none (k (.vs false (l.ext off len)))) .fail)
      | _ => .fail
    | .mw id _ => rdLst id fun l => cond l.plain (.wr id none (k (.vs false l))) .fail
    | .agg s fs => listM (pubM d) fs fun fs' => k (.agg s fs')
    | .tup fs => listM (pubM d) fs fun fs' => k (.tup fs')
    | x => k x
def deep : Nat := 8

/-- All objects that are reached. -/
def gatherM : Nat → List Nat → List Nat → (List Nat → M CT α) → M CT α
  | 0, _, _, _ => .fail
  | d + 1, todo, seen, k => match todo with
    | [] => k seen
    | i :: t => cond (seen.any (Nat.beq i)) (gatherM d t seen k) (.rd i fun o => match o with
      | some (some a) => gatherM d (t ++ a.ids) (seen ++ [i]) k
      | _ => .fail)
def readAllM : List Nat → (List (AV CT) → M CT α) → M CT α
  | [], k => k []
  | i :: l, k => rdObj i fun a => readAllM l fun as => k (a :: as)
def base : Nat := 10000
def numbered : List Nat → Nat → List (Nat × Nat)
  | [], _ => []
  | i :: l, n => (i, n) :: numbered l (n + 1)
def swapped (m : List (Nat × Nat)) : List (Nat × Nat) := m.map fun p => (p.2, p.1)
def wrAllM (m : List (Nat × Nat)) : List Nat → List (Option (AV CT)) → M CT α → M CT α
  | i :: l, o :: os, k => match o with
    | some a => cond (a.ren m).isCell (.wr i (some (a.ren m)) (wrAllM m l os k)) .fail
    | none => .wr i none (wrAllM m l os k)
  | [], [], k => k
  | _, _, _ => .fail
def newAllM (m : List (Nat × Nat)) (d : Nat) : List (AV CT) → Nat → M CT α → M CT α
  | a :: l, j, k => newObj (d + 1000 * (j + 1)) (a.ren m) (newAllM m d l (j + 1) k)
  | [], _, k => k
def newMap (d m : Nat) : List (AV CT) → Nat → List (Nat × Nat)
  | [], _ => []
  | _ :: l, j => (base + m + j, d + 1000 * (j + 1)) :: newMap d m l (j + 1)
mutual
/-- The objects whose slices go along as what is lent. -/
def AV.tops : AV CT → List Nat
  | .ms i _ _ _ _ _ => [i]
  | .mw i _ => [i]
  | .agg _ fs => topss fs
  | _ => []
termination_by structural x => x
def topss : List (AV CT) → List Nat
  | [] => []
  | a :: l => a.tops ++ topss l
termination_by structural x => x
end
def apart (a b : List Nat) : Bool := a.all fun x => b.all fun y => !(Nat.beq x y)
def callTail (d f : Nat) (k : AV CT → M CT α) (ls : List Nat) (args : List (AV CT)) : M CT α :=
  gatherM 60 (idss args) [] fun ids => cond (apart ls ids) (
    readAllM ids fun objs =>
      cond ((rens (numbered ids base) (unnils objs)).all AV.isCell) (.call f (rens (numbered ids base) args) (rens (numbered ids base) (unnils objs)) fun res =>
        wrAllM (swapped (numbered ids base) ++ newMap d ids.length res.news 0) ids res.outs (newAllM (swapped (numbered ids base) ++ newMap d ids.length res.news 0) d res.news 0 (k (res.r.ren (swapped (numbered ids base) ++ newMap d ids.length res.news 0))))) .fail) .fail
def callM (T : TyTab CT) (d f : Nat) (args : List (AV CT)) (k : AV CT → M CT α) : M CT α :=
  cond (T.own f) (callTail d f k [] args) (gatherM 60 (topss args) [] fun ls => listM (lendM T.C deep) args (callTail d f k ls))
end
/-! ### Operations -/
def ofConst : Value → AV CT
  | .bool b => .bool b
  | .int k n => .int k n
  | .float k x => .flt k x
  | .complex k x y => .cpx k x y
  | .string s => .str s.data.toList
  | .pointer none => .nilp
  | .slice none _ _ => .vnil (.gen 0)
  | .nilFunc => .nilf
  | .nilIface => .nili
  | _ => .junk

def cmpInt (op : BinOp) (a b : Int) : Option Bool := match op with
  | .eql => some (a == b)
  | .neq => some (a != b)
  | .lss => some (decide (a < b))
  | .leq => some (decide (a ≤ b))
  | .gtr => some (decide (a > b))
  | .geq => some (decide (a ≥ b))
  | _ => none
def andI (k : IntKind) (x y : Int) : Int := k.wrap (BitVec.ofInt k.bits x &&& BitVec.ofInt k.bits y).toNat
def orI (k : IntKind) (x y : Int) : Int := k.wrap (BitVec.ofInt k.bits x ||| BitVec.ofInt k.bits y).toNat
def xorI (k : IntKind) (x y : Int) : Int := k.wrap (BitVec.ofInt k.bits x ^^^ BitVec.ofInt k.bits y).toNat
def andNotI (k : IntKind) (x y : Int) : Int := k.wrap (BitVec.ofInt k.bits x &&& ~~~(BitVec.ofInt k.bits y)).toNat
def shlI (k : IntKind) (x y : Int) : Int := k.wrap (x * 2 ^ (min y.toNat k.bits))
def shrI (k : IntKind) (x y : Int) : Int := x.fdiv (2 ^ (min y.toNat k.bits))
def notI (k : IntKind) (n : Int) : Int := xorI k (if k.signed then -1 else k.max) n
def bitsInt (op : BinOp) (k : IntKind) (x y : Int) : Option Int := match op with
  | .and => some (andI k x y)
  | .or => some (orI k x y)
  | .xor => some (xorI k x y)
  | .andNot => some (andNotI k x y)
  | _ => none
def most : Nat := 1099511627776
section
variable {α : Type}
def intM (op : BinOp) (k : IntKind) (a b : Int) (K : AV CT → M CT α) : M CT α := match op with
  | .add => K (.int k (k.wrap (a + b)))
  | .sub => K (.int k (k.wrap (a - b)))
  | .mul => K (.int k (k.wrap (a * b)))
  | .quo => .gd (b != 0) (K (.int k (k.wrap (a.tdiv b))))
  | .rem => .gd (b != 0) (K (.int k (a.tmod b)))
  | op => match bitsInt op k a b with
    | some n => K (.int k n)
    | none => match cmpInt op a b with
      | some r => K (.bool r)
      | none => .fail
def shiftM (op : BinOp) (k : IntKind) (a b : Int) (K : AV CT → M CT α) : M CT α := match op with
  | .shl => .gd (decide (0 ≤ b)) (K (.int k (shlI k a b)))
  | .shr => .gd (decide (0 ≤ b)) (K (.int k (shrI k a b)))
  | _ => .fail
def strM (op : BinOp) (a b : List UInt8) (K : AV CT → M CT α) : M CT α := match op with
  | .add => .gd (Nat.ble (a.length + b.length) most) (K (.str (a ++ b)))
  | .eql => K (.bool (a == b))
  | .neq => K (.bool !(a == b))
  | .lss => K (.bool (Op.bytesLess a b))
  | .leq => K (.bool (Op.bytesLess a b || a == b))
  | .gtr => K (.bool !(Op.bytesLess a b || a == b))
  | .geq => K (.bool !(Op.bytesLess a b))
  | _ => .fail
def arith? (op : BinOp) (k : FloatKind) (x y : Nat) : Option Nat := match op with
  | .add => k.format.add x y
  | .sub => k.format.sub x y
  | .mul => k.format.mul x y
  | .quo => k.format.div x y
  | _ => none
def cmpFlt (op : BinOp) (k : FloatKind) (x y : Nat) : Option Bool := match op with
  | .eql => some (k.format.order x y == some .eq)
  | .neq => some (k.format.order x y != some .eq)
  | .lss => some (k.format.order x y == some .lt)
  | .leq => some (k.format.order x y == some .lt || k.format.order x y == some .eq)
  | .gtr => some (k.format.order x y == some .gt)
  | .geq => some (k.format.order x y == some .gt || k.format.order x y == some .eq)
  | _ => none
def fltM (op : BinOp) (k : FloatKind) (x y : Nat) (K : AV CT → M CT α) : M CT α := match cmpFlt op k x y with
  | some r => K (.bool r)
  | none => .un (arith? op k x y) fun r => K (.flt k r)
def cpxEq (k : FloatKind) (a b c d : Nat) : Bool := (k.format.order a c == some .eq) && (k.format.order b d == some .eq)
def cpxM (op : BinOp) (k : FloatKind) (a b c d : Nat) (K : AV CT → M CT α) : M CT α := match op with
  | .add => .un (arith? .add k a c) fun r => .un (arith? .add k b d) fun i => K (.cpx k r i)
  | .sub => .un (arith? .sub k a c) fun r => .un (arith? .sub k b d) fun i => K (.cpx k r i)
  | .mul => cond (fkindEq k .f64) (.un (arith? .mul k a c) fun ac => .un (arith? .mul k b d) fun bd => .un (arith? .sub k ac bd) fun r =>
      .un (arith? .mul k a d) fun ad => .un (arith? .mul k b c) fun bc => .un (arith? .add k ad bc) fun i => K (.cpx k r i)) .fail
  | .eql => K (.bool (cpxEq k a b c d))
  | .neq => K (.bool !(cpxEq k a b c d))
  | _ => .fail

/-- '==' of two values, by their type. -/
def eqV (T : TyTab CT) (t : Nat) (x y : AV CT) : Option Bool := match T.d t, x, y with
  | .bool, .bool a, .bool b => some (a == b)
  | .ptr _, .nilp, .nilp => some true
  | .ptr _, .nilp, .ptr _ _ => some false
  | .ptr _, .nilp, .vptr _ _ => some false
  | .ptr _, .ptr _ _, .nilp => some false
  | .ptr _, .vptr _ _, .nilp => some false
  | .ifc, .nili, .nili => some true
  | .ifc, .nili, .ifc _ _ => some false
  | .ifc, .ifc _ _, .nili => some false
  | .ifc, .nili, .errb b => some b
  | .ifc, .errb b, .nili => some b
  | .fn, .nilf, .nilf => some true
  | .fn, .nilf, .fn _ _ => some false
  | .fn, .fn _ _, .nilf => some false
  | .slc _, .vnil _, .vnil _ => some true
  | .arr n e, .arr m l, .arr m' l' => cond (Nat.beq n m && Nat.beq n m') (match T.d e, l, l' with
    | .int .u8, .u8 a, .u8 b => some (a == b)
    | .int _, .int k a, .int k' b => cond (kindEq k k') (some (a == b)) none
    | .str, .str a, .str b => some (a == b)
    | _, _, _ => none) none
  | _, _, _ => none

def binM (T : TyTab CT) (op : BinOp) (t : Nat) (x y : AV CT) (K : AV CT → M CT α) : M CT α := match op, x, y with
  | .shl, .int k a, .int _ b => shiftM .shl k a b K
  | .shr, .int k a, .int _ b => shiftM .shr k a b K
  | op, .int k a, .int k' b => cond (kindEq k k') (intM op k a b K) .fail
  | op, .flt k a, .flt k' b => cond (fkindEq k k') (fltM op k a b K) .fail
  | op, .cpx k a b, .cpx k' c d => cond (fkindEq k k') (cpxM op k a b c d K) .fail
  | op, .str a, .str b => strM op a b K
  | .eql, x, y => match eqV T t x y with | some b => K (.bool b) | none => .fail
  | .neq, x, y => match eqV T t x y with | some b => K (.bool !b) | none => .fail
  | _, _, _ => .fail
def negFlt (k : FloatKind) (bits : Nat) : Nat := bits ^^^ 2 ^ (k.format.exponentBits + k.format.fractionBits)
def unM (op : UnOp) (x : AV CT) (K : AV CT → M CT α) : M CT α := match op, x with
  | .neg, .int k n => K (.int k (k.wrap (0 - n)))
  | .xor, .int k n => K (.int k (notI k n))
  | .neg, .flt k b => K (.flt k (negFlt k b))
  | .neg, .cpx k re im => K (.cpx k (negFlt k re) (negFlt k im))
  | .not, .bool b => K (.bool !b)
  | _, _ => .fail
def convM (T : TyTab CT) (d src dst : Nat) (x : AV CT) (K : AV CT → M CT α) : M CT α := match T.d src, T.d dst, x with
  | _, .int k, .int _ n => K (.int k (k.wrap n))
  | _, .flt k, .int _ n => K (.flt k (k.nearest n))
  | _, .int k, .flt s b => .ui ((s.decode b).toInt .zero) fun n => .gd (decide (k.min ≤ n) && decide (n ≤ k.max)) (K (.int k n))
  | _, .flt k, .flt s b => cond (fkindEq k s) (K (.flt k b)) .fail
  | _, .cpx k, .cpx s a b => cond (fkindEq k s) (K (.cpx k a b)) .fail
  | _, .str, .str s => K (.str s)
  | .str, .slc e, .str s => match T.d e with
    | .int .u8 => newObj d (.lst (.u8 s)) (K (.mw d .u8))
    | _ => .fail
  | .slc e, .str, x => match T.d e with
    | .int .u8 => sliceOf T.C x fun _ l => match l with | .u8 l => K (.str l) | _ => .fail
    | _ => .fail
  | .slc _, .slc e, .mw id k => match T.d e with
    | .int .u8 => cond (Nat.beq src dst) (rdLst id fun l => cond (Nat.blt 0 l.len) (.wr id (some (.lst l)) (K (.mw id k))) .fail) .fail
    | _ => .fail
  | _, _, _ => .fail
/-- The bounds of x[lo:hi]. -/
def boundM (x : Option (AV CT)) (dflt y : Nat) (k : Nat → M CT α) : M CT α := match x with
  | none => k dflt
  | some (.int _ i) => .gd (decide (0 ≤ i)) (.gd (Nat.ble i.toNat y) (k i.toNat))
  | some _ => .fail
def arrS (T : TyTab CT) (n e : Nat) (x : AV CT) (lo hi : Option (AV CT)) (K : AV CT → M CT α) : M CT α := match x with
  | .ptr id p => boundM hi n n fun h => boundM lo 0 h fun l => K (.ms id p (T.lk e) l (h - l) (n - l))
  | .vptr lent (.arr m ls) => cond (Nat.beq ls.sz (T.sz e) && Nat.beq m n) (boundM hi n n fun h => boundM lo 0 h fun l => K (.vs lent (ls.ext l (h - l)))) .fail
  | _ => .fail
def sliceM (T : TyTab CT) (t : Nat) (x : AV CT) (lo hi : Option (AV CT)) (K : AV CT → M CT α) : M CT α := match T.d t, x with
  | .str, .str s => boundM hi s.length s.length fun h => boundM lo 0 h fun l => K (.str ((s.drop l).take (h - l)))
  | .slc _, .vnil kd => boundM hi 0 0 fun h => boundM lo 0 h fun _ => K (.vnil kd)
  | .slc e, .vs lent l => cond (Nat.beq l.sz (T.sz e)) (boundM hi l.len l.len fun h => boundM lo 0 h fun lw => K (.vs lent (l.ext lw (h - lw)))) .fail
  | .slc e, .mw id kd => cond (Nat.beq kd.sz (T.sz e)) (rdLst id fun ls => boundM hi ls.len ls.len fun h => boundM lo 0 h fun l => K (.ms id [] kd l (h - l) (ls.len - l))) .fail
  | .slc e, .ms id p kd off len cap => cond (Nat.beq kd.sz (T.sz e)) (boundM hi len cap fun h => boundM lo 0 h fun l => K (.ms id p kd (off + l) (h - l) (cap - l))) .fail
  | .ptr a, x => match T.d a with
    | .arr n e => arrS T n e x lo hi K
    | _ => .fail
  | .arr n e, x => arrS T n e x lo hi K
  | _, _ => .fail
def Ty.ok : Ty → Bool
  | .bad => false
  | _ => true
def fits (T : TyTab CT) (t : Nat) (a : AV CT) : Bool := (T.d t).ok && a.isCell && !a.isLst && (Nat.beq a.size (T.sz t) && (match a.isAgg, (T.d t).isAgg with | true, true => true | false, false => true | _, _ => false))
/-- &x[i]. -/
def indexAddrM (T : TyTab CT) (t : Nat) (x i : AV CT) (K : AV CT → M CT α) : M CT α := match i with
  | .int _ i => match T.d t, x with
    | .slc e, .vs lent l => .gd (decide (0 ≤ i)) (cond (Nat.beq l.sz (T.sz e)) (l.getM T.C i.toNat fun a => K (.vptr lent a)) .fail)
    | .slc e, .mw id _ => .gd (decide (0 ≤ i)) (rdLst id fun l => .gd (Nat.blt i.toNat l.len) (K (.ptr id [.idx (T.sz e) i.toNat])))
    | .slc e, .ms id p k off len _ => .gd (decide (0 ≤ i)) (.gd (Nat.blt i.toNat len) (cond (Nat.beq k.sz (T.sz e)) (K (.ptr id (p ++ [.idx (T.sz e) (off + i.toNat)]))) .fail))
    | .arr n e, .ptr id p => .gd (decide (0 ≤ i)) (.gd (Nat.blt i.toNat n) (K (.ptr id (p ++ [.idx (T.sz e) i.toNat]))))
    | .arr n e, .vptr lent (.arr m l) => .gd (decide (0 ≤ i)) (cond (Nat.beq l.sz (T.sz e) && Nat.beq m n) (l.getM T.C i.toNat fun a => K (.vptr lent a)) .fail)
    | _, _ => .fail
  | _ => .fail
def indexM (T : TyTab CT) (t : Nat) (x i : AV CT) (K : AV CT → M CT α) : M CT α := match i with
  | .int _ i => match T.d t, x with
    | .arr n e, .arr m l => .gd (decide (0 ≤ i)) (cond (Nat.beq l.sz (T.sz e) && Nat.beq m n) (l.getM T.C i.toNat fun a => cond (fits T e a) (K a) .fail) .fail)
    | .str, .str s => .gd (decide (0 ≤ i)) (.ub s[i.toNat]? fun b => K (.int .u8 (b.toNat : Int)))
    | _, _ => .fail
  | _ => .fail
def LS.rep (C : Cod CT) (k : LK) (z : AV CT) (n : Nat) : Option (LS CT (AV CT)) := match k, z with
  | .u8, .int .u8 x => some (.u8 (List.replicate n (UInt8.ofNat x.toNat)))
  | .int kd, .int kd' x => cond (kindEq kd kd') (some (.int kd (List.replicate n x))) none
  | .str, .str s => some (.str (List.replicate n s))
  | .typ c s b, z => match C.dec c z.unnil with | some x => some (.typ c s b (List.replicate n x)) | none => none
  | .gen s, z => cond (z.isCell && Nat.beq z.size s) (some (.gen s (List.replicate n z))) none
  | _, _ => none
def castT {c c' : Nat} (l : List (CT c)) : Option (List (CT c')) := match decEq c c' with
  | .isTrue h => some (h ▸ l)
  | .isFalse _ => none
def LS.app : LS CT (AV CT) → LS CT (AV CT) → Option (LS CT (AV CT))
  | .u8 a, .u8 b => some (.u8 (a ++ b))
  | .int k a, .int k' b => cond (kindEq k k') (some (.int k (a ++ b))) none
  | .str a, .str b => some (.str (a ++ b))
  | .typ c s sc a, .typ c' _ _ b => match castT b with | some b' => some (.typ c s sc (a ++ b')) | none => none
  | .gen s a, .gen s' b => cond (Nat.beq s s') (some (.gen s (a ++ b))) none
  | _, _ => none
/-- A list over another one, from a place on. -/
def LS.splice : LS CT (AV CT) → Nat → LS CT (AV CT) → Option (LS CT (AV CT))
  | .u8 a, i, .u8 b => some (.u8 (a.take i ++ b ++ a.drop (i + b.length)))
  | .int k a, i, .int k' b => cond (kindEq k k') (some (.int k (a.take i ++ b ++ a.drop (i + b.length)))) none
  | .str a, i, .str b => some (.str (a.take i ++ b ++ a.drop (i + b.length)))
  | .typ c s sc a, i, .typ c' _ _ b => match castT b with | some b' => some (.typ c s sc (a.take i ++ b' ++ a.drop (i + b'.length))) | none => none
  | _, _, _ => none
def fillParts (T : TyTab CT) (parts : List (Nat × AV CT)) (l : LS CT (AV CT)) (k : LS CT (AV CT) → M CT α) : M CT α := match parts with
  | [] => k l
  | (i, v) :: ps => cond (Nat.blt i l.len) (pubM deep v fun v' => l.setM T.C i v' fun l' => fillParts T ps l' k) .fail
/-- Elements that are no plain data: as they stand. -/
def fillGen (s : Nat) (parts : List (Nat × AV CT)) (l : List (AV CT)) (k : List (AV CT) → M CT α) : M CT α := match parts with
  | [] => k l
  | (i, v) :: ps => cond (Nat.blt i l.length && (v.isCell && Nat.beq v.size s)) (fillGen s ps (l.set i v) k) .fail
def fillFields (T : TyTab CT) (fts : List (Nat × Nat)) : List (Nat × AV CT) → List (AV CT) → (List (AV CT) → M CT α) → M CT α
  | [], fs, k => k fs
  | (j, v) :: ps, fs, k => match fs[j]?, fts[j]? with
    | some old, some ft => cond (Nat.beq (offOf fs j) ft.2 && (fits T ft.1 (fixN T ft.1 v) && sameForm (fixN T ft.1 v) old)) (fillFields T fts ps (fs.set j (fixN T ft.1 v)) k) .fail
    | _, _ => .fail
/-- What is appended or copied: a slice's elements, or a text's. -/
def srcM (C : Cod CT) (x : AV CT) (h : LS CT (AV CT) → M CT α) : M CT α := match x with
  | .str t => h (.u8 t)
  | x => sliceOf C x fun lent l => match l with
    | .typ c s sc l => .gd (!lent || sc) (h (.typ c s sc l))
    | .gen _ _ => .fail
    | l => h l
/-- A list behind a slice. -/
def appendTo (T : TyTab CT) (d e : Nat) (s : AV CT) (K : AV CT → M CT α) (xs : LS CT (AV CT)) : M CT α := cond (Nat.ble 1 (T.bytes e)) (match s with
  | .vnil kd => cond (Nat.beq kd.sz (T.sz e)) (.gd (Nat.ble (xs.len * T.bytes e) most) (match kd.nil.app xs with
      | some l => newObj d (.lst l) (K (.mw d kd))
      | none => .fail)) .fail
  | .mw id kd => cond (Nat.beq kd.sz (T.sz e)) (rdLst id fun l => match l.app xs with
      | some l' => .gd (Nat.ble (l'.len * T.bytes e) most) (cond (Nat.beq l.sz (T.sz e)) (.wr id none (newObj d (.lst l') (K (.mw d kd)))) .fail)
      | none => .fail) .fail
  | _ => .fail) .fail
/-- A slice of one literal element, or more, on its way into a list: its elements become values. -/
def appendM (T : TyTab CT) (d : Nat) (e : Nat) (s x : AV CT) (K : AV CT → M CT α) : M CT α := match x with
  | .mw id kd => rdLst id fun l => match l with
    | .gen s' xs => listM (pubM deep) xs fun xs' => match LS.tidyS T.C kd s' (unnils xs') with
      | .gen _ _ => .fail
      | l => appendTo T d e s K l
    | l => srcM T.C (.vs true l) (appendTo T d e s K)
  | .int .i64 n => .gd (decide (0 ≤ n)) (.gd (Nat.ble (n.toNat * T.bytes e) most) (match LS.rep T.C (T.lk e) (T.zero e) n.toNat with
    | some l => appendTo T d e s K l
    | none => .fail))
  | x => srcM T.C x (appendTo T d e s K)
def copyM (_ : TyTab CT) (_ : Nat) (_ _ : AV CT) (_ : AV CT → M CT α) : M CT α := .fail
def lenM (T : TyTab CT) (t : Nat) (x : AV CT) (K : AV CT → M CT α) : M CT α := match T.d t, x with
  | .str, .str s => K (.int .i64 s.length)
  | .arr n _, _ => K (.int .i64 n)
  | .slc _, .vnil _ => K (.int .i64 0)
  | .slc _, .vs _ l => K (.int .i64 l.len)
  | .slc _, .mw id _ => rdLst id fun l => K (.int .i64 l.len)
  | .slc _, .ms _ _ _ _ len _ => K (.int .i64 len)
  | _, _ => .fail
def min2M (x y : AV CT) (K : AV CT → M CT α) : M CT α := match x, y with
  | .int k a, .int k' b => cond (kindEq k k') (K (.int k (if b < a then b else a))) .fail
  | _, _ => .fail
def max2M (x y : AV CT) (K : AV CT → M CT α) : M CT α := match x, y with
  | .int k a, .int k' b => cond (kindEq k k') (K (.int k (if b > a then b else a))) .fail
  | _, _ => .fail
def foldM2 (f : AV CT → AV CT → (AV CT → M CT α) → M CT α) : AV CT → List (AV CT) → (AV CT → M CT α) → M CT α
  | a, [], K => K a
  | a, b :: l, K => f a b fun c => foldM2 f c l K
def appKind (x : AV CT) (d : Ty) : Bool := match x, d with
  | .str _, .str => true
  | .str _, _ => false
  | .int _ _, .int _ => true
  | .int _ _, _ => false
  | _, .slc _ => true
  | _, _ => false
def builtinM (T : TyTab CT) (d : Nat) (b : Builtin) (ts : List Nat) (args : List (AV CT)) (K : AV CT → M CT α) : M CT α := match b, args with
  | .len, x :: _ => match ts with | t :: _ => lenM T t x K | [] => .fail
  | .append, [s, x] => match ts with
    | [t, tx] => match T.d t with
      | .slc e => cond (appKind (fixN T t x) (T.d tx)) (appendM T d e (fixN T t s) (fixN T t x) K) .fail
      | _ => .fail
    | _ => .fail
  | .copy, [s, x] => match ts with
    | [t, _] => match T.d t with
      | .slc e => copyM T e s x K
      | _ => .fail
    | _ => .fail
  | .min, a :: l => foldM2 min2M a l K
  | .max, a :: l => foldM2 max2M a l K
  | .complex, [.flt k a, .flt k' b] => cond (fkindEq k k') (K (.cpx k a b)) .fail
  | .real, [.cpx k a _] => K (.flt k a)
  | .imag, [.cpx k _ b] => K (.flt k b)
  | _, _ => .fail
def fixAll (T : TyTab CT) : List Nat → List (AV CT) → List (AV CT)
  | t :: ts, a :: l => fixN T t a :: fixAll T ts l
  | _, l => l


def partsOf (ρ : Operand → AV CT) (parts : Array (Nat × Operand)) : List (Nat × AV CT) := parts.toList.map fun p => (p.1, ρ p.2)
def fixP (T : TyTab CT) (e : Nat) (ps : List (Nat × AV CT)) : List (Nat × AV CT) := ps.map fun p => (p.1, fixN T e p.2)
def buildM (T : TyTab CT) (t : Nat) (ps : List (Nat × AV CT)) (K : AV CT → M CT α) : M CT α := match T.d t with
  | .strct fts => match T.zero t with
    | .agg s fs => fillFields T fts ps fs fun fs' => K (.agg s fs')
    | _ => .fail
  | .arr _ e => match T.zero t with
    | .arr n l => cond (Nat.beq l.sz (T.sz e)) (fillParts T (fixP T e ps) l fun l' => K (.arr n l')) .fail
    | _ => .fail
  | _ => .fail
def anyIds (ps : List (Nat × AV CT)) : Bool := ps.any fun (p : Nat × AV CT) => match p.2.ids with | [] => false | _ => true
def buildSliceM' (T : TyTab CT) (d e len : Nat) (ps : List (Nat × AV CT)) (K : AV CT → M CT α) : M CT α :=
  cond (anyIds ps) (fillGen (T.sz e) ps (List.replicate len (T.zero e)) fun l' => newObj d (.lst (.gen (T.sz e) l')) (K (.mw d (T.lk e))))
    (match LS.rep T.C (T.lk e) (T.zero e) len with
      | some l => fillParts T ps l fun l' => newObj d (.lst l') (K (.mw d (T.lk e)))
      | none => .fail)
def buildSliceM (T : TyTab CT) (d t len : Nat) (ps : List (Nat × AV CT)) (K : AV CT → M CT α) : M CT α := match T.d t with
  | .slc e => cond (Nat.ble (len * T.sz e) 16777216 && Nat.ble len 16777216) (buildSliceM' T d e len (fixP T e ps) K) .fail
  | _ => .fail
def isConstO : Operand → Bool
  | .const _ => true
  | _ => false
def opM (T : TyTab CT) (d : Nat) (o : Oper) (ρ : Operand → AV CT) (K : AV CT → M CT α) : M CT α := match o.op with
  | .move x => K (fixN T o.type (ρ x))
  | .assign x => K (fixN T o.type (ρ x))
  | .pick c a b => match ρ c with
    | .bool v => .sp v (K (ρ a)) (K (ρ b))
    | _ => .fail
  | .alloc t => cond (T.d t).ok (newObj d (T.zero t) (K (.ptr d []))) .fail
  | .box t x => cond (fits T t (fixN T t (ρ x))) (newObj d (fixN T t (ρ x)) (K (.ptr d []))) .fail
  | .build t parts => buildM T t (partsOf ρ parts) K
  | .buildSlice t len parts => buildSliceM T d t len (partsOf ρ parts) K
  | .load t x => match ρ x with
    | .ptr id p => rdObj id fun c => getP T.C p c fun a => cond (fits T t a) (K a) .fail
    | .vptr lent a => cond (fits T t a) (K (a.taint lent)) .fail
    | _ => .fail
  | .store t x v => match ρ x with
    | .ptr id p => rdObj id fun c => setP T.C p c (fixN T t (ρ v)) fun c' => cond (fits T t (fixN T t (ρ v))) (.wr id (some c') (K .und)) .fail
    | _ => .fail
  | .nilCheck x => match ρ x with
    | .ptr id p => K (.ptr id p)
    | .vptr lent a => K (.vptr lent a)
    | _ => .fail
  | .fieldAddr t x j => match T.d t with
    | .strct fts => match fts[j]? with
      | some ft => match ρ x with
        | .ptr id p => K (.ptr id (p ++ [.fld ft.2 j]))
        | .vptr lent a => match a with
          | .agg _ fs => cond (Nat.beq (offOf fs j) ft.2) (match fs[j]? with | some b => K (.vptr lent b) | none => .fail) .fail
          | _ => .fail
        | _ => .fail
      | none => .fail
    | _ => .fail
  | .field t x j => match T.d t with
    | .strct fts => match fts[j]?, ρ x with
      | some ft, .agg _ fs => cond (Nat.beq (offOf fs j) ft.2) (match fs[j]? with
        | some b => cond (fits T ft.1 b) (K b) .fail
        | none => .fail) .fail
      | _, _ => .fail
    | _ => .fail
  | .indexAddr t x i => indexAddrM T t (ρ x) (ρ i) K
  | .index t x i => indexM T t (ρ x) (ρ i) K
  | .slice t x lo hi mx => match mx with
    | none => sliceM T t (ρ x) (lo.map ρ) (hi.map ρ) K
    | some _ => .fail
  | .makeSlice t n c => match T.d t, ρ n, ρ c with
    | .slc e, .int _ n, .int _ c => cond (Nat.ble 1 (T.bytes e)) (.gd (decide (0 ≤ n)) (.gd (n == c) (.gd (Nat.ble (n.toNat * T.bytes e) most) (match LS.rep T.C (T.lk e) (T.zero e) n.toNat with
      | some l => newObj d (.lst l) (K (.mw d (T.lk e)))
      | none => .fail)))) .fail
    | _, _, _ => .fail
  | .binOp op t x y _ => cond (match T.d t with
      | .ifc => isConstO x || isConstO y
      | _ => true) (binM T op t (ρ x) (ρ y) K) .fail
  | .unOp op _ x => unM op (ρ x) K
  | .convert s t x => cond (T.d s).ok (convM T d s t (ρ x) K) .fail
  | .makeInterface t x => cond ((ρ x).isCell && (match T.d t with | .bad => false | .ifc => false | _ => true)) (K (.ifc t (ρ x))) .fail
  | .makeFunc f first caps => match f, first.toList with
    | .func f, [] => cond ((caps.toList.map ρ).all fun a => a.isCell && !a.isAgg) (K (.fn f (caps.toList.map ρ))) .fail
    | _, _ => .fail
  | .extract x i => match ρ x with
    | .tup l => match l[i]? with | some a => K a | none => .fail
    | _ => .fail
  | .call c => match c.callee with
    | .builtin b => builtinM T d b c.argTypes.toList (c.args.toList.map ρ) K
    | .value f => match ρ f with
      | .fn f caps => cond (caps.all fun a => !a.isAgg) (callM T d f (fixAll T c.argTypes.toList (c.args.toList.map ρ) ++ caps) K) .fail
      | _ => .fail
    | _ => .fail
  | _ => .fail
end

/-! ### Regions, code, functions -/
/-- Slots and objects, as far as they are known. -/
structure St (CT : Nat → Type) where
  tm : List (Nat × AV CT)
  ob : Ob CT
inductive EX where
  | nrm | exit (id : Nat) | ret | goto (l : Nat)
def tget : List (Nat × AV CT) → Nat → AV CT
  | [], _ => .junk
  | (i, v) :: r, x => cond (Nat.beq i x) v (tget r x)
def tset : List (Nat × AV CT) → Nat → AV CT → List (Nat × AV CT)
  | [], x, v => [(x, v)]
  | (i, u) :: r, x, v => cond (Nat.beq i x) ((i, v) :: r) ((i, u) :: tset r x v)

def rho (tm : List (Nat × AV CT)) : Operand → AV CT
  | .tmp t => tget tm t
  | .const v => ofConst v
  | .func f => .fn f []
  | .global _ => .junk
def tmpsOf (o : Op) : List Nat := o.operands.toList.filterMap fun x => match x with | .tmp t => some t | _ => none

/-- What an operation touched: its place, what it read and wrote (slots doubled, objects doubled and one more), what comes ahead of it. -/
structure Fp where
  i : Nat
  rd : List Nat
  wr : List Nat
  anc : Nat
def hard (e : Edge) : Bool := match e.ground with
  | .textOnly _ => false
  | .gcOnly _ => false
  | _ => true
def ancOf (acc : List Nat) (es : List Edge) : Nat :=
  es.foldl (fun m e => cond (hard e) (Nat.lor (Nat.lor m (Nat.shiftLeft 1 e.on)) (acc.getD e.on 0)) m) 0
def indep1 (a b : Fp) : Bool := Nat.testBit b.anc a.i || (apart a.wr b.wr && (apart a.wr b.rd && apart a.rd b.wr))
def indep : List Fp → Bool
  | [] => true
  | b :: l => l.all (fun a => indep1 a b) && indep l
/-- Each edge that all orders ask for leads back. -/
def okEdges (es : List Edge) (i : Nat) : Bool := es.all fun e => cond (hard e) (Nat.blt e.on i) true

def tput (tm : List (Nat × AV CT)) (d : Option Nat) (v : AV CT) : List (Nat × AV CT) := match d with
  | some d => tset tm d v
  | none => tm
def slotsOf (d : Option Nat) : List Nat := match d with
  | some d => [2 * d]
  | none => []
section
variable {β : Type} (T : TyTab CT) (Γ : Gam CT)
def doOp (o : Oper) (st : St CT) (k : AV CT → Ob CT → List Nat → List Nat → Option β) : Option β :=
  M.run Γ (opM T (o.dst.getD 9999) o (rho st.tm) M.ret) st.ob [] [] k
def regK (all : List Oper) (draw : Bool) : List Oper → Nat → St CT → List Nat → List Fp → (St CT → Option β) → Option β
  | [], _, st, _, fps, k => cond draw (cond (indep fps) (k st) none) (k st)
  | o :: rest, i, st, ancs, fps, k =>
    let anc := ancOf ancs o.after.toList
    let gs : List Nat := match o.guard with
      | some (j, _) => slotsOf ((all[j]?).bind (·.dst))
      | none => []
    let go (st : St CT) : Option β := doOp T Γ o st fun v ob rs ws =>
      regK all draw rest (i + 1) ⟨tput st.tm o.dst v, ob⟩ (ancs ++ [anc]) ({ i, rd := gs ++ ((tmpsOf o.op).map (2 * ·) ++ rs.map (2 * · + 1)), wr := slotsOf o.dst ++ ws.map (2 * · + 1), anc } :: fps) k
    let skip (st : St CT) : Option β := regK all draw rest (i + 1) ⟨tput st.tm o.dst .und, st.ob⟩ (ancs ++ [anc]) ({ i, rd := gs, wr := slotsOf o.dst, anc } :: fps) k
    cond (okEdges o.after.toList i) (match o.guard with
      | none => go st
      | some (j, want) => match (all[j]?).bind (·.dst) with
        | some g => cond (Nat.testBit anc j) (match tget st.tm g with
          | .bool b => cond b
              (match want with | true => go ⟨tset st.tm g (.bool true), st.ob⟩ | false => skip ⟨tset st.tm g (.bool true), st.ob⟩)
              (match want with | true => skip ⟨tset st.tm g (.bool false), st.ob⟩ | false => go ⟨tset st.tm g (.bool false), st.ob⟩)
          | .und => skip st
          | _ => none) none
        | none => none) none
end

/-! ### Loops' heads -/
/-- A place of a slice: a slot, or a field of an object. -/
inductive Loc where
  | slot (s : Nat)
  | fld (id j : Nat)
/-- What is kept at a loop's head: slots; places of slices that are objects, with the names that these get there; objects that keep their names; places whose nil slices are values; places whose whole slices are told as parts. -/
structure Keep where
  slots : List Nat
  adopt : List (Loc × Nat)
  objs : List Nat
  vals : List Loc
  slide : List Loc
def Loc.get (st : St CT) : Loc → AV CT
  | .slot s => tget st.tm s
  | .fld id j => match st.ob.get id with
    | some (some (.agg _ fs)) => fs.getD j .junk
    | _ => .junk
def Loc.set (st : St CT) (v : AV CT) : Loc → St CT
  | .slot s => ⟨tset st.tm s v, st.ob⟩
  | .fld id j => match st.ob.get id with
    | some (some (.agg s fs)) => ⟨st.tm, st.ob.set id (some (.agg s (fs.set j v)))⟩
    | _ => st
def adoptAll {γ : Type} : List (Loc × Nat) → St CT → List (Nat × Nat) → (St CT → List (Nat × Nat) → Option γ) → Option γ
  | [], st, m, k => k st m
  | (l, c) :: r, st, m, k => match l.get st with
    | .ms id _ _ _ _ _ => adoptAll r st ((id, c) :: m) k
    | .mw id _ => adoptAll r st ((id, c) :: m) k
    | .ptr id _ => adoptAll r st ((id, c) :: m) k
    | .vnil kd => match st.ob.get (c + 1) with
      | none => adoptAll r (l.set ⟨st.tm, st.ob.set (c + 1) (some (.lst kd.nil))⟩ (.mw (c + 1) kd)) ((c + 1, c) :: m) k
      | some _ => none
    | _ => none
def unnilLocs : List Loc → St CT → St CT
  | [], st => st
  | s :: l, st => match s.get st with
    | .vnil kd => unnilLocs l (s.set st (.vs false kd.nil))
    | _ => unnilLocs l st
def slideLocs : List Loc → St CT → St CT
  | [], st => st
  | s :: l, st => match s.get st with
    | .mw id kd => match st.ob.get id with
      | some (some (.lst ls)) => slideLocs l (s.set st (.ms id [] kd 0 ls.len ls.len))
      | _ => slideLocs l st
    | _ => slideLocs l st
def keepObs (m : List (Nat × Nat)) (ob : Ob CT) : List (Nat × Nat) → Option (List (AV CT))
  | [] => some []
  | (i, _) :: l => match ob.get i, keepObs m ob l with
    | some (some a), some r => cond (a.ren m).isCell (some (a.ren m :: r)) none
    | _, _ => none
def keepMap (kp : Keep) (m : List (Nat × Nat)) : List (Nat × Nat) := m.reverse ++ kp.objs.map fun i => (i, i)
def noDup : List Nat → Bool
  | [] => true
  | a :: l => l.all (fun b => !(Nat.beq a b)) && noDup l
/-- Each object gets one name, and no two the same. -/
def okMap (m : List (Nat × Nat)) : Bool := noDup (m.map (·.1)) && noDup (m.map (·.2))
/-- What was handed in keeps its name. -/
def keptAll (kp : Keep) (ob : Ob CT) : Bool := ob.all fun p => Nat.blt p.1 base || kp.objs.any (Nat.beq p.1)
def withNorm {γ : Type} (kp : Keep) (st : St CT) (k : List (AV CT) → List (AV CT) → Option γ) : Option γ :=
  adoptAll kp.adopt (slideLocs kp.slide (unnilLocs kp.vals st)) [] fun st m =>
    match keepObs (keepMap kp m) st.ob (keepMap kp m) with
    | some obs => cond (okMap (keepMap kp m) && keptAll kp st.ob) (k (rens (keepMap kp m) (kp.slots.map (tget st.tm))) obs) none
    | none => none
def zipN {γ : Type} : List Nat → List γ → List (Nat × γ)
  | i :: l, v :: vs => (i, v) :: zipN l vs
  | _, _ => []
/-- The state that is made of what was kept. -/
def mkSt (kp : Keep) (vals obs : List (AV CT)) : St CT :=
  ⟨zipN kp.slots vals, (zipN (kp.adopt.map (·.2) ++ kp.objs) obs).map fun p => (p.1, some p.2)⟩

/-- Loops, by what is told of them: keyed by the block around. -/
structure LoopF (CT : Nat → Type) (β : Type) where
  kh : Keep
  F : List (AV CT) → List (AV CT) → (EX → St CT → Option β) → Option β
def Lam (CT : Nat → Type) : Type 1 := (β : Type) → Nat → Option (LoopF CT β)
section
variable {β : Type} (T : TyTab CT) (Γ : Gam CT)
def exec (Λ : Lam CT) : Code → St CT → (EX → St CT → Option β) → Option β
  | .skip, st, k => k .nrm st
  | .label _, st, k => k .nrm st
  | .region _ ops draw, st, k => regK T Γ ops.toList draw ops.toList 0 st [] [] (k .nrm)
  | .seq a b, st, k => exec Λ a st fun e st' => match e with
    | .nrm => exec Λ b st' k
    | e => k e st'
  | .cond c a b, st, k => match c with
    | .tmp t => match tget st.tm t with
      | .bool v => cond v (exec Λ a ⟨tset st.tm t (.bool true), st.ob⟩ k) (exec Λ b ⟨tset st.tm t (.bool false), st.ob⟩ k)
      | _ => none
    | .const (.bool v) => cond v (exec Λ a st k) (exec Λ b st k)
    | _ => none
  | .block id c, st, k => match Λ β id with
    | some L => withNorm L.kh st fun vals obs => L.F vals obs k
    | none => exec Λ c st fun e st' => match e with
      | .exit i => cond (Nat.beq i id) (k .nrm st') (k (.exit i) st')
      | e => k e st'
  | .exit id, st, k => k (.exit id) st
  | .goto l, st, k => k (.goto l) st
  | .ret, st, k => k .ret st
  | _, _, _ => none
/-- Rounds of 'block id { loop body }': kh: what is kept at the head; kx: at an exit. -/
def loopK (Λ : Lam CT) (kh : Keep) (kx : EX → Keep) (id : Nat) (body : Code) (k : EX → St CT → Option β) : Nat → St CT → Option β
  | 0, _ => none
  | n + 1, st => exec T Γ Λ body st fun e st' => match e with
    | .nrm => withNorm kh st' fun vals obs => loopK Λ kh kx id body k n (mkSt kh vals obs)
    | .exit i => withNorm (kx (.exit i)) st' fun vals obs => cond (Nat.beq i id) (k .nrm (mkSt (kx (.exit i)) vals obs)) (k (.exit i) (mkSt (kx (.exit i)) vals obs))
    | e => withNorm (kx e) st' fun vals obs => k e (mkSt (kx e) vals obs)

def resultsM (C : Cod CT) {α : Type} : List ResultVar → List (Nat × AV CT) → (List (AV CT) → M CT α) → M CT α
  | [], _, k => k []
  | .tmp t :: l, tm, k => resultsM C l tm fun as => k (tget tm t :: as)
  | .cell a t :: l, tm, k => match tget tm a with
    | .ptr id p => rdObj id fun c => getP C p c fun v => resultsM C l tm fun as => cond (fits T t v) (k (v :: as)) .fail
    | _ => .fail
def outsM {α : Type} : List Nat → (List (Option (AV CT)) → M CT α) → M CT α
  | [], k => k []
  | i :: l, k => .rd i fun o => match o with
    | some v => outsM l fun as => k (v :: as)
    | none => .fail
/-- Where fields of objects become values at the end. -/
def pubObjM {α : Type} : List Nat → M CT α → M CT α
  | [], k => k
  | i :: l, k => .rd i fun o => match o with
    | some (some (.agg s fs)) => pubM deep (.agg s fs) fun c' => cond (c'.isAgg && !c'.isLst) (.rd i fun o2 => match o2 with
      | some (some _) => .wr i (some c') (pubObjM l k)
      | _ => .fail) .fail
    | _ => pubObjM l k
/-- All objects that are reached, what is gone left out. -/
def gatherSoftM {α : Type} : Nat → List Nat → List Nat → (List Nat → M CT α) → M CT α
  | 0, _, _, _ => .fail
  | d + 1, todo, seen, k => match todo with
    | [] => k seen
    | i :: t => cond (seen.any (Nat.beq i)) (gatherSoftM d t seen k) (.rd i fun o => match o with
      | some (some a) => gatherSoftM d (t ++ a.ids) (seen ++ [i]) k
      | _ => gatherSoftM d t seen k)
def from_ (n : Nat) : Nat → List Nat
  | 0 => []
  | m + 1 => n :: from_ (n + 1) m
def idsO : List (Option (AV CT)) → List Nat
  | [] => []
  | some a :: l => a.ids ++ idsO l
  | none :: l => idsO l
def renO (m : List (Nat × Nat)) : List (Option (AV CT)) → List (Option (AV CT))
  | [] => []
  | some a :: l => some (a.unnil.ren m) :: renO m l
  | none :: l => none :: renO m l
def cleanO : List (Option (AV CT)) → Bool
  | [] => true
  | some a :: l => a.clean && cleanO l
  | none :: l => cleanO l
/-- The end of a call: 'keep': slices in the answer stay objects; 'pubs': slices in objects become values. -/
def resM {α : Type} (vs : List (AV CT)) (k : AV CT → M CT α) : M CT α := match vs with
  | [v] => k v
  | vs => cond (vs.all AV.isCell) (k (.tup vs)) .fail
def cellO : List (Option (AV CT)) → Bool
  | [] => true
  | some a :: l => a.isCell && cellO l
  | none :: l => cellO l
def lastM (m : Nat) (r1 : AV CT) : M CT (Res CT) :=
  outsM (from_ base m) fun outs =>
    gatherM 60 (idsO outs ++ r1.ids) (from_ base m) fun ids =>
      readAllM (ids.drop m) fun objs =>
        cond (((r1.unnil.ren (numbered ids base)).clean && (cleanO (renO (numbered ids base) outs) && cleans (rens (numbered ids base) (unnils objs)))) && (cellO (renO (numbered ids base) outs) && (rens (numbered ids base) (unnils objs)).all AV.isCell))
          (.ret { r := r1.unnil.ren (numbered ids base), outs := renO (numbered ids base) outs, news := rens (numbered ids base) (unnils objs) }) .fail
def pubsM (pubs : Bool) (m : Nat) (r1 : AV CT) : M CT (Res CT) :=
  cond pubs (gatherSoftM 60 (from_ base m ++ r1.ids) [] fun ids => pubObjM ids (lastM m r1)) (lastM m r1)
def finishM (fn : Func) (keep pubs : Bool) (m : Nat) (tm : List (Nat × AV CT)) : M CT (Res CT) :=
  resultsM T T.C fn.results.toList tm fun vs => resM vs fun r0 => cond keep (pubsM pubs m r0) (pubM deep r0 (pubsM pubs m))
def objsFrom : List (AV CT) → Nat → Ob CT
  | [], _ => []
  | a :: l, n => (n, some a) :: objsFrom l (n + 1)
def runFn (Λ : Lam CT) (fn : Func) (code : Code) (keep pubs : Bool) (args objs : List (AV CT)) (K : Res CT → Option β) : Option β :=
  exec T Γ Λ code ⟨zipN (from_ 0 args.length) args, objsFrom objs base⟩ fun e st => match e with
    | .nrm => M.run Γ (finishM T fn keep pubs objs.length st.tm) st.ob [] [] fun res _ _ _ => K res
    | .ret => M.run Γ (finishM T fn keep pubs objs.length st.tm) st.ob [] [] fun res _ _ _ => K res
    | _ => none
end

/-! ### Tables of what calls and loops come to -/
def PSpec (CT : Nat → Type) : Type 1 := (β : Type) → List (AV CT) → List (AV CT) → Option ((Res CT → Option β) → Option β)
def gl : List (Nat × PSpec CT) → Gam CT
  | [], _, _, _, _, _ => none
  | (g, s) :: r, β, f, args, objs, K => cond (Nat.beq g f) (match s β args objs with | some F => F K | none => gl r β f args objs K) (gl r β f args objs K)
def PLoop (CT : Nat → Type) : Type 1 := (β : Type) → List (AV CT) → List (AV CT) → Option ((EX → St CT → Option β) → Option β)
def ll : List (Nat × Keep × PLoop CT) → Lam CT
  | [], _, _ => none
  | (g, kh, s) :: r, β, id => cond (Nat.beq g id) (some ⟨kh, fun vals obs k => match s β vals obs with | some F => F k | none => none⟩) (ll r β id)
end Go.Proofs.Ytjnkppjlhmkjaaa.Av
