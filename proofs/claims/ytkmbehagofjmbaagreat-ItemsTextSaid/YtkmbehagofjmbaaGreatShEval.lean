/-
  A shadow evaluator of the model's code over typed lists: definitions alone. No project text.
-/
import Derived.Calls
import Derived.Laws.Entries
import Derived.Orders
import GoSem.Extern.BytealgCompare
namespace Go.Sh

/-- The types of data that the evaluator knows. -/
inductive Ty where
  | int (k : IntKind) | bool | str | un
  | sl (t : Ty)
  | pr (a b : Ty)
  deriving DecidableEq, Inhabited

@[reducible] def Ty.den : Ty → Type
  | .int _ => Int
  | .bool => Bool
  | .str => ByteArray
  | .un => Unit
  | .sl t => List t.den
  | .pr a b => a.den × b.den

/-- How many cells a datum takes. -/
def Ty.nc : Ty → Nat
  | .int _ | .bool | .str | .sl _ => 1
  | .un => 0
  | .pr a b => a.nc + b.nc

/-- What one cell, or one slot, holds. -/
inductive SV where
  | at (v : Value)
  | fz (t : Ty) (l : List t.den)
  | own (id : Nat)
  | vw (id n off len : Nat)
  | ptr (id off : Nat)
  | ep (id n i j : Nat)
  | bs (id off n : Nat) (t : Ty)
  | es (id n i j m : Nat) (t : Ty)
  | fp (t : Ty) (x : t.den) (j : Nat)
  | dead

inductive Cv where
  | one (v : SV)
  | agg (l : List SV)

inductive SS where
  | val (c : Cv)
  | tup (l : List Cv)

/-- Objects: a variable; a list; a function value with what it has captured; a value behind an interface; a map ('nl': it may be nil), each entry with the clock at which it was laid; a walk over a map; one that is forgotten. -/
inductive Ob where
  | box (cells : List SV)
  | arr (e : TypeId) (t : Ty) (l : List t.den)
  | clo (g : FuncId) (cells : List SV)
  | ifc (t : TypeId) (v : SV)
  | map (mt : TypeId) (ka va : Bool) (k v : Ty) (l : List (Nat × (k.den × v.den))) (clock : Nat) (nl : Bool)
  | iter (m since : Nat) (seen : List Nat)
  | gone

structure St where
  slots : List SS
  objs : List (Nat × Ob)
  pins : List Nat

abbrev SS.dead : SS := .val (.one .dead)
abbrev SS.at (v : Value) : SS := .val (.one (.at v))
abbrev SS.one (v : SV) : SS := .val (.one v)
abbrev SS.agg (l : List SV) : SS := .val (.agg l)

def nth : List SS → Nat → SS
  | [], _ => .dead
  | x :: _, 0 => x
  | _ :: l, i + 1 => nth l i

def put : List SS → Nat → SS → List SS
  | [], _, _ => []
  | _ :: l, 0, v => v :: l
  | x :: l, i + 1, v => x :: put l i v

def look : List (Nat × Ob) → Nat → Option Ob
  | [], _ => none
  | (j, o) :: l, i => bif Nat.beq j i then some o else look l i

def SV.killed (i : Nat) : SV → SV
  | .own j => bif Nat.beq j i then .dead else .own j
  | .vw j n o l => bif Nat.beq j i then .dead else .vw j n o l
  | .ptr j o => bif Nat.beq j i then .dead else .ptr j o
  | .ep j n a b => bif Nat.beq j i then .dead else .ep j n a b
  | .bs j o n t => bif Nat.beq j i then .dead else .bs j o n t
  | .es j n a b m t => bif Nat.beq j i then .dead else .es j n a b m t
  | v => v

def killCells (i : Nat) : List SV → List SV
  | [] => []
  | v :: l => v.killed i :: killCells i l

def Cv.killed (i : Nat) : Cv → Cv
  | .one v => .one (v.killed i)
  | .agg l => .agg (killCells i l)

def killCvs (i : Nat) : List Cv → List Cv
  | [] => []
  | v :: l => v.killed i :: killCvs i l

def SS.killed (i : Nat) : SS → SS
  | .val c => .val (c.killed i)
  | .tup l => .tup (killCvs i l)

def killSlots (i : Nat) : List SS → List SS
  | [] => []
  | v :: l => v.killed i :: killSlots i l

def Ob.killed (i : Nat) : Ob → Ob
  | .box l => .box (killCells i l)
  | .clo g l => .clo g (killCells i l)
  | .ifc t v => .ifc t (v.killed i)
  | .iter m a b => bif Nat.beq m i then .gone else .iter m a b
  | o => o

/-- Without object i, and without what refers to it. -/
def killObjs (i : Nat) : List (Nat × Ob) → List (Nat × Ob)
  | [] => []
  | (j, o) :: l => bif Nat.beq j i then killObjs i l else (j, o.killed i) :: killObjs i l

def killPins (i : Nat) : List Nat → List Nat
  | [] => []
  | j :: l => bif Nat.beq j i then killPins i l else j :: killPins i l

def St.drop (i : Nat) (S : St) : St := ⟨killSlots i S.slots, killObjs i S.objs, killPins i S.pins⟩

/-- Object i anew: what referred to it before is forgotten. -/
def St.renew (i : Nat) (o : Ob) (S : St) : St := ⟨killSlots i S.slots, (i, o) :: killObjs i S.objs, killPins i S.pins⟩

/-- Object i in place: what refers to it stays. -/
def setOb (i : Nat) (o : Ob) : List (Nat × Ob) → List (Nat × Ob)
  | [] => []
  | (j, p) :: l => bif Nat.beq j i then (j, o) :: l else (j, p) :: setOb i o l

/-- What an operation does to the state. -/
inductive Ef where
  | drop (i : Nat)
  | renew (i : Nat) (o : Ob)
  | set (i : Nat) (o : Ob)
  | bulk (ks : List Nat) (ins news : List (Nat × Ob))

def killAllSlots : List Nat → List SS → List SS
  | [], s => s
  | i :: l, s => killAllSlots l (killSlots i s)

def killAllObjs : List Nat → List (Nat × Ob) → List (Nat × Ob)
  | [], s => s
  | i :: l, s => killAllObjs l (killObjs i s)

def killAllPins : List Nat → List Nat → List Nat
  | [], s => s
  | i :: l, s => killAllPins l (killPins i s)

def setObs : List (Nat × Ob) → List (Nat × Ob) → List (Nat × Ob)
  | [], s => s
  | (i, o) :: l, s => setObs l (setOb i o s)

def idsOf : List (Nat × Ob) → List Nat
  | [] => []
  | (i, _) :: l => i :: idsOf l

def Ef.app : Ef → St → St
  | .drop i, S => S.drop i
  | .renew i o, S => S.renew i o
  | .set i o, S => { S with objs := setOb i o S.objs }
  | .bulk ks ins news, S => ⟨killAllSlots (ks ++ idsOf news) S.slots, news ++ setObs ins (killAllObjs (ks ++ idsOf news) S.objs), killAllPins (ks ++ idsOf news) S.pins⟩

def apps : List Ef → St → St
  | [], S => S
  | e :: l, S => apps l (e.app S)

abbrev Lk := Nat → Option Ob

def memN (i : Nat) : List Nat → Bool
  | [] => false
  | j :: l => bif Nat.beq j i then true else memN i l

/-- The object that a cell's value refers to. -/
def SV.ref : SV → Option Nat
  | .own i | .vw i _ _ _ | .ptr i _ | .ep i _ _ _ | .bs i _ _ _ | .es i _ _ _ _ _ => some i
  | _ => none

def cellRefs : List SV → List Nat
  | [] => []
  | v :: l => match v.ref with
    | some i => i :: cellRefs l
    | none => cellRefs l

def Cv.refs : Cv → List Nat
  | .one v => cellRefs [v]
  | .agg l => cellRefs l

def cvsRefs : List Cv → List Nat
  | [] => []
  | c :: l => c.refs ++ cvsRefs l

def SS.refs : SS → List Nat
  | .val c => c.refs
  | .tup l => cvsRefs l

def ssRefs : List SS → List Nat
  | [] => []
  | s :: l => s.refs ++ ssRefs l

def Ob.refs : Ob → List Nat
  | .box l => cellRefs l
  | .clo _ l => cellRefs l
  | .ifc _ v => cellRefs [v]
  | .iter m _ _ => [m]
  | _ => []

def obRefs : Option Ob → List Nat
  | some o => o.refs
  | none => []

/-- What is reached from some objects in so many steps. -/
def reach (lk : Lk) : Nat → List Nat → List Nat
  | 0, ids => ids
  | n + 1, ids => ids ++ reach lk n (ids.flatMap fun i => obRefs (lk i))

/-- The objects that some values lead to, and no others. -/
def lkOf (objs : List (Nat × Ob)) (ids : List Nat) : Lk := fun i => bif memN i ids then look objs i else none

def ofCells : List Value → List SV
  | [] => []
  | v :: l => .at v :: ofCells l

def ofVal : Value → SS
  | .agg cs => .agg (ofCells cs.toList)
  | .tuple _ => .dead
  | v => .at v

def rd (S : St) : Operand → SS
  | .tmp t => nth S.slots t
  | .const v => ofVal v
  | .func f => .at (.func (.func f) #[] #[])
  | .global _ => .dead

/-- A datum's cells. -/
def enc : (t : Ty) → t.den → List SV
  | .int k, (n : Int) => [.at (.int k n)]
  | .bool, (b : Bool) => [.at (.bool b)]
  | .str, (s : ByteArray) => [.at (.string s)]
  | .un, _ => []
  | .sl t, (l : List t.den) => [.fz t l]
  | .pr a b, x => enc a x.1 ++ enc b x.2

def castL (t u : Ty) (l : List t.den) : Option (List u.den) :=
  if h : t = u then some (h ▸ l) else none

/-- The datum whose cells come first, and the rest. -/
def dec : (t : Ty) → List SV → Option (t.den × List SV)
  | .int k, .at (.int k' n) :: r => if k' = k then some (n, r) else none
  | .bool, .at (.bool b) :: r => some (b, r)
  | .str, .at (.string s) :: r => some (s, r)
  | .un, r => some ((), r)
  | .sl t, .fz u l :: r => (castL u t l).map fun m => (m, r)
  | .sl _, .at (.slice none 0 0) :: r => some ([], r)
  | .pr a b, cs => (dec a cs).bind fun p => (dec b p.2).map fun q => ((p.1, q.1), q.2)
  | _, _ => none

/-- The datum that just these cells make. -/
def decAll (t : Ty) (cs : List SV) : Option t.den :=
  match dec t cs with
  | some (x, []) => some x
  | _ => none

def tyArr (t : Ty) : Nat → Ty
  | 0 => .un
  | 1 => t
  | n + 1 => .pr t (tyArr t n)

def tyFields (f : TypeId → Option Ty) : List Field → Option Ty
  | [] => some .un
  | [x] => f x.type
  | x :: fs => (f x.type).bind fun a => (tyFields f fs).map fun b => .pr a b

/-- The data type of a type of the program. -/
def tyOf (P : Program) : Nat → TypeId → Option Ty
  | 0, _ => none
  | d + 1, t => match P.underlying t with
    | some (.int k) => some (.int k)
    | some .bool => some .bool
    | some .string => some .str
    | some (.slice e) => (tyOf P d e).map .sl
    | some (.array n e) => (tyOf P d e).map fun x => tyArr x n
    | some (.struct fs) => tyFields (tyOf P d) fs.toList
    | _ => none

def tyAt (P : Program) (t : TypeId) : Option Ty := tyOf P 12 t

section
variable {R : Type}

def nthI {α : Type} (l : List α) (i : Int) : Option α := bif decide (0 ≤ i) then l[i.toNat]? else none

def ints (op : BinOp) (k : IntKind) (a b : Int) (κ : Value → Option R) : Option R :=
  match op with
  | .add => κ (.int k (k.wrap (a + b)))
  | .sub => κ (.int k (k.wrap (a - b)))
  | .mul => κ (.int k (k.wrap (a * b)))
  | .quo => bif b == 0 then none else κ (.int k (k.wrap (a.tdiv b)))
  | .rem => bif b == 0 then none else κ (.int k (a.tmod b))
  | .and => κ (.int k (k.wrap (BitVec.ofInt k.bits a &&& BitVec.ofInt k.bits b).toNat))
  | .or => κ (.int k (k.wrap (BitVec.ofInt k.bits a ||| BitVec.ofInt k.bits b).toNat))
  | .xor => κ (.int k (k.wrap (BitVec.ofInt k.bits a ^^^ BitVec.ofInt k.bits b).toNat))
  | .andNot => κ (.int k (k.wrap (BitVec.ofInt k.bits a &&& ~~~ BitVec.ofInt k.bits b).toNat))
  | .eql => κ (.bool (a == b))
  | .neq => κ (.bool (a != b))
  | .lss => κ (.bool (decide (a < b)))
  | .leq => κ (.bool (decide (a ≤ b)))
  | .gtr => κ (.bool (decide (a > b)))
  | .geq => κ (.bool (decide (a ≥ b)))
  | _ => none

def shl (k : IntKind) (a b : Int) : Int := k.wrap (a * 2 ^ min b.toNat k.bits)
def shr (k : IntKind) (a b : Int) : Int := a.fdiv (2 ^ min b.toNat k.bits)

def strEq (a b : ByteArray) : Bool := a.toList == b.toList
def strLt (a b : ByteArray) : Bool := Op.bytesLess a.toList b.toList

/-- '==' on data without slices. -/
def eqTy : (t : Ty) → t.den → t.den → Bool
  | .int _, (a : Int), (b : Int) => a == b
  | .bool, (a : Bool), (b : Bool) => a == b
  | .str, (a : ByteArray), (b : ByteArray) => strEq a b
  | .un, _, _ => true
  | .sl _, _, _ => true
  | .pr a b, x, y => eqTy a x.1 y.1 && eqTy b x.2 y.2

/-- The data type at which '==' of the program's type is 'eqTy'. -/
def eqTyFields (P : Program) (f : TypeId → Option Ty) : List Field → Nat → Option Ty
  | [], _ => some .un
  | [x], off => match f x.type with
    | some y => bif Nat.beq x.offset off && Nat.beq (P.cellsOf x.type) y.nc && x.name != "_" then some y else none
    | none => none
  | x :: fs, off => match f x.type with
    | some y => bif Nat.beq x.offset off && Nat.beq (P.cellsOf x.type) y.nc && x.name != "_" then
        match eqTyFields P f fs (off + y.nc) with
        | some z => some (.pr y z)
        | none => none
      else none
    | none => none

def eqTyOf (P : Program) : Nat → TypeId → Option Ty
  | 0, _ => none
  | d + 1, t => match P.underlying t with
    | some (.int k) => some (.int k)
    | some .bool => some .bool
    | some .string => some .str
    | some (.array n e) => match eqTyOf P d e with
      | some x => bif Nat.beq (P.cellsOf e) x.nc && (P.info? e).isSome then some (tyArr x n) else none
      | none => none
    | some (.struct fs) => bif P.stoodInHeld t then none else eqTyFields P (eqTyOf P d) fs.toList 0
    | _ => none

def isAggT (P : Program) (t : TypeId) : Option Bool :=
  match P.underlying t with
  | some (.struct _) | some (.array _ _) => some true
  | some _ => some false
  | none => none

def eqAgg (P : Program) (t : TypeId) (x y : List SV) (κ : Bool → Option R) : Option R :=
  match P.eqGuardType P.depth t, isAggT P t, eqTyOf P 12 t with
  | false, some true, some ty => match decAll ty x, decAll ty y with
    | some a, some b => κ (eqTy ty a b)
    | _, _ => none
  | _, _, _ => none

def binop (P : Program) (t : TypeId) (op : BinOp) (x y : SS) (κ : SS → Option R) : Option R :=
  match x, y with
  | .val (.agg a), .val (.agg b) =>
    match op with
    | .eql => eqAgg P t a b fun r => κ (.at (.bool r))
    | .neq => eqAgg P t a b fun r => κ (.at (.bool (!r)))
    | _ => none
  | .val (.one (.at (.int k a))), .val (.one (.at (.int k' b))) =>
    match op with
    | .shl => bif decide (b < 0) then none else κ (.at (.int k (shl k a b)))
    | .shr => bif decide (b < 0) then none else κ (.at (.int k (shr k a b)))
    | _ => if k = k' then ints op k a b fun v => κ (.at v) else none
  | .val (.one (.at (.string a))), .val (.one (.at (.string b))) =>
    match op with
    | .eql => κ (.at (.bool (strEq a b)))
    | .neq => κ (.at (.bool (!strEq a b)))
    | .lss => κ (.at (.bool (strLt a b)))
    | .leq => κ (.at (.bool (strLt a b || strEq a b)))
    | .gtr => κ (.at (.bool (!(strLt a b || strEq a b))))
    | .geq => κ (.at (.bool (!strLt a b)))
    | _ => none
  | .val (.one (.at (.bool a))), .val (.one (.at (.bool b))) =>
    match op, P.underlying t with
    | .eql, some .bool => κ (.at (.bool (a == b)))
    | .neq, some .bool => κ (.at (.bool (!(a == b))))
    | _, _ => none
  | _, _ => none

def unop (op : UnOp) (x : SS) (κ : SS → Option R) : Option R :=
  match op, x with
  | .not, .val (.one (.at (.bool b))) => κ (.at (.bool (!b)))
  | .neg, .val (.one (.at (.int k n))) => κ (.at (.int k (k.wrap (0 - n))))
  | _, _ => none

def byteOf (n : Int) : UInt8 := UInt8.ofNat n.toNat
def strOf (l : List Int) : ByteArray := ⟨(l.map byteOf).toArray⟩

/-- So many data out of cells. -/
def decMany (t : Ty) : Nat → List SV → Option (List t.den)
  | 0, _ => some []
  | n + 1, cs => match dec t cs with
    | some (x, r) => match decMany t n r with
      | some l => some (x :: l)
      | none => none
    | none => none

def encMany (t : Ty) : List t.den → List SV
  | [] => []
  | x :: l => enc t x ++ encMany t l

/-- The list with the other laid over it. -/
def overList {α : Type} : List α → List α → List α
  | [], _ => []
  | x :: l, m => m.head?.getD x :: overList l m.tail

/-- A list that a slice value stands for: (the list as data of a type). -/
def listOf (lk : Lk) (t : Ty) : SV → Option (List t.den)
  | .fz u l => castL u t l
  | .own i => match lk i with
    | some (.arr _ u l) => castL u t l
    | _ => none
  | .vw i n off len => match lk i with
    | some (.arr _ u l) => bif Nat.beq n u.nc then (match castL u t l with
      | some m => some ((m.drop off).take len)
      | none => none) else none
    | _ => none
  | .at (.slice none 0 0) => some []
  | .bs i off n u => match lk i with
    | some (.box cells) => (decMany u n (cells.drop off)).bind (castL u t)
    | _ => none
  | .es i n a j m u => match lk i with
    | some (.arr _ ty l) => bif Nat.beq n ty.nc then (l[a]?).bind fun d => (decMany u m ((enc ty d).drop j)).bind (castL u t) else none
    | _ => none
  | _ => none

def lenOf (lk : Lk) : SV → Option Int
  | .fz _ l => some l.length
  | .own i => match lk i with
    | some (.arr _ _ l) => some l.length
    | _ => none
  | .vw _ _ _ len => some len
  | .bs _ _ n _ => some n
  | .es _ _ _ _ m _ => some m
  | .at (.slice none 0 0) => some 0
  | _ => none

/-- The type's data type, where it takes as many cells as the program says. -/
def tyIn (P : Program) (t : TypeId) : Option Ty :=
  match tyAt P t, P.info? t with
  | some ty, some i => bif Nat.beq ty.nc i.size then some ty else none
  | _, _ => none

/-- n cells from the head on, as a value of an aggregate or of one cell. -/
def cut (agg : Bool) (n : Nat) (cells : List SV) : Option Cv :=
  match agg with
  | true => bif Nat.ble n cells.length then some (.agg (cells.take n)) else none
  | false => match n, cells with
    | 1, c :: _ => some (.one c)
    | _, _ => none

def cellsOf : SS → Option (List SV)
  | .val (.one v) => some [v]
  | .val (.agg l) => some l
  | .tup _ => none

/-- Is this surely a value of one cell? -/
def SV.solid : SV → Bool
  | .at v => v.oneCell'
  | .dead => false
  | _ => true

def solids : List SV → Bool
  | [] => true
  | v :: l => v.solid && solids l

/-- The cells with vs laid over them from o on. -/
def overlay (cells : List SV) (o : Nat) (vs : List SV) : Option (List SV) :=
  bif Nat.ble (o + vs.length) cells.length then some (cells.take o ++ vs ++ cells.drop (o + vs.length)) else none

/-- Cells that refer to no object: a whole list of the call's own is frozen, and the object is forgotten. 'k': an object that must stay; 'gone': those that are forgotten already. -/
def freezeAll (k : Nat) (lk : Lk) : List Nat → List SV → Option (List SV × List Ef)
  | _, [] => some ([], [])
  | gone, v :: l => match v with
    | .own i => bif Nat.beq i k || memN i gone then none else match lk i with
      | some (.arr _ t m) => (freezeAll k lk (i :: gone) l).map fun p => (.fz t m :: p.1, .drop i :: p.2)
      | _ => none
    | .vw i n off len => bif Nat.beq i k || memN i gone then none else match lk i with
      | some (.arr _ t m) => bif Nat.beq n t.nc then (freezeAll k lk (i :: gone) l).map fun p => (.fz t ((m.drop off).take len) :: p.1, .drop i :: p.2) else none
      | _ => none
    | .at v => (freezeAll k lk gone l).map fun p => (.at v :: p.1, p.2)
    | .fz t m => (freezeAll k lk gone l).map fun p => (.fz t m :: p.1, p.2)
    | _ => none

def getInt (s : SS) (κ : Int → Option R) : Option R :=
  match s with
  | .val (.one (.at (.int _ n))) => κ n
  | _ => none

def getIntO (s : Option SS) (d : Int) (κ : Int → Option R) : Option R :=
  match s with
  | none => κ d
  | some s => getInt s κ

/-- Does the program say that a value of the type takes n cells? -/
def sizeIs (P : Program) (t : TypeId) (n : Nat) : Bool :=
  match P.info? t with
  | some i => Nat.beq i.size n
  | none => false

def slice (P : Program) (lk : Lk) (t : TypeId) (x : SS) (lo hi : Option SS) (κ : SS → Option R) : Option R :=
  match P.underlying t, x with
  | some (.slice e), .val (.one (.fz ty l)) =>
    bif sizeIs P e ty.nc then
      getIntO lo 0 fun a => getIntO hi l.length fun b =>
        bif decide (0 ≤ a) && decide (a ≤ b) && decide (b ≤ l.length) then κ (.one (.fz ty ((l.drop a.toNat).take (b.toNat - a.toNat)))) else none
    else none
  | some (.slice e), .val (.one (.own i)) =>
    match lk i with
    | some (.arr _ ty l) =>
      bif sizeIs P e ty.nc then
        getIntO lo 0 fun a => getIntO hi l.length fun b =>
          bif decide (0 ≤ a) && decide (a ≤ b) && decide (b ≤ l.length) then κ (.one (.vw i ty.nc a.toNat (b.toNat - a.toNat))) else none
      else none
    | _ => none
  | some (.slice e), .val (.one (.at (.slice none 0 0))) =>
    bif (P.info? e).isSome then
      getIntO lo 0 fun a => getIntO hi 0 fun b => bif decide (0 ≤ a) && decide (a ≤ b) && decide (b ≤ 0) then κ (.at (.slice none 0 0)) else none
    else none
  | some (.array n e), .val (.one (.fp ty x j)) =>
    match tyIn P e, lo, hi with
    | some et, none, none => (decMany et n ((enc ty x).drop j)).bind fun l => κ (.one (.fz et l))
    | _, _, _ => none
  | some (.array n e), .val (.one (.ptr i o)) =>
    match tyIn P e, lo, hi with
    | some et, none, none => κ (.one (.bs i o n et))
    | _, _, _ => none
  | some (.array n e), .val (.one (.ep i k a j)) =>
    match tyIn P e, lo, hi with
    | some et, none, none => κ (.one (.es i k a j n et))
    | _, _, _ => none
  | _, _ => none

def indexAddr (P : Program) (lk : Lk) (t : TypeId) (x i : SS) (κ : SS → Option R) : Option R :=
  getInt i fun n =>
  match P.underlying t, x with
  | some (.slice e), .val (.one (.fz ty l)) =>
    bif sizeIs P e ty.nc then (nthI l n).bind fun d => κ (.one (.fp ty d 0)) else none
  | some (.slice e), .val (.one (.own i)) =>
    match lk i with
    | some (.arr _ ty l) =>
      bif sizeIs P e ty.nc then (bif decide (0 ≤ n) && decide (n < l.length) then κ (.one (.ep i ty.nc n.toNat 0)) else none) else none
    | _ => none
  | some (.slice e), .val (.one (.vw i m off len)) =>
    bif sizeIs P e m then (bif decide (0 ≤ n) && decide (n < len) then κ (.one (.ep i m (off + n.toNat) 0)) else none) else none
  | some (.array len e), .val (.one (.ptr i o)) =>
    bif (P.info? e).isSome && decide (0 ≤ n) && decide (n < len) then κ (.one (.ptr i (o + n.toNat * P.cellsOf e))) else none
  | some (.array len e), .val (.one (.fp ty d o)) =>
    bif (P.info? e).isSome && decide (0 ≤ n) && decide (n < len) then κ (.one (.fp ty d (o + n.toNat * P.cellsOf e))) else none
  | _, _ => none

def fieldAddr (P : Program) (s : TypeId) (x : SS) (f : Nat) (κ : SS → Option R) : Option R :=
  match P.underlying s with
  | some (.struct fs) => match fs[f]? with
    | some fd => bif Nat.beq (P.cellsOf fd.type) 0 then none else
      match x with
      | .val (.one (.ptr i o)) => κ (.one (.ptr i (o + fd.offset)))
      | .val (.one (.ep i n a b)) => κ (.one (.ep i n a (b + fd.offset)))
      | .val (.one (.fp ty d o)) => κ (.one (.fp ty d (o + fd.offset)))
      | _ => none
    | none => none
  | _ => none

def load (P : Program) (lk : Lk) (t : TypeId) (x : SS) (κ : SS → Option R) : Option R :=
  match isAggT P t, x with
  | some g, .val (.one (.ptr i o)) => match lk i with
    | some (.box cells) => match cut g (P.cellsOf t) (cells.drop o) with
      | some c => κ (.val c)
      | none => none
    | _ => none
  | some g, .val (.one (.ep i n a b)) => match lk i with
    | some (.arr _ ty l) => bif Nat.beq n ty.nc then (l[a]?).bind fun d => match cut g (P.cellsOf t) ((enc ty d).drop b) with
      | some c => κ (.val c)
      | none => none
      else none
    | _ => none
  | some g, .val (.one (.fp ty d o)) => match cut g (P.cellsOf t) ((enc ty d).drop o) with
    | some c => κ (.val c)
    | none => none
  | _, _ => none

/-- Cells are laid over what a pointer leads to. -/
def putCells (lk : Lk) (x : SV) (vs : List SV) (κ : List Ef → Option R) : Option R :=
  match x with
  | .ptr i o => match lk i with
    | some (.box cells) => match overlay cells o vs with
      | some cells => κ [.set i (.box cells)]
      | none => none
    | _ => none
  | .ep i n a b => match freezeAll i lk [] vs with
    | some (vs, es) => match lk i with
      | some (.arr e ty l) => bif Nat.beq n ty.nc then (l[a]?).bind fun d => match overlay (enc ty d) b vs with
        | some cells => match decAll ty cells with
          | some d => κ (es ++ [.set i (.arr e ty (l.set a d))])
          | none => none
        | none => none
        else none
      | _ => none
    | none => none
  | _ => none

def store (P : Program) (lk : Lk) (t : TypeId) (x v : SS) (κ : List Ef → Option R) : Option R :=
  match cellsOf v with
  | none => none
  | some vs => bif (P.info? t).isSome && Nat.beq vs.length (P.cellsOf t) && solids vs then
    match x with
    | .val (.one x) => putCells lk x vs κ
    | _ => none
    else none

def zeroCells (P : Program) (t : TypeId) : Option (List SV) :=
  match P.info? t with
  | some i => match i.zero with
    | some z => bif Nat.beq z.cells.size i.size then some (ofCells z.cells.toList) else none
    | none => none
  | none => none

def fillCells (place : Nat → Option (Nat × Nat)) (rf : Operand → SS) : List SV → List (Nat × Operand) → Option (List SV)
  | cells, [] => some cells
  | cells, (i, x) :: r => match place i, cellsOf (rf x) with
    | some (o, n), some vs => bif Nat.beq vs.length n && solids vs then (match overlay cells o vs with | some cells => fillCells place rf cells r | none => none) else none
    | _, _ => none

def places (P : Program) (fs : List Field) (i : Nat) : Option (Nat × Nat) :=
  match fs[i]? with
  | some f => some (f.offset, P.cellsOf f.type)
  | none => none

def build (P : Program) (rf : Operand → SS) (t : TypeId) (parts : List (Nat × Operand)) (κ : SS → Option R) : Option R :=
  match zeroCells P t, P.underlying t with
  | some z, some (.struct fs) => bif fs.toList.all (fun f => (P.info? f.type).isSome) then (match fillCells (places P fs.toList) rf z parts with
    | some l => κ (.agg l)
    | none => none) else none
  | some z, some (.array _ e) => bif (P.info? e).isSome then (match fillCells (fun i => some (i * P.cellsOf e, P.cellsOf e)) rf z parts with
    | some l => κ (.agg l)
    | none => none) else none
  | _, _ => none

def repeatCells (z : List SV) : Nat → List SV
  | 0 => []
  | n + 1 => z ++ repeatCells z n

def buildSlice (P : Program) (rf : Operand → SS) (lk : Lk) (d : Nat) (t : TypeId) (len : Nat) (parts : List (Nat × Operand)) (κ : SS → List Ef → Option R) : Option R :=
  match P.underlying t with
  | some (.slice e) => match tyIn P e, zeroCells P e with
    | some ty, some z => match Nat.ble (len * P.cellsOf e) 1000 && Nat.ble len 1000, fillCells (fun i => some (i * P.cellsOf e, P.cellsOf e)) rf (repeatCells z len) parts with
      | true, some cells => match freezeAll d lk [] cells with
        | some (cells, es) => match decMany ty len cells with
          | some l => κ (.one (.own d)) (es ++ [.renew d (.arr e ty l)])
          | none => none
        | none => none
      | _, _ => none
    | _, _ => none
  | _ => none

def makeSlice (P : Program) (d : Nat) (t : TypeId) (len cap : SS) (κ : SS → List Ef → Option R) : Option R :=
  match P.underlying t with
  | some (.slice e) => match tyIn P e, zeroCells P e with
    | some ty, some z => match decAll ty z with
      | some zd => getInt len fun n => getInt cap fun c =>
        bif decide (0 ≤ n) && decide (n ≤ c) && decide (P.bytesOf e * c ≤ 281474976710656) && decide (c ≤ 9223372036854775807) then
          κ (.one (.own d)) [.renew d (.arr e ty (List.replicate n.toNat zd))]
        else none
      | none => none
    | _, _ => none
  | _ => none

def elemIs (lk : Lk) (i : Nat) (e : TypeId) : Bool :=
  match lk i with
  | some (.arr e' _ _) => Nat.beq e' e
  | _ => false

/-- 'append': a list onto an owned list, or onto none. -/
def append (P : Program) (lk : Lk) (d : Nat) (t : TypeId) (x y : SS) (κ : SS → List Ef → Option R) : Option R :=
  match P.underlying t, x, y with
  | some (.slice e), .val (.one x), .val (.one y) => match tyIn P e with
    | some ty => match listOf lk ty x, listOf lk ty y with
      | some l, some m =>
        bif Nat.ble 1 ty.nc && (zeroCells P e).isSome && decide ((l.length + m.length) * P.bytesOf e ≤ 140737488355328) && decide (l.length + m.length ≤ 9223372036854775807) then
          match x with
          | .own i => bif elemIs lk i e then κ (.one (.own i)) [.renew i (.arr e ty (l ++ m))] else none
          | .vw i _ off _ => match off with
            | 0 => bif elemIs lk i e then κ (.one (.own i)) [.renew i (.arr e ty (l ++ m))] else none
            | _ => none
          | .at (.slice none 0 0) => κ (.one (.own d)) [.renew d (.arr e ty m)]
          | _ => none
        else none
      | _, _ => none
    | none => none
  | _, _, _ => none

/-- The list behind a part of an element, taken apart. -/
def partK (lk : Lk) (t : Ty) (i n a j m : Nat) (u : Ty) (κ : List t.den → Option R) : Option R :=
  match lk i with
  | some (.arr _ ty l) => bif Nat.beq n ty.nc then (l[a]?).bind fun d => match (decMany u m ((enc ty d).drop j)).bind (castL u t) with
    | some x => κ x
    | none => none
    else none
  | _ => none

/-- 'copy' into an owned list. -/
def copy (P : Program) (lk : Lk) (t : TypeId) (x y : SS) (κ : SS → List Ef → Option R) : Option R :=
  match P.underlying t, x, y with
  | some (.slice e), .val (.one (.own i)), .val (.one y) => match tyIn P e, lk i with
    | some ty, some (.arr e' ty' l') => match castL ty' ty l', listOf lk ty y with
      | some l, some m => κ (.at (.int .i64 (min m.length l.length : Nat))) [.set i (.arr e' ty (m.take l.length ++ l.drop m.length))]
      | _, _ => none
    | _, _ => none
  | some (.slice e), .val (.one (.bs i off n u)), .val (.one y) => match tyIn P e with
    | some ty => match listOf lk ty y, listOf lk ty (.bs i off n u) with
      | some m, some old => putCells lk (.ptr i off) (encMany ty (overList old m)) fun es => κ (.at (.int .i64 (min m.length n : Nat))) es
      | _, _ => none
    | none => none
  | some (.slice e), .val (.one (.es i k a j n u)), .val (.one y) => match tyIn P e with
    | some ty => match listOf lk ty y with
      | some m => partK lk ty i k a j n u fun old => putCells lk (.ep i k a j) (encMany ty (overList old m)) fun es => κ (.at (.int .i64 (min m.length n : Nat))) es
      | none => none
    | none => none
  | _, _, _ => none

def convert (P : Program) (lk : Lk) (src dst : TypeId) (x : SS) (κ : SS → List Ef → Option R) : Option R :=
  match P.underlying src, P.underlying dst, x with
  | some _, some (.int k), .val (.one (.at (.int _ n))) => κ (.at (.int k (k.wrap n))) []
  | some (.slice e), some .string, .val (.one x) =>
    match P.underlying e, listOf lk (.int .u8) x with
    | some (.int .u8), some l => κ (.at (.string (strOf l))) []
    | _, _ => none
  | some (.slice e), some (.slice _), .val (.one (.own i)) =>
    match P.underlying e, Nat.beq src dst, lk i with
    | some (.int .u8), true, some (.arr _ ty l) => match l with
      | [] => none
      | x :: l => κ (.one (.fz ty (x :: l))) [.drop i]
    | _, _, _ => none
  | _, _, _ => none

def extract (x : SS) (i : Nat) (κ : SS → Option R) : Option R :=
  match x with
  | .tup l => match l[i]? with
    | some c => κ (.val c)
    | none => none
  | _ => none

def field (P : Program) (t : TypeId) (x : SS) (f : Nat) (κ : SS → Option R) : Option R :=
  match P.underlying t, x with
  | some (.struct fs), .val (.agg l) => match fs[f]? with
    | some fd => match isAggT P fd.type with
      | some g => match cut g (P.cellsOf fd.type) (l.drop fd.offset) with
        | some c => κ (.val c)
        | none => none
      | none => none
    | none => none
  | _, _ => none

def cutK (g : Bool) (m : Nat) (l : List SV) (κ : SS → Option R) : Option R :=
  match cut g m l with
  | some c => κ (.val c)
  | none => none

/-- Part n of these, where n is not known: each in turn. -/
def pickAt (g : Bool) (m : Nat) (n : Int) (κ : SS → Option R) : Nat → Nat → List SV → Option R
  | _, 0, _ => none
  | k, left + 1, l => bif decide (n = (k : Int)) then cutK g m l κ else pickAt g m n κ (k + 1) left (l.drop m)

def indexIn (g : Bool) (m : Nat) (n : Int) (len : Nat) (l : List SV) (κ : SS → Option R) : Option R :=
  match cellRefs l with
  | [] => cutK g m (l.drop (n.toNat * m)) κ
  | _ :: _ => pickAt g m n κ 0 len l

/-- The byte of a string at a place. -/
def byteAt (s : ByteArray) (n : Int) : Option UInt8 := bif decide (0 ≤ n) then s.data.toList[n.toNat]? else none

def index (P : Program) (t : TypeId) (x i : SS) (κ : SS → Option R) : Option R :=
  match P.underlying t, x with
  | some (.array len e), .val (.agg l) => getInt i fun n => match isAggT P e with
    | some g => bif decide (0 ≤ n) && decide (n < len) then indexIn g (P.cellsOf e) n len l κ else none
    | none => none
  | some .string, .val (.one (.at (.string s))) => getInt i fun n => match byteAt s n with
    | some b => κ (.at (.int .u8 b.toNat))
    | none => none
  | _, _ => none

/- Maps. -/

def mfind (k : Ty) {v : Type} (x : k.den) : List (Nat × (k.den × v)) → Option (Nat × (k.den × v))
  | [] => none
  | e :: l => bif eqTy k x e.2.1 then some e else mfind k x l

def mput (k : Ty) {v : Type} (c : Nat) (x : k.den) (y : v) : List (Nat × (k.den × v)) → List (Nat × (k.den × v))
  | [] => [(c, x, y)]
  | e :: l => bif eqTy k x e.2.1 then (e.1, x, y) :: l else e :: mput k c x y l

def mdel (k : Ty) {v : Type} (x : k.den) : List (Nat × (k.den × v)) → List (Nat × (k.den × v))
  | [] => []
  | e :: l => bif eqTy k x e.2.1 then l else e :: mdel k x l

def mtick (k : Ty) {v : Type} (c : Nat) (x : k.den) (l : List (Nat × (k.den × v))) : Nat := bif (mfind k x l).isSome then c else c + 1

def mget (k : Ty) {v : Type} (z : v) (x : k.den) (l : List (Nat × (k.den × v))) : v :=
  match mfind k x l with
  | some e => e.2.2
  | none => z

def Ty.plain : Ty → Bool
  | .int _ | .bool | .un => true
  | .pr a b => a.plain && b.plain
  | _ => false

def aggIs (va : Bool) : Value → Bool
  | .agg _ => va
  | _ => !va

/-- Do these describe the program's map type? -/
def mapOk (P : Program) (t : TypeId) (ka va : Bool) (k v : Ty) : Bool :=
  match P.underlying t with
  | some (.map kt et) => match eqTyOf P 12 kt, isAggT P kt, tyIn P et, isAggT P et with
    | some k', some ka', some v', some va' => decide (k' = k) && (ka' == ka) && decide (v' = v) && (va' == va) && (va || Nat.beq v.nc 1) && k.plain
    | _, _, _, _ => false
  | _ => false

def keyDat (ka : Bool) (k : Ty) : SS → Option k.den
  | .val (.agg l) => bif ka then decAll k l else none
  | .val (.one v) => bif ka then none else decAll k [v]
  | .tup _ => none

def shapeIs (va : Bool) : SS → Bool
  | .val (.agg _) => va
  | .val (.one _) => !va
  | .tup _ => false

def zeroDat (P : Program) (t : TypeId) (va : Bool) (v : Ty) : Option v.den :=
  match P.underlying t with
  | some (.map _ et) => match P.info? et with
    | some i => match i.zero with
      | some z => bif aggIs va z then decAll v (ofCells z.cells.toList) else none
      | none => none
    | none => none
  | _ => none

/-- The value of a datum. -/
def encOne : (t : Ty) → t.den → SV
  | .int k, (n : Int) => .at (.int k n)
  | .bool, (b : Bool) => .at (.bool b)
  | .str, (s : ByteArray) => .at (.string s)
  | .sl t, (l : List t.den) => .fz t l
  | .un, _ => .dead
  | .pr _ _, _ => .dead

def valCv (agg : Bool) (t : Ty) (x : t.den) : Cv := bif agg then .agg (enc t x) else .one (encOne t x)

def mapLook (P : Program) (lk : Lk) (t : TypeId) (m key : SS) (ok : Bool) (κ : SS → Option R) : Option R :=
  match m with
  | .val (.one (.own i)) => match lk i with
    | some (.map mt ka va k v l _ _) => bif Nat.beq mt t && mapOk P t ka va k v then
        match keyDat ka k key, zeroDat P t va v with
        | some x, some z => bif ok then κ (.tup [valCv va v (mget k z x l), .one (.at (.bool (mfind k x l).isSome))]) else κ (.val (valCv va v (mget k z x l)))
        | _, _ => none
      else none
    | _ => none
  | _ => none

def mapSet (P : Program) (lk : Lk) (t : TypeId) (m key x : SS) (κ : List Ef → Option R) : Option R :=
  match m with
  | .val (.one (.own i)) => match lk i with
    | some (.map mt ka va k v l c false) => bif Nat.beq mt t && mapOk P t ka va k v && shapeIs va x then
        match keyDat ka k key, cellsOf x with
        | some a, some vs => bif solids vs then (match freezeAll i lk [] vs with
          | some (vs, es) => match decAll v vs with
            | some y => κ (es ++ [.set i (.map mt ka va k v (mput k c a y l) (mtick k c a l) false)])
            | none => none
          | none => none) else none
        | _, _ => none
      else none
    | _ => none
  | _ => none

def mapDel (P : Program) (lk : Lk) (t : TypeId) (m key : SS) (κ : List Ef → Option R) : Option R :=
  match m with
  | .val (.one (.own i)) => match lk i with
    | some (.map mt ka va k v l c nl) => bif Nat.beq mt t && mapOk P t ka va k v then
        match keyDat ka k key with
        | some a => κ [.set i (.map mt ka va k v (mdel k a l) c nl)]
        | none => none
      else none
    | _ => none
  | _ => none

def makeMap (P : Program) (d : Nat) (t : TypeId) (κ : SS → List Ef → Option R) : Option R :=
  match P.underlying t with
  | some (.map kt et) => match eqTyOf P 12 kt, isAggT P kt, tyIn P et, isAggT P et with
    | some k, some ka, some v, some va => bif mapOk P t ka va k v then κ (.one (.own d)) [.renew d (.map t ka va k v [] 0 false)] else none
    | _, _, _, _ => none
  | _ => none

/-- 'range' over a map. -/
def mapRange (P : Program) (lk : Lk) (d : Nat) (t : TypeId) (m : SS) (κ : SS → List Ef → Option R) : Option R :=
  match P.underlying t, m with
  | some (.map _ _), .val (.one (.own i)) => match lk i with
    | some (.map _ _ _ _ _ _ c _) => bif Nat.beq i d then none else κ (.one (.ptr d 0)) [.renew d (.iter i c [])]
    | _ => none
  | _, _ => none

def notSeen {α : Type} (seen : List Nat) : List (Nat × α) → List (Nat × α)
  | [] => []
  | e :: l => bif memN e.1 seen then notSeen seen l else e :: notSeen seen l

def stampAt {α : Type} (s : Nat) : List (Nat × α) → Option (Nat × α)
  | [] => none
  | e :: l => bif Nat.beq e.1 s then some e else stampAt s l

/-- The key and the value of the step that a walk has made. -/
def mapEnt (lk : Lk) (it : SS) (κ : SS → Option R) : Option R :=
  match it with
  | .val (.one (.ptr i 0)) => match lk i with
    | some (.iter m since seen) => match lk m with
      | some (.map _ ka va k v l c _) => bif Nat.beq c since then
          (match seen.getLast? with
           | some s => match stampAt s l with
             | some e => κ (.tup [valCv ka k e.2.1, valCv va v e.2.2])
             | none => none
           | none => none) else none
      | _ => none
    | _ => none
  | _ => none

/-- Both ways come to the same. -/
def agree [DecidableEq R] (a b : Option R) : Option R :=
  match a with
  | some x => match b with
    | some y => bif decide (x = y) then some x else none
    | none => none
  | none => none

/-- Whichever it is of n: all come to the same. -/
def allJ [DecidableEq R] : Nat → (Nat → Option R) → Option R
  | 0, _ => none
  | 1, f => f 0
  | n + 2, f => agree (f (n + 1)) (allJ (n + 1) f)

/-- A step of a walk over a map: any entry that has not been seen. -/
def mapNext [DecidableEq R] (lk : Lk) (it : SS) (κ : SS → List Ef → Option R) : Option R :=
  match it with
  | .val (.one (.ptr i 0)) => match lk i with
    | some (.iter m since seen) => match lk m with
      | some (.map _ ka va k v l c _) => bif Nat.beq c since then
          (match notSeen seen l with
           | [] => κ (.tup [.one (.at (.bool false))]) []
           | e :: r => allJ (r.length + 1) fun j => match (e :: r)[j]? with
             | some x => κ (.tup [.one (.at (.bool true)), valCv ka k x.2.1, valCv va v x.2.2]) [.set i (.iter m since (seen ++ [x.1]))]
             | none => none) else none
      | _ => none
    | _ => none
  | _ => none

def boolK (b : Bool) (κ : Bool → Option R) : Option R := κ b

/-- Is a list nil? One of no element may be or not. -/
def nilK [DecidableEq R] {α : Type} (l : List α) (κ : Bool → Option R) : Option R :=
  match l with
  | [] => agree (κ true) (κ false)
  | _ :: _ => κ false

/-- Slices, pointers, maps: what may be nil. -/
def nilKind (P : Program) (t : TypeId) : Nat :=
  match P.underlying t with
  | some (.slice _) => 0
  | some (.pointer _) => 1
  | some (.map _ _) => 2
  | _ => 3

def nilOf : Value → Nat
  | .slice none 0 0 => 0
  | .pointer none => 1
  | .map none => 2
  | _ => 4

/-- 'x == nil', x of a kind. -/
def isNilV [DecidableEq R] (q : Nat) (lk : Lk) (x : SS) (κ : Bool → Option R) : Option R :=
  match x with
  | .val (.one (.at (.slice none 0 0))) => bif Nat.beq q 0 then κ true else none
  | .val (.one (.fz _ l)) => bif Nat.beq q 0 then nilK l κ else none
  | .val (.one (.own i)) => match lk i with
    | some (.arr _ _ l) => bif Nat.beq q 0 then nilK l κ else none
    | some (.map _ _ _ _ _ _ _ false) => bif Nat.beq q 2 then κ false else none
    | _ => none
  | .val (.one (.vw _ _ _ (_ + 1))) => bif Nat.beq q 0 then κ false else none
  | .val (.one (.ptr _ _)) => bif Nat.beq q 1 then κ false else none
  | .val (.one (.fp _ _ _)) => bif Nat.beq q 1 then κ false else none
  | .val (.one (.at (.pointer none))) => bif Nat.beq q 1 then κ true else none
  | _ => none

/-- Operations with more than one outcome: a step over a map; a comparison with nil. -/
def opMany : Op → Bool
  | .next _ _ => true
  | .binOp .eql _ _ (.const v) _ => Nat.blt (nilOf v) 3
  | .binOp .neq _ _ (.const v) _ => Nat.blt (nilOf v) 3
  | _ => false

def actN [DecidableEq R] (P : Program) (rf : Operand → SS) (lk : Lk) (op : Op) (κ : SS → List Ef → Option R) : Option R :=
  match op with
  | .next it false => mapNext lk (rf it) κ
  | .binOp .eql t x (.const v) _ => bif Nat.beq (nilKind P t) (nilOf v) then isNilV (nilKind P t) lk (rf x) fun b => κ (.at (.bool b)) [] else none
  | .binOp .neq t x (.const v) _ => bif Nat.beq (nilKind P t) (nilOf v) then isNilV (nilKind P t) lk (rf x) fun b => κ (.at (.bool (!b))) [] else none
  | _ => none

/-- Elements of a list of the call's own are made zero. -/
def clearL (P : Program) (lk : Lk) (t : TypeId) (x : SV) (κ : List Ef → Option R) : Option R :=
  match P.underlying t, x with
  | some (.slice e), .own i => match lk i with
    | some (.arr e' ty l) => match Nat.beq e e' && sizeIs P e ty.nc, zeroCells P e with
      | true, some z => match decAll ty z with
        | some zd => κ [.set i (.arr e' ty (List.replicate l.length zd))]
        | none => none
      | _, _ => none
    | _ => none
  | some (.slice e), .vw i n off len => match lk i with
    | some (.arr e' ty l) => match Nat.beq e e' && sizeIs P e ty.nc && Nat.beq n ty.nc, zeroCells P e with
      | true, some z => match decAll ty z with
        | some zd => κ [.set i (.arr e' ty (l.take off ++ List.replicate len zd ++ l.drop (off + len)))]
        | none => none
      | _, _ => none
    | _ => none
  | some (.slice _), .at (.slice none 0 0) => κ []
  | _, _ => none

/-- Values of one cell each. -/
def onesOf : List SS → Option (List SV)
  | [] => some []
  | .val (.one v) :: l => (onesOf l).map fun r => v :: r
  | _ => none

def onesK : List SV → List SS
  | [] => []
  | v :: l => .one v :: onesK l

/-- The results of the functions that are called: arguments, the state, what goes on behind. -/
abbrev Sums (R : Type) := FuncId → Option (Nat → List SS → Lk → (SS → List Ef → Option R) → Option R)

def maxI (x y : Int) : Int := if y > x then y else x
def minI (x y : Int) : Int := if y < x then y else x

def builtin (P : Program) (lk : Lk) (d : Nat) (b : Builtin) (tys : List TypeId) (args : List SS) (κ : SS → List Ef → Option R) : Option R :=
  match b, tys, args with
  | .len, [t], [.val (.one v)] => match P.underlying t with
    | some (.slice _) => match lenOf lk v with
      | some n => κ (.at (.int .i64 n)) []
      | none => none
    | some .string => match v with
      | .at (.string s) => κ (.at (.int .i64 s.size)) []
      | _ => none
    | some (.map _ _) => match v with
      | .own i => match lk i with
        | some (.map _ _ _ _ _ l _ _) => κ (.at (.int .i64 l.length)) []
        | _ => none
      | _ => none
    | _ => none
  | .delete, t :: _, [m, k] => mapDel P lk t m k fun es => κ (.tup []) es
  | .clear, [t], [.val (.one x)] => clearL P lk t x fun es => κ (.tup []) es
  | .append, [t, u], [x, y] => bif Nat.beq t u then append P lk d t x y κ else none
  | .copy, [t, _], [x, y] => copy P lk t x y κ
  | .max, _, [.val (.one (.at (.int k a))), .val (.one (.at (.int _ b)))] => κ (.at (.int k (maxI a b))) []
  | .min, _, [.val (.one (.at (.int k a))), .val (.one (.at (.int _ b)))] => κ (.at (.int k (minI a b))) []
  | _, _, _ => none

def rds (rf : Operand → SS) : List Operand → List SS
  | [] => []
  | x :: l => rf x :: rds rf l

def notIface (P : Program) (t : TypeId) : Bool :=
  match P.underlying t with
  | some (.interface _) => false
  | some _ => true
  | none => false

/-- A function without a body that the model gives: the comparison of bytes. -/
def extCmp (P : Program) (f : FuncId) : Bool :=
  match P.funcs[f]? with
  | some fn => fn.name == "internal/bytealg.Compare" && fn.origin == "" && fn.body.isNone
  | none => false

def cmpBytes (lk : Lk) (args : List SS) (κ : SS → Option R) : Option R :=
  match args with
  | [.val (.one x), .val (.one y)] => match listOf lk (.int .u8) x, listOf lk (.int .u8) y with
    | some a, some b => κ (.at (.int .i64 (Extern.BytealgCompare.cmp (strOf a) (strOf b))))
    | _, _ => none
  | _ => none

def callable (P : Program) (f : FuncId) : Bool :=
  match P.funcs[f]? with
  | some fn => fn.name != "runtime.NumGoroutine" && fn.body.isSome
  | none => false

/-- One operation: the value that it gives, and what it does to the state. -/
def act (P : Program) (E : Sums R) (rf : Operand → SS) (lk : Lk) (d : Nat) (op : Op) (κ : SS → List Ef → Option R) : Option R :=
  match op with
  | .move x | .assign x => κ (rf x) []
  | .pick c a b => match rf c with
    | .val (.one (.at (.bool q))) => match rf a, rf b with
      | .val (.one (.at (.bool x))), .val (.one (.at (.bool y))) => κ (.at (.bool (bif q then x else y))) []
      | x, y => bif q then κ x [] else κ y []
    | _ => none
  | .alloc t => match zeroCells P t with
    | some z => κ (.one (.ptr d 0)) [.renew d (.box z)]
    | none => none
  | .box _ x => match cellsOf (rf x) with
    | some vs => bif solids vs then κ (.one (.ptr d 0)) [.renew d (.box (killCells d vs))] else none
    | none => none
  | .build t ps => build P rf t ps.toList fun v => κ v []
  | .buildSlice t n ps => buildSlice P rf lk d t n ps.toList κ
  | .load t a => load P lk t (rf a) fun v => κ v []
  | .store t a x => store P lk t (rf a) (rf x) fun es => κ .dead es
  | .nilCheck x => match rf x with
    | .val (.one (.ptr i o)) => κ (.one (.ptr i o)) []
    | .val (.one (.ep i n a b)) => κ (.one (.ep i n a b)) []
    | .val (.one (.fp t x j)) => κ (.one (.fp t x j)) []
    | _ => none
  | .binOp op t x y _ => binop P t op (rf x) (rf y) fun v => κ v []
  | .unOp op _ x => unop op (rf x) fun v => κ v []
  | .convert s t x => convert P lk s t (rf x) κ
  | .makeSlice t l c => makeSlice P d t (rf l) (rf c) κ
  | .slice t x lo hi none => slice P lk t (rf x) (lo.map rf) (hi.map rf) fun v => κ v []
  | .fieldAddr s x f => fieldAddr P s (rf x) f fun v => κ v []
  | .field t x f => field P t (rf x) f fun v => κ v []
  | .indexAddr t x i => indexAddr P lk t (rf x) (rf i) fun v => κ v []
  | .index t x i => index P t (rf x) (rf i) fun v => κ v []
  | .extract x i => extract (rf x) i fun v => κ v []
  | .call { callee := .builtin b, args, argTypes } => builtin P lk d b argTypes.toList (rds rf args.toList) κ
  | .call { callee := .value (.func f), args, .. } => match E f with
    | some g => bif callable P f then g d (rds rf args.toList) lk κ else none
    | none => bif extCmp P f then cmpBytes lk (rds rf args.toList) fun v => κ v [] else none
  | .call { callee := .value x, args, .. } => match rf x with
    | .val (.one (.at (.func (.func f) fs cs))) => match fs.toList, cs.toList with
      | [], [] => match E f with
        | some g => bif callable P f then g d (rds rf args.toList) lk κ else none
        | none => none
      | _, _ => none
    | .val (.one (.own i)) => match lk i with
      | some (.clo f cells) => match E f with
        | some g => bif callable P f && solids cells then g d (rds rf args.toList ++ onesK cells) lk κ else none
        | none => none
      | _ => none
    | _ => none
  | .makeFunc (.func f) fs cs => match fs.toList, onesOf (rds rf cs.toList) with
    | [], some cells => bif solids cells then κ (.one (.own d)) [.renew d (.clo f (killCells d cells))] else none
    | _, _ => none
  | .makeInterface t x => match rf x with
    | .val (.one v) => bif v.solid && notIface P t then κ (.one (.own d)) [.renew d (.ifc t (v.killed d))] else none
    | _ => none
  | .makeMap t none => makeMap P d t κ
  | .makeMap t (some x) => getInt (rf x) fun _ => makeMap P d t κ
  | .lookup t m k ok => mapLook P lk t (rf m) (rf k) ok fun v => κ v []
  | .mapUpdate t m k x => mapSet P lk t (rf m) (rf k) (rf x) fun es => κ .dead es
  | .insert t m k x => mapSet P lk t (rf m) (rf k) (rf x) fun es => κ .dead es
  | .range t m => mapRange P lk d t (rf m) κ
  | .entry it => mapEnt lk (rf it) fun v => κ v []
  | _ => none

/-- What an operation's operands refer to, and what these objects lead to. -/
def opIds (S : St) (op : Op) : List Nat := reach (look S.objs) 3 (ssRefs (rds (rd S) op.operands.toList))

def opv [DecidableEq R] (P : Program) (E : Sums R) (S : St) (d : Nat) (op : Op) (κ : SS → St → Option R) : Option R :=
  bif opMany op then actN P (rd S) (lkOf S.objs (opIds S op)) op fun v es => κ v (apps es S)
  else act P E (rd S) (lkOf S.objs (opIds S op)) d op fun v es => κ v (apps es S)

def setDst (o : Oper) (v : SS) (S : St) : St :=
  match o.dst with
  | some d => { S with slots := put S.slots d v }
  | none => S

def isUndef : SS → Bool
  | .tup [] => true
  | _ => false

def ops [DecidableEq R] (P : Program) (E : Sums R) (all : Array Oper) : List Oper → St → (St → Option R) → Option R
  | [], S, κ => κ S
  | o :: r, S, κ =>
    let go (S : St) : Option R := opv P E S (o.dst.getD 0) o.op fun v S => ops P E all r (setDst o v S) κ
    let skip (S : St) : Option R := ops P E all r (setDst o (.tup []) S) κ
    match o.guard with
    | none => go S
    | some (j, want) => match (all[j]?).bind (·.dst) with
      | none => none
      | some t => match nth S.slots t with
        | .val (.one (.at (.bool b))) =>
          let yes (b : Bool) : Option R := (let S := { S with slots := put S.slots t (.at (.bool b)) }; bif b == want then go S else skip S)
          bif b then yes true else yes false
        | .tup [] => skip S
        | _ => none

inductive SExit where
  | normal | exit (id : Nat) | ret

def SV.alive : SV → Bool
  | .dead => false
  | _ => true

def cellsAlive : List SV → Bool
  | [] => true
  | v :: l => v.alive && cellsAlive l

def Cv.alive : Cv → Bool
  | .one v => v.alive
  | .agg l => cellsAlive l

def cvsAlive : List Cv → Bool
  | [] => true
  | c :: l => c.alive && cvsAlive l

/-- Has a value no part that is forgotten? -/
def SS.alive : SS → Bool
  | .val c => c.alive
  | .tup l => cvsAlive l

def Ob.alive : Ob → Bool
  | .box l => cellsAlive l
  | .clo _ l => cellsAlive l
  | .ifc _ v => v.alive
  | .gone => false
  | _ => true

/-- Operations that look at their operands alone, not at what these refer to. -/
def opPure : Op → Bool
  | .move _ | .assign _ | .pick _ _ _ | .build _ _ | .nilCheck _ | .binOp _ _ _ _ _ | .unOp _ _ _ | .fieldAddr _ _ _ | .field _ _ _ | .index _ _ _ | .extract _ _ => true
  | _ => false

def Ef.kills : Ef → List Nat
  | .drop i => [i]
  | .renew i _ => [i]
  | .set _ _ => []
  | .bulk ks _ news => ks ++ idsOf news

def Ef.sets : Ef → List Nat
  | .set i _ => [i]
  | .bulk _ ins _ => idsOf ins
  | _ => []

def killsE : List Ef → List Nat
  | [] => []
  | e :: l => e.kills ++ killsE l

def setsE : List Ef → List Nat
  | [] => []
  | e :: l => e.sets ++ setsE l

/-- What an operation has looked at and done. -/
structure Fp where
  idx : Nat
  reads : List Nat
  touch : List Nat
  alive : Bool
  es : List Ef

def aliveAt (objs : List (Nat × Ob)) (j : Nat) : Bool :=
  match look objs j with
  | some o => o.alive
  | none => true

def looksSS (all : Array Oper) (o : Oper) (S : St) : List SS := (o.looksAt all).map (nth S.slots)

def ssAlive : List SS → Bool
  | [] => true
  | s :: l => s.alive && ssAlive l

def readsOf (S : St) (op : Op) : List Nat := bif opPure op then [] else opIds S op

def fpOf (all : Array Oper) (i : Nat) (o : Oper) (S : St) (v : SS) (es : List Ef) : Fp where
  idx := i
  reads := readsOf S o.op
  touch := ssRefs (looksSS all o S) ++ ((readsOf S o.op).flatMap fun j => obRefs (look S.objs j)) ++ v.refs
  alive := ssAlive (looksSS all o S) && (readsOf S o.op).all (aliveAt S.objs)
  es := es

def disj (a b : List Nat) : Bool := a.all fun i => !memN i b

def isNil {α : Type} : List α → Bool
  | [] => true
  | _ => false

/-- n acts, q only looks: they do not meet. -/
def meetNot (n q : Fp) : Bool :=
  disj q.reads (setsE n.es ++ killsE n.es) && (isNil (killsE n.es) || (q.alive && disj q.touch (killsE n.es)))

def indep (p q : Fp) : Bool :=
  match p.es, q.es with
  | [], [] => true
  | [], _ => meetNot q p
  | _, [] => meetNot p q
  | _, _ => false

/-- Of each operation the set of those that surely come before it. -/
def befores : List Oper → List Nat → List Nat
  | [], acc => acc
  | o :: l, acc => befores l (acc ++ [o.after.foldl (fun s e => bif Region.binds .any e then s ||| 2 ^ e.on ||| acc.getD e.on 0 else s) 0])

def chk (befs : List Nat) (os : Array Oper) (q p : Fp) : Bool :=
  (befs.getD q.idx 0).testBit p.idx || ((match os[q.idx]?, os[p.idx]? with | some o, some o' => o.apart os o' && o'.apart os o | _, _ => false) && indep p q)

/-- One operation, under its guard: its value and what it does. -/
def step2 (P : Program) (E : Sums R) (all : Array Oper) (o : Oper) (S : St) (κ : SS → List Ef → St → Option R) : Option R :=
  match o.guard with
  | none => act P E (rd S) (lkOf S.objs (opIds S o.op)) (o.dst.getD 0) o.op fun v es => κ v es S
  | some (j, want) => match (all[j]?).bind (·.dst) with
    | none => none
    | some t => match nth S.slots t with
      | .val (.one (.at (.bool b))) =>
        let yes (b : Bool) : Option R := (let S := { S with slots := put S.slots t (.at (.bool b)) }; bif b == want then act P E (rd S) (lkOf S.objs (opIds S o.op)) (o.dst.getD 0) o.op fun v es => κ v es S else κ (.tup []) [] S)
        bif b then yes true else yes false
      | .tup [] => κ (.tup []) [] S
      | _ => none

/-- The operations of a region that draws its order, in the text's order; each is checked against those ahead of it that it may overtake. -/
def opsD (P : Program) (E : Sums R) (os : Array Oper) (befs : List Nat) : List Nat → List Fp → St → (St → Option R) → Option R
  | [], _, S, κ => κ S
  | i :: L, H, S, κ => match os[i]? with
    | none => none
    | some o => step2 P E os o S fun v es S0 =>
      let q := fpOf os i o S0 v es
      bif H.all (chk befs os q) then opsD P E os befs L (q :: H) (setDst o v (apps es S0)) κ else none

def drawOk (P : Program) (os : Array Oper) : Bool :=
  P.follows .mixedOrders && os.toList.zipIdx.all fun (o, i) => o.after.all fun e => !Region.binds .any e || Nat.blt e.on i

/-- What stands for a piece of code, by its place in the body. -/
abbrev Pieces (R : Type) := List Nat → Option (St → (SExit → St → Option R) → Option R)

def child : Nat → Code → Code
  | 0, .seq a _ => a
  | 1, .seq _ b => b
  | 0, .cond _ t _ => t
  | 1, .cond _ _ e => e
  | 0, .block _ c => c
  | 0, .loop c => c
  | 0, .scope c => c
  | _, c => c

/-- The code at a place: the last step first. -/
def codeAt (root : Code) : List Nat → Code
  | [] => root
  | i :: p => child i (codeAt root p)

def sh [DecidableEq R] (P : Program) (E : Sums R) (L : Pieces R) : Code → List Nat → St → (SExit → St → Option R) → Option R
  | .skip, _, S, κ => κ .normal S
  | .region _ os draw, p, S, κ =>
    match draw with
    | true => match L p with
      | some g => g S κ
      | none => bif drawOk P os then opsD P E os (befores os.toList []) (List.range os.size) [] S (κ .normal) else none
    | false => match L p with
      | some g => g S κ
      | none => ops P E os os.toList S (κ .normal)
  | .seq a b, p, S, κ => sh P E L a (0 :: p) S fun e S => match e with
    | .normal => sh P E L b (1 :: p) S κ
    | e => κ e S
  | .cond c x y, p, S, κ => match L p with
    | some g => g S κ
    | none => match rd S c with
      | .val (.one (.at (.bool b))) => bif b then sh P E L x (0 :: p) S κ else sh P E L y (1 :: p) S κ
      | _ => none
  | .block id c, p, S, κ => sh P E L c (0 :: p) S fun e S => match e with
    | .exit j => bif Nat.beq j id then κ .normal S else κ (.exit j) S
    | e => κ e S
  | .loop _, p, S, κ => match L p with
    | some g => g S κ
    | none => none
  | .exit id, _, S, κ => κ (.exit id) S
  | .ret, _, S, κ => κ .ret S
  | .scope c, p, S, κ => sh P E L c (0 :: p) S κ
  | .label _, _, S, κ => κ .normal S
  | _, _, _, _ => none

end
end Go.Sh
