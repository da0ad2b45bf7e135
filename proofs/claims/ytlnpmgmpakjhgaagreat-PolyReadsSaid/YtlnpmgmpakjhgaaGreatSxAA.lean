/- A part of the proof of PolyReadsSaid: texts SxA. -/
import Derived.Laws.AppendOwn
import Derived.Laws.OwnMore
import Derived.Laws.MakeOwn
import Derived.Deep.Draws
import Derived.Below
import Derived.Tactics
import Derived.Still
import Derived.KernelRfl
import Derived.Laws.Cover3
import Derived.Laws.Small
import Derived.Laws.Slices
import Derived.Laws.StructEq
import Derived.Laws.Strings
import Derived.Laws.FloatArith
set_option linter.all false
namespace Sx
open Go

inductive T where
  | int (k : IntKind) (n : Int)
  | bool (b : Bool)
  | str (s : ByteArray)
  | flt (k : FloatKind) (b : Nat)
  | sl (sz : Nat) (n : Int) (g : Int → List T)

inductive TV where
  | one (t : T)
  | agg (ts : List T)
  | tup (xs : List TV)

inductive L where
  | t (x : T)
  | nil
  | emp
  | tt
  | ff
  | any
  | und
  | row (id : Nat) (n : Int)
  | sub (id : Nat) (off n : Int)
  | bp (id f : Nat)
  | ep (id : Nat) (i : Int) (f : Nat)
  | fp (cs : List T)
  | fn (f : FuncId) (caps : List L)

inductive AV where
  | one (l : L)
  | agg (ls : List L)
  | tup (xs : List AV)

inductive Blk where
  | dead
  | res
  | box (ty : TypeId) (cs : List L)
  | sl (ty : TypeId) (sz : Nat) (n : Int) (g : Int → List T)
  | fz (sz : Nat) (n : Int) (g : Int → List T)

abbrev Slots := List (Nat × AV)
structure St where
  s : Slots
  h : List Blk

def Qt := (α : Type) → (Unit → α) → α
def q0 : Qt := fun _ f => f ()

inductive UT where
  | int (k : IntKind) | flt (k : FloatKind) | bool | string | slice (e : TypeId) | struct (fs : List (Nat × Nat × Bool)) | map (k e : TypeId) | ptr | func | other

structure TI where
  sz : Nat
  bytes : Nat
  agg : Bool
  zero : List L
  und : UT

inductive Ex where
  | normal
  | exit (id : Nat)
  | ret

inductive Need (p : Unit → Prop) (r : Prop) : Prop
  | mk : p () → r → Need p r
inductive NilN (n : Int) (k : Bool → Prop) : Prop
  | mk : (∀ b, (n ≠ 0 → b = false) → k b) → NilN n k

def ofValue : Value → L
  | .int k n => .t (.int k n)
  | .bool true => .tt
  | .bool false => .ff
  | .string s => .t (.str s)
  | .float k b => .t (.flt k b)
  | .slice none 0 0 => .nil
  | _ => .any

def getS : Slots → Nat → AV
  | [], _ => .one .any
  | p :: r, i => if p.1 = i then p.2 else getS r i
def insD : Slots → Nat → AV → Slots
  | [], d, v => [(d, v)]
  | p :: r, d, v => if p.1 = d then (d, v) :: r else if p.1 < d then (d, v) :: p :: r else p :: insD r d v

def putI : Slots → Nat → AV → Slots
  | [], _, _ => []
  | p :: r, d, v => if p.1 = d then (d, v) :: r else if p.1 < d then p :: r else p :: insD r d v
def putS (s : Slots) (d : Option Nat) (v : AV) : Slots := match d with | some d => putI s d v | none => s
def putAll : Nat → List AV → Slots → Slots
  | _, [], s => s
  | i, v :: r, s => putAll (i + 1) r (putI s i v)

def startS (n : Nat) (xs : List AV) : Slots := bif Nat.beq n 0 then [] else putAll 0 xs [(n - 1, .one .any)]

def ev (s : Slots) : Operand → AV
  | .tmp t => getS s t
  | .const v => .one (ofValue v)
  | .func f => .one (.fn f [])
  | .global _ => .one .any

def getB (H : List Blk) (id : Nat) : Blk := H.getD id .dead

def cellsOf : AV → List L
  | .one l => [l]
  | .agg ls => ls
  | .tup _ => []
def oneOf : AV → L
  | .one l => l
  | _ => .any
def asV (agg : Bool) (ls : List L) : AV := if agg then .agg ls else .one (ls.getD 0 .any)

def toT (H : List Blk) : L → Option T
  | .t x => some x
  | .nil => some (.sl 0 0 (fun _ => []))
  | .emp => some (.sl 0 0 (fun _ => []))
  | .tt => some (.bool true)
  | .ff => some (.bool false)
  | .row id n => match getB H id with
    | .fz sz m g => some (.sl sz n g)
    | _ => none
  | _ => none
def toTs (H : List Blk) : List L → Option (List T)
  | [] => some []
  | l :: r => match toT H l with
    | some t => (match toTs H r with | some ts => some (t :: ts) | none => none)
    | none => none

def setAt (l : List T) (f : Nat) (vs : List T) : List T := l.take f ++ vs ++ l.drop (f + vs.length)
def setAtL (l : List L) (f : Nat) (vs : List L) : List L := l.take f ++ vs ++ l.drop (f + vs.length)

abbrev CNt := FuncId → List AV → List Blk → (AV → List Blk → Prop) → Prop

def bitsOf (op : BinOp) (k : IntKind) (x y : Int) : Int :=
  let a := BitVec.ofInt k.bits x
  let b := BitVec.ofInt k.bits y
  match op with
  | .and => k.wrap (a &&& b).toNat
  | .or => k.wrap (a ||| b).toNat
  | .xor => k.wrap (a ^^^ b).toNat
  | _ => k.wrap (a &&& ~~~b).toNat

def intOp (q : Qt) (op : BinOp) (k : IntKind) (a b : Int) (K : L → Prop) : Prop :=
  match op with
  | .add => K (.t (.int k (q Int fun _ => k.wrap (a + b))))
  | .sub => K (.t (.int k (q Int fun _ => k.wrap (a - b))))
  | .mul => K (.t (.int k (q Int fun _ => k.wrap (a * b))))
  | .quo => Need (fun _ => b ≠ 0) (K (.t (.int k (q Int fun _ => k.wrap (a.tdiv b)))))
  | .rem => Need (fun _ => b ≠ 0) (K (.t (.int k (q Int fun _ => a.tmod b))))
  | .eql => K (.t (.bool (q Bool fun _ => a == b)))
  | .neq => K (.t (.bool (q Bool fun _ => a != b)))
  | .lss => K (.t (.bool (q Bool fun _ => decide (a < b))))
  | .leq => K (.t (.bool (q Bool fun _ => decide (a ≤ b))))
  | .gtr => K (.t (.bool (q Bool fun _ => decide (a > b))))
  | .geq => K (.t (.bool (q Bool fun _ => decide (a ≥ b))))
  | _ => False

def fltOp (q : Qt) (op : BinOp) (k : FloatKind) (a b : Nat) (K : L → Prop) : Prop :=
  Need (fun _ => (floatBits op k a b).isSome = true) (K (.t (.flt k (q Nat fun _ => (floatBits op k a b).getD 0))))

def runOpBin (q : Qt) (u : Option UT) (op : BinOp) (x y : AV) (K : L → Prop) : Prop :=
  match x, y with
  | .one (.t (.int k a)), .one (.t (.int k' b)) =>
    (match op with
     | .shl => Need (fun _ => 0 ≤ b) (K (.t (.int k (q Int fun _ => k.wrap (a * 2 ^ (min b.toNat k.bits))))))
     | .shr => Need (fun _ => 0 ≤ b) (K (.t (.int k (q Int fun _ => a.fdiv (2 ^ (min b.toNat k.bits))))))
     | op => if k = k' then intOp q op k a b K else False)
  | .one (.t (.flt k a)), .one (.t (.flt k' b)) => if k = k' then fltOp q op k a b K else False
  | .one (.t (.bool a)), .one (.t (.bool b)) =>
    (match u, op with
     | some .bool, .eql => K (.t (.bool (q Bool fun _ => a == b)))
     | some .bool, .neq => K (.t (.bool (q Bool fun _ => !(a == b))))
     | _, _ => False)
  | .one (.t (.str a)), .one (.t (.str b)) =>
    (match op with
     | .eql => K (.t (.bool (q Bool fun _ => a.toList == b.toList)))
     | .neq => K (.t (.bool (q Bool fun _ => !(a.toList == b.toList))))
     | .add => Need (fun _ => a.size + b.size ≤ 9223372036854775807) (K (.t (.str (q ByteArray fun _ => a ++ b))))
     | _ => False)
  | .one (.t (.sl _ n _)), .one .nil =>
    (match u, op with
     | some (.slice _), .eql => NilN n (fun b => K (.t (.bool b)))
     | some (.slice _), .neq => NilN n (fun b => K (.t (.bool (q Bool fun _ => !b))))
     | _, _ => False)
  | .one .nil, .one .nil =>
    (match u, op with
     | some (.slice _), .eql => K .tt
     | some (.slice _), .neq => K .ff
     | _, _ => False)
  | _, _ => False

def optInt (s : Slots) : Option Operand → Option (Option Int)
  | none => none
  | some x => match ev s x with
    | .one (.t (.int _ n)) => some (some n)
    | _ => some none

def blkIs (H : List Blk) (id esz : Nat) : Bool := match getB H id with
  | .sl _ sz _ _ => sz == esz
  | .fz sz _ _ => sz == esz
  | _ => false
def sliceOp (q : Qt) (H : List Blk) (esz : Nat) (x : AV) (lo hi mx : Option (Option Int)) (K : L → Prop) : Prop :=
  match x with
  | .one (.t (.sl sz n g)) => if sz = esz then
    (match lo, hi, mx with
     | none, none, none => K (.t (.sl sz n g))
     | none, some (some h), none => Need (fun _ => 0 ≤ h ∧ h ≤ n) (K (.t (.sl sz h g)))
     | some (some l), none, none => Need (fun _ => 0 ≤ l ∧ l ≤ n) (K (.t (.sl sz (q Int fun _ => n - l) (fun i => g (q Int fun _ => l + i)))))
     | some (some l), some (some h), none => Need (fun _ => 0 ≤ l ∧ l ≤ h ∧ h ≤ n) (K (.t (.sl sz (q Int fun _ => h - l) (fun i => g (q Int fun _ => l + i)))))
     | none, some (some h), some (some m) => Need (fun _ => 0 ≤ h ∧ h ≤ m ∧ m ≤ n) (K (.t (.sl sz h g)))
     | _, _, _ => False) else False
  | .one (.row id n) => if blkIs H id esz = true then
    (match lo, hi, mx with
     | none, none, none => K (.row id n)
     | none, some (some h), none => Need (fun _ => 0 ≤ h ∧ h ≤ n) (K (.row id h))
     | some (some l), none, none => Need (fun _ => 0 ≤ l ∧ l ≤ n) (K (.sub id l (q Int fun _ => n - l)))
     | some (some l), some (some h), none => Need (fun _ => 0 ≤ l ∧ l ≤ h ∧ h ≤ n) (K (.sub id l (q Int fun _ => h - l)))
     | _, _, _ => False) else False
  | _ => False

def isZ : Option Operand → Bool
  | some (.const (.int _ n)) => n == 0
  | _ => false
def zeroB (lo hi mx : Option Operand) : Bool := lo.isNone && isZ hi && isZ mx
def empOp (esz : Nat) (x : AV) (K : L → Prop) : Prop :=
  match x with
  | .one (.t (.sl sz _ _)) => if sz = esz then K .emp else False
  | _ => False
def strSliceOp (q : Qt) (x : AV) (lo hi mx : Option (Option Int)) (K : L → Prop) : Prop :=
  match x with
  | .one (.t (.str s)) =>
    (match lo, hi, mx with
     | none, none, none => K (.t (.str s))
     | none, some (some h), none => Need (fun _ => 0 ≤ h ∧ h ≤ s.size) (K (.t (.str (q ByteArray fun _ => s.extract 0 h.toNat))))
     | some (some l), none, none => Need (fun _ => 0 ≤ l ∧ l ≤ s.size) (K (.t (.str (q ByteArray fun _ => s.extract l.toNat s.size))))
     | some (some l), some (some h), none => Need (fun _ => 0 ≤ l ∧ l ≤ h ∧ h ≤ s.size) (K (.t (.str (q ByteArray fun _ => s.extract l.toNat h.toNat))))
     | _, _, _ => False)
  | _ => False

def okCell : L → Bool
  | .any => false
  | .und => false
  | _ => true

def partsGo (fs : List (Nat × Nat × Bool)) (s : Slots) (cs : List L) : List (Nat × Operand) → Option (List L)
  | [] => some cs
  | (i, x) :: r => match fs[i]? with
    | some (off, sz, _) => if (cellsOf (ev s x)).length = sz ∧ (cellsOf (ev s x)).all okCell = true then partsGo fs s (setAtL cs off (cellsOf (ev s x))) r else none
    | none => none

def rowsGo (H : List Blk) (s : Slots) (sz : Nat) (rows : List (List T)) : List (Nat × Operand) → Option (List (List T))
  | [] => some rows
  | (i, x) :: r => match toTs H (cellsOf (ev s x)) with
    | some ts => if ts.length = sz then rowsGo H s sz (rows.set i ts) r else none
    | none => none

def appFn (n : Int) (g : Int → List T) (h : Int → List T) : Int → List T := fun j => if j < n then g j else h (j - n)
def updFn (g : Int → List T) (i : Int) (e : List T) : Int → List T := fun j => if j = i then e else g j

def loadK (ti : TI) (cs : List L) (K : AV → Prop) : Prop := if (cs.take ti.sz).length = ti.sz then K (asV ti.agg (cs.take ti.sz)) else False

def lenOp (q : Qt) (x : AV) (K : L → Prop) : Prop :=
  match x with
  | .one (.t (.sl _ n _)) => K (.t (.int .i64 n))
  | .one (.row _ n) => K (.t (.int .i64 n))
  | .one (.sub _ _ n) => K (.t (.int .i64 n))
  | .one .nil => K (.t (.int .i64 0))
  | .one .emp => K (.t (.int .i64 0))
  | _ => False
def lenStr (q : Qt) (x : AV) (K : L → Prop) : Prop :=
  match x with
  | .one (.t (.str b)) => K (.t (.int .i64 (q Int fun _ => (b.size : Int))))
  | _ => False

def srcOf (q : Qt) (H : List Blk) (sz0 : Nat) : AV → Option (Nat × Int × (Int → List T))
  | .one .nil => some (sz0, 0, fun _ => [])
  | .one .emp => some (sz0, 0, fun _ => [])
  | .one (.t (.sl sz m g)) => some (sz, m, g)
  | .one (.row b m) => match getB H b with
    | .sl _ sz _ g => some (sz, m, g)
    | .fz sz _ g => some (sz, m, g)
    | _ => none
  | .one (.sub b off m) => match getB H b with
    | .sl _ sz _ g => some (sz, m, fun j => g (q Int fun _ => off + j))
    | .fz sz _ g => some (sz, m, fun j => g (q Int fun _ => off + j))
    | _ => none
  | _ => none

def appendOp (q : Qt) (e : TypeId) (te : TI) (x y : AV) (H : List Blk) (id : Nat) (K : AV → List Blk → Prop) : Prop :=
  match srcOf q H te.sz y with
  | some (sz, m, h) => if sz = te.sz then (match x with
    | .one .nil => Need (fun _ => m * te.bytes ≤ 140737488355328) (K (.one (.row id m)) (H.set id (.sl e te.sz m h)))
    | .one .emp => Need (fun _ => m * te.bytes ≤ 140737488355328) (K (.one (.row id m)) (H.set id (.sl e te.sz m h)))
    | .one (.row a n) => (match getB H a with
      | .sl ty' sz' _ g => if sz' = te.sz ∧ ty' = e then
          Need (fun _ => (n + m) * te.bytes ≤ 140737488355328) (K (.one (.row id (q Int fun _ => n + m))) ((H.set a .dead).set id (.sl e te.sz (q Int fun _ => n + m) (appFn n g h)))) else False
      | _ => False)
    | _ => False) else False
  | none => False

def minI (m n : Int) : Int := if m < n then m else n
def cpyFn (off k : Int) (g h : Int → List T) : Int → List T := fun j => if off ≤ j ∧ j < off + k then h (j - off) else g j
def copyInto (q : Qt) (te : TI) (b : Nat) (off n m : Int) (h : Int → List T) (H : List Blk) (K : AV → List Blk → Prop) : Prop :=
  match getB H b with
  | .sl ty sz nb g => if sz = te.sz then K (.one (.t (.int .i64 (q Int fun _ => minI m n)))) (H.set b (.sl ty sz nb (cpyFn off (q Int fun _ => minI m n) g h))) else False
  | _ => False
def copyOp (q : Qt) (te : TI) (x y : AV) (H : List Blk) (K : AV → List Blk → Prop) : Prop :=
  match srcOf q H te.sz y with
  | some (sz, m, h) => if sz = te.sz then (match x with
    | .one (.row b n) => copyInto q te b 0 n m h H K
    | .one (.sub b off n) => copyInto q te b off n m h H K
    | _ => False) else False
  | none => False

def opRun (CN : CNt) (q : Qt) (τ : TypeId → Option TI) (o : Op) (s : Slots) (H : List Blk) (id : Nat) (K : AV → List Blk → Prop) : Prop :=
  match o with
  | .move x => K (ev s x) H
  | .assign x => K (ev s x) H
  | .pick c a b => match ev s c with
    | .one .tt => K (ev s a) H
    | .one .ff => K (ev s b) H
    | .one (.t (.bool c)) => cond c (K (ev s a) H) (K (ev s b) H)
    | _ => False
  | .alloc e => match τ e with
    | some te => K (.one (.bp id 0)) (H.set id (.box e te.zero))
    | none => False
  | .box e x => if 0 < (cellsOf (ev s x)).length ∧ (cellsOf (ev s x)).all okCell = true then K (.one (.bp id 0)) (H.set id (.box e (cellsOf (ev s x)))) else False
  | .build t ps => match τ t with
    | some ti => (match ti.und with
      | .struct fs => (match partsGo fs s ti.zero ps.toList with
        | some cs => K (.agg cs) H
        | none => False)
      | _ => False)
    | none => False
  | .buildSlice t len ps => match τ t with
    | some ti => (match ti.und with
      | .slice e => (match τ e with
        | some te => (match toTs [] te.zero with
          | some z => (match rowsGo H s te.sz (List.replicate len z) ps.toList with
            | some rows => if len * te.sz ≤ 16777216 ∧ (ps.toList.all fun x => decide (x.1 < len)) = true then K (.one (.row id len)) (H.set id (.sl e te.sz len (fun i => rows.getD i.toNat []))) else False
            | none => False)
          | none => False)
        | none => False)
      | _ => False)
    | none => False
  | .load t x => match τ t with
    | some ti => (match ev s x with
      | .one (.bp b f) => (match getB H b with
        | .box _ cs => loadK ti (cs.drop f) (fun v => K v H)
        | _ => False)
      | .one (.ep b i f) => (match getB H b with
        | .sl _ _ _ g => loadK ti (((g i).drop f).map L.t) (fun v => K v H)
        | .fz _ _ g => loadK ti (((g i).drop f).map L.t) (fun v => K v H)
        | _ => False)
      | .one (.fp cs) => loadK ti (cs.map L.t) (fun v => K v H)
      | _ => False)
    | none => False
  | .store t a x => match τ t with
    | some ti => (match ev s a with
      | .one (.bp b f) => (match getB H b with
        | .box ty cs => if (cellsOf (ev s x)).length = ti.sz ∧ f + ti.sz ≤ cs.length ∧ (cellsOf (ev s x)).all okCell = true then K (.one .und) (H.set b (.box ty (setAtL cs f (cellsOf (ev s x))))) else False
        | _ => False)
      | .one (.ep b i f) => (match getB H b with
        | .sl ty sz n g => (match toTs H (cellsOf (ev s x)) with
          | some ts => if ts.length = ti.sz ∧ f + ti.sz ≤ sz then K (.one .und) (H.set b (.sl ty sz n (updFn g i (if (Nat.beq f 0 && Nat.beq ts.length sz) = true then ts else setAt (g i) f ts)))) else False
          | none => False)
        | _ => False)
      | _ => False)
    | none => False
  | .nilCheck x => (match ev s x with
    | .one (.bp b f) => K (.one (.bp b f)) H
    | .one (.ep b i f) => K (.one (.ep b i f)) H
    | .one (.fp cs) => K (.one (.fp cs)) H
    | .one (.fn f caps) => K (.one (.fn f caps)) H
    | _ => False)
  | .binOp op xT x y _ => runOpBin q ((τ xT).map (·.und)) op (ev s x) (ev s y) (fun l => K (.one l) H)
  | .unOp .neg _ x => (match ev s x with
    | .one (.t (.int k n)) => K (.one (.t (.int k (q Int fun _ => k.wrap (0 - n))))) H
    | _ => False)
  | .unOp .not _ x => (match ev s x with
    | .one .tt => K (.one .ff) H
    | .one .ff => K (.one .tt) H
    | .one (.t (.bool b)) => K (.one (.t (.bool (q Bool fun _ => !b)))) H
    | _ => False)
  | .convert sT d x => (match τ sT, τ d with
    | some ts, some td => (match ts.und, td.und, ev s x with
      | .int _, .int k', .one (.t (.int _ n)) => K (.one (.t (.int k' (q Int fun _ => k'.wrap n)))) H
      | .int _, .flt k', .one (.t (.int _ n)) => K (.one (.t (.flt k' (q Nat fun _ => floatOfInt k' n)))) H
      | .flt _, .int k', .one (.t (.flt k b)) => Need (fun _ => (floatToIntVal k b k').isSome = true) (K (.one (.t (.int k' (q Int fun _ => (floatToIntVal k b k').getD 0)))) H)
      | .string, .string, .one (.t (.str b)) => K (.one (.t (.str b))) H
      | _, _, _ => False)
    | _, _ => False)
  | .makeFunc (.func f) first caps => if first.size = 0 then K (.one (.fn f (caps.toList.map fun x => oneOf (ev s x)))) H else False
  | .makeMap _ none => K (.one .any) H
  | .makeSlice t n c => (match τ t with
    | some ti => (match ti.und, ev s n, ev s c with
      | .slice e, .one (.t (.int _ n)), .one (.t (.int _ c)) => (match τ e with
        | some te => (match toTs [] te.zero with
          | some z => Need (fun _ => 0 ≤ n ∧ n ≤ c ∧ c * te.bytes ≤ 140737488355328) (K (.one (.row id n)) (H.set id (.sl e te.sz n (fun _ => z))))
          | none => False)
        | none => False)
      | _, _, _ => False)
    | none => False)
  | .slice t x lo hi mx => (match τ t with
    | some ti => (match ti.und with
      | .slice e => (match τ e with
        | some te => cond (zeroB lo hi mx) (empOp te.sz (ev s x) (fun l => K (.one l) H)) (sliceOp q H te.sz (ev s x) (optInt s lo) (optInt s hi) (optInt s mx) (fun l => K (.one l) H))
        | none => False)
      | .string => strSliceOp q (ev s x) (optInt s lo) (optInt s hi) (optInt s mx) (fun l => K (.one l) H)
      | _ => False)
    | none => False)
  | .fieldAddr t x f => (match τ t with
    | some ti => (match ti.und with
      | .struct fs => (match fs[f]? with
        | some (off, _, _) => (match ev s x with
          | .one (.bp b o) => K (.one (.bp b (o + off))) H
          | .one (.ep b i o) => K (.one (.ep b i (o + off))) H
          | .one (.fp cs) => K (.one (.fp (cs.drop off))) H
          | _ => False)
        | none => False)
      | _ => False)
    | none => False)
  | .field t x f => (match τ t with
    | some ti => (match ti.und, ev s x with
      | .struct fs, .agg ls => (match fs[f]? with
        | some (off, sz, ag) => if ((ls.drop off).take sz).length = sz then K (asV ag ((ls.drop off).take sz)) H else False
        | none => False)
      | _, _ => False)
    | none => False)
  | .indexAddr t x i => (match τ t with
    | some ti => (match ti.und with
      | .slice e => (match τ e with
        | some te => (match ev s x, ev s i with
          | .one (.t (.sl sz n g)), .one (.t (.int _ i)) => if sz = te.sz then Need (fun _ => 0 ≤ i ∧ i < n) (K (.one (.fp (g i))) H) else False
          | .one (.row b n), .one (.t (.int _ i)) => (match getB H b with
            | .sl _ sz _ _ => if sz = te.sz then Need (fun _ => 0 ≤ i ∧ i < n) (K (.one (.ep b i 0)) H) else False
            | .fz sz _ _ => if sz = te.sz then Need (fun _ => 0 ≤ i ∧ i < n) (K (.one (.ep b i 0)) H) else False
            | _ => False)
          | .one (.sub b off n), .one (.t (.int _ i)) => (match getB H b with
            | .sl _ sz _ _ => if sz = te.sz then Need (fun _ => 0 ≤ i ∧ i < n) (K (.one (.ep b (q Int fun _ => off + i) 0)) H) else False
            | _ => False)
          | _, _ => False)
        | none => False)
      | _ => False)
    | none => False)
  | .index t x i => (match τ t with
    | some ti => (match ti.und, ev s x, ev s i with
      | .string, .one (.t (.str b)), .one (.t (.int _ i)) => Need (fun _ => 0 ≤ i ∧ i < b.size) (K (.one (.t (.int .u8 (q Int fun _ => ((b.data.toList.getD i.toNat 0).toNat : Int))))) H)
      | _, _, _ => False)
    | none => False)
  | .extract x i => (match ev s x with
    | .tup vs => (match vs[i]? with | some v => K v H | none => False)
    | _ => False)
  | .call c => (match c.callee with
    | .builtin .len => (match c.args.toList, c.argTypes.toList with
      | [x], [t] => (match τ t with
        | some ti => (match ti.und with
          | .slice _ => lenOp q (ev s x) (fun l => K (.one l) H)
          | .string => lenStr q (ev s x) (fun l => K (.one l) H)
          | _ => False)
        | none => False)
      | _, _ => False)
    | .builtin .min => (match c.args.toList with
      | [x, y] => (match ev s x, ev s y with
        | .one (.t (.int k a)), .one (.t (.int k' b)) => if k = k' then K (.one (.t (.int k (q Int fun _ => if b < a then b else a)))) H else False
        | _, _ => False)
      | _ => False)
    | .builtin .max => (match c.args.toList with
      | [x, y] => (match ev s x, ev s y with
        | .one (.t (.int k a)), .one (.t (.int k' b)) => if k = k' then K (.one (.t (.int k (q Int fun _ => if b > a then b else a)))) H else False
        | _, _ => False)
      | _ => False)
    | .builtin .append => (match c.args.toList, c.argTypes.toList with
      | [x, y], [st, st'] => if st = st' then (match τ st with
        | some ti => (match ti.und with
          | .slice e => (match τ e with
            | some te => appendOp q e te (ev s x) (ev s y) H id K
            | none => False)
          | _ => False)
        | none => False) else False
      | _, _ => False)
    | .builtin .copy => (match c.args.toList, c.argTypes.toList with
      | [x, y], [st, _] => (match τ st with
        | some ti => (match ti.und with
          | .slice e => (match τ e with
            | some te => copyOp q te (ev s x) (ev s y) H K
            | none => False)
          | _ => False)
        | none => False)
      | _, _ => False)
    | .value f => (match ev s f with
      | .one (.fn g caps) => CN g (c.args.toList.map (ev s) ++ caps.map AV.one) H K
      | _ => False)
    | _ => False)
  | _ => False

def lays : Op → Bool
  | .alloc _ | .box .. | .buildSlice .. | .makeSlice .. => true
  | .call c => match c.callee with | .builtin .append => true | _ => false
  | _ => false

def guardSlot (ops : List Oper) (j : Nat) : Option Nat := match ops[j]? with | some o => o.dst | none => none

def look : List (Nat × Bool) → Nat → Option Bool
  | [], _ => none
  | p :: r, d => if p.1 = d then some p.2 else look r d
def delK : List (Nat × Bool) → Option Nat → List (Nat × Bool)
  | [], _ => []
  | p :: r, d => if d = some p.1 then delK r d else p :: delK r d
def pickK (kn : List (Nat × Bool)) : Op → Option Operand
  | .pick (.tmp d) a b => (match look kn d with | some true => some a | some false => some b | none => none)
  | _ => none
def runG (CN : CNt) (q : Qt) (τ : TypeId → Option TI) (kn : List (Nat × Bool)) (o : Op) (s : Slots) (H : List Blk) (id : Nat) (K : AV → List Blk → Prop) : Prop :=
  match pickK kn o with
  | some x => K (ev s x) H
  | none => opRun CN q τ o s H id K
def gdB : AV → Option Bool
  | .one .tt => some true
  | .one .ff => some false
  | .one (.t (.bool c)) => some c
  | _ => none
def opsRun (CN : CNt) (q : Qt) (τ : TypeId → Option TI) (ops : List Oper) : List (Nat × Bool) → List Oper → Nat → St → (St → Prop) → Prop
  | _, [], _, σ, K => K σ
  | kn, o :: r, id, σ, K =>
    let id' := if lays o.op then id + 1 else id
    match o.guard with
    | none => runG CN q τ kn o.op σ.s σ.h id (fun v h => opsRun CN q τ ops (delK kn o.dst) r id' ⟨putS σ.s o.dst v, h⟩ K)
    | some (j, want) => match guardSlot ops j with
      | some d => (match look kn d with
        | some c => if c = want then runG CN q τ kn o.op σ.s σ.h id (fun v h => opsRun CN q τ ops (delK kn o.dst) r id' ⟨putS σ.s o.dst v, h⟩ K)
                    else opsRun CN q τ ops (delK kn o.dst) r id' ⟨putS σ.s o.dst (.one .und), σ.h⟩ K
        | none => (match getS σ.s d with
          | .one .tt => if true = want then runG CN q τ kn o.op σ.s σ.h id (fun v h => opsRun CN q τ ops (delK kn o.dst) r id' ⟨putS σ.s o.dst v, h⟩ K)
                    else opsRun CN q τ ops (delK kn o.dst) r id' ⟨putS σ.s o.dst (.one .und), σ.h⟩ K
          | .one .ff => if false = want then runG CN q τ kn o.op σ.s σ.h id (fun v h => opsRun CN q τ ops (delK kn o.dst) r id' ⟨putS σ.s o.dst v, h⟩ K)
                    else opsRun CN q τ ops (delK kn o.dst) r id' ⟨putS σ.s o.dst (.one .und), σ.h⟩ K
          | .one (.t (.bool c)) =>
            cond c
              (if true = want then runG CN q τ ((d, true) :: kn) o.op σ.s σ.h id (fun v h => opsRun CN q τ ops (delK ((d, true) :: kn) o.dst) r id' ⟨putS σ.s o.dst v, h⟩ K)
               else opsRun CN q τ ops (delK ((d, true) :: kn) o.dst) r id' ⟨putS σ.s o.dst (.one .und), σ.h⟩ K)
              (if false = want then runG CN q τ ((d, false) :: kn) o.op σ.s σ.h id (fun v h => opsRun CN q τ ops (delK ((d, false) :: kn) o.dst) r id' ⟨putS σ.s o.dst v, h⟩ K)
               else opsRun CN q τ ops (delK ((d, false) :: kn) o.dst) r id' ⟨putS σ.s o.dst (.one .und), σ.h⟩ K)
          | .one .und => opsRun CN q τ ops (delK kn o.dst) r id' ⟨putS σ.s o.dst (.one .und), σ.h⟩ K
          | _ => False))
      | none => False

def stepRun (CN : CNt) (τ : TypeId → Option TI) (ops : List Oper) (o : Oper) (id : Nat) (σ : St) (K : St → Prop) : Prop :=
  match o.guard with
  | none => opRun CN q0 τ o.op σ.s σ.h id (fun v h => K ⟨putS σ.s o.dst v, h⟩)
  | some (j, want) => match guardSlot ops j with
    | some d => (match gdB (getS σ.s d) with
      | some c => if c = want then opRun CN q0 τ o.op σ.s σ.h id (fun v h => K ⟨putS σ.s o.dst v, h⟩) else K ⟨putS σ.s o.dst (.one .und), σ.h⟩
      | none => (match getS σ.s d with
        | .one .und => K ⟨putS σ.s o.dst (.one .und), σ.h⟩
        | _ => False))
    | none => False

def nLays (ops : List Oper) : Nat := (ops.filter fun o => lays o.op).length
def regRun (CN : CNt) (q : Qt) (τ : TypeId → Option TI) (ops : List Oper) (σ : St) (K : St → Prop) : Prop :=
  opsRun CN q τ ops [] ops σ.h.length ⟨σ.s, σ.h ++ List.replicate (nLays ops) .res⟩ K

def mkI : List (Nat × AV) → Slots → Slots
  | [], s => s
  | p :: r, s => mkI r (putI s p.1 p.2)

def mkS (l : List (Nat × AV)) (_ n : Nat) : Slots := bif Nat.beq n 0 then [] else mkI l [(n - 1, .one .any)]

mutual
def refsL : L → List Nat
  | .row id _ => [id]
  | .sub id _ _ => [id]
  | .bp id _ => [id]
  | .ep id _ _ => [id]
  | .fn _ caps => refsLs caps
  | _ => []
def refsLs : List L → List Nat
  | [] => []
  | l :: r => refsL l ++ refsLs r
end
mutual
def refsA : AV → List Nat
  | .one l => refsL l
  | .agg ls => refsLs ls
  | .tup xs => refsAs xs
def refsAs : List AV → List Nat
  | [] => []
  | x :: r => refsA x ++ refsAs r
end
def refsB : Blk → List Nat
  | .box _ cs => refsLs cs
  | _ => []
def addNew (l : List Nat) : List Nat → List Nat
  | [] => l
  | x :: r => addNew (if l.contains x then l else l ++ [x]) r
def reach (H : List Blk) : Nat → List Nat → List Nat → List Nat
  | 0, done, _ => done
  | _, done, [] => done
  | n + 1, done, x :: todo => if done.contains x then reach H n done todo else reach H n (done ++ [x]) (todo ++ refsB (getB H x))
def idxOf (l : List Nat) (x : Nat) : Option Nat := l.findIdx? (· == x)
mutual
def renL (ids : List Nat) : L → L
  | .row id n => match idxOf ids id with | some j => .row j n | none => .any
  | .sub id o n => match idxOf ids id with | some j => .sub j o n | none => .any
  | .bp id f => match idxOf ids id with | some j => .bp j f | none => .any
  | .ep id i f => match idxOf ids id with | some j => .ep j i f | none => .any
  | .fn f caps => .fn f (renLs ids caps)
  | .t x => .t x
  | .nil => .nil
  | .emp => .emp
  | .tt => .tt
  | .ff => .ff
  | .any => .any
  | .und => .und
  | .fp cs => .fp cs
def renLs (ids : List Nat) : List L → List L
  | [] => []
  | l :: r => renL ids l :: renLs ids r
end
mutual
def renA (ids : List Nat) : AV → AV
  | .one l => .one (renL ids l)
  | .agg ls => .agg (renLs ids ls)
  | .tup xs => .tup (renAs ids xs)
def renAs (ids : List Nat) : List AV → List AV
  | [] => []
  | x :: r => renA ids x :: renAs ids r
end
def renB (ids : List Nat) : Blk → Blk
  | .res => .res
  | .box t cs => .box t (renLs ids cs)
  | .dead => .dead
  | .sl t sz n g => .sl t sz n g
  | .fz sz n g => .fz sz n g
def isAny : AV → Bool
  | .one .any => true
  | _ => false
def keepR (live : List Nat) : Slots → Slots
  | [] => []
  | p :: r => bif live.contains p.1 && !isAny p.2 then p :: keepR live r else keepR live r
def keepS (live : List Nat) : Slots → Slots
  | [] => []
  | p :: r => (bif live.contains p.1 then p else (p.1, .one .any)) :: keepR live r
def refsS : Slots → List Nat
  | [] => []
  | p :: r => refsA p.2 ++ refsS r
def renS (ids : List Nat) : Slots → Slots
  | [] => []
  | p :: r => (p.1, renA ids p.2) :: renS ids r
def gcIds (pin : Nat) (live : List Nat) (σ : St) : List Nat := reach σ.h 64 (List.range pin) (refsS (keepS live σ.s) ++ (List.range pin).flatMap fun j => refsB (getB σ.h j))
def nodupB : List Nat → Bool
  | [] => true
  | x :: r => !r.contains x && nodupB r
def gcWith (ids : List Nat) (live : List Nat) (σ : St) : St :=
  if nodupB ids = true then ⟨renS ids (keepS live σ.s), ids.map fun i => renB ids (getB σ.h i)⟩ else ⟨[], σ.h⟩
def gc (pin : Nat) (live : List Nat) (σ : St) : St := gcWith (gcIds pin live σ) live σ

abbrev frz : Nat := 4294967295

def rowS1 (d : Nat) (e : TypeId) (sz : Nat) (σ : St) : St := match getS σ.s d with
  | .one .nil => if e = frz then ⟨putI σ.s d (.one (.t (.sl sz 0 (fun _ => [])))), σ.h⟩ else ⟨putI σ.s d (.one (.row σ.h.length 0)), σ.h ++ [.sl e sz 0 (fun _ => [])]⟩
  | .one .emp => if e = frz then ⟨putI σ.s d (.one (.t (.sl sz 0 (fun _ => [])))), σ.h⟩ else ⟨putI σ.s d (.one (.row σ.h.length 0)), σ.h ++ [.sl e sz 0 (fun _ => [])]⟩
  | _ => σ
def rowS : List (Nat × TypeId × Nat) → St → St
  | [], σ => σ
  | r :: rs, σ => rowS rs (rowS1 r.1 r.2.1 r.2.2 σ)
def apK (K : St → Prop) (σ : St) : Prop := K σ
def apQ (Q : Ex → St → Prop) (e : Ex) (σ : St) : Prop := Q e σ
def loopK (pin : Nat) (live : List Nat) (K : St → Prop) (Q : Ex → St → Prop) : Ex → St → Prop
  | .normal, σ => apK K (gc pin live σ)
  | .exit i, σ => apQ Q (.exit i) (gc pin live σ)
  | .ret, σ => Q .ret σ
def loopR (pin : Nat) (live : List Nat) (rows : List (Nat × TypeId × Nat)) (K : St → Prop) (Q : Ex → St → Prop) : Ex → St → Prop
  | .normal, σ => apK K (gc pin live (rowS rows σ))
  | .exit i, σ => apQ Q (.exit i) (gc pin live σ)
  | .ret, σ => Q .ret σ

def pkT (q : Qt) (H : List Blk) : L → Option T
  | .t x => some x
  | .nil => some (.sl 0 0 (fun _ => []))
  | .emp => some (.sl 0 0 (fun _ => []))
  | .tt => some (.bool true)
  | .ff => some (.bool false)
  | .row id n => match getB H id with
    | .fz sz _ g => some (.sl sz n g)
    | .sl _ sz _ g => some (.sl sz n g)
    | _ => none
  | .sub id off n => match getB H id with
    | .fz sz _ g => some (.sl sz n (fun i => g (q Int fun _ => off + i)))
    | .sl _ sz _ g => some (.sl sz n (fun i => g (q Int fun _ => off + i)))
    | _ => none
  | _ => none
def pkTs (q : Qt) (H : List Blk) : List L → Option (List T)
  | [] => some []
  | l :: r => match pkT q H l with
    | some t => (match pkTs q H r with | some ts => some (t :: ts) | none => none)
    | none => none
def pk1 (q : Qt) (H : List Blk) : AV → Option TV
  | .one l => (match pkT q H l with | some t => some (.one t) | none => none)
  | .agg ls => (match pkTs q H ls with | some ts => some (.agg ts) | none => none)
  | .tup _ => none
def pks (q : Qt) (H : List Blk) : List AV → Option (List TV)
  | [] => some []
  | x :: r => match pk1 q H x with
    | some t => (match pks q H r with | some ts => some (t :: ts) | none => none)
    | none => none

def to1 (H : List Blk) : AV → Option TV
  | .one l => (match toT H l with | some t => some (.one t) | none => none)
  | .agg ls => (match toTs H ls with | some ts => some (.agg ts) | none => none)
  | .tup _ => none
def tos (H : List Blk) : List AV → Option (List TV)
  | [] => some []
  | x :: r => match to1 H x with
    | some t => (match tos H r with | some ts => some (t :: ts) | none => none)
    | none => none
mutual
def ofTV : TV → AV
  | .one t => .one (.t t)
  | .agg ts => .agg (ts.map L.t)
  | .tup xs => .tup (ofTVs xs)
def ofTVs : List TV → List AV
  | [] => []
  | x :: r => ofTV x :: ofTVs r
end
def resAV (τ : TypeId → Option TI) (σ : St) : ResultVar → Option AV
  | .tmp t => some (getS σ.s t)
  | .cell p t => match getS σ.s p with
    | .one (.bp b f) => (match τ t with
      | some ti => (match getB σ.h b with
        | .box _ cs => if ((cs.drop f).take ti.sz).length = ti.sz then some (asV ti.agg ((cs.drop f).take ti.sz)) else none
        | _ => none)
      | none => none)
    | _ => none
def resAVs (τ : TypeId → Option TI) (σ : St) : List ResultVar → Option (List AV)
  | [] => some []
  | x :: r => match resAV τ σ x with
    | some t => (match resAVs τ σ r with | some ts => some (t :: ts) | none => none)
    | none => none
def apR (R : TV → Prop) (r : TV) : Prop := R r

def finR (q : Qt) (τ : TypeId → Option TI) (rs : List ResultVar) (R : TV → Prop) (σ : St) : Prop :=
  match resAVs τ σ rs with
  | some xs => (match pks q σ.h xs with
    | some [x] => apR R x
    | some ts => apR R (.tup ts)
    | none => False)
  | none => False
def finK (q : Qt) (τ : TypeId → Option TI) (rs : List ResultVar) (R : TV → Prop) : Ex → St → Prop
  | .normal, σ => finR q τ rs R σ
  | .ret, σ => finR q τ rs R σ
  | .exit _, _ => False

def seqK (k : St → (Ex → St → Prop) → Prop) (Q : Ex → St → Prop) : Ex → St → Prop
  | .normal, σ => k σ Q
  | .exit i, σ => Q (.exit i) σ
  | .ret, σ => Q .ret σ
def blockK (id : Nat) (Q : Ex → St → Prop) : Ex → St → Prop
  | .normal, σ => Q .normal σ
  | .exit i, σ => if i = id then Q .normal σ else Q (.exit i) σ
  | .ret, σ => Q .ret σ

end Sx
