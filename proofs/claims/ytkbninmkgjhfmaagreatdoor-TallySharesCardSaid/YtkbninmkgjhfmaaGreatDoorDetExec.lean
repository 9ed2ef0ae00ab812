/- The deterministic evaluator: what it does at each operation, at code, at calls. Conditions: none; definitions alone. -/
import Derived.Test.YtkbninmkgjhfmaaGreatDoorDetCore
import GoSem.Extern.Table
set_option maxHeartbeats 400000
namespace Go.Det
open Go

/-! ### Types -/
def szT (P : Program) (t : TypeId) : Option Nat := match P.info? t with | some i => some i.size | none => none
def byT (P : Program) (t : TypeId) : Option Nat := match P.info? t with | some i => some i.bytes | none => none
def zeroT (P : Program) (t : TypeId) : Option AV := match P.info? t with | some i => (match i.zero with | some v => AV.ofValue v | none => none) | none => none
def isAggT (P : Program) (t : TypeId) : Option Bool := match P.underlying t with | some (.struct _) => some true | some (.array _ _) => some true | some _ => some false | none => none

def AV.cells : AV → List AV
  | .agg cs => cs
  | v => [v]

def aeval (T : Tm) (g : Nat) : Operand → Option AV
  | .tmp t => cond (Nat.blt t 512) (some (T.get t)) none
  | .const v => AV.ofValue v
  | .global k => cond (Nat.blt k g) (some (.ptr (some (k, 0)))) none
  | .func f => some (.func (.func f) [] [])

def aevalL (T : Tm) (g : Nat) : List Operand → Option (List AV)
  | [] => some []
  | x :: r => (aeval T g x).bind fun v => (aevalL T g r).map fun l => v :: l

/-! ### Memory -/
def takeN {α : Type} : Nat → List α → Option (List α)
  | 0, _ => some []
  | _ + 1, [] => none
  | n + 1, v :: r => (takeN n r).map fun l => v :: l

/-- A value of one cell. -/
def AV.one : AV → Bool
  | .agg _ => false
  | .tuple _ => false
  | _ => true

def setN : Nat → List AV → List AV → Option (List AV)
  | _, [], cs => some cs
  | o, v :: vs, cs => cond (v.one && Nat.blt o cs.length) (setN (o + 1) vs (cs.set o v)) none

def loadN (σ : AS) (i o n : Nat) : Option (List AV) :=
  match σ.get i with
  | some (.cells cs _ _ _) => takeN n (cs.drop o)
  | _ => none

def storeN (σ : AS) (i o : Nat) (vs : List AV) : Option AS :=
  match σ.get i with
  | some (.cells cs e true q) => (setN o vs cs).map fun cs' => σ.put i (some (.cells cs' e true q))
  | _ => none

def loadT (P : Program) (t : TypeId) (i o : Nat) (σ : AS) : Option AV :=
  match isAggT P t with
  | some true => (szT P t).bind fun n => (loadN σ i o n).map .agg
  | some false => (match σ.get i with | some (.cells cs _ _ _) => cs[o]? | _ => none)
  | none => none

def storeT (P : Program) (t : TypeId) (i o : Nat) (v : AV) (σ : AS) : Option AS :=
  (szT P t).bind fun n => cond (Nat.beq v.cells.length n) (storeN σ i o v.cells) none

def newT (σ : AS) (t : TypeId) (cs : List AV) : Option (AV × AS) := (σ.add (.cells cs t true none)).map fun p => (.ptr (some (p.1, 0)), p.2)

def partT (P : Program) (t : TypeId) (cs : List AV) (off : Nat) : Option AV :=
  match isAggT P t with
  | some true => (szT P t).bind fun n => (takeN n (cs.drop off)).map .agg
  | some false => cs[off]?
  | none => none

def fillA (place : Nat → Option (Nat × Nat)) (cs : List AV) : List (Nat × AV) → Option (List AV)
  | [] => some cs
  | (i, v) :: rest => (place i).bind fun p => cond (Nat.beq v.cells.length p.2 && Nat.ble (p.1 + p.2) cs.length) ((setN p.1 v.cells cs).bind fun cs' => fillA place cs' rest) none

def repN : Nat → List AV → List AV
  | 0, _ => []
  | n + 1, z => z ++ repN n z

/-! ### Numbers and texts -/
def binInt (op : BinOp) (k : IntKind) (a b : Int) : Option AV :=
  match op with
  | .add => some (.int k (k.wrap (a + b)))
  | .sub => some (.int k (k.wrap (a - b)))
  | .mul => some (.int k (k.wrap (a * b)))
  | .quo => if b = 0 then none else some (.int k (k.wrap (a.tdiv b)))
  | .rem => if b = 0 then none else some (.int k (a.tmod b))
  | .and => some (.int k (k.wrap (BitVec.ofInt k.bits a &&& BitVec.ofInt k.bits b).toNat))
  | .or => some (.int k (k.wrap (BitVec.ofInt k.bits a ||| BitVec.ofInt k.bits b).toNat))
  | .xor => some (.int k (k.wrap (BitVec.ofInt k.bits a ^^^ BitVec.ofInt k.bits b).toNat))
  | .andNot => some (.int k (k.wrap (BitVec.ofInt k.bits a &&& ~~~ BitVec.ofInt k.bits b).toNat))
  | .eql => some (.bool (a == b))
  | .neq => some (.bool (a != b))
  | .lss => some (.bool (decide (a < b)))
  | .leq => some (.bool (decide (a ≤ b)))
  | .gtr => some (.bool (decide (a > b)))
  | .geq => some (.bool (decide (a ≥ b)))
  | _ => none

def shInt (op : BinOp) (k : IntKind) (a b : Int) : Option AV :=
  if b < 0 then none else
  match op with
  | .shl => some (.int k (k.wrap (a * 2 ^ (min b.toNat k.bits))))
  | .shr => some (.int k (a.fdiv (2 ^ (min b.toNat k.bits))))
  | _ => none

def binStr (op : BinOp) (x y : List UInt8) : Option AV :=
  match op with
  | .add => if ((x.length + y.length : Nat) : Int) > 9223372036854775807 then none else some (.str (x ++ y))
  | .eql => some (.bool (x == y))
  | .neq => some (.bool !(x == y))
  | .lss => some (.bool (Op.bytesLess x y))
  | .leq => some (.bool (Op.bytesLess x y || x == y))
  | .gtr => some (.bool !(Op.bytesLess x y || x == y))
  | .geq => some (.bool !(Op.bytesLess x y))
  | _ => none

/-- The fields of two structs, one by one. -/
def eqFs (P : Program) (eq : TypeId → AV → AV → Option Bool) (xs ys : List AV) : List Field → Option Bool
  | [] => some true
  | f :: r => if f.name ≠ "_" then (partT P f.type xs f.offset).bind fun x => (partT P f.type ys f.offset).bind fun y =>
      (match eq f.type x y with
       | some true => eqFs P eq xs ys r
       | some false => some false
       | none => none)
    else eqFs P eq xs ys r

/-- Two values alike, where nothing but themselves decides it. -/
def eqAV (P : Program) : Nat → TypeId → AV → AV → Option Bool
  | 0, _, _, _ => none
  | d + 1, t, x, y =>
    match P.underlying t, x, y with
    | some .bool, .bool a, .bool b => some (a == b)
    | some (.int _), .int k a, .int k' b => if k = k' then some (a == b) else none
    | some .string, .str a, .str b => some (a == b)
    | some (.pointer _), .ptr none, .ptr b => some b.isNone
    | some (.pointer _), .ptr (some _), .ptr none => some false
    | some (.pointer e), .ptr (some (i, o)), .ptr (some (j, p)) => (szT P e).bind fun n => cond (Nat.beq n 0) none (cond (Nat.beq i j) (some (Nat.beq o p)) none)
    | some (.interface _), .nilIface, .nilIface => some true
    | some (.interface _), .nilIface, .iface _ _ => some false
    | some (.interface _), .iface _ _, .nilIface => some false
    | some (.interface _), .iface tx vx, .iface ty vy => if tx = ty then (match P.info? tx with | some i => cond i.comparable (eqAV P d tx vx vy) none | none => none) else some false
    | some (.slice _), .eslice _ _ _ _ _, .slice none _ _ _ => some false
    | some (.slice _), .slice none _ _ _, .eslice _ _ _ _ _ => some false
    | some (.slice _), .slice none _ _ _, .slice b _ _ _ => some b.isNone
    | some (.slice _), .slice (some _) _ _ _, .slice none _ _ _ => some false
    | some (.map _ _), .map none, .map b => some b.isNone
    | some (.map _ _), .map (some _), .map none => some false
    | some (.func _ _ _), .nilFunc, .nilFunc => some true
    | some (.func _ _ _), .nilFunc, .func _ _ _ => some false
    | some (.func _ _ _), .func _ _ _, .nilFunc => some false
    | some (.struct fs), .agg xs, .agg ys => cond (P.stoodInHeld t) none (eqFs P (eqAV P d) xs ys fs.toList)
    | _, _, _ => none

def Operand.isConst' : Operand → Bool
  | .const _ => true
  | _ => false

def AV.eqable : AV → Bool
  | .int _ _ => false
  | .str _ => false
  | .agg _ => false
  | .tuple _ => false
  | .ann _ _ => false
  | _ => true

def binA (P : Program) (op : BinOp) (t : TypeId) (cx cy : Bool) (x y : AV) : Option AV :=
  match x, y with
  | .int k a, .int k' b =>
    (match op with
     | .shl => shInt .shl k a b
     | .shr => shInt .shr k a b
     | _ => if k = k' then binInt op k a b else none)
  | .str a, .str b => binStr op a b
  | .nilIface, .nilIface =>
    (match op with
     | .eql => cond (cx || cy) ((eqAV P 3 t x y).map .bool) none
     | .neq => cond (cx || cy) ((eqAV P 3 t x y).map fun b => .bool !b) none
     | _ => none)
  | .agg _, .agg _ => cond (P.eqGuardType P.depth t) none
    (match op with
     | .eql => (eqAV P 4 t x y).map .bool
     | .neq => (eqAV P 4 t x y).map fun b => .bool !b
     | _ => none)
  | _, _ =>
    cond x.eqable (match op with
     | .eql => (eqAV P 3 t x y).map .bool
     | .neq => (eqAV P 3 t x y).map fun b => .bool !b
     | _ => none) none

/-! ### Slices -/
def boundA (x : AV) (y : Nat) : Option Nat :=
  match x with
  | .int _ n => if 0 ≤ n then cond (Nat.ble n.toNat y) (some n.toNat) none else none
  | _ => none

def boundsA (len cap : Nat) (lo hi mx : Option AV) : Option (Nat × Nat × Nat) :=
  (match mx with | some v => boundA v cap | none => some cap).bind fun m =>
  (match hi, mx with | some v, some _ => boundA v m | some v, none => boundA v m | none, none => some len | none, some _ => none).bind fun h =>
  (match lo with | some v => boundA v h | none => some 0).map fun l => (l, h, m)

/-- How many elements of n cells each are known from cell o on of a row with room. -/
def knownA (σ : AS) (i o n : Nat) : Option Nat :=
  match σ.get i with
  | some (.cells cs _ _ (some m)) => cond (Nat.beq n m && Nat.blt 0 n && Nat.ble o cs.length) (some ((cs.length - o) / n)) none
  | _ => none

def sliceA (P : Program) (t : TypeId) (x : AV) (lo hi mx : Option AV) (σ : AS) : Option AV :=
  match P.underlying t, x with
  | some .string, .str s => (match mx with | some _ => none | none => (boundsA s.length s.length lo hi none).map fun p => .str ((s.drop p.1).take (p.2.1 - p.1)))
  | some (.slice e), .slice a len cap false =>
    (boundsA len cap lo hi mx).bind fun p => (szT P e).map fun n =>
      .slice (cond (Nat.beq p.2.2 p.1) a (a.map fun q => (q.1, q.2 + p.1 * n))) (p.2.1 - p.1) (p.2.2 - p.1) false
  | some (.slice e), .slice (some (i, o)) len skip true =>
    (szT P e).bind fun n => (knownA σ i o n).bind fun K =>
    cond (Nat.ble len K && Nat.beq o (skip * n))
    (match mx with
     | none => (boundsA len K lo hi none).map fun p =>
        cond (Nat.beq p.1 0 || Nat.blt p.1 K) (.slice (some (i, o + p.1 * n)) (p.2.1 - p.1) (skip + p.1) true) (.eslice i (o + p.1 * n) o (skip + p.1) true)
     | some _ => (boundsA len K lo hi mx).map fun p =>
        cond (Nat.beq p.2.2 p.1) (.slice (some (i, o)) (p.2.1 - p.1) (p.2.2 - p.1) false) (.slice (some (i, o + p.1 * n)) (p.2.1 - p.1) (p.2.2 - p.1) false)) none
  | some (.slice e), .eslice i o alt skip q =>
    (szT P e).bind fun _ =>
    (match mx with
     | none => (boundsA 0 0 lo hi none).map fun _ => .eslice i o alt skip q
     | some _ => (boundsA 0 0 lo hi mx).map fun _ => .eslice i o alt skip false)
  | some (.array n e), .ptr (some (i, o)) =>
    (boundsA n n lo hi mx).bind fun p => (szT P e).map fun s => .slice (some (i, cond (Nat.beq p.2.2 p.1) o (o + p.1 * s))) (p.2.1 - p.1) (p.2.2 - p.1) false
  | _, _ => none

/-! ### Maps -/
def sameA : TypeDesc → AV → AV → Option Bool
  | .int _, .int k a, .int k' b => if k = k' then some (a == b) else none
  | .string, .str a, .str b => some (a == b)
  | .bool, .bool a, .bool b => some (a == b)
  | _, _, _ => none

def keyOK : TypeDesc → AV → Bool
  | .int k, .int k' _ => decide (k' = k)
  | .string, .str _ => true
  | .bool, .bool _ => true
  | _, _ => false

def findA (kind : TypeDesc) (k : AV) : List (AV × AV × Nat) → Nat → Option (Option (Nat × AV))
  | [], _ => some none
  | e :: es, i =>
    match sameA kind k e.1 with
    | some true => some (some (i, e.2.1))
    | some false => findA kind k es (i + 1)
    | none => none

def mapGet (P : Program) (t : TypeId) (m k : AV) (σ : AS) : Option (TypeId × Option (Nat × AV)) :=
  match P.underlying t with
  | some (.map kt et) =>
    (match P.underlying kt with
     | some kd => cond (keyOK kd k) (match m with
        | .map none => some (et, none)
        | .map (some r) => (match σ.get r with
           | some (.map es _) => (findA kd k es 0).map fun f => (et, f)
           | _ => none)
        | _ => none) none
     | none => none)
  | _ => none

def mapPut (P : Program) (t : TypeId) (m k v : AV) (σ : AS) : Option AS :=
  (mapGet P t m k σ).bind fun f =>
  match m with
  | .map (some r) =>
    (match σ.get r with
     | some (.map es c) =>
       (match f.2 with
        | some (i, _) => (match es[i]? with | some e => some (σ.put r (some (.map (es.set i (k, v, e.2.2)) c))) | none => none)
        | none => some (σ.put r (some (.map (es ++ [(k, v, c)]) (c + 1)))))
     | _ => none)
  | _ => none

def mapDel (P : Program) (t : TypeId) (m k : AV) (σ : AS) : Option AS :=
  (mapGet P t m k σ).bind fun f =>
  match m with
  | .map none => some σ
  | .map (some r) =>
    (match σ.get r with
     | some (.map es c) =>
       (match f.2 with
        | some (i, _) => some (σ.put r (some (.map (es.eraseIdx i) c)))
        | none => some σ)
     | _ => none)
  | _ => none

def nextA (it : AV) (str : Bool) (σ : AS) : Option (AV × AS) :=
  match it with
  | .ptr (some (r, 0)) =>
    (match σ.get r, str with
     | some (.mapIter none _ _ _), false => some (.tuple [.bool false], σ)
     | some (.mapIter (some m) since seen last), false =>
       (match σ.get m with
        | some (.map es clock) =>
          cond (!seen.isEmpty && !es.isEmpty && es.all (fun e => Nat.ble last e.2.2)) none
            (match es.filter fun e => !seen.contains e.2.2 with
             | [] => some (.tuple [.bool false], σ)
             | [e] => cond (Nat.blt e.2.2 since) (some (.tuple [.bool true, e.1, e.2.1], σ.put r (some (.mapIter (some m) since (seen ++ [e.2.2]) clock)))) none
             | _ => none)
        | _ => none)
     | some (.strIter s pos), true =>
       (match s[pos]? with
        | some c => cond (Nat.blt c.toNat 128) (some (.tuple [.bool true, .int .i64 pos, .int .i32 c.toNat], σ.put r (some (.strIter s (pos + 1))))) none
        | none => some (.tuple [.bool false], σ))
     | _, _ => none)
  | _ => none

/-! ### Builtins -/
def elemsA (σ : AS) (size n : Nat) : AV → Option (List AV)
  | .eslice _ _ _ _ _ => cond (Nat.beq (n * size) 0) (some []) none
  | .slice none _ _ _ => some []
  | .slice (some (i, o)) _ _ _ => loadN σ i o (n * size)
  | .str s => some ((s.take n).map fun b => .int .u8 b.toNat)
  | _ => none

def lenA : AV → Option Nat
  | .eslice _ _ _ _ _ => some 0
  | .slice _ n _ _ => some n
  | .str s => some s.length
  | _ => none

def notInt : TypeDesc → Bool
  | .int _ => false
  | _ => true

/-- n elements X behind those of s. -/
def appendX (e size bytes n : Nat) (X : List AV) (s : AV) (σ : AS) : Option (AV × AS) :=
  match s with
  | .slice base len cap false =>
    cond (Nat.ble (len + n) cap)
      (match base with
       | none => some (.slice none (len + n) cap false, σ)
       | some (i, o) => (storeN σ i (o + len * size) X).map fun σ' => (.slice (some (i, o)) (len + n) cap false, σ'))
      (cond (Nat.ble (Builtin.nextslicecap (len + n) cap * bytes) (2 ^ 48) && Nat.blt (len + n) (2 ^ 62) && !(Nat.beq bytes 0))
        ((elemsA σ size len (.slice base len cap false)).bind fun old => cond (Nat.beq old.length (len * size))
          ((σ.add (.cells (old ++ X) e true (some size))).map fun p => (.slice (some (p.1, 0)) (len + n) 0 true, p.2)) none) none)
  | .eslice i o alt skip q => cond (Nat.beq n 0) (some (.eslice i o alt skip q, σ)) none
  | .slice (some (i, o)) len skip true =>
    (match σ.get i with
     | some (.cells cs e' true (some size')) =>
       cond (Nat.beq size size' && Nat.beq o (skip * size) && Nat.blt 0 size && Nat.ble (o + (len + n) * size) cs.length)
         ((storeN σ i (o + len * size) X).map fun σ' => (.slice (some (i, o)) (len + n) skip true, σ'))
         (cond (Nat.beq e e' && Nat.beq o 0 && Nat.beq skip 0 && Nat.blt 0 size && Nat.beq size size' && Nat.beq cs.length (len * size) && Nat.ble ((2 * (len + n) + 1024) * bytes) (2 ^ 48) && Nat.blt (len + n) (2 ^ 62) && !(Nat.beq bytes 0))
           (((σ.put i none).add (.cells (cs ++ X) e true (some size))).map fun p => (.slice (some (p.1, 0)) (len + n) 0 true, p.2)) none)
     | _ => none)
  | _ => none

def appendA (P : Program) (ts tx : TypeId) (s x : AV) (σ : AS) : Option (AV × AS) :=
  match P.underlying ts, P.underlying tx with
  | some (.slice e), some dx =>
    cond (notInt dx)
      ((szT P e).bind fun size => (byT P e).bind fun bytes => (zeroT P e).bind fun z => (lenA x).bind fun n => (elemsA σ size n x).bind fun X =>
        cond (Nat.beq z.cells.length size && Nat.beq X.length (n * size) && X.all AV.one) (appendX e size bytes n X s σ) none) none
  | _, _ => none

def copyA (P : Program) (td : TypeId) (d x : AV) (σ : AS) : Option (AV × AS) :=
  match P.underlying td, d with
  | some (.slice e), .slice base len _ _ =>
    (szT P e).bind fun size => (lenA x).bind fun n => (elemsA σ size (min n len) x).bind fun X =>
    (match base with
     | none => some (.int .i64 (min n len : Nat), σ)
     | some (i, o) => (storeN σ i o X).map fun σ' => (.int .i64 (min n len : Nat), σ'))
  | some (.slice e), .eslice _ _ _ _ _ =>
    (szT P e).bind fun size => (lenA x).bind fun _ => (elemsA σ size 0 x).bind fun X => cond (Nat.beq X.length 0) (some (.int .i64 0, σ)) none
  | _, _ => none

def min2A : AV → AV → Option AV
  | .int k x, .int _ y => some (.int k (if y < x then y else x))
  | .str x, .str y => some (.str (if Op.bytesLess x y || x == y then x else y))
  | _, _ => none
def max2A : AV → AV → Option AV
  | .int k x, .int _ y => some (.int k (if y > x then y else x))
  | .str x, .str y => some (.str (if !(Op.bytesLess x y) then x else y))
  | _, _ => none
def foldA (f : AV → AV → Option AV) : AV → List AV → Option AV
  | x, [] => some x
  | x, y :: r => (f x.bare y.bare).bind fun z => foldA f z r

def bytesOfA : List AV → Option (List UInt8)
  | [] => some []
  | .int .u8 n :: r => (bytesOfA r).map fun l => UInt8.ofNat n.toNat :: l
  | _ => none

def builtinA (P : Program) (b : Builtin) (ats : List TypeId) (args : List AV) (σ : AS) : Option (AV × AS) :=
  match b, ats, args with
  | .append, ts :: tx :: _, s :: x :: _ => appendA P ts tx s x σ
  | .copy, td :: _, d :: x :: _ => copyA P td d x σ
  | .len, t :: _, x :: _ =>
    (match P.underlying t, x with
     | some .string, .str s => some (.int .i64 s.length, σ)
     | some (.array n _), _ => some (.int .i64 n, σ)
     | some (.slice _), .slice _ n _ _ => some (.int .i64 n, σ)
     | some (.slice _), .eslice _ _ _ _ _ => some (.int .i64 0, σ)
     | some (.map _ _), .map none => some (.int .i64 0, σ)
     | some (.map _ _), .map (some r) => (match σ.get r with | some (.map es _) => some (.int .i64 es.length, σ) | _ => none)
     | _, _ => none)
  | .cap, t :: _, x :: _ =>
    (match P.underlying t, x with
     | some (.array n _), _ => some (.int .i64 n, σ)
     | some (.slice _), .slice _ _ c false => some (.int .i64 c, σ)
     | _, _ => none)
  | .min, _, x :: r => (foldA min2A x r).map fun v => (v, σ)
  | .max, _, x :: r => (foldA max2A x r).map fun v => (v, σ)
  | .delete, t :: _, m :: k :: _ => (mapDel P t m k σ).map fun σ' => (.tuple [], σ')
  | .clear, t :: _, x :: _ =>
    (match P.underlying t, x with
     | some _, .map none => some (.tuple [], σ)
     | some _, .slice none _ _ _ => some (.tuple [], σ)
     | some _, .eslice _ _ _ _ _ => some (.tuple [], σ)
     | some _, .map (some r) => (match σ.get r with | some (.map _ c) => some (.tuple [], σ.put r (some (.map [] c))) | _ => none)
     | some (.slice e), .slice (some (i, o)) n _ _ => (zeroT P e).bind fun z => (storeN σ i o (repN n z.cells)).map fun σ' => (.tuple [], σ')
     | _, _ => none)
  | .unsafeSliceData, _, [.slice none _ _ _] => some (.ptr none, σ)
  | .unsafeSliceData, _, [.slice (some (i, o)) n c q] => cond (Nat.beq (cond q n c) 0) none (some (.ptr (some (i, o)), σ))
  | .unsafeString, _ :: _, [.ptr none, .int _ n] => if n = 0 then some (.str [], σ) else none
  | .unsafeString, pt :: _, [.ptr (some (i, o)), .int _ n] =>
    if n < 0 ∨ n > 9223372036854775807 then none else if n = 0 then some (.str [], σ) else
    (match σ.get i, P.underlying pt with
     | some (.cells cs e true q), some (.pointer u) =>
        cond (Nat.beq e u && (match szT P u with | some k => Nat.beq k 1 | none => false)) ((takeN n.toNat (cs.drop o)).bind fun l => (bytesOfA l).map fun s => (.str s, σ.put i (some (.cells cs e false q)))) none
     | _, _ => none)
  | _, _, _ => none

/-! ### Operations -/
def optA (T : Tm) (g : Nat) : Option Operand → Option (Option AV)
  | none => some none
  | some x => (aeval T g x).map some

def convA (P : Program) (src dst : TypeId) (x : AV) (σ : AS) : Option (AV × AS) :=
  match P.underlying src, P.underlying dst, x with
  | some _, some (.int k), .int _ n => some (.int k (k.wrap n), σ)
  | some _, some .string, .str s => some (.str s, σ)
  | some _, some (.slice e), .str s =>
    (match P.underlying e with
     | some (.int .u8) => (σ.add (.cells (s.map fun b => .int .u8 b.toNat) e true (some 1))).map fun p => (.slice (some (p.1, 0)) s.length 0 true, p.2)
     | _ => none)
  | some (.slice e), some .string, .slice a n _ _ =>
    (match P.underlying e with
     | some (.int .u8) => (elemsA σ 1 n (.slice a n 0 false)).bind fun l => (bytesOfA l).map fun s => (.str s, σ)
     | _ => none)
  | some (.pointer t), some .unsafePointer, .ptr (some (i, o)) =>
    (szT P t).bind fun n => (match σ.get i with
     | some (.cells cs _ _ _) => cond (!(Nat.beq n 0) && Nat.blt o cs.length) (some (.ptr (some (i, o)), σ)) none
     | _ => none)
  | some .unsafePointer, some (.pointer u), .ptr (some (i, o)) =>
    (szT P u).bind fun n => (match σ.get i with
     | some (.cells cs e _ none) => cond (!(Nat.beq n 0) && liesAt P P.depth e (cs.length / P.cellsOf e) o u 1) (some (.ptr (some (i, o)), σ)) none
     | _ => none)
  | _, _, _ => none

def partsA (T : Tm) (g : Nat) : List (Nat × Operand) → Option (List (Nat × AV))
  | [] => some []
  | (i, x) :: r => (aeval T g x).bind fun v => (partsA T g r).map fun l => (i, v) :: l

/-- A method whose receiver is surely no nil pointer that would have to be followed. -/
def aheadA (P : Program) (t : TypeId) (name : String) : Bool :=
  match P.info? t with
  | some i =>
    (match i.methods.find? (·.name == name) with
     | some m => m.path.isEmpty && (match m.func with
        | some (_, true) => true
        | some (_, false) => (match P.underlying t with | some (.pointer _) => false | some _ => true | none => false)
        | none => false)
     | none => false)
  | none => false

/-- An operation that is no call of a Go function. -/
def opA (P : Program) (G : Nat) (T : Tm) (σ : AS) : Op → Option (AV × AS)
  | .move x => (aeval T G x).map fun v => (v, σ)
  | .assign x => (aeval T G x).map fun v => (v, σ)
  | .pick c a b => (match aeval T G c with | some (.bool q) => (aeval T G (if q then a else b)).map fun v => (v, σ) | _ => none)
  | .alloc e => (zeroT P e).bind fun z => newT σ e z.cells
  | .box e x => (aeval T G x).bind fun v => newT σ e v.cells
  | .build t ps =>
    (zeroT P t).bind fun z => (partsA T G ps.toList).bind fun l =>
    (match P.underlying t with
     | some (.struct fs) => cond (fs.toList.all fun f => (szT P f.type).isSome) ((fillA (fun i => match fs[i]? with | some f => (szT P f.type).map fun n => (f.offset, n) | none => none) z.cells l).map fun cs => (.agg cs, σ)) none
     | some (.array _ e) => (szT P e).bind fun n => (fillA (fun i => some (i * n, n)) z.cells l).map fun cs => (.agg cs, σ)
     | _ => none)
  | .buildSlice t len ps =>
    (partsA T G ps.toList).bind fun l =>
    (match P.underlying t with
     | some (.slice e) => (szT P e).bind fun n => (zeroT P e).bind fun z => cond (Nat.ble (len * n) (2 ^ 24) && Nat.beq z.cells.length n)
        ((fillA (fun i => some (i * n, n)) (repN len z.cells) l).bind fun cs => (σ.add (.cells cs e true none)).map fun p => (.slice (some (p.1, 0)) len len false, p.2)) none
     | _ => none)
  | .load t a => (match aeval T G a with | some (.ptr (some (i, o))) => (loadT P t i o σ).map fun v => (v, σ) | _ => none)
  | .store t a x => (match aeval T G a with | some (.ptr (some (i, o))) => (aeval T G x).bind fun v => (storeT P t i o v σ).map fun σ' => (AV.undef, σ') | _ => none)
  | .nilCheck x => (match aeval T G x with
     | some (.ptr (some p)) => some (.ptr (some p), σ)
     | some (.iface t v) => some (.iface t v, σ)
     | some (.func (.func f) a b) => some (.func (.func f) a b, σ)
     | some (.func (.yield l) a b) => some (.func (.yield l) a b, σ)
     | some (.func (.method name) (.iface t v :: r) b) => cond (aheadA P t name) (some (.func (.method name) (.iface t v :: r) b, σ)) none
     | _ => none)
  | .binOp op t x y _ => (aeval T G x).bind fun a => (aeval T G y).bind fun b => (binA P op t (Operand.isConst' x) (Operand.isConst' y) a.bare b.bare).map fun v => (v, σ)
  | .unOp op _ x => (match op, aeval T G x with
     | .not, some (.bool b) => some (.bool !b, σ)
     | .neg, some (.int k n) => some (.int k (k.wrap (0 - n)), σ)
     | .xor, some (.int k n) => (binInt .xor k (if k.signed then -1 else k.max) n).map fun v => (v, σ)
     | _, _ => none)
  | .convert s d x => (aeval T G x).bind fun v => convA P s d v σ
  | .makeInterface t x => (match P.underlying t with | some (.interface _) => none | some _ => (aeval T G x).map fun v => (.iface t v, σ) | none => none)
  | .makeFunc fn fi ca => (match fn with
     | .yield _ => none
     | _ => (aevalL T G fi.toList).bind fun a => (aevalL T G ca.toList).map fun b => (.func fn a b, σ))
  | .makeMap t r => (match r with
     | none => (σ.add (.map [] 0)).map fun p => (.map (some p.1), p.2)
     | some x => (match P.underlying t, aeval T G x with
        | some (.map _ _), some (.int _ _) => (σ.add (.map [] 0)).map fun p => (.map (some p.1), p.2)
        | _, _ => none))
  | .makeSlice t l c => (match P.underlying t, aeval T G l, aeval T G c with
     | some (.slice e), some (.int _ n), some (.int _ m) =>
       (szT P e).bind fun size => (byT P e).bind fun bytes => (zeroT P e).bind fun z =>
       if 0 ≤ n ∧ n ≤ m ∧ m < 2 ^ 47 ∧ bytes * m ≤ 2 ^ 47 then (σ.add (.cells (repN m.toNat z.cells) e true none)).bind fun p => cond (Nat.beq z.cells.length size) (some (.slice (some (p.1, 0)) n.toNat m.toNat false, p.2)) none else none
     | _, _, _ => none)
  | .slice t x lo hi mx => (aeval T G x).bind fun v => (optA T G lo).bind fun a => (optA T G hi).bind fun b => (optA T G mx).bind fun c => (sliceA P t v a b c σ).map fun r => (r, σ)
  | .fieldAddr s x f => (match P.underlying s, aeval T G x with
     | some (.struct fs), some (.ptr (some (i, o))) => (match fs[f]? with
        | some fl => (szT P fl.type).bind fun n => cond (Nat.beq n 0) none (some (.ptr (some (i, o + fl.offset)), σ))
        | none => none)
     | _, _ => none)
  | .field t x f => (match P.underlying t, aeval T G x with
     | some (.struct fs), some (.agg cs) => (match fs[f]? with
        | some fl => (partT P fl.type cs fl.offset).map fun v => (v, σ)
        | none => none)
     | _, _ => none)
  | .indexAddr t x ix => (match P.underlying t, aeval T G x, aeval T G ix with
     | some (.array n e), some (.ptr (some (i, o))), some (.int _ k) => (szT P e).bind fun s => if 0 ≤ k ∧ k < n then some (.ptr (some (i, o + k.toNat * s)), σ) else none
     | some (.slice e), some (.slice (some (i, o)) n _ _), some (.int _ k) => (szT P e).bind fun s => if 0 ≤ k ∧ k < n then some (.ptr (some (i, o + k.toNat * s)), σ) else none
     | _, _, _ => none)
  | .index t x ix => (match P.underlying t, aeval T G x, aeval T G ix with
     | some (.array n e), some (.agg cs), some (.int _ k) => (szT P e).bind fun s => if 0 ≤ k ∧ k < n then (partT P e cs (k.toNat * s)).map fun v => (v, σ) else none
     | some .string, some (.str s), some (.int _ k) => if 0 ≤ k then (match s[k.toNat]? with | some b => some (.int .u8 b.toNat, σ) | none => none) else none
     | _, _, _ => none)
  | .lookup t x ix ok => (aeval T G x).bind fun m => (aeval T G ix).bind fun k => (mapGet P t m k σ).bind fun f =>
     (match f.2 with
      | some (_, v) => some (if ok then .tuple [v, .bool true] else v, σ)
      | none => (zeroT P f.1).map fun z => (if ok then .tuple [z, .bool false] else z, σ))
  | .mapUpdate t m k x => (aeval T G m).bind fun mv => (aeval T G k).bind fun kv => (aeval T G x).bind fun v => (mapPut P t mv kv v σ).map fun σ' => (AV.undef, σ')
  | .insert t m k x => (aeval T G m).bind fun mv => (aeval T G k).bind fun kv => (aeval T G x).bind fun v => (mapPut P t mv kv v σ).map fun σ' => (AV.undef, σ')
  | .range t x => (match P.underlying t, aeval T G x with
     | some (.map _ _), some (.map none) => (σ.add (.mapIter none 0 [] 0)).map fun p => (.ptr (some (p.1, 0)), p.2)
     | some (.map _ _), some (.map (some m)) => (match σ.get m with
        | some (.map _ c) => (σ.add (.mapIter (some m) c [] c)).map fun p => (.ptr (some (p.1, 0)), p.2)
        | _ => none)
     | some .string, some (.str s) => (σ.add (.strIter s 0)).map fun p => (.ptr (some (p.1, 0)), p.2)
     | _, _ => none)
  | .next it str => (aeval T G it).bind fun v => nextA v str σ
  | .extract t ix => (match aeval T G t with | some (.tuple vs) => (match vs[ix]? with | some v => some (v, σ) | none => none) | _ => none)
  | .typeAssert x _ a ok => (match aeval T G x with
     | some (.iface t v) => (match P.underlying a with
        | some (.interface want) => (match P.info? t with
            | some i => (match Instr.missingMethod want i.methods with
               | none => some (if ok then .tuple [.iface t v, .bool true] else .iface t v, σ)
               | some _ => none)
            | none => none)
        | some _ => if t = a then some (if ok then .tuple [v, .bool true] else v, σ) else none
        | none => none)
     | _ => none)
  | .call { callee := .builtin b, args, argTypes } => (aevalL T G args.toList).bind fun l => builtinA P b argTypes.toList l σ
  | _ => none

/-! ### Code -/
inductive AX where
  | normal
  | exit (id : Nat)
  | ret
  deriving Inhabited

abbrev Hook := List AV → AS → Option (AV × AS)
structure Env where
  P : Program
  G : Nat
  hooks : FuncId → Option Hook

abbrev ExecT := Option Nat → Code → Tm → List Nat → AS → Option (AX × Tm × List Nat × AS)

def Tm.ofArgs : Nat → List AV → Tm → Option Tm
  | _, [], T => some T
  | i, v :: r, T => (T.set i v).bind (Tm.ofArgs (i + 1) r)

/-- The marks of a function's loops are struck as it leaves. -/
def leaveA : List Nat → AS → Option AS
  | [], σ => some σ
  | d :: r, σ => (match σ.get d with | some (.deferred true) => leaveA r (σ.put d (some (.deferred false))) | _ => none)

def resA (P : Program) (T : Tm) (σ : AS) : List ResultVar → Option (List AV)
  | [] => some []
  | .tmp t :: r => (aeval T 0 (.tmp t)).bind fun v => (resA P T σ r).map fun l => v :: l
  | .cell a t :: r => (match aeval T 0 (.tmp a) with
     | some (.ptr (some (i, o))) => (loadT P t i o σ).bind fun v => (resA P T σ r).map fun l => v :: l
     | _ => none)

def oneA : List AV → AV
  | [v] => v
  | l => .tuple l

def callF (E : Env) (go : ExecT) (f : FuncId) (args : List AV) (σ : AS) : Option (AV × AS) :=
  match E.hooks f with
  | some h => h args σ
  | none =>
    match E.P.funcs[f]? with
    | some fn =>
      (match fn.body with
       | some c =>
         (Tm.ofArgs 0 args ⟨max args.length fn.ntmps, .nil⟩).bind fun T0 =>
         (match go none c T0 [] σ with
          | some (.exit _, _, _, _) => none
          | some (_, T, D, σ1) => (leaveA D σ1).bind fun σ2 => (resA E.P T σ2 fn.results.toList).map fun l => (oneA l, σ2)
          | none => none)
       | none => none)
    | none => none

def setL (T : Tm) : List (Tmp × AV) → Option Tm
  | [] => some T
  | (t, v) :: r => (T.set t v).bind fun T' => setL T' r

/-- One round of a loop over a function. -/
def roundA (go : ExecT) (l : Nat) (args : List AV) (σ : AS) : Option (AV × AS) :=
  match σ.get l with
  | some (.loop .ready _ T ps as bd _) =>
    cond (Nat.beq args.length ps.size)
      ((setL T (ps.toList.zip args)).bind fun T1 =>
       (match go (some l) as T1 [] σ with
        | some (.normal, T2, [], σ1) =>
          (match σ1.get l with
           | some (.loop .ready pd' T' ps' as' bd' d') =>
             (match go (some l) bd T2 [] (σ1.put l (some (.loop .busy pd' T' ps' as' bd' d'))) with
              | some (x, _, [], σ2) =>
                (match σ2.get l with
                 | some (.loop _ _ T'' ps'' as'' bd'' d'') =>
                   (match x with
                    | .normal => some (.bool true, σ2.put l (some (.loop .ready none T'' ps'' as'' bd'' d'')))
                    | .ret => some (.bool false, σ2.put l (some (.loop .done (some .ret) T'' ps'' as'' bd'' d'')))
                    | .exit id => some (.bool false, σ2.put l (some (.loop .done (some (.exit id)) T'' ps'' as'' bd'' d''))))
                 | _ => none)
              | _ => none)
           | _ => none)
        | _ => none)) none
  | _ => none

def methodA (P : Program) (t : TypeId) (v : AV) (name : String) : Option (FuncId × AV) :=
  match P.info? t with
  | some i =>
    (match i.methods.find? (·.name == name) with
     | some m =>
       cond m.path.isEmpty
        (match m.func with
         | some (f, true) => (match P.underlying t with | some (.pointer _) => some (f, v) | _ => none)
         | some (f, false) => (match P.underlying t with
            | some (.pointer _) => none
            | some _ => some (f, v)
            | none => none)
         | none => none) none
     | none => none)
  | none => none

def callV (E : Env) (go : ExecT) (v : AV) (args : List AV) (σ : AS) : Option (AV × AS) :=
  match v with
  | .func (.func f) fi ca => callF E go f (fi ++ args ++ ca) σ
  | .func (.yield l) fi _ => roundA go l (fi ++ args) σ
  | .func (.method name) fi _ =>
    (match fi ++ args with
     | .iface t x :: r => (methodA E.P t x name).bind fun p => callF E go p.1 (p.2 :: r) σ
     | _ => none)
  | _ => none

def opStep (E : Env) (go : ExecT) (T : Tm) (σ : AS) (o : Oper) : Option (AV × AS) :=
  match o.op with
  | .call { callee := .value f, args, argTypes := _ } => (aeval T E.G f).bind fun v => (aevalL T E.G args.toList).bind fun l => callV E go v l σ
  | .call { callee := .invoke r name, args, argTypes := _ } => (aeval T E.G r).bind fun v => (aevalL T E.G args.toList).bind fun l =>
     (match v with
      | .iface t x => (methodA E.P t x name).bind fun p => callF E go p.1 (p.2 :: l) σ
      | _ => none)
  | op => opA E.P E.G T σ op

def wantedA (T : Tm) (ops : Array Oper) (o : Oper) : Option Bool :=
  match o.guard with
  | none => some true
  | some (j, want) =>
    match ops[j]? with
    | some p => (match p.dst with
       | some d => (match aeval T 0 (.tmp d) with | some (.bool b) => some (b == want) | some _ => some false | none => none)
       | none => some false)
    | none => some false

def putA (T : Tm) (d : Option Tmp) (v : AV) : Option Tm := match d with | some t => T.set t v | none => some T

def runOps (E : Env) (go : ExecT) (ops : Array Oper) : List Oper → Tm → AS → Option (Tm × AS)
  | [], T, σ => some (T, σ)
  | o :: r, T, σ =>
    match wantedA T ops o with
    | some true => (match opStep E go T σ o with
       | some (v, σ') => (putA T o.dst v).bind fun T' => runOps E go ops r T' σ'
       | none => none)
    | some false => (putA T o.dst AV.undef).bind fun T' => runOps E go ops r T' σ
    | none => none

/-- The block for the deferred calls of a loop over a function: the outermost loop's. -/
def loopBlock (rd : Option Nat) (σ : AS) : Option (Nat × List Nat × AS) :=
  match rd with
  | some l0 => (match σ.get l0 with | some (.loop _ _ _ _ _ _ d) => some (d, [], σ) | _ => none)
  | none => (match σ.add (.deferred true) with | some (r, σ') => some (r, [r], σ') | none => none)

end Go.Det
