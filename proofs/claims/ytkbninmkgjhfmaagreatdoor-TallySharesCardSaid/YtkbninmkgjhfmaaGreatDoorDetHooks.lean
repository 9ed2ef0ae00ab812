/- What the evaluator does at functions of Go's library that have no Go body, or that are taken by a contract. Definitions alone. -/
import Derived.Test.YtkbninmkgjhfmaaGreatDoorDetExec
set_option maxHeartbeats 400000
namespace Go.Det
open Go

def hCount : Hook := fun args σ =>
  match args with
  | [.str b, .int .u8 c] => some (.int .i64 ((b.foldl (fun n x => if x == UInt8.ofNat c.toNat then n + 1 else n) (0 : Nat)) : Nat), σ)
  | _ => none

def findByte (c : UInt8) : List UInt8 → Nat → Int
  | [], _ => -1
  | x :: r, i => if x == c then (i : Int) else findByte c r (i + 1)

def hIndexByte : Hook := fun args σ =>
  match args with
  | [.str b, .int .u8 c] => some (.int .i64 (findByte (UInt8.ofNat c.toNat) b 0), σ)
  | _ => none

def hSame : Hook := fun args σ =>
  match args with
  | [x] => some (x, σ)
  | _ => none

def hOverlaps (size : Nat) : Hook := fun args σ =>
  match args with
  | [.slice (some (i, o)) la _ _, .slice (some (j, p)) lb _ _] =>
    cond (Nat.beq la 0 || Nat.beq lb 0 || Nat.beq size 0) (some (.bool false, σ))
      (cond (Nat.beq i j) (some (.bool (Nat.blt o (p + lb * size) && Nat.blt p (o + la * size)), σ)) none)
  | [.slice none _ _ _, .slice _ _ _ _] => some (.bool false, σ)
  | [.slice _ _ _ _, .slice none _ _ _] => some (.bool false, σ)
  | _ => none

def insS (x : List UInt8) : List (List UInt8) → List (List UInt8)
  | [] => [x]
  | y :: r => cond (Op.bytesLess y x) (y :: insS x r) (x :: y :: r)
def sortS : List (List UInt8) → List (List UInt8)
  | [] => []
  | x :: r => insS x (sortS r)

def keysA : List (AV × AV × Nat) → Option (List (List UInt8))
  | [] => some []
  | (.str s, _, _) :: r => (keysA r).map fun l => s :: l
  | _ => none

/-- 'slices.Sorted(maps.Keys(m))', keys of a string's kind: fk is the number of maps.Keys' own function literal, te the type string. -/
def hSortedKeys (fk : FuncId) (te : TypeId) : Hook := fun args σ =>
  match args with
  | [.func (.func f) [] [.ptr (some (i, 0))]] =>
    cond (Nat.beq f fk) (match σ.get i with
      | some (.cells [.map (some m)] _ _ _) =>
        (match σ.get m with
         | some (.map es _) => (keysA es).bind fun ks =>
           (match sortS ks with
            | [] => some (.slice none 0 0 false, σ)
            | l => (σ.add (.cells (l.map .str) te true (some 1))).map fun p => (.slice (some (p.1, 0)) l.length 0 true, p.2))
         | _ => none)
      | some (.cells [.map none] _ _ _) => some (.slice none 0 0 false, σ)
      | _ => none) none
  | _ => none

end Go.Det
