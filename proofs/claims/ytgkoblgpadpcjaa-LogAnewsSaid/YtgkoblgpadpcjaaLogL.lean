/- A log: what it is, and what its functions make of it and of the disk (the plain part: it mirrors log.go one to one). -/
import Derived.Test.YtgkoblgpadpcjaaDiskR
import Derived.Test.YtgkoblgpadpcjaaReader2
import Derived.Test.YtgkoblgpadpcjaaCrcMath
namespace Go.Proofs.Ytgkoblgpadpcjaa
open Go.RowKit

/-- A log but for its disk. -/
structure Lg where
  epoch : Nat
  top : Nat
  half : Nat
  at_ : Nat
  list : List (List UInt8)
  dead : Bool
def halfOf (D : Dk) : Nat := (D.kept.length - 2) / 2
def sectorsOf (n : Nat) : Nat := (16 + n + 62) / 63
def placeOf (D : Dk) (h i : Nat) : Nat := 2 + h * halfOf D + i
def pad64 (l : List UInt8) : List UInt8 := l ++ List.replicate (64 - l.length) 0
def recBytes (seq epoch : Nat) (b : List UInt8) : List UInt8 := le4 b.length ++ le4 seq ++ le4 epoch ++ le4 (crcOf (le4 seq ++ le4 epoch ++ b)) ++ b
def recSec (i : Nat) (all : List UInt8) : List UInt8 := pad64 ((if i = 0 then 2 else 3) :: all.take 63)
/-- A record's sectors are written, from the i-th one on. -/
def putGo (p : Nat) : Nat → Nat → List UInt8 → Dk → Dk × Nat
  | 0, _, _, D => (D, 0)
  | f + 1, i, all, D => if (D.write ((p + i : Nat) : Int) (recSec i all)).2 = 0 then putGo p f (i + 1) (all.drop 63) (D.write ((p + i : Nat) : Int) (recSec i all)).1 else D.write ((p + i : Nat) : Int) (recSec i all)
def putP (D : Dk) (L : Lg) (at_ seq : Nat) (b : List UInt8) : Dk × Nat := putGo (placeOf D L.half at_) (sectorsOf b.length) 0 (recBytes seq L.epoch b) D
def Lg.die (L : Lg) (e : Nat) : Lg := { L with dead := L.dead || e != 0 }
/-- .. and flushed, if that went well. -/
def putFlush (D : Dk) (L : Lg) (at_ seq : Nat) (b : List UInt8) : Dk × Nat := if (putP D L at_ seq b).2 = 0 then (putP D L at_ seq b).1.flush else putP D L at_ seq b
def appendP (D : Dk) (L : Lg) (b : List UInt8) : Dk × Lg × Nat :=
  if L.dead then (D, L, 3) else if 4096 < b.length then (D, L, 6) else if halfOf D < L.at_ + sectorsOf b.length then (D, L, 7) else
    if (putFlush D L L.at_ L.list.length b).2 = 0 then ((putFlush D L L.at_ L.list.length b).1, { L with at_ := L.at_ + sectorsOf b.length, list := L.list ++ [b] }, 0)
    else ((putFlush D L L.at_ L.list.length b).1, L.die (putFlush D L L.at_ L.list.length b).2, (putFlush D L L.at_ L.list.length b).2)
/-- Records are put one behind the other. -/
def putAll : List (List UInt8) → Dk → Lg → Dk × Lg × Nat
  | [], D, L => (D, L, 0)
  | b :: r, D, L => if (putP D L L.at_ L.list.length b).2 = 0 then putAll r (putP D L L.at_ L.list.length b).1 { L with at_ := L.at_ + sectorsOf b.length, list := L.list ++ [b] } else ((putP D L L.at_ L.list.length b).1, L.die (putP D L L.at_ L.list.length b).2, (putP D L L.at_ L.list.length b).2)
def headSec (epoch : Nat) : List UInt8 := pad64 ((1 :: le4 epoch) ++ le4 (crcOf (1 :: le4 epoch)))
/-- How many sectors records have; none: one is too long. -/
def roomOf : List (List UInt8) → Nat → Option Nat
  | [], n => some n
  | b :: r, n => if 4096 < b.length then none else roomOf r (n + sectorsOf b.length)
def headP (D : Dk) (L : Lg) : Dk × Nat := if (D.write (L.half : Int) (headSec L.epoch)).2 = 0 then (D.write (L.half : Int) (headSec L.epoch)).1.flush else D.write (L.half : Int) (headSec L.epoch)
def finishP (D : Dk) (L : Lg) : Dk × Lg × Nat :=
  if (D.flush).2 = 0 then ((headP (D.flush).1 L).1, L.die (headP (D.flush).1 L).2, (headP (D.flush).1 L).2) else ((D.flush).1, L.die (D.flush).2, (D.flush).2)
def Lg.anew (L : Lg) : Lg := { L with top := L.top + 1, epoch := L.top + 1, half := 1 - L.half, at_ := 0, list := [] }
def rewriteP (D : Dk) (L : Lg) (list : List (List UInt8)) : Dk × Lg × Nat :=
  if L.dead then (D, L, 3) else
    match roomOf list 0 with
    | none => (D, L, 6)
    | some n => if halfOf D < n then (D, L, 7) else
      if (putAll list D L.anew).2.2 = 0 then finishP (putAll list D L.anew).1 (putAll list D L.anew).2.1 else putAll list D L.anew

/-- A head's epoch. -/
def goodP (s : List UInt8) : Nat × Bool :=
  if s = zero64 then (0, false) else
    ((numRes ((s.drop 1).take 8) false 2147483648).1, s.headD 0 == 1 && (numRes (numRes ((s.drop 1).take 8) false 2147483648).2.1 (numRes ((s.drop 1).take 8) false 2147483648).2.2 4294967295).1 == crcOf (s.take 5))
/-- The greatest epoch that was ever begun, among the sectors from a place on. -/
def lookGo (D : Dk) : Nat → Nat → Nat → Nat × Nat
  | 0, _, top => (top, 0)
  | f + 1, at_, top => if (D.read (at_ : Int)).2 = 0 then lookGo D f (at_ + 1) (if (D.read (at_ : Int)).1.headD 0 = 2 then max top (numRes (((D.read (at_ : Int)).1.drop 9).take 4) false 2147483648).1 else top) else (top, (D.read (at_ : Int)).2)
def lookP (D : Dk) (epoch : Nat) : Nat × Nat := lookGo D (D.kept.length - 2) 2 epoch
/-- The bytes of a record's other sectors. -/
def moreGo (D : Dk) (p : Nat) : Nat → Nat → List UInt8 → Option (List UInt8) × Nat
  | 0, _, b => (some b, 0)
  | f + 1, i, b => if (D.read ((p + i : Nat) : Int)).2 = 0 then (if (D.read ((p + i : Nat) : Int)).1.headD 0 = 3 then moreGo D p f (i + 1) (b ++ (D.read ((p + i : Nat) : Int)).1.drop 1) else (none, 0)) else (none, (D.read ((p + i : Nat) : Int)).2)
/-- The four numbers with which a record begins, and whether they are good. -/
def fourOf (s : List UInt8) : (Nat × Nat × Nat × Nat) × Bool :=
  let a := numRes ((s.drop 1).take 16) false 4096
  let b := numRes a.2.1 a.2.2 2147483648
  let c := numRes b.2.1 b.2.2 2147483648
  let d := numRes c.2.1 c.2.2 4294967295
  ((a.1, b.1, c.1, d.1), !d.2.2)
/-- The record at the end of those that are known, and how many sectors it has. -/
def nextP (D : Dk) (L : Lg) : List UInt8 × Nat × Nat :=
  if halfOf D ≤ L.at_ then ([], 0, 0) else
    let r := D.read ((placeOf D L.half L.at_ : Nat) : Int)
    if r.2 ≠ 0 then ([], 0, r.2) else
      let q := fourOf r.1
      if r.1.headD 0 ≠ 2 ∨ q.2 = false ∨ q.1.2.1 ≠ L.list.length ∨ q.1.2.2.1 ≠ L.epoch ∨ halfOf D < L.at_ + sectorsOf q.1.1 then ([], 0, 0) else
        match moreGo D (placeOf D L.half L.at_) (sectorsOf q.1.1 - 1) 1 (r.1.drop 17) with
        | (none, e) => ([], 0, e)
        | (some b, _) => if crcOf (le4 q.1.2.1 ++ le4 q.1.2.2.1 ++ b.take q.1.1) ≠ q.1.2.2.2 then ([], 0, 0) else (b.take q.1.1, sectorsOf q.1.1, 0)
/-- All records are read. -/
def readAll (D : Dk) : Nat → Lg → Option Lg × Nat
  | 0, _ => (none, 0)
  | f + 1, L => if (nextP D L).2.2 ≠ 0 then (none, (nextP D L).2.2) else if (nextP D L).2.1 = 0 then (some L, 0) else readAll D f { L with list := L.list ++ [(nextP D L).1], at_ := L.at_ + (nextP D L).2.1 }
/-- The heads are read. -/
def headGo (D : Dk) (i : Nat) (L : Lg) : Lg := if (goodP (D.read (i : Int)).1).2 && L.epoch < (goodP (D.read (i : Int)).1).1 then { L with epoch := (goodP (D.read (i : Int)).1).1, half := i } else L
def Lg.zero : Lg := ⟨0, 0, 0, 0, [], false⟩
def openP (D : Dk) : Dk × Option Lg × Nat :=
  if D.kept.length < 6 then (D, none, 1) else if (D.read 0).2 ≠ 0 then (D, none, (D.read 0).2) else if (D.read 1).2 ≠ 0 then (D, none, (D.read 1).2) else
    let L := headGo D 1 (headGo D 0 Lg.zero)
    let k := lookP D L.epoch
    if k.2 ≠ 0 then (D, none, k.2) else
      let M := { L with top := k.1 }
      if M.epoch = 0 then
        let r := rewriteP D M []
        if r.2.2 ≠ 0 then (r.1, none, r.2.2) else (r.1, some r.2.1, 0)
      else (D, (readAll D (halfOf D + 1) M).1, (readAll D (halfOf D + 1) M).2)
end Go.Proofs.Ytgkoblgpadpcjaa
