/- A parser of patterns, in plain Lean. Conditions: none. -/
import Derived.Test.YtemdkfohlppckaaGreatDoorLxSpec
import Derived.Test.YtemdkfohlppckaaGreatDoorTreeFn

namespace Go.Proofs.YtemdkfohlppckaaGreatDoor.pa
open Go Go.Ev Go.Proofs Go.Proofs.YtemdkfohlppckaaGreatDoor.lx Go.Proofs.YtemdkfohlppckaaGreatDoor.tree

structure PS where
  l : List (Nat × W)
  deep : Nat
  at_ : Int
  e : Int
inductive Task where
  | alt | altL (acc : List Re) | both | bothL (acc : List Re) | cat | catL (acc : List Re) | no | post | postL (r : Re) | atom | inner (n : Nat)

def kindP (s : PS) : Int := if s.e ≠ 0 then 0 else match s.l with | [] => 0 | x :: _ => x.2.kind
def hereP (fin : Nat) (s : PS) : Nat := match s.l with | [] => fin | x :: _ => x.1
def nextP (s : PS) : PS := { s with l := s.l.tail }
def failP (e at_ : Int) (s : PS) : PS := if s.e = 0 then { s with e := e, at_ := at_ } else s
def enterP (at_ : Int) (s : PS) : PS := if 40 < s.deep + 1 then failP 8 at_ { s with deep := s.deep + 1 } else { s with deep := s.deep + 1 }
def closeP (s : PS) : PS := { s with deep := s.deep - 1 }
def joinR (k : Int) (l : List Re) : Re := match l with | [r] => r | l => .mk k 0 0 0 0 l 0 0 false
def bytesR (f : Nat → Nat) : Re := .mk 2 (f 0 : Nat) (f 1 : Nat) (f 2 : Nat) (f 3 : Nat) [] 0 0 false
def headW (s : PS) : Nat × W := match s.l with | [] => (0, wK 0) | x :: _ => x
def findD (n : List UInt8) : List (List UInt8 × Re) → Option Re
  | [] => none
  | d :: ds => if d.1 = n then some d.2 else findD n ds
def loT (w : W) : Int := if w.kind = 8 then 1 else if w.kind = 10 then w.lo else 0
def hiT (w : W) : Int := if w.kind = 9 then 1 else if w.kind = 10 then w.hi else -1

def P (fin : Nat) (defs : List (List UInt8 × Re)) : Nat → Task → PS → Option (Re × PS)
  | 0, _, _ => none
  | k + 1, .alt, s => (P fin defs k .both s).bind fun x => P fin defs k (.altL [x.1]) x.2
  | k + 1, .altL acc, s => if kindP s = 4 then (P fin defs k .both (nextP s)).bind fun x => P fin defs k (.altL (acc ++ [x.1])) x.2 else some (joinR 4 acc, s)
  | k + 1, .both, s => (P fin defs k .cat s).bind fun x => P fin defs k (.bothL [x.1]) x.2
  | k + 1, .bothL acc, s => if kindP s = 5 then (P fin defs k .cat (nextP s)).bind fun x => P fin defs k (.bothL (acc ++ [x.1])) x.2 else some (joinR 5 acc, s)
  | k + 1, .cat, s => P fin defs k (.catL []) s
  | k + 1, .catL acc, s => if kindP s ≠ 0 ∧ kindP s ≠ 4 ∧ kindP s ≠ 5 ∧ kindP s ≠ 3 then (P fin defs k .no s).bind fun x => P fin defs k (.catL (acc ++ [x.1])) x.2
    else some (if acc = [] then leafR 1 else joinR 3 acc, s)
  | k + 1, .no, s => if kindP s = 6 then (P fin defs k .no (enterP (headW s).1 (nextP s))).bind fun x => some (.mk 6 0 0 0 0 [x.1] 0 0 false, closeP x.2) else P fin defs k .post s
  | k + 1, .post, s => (P fin defs k .atom s).bind fun x => P fin defs k (.postL x.1) x.2
  | k + 1, .postL r, s => if kindP s = 7 ∨ kindP s = 8 ∨ kindP s = 9 ∨ kindP s = 10 then P fin defs k (.postL (.mk 7 0 0 0 0 [r] (loT (headW s).2) (hiT (headW s).2) false)) (nextP s) else some (r, s)
  | k + 1, .atom, s => if kindP s = 0 then some (leafR 0, failP 2 (hereP fin s) s)
    else if kindP s = 1 then some (bytesR (headW s).2.set, nextP s)
    else if kindP s = 2 then P fin defs k (.inner (headW s).1) (nextP s)
    else if kindP s = 12 ∨ kindP s = 13 ∨ kindP s = 14 ∨ kindP s = 15 then (P fin defs k (.inner (headW s).1) (nextP s)).bind fun x => some (.mk (if 14 ≤ kindP s then 9 else 8) 0 0 0 0 [x.1] 0 0 (decide (kindP s = 13 ∨ kindP s = 15)), x.2)
    else if kindP s = 16 then some (leafR 10, nextP s)
    else if kindP s = 17 then some (leafR 11, nextP s)
    else if kindP s = 11 then (match findD (headW s).2.name defs with | some r => some (r, nextP s) | none => some (leafR 0, failP 5 (headW s).1 (nextP s)))
    else some (leafR 0, failP 2 (headW s).1 s)
  | k + 1, .inner n, s => (P fin defs k .alt (enterP n s)).bind fun x => if kindP (closeP x.2) ≠ 3 then some (x.1, failP 2 (hereP fin (closeP x.2)) (closeP x.2)) else some (x.1, nextP (closeP x.2))
end Go.Proofs.YtemdkfohlppckaaGreatDoor.pa
