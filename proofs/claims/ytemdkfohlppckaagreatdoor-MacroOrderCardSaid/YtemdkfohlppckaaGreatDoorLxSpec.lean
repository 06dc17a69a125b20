/- The words of a text, in plain Lean: on what is left of it. Conditions: none. -/
import Derived.Test.YtemdkfohlppckaaGreatDoorLxLib
import Derived.Test.YtemdkfohlppckaaGreatDoorLxSet

namespace Go.Proofs.YtemdkfohlppckaaGreatDoor.lx
open Go Go.Ev Go.Proofs

def hexN (n : Nat) : Int := if 48 ≤ n ∧ n ≤ 57 then (n : Int) - 48 else if 97 ≤ n ∧ n ≤ 102 then (n : Int) - 97 + 10 else if 65 ≤ n ∧ n ≤ 70 then (n : Int) - 65 + 10 else -1
def isL (n : Nat) : Bool := decide ((97 ≤ n ∧ n ≤ 122) ∨ (65 ≤ n ∧ n ≤ 90))
def isD (n : Nat) : Bool := decide (48 ≤ n ∧ n ≤ 57)
theorem hexN_le (n : Nat) : -1 ≤ hexN n ∧ hexN n ≤ 15 := by unfold hexN; split <;> (try split) <;> (try split) <;> omega

/-- What stands behind a backslash: a byte, and how many bytes it takes; 0: none. -/
def escT : List UInt8 → Nat × Nat
  | [] => (0, 0)
  | c :: r => if c.toNat = 110 then (10, 1) else if c.toNat = 116 then (9, 1) else if c.toNat = 114 then (13, 1) else if c.toNat = 115 then (32, 1)
    else if c.toNat = 120 then (match r with
      | a :: b :: _ => if hexN a.toNat < 0 ∨ hexN b.toNat < 0 then (0, 0) else ((16 * hexN a.toNat + hexN b.toNat).toNat, 3)
      | _ => (0, 0))
    else if isL c.toNat = true ∨ isD c.toNat = true then (0, 0) else (c.toNat, 1)
theorem escT_lt (r : List UInt8) : (escT r).1 < 256 ∧ (escT r).2 ≤ r.length := by
  cases r with
  | nil => simp [escT]
  | cons c r =>
    have hc := c.toNat_lt
    simp only [escT]
    split
    · simp
    split
    · simp
    split
    · simp
    split
    · simp
    split
    · split
      · rename_i a b x
        have h1 := hexN_le a.toNat
        have h2 := hexN_le b.toNat
        split
        · simp
        · rename_i hc; simp only [List.length_cons]; omega
      · simp
    split
    · simp
    · simp; omega
/-- A byte that stands by itself, or escaped. -/
def charT (own : List UInt8) : List UInt8 → Nat × Nat
  | [] => (0, 0)
  | c :: r => if c.toNat = 92 then (if (escT r).2 = 0 then (0, 0) else ((escT r).1, (escT r).2 + 1)) else if c ∈ own then (0, 0) else (c.toNat, 1)
theorem charT_lt (own r : List UInt8) : (charT own r).1 < 256 ∧ (charT own r).2 ≤ r.length := by
  cases r with
  | nil => simp [charT]
  | cons c r =>
    have hc := c.toNat_lt
    have he := escT_lt r
    simp only [charT]
    split
    · split
      · simp
      · simp only [List.length_cons]; omega
    split
    · simp
    · simp; omega
def ownC : List UInt8 := [93, 45, 91, 94]
/-- The members of a class; n: how many bytes are read. -/
def clsT : Nat → List UInt8 → Nat → (Nat → Nat) → Option ((Nat → Nat) × Nat)
  | 0, _, _, _ => none
  | _ + 1, [], _, _ => none
  | k + 1, c :: r, n, f => if c.toNat = 93 then some (f, n + 1) else if (charT ownC (c :: r)).2 = 0 then none
    else if ((c :: r).drop (charT ownC (c :: r)).2).head? = some 45 then
      (if (charT ownC ((c :: r).drop ((charT ownC (c :: r)).2 + 1))).2 = 0 ∨ (charT ownC ((c :: r).drop ((charT ownC (c :: r)).2 + 1))).1 < (charT ownC (c :: r)).1 then none
        else clsT k ((c :: r).drop ((charT ownC (c :: r)).2 + 1 + (charT ownC ((c :: r).drop ((charT ownC (c :: r)).2 + 1))).2)) (n + ((charT ownC (c :: r)).2 + 1 + (charT ownC ((c :: r).drop ((charT ownC (c :: r)).2 + 1))).2))
          ((byR (charT ownC (c :: r)).1 (charT ownC ((c :: r).drop ((charT ownC (c :: r)).2 + 1))).1).foldl putF f))
    else clsT k ((c :: r).drop (charT ownC (c :: r)).2) (n + (charT ownC (c :: r)).2) ((byR (charT ownC (c :: r)).1 (charT ownC (c :: r)).1).foldl putF f)
/-- A class, behind its bracket. -/
def classT (r : List UInt8) : Option ((Nat → Nat) × Nat) :=
  if r.head? = some 94 then (clsT (r.length + 1) (r.drop 1) 1 zeroF).map fun x => (notF x.1, x.2) else clsT (r.length + 1) r 0 zeroF
/-- A number of a repeat; below 0: none. -/
def cntT : List UInt8 → Int
  | [a] => if isD a.toNat = true then (a.toNat : Int) - 48 else -1
  | [a, b] => if a.toNat = 48 then -1 else if isD a.toNat = true ∧ isD b.toNat = true then (if 10 * ((a.toNat : Int) - 48) + ((b.toNat : Int) - 48) ≤ 20 then 10 * ((a.toNat : Int) - 48) + ((b.toNat : Int) - 48) else -1) else -1
  | _ => -1
def repT (t : List UInt8) : Option (Int × Int) :=
  if 44 ∉ t then (if 1 ≤ cntT t then some (cntT t, cntT t) else none)
  else if t.drop ((tw 44 t).length + 1) = [] then (if 0 ≤ cntT (tw 44 t) then some (cntT (tw 44 t), -1) else none)
  else if 0 ≤ cntT (tw 44 t) ∧ cntT (tw 44 t) ≤ cntT (t.drop ((tw 44 t).length + 1)) ∧ 1 ≤ cntT (t.drop ((tw 44 t).length + 1)) then some (cntT (tw 44 t), cntT (t.drop ((tw 44 t).length + 1))) else none
def nmB (c : UInt8) : Bool := isL c.toNat || isD c.toNat || decide (c.toNat = 95)
def namedT (s : List UInt8) : Bool := s.all nmB && decide (s.length ≤ 20) && (match s with | [] => false | c :: _ => isL c.toNat)

structure W where
  kind : Int
  set : Nat → Nat
  name : List UInt8
  lo : Int
  hi : Int
def wK (k : Int) : W := ⟨k, zeroF, [], 0, 0⟩
def wB (f : Nat → Nat) : W := ⟨1, f, [], 0, 0⟩
/-- A repeat, or a name, behind its brace. -/
def braceT (r : List UInt8) : W × Nat :=
  if 125 ∉ r then (wK 0, 0) else if namedT (tw 125 r) = true then (⟨11, zeroF, tw 125 r, 0, 0⟩, (tw 125 r).length + 1)
  else match repT (tw 125 r) with
    | none => (wK 0, 0)
    | some x => (⟨10, zeroF, [], x.1, x.2⟩, (tw 125 r).length + 1)
def signT (n : Nat) : Int := if n = 40 then 2 else if n = 41 then 3 else if n = 124 then 4 else if n = 38 then 5 else if n = 126 then 6 else if n = 42 then 7 else if n = 43 then 8 else if n = 63 then 9 else if n = 94 then 16 else if n = 36 then 17 else 0
def lookT (r : List UInt8) : Int × Nat :=
  if [40, 63, 61].isPrefixOf r = true then (12, 3) else if [40, 63, 33].isPrefixOf r = true then (13, 3) else if [40, 63, 60, 61].isPrefixOf r = true then (14, 4) else if [40, 63, 60, 33].isPrefixOf r = true then (15, 4) else (0, 0)
/-- A word, and how many bytes it takes; 0: none stands here. -/
def stepT (r : List UInt8) : W × Nat :=
  if 0 < (lookT r).1 then (wK (lookT r).1, (lookT r).2) else match r with
    | [] => (wK 0, 0)
    | c :: r => if c.toNat = 92 then (if (escT r).2 = 0 then (wK 0, 0) else (wB (putF zeroF (escT r).1), (escT r).2 + 1))
      else if c.toNat = 91 then (match classT r with | none => (wK 0, 0) | some x => (wB x.1, x.2 + 1))
      else if c.toNat = 123 then (if (braceT r).2 = 0 then (wK 0, 0) else ((braceT r).1, (braceT r).2 + 1))
      else if c.toNat = 46 then (wB (notF (putF zeroF 10)), 1)
      else if 0 < signT c.toNat then (wK (signT c.toNat), 1)
      else if c.toNat = 93 ∨ c.toNat = 125 then (wK 0, 0) else (wB (putF zeroF c.toNat), 1)
def blankT (c : UInt8) : Bool := decide (c ∈ ([32, 10, 9, 13] : List UInt8))
/-- All words; or the place where none stands. -/
def goT : Nat → List UInt8 → Nat → List (Nat × W) → List (Nat × W) ⊕ Nat
  | 0, _, at_, _ => .inr at_
  | _ + 1, [], _, out => .inl out
  | k + 1, c :: r, at_, out => if blankT c = true then goT k r (at_ + 1) out else if (stepT (c :: r)).2 = 0 then .inr at_
    else goT k ((c :: r).drop (stepT (c :: r)).2) (at_ + (stepT (c :: r)).2) (out ++ [(at_, (stepT (c :: r)).1)])
def wordsT (s : List UInt8) : List (Nat × W) ⊕ Nat := goT (s.length + 1) s 0 []
/-- What Words answers. -/
def outT (s : List UInt8) : List (Nat × W) × Int × Int :=
  if 10000 < s.length then ([], 0, 3) else match wordsT s with | .inl l => (l, 0, 0) | .inr at_ => ([], at_, 2)

/-- A word's cells. -/
def wC (at_ : Nat) (x : W) : List Value := [.int .i64 x.kind, .int .i64 at_] ++ setC x.set ++ [.string (bs x.name), .int .i64 x.lo, .int .i64 x.hi]
def isW (cs : List Value) (x : Nat × W) : Prop := cs = wC x.1 x.2
end Go.Proofs.YtemdkfohlppckaaGreatDoor.lx
