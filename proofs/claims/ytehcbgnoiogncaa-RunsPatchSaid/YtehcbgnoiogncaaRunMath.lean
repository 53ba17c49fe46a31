import Derived.Test.YtehcbgnoiogncaaNumsGet
import Derived.Test.YtehcbgnoiogncaaNumsMul
import Derived.Test.YtehcbgnoiogncaaNumsZig
import Derived.Test.YtehcbgnoiogncaaNumsAr
import Derived.Test.YtehcbgnoiogncaaPackBad
/-! Layer 9, plain words: what each kind of run tells, and rows of runs; no program in sight. -/
namespace Go.Proofs.Ytehcbgnoiogncaa
open PackMath

/-- What bits stand for. -/
def numS (sg : Bool) (u : Nat) : Option Int := if sg = true then some (zagS (u : Int)) else if u ≤ 9223372036854775807 then some (u : Int) else none
def numL (sg : Bool) : List Nat → Option (List Int)
  | [] => some []
  | u :: l => match numS sg u with
    | none => none
    | some v => match numL sg l with
      | none => none
      | some r => some (v :: r)
/-- Numbers, bytes, fault. -/
abbrev RunR := List Int × Nat × Nat
def badR (e : Nat) : RunR := ([], 0, e)
def okR (r : Option (List Int)) (n : Nat) : RunR := match r with | none => badR 2 | some l => (l, n, 0)
/-- The code and the count of a head. -/
def hdCode (bs : List Nat) (p : Nat) : Nat := bs.getD p 0 / 2 % 32
def hdCount (bs : List Nat) (p : Nat) : Nat := bs.getD p 0 % 2 * 256 + bs.getD (p + 1) 0 + 1
def widN (c : Nat) : Nat := (widthF (c : Int)).toNat

def shortS (bs : List Nat) (p : Nat) (sg : Bool) : RunR :=
  if bs.length < p + 1 + (bs.getD p 0 / 8 % 8 + 1) then badR 3
  else okR ((numS sg (bigV ((bs.drop (p + 1)).take (bs.getD p 0 / 8 % 8 + 1)) 0)).map (List.replicate (bs.getD p 0 % 8 + 3))) (1 + (bs.getD p 0 / 8 % 8 + 1))

def plainS (bs : List Nat) (p : Nat) (sg : Bool) : RunR :=
  if bs.length < p + 2 then badR 3
  else if bs.length < p + 2 + nbytes (hdCount bs p * widN (hdCode bs p)) then badR 3
  else okR (numL sg (getSpec bs (8 * (p + 2)) (hdCount bs p) (widN (hdCode bs p)))) (2 + nbytes (hdCount bs p * widN (hdCode bs p)))

/-- A number, and what comes of it by steps. -/
def sumD (sg : Bool) : Int → List Int → Option (List Int)
  | v, [] => some [v]
  | v, d :: ds => match addS v d with
    | none => none
    | some s => if sg = false ∧ s < 0 then none else match sumD sg s ds with
      | none => none
      | some r => some (v :: r)
/-- The steps that packed numbers tell, the way of the first one. -/
def stepL (neg : Bool) : List Nat → Option (List Int)
  | [] => some []
  | q :: l => if 9223372036854775807 < q then none else match stepL neg l with
    | none => none
    | some r => some ((if neg = true then -(q : Int) else (q : Int)) :: r)
def dWid (code : Nat) : Nat := if code = 0 then 0 else widN code
def deltaS (bs : List Nat) (p : Nat) (sg : Bool) : RunR :=
  if bs.length < p + 2 then badR 3
  else
    let a := varR (bs.drop (p + 2)) 0 0
    if a.2.2 ≠ 0 then badR a.2.2
    else
      let b := varR (bs.drop (p + 2 + a.2.1)) 0 0
      if b.2.2 ≠ 0 then badR b.2.2
      else match numS sg a.1 with
      | none => badR 2
      | some v =>
        let q := p + 2 + a.2.1 + b.2.1
        let w := dWid (hdCode bs p)
        let k := hdCount bs p
        let step := zagS (b.1 : Int)
        if 0 < w ∧ bs.length < q + nbytes ((k - 2) * w) then badR 3
        else
          let n := 2 + a.2.1 + b.2.1 + (if 0 < w then nbytes ((k - 2) * w) else 0)
          if k < 2 then okR (some [v]) n
          else match (if 0 < w then stepL (decide (step < 0)) (getSpec bs (8 * q) (k - 2) w) else some (List.replicate (k - 2) step)) with
            | none => badR 2
            | some ds => okR (sumD sg v (step :: ds)) n

/-- Patches laid onto numbers, from a place on. -/
def layS (wd bt : Nat) : List Nat → List Nat → Nat → Option (List Nat)
  | l, [], _ => some l
  | l, p :: ps, at_ =>
    if l.length ≤ at_ + p / 2 ^ bt then none
    else if p % 2 ^ bt = 0 then layS wd bt l ps (at_ + p / 2 ^ bt)
    else if 63 < Lib.bitLen (p % 2 ^ bt) + wd then none
    else layS wd bt (l.set (at_ + p / 2 ^ bt) (l.getD (at_ + p / 2 ^ bt) 0 ||| (p % 2 ^ bt * 2 ^ wd))) ps (at_ + p / 2 ^ bt)
/-- A base put to each. -/
def baseL (sg : Bool) (base : Int) : List Nat → Option (List Int)
  | [] => some []
  | u :: l => if 9223372036854775807 < u then none else match addS base (u : Int) with
    | none => none
    | some s => if sg = false ∧ s < 0 then none else match baseL sg base l with
      | none => none
      | some r => some (s :: r)
def baseOf (u size : Nat) : Int := if 2 ^ (8 * size - 1) ≤ u then -((u - 2 ^ (8 * size - 1) : Nat) : Int) else (u : Int)
def patchS (bs : List Nat) (p : Nat) (sg : Bool) : RunR :=
  if bs.length < p + 4 then badR 3
  else
    let c := bs.getD (p + 2) 0
    let d := bs.getD (p + 3) 0
    let bt := widN (c % 32)
    let gap := d / 32 + 1
    if 64 < bt + gap then badR 2
    else
      let size := c / 32 + 1
      if bs.length < p + 4 + size then badR 3
      else
        let base := baseOf (bigV ((bs.drop (p + 4)).take size) 0) size
        let q := p + 4 + size
        let wd := widN (hdCode bs p)
        let k := hdCount bs p
        if bs.length < q + nbytes (k * wd) then badR 3
        else
          let q2 := q + nbytes (k * wd)
          let wp := (fitF ((bt + gap : Nat) : Int)).toNat
          if bs.length < q2 + nbytes (d % 32 * wp) then badR 3
          else match layS wd bt (getSpec bs (8 * q) k wd) (getSpec bs (8 * q2) (d % 32) wp) 0 with
            | none => badR 2
            | some l => okR (baseL sg base l) (4 + size + nbytes (k * wd) + nbytes (d % 32 * wp))

def runS (bs : List Nat) (p : Nat) (sg : Bool) : RunR :=
  if bs.length < p then badR 1
  else if bs.length = p then badR 3
  else if bs.getD p 0 / 64 = 0 then shortS bs p sg
  else if bs.getD p 0 / 64 = 1 then plainS bs p sg
  else if bs.getD p 0 / 64 = 2 then patchS bs p sg
  else deltaS bs p sg
/-- Rows of runs, from a place on, behind the numbers that were read. -/
def decR (bs : List Nat) (count : Nat) (sg : Bool) : Nat → Nat → List Int → List Int × Nat
  | 0, p, acc => if acc.length < count then ([], 3) else if p < bs.length then ([], 2) else (acc, 0)
  | f + 1, p, acc =>
    if acc.length < count then
      let r := runS bs p sg
      if r.2.2 ≠ 0 then ([], r.2.2)
      else if count < acc.length + r.1.length then ([], 2)
      else decR bs count sg f (p + r.2.1) (acc ++ r.1)
    else if p < bs.length then ([], 2) else (acc, 0)
def decS9 (bs : List Nat) (count : Int) (sg : Bool) : List Int × Nat :=
  if count < 0 ∨ 16384 < count then ([], 1) else decR bs count.toNat sg (bs.length + 1) 0 []
end Go.Proofs.Ytehcbgnoiogncaa
