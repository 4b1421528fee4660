/- The disk as plain data: what each of its calls answers and leaves. No program in sight. -/
namespace Go.Proofs.YtkeamfdceehliaaGreatDoor

/-- Counting as int does. -/
def wInt (n : Int) : Int := (n + 9223372036854775808) % 18446744073709551616 - 9223372036854775808

structure Dk where
  secs : List (List UInt8)
  opens : List (Nat × List UInt8)
  fail : Nat
  reads : Int

namespace Dk
def there (D : Dk) (at_ : Int) : Bool := decide (0 ≤ at_) && decide (at_ < D.secs.length)
/-- One operation goes by: the fault comes nearer. -/
def tick (D : Dk) : Dk := { D with fail := D.fail - 1 }
def bad (D : Dk) : Bool := D.fail == 1
def look (opens : List (Nat × List UInt8)) (i : Nat) (s : List UInt8) : List UInt8 := opens.foldl (fun s w => if w.1 = i then w.2 else s) s
def cur (D : Dk) (i : Nat) : List UInt8 := look D.opens i (D.secs.getD i [])
def readN (D : Dk) : Dk := { D with reads := wInt (D.reads + 1) }
def read (D : Dk) (at_ : Int) : (List UInt8 × Int) × Dk :=
  if D.there at_ = false then (([], 1), D)
  else if D.bad then (([], 18), D.readN.tick)
  else ((D.cur at_.toNat, 0), D.readN.tick)
def write (D : Dk) (at_ : Int) (s : List UInt8) : Int × Dk :=
  if D.there at_ = false ∨ s.length ≠ 64 then (1, D)
  else if D.bad then (18, D.tick)
  else (0, { D.tick with opens := D.opens ++ [(at_.toNat, s)] })
def lay (secs : List (List UInt8)) (opens : List (Nat × List UInt8)) : List (List UInt8) := opens.foldl (fun l w => l.set w.1 w.2) secs
def flush (D : Dk) : Int × Dk :=
  if D.bad then (18, D.tick) else (0, { D.tick with secs := lay D.secs D.opens, opens := [] })
def setFail (D : Dk) (n : Int) : Dk := { D with fail := n.toNat }

/-- The rest of a number, not below 0. -/
def rest (n by_ : Int) : Int := (n.tmod by_ + by_).tmod by_
structure Fate where
  kind : Int
  at_ : Int
def left (f : Fate) : Int := if rest f.kind 3 = 1 then 64 else if rest f.kind 3 = 2 then rest f.at_ 65 else 0
def kept (fs : List Fate) (i : Nat) : Nat := match fs[i]? with | some f => (left f).toNat | none => 0
def tear (n : Nat) (new old : List UInt8) : List UInt8 := new.take n ++ old.drop n
def crashTo (fs : List Fate) (opens : List (Nat × List UInt8)) (secs : List (List UInt8)) : Nat → List (List UInt8) × Int
  | 0 => (secs, 0)
  | j + 1 => match opens[j]? with
    | some w => ((crashTo fs opens secs j).1.set w.1 (tear (kept fs j) w.2 ((crashTo fs opens secs j).1.getD w.1 [])), if kept fs j = 64 then (crashTo fs opens secs j).2 else (crashTo fs opens secs j).2 + 1)
    | none => crashTo fs opens secs j
def crash (D : Dk) (fs : List Fate) : Int × Dk :=
  ((crashTo fs D.opens D.secs D.opens.length).2, { secs := (crashTo fs D.opens D.secs D.opens.length).1, opens := [], fail := 0, reads := 0 })
def zsec : List UInt8 := List.replicate 64 0
def new (n : Nat) : Dk := { secs := List.replicate n zsec, opens := [], fail := 0, reads := 0 }
end Dk
end Go.Proofs.YtkeamfdceehliaaGreatDoor
