/- The reference's cube about a header: models. Own work. -/
import Derived.Test.YtlnofclfpcmneaaFo
namespace Mx
open Go
theorem firstM_range (l : List Ru) (h : Hd) : firstM l h < 0 ∨ (0 ≤ firstM l h ∧ firstM l h < l.length) := by
  unfold firstM
  cases hd : decide (firstN l h < l.length)
  · left; simp
  · right
    have : firstN l h < l.length := by simpa using hd
    rw [cond_true]; omega
def setC (c : Cu) (i v : Int) : Cu := (setV c.1 i v, setK c.2 i v)
def rstepA (c x : Cu) (h : Hd) : Cu := bif meetOk c x then setC c (oddM x h) (valM h (oddM x h)) else c
def rwhole (l : List Ru) (h : Hd) : Cu := canonM (atL .rule l (firstM l h)).2.1
def rfixK (l : List Ru) (h : Hd) (c : Cu) : Nat → Cu
  | 0 => c
  | k + 1 => rstepA (rfixK l h c k) (atL .rule l (k : Nat)).2.1 h
def rskip (l : List Ru) (h : Hd) (c : Cu) (i : Nat) : Bool := (atM (atL .rule l (firstM l h)).2.1.1 (atL .rule l (firstM l h)).2.1.2 (i : Nat) != 2) || (atM c.1 c.2 (i : Nat) == 2)
def rfreeAt (l : List Ru) (h : Hd) (c : Cu) (i : Nat) : Cu :=
  bif rskip l h c i then c else bif clearM l (firstM l h) (setC c (i : Nat) 2) then setC c (i : Nat) 2 else c
def rfreeK (l : List Ru) (h : Hd) (c : Cu) : Nat → Cu
  | 0 => c
  | k + 1 => rfreeAt l h (rfreeK l h c k) k
def rfixed (l : List Ru) (h : Hd) (k : Nat) : Cu := rfixK l h (rwhole l h) k
def rfreed (l : List Ru) (h : Hd) (k : Nat) : Cu := rfreeK l h (rfixed l h (firstM l h).toNat) k
def rno (l : List Ru) (h : Hd) : Bool := decide (firstM l h < 0)
def raboutC (l : List Ru) (h : Hd) : Cu := bif rno l h then (0, 0) else rfreed l h 104
def raboutA (l : List Ru) (h : Hd) : Int := bif rno l h then 0 else (atL .rule l (firstM l h)).2.2
def raboutB (l : List Ru) (h : Hd) : Bool := !rno l h
end Mx
