/-
  Short names for what turned functions compute, and recursion by fuel. Conditions: none.
-/
import Derived.Test.YtncjalhhkmojlaaKfn
namespace Go.TQ
def addI (k : IntKind) (a b : Int) : Int := k.wrap (a + b)
def subI (k : IntKind) (a b : Int) : Int := k.wrap (a - b)
def mulI (k : IntKind) (a b : Int) : Int := k.wrap (a * b)
def quoI (k : IntKind) (a b : Int) : Int := k.wrap (a.tdiv b)
def remI (_ : IntKind) (a b : Int) : Int := a.tmod b
def andI (k : IntKind) (a b : Int) : Int := k.wrap ((BitVec.ofInt k.bits a &&& BitVec.ofInt k.bits b).toNat)
def orI (k : IntKind) (a b : Int) : Int := k.wrap ((BitVec.ofInt k.bits a ||| BitVec.ofInt k.bits b).toNat)
def xorI (k : IntKind) (a b : Int) : Int := k.wrap ((BitVec.ofInt k.bits a ^^^ BitVec.ofInt k.bits b).toNat)
def andNotI (k : IntKind) (a b : Int) : Int := k.wrap ((BitVec.ofInt k.bits a &&& ~~~ BitVec.ofInt k.bits b).toNat)
def shlI (k : IntKind) (a b : Int) : Int := k.wrap (a * 2 ^ (min b.toNat k.bits))
def shrI (k : IntKind) (a b : Int) : Int := a.fdiv (2 ^ (min b.toNat k.bits))
def convI (k : IntKind) (n : Int) : Int := k.wrap n
def minI (a b : Int) : Int := if b < a then b else a
def maxI (a b : Int) : Int := if b > a then b else a
def eq2 (neg : Bool) (a b : Int) (s t : ByteArray) : Bool := xor neg (decide (a = b) && decide (s = t))
/-- a function that calls itself, so many levels deep -/
def iterF {A R : Type} (B : (A → Option R) → A → Option R) : Nat → A → Option R
  | 0, _ => none
  | n + 1, a => B (iterF B n) a
end Go.TQ
