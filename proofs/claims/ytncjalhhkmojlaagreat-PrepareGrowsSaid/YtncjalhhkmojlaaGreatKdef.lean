/-
  Short names for what turned functions compute, and recursion by fuel. Conditions: none.
-/
import Derived.Test.YtncjalhhkmojlaaGreatKfn
namespace Go.TQ
/-- short names for notes -/
def op {U : TU} (d : Nat) (x : SOp) (r : RS U) : RS U := .op ⟨some d, none, x⟩ r
def opg {U : TU} (d t : Nat) (b : Bool) (x : SOp) (r : RS U) : RS U := .op ⟨some d, some (t, b), x⟩ r
def ops {U : TU} (x : SOp) (r : RS U) : RS U := .op ⟨none, none, x⟩ r
def tm (t : Nat) : Opd := .tmp t
def ci (n : Int) : Opd := .cst (.int .i64 n)
def addI (k : IntKind) (a b : Int) : Int := k.wrap (a + b)
def subI (k : IntKind) (a b : Int) : Int := k.wrap (a - b)
def mulI (k : IntKind) (a b : Int) : Int := k.wrap (a * b)
def quoI (k : IntKind) (a b : Int) : Int := k.wrap (a.tdiv b)
def remI (_ : IntKind) (a b : Int) : Int := a.tmod b
def andI (k : IntKind) (a b : Int) : Int := k.wrap ((BitVec.ofInt k.bits a &&& BitVec.ofInt k.bits b).toNat)
def orI (k : IntKind) (a b : Int) : Int := k.wrap ((BitVec.ofInt k.bits a ||| BitVec.ofInt k.bits b).toNat)
def xorI (k : IntKind) (a b : Int) : Int := k.wrap ((BitVec.ofInt k.bits a ^^^ BitVec.ofInt k.bits b).toNat)
def andNotI (k : IntKind) (a b : Int) : Int := k.wrap ((BitVec.ofInt k.bits a &&& ~~~ BitVec.ofInt k.bits b).toNat)
def shlI (k : IntKind) (a b : Int) : Int := k.wrap (a * 2 ^ (min b.toNat k.bits))
def shrI (k : IntKind) (a b : Int) : Int := a.fdiv (2 ^ (min b.toNat k.bits))
def convI (k : IntKind) (n : Int) : Int := k.wrap n
def minI (a b : Int) : Int := if b < a then b else a
def maxI (a b : Int) : Int := if b > a then b else a
def eq2 (neg : Bool) (a b : Int) (s t : ByteArray) : Bool := xor neg (decide (a = b) && decide (s = t))
/-- a function that calls itself, so many levels deep -/
def iterF {A R : Type} (B : (A → Option R) → A → Option R) : Nat → A → Option R
  | 0, _ => none
  | n + 1, a => B (iterF B n) a
def iterF2 {A C R : Type} (B : (A → C → Option R) → A → C → Option R) : Nat → A → C → Option R
  | 0, _, _ => none
  | n + 1, a, c => B (iterF2 B n) a c
end Go.TQ
