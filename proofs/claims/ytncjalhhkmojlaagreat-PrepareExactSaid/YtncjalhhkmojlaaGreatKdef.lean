/-
  Short names for what turned functions compute, and recursion by fuel. Conditions: none.
-/
import Derived.Test.YtncjalhhkmojlaaGreatKfn
import Derived.KernelRfl
namespace Go.TQ
/-- short names for notes -/
def op {U : TU} (d : Nat) (x : SOp) (r : RS U) : RS U := .op ⟨some d, none, x⟩ r
def opg {U : TU} (d t : Nat) (b : Bool) (x : SOp) (r : RS U) : RS U := .op ⟨some d, some (t, b), x⟩ r
def ops {U : TU} (x : SOp) (r : RS U) : RS U := .op ⟨none, none, x⟩ r
def tm (t : Nat) : Opd := .tmp t
def ci (n : Int) : Opd := .cst (.int .i64 n)
def mv {U : TU} (d t : Nat) (r : RS U) : RS U := op d (.mov (tm t)) r
def mc {U : TU} (d : Nat) (n : Int) (r : RS U) : RS U := op d (.mov (ci n)) r
def ld {U : TU} (d t : Nat) (r : RS U) : RS U := op d (.load none (tm t)) r
def ldk {U : TU} (d k t : Nat) (r : RS U) : RS U := op d (.load (some k) (tm t)) r
def fa {U : TU} (d o t : Nat) (r : RS U) : RS U := op d (.faddr o (tm t)) r
def ia {U : TU} (d k a b : Nat) (r : RS U) : RS U := op d (.iaddr k (tm a) (tm b)) r
def cl {U : TU} (d f : Nat) (l : List Nat) (r : RS U) : RS U := op d (.call f (l.map tm)) r
def sr {U : TU} (x : RS U) (c : SA U) : SA U := .seq (.reg x) c
def addI (k : IntKind) (a b : Int) : Int := k.wrap (a + b)
def subI (k : IntKind) (a b : Int) : Int := k.wrap (a - b)
def mulI (k : IntKind) (a b : Int) : Int := k.wrap (a * b)
def quoI (k : IntKind) (a b : Int) : Int := k.wrap (a.tdiv b)
def remI (_ : IntKind) (a b : Int) : Int := a.tmod b
def andI (k : IntKind) (a b : Int) : Int := k.wrap ((BitVec.ofInt k.bits a &&& BitVec.ofInt k.bits b).toNat)
def orI (k : IntKind) (a b : Int) : Int := k.wrap ((BitVec.ofInt k.bits a ||| BitVec.ofInt k.bits b).toNat)
def xorI (k : IntKind) (a b : Int) : Int := k.wrap ((BitVec.ofInt k.bits a ^^^ BitVec.ofInt k.bits b).toNat)
def andNotI (k : IntKind) (a b : Int) : Int := k.wrap ((BitVec.ofInt k.bits a &&& ~~~ BitVec.ofInt k.bits b).toNat)
def shlI (k : IntKind) (a b : Int) : Int := k.wrap (a * 2 ^ (min b.toNat k.bits))
def shrI (k : IntKind) (a b : Int) : Int := a.fdiv (2 ^ (min b.toNat k.bits))
def convI (k : IntKind) (n : Int) : Int := k.wrap n
def minI (a b : Int) : Int := if b < a then b else a
def maxI (a b : Int) : Int := if b > a then b else a
def eq2 (neg : Bool) (a b : Int) (s t : ByteArray) : Bool := xor neg (decide (a = b) && decide (s = t))
/-- a function that calls itself, so many levels deep -/
def iterF {A R : Type} (B : (A → Option R) → A → Option R) : Nat → A → Option R
  | 0, _ => none
  | n + 1, a => B (iterF B n) a
def iterF2 {A C R : Type} (B : (A → C → Option R) → A → C → Option R) : Nat → A → C → Option R
  | 0, _, _ => none
  | n + 1, a, c => B (iterF2 B n) a c

/-! ### functions with their contracts -/
section
variable {U : TU} {P : Program}
structure KS (U : TU) (P : Program) where
  k : KFun U
  s : k.Sound P
def KS.ks : List (KS U P) → List (KFun U)
  | [] => []
  | x :: l => x.k :: KS.ks l
theorem KS.all : ∀ l : List (KS U P), AllK P (KS.ks l)
  | [] => trivial
  | x :: l => ⟨x.s, KS.all l⟩
variable {K : TK U} {f : FuncId} {as : List (ATy U)} {r : RTy U} {e k : Nat} {T R : U.Ty}
theorem fk {f nt : Nat} {c : SC} {rs : List RV} (fn : Func) (hs : List Nat) (hf : P.funcs[f]? = some fn) (h0 : fn.ntmps = nt := by rfl) (h1 : (fn.body.bind (ccode P nt hs)) = some c := by kernel_rfl) (h2 : cres P fn.results.toList = some rs := by kernel_rfl) (h3 : (fn.name == "runtime.NumGoroutine") = false := by kernel_rfl) : FnOk P f nt c rs := ⟨fn, hs, hf, h0, h1, h2, h3⟩
theorem fnS (sa : SA U) (nt : Nat) (rs : List RV) (G : List (KS U P)) (hf : FnOk P f nt sa.erase rs) (hok : sa.okc = true := by kernel_rfl) (hlen : as.length ≤ nt := by decide) {F : ADen as → Option r.den} (hF : fnK K (KS.ks G) sa rs as r = F := by kernel_rfl) : KFun.Sound P (.fn f as r F) :=
  fnK_sound hf hok hlen (KS.all G) fun a => congrFun hF a
theorem rcS {pos : Nat} (sa : SA U) (nt : Nat) (rs : List RV) (G : List (KS U P)) (hf : FnOk P f nt sa.erase rs) (hok : sa.okc = true := by kernel_rfl) (hlen : 1 + as.length ≤ nt := by decide) {F : U.den R → ADen as → Option (r.den × U.den R)} (hF : rcK K (KS.ks G) sa rs pos R as r = F := by kernel_rfl) : KFun.Sound P (.rc f pos R as r F) :=
  rcK_sound hf hok hlen (KS.all G) fun s a => congrFun (congrFun hF s) a
theorem nwS (sa : SA U) (nt t : Nat) (G : List (KS U P)) (hf : FnOk P f nt sa.erase [.tmp t]) (hok : sa.okc = true := by kernel_rfl) (hlen : as.length ≤ nt := by decide) {F : ADen as → Option (U.den R)} (hF : nwK K (KS.ks G) sa [.tmp t] as R = F := by kernel_rfl) : KFun.Sound P (.nw f as R F) :=
  nwK_sound hf hok hlen (KS.all G) fun a => congrFun hF a
theorem rwS (sa : SA U) (nt : Nat) (rs : List RV) (G : List (KS U P)) (hf : FnOk P f nt sa.erase rs) (hok : sa.okc = true := by kernel_rfl) (hlen : 1 + as.length ≤ nt := by decide) {F : List (U.den T) → ADen as → Option (r.den × List (U.den T))} (hF : rwK K (KS.ks G) sa rs e k T as r = F := by kernel_rfl) : KFun.Sound P (.rw f e k T as r F) :=
  rwK_sound hf hok hlen (KS.all G) fun s a => congrFun (congrFun hF s) a
theorem cwS (sa : SA U) (nt : Nat) (rs : List RV) (G : List (KS U P)) (hf : FnOk P f nt sa.erase rs) (hok : sa.okc = true := by kernel_rfl) (hlen : 1 + as.length ≤ nt := by decide) {F : List (U.den T) → ADen as → Option (List (U.den T))} (hF : cwK K (KS.ks G) sa rs e k T as = F := by kernel_rfl) : KFun.Sound P (.cw f e k T as F) :=
  cwK_sound hf hok hlen (KS.all G) fun s a => congrFun (congrFun hF s) a
theorem fwS (sa : SA U) (nt : Nat) (rs : List RV) (G : List (KS U P)) (hf : FnOk P f nt sa.erase rs) (hok : sa.okc = true := by kernel_rfl) (hlen : as.length ≤ nt := by decide) {F : ADen as → Option (List (U.den T))} (hF : fwK K (KS.ks G) sa rs as e k T = F := by kernel_rfl) : KFun.Sound P (.fw f as e k T F) :=
  fwK_sound hf hok hlen (KS.all G) fun a => congrFun hF a
theorem fnR (sa : SA U) (nt : Nat) (rs : List RV) (G : List (KS U P)) (hf : FnOk P f nt sa.erase rs) (hok : sa.okc = true := by kernel_rfl) (hlen : as.length ≤ nt := by decide) {B : (ADen as → Option r.den) → ADen as → Option r.den} (hB : (fun g => fnK K (.fn f as r g :: KS.ks G) sa rs as r) = B) : ∀ n, KFun.Sound P (.fn f as r (iterF B n))
  | 0 => ⟨hf.enters, fun a r h => by cases h⟩
  | n + 1 => fnK_sound (K := K) (Γ := .fn f as r (iterF B n) :: KS.ks G) (F := iterF B (n + 1)) hf hok hlen ⟨fnR sa nt rs G hf hok hlen hB n, KS.all G⟩ fun a => congrFun (congrFun hB (iterF B n)) a
theorem fnRS (sa : SA U) (nt : Nat) (rs : List RV) (G : List (KS U P)) (hf : FnOk P f nt sa.erase rs) (hok : sa.okc = true := by kernel_rfl) (hlen : as.length ≤ nt := by decide) {B : (ADen as → Option r.den) → ADen as → Option r.den} (hB : (fun g => fnK K (.fn f as r g :: KS.ks G) sa rs as r) = B := by kernel_rfl) {F : ADen as → Option r.den} (hF : ∀ a, ∃ n, F a = iterF B n a) : KFun.Sound P (.fn f as r F) :=
  ⟨hf.enters, fun a r h => by
    obtain ⟨n, hn⟩ := hF a
    rw [hn] at h
    exact (fnR sa nt rs G hf hok hlen hB n).2 a r h⟩
theorem rwR (sa : SA U) (nt : Nat) (rs : List RV) (G : List (KS U P)) (hf : FnOk P f nt sa.erase rs) (hok : sa.okc = true := by kernel_rfl) (hlen : 1 + as.length ≤ nt := by decide) {B : (List (U.den T) → ADen as → Option (r.den × List (U.den T))) → List (U.den T) → ADen as → Option (r.den × List (U.den T))} (hB : (fun g => rwK K (.rw f e k T as r g :: KS.ks G) sa rs e k T as r) = B) : ∀ n, KFun.Sound P (.rw f e k T as r (iterF2 B n))
  | 0 => ⟨hf.enters, fun s a r ys h => by cases h⟩
  | n + 1 => rwK_sound (K := K) (Γ := .rw f e k T as r (iterF2 B n) :: KS.ks G) (F := iterF2 B (n + 1)) hf hok hlen ⟨rwR sa nt rs G hf hok hlen hB n, KS.all G⟩ fun s a => congrFun (congrFun (congrFun hB (iterF2 B n)) s) a
theorem rwRS (sa : SA U) (nt : Nat) (rs : List RV) (G : List (KS U P)) (hf : FnOk P f nt sa.erase rs) (hok : sa.okc = true := by kernel_rfl) (hlen : 1 + as.length ≤ nt := by decide) {B : (List (U.den T) → ADen as → Option (r.den × List (U.den T))) → List (U.den T) → ADen as → Option (r.den × List (U.den T))} (hB : (fun g => rwK K (.rw f e k T as r g :: KS.ks G) sa rs e k T as r) = B := by kernel_rfl) {F : List (U.den T) → ADen as → Option (r.den × List (U.den T))} (hF : ∀ s a, ∃ n, F s a = iterF2 B n s a) : KFun.Sound P (.rw f e k T as r F) :=
  ⟨hf.enters, fun s a r ys h => by
    obtain ⟨n, hn⟩ := hF s a
    rw [hn] at h
    exact (rwR sa nt rs G hf hok hlen hB n).2 s a r ys h⟩
end
end Go.TQ
