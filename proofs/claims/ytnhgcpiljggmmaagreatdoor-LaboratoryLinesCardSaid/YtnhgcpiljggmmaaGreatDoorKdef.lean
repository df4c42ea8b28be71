/-
  Short names for what turned functions compute, and recursion by fuel. Conditions: none.
-/
import Derived.Test.YtnhgcpiljggmmaaGreatDoorKfn
import Derived.KernelRfl
namespace Go.TQ
/-- short names for notes -/
def op {U : TU} (d : Nat) (x : SOp) (r : RS U) : RS U := .op ⟨some d, none, x⟩ r
def ops {U : TU} (x : SOp) (r : RS U) : RS U := .op ⟨none, none, x⟩ r
def addI (k : IntKind) (a b : Int) : Int := k.wrap (a + b)
def subI (k : IntKind) (a b : Int) : Int := k.wrap (a - b)
def quoI (k : IntKind) (a b : Int) : Int := k.wrap (a.tdiv b)
def remI (_ : IntKind) (a b : Int) : Int := a.tmod b
def andI (k : IntKind) (a b : Int) : Int := k.wrap ((BitVec.ofInt k.bits a &&& BitVec.ofInt k.bits b).toNat)
def orI (k : IntKind) (a b : Int) : Int := k.wrap ((BitVec.ofInt k.bits a ||| BitVec.ofInt k.bits b).toNat)
def shlI (k : IntKind) (a b : Int) : Int := k.wrap (a * 2 ^ (min b.toNat k.bits))
def shrI (k : IntKind) (a b : Int) : Int := a.fdiv (2 ^ (min b.toNat k.bits))
def convI (k : IntKind) (n : Int) : Int := k.wrap n
def minI (a b : Int) : Int := if b < a then b else a
def maxI (a b : Int) : Int := if b > a then b else a
def eq2 (neg : Bool) (a b : Int) (s t : ByteArray) : Bool := xor neg (decide (a = b) && decide (s = t))
/-- a function that calls itself, so many levels deep -/
def iterF {A R : Type} (B : (A → Option R) → A → Option R) : Nat → A → Option R
  | 0, _ => none
  | n + 1, a => B (iterF B n) a
def iterF2 {A C R : Type} (B : (A → C → Option R) → A → C → Option R) : Nat → A → C → Option R
  | 0, _, _ => none
  | n + 1, a, c => B (iterF2 B n) a c

/-! ### notes apart from the code -/
section
variable {U : TU}
inductive RN (U : TU) where
  | ps (p : Ps U)
  | spl (t : Nat)
  | two
  | pr
/-- up to the choice at t -/
def upTo (t : Nat) : List SG → Option (List SG × SG × List SG)
  | [] => none
  | o :: r => (match o.op with
    | .pick (.tmp t') _ _ => (match Nat.beq t t' with
      | true => some ([], o, r)
      | false => (match upTo t r with | some (b, q, r') => some (o :: b, q, r') | none => none))
    | _ => (match upTo t r with | some (b, q, r') => some (o :: b, q, r') | none => none))
def before (n : Nat) : List (Nat × RN U) → List (Nat × RN U)
  | [] => []
  | (j, x) :: l => (match Nat.ble n j with | true => [] | false => (j, x) :: before n l)
def after (n : Nat) : List (Nat × RN U) → List (Nat × RN U)
  | [] => []
  | (j, x) :: l => (match Nat.ble n j with | true => (j, x) :: l | false => after n l)
/-- a region with its notes: each with the number of the operation that it stands ahead of -/
def regA (drw : Bool) : Nat → List Nat → Nat → List SG → List (Nat × RN U) → RS U
  | 0, _, _, _, _ => .nil
  | f + 1, kn, i, [], ns => (match ns with
    | (_, .ps p) :: ns' => .ps p (regA drw f kn i [] ns')
    | (_, .spl t) :: ns' => .spl t (regA drw f (t :: kn) i [] ns')
    | _ => .nil)
  | f + 1, kn, i, o :: r, ns => (match (match ns with | (j, _) :: _ => Nat.beq j i | [] => false) with
    | true => (match ns with
      | (_, .ps p) :: ns' => .ps p (regA drw f kn i (o :: r) ns')
      | (_, .spl t) :: ns' => .spl t (regA drw f (t :: kn) i (o :: r) ns')
      | (_, .two) :: ns' => (match o.op with
        | .call g [x, y] => .two o.d g x y (regA drw f kn (Nat.succ i) r ns')
        | _ => .nil)
      | (_, .pr) :: ns' => (match o.d, o.op, r with
        | some t1, .call g [x], o2 :: r' => (match o2.d, o2.op with
          | some t2, .call g2 _ => .pr t1 g g2 x t2 (regA drw f kn (Nat.succ (Nat.succ i)) r' ns')
          | _, _ => .nil)
        | _, _, _ => .nil)
      | [] => .nil)
    | false => (match o.g with
      | none => .op o (regA drw f kn (Nat.succ i) r ns)
      | some (t, w) => (match memN t kn with
        | true => .op o (regA drw f kn (Nat.succ i) r ns)
        | false => (match drw with
          | true => .spl t (regA drw f (t :: kn) i (o :: r) ns)
          | false => (match upTo t (o :: r) with
            | some (b, q, r') => (match q.op with
              | .pick _ x y => .ite t w (regA drw f (t :: kn) i b (before (Nat.add i b.length) ns)) (q.d.getD 0) q.g x y (regA drw f kn (Nat.succ (Nat.add i b.length)) r' (after (Nat.add i b.length) ns))
              | _ => .nil)
            | none => .nil)))))
inductive NT (U : TU) where
  | e
  | l (x : NT U)
  | r (x : NT U)
  | b (x y : NT U)
  | ps (p : Ps U) (x : NT U)
  | pst (p : Ps U) (x : NT U)
  | j (J : JS U) (x : NT U)
  | u (n : Nat) (x : NT U)
  | k (J : JS U) (f k : Nat) (nE : Option Nat) (T : U.Ty) (x : NT U)
  | g (ns : List (Nat × RN U))
def NT.lt : NT U → NT U
  | .l x => x
  | .b x _ => x
  | .j _ x => x.lt
  | .k _ _ _ _ _ x => x.lt
  | .ps _ x => x.lt
  | .pst _ x => x.lt
  | _ => .e
def NT.rt : NT U → NT U
  | .r x => x
  | .b _ x => x
  | .j _ x => x.rt
  | .k _ _ _ _ _ x => x.rt
  | .ps _ x => x.rt
  | .pst _ x => x.rt
  | _ => .e
def NT.wrap : NT U → SA U → SA U
  | .ps p x, s => .ps p (x.wrap s)
  | .pst p x, s => .pst p (x.wrap s)
  | _, s => s
def NT.core : NT U → NT U
  | .ps _ x => x.core
  | .pst _ x => x.core
  | x => x
def annA : SC → NT U → SA U
  | .skip, t => t.wrap .skip
  | .reg ops, t => t.wrap (.reg (match t.core with | .g ns => regA false 4000 [] 0 ops ns | _ => regA false 4000 [] 0 ops []))
  | .drw un ops, t => t.wrap (.drw un (match t.core with | .g ns => regA true 4000 [] 0 ops ns | _ => regA true 4000 [] 0 ops []))
  | .seq x y, t => t.wrap (match t.core with
    | .j J u => .join J (annA x u.lt) (annA y u.rt)
    | u => .seq (annA x u.lt) (annA y u.rt))
  | .cond c x y, t => t.wrap (.cond c (annA x t.lt) (annA y t.rt))
  | .block id x, t => t.wrap (.block id (annA x t.lt))
  | .loop x, t => t.wrap (match t.core with
    | .j J u => .loop J (annA x u.lt)
    | .u n t => .unr n (annA x t.lt)
    | _ => .loop ⟨[], []⟩ (annA x t.lt))
  | .rfn g ps x y, t => t.wrap (match t.core with
    | .k J f k nE T u => (match g with
      | .tmp tg => .back J f k nE T tg (ps.headD 0) (ps.tail.headD 0) (annA x u.lt) (annA y u.rt)
      | _ => .skip)
    | _ => .skip)
  | .exit id, t => t.wrap (.exit id)
  | .ret, t => t.wrap .ret
def scOf (P : Program) (nt : Nat) (hs : List Nat) (fn : Func) : SC := (fn.body.bind (ccode P nt hs)).getD .skip
end

/-! ### functions with their contracts -/
section
variable {U : TU} {P : Program}
structure KS (U : TU) (P : Program) where
  k : KFun U
  s : k.Sound P
def KS.ks : List (KS U P) → List (KFun U)
  | [] => []
  | x :: l => x.k :: KS.ks l
theorem KS.all : ∀ l : List (KS U P), AllK P (KS.ks l)
  | [] => trivial
  | x :: l => ⟨x.s, KS.all l⟩
variable {K : TK U} {f : FuncId} {as : List (ATy U)} {r : RTy U} {e k : Nat} {T R : U.Ty}
theorem fk {f nt : Nat} {c : SC} {rs : List RV} (fn : Func) (hs : List Nat) (hf : P.funcs[f]? = some fn) (h0 : fn.ntmps = nt := by rfl) (h1 : (fn.body.bind (ccode P nt hs)) = some c := by kernel_rfl) (h2 : cres P fn.results.toList = some rs := by kernel_rfl) (h3 : (fn.name == "runtime.NumGoroutine") = false := by kernel_rfl) : FnOk P f nt c rs := ⟨fn, hs, hf, h0, h1, h2, h3⟩
theorem fnS (sa : SA U) (nt : Nat) (rs : List RV) (G : List (KS U P)) (hf : FnOk P f nt sa.erase rs) (hok : sa.okc = true := by kernel_rfl) (hlen : as.length ≤ nt := by decide) {F : ADen as → Option r.den} (hF : fnK K (KS.ks G) sa rs as r = F := by kernel_rfl) : KFun.Sound P (.fn f as r F) :=
  fnK_sound hf hok hlen (KS.all G) fun a => congrFun hF a
theorem rcS {pos : Nat} (sa : SA U) (nt : Nat) (rs : List RV) (G : List (KS U P)) (hf : FnOk P f nt sa.erase rs) (hok : sa.okc = true := by kernel_rfl) (hlen : 1 + as.length ≤ nt := by decide) {F : U.den R → ADen as → Option (r.den × U.den R)} (hF : rcK K (KS.ks G) sa rs pos R as r = F := by kernel_rfl) : KFun.Sound P (.rc f pos R as r F) :=
  rcK_sound hf hok hlen (KS.all G) fun s a => congrFun (congrFun hF s) a
theorem nwS (sa : SA U) (nt t : Nat) (G : List (KS U P)) (hf : FnOk P f nt sa.erase [.tmp t]) (hok : sa.okc = true := by kernel_rfl) (hlen : as.length ≤ nt := by decide) {F : ADen as → Option (U.den R)} (hF : nwK K (KS.ks G) sa [.tmp t] as R = F := by kernel_rfl) : KFun.Sound P (.nw f as R F) :=
  nwK_sound hf hok hlen (KS.all G) fun a => congrFun hF a
theorem fnR (sa : SA U) (nt : Nat) (rs : List RV) (G : List (KS U P)) (hf : FnOk P f nt sa.erase rs) (hok : sa.okc = true := by kernel_rfl) (hlen : as.length ≤ nt := by decide) {B : (ADen as → Option r.den) → ADen as → Option r.den} (hB : (fun g => fnK K (.fn f as r g :: KS.ks G) sa rs as r) = B) : ∀ n, KFun.Sound P (.fn f as r (iterF B n))
  | 0 => ⟨hf.enters, fun a r h => by cases h⟩
  | n + 1 => fnK_sound (K := K) (Γ := .fn f as r (iterF B n) :: KS.ks G) (F := iterF B (n + 1)) hf hok hlen ⟨fnR sa nt rs G hf hok hlen hB n, KS.all G⟩ fun a => congrFun (congrFun hB (iterF B n)) a
theorem fnRS (sa : SA U) (nt : Nat) (rs : List RV) (G : List (KS U P)) (hf : FnOk P f nt sa.erase rs) (hok : sa.okc = true := by kernel_rfl) (hlen : as.length ≤ nt := by decide) {B : (ADen as → Option r.den) → ADen as → Option r.den} (hB : (fun g => fnK K (.fn f as r g :: KS.ks G) sa rs as r) = B := by kernel_rfl) {F : ADen as → Option r.den} (hF : ∀ a, ∃ n, F a = iterF B n a) : KFun.Sound P (.fn f as r F) :=
  ⟨hf.enters, fun a r h => by
    obtain ⟨n, hn⟩ := hF a
    rw [hn] at h
    exact (fnR sa nt rs G hf hok hlen hB n).2 a r h⟩
theorem fnRG (sa : SA U) (nt : Nat) (rs : List RV) (G : (g : ADen as → Option r.den) → KFun.Sound P (.fn f as r g) → List (KS U P)) (hf : FnOk P f nt sa.erase rs) (hok : sa.okc = true := by kernel_rfl) (hlen : as.length ≤ nt := by decide) {B : (ADen as → Option r.den) → ADen as → Option r.den} (hB : (fun g h => fnK K (.fn f as r g :: KS.ks (G g h)) sa rs as r) = fun g _ => B g) : ∀ n, KFun.Sound P (.fn f as r (iterF B n))
  | 0 => ⟨hf.enters, fun a r h => by cases h⟩
  | n + 1 => fnK_sound (K := K) (Γ := .fn f as r (iterF B n) :: KS.ks (G (iterF B n) (fnRG sa nt rs G hf hok hlen hB n))) (F := iterF B (n + 1)) hf hok hlen ⟨fnRG sa nt rs G hf hok hlen hB n, KS.all _⟩ fun a => congrFun (congrFun (congrFun hB (iterF B n)) (fnRG sa nt rs G hf hok hlen hB n)) a
theorem fnRSG (sa : SA U) (nt : Nat) (rs : List RV) (G : (g : ADen as → Option r.den) → KFun.Sound P (.fn f as r g) → List (KS U P)) (hf : FnOk P f nt sa.erase rs) (hok : sa.okc = true := by kernel_rfl) (hlen : as.length ≤ nt := by decide) {B : (ADen as → Option r.den) → ADen as → Option r.den} (hB : (fun g h => fnK K (.fn f as r g :: KS.ks (G g h)) sa rs as r) = (fun g _ => B g) := by kernel_rfl) {F : ADen as → Option r.den} (hF : ∀ a, ∃ n, F a = iterF B n a) : KFun.Sound P (.fn f as r F) :=
  ⟨hf.enters, fun a r h => by
    obtain ⟨n, hn⟩ := hF a
    rw [hn] at h
    exact (fnRG sa nt rs G hf hok hlen hB n).2 a r h⟩
theorem rcR {pos : Nat} (sa : SA U) (nt : Nat) (rs : List RV) (G : List (KS U P)) (hf : FnOk P f nt sa.erase rs) (hok : sa.okc = true := by kernel_rfl) (hlen : 1 + as.length ≤ nt := by decide) {B : (U.den R → ADen as → Option (r.den × U.den R)) → U.den R → ADen as → Option (r.den × U.den R)} (hB : (fun g => rcK K (.rc f pos R as r g :: KS.ks G) sa rs pos R as r) = B) : ∀ n, KFun.Sound P (.rc f pos R as r (iterF2 B n))
  | 0 => ⟨hf.enters, fun s a r ys h => by cases h⟩
  | n + 1 => rcK_sound (K := K) (Γ := .rc f pos R as r (iterF2 B n) :: KS.ks G) (F := iterF2 B (n + 1)) hf hok hlen ⟨rcR sa nt rs G hf hok hlen hB n, KS.all G⟩ fun s a => congrFun (congrFun (congrFun hB (iterF2 B n)) s) a
theorem rcRS {pos : Nat} (sa : SA U) (nt : Nat) (rs : List RV) (G : List (KS U P)) (hf : FnOk P f nt sa.erase rs) (hok : sa.okc = true := by kernel_rfl) (hlen : 1 + as.length ≤ nt := by decide) {B : (U.den R → ADen as → Option (r.den × U.den R)) → U.den R → ADen as → Option (r.den × U.den R)} (hB : (fun g => rcK K (.rc f pos R as r g :: KS.ks G) sa rs pos R as r) = B := by kernel_rfl) {F : U.den R → ADen as → Option (r.den × U.den R)} (hF : ∀ s a, ∃ n, F s a = iterF2 B n s a) : KFun.Sound P (.rc f pos R as r F) :=
  ⟨hf.enters, fun s a r ys h => by
    obtain ⟨n, hn⟩ := hF s a
    rw [hn] at h
    exact (rcR sa nt rs G hf hok hlen hB n).2 s a r ys h⟩
end
end Go.TQ
