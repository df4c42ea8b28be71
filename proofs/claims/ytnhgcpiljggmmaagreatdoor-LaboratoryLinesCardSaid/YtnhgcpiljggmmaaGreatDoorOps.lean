/-
  Operations on abstract states: the resolved form of the machine's operations and their evaluation. Conditions: none (generic in the program).
-/
import Derived.Test.YtnhgcpiljggmmaaGreatDoorState
import Derived.Laws.Build
namespace Go.TQ
open Go.RowKit

inductive Opd where
  | tmp (t : Nat)
  | cst (x : PV)
def Opd.val (S : St) : Opd → PV
  | .tmp t => S.env t
  | .cst x => x

/-- kinds of cells without memory -/
inductive LK where
  | i
  | s
  | b
/-- operations on values alone -/
inductive PQ where
  | scat
  | sslc (lo hi : Bool)
  | b2s
  | mki (T : TypeId)
  | tas (T : TypeId) (z : PV)
  | inil (neg : Bool)
  | neg
inductive SOp where
  | mov (x : Opd)
  | pick (c x y : Opd)
  | box (x : Opd)
  | boxr (x : Opd)
  | alloc (z : List PV)
  | load (n : Option Nat) (p : Opd)
  | store (n : Nat) (p x : Opd)
  | build (z : List PV) (ps : List (Nat × Nat × Opd))
  | bsl (m : Bool) (e k : Nat) (z : List (List PV)) (ps : List (Nat × Opd))
  | faddr (off : Nat) (p : Opd)
  | iaddr (k : Nat) (x i : Opd)
  | aaddr (k len : Nat) (x i : Opd)
  | bin (op : BinOp) (x y : Opd)
  | eq2 (neg : Bool) (x y : Opd)
  | eqb (neg : Bool) (x y : Opd)
  | not (x : Opd)
  | conv (k : IntKind) (x : Opd)
  | len (isStr : Bool) (x : Opd)
  | call (f : FuncId) (xs : List Opd)
  | callv (fv : Opd) (xs : List Opd)
  | app (fz : Bool) (e k bytes : Nat) (s x : Opd)
  | nilck (x : Opd)
  | extr (i : Nat) (x : Opd)
  | mkf (f : FuncId) (caps : List Opd)
  | mkb (f : FuncId) (first : List Opd)
  | eqs (neg : Bool) (ks : List LK) (x y : Opd)
  | mks (e k bytes : Nat) (z : List PV) (l c : Opd)
  | slc (k : Nat) (x : Opd) (lo hi : Option Opd)
  | minmax (mx : Bool) (x y : Opd)
  | isnil (neg : Bool) (x : Opd)
  | clear (k : Nat) (z : List PV) (x : Opd)
  | sidx (x i : Opd)
  | aidx (e : Nat) (n : Option Nat) (len k : Nat) (x i : Opd)
  | lookup (ok : Bool) (z : PV) (x y : Opd)
  | fld (n : Option Nat) (off : Nat) (x : Opd)
  | pur (q : PQ) (xs : List Opd)
  | cpy (e k : Nat) (x y : Opd)

/-- a function's model: has it a receiver that it changes; the receiver's cells and the arguments give the result and the receiver's cells -/
inductive RK where
  | no
  | bor (e k : Nat)
  | con (e k : Nat)
  | fre (e k : Nat)
structure Model where
  recv : Bool
  /-- where the receiver stands among the arguments -/
  pos : Nat
  fresh : Bool
  m : List PV → List PV → Option (PV × List PV)
  /-- a row that is lent, or handed over, or comes back new -/
  rk : RK
  /-- is the receiver only read? -/
  ro : Bool
  rm : List (List PV) → List PV → Option (PV × List (List PV))
abbrev Tab := FuncId → Option Model
/-- without the p-th -/
def cutAt {α : Type} (p : Nat) (l : List α) : List α := l.take p ++ l.drop (p + 1)
/-- with x at p -/
def insAt {α : Type} (p : Nat) (x l : List α) : List α := l.take p ++ x ++ l.drop p

/-- a value that holds no objects -/
def PV.closed : PV → Bool
  | .int .. | .bool _ | .str _ | .nilp | .nils | .sl _ | .ref _ | .mapv .. | .nili _ | .ifc .. => true
  | .clo _ [] => true
  | _ => false
def PV.plain1 : PV → Bool
  | .agg cs => cs.all PV.plain
  | x => x.plain
def PV.plains : PV → Bool
  | .tup cs => cs.all PV.plain1
  | x => x.plain1
def PV.closeds : PV → Bool
  | .agg cs | .tup cs | .clo _ cs => cs.all PV.closed
  | x => x.closed
/-- the same for a result -/
def PV.closedr : PV → Bool
  | .tup cs => cs.all PV.closeds
  | x => x.closeds

/-- a value as a callee sees it: objects are read only; ex: the object that is handed over -/
def fz (H : Nat → AObj) (ex : Option Nat) : Nat → PV → PV
  | 0, x => match x with | .nils => .sl [] | x => if x.closed then x else .any
  | _ + 1, .nils => .sl []
  | n + 1, .own id ver => if some id = ex ∨ (H id).ver ≠ ver then .any else
      match (H id).c with
      | .row _ _ es => .sl (es.map fun e => e.map (fz H ex n))
      | _ => .any
  | n + 1, .ptr id ver off => if some id = ex ∨ (H id).ver ≠ ver then .any else
      match (H id).c with
      | .box cs => .ref ((cs.map (fz H ex n)).drop off)
      | _ => .any
  | n + 1, .agg cs => .agg (cs.map (fz H ex n))
  | n + 1, .tup cs => .tup (cs.map (fz H ex n))
  | n + 1, .clo f cs => .clo f (cs.map (fz H ex n))
  | _ + 1, x => if x.closed then x else .any

/-- in lists a nil slice is taken as one of no elements -/
def nz : PV → PV
  | .nils => .sl []
  | x => x
def PV.noNils : PV → Bool
  | .nils => false
  | _ => true
def nzz (es : List (List PV)) : List (List PV) := es.map fun e => e.map nz

def okRows (es : List (List PV)) : Bool := es.all fun u => u.all PV.closed
def plRows (es : List (List PV)) : Bool := es.all fun u => u.all PV.plain
def callBor (m : Model) (e k : Nat) (S : St) (args : List PV) : Option (PV × Option (Nat × AObj)) :=
  match args with
  | .own id ver :: rest =>
    if (S.H id).ver = ver then
      match (S.H id).c with
      | .row e' k' es =>
        if e' = e ∧ k' = k ∧ okRows es = true then
          match m.rm es (rest.map (fz S.H (some id) 9)) with
          | some (r, es') => if (r.plains || rest.all PV.closeds && r.closedr) && okRows es' && (plRows es' || rest.all PV.closeds) then some (r, some (id, ⟨ver, .row e k es'⟩)) else none
          | none => none
        else none
      | _ => none
    else none
  | _ => none
def callCon (m : Model) (e k : Nat) (S : St) (args : List PV) : Option (PV × Option (Nat × AObj)) :=
  match args with
  | .own id ver :: rest =>
    if (S.H id).ver = ver then
      match (S.H id).c with
      | .row e' k' es =>
        if e' = e ∧ k' = k ∧ okRows es = true then
          match m.rm es (rest.map (fz S.H (some id) 9)) with
          | some (_, es') => if okRows es' && (plRows es' || rest.all PV.closeds) then some (.own id (ver + 1), some (id, ⟨ver + 1, .row e k es'⟩)) else none
          | none => none
        else none
      | _ => none
    else none
  | _ => none
def callFre (m : Model) (e k : Nat) (nid : Nat) (S : St) (args : List PV) : Option (PV × Option (Nat × AObj)) :=
  match m.rm [] (args.map (fz S.H none 9)) with
  | some (_, es') => if okRows es' && (plRows es' || args.all PV.closeds) then some (.own nid ((S.H nid).ver + 1), some (nid, ⟨(S.H nid).ver + 1, .row e k es'⟩)) else none
  | none => none
def callPV (Γ : Tab) (nid : Nat) (S : St) (f : FuncId) (args : List PV) : Option (PV × Option (Nat × AObj)) :=
  match Γ f with
  | none => none
  | some m =>
    match m.rk with
    | .bor e k => callBor m e k S args
    | .con e k => callCon m e k S args
    | .fre e k => callFre m e k nid S args
    | .no =>
    if m.fresh then
      match m.m [] (args.map (fz S.H none 9)) with
      | some (_, cs) => if cs.all PV.closed && (cs.all PV.plain || args.all PV.closeds) then some (.ptr nid ((S.H nid).ver + 1) 0, some (nid, ⟨(S.H nid).ver + 1, .box cs⟩)) else none
      | none => none
    else if m.recv then
      match args[m.pos]? with
      | some (.ptr id ver 0) =>
        if (S.H id).ver = ver then
          match (S.H id).c with
          | .box cs =>
            if cs.all PV.closed then
              match m.m (cs.map nz) ((cutAt m.pos args).map (fz S.H (some id) 9)) with
              | some (r, cs') => if (r.plains || (cutAt m.pos args).all PV.closeds) && r.closedr && cs'.all PV.closed && (cs'.all PV.plain || (cutAt m.pos args).all PV.closeds) then some (r, if m.ro && cs.all PV.noNils then none else some (id, ⟨ver, .box cs'⟩)) else none
              | none => none
            else none
          | _ => none
        else none
      | _ => none
    else
      match m.m [] (args.map (fz S.H none 9)) with
      | some (r, _) => if r.plains || args.all PV.closeds && r.closedr then some (r, none) else none
      | none => none

def binInt (op : BinOp) (k : IntKind) (a b : Int) : Option PV :=
  match op with
  | .add => some (.int k (k.wrap (a + b)))
  | .sub => some (.int k (k.wrap (a - b)))
  | .mul => some (.int k (k.wrap (a * b)))
  | .quo => if b = 0 then none else some (.int k (k.wrap (a.tdiv b)))
  | .rem => if b = 0 then none else some (.int k (a.tmod b))
  | .and => some (.int k (k.wrap ((BitVec.ofInt k.bits a &&& BitVec.ofInt k.bits b).toNat)))
  | .or => some (.int k (k.wrap ((BitVec.ofInt k.bits a ||| BitVec.ofInt k.bits b).toNat)))
  | .xor => some (.int k (k.wrap ((BitVec.ofInt k.bits a ^^^ BitVec.ofInt k.bits b).toNat)))
  | .andNot => some (.int k (k.wrap ((BitVec.ofInt k.bits a &&& ~~~ BitVec.ofInt k.bits b).toNat)))
  | .eql => some (.bool (decide (a = b)))
  | .neq => some (.bool (!decide (a = b)))
  | .lss => some (.bool (decide (a < b)))
  | .leq => some (.bool (decide (a ≤ b)))
  | .gtr => some (.bool (decide (b < a)))
  | .geq => some (.bool (decide (b ≤ a)))
  | _ => none
def sless (a b : ByteArray) : Bool := Op.bytesLess a.toList b.toList
def binStr (op : BinOp) (a b : ByteArray) : Option PV :=
  match op with
  | .eql => some (.bool (decide (a = b)))
  | .neq => some (.bool (!decide (a = b)))
  | .lss => some (.bool (sless a b))
  | .leq => some (.bool (sless a b || decide (a = b)))
  | .gtr => some (.bool (!(sless a b || decide (a = b))))
  | .geq => some (.bool (!sless a b))
  | _ => none
def binPV (op : BinOp) (x y : PV) : Option PV :=
  match x, y with
  | .int k a, .int k' b =>
    match op with
    | .shl => if b < 0 then none else some (.int k (k.wrap (a * 2 ^ (min b.toNat k.bits))))
    | .shr => if b < 0 then none else some (.int k (a.fdiv (2 ^ (min b.toNat k.bits))))
    | _ => if k = k' then binInt op k a b else none
  | .str a, .str b => binStr op a b
  | _, _ => none

def ldn : Option Nat → List PV → Option PV
  | none, x :: _ => some x
  | none, [] => none
  | some n, cs => if n ≤ cs.length then some (.agg (cs.take n)) else none
def splice (cs : List PV) (off : Nat) (xs : List PV) : List PV := cs.take off ++ xs ++ cs.drop (off + xs.length)

/-- the elements of a slice -/
def elems (S : St) : PV → Option (List (List PV))
  | .nils => some []
  | .sl es => some es
  | .own id ver => if (S.H id).ver = ver then (match (S.H id).c with | .row _ _ es => some es | _ => none) else none
  | .view id ver k lo n => if (S.H id).ver = ver then (match (S.H id).c with | .row _ k' es => if k' = k then some ((es.drop lo).take n) else none | _ => none) else none
  | _ => none
def optI (S : St) (y : Option Opd) (d : Int) : Option Int :=
  match y with
  | none => some d
  | some l => match l.val S with | .int _ n => some n | _ => none

def fillPV (S : St) : List PV → List (Nat × Nat × Opd) → Option (List PV)
  | cs, [] => some cs
  | cs, (off, n, x) :: rest =>
    if (x.val S).cells.length = n ∧ off + n ≤ cs.length ∧ (x.val S).cells.all PV.one = true then fillPV S (splice cs off (x.val S).cells) rest else none
def fillEs (S : St) (k : Nat) : List (List PV) → List (Nat × Opd) → Option (List (List PV))
  | es, [] => some es
  | es, (i, x) :: rest =>
    if (x.val S).cells.length = k ∧ i < es.length ∧ (x.val S).cells.all PV.one = true then fillEs S k (es.set i (x.val S).cells) rest else none

/-- a byte of a string -/
def sidx (s : ByteArray) (n : Int) : Option Int := if 0 ≤ n then (s[n.toNat]?).map fun b => (b.toNat : Int) else none

/-- a key of two integers among keys: the value there -/
def mfind (k : IntKind) (a : Int) (l : IntKind) (b : Int) : List PV → List PV → Option (Option PV)
  | [], [] => some none
  | .agg [.int k' a', .int l' b'] :: ks, v :: vs => if k = k' ∧ l = l' then (if a = a' ∧ b = b' then some (some v) else mfind k a l b ks vs) else none
  | _, _ => none
/-- are cells without memory equal, one by one? -/
def eqCs : List LK → List PV → List PV → Option Bool
  | [], [], [] => some true
  | .i :: ks, .int k a :: cs, .int l b :: ds => if k = l then (eqCs ks cs ds).map fun r => decide (a = b) && r else none
  | .s :: ks, .str a :: cs, .str b :: ds => (eqCs ks cs ds).map fun r => decide (a = b) && r
  | .b :: ks, .bool a :: cs, .bool b :: ds => (eqCs ks cs ds).map fun r => decide (a = b) && r
  | _, _, _ => none
/-- what append hands out: a row of its own, or one that stays as it is -/
def appR (z : Bool) (id ver e k : Nat) (es : List (List PV)) : Option (PV × Option (Nat × AObj)) :=
  match z with
  | false => some (.own id ver, some (id, ⟨ver, .row e k es⟩))
  | true => if es.all (fun u => u.all PV.closed) then some (.sl es, some (id, ⟨ver, .dead⟩)) else none
def byteOf (n : Int) : Option UInt8 := if 0 ≤ n ∧ n < 256 then some (UInt8.ofNat n.toNat) else none
def bytesOf : List (List PV) → Option (List UInt8)
  | [] => some []
  | [.int .u8 n] :: l => match byteOf n, bytesOf l with
    | some b, some bs => some (b :: bs)
    | _, _ => none
  | _ => none
def scat (a b : ByteArray) : Option ByteArray := if a.size + b.size ≤ 9223372036854775807 then some (a ++ b) else none
def sslc (s : ByteArray) (l h : Int) : Option ByteArray := if 0 ≤ l ∧ l ≤ h ∧ h ≤ s.size then some (s.extract l.toNat h.toNat) else none
def evalP : PQ → List PV → Option PV
  | .scat, [.str a, .str b] => (scat a b).map .str
  | .sslc false false, [.str s] => some (.str s)
  | .sslc true false, [.str s, .int _ l] => (sslc s l s.size).map .str
  | .sslc false true, [.str s, .int _ h] => (sslc s 0 h).map .str
  | .sslc true true, [.str s, .int _ l, .int _ h] => (sslc s l h).map .str
  | .b2s, [.sl es] => (bytesOf es).map fun l => .str ⟨l.toArray⟩
  | .mki T, [x] => if x.plain && x.one then some (.ifc T x) else none
  | .tas T z, [.ifc T' x] => some (if T' = T then .tup [x, .bool true] else .tup [z, .bool false])
  | .tas _ z, [.nili true] => some (.tup [z, .bool false])
  | .inil neg, [.ifc ..] => some (.bool neg)
  | .inil neg, [.nili b] => some (.bool (xor neg b))
  | .neg, [.int k n] => some (.int k (k.wrap (0 - n)))
  | _, _ => none
/-- the elements of a slice, put into a row from lo on -/
def cpyL {α : Type} (xs : List α) (lo n : Nat) (ys : List α) : List α := xs.take lo ++ ys.take n ++ xs.drop (lo + min n ys.length)
def exec (Γ : Tab) (nid : Nat) (S : St) : SOp → Option (PV × Option (Nat × AObj))
  | .mov x => some (x.val S, none)
  | .pick c x y => match c.val S with
    | .bool true => some (x.val S, none)
    | .bool false => some (y.val S, none)
    | _ => none
  | .box x => if (x.val S).cells.all PV.one then some (.ptr nid ((S.H nid).ver + 1) 0, some (nid, ⟨(S.H nid).ver + 1, .box (x.val S).cells⟩)) else none
  | .boxr x => if (x.val S).cells.all PV.one && (x.val S).cells.all PV.closed then some (.ref (x.val S).cells, none) else none
  | .alloc z => some (.ptr nid ((S.H nid).ver + 1) 0, some (nid, ⟨(S.H nid).ver + 1, .box z⟩))
  | .load n p => match p.val S with
    | .ptr id ver off => if (S.H id).ver = ver then (match (S.H id).c with | .box cs => (ldn n (cs.drop off)).map (·, none) | _ => none) else none
    | .eptr id ver k i off => if (S.H id).ver = ver then (match (S.H id).c with | .row _ k' es => if k = k' then (match es[i]? with | some e => (ldn n (e.drop off)).map (·, none) | none => none) else none | _ => none) else none
    | .ref cs => (ldn n cs).map (·, none)
    | _ => none
  | .store n p x => if (x.val S).cells.length = n ∧ (x.val S).cells.all PV.one = true then
      match p.val S with
      | .ptr id ver off => if (S.H id).ver = ver then (match (S.H id).c with | .box cs => if off + n ≤ cs.length then some (.undef, some (id, ⟨ver, .box (splice cs off (x.val S).cells)⟩)) else none | _ => none) else none
      | .eptr id ver k i off => if (S.H id).ver = ver then (match (S.H id).c with | .row e k' es => if k = k' then (match es[i]? with | some c => if off + n ≤ c.length then some (.undef, some (id, ⟨ver, .row e k (es.set i (splice c off ((x.val S).cells.map nz)))⟩)) else none | none => none) else none | _ => none) else none
      | _ => none
    else none
  | .build z ps => (fillPV S z ps).map fun cs => (.agg cs, none)
  | .bsl m e k z ps => match fillEs S k z ps with
    | some es => if m = false ∧ es.all (fun u => u.all PV.closed) = true then some (.sl (nzz es), none) else some (.own nid ((S.H nid).ver + 1), some (nid, ⟨(S.H nid).ver + 1, .row e k (nzz es)⟩))
    | none => none
  | .faddr off p => match p.val S with
    | .ptr id ver o => if (S.H id).ver = ver then (match (S.H id).c with | .box _ => some (.ptr id ver (o + off), none) | _ => none) else none
    | .eptr id ver k i o => if (S.H id).ver = ver then (match (S.H id).c with | .row _ _ es => if i < es.length then some (.eptr id ver k i (o + off), none) else none | _ => none) else none
    | .ref cs => some (.ref (cs.drop off), none)
    | _ => none
  | .iaddr k x i => match i.val S with
    | .int _ n => match x.val S with
      | .sl es => if 0 ≤ n ∧ n < es.length then (match es[n.toNat]? with | some e => if e.length = k then some (.ref e, none) else none | none => none) else none
      | .own id ver => if (S.H id).ver = ver then (match (S.H id).c with | .row _ k' es => if k = k' ∧ 0 ≤ n ∧ n < es.length then some (.eptr id ver k n.toNat 0, none) else none | _ => none) else none
      | .view id ver k0 lo m => if (S.H id).ver = ver then (match (S.H id).c with | .row _ k' es => if k = k' ∧ k0 = k ∧ 0 ≤ n ∧ n < m ∧ lo + n.toNat < es.length then some (.eptr id ver k (lo + n.toNat) 0, none) else none | _ => none) else none
      | _ => none
    | _ => none
  | .aaddr k len x i => match i.val S with
    | .int _ n => if 0 ≤ n ∧ n < len then (match x.val S with
      | .ptr id ver o => if (S.H id).ver = ver then (match (S.H id).c with | .box _ => some (.ptr id ver (o + n.toNat * k), none) | _ => none) else none
      | .ref cs => some (.ref (cs.drop (n.toNat * k)), none)
      | _ => none) else none
    | _ => none
  | .bin op x y => (binPV op (x.val S) (y.val S)).map (·, none)
  | .eq2 neg x y => match x.val S, y.val S with
    | .agg [.int k a, .str s], .agg [.int k' b, .str t] => if k = k' then some (.bool (xor neg (decide (a = b) && decide (s = t))), none) else none
    | _, _ => none
  | .eqs neg ks x y => match x.val S, y.val S with
    | .agg cs, .agg ds => (eqCs ks cs ds).map fun b => (.bool (xor neg b), none)
    | _, _ => none
  | .eqb neg x y => match x.val S, y.val S with
    | .bool a, .bool b => some (.bool (xor neg (decide (a = b))), none)
    | _, _ => none
  | .not x => match x.val S with
    | .bool b => some (.bool !b, none)
    | _ => none
  | .conv k x => match x.val S with
    | .int _ n => some (.int k (k.wrap n), none)
    | _ => none
  | .len true x => match x.val S with
    | .str s => some (.int .i64 s.size, none)
    | _ => none
  | .len false x => (elems S (x.val S)).map fun es => (.int .i64 es.length, none)
  | .call f xs => callPV Γ nid S f (xs.map (·.val S))
  | .callv fv xs => match fv.val S with
    | .clo f caps => callPV Γ nid S f (xs.map (·.val S) ++ caps)
    | .bnd f first => callPV Γ nid S f (first ++ xs.map (·.val S))
    | _ => none
  | .app z e k bytes s x => match elems S (x.val S) with
    | some news => if news.all (fun u => u.length == k && u.all PV.one) then (match s.val S with
      | .nils => if news.length * bytes ≤ 140737488355328 ∧ news.length ≤ maxLen then appR z nid ((S.H nid).ver + 1) e k news else none
      | .own id ver => if (S.H id).ver = ver then (match (S.H id).c with
        | .row e' k' es => if e = e' ∧ k = k' ∧ (es.length + news.length) * bytes ≤ 140737488355328 ∧ es.length + news.length ≤ maxLen then appR z id (ver + 1) e k (es ++ news) else none
        | _ => none) else none
      | _ => none) else none
    | none => none
  | .nilck x => match x.val S with
    | .ptr id ver off => if (S.H id).ver = ver then (match (S.H id).c with | .box _ => some (.ptr id ver off, none) | _ => none) else none
    | .ref cs => some (.ref cs, none)
    | .clo f cs => some (.clo f cs, none)
    | _ => none
  | .extr i x => match x.val S with
    | .tup cs => (cs[i]?).map (·, none)
    | _ => none
  | .mkf f caps => some (.clo f (caps.map (·.val S)), none)
  | .mkb f first => some (.bnd f (first.map (·.val S)), none)
  | .mks e k bytes z l c => match l.val S, c.val S with
    | .int _ n, .int _ m => if n = m ∧ 0 ≤ n ∧ n.toNat * bytes ≤ 140737488355328 ∧ n.toNat ≤ maxLen then some (.own nid ((S.H nid).ver + 1), some (nid, ⟨(S.H nid).ver + 1, .row e k (List.replicate n.toNat (z.map nz))⟩)) else none
    | _, _ => none
  | .slc k x lo hi => match x.val S with
    | .sl es => if es.all (fun e => e.length == k) then
      match (match lo with | none => some (0 : Int) | some l => (match l.val S with | .int _ n => some n | _ => none)), (match hi with | none => some (es.length : Int) | some h => (match h.val S with | .int _ n => some n | _ => none)) with
      | some l, some h => if 0 ≤ l ∧ l ≤ h ∧ h ≤ es.length then some (.sl ((es.take h.toNat).drop l.toNat), none) else none
      | _, _ => none
      else none
    | .own id ver => if (S.H id).ver = ver then (match (S.H id).c with
      | .row _ k' es => if k = k' then
        match optI S lo 0, optI S hi es.length with
        | some l, some h => if 0 ≤ l ∧ l ≤ h ∧ h ≤ es.length then some (.view id ver k l.toNat (h.toNat - l.toNat), none) else none
        | _, _ => none
        else none
      | _ => none) else none
    | .view id ver k0 lo0 n0 => if (S.H id).ver = ver then (match (S.H id).c with
      | .row _ k' _ => if k = k' ∧ k0 = k then
        match optI S lo 0, optI S hi n0 with
        | some l, some h => if 0 ≤ l ∧ l ≤ h ∧ h ≤ n0 then some (.view id ver k (lo0 + l.toNat) (h.toNat - l.toNat), none) else none
        | _, _ => none
        else none
      | _ => none) else none
    | _ => none
  | .minmax mx x y => match x.val S, y.val S with
    | .int k a, .int k' b => if k = k' then some (.int k (if mx then (if b > a then b else a) else (if b < a then b else a)), none) else none
    | _, _ => none
  | .isnil neg x => match x.val S with
    | .nils => some (.bool !neg, none)
    | y => match elems S y with
      | some [] => some (.ubool, none)
      | some (_ :: _) => some (.bool neg, none)
      | none => none
  | .sidx x i => match x.val S, i.val S with
    | .str s, .int _ n => (sidx s n).map fun b => (.int .u8 b, none)
    | _, _ => none
  | .aidx _ n len k x i => match x.val S, i.val S with
    | .agg cs, .int _ j => if 0 ≤ j ∧ j < len then (ldn n ((cs.drop (j.toNat * k)).map nz)).map (·, none) else none
    | _, _ => none
  | .lookup ok z x y => match x.val S, y.val S with
    | .mapv ks vs, .agg [.int k a, .int l b] => (mfind k a l b ks vs).map fun r => (if ok then .tup [r.getD (nz z), .bool r.isSome] else r.getD (nz z), none)
    | _, _ => none
  | .fld n off x => match x.val S with
    | .agg cs => (ldn n (cs.drop off)).map (·, none)
    | _ => none
  | .pur q xs => (evalP q (xs.map (·.val S))).map (·, none)
  | .cpy e k x y => match elems S (y.val S) with
    | none => none
    | some ys => match x.val S with
      | .own id ver => if (S.H id).ver = ver then (match (S.H id).c with
        | .row e' k' es => if e = e' ∧ k = k' ∧ ys.all (fun u => u.length == k && u.all PV.one) = true then some (.int .i64 (min es.length ys.length : Nat), some (id, ⟨ver, .row e k (cpyL es 0 es.length ys)⟩)) else none
        | _ => none) else none
      | .view id ver k0 lo n => if (S.H id).ver = ver then (match (S.H id).c with
        | .row e' k' es => if e = e' ∧ k = k' ∧ k0 = k ∧ ys.all (fun u => u.length == k && u.all PV.one) = true then some (.int .i64 (min n ys.length : Nat), some (id, ⟨ver, .row e k (cpyL es lo n ys)⟩)) else none
        | _ => none) else none
      | _ => none
  | .clear k z x => match x.val S with
    | .view id ver k0 lo n => if (S.H id).ver = ver then (match (S.H id).c with
      | .row e k' es => if k = k' ∧ k0 = k ∧ z.length = k ∧ z.all PV.one = true then some (.tup [], some (id, ⟨ver, .row e k (es.take lo ++ List.replicate n (z.map nz) ++ es.drop (lo + n))⟩)) else none
      | _ => none) else none
    | _ => none

structure SG where
  d : Option Nat
  g : Option (Nat × Bool)
  op : SOp

def St.app (S : St) (d : Option Nat) (x : PV) (wr : Option (Nat × AObj)) : St :=
  { env := match d with | some d => upd S.env d x | none => S.env
    H := match wr with | some (id, o) => upd S.H id o | none => S.H
    N := S.N }

/-- does the operation run? -/
def SG.wanted (S : St) (o : SG) : Option Bool :=
  match o.g with
  | none => some true
  | some (t, want) => match S.env t with
    | .bool b => some (b == want)
    | .undef => some false
    | _ => none

def stp (Γ : Tab) (nid : Nat) (S : St) (o : SG) : Option St :=
  match o.wanted S with
  | some true => (exec Γ nid S o.op).map fun p => S.app o.d p.1 p.2
  | some false => some (S.app o.d .undef none)
  | none => none

def runG (Γ : Tab) : Nat → List SG → St → Option St
  | _, [], S => some S
  | nid, o :: rest, S => match stp Γ nid S o with
    | some S' => runG Γ (nid + 1) rest S'
    | none => none

/-! ### from the machine's operations -/
def constPV : Value → Option PV
  | .bool b => some (.bool b)
  | .int k n => some (.int k n)
  | .string s => some (.str s)
  | .pointer none => some .nilp
  | .slice none 0 0 => some .nils
  | .nilFunc => some .any
  | .nilIface => some (.nili true)
  | _ => none
def copd : Operand → Option Opd
  | .tmp t => some (.tmp t)
  | .const v => (constPV v).map .cst
  | .func f => some (.cst (.clo f []))
  | .global _ => none
def aggN (P : Program) (t : TypeId) : Option (Option Nat) :=
  match P.underlying t with
  | some (.struct _) | some (.array _ _) => (P.info? t).map fun i => some i.size
  | some _ => some none
  | none => none
def zeroC (P : Program) (t : TypeId) : Option (List PV) :=
  match P.info? t with
  | some i => match i.zero with
    | some z => if z.cells.size = i.size then z.cells.toList.mapM constPV else none
    | none => none
  | none => none

def cparts (place : Nat → Option (Nat × Nat)) (parts : List (Nat × Operand)) : Option (List (Nat × Nat × Opd)) :=
  parts.mapM fun p => do
    let q ← place p.1
    let y ← copd p.2
    some (q.1, q.2, y)

/-- the cells of a comparable value of plain parts -/
def eqFs (P : Program) (sh : TypeId → Option (List LK)) : List Field → Nat → Option (List LK)
  | [], _ => some []
  | f :: fs, off =>
    if f.name ≠ "_" ∧ f.offset = off then
      match sh f.type, P.info? f.type with
      | some ks, some i => if i.size = ks.length then (eqFs P sh fs (off + ks.length)).map (ks ++ ·) else none
      | _, _ => none
    else none
def eqSh (P : Program) : Nat → TypeId → Option (List LK)
  | 0, _ => none
  | d + 1, t => match P.underlying t with
    | some (.int _) => some [.i]
    | some .string => some [.s]
    | some .bool => some [.b]
    | some (.struct fs) => if P.stoodInHeld t = false then eqFs P (eqSh P d) fs.toList 0 else none
    | _ => none
def zHint (hs : List Nat) (o : Oper) : Bool := match o.dst with | some t => hs.contains t | none => false
def cop (P : Program) (hs : List Nat) (o : Oper) : Option SOp :=
  match o.op with
  | .move x | .assign x => do some (.mov (← copd x))
  | .pick c a b => do some (.pick (← copd c) (← copd a) (← copd b))
  | .box _ x => do
    let y ← copd x
    some (match o.dst with | some t => (match hs.contains t with | true => .boxr y | false => .box y) | none => .box y)
  | .alloc t => do some (.alloc (← zeroC P t))
  | .load t p => do some (.load (← aggN P t) (← copd p))
  | .store t p x => do some (.store (← P.info? t).size (← copd p) (← copd x))
  | .build t parts =>
    match P.underlying t with
    | some (.struct fields) => do
      let z ← zeroC P t
      let places ← fields.toList.mapM (fun f => (P.info? f.type).map fun i => (f.offset, i.size))
      some (.build z (← cparts (fun i => places[i]?) parts.toList))
    | some (.array _ e) => do
      let z ← zeroC P t
      let i ← P.info? e
      some (.build z (← cparts (fun j => some (j * i.size, i.size)) parts.toList))
    | _ => none
  | .buildSlice t len parts =>
    match P.underlying t with
    | some (.slice e) => do
      let i ← P.info? e
      let z ← zeroC P e
      let ps ← parts.toList.mapM fun p => (copd p.2).map fun y => (p.1, y)
      if len * i.size ≤ 16777216 ∧ 0 < i.size ∧ len ≤ maxLen then some (.bsl (match o.dst with | some t => hs.contains t | none => true) e i.size (List.replicate len z) ps) else none
    | _ => none
  | .fieldAddr s x f =>
    match P.underlying s with
    | some (.struct fields) => do
      let fd ← fields[f]?
      let i ← P.info? fd.type
      if i.size = 0 then none else some (.faddr fd.offset (← copd x))
    | _ => none
  | .indexAddr t x i =>
    match P.underlying t with
    | some (.slice e) => do some (.iaddr (← P.info? e).size (← copd x) (← copd i))
    | some (.array n e) => do some (.aaddr (← P.info? e).size n (← copd x) (← copd i))
    | _ => none
  | .binOp op t x y _ =>
    match P.underlying t with
    | some (.struct fs) =>
      match fs.toList with
      | [f, g] =>
        match P.underlying f.type, P.underlying g.type with
        | some (.int _), some .string =>
          if f.offset = 0 ∧ g.offset = 1 ∧ f.name ≠ "_" ∧ g.name ≠ "_" ∧ P.stoodInHeld t = false ∧ P.eqGuardType P.depth t = false then
            match op with
            | .eql => do some (.eq2 false (← copd x) (← copd y))
            | .neq => do some (.eq2 true (← copd x) (← copd y))
            | _ => none
          else none
        | _, _ =>
          match eqSh P 64 t with
          | some ks =>
            if P.eqGuardType P.depth t = false then
              match op with
              | .eql => do some (.eqs false ks (← copd x) (← copd y))
              | .neq => do some (.eqs true ks (← copd x) (← copd y))
              | _ => none
            else none
          | none => none
      | _ =>
        match eqSh P 64 t with
        | some ks =>
          if P.eqGuardType P.depth t = false then
            match op with
            | .eql => do some (.eqs false ks (← copd x) (← copd y))
            | .neq => do some (.eqs true ks (← copd x) (← copd y))
            | _ => none
          else none
        | none => none
    | some (.slice _) =>
      match y with
      | .const (.slice none 0 0) =>
        match op with
        | .eql => do some (.isnil false (← copd x))
        | .neq => do some (.isnil true (← copd x))
        | _ => none
      | _ => none
    | some .bool =>
      match op with
      | .eql => do some (.eqb false (← copd x) (← copd y))
      | .neq => do some (.eqb true (← copd x) (← copd y))
      | _ => none
    | some .string =>
      match op with
      | .add => do some (.pur .scat [← copd x, ← copd y])
      | _ => do some (.bin op (← copd x) (← copd y))
    | some (.interface _) =>
      match y with
      | .const .nilIface =>
        match op with
        | .eql => do some (.pur (.inil false) [← copd x])
        | .neq => do some (.pur (.inil true) [← copd x])
        | _ => none
      | _ => none
    | _ => do some (.bin op (← copd x) (← copd y))
  | .unOp .not _ x => do some (.not (← copd x))
  | .convert src dst x =>
    match P.underlying src, P.underlying dst with
    | some (.int _), some (.int k) => do some (.conv k (← copd x))
    | some (.slice e), some .string =>
      match P.underlying e with
      | some (.int .u8) => do some (.pur .b2s [← copd x])
      | _ => none
    | _, _ => none
  | .index t x i =>
    match P.underlying t with
    | some .string => do some (.sidx (← copd x) (← copd i))
    | some (.array len e) => do some (.aidx e (← aggN P e) len (← P.info? e).size (← copd x) (← copd i))
    | _ => none
  | .lookup t m x ok =>
    match P.underlying t with
    | some (.map kt vt) =>
      match P.underlying kt with
      | some (.struct fs) =>
        match fs.toList with
        | [f, g] =>
          match P.underlying f.type, P.underlying g.type with
          | some (.int _), some (.int _) =>
            if f.offset = 0 ∧ g.offset = 1 ∧ f.name ≠ "_" ∧ g.name ≠ "_" ∧ P.stoodInHeld kt = false then do
              let i ← P.info? vt
              let z0 ← i.zero
              let z ← constPV z0
              some (.lookup ok z (← copd m) (← copd x))
            else none
          | _, _ => none
        | _ => none
      | _ => none
    | _ => none
  | .nilCheck x => do some (.nilck (← copd x))
  | .extract x i => do some (.extr i (← copd x))
  | .makeFunc (.func f) first caps => if first.size = 0 then do some (.mkf f (← caps.toList.mapM copd)) else if caps.size = 0 then do some (.mkb f (← first.toList.mapM copd)) else none
  | .makeSlice t l c =>
    match P.underlying t with
    | some (.slice e) => do
      let i ← P.info? e
      if 0 < i.size then some (.mks e i.size i.bytes (← zeroC P e) (← copd l) (← copd c)) else none
    | _ => none
  | .slice t x lo hi none =>
    match P.underlying t with
    | some (.slice e) => do
      let i ← P.info? e
      some (.slc i.size (← copd x) (← lo.mapM copd) (← hi.mapM copd))
    | some .string =>
      match lo, hi with
      | none, none => none
      | some l, none => do some (.pur (.sslc true false) [← copd x, ← copd l])
      | none, some h => do some (.pur (.sslc false true) [← copd x, ← copd h])
      | some l, some h => do some (.pur (.sslc true true) [← copd x, ← copd l, ← copd h])
    | _ => none
  | .call { callee := .value f, args, .. } => do
    let xs ← args.toList.mapM copd
    match f with
    | .func f => some (.call f xs)
    | _ => some (.callv (← copd f) xs)
  | .call { callee := .builtin b, args, argTypes } =>
    match b, args.toList, argTypes.toList with
    | .len, [x], [t] =>
      match P.underlying t with
      | some .string => do some (.len true (← copd x))
      | some (.slice _) => do some (.len false (← copd x))
      | _ => none
    | .append, [s, x], [t, t'] =>
      match P.underlying t with
      | some (.slice e) => do
        let i ← P.info? e
        let z ← i.zero
        if t = t' ∧ z.cells.size = i.size ∧ 0 < i.size then some (.app (zHint hs o) e i.size i.bytes (← copd s) (← copd x)) else none
      | _ => none
    | .clear, [x], [t] =>
      match P.underlying t with
      | some (.slice e) => do
        let i ← P.info? e
        some (.clear i.size (← zeroC P e) (← copd x))
      | _ => none
    | .copy, [x, y], [t, t'] =>
      match P.underlying t with
      | some (.slice e) => do
        let i ← P.info? e
        if t = t' ∧ 0 < i.size then some (.cpy e i.size (← copd x) (← copd y)) else none
      | _ => none
    | .min, [x, y], _ => do some (.minmax false (← copd x) (← copd y))
    | .max, [x, y], _ => do some (.minmax true (← copd x) (← copd y))
    | _, _, _ => none
  | .field t x i =>
    match P.underlying t with
    | some (.struct fs) =>
      match fs[i]? with
      | some f => do some (.fld (← aggN P f.type) f.offset (← copd x))
      | none => none
    | _ => none
  | .makeInterface t x => if P.concrete t = true then do some (.pur (.mki t) [← copd x]) else none
  | .typeAssert x _ t true =>
    match P.underlying t, P.info? t with
    | some (.interface _), _ => none
    | some _, some i => do some (.pur (.tas t (← constPV (← i.zero))) [← copd x])
    | _, _ => none
  | .unOp .neg _ x => do some (.pur .neg [← copd x])
  | _ => none
end Go.TQ
