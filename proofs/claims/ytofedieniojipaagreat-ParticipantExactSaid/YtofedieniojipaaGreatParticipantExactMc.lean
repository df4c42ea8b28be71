/-
  Texts made small by a program (see NOTES). Conditions: those that each theorem names.
-/
import Derived.Test.YtofedieniojipaaGreatParticipantExactMb
import Derived.KernelRfl
import Derived.Laws.CopyRow
import Derived.Laws.Externs
import Derived.Lib.Overlaps
import Derived.Lib.AppendZerosOnto
import Derived.Laws.NewBlocks
import Derived.Test.YtofedieniojipaaGreatProg
import Derived.Shelf.Spec.SlicesInsert
import Derived.Shelf.SlSortCmp.NoneTotal
set_option linter.unusedVariables false
set_option linter.defProp false
set_option linter.unusedSimpArgs false
set_option linter.unusedSectionVars false
set_option maxHeartbeats 2000000
open Int (toNat)
open Sum (inl inr)
open List (replicate)
noncomputable section
namespace Go.TQ
section
def op{U:TU}(d:Nat)(x:cU)(r:RS U):RS U:= .op ⟨some d,none,x⟩ r
def ops{U:TU}(x:cU)(r:RS U):RS U:= .op ⟨none,none,x⟩ r
def tm(t:Nat):bD:= .tmp t
def ci(n:Int):bD:= .Bp (.int .i64 n)
def ld{U:TU}(d t:Nat)(r:RS U):RS U:=op d (.load none (tm t)) r
def cl{U:TU}(d f:Nat)(l:Z Nat)(r:RS U):RS U:=op d (.call f (l.map tm)) r
def aC(k:IntKind)(a b:Int):Int:=k.wrap (a+b)
def cQ(k:IntKind)(a b:Int):Int:=k.wrap (a - b)
def sv(k:IntKind)(a b:Int):Int:=k.wrap (a*b)
def Yp(k:IntKind)(a b:Int):Int:=k.wrap (a.tdiv b)
def acv(_:IntKind)(a b:Int):Int:=a.tmod b
def GH(k:IntKind)(a b:Int):Int:=k.wrap ((BitVec.ofInt k.bits a&&&BitVec.ofInt k.bits b).toNat)
def tH(k:IntKind)(a b:Int):Int:=k.wrap ((BitVec.ofInt k.bits a|||BitVec.ofInt k.bits b).toNat)
def dX(k:IntKind)(a b:Int):Int:=k.wrap ((BitVec.ofInt k.bits a^^^BitVec.ofInt k.bits b).toNat)
def De(k:IntKind)(a b:Int):Int:=k.wrap ((BitVec.ofInt k.bits a&&& ~~~ BitVec.ofInt k.bits b).toNat)
def cj(k:IntKind)(a b:Int):Int:=k.wrap (a*2 ^ (min b.toNat k.bits))
def kb(k:IntKind)(a b:Int):Int:=a.fdiv (2 ^ (min b.toNat k.bits))
def bu(k:IntKind)(n:Int):Int:=k.wrap n
def dy(a b:Int):Int:=if b<a then b else a
def bO(a b:Int):Int:=if b>a then b else a
def nF(neg:Bool)(a b:Int)(s t:C):Bool:=xor neg (decide (a=b)&&decide (s=t))
def kU{A R:Type}(B:(A->Y R)->A->Y R):Nat->A->Y R
 |0,_=>none
 |n+1,a=>B (kU B n) a
section
variable{U:TU}
inductive RN (U:TU) where
 |ps (p:Ps U)
 |Ey (t:Nat)
def afN(t:Nat):Z SG->Y (Z SG×SG×Z SG)
 |[]=>none
 |o::r=>(match o.op with
  | .pick (.tmp c) _ _=>(match Nat.beq t c with
   |true=>some ([],o,r)
   |false=>(match afN t r with|some (b,q,a)=>some (o::b,q,a)|none=>none))
  |_=>(match afN t r with|some (b,q,a)=>some (o::b,q,a)|none=>none))
def before(n:Nat):Z (Nat×RN U)->Z (Nat×RN U)
 |[]=>[]
 |(j,x)::l=>(match Nat.ble n j with|true=>[]|false=>(j,x)::before n l)
def after(n:Nat):Z (Nat×RN U)->Z (Nat×RN U)
 |[]=>[]
 |(j,x)::l=>(match Nat.ble n j with|true=>(j,x)::l|false=>after n l)
def xR(tT:Bool):Nat->Z Nat->Nat->Z SG->Z (Nat×RN U)->RS U
 |0,_,_,_,_=> .nil
 |f+1,kn,i,[],c=>(match c with
  |(_,.ps p)::a=> .ps p (xR tT f kn i [] a)
  |(_,.Ey t)::a=> .Ey t (xR tT f (t::kn) i [] a)
  |_=> .nil)
 |f+1,kn,i,o::r,c=>(match(match c with|(j,_)::_=>Nat.beq j i|[]=>false)with
  |true=>(match c with
   |(_,.ps p)::a=> .ps p (xR tT f kn i (o::r) a)
   |(_,.Ey t)::a=> .Ey t (xR tT f (t::kn) i (o::r) a)
   |[]=> .nil)
  |false=>(match o.g with
   |none=> .op o (xR tT f kn (Nat.succ i) r c)
   |some (t,w)=>(match je t kn with
    |true=> .op o (xR tT f kn (Nat.succ i) r c)
    |false=>(match tT with
     |true=> .Ey t (xR tT f (t::kn) i (o::r) c)
     |false=>(match afN t (o::r)with
      |some (b,q,d)=>(match q.op with
       | .pick _ x y=> .ite t w (xR tT f (t::kn) i b (before (Nat.add i b.length) c)) (q.d.getD 0) q.g x y (xR tT f kn (Nat.succ (Nat.add i b.length)) d (after (Nat.add i b.length) c))
       |_=> .nil)
      |none=> .nil)))))
inductive NT (U:TU) where
 |e
 |l (x:NT U)
 |r (x:NT U)
 |b (x y:NT U)
 |ps (p:Ps U) (x:NT U)
 |DJ (p:Ps U) (x:NT U)
 |j (J:JS U) (x:NT U)
 |u (n:Nat) (x:NT U)
 |k (J:JS U) (f k:Nat) (nE:Option Nat) (T:U.Ty) (x:NT U)
 |o (J:JS U) (f:Nat) (x:NT U)
 |i (n:Nat) (f:FuncId) (nt:Nat) (rvs:List RV) (x:SA U) (ns ms:List (Nat×RN U))
 |g (ns:List (Nat×RN U))
def NT.lt:NT U->NT U
 | .l x| .b x _=>x
 | .j _ x| .k _ _ _ _ _ x| .o _ _ x| .ps _ x| .DJ _ x=>x.lt
 |_=> .e
def NT.rt:NT U->NT U
 | .r x| .b _ x=>x
 | .j _ x| .k _ _ _ _ _ x| .o _ _ x| .ps _ x| .DJ _ x=>x.rt
 |_=> .e
def NT.wrap:NT U->SA U->SA U
 | .ps p x,s=> .ps p (x.wrap s)
 | .DJ p x,s=> .DJ p (x.wrap s)
 |_,s=>s
def NT.core:NT U->NT U
 | .ps _ x| .DJ _ x=>x.core
 |x=>x
def cO:SC->NT U->SA U
 | .skip,t=>t.wrap .skip
 | .vW ops,t=>t.wrap (match t.core with
  | .g a=> .vW (xR false 4000 [] 0 ops a)
  | .i n f nt b x a ms=>(match ops.drop n with
   |o::r=>(match o.op with
    | .call _ xs=> .inl (xR false 4000 [] 0 (ops.take n) a) o.d f none xs nt b x (xR false 4000 [] 0 r ms)
    | .wC j xs=> .inl (xR false 4000 [] 0 (ops.take n) a) o.d f (some j) xs nt b x (xR false 4000 [] 0 r ms)
    |_=> .skip)
   |[]=> .skip)
  |_=> .vW (xR false 4000 [] 0 ops []))
 | .tT un ops,t=>t.wrap (.tT un (match t.core with| .g a=>xR true 4000 [] 0 ops a|_=>xR true 4000 [] 0 ops []))
 | .seq x y,t=>t.wrap (match t.core with
  | .j J u=> .join J (cO x u.lt) (cO y u.rt)
  |u=> .seq (cO x u.lt) (cO y u.rt))
 | .cond c x y,t=>t.wrap (.cond c (cO x t.lt) (cO y t.rt))
 | .block id x,t=>t.wrap (.block id (cO x t.lt))
 | .loop x,t=>t.wrap (match t.core with
  | .j J u=> .loop J (cO x u.lt)
  | .u n t=> .OW n (cO x t.lt)
  |_=> .loop ⟨[],[]⟩ (cO x t.lt))
 | .Iz g ps x y,t=>t.wrap (match t.core with
  | .k J f k h T u=>(match g with
   | .tmp d=> .back J f k h T d (ps.headD 0) (ps.tail.headD 0) (cO x u.lt) (cO y u.rt)
   |_=> .skip)
  |_=> .skip)
 | .exit id,t=>t.wrap (.exit id)
 | .ret,t=>t.wrap .ret
def cn(P:Pr)(nt:Nat)(a:Z Nat)(fn:Func):SC:=(fn.body.bind (aZ P nt a)).getD .skip
end
section
variable{U:TU}{P:Pr}
structure KS (U:TU) (P:Program) where
 k:eB U
 s:k.Sound P
def KS.ks:Z (KS U P)->Z (eB U)
 |[]=>[]
 |x::l=>x.k::KS.ks l
def KS.all:∀l:Z (KS U P),xt P (KS.ks l)
 |[]=>trivial
 |x::l=>⟨x.s,KS.all l⟩
variable{K:TK U}{f:FI}{A_s:Z (dK U)}{r:sH U}{e k:Nat}{T R:U.Ty}
def fk{f nt:Nat}{c:SC}{rs:Z RV}(fn:Func)(a:Z Nat)(b:P.funcs[f]?=some fn)(h0:fn.ntmps=nt:=by rfl)(j:(fn.body.bind (aZ P nt a))=some c:=by kernel_rfl)(h:oF P fn.results.toList=some rs:=by kernel_rfl)(d:(fn.name== "runtime.NumGoroutine")=false:=by kernel_rfl):jD P f nt c rs:=⟨fn,a,b,h0,j,h,d⟩
def fnS(sa:SA U)(nt:Nat)(d:Z RV)(G:Z (KS U P))(h:jD P f nt sa.erase d)(c:sa.dR=true:=by kernel_rfl)(b:A_s.length<=nt:=by decide){F:fb A_s->Y r.den}(hF:Zw K (KS.ks G) sa d A_s r=F:=by kernel_rfl):eB.Sound P (.fn f A_s r F):=
 MY h (qP c) b (KS.all G) λa=>qax hF a
def Rv(sa:SA U)(nt:Nat)(d:Z RV)(G:Z (KS U P))(l:Z (FI×Nat×SC×Z RV))(hi:zg P l)(j:jD P f nt sa.erase d)(c:sa.CW=true:=by kernel_rfl)(h:sa.Vk=l:=by kernel_rfl)(b:A_s.length<=nt:=by decide){F:fb A_s->Y r.den}(hF:alw K (KS.ks G) sa d A_s r=F:=by kernel_rfl):eB.Sound P (.fn f A_s r F):=
 adf j (CV c (by rw[h];exact hi)) b (KS.all G) λa=>qax hF a
def rcS{pos:Nat}(sa:SA U)(nt:Nat)(d:Z RV)(G:Z (KS U P))(h:jD P f nt sa.erase d)(c:sa.dR=true:=by kernel_rfl)(b:1+A_s.length<=nt:=by decide){F:U.den R->fb A_s->Y (r.den×U.den R)}(hF:rcK K (KS.ks G) sa d pos R A_s r=F:=by kernel_rfl):eB.Sound P (.rc f pos R A_s r F):=
 aea h (qP c) b (KS.all G) λs a=>qax (qax hF s) a
def roS{pos:Nat}{F:U.den R->fb A_s->Y (r.den×U.den R)}(h:eB.Sound P (.rc f pos R A_s r F))(b:∀s a q,F s a=some q->q.2=s):eB.Sound P (.ro f pos R A_s r F):=
 ⟨h.1,λs a v s' hv=>⟨b s a _ hv,h.2 s a v s' hv⟩⟩
def nwS(sa:SA U)(nt t:Nat)(G:Z (KS U P))(d:jD P f nt sa.erase [.tmp t])(c:sa.dR=true:=by kernel_rfl)(b:A_s.length<=nt:=by decide){F:fb A_s->Y (U.den R)}(hF:nwK K (KS.ks G) sa [.tmp t] A_s R=F:=by kernel_rfl):eB.Sound P (.nw f A_s R F):=
 aeE d (qP c) b (KS.all G) λa=>qax hF a
def ZL(sa:SA U)(nt:Nat)(d:Z RV)(G:Z (KS U P))(h:jD P f nt sa.erase d)(c:sa.dR=true:=by kernel_rfl)(b:1+A_s.length<=nt:=by decide){F:Z (U.den T)->fb A_s->Y (Z (U.den T))}(hF:cwK K (KS.ks G) sa d e k T A_s=F:=by kernel_rfl):eB.Sound P (.cw f e k T A_s F):=
 afh h (qP c) b (KS.all G) λs a=>qax (qax hF s) a
def fwS(sa:SA U)(nt:Nat)(d:Z RV)(G:Z (KS U P))(h:jD P f nt sa.erase d)(c:sa.dR=true:=by kernel_rfl)(b:A_s.length<=nt:=by decide){F:fb A_s->Y (Z (U.den T))}(hF:fwK K (KS.ks G) sa d A_s e k T=F:=by kernel_rfl):eB.Sound P (.fw f A_s e k T F):=
 ae5 h (qP c) b (KS.all G) λa=>qax hF a
def fnR(sa:SA U)(nt:Nat)(d:Z RV)(G:Z (KS U P))(j:jD P f nt sa.erase d)(c:sa.dR=true:=by kernel_rfl)(b:A_s.length<=nt:=by decide){B:(fb A_s->Y r.den)->fb A_s->Y r.den}(l:(λg=>Zw K (.fn f A_s r g::KS.ks G) sa d A_s r)=B):∀n,eB.Sound P (.fn f A_s r (kU B n))
 |0=>⟨j.enters,λa r h=>by cases h⟩
 |n+1=>MY (K:=K) (Γ:= .fn f A_s r (kU B n)::KS.ks G) (F:=kU B (n+1)) j (qP c) b ⟨fnR sa nt d G j c b l n,KS.all G⟩ λa=>qax (qax l (kU B n)) a
def Cb(sa:SA U)(nt:Nat)(c:Z RV)(G:Z (KS U P))(j:jD P f nt sa.erase c)(d:sa.dR=true:=by kernel_rfl)(b:A_s.length<=nt:=by decide){B:(fb A_s->Y r.den)->fb A_s->Y r.den}(m:(λg=>Zw K (.fn f A_s r g::KS.ks G) sa c A_s r)=B:=by kernel_rfl){F:fb A_s->Y r.den}(hF:∀a,∃n,F a=kU B n a):eB.Sound P (.fn f A_s r F):=
 ⟨j.enters,λa r h=>by
  obtain⟨n,l⟩:=hF a;rw[l]at h
  exact(fnR sa nt c G j d b m n).2 a r h⟩
def ade(sa:SA U)(nt:Nat)(d:Z RV)(G:(g:fb A_s->Y r.den)->eB.Sound P (.fn f A_s r g)->Z (KS U P))(j:jD P f nt sa.erase d)(c:sa.dR=true:=by kernel_rfl)(b:A_s.length<=nt:=by decide){B:(fb A_s->Y r.den)->fb A_s->Y r.den}(l:(λg h=>Zw K (.fn f A_s r g::KS.ks (G g h)) sa d A_s r)=λg _=>B g):∀n,eB.Sound P (.fn f A_s r (kU B n))
 |0=>⟨j.enters,λa r h=>by cases h⟩
 |n+1=>MY (K:=K) (Γ:= .fn f A_s r (kU B n)::KS.ks (G (kU B n) (ade sa nt d G j c b l n))) (F:=kU B (n+1)) j (qP c) b ⟨ade sa nt d G j c b l n,KS.all _⟩ λa=>qax (qax (qax l (kU B n)) (ade sa nt d G j c b l n)) a
def amR(sa:SA U)(nt:Nat)(c:Z RV)(G:(g:fb A_s->Y r.den)->eB.Sound P (.fn f A_s r g)->Z (KS U P))(j:jD P f nt sa.erase c)(d:sa.dR=true:=by kernel_rfl)(b:A_s.length<=nt:=by decide){B:(fb A_s->Y r.den)->fb A_s->Y r.den}(m:(λg h=>Zw K (.fn f A_s r g::KS.ks (G g h)) sa c A_s r)=(λg _=>B g):=by kernel_rfl){F:fb A_s->Y r.den}(hF:∀a,∃n,F a=kU B n a):eB.Sound P (.fn f A_s r F):=
 ⟨j.enters,λa r h=>by
  obtain⟨n,l⟩:=hF a;rw[l]at h
  exact(ade sa nt c G j d b m n).2 a r h⟩
end
end
section
structure aq where
 aN:Int
 bc:(List Int)
 aR:(List aq)
theorem aq.eta(x:aq):aq.mk x.aN x.bc x.aR=x:=by cases x;rfl
@[reducible] def ao (x:aq):aq:=aq.mk x.aN x.bc x.aR
structure aA where
 ak:Int
 aI:Int
 aa:aq
 bj:(List ByteArray)
 aG:(List ByteArray)
@[simp] theorem aA.eta (x:aA):aA.mk x.ak x.aI x.aa x.bj x.aG=x:=rfl
structure av where
 ak:Int
 aJ:Int
 Round:Int
 aI:Int
 aa:aq
 oa:ByteArray
 bj:(List ByteArray)
 aG:(List ByteArray)
 aU:(List ByteArray)
 au:(List aA)
@[simp] def av.eta (x:av):av.mk x.ak x.aJ x.Round x.aI x.aa x.oa x.bj x.aG x.aU x.au=x:=rfl
structure ah where
 ai:Int
 Value:ByteArray
@[simp] def ah.eta (x:ah):ah.mk x.ai x.Value=x:=rfl
structure aj where
 ak:Int
 aJ:Int
 aI:Int
 aa:aq
 bF:Int
 af:ah
 ar:ah
 aH:ah
 bg:Int
 bx:Int
@[simp] theorem aj.eta (x:aj):aj.mk x.ak x.aJ x.aI x.aa x.bF x.af x.ar x.aH x.bg x.bx=x:=rfl
structure ae where
 ak:Int
 aJ:Int
 aI:Int
 aa:aq
 aW:Int
 af:ah
 ar:ah
 aH:ah
 aB:ah
 bg:Int
 bx:Int
 bm:ByteArray
 au:(List aj)
@[simp] def ae.eta (x:ae):ae.mk x.ak x.aJ x.aI x.aa x.aW x.af x.ar x.aH x.aB x.bg x.bx x.bm x.au=x:=rfl
structure fU where
 ai:Int
 Bt:Int
@[simp] def fU.eta (x:fU):fU.mk x.ai x.Bt=x:=rfl
structure aD where
 az:av
 ab:ae
 Timer:fU
 Round:Int
 Next:Int
 qL:Bool
 Value:ByteArray
@[simp] def aD.eta (x:aD):aD.mk x.az x.ab x.Timer x.Round x.Next x.qL x.Value=x:=rfl
structure al where
 ak:Int
 bh:Bool
 aa:aq
 ax:(List aD)
@[simp] def al.eta (x:al):al.mk x.ak x.bh x.aa x.ax=x:=rfl
structure bI where
 bF:Int
 aJ:Int
 aP:aA
 ay:aj
@[simp] def bI.eta (x:bI):bI.mk x.bF x.aJ x.aP x.ay=x:=rfl
structure mG where
 c0:al
 c1:al
 c2:al
 c3:al
@[simp] def mG.eta (x:mG):mG.mk x.c0 x.c1 x.c2 x.c3=x:=rfl
structure mH where
 c0:Int
 c1:Int
@[simp] def mH.eta (x:mH):mH.mk x.c0 x.c1=x:=rfl
structure sG where
 c0:mH
 c1:mH
@[simp] def sG.eta (x:sG):sG.mk x.c0 x.c1=x:=rfl
structure uD where
 c0:bI
 c1:bI
@[simp] def uD.eta (x:uD):uD.mk x.c0 x.c1=x:=rfl
structure dP where
 L:(List Int)
 At:Int
@[simp] def dP.eta (x:dP):dP.mk x.L x.At=x:=rfl
structure aM where
 ab:ae
@[simp] def aM.eta (x:aM):aM.mk x.ab=x:=rfl
structure bw where
 fQ:Bool
 aa:aq
@[simp] def bw.eta (x:bw):bw.mk x.fQ x.aa=x:=rfl
structure bs where
 bq:(List bw)
@[simp] def bs.eta (x:bs):bs.mk x.bq=x:=rfl
structure bL where
 ay:aj
@[simp] def bL.eta (x:bL):bL.mk x.ay=x:=rfl
structure il where
 ak:Int
 View:bs
 au:(List bL)
@[simp] def il.eta (x:il):il.mk x.ak x.View x.au=x:=rfl
structure ox where
 wD:Int
 Value:Int
@[simp] def ox.eta (x:ox):ox.mk x.wD x.Value=x:=rfl
structure de where
 ak:Int
 aI:Int
 aa:aq
 bj:(List ox)
 aG:(List ox)
@[simp] def de.eta (x:de):de.mk x.ak x.aI x.aa x.bj x.aG=x:=rfl
structure KG where
 bf:Int
 low:Int
 cv:Int
 aY:ah
 fA:ah
 cm:ah
 eO:ah
@[simp] def KG.eta (x:KG):KG.mk x.bf x.low x.cv x.aY x.fA x.cm x.eO=x:=rfl
structure uE where
 c0:ah
 c1:ah
@[simp] def uE.eta (x:uE):uE.mk x.c0 x.c1=x:=rfl
structure fZ where
 Xc:Int
 Xd:Int
@[simp] def fZ.eta (x:fZ):fZ.mk x.Xc x.Xd=x:=rfl
attribute [simp] aq.eta
inductive pc where
 |aa
 |aP
 |az
 |af
 |ay
 |ab
 |Timer
 |aJ
 |mf
 |sI
 |jR
 |vT
 |pr
 |rK
 |Src
 |Al
 |vu
 |Config
 |ze
 |Seen
 |Claim
 |Message
 |oa
 |rL
 |GN
 deriving DecidableEq
inductive Ty where
 |i (k:IntKind)
 |bool
 |str
 |sl (t:Ty)
 |st (n:pc)
def pc.den:pc->Type
 | .aa=>aq
 | .aP=>aA
 | .az=>av
 | .af=>ah
 | .ay=>aj
 | .ab=>ae
 | .Timer=>fU
 | .aJ=>aD
 | .mf=>al
 | .sI=>bI
 | .jR=>mG
 | .vT=>mH
 | .pr=>sG
 | .rK=>uD
 | .Src=>dP
 | .Al=>aM
 | .vu=>bw
 | .Config=>bs
 | .ze=>bL
 | .Seen=>il
 | .Claim=>ox
 | .Message=>de
 | .oa=>KG
 | .rL=>uE
 | .GN=>fZ
def Ty.den:Ty->Type
 | .i _=>Int
 | .bool=>Bool
 | .str=>C
 | .sl t=>Z t.den
 | .st n=>n.den
def Ty.beq:Ty->Ty->Bool
 | .i k,.i k'=>decide (k=k')
 | .bool,.bool| .str,.str=>true
 | .sl t,.sl a=>Ty.beq t a
 | .st n,.st n'=>decide (n=n')
 |_,_=>false
def Ty.eq_of_beq:∀{a b:Ty},Ty.beq a b=true->a=b
 | .i k,.i k',h=>by rw[qal h]
 | .bool,.bool,_| .str,.str,_=>rfl
 | .sl t,.sl c,h=>by rw[Ty.eq_of_beq (a:=t) (b:=c) h]
 | .st n,.st n',h=>by rw[qal h]
 | .i _,.bool,h| .i _,.str,h| .i _,.sl _,h| .i _,.st _,h| .bool,.i _,h| .bool,.str,h| .bool,.sl _,h| .bool,.st _,h| .str,.i _,h| .str,.bool,h| .str,.sl _,h| .str,.st _,h| .sl _,.i _,h| .sl _,.bool,h| .sl _,.str,h| .sl _,.st _,h| .st _,.i _,h| .st _,.bool,h| .st _,.str,h| .st _,.sl _,h=>by cases h
def Ty.Z1:∀(a:Ty),Ty.beq a a=true
 | .i k=>Qd rfl
 | .bool| .str=>rfl
 | .sl t=>Ty.Z1 t
 | .st n=>Qd rfl
def Ty.deq(a b:Ty):Decidable (a=b):=
 match h:Ty.beq a b with
 |true=>isTrue (Ty.eq_of_beq h)
 |false=>isFalse λe=>by rw[e,Ty.Z1]at h;cases h
@[reducible] def uF:Z Ty->Type
 |[]=>Unit
 |t::l=>t.den×uF l
def pc.leaves:pc->Z Ty
 | .aa=>[(Ty.i .i64),(Ty.sl (Ty.i .i64)),(Ty.sl (Ty.st .aa))]
 | .aP=>[(Ty.i .i64),(Ty.i .i64),(Ty.i .i64),(Ty.sl (Ty.i .i64)),(Ty.sl (Ty.st .aa)),(Ty.sl Ty.str),(Ty.sl Ty.str)]
 | .az=>[(Ty.i .i64),(Ty.i .i64),(Ty.i .i64),(Ty.i .i64),(Ty.i .i64),(Ty.sl (Ty.i .i64)),(Ty.sl (Ty.st .aa)),Ty.str,(Ty.sl Ty.str),(Ty.sl Ty.str),(Ty.sl Ty.str),(Ty.sl (Ty.st .aP))]
 | .af=>[(Ty.i .i64),Ty.str]
 | .ay=>[(Ty.i .i64),(Ty.i .i64),(Ty.i .i64),(Ty.i .i64),(Ty.sl (Ty.i .i64)),(Ty.sl (Ty.st .aa)),(Ty.i .i64),(Ty.i .i64),Ty.str,(Ty.i .i64),Ty.str,(Ty.i .i64),Ty.str,(Ty.i .i64),(Ty.i .i64)]
 | .ab=>[(Ty.i .i64),(Ty.i .i64),(Ty.i .i64),(Ty.i .i64),(Ty.sl (Ty.i .i64)),(Ty.sl (Ty.st .aa)),(Ty.i .i64),(Ty.i .i64),Ty.str,(Ty.i .i64),Ty.str,(Ty.i .i64),Ty.str,(Ty.i .i64),Ty.str,(Ty.i .i64),(Ty.i .i64),Ty.str,(Ty.sl (Ty.st .ay))]
 | .Timer=>[(Ty.i .i64),(Ty.i .i64)]
 | .aJ=>[(Ty.i .i64),(Ty.i .i64),(Ty.i .i64),(Ty.i .i64),(Ty.i .i64),(Ty.sl (Ty.i .i64)),(Ty.sl (Ty.st .aa)),Ty.str,(Ty.sl Ty.str),(Ty.sl Ty.str),(Ty.sl Ty.str),(Ty.sl (Ty.st .aP)),(Ty.i .i64),(Ty.i .i64),(Ty.i .i64),(Ty.i .i64),(Ty.sl (Ty.i .i64)),(Ty.sl (Ty.st .aa)),(Ty.i .i64),(Ty.i .i64),Ty.str,(Ty.i .i64),Ty.str,(Ty.i .i64),Ty.str,(Ty.i .i64),Ty.str,(Ty.i .i64),(Ty.i .i64),Ty.str,(Ty.sl (Ty.st .ay)),(Ty.i .i64),(Ty.i .i64),(Ty.i .i64),(Ty.i .i64),Ty.bool,Ty.str]
 | .mf=>[(Ty.i .i64),Ty.bool,(Ty.i .i64),(Ty.sl (Ty.i .i64)),(Ty.sl (Ty.st .aa)),(Ty.sl (Ty.st .aJ))]
 | .sI=>[(Ty.i .i64),(Ty.i .i64),(Ty.i .i64),(Ty.i .i64),(Ty.i .i64),(Ty.sl (Ty.i .i64)),(Ty.sl (Ty.st .aa)),(Ty.sl Ty.str),(Ty.sl Ty.str),(Ty.i .i64),(Ty.i .i64),(Ty.i .i64),(Ty.i .i64),(Ty.sl (Ty.i .i64)),(Ty.sl (Ty.st .aa)),(Ty.i .i64),(Ty.i .i64),Ty.str,(Ty.i .i64),Ty.str,(Ty.i .i64),Ty.str,(Ty.i .i64),(Ty.i .i64)]
 | .jR=>[(Ty.i .i64),Ty.bool,(Ty.i .i64),(Ty.sl (Ty.i .i64)),(Ty.sl (Ty.st .aa)),(Ty.sl (Ty.st .aJ)),(Ty.i .i64),Ty.bool,(Ty.i .i64),(Ty.sl (Ty.i .i64)),(Ty.sl (Ty.st .aa)),(Ty.sl (Ty.st .aJ)),(Ty.i .i64),Ty.bool,(Ty.i .i64),(Ty.sl (Ty.i .i64)),(Ty.sl (Ty.st .aa)),(Ty.sl (Ty.st .aJ)),(Ty.i .i64),Ty.bool,(Ty.i .i64),(Ty.sl (Ty.i .i64)),(Ty.sl (Ty.st .aa)),(Ty.sl (Ty.st .aJ))]
 | .vT=>[(Ty.i .i64),(Ty.i .i64)]
 | .pr=>[(Ty.i .i64),(Ty.i .i64),(Ty.i .i64),(Ty.i .i64)]
 | .rK=>[(Ty.i .i64),(Ty.i .i64),(Ty.i .i64),(Ty.i .i64),(Ty.i .i64),(Ty.sl (Ty.i .i64)),(Ty.sl (Ty.st .aa)),(Ty.sl Ty.str),(Ty.sl Ty.str),(Ty.i .i64),(Ty.i .i64),(Ty.i .i64),(Ty.i .i64),(Ty.sl (Ty.i .i64)),(Ty.sl (Ty.st .aa)),(Ty.i .i64),(Ty.i .i64),Ty.str,(Ty.i .i64),Ty.str,(Ty.i .i64),Ty.str,(Ty.i .i64),(Ty.i .i64),(Ty.i .i64),(Ty.i .i64),(Ty.i .i64),(Ty.i .i64),(Ty.i .i64),(Ty.sl (Ty.i .i64)),(Ty.sl (Ty.st .aa)),(Ty.sl Ty.str),(Ty.sl Ty.str),(Ty.i .i64),(Ty.i .i64),(Ty.i .i64),(Ty.i .i64),(Ty.sl (Ty.i .i64)),(Ty.sl (Ty.st .aa)),(Ty.i .i64),(Ty.i .i64),Ty.str,(Ty.i .i64),Ty.str,(Ty.i .i64),Ty.str,(Ty.i .i64),(Ty.i .i64)]
 | .Src=>[(Ty.sl (Ty.i .i64)),(Ty.i .i64)]
 | .Al=>[(Ty.i .i64),(Ty.i .i64),(Ty.i .i64),(Ty.i .i64),(Ty.sl (Ty.i .i64)),(Ty.sl (Ty.st .aa)),(Ty.i .i64),(Ty.i .i64),Ty.str,(Ty.i .i64),Ty.str,(Ty.i .i64),Ty.str,(Ty.i .i64),Ty.str,(Ty.i .i64),(Ty.i .i64),Ty.str,(Ty.sl (Ty.st .ay))]
 | .vu=>[Ty.bool,(Ty.i .i64),(Ty.sl (Ty.i .i64)),(Ty.sl (Ty.st .aa))]
 | .Config=>[(Ty.sl (Ty.st .vu))]
 | .ze=>[(Ty.i .i64),(Ty.i .i64),(Ty.i .i64),(Ty.i .i64),(Ty.sl (Ty.i .i64)),(Ty.sl (Ty.st .aa)),(Ty.i .i64),(Ty.i .i64),Ty.str,(Ty.i .i64),Ty.str,(Ty.i .i64),Ty.str,(Ty.i .i64),(Ty.i .i64)]
 | .Seen=>[(Ty.i .i64),(Ty.sl (Ty.st .vu)),(Ty.sl (Ty.st .ze))]
 | .Claim=>[(Ty.i .i64),(Ty.i .i64)]
 | .Message=>[(Ty.i .i64),(Ty.i .i64),(Ty.i .i64),(Ty.sl (Ty.i .i64)),(Ty.sl (Ty.st .aa)),(Ty.sl (Ty.st .Claim)),(Ty.sl (Ty.st .Claim))]
 | .oa=>[(Ty.i .i64),(Ty.i .i64),(Ty.i .i64),(Ty.i .i64),Ty.str,(Ty.i .i64),Ty.str,(Ty.i .i64),Ty.str,(Ty.i .i64),Ty.str]
 | .rL=>[(Ty.i .i64),Ty.str,(Ty.i .i64),Ty.str]
 | .GN=>[(Ty.i .i64),(Ty.i .i64)]
def pc.toL:(n:pc)->n.den->uF n.leaves
 | .aa,(v:aq)=>(v.aN,v.bc,v.aR,())
 | .aP,(v:aA)=>(v.ak,v.aI,v.aa.aN,v.aa.bc,v.aa.aR,v.bj,v.aG,())
 | .az,(v:av)=>(v.ak,v.aJ,v.Round,v.aI,v.aa.aN,v.aa.bc,v.aa.aR,v.oa,v.bj,v.aG,v.aU,v.au,())
 | .af,(v:ah)=>(v.ai,v.Value,())
 | .ay,(v:aj)=>(v.ak,v.aJ,v.aI,v.aa.aN,v.aa.bc,v.aa.aR,v.bF,v.af.ai,v.af.Value,v.ar.ai,v.ar.Value,v.aH.ai,v.aH.Value,v.bg,v.bx,())
 | .ab,(v:ae)=>(v.ak,v.aJ,v.aI,v.aa.aN,v.aa.bc,v.aa.aR,v.aW,v.af.ai,v.af.Value,v.ar.ai,v.ar.Value,v.aH.ai,v.aH.Value,v.aB.ai,v.aB.Value,v.bg,v.bx,v.bm,v.au,())
 | .Timer,(v:fU)=>(v.ai,v.Bt,())
 | .aJ,(v:aD)=>(v.az.ak,v.az.aJ,v.az.Round,v.az.aI,v.az.aa.aN,v.az.aa.bc,v.az.aa.aR,v.az.oa,v.az.bj,v.az.aG,v.az.aU,v.az.au,v.ab.ak,v.ab.aJ,v.ab.aI,v.ab.aa.aN,v.ab.aa.bc,v.ab.aa.aR,v.ab.aW,v.ab.af.ai,v.ab.af.Value,v.ab.ar.ai,v.ab.ar.Value,v.ab.aH.ai,v.ab.aH.Value,v.ab.aB.ai,v.ab.aB.Value,v.ab.bg,v.ab.bx,v.ab.bm,v.ab.au,v.Timer.ai,v.Timer.Bt,v.Round,v.Next,v.qL,v.Value,())
 | .mf,(v:al)=>(v.ak,v.bh,v.aa.aN,v.aa.bc,v.aa.aR,v.ax,())
 | .sI,(v:bI)=>(v.bF,v.aJ,v.aP.ak,v.aP.aI,v.aP.aa.aN,v.aP.aa.bc,v.aP.aa.aR,v.aP.bj,v.aP.aG,v.ay.ak,v.ay.aJ,v.ay.aI,v.ay.aa.aN,v.ay.aa.bc,v.ay.aa.aR,v.ay.bF,v.ay.af.ai,v.ay.af.Value,v.ay.ar.ai,v.ay.ar.Value,v.ay.aH.ai,v.ay.aH.Value,v.ay.bg,v.ay.bx,())
 | .jR,(v:mG)=>(v.c0.ak,v.c0.bh,v.c0.aa.aN,v.c0.aa.bc,v.c0.aa.aR,v.c0.ax,v.c1.ak,v.c1.bh,v.c1.aa.aN,v.c1.aa.bc,v.c1.aa.aR,v.c1.ax,v.c2.ak,v.c2.bh,v.c2.aa.aN,v.c2.aa.bc,v.c2.aa.aR,v.c2.ax,v.c3.ak,v.c3.bh,v.c3.aa.aN,v.c3.aa.bc,v.c3.aa.aR,v.c3.ax,())
 | .vT,(v:mH)=>(v.c0,v.c1,())
 | .pr,(v:sG)=>(v.c0.c0,v.c0.c1,v.c1.c0,v.c1.c1,())
 | .rK,(v:uD)=>(v.c0.bF,v.c0.aJ,v.c0.aP.ak,v.c0.aP.aI,v.c0.aP.aa.aN,v.c0.aP.aa.bc,v.c0.aP.aa.aR,v.c0.aP.bj,v.c0.aP.aG,v.c0.ay.ak,v.c0.ay.aJ,v.c0.ay.aI,v.c0.ay.aa.aN,v.c0.ay.aa.bc,v.c0.ay.aa.aR,v.c0.ay.bF,v.c0.ay.af.ai,v.c0.ay.af.Value,v.c0.ay.ar.ai,v.c0.ay.ar.Value,v.c0.ay.aH.ai,v.c0.ay.aH.Value,v.c0.ay.bg,v.c0.ay.bx,v.c1.bF,v.c1.aJ,v.c1.aP.ak,v.c1.aP.aI,v.c1.aP.aa.aN,v.c1.aP.aa.bc,v.c1.aP.aa.aR,v.c1.aP.bj,v.c1.aP.aG,v.c1.ay.ak,v.c1.ay.aJ,v.c1.ay.aI,v.c1.ay.aa.aN,v.c1.ay.aa.bc,v.c1.ay.aa.aR,v.c1.ay.bF,v.c1.ay.af.ai,v.c1.ay.af.Value,v.c1.ay.ar.ai,v.c1.ay.ar.Value,v.c1.ay.aH.ai,v.c1.ay.aH.Value,v.c1.ay.bg,v.c1.ay.bx,())
 | .Src,(v:dP)=>(v.L,v.At,())
 | .Al,(v:aM)=>(v.ab.ak,v.ab.aJ,v.ab.aI,v.ab.aa.aN,v.ab.aa.bc,v.ab.aa.aR,v.ab.aW,v.ab.af.ai,v.ab.af.Value,v.ab.ar.ai,v.ab.ar.Value,v.ab.aH.ai,v.ab.aH.Value,v.ab.aB.ai,v.ab.aB.Value,v.ab.bg,v.ab.bx,v.ab.bm,v.ab.au,())
 | .vu,(v:bw)=>(v.fQ,v.aa.aN,v.aa.bc,v.aa.aR,())
 | .Config,(v:bs)=>(v.bq,())
 | .ze,(v:bL)=>(v.ay.ak,v.ay.aJ,v.ay.aI,v.ay.aa.aN,v.ay.aa.bc,v.ay.aa.aR,v.ay.bF,v.ay.af.ai,v.ay.af.Value,v.ay.ar.ai,v.ay.ar.Value,v.ay.aH.ai,v.ay.aH.Value,v.ay.bg,v.ay.bx,())
 | .Seen,(v:il)=>(v.ak,v.View.bq,v.au,())
 | .Claim,(v:ox)=>(v.wD,v.Value,())
 | .Message,(v:de)=>(v.ak,v.aI,v.aa.aN,v.aa.bc,v.aa.aR,v.bj,v.aG,())
 | .oa,(v:KG)=>(v.bf,v.low,v.cv,v.aY.ai,v.aY.Value,v.fA.ai,v.fA.Value,v.cm.ai,v.cm.Value,v.eO.ai,v.eO.Value,())
 | .rL,(v:uE)=>(v.c0.ai,v.c0.Value,v.c1.ai,v.c1.Value,())
 | .GN,(v:fZ)=>(v.Xc,v.Xd,())
def pc.ofL:(n:pc)->uF n.leaves->n.den
 | .aa,v=>(aq.mk v.1 v.2.1 v.2.2.1)
 | .aP,v=>let w1:=v.2.2.2.2.2.2;(aA.mk v.1 v.2.1 (aq.mk v.2.2.1 v.2.2.2.1 v.2.2.2.2.1) v.2.2.2.2.2.1 w1.1)
 | .az,v=>let w1:=v.2.2.2.2.2.2;(av.mk v.1 v.2.1 v.2.2.1 v.2.2.2.1 (aq.mk v.2.2.2.2.1 v.2.2.2.2.2.1 w1.1) w1.2.1 w1.2.2.1 w1.2.2.2.1 w1.2.2.2.2.1 w1.2.2.2.2.2.1)
 | .af,v=>(ah.mk v.1 v.2.1)
 | .ay,v=>let w1:=v.2.2.2.2.2.2;let w2:=w1.2.2.2.2.2.2;(aj.mk v.1 v.2.1 v.2.2.1 (aq.mk v.2.2.2.1 v.2.2.2.2.1 v.2.2.2.2.2.1) w1.1 (ah.mk w1.2.1 w1.2.2.1) (ah.mk w1.2.2.2.1 w1.2.2.2.2.1) (ah.mk w1.2.2.2.2.2.1 w2.1) w2.2.1 w2.2.2.1)
 | .ab,v=>let w1:=v.2.2.2.2.2.2;let w2:=w1.2.2.2.2.2.2;let a:=w2.2.2.2.2.2.2;(ae.mk v.1 v.2.1 v.2.2.1 (aq.mk v.2.2.2.1 v.2.2.2.2.1 v.2.2.2.2.2.1) w1.1 (ah.mk w1.2.1 w1.2.2.1) (ah.mk w1.2.2.2.1 w1.2.2.2.2.1) (ah.mk w1.2.2.2.2.2.1 w2.1) (ah.mk w2.2.1 w2.2.2.1) w2.2.2.2.1 w2.2.2.2.2.1 w2.2.2.2.2.2.1 a.1)
 | .Timer,v=>(fU.mk v.1 v.2.1)
 | .aJ,v=>let w1:=v.2.2.2.2.2.2;let w2:=w1.2.2.2.2.2.2;let a:=w2.2.2.2.2.2.2;let c:=a.2.2.2.2.2.2;let b:=c.2.2.2.2.2.2;let d:=b.2.2.2.2.2.2;(aD.mk (av.mk v.1 v.2.1 v.2.2.1 v.2.2.2.1 (aq.mk v.2.2.2.2.1 v.2.2.2.2.2.1 w1.1) w1.2.1 w1.2.2.1 w1.2.2.2.1 w1.2.2.2.2.1 w1.2.2.2.2.2.1) (ae.mk w2.1 w2.2.1 w2.2.2.1 (aq.mk w2.2.2.2.1 w2.2.2.2.2.1 w2.2.2.2.2.2.1) a.1 (ah.mk a.2.1 a.2.2.1) (ah.mk a.2.2.2.1 a.2.2.2.2.1) (ah.mk a.2.2.2.2.2.1 c.1) (ah.mk c.2.1 c.2.2.1) c.2.2.2.1 c.2.2.2.2.1 c.2.2.2.2.2.1 b.1) (fU.mk b.2.1 b.2.2.1) b.2.2.2.1 b.2.2.2.2.1 b.2.2.2.2.2.1 d.1)
 | .mf,v=>(al.mk v.1 v.2.1 (aq.mk v.2.2.1 v.2.2.2.1 v.2.2.2.2.1) v.2.2.2.2.2.1)
 | .sI,v=>let w1:=v.2.2.2.2.2.2;let w2:=w1.2.2.2.2.2.2;let a:=w2.2.2.2.2.2.2;(bI.mk v.1 v.2.1 (aA.mk v.2.2.1 v.2.2.2.1 (aq.mk v.2.2.2.2.1 v.2.2.2.2.2.1 w1.1) w1.2.1 w1.2.2.1) (aj.mk w1.2.2.2.1 w1.2.2.2.2.1 w1.2.2.2.2.2.1 (aq.mk w2.1 w2.2.1 w2.2.2.1) w2.2.2.2.1 (ah.mk w2.2.2.2.2.1 w2.2.2.2.2.2.1) (ah.mk a.1 a.2.1) (ah.mk a.2.2.1 a.2.2.2.1) a.2.2.2.2.1 a.2.2.2.2.2.1))
 | .jR,v=>let w1:=v.2.2.2.2.2.2;let w2:=w1.2.2.2.2.2.2;let a:=w2.2.2.2.2.2.2;(mG.mk (al.mk v.1 v.2.1 (aq.mk v.2.2.1 v.2.2.2.1 v.2.2.2.2.1) v.2.2.2.2.2.1) (al.mk w1.1 w1.2.1 (aq.mk w1.2.2.1 w1.2.2.2.1 w1.2.2.2.2.1) w1.2.2.2.2.2.1) (al.mk w2.1 w2.2.1 (aq.mk w2.2.2.1 w2.2.2.2.1 w2.2.2.2.2.1) w2.2.2.2.2.2.1) (al.mk a.1 a.2.1 (aq.mk a.2.2.1 a.2.2.2.1 a.2.2.2.2.1) a.2.2.2.2.2.1))
 | .vT,v=>(mH.mk v.1 v.2.1)
 | .pr,v=>(sG.mk (mH.mk v.1 v.2.1) (mH.mk v.2.2.1 v.2.2.2.1))
 | .rK,v=>let w1:=v.2.2.2.2.2.2;let w2:=w1.2.2.2.2.2.2;let a:=w2.2.2.2.2.2.2;let c:=a.2.2.2.2.2.2;let b:=c.2.2.2.2.2.2;let d:=b.2.2.2.2.2.2;let h:=d.2.2.2.2.2.2;(uD.mk (bI.mk v.1 v.2.1 (aA.mk v.2.2.1 v.2.2.2.1 (aq.mk v.2.2.2.2.1 v.2.2.2.2.2.1 w1.1) w1.2.1 w1.2.2.1) (aj.mk w1.2.2.2.1 w1.2.2.2.2.1 w1.2.2.2.2.2.1 (aq.mk w2.1 w2.2.1 w2.2.2.1) w2.2.2.2.1 (ah.mk w2.2.2.2.2.1 w2.2.2.2.2.2.1) (ah.mk a.1 a.2.1) (ah.mk a.2.2.1 a.2.2.2.1) a.2.2.2.2.1 a.2.2.2.2.2.1)) (bI.mk c.1 c.2.1 (aA.mk c.2.2.1 c.2.2.2.1 (aq.mk c.2.2.2.2.1 c.2.2.2.2.2.1 b.1) b.2.1 b.2.2.1) (aj.mk b.2.2.2.1 b.2.2.2.2.1 b.2.2.2.2.2.1 (aq.mk d.1 d.2.1 d.2.2.1) d.2.2.2.1 (ah.mk d.2.2.2.2.1 d.2.2.2.2.2.1) (ah.mk h.1 h.2.1) (ah.mk h.2.2.1 h.2.2.2.1) h.2.2.2.2.1 h.2.2.2.2.2.1)))
 | .Src,v=>(dP.mk v.1 v.2.1)
 | .Al,v=>let w1:=v.2.2.2.2.2.2;let w2:=w1.2.2.2.2.2.2;let a:=w2.2.2.2.2.2.2;(aM.mk (ae.mk v.1 v.2.1 v.2.2.1 (aq.mk v.2.2.2.1 v.2.2.2.2.1 v.2.2.2.2.2.1) w1.1 (ah.mk w1.2.1 w1.2.2.1) (ah.mk w1.2.2.2.1 w1.2.2.2.2.1) (ah.mk w1.2.2.2.2.2.1 w2.1) (ah.mk w2.2.1 w2.2.2.1) w2.2.2.2.1 w2.2.2.2.2.1 w2.2.2.2.2.2.1 a.1))
 | .vu,v=>(bw.mk v.1 (aq.mk v.2.1 v.2.2.1 v.2.2.2.1))
 | .Config,v=>(bs.mk v.1)
 | .ze,v=>let w1:=v.2.2.2.2.2.2;let w2:=w1.2.2.2.2.2.2;(bL.mk (aj.mk v.1 v.2.1 v.2.2.1 (aq.mk v.2.2.2.1 v.2.2.2.2.1 v.2.2.2.2.2.1) w1.1 (ah.mk w1.2.1 w1.2.2.1) (ah.mk w1.2.2.2.1 w1.2.2.2.2.1) (ah.mk w1.2.2.2.2.2.1 w2.1) w2.2.1 w2.2.2.1))
 | .Seen,v=>(il.mk v.1 (bs.mk v.2.1) v.2.2.1)
 | .Claim,v=>(ox.mk v.1 v.2.1)
 | .Message,v=>let w1:=v.2.2.2.2.2.2;(de.mk v.1 v.2.1 (aq.mk v.2.2.1 v.2.2.2.1 v.2.2.2.2.1) v.2.2.2.2.2.1 w1.1)
 | .oa,v=>let w1:=v.2.2.2.2.2.2;(KG.mk v.1 v.2.1 v.2.2.1 (ah.mk v.2.2.2.1 v.2.2.2.2.1) (ah.mk v.2.2.2.2.2.1 w1.1) (ah.mk w1.2.1 w1.2.2.1) (ah.mk w1.2.2.2.1 w1.2.2.2.2.1))
 | .rL,v=>(uE.mk (ah.mk v.1 v.2.1) (ah.mk v.2.2.1 v.2.2.2.1))
 | .GN,v=>(fZ.mk v.1 v.2.1)
mutual
def eL:aq->Z PV
 |⟨a0,a,a2⟩=>[.int .i64 a0,.sl (a.map (λx=>[.int .i64 x])),.sl (BL a2)]
def BL:Z aq->Z (Z PV)
 |[]=>[]
 |x::l=>eL x::BL l
end
def IB:∀(l:Z aq),BL l=l.map eL
 |[]=>by rw[BL];rfl
 |x::l=>by rw[BL,IB l];rfl
def CS(v:aA):Z PV:=[.int .i64 v.ak,.int .i64 v.aI,.int .i64 v.aa.aN,.sl (v.aa.bc.map (λx=>[.int .i64 x])),.sl (v.aa.aR.map eL),.sl (v.bj.map (λx=>[.str x])),.sl (v.aG.map (λx=>[.str x]))]
def Xi(v:av):Z PV:=[.int .i64 v.ak,.int .i64 v.aJ,.int .i64 v.Round,.int .i64 v.aI,.int .i64 v.aa.aN,.sl (v.aa.bc.map (λx=>[.int .i64 x])),.sl (v.aa.aR.map eL),.str v.oa,.sl (v.bj.map (λx=>[.str x])),.sl (v.aG.map (λx=>[.str x])),.sl (v.aU.map (λx=>[.str x])),.sl (v.au.map CS)]
def acL(v:ah):Z PV:=[.int .i64 v.ai,.str v.Value]
def BM(v:aj):Z PV:=[.int .i64 v.ak,.int .i64 v.aJ,.int .i64 v.aI,.int .i64 v.aa.aN,.sl (v.aa.bc.map (λx=>[.int .i64 x])),.sl (v.aa.aR.map eL),.int .i64 v.bF,.int .i64 v.af.ai,.str v.af.Value,.int .i64 v.ar.ai,.str v.ar.Value,.int .i64 v.aH.ai,.str v.aH.Value,.int .i64 v.bg,.int .i64 v.bx]
def aax(v:ae):Z PV:=[.int .i64 v.ak,.int .i64 v.aJ,.int .i64 v.aI,.int .i64 v.aa.aN,.sl (v.aa.bc.map (λx=>[.int .i64 x])),.sl (v.aa.aR.map eL),.int .i64 v.aW,.int .i64 v.af.ai,.str v.af.Value,.int .i64 v.ar.ai,.str v.ar.Value,.int .i64 v.aH.ai,.str v.aH.Value,.int .i64 v.aB.ai,.str v.aB.Value,.int .i64 v.bg,.int .i64 v.bx,.str v.bm,.sl (v.au.map BM)]
def aen(v:fU):Z PV:=[.int .i64 v.ai,.int .i64 v.Bt]
def CR(v:aD):Z PV:=[.int .i64 v.az.ak,.int .i64 v.az.aJ,.int .i64 v.az.Round,.int .i64 v.az.aI,.int .i64 v.az.aa.aN,.sl (v.az.aa.bc.map (λx=>[.int .i64 x])),.sl (v.az.aa.aR.map eL),.str v.az.oa,.sl (v.az.bj.map (λx=>[.str x])),.sl (v.az.aG.map (λx=>[.str x])),.sl (v.az.aU.map (λx=>[.str x])),.sl (v.az.au.map CS),.int .i64 v.ab.ak,.int .i64 v.ab.aJ,.int .i64 v.ab.aI,.int .i64 v.ab.aa.aN,.sl (v.ab.aa.bc.map (λx=>[.int .i64 x])),.sl (v.ab.aa.aR.map eL),.int .i64 v.ab.aW,.int .i64 v.ab.af.ai,.str v.ab.af.Value,.int .i64 v.ab.ar.ai,.str v.ab.ar.Value,.int .i64 v.ab.aH.ai,.str v.ab.aH.Value,.int .i64 v.ab.aB.ai,.str v.ab.aB.Value,.int .i64 v.ab.bg,.int .i64 v.ab.bx,.str v.ab.bm,.sl (v.ab.au.map BM),.int .i64 v.Timer.ai,.int .i64 v.Timer.Bt,.int .i64 v.Round,.int .i64 v.Next,.bool v.qL,.str v.Value]
def Sq(v:al):Z PV:=[.int .i64 v.ak,.bool v.bh,.int .i64 v.aa.aN,.sl (v.aa.bc.map (λx=>[.int .i64 x])),.sl (v.aa.aR.map eL),.sl (v.ax.map CR)]
def acI(v:bI):Z PV:=[.int .i64 v.bF,.int .i64 v.aJ,.int .i64 v.aP.ak,.int .i64 v.aP.aI,.int .i64 v.aP.aa.aN,.sl (v.aP.aa.bc.map (λx=>[.int .i64 x])),.sl (v.aP.aa.aR.map eL),.sl (v.aP.bj.map (λx=>[.str x])),.sl (v.aP.aG.map (λx=>[.str x])),.int .i64 v.ay.ak,.int .i64 v.ay.aJ,.int .i64 v.ay.aI,.int .i64 v.ay.aa.aN,.sl (v.ay.aa.bc.map (λx=>[.int .i64 x])),.sl (v.ay.aa.aR.map eL),.int .i64 v.ay.bF,.int .i64 v.ay.af.ai,.str v.ay.af.Value,.int .i64 v.ay.ar.ai,.str v.ay.ar.Value,.int .i64 v.ay.aH.ai,.str v.ay.aH.Value,.int .i64 v.ay.bg,.int .i64 v.ay.bx]
def Ll(v:mG):Z PV:=[.int .i64 v.c0.ak,.bool v.c0.bh,.int .i64 v.c0.aa.aN,.sl (v.c0.aa.bc.map (λx=>[.int .i64 x])),.sl (v.c0.aa.aR.map eL),.sl (v.c0.ax.map CR),.int .i64 v.c1.ak,.bool v.c1.bh,.int .i64 v.c1.aa.aN,.sl (v.c1.aa.bc.map (λx=>[.int .i64 x])),.sl (v.c1.aa.aR.map eL),.sl (v.c1.ax.map CR),.int .i64 v.c2.ak,.bool v.c2.bh,.int .i64 v.c2.aa.aN,.sl (v.c2.aa.bc.map (λx=>[.int .i64 x])),.sl (v.c2.aa.aR.map eL),.sl (v.c2.ax.map CR),.int .i64 v.c3.ak,.bool v.c3.bh,.int .i64 v.c3.aa.aN,.sl (v.c3.aa.bc.map (λx=>[.int .i64 x])),.sl (v.c3.aa.aR.map eL),.sl (v.c3.ax.map CR)]
def aay(v:mH):Z PV:=[.int .i64 v.c0,.int .i64 v.c1]
def Sr(v:sG):Z PV:=[.int .i64 v.c0.c0,.int .i64 v.c0.c1,.int .i64 v.c1.c0,.int .i64 v.c1.c1]
def UL(v:uD):Z PV:=[.int .i64 v.c0.bF,.int .i64 v.c0.aJ,.int .i64 v.c0.aP.ak,.int .i64 v.c0.aP.aI,.int .i64 v.c0.aP.aa.aN,.sl (v.c0.aP.aa.bc.map (λx=>[.int .i64 x])),.sl (v.c0.aP.aa.aR.map eL),.sl (v.c0.aP.bj.map (λx=>[.str x])),.sl (v.c0.aP.aG.map (λx=>[.str x])),.int .i64 v.c0.ay.ak,.int .i64 v.c0.ay.aJ,.int .i64 v.c0.ay.aI,.int .i64 v.c0.ay.aa.aN,.sl (v.c0.ay.aa.bc.map (λx=>[.int .i64 x])),.sl (v.c0.ay.aa.aR.map eL),.int .i64 v.c0.ay.bF,.int .i64 v.c0.ay.af.ai,.str v.c0.ay.af.Value,.int .i64 v.c0.ay.ar.ai,.str v.c0.ay.ar.Value,.int .i64 v.c0.ay.aH.ai,.str v.c0.ay.aH.Value,.int .i64 v.c0.ay.bg,.int .i64 v.c0.ay.bx,.int .i64 v.c1.bF,.int .i64 v.c1.aJ,.int .i64 v.c1.aP.ak,.int .i64 v.c1.aP.aI,.int .i64 v.c1.aP.aa.aN,.sl (v.c1.aP.aa.bc.map (λx=>[.int .i64 x])),.sl (v.c1.aP.aa.aR.map eL),.sl (v.c1.aP.bj.map (λx=>[.str x])),.sl (v.c1.aP.aG.map (λx=>[.str x])),.int .i64 v.c1.ay.ak,.int .i64 v.c1.ay.aJ,.int .i64 v.c1.ay.aI,.int .i64 v.c1.ay.aa.aN,.sl (v.c1.ay.aa.bc.map (λx=>[.int .i64 x])),.sl (v.c1.ay.aa.aR.map eL),.int .i64 v.c1.ay.bF,.int .i64 v.c1.ay.af.ai,.str v.c1.ay.af.Value,.int .i64 v.c1.ay.ar.ai,.str v.c1.ay.ar.Value,.int .i64 v.c1.ay.aH.ai,.str v.c1.ay.aH.Value,.int .i64 v.c1.ay.bg,.int .i64 v.c1.ay.bx]
def aiA(v:dP):Z PV:=[.sl (v.L.map (λx=>[.int .i64 x])),.int .i64 v.At]
def acJ(v:aM):Z PV:=[.int .i64 v.ab.ak,.int .i64 v.ab.aJ,.int .i64 v.ab.aI,.int .i64 v.ab.aa.aN,.sl (v.ab.aa.bc.map (λx=>[.int .i64 x])),.sl (v.ab.aa.aR.map eL),.int .i64 v.ab.aW,.int .i64 v.ab.af.ai,.str v.ab.af.Value,.int .i64 v.ab.ar.ai,.str v.ab.ar.Value,.int .i64 v.ab.aH.ai,.str v.ab.aH.Value,.int .i64 v.ab.aB.ai,.str v.ab.aB.Value,.int .i64 v.ab.bg,.int .i64 v.ab.bx,.str v.ab.bm,.sl (v.ab.au.map BM)]
def JM(v:bw):Z PV:=[.bool v.fQ,.int .i64 v.aa.aN,.sl (v.aa.bc.map (λx=>[.int .i64 x])),.sl (v.aa.aR.map eL)]
def acK(v:bs):Z PV:=[.sl (v.bq.map JM)]
def V7(v:bL):Z PV:=[.int .i64 v.ay.ak,.int .i64 v.ay.aJ,.int .i64 v.ay.aI,.int .i64 v.ay.aa.aN,.sl (v.ay.aa.bc.map (λx=>[.int .i64 x])),.sl (v.ay.aa.aR.map eL),.int .i64 v.ay.bF,.int .i64 v.ay.af.ai,.str v.ay.af.Value,.int .i64 v.ay.ar.ai,.str v.ay.ar.Value,.int .i64 v.ay.aH.ai,.str v.ay.aH.Value,.int .i64 v.ay.bg,.int .i64 v.ay.bx]
def agb(v:il):Z PV:=[.int .i64 v.ak,.sl (v.View.bq.map JM),.sl (v.au.map V7)]
def Ma(v:ox):Z PV:=[.int .i64 v.wD,.int .i64 v.Value]
def aaw(v:de):Z PV:=[.int .i64 v.ak,.int .i64 v.aI,.int .i64 v.aa.aN,.sl (v.aa.bc.map (λx=>[.int .i64 x])),.sl (v.aa.aR.map eL),.sl (v.bj.map Ma),.sl (v.aG.map Ma)]
def aiB(v:KG):Z PV:=[.int .i64 v.bf,.int .i64 v.low,.int .i64 v.cv,.int .i64 v.aY.ai,.str v.aY.Value,.int .i64 v.fA.ai,.str v.fA.Value,.int .i64 v.cm.ai,.str v.cm.Value,.int .i64 v.eO.ai,.str v.eO.Value]
def UM(v:uE):Z PV:=[.int .i64 v.c0.ai,.str v.c0.Value,.int .i64 v.c1.ai,.str v.c1.Value]
def agc(v:fZ):Z PV:=[.int .i64 v.Xc,.int .i64 v.Xd]
def pc.pv:(n:pc)->n.den->Z PV
 | .aa,v=>eL v
 | .aP,v=>CS v
 | .az,v=>Xi v
 | .af,v=>acL v
 | .ay,v=>BM v
 | .ab,v=>aax v
 | .Timer,v=>aen v
 | .aJ,v=>CR v
 | .mf,v=>Sq v
 | .sI,v=>acI v
 | .jR,v=>Ll v
 | .vT,v=>aay v
 | .pr,v=>Sr v
 | .rK,v=>UL v
 | .Src,v=>aiA v
 | .Al,v=>acJ v
 | .vu,v=>JM v
 | .Config,v=>acK v
 | .ze,v=>V7 v
 | .Seen,v=>agb v
 | .Claim,v=>Ma v
 | .Message,v=>aaw v
 | .oa,v=>aiB v
 | .rL,v=>UM v
 | .GN,v=>agc v
def Ty.isAgg:Ty->Bool
 | .st _=>true
 |_=>false
def Ty.pv:(t:Ty)->t.den->Z PV
 | .i k,n=>[.int k n]
 | .bool,b=>[.bool b]
 | .str,s=>[.str s]
 | .sl t,(xs:Z t.den)=>[.sl (xs.map (Ty.pv t))]
 | .st n,v=>n.pv v
def mU:(ls:Z Ty)->uF ls->Z PV
 |[],_=>[]
 |t::l,v=>t.pv v.1++mU l v.2
def pc.JL:∀(n:pc) (v:n.den),n.pv v=mU n.leaves (n.toL v)
 | .aa,v=>by cases v;simp only[pc.pv,eL,IB];rfl
 | .aP,v| .az,v| .af,v| .ay,v| .ab,v| .Timer,v| .aJ,v| .mf,v| .sI,v| .jR,v| .vT,v| .pr,v| .rK,v| .Src,v| .Al,v| .vu,v| .Config,v| .ze,v| .Seen,v| .Claim,v| .Message,v| .oa,v| .rL,v| .GN,v=>rfl
def Ty.leaf:Ty->Bool
 | .st _=>false
 |_=>true
def pc.FF:∀(n:pc),n.leaves.all Ty.leaf=true
 | .aa| .aP| .az| .af| .ay| .ab| .Timer| .aJ| .mf| .sI| .jR| .vT| .pr| .rK| .Src| .Al| .vu| .Config| .ze| .Seen| .Claim| .Message| .oa| .rL| .GN=>rfl
def pc.ahs:∀(n:pc) (v:uF n.leaves),n.toL (n.ofL v)=v
 | .aa,v| .aP,v| .az,v| .af,v| .ay,v| .ab,v| .Timer,v| .aJ,v| .mf,v| .sI,v| .jR,v| .vT,v| .pr,v| .rK,v| .Src,v| .Al,v| .vu,v| .Config,v| .ze,v| .Seen,v| .Claim,v| .Message,v| .oa,v| .rL,v| .GN,v=>rfl
def Ty.ac1:Ty->Bool
 | .sl _=>false
 |_=>true
@[reducible] def U:TU where
 Ty:=Ty
 deq:=Ty.deq
 den:=Ty.den
 pv:=Ty.pv
 size:=λt=>match t with| .st n=>n.leaves.length|_=>1
 agg:=Ty.isAgg
 plain:=λt=>match t with| .st n=>n.leaves.all Ty.ac1|t=>t.ac1
def NV:(t:Ty)->t.den->KV U
 | .i k,n=> .int k n
 | .bool,b=> .bool b
 | .str,s=> .str s
 | .sl t,(xs:Z t.den)=> .sl t xs
 | .st _,_=> .any
def NU:(ls:Z Ty)->uF ls->Z (KV U)
 |[],_=>[]
 |t::l,v=>NV t v.1::NU l v.2
def alD:(t:Ty)->t.den->Z (KV U)
 | .st n,v=>NU n.leaves (n.toL v)
 | .i k,v=>[NV (.i k) v]
 | .bool,v=>[NV .bool v]
 | .str,v=>[NV .str v]
 | .sl t,v=>[NV (.sl t) v]
def FK(lk:Lk U):(t:Ty)->KV U->Y t.den
 | .i k,x=>agR k x
 | .bool,x=>M8 x
 | .str,x=>agQ x
 | .sl t,x=>ZI (U:=U) lk t x
 | .st _,_=>none
def D5(lk:Lk U):(ls:Z Ty)->Z (KV U)->Y (uF ls)
 |[],cs=>match cs with|[]=>some ()|_=>none
 |t::l,cs=>match cs with
  |c::cs=>(match FK lk t c with
   |some v=>(match D5 lk l cs with|some vs=>some (v,vs)|none=>none)
   |none=>none)
  |[]=>none
def Vw{α:Type}(f:KV U->Y α):Z (KV U)->Y α
 |[x]=>f x
 |_=>none
def anU:(t:Ty)->Lk U->Z (KV U)->Y t.den
 | .st n,lk,cs=>(match D5 lk n.leaves cs with|some v=>some (n.ofL v)|none=>none)
 | .i k,lk,cs=>Vw (FK lk (.i k)) cs
 | .bool,lk,cs=>Vw (FK lk .bool) cs
 | .str,lk,cs=>Vw (FK lk .str) cs
 | .sl t,lk,cs=>Vw (FK lk (.sl t)) cs
def agB:∀(t:Ty) (v:t.den),t.leaf=true->[(NV t v).pv]=t.pv v
 | .i k,v,_| .bool,v,_| .str,v,_| .sl t,v,_=>rfl
 | .st _,_,h=>by cases h
def S7:∀(ls:Z Ty) (v:uF ls),ls.all Ty.leaf=true->(NU ls v).map KV.pv=mU ls v
 |[],_,_=>rfl
 |t::l,v,h=>by rw[Q3,Qi]at h;rw[NU,mU,Qy,S7 l v.2 h.2,<-agB t v.1 h.1];rfl
def T5{lk:Lk U}:∀{t:Ty} {x:KV U} {v:t.den},FK lk t x=some v->js lk [x] (t.pv v)
 | .i k,x,v,h=> .cons (ajH h) .nil
 | .bool,x,v,h=> .cons (ajJ h) .nil
 | .str,x,v,h=> .cons (ajF h) .nil
 | .sl t,x,v,h=> .cons (ajG (U:=U) h) .nil
 | .st _,_,_,h=>by cases h
def js.cY{lk:Lk U}{x:KV U}{b:Z PV}{xs:Z (KV U)}{a:Z PV}(h:js lk [x] b)(k:js lk xs a):js lk (x::xs) (b++a):=by
 cases h with
 |cons h1 c=>cases c with|nil=>exact .cons h1 k
def M7{lk:Lk U}:∀{ls:Z Ty} {cs:Z (KV U)} {v:uF ls},D5 lk ls cs=some v->js lk cs (mU ls v)
 |[],[],_,_=> .nil
 |[],_::_,_,h=>by cases h
 |_::_,[],_,h=>by cases h
 |t::l,c::cs,v,h=>by
  rw[D5]at h;split at h
  .rename_i v1 b;split at h
   .rename_i vs a;injection h with h
    subst h;exact(T5 b).cY (M7 a)
   .cases h
  .cases h
def ajK{α:Type}{f:KV U->Y α}{cs:Z (KV U)}{v:α}(h:Vw f cs=some v):∃x,cs=[x]/\f x=some v:=by
 unfold Vw at h;split at h
 .exact⟨_,rfl,h⟩
 .cases h
def Yq:∀(ls:Z Ty) (v:uF ls),ls.all Ty.leaf=true->(mU ls v).length=ls.length
 |[],_,_=>rfl
 |t::l,v,h=>by
  rw[Q3,Qi]at h
  have:(t.pv v.1).length=1:=by
   cases t with
   |st n=>cases h.1
   |_=>rfl
  rw[mU,QM,Yq l v.2 h.2,this,QN,qaL]
def vX:∀(t:Ty) (v:t.den),t.leaf=true->∀y∈t.pv v,y.gJ=true/\(t.ac1=true->y.plain=true)
 | .i k,v,_,y,h| .bool,v,_,y,h| .str,v,_,y,h=>by simp only[Ty.pv,Qz]at h;subst h;exact⟨rfl,λ_=>rfl⟩
 | .sl t,v,_,y,h=>by simp only[Ty.pv,Qz]at h;subst h;exact⟨rfl,λh=>by cases h⟩
 | .st _,_,h,_,_=>by cases h
def HS:∀(ls:Z Ty) (v:uF ls),ls.all Ty.leaf=true->∀y∈mU ls v,y.gJ=true/\(ls.all Ty.ac1=true->y.plain=true)
 |[],_,_,y,h=>by cases h
 |t::l,v,h,y,a=>by
  rw[Q3,Qi]at h;rw[mU,QA]at a;rcases a with a|a
  .obtain⟨h1,b⟩:=vX t v.1 h.1 y a;exact⟨h1,λhp=>by rw[Q3,Qi]at hp;exact b hp.1⟩
  .obtain⟨h1,b⟩:=HS l v.2 h.2 y a;exact⟨h1,λhp=>by rw[Q3,Qi]at hp;exact b hp.2⟩
def YR:pc->Y (IntKind×IntKind)
 | .Timer| .vT| .Claim| .GN=>some (.i64,.i64)
 |_=>none
def UT:∀(n:pc) (k l:IntKind),YR n=some (k,l)->∀v,∃a b,alD (.st n) v=[.int k a,.int l b]
 | .Timer,_,_,h| .vT,_,_,h| .Claim,_,_,h| .GN,_,_,h=>by injection h with h;injection h with h1 c;subst h1 c;exact λv=>⟨_,_,rfl⟩
 | .aa,_,_,h| .aP,_,_,h| .az,_,_,h| .af,_,_,h| .ay,_,_,h| .ab,_,_,h| .aJ,_,_,h| .mf,_,_,h| .sI,_,_,h| .jR,_,_,h| .pr,_,_,h| .rK,_,_,h| .Src,_,_,h| .Al,_,_,h| .vu,_,_,h| .Config,_,_,h| .ze,_,_,h| .Seen,_,_,h| .Message,_,_,h| .oa,_,_,h| .rL,_,_,h=>by cases h
def acb:Z (Nat×Ty):=[(3,(Ty.i .i64)),(4,Ty.bool),(9,Ty.str),(27,(Ty.st .aa)),(30,(Ty.st .mf)),(34,(Ty.st .aP)),(36,(Ty.st .af)),(38,(Ty.st .ay)),(40,(Ty.st .sI)),(56,(Ty.st .aJ)),(77,(Ty.st .vT)),(218,(Ty.st .ze)),(250,(Ty.st .Message)),(255,(Ty.st .vu)),(320,(Ty.st .Claim))]
def RU(n:Nat):Z (Nat×Ty)->Y Ty
 |[]=>none
 |(k,t)::l=>(match Nat.beq k n with|true=>some t|false=>RU n l)
@[reducible] def K:TK U where
 gu:=alD
 dec:=anU
 XX:=λn=>RU n acb
 wO:=λt v=>by
  cases t with
  |st n=>exact(S7 _ _ n.FF).trans (n.JL v).symm
  |_=>rfl
 qT:=λt lk cs v h=>by
  cases t with
  |st n=>
   change (match D5 lk n.leaves cs with|some v=>some (n.ofL v)|none=>none)=some v at h
   split at h
   .rename_i u c;injection h with h
    subst h;have:=M7 c
    change js lk cs (n.pv (n.ofL u))
    rw[n.JL,n.ahs];exact this
   .cases h
  |i k|bool|str|sl t=>obtain⟨x,rfl,b⟩:=ajK h;exact T5 b
 len:=λt v=>by
  cases t with
  |st n=>exact(qag List.length (n.JL v)).trans (Yq _ _ n.FF)
  |_=>rfl
 gJ:=λt v y a=>by
  cases t with
  |st n=>exact(HS _ (n.toL v) n.FF y (Eq.mp (qag (y∈·) (n.JL v)) a)).1
  |i k=>exact(vX (.i k) v rfl y a).1
  |bool=>exact(vX .bool v rfl y a).1
  |str=>exact(vX .str v rfl y a).1
  |sl t=>exact(vX (.sl t) v rfl y a).1
 one:=λt h=>by
  cases t with
  |st n=>cases h
  |_=>rfl
 plain:=λt h v y a=>by
  cases t with
  |st n=>exact(HS _ (n.toL v) n.FF y (Eq.mp (qag (y∈·) (n.JL v)) a)).2 h
  |i k=>exact(vX (.i k) v rfl y a).2 rfl
  |bool=>exact(vX .bool v rfl y a).2 rfl
  |str=>exact(vX .str v rfl y a).2 rfl
  |sl t=>cases h
 YR:=λt=>match t with| .st n=>YR n|_=>none
 UT:=λt k l h=>by
  cases t with
  |st n=>exact⟨rfl,UT n k l h⟩
  |_=>cases h
end
section
open Go.RowKit
def aaS{w:Wo}{a:Addr}{v:Va}(h:w.cell? a=some v):∃t n,w.shape? a.block=some (t,n+1):=by
 unfold World.cell? at h;unfold World.shape?;split at h
 .rename_i c t fr d;split at h
  .cases h
  .have b:=(Q6.1 h).1;exact⟨t,c.size - 1,by simp only[Qk,qaM,true_and];omega⟩
 .cases h
def PM{P:Pr}(w:Wo)(d G e:TI)(E:P.underlying d=some (.slice e))(size:Nat)(D:∀w,(Go.sizeOf e).run P w= .ok size w)
  (a b:Addr) (o L n J:Nat) (j:a.block≠b.block) {v:Va} (I:w.cell? a=some v) {c:Array Va} {t:TI} (A:w.heap[b.block]?=some (.cells c t (0,0))) (h0:c.size≠0):
  (Extern.SlicesOverlaps.overlaps #[d,d] #[G] #[.slice (some a) o L,.slice (some b) n J]).run P w= .ok (.bool false) w:=by
 obtain⟨tA,H,p⟩:=aaS I;have h:w.shape? b.block=some (t,c.size):=by simp[World.shape?,A]
 have y:w.frozen? b=false:=by simp[World.frozen?,A]
 have m:w.frozen? {block:=b.block,off:=c.size}=false:=by simp[World.frozen?,A]
 have q:(a.block !=b.block)=true:=by simpa using j
 have l:(a.block==b.block)=false:=by simpa using j
 obtain⟨B,s⟩:∃B,c.size=B+1:=⟨c.size - 1,O⟩;rw[s]at h m
 change Sem.run P (α:=Va) (do
  let some t:=(#[d,d]:Array TI)[0]?|stuck "slices.overlaps: no parameter types"
  let .slice elem <-underlying t|stuck "slices.overlaps: slice type expected"
  let size <-sizeOf elem
  match(some a:Y Addr),(some b:Y Addr)with
  |some a,some b=>
   if o=0\/n=0\/size=0 then pure (Value.bool false)
   else if a.block !=b.block&&(<-frozen a)&&(<-frozen b)then unsupported .addressObserved
   else do
    if a.block !=b.block then do
     noView a;noView b
     if<-mayBeOne a b then return Value.bool ((<-choose (.extern "sameAddr.stringBytes" 2))==1)
    pure (Value.bool (a.block==b.block&&a.off<b.off+n*size&&b.off<a.off+o*size))
  |_,_=>pure (Value.bool false)) w=_
 by_cases h0:o=0\/n=0\/size=0
 .simp[QP E,D,h0]
 .cases z:w.frozen? a<;>cases u:w.frozen? {block:=a.block,off:=H+1}<;>
   simp[QP E,D,h0,q,l,frozen,noView,viewAt,mayBeOne,stringish,shape,Sem.run,p,h,z,u,y,m]
def afB(a:Addr):a.add 0=a:=by
 cases a with
 |mk b o s=>unfold Addr.add;split<;>simp_all
def KE(a:Addr)(n:Nat):(a.add n).block=a.block:=by unfold Addr.add;split<;>rfl
def vf{α:Type}(l:Z α)(o:Nat)(c:Z α):Z α:=l.take o++c++l.drop (o+c.length)
def JN{α:Type}{l:Z α}{o:Nat}{c:Z α}(h:o+c.length<=l.length):(vf l o c).length=l.length:=by simp[vf];omega
def acO{α:Type}{l us b:Z α}{a:Nat}(h:a+us.length+b.length<=l.length):vf (vf l a us) (a+us.length) b=l.take a++us++b++l.drop (a+us.length+b.length):=by
 have c:(l.take a++us).length=a+us.length:=o_
 have j:(vf l a us).take (a+us.length)=l.take a++us:=by rw[vf,List.take_append_of_le_length O,List.take_of_length_le O]
 have d:(vf l a us).drop (a+us.length+b.length)=l.drop (a+us.length+b.length):=by rw[vf,<-List.drop_drop,<-c,List.drop_left,List.drop_drop,c]
 rw[vf,j,d]
def aaz{α:Type}{l us b:Z α}{a:Nat}(h:a+us.length+b.length<=l.length):vf (vf l (a+us.length) b) a us=l.take a++us++b++l.drop (a+us.length+b.length):=by
 have j:(l.take (a+us.length)).length=a+us.length:=o_
 have d:(vf l (a+us.length) b).take a=l.take a:=by rw[vf,qah,List.take_append_of_le_length O,List.take_take,qaD O]
 have c:(vf l (a+us.length) b).drop (a+us.length)=b++l.drop (a+us.length+b.length):=by
  conv=>lhs;rw[vf,qah]
  exact List.drop_left' j
 rw[vf,d,c,qah,qah,qah]
def zU(w:Wo)(g:Nat)(cs:Array Va){b:Nat}(h:b≠g):(w.setRow g cs).heap[b]?=w.heap[b]?:=by simp only[World.setRow,qbW];rw[Qg (λe=>h e.symm)]
def VX(w:Wo)(g:Nat)(cs:Array Va):Fr (some g) w (w.setRow g cs):=⟨rfl,rfl,rfl,by simp[World.setRow],λb _ a=>zU w g cs (λe=>a (by rw[e])),DL.refl _⟩
def Fr.amT(w:Wo)(rb:Y Nat):Fr rb w w.drew:=⟨rfl,rfl,rfl,Qs _,λ_ _ _=>rfl,DL.of (qa1 _)⟩
def Fr.trans'{rb:Y Nat}{a b c:Wo}(h:Fr rb a b)(k:Fr rb b c):Fr rb a c:=⟨k.os.trans h.os,k.tape.trans h.tape,k.output.trans h.output,QJ h.size k.size,λi hi d=>(k.block i (QW hi h.size) d).trans (h.block i hi d),h.drawn.trans k.drawn⟩
def PI{w w':Wo}{v u:Va}{X:Nat->Prop}(p:Fr (cq v) w w')(o:∀b,cq u=some b->cq v=some b\/w.heap.size<=b):dp w w' (Mv v X) (Mv u X):=by
 have j:∀b,b<w.heap.size->¬Mv v X b->w'.heap[b]?=w.heap[b]?/\¬Mv u X b:=λb c d=>⟨p.block b c λh=>d (.inl h),by
  rintro(h|h)
  .rcases o _ h with h|h
   .exact d (.inl h)
   .omega
  .exact d (.inr h)⟩
 refine⟨λa x m d=> ?_,λb es q n d=> ?_⟩
 .have c:a.block<w.heap.size:=by
   by_cases h:a.block<w.heap.size
   .exact h
   .have:w.heap[a.block]?=none:=by rw[qcb];omega
    simp[World.cell?,this]at m
  obtain⟨h1,l⟩:=j _ c d;exact⟨(World.cell?_of_block h1).trans m,l⟩
 .obtain⟨h1,l⟩:=j b (Q6.1 n).1 d;exact⟨h1.trans n,l⟩
def X8{w:Wo}{M:Nat->Prop}{es:Z (Z PV)}{xs:Z Va}(h:bo w M dz es.flatten xs)(l:∀u∈es,u.all PV.one=true):∀x∈xs,x.oneCell'=true:=by
 intro x j;obtain⟨q,c,rfl⟩:=List.mem_iff_getElem.1 j;have d:q<es.flatten.length:=by rw[<-h.1];exact c
 obtain⟨el,b,a⟩:=List.mem_flatten.1 (QE d);exact((h.2 q _ _ (Qj d) (Qj c)).one (Qn.1 (l el b) _ a)).1
structure adN (n c i m:Nat):Prop where
 z1:¬((m:Int)=0)
 z2:¬((i:Int)=(n:Int))
 w1:IntKind.i64.wrap ((i:Int)+(m:Int))=(i:Int)+(m:Int)
 b1:(0:Int)<=(i:Int)+(m:Int)
 tn:((i:Int)+(m:Int)).toNat=i+m
 b3:(i:Int)<=(n:Int)+(m:Int)
 b4:¬(c=i)
 b5:(i:Int)<=(n:Int)
def adN.of{n c i m:Nat}(hi:i<n)(d:n<=c)(a:c<=9223372036854775807)(b:0<m)(h:n+m<=9223372036854775807):adN n c i m:=
 ⟨O,O,by rw[qbS];omega,O,O,O,O,O⟩
structure VH (P:Program) (f S E I B ov k bytes:Nat):Prop where
 anQ:0<k
 hS:P.underlying S=some (.slice E)
 hI:P.underlying I=some (.int .i64)
 anR:∃(i:TypeInfo) (z:Value),P.info? E=some i/\i.zero=some z/\z.cells.size=k/\i.size=k/\i.bytes=bytes
 JQ:∀(x:Array Value) (w:World),(Extern.SlicesOverlaps.overlaps #[S,S] #[B] x).run P w= .ok (.bool false) w->(callFunc ov x).run P w= .ok (.value (.bool false)) w
 aeF:∀(g n c i:Nat),i<=n->n<=c->c<=9223372036854775807->∀(u:Option Addr) (vc:Nat) (w:World),
  Calls P f #[.slice (some ⟨g,0,none⟩) n c,.int .i64 i,.slice u 0 vc] w λe w'=>e= .returned (.slice (some ⟨g,0,none⟩) n c)/\w'=w
 agt:∀(u:Option Addr) (vc:Nat) (w:World),Calls P f #[.slice none 0 0,.int .i64 0,.slice u 0 vc] w λe w'=>e= .returned (.slice none 0 0)/\w'=w
 alL:∀(g n c:Nat),n<=c->c<=9223372036854775807->∀(ad:Addr) (m vc:Nat),0<m->∀(w w1:World) (v1:Value),
  (∀ty,(Builtin.append_ #[S,S] ty #[.slice (some ⟨g,0,none⟩) n c,.slice (some ad) m vc]).run P w= .ok v1 w1)->
  Calls P f #[.slice (some ⟨g,0,none⟩) n c,.int .i64 n,.slice (some ad) m vc] w λe w'=>e= .returned v1/\w'=w1
 adB:∀(ad:Addr) (m vc:Nat),0<m->∀(w w1:World) (v1:Value),
  (∀ty,(Builtin.append_ #[S,S] ty #[.slice none 0 0,.slice (some ad) m vc]).run P w= .ok v1 w1)->
  Calls P f #[.slice none 0 0,.int .i64 0,.slice (some ad) m vc] w λe w'=>e= .returned v1/\w'=w1
 shift:∀(g n c i:Nat),i<n->c<=9223372036854775807->∀(ad:Addr) (m vc:Nat),0<m->n+m<=c->adN n c i m->¬(c=i+m)->∀(w w1 w2:World),
  (∀lb cb,(callFunc ov #[.slice (some ad) m vc,.slice (some ⟨g,(i+m)*k,none⟩) lb cb]).run P w= .ok (.value (.bool false)) w)->
  (∀ty dc sc,(Builtin.copy_ #[S,S] ty #[.slice (some ⟨g,(i+m)*k,none⟩) (n+m - (i+m)) dc,.slice (some ⟨g,i*k,none⟩) (n+m - i) sc]).run P w.drew= .ok (goInt (n - i:Nat)) w1)->
  (∀ty dc,(Builtin.copy_ #[S,S] ty #[.slice (some ⟨g,i*k,none⟩) (n+m - i) dc,.slice (some ad) m vc]).run P w1= .ok (goInt m) w2)->
  Calls P f #[.slice (some ⟨g,0,none⟩) n c,.int .i64 i,.slice (some ad) m vc] w λe w'=>e= .returned (.slice (some ⟨g,0,none⟩) (n+m) c)/\w'=w2
 grow:∀(g n c i:Nat),i<n->n<=c->c<=9223372036854775807->∀(ad:Addr) (m vc:Nat),0<m->c<n+m->∀(N G:Nat),n+m<=G->G<=9223372036854775807->adN n c i m->(c:Int)<(n:Int)+(m:Int)->¬(G=i)->¬(G=i+m)->∀(w w1 w2 w3:World),
  (∀ty,(Builtin.append_ #[S,I] ty #[.slice (some ⟨g,0,none⟩) i c,.int .i64 ((n:Int)+(m:Int) - (i:Int))]).run P w= .ok (.slice (some ⟨N,0,none⟩) (n+m) G) w1)->
  (∀ty dc,(Builtin.copy_ #[S,S] ty #[.slice (some ⟨N,i*k,none⟩) (n+m - i) dc,.slice (some ad) m vc]).run P w1= .ok (goInt m) w2)->
  (∀ty dc sc,(Builtin.copy_ #[S,S] ty #[.slice (some ⟨N,(i+m)*k,none⟩) (n+m - (i+m)) dc,.slice (some ⟨g,i*k,none⟩) (n - i) sc]).run P w2.drew= .ok (goInt (n - i:Nat)) w3)->
  Calls P f #[.slice (some ⟨g,0,none⟩) n c,.int .i64 i,.slice (some ad) m vc] w λe w'=>e= .returned (.slice (some ⟨N,0,none⟩) (n+m) G)/\w'=w3
def NX{P:Pr}{E k bytes:Nat}(h:(P.info? E).map (λi=>(i.zero.map (·.cells.size),i.size,i.bytes))=some (some k,k,bytes)):∃(i:TypeInfo) (z:Va),P.info? E=some i/\i.zero=some z/\z.cells.size=k/\i.size=k/\i.bytes=bytes:=by
 rw[Qq]at h;obtain⟨i,h1,a⟩:=h;injection a with a b
 injection b with b j
 rw[Qq]at a;obtain⟨z,d,c⟩:=a;exact⟨i,z,h1,d,c,b,j⟩
def aje{P:Pr}{f S E I B ov k o:Nat}(H:VH P f S E I B ov k o){es vs:Z (Z PV)}{i:Nat}(hi:i<=es.length)(h1e:∀u∈es,u.all PV.one=true)(hvs:∀u∈vs,u.length=k/\u.all PV.one=true)
  (L:es.length+vs.length<=maxLen) (hby:(es.length+vs.length)*o<=140737488355328):RP P f E k es [.int .i64 i,.sl vs] (es.take i++vs++es.drop i):=by
 have hk0:=H.anQ;intro w X hX v args hvX ⟨xs,q,hke,hr⟩ A;obtain⟨a1,args,rfl,ha1,A⟩:=A.cons_inv;obtain⟨a2,args,rfl,ha2,A⟩:=A.cons_inv;obtain rfl:=A.vi;obtain rfl:=ha1.jT;obtain⟨inf,z,hi1,hi2,hi3,hi4,hi5⟩:=H.anR;have hsz:(P.info? E).map (·.size)=some k:=by rw[hi1];simp[hi4]
 have hmem:∀u∈es.take i++vs++es.drop i,u.length=k:=by
  intro u hu;rw[QA,QA]at hu;rcases hu with(hu|hu)|hu
  .exact hke u (qa0 hu)
  .exact(hvs u hu).1
  .exact hke u (qbc hu)
 have same:vs=[]->es.take i++vs++es.drop i=es:=λh=>by rw[h];simp
 by_cases hm0:vs=[]
 .rw[same hm0]
  have hz:∃u vc,a2= .slice u 0 vc:=by
   subst hm0;rcases ha2.Ix with⟨h,_⟩|⟨ad,c,_,_,h,_⟩
   .exact⟨_,_,h⟩
   .exact⟨_,_,h⟩
  obtain⟨u,vc,rfl⟩:=hz
  have post:∀(e:Ending) (w':Wo),e= .returned v/\w'=w->∃u,e= .returned u/\Ci w' (Mv u X) E k u es/\(∀b,cq u=some b->cq v=some b\/w.heap.size<=b)/\Fr (cq v) w w':=by rintro e w' ⟨rfl,rfl⟩;exact⟨v,rfl,⟨xs,q,hke,hr⟩,λb t=> .inl t,Fr.refl _ _⟩
  rcases q.2 with⟨rfl,h0⟩|⟨g,cap,D,rfl,_,hg,hnc,hcm,hcs,htk⟩
  .obtain rfl:i=0:=O;exact(H.agt u vc w).mono λe w' h=>post e w' h
  .exact(H.aeF g es.length cap i hi hnc (by simp only[maxLen]at hcm;omega) u vc w).mono λe w' h=>post e w' h
 .
  have hm:0<vs.length:=List.length_pos_iff.2 hm0;rcases ha2.Ix with⟨_,h⟩|⟨ad,vc,k',us,rfl,hk',hru,hcu,_,_⟩
  .exact absurd h hm0
  have N:us.length=vs.length*k:=by rw[hru.1,pa vs k λu hu=>(hvs u hu).1]
  have J:=X8 hru λu hu=>(hvs u hu).2
  have hpos:0<us.length:=by rw[N];exact Nat.mul_pos hm hk0
  obtain⟨c0,hc0⟩:∃c0,us[0]?=some c0:=⟨_,Qj hpos⟩;obtain⟨had,hadM⟩:=hcu 0 c0 hc0;have had:w.cell? ad=some c0:=by rw[afB]at had;exact had
  have p:∀(j:Nat) (u:Va),us[j]?=some u->w.cell? (ad.add j)=some u:=λj u M=>(hcu j u M).1
  have hadlt:ad.block<w.heap.size:=by
   by_cases h:ad.block<w.heap.size
   .exact h
   .have:w.heap[ad.block]?=none:=by rw[qcb];omega
    simp[World.cell?,this]at had
  have fin:∀(v1:Va) (w1:Wo),w1.ownsRow 0 E k v1 (es.length+vs.length) (xs++us)->w.grownBy w1 v.ownBlock->(v1.ownBlock=v.ownBlock\/v1.ownBlock=some w.heap.size)->(∃a n c,v= .slice a n c)->i=es.length->w.drawn<=w1.drawn->
    ∀(e:Ending) (w':Wo),e= .returned v1/\w'=w1->∃u,e= .returned u/\Ci w' (Mv u X) E k u (es.take i++vs++es.drop i)/\(∀b,cq u=some b->cq v=some b\/w.heap.size<=b)/\Fr (cq v) w w':=by
   rintro v1 w1 ho hgr hat ⟨a0,n0,c0,hv0⟩ hie hdr e w' ⟨rfl,rfl⟩;have hb0:v.ownBlock=cq v:=pA hv0
   have hb1:v1.ownBlock=cq v1:=by
    rcases ho.2 with⟨h,_⟩|⟨_,_,_,h,_⟩
    .exact pA h
    .exact pA h
   have Q:Fr (cq v) w w':=⟨hgr.os,hgr.tape,hgr.output,hgr.size,λb t hne=>hgr.block b t (λh=>hne (by rw[<-hb0,<-h])),DL.of hdr⟩
   have hub:∀b,cq v1=some b->cq v=some b\/w.heap.size<=b:=λb t=>by
    rw[<-hb1]at t;rcases hat with h|h
    .exact .inl (by rw[<-hb0,<-h];exact t)
    .rw[h]at t;injection t with t;exact .inr O
   have he:es.take i++vs++es.drop i=es++vs:=by subst hie;simp
   rw[he]at hmem ⊢;refine⟨v1,rfl,⟨xs++us,by rw[QM];exact ho,hmem,?_⟩,hub,Q⟩
   rw[List.flatten_append];exact(hr.append hru).mono (PI Q hub) (dz.le _)
  rcases q.2 with⟨rfl,h0⟩|⟨g,cap,D,rfl,hb0,hg,hnc,hcm,hcs,htk⟩
  .obtain rfl:i=0:=O;obtain⟨v1,w1,r1,r2,r3,_,r5⟩:=qbP (P:=P) w 0 S 0 E inf z k o H.hS hi1 hi2 hi4 hi5 hi3 hk0 (.slice none 0 0) es.length xs q ad vs.length vc us N p J L hby (QT _);exact(H.adB ad vs.length vc hm w w1 v1 λty=>r1).mono λe w' h=>fin v1 w1 r2 r3 r5 ⟨_,_,_,rfl⟩ h0.symm (GD (P:=P) w 0 S 0 E inf z k o H.hS hi1 hi2 hi4 hi5 hk0 (.slice none 0 0) es.length xs q ad vs.length vc us N p J L hby r1) e w' h
  .have V:cap<=9223372036854775807:=by simp only[maxLen]at hcm;omega
   by_cases hie:i=es.length
   .obtain⟨v1,w1,r1,r2,r3,_,r5⟩:=qbP (P:=P) w 0 S 0 E inf z k o H.hS hi1 hi2 hi4 hi5 hi3 hk0 _ es.length xs q ad vs.length vc us N p J L hby (QT _);have:=H.alL g es.length cap hnc V ad vs.length vc hm w w1 v1 λty=>r1
    rw[<-hie]at this ⊢;exact this.mono λe w' h=>fin v1 w1 r2 r3 r5 ⟨_,_,_,rfl⟩ hie (GD (P:=P) w 0 S 0 E inf z k o H.hS hi1 hi2 hi4 hi5 hk0 _ es.length xs q ad vs.length vc us N p J L hby r1) e w' h
   .have hin:i<es.length:=O;have hM:∀b,Mv (.slice (some ⟨g,0,none⟩) es.length cap) X b->True:=λ_ _=>trivial
    have hne:ad.block≠g:=λh=>hadM (.inl (by rw[h];rfl))
    have hglt:g<w.heap.size:=(Q6.1 hg).1;have hxl:xs.length=es.length*k:=q.1;have hcl:es.length*k<=D.toList.length:=by simpa[hcs]using Q2 k hnc
    have hx1:=X8 hr h1e;obtain⟨W,hys⟩:∃W,W=xs.drop (i*k):=⟨_,rfl⟩;have hyl:W.length=(es.length - i)*k:=by rw[hys,List.length_drop,hxl,Nat.sub_mul]
    have hy1:∀y∈W,y.oneCell'=true:=λy hy=>hx1 y (qbc (hys▸hy))
    have hcx:∀(j:Nat) (u:Va),xs[j]?=some u->w.cell? ⟨g,j,none⟩=some u:=λj u M=>by
     refine tU hg ?_;rw[<-htk,qaR]at M;split at M
     .exact M
     .cases M
    have hcy:∀(j:Nat) (u:Va),W[j]?=some u->w.cell? ((⟨g,i*k,none⟩:Addr).add j)=some u:=λj u M=>by rw[add_mid];rw[hys,List.getElem?_drop]at M;exact hcx _ u M
    have hik:i*k+us.length=(i+vs.length)*k:=by rw[N,Q1]
    have htot:i*k+us.length+W.length=(es.length+vs.length)*k:=by rw[N,hyl,<-Q1,<-Q1];congr 1;omega
    have hres:bo w (Mv (.slice (some ⟨g,0,none⟩) es.length cap) X) dz (es.take i++vs++es.drop i).flatten (xs.take (i*k)++us++W):=by rw[List.flatten_append,List.flatten_append,yj k i es hke,Cc k i es hke,hys];exact((hr.take _).append hru).append (hr.drop _)
    have s:(es.take i++vs++es.drop i).length=es.length+vs.length:=o_
    have htl:(xs.take (i*k)++us++W).length=(es.length+vs.length)*k:=by rw[QM,QM,List.length_take,hxl,qaD (Q2 k hi)];exact htot
    by_cases hroom:es.length+vs.length<=cap
    .
     have hfit:(es.length+vs.length)*k<=D.toList.length:=by simpa[hcs]using Q2 k hroom
     have r1:=An (P:=P) w.drew S S 0 E g ((i+vs.length)*k) (es.length+vs.length - (i+vs.length)) 0 ⟨g,i*k,none⟩ (es.length+vs.length - i) 0 D E W k (es.length - i) H.hS hsz hg
      (by simp only[qbA];split<;>omega) hyl hcy (by simp only[qar]at hfit;omega) hy1
     obtain⟨d,m⟩:∃d:Array Va,d=(vf D.toList ((i+vs.length)*k) W).toArray:=⟨_,rfl⟩;have hg1:(w.drew.setRow g d).heap[g]?=some (.cells d E (0,0)):=qaV w.drew g D _ E _ hg
     have hl1:d.size=cap*k:=by rw[m,List.size_toArray,JN (by rw[<-hik];omega),qar,hcs]
     have r2:=An (P:=P) (w.drew.setRow g d) S S 0 E g (i*k) (es.length+vs.length - i) 0 ad vs.length vc d E us k vs.length H.hS hsz hg1
      (by simp only[qbA];split<;>omega) N (λj u M=>by rw[World.cell?_of_block (w:=w) (zU w.drew g d (by rw[KE];exact hne))];exact p j u M)
      (by rw[hl1,<-hcs,<-qar];omega) J
     obtain⟨cur2,l⟩:∃cur2:Array Va,cur2=(vf d.toList (i*k) us).toArray:=⟨_,rfl⟩;have hg2:((w.drew.setRow g d).setRow g cur2).heap[g]?=some (.cells cur2 E (0,0)):=qaV _ g d _ E _ hg1
     have hc2:cur2.toList=xs.take (i*k)++us++W++D.toList.drop ((es.length+vs.length)*k):=by rw[l,m,<-hik,aaz O,htot,<-htk,List.take_take,qaD (Q2 k hi)]
     have hC:D.toList.length=cap*k:=(qar (xs:=D)).trans hcs;have hL1:d.toList.length=cap*k:=(qar (xs:=d)).trans hl1;have Q:Fr (some g) w ((w.drew.setRow g d).setRow g cur2):=(Fr.amT w _).trans' ((VX _ g _).trans' (VX _ g _))
     have hcap0:D.size≠0:=by have:0<cap:=O;rw[hcs];exact Nat.ne_of_gt (Nat.mul_pos this hk0)
     refine(H.shift g es.length cap i hin V ad vs.length vc hm hroom (.of hin O V hm O) O w (w.drew.setRow g d) ((w.drew.setRow g d).setRow g cur2) (λlb cb=> ?_) (λty dc sc=> ?_) (λty dc=> ?_)).mono ?_
     .exact H.JQ _ w (PM w S B E H.hS k (λw'=>by simp[Go.sizeOf,typeInfo,hi1,hi4]) ad ⟨g,(i+vs.length)*k,none⟩ vs.length vc lb cb hne had hg hcap0)
     .rw[m];exact r1
     .rw[l];exact r2
     .rintro e w' ⟨rfl,rfl⟩;refine⟨_,rfl,⟨xs.take (i*k)++us++W,⟨?_,.inr ⟨g,cap,cur2,by rw[s],hb0,hg2,by rw[s];exact hroom,hcm,?_,?_⟩⟩,hmem,hres.mono (@PI w _ (.slice (some ⟨g,0,none⟩) es.length cap) (.slice (some ⟨g,0,none⟩) (es.length+vs.length) cap) X Q λb t=> .inl t) (dz.le _)⟩,λb t=> .inl t,Q⟩
      .rw[htl,s]
      .rw[l,List.size_toArray,JN (by rw[hL1];omega),hL1]
      .rw[s,hc2,<-htl,List.take_left' rfl]
    .
     have hik2:i+(es.length+vs.length - i)=es.length+vs.length:=O
     have hold:(Builtin.firstCells inf.size i (.slice (some ⟨g,0,none⟩) i cap)).run P w.drew= .ok (xs.take (i*k)).toArray w.drew:=by
      rw[hi4];refine run_firstCells_some w.drew k i ⟨g,0,none⟩ i cap (xs.take (i*k)) (by rw[List.length_take,hxl];exact qaD (Q2 k hi)) λj u M=> ?_
      rw[add_mid,qau];rw[qaR]at M;split at M
      .exact hcx j u M
      .cases M
     have hmax':es.length+vs.length<=9223372036854775807:=by simp only[maxLen]at L;omega
     have r0:=λty=>Lib.run_append_grow_zeros (P:=P) w S I ty E inf z .i64 .i64 H.hS H.hI hi1 hi2 (some ⟨g,0,none⟩) i cap (xs.take (i*k)) hold (es.length+vs.length - i) O O O O
      (by rw[hi5];have:=Q2 o (show es.length+vs.length - i<=es.length+vs.length by omega);omega) (by rw[hi5,hik2];exact growslice_fits O hby)
     rw[hik2]at r0;obtain⟨G,hG⟩:∃G,G=grownCap w (es.length+vs.length) cap E:=⟨_,rfl⟩;have hGn:es.length+vs.length<=G:=by rw[hG];exact grownCap_ge w _ _ _
     have hGm:G<=maxLen:=by rw[hG];exact grownCap_le_maxLen w _ _ _ L
     have hG63:G<=9223372036854775807:=by simp only[maxLen]at hGm;omega
     rw[<-hG]at r0;obtain⟨row,hrow⟩:∃row:Array Va,row=(xs.take (i*k)).toArray++Builtin.zeroCells z.cells (es.length+vs.length - i)++Builtin.zeroCells z.cells (G - (es.length+vs.length)):=⟨_,rfl⟩;rw[<-hrow]at r0;have hrt:(xs.take (i*k)).length=i*k:=by rw[List.length_take,hxl];exact qaD (Q2 k hi)
     have hrl:row.size=G*k:=by rw[hrow,qbX,qbX,List.size_toArray,hrt,size_zeroCells,size_zeroCells,hi3,<-Q1,<-Q1];congr 1;omega
     have hrtake:row.toList.take (i*k)=xs.take (i*k):=by rw[hrow,Array.toList_append,Array.toList_append,qah];exact List.take_left' hrt
     have hN:(w.drew.alloc (.cells row E)).heap[w.heap.size]?=some (.cells row E (0,0)):=by show(w.heap.push (.cells row E))[w.heap.size]?=_;simp
     have hkeep:∀b,b<w.heap.size->(w.drew.alloc (.cells row E)).heap[b]?=w.heap[b]?:=λb t=>Below.heap_alloc w.drew _ b t
     have hfit:(es.length+vs.length)*k<=row.size:=by rw[hrl];exact Q2 k hGn
     have r1:=An (P:=P) (w.drew.alloc (.cells row E)) S S 0 E w.heap.size (i*k) (es.length+vs.length - i) 0 ad vs.length vc row E us k vs.length H.hS hsz hN
      (by simp only[qbA];split<;>omega) N (λj u M=>by rw[World.cell?_of_block (w:=w) (hkeep _ (by rw[KE];exact hadlt))];exact p j u M) O J
     have hR:row.toList.length=G*k:=(qar (xs:=row)).trans hrl;obtain⟨d,m⟩:∃d:Array Va,d=(vf row.toList (i*k) us).toArray:=⟨_,rfl⟩;have hl1:d.size=G*k:=by rw[m,List.size_toArray,JN (by rw[hR];omega),hR]
     have hL1:d.toList.length=G*k:=(qar (xs:=d)).trans hl1;have hg1:((w.drew.alloc (.cells row E)).setRow w.heap.size d).drew.heap[w.heap.size]?=some (.cells d E (0,0)):=qaV _ _ row _ E _ hN
     have r2:=An (P:=P) ((w.drew.alloc (.cells row E)).setRow w.heap.size d).drew S S 0 E w.heap.size ((i+vs.length)*k) (es.length+vs.length - (i+vs.length)) 0 ⟨g,i*k,none⟩ (es.length - i) 0 d E W k (es.length - i) H.hS hsz hg1
      (by simp only[qbA];split<;>omega) hyl (λj u M=>by
       rw[World.cell?_of_block (w:=w) (w':=((w.drew.alloc (.cells row E)).setRow w.heap.size d).drew) (((zU _ w.heap.size d (by rw[KE];exact qby hglt)).trans (hkeep _ (by rw[KE];exact hglt))))]
       exact hcy j u M) (by rw[hl1,<-hrl,<-hik];omega) hy1
     obtain⟨cur2,l⟩:∃cur2:Array Va,cur2=(vf d.toList ((i+vs.length)*k) W).toArray:=⟨_,rfl⟩;obtain⟨w3,hw3⟩:∃w3,w3=((w.drew.alloc (.cells row E)).setRow w.heap.size d).drew.setRow w.heap.size cur2:=⟨_,rfl⟩;have hg2:w3.heap[w.heap.size]?=some (.cells cur2 E (0,0)):=by rw[hw3];exact qaV _ _ d _ E _ hg1
     have hc2:cur2.toList=xs.take (i*k)++us++W++row.toList.drop ((es.length+vs.length)*k):=by rw[l,m,<-hik,acO (by rw[hR];omega),htot,hrtake]
     have Q:Fr (some g) w w3:=by
      rw[hw3];refine⟨rfl,rfl,rfl,by simp[World.setRow],λb t _=> ?_,DL.of (by show w.drawn<=w.drawn+1+1;omega)⟩
      rw[zU _ _ _ (qby t)];exact(zU _ w.heap.size d (qby t)).trans (hkeep b t)
     refine(H.grow g es.length cap i hin hnc V ad vs.length vc hm O w.heap.size G hGn hG63 (.of hin hnc V hm O) O O O w (w.drew.alloc (.cells row E)) ((w.drew.alloc (.cells row E)).setRow w.heap.size d) w3 (λty=> ?_) (λty dc=> ?_) (λty dc sc=> ?_)).mono ?_
     .have:=r0 ty;rw[show((es.length+vs.length - i:Nat):Int)=(es.length:Int)+(vs.length:Int) - (i:Int)by omega]at this
      exact this
     .rw[m];exact r1
     .rw[hw3,l];exact r2
     .rintro e w' ⟨rfl,rfl⟩
      have hub:∀b,cq (.slice (some ⟨w.heap.size,0,none⟩) (es.length+vs.length) G)=some b->cq (.slice (some ⟨g,0,none⟩) es.length cap)=some b\/w.heap.size<=b:=λb t=>by
       injection t with t
       exact .inr (qaU t)
      refine⟨_,rfl,⟨xs.take (i*k)++us++W,⟨?_,.inr ⟨w.heap.size,G,cur2,by rw[s],QT _,hg2,by rw[s];exact hGn,hGm,?_,?_⟩⟩,hmem,hres.mono (@PI w _ (.slice (some ⟨g,0,none⟩) es.length cap) (.slice (some ⟨w.heap.size,0,none⟩) (es.length+vs.length) G) X Q hub) (dz.le _)⟩,hub,Q⟩
      .rw[htl,s]
      .rw[l,List.size_toArray,JN (by rw[hL1,<-hik];omega),hL1]
      .rw[s,hc2,<-htl,List.take_left' rfl]
end
end Go.TQ
end
noncomputable section
namespace Go.Proofs.YtofedieniojipaaGreat
open Go.RowKit Go.TQ Go.Lib
namespace Zj
set_option maxHeartbeats 8000000 in
set_option maxRecDepth 100000 in
def ways:VH Tryz.prog 106 28 56 3 4 174 37 496:=by
 have W:∀w:Wo,(Go.sizeOf 56).run Tryz.prog w= .ok 37 w:=λ_=>d_
 have uS:=QP Tryz.underlying28;have o:Tryz.prog.follows .mixedOrders=true:=d_;refine⟨s_,Tryz.underlying28,Tryz.underlying3,NX d_,λx w h=> ?_,λg n c i hi D a u d w=> ?_,λu d w=> ?_,λg n c D a ad m d v w w1 v1 B=> ?_,λad m d v w w1 v1 B=> ?_,λg n c i hi a ad m d v b ⟨j,p,q,z,s,l,M,y⟩ Q w w1 w2 t h1 A=> ?_,λg n c i hi D a ad m d v b N G S H ⟨j,p,q,z,s,_,L,l⟩ I V E w w1 w2 X J h1 A=> ?_⟩
 .rw[qbB Tryz.func174 d_ d_ d_ (e:=Extern.SlicesOverlaps.overlaps #[28,28] #[4]) d_,h];rfl
 rotate_left 4
 .go_enter Tryz.func106,Tryz.ntmps106
  go_wp2_with (simp only[t])
  go_region_law_o (refine step_copy_runI rfl _ _ 28 28 rfl _ _ (by simp[Act.eval,Act.put]) (by simp[Act.eval,Act.put]) (h1 _ _ _) ?_)
  go_wp2_with (at_builtin;refine wpList_copy_runI _ rfl _ _ 28 28 rfl _ _ rfl rfl (A _ _) ?_)
  go_ret
  exact⟨rfl,rfl⟩
 .have y:=l
  go_enter Tryz.func106,Tryz.ntmps106
  go_wp2_with (first
   |(at_builtin;refine Lib.wpList_append_run _ rfl _ _ _ _ rfl _ _ rfl rfl _ _ (J _) ?_)
   |(at_builtin;refine wpList_copy_runI _ rfl _ _ 28 28 rfl _ _ rfl rfl (h1 _ _) ?_))
  go_region_law_o (refine step_copy_runI rfl _ _ 28 28 rfl (.slice (some ⟨N,(i+m)*37,none⟩) (n+m - (i+m)) (G - (i+m))) (.slice (some ⟨g,i*37,none⟩) (n - i) (c - i)) (by simp[Act.eval,Act.put]) (by simp[Act.eval,Act.put]) (A 3 (G - (i+m)) (c - i)) ?_)
  go_wp2
  go_ret
  exact⟨rfl,rfl⟩
 all_goals
  try have j:¬((m:Int)=0):=O
  go_enter Tryz.func106,Tryz.ntmps106
  go_wp2_with (at_builtin;refine Lib.wpList_append_run _ rfl _ _ _ _ rfl _ _ rfl rfl _ _ (B _) ?_)
  all_goals go_ret
  all_goals exact⟨rfl,rfl⟩
def enters:Go.TQ.Enters Tryz.prog 106:=⟨Tryz.f106,Tryz.func106,d_,d_⟩
end Zj
end Go.Proofs.YtofedieniojipaaGreat
end
noncomputable section
namespace Go.TQ
def Er{α:Type}(a:Nat)(s:Z α)(i:Int)(v:Z α):Y (Z α):=bif decide (0<=i)&&decide (i<=((s.length:Nat):Int))&&bl a (s.length+v.length)then some (s.take i.toNat++v++s.drop i.toNat)else none
theorem eQ{P:Pr}{f S E I B n k b:Nat}(H:VH P f S E I B n k b)(hent:Enters P f){T:Ty}(p:∀x:T.den,(T.pv x).length=k):
  eB.Sound P (U:=U) (.cw f E k T [.ty (Ty.i .i64),.ty (Ty.sl T)] λs a=>Er b s a.1 a.2.1):=by
 refine⟨hent,λxs a d h=> ?_⟩
 suffices l:∀(i:Int) (v:Z T.den) (d:Z T.den),Er b xs i v=some d->RP P f E k (xs.map T.pv) [.int .i64 i,.sl (v.map T.pv)] (d.map T.pv)from l a.1 a.2.1 d h
 clear h;intro i v d h;unfold Er at h
 cases j:(decide (0<=i)&&decide (i<=((xs.length:Nat):Int))&&bl b (xs.length+v.length))with
 |false=>rw[j]at h;cases h
 |true=>
  rw[j]at h;injection h with h
  subst h;simp only[Qi,Qw]at j;obtain⟨⟨h0,h1⟩,w⟩:=j;obtain⟨t,q⟩:=Fb w;have c:∀x:T.den,(T.pv x).all PV.one=true:=λx=>Qn.2 λy o=>Zq (K.gJ T x y o)
  have:=aje H (es:=xs.map T.pv) (vs:=v.map T.pv) (i:=i.toNat) (by rw[QD];omega)
   (λu m=>by obtain⟨x,_,rfl⟩:=QO.1 m;exact c x) (λu m=>by obtain⟨x,_,rfl⟩:=QO.1 m;exact⟨p x,c x⟩)
   (by rw[QD,QD];exact q) (by rw[QD,QD];exact t)
  rw[<-List.map_take,<-List.map_drop,<-List.map_append,<-List.map_append,show((i.toNat:Nat):Int)=i by omega]at this
  exact this
end Go.TQ
end
noncomputable section
namespace Go.Proofs.YtofedieniojipaaGreat
open Go.RowKit Go.TQ Go.Lib
namespace Zi
set_option maxHeartbeats 8000000 in
set_option maxRecDepth 100000 in
def ways:VH Tryz.prog 164 47 34 3 4 223 7 120:=by
 have W:∀w:Wo,(Go.sizeOf 34).run Tryz.prog w= .ok 7 w:=λ_=>d_
 have uS:=QP Tryz.underlying47;have o:Tryz.prog.follows .mixedOrders=true:=d_;refine⟨s_,Tryz.underlying47,Tryz.underlying3,NX d_,λx w h=> ?_,λg n c i hi D a u d w=> ?_,λu d w=> ?_,λg n c D a ad m d v w w1 v1 B=> ?_,λad m d v w w1 v1 B=> ?_,λg n c i hi a ad m d v b ⟨j,p,q,z,s,l,M,y⟩ Q w w1 w2 t h1 A=> ?_,λg n c i hi D a ad m d v b N G S H ⟨j,p,q,z,s,_,L,l⟩ I V E w w1 w2 X J h1 A=> ?_⟩
 .rw[qbB Tryz.func223 d_ d_ d_ (e:=Extern.SlicesOverlaps.overlaps #[47,47] #[4]) d_,h];rfl
 rotate_left 4
 .go_enter Tryz.func164,Tryz.ntmps164
  go_wp2_with (simp only[t])
  go_region_law_o (refine step_copy_runI rfl _ _ 47 47 rfl _ _ (by simp[Act.eval,Act.put]) (by simp[Act.eval,Act.put]) (h1 _ _ _) ?_)
  go_wp2_with (at_builtin;refine wpList_copy_runI _ rfl _ _ 47 47 rfl _ _ rfl rfl (A _ _) ?_)
  go_ret
  exact⟨rfl,rfl⟩
 .have y:=l
  go_enter Tryz.func164,Tryz.ntmps164
  go_wp2_with (first
   |(at_builtin;refine Lib.wpList_append_run _ rfl _ _ _ _ rfl _ _ rfl rfl _ _ (J _) ?_)
   |(at_builtin;refine wpList_copy_runI _ rfl _ _ 47 47 rfl _ _ rfl rfl (h1 _ _) ?_))
  go_region_law_o (refine step_copy_runI rfl _ _ 47 47 rfl (.slice (some ⟨N,(i+m)*7,none⟩) (n+m - (i+m)) (G - (i+m))) (.slice (some ⟨g,i*7,none⟩) (n - i) (c - i)) (by simp[Act.eval,Act.put]) (by simp[Act.eval,Act.put]) (A 3 (G - (i+m)) (c - i)) ?_)
  go_wp2
  go_ret
  exact⟨rfl,rfl⟩
 all_goals
  try have j:¬((m:Int)=0):=O
  go_enter Tryz.func164,Tryz.ntmps164
  go_wp2_with (at_builtin;refine Lib.wpList_append_run _ rfl _ _ _ _ rfl _ _ rfl rfl _ _ (B _) ?_)
  all_goals go_ret
  all_goals exact⟨rfl,rfl⟩
def enters:Go.TQ.Enters Tryz.prog 164:=⟨Tryz.f164,Tryz.func164,d_,d_⟩
end Zi
end Go.Proofs.YtofedieniojipaaGreat
namespace Go.Proofs.YtofedieniojipaaGreat
open Go.RowKit Go.TQ Go.Lib
namespace Zh
set_option maxHeartbeats 8000000 in
set_option maxRecDepth 100000 in
def ways:VH Tryz.prog 236 50 38 3 4 282 15 176:=by
 have W:∀w:Wo,(Go.sizeOf 38).run Tryz.prog w= .ok 15 w:=λ_=>d_
 have uS:=QP Tryz.underlying50;have o:Tryz.prog.follows .mixedOrders=true:=d_;refine⟨s_,Tryz.underlying50,Tryz.underlying3,NX d_,λx w h=> ?_,λg n c i hi D a u d w=> ?_,λu d w=> ?_,λg n c D a ad m d v w w1 v1 B=> ?_,λad m d v w w1 v1 B=> ?_,λg n c i hi a ad m d v b ⟨j,p,q,z,s,l,M,y⟩ Q w w1 w2 t h1 A=> ?_,λg n c i hi D a ad m d v b N G S H ⟨j,p,q,z,s,_,L,l⟩ I V E w w1 w2 X J h1 A=> ?_⟩
 .rw[qbB Tryz.func282 d_ d_ d_ (e:=Extern.SlicesOverlaps.overlaps #[50,50] #[4]) d_,h];rfl
 rotate_left 4
 .go_enter Tryz.func236,Tryz.ntmps236
  go_wp2_with (simp only[t])
  go_region_law_o (refine step_copy_runI rfl _ _ 50 50 rfl _ _ (by simp[Act.eval,Act.put]) (by simp[Act.eval,Act.put]) (h1 _ _ _) ?_)
  go_wp2_with (at_builtin;refine wpList_copy_runI _ rfl _ _ 50 50 rfl _ _ rfl rfl (A _ _) ?_)
  go_ret
  exact⟨rfl,rfl⟩
 .have y:=l
  go_enter Tryz.func236,Tryz.ntmps236
  go_wp2_with (first
   |(at_builtin;refine Lib.wpList_append_run _ rfl _ _ _ _ rfl _ _ rfl rfl _ _ (J _) ?_)
   |(at_builtin;refine wpList_copy_runI _ rfl _ _ 50 50 rfl _ _ rfl rfl (h1 _ _) ?_))
  go_region_law_o (refine step_copy_runI rfl _ _ 50 50 rfl (.slice (some ⟨N,(i+m)*15,none⟩) (n+m - (i+m)) (G - (i+m))) (.slice (some ⟨g,i*15,none⟩) (n - i) (c - i)) (by simp[Act.eval,Act.put]) (by simp[Act.eval,Act.put]) (A 3 (G - (i+m)) (c - i)) ?_)
  go_wp2
  go_ret
  exact⟨rfl,rfl⟩
 all_goals
  try have j:¬((m:Int)=0):=O
  go_enter Tryz.func236,Tryz.ntmps236
  go_wp2_with (at_builtin;refine Lib.wpList_append_run _ rfl _ _ _ _ rfl _ _ rfl rfl _ _ (B _) ?_)
  all_goals go_ret
  all_goals exact⟨rfl,rfl⟩
def enters:Go.TQ.Enters Tryz.prog 236:=⟨Tryz.f236,Tryz.func236,d_,d_⟩
end Zh
end Go.Proofs.YtofedieniojipaaGreat
namespace Go.Proofs.YtofedieniojipaaGreat
open Go.RowKit Go.TQ Go.Lib
namespace Zg
set_option maxHeartbeats 8000000 in
set_option maxRecDepth 100000 in
def ways:VH Tryz.prog 313 32 9 3 4 348 1 16:=by
 have W:∀w:Wo,(Go.sizeOf 9).run Tryz.prog w= .ok 1 w:=λ_=>d_
 have uS:=QP Tryz.underlying32;have q:Tryz.prog.follows .mixedOrders=true:=d_;refine⟨s_,Tryz.underlying32,Tryz.underlying3,NX d_,λx w h=> ?_,λg n c i hi D a u d w=> ?_,λu d w=> ?_,λg n c D a ad m d y w w1 v1 B=> ?_,λad m d y w w1 v1 B=> ?_,λg n c i hi a ad m d y b ⟨j,s,t,A,v,o,M,z⟩ Q w w1 w2 l h1 p=> ?_,λg n c i hi D a ad m d y b N G S H ⟨j,s,t,A,v,_,L,o⟩ I V E w w1 w2 X J h1 p=> ?_⟩
 .rw[qbB Tryz.func348 d_ d_ d_ (e:=Extern.SlicesOverlaps.overlaps #[32,32] #[4]) d_,h];rfl
 rotate_left 4
 simp only[qbC]at l h1 p
 .go_enter Tryz.func313,Tryz.ntmps313
  go_wp2_with (simp only[l])
  go_region_law_o (refine step_copy_runI rfl _ _ 32 32 rfl _ _ (by simp[Act.eval,Act.put]) (by simp[Act.eval,Act.put]) (h1 _ _ _) ?_)
  go_wp2_with (at_builtin;refine wpList_copy_runI _ rfl _ _ 32 32 rfl _ _ rfl rfl (p _ _) ?_)
  go_ret
  exact⟨rfl,rfl⟩
 simp only[qbC]at h1 p
 .have z:=o
  go_enter Tryz.func313,Tryz.ntmps313
  go_wp2_with (first
   |(at_builtin;refine Lib.wpList_append_run _ rfl _ _ _ _ rfl _ _ rfl rfl _ _ (J _) ?_)
   |(at_builtin;refine wpList_copy_runI _ rfl _ _ 32 32 rfl _ _ rfl rfl (h1 _ _) ?_))
  go_region_law_o (refine step_copy_runI rfl _ _ 32 32 rfl (.slice (some ⟨N,i+m,none⟩) (n+m - (i+m)) (G - (i+m))) (.slice (some ⟨g,i,none⟩) (n - i) (c - i)) (by simp[Act.eval,Act.put]) (by simp[Act.eval,Act.put]) (p 3 (G - (i+m)) (c - i)) ?_)
  go_wp2
  go_ret
  exact⟨rfl,rfl⟩
 all_goals
  try have j:¬((m:Int)=0):=O
  go_enter Tryz.func313,Tryz.ntmps313
  go_wp2_with (at_builtin;refine Lib.wpList_append_run _ rfl _ _ _ _ rfl _ _ rfl rfl _ _ (B _) ?_)
  all_goals go_ret
  all_goals exact⟨rfl,rfl⟩
def enters:Go.TQ.Enters Tryz.prog 313:=⟨Tryz.f313,Tryz.func313,d_,d_⟩
end Zg
end Go.Proofs.YtofedieniojipaaGreat
end
noncomputable section
namespace Go.TQ
section
open Go.Proofs Go.Sort Go.RowKit Go.Lib
def BN:PV->Bool
 | .int _ _| .str _| .bool _=>true
 |_=>false
def tF:PV->Va
 | .int k n=> .int k n
 | .str s=> .string s
 | .bool b=> .bool b
 |_=>undef
def Md{w:Wo}{M:Nat->Prop}{G:Gh}{x:PV}(h:BN x=true):bp w M G x (tF x):=by cases x<;>first|exact .int _ _|exact .str _|exact .bool _|exact absurd h (by simp[BN])
def aer{w:Wo}{M:Nat->Prop}{G:Gh}{x:PV}{v:Va}(h:BN x=true)(a:bp w M G x v):v=tF x:=by cases x<;>first|(cases a;rfl)|exact absurd h (by simp[BN])
def Wc{x:PV}(h:BN x=true):(tF x).oneCell'=true:=by cases x<;>first|rfl|exact absurd h (by simp[BN])
def Su{w:Wo}{M:Nat->Prop}{G:Gh}:∀{xs:Z PV} {vs:Z Va},xs.all BN=true->bo w M G xs vs->vs=xs.map tF
 |[],vs,_,a=>a.vi
 |x::xs,vs,h,a=>by obtain⟨v,b,rfl,r1,r2⟩:=a.cons_inv;rw[Q3,Qi]at h;rw[Qy,<-aer h.1 r1,<-Su h.2 r2]
def Ss{w:Wo}{M:Nat->Prop}{G:Gh}:∀{xs:Z PV},xs.all BN=true->bo w M G xs (xs.map tF)
 |[],_=> .nil
 |x::xs,h=>by rw[Q3,Qi]at h;exact .cons (Md h.1) (Ss h.2)
def ajv{w w':Wo}(h:Fr none w w'):∃q os,w'=grow (w.drewN q) os:=by
 refine⟨w'.drawn - w.drawn,w'.heap.extract w.heap.size w'.heap.size,?_⟩;have v:=h.size
 have d:w'.heap=w.heap++w'.heap.extract w.heap.size w'.heap.size:=by
  apply Array.ext_getElem?;intro k;rw[qaW];split
  .rename_i c;exact h.block k c t_
  .rename_i c;rw[Array.getElem?_extract];split
   .rw[show w.heap.size+(k - w.heap.size)=k by omega]
   .exact Array.getElem?_eq_none O
 have m:=h.os;have l:=h.tape;have j:=h.output;have t:=h.drawn rfl
 cases w' with|mk hp u n os out=>
 cases w with|mk s o a p b=>
 simp only at m l j t d;subst m l j;unfold grow World.drewN;simp only;rw[<-d,show a+(n - a)=n by omega]
def Yr{w:Wo}{b n:Nat}{F:Array Va}{os:Array Obj}{a:Array Va}{e:TI}{fr:Nat×Nat}(d:w.heap[b]?=some (.cells a e fr)):
  (grow (putRow id (Sort.ahead w n) b 0 F) os).heap[b]?=some (.cells (putCells id 0 F a) e fr):=by
 have c:b<w.heap.size:=(Q6.1 d).1;unfold grow putRow mapBlock Sort.ahead;simp only;rw[qcc (by simp;exact c),qbW,Qe rfl,d]
 rfl
def aeo{w:Wo}{b n:Nat}{F:Array Va}{os:Array Obj}:Fr (some b) w (grow (putRow id (Sort.ahead w n) b 0 F) os):=by
 refine⟨rfl,rfl,rfl,?_,λq d c=> ?_,DL.of (qbL _ _)⟩
 .unfold grow putRow mapBlock Sort.ahead;simp only[qbX,Array.size_modify];omega
 .have a:¬b=q:=λe=>c (by rw[e])
  unfold grow putRow mapBlock Sort.ahead;simp only;rw[qcc (by simp;exact d),qbW,Qg a]
def V8{F a:Array Va}(h:F.size<=a.size):(putCells id 0 F a).toList=F.toList++a.toList.drop F.size:=by
 apply List.ext_getElem?;intro i;rw[qbk];unfold putCells;rw[qcd,List.getElem?_append];simp only[qar,QT,true_and,qau,qbl,id]
 by_cases hi:i<F.size
 .rw[Qe hi,qbk,qaQ (show i<a.size by omega),qaQ hi,Qo,Qe hi,qaX F i hi]
 .rw[Qg hi,List.getElem?_drop,qbk,show F.size+(i - F.size)=i by omega]
  cases a[i]? with
  |none=>rfl
  |some y=>rw[Qo,Qg hi]
def aad(P:Pr)(f k:Nat):Prop:=∀(α:Type) [Inhabited α] (gu:α->Z Va) (_:∀x,(gu x).length=k) (_:∀x,∀v∈gu x,v.oneCell'=true) (b:α->α->Int) (_:Go.Sort.SWO (ltOf b)) (g:Nat) (c:Array Va) (cq off cap:Nat) (d:Array α) (w:Wo)
  (_:∀a w,(callFunc g a).run P w= .ok (.enter g a) w) (_:CmpLays P g c gu k b cq off d.size w) (_:HoldsK gu k w cq off d) (_:cq<w.heap.size) (_:d.size<4611686018427387904) (_:∀x y,(ltOf b) x y=false->(ltOf b) y x=false->x=y),
  Calls P f #[.slice (some ⟨cq,off,none⟩) d.size cap,.func (.func g) #[] c] w λe w'=>e= .returned (.tuple #[])/\∃n os,w'=sortWorldK gu k w cq off n (d.toList.mergeSort λx y=> !(ltOf b) y x).toArray os
def Up(P:Pr)(f:Nat):Prop:=∀(α:Type) [Inhabited α] (gu:α->Va) (_:OneCell gu) (b:α->α->Int) (_:Go.Sort.SWO (ltOf b)) (g:Nat) (c:Array Va) (cq off cap:Nat) (d:Array α) (w:Wo)
  (_:∀a w,(callFunc g a).run P w= .ok (.enter g a) w) (_:CmpLays1 P g c gu b cq off d.size w) (_:Holds gu w cq off d) (_:cq<w.heap.size) (_:d.size<4611686018427387904) (_:∀x y,(ltOf b) x y=false->(ltOf b) y x=false->x=y),
  Calls P f #[.slice (some ⟨cq,off,none⟩) d.size cap,.func (.func g) #[] c] w λe w'=>e= .returned (.tuple #[])/\∃n os,w'=sortWorld gu w cq off n (d.toList.mergeSort λx y=> !(ltOf b) y x).toArray os
def Nq(P:Pr)(f:Nat):Prop:=∀(p:Y Addr) (cap:Nat) (a:Va) (w:Wo),Calls P f #[.slice p 0 cap,a] w λe w'=>e= .returned (.tuple #[])/\w'=w
section
variable{P:Pr}{α:Type}[Inhabited α]{pv:α->Z PV}{k:Nat}
def tc(pv:α->Z PV)(x:α):Z Va:=(pv x).map tF
def aac(P:Pr)(f g e k:Nat)(pv:α->Z PV)(le:α->α->Bool):Prop:=
 ∀(w:Wo) (b cap:Nat) (xs:Z α) (c:Array Va),w.heap[b]?=some (.cells c e (0,0))->xs.length<4611686018427387904->xs.length<=cap->cap<=maxLen->c.size=cap*k->c.toList.take (xs.length*k)=xs.flatMap (tc pv)->
  Calls P f #[.slice (some ⟨b,0,none⟩) xs.length cap,.func (.func g) #[] #[]] w λd w'=>d= .returned (.tuple #[])/\
   ∃a:Array Va,w'.heap[b]?=some (.cells a e (0,0))/\a.size=c.size/\a.toList.take (xs.length*k)=(xs.mergeSort le).flatMap (tc pv)/\Fr (some b) w w'
def WD(a:∀x,(pv x).length=k):∀xs:Z α,(xs.flatMap (tc pv)).length=xs.length*k
 |[]=>t_
 |x::xs=>by rw[List.flatMap_cons,QM,WD a xs,tc,QD,a,QN,Q1,qaA,qaL]
def aa2{f g e:Nat}{le:α->α->Bool}(h0:Nq P f)(W:aac P f g e k pv le)(hk0:0<k)(Q:∀x,(pv x).length=k)(hp:∀x,(pv x).all BN=true)(xs:Z α)(I:xs.length<4611686018427387904):
  adR P f e k (xs.map pv) [.bJ g []] (.ff []) ((xs.mergeSort le).map pv):=by
 intro w X hX v vs S ⟨us,j,hke,hr⟩ c;obtain⟨a1,args,rfl,L,c⟩:=c.cons_inv;obtain rfl:=c.vi;obtain⟨cs,rfl,J⟩:=L.za;obtain rfl:=J.vi
 have m:∀l:Z α,(l.map pv).flatten.map tF=l.flatMap (tc pv):=λl=>by
  induction l with
  |nil=>rfl
  |cons x l H=>rw[Qy,List.flatten_cons,List.map_append,H,List.flatMap_cons];rfl
 have d:∀l:Z α,(l.map pv).flatten.all BN=true:=λl=>by
  induction l with
  |nil=>rfl
  |cons x l H=>rw[Qy,List.flatten_cons,List.all_append,H,hp x];rfl
 have t:us=xs.flatMap (tc pv):=by rw[Su (d xs) hr,m]
 have z:(xs.mergeSort le).length=xs.length:=List.length_mergeSort xs
 have B:∀l:Z α,∀u∈l.map pv,u.length=k:=λl u V=>by obtain⟨x,_,rfl⟩:=QO.1 V;exact Q x
 have A:(xs.map pv).length=xs.length:=QD ..;have a:((xs.mergeSort le).map pv).length=xs.length:=by rw[QD,z]
 rw[A]at j
 have n:∀w':Wo,bo w' (Mv v X) dz ((xs.mergeSort le).map pv).flatten ((xs.mergeSort le).flatMap (tc pv)):=λw'=>by rw[<-m];exact Ss (d _)
 by_cases M:xs=[]
 .
  subst M
  have hv:∃p cap,v= .slice p 0 cap:=by
   rcases j.2 with⟨h1,_⟩|⟨b,cap,G,h1,_⟩
   .exact⟨none,0,h1⟩
   .exact⟨_,cap,h1⟩
  obtain⟨p,cap,hv⟩:=hv;have:=h0 p cap (.func (.func g) #[] [].toArray) w;rw[<-hv]at this;refine this.mono λen w' ⟨h1,D⟩=> ?_
  subst D;refine⟨_,h1,.ff _ [] rfl (λi x v h=>by simp at h),⟨us,?_,B _,?_⟩,Fr.refl _ _⟩
  .rw[a];exact j
  .rw[t];have:=n w';rw[show([]:Z α).mergeSort le=[]from t_]at this ⊢
   exact this
 .rcases j.2 with⟨_,D⟩|⟨b,cap,G,rfl,s,hb,N,o,y,q⟩
  .exact absurd (qaz D) M
  .refine(W w b cap xs G hb I N o y (by rw[q,t])).mono λen w' ⟨h1,E,D,h3,h4,h5⟩=> ?_
   refine⟨_,h1,.ff _ [] rfl (λi x v h=>by simp at h),⟨(xs.mergeSort le).flatMap (tc pv),⟨?_,.inr ⟨b,cap,E,by rw[a],s,D,by rw[a];exact N,o,by rw[h3];exact y,?_⟩⟩,B _,n w'⟩,h5⟩
   .rw[WD Q,z,a]
   .rw[a];exact h4
def Pl{gu:α->Z Va}(b:∀x,(gu x).length=k)(a:0<k):∀(l:Z α) (t:Nat),t<l.length*k->(l.flatMap gu)[t]?=(gu l[t / k]!)[t % k]?
 |[],t,h=>by simp at h
 |x::l,t,h=>by
  rw[List.flatMap_cons]
  by_cases c:t<k
  .rw[List.getElem?_append_left (by rw[b];exact c),Nat.div_eq_of_lt c,Nat.mod_eq_of_lt c]
   rfl
  .rw[List.getElem?_append_right (by rw[b];omega),b]
   have d:t - k<l.length*k:=by rw[QN,Q1,qaA]at h;omega
   rw[Pl b a l (t - k) d,Nat.mod_eq_sub_mod (O:t>=k),show t / k=(t - k) / k+1 from Nat.div_eq_sub_div a O]
   simp
def adg{gu:α->Z Va}(b:∀x,(gu x).length=k)(a:0<k)(l:Z α):(flatK gu k l.toArray).toList=l.flatMap gu:=by
 have h:(l.flatMap gu).length=l.length*k:=by
  induction l with
  |nil=>simp
  |cons x l j=>rw[List.flatMap_cons,QM,j,b,QN,Q1,qaA,qaL]
 apply List.ext_getElem?;intro t
 by_cases c:t<l.length*k
 .rw[Pl b a l t c];have d:t % k<(gu l[t / k]!).length:=by rw[b];exact Nat.mod_lt _ a
  rw[Qj d];unfold flatK;simp only[qa3,Array.toList_range,QG,List.size_toArray];rw[List.getElem?_range c];simp only[Qo];congr 1;rw[show(l.toArray)[t / k]! =l[t / k]! by simp]
  exact qaX (gu l[t / k]!) (t % k) d
 .rw[qaJ (by rw[qar,size_flatK,List.size_toArray];omega),qaJ O]
def ahm(P:Pr)(g:Nat)(val:α->Va)(a:α->α->Int):Prop:=∀(x y:α) (w:Wo),Calls P g #[val x,val y] w λe w'=>e= .returned (.int .i64 (a x y))/\∃q os,w'=grow (w.drewN q) os
def TF{w:Wo}{b e cap:Nat}{xs:Z α}{a:Array Va}{F:Array Va}(d:w.heap[b]?=some (.cells a e (0,0)))(hF:F.toList=a.toList.take F.size):Holds id w b 0 F:=by
 intro j c
 have l:a[j]?=some F[j]:=by
  have h:F.toList[j]?=some F[j]:=by rw[qbk];exact qaQ c
  rw[hF,qaR,Qe c,qbk]at h;exact h
 rw[qaX F j c];refine⟨?_,?_⟩
 .unfold World.cell?;simp only[qau,d];simpa using l
 .unfold World.frozen?;simp only[d];simp
def anF{f g e:Nat}{c:α->α->Int}(hS:aad P f k)(u:0<k)(I:∀x,(pv x).length=k)(hp:∀x,(pv x).all BN=true)(M:Go.Sort.SWO (ltOf c))(L:∀x y,(ltOf c) x y=false->(ltOf c) y x=false->x=y)
  (S:∀d w,(callFunc g d).run P w= .ok (.enter g d) w) (J:ahm P g (λx=> .agg (tc pv x).toArray) c):aac P f g e k pv λx y=> !(ltOf c) y x:=by
 intro w b cap xs D A q H E p h;have t:b<w.heap.size:=(Q6.1 A).1;have j:∀x,(tc pv x).length=k:=λx=>by rw[tc,QD,I]
 have a:∀l:Z α,(flatK (tc pv) k l.toArray).toList=l.flatMap (tc pv):=adg j u;have z:CmpLays P g #[] (tc pv) k c b 0 xs.toArray.size w:=λm os W _ x y=>J x y _
 have N:HoldsK (tc pv) k w b 0 xs.toArray:=TF (xs:=xs) (cap:=cap) A (by rw[a,size_flatK,List.size_toArray];exact h.symm)
 have:=hS α (tc pv) j (λx v hv=>by obtain⟨y,G,rfl⟩:=QO.1 hv;exact Wc (Qn.1 (hp x) y G)) c M g #[] b 0 cap xs.toArray w S z N t (by rw[List.size_toArray];exact q) L
 refine this.mono λV w' ⟨h1,n,os,Q⟩=>⟨h1,?_⟩
 have s:(xs.mergeSort λx y=> !(ltOf c) y x).length=xs.length:=List.length_mergeSort xs
 have o:(flatK (tc pv) k (xs.mergeSort λx y=> !(ltOf c) y x).toArray).size=xs.length*k:=by rw[size_flatK,List.size_toArray,s]
 have B:(flatK (tc pv) k (xs.mergeSort λx y=> !(ltOf c) y x).toArray).size<=D.size:=by rw[o,p];exact Q2 k H
 subst Q;refine⟨_,Yr A,by unfold putCells;rw[Array.size_mapIdx],?_,aeo⟩
 rw[V8 B,<-o,<-qar,List.take_left,a]
def anG{f g e:Nat}{o:α->α->Int}{a:α->PV}(hS:Up P f)(hp:∀x,BN (a x)=true)(V:Go.Sort.SWO (ltOf o))(S:∀x y,(ltOf o) x y=false->(ltOf o) y x=false->x=y)
  (eg:∀p w,(callFunc g p).run P w= .ok (.enter g p) w) (Q:ahm P g (λx=>tF (a x)) o):aac P f g e 1 (λx=>[a x]) λx y=> !(ltOf o) y x:=by
 intro w b cap xs J G z N L v q;have B:b<w.heap.size:=(Q6.1 G).1
 have h:∀l:Z α,(l.toArray.map λx=>tF (a x)).toList=l.flatMap (tc λx=>[a x]):=λl=>by
  induction l with
  |nil=>simp
  |cons x l M=>rw[List.flatMap_cons,<-M];simp[tc]
 have E:CmpLays1 P g #[] (λx=>tF (a x)) o b 0 xs.toArray.size w:=λm os dk _ x y=>Q x y _
 have hF:=TF (xs:=xs) (cap:=cap) (F:=xs.toArray.map λx=>tF (a x)) G (by rw[h,qa9,List.size_toArray,<-qbC xs.length];exact q.symm)
 have X:Holds (λx=>tF (a x)) w b 0 xs.toArray:=by
  intro j D;have u:=hF j (by rw[qa9];exact D)
  rw[qaX _ j (by rw[qa9];exact D),Array.getElem_map]at u
  rw[qaX _ j D];exact u
 have:=hS α (λx=>tF (a x)) (λx=>Wc (hp x)) o V g #[] b 0 cap xs.toArray w eg E X B (by rw[List.size_toArray];exact z) S
 refine this.mono λen w' ⟨u,n,os,I⟩=>⟨u,?_⟩
 have A:(xs.mergeSort λx y=> !(ltOf o) y x).length=xs.length:=List.length_mergeSort xs
 have s:∀(W:Wo) (d:Array α),putRow (λx=>tF (a x)) W b 0 d=putRow id W b 0 (d.map λx=>tF (a x)):=λW d=>by
  unfold putRow;congr 1
  funext c
  unfold putCells;apply Array.ext_getElem?;intro i;simp only[qcd,qa9,QT,true_and,qau,qbl,id]
  cases c[i]? with
  |none=>rfl
  |some y=>
   simp only[Qo]
   by_cases hi:i<d.size
   .rw[Qe hi,Qe hi,qaX d i hi,qaX _ i (by rw[qa9];exact hi),Array.getElem_map]
   .rw[Qg hi,Qg hi]
 unfold sortWorld at I;rw[s]at I;have t:((xs.mergeSort λx y=> !(ltOf o) y x).toArray.map λx=>tF (a x)).size=xs.length*1:=by rw[qa9,List.size_toArray,A,qbC]
 have H:((xs.mergeSort λx y=> !(ltOf o) y x).toArray.map λx=>tF (a x)).size<=J.size:=by rw[t,v];exact Q2 1 N
 subst I;refine⟨_,Yr G,by unfold putCells;rw[Array.size_mapIdx],?_,aeo⟩
 rw[V8 H,<-t,<-qar,List.take_left,h]
end
def abV{P:Pr}{g:Nat}{α:Type}{va:α->PV}{val:α->Va}{cf:α->α->Int}(a:∀(x:α) (w:Wo) (M:Nat->Prop),bp w M dz (va x) (val x))(h:∀x y,Con P g false [] [va x,va y] (.int .i64 (cf x y)) [])(d:ada=[]:=by rfl):ahm P g val cf:=by
 intro x y w;have j:GI w:=λq b=>by rw[d]at b;cases b
 have:=h x y w (λ_=>False) (.nil j) 0 0 [] [val x,val y] (λe=>by cases e) (.cons (a x w _) (.cons (a y w _) .nil))
 refine this.mono λn w' ⟨v,c,h1,m,_,l⟩=> ?_
 rw[m.jT]at h1;exact⟨h1,ajv l⟩
end
section
open Go.Proofs Go.Sort
def Nf{α:Type}(c:α->α->Y Int)(x y:α):Int:=(c x y).getD 0
structure ah2 {α:Type} (c:α->α->Option Int):Prop where
 some:∀x y,c x y=some (Nf c x y)
 ord:Go.Sort.SWO (ltOf (Nf c))
 tot:∀x y,ltOf (Nf c) x y=false->ltOf (Nf c) y x=false->x=y
open Classical in
 def Ei{α:Type}(c:α->α->Y Int)(s:Z α):Y (Unit×Z α):=if ah2 c/\s.length<4611686018427387904 then some ((),s.mergeSort λx y=> !(ltOf (Nf c)) y x)else none
section
variable{P:Pr}{f g e k:Nat}{T:Ty}{F:T.den×T.den×Unit->Y Int}(hent:Enters P f)(h0:Nq P f)(hgs:eB.Sound P (U:=U) (.fn g [.ty T,.ty T] (.one (Ty.i .i64)) F))(hi:Inhabited T.den)(hp:∀x:T.den,(T.pv x).all BN=true)
 include hent h0 hgs hi hp
theorem amf(hS:aad P f k)(c:0<k)(l:∀x:T.den,(T.pv x).length=k)(hv:∀x:T.den,fo (U:=U) T x= .agg (T.pv x)):
  eB.Sound P (U:=U) (.rw f e k T [.bJ g []] (.many []) λs a=>Ei (λx y=>F (x,y,())) s):=by
 refine⟨hent,λxs a r n h=> ?_⟩
 have h:Ei (λx y=>F (x,y,())) xs=some (r,n):=h
 unfold Ei at h;split at h
 .rename_i j;injection h with h
  injection h with _ b
  subst b;refine aa2 h0 (anF hS c l hp j.1.ord j.1.tot (λd w=>pw hgs.1 d) ?_) c l hp xs j.2
  refine abV (va:=λx=> .agg (T.pv x)) (λx w M=> .agg _ _ (by rw[tc,QD]) λi y v m b=> ?_) λx y=> ?_
  .rw[tc,QG,m]at b;injection b with b
   rw[<-b];exact Md (Qn.1 (hp x) y (QL m))
  .have:=hgs.2 (x,y,()) _ (j.1.some x y);rw[show iK (U:=U) [.ty T,.ty T] (x,y,())=[.agg (T.pv x),.agg (T.pv y)]by rw[<-hv x,<-hv y];rfl]at this
   exact this
 .cases h
theorem acj(hS:Up P f)(hv:∀x:T.den,T.pv x=[fo (U:=U) T x]):
  eB.Sound P (U:=U) (.rw f e 1 T [.bJ g []] (.many []) λs a=>Ei (λx y=>F (x,y,())) s):=by
 refine⟨hent,λxs a r l h=> ?_⟩
 have h:Ei (λx y=>F (x,y,())) xs=some (r,l):=h
 unfold Ei at h;split at h
 .rename_i d;injection h with h
  injection h with _ m
  subst m;have b:∀x:T.den,BN (fo (U:=U) T x)=true:=λx=>by have:=hp x;rw[hv x]at this;simpa using this
  have j:(λx:T.den=>T.pv x)=λx=>[fo (U:=U) T x]:=funext hv
  have:=aa2 (pv:=λx:T.den=>[fo (U:=U) T x]) (e:=e) h0 (anG hS b d.1.ord d.1.tot (λc w=>pw hgs.1 c) (abV (va:=λx=>fo (U:=U) T x) (λx w M=>Md (b x)) λx y=>hgs.2 (x,y,()) _ (d.1.some x y))) O (λx=>rfl) (λx=>by simpa using b x) xs d.2
  rw[<-j]at this;exact this
 .cases h
end
end
end Go.TQ
end
noncomputable section
namespace Go.Proofs
open Go.Shelf
def exF{P:Pr}{f:FI}{fn:Func}(h:(((P.funcs[f]?).map Func.name).getD ""== "runtime.NumGoroutine")=false)(a:P.funcs[f]?=some {fn with name:=((P.funcs[f]?).map Func.name).getD ""}):Bears P f fn:=⟨_,h,a⟩
def Jh:Go.Shelf.Ren:=⟨λ|6=>342|15=>381|14=>380|28=>417|29=>418|20=>409|21=>410|22=>411|23=>412|24=>413|25=>414|26=>415|27=>416|46=>441|47=>442|48=>443|49=>444|50=>445|57=>456|n=>n,λ|22=>32|24=>9|25=>204|3=>3|39=>184|0=>0|53=>298|55=>318|4=>4|46=>325|45=>324|50=>102|5=>5|9=>9|66=>343|70=>347|76=>354|77=>225|n=>n,λ|n=>n⟩
set_option maxRecDepth 100000 in
def Uo:Go.Proofs.SlLaysF.n6 Tryz.prog Jh:=by
 constructor
 all_goals first
  |kernel_rfl
  |exact λ_=>d_
  |exact exF d_ d_
def VF:Go.Shelf.Ren:=⟨λ|6=>446|15=>381|14=>457|28=>417|29=>418|20=>459|21=>460|22=>461|23=>462|24=>463|25=>464|26=>465|27=>466|46=>475|47=>442|48=>443|49=>476|50=>477|57=>481|n=>n,λ|22=>206|24=>36|25=>264|3=>3|39=>184|0=>0|53=>298|55=>318|4=>4|46=>325|45=>324|50=>102|5=>5|9=>9|66=>343|70=>347|76=>354|77=>225|n=>n,λ|n=>n⟩
set_option maxRecDepth 100000 in
def Un:Go.Proofs.SlLaysF0.n6 Tryz.prog VF:=by
 constructor
 all_goals first
  |kernel_rfl
  |exact λ_=>d_
  |exact exF d_ d_
def Jg:Go.Shelf.Ren:=⟨λ|6=>450|15=>381|14=>458|28=>417|29=>418|20=>467|21=>468|22=>469|23=>470|24=>471|25=>472|26=>473|27=>474|46=>478|47=>442|48=>443|49=>479|50=>480|57=>482|n=>n,λ|22=>22|24=>3|25=>42|3=>3|39=>184|0=>0|53=>298|55=>318|4=>4|46=>325|45=>324|50=>102|5=>5|9=>9|66=>343|70=>347|76=>354|77=>225|n=>n,λ|n=>n⟩
set_option maxRecDepth 100000 in
def Um:Go.Proofs.SlLaysF.n6 Tryz.prog Jg:=by
 constructor
 all_goals first
  |kernel_rfl
  |exact λ_=>d_
  |exact exF d_ d_
end Go.Proofs
namespace Go.Proofs.YtofedieniojipaaGreat
open Go.TQ Go.Proofs
namespace FR
def enters:Go.TQ.Enters Tryz.prog 342:=⟨_,Tryz.func342,d_,d_⟩
def none:Nq Tryz.prog 342:=λp cap a w=>AnyF.slices_SortFunc_none (P:=Tryz.prog) (ρ:=Jh) {Uo with} p cap a w
def NF:Up Tryz.prog 342:=λα _ gu h1 l hO g m cq off cap d w j b hH c a h=>Any.slices_SortFunc_total Uo gu h1 l hO g m cq off cap d w j b hH c a h
end FR
namespace R0
def enters:Go.TQ.Enters Tryz.prog 446:=⟨_,Tryz.func446,d_,d_⟩
def none:Nq Tryz.prog 446:=λp cap a w=>AnyF.slices_SortFunc_none Un p cap a w
def NF:aad Tryz.prog 446 2:=λα _ gu hk h1 l hO g m cq off cap d w j b hH c a h=>AnyQ.slices_SortFunc_total Un 2 Tryz.isAgg36 Tryz.sizeOf36 gu hk h1 l hO g m cq off cap d w j b hH c a h
end R0
namespace RZ
def enters:Go.TQ.Enters Tryz.prog 450:=⟨_,Tryz.func450,d_,d_⟩
def none:Nq Tryz.prog 450:=λp cap a w=>AnyF.slices_SortFunc_none (P:=Tryz.prog) (ρ:=Jg) {Um with} p cap a w
def NF:Up Tryz.prog 450:=λα _ gu h1 l hO g m cq off cap d w j b hH c a h=>Any.slices_SortFunc_total Um gu h1 l hO g m cq off cap d w j b hH c a h
end RZ
end Go.Proofs.YtofedieniojipaaGreat
namespace Go.Proofs.YtofedieniojipaaGreat
open Go.TQ Go.Proofs.Tryz
@[reducible] def u1 {b B:Type} (F:b->B) (a:b×Unit):B:=F a.1
@[reducible] def u2 {c b B:Type} (F:c->b->B) (a:c×b×Unit):B:=F a.1 a.2.1
@[reducible] def u3 {d c b B:Type} (F:d->c->b->B) (a:d×c×b×Unit):B:=F a.1 a.2.1 a.2.2.1
@[reducible] def u4 {h d c b B:Type} (F:h->d->c->b->B) (a:h×d×c×b×Unit):B:=F a.1 a.2.1 a.2.2.1 a.2.2.2.1
@[reducible] def u5 {j h d c b B:Type} (F:j->h->d->c->b->B) (a:j×h×d×c×b×Unit):B:=F a.1 a.2.1 a.2.2.1 a.2.2.2.1 a.2.2.2.2.1
@[reducible] def u6 {l j h d c b B:Type} (F:l->j->h->d->c->b->B) (a:l×j×h×d×c×b×Unit):B:=F a.1 a.2.1 a.2.2.1 a.2.2.2.1 a.2.2.2.2.1 a.2.2.2.2.2.1
@[reducible] def u7 {m l j h d c b B:Type} (F:m->l->j->h->d->c->b->B) (a:m×l×j×h×d×c×b×Unit):B:=F a.1 a.2.1 a.2.2.1 a.2.2.2.1 a.2.2.2.2.1 a.2.2.2.2.2.1 a.2.2.2.2.2.2.1
@[reducible] def u8 {n m l j h d c b B:Type} (F:n->m->l->j->h->d->c->b->B) (a:n×m×l×j×h×d×c×b×Unit):B:=F a.1 a.2.1 a.2.2.1 a.2.2.2.1 a.2.2.2.2.1 a.2.2.2.2.2.1 a.2.2.2.2.2.2.1 a.2.2.2.2.2.2.2.1
@[reducible] def oO (b:Bool) (x:Y Bool):Y Bool:=bif b then some true else x
@[reducible] def aO (b:Bool) (x:Y Bool):Y Bool:=bif b then x else some false
@[reducible] def zB:ah:=ah.mk 0 (ByteArray.mk #[])
@[reducible] def bE:C:=ByteArray.mk #[]
@[reducible] def zz0:aq:=aq.mk 0 [] []
@[reducible] def zz1:ae:=ae.mk 0 0 0 zz0 0 zB zB zB zB 0 0 bE []
@[reducible] def zz2:av:=av.mk 0 0 0 0 zz0 bE [] [] [] []
@[reducible] def zz3:al:=al.mk 0 false zz0 []
@[reducible] def zz4:fU:=fU.mk 0 0
@[reducible] def zz5:aD:=aD.mk zz2 zz1 zz4 0 0 false bE
@[reducible] def zz6:aj:=aj.mk 0 0 0 zz0 0 zB zB zB 0 0
@[reducible] def zz7:bw:=bw.mk false zz0
@[reducible] def zz8:bs:=bs.mk []
@[reducible] def zz9:aA:=aA.mk 0 0 zz0 [] []
@[reducible] def zz10:fZ:=fZ.mk 0 0
def p_:Nat->Nat->NT U->NT U|0,_,x=>x|k+1,n,x=>match n % 2 with|0=> .l (p_ k (n / 2) x)|_=> .r (p_ k (n / 2) x)
@[reducible] def oR {A B:Type} (x:Y B):Y (A⊕B):=Option.map inr x
@[reducible] def y0:Ty:=Ty.i .i64
@[reducible] def y1:Ty:=Ty.bool
@[reducible] def y2:Ty:=Ty.st .af
@[reducible] def y3:Ty:=Ty.str
@[reducible] def y4:Ty:=Ty.st .aa
@[reducible] def y5:Ty:=Ty.st .ab
@[reducible] def y6:Ty:=Ty.st .aJ
@[reducible] def y7:Ty:=Ty.st .mf
@[reducible] def y8:Ty:=Ty.st .az
@[reducible] def y9:Ty:=Ty.st .ay
@[reducible] def y10:Ty:=Ty.sl (Ty.st .ay)
@[reducible] def y11:Ty:=Ty.sl Ty.str
@[reducible] def y12:Ty:=Ty.st .aP
@[reducible] def y13:Ty:=Ty.st .Config
@[reducible] def y14:Ty:=Ty.sl (Ty.i .i64)
@[reducible] def y15:Ty:=Ty.st .Al
@[reducible] def y16:Ty:=Ty.st .Src
@[reducible] def y17:Ty:=Ty.st .Seen
@[reducible] def y18:Ty:=Ty.st .sI
@[reducible] def y19:Ty:=Ty.st .ze
@[reducible] def y20:Ty:=Ty.sl (Ty.st .af)
@[reducible] def y21:Ty:=Ty.st .vu
@[reducible] def y22:Ty:=Ty.st .GN
@[reducible] def y23:Ty:=Ty.st .Timer
@[reducible] def y24:Ty:=Ty.st .Claim
@[reducible] def y25:Ty:=Ty.st .Message
@[reducible] def y26:Ty:=Ty.sl (Ty.st .aP)
@[reducible] def y27:Ty:=Ty.sl (Ty.st .sI)
@[reducible] def y29:Ty:=Ty.sl (Ty.st .aJ)
@[reducible] def t14:dK U:= .ty y14
@[reducible] def t0:dK U:= .ty y0
@[reducible] def t4:dK U:= .ty y4
@[reducible] def t11:dK U:= .ty y11
@[reducible] def t2:dK U:= .ty y2
@[reducible] def t3:dK U:= .ty y3
@[reducible] def t9:dK U:= .ty y9
@[reducible] def t5:dK U:= .ty y5
@[reducible] def t12:dK U:= .ty y12
@[reducible] def t8:dK U:= .ty y8
@[reducible] def t6:dK U:= .ty y6
@[reducible] def t7:dK U:= .ty y7
@[reducible] def t13:dK U:= .ty y13
@[reducible] def t10:dK U:= .ty y10
@[reducible] def t18:dK U:= .ty y18
@[reducible] def t19:dK U:= .ty y19
@[reducible] def t17:dK U:= .ty y17
@[reducible] def q0:sH U:= .one y0
@[reducible] def q1:sH U:= .one y1
@[reducible] def q2:sH U:= .one y2
noncomputable def kf{f:FI}{fn:Func}(m:prog.funcs[f]?=some fn)(j:Z (dK U))(r:sH U)(F:fb j->Y r.den)(d:Z Nat)(n:NT U)(G:Z (KS U prog))(a:(fn.body.bind (aZ prog fn.ntmps d))=some (cO (cn prog fn.ntmps d fn) n).erase:=by kernel_rfl)(b:oF prog fn.results.toList=some ((oF prog fn.results.toList).getD []):=by kernel_rfl)(c:(fn.name== "runtime.NumGoroutine")=false:=by kernel_rfl)(l:(cO (cn prog fn.ntmps d fn) n).dR=true:=by kernel_rfl)(h:Nat.ble j.length fn.ntmps=true:=by kernel_rfl)(hF:Zw K (KS.ks G) (cO (cn prog fn.ntmps d fn) n) ((oF prog fn.results.toList).getD []) j r=F:=by kernel_rfl):KS U prog:=⟨.fn f j r F,fnS (K:=K) _ _ _ G ⟨fn,d,m,rfl,a,b,c⟩ l (QS h) hF⟩
noncomputable def kr{f:FI}{fn:Func}(m:prog.funcs[f]?=some fn)(pos:Nat)(R:Ty)(j:Z (dK U))(r:sH U)(F:U.den R->fb j->Y (r.den×U.den R))(d:Z Nat)(n:NT U)(G:Z (KS U prog))(a:(fn.body.bind (aZ prog fn.ntmps d))=some (cO (cn prog fn.ntmps d fn) n).erase:=by kernel_rfl)(b:oF prog fn.results.toList=some ((oF prog fn.results.toList).getD []):=by kernel_rfl)(c:(fn.name== "runtime.NumGoroutine")=false:=by kernel_rfl)(l:(cO (cn prog fn.ntmps d fn) n).dR=true:=by kernel_rfl)(h:Nat.ble (1+j.length) fn.ntmps=true:=by kernel_rfl)(hF:rcK K (KS.ks G) (cO (cn prog fn.ntmps d fn) n) ((oF prog fn.results.toList).getD []) pos R j r=F:=by kernel_rfl):KS U prog:=⟨.rc f pos R j r F,rcS (K:=K) _ _ _ G ⟨fn,d,m,rfl,a,b,c⟩ l (QS h) hF⟩
def eT0(x:av):av:={x with aa:=(ao x.aa)}
def av.e(x:av):eT0 x=x:=by unfold eT0;simp only[aq.eta,av.eta]
def eT1(x:aj):aj:={x with aa:=(ao x.aa)}
def aj.e(x:aj):eT1 x=x:=by unfold eT1;simp only[aq.eta,av.e,aj.eta]
def eT2(x:ae):ae:={x with aa:=(ao x.aa)}
def ae.e(x:ae):eT2 x=x:=by unfold eT2;simp only[aq.eta,av.e,aj.e,ae.eta]
def eT3(x:al):al:={x with aa:=(ao x.aa)}
def al.e(x:al):eT3 x=x:=by unfold eT3;simp only[aq.eta,av.e,aj.e,ae.e,al.eta]
def eT4(x:aD):aD:={x with az:=(eT0 x.az),ab:=(eT2 x.ab)}
def aD.e(x:aD):eT4 x=x:=by unfold eT4;simp only[aq.eta,av.e,aj.e,ae.e,al.e,aD.eta]
def etas:(∀x:aq,aq.mk x.aN x.bc x.aR=x)/\(∀x,eT0 x=x)/\(∀x,eT1 x=x)/\(∀x,eT2 x=x)/\(∀x,eT3 x=x)/\(∀x,eT4 x=x):=⟨aq.eta,av.e,aj.e,ae.e,al.e,aD.e⟩
attribute [simp] etas
noncomputable def aat:SA U:=cO (cn prog 10 [] f8) .e
noncomputable def Ft(a:Z Int):Y dP:=bif c9 0 (dy (a.length:Int) 800) (a.length)then some (dP.mk ((a.take (toNat (dy (a.length:Int) 800))).drop (toNat 0)) 0)else none
noncomputable def ac6:KS U prog:=⟨.nw 8 [t14] y16 λa=>Ft a.1,nwS (K:=K) aat 10 2 [] (fk f8 [] func8)⟩
noncomputable def cg(s:dP)(a:Int):Y (Int×dP):=aX (λ(c:Bool×Unit)=>bif c.1 then some (0,s)else(idx s.L (cQ .i64 (aC .i64 s.At 1) 1)).bind λd=>if a=0 then none else if a=0 then none else some ((acv .i64 (aC .i64 (acv .i64 d a) a) a),(dP.mk s.L (aC .i64 s.At 1)))) λb=>bif decide ((s.L.length:Int)<=s.At)then b (true,())else b ((decide (a<1)),())
def pB:=kr func34 0 y16 [t0] q0 (λs a=>cg s a.1) [] (p_ 2 1 (.j ⟨[.val 18 y1],[0,1]⟩ .e)) []
def cF(s:dP)(a:Int)(c:Int):Y (Int×dP):=(cg s (aC .i64 (cQ .i64 c a) 1)).bind λb=>some ((aC .i64 a b.1),b.2)
def oE:=kr func11 0 y16 [t0,t0] q0 (λs a=>cF s a.1 a.2.1) [] .e [pB]
def mL(s:dP)(k:Int):Y (aq×dP):=aE (λ(a:Int×dP×aq×Z Int×Z aq×Unit)=>bif decide (a.1<k)then aX (λ(j:dP×aq×Z Int×Z aq×Unit)=>some (inl ((aC .i64 a.1 1),j.1,(aq.mk j.2.1.aN [] []),j.2.2.1,j.2.2.2.1,()))) λm=>(cg a.2.1 5).bind λl=>bif decide (0<l.1)then bif bl 8 (a.2.2.2.1.length+List.length [a.1])then m (l.2,(aq.mk a.2.2.1.aN [] []),(a.2.2.2.1++[a.1]),a.2.2.2.2.1,())else none else m (l.2,(aq.mk a.2.2.1.aN [] []),a.2.2.2.1,a.2.2.2.2.1,())else oR (aX (λ(d:dP×aq×Z aq×Unit)=>aX (λ(b:dP×aq×Z aq×Unit)=>(cF b.1 (Yp .i64 (aC .i64 (aC .i64 (b.2.1.bc.length:Int) (b.2.2.1.length:Int)) 1) 2) (aC .i64 (b.2.1.bc.length:Int) (b.2.2.1.length:Int))).bind λn=>aX (λ(c:dP×aq×Z aq×Unit)=>some ((aq.mk c.2.1.aN c.2.1.bc c.2.2.1),c.1)) λh=>(cg n.2 6).bind λe=>bif decide (e.1=5)then h (e.2,(aq.mk 1 b.2.1.bc []),b.2.2.1,())else h (e.2,(aq.mk n.1 b.2.1.bc []),b.2.2.1,())) λo=>(cg d.1 4).bind λf=>bif decide (f.1=3)then(cg f.2 k).bind λg=>bif bl 56 (d.2.2.1.length+List.length [(aq.mk 1 [g.1] [])])then o (g.2,(aq.mk d.2.1.aN d.2.1.bc []),(d.2.2.1++[(aq.mk 1 [g.1] [])]),())else none else o (f.2,(aq.mk d.2.1.aN d.2.1.bc []),d.2.2.1,())) λp=>bif decide ((a.2.2.2.1.length:Int)=0)then(cg a.2.1 k).bind λi=>p (i.2,(aq.mk a.2.2.1.aN [i.1] []),a.2.2.2.2.1,())else p (a.2.1,(aq.mk a.2.2.1.aN a.2.2.2.1 []),a.2.2.2.2.1,()))) (0,s,zz0,[],[],())
def wo:=kr func16 0 y16 [t0] (.one y4) (λs a=>mL s a.1) [] (p_ 2 3 (.b (p_ 2 1 (.ps (.CU 5 1 3 1 y0) (.ps (.CU 5 2 27 3 y4) (.j ⟨[.val 6 y0,.box 0 0 y16 [],.box 2 1 y4 [(1,4,1),(2,5,1)],.eK 4 1 3 1 y0,.eK 5 1 27 3 y4],[0,1,4,5]⟩ (p_ 2 2 (.j ⟨[.box 0 0 y16 [],.box 2 1 y4 [(1,4,1),(2,5,1)],.eK 4 1 3 1 y0,.eK 5 1 27 3 y4],[0,1,4,5,6]⟩ .e)))))) (.ps (.MX 5 1) (.j ⟨[.box 0 0 y16 [],.box 2 1 y4 [(2,5,1)],.eK 5 1 27 3 y4],[0,1,4,5]⟩ (.r (.j ⟨[.box 0 0 y16 [],.box 2 1 y4 [(2,5,1)],.eK 5 1 27 3 y4],[0,4,5]⟩ (p_ 3 7 (.j ⟨[.box 0 0 y16 [],.box 2 1 y4 [(2,5,1)],.eK 5 1 27 3 y4],[4,5]⟩ .e)))))))) [pB,oE]
noncomputable def UE:SA U:=cO (cn prog 20 [] f102) (.r (.r (.l (.r (.l (.j ⟨[.val 3 y0,.val 9 y0],[7,8]⟩ .e))))))
noncomputable def Lg(rec:(aq×Unit)->Y Int)(b:aq):Y Int:=aE (λ(a:Int×Int×Unit)=>bif decide (a.2.1<(b.aR.length:Int))then(idx b.aR a.2.1).bind λc=>(rec ((ao c),())).bind λd=>some (inl ((bO a.1 d),(aC .i64 a.2.1 1),()))else oR (some (aC .i64 a.1 1))) (0,0,())
noncomputable def Xy:Nat->(aq×Unit)->Y Int:=kU (λrec a=>Lg rec a.1)
def Ev(a:aq):Y Int:=Xy (SizeOf.sizeOf a+1) (a,())
noncomputable def Xv:KS U prog:=⟨.fn 102 [t4] q0 λa=>Ev a.1,Cb (K:=K) (A_s:=[t4]) (r:= .one y0) (B:=λrec a=>Lg rec a.1) UE 20 [.tmp 2] [] (fk f102 [] func102) (hF:=λa=>⟨_,rfl⟩)⟩
noncomputable def Xg:SA U:=cO (cn prog 26 [] f103) (.r (.r (.l (.r (.l (.j ⟨[.val 3 y0,.val 16 y0],[14,15]⟩ .e))))))
noncomputable def Nw(rec:(aq×Unit)->Y Int)(b:aq):Y Int:=aE (λ(a:Int×Int×Unit)=>bif decide (a.2.1<(b.aR.length:Int))then(idx b.aR a.2.1).bind λc=>(rec ((ao c),())).bind λd=>some (inl ((aC .i64 a.1 d),(aC .i64 a.2.1 1),()))else oR (some a.1)) ((aC .i64 (b.bc.length:Int) (b.aR.length:Int)),0,())
noncomputable def aai:Nat->(aq×Unit)->Y Int:=kU (λrec a=>Nw rec a.1)
def GP(a:aq):Y Int:=aai (SizeOf.sizeOf a+1) (a,())
noncomputable def Y8:KS U prog:=⟨.fn 103 [t4] q0 λa=>GP a.1,Cb (K:=K) (A_s:=[t4]) (r:= .one y0) (B:=λrec a=>Nw rec a.1) Xg 26 [.tmp 2] [] (fk f103 [] func103) (hF:=λa=>⟨_,rfl⟩)⟩
noncomputable def fD(a:Int):Y Bool:=(aO (decide (0<=a)) (some (decide (a<=1023)))).bind some
def tf:=kf func284 [t0] q1 (u1 fD) [] .e []
def mm(b:Int)(a:Int):Y Bool:=(fD b).bind λc=>(aO c (some (decide (0<=a)))).bind λd=>(aO d (some (decide (a<10)))).bind λe=>(aO e (if a<0 then none else some (decide ((GH .i64 (kb .i64 b a) 1)=1)))).bind some
def uy:=kf func237 [t0,t0] q1 (u2 mm) [] .e [tf]
def Co(c:Z Int):Y (Int×Int×Unit):=aE (λ(a:Int×Int×Unit)=>bif decide (a.2.1<(c.length:Int))then(idx c a.2.1).bind λb=>(oO (decide (b<0)) (some (decide (10<=b)))).bind λd=>bif d then oR (some (0,5,()))else(mm a.1 b).bind λe=>bif e then oR (some (0,6,()))else if b<0 then none else some (inl ((tH .i64 a.1 (cj .i64 1 b)),(aC .i64 a.2.1 1),()))else oR (some (a.1,0,()))) (0,0,())
def ac5:=kf func170 [t14] (.many [y0,y0]) (u1 Co) [] (p_ 5 11 (.j ⟨[.val 4 y0,.val 9 y0],[7,8]⟩ .e)) [uy]
noncomputable def UD:SA U:=cO (cn prog 61 [] f104) (.r (.r (.b (.r (.l (.j ⟨[.val 28 y0],[1,26,27]⟩ .e))) (.r (.l (.r (.l (.j ⟨[.val 51 y0],[49,50]⟩ .e))))))))
def qM(rec:(aq×Unit)->Y Int)(a:aq):Y Int:=(oO (decide (a.aN<1)) (some (decide ((aC .i64 (a.bc.length:Int) (a.aR.length:Int))<a.aN)))).bind λg=>bif g then some 4 else aE (λ(b:Int×Unit)=>bif decide (b.1<(a.bc.length:Int))then(idx a.bc b.1).bind λd=>(oO (decide (d<0)) (some (decide (10<=d)))).bind λh=>bif h then oR (some 5)else some (inl ((aC .i64 b.1 1),()))else oR ((Co a.bc).bind λe=>bif (!decide (e.2.1=0))then some e.2.1 else aE (λ(c:Int×Unit)=>bif decide (c.1<(a.aR.length:Int))then(idx a.aR c.1).bind λi=>(rec ((ao i),())).bind λf=>bif (!decide (f=0))then oR (some f)else some (inl ((aC .i64 c.1 1),()))else oR (some 0)) (0,()))) (0,())
noncomputable def tq:Nat->(aq×Unit)->Y Int:=kU (λrec a=>qM rec a.1)
def wV(a:aq):Y Int:=tq (SizeOf.sizeOf a+1) (a,())
noncomputable def Xu:KS U prog:=⟨.fn 104 [t4] q0 λa=>wV a.1,Cb (K:=K) (A_s:=[t4]) (r:= .one y0) (B:=λrec a=>qM rec a.1) UD 61 [.tmp 2] [ac5] (fk f104 [] func104) (hF:=λa=>⟨_,rfl⟩)⟩
def dh(a:aq):Y Int:=(Ev (ao a)).bind λb=>(oO (decide (4<b)) ((GP (ao a)).bind λc=>some (decide (200<c)))).bind λd=>bif d then some 3 else(wV (ao a)).bind some
def fY:=kf func54 [t4] q0 (u1 dh) [] .e [Xv,Y8,Xu]
def uI(a:Int)(b:aq):Y (al×Int×Unit):=(oO (decide (a<0)) (some (decide (9<a)))).bind λc=>bif c then some (zz3,5,())else(dh (ao b)).bind λd=>bif (!decide (d=0))then some (zz3,1,())else some ((al.mk a false (ao b) []),0,())
def Pc:=kf func15 [t0,t4] (.many [y7,y0]) (u2 uI) [] .e [fY]
def xF(s:dP)(a:Z C):Y (C×dP):=(cg s (a.length:Int)).bind λb=>(idx a b.1).bind λc=>some (c,b.2)
def To:=kr func57 0 y16 [t11] (.one y3) (λs a=>xF s a.1) [] .e [pB]
def ja(s:dP):Y (C×dP):=(xF s [(ByteArray.mk #[97]),(ByteArray.mk #[98]),(ByteArray.mk #[99]),(ByteArray.mk #[97,97])]).bind λa=>some (a.1,a.2)
def wj:=kr func18 0 y16 [] (.one y3) (λs a=>ja s) [] .e [To]
noncomputable def kL(a:ah):Y Bool:=(aO (decide (1<=a.ai)) (some (decide (a.ai<=1000)))).bind λb=>(oO b (some (decide (a.ai=1000000)))).bind λc=>(aO c (some (decide (1<=(ByteArray.size a.Value:Int))))).bind λd=>(aO d (some (decide ((ByteArray.size a.Value:Int)<=200)))).bind some
def Ep:=kf func153 [t2] q1 (u1 kL) [] .e []
noncomputable def bR(a:ah):Y Bool:=some (nF false a.ai 0 a.Value bE)
def ec:=kf func154 [t2] q1 (u1 bR) [] .e []
noncomputable def qW(a:C)(b:C):Y Bool:=bif (!decide ((ByteArray.size a:Int)=(ByteArray.size b:Int)))then some (decide ((ByteArray.size a:Int)<(ByteArray.size b:Int)))else some (nf a b)
def Ez:=kf func219 [t3,t3] q1 (u2 qW) [] .e []
def gg(a:ah)(b:ah):Y Bool:=bif (!decide (a.ai=b.ai))then some (decide (a.ai<b.ai))else(qW a.Value b.Value).bind some
def l9:=kf func155 [t2,t2] q1 (u2 gg) [] .e [Ez]
noncomputable def c7(a:ah)(b:ah):Y Bool:=some (decide (a.Value=b.Value))
def fS:=kf func156 [t2,t2] q1 (u2 c7) [] .e []
def oM(a:ah)(b:ah):Y Bool:=(bR a).bind λc=>(aO (!c) ((c7 a b).bind some)).bind λd=>(aO d (some (decide (b.ai<=a.ai)))).bind some
def C2:=kf func220 [t2,t2] q1 (u2 oM) [] .e [ec,fS]
def kl(c:ah)(a:ah)(b:ah):Y Bool:=(oM c b).bind λd=>(oO d ((oM a b).bind some)).bind λe=>(oO e ((bR a).bind λf=>(aO (!f) ((gg b a).bind some)).bind some)).bind some
def wi:=kf func157 [t2,t2,t2] q1 (u3 kl) [] .e [C2,ec,l9]
def iz(a:ah)(b:ah):Y Bool:=(bR a).bind λc=>(aO (!c) ((c7 a b).bind λd=>some (!d))).bind λe=>(aO e ((gg b a).bind some)).bind some
def C3:=kf func158 [t2,t2] q1 (u2 iz) [] .e [ec,fS,l9]
def dE(a:aj):Y Bool:=(oO (decide (a.ak<0)) (some (decide (9<a.ak)))).bind λz=>(oO z (some (decide (a.aJ<1)))).bind λA=>(oO A (some (decide (1000000<a.aJ)))).bind λB=>(oO B (some (decide (a.aI<1)))).bind λC=>(oO C (some (decide (1000000<a.aI)))).bind λD=>(oO D ((dh (ao a.aa)).bind λE=>some (!decide (E=0)))).bind λF=>(oO F ((kL a.af).bind λG=>some (!G))).bind λH=>bif H then some false else(bR a.ar).bind λb=>bif decide (a.bF=1)then(oO (decide (1000<a.af.ai)) ((aO (!b) ((kL a.ar).bind λc=>some (!c))).bind some)).bind λd=>bif d then some false else(bR a.aH).bind λe=>(aO (!e) ((oO b ((kL a.aH).bind λf=>some (!f))).bind λg=>(oO g ((gg a.aH a.ar).bind λh=>some (!h))).bind λi=>(oO i ((c7 a.aH a.ar).bind some)).bind some)).bind λj=>bif j then some false else(oO (decide (a.bg<0)) (some (decide (a.bx<a.bg)))).bind λk=>(oO k (some (decide (a.af.ai<a.bx)))).bind λl=>bif l then some false else(aO (decide (0<a.bx)) ((kl a.ar a.aH (ah.mk a.bx a.af.Value)).bind λm=>some (!m))).bind λn=>bif n then some false else(oO (decide (a.bg=0)) ((iz a.ar (ah.mk a.bg a.af.Value)).bind λo=>(aO (!o) ((iz a.aH (ah.mk a.bg a.af.Value)).bind λp=>some (!p))).bind some)).bind some else bif decide (a.bF=2)then(aO (decide (a.af.ai<=1000)) ((kL a.ar).bind some)).bind λq=>(aO q ((c7 a.ar a.af).bind some)).bind λr=>(aO r ((bR a.aH).bind some)).bind λs=>(aO s (some (decide (1<=a.bg)))).bind λt=>(aO t (some (decide (a.bg<=a.bx)))).bind λu=>(aO u (some (decide (a.bx<=a.ar.ai)))).bind λv=>(aO v (some (decide (a.bx<=1000)))).bind some else aO (decide (a.bF=3)) ((aO b ((bR a.aH).bind some)).bind λw=>(aO w (some (decide (1<=a.bg)))).bind λx=>(aO x (some (decide (a.bg<=a.bx)))).bind λy=>(aO y (some (decide (a.bx<=1000)))).bind some)
def gF:=kf func90 [t9] q1 (u1 dE) [] .e [fY,Ep,ec,l9,fS,wi,C3]
def iX(a:ae):Y aj:=aX (λ(c:aj×Unit)=>some (eT1 c.1)) λb=>bif decide (a.aW=1)then(bR a.aB).bind λd=>(aO (!d) ((c7 a.aB a.af).bind some)).bind λe=>bif e then b ({a with aa:=(ao a.aa),bF:=a.aW,bx:=a.aB.ai},())else b ({a with aa:=(ao a.aa),bF:=a.aW,bx:=0},())else bif decide (a.aW=2)then b ({a with aa:=(ao a.aa),bF:=a.aW,aH:=zB},())else b ({a with aa:=(ao a.aa),bF:=a.aW,ar:=zB,aH:=zB},())
def sB:=kf func199 [t5] (.one y9) (u1 iX) [] (p_ 2 3 (.j ⟨[.box 15 1 y9 []],[2,3]⟩ .e)) [ec,fS]
def ji(a:ae):Y Bool:=(oO (decide (a.ak<0)) (some (decide (9<a.ak)))).bind λz=>(oO z (some (decide (a.aJ<1)))).bind λA=>(oO A (some (decide (1000000<a.aJ)))).bind λB=>(oO B (some (decide (a.aI<0)))).bind λC=>(oO C (some (decide (1000000<a.aI)))).bind λD=>(oO D ((dh (ao a.aa)).bind λE=>some (!decide (E=0)))).bind λF=>(oO F (some (decide (200<(ByteArray.size a.bm:Int))))).bind λG=>bif G then some false else aE (λ(d:Int×Unit)=>bif decide (d.1<(a.au.length:Int))then(idx a.au d.1).bind λc=>aX (λ(e:Bool×Unit)=>bif e.1 then oR (some false)else some (inl ((aC .i64 d.1 1),()))) λb=>(dE (eT1 c)).bind λf=>bif (!f)then b (true,())else bif (!decide (c.aJ=a.aJ))then b (true,())else bif decide (c.ak=a.ak)then b (true,())else bif decide (0<d.1)then(idx a.au (cQ .i64 d.1 1)).bind λg=>b ((decide (c.ak<=g.ak)),())else b (false,())else oR ((bR a.af).bind λh=>bif h then(aO (decide (a.aW=1)) (some (decide (a.aI=0)))).bind λi=>(aO i ((bR a.ar).bind some)).bind λj=>(aO j ((bR a.aH).bind some)).bind λk=>(aO k ((bR a.aB).bind some)).bind λl=>(aO l (some (decide (a.bg=0)))).bind λm=>(aO m (some (decide (a.bx=0)))).bind some else(iX (eT2 a)).bind λn=>(dE (eT1 n)).bind λo=>bif (!o)then some false else(aO (!decide (a.aW=2)) (some (!decide (a.aW=3)))).bind λp=>(aO p (some (!decide (a.bx=0)))).bind λq=>bif q then some false else(aO (decide (a.aW=3)) ((bR a.ar).bind λr=>(oO (!r) ((bR a.aH).bind λs=>some (!s))).bind some)).bind λt=>(oO t ((aO (decide (a.aW=2)) ((bR a.aH).bind λu=>some (!u))).bind some)).bind λv=>bif v then some false else(bR a.aB).bind λw=>oO w ((kL a.aB).bind λx=>(oO (!x) (some (decide (1000<a.aB.ai)))).bind λy=>bif y then some false else bif decide (a.aW=1)then(kl a.ar a.aH a.aB).bind some else(c7 a.aB a.af).bind some))) (0,())
def n9:=kf func127 [t5] q1 (u1 ji) [] (p_ 5 11 (.j ⟨[.val 48 y0],[1,46,47]⟩ (p_ 6 38 (.j ⟨[.val 85 y1],[1,46,47,48]⟩ .e)))) [fY,gF,ec,sB,Ep,wi,fS]
noncomputable def wT(a:C):Y Bool:=(aO (decide (1<=(ByteArray.size a:Int))) (some (decide ((ByteArray.size a:Int)<=200)))).bind some
def K3:=kf func247 [t3] q1 (u1 wT) [] .e []
noncomputable def jM(a:C)(b:C):Y Int:=bif decide (a=b)then some 0 else(oO (decide ((ByteArray.size a:Int)<(ByteArray.size b:Int))) ((aO (decide ((ByteArray.size a:Int)=(ByteArray.size b:Int))) (some (nf a b))).bind some)).bind λc=>bif c then some (-1:Int)else some 1
def xA:=kf func248 [t3,t3] q0 (u2 jM) [] .e []
def iq(b:Z C):Y Bool:=aE (λ(a:Int×Unit)=>bif decide (a.1<(b.length:Int))then(idx b a.1).bind λc=>(wT c).bind λd=>(oO (!d) ((aO (decide (0<a.1)) ((idx b (cQ .i64 a.1 1)).bind λe=>(jM e c).bind λf=>some (decide (0<=f)))).bind some)).bind λg=>bif g then oR (some false)else some (inl ((aC .i64 a.1 1),()))else oR (some (decide ((b.length:Int)<=40)))) (0,())
def K6:=kf func200 [t11] q1 (u1 iq) [] (p_ 4 5 (.j ⟨[.val 7 y0],[0,5,6]⟩ .e)) [K3,xA]
noncomputable def pk(b:Z C)(c:C):Y Bool:=aE (λ(a:Int×Unit)=>bif decide (a.1<(b.length:Int))then(idx b a.1).bind λd=>bif decide (c=d)then oR (some true)else some (inl ((aC .i64 a.1 1),()))else oR (some false)) (0,())
def Dr:=kf func201 [t11,t3] q1 (u2 pk) [] (p_ 4 5 (.j ⟨[.val 9 y0],[1,7,8]⟩ .e)) []
def qH(a:aA):Y Bool:=(aO (decide (0<=a.ak)) (some (decide (a.ak<10)))).bind λb=>(aO b (some (decide (1<=a.aI)))).bind λc=>(aO c ((dh (ao a.aa)).bind λd=>some (decide (d=0)))).bind λe=>(aO e ((iq a.bj).bind some)).bind λf=>(aO f ((iq a.aG).bind some)).bind some
def K7:=kf func202 [t12] q1 (u1 qH) [] .e [fY,K6]
def qG(a:av):Y Bool:=(oO (decide (a.ak<0)) (some (decide (10<=a.ak)))).bind λq=>(oO q (some (decide (a.aJ<0)))).bind λr=>(oO r (some (decide (1000000<a.aJ)))).bind λs=>(oO s (some (decide (a.Round<1)))).bind λt=>(oO t (some (decide (1000<a.Round)))).bind λu=>(oO u (some (decide (a.aI<1)))).bind λv=>(oO v (some (decide (1000000<a.aI)))).bind λw=>bif w then some false else(dh (ao a.aa)).bind λx=>(oO (!decide (x=0)) (some (decide (200<(ByteArray.size a.oa:Int))))).bind λy=>(oO y ((iq a.bj).bind λf=>some (!f))).bind λg=>(oO g ((iq a.aG).bind λh=>some (!h))).bind λi=>(oO i ((iq a.aU).bind λj=>some (!j))).bind λk=>bif k then some false else aE (λ(e:Int×Unit)=>bif decide (e.1<(a.aU.length:Int))then(idx a.aU e.1).bind λl=>(pk a.aG l).bind λm=>bif (!m)then oR (some false)else some (inl ((aC .i64 e.1 1),()))else oR (aE (λ(b:Int×Unit)=>bif decide (b.1<(a.au.length:Int))then(idx a.au b.1).bind λc=>aX (λ(n:Bool×Unit)=>bif n.1 then oR (some false)else some (inl ((aC .i64 b.1 1),()))) λd=>(qH {c with aa:=(ao c.aa)}).bind λo=>bif (!o)then d (true,())else bif decide (c.ak=a.ak)then d (true,())else bif decide (0<b.1)then(idx a.au (cQ .i64 b.1 1)).bind λp=>d ((decide (c.ak<=p.ak)),())else d (false,())else oR (some true)) (0,()))) (0,())
def Ar:=kf func128 [t8] q1 (u1 qG) [] (p_ 3 7 (.b (p_ 2 1 (.j ⟨[.val 76 y0],[1,74,75]⟩ .e)) (p_ 3 2 (.j ⟨[.val 89 y0],[1,87,88]⟩ (p_ 6 38 (.j ⟨[.val 119 y1],[1,87,88,89]⟩ .e)))))) [fY,K6,Dr,K7]
noncomputable def yH(b:Z Int)(c:Z Int):Y Bool:=bif (!decide ((b.length:Int)=(c.length:Int)))then some false else aE (λ(a:Int×Unit)=>bif decide (a.1<(b.length:Int))then(idx b a.1).bind λd=>(idx c a.1).bind λe=>bif (!decide (d=e))then oR (some false)else some (inl ((aC .i64 a.1 1),()))else oR (some true)) (0,())
def Y9:=kf func70 [t14,t14] q1 (u2 yH) [] (p_ 5 11 (.j ⟨[.val 13 y0],[0,1,12]⟩ .e)) []
noncomputable def Xh:SA U:=cO (cn prog 47 [] f26) (.r (.r (.l (.r (.l (.j ⟨[.val 31 y0],[2,3,30]⟩ .e))))))
def vS(rec:(aq×aq×Unit)->Y Bool)(a:aq)(b:aq):Y Bool:=(oO (!decide (a.aN=b.aN)) ((yH a.bc b.bc).bind λd=>some (!d))).bind λe=>(oO e (some (!decide ((a.aR.length:Int)=(b.aR.length:Int))))).bind λf=>bif f then some false else aE (λ(c:Int×Unit)=>bif decide (c.1<(a.aR.length:Int))then(idx a.aR c.1).bind λg=>(idx b.aR c.1).bind λh=>(rec ((ao g),(ao h),())).bind λi=>bif (!i)then oR (some false)else some (inl ((aC .i64 c.1 1),()))else oR (some true)) (0,())
noncomputable def yx:Nat->(aq×aq×Unit)->Y Bool:=kU (λrec a=>vS rec a.1 a.2.1)
def gO(a:aq)(b:aq):Y Bool:=yx (SizeOf.sizeOf a+SizeOf.sizeOf b+1) (a,b,())
noncomputable def ma:KS U prog:=⟨.fn 26 [t4,t4] q1 λa=>gO a.1 a.2.1,Cb (K:=K) (A_s:=[t4,t4]) (r:= .one y1) (B:=λrec a=>vS rec a.1 a.2.1) Xh 47 [.tmp 4] [Y9] (fk f26 [] func26) (hF:=λa=>⟨_,rfl⟩)⟩
noncomputable def wR(a:fU):Y Bool:=(aO (decide (0<=a.ai)) (some (decide (a.ai<=1000000)))).bind λb=>(aO b (some (decide ((-1:Int)<=a.Bt)))).bind λc=>(aO c (some (decide (a.Bt<=212)))).bind some
def K0:=kf func129 [.ty y23] q1 (u1 wR) [] .e []
def uf(a:ae):Y (C×Bool×Unit):=(ji (eT2 a)).bind λb=>(oO (!b) (some (!decide (a.aW=3)))).bind λc=>bif c then some (bE,false,())else some (a.af.Value,true,())
def Hn:=kf func130 [t5] (.many [y3,y1]) (u1 uf) [] .e [n9]
def kK(a:aD):Y Bool:=(ji (eT2 a.ab)).bind λg=>(oO (!g) ((qG (eT0 a.az)).bind λh=>some (!h))).bind λi=>(oO i (some (!decide (a.az.ak=a.ab.ak)))).bind λj=>(oO j (some (!decide (a.az.aJ=a.ab.aJ)))).bind λk=>(oO k ((gO (ao a.az.aa) (ao a.ab.aa)).bind λl=>some (!l))).bind λm=>(oO m ((wR a.Timer).bind λn=>some (!n))).bind λo=>bif o then some false else(uf (eT2 a.ab)).bind λb=>(aO (decide (1<=a.Round)) (some (decide (a.Round<=1000)))).bind λc=>(aO c (some (decide (0<=a.Next)))).bind λd=>(aO d (some (decide (a.Next<=212)))).bind λe=>(aO e (some (xor false (decide (a.qL=b.2.1))))).bind λf=>(aO f (some (decide (a.Value=b.1)))).bind some
def qz:=kf func71 [t6] q1 (u1 kK) [] .e [n9,Ar,ma,K0,Hn]
def fe(a:al):Y Bool:=(oO (decide (a.ak<0)) (some (decide (9<a.ak)))).bind λg=>(oO g ((dh (ao a.aa)).bind λh=>some (!decide (h=0)))).bind λi=>(oO i (some (decide (8<(a.ax.length:Int))))).bind λj=>bif j then some false else aE (λ(b:Int×Unit)=>bif decide (b.1<(a.ax.length:Int))then(idx a.ax b.1).bind λd=>aX (λ(k:Bool×Unit)=>bif k.1 then oR (some false)else some (inl ((aC .i64 b.1 1),()))) λc=>(kK (eT4 d)).bind λl=>bif (!l)then c (true,())else bif (!decide (d.ab.ak=a.ak))then c (true,())else(gO (ao d.ab.aa) (ao a.aa)).bind λe=>bif (!e)then c (true,())else bif decide (0<b.1)then(idx a.ax (cQ .i64 b.1 1)).bind λf=>c ((decide (d.ab.aJ<=f.ab.aJ)),())else c (false,())else oR (some true)) (0,())
def mw:=kf func30 [t7] q1 (u1 fe) [] (p_ 5 11 (.j ⟨[.val 28 y0],[1,26,27]⟩ (p_ 6 38 (.j ⟨[.val 70 y1],[1,26,27,28]⟩ .e)))) [fY,qz,ma]
noncomputable def zk(b:al)(c:Int):Y (Int×Bool×Unit):=aE (λ(a:Int×Unit)=>(aO (decide (a.1<(b.ax.length:Int))) ((idx b.ax a.1).bind λf=>some (decide (f.ab.aJ<c)))).bind λg=>bif g then some (inl ((aC .i64 a.1 1),()))else oR (aX (λ(d:Int×Bool×Unit)=>some (d.1,d.2.1,())) λe=>bif decide (a.1<(b.ax.length:Int))then(idx b.ax a.1).bind λh=>e (a.1,(decide (h.ab.aJ=c)),())else e (a.1,false,()))) (0,())
def J6:=kf func75 [t7,t0] (.many [y0,y1]) (u2 zk) [] (p_ 2 3 (.b (.l (.j ⟨[.val 6 y0],[1,2]⟩ .e)) (.j ⟨[.val 4 y0,.val 5 y1],[]⟩ .e))) []
def Ak(a:Int)(b:Int)(c:aq):Y (ae×Int×Unit):=(oO (decide (a<0)) (some (decide (9<a)))).bind λd=>bif d then some (zz1,5,())else(oO (decide (b<1)) (some (decide (1000000<b)))).bind λe=>bif e then some (zz1,77,())else(dh (ao c)).bind λf=>bif (!decide (f=0))then some (zz1,1,())else some ((ae.mk a b 0 (ao c) 1 zB zB zB zB 0 0 bE []),0,())
def aaJ:=kf func204 [t0,t0,t4] (.many [y5,y0]) (u3 Ak) [] .e [fY]
def wU(e:aq)(a:Int)(b:Int)(c:Int):Y Int:=(dh (ao e)).bind λd=>bif (!decide (d=0))then some d else(oO (decide (a<0)) (some (decide (10<=a)))).bind λf=>bif f then some 5 else(oO (decide (b<0)) (some (decide (1000000<b)))).bind λg=>(oO g (some (decide (c<1)))).bind λh=>(oO h (some (decide (1000<c)))).bind λi=>bif i then some 1 else some 0
def K8:=kf func374 [t4,t0,t0,t0] q0 (u4 wU) [] .e [fY]
noncomputable def R8:SA U:=cO (cn prog 61 [] f405) (.r (.r (.b (.r (.l (.j ⟨[.val 23 y0,.box 1 1 y22 []],[1,2,4,6,21,22]⟩ .e))) (.l (.r (.l (.j ⟨[.val 38 y0,.box 1 1 y22 []],[1,2,4,6,36,37]⟩ .e)))))))
noncomputable def k9(rec:(aq×Int×Unit)->Y (fZ×Bool×Unit))(a:aq)(e:Int):Y (fZ×Bool×Unit):=aE (λ(b:Int×fZ×Unit)=>bif decide (b.1<(a.bc.length:Int))then(idx a.bc b.1).bind λf=>bif decide (f=e)then oR (some ((fZ.mk a.aN (aC .i64 (a.bc.length:Int) (a.aR.length:Int))),true,()))else some (inl ((aC .i64 b.1 1),b.2.1,()))else oR (aE (λ(c:Int×fZ×Unit)=>bif decide (c.1<(a.aR.length:Int))then(idx a.aR c.1).bind λg=>(rec ((ao g),e,())).bind λd=>bif d.2.1 then oR (some ((fZ.mk (sv .i64 a.aN d.1.Xc) (sv .i64 (aC .i64 (a.bc.length:Int) (a.aR.length:Int)) d.1.Xd)),true,()))else some (inl ((aC .i64 c.1 1),c.2.1,()))else oR (some (zz10,false,()))) (0,b.2.1,()))) (0,zz10,())
noncomputable def vx:Nat->(aq×Int×Unit)->Y (fZ×Bool×Unit):=kU (λrec a=>k9 rec a.1 a.2.1)
def zm(a:aq)(b:Int):Y (fZ×Bool×Unit):=vx (SizeOf.sizeOf a+SizeOf.sizeOf b+1) (a,b,())
noncomputable def U6:KS U prog:=⟨.fn 405 [t4,t0] (.many [y22,y1]) λa=>zm a.1 a.2.1,Cb (K:=K) (A_s:=[t4,t0]) (r:= .many [y22,y1]) (B:=λrec a=>k9 rec a.1 a.2.1) R8 61 [.cell 4 (some 2),.tmp 5] [] (fk f405 [] func405) (hF:=λa=>⟨_,rfl⟩)⟩
noncomputable def pI(a:Int)(b:Int)(c:Int)(d:Int):Y Int:=some (bu .u32 (kb .u64 (dX .u64 (sv .u64 (dX .u64 (sv .u64 (dX .u64 (aC .u64 (dX .u64 (dX .u64 (dX .u64 (cj .u64 (bu .u64 a) 56) (cj .u64 (bu .u64 b) 24)) (cj .u64 (bu .u64 c) 8)) (bu .u64 d)) 11400714819323198485) (kb .u64 (aC .u64 (dX .u64 (dX .u64 (dX .u64 (cj .u64 (bu .u64 a) 56) (cj .u64 (bu .u64 b) 24)) (cj .u64 (bu .u64 c) 8)) (bu .u64 d)) 11400714819323198485) 30)) 13787848793156543929) (kb .u64 (sv .u64 (dX .u64 (aC .u64 (dX .u64 (dX .u64 (dX .u64 (cj .u64 (bu .u64 a) 56) (cj .u64 (bu .u64 b) 24)) (cj .u64 (bu .u64 c) 8)) (bu .u64 d)) 11400714819323198485) (kb .u64 (aC .u64 (dX .u64 (dX .u64 (dX .u64 (cj .u64 (bu .u64 a) 56) (cj .u64 (bu .u64 b) 24)) (cj .u64 (bu .u64 c) 8)) (bu .u64 d)) 11400714819323198485) 30)) 13787848793156543929) 27)) 10723151780598845931) (kb .u64 (sv .u64 (dX .u64 (sv .u64 (dX .u64 (aC .u64 (dX .u64 (dX .u64 (dX .u64 (cj .u64 (bu .u64 a) 56) (cj .u64 (bu .u64 b) 24)) (cj .u64 (bu .u64 c) 8)) (bu .u64 d)) 11400714819323198485) (kb .u64 (aC .u64 (dX .u64 (dX .u64 (dX .u64 (cj .u64 (bu .u64 a) 56) (cj .u64 (bu .u64 b) 24)) (cj .u64 (bu .u64 c) 8)) (bu .u64 d)) 11400714819323198485) 30)) 13787848793156543929) (kb .u64 (sv .u64 (dX .u64 (aC .u64 (dX .u64 (dX .u64 (dX .u64 (cj .u64 (bu .u64 a) 56) (cj .u64 (bu .u64 b) 24)) (cj .u64 (bu .u64 c) 8)) (bu .u64 d)) 11400714819323198485) (kb .u64 (aC .u64 (dX .u64 (dX .u64 (dX .u64 (cj .u64 (bu .u64 a) 56) (cj .u64 (bu .u64 b) 24)) (cj .u64 (bu .u64 c) 8)) (bu .u64 d)) 11400714819323198485) 30)) 13787848793156543929) 27)) 10723151780598845931) 31)) 32))
def MF:=kf func376 [t0,t0,t0,t0] (.one (Ty.i .u32)) (u4 pI) [] .e []
def nY(d:aq)(e:Int)(f:Int)(g:Int)(a:Int):Y Bool:=(wU (ao d) e f g).bind λh=>(oO (!decide (h=0)) (some (decide (a<0)))).bind λi=>(oO i (some (decide (10<=a)))).bind λj=>bif j then some false else(zm (ao d) a).bind λb=>aX (λ(k:Bool×Unit)=>some k.1) λc=>bif decide (a=e)then c (true,())else bif b.2.1 then(pI 1 f g a).bind λl=>c ((decide ((sv .i64 (bu .i64 l) b.1.Xd)<(cj .i64 b.1.Xc 32))),())else c (false,())
def OA:=kf func375 [t4,t0,t0,t0,t0] q1 (u5 nY) [] (p_ 3 7 (.j ⟨[.val 10 y1],[]⟩ .e)) [K8,U6,MF]
def mV(f:aq)(d:Int)(b:Int)(c:Int):Y (Int×Int×Unit):=(wU (ao f) d b c).bind λg=>bif (!decide (g=0))then some (0,g,())else aE (λ(a:Int×Int×Unit)=>bif decide (a.2.1<10)then aX (λ(j:Int×Unit)=>some (inl (j.1,(aC .i64 a.2.1 1),()))) λe=>(nY (ao f) d b c a.2.1).bind λk=>bif (!k)then e (a.1,())else(pI 2 b c a.2.1).bind λh=>(pI 2 b c a.1).bind λi=>(oO (decide (i<h)) ((aO (decide (h=i)) (some (decide (a.1<a.2.1)))).bind some)).bind λl=>bif l then e (a.2.1,())else e (a.1,())else oR (some (a.1,0,()))) (d,0,())
def U7:=kf func336 [t4,t0,t0,t0] (.many [y0,y0]) (u4 mV) [] (p_ 6 23 (.j ⟨[.val 11 y0,.val 12 y0],[1,2,3,4]⟩ (p_ 2 2 (.j ⟨[.val 11 y0],[1,2,3,4,12]⟩ .e)))) [K8,OA,MF]
def qi(c:aq)(d:Int)(e:Int)(f:Int):Y (Int×Int×Unit):=(mV (ao c) d e f).bind λg=>bif (!decide (g.2.1=0))then some (0,g.2.1,())else aE (λ(a:Int×Int×Unit)=>bif decide (a.2.1<=f)then aX (λ(i:Int×Unit)=>some (inl (i.1,(aC .i64 a.2.1 1),()))) λh=>(mV (ao c) d e a.2.1).bind λb=>(mm a.1 b.1).bind λj=>bif (!j)then if b.1<0 then none else h ((tH .i64 a.1 (cj .i64 1 b.1)),())else h (a.1,())else oR (some (a.1,0,()))) (0,1,())
def Tm:=kf func299 [t4,t0,t0,t0] (.many [y0,y0]) (u4 qi) [] (p_ 6 23 (.j ⟨[.val 12 y0,.val 13 y0],[1,2,3,4]⟩ (p_ 2 2 (.j ⟨[.val 12 y0],[1,2,3,4,13]⟩ .e)))) [U7,uy]
def tx(c:Int):Y (Z Int):=aE (λ(a:Int×Z Int×Unit)=>bif decide (a.1<10)then aX (λ(d:(Z Int)×Unit)=>some (inl ((aC .i64 a.1 1),d.1,()))) λb=>(mm c a.1).bind λe=>bif e then bif bl 8 (a.2.1.length+List.length [a.1])then b ((a.2.1++[a.1]),())else none else b (a.2.1,())else oR (some a.2.1)) (0,[],())
def K9:=kf func300 [t0] (.one y14) (u1 tx) [] (p_ 5 11 (.ps (.own 3 3 1 y0) (.j ⟨[.val 4 y0,.own 3 3 1 3 1 y0],[0]⟩ (p_ 2 2 (.j ⟨[.own 3 3 1 3 1 y0],[0,4]⟩ .e))))) [uy]
def pj(c:Z C)(b:C):Y (Z C):=(pk c b).bind λh=>(oO h (some (decide (40<=(c.length:Int))))).bind λi=>bif i then some c else aE (λ(a:Bool×Int×Z C×Unit)=>bif decide (a.2.1<(c.length:Int))then(idx c a.2.1).bind λe=>aX (λ(f:Bool×Z C×Unit)=>bif bl 16 (f.2.1.length+List.length [e])then some (inl (f.1,(aC .i64 a.2.1 1),(f.2.1++[e]),()))else none) λg=>(aO (!a.1) ((jM b e).bind λj=>some (decide (j<0)))).bind λk=>bif k then bif bl 16 (a.2.2.1.length+List.length [b])then g (true,(a.2.2.1++[b]),())else none else g (a.1,a.2.2.1,())else oR (aX (λ(l:(Z C)×Unit)=>some l.1) λd=>bif (!a.1)then bif bl 16 (a.2.2.1.length+List.length [b])then d ((a.2.2.1++[b]),())else none else d (a.2.2.1,()))) (false,0,[],())
def Pd:=kf func261 [t11,t3] (.one y11) (u2 pj) [] (p_ 4 15 (.b (p_ 2 1 (.ps (.own 5 9 1 y3) (.j ⟨[.val 6 y1,.val 20 y0,.own 5 14 1 9 1 y3],[1,18,19]⟩ (p_ 6 38 (.j ⟨[.val 6 y1,.own 5 14 1 9 1 y3],[1,8,18,19,20]⟩ .e))))) (.j ⟨[.own 5 14 1 9 1 y3],[]⟩ .e))) [Dr,xA]
def kM(b:Z C)(c:Z C):Y (Z C):=aE (λ(a:Int×Int×Z C×Unit)=>(oO (decide (a.1<(b.length:Int))) (some (decide (a.2.1<(c.length:Int))))).bind λp=>bif p then aX (λ(d:Int×Int×C×Unit)=>bif bl 16 (a.2.2.1.length+List.length [d.2.2.1])then some (inl (d.1,d.2.1,(a.2.2.1++[d.2.2.1]),()))else none) λe=>aX (λ(q:Bool×Unit)=>bif q.1 then(idx b a.1).bind λr=>e ((aC .i64 a.1 1),a.2.1,r,())else aX (λ(s:Bool×Unit)=>bif s.1 then(idx c a.2.1).bind λf=>e (a.1,(aC .i64 a.2.1 1),f,())else(idx b a.1).bind λg=>e ((aC .i64 a.1 1),(aC .i64 a.2.1 1),g,())) λo=>bif decide (a.1=(b.length:Int))then o (true,())else(idx b a.1).bind λh=>(idx c a.2.1).bind λi=>(jM h i).bind λj=>o ((decide (0<j)),())) λk=>bif decide (a.2.1=(c.length:Int))then k (true,())else bif decide (a.1<(b.length:Int))then(idx b a.1).bind λl=>(idx c a.2.1).bind λm=>(jM l m).bind λn=>k ((decide (n<0)),())else k (false,())else oR (some a.2.2.1)) (0,0,[],())
def K4:=kf func301 [t11,t11] (.one y11) (u2 kM) [] (p_ 5 11 (.ps (.own 5 9 1 y3) (.j ⟨[.val 6 y0,.val 7 y0,.own 5 4 1 9 1 y3],[0,1]⟩ (p_ 4 10 (.j ⟨[.val 6 y0,.val 7 y0,.val 8 y3],[0,1,5]⟩ (p_ 2 0 (.j ⟨[.val 27 y1],[0,1,5,6,7]⟩ (p_ 2 3 (.j ⟨[.val 56 y1],[0,1,5,6,7]⟩ .e))))))))) [xA]
def rZ(e:av):Y av:=(qi (ao e.aa) e.ak e.aJ e.Round).bind λo=>(tx o.1).bind λk=>aE (λ(b:Int×av×Unit)=>bif decide (b.1<(k.length:Int))then aX (λ(p:av×Unit)=>some (inl ((aC .i64 b.1 1),(eT0 p.1),()))) λl=>(idx k b.1).bind λm=>bif decide (m=b.2.1.ak)then aX (λ(q:av×Unit)=>l ((eT0 q.1),())) λn=>bif (!decide (b.2.1.oa=bE))then(pj b.2.1.bj b.2.1.oa).bind λr=>n ({b.2.1 with aa:=(ao b.2.1.aa),bj:=r},())else n ((eT0 b.2.1),())else aE (λ(c:Int×av×Unit)=>bif decide (c.1<(b.2.1.au.length:Int))then aX (λ(h:av×Unit)=>some (inl ((aC .i64 c.1 1),(eT0 h.1),()))) λf=>(idx b.2.1.au c.1).bind λd=>bif (!decide (d.ak=m))then f ((eT0 c.2.1),())else(kM d.bj d.aG).bind λg=>aE (λ(a:Int×av×Unit)=>bif decide (a.1<(g.length:Int))then(idx g a.1).bind λi=>(pj a.2.1.bj i).bind λj=>some (inl ((aC .i64 a.1 1),{a.2.1 with aa:=(ao a.2.1.aa),bj:=j},()))else oR (f ((eT0 a.2.1),()))) (0,(eT0 c.2.1),())else oR (l ((eT0 c.2.1),()))) (0,(eT0 b.2.1),())else oR (some (eT0 b.2.1))) (0,(eT0 e),())
def U5:=kf func258 [t8] (.one y8) (u1 rZ) [] (p_ 5 11 (.j ⟨[.val 26 y0,.box 0 1 y8 []],[1,2,24,25]⟩ (p_ 3 6 (.j ⟨[.box 0 1 y8 []],[1,2,24,25,26]⟩ (p_ 3 4 (.b (p_ 2 1 (.j ⟨[.box 0 1 y8 []],[1,2,24,25,26]⟩ .e)) (p_ 2 1 (.j ⟨[.val 46 y0,.box 0 1 y8 []],[1,2,6,24,25,26,44,45]⟩ (p_ 3 6 (.j ⟨[.box 0 1 y8 []],[1,2,6,24,25,26,44,45,46]⟩ (p_ 6 28 (.j ⟨[.val 60 y0,.box 0 1 y8 []],[1,2,6,24,25,26,44,45,46,58,59]⟩ .e)))))))))))) [Tm,K9,Pd,K4]
def qI(b:av):Y (Z C):=(kM b.bj b.aG).bind λd=>aE (λ(a:(Z C)×Int×Unit)=>bif decide (a.2.1<(b.au.length:Int))then(idx b.au a.2.1).bind λc=>(kM c.bj c.aG).bind λe=>(kM a.1 e).bind λf=>some (inl (f,(aC .i64 a.2.1 1),()))else oR (some a.1)) (d,0,())
def Xq:=kf func259 [t8] (.one y11) (u1 qI) [] (p_ 5 11 (.j ⟨[.val 3 y11,.val 14 y0],[12,13]⟩ .e)) [K4]
noncomputable def xc(a:av):Y aA:=some {a with aa:=(ao a.aa)}
def Pe:=kf func133 [t8] (.one y12) (u1 xc) [] .e []
def mC(c:av)(f:C):Y (Int×Int×Unit):=bif bl 120 (List.length ([]:Z aA)+c.au.length)then(xc (eT0 c)).bind λb=>bif bl 120 (List.length (([]:Z aA)++c.au)+List.length [{b with aa:=(ao b.aa)}])then aE (λ(a:Int×Int×Int×Unit)=>bif decide (a.2.2.1<((List.length ((([]:Z aA)++c.au)++[{b with aa:=(ao b.aa)}]):Nat):Int))then aX (λ(g:Int×Int×Unit)=>some (inl (g.1,g.2.1,(aC .i64 a.2.2.1 1),()))) λh=>(idx ((([]:Z aA)++c.au)++[{b with aa:=(ao b.aa)}]) a.2.2.1).bind λl=>(((([]:Z aA)++c.au)++[{b with aa:=(ao b.aa)}])[(toNat a.2.2.1)]?).bind λd=>aX (λ(i:Int×Unit)=>(pk d.aG f).bind λk=>bif k then if d.ak<0 then none else h (i.1,(tH .i64 a.2.1 (cj .i64 1 d.ak)),())else h (i.1,a.2.1,())) λj=>(pk d.bj f).bind λe=>bif e then if d.ak<0 then none else j ((tH .i64 a.1 (cj .i64 1 d.ak)),())else j (a.1,())else oR (some (a.1,a.2.1,()))) (0,0,0,())else none else none
def K5:=kf func262 [t8,t3] (.many [y0,y0]) (u2 mC) [10] (p_ 5 11 (.j ⟨[.val 6 y0,.val 7 y0,.val 19 y0],[1,17,18]⟩ (p_ 3 6 (.j ⟨[.val 6 y0,.val 7 y0],[1,17,18,19]⟩ (p_ 3 4 (.j ⟨[.val 6 y0],[1,7,9,17,18,19]⟩ .e)))))) [Pe,Dr]
noncomputable def Lf(a:ox):Y Bool:=(aO (decide (0<=a.wD)) (some (decide (a.wD<8)))).bind λb=>(aO b (some (decide (0<=a.Value)))).bind λc=>(aO c (some (decide (a.Value<=15)))).bind some
def Xs:=kf func406 [.ty y24] q1 (u1 Lf) [] .e []
noncomputable def HE(a:ox)(b:ox):Y Int:=bif (xor false (decide (a.wD=b.wD)&&(decide (a.Value=b.Value)&&true)))then some 0 else(oO (decide (a.wD<b.wD)) ((aO (decide (a.wD=b.wD)) (some (decide (a.Value<b.Value)))).bind some)).bind λc=>bif c then some (-1:Int)else some 1
def Tn:=kf func407 [.ty y24,.ty y24] q0 (u2 HE) [] .e []
def qJ(b:Z ox):Y Bool:=aE (λ(a:Int×Unit)=>bif decide (a.1<(b.length:Int))then(idx b a.1).bind λd=>aX (λ(e:Bool×Unit)=>bif e.1 then oR (some false)else some (inl ((aC .i64 a.1 1),()))) λc=>(Lf d).bind λf=>bif (!f)then c (true,())else bif decide (0<a.1)then(idx b (cQ .i64 a.1 1)).bind λg=>(HE g d).bind λh=>c ((decide (0<=h)),())else c (false,())else oR (some true)) (0,())
def Xt:=kf func377 [.ty (Ty.sl (Ty.st .Claim))] q1 (u1 qJ) [] (p_ 4 5 (.j ⟨[.val 7 y0],[0,5,6]⟩ (p_ 6 38 (.j ⟨[.val 28 y1],[0,5,6,7]⟩ .e)))) [Xs,Tn]
def tw(a:de):Y Bool:=(aO (decide (0<=a.ak)) (some (decide (a.ak<10)))).bind λb=>(aO b (some (decide (1<=a.aI)))).bind λc=>(aO c ((dh (ao a.aa)).bind λd=>some (decide (d=0)))).bind λe=>(aO e ((qJ a.bj).bind some)).bind λf=>(aO f ((qJ a.aG).bind some)).bind some
def Xr:=kf func338 [.ty y25] q1 (u1 tw) [] .e [fY,Xt]
def sO(b:Int)(g:aq)(h:Z de):Y bs:=bif decide ((10:Int)<=10)&&decide ((0:Int)<=10)&&bl 64 (toNat 10)then aE (λ(a:Int×bs×Z bw×Unit)=>bif decide (a.1<(h.length:Int))then aX (λ(j:bs×Z bw×Unit)=>some (inl ((aC .i64 a.1 1),zz8,j.2.1,()))) λi=>(idx h a.1).bind λc=>(tw {c with aa:=(ao c.aa)}).bind λk=>bif k then(idx a.2.2.1 c.ak).bind λq=>(a.2.2.1[(toNat c.ak)]?).bind λr=>i (zz8,(a.2.2.1.set (toNat c.ak) (bw.mk true (ao c.aa))),())else i (zz8,a.2.2.1,())else oR (aX (λ(l:bs×Z bw×Unit)=>some (bs.mk l.2.1)) λd=>(aO (decide (0<=b)) (some (decide (b<10)))).bind λe=>bif e then(idx a.2.2.1 b).bind λm=>(a.2.2.1[(toNat b)]?).bind λn=>(dh (ao g)).bind λf=>bif decide (f=0)then(idx (a.2.2.1.set (toNat b) zz7) b).bind λo=>((a.2.2.1.set (toNat b) zz7)[(toNat b)]?).bind λp=>d (zz8,((a.2.2.1.set (toNat b) zz7).set (toNat b) (bw.mk true (ao g))),())else d (zz8,(a.2.2.1.set (toNat b) zz7),())else d (zz8,a.2.2.1,()))) (0,zz8,(replicate (toNat 10) zz7),())else none
def Y7:=kf func303 [t0,t4,.ty (Ty.sl (Ty.st .Message))] (.one y13) (u3 sO) [] (p_ 2 3 (.b (p_ 2 1 (.j ⟨[.val 14 y0,.box 4 1 y13 [(0,2,1)],.eK 2 1 255 4 y21],[0,4,6,7,12,13]⟩ (p_ 3 6 (.j ⟨[.box 4 1 y13 [(0,2,1)],.eK 2 1 255 4 y21],[0,4,6,7,12,13,14]⟩ .e)))) (.j ⟨[.box 4 1 y13 [(0,2,1)],.eK 2 1 255 4 y21],[6,7]⟩ .e))) [Xr,fY]
def nN(c:av):Y bs:=aE (λ(a:Int×Z de×Unit)=>bif decide (a.1<(c.au.length:Int))then(idx c.au a.1).bind λb=>bif bl 120 (a.2.1.length+List.length [(de.mk b.ak b.aI (ao b.aa) [] [])])then some (inl ((aC .i64 a.1 1),(a.2.1++[(de.mk b.ak b.aI (ao b.aa) [] [])]),()))else none else oR ((sO c.ak (ao c.aa) a.2.1).bind some)) (0,[],())
def ME:=kf func264 [t8] (.one y13) (u1 nN) [] (p_ 2 3 (.b (p_ 2 1 (.ps (.own 3 250 7 y25) (.j ⟨[.val 9 y0,.own 3 7 1 250 7 y25],[1,2,7,8]⟩ .e))) (.l (.g [(0,.ps (.EN 3))])))) [Y7]
noncomputable def oN(b:bs):Y Int:=aE (λ(a:Int×Int×Unit)=>bif decide (a.2.1<(b.bq.length:Int))then aX (λ(d:Int×Unit)=>some (inl (d.1,(aC .i64 a.2.1 1),()))) λc=>(idx b.bq a.2.1).bind λe=>(aO (decide (a.2.1<10)) (some e.fQ)).bind λf=>bif f then if a.2.1<0 then none else c ((tH .i64 a.1 (cj .i64 1 a.2.1)),())else c (a.1,())else oR (some a.1)) (0,0,())
def AI:=kf func304 [t13] q0 (u1 oN) [] (p_ 5 11 (.j ⟨[.val 3 y0,.val 9 y0],[7,8]⟩ (p_ 3 6 (.j ⟨[.val 3 y0],[7,8,9]⟩ .e)))) []
noncomputable def LU:SA U:=cO (cn prog 43 [] f339) (.r (.r (.r (.b (.r (.l (.j ⟨[.val 5 y0,.val 16 y0],[1,2,14,15]⟩ (.l (.r (.r (.j ⟨[.val 5 y0],[1,2,14,15,16]⟩ .e))))))) (.l (.r (.l (.j ⟨[.val 5 y0,.val 29 y0],[1,2,27,28]⟩ (.l (.r (.r (.j ⟨[.val 5 y0],[1,2,27,28,29]⟩ .e))))))))))))
def lH(rec:(aq×Int×Unit)->Y Bool)(c:aq)(d:Int):Y Bool:=(fD d).bind λi=>bif (!i)then some false else aE (λ(a:Int×Int×Unit)=>bif decide (a.2.1<(c.bc.length:Int))then aX (λ(j:Int×Unit)=>some (inl (j.1,(aC .i64 a.2.1 1),()))) λg=>(idx c.bc a.2.1).bind λk=>(mm d k).bind λl=>bif l then g ((aC .i64 a.1 1),())else g (a.1,())else oR (aE (λ(b:Int×Int×Unit)=>bif decide (b.2.1<(c.aR.length:Int))then aX (λ(m:Int×Unit)=>some (inl (m.1,(aC .i64 b.2.1 1),()))) λh=>(idx c.aR b.2.1).bind λe=>(rec ((ao e),d,())).bind λf=>bif f then h ((aC .i64 b.1 1),())else h (b.1,())else oR (some (decide (c.aN<=b.1)))) (a.1,0,()))) (0,0,())
noncomputable def uP:Nat->(aq×Int×Unit)->Y Bool:=kU (λrec a=>lH rec a.1 a.2.1)
def lu(a:aq)(b:Int):Y Bool:=uP (SizeOf.sizeOf a+SizeOf.sizeOf b+1) (a,b,())
noncomputable def EA:KS U prog:=⟨.fn 339 [t4,t0] q1 λa=>lu a.1 a.2.1,Cb (K:=K) (A_s:=[t4,t0]) (r:= .one y1) (B:=λrec a=>lH rec a.1 a.2.1) LU 43 [.tmp 4] [tf,uy] (fk f339 [] func339) (hF:=λa=>⟨_,rfl⟩)⟩
def sb(b:bs)(a:Int)(c:Int):Y Bool:=(fD c).bind λd=>(oO (!d) ((oN b).bind λe=>(mm e a).bind λf=>some (!f))).bind λg=>bif g then some false else(idx b.bq a).bind λh=>if a<0 then none else(lu (ao h.aa) (tH .i64 (cQ .i64 1023 c) (cj .i64 1 a))).bind λi=>some (!i)
def IN:=kf func337 [t13,t0,t0] q1 (u3 sb) [] .e [tf,AI,uy,EA]
def sX(d:bs)(e:Int):Y (Z Int):=(fD e).bind λg=>bif (!g)then some []else(oN d).bind λh=>aE (λ(b:Int×Bool×Z Int×Unit)=>bif b.2.1 then(tx b.1).bind λf=>aE (λ(a:Int×Bool×Int×Z Int×Unit)=>bif decide (a.2.2.1<(f.length:Int))then(idx f a.2.2.1).bind λc=>(idx d.bq c).bind λi=>(lu (ao i.aa) a.1).bind λj=>bif (!j)then if c<0 then none else bif bl 8 (a.2.2.2.1.length+List.length [c])then oR (some (inl ((cQ .i64 a.1 (cj .i64 1 c)),true,(a.2.2.2.1++[c]),())))else none else some (inl (a.1,a.2.1,(aC .i64 a.2.2.1 1),a.2.2.2.1,()))else oR (some (inl (a.1,a.2.1,a.2.2.2.1,())))) (b.1,false,0,b.2.2.1,())else oR (some b.2.2.1)) ((GH .i64 e h),true,[],())
def Lq:=kf func305 [t13,t0] (.one y14) (u2 sX) [] (p_ 7 47 (.ps (.own 6 3 1 y0) (.j ⟨[.val 5 y0,.val 7 y1,.own 6 12 1 3 1 y0],[2]⟩ (p_ 6 26 (.j ⟨[.val 5 y0,.val 7 y1,.val 21 y0,.own 6 12 1 3 1 y0],[2,19,20]⟩ .e))))) [tf,AI,K9,EA]
def km(c:bs)(b:Int):Y Int:=(fD b).bind λf=>bif (!f)then some 0 else(oN c).bind λg=>(sX c b).bind λd=>aE (λ(a:Int×Int×Unit)=>bif decide (a.2.1<(d.length:Int))then(idx d a.2.1).bind λe=>if e<0 then none else some (inl ((cQ .i64 a.1 (cj .i64 1 e)),(aC .i64 a.2.1 1),()))else oR (some a.1)) ((GH .i64 b g),0,())
def AH:=kf func266 [t13,t0] q0 (u2 km) [] (p_ 6 23 (.j ⟨[.val 5 y0,.val 19 y0],[17,18]⟩ .e)) [tf,AI,Lq]
def qj(b:bs)(c:Int)(d:Int)(a:Int):Y Bool:=(fD d).bind λe=>(oO (!e) ((fD a).bind λf=>some (!f))).bind λg=>bif g then some false else(sb b c a).bind λh=>(oO h ((km b (tH .i64 d a)).bind λi=>(mm i c).bind some)).bind some
def BZ:=kf func302 [t13,t0,t0,t0] q1 (u4 qj) [] .e [tf,IN,AH,uy]
def uJ(a:av)(c:C):Y Bool:=(mC (eT0 a) c).bind λd=>aX (λ(e:Bool×Unit)=>some e.1) λb=>(pk a.aG c).bind λf=>bif (!f)then bif decide ((a.aG.length:Int)<40)then(nN (eT0 a)).bind λg=>(qj g a.ak d.1 d.2.1).bind λh=>b (h,())else b (false,())else b (false,())
def aaL:=kf func260 [t8,t3] q1 (u2 uJ) [] (p_ 2 3 (.j ⟨[.val 4 y1],[]⟩ .e)) [K5,Dr,ME,BZ]
def iY(a:bs)(b:Int)(c:Int):Y Bool:=(km a c).bind λd=>(mm d b).bind some
def AG:=kf func263 [t13,t0,t0] q1 (u3 iY) [] .e [AH,uy]
noncomputable def gN(b:Z C)(c:Z C):Y Bool:=bif (!decide ((b.length:Int)=(c.length:Int)))then some false else aE (λ(a:Int×Unit)=>bif decide (a.1<(b.length:Int))then(idx b a.1).bind λd=>(idx c a.1).bind λe=>bif (!decide (d=e))then oR (some false)else some (inl ((aC .i64 a.1 1),()))else oR (some true)) (0,())
def Ge:=kf func98 [t11,t11] q1 (u2 gN) [] (p_ 5 11 (.j ⟨[.val 13 y0],[0,1,12]⟩ .e)) []
def gM(g:av)(h:av):Y av:=aX (λ(x:av×Unit)=>aE (λ(c:Bool×av×Unit)=>bif c.1 then(qI (eT0 c.2.1)).bind λu=>aE (λ(b:Bool×Int×av×Unit)=>bif decide (b.2.1<(u.length:Int))then(idx u b.2.1).bind λv=>(uJ (eT0 b.2.2.1) v).bind λy=>bif y then(pj b.2.2.1.aG v).bind λz=>oR (some (inl (true,{b.2.2.1 with aa:=(ao b.2.2.1.aa),aG:=z},())))else some (inl (b.1,(aC .i64 b.2.1 1),(eT0 b.2.2.1),()))else oR (some (inl (b.1,(eT0 b.2.2.1),())))) (false,0,(eT0 c.2.1),())else oR (aE (λ(a:Int×av×Unit)=>bif decide (a.1<(c.2.1.aG.length:Int))then aX (λ(i:av×Unit)=>some (inl ((aC .i64 a.1 1),(eT0 i.1),()))) λd=>(idx c.2.1.aG a.1).bind λe=>(mC (eT0 a.2.1) e).bind λj=>(nN (eT0 a.2.1)).bind λk=>(iY k a.2.1.ak j.2.1).bind λl=>bif l then(pj a.2.1.aU e).bind λm=>d ({a.2.1 with aa:=(ao a.2.1.aa),aU:=m},())else d ((eT0 a.2.1),())else oR (aX (λ(n:av×Unit)=>some (eT0 n.1)) λf=>(gN g.bj a.2.1.bj).bind λo=>(oO (!o) ((gN g.aG a.2.1.aG).bind λp=>some (!p))).bind λq=>(oO q ((gO (ao g.aa) (ao a.2.1.aa)).bind λr=>some (!r))).bind λs=>bif s then f ({a.2.1 with aI:=(aC .i64 g.aI 1),aa:=(ao a.2.1.aa)},())else f ((eT0 a.2.1),()))) (0,(eT0 c.2.1),()))) (true,(eT0 x.1),())) λw=>bif decide ((h.aU.length:Int)=0)then(rZ (eT0 h)).bind λt=>w ((eT0 t),())else w ((eT0 h),())
def xz:=kf func216 [t8,t8] (.one y8) (u2 gM) [] (.r (.j ⟨[.box 1 1 y8 []],[2,3,4]⟩ (.r (.b (p_ 2 1 (.j ⟨[.val 5 y1,.box 1 1 y8 []],[2,3,4]⟩ (p_ 6 26 (.j ⟨[.val 5 y1,.val 22 y0,.box 1 1 y8 []],[2,3,4,20,21]⟩ .e)))) (.b (p_ 2 1 (.j ⟨[.val 38 y0,.box 1 1 y8 []],[2,3,4,36,37]⟩ (p_ 3 6 (.j ⟨[.box 1 1 y8 []],[2,3,4,36,37,38]⟩ .e)))) (.j ⟨[.box 1 1 y8 []],[3,4]⟩ .e)))))) [U5,Xq,aaL,Pd,K5,ME,AG,Ge,ma]
def kN(a:Int)(b:Int)(c:aq)(d:C):Y (av×Int×Unit):=(oO (decide (a<0)) (some (decide (10<=a)))).bind λg=>bif g then some (zz2,5,())else(oO (decide (b<0)) (some (decide (1000000<b)))).bind λh=>bif h then some (zz2,1,())else(dh (ao c)).bind λe=>bif (!decide (e=0))then some (zz2,e,())else bif decide (200<(ByteArray.size d:Int))then some (zz2,3,())else(gM (av.mk a b 1 1 (ao c) d [] [] [] []) (av.mk a b 1 1 (ao c) d [] [] [] [])).bind λf=>some ({f with aI:=1,aa:=(ao f.aa)},0,())
def Xp:=kf func205 [t0,t0,t4,t3] (.many [y8,y0]) (u4 kN) [] .e [fY,xz]
noncomputable def nK(a:Int):Y Int:=bif decide (12<=a)then some 12 else some (bO (aC .i64 a 1) 1)
def Gc:=kf func146 [t0] q0 (u1 nK) [] .e []
def nX(c:Z C):Y (C×Bool×Unit):=aE (λ(a:C×Bool×Int×Unit)=>bif decide (a.2.2.1<(c.length:Int))then aX (λ(d:C×Bool×Unit)=>some (inl (d.1,d.2.1,(aC .i64 a.2.2.1 1),()))) λe=>(idx c a.2.2.1).bind λb=>(wT b).bind λf=>(aO f ((oO (!a.2.1) ((jM b a.1).bind λg=>some (decide (0<g)))).bind some)).bind λh=>bif h then e (b,true,())else e (a.1,a.2.1,())else oR (some (a.1,a.2.1,()))) (bE,false,0,())
def Oz:=kf func210 [t11] (.many [y3,y1]) (u1 nX) [] (p_ 5 11 (.j ⟨[.val 4 y3,.val 5 y1,.val 10 y0],[8,9]⟩ (p_ 3 6 (.j ⟨[.val 4 y3,.val 5 y1],[8,9,10]⟩ .e)))) [K3,xA]
def sN(b:Z ah):Y ah:=aE (λ(a:Int×ah×Unit)=>bif decide (a.1<(b.length:Int))then aX (λ(e:ah×Unit)=>some (inl ((aC .i64 a.1 1),e.1,()))) λc=>(idx b a.1).bind λd=>(oO (decide (a.1=0)) ((gg a.2.1 d).bind some)).bind λf=>bif f then c (d,())else c (a.2.1,())else oR (some a.2.1)) (0,zB,())
def Ri:=kf func250 [.ty y20] q2 (u1 sN) [] (p_ 5 11 (.j ⟨[.val 8 y0,.box 1 1 y2 []],[2,3,6,7]⟩ (p_ 3 6 (.j ⟨[.box 1 1 y2 []],[2,3,6,7,8]⟩ .e)))) [l9]
def qF(a:ae):Y C:=(bR a.aB).bind λd=>bif (!d)then some a.aB.Value else bif (!decide (a.aW=1))then some a.af.Value else bif (!decide (a.bm=bE))then some a.bm else aE (λ(b:Int×Z ah×Unit)=>bif decide (b.1<(a.au.length:Int))then(idx a.au b.1).bind λc=>bif bl 24 (b.2.1.length+List.length [c.af])then some (inl ((aC .i64 b.1 1),(b.2.1++[c.af]),()))else none else oR ((sN b.2.1).bind λe=>some e.Value)) (0,[],())
def Eo:=kf func208 [t5] (.one y3) (u1 qF) [] (p_ 8 95 (.ps (.own 3 36 2 y2) (.j ⟨[.val 27 y0,.own 3 17 1 36 2 y2],[25,26]⟩ .e))) [ec,Ri]
def nr(c:ae):Y (Z aj):=(bR c.af).bind λh=>bif h then some c.au else(iX (eT2 c)).bind λa=>aE (λ(b:Bool×Int×Z aj×Unit)=>bif decide (b.2.1<(c.au.length:Int))then(idx c.au b.2.1).bind λd=>aX (λ(e:Bool×Z aj×Unit)=>bif bl 176 (e.2.1.length+List.length [(eT1 d)])then some (inl (e.1,(aC .i64 b.2.1 1),(e.2.1++[(eT1 d)]),()))else none) λf=>(aO (!b.1) (some (decide (a.ak<d.ak)))).bind λi=>bif i then bif bl 176 (b.2.2.1.length+List.length [{a with aI:=(bO a.aI 1),aa:=(ao a.aa)}])then f (true,(b.2.2.1++[{a with aI:=(bO a.aI 1),aa:=(ao a.aa)}]),())else none else f (b.1,b.2.2.1,())else oR (aX (λ(j:(Z aj)×Unit)=>some j.1) λg=>bif (!b.1)then bif bl 176 (b.2.2.1.length+List.length [{a with aI:=(bO a.aI 1),aa:=(ao a.aa)}])then g ((b.2.2.1++[{a with aI:=(bO a.aI 1),aa:=(ao a.aa)}]),())else none else g (b.2.2.1,()))) (false,0,[],())
def Aa:=kf func326 [t5] (.one y10) (u1 nr) [] (p_ 6 63 (.b (p_ 2 1 (.ps (.own 4 38 15 y9) (.j ⟨[.val 5 y1,.val 22 y0,.own 4 20 1 38 15 y9],[3,20,21]⟩ (p_ 6 38 (.j ⟨[.val 5 y1,.own 4 20 1 38 15 y9],[3,7,20,21,22]⟩ .e))))) (.j ⟨[.own 4 20 1 38 15 y9],[]⟩ .e))) [ec,sB]
def yG(a:Z ah)(c:ah):Y (Z ah):=(bR c).bind λg=>bif g then some a else aE (λ(b:Int×Unit)=>aX (λ(h:Bool×Unit)=>bif h.1 then some (inl ((aC .i64 b.1 1),()))else oR (aX (λ(i:Bool×Unit)=>bif i.1 then some a else bif c9 0 b.1 (a.length)then bif bl 24 (List.length ((a.take (toNat b.1)).drop (toNat 0)))then bif bl 24 (List.length ((a.take (toNat b.1)).drop (toNat 0))+List.length [c])then bif c9 b.1 (a.length:Int) (a.length)then bif bl 24 (List.length (((a.take (toNat b.1)).drop (toNat 0))++[c])+List.length ((a.take (toNat (a.length:Int))).drop (toNat b.1)))then some ((((a.take (toNat b.1)).drop (toNat 0))++[c])++((a.take (toNat (a.length:Int))).drop (toNat b.1)))else none else none else none else none else none) λd=>bif decide (b.1<(a.length:Int))then(idx a b.1).bind λe=>d ((nF false e.ai c.ai e.Value c.Value),())else d (false,()))) λf=>bif decide (b.1<(a.length:Int))then(idx a b.1).bind λj=>(gg c j).bind λk=>f (k,())else f (false,())) (0,())
def Y3:=kf func402 [.ty y20,t2] (.one y20) (u2 yG) [] (p_ 3 7 (.b (.l (.j ⟨[.val 5 y0],[0,3]⟩ (p_ 2 0 (.j ⟨[.val 20 y1],[0,3,5]⟩ .e)))) (.l (.j ⟨[.val 34 y1],[0,3,5]⟩ .e)))) [ec,l9]
def qc(e:Z aj):Y (Z ah):=aE (λ(b:(Z ah)×Int×Unit)=>bif decide (b.2.1<(e.length:Int))then aX (λ(i:(Z ah)×Unit)=>some (inl (i.1,(aC .i64 b.2.1 1),()))) λf=>(idx e b.2.1).bind λa=>(dE (eT1 a)).bind λj=>bif (!j)then f (b.1,())else aX (λ(g:(Z ah)×Unit)=>aE (λ(c:(Z ah)×Int×Unit)=>bif decide (c.2.1<(g.1.length:Int))then(idx g.1 c.2.1).bind λk=>(yG c.1 k).bind λd=>some (inl (d,(aC .i64 c.2.1 1),()))else oR (f (c.1,()))) (b.1,0,())) λh=>bif (!decide (a.bF=1))then h ([a.ar,(ah.mk 1000000 a.af.Value)],())else h ([a.af,a.ar,a.aH],())else oR (some b.1)) ([],0,())
def Ho:=kf func363 [t10] (.one y20) (u1 qc) [] (p_ 5 11 (.j ⟨[.val 3 y20,.val 11 y0],[9,10]⟩ (p_ 3 6 (.j ⟨[.val 3 y20],[9,10,11]⟩ (p_ 5 28 (.j ⟨[.val 6 y20],[3,9,10,11]⟩ (p_ 3 3 (.j ⟨[.val 3 y20,.val 37 y0],[9,10,11,35,36]⟩ .e)))))))) [gF,Y3]
noncomputable def oL(a:ah):Y ah:=aX (λ(c:ah×Unit)=>some c.1) λb=>bif decide (1000<=a.ai)then b ((ah.mk 1000000 a.Value),())else b (a,())
def U3:=kf func364 [t2] q2 (u1 oL) [] (.r (.j ⟨[.box 0 1 y2 []],[1,2]⟩ .e)) []
def ph(a:aj)(b:ah):Y Bool:=(dE (eT1 a)).bind λc=>(oO (!c) ((bR b).bind some)).bind λd=>bif d then some false else bif decide (a.bF=3)then(c7 a.af b).bind some else(kl a.ar a.aH b).bind some
def HV:=kf func436 [t9,t2] q1 (u2 ph) [] .e [gF,ec,fS,wi]
def rG(a:aj)(b:ah):Y Bool:=(dE (eT1 a)).bind λc=>(oO (!c) ((bR b).bind some)).bind λd=>bif d then some false else bif decide (a.bF=1)then(oM a.af b).bind some else(c7 a.af b).bind some
def J7:=kf func437 [t9,t2] q1 (u2 rG) [] .e [gF,ec,C2,fS]
noncomputable def gz(c:Z aj)(d:Z Bool):Y Int:=aE (λ(a:Int×Int×Unit)=>bif decide (a.2.1<(c.length:Int))then aX (λ(f:Int×Unit)=>some (inl (f.1,(aC .i64 a.2.1 1),()))) λe=>(idx c a.2.1).bind λb=>(aO (decide (a.2.1<(d.length:Int))) ((idx d a.2.1).bind some)).bind λg=>(aO g (some (decide (0<=b.ak)))).bind λh=>(aO h (some (decide (b.ak<=9)))).bind λi=>bif i then if(bu .u64 b.ak)<0 then none else e ((tH .i64 a.1 (cj .i64 1 (bu .u64 b.ak))),())else e (a.1,())else oR (some a.1)) (0,0,())
def Dq:=kf func268 [t10,.ty (Ty.sl Ty.bool)] q0 (u2 gz) [] (p_ 5 11 (.j ⟨[.val 5 y0,.val 10 y0],[1,8,9]⟩ (p_ 3 6 (.j ⟨[.val 5 y0],[1,8,9,10]⟩ .e)))) []
def yF(b:Z aj)(d:ah):Y (Int×Int×Unit):=aE (λ(a:Int×Z Bool×Z Bool×Unit)=>bif decide (a.1<(b.length:Int))then(idx b a.1).bind λe=>(ph (eT1 e) d).bind λc=>(oO c ((rG (eT1 e) d).bind some)).bind λf=>bif bl 1 (a.2.1.length+List.length [f])then bif bl 1 (a.2.2.1.length+List.length [c])then some (inl ((aC .i64 a.1 1),(a.2.1++[f]),(a.2.2.1++[c]),()))else none else none else oR ((gz b a.2.1).bind λg=>(gz b a.2.2.1).bind λh=>some (g,h,()))) (0,[],[],())
def MD:=kf func403 [t10,t2] (.many [y0,y0]) (u2 yF) [] (p_ 5 11 (.ps (.own 6 4 1 y1) (.ps (.own 7 4 1 y1) (.j ⟨[.val 13 y0,.own 6 8 1 4 1 y1,.own 7 9 1 4 1 y1],[0,3,11,12]⟩ .e)))) [HV,J7,Dq]
def jj(c:Int)(h:aq)(f:Z aj):Y bs:=bif decide ((10:Int)<=10)&&decide ((0:Int)<=10)&&bl 64 (toNat 10)then(oO (decide (c<0)) (some (decide (9<c)))).bind λi=>bif i then some (bs.mk (replicate (toNat 10) zz7))else(idx (replicate (toNat 10) zz7) c).bind λo=>((replicate (toNat 10) zz7)[(toNat c)]?).bind λp=>aE (λ(a:Int×bs×Z bw×Unit)=>bif decide (a.1<(f.length:Int))then aX (λ(j:bs×Z bw×Unit)=>some (inl ((aC .i64 a.1 1),zz8,j.2.1,()))) λg=>(idx f a.1).bind λb=>(dE (eT1 b)).bind λk=>(aO k ((idx a.2.2.1 b.ak).bind λq=>(a.2.2.1[(toNat b.ak)]?).bind λl=>(a.2.2.1[(toNat b.ak)]?).bind λd=>some (!d.fQ))).bind λe=>bif e then(idx a.2.2.1 b.ak).bind λm=>(a.2.2.1[(toNat b.ak)]?).bind λn=>g (zz8,(a.2.2.1.set (toNat b.ak) (bw.mk true (ao b.aa))),())else g (zz8,a.2.2.1,())else oR (some (bs.mk a.2.2.1))) (0,zz8,((replicate (toNat 10) zz7).set (toNat c) (bw.mk true (ao h))),())else none
def vj:=kf func267 [t0,t4,t10] (.one y13) (u3 jj) [] (p_ 7 47 (.j ⟨[.val 27 y0,.box 4 1 y13 [(0,2,1)],.eK 2 1 255 4 y21],[6,7,25,26]⟩ (p_ 3 6 (.j ⟨[.box 4 1 y13 [(0,2,1)],.eK 2 1 255 4 y21],[6,7,25,26,27]⟩ .e)))) [gF]
def ug(a:Int)(d:aq)(b:Z aj)(e:ah):Y Bool:=(yF b e).bind λc=>(jj a (ao d) b).bind λf=>(qj f a c.1 c.2.1).bind some
def Tk:=kf func365 [t0,t4,t10,t2] q1 (u4 ug) [] .e [MD,vj,BZ]
def vD(o:Int)(p:aq)(i:Z aj)(j:ah)(k:ah)(l:C):Y ah:=(qc i).bind λm=>aE (λ(a:Int×ah×Unit)=>bif decide (a.1<(m.length:Int))then aX (λ(q:ah×Unit)=>some (inl ((aC .i64 a.1 1),q.1,()))) λn=>(idx m a.1).bind λb=>aX (λ(r:Bool×Unit)=>bif r.1 then n (a.2.1,())else(ug o (ao p) i b).bind λs=>bif s then oR (some b)else n (a.2.1,())) λc=>bif (!decide (l=bE))then bif (!decide (b.Value=l))then c (true,())else(oL j).bind λt=>(oL k).bind λd=>(kl t d b).bind λe=>c (e,())else(oL j).bind λf=>(oL k).bind λg=>(kl f g b).bind λh=>c (h,())else oR (some zB)) (0,zB,())
def Y1:=kf func325 [t0,t4,t10,t2,t2,t3] q2 (u6 vD) [] (p_ 4 5 (.j ⟨[.val 18 y0,.box 3 1 y2 []],[0,2,5,7,9,10,12,16,17]⟩ (p_ 3 6 (.j ⟨[.box 3 1 y2 []],[0,2,5,7,9,10,12,16,17,18]⟩ (p_ 4 4 (.j ⟨[.val 37 y1],[0,2,5,7,9,10,12,14,16,17,18]⟩ .e)))))) [Ho,U3,wi,Tk]
noncomputable def vC(a:ah):Y ah:=aX (λ(c:ah×Unit)=>some c.1) λb=>bif decide (1000<a.ai)then b ((ah.mk 1000 a.Value),())else b (a,())
def U0:=kf func324 [t2] q2 (u1 vC) [] (.r (.j ⟨[.box 0 1 y2 []],[1,2]⟩ .e)) []
def Cl(b:ah)(c:ah)(a:ah):Y (ah×ah×Unit):=(bR a).bind λh=>bif h then some (b,c,())else(bR b).bind λi=>bif i then some (a,c,())else(gg b a).bind λj=>bif j then(c7 b a).bind λk=>bif (!k)then some (a,b,())else aX (λ(l:ah×Unit)=>some (a,l.1,())) λg=>(c7 c a).bind λm=>bif m then g (zB,())else g (c,())else(gg a b).bind λn=>(aO n ((c7 a b).bind λo=>some (!o))).bind λd=>(aO d ((bR c).bind λe=>(oO e ((gg c a).bind some)).bind some)).bind λf=>bif f then some (b,a,())else some (b,c,())
def Y2:=kf func327 [t2,t2,t2] (.many [y2,y2]) (u3 Cl) [] (p_ 10 761 (.j ⟨[.box 1 1 y2 []],[4,5,6,7]⟩ .e)) [ec,l9,fS]
def vG(d:C)(e:Int)(f:ah)(g:ah):Y Int:=aE (λ(a:Int×Int×Unit)=>bif decide (a.2.1<2)then aX (λ(h:Int×Unit)=>some (inl (h.1,(aC .i64 a.2.1 1),()))) λc=>(idx [f,g] a.2.1).bind λb=>(kL b).bind λi=>(aO i ((iz b (ah.mk a.1 d)).bind some)).bind λj=>bif j then(iz b (ah.mk b.ai d)).bind λk=>bif k then c ((aC .i64 b.ai 1),())else c (b.ai,())else c (a.1,())else oR (some a.1)) ((bO e 1),0,())
def IM:=kf func328 [t3,t0,t2,t2] q0 (u4 vG) [] (p_ 5 11 (.j ⟨[.val 9 y0,.val 17 y0],[0,16]⟩ (p_ 3 6 (.j ⟨[.val 9 y0],[0,16,17]⟩ .e)))) [Ep,C3]
def wG(a:ae):Y ae:=(oO (decide (a.aW=3)) ((bR a.af).bind some)).bind λh=>bif h then some (eT2 a)else aX (λ(i:C×Unit)=>(nr (eT2 a)).bind λj=>(vD a.ak (ao a.aa) j a.ar a.aH i.1).bind λk=>(vC k).bind λl=>(Cl a.ar a.aH l).bind λb=>aX (λ(m:ae×Unit)=>some (eT2 m.1)) λc=>(aO (decide (a.aW=1)) (some (!decide (a.bg=0)))).bind λe=>bif e then(iX {a with aa:=(ao a.aa),ar:=b.1,aH:=b.2.1}).bind λf=>(vG a.af.Value a.bg b.1 b.2.1).bind λd=>bif decide (f.bx<d)then c ({a with aa:=(ao a.aa),ar:=b.1,aH:=b.2.1,bg:=0},())else c ({a with aa:=(ao a.aa),ar:=b.1,aH:=b.2.1,bg:=d},())else c ({a with aa:=(ao a.aa),ar:=b.1,aH:=b.2.1},())) λg=>bif decide (a.aW=2)then g (a.af.Value,())else g (bE,())
def Rf:=kf func291 [t5] (.one y5) (u1 wG) [] (p_ 3 7 (.j ⟨[.val 3 y3],[1,2]⟩ (p_ 3 7 (.j ⟨[.box 0 1 y5 []],[1,2]⟩ .e)))) [ec,Aa,Y1,U0,Y2,sB,IM]
noncomputable def mj(a:ae)(b:ae):Y Bool:=(aO (decide (a.aW=b.aW)) (some (nF false a.af.ai b.af.ai a.af.Value b.af.Value))).bind λc=>(aO c (some (nF false a.ar.ai b.ar.ai a.ar.Value b.ar.Value))).bind λd=>(aO d (some (nF false a.aH.ai b.aH.ai a.aH.Value b.aH.Value))).bind λe=>(aO e (some (nF false a.aB.ai b.aB.ai a.aB.Value b.aB.Value))).bind λf=>(aO f (some (decide (a.bg=b.bg)))).bind λg=>(aO g (some (decide (a.bx=b.bx)))).bind some
def MB:=kf func100 [t5,t5] q1 (u2 mj) [] .e []
def sM(a:Int)(c:aq)(b:Z aj)(d:ah):Y Bool:=(yF b d).bind λe=>(jj a (ao c) b).bind λf=>(iY f a e.2.1).bind some
def Rh:=kf func366 [t0,t4,t10,t2] q1 (u4 sM) [] .e [MD,vj,AG]
def qa(e:Int)(f:aq)(c:Z aj)(g:ah):Y ah:=(qc c).bind λd=>aE (λ(a:Int×ah×Unit)=>bif decide (a.1<(d.length:Int))then(idx d a.1).bind λb=>(aO (decide (b.ai<=1000)) ((gg g b).bind some)).bind λh=>(aO h ((sM e (ao f) c b).bind some)).bind λi=>bif i then oR (some b)else some (inl ((aC .i64 a.1 1),a.2.1,()))else oR (some zB)) (0,zB,())
def Tj:=kf func329 [t0,t4,t10,t2] q2 (u4 qa) [] (p_ 4 5 (.j ⟨[.val 14 y0,.box 2 1 y2 []],[0,2,5,7,8,12,13]⟩ .e)) [Ho,l9,Rh]
def uT(a:ae):Y ae:=(oO (!decide (a.aW=1)) ((bR a.af).bind some)).bind λl=>bif l then some (eT2 a)else(nr (eT2 a)).bind λm=>(qa a.ak (ao a.aa) m a.aB).bind λb=>(bR b).bind λn=>bif n then some (eT2 a)else aX (λ(c:ae×Unit)=>aX (λ(o:ae×Unit)=>some (eT2 o.1)) λg=>(aO (decide (c.1.bg=0)) ((c7 c.1.af b).bind some)).bind λh=>bif h then(vG b.Value c.1.af.ai c.1.ar c.1.aH).bind λd=>bif decide (d<=b.ai)then g ({c.1 with aa:=(ao c.1.aa),bg:=d},())else g ((eT2 c.1),())else g ((eT2 c.1),())) λk=>(gg a.af b).bind λi=>bif i then aX (λ(e:ae×Unit)=>k ({e.1 with aa:=(ao e.1.aa),af:=b},())) λf=>(c7 a.af b).bind λj=>bif (!j)then f ({a with aa:=(ao a.aa),aB:=b,bg:=0},())else f ({a with aa:=(ao a.aa),aB:=b},())else k ({a with aa:=(ao a.aa),aB:=b},())
def Ow:=kf func292 [t5] (.one y5) (u1 uT) [] (p_ 5 31 (.j ⟨[.box 0 1 y5 []],[1,2,3]⟩ (.b (p_ 2 1 (.j ⟨[.box 0 1 y5 []],[1,2,3]⟩ .e)) (.j ⟨[.box 0 1 y5 []],[1,2]⟩ .e)))) [ec,Aa,Tj,l9,fS,IM]
def vF(i:Z aj):Y (Z C):=aE (λ(a:(Z C)×Int×Unit)=>bif decide (a.2.1<(i.length:Int))then aX (λ(k:(Z C)×Unit)=>some (inl (k.1,(aC .i64 a.2.1 1),()))) λe=>(idx i a.2.1).bind λc=>(dE (eT1 c)).bind λl=>bif (!l)then e (a.1,())else aE (λ(b:Int×Unit)=>aX (λ(m:Bool×Unit)=>bif m.1 then some (inl ((aC .i64 b.1 1),()))else oR (aX (λ(n:Bool×Unit)=>bif n.1 then bif c9 0 b.1 (a.1.length)then bif bl 16 (List.length ((a.1.take (toNat b.1)).drop (toNat 0)))then bif bl 16 (List.length ((a.1.take (toNat b.1)).drop (toNat 0))+List.length [c.af.Value])then bif c9 b.1 (a.1.length:Int) (a.1.length)then bif bl 16 (List.length (((a.1.take (toNat b.1)).drop (toNat 0))++[c.af.Value])+List.length ((a.1.take (toNat (a.1.length:Int))).drop (toNat b.1)))then e (((((a.1.take (toNat b.1)).drop (toNat 0))++[c.af.Value])++((a.1.take (toNat (a.1.length:Int))).drop (toNat b.1))),())else none else none else none else none else none else e (a.1,())) λd=>bif decide (b.1=(a.1.length:Int))then d (true,())else(idx a.1 b.1).bind λf=>d ((!decide (f=c.af.Value)),()))) λj=>bif decide (b.1<(a.1.length:Int))then(idx a.1 b.1).bind λg=>(qW g c.af.Value).bind λh=>j (h,())else j (false,())) (0,())else oR (some a.1)) ([],0,())
def U4:=kf func367 [t10] (.one y11) (u1 vF) [] (p_ 5 11 (.j ⟨[.val 3 y11,.val 9 y0],[7,8]⟩ (p_ 3 6 (.j ⟨[.val 3 y11],[7,8,9]⟩ (p_ 5 28 (.b (.l (.j ⟨[.val 6 y0],[3,5,7,8,9]⟩ (p_ 2 0 (.j ⟨[.val 29 y1],[3,5,6,7,8,9]⟩ .e)))) (.j ⟨[.val 45 y1],[3,5,6,7,8,9]⟩ (p_ 2 1 (.DJ (.EN 3) .e))))))))) [gF,Ez]
def k7(k:Z aj)(m:C):Y (Z Int):=aE (λ(d:(Z Int)×Int×Unit)=>bif decide (d.2.1<(k.length:Int))then aX (λ(n:(Z Int)×Unit)=>some (inl (n.1,(aC .i64 d.2.1 1),()))) λl=>(idx k d.2.1).bind λe=>(dE (eT1 e)).bind λo=>(oO (!o) (some (!decide (e.af.Value=m)))).bind λp=>(oO p (some (decide (e.bg=0)))).bind λq=>bif q then l (d.1,())else aE (λ(b:(Z Int)×Int×Unit)=>bif decide (b.2.1<2)then aX (λ(r:(Z Int)×Unit)=>some (inl (r.1,(aC .i64 b.2.1 1),()))) λf=>(idx [e.bg,e.bx] b.2.1).bind λc=>aE (λ(a:Int×Unit)=>(aO (decide (a.1<(b.1.length:Int))) ((idx b.1 a.1).bind λg=>some (decide (g<c)))).bind λh=>bif h then some (inl ((aC .i64 a.1 1),()))else oR ((oO (decide (a.1=(b.1.length:Int))) ((idx b.1 a.1).bind λi=>some (!decide (i=c)))).bind λj=>bif j then bif c9 0 a.1 (b.1.length)then bif bl 8 (List.length ((b.1.take (toNat a.1)).drop (toNat 0)))then bif bl 8 (List.length ((b.1.take (toNat a.1)).drop (toNat 0))+List.length [c])then bif c9 a.1 (b.1.length:Int) (b.1.length)then bif bl 8 (List.length (((b.1.take (toNat a.1)).drop (toNat 0))++[c])+List.length ((b.1.take (toNat (b.1.length:Int))).drop (toNat a.1)))then f (((((b.1.take (toNat a.1)).drop (toNat 0))++[c])++((b.1.take (toNat (b.1.length:Int))).drop (toNat a.1))),())else none else none else none else none else none else f (b.1,()))) (0,())else oR (l (b.1,()))) (d.1,0,())else oR (some d.1)) ([],0,())
def yV:=kf func368 [t10,t3] (.one y14) (u2 k7) [] (p_ 5 11 (.j ⟨[.val 5 y14,.val 13 y0],[1,11,12]⟩ (p_ 3 6 (.j ⟨[.val 5 y14],[1,11,12,13]⟩ (p_ 6 28 (.j ⟨[.val 5 y14,.val 37 y0],[1,11,12,13,36]⟩ (p_ 3 6 (.j ⟨[.val 5 y14],[1,11,12,13,36,37]⟩ (p_ 4 12 (.b (.l (.j ⟨[.val 10 y0],[1,5,9,11,12,13,36,37]⟩ .e)) (p_ 2 1 (.DJ (.EN 5) .e)))))))))))) [gF]
def yD(c:ah)(d:ah)(a:Int)(b:C):Y Bool:=(iz c (ah.mk a b)).bind λe=>(aO (!e) ((iz d (ah.mk a b)).bind λf=>some (!f))).bind some
def YZ:=kf func369 [t2,t2,t0,t3] q1 (u4 yD) [] .e [C3]
def qf(a:aj)(d:C)(b:Int)(c:Int):Y Bool:=(dE (eT1 a)).bind λe=>(oO (!e) (some (decide (b<1)))).bind λf=>(oO f (some (decide (c<b)))).bind λg=>(oO g (some (decide (a.bF=1)))).bind λh=>(oO h (some (!decide (a.af.Value=d)))).bind λi=>(oO i (some (decide (b<a.bg)))).bind λj=>bif j then some false else(oO (decide (a.bF=3)) (some (decide (c<=a.bx)))).bind some
def IL:=kf func438 [t9,t3,t0,t0] q1 (u4 qf) [] .e [gF]
def sW(a:aj)(d:C)(b:Int)(c:Int):Y Bool:=(dE (eT1 a)).bind λe=>(oO (!e) (some (decide (b<1)))).bind λf=>(oO f (some (decide (c<b)))).bind λg=>(oO g (some (!decide (a.af.Value=d)))).bind λh=>(oO h (some (decide (a.bg=0)))).bind λi=>(oO i (some (decide (b<a.bg)))).bind λj=>bif j then some false else(oO (!decide (a.bF=1)) (some (decide (c<=a.bx)))).bind some
def Lo:=kf func439 [t9,t3,t0,t0] q1 (u4 sW) [] .e [gF]
def yC(b:Z aj)(d:C)(e:Int)(f:Int):Y (Int×Int×Unit):=aE (λ(a:Int×Z Bool×Z Bool×Unit)=>bif decide (a.1<(b.length:Int))then(idx b a.1).bind λg=>(qf (eT1 g) d e f).bind λc=>(oO c ((sW (eT1 g) d e f).bind some)).bind λh=>bif bl 1 (a.2.1.length+List.length [h])then bif bl 1 (a.2.2.1.length+List.length [c])then some (inl ((aC .i64 a.1 1),(a.2.1++[h]),(a.2.2.1++[c]),()))else none else none else oR ((gz b a.2.1).bind λi=>(gz b a.2.2.1).bind λj=>some (i,j,()))) (0,[],[],())
def MC:=kf func404 [t10,t3,t0,t0] (.many [y0,y0]) (u4 yC) [] (p_ 5 11 (.ps (.own 10 4 1 y1) (.ps (.own 11 4 1 y1) (.j ⟨[.val 17 y0,.own 10 7 1 4 1 y1,.own 11 8 1 4 1 y1],[0,1,2,3,15,16]⟩ .e)))) [IL,Lo,Dq]
def lS(a:Int)(d:aq)(b:Z aj)(e:C)(f:Int)(g:Int):Y Bool:=(yC b e f g).bind λc=>(jj a (ao d) b).bind λh=>(qj h a c.1 c.2.1).bind some
def BX:=kf func370 [t0,t4,t10,t3,t0,t0] q1 (u6 lS) [] .e [MC,vj,BZ]
def tt(s:Int)(t:aq)(e:Z aj)(u:ah)(v:ah):Y (C×Int×Int×Bool×Unit):=(vF e).bind λw=>aE (λ(b:Int×ah×Unit)=>bif decide (b.1<(w.length:Int))then(idx w b.1).bind λf=>(k7 e f).bind λx=>aE (λ(d:Int×ah×Unit)=>bif decide (d.1<(x.length:Int))then aX (λ(z:ah×Unit)=>some (inl ((aC .i64 d.1 1),z.1,()))) λy=>(idx x d.1).bind λg=>(gg d.2.1 (ah.mk g f)).bind λA=>(aO A ((yD u v g f).bind some)).bind λk=>(aO k ((lS s (ao t) e f g g).bind some)).bind λl=>bif l then y ((ah.mk g f),())else y (d.2.1,())else oR (some (inl ((aC .i64 b.1 1),d.2.1,())))) (0,b.2.1,())else oR ((bR b.2.1).bind λm=>bif m then some (bE,0,0,false,())else(k7 e b.2.1.Value).bind λh=>aX (λ(n:Int×Unit)=>some (b.2.1.Value,n.1,b.2.1.ai,true,())) λi=>aE (λ(a:Int×Int×Unit)=>bif decide (0<=a.2.1)then aX (λ(o:Int×Unit)=>some (inl (o.1,(cQ .i64 a.2.1 1),()))) λj=>(idx h a.2.1).bind λc=>bif decide (a.1<=c)then j (a.1,())else(yD u v c b.2.1.Value).bind λp=>(oO (!p) ((lS s (ao t) e b.2.1.Value c b.2.1.ai).bind λq=>some (!q))).bind λr=>bif r then oR (i (a.1,()))else j (c,())else oR (i (a.1,()))) (b.2.1.ai,(cQ .i64 (h.length:Int) 1),()))) (0,zB,())
def Xn:=kf func330 [t0,t4,t10,t2,t2] (.many [y3,y0,y0,y1]) (u5 tt) [] (p_ 2 3 (.b (p_ 2 1 (.j ⟨[.val 27 y0,.box 7 1 y2 []],[0,2,6,8,9,14,25,26]⟩ (p_ 8 102 (.j ⟨[.val 35 y0,.box 7 1 y2 []],[0,2,6,8,9,14,16,25,26,27,33,34]⟩ (p_ 3 6 (.j ⟨[.box 7 1 y2 []],[0,2,6,8,9,14,16,25,26,27,33,34,35]⟩ .e)))))) (p_ 3 7 (.j ⟨[.val 20 y0],[14]⟩ (p_ 3 2 (.j ⟨[.val 20 y0,.val 22 y0],[0,2,6,8,9,14,21]⟩ (p_ 2 2 (.j ⟨[.val 20 y0],[0,2,6,8,9,14,21,22]⟩ .e)))))))) [U4,yV,l9,YZ,BX,ec]
def yE(h:Int)(i:aq)(d:Z aj)(e:C)(j:Int)(k:Int):Y Int:=(k7 d e).bind λb=>aX (λ(l:Int×Unit)=>some l.1) λf=>aE (λ(a:Int×Int×Unit)=>bif decide (0<=a.2.1)then aX (λ(m:Int×Unit)=>some (inl (m.1,(cQ .i64 a.2.1 1),()))) λg=>(idx b a.2.1).bind λn=>bif decide (a.1<=n)then g (a.1,())else(idx b a.2.1).bind λo=>(lS h (ao i) d e o k).bind λp=>bif (!p)then oR (f (a.1,()))else(idx b a.2.1).bind λc=>g (c,())else oR (f (a.1,()))) (j,(cQ .i64 (b.length:Int) 1),())
def Y0:=kf func371 [t0,t4,t10,t3,t0,t0] q0 (u6 yE) [] (p_ 2 3 (.j ⟨[.val 4 y0],[]⟩ (p_ 3 2 (.j ⟨[.val 4 y0,.val 14 y0],[0,2,3,5,7,13]⟩ (p_ 2 2 (.j ⟨[.val 4 y0],[0,2,3,5,7,13,14]⟩ .e)))))) [yV,BX]
def rY(g:Int)(h:aq)(e:Z aj)(f:C)(m:Int)(n:Int):Y (Int×Int×Unit):=(k7 e f).bind λi=>aX (λ(j:Int×Int×Unit)=>(yE g (ao h) e f j.1 j.2.1).bind λo=>some (o,j.2.1,())) λl=>aE (λ(a:Int×Int×Int×Unit)=>(aO (decide (0<=a.2.2.1)) ((idx i a.2.2.1).bind λp=>some (decide (a.2.1<p)))).bind λq=>bif q then(idx i a.2.2.1).bind λc=>(lS g (ao h) e f c c).bind λr=>bif (!r)then some (inl (a.1,a.2.1,(cQ .i64 a.2.2.1 1),()))else(yE g (ao h) e f c c).bind λb=>aX (λ(k:Int×Unit)=>oR (l (k.1,c,()))) λd=>bif decide (a.2.1<(cQ .i64 b 1))then d (b,())else d ((dy a.1 b),())else oR (l (a.1,a.2.1,()))) (m,n,(cQ .i64 (i.length:Int) 1),())
def U2:=kf func331 [t0,t4,t10,t3,t0,t0] (.many [y0,y0]) (u6 rY) [] (p_ 2 3 (.j ⟨[.val 4 y0,.val 5 y0],[0,2,3,7]⟩ (p_ 3 2 (.j ⟨[.val 4 y0,.val 5 y0,.val 15 y0],[0,2,3,7,14]⟩ (p_ 7 114 (.j ⟨[.val 4 y0],[0,2,3,7,14,16]⟩ .e)))))) [yV,BX,Y0]
def uU(a:ae):Y ae:=aX (λ(l:ae×ae×Unit)=>some (eT2 l.1)) λe=>bif decide (a.aW=1)then(nr (eT2 a)).bind λm=>(tt a.ak (ao a.aa) m a.ar a.aH).bind λb=>bif (!b.2.2.2.1)then some (eT2 a)else aX (λ(d:ae×Unit)=>aX (λ(i:ae×Unit)=>e ({i.1 with aa:=(ao i.1.aa),aW:=2,aH:=zB,aB:=(ah.mk b.2.2.1 b.1),bg:=b.2.1,bx:=b.2.2.1},zz1,())) λj=>(oM d.1.ar (ah.mk b.2.2.1 b.1)).bind λn=>bif (!n)then j ({d.1 with aa:=(ao d.1.aa),ar:=(ah.mk b.2.2.1 b.1)},())else j ((eT2 d.1),())) λk=>(c7 a.af (ah.mk b.2.2.1 b.1)).bind λf=>(oO (!f) ((gg a.af (ah.mk b.2.2.1 b.1)).bind some)).bind λg=>bif g then k ({a with aa:=(ao a.aa),af:=(ah.mk (bO a.af.ai b.2.2.1) b.1)},())else k ((eT2 a),())else bif decide (a.aW=2)then(nr (eT2 a)).bind λh=>(rY a.ak (ao a.aa) h a.af.Value a.bg a.bx).bind λc=>e ({a with aa:=(ao a.aa),af:=(ah.mk (bO a.af.ai c.2.1) a.af.Value),ar:=(ah.mk (bO a.ar.ai c.2.1) a.ar.Value),aB:=(ah.mk (bO a.aB.ai c.2.1) a.af.Value),bg:=c.1,bx:=c.2.1},zz1,())else e ((eT2 a),zz1,())
def Ox:=kf func293 [t5] (.one y5) (u1 uU) [] (.r (.j ⟨[.box 0 1 y5 [],.box 1 1 y5 []],[1,2]⟩ (p_ 8 234 (.j ⟨[.box 0 1 y5 []],[1,2,4,5,7]⟩ (.r (.j ⟨[.box 0 1 y5 []],[1,2,4,5,7]⟩ .e)))))) [Aa,Xn,fS,l9,C2,U2]
def oK(a:Int)(c:aq)(b:Z aj)(d:C)(e:Int)(f:Int):Y Bool:=(yC b d e f).bind λg=>(jj a (ao c) b).bind λh=>(iY h a g.2.1).bind some
def Rg:=kf func372 [t0,t4,t10,t3,t0,t0] q1 (u6 oK) [] .e [MC,vj,AG]
def tu(h:Int)(i:aq)(e:Z aj)(f:C):Y (Int×Int×Bool×Unit):=(k7 e f).bind λc=>aE (λ(d:Int×Unit)=>bif decide (0<=d.1)then(idx c d.1).bind λa=>(oK h (ao i) e f a a).bind λk=>bif (!k)then some (inl ((cQ .i64 d.1 1),()))else aE (λ(b:Int×Int×Unit)=>aX (λ(l:Bool×Unit)=>bif l.1 then(idx c b.2.1).bind λm=>some (inl (m,(cQ .i64 b.2.1 1),()))else oR (oR (some (b.1,a,true,())))) λj=>bif decide (0<=b.2.1)then(idx c b.2.1).bind λn=>(oK h (ao i) e f n a).bind λg=>j (g,())else j (false,())) (a,(cQ .i64 d.1 1),())else oR (some (0,0,false,()))) ((cQ .i64 (c.length:Int) 1),())
def Xo:=kf func332 [t0,t4,t10,t3] (.many [y0,y0,y1]) (u4 tu) [] (p_ 5 11 (.j ⟨[.val 12 y0],[0,2,3,5,11]⟩ (p_ 10 370 (.j ⟨[.val 14 y0,.val 15 y0],[0,2,3,5,11,13]⟩ (p_ 2 0 (.j ⟨[.val 54 y1],[0,2,3,5,11,13,14,15]⟩ .e)))))) [yV,Rg]
def Az(a:ae):Y ae:=bif (!decide (a.aW=2))then some (eT2 a)else(nr (eT2 a)).bind λc=>(tu a.ak (ao a.aa) c a.af.Value).bind λb=>bif (!b.2.2.1)then some (eT2 a)else some (ae.mk a.ak a.aJ a.aI (ao a.aa) 3 (ah.mk b.2.1 a.af.Value) zB zB zB b.1 b.2.1 a.bm a.au)
def Xl:=kf func294 [t5] (.one y5) (u1 Az) [] .e [Aa,Xo]
def nM(a:aj):Y Int:=(dE (eT1 a)).bind λb=>bif (!b)then some 0 else bif decide (a.bF=3)then some 1000000 else some a.af.ai
def BY:=kf func265 [t9] q0 (u1 nM) [] .e [gF]
def wS(a:ae)(c:Int):Y Bool:=aE (λ(b:Int×Z Bool×Unit)=>bif decide (b.1<(a.au.length:Int))then(idx a.au b.1).bind λe=>(nM (eT1 e)).bind λd=>bif bl 1 (b.2.1.length+List.length [(decide (c<d))])then some (inl ((aC .i64 b.1 1),(b.2.1++[(decide (c<d))]),()))else none else oR ((nr (eT2 a)).bind λf=>(jj a.ak (ao a.aa) f).bind λg=>(gz a.au b.2.1).bind λh=>(sb g a.ak h).bind some)) (0,[],())
def Xm:=kf func333 [t5,t0] q1 (u2 wS) [] (p_ 5 11 (.ps (.own 5 4 1 y1) (.j ⟨[.val 11 y0,.own 5 7 1 4 1 y1],[1,2,9,10]⟩ .e))) [BY,Aa,vj,Dq,IN]
def zl(a:ae):Y ae:=(oO (decide (a.aW=3)) ((wS (eT2 a) a.af.ai).bind λk=>some (!k))).bind λl=>bif l then some (eT2 a)else aE (λ(c:Int×Int×Unit)=>bif decide (c.2.1<(a.au.length:Int))then aX (λ(m:Int×Unit)=>some (inl (m.1,(aC .i64 c.2.1 1),()))) λj=>(idx a.au c.2.1).bind λn=>(nM (eT1 n)).bind λg=>(aO (decide (a.af.ai<g)) (some (decide (g<c.1)))).bind λo=>(aO o ((wS (eT2 a) g).bind λp=>some (!p))).bind λh=>bif h then j (g,())else j (c.1,())else oR (aX (λ(d:C×Unit)=>aX (λ(b:ae×Unit)=>some {b.1 with aa:=(ao b.1.aa),af:=(ah.mk (bO b.1.af.ai (dy c.1 1000)) d.1)}) λe=>bif (!decide (d.1=a.af.Value))then e ({a with aa:=(ao a.aa),bg:=0},())else e ((eT2 a),())) λf=>bif decide (a.aW=1)then(qF (eT2 a)).bind λi=>f (i,())else f (a.af.Value,()))) (1000000,0,())
def U1:=kf func295 [t5] (.one y5) (u1 zl) [] (p_ 3 7 (.b (p_ 2 1 (.j ⟨[.val 3 y0,.val 23 y0],[1,2,21,22]⟩ (p_ 3 6 (.j ⟨[.val 3 y0],[1,2,21,22,23]⟩ .e)))) (.r (.j ⟨[.val 7 y3],[1,2,3]⟩ (.r (.j ⟨[.box 0 1 y5 []],[1,2,3,7]⟩ .e)))))) [Xm,BY,Eo]
def xE(e:ae):Y ae:=(ji (eT2 e)).bind λx=>bif (!x)then some (eT2 e)else aE (λ(b:ae×ae×Unit)=>(wG (eT2 b.1)).bind λf=>aX (λ(g:ae×Unit)=>aX (λ(h:ae×Unit)=>aX (λ(i:ae×Unit)=>aX (λ(a:ae×Unit)=>(mj (eT2 b.1) (eT2 a.1)).bind λj=>bif j then aX (λ(k:ae×Unit)=>oR (some (eT2 k.1))) λc=>(bR a.1.af).bind λl=>bif (!l)then c ({a.1 with aI:=(bO a.1.aI 1),aa:=(ao a.1.aa)},())else c ((eT2 a.1),())else some (inl ((eT2 a.1),(eT2 b.2.1),()))) λd=>(mj (eT2 b.1) (eT2 i.1)).bind λm=>bif m then(zl (eT2 i.1)).bind λn=>d ((eT2 n),())else d ((eT2 i.1),())) λu=>(mj (eT2 b.1) (eT2 h.1)).bind λo=>bif o then(Az (eT2 h.1)).bind λp=>u ((eT2 p),())else u ((eT2 h.1),())) λv=>(mj (eT2 b.1) (eT2 g.1)).bind λq=>bif q then(uU (eT2 g.1)).bind λr=>v ((eT2 r),())else v ((eT2 g.1),())) λw=>(mj (eT2 b.1) (eT2 f)).bind λs=>bif s then(uT (eT2 f)).bind λt=>w ((eT2 t),())else w ((eT2 f),())) ((eT2 e),zz1,())
def Ti:=kf func251 [t5] (.one y5) (u1 xE) [] (p_ 3 3 (.j ⟨[.box 0 1 y5 [],.box 1 1 y5 []],[1,2]⟩ (p_ 4 12 (.j ⟨[.box 0 1 y5 []],[1,2,3]⟩ (.r (.j ⟨[.box 0 1 y5 []],[1,2,3]⟩ (.r (.j ⟨[.box 0 1 y5 []],[1,2,3]⟩ (.r (.j ⟨[.box 0 1 y5 []],[1,2,3]⟩ (p_ 3 3 (.j ⟨[.box 0 1 y5 []],[1,2]⟩ .e)))))))))))) [n9,Rf,MB,Ow,Ox,Xl,U1,ec]
def nL(a:aj)(b:aj):Y Bool:=(aO (decide (a.ak=b.ak)) (some (decide (a.aJ=b.aJ)))).bind λc=>(aO c (some (decide (a.aI=b.aI)))).bind λd=>(aO d ((gO (ao a.aa) (ao b.aa)).bind some)).bind λe=>(aO e (some (decide (a.bF=b.bF)))).bind λf=>(aO f (some (nF false a.af.ai b.af.ai a.af.Value b.af.Value))).bind λg=>(aO g (some (nF false a.ar.ai b.ar.ai a.ar.Value b.ar.Value))).bind λh=>(aO h (some (nF false a.aH.ai b.aH.ai a.aH.Value b.aH.Value))).bind λi=>(aO i (some (decide (a.bg=b.bg)))).bind λj=>(aO j (some (decide (a.bx=b.bx)))).bind some
def Gd:=kf func131 [t9,t9] q1 (u2 nL) [] .e [ma]
def iW(b:ae)(f:ae):Y ae:=(xE (eT2 f)).bind λa=>(bR a.af).bind λg=>bif g then some (eT2 a)else(iX (eT2 b)).bind λc=>(iX (eT2 a)).bind λd=>aX (λ(h:ae×Unit)=>some (eT2 h.1)) λe=>(bR b.af).bind λi=>(aO (!i) ((nL {c with aI:=0,aa:=(ao c.aa)} {d with aI:=0,aa:=(ao d.aa)}).bind λj=>some (!j))).bind λk=>bif k then e ({a with aI:=(dy (aC .i64 a.aI 1) 1000000),aa:=(ao a.aa)},())else e ((eT2 a),())
def wh:=kf func209 [t5,t5] (.one y5) (u2 iW) [] (p_ 5 31 (.j ⟨[.box 1 1 y5 []],[3,4]⟩ .e)) [Ti,ec,sB,Gd]
def jL(a:ae)(b:C):Y (ae×Int×Unit):=(ji (eT2 a)).bind λd=>bif (!d)then some (zz1,13,())else(oO (decide ((ByteArray.size b:Int)<1)) (some (decide (200<(ByteArray.size b:Int))))).bind λe=>bif e then some (zz1,1,())else aX (λ(f:ae×Unit)=>(iW (eT2 a) (eT2 f.1)).bind λg=>some ((eT2 g),0,())) λc=>(bR a.af).bind λh=>bif h then(qF {a with aa:=(ao a.aa),bm:=b}).bind λi=>c ({a with aI:=1,aa:=(ao a.aa),af:=(ah.mk 1 i),bm:=b},())else c ({a with aa:=(ao a.aa),bm:=b},())
def Hl:=kf func138 [t5,t3] (.many [y5,y0]) (u2 jL) [] (p_ 5 31 (.j ⟨[.box 0 1 y5 []],[2,4,6]⟩ .e)) [n9,ec,Eo,wh]
def eI(a:aD):Y aD:=aX (λ(b:aD×Unit)=>(uf (eT2 b.1.ab)).bind λe=>some (aD.mk (eT0 b.1.az) (eT2 b.1.ab) b.1.Timer b.1.Round b.1.Next e.2.1 e.1)) λc=>(nX a.az.aU).bind λd=>(aO d.2.1 (some (decide (a.ab.aW=1)))).bind λg=>(aO g ((bR a.ab.aB).bind some)).bind λh=>(aO h (some (!decide (d.1=a.ab.bm)))).bind λi=>bif i then(jL (eT2 a.ab) d.1).bind λf=>bif decide (f.2.1=0)then c ({a with az:=(eT0 a.az),ab:=(eT2 f.1)},())else c ((eT4 a),())else c ((eT4 a),())
def rU:=kf func139 [t6] (.one y6) (u1 eI) [] (.r (.j ⟨[.box 0 1 y6 []],[1,2]⟩ .e)) [Oz,ec,Hl,Hn]
def iF(d:Int)(e:Int)(f:aq)(g:C)(a:Int):Y (aD×Int×Unit):=(oO (decide (a<0)) (some (decide (200<a)))).bind λh=>bif h then some (zz5,1,())else(Ak d e (ao f)).bind λb=>bif (!decide (b.2.1=0))then some (zz5,b.2.1,())else(kN d e (ao f) g).bind λc=>bif (!decide (c.2.1=0))then some (zz5,c.2.1,())else(nK 1).bind λi=>(eI (aD.mk (eT0 c.1) (eT2 b.1) (fU.mk 0 (-1:Int)) 1 (aC .i64 a i) false bE)).bind λj=>some ((eT4 j),0,())
def aaI:=kf func135 [t0,t0,t4,t3,t0] (.many [y6,y0]) (u5 iF) [] .e [aaJ,Xp,Gc,rU]
def qE(a:al)(d:Int)(e:C)(f:Int):Y (al×Int×Unit):=(zk (eT3 a) d).bind λb=>bif b.2.1 then some (zz3,6,())else bif decide ((a.ax.length:Int)=8)then some (zz3,3,())else(iF a.ak d (ao a.aa) e f).bind λc=>bif (!decide (c.2.1=0))then some (zz3,c.2.1,())else bif c9 0 b.1 (a.ax.length)then bif bl 496 (List.length ((a.ax.take (toNat b.1)).drop (toNat 0)))then bif bl 496 (List.length ((a.ax.take (toNat b.1)).drop (toNat 0))+List.length [(eT4 c.1)])then bif c9 b.1 (a.ax.length:Int) (a.ax.length)then bif bl 496 (List.length (((a.ax.take (toNat b.1)).drop (toNat 0))++[(eT4 c.1)])+List.length ((a.ax.take (toNat (a.ax.length:Int))).drop (toNat b.1)))then some ({a with aa:=(ao a.aa),ax:=((((a.ax.take (toNat b.1)).drop (toNat 0))++[(eT4 c.1)])++((a.ax.take (toNat (a.ax.length:Int))).drop (toNat b.1)))},0,())else none else none else none else none else none
def KY:=kf func74 [t7,t0,t3,t0] (.many [y7,y0]) (u4 qE) [] .e [J6,aaI]
def mB(a:al)(c:Int)(d:C)(e:Int):Y (al×Int×Unit):=(fe (eT3 a)).bind λf=>bif (!f)then some (zz3,13,())else bif a.bh then some ((eT3 a),0,())else(qE (eT3 a) c d e).bind λb=>some ((eT3 b.1),b.2.1,())
def KZ:=kf func35 [t7,t0,t3,t0] (.many [y7,y0]) (u4 mB) [] .e [mw,KY]
def kJ(a:al)(b:Int)(e:C)(f:Int):Y (al×Int×Int×Unit):=(zk (eT3 a) b).bind λd=>bif d.2.1 then some ((eT3 a),d.1,0,())else(qE (eT3 a) b e f).bind λc=>(zk (eT3 c.1) b).bind λg=>some ((eT3 c.1),g.1,c.2.1,())
def KX:=kf func79 [t7,t0,t3,t0] (.many [y7,y0,y0]) (u4 kJ) [] .e [J6,KY]
def gH(a:aD)(c:C):Y (aD×Int×Unit):=(kK (eT4 a)).bind λd=>bif (!d)then some (zz5,13,())else(jL (eT2 a.ab) c).bind λb=>bif (!decide (b.2.1=0))then some (zz5,b.2.1,())else(eI {a with az:=(eT0 a.az),ab:=(eT2 b.1)}).bind λe=>some ((eT4 e),0,())
def UY:=kf func80 [t6,t3] (.many [y6,y0]) (u2 gH) [] .e [qz,Hl,rU]
noncomputable def fH(a:al)(b:Int)(d:aD)(c:Int):Y (al×Int×Unit):=bif (!decide (c=0))then some (zz3,c,())else bif bl 496 (a.ax.length)then(idx a.ax b).bind λe=>(a.ax[(toNat b)]?).bind λf=>some ({a with aa:=(ao a.aa),ax:=(a.ax.set (toNat b) (eT4 d))},0,())else none
def BW:=kf func81 [t7,t0,t6,t0] (.many [y7,y0]) (u4 fH) [] .e []
def kZ(b:al)(f:Int)(c:C)(g:Int):Y (al×Int×Unit):=(fe (eT3 b)).bind λh=>bif (!h)then some (zz3,13,())else bif b.bh then some ((eT3 b),0,())else(kJ (eT3 b) f c g).bind λa=>bif (!decide (a.2.2.1=0))then some (zz3,a.2.2.1,())else(idx a.1.ax a.2.1).bind λi=>(gH (eT4 i) c).bind λd=>(fH (eT3 a.1) a.2.1 (eT4 d.1) d.2.1).bind λe=>some ((eT3 e.1),e.2.1,())
def IK:=kf func38 [t7,t0,t3,t0] (.many [y7,y0]) (u4 kZ) [] .e [mw,KX,UY,BW]
def vH(a:av):Y (av×Int×Unit):=(qG (eT0 a)).bind λb=>bif (!b)then some (zz2,1,())else bif decide (a.Round=1000)then some (zz2,3,())else(gM (eT0 a) {a with Round:=(aC .i64 a.Round 1),aa:=(ao a.aa)}).bind λc=>some ((eT0 c),0,())
def Y4:=kf func145 [t8] (.many [y8,y0]) (u1 vH) [] .e [Ar,xz]
def ue(a:ae):Y (aj×Bool×Unit):=(ji (eT2 a)).bind λb=>(oO (!b) ((bR a.af).bind some)).bind λc=>bif c then some (zz6,false,())else(iX (eT2 a)).bind λd=>some ((eT1 d),true,())
def Hm:=kf func134 [t5] (.many [y9,y1]) (u1 ue) [] .e [n9,ec,sB]
def oJ(a:ae):Y Bool:=(ue (eT2 a)).bind λb=>(oO (!b.2.1) (some (decide (a.aW=3)))).bind λg=>bif g then some false else bif bl 176 (List.length [(eT1 b.1)]+a.au.length)then aE (λ(c:Int×Z Bool×Unit)=>bif decide (c.1<((List.length ([(eT1 b.1)]++a.au):Nat):Int))then(idx ([(eT1 b.1)]++a.au) c.1).bind λk=>(([(eT1 b.1)]++a.au)[(toNat c.1)]?).bind λh=>(nM (eT1 h)).bind λe=>(nM (eT1 b.1)).bind λf=>bif bl 1 (c.2.1.length+List.length [(decide (f<=e))])then some (inl ((aC .i64 c.1 1),(c.2.1++[(decide (f<=e))]),()))else none else oR ((jj a.ak (ao a.aa) ([(eT1 b.1)]++a.au)).bind λi=>(gz ([(eT1 b.1)]++a.au) c.2.1).bind λj=>(km i j).bind λd=>if(bu .u64 a.ak)<0 then none else some (decide ((GH .i64 (kb .i64 d (bu .u64 a.ak)) 1)=1)))) (0,[],())else none
def Re:=kf func217 [t5] q1 (u1 oJ) [23] (p_ 5 31 (.b (p_ 2 1 (.ps (.own 6 4 1 y1) (.j ⟨[.val 29 y0,.own 6 27 1 4 1 y1],[1,3,5,27,28]⟩ .e))) (.l (.g [(0,.ps (.EN 5))])))) [Hm,BY,vj,Dq,AH]
def sL(b:fU)(a:ae)(c:Int):Y (fU×Bool×Unit):=(wR b).bind λd=>(oO (!d) (some (decide (c<0)))).bind λe=>(oO e (some (decide (200<c)))).bind λf=>bif f then some ((fU.mk 0 (-1:Int)),false,())else(oJ (eT2 a)).bind λg=>bif (!g)then some ((fU.mk a.af.ai (-1:Int)),false,())else(oO (decide (b.Bt<0)) (some (!decide (b.ai=a.af.ai)))).bind λh=>bif h then(nK a.af.ai).bind λi=>some ((fU.mk a.af.ai (aC .i64 c i)),false,())else bif decide (b.Bt<=c)then some ((fU.mk a.af.ai (-1:Int)),true,())else some (b,false,())
def YX:=kf func147 [.ty y23,t5,t0] (.many [y23,y1]) (u3 sL) [] .e [K0,Re,Gc]
def lQ(a:ae):Y (ae×Int×Unit):=(ji (eT2 a)).bind λe=>bif (!e)then some (zz1,13,())else(qF (eT2 a)).bind λc=>(oO (decide (a.aW=3)) (some (decide (c=bE)))).bind λf=>bif f then some (zz1,62,())else bif decide (1000<=a.af.ai)then some (zz1,3,())else aX (λ(b:ae×Unit)=>(iW (eT2 a) {b.1 with aI:=(bO b.1.aI 1),aa:=(ao b.1.aa),af:=(ah.mk (aC .i64 b.1.af.ai 1) c)}).bind λg=>some ((eT2 g),0,())) λd=>bif (!decide (c=a.af.Value))then d ({a with aa:=(ao a.aa),bg:=0},())else d ((eT2 a),())
def Tf:=kf func148 [t5] (.many [y5,y0]) (u1 lQ) [] (p_ 6 63 (.j ⟨[.box 0 1 y5 []],[1,2,4,5]⟩ .e)) [n9,Eo,wh]
def ix(c:aD)(d:Int):Y (aD×Int×Unit):=(kK (eT4 c)).bind λp=>bif (!p)then some (zz5,13,())else(oO (decide (d<0)) (some (decide (200<d)))).bind λq=>bif q then some (zz5,1,())else aX (λ(b:aD×Unit)=>(sL b.1.Timer (eT2 b.1.ab) d).bind λh=>aX (λ(r:aD×Unit)=>some ((eT4 r.1),0,())) λm=>bif h.2.1 then aX (λ(s:aD×Unit)=>(eI (eT4 s.1)).bind λi=>m ((eT4 i),())) λn=>(lQ (eT2 b.1.ab)).bind λe=>bif decide (e.2.1=0)then n ({b.1 with az:=(eT0 b.1.az),ab:=(eT2 e.1),Timer:=h.1},())else n ({b.1 with az:=(eT0 b.1.az),ab:=(eT2 b.1.ab),Timer:=h.1},())else m ({b.1 with az:=(eT0 b.1.az),ab:=(eT2 b.1.ab),Timer:=h.1},())) λo=>(aO (decide ((c.az.aU.length:Int)=0)) (some (decide (c.Next<=d)))).bind λj=>bif j then aX (λ(a:aD×Unit)=>(nK (dy (aC .i64 a.1.Round 1) 1000)).bind λk=>(eI (aD.mk (eT0 a.1.az) (eT2 a.1.ab) a.1.Timer (dy (aC .i64 a.1.Round 1) 1000) (aC .i64 d k) a.1.qL a.1.Value)).bind λl=>o ((eT4 l),())) λf=>(vH (eT0 c.az)).bind λg=>bif decide (g.2.1=0)then f ({c with az:=(eT0 g.1),ab:=(eT2 c.ab)},())else f ((eT4 c),())else o ((eT4 c),())
def YV:=kf func85 [t6,t0] (.many [y6,y0]) (u2 ix) [] (p_ 3 7 (.j ⟨[.box 0 1 y6 []],[1,2,4]⟩ (.b (p_ 2 1 (.j ⟨[.box 0 1 y6 []],[1,2,4]⟩ .e)) (p_ 2 3 (.j ⟨[.box 0 1 y6 []],[2,4]⟩ (p_ 3 2 (.j ⟨[.box 0 1 y6 []],[2,4]⟩ .e))))))) [qz,Y4,Gc,rU,YX,Tf]
def nI(b:al)(e:Int):Y (al×Int×Unit):=(fe (eT3 b)).bind λf=>bif (!f)then some (zz3,13,())else bif b.bh then some ((eT3 b),0,())else aE (λ(a:Int×al×al×Unit)=>bif decide (a.1<(b.ax.length:Int))then(idx a.2.1.ax a.1).bind λg=>(ix (eT4 g) e).bind λd=>(fH (eT3 a.2.1) a.1 (eT4 d.1) d.2.1).bind λc=>bif (!decide (c.2.1=0))then oR (some (zz3,c.2.1,()))else some (inl ((aC .i64 a.1 1),(eT3 c.1),(eT3 a.2.2.1),()))else oR (some ((eT3 a.2.1),0,()))) (0,(eT3 b),zz3,())
def My:=kf func40 [t7,t0] (.many [y7,y0]) (u2 nI) [] (p_ 6 23 (.j ⟨[.val 20 y0,.box 0 1 y7 [],.box 1 1 y7 []],[1,2,4,19]⟩ .e)) [mw,YV,BW]
def qg(a:av)(b:aq):Y (av×Int×Unit):=(qG (eT0 a)).bind λd=>bif (!d)then some (zz2,1,())else(dh (ao b)).bind λc=>bif (!decide (c=0))then some (zz2,c,())else(gO (ao a.aa) (ao b)).bind λe=>bif e then some ((eT0 a),0,())else(gM (eT0 a) {a with aa:=(ao b)}).bind λf=>some ((eT0 f),0,())
def Tl:=kf func151 [t8,t4] (.many [y8,y0]) (u2 qg) [] .e [Ar,fY,ma,xz]
def pZ(a:ae)(b:aq):Y (ae×Int×Unit):=(ji (eT2 a)).bind λc=>bif (!c)then some (zz1,13,())else(dh (ao b)).bind λd=>bif (!decide (d=0))then some (zz1,1,())else(iW (eT2 a) {a with aa:=(ao b)}).bind λe=>some ((eT2 e),0,())
def Th:=kf func152 [t5,t4] (.many [y5,y0]) (u2 pZ) [] .e [n9,fY,wh]
def iG(a:aD)(d:aq):Y (aD×Int×Unit):=(kK (eT4 a)).bind λe=>bif (!e)then some (zz5,13,())else(qg (eT0 a.az) (ao d)).bind λb=>bif (!decide (b.2.1=0))then some (zz5,b.2.1,())else(pZ (eT2 a.ab) (ao d)).bind λc=>bif (!decide (c.2.1=0))then some (zz5,c.2.1,())else(eI {a with az:=(eT0 b.1),ab:=(eT2 c.1)}).bind λf=>some ((eT4 f),0,())
def Te:=kf func88 [t6,t4] (.many [y6,y0]) (u2 iG) [] .e [qz,Tl,Th,rU]
def jK(b:al)(c:aq):Y (al×Int×Unit):=(fe (eT3 b)).bind λf=>bif (!f)then some (zz3,13,())else bif b.bh then some ((eT3 b),0,())else(dh (ao c)).bind λg=>bif (!decide (g=0))then some (zz3,1,())else aE (λ(a:Int×al×al×Unit)=>bif decide (a.1<(b.ax.length:Int))then(idx a.2.1.ax a.1).bind λh=>(iG (eT4 h) (ao c)).bind λe=>(fH (eT3 a.2.1) a.1 (eT4 e.1) e.2.1).bind λd=>bif (!decide (d.2.1=0))then oR (some (zz3,d.2.1,()))else some (inl ((aC .i64 a.1 1),(eT3 d.1),(eT3 a.2.2.1),()))else oR (some ((eT3 a.2.1),0,()))) (0,{b with aa:=(ao c)},zz3,())
def Hk:=kf func42 [t7,t4] (.many [y7,y0]) (u2 jK) [] (p_ 8 95 (.j ⟨[.val 26 y0,.box 0 1 y7 [],.box 2 1 y7 []],[2,3,4,25]⟩ .e)) [mw,fY,Te,BW]
def vJ(s:dP):Y (ah×dP):=(cF s 1 6).bind λa=>(ja a.2).bind λb=>some ((ah.mk a.1 b.1),b.2)
def Vb:=kr func89 0 y16 [] q2 (λs a=>vJ s) [] .e [oE,wj]
def sY(s:dP)(C:Int)(D:Int)(L:Int):Y (aj×dP):=(cF s 1 9).bind λq=>(mL q.2 L).bind λr=>(ja r.2).bind λh=>aX (λ(I:dP×aj×Unit)=>some ((eT1 I.2.1),I.1)) λE=>(cg h.2 4).bind λt=>aX (λ(i:dP×aj×Unit)=>aX (λ(J:dP×aj×Unit)=>E (J.1,(eT1 J.2.1),())) λu=>(cF i.1 1 7).bind λc=>aX (λ(a:dP×aj×Unit)=>(cg a.1 (aC .i64 a.2.1.af.ai 1)).bind λb=>(cg b.2 (aC .i64 b.1 1)).bind λd=>aX (λ(e:aj×Unit)=>aX (λ(f:aj×Unit)=>(dE (eT1 f.1)).bind λF=>bif (!F)then u (d.2,{f.1 with aa:=(ao f.1.aa),aH:=zB},())else u (d.2,(eT1 f.1),())) λv=>(dE (eT1 e.1)).bind λG=>bif (!G)then v ({e.1 with aa:=(ao e.1.aa),bx:=0},())else v ((eT1 e.1),())) λw=>(dE {a.2.1 with aa:=(ao a.2.1.aa),bg:=d.1,bx:=b.1}).bind λH=>bif (!H)then w ({a.2.1 with aa:=(ao a.2.1.aa),bg:=0,bx:=b.1},())else w ({a.2.1 with aa:=(ao a.2.1.aa),bg:=d.1,bx:=b.1},())) λj=>(cg c.2 3).bind λk=>bif decide (0<k.1)then(vJ k.2).bind λl=>(cg l.2 2).bind λm=>bif decide (m.1=1)then(vJ m.2).bind λx=>j (x.2,{i.2.1 with aa:=(ao i.2.1.aa),bF:=1,af:=(ah.mk c.1 h.1),ar:=l.1,aH:=x.1},())else j (m.2,{i.2.1 with aa:=(ao i.2.1.aa),bF:=1,af:=(ah.mk c.1 h.1),ar:=l.1},())else j (k.2,{i.2.1 with aa:=(ao i.2.1.aa),bF:=1,af:=(ah.mk c.1 h.1)},())) λK=>bif decide (t.1=0)then(cF t.2 1 7).bind λy=>(cF y.2 1 4).bind λg=>(cg g.2 3).bind λn=>(cg n.2 3).bind λz=>E (z.2,(aj.mk C D q.1 (ao r.1) 2 (ah.mk y.1 h.1) (ah.mk (aC .i64 (aC .i64 g.1 n.1) z.1) h.1) zB g.1 (aC .i64 g.1 n.1)),())else bif decide (t.1=1)then(cg t.2 3).bind λo=>bif decide (0<o.1)then(cF o.2 1 7).bind λA=>(cF A.2 1 4).bind λp=>(cg p.2 3).bind λB=>E (B.2,(aj.mk C D q.1 (ao r.1) 3 (ah.mk A.1 h.1) zB zB p.1 (aC .i64 p.1 B.1)),())else K (o.2,(aj.mk C D q.1 (ao r.1) 0 zB zB zB 0 0),())else K (t.2,(aj.mk C D q.1 (ao r.1) 0 zB zB zB 0 0),())
def Lr:=kr func43 0 y16 [t0,t0,t0] (.one y9) (λs a=>sY s a.1 a.2.1 a.2.2.1) [] (p_ 3 7 (.j ⟨[.box 0 0 y16 [],.box 10 1 y9 []],[8,9]⟩ (p_ 3 2 (.j ⟨[.box 0 0 y16 [],.box 10 1 y9 []],[0,8,9,10]⟩ (.r (.j ⟨[.box 0 0 y16 [],.box 10 1 y9 []],[8,9]⟩ (p_ 2 2 (.j ⟨[.box 0 0 y16 [],.box 10 1 y9 []],[0,8,9]⟩ (p_ 3 7 (.j ⟨[.box 10 1 y9 []],[8,9]⟩ (.r (.j ⟨[.box 10 1 y9 []],[8,9]⟩ .e)))))))))))) [oE,wo,wj,pB,Vb,gF]
def oV(s:dP)(d:Int):Y (bI×dP):=(cF s 1 3).bind λc=>(cg c.2 3).bind λe=>bif decide (e.1=0)then(cF e.2 1 30).bind λf=>(mL f.2 4).bind λg=>(ja g.2).bind λh=>aX (λ(i:dP×aA×Unit)=>some ((bI.mk 1 c.1 {i.2.1 with aa:=(ao i.2.1.aa)} zz6),i.1)) λk=>(cg h.2 2).bind λj=>bif decide (j.1=1)then(ja j.2).bind λl=>k (l.2,(aA.mk d f.1 (ao g.1) [h.1] [l.1]),())else k (j.2,(aA.mk d f.1 (ao g.1) [h.1] []),())else(sY e.2 d c.1 4).bind λa=>(cg a.2 40).bind λb=>some ((bI.mk 2 c.1 zz9 {a.1 with aI:=(aC .i64 a.1.aI b.1),aa:=(ao a.1.aa)}),b.2)
def I2:=kr func10 0 y16 [t0] (.one y18) (λs a=>oV s a.1) [] (p_ 6 43 (.j ⟨[.box 0 0 y16 [],.box 17 1 y12 []],[4,5,6]⟩ .e)) [oE,pB,wo,wj,Lr]
def pH(c:av)(b:aA):Y (av×Int×Unit):=(qG (eT0 c)).bind λm=>(oO (!m) ((qH {b with aa:=(ao b.aa)}).bind λn=>some (!n))).bind λo=>(oO o (some (decide (b.ak=c.ak)))).bind λp=>bif p then some (zz2,1,())else aE (λ(a:Bool×Int×av×av×Z aA×Unit)=>bif decide (a.2.1<(c.au.length:Int))then aX (λ(f:Bool×av×av×Z aA×Unit)=>some (inl (f.1,(aC .i64 a.2.1 1),(eT0 f.2.1),{f.2.2.1 with aa:=(ao f.2.2.1.aa),au:=[]},f.2.2.2.1,()))) λl=>(idx c.au a.2.1).bind λd=>bif decide (d.ak=b.ak)then bif decide (b.aI<=d.aI)then oR (some (zz2,9,()))else l (a.1,(eT0 a.2.2.1),{a.2.2.2.1 with aa:=(ao a.2.2.2.1.aa),au:=[]},a.2.2.2.2.1,())else aX (λ(g:Bool×av×Z aA×Unit)=>bif bl 120 (g.2.2.1.length+List.length [{d with aa:=(ao d.aa)}])then l (g.1,(eT0 a.2.2.1),{g.2.1 with aa:=(ao g.2.1.aa),au:=[]},(g.2.2.1++[{d with aa:=(ao d.aa)}]),())else none) λh=>(aO (decide (b.ak<d.ak)) (some (!a.1))).bind λj=>bif j then bif bl 120 (a.2.2.2.2.1.length+List.length [{b with aa:=(ao b.aa)}])then h (true,{a.2.2.2.1 with aa:=(ao a.2.2.2.1.aa),au:=[]},(a.2.2.2.2.1++[{b with aa:=(ao b.aa)}]),())else none else h (a.1,{a.2.2.2.1 with aa:=(ao a.2.2.2.1.aa),au:=[]},a.2.2.2.2.1,())else oR (aX (λ(e:av×Z aA×Unit)=>(gM (eT0 c) {e.1 with aa:=(ao e.1.aa),au:=e.2.1}).bind λk=>some ((eT0 k),0,())) λi=>bif (!a.1)then bif bl 120 (a.2.2.2.2.1.length+List.length [{b with aa:=(ao b.aa)}])then i ({a.2.2.2.1 with aa:=(ao a.2.2.2.1.aa),au:=[]},(a.2.2.2.2.1++[{b with aa:=(ao b.aa)}]),())else none else i ({a.2.2.2.1 with aa:=(ao a.2.2.2.1.aa),au:=[]},a.2.2.2.2.1,()))) (false,0,zz2,{c with aa:=(ao c.aa),au:=[]},[],())
def Y6:=kf func149 [t8,t12] (.many [y8,y0]) (u2 pH) [] (p_ 5 31 (.b (p_ 2 1 (.ps (.CU 6 11 34 7 y12) (.j ⟨[.val 7 y1,.val 31 y0,.box 2 1 y8 [],.box 20 1 y8 [(11,29,1)],.eK 29 1 34 7 y12],[2,3,4,6,29,30]⟩ (p_ 3 6 (.j ⟨[.val 7 y1,.box 2 1 y8 [],.box 20 1 y8 [(11,29,1)],.eK 29 1 34 7 y12],[2,3,4,6,29,30,31]⟩ (p_ 4 12 (.j ⟨[.val 7 y1,.box 20 1 y8 [(11,29,1)],.eK 29 1 34 7 y12],[2,3,4,6,9,29,30,31]⟩ .e))))))) (.j ⟨[.box 20 1 y8 [(11,29,1)],.eK 29 1 34 7 y12],[2,4,6]⟩ (p_ 2 1 (.g [(0,.ps (.MX 6 11))]))))) [Ar,K7,xz]
def eJ(a:aD)(c:aA):Y (aD×Int×Unit):=(kK (eT4 a)).bind λd=>bif (!d)then some (zz5,13,())else(pH (eT0 a.az) {c with aa:=(ao c.aa)}).bind λb=>bif (!decide (b.2.1=0))then some (zz5,b.2.1,())else(eI {a with az:=(eT0 b.1),ab:=(eT2 a.ab)}).bind λe=>some ((eT4 e),0,())
def Ov:=kf func86 [t6,t12] (.many [y6,y0]) (u2 eJ) [] .e [qz,Y6,rU]
def DC(a:Z aj)(d:aj):Y ((Z aj)×Bool×Unit):=(dE (eT1 d)).bind λg=>bif (!g)then some (a,false,())else aE (λ(b:Int×Unit)=>bif decide (b.1<(a.length:Int))then(idx a b.1).bind λe=>bif decide (e.ak=d.ak)then bif decide (d.aI<=e.aI)then oR (some (a,false,()))else bif c9 0 b.1 (a.length)then bif bl 176 (List.length ((a.take (toNat b.1)).drop (toNat 0)))then bif bl 176 (List.length ((a.take (toNat b.1)).drop (toNat 0))+List.length [(eT1 d)])then bif c9 (aC .i64 b.1 1) (a.length:Int) (a.length)then bif bl 176 (List.length (((a.take (toNat b.1)).drop (toNat 0))++[(eT1 d)])+List.length ((a.take (toNat (a.length:Int))).drop (toNat (aC .i64 b.1 1))))then oR (some (((((a.take (toNat b.1)).drop (toNat 0))++[(eT1 d)])++((a.take (toNat (a.length:Int))).drop (toNat (aC .i64 b.1 1)))),true,()))else none else none else none else none else none else some (inl ((aC .i64 b.1 1),()))else oR (aE (λ(c:Int×Unit)=>aX (λ(h:Bool×Unit)=>bif h.1 then some (inl ((aC .i64 c.1 1),()))else oR (bif c9 0 c.1 (a.length)then bif bl 176 (List.length ((a.take (toNat c.1)).drop (toNat 0)))then bif bl 176 (List.length ((a.take (toNat c.1)).drop (toNat 0))+List.length [(eT1 d)])then bif c9 c.1 (a.length:Int) (a.length)then bif bl 176 (List.length (((a.take (toNat c.1)).drop (toNat 0))++[(eT1 d)])+List.length ((a.take (toNat (a.length:Int))).drop (toNat c.1)))then some (((((a.take (toNat c.1)).drop (toNat 0))++[(eT1 d)])++((a.take (toNat (a.length:Int))).drop (toNat c.1))),true,())else none else none else none else none else none)) λf=>bif decide (c.1<(a.length:Int))then(idx a c.1).bind λi=>f ((decide (i.ak<d.ak)),())else f (false,())) (0,()))) (0,())
def aaK:=kf func218 [t10,t9] (.many [y10,y1]) (u2 DC) [] (p_ 2 3 (.b (p_ 2 1 (.j ⟨[.val 15 y0],[0,3,13,14]⟩ .e)) (p_ 3 1 (.j ⟨[.val 8 y0],[0,3]⟩ (p_ 2 0 (.j ⟨[.val 57 y1],[0,3,8]⟩ .e)))))) [gF]
def lR(a:ae)(b:aj):Y (ae×Int×Unit):=(ji (eT2 a)).bind λd=>bif (!d)then some (zz1,13,())else(dE (eT1 b)).bind λe=>(oO (!e) (some (decide (b.ak=a.ak)))).bind λf=>(oO f (some (!decide (b.aJ=a.aJ)))).bind λg=>bif g then some (zz1,61,())else(DC a.au (eT1 b)).bind λc=>bif (!c.2.1)then some (zz1,9,())else(iW (eT2 a) {a with aa:=(ao a.aa),au:=c.1}).bind λh=>some ((eT2 h),0,())
def Tg:=kf func150 [t5,t9] (.many [y5,y0]) (u2 lR) [] .e [n9,gF,aaK,wh]
def gX(a:aD)(c:aj):Y (aD×Int×Unit):=(kK (eT4 a)).bind λd=>bif (!d)then some (zz5,13,())else(lR (eT2 a.ab) (eT1 c)).bind λb=>bif (!decide (b.2.1=0))then some (zz5,b.2.1,())else(eI {a with az:=(eT0 a.az),ab:=(eT2 b.1)}).bind λe=>some ((eT4 e),0,())
def Rc:=kf func87 [t6,t9] (.many [y6,y0]) (u2 gX) [] .e [qz,Tg,rU]
def mi(e:al)(a:bI)(h:Int):Y (al×Int×Unit):=(fe (eT3 e)).bind λi=>bif (!i)then some (zz3,13,())else bif e.bh then some ((eT3 e),0,())else(aO (!decide (a.bF=1)) (some (!decide (a.bF=2)))).bind λj=>(oO j ((aO (decide (a.bF=2)) (some (!decide (a.aJ=a.ay.aJ)))).bind some)).bind λk=>bif k then some (zz3,1,())else(kJ (eT3 e) a.aJ (ByteArray.mk #[48]) h).bind λb=>bif (!decide (b.2.2.1=0))then some (zz3,b.2.2.1,())else bif decide (a.bF=1)then(idx b.1.ax b.2.1).bind λl=>(eJ (eT4 l) {a.aP with aa:=(ao a.aP.aa)}).bind λf=>(fH (eT3 b.1) b.2.1 (eT4 f.1) f.2.1).bind λg=>some ((eT3 g.1),g.2.1,())else(idx b.1.ax b.2.1).bind λm=>(gX (eT4 m) (eT1 a.ay)).bind λc=>(fH (eT3 b.1) b.2.1 (eT4 c.1) c.2.1).bind λd=>some ((eT3 d.1),d.2.1,())
def Mz:=kf func41 [t7,t18,t0] (.many [y7,y0]) (u3 mi) [] .e [mw,KX,Ov,BW,Rc]
def Cs(s:dP)(c:al)(j:Int):Y (al×dP):=aX (λ(k:Int×dP×al×Unit)=>bif (!decide (k.1=0))then some ((eT3 c),k.2.1)else some ((eT3 k.2.2.1),k.2.1)) λd=>(cg s 7).bind λb=>bif decide (b.1=0)then(cF b.2 1 3).bind λl=>(ja l.2).bind λm=>(mB (eT3 c) l.1 m.1 j).bind λn=>d (n.2.1,m.2,(eT3 n.1),())else bif decide (b.1=1)then(cF b.2 1 3).bind λo=>(ja o.2).bind λp=>(kZ (eT3 c) o.1 p.1 j).bind λq=>d (q.2.1,p.2,(eT3 q.1),())else bif decide (b.1=2)then(nI (eT3 c) j).bind λe=>d (e.2.1,b.2,(eT3 e.1),())else bif decide (b.1=3)then(mL b.2 4).bind λf=>(jK (eT3 c) (ao f.1)).bind λg=>d (g.2.1,f.2,(eT3 g.1),())else(cF b.2 1 3).bind λh=>(oV h.2 h.1).bind λa=>(mi (eT3 c) {a.1 with aP:={a.1.aP with aa:=(ao a.1.aP.aa)},ay:=(eT1 a.1.ay)} j).bind λi=>d (i.2.1,a.2,(eT3 i.1),())
def Zb:=kr func19 0 y16 [t7,t0] (.one y7) (λs a=>Cs s a.1 a.2.1) [] (p_ 3 7 (.j ⟨[.val 8 y0,.box 0 0 y16 [],.box 3 1 y7 []],[4,6,7]⟩ .e)) [pB,oE,wj,KZ,IK,My,wo,Hk,I2,Mz]
def Ct(s:dP):Y (al×dP):=(mL s 4).bind λb=>(uI 0 (ao b.1)).bind λe=>(cg b.2 10).bind λc=>aE (λ(a:Int×dP×al×Unit)=>bif decide (0<a.1)then(Cs a.2.1 (eT3 a.2.2.1) (cQ .i64 10 a.1)).bind λd=>some (inl ((cQ .i64 a.1 1),d.2,(eT3 d.1),()))else oR (some ((eT3 a.2.2.1),a.2.1))) (c.1,c.2,(eT3 e.1),())
def Zd:=kr func9 0 y16 [] (.one y7) (λs a=>Ct s) [] (p_ 5 11 (.j ⟨[.val 5 y0,.box 0 0 y16 [],.box 8 1 y7 []],[0,2,3]⟩ .e)) [wo,Pc,pB,Zb]
noncomputable def iN(a:Int):Y Bool:=(aO (decide (0<=a)) (some (decide (a<10)))).bind some
def DR:=kf func58 [t0] q1 (u1 iN) [] .e []
noncomputable def LS:SA U:=cO (cn prog 20 [] f107) (.r (.r (.l (.r (.l (.j ⟨[.val 3 y0,.val 9 y0],[7,8]⟩ .e))))))
noncomputable def lG(rec:(aq×Unit)->Y Int)(b:aq):Y Int:=aE (λ(a:Int×Int×Unit)=>bif decide (a.2.1<(b.aR.length:Int))then(idx b.aR a.2.1).bind λc=>(rec ((ao c),())).bind λd=>some (inl ((bO a.1 d),(aC .i64 a.2.1 1),()))else oR (some (aC .i64 a.1 1))) (0,0,())
noncomputable def qV:Nat->(aq×Unit)->Y Int:=kU (λrec a=>lG rec a.1)
def jv(a:aq):Y Int:=qV (SizeOf.sizeOf a+1) (a,())
noncomputable def Oo:KS U prog:=⟨.fn 107 [t4] q0 λa=>jv a.1,Cb (K:=K) (A_s:=[t4]) (r:= .one y0) (B:=λrec a=>lG rec a.1) LS 20 [.tmp 2] [] (fk f107 [] func107) (hF:=λa=>⟨_,rfl⟩)⟩
noncomputable def Oh:SA U:=cO (cn prog 26 [] f108) (.r (.r (.l (.r (.l (.j ⟨[.val 3 y0,.val 16 y0],[14,15]⟩ .e))))))
noncomputable def mO(rec:(aq×Unit)->Y Int)(b:aq):Y Int:=aE (λ(a:Int×Int×Unit)=>bif decide (a.2.1<(b.aR.length:Int))then(idx b.aR a.2.1).bind λc=>(rec ((ao c),())).bind λd=>some (inl ((aC .i64 a.1 d),(aC .i64 a.2.1 1),()))else oR (some a.1)) ((aC .i64 (b.bc.length:Int) (b.aR.length:Int)),0,())
noncomputable def sJ:Nat->(aq×Unit)->Y Int:=kU (λrec a=>mO rec a.1)
def ki(a:aq):Y Int:=sJ (SizeOf.sizeOf a+1) (a,())
noncomputable def P9:KS U prog:=⟨.fn 108 [t4] q0 λa=>ki a.1,Cb (K:=K) (A_s:=[t4]) (r:= .one y0) (B:=λrec a=>mO rec a.1) Oh 26 [.tmp 2] [] (fk f108 [] func108) (hF:=λa=>⟨_,rfl⟩)⟩
noncomputable def A8(a:Int):Y Bool:=(aO (decide (0<=a)) (some (decide (a<10)))).bind some
def P8:=kf func178 [t0] q1 (u1 A8) [] .e []
def oy(a:Int):Y Bool:=(A8 a).bind λb=>some (!b)
def Ln:=kf func177 [t0] q1 (u1 oy) [] .e [P8]
def nm(b:Z Int):Y Int:=aE (λ(a:Int×Unit)=>bif decide (a.1<(b.length:Int))then(idx b a.1).bind λc=>(oy c).bind λd=>bif d then oR (some a.1)else some (inl ((aC .i64 a.1 1),()))else oR (some (-1:Int))) (0,())
def Bx:=kf func239 [t14,.bJ 177 []] q0 (λa=>nm a.1) [] (p_ 4 5 (.j ⟨[.val 8 y0],[0,1,7]⟩ .e)) [Ln]
def im(a:Z Int):Y Bool:=(nm a).bind λb=>some (decide (0<=b))
def zx:=kf func176 [t14,.bJ 177 []] q1 (λa=>im a.1) [] .e [Bx]
noncomputable def Cp(a:Int)(b:Int):Y Bool:=(aO (decide (0<=a)) (if b<0 then none else some (decide (a<(cj .i64 1 b))))).bind some
def Tp:=kf func322 [t0,t0] q1 (u2 Cp) [] .e []
def gP(a:Int):Y Bool:=(Cp a 10).bind some
def tM:=kf func286 [t0] q1 (u1 gP) [] .e [Tp]
def kO(b:Int)(a:Int):Y Bool:=(gP b).bind λc=>(aO c (some (decide (0<=a)))).bind λd=>(aO d (some (decide (a<10)))).bind λe=>(aO e (if a<0 then none else some (!decide ((GH .i64 b (cj .i64 1 a))=0)))).bind some
def qA:=kf func240 [t0,t0] q1 (u2 kO) [] .e [tM]
def vK(c:Z Int):Y (Int×Int×Unit):=aE (λ(a:Int×Int×Unit)=>bif decide (a.2.1<(c.length:Int))then(idx c a.2.1).bind λb=>(oO (decide (b<0)) (some (decide (10<=b)))).bind λd=>bif d then oR (some (0,5,()))else(kO a.1 b).bind λe=>bif e then oR (some (0,6,()))else if b<0 then none else some (inl ((tH .i64 a.1 (cj .i64 1 b)),(aC .i64 a.2.1 1),()))else oR (some (a.1,0,()))) (0,0,())
def Za:=kf func179 [t14] (.many [y0,y0]) (u1 vK) [] (p_ 5 11 (.j ⟨[.val 4 y0,.val 9 y0],[7,8]⟩ .e)) [qA]
noncomputable def LR:SA U:=cO (cn prog 48 [] f109) (.r (.r (.r (.r (.l (.r (.l (.j ⟨[.val 38 y0],[36,37]⟩ .e))))))))
def jx(rec:(aq×Unit)->Y Int)(a:aq):Y Int:=(oO (decide (a.aN<1)) (some (decide ((aC .i64 (a.bc.length:Int) (a.aR.length:Int))<a.aN)))).bind λe=>bif e then some 4 else(im a.bc).bind λf=>bif f then some 5 else(vK a.bc).bind λc=>bif (!decide (c.2.1=0))then some c.2.1 else aE (λ(b:Int×Unit)=>bif decide (b.1<(a.aR.length:Int))then(idx a.aR b.1).bind λg=>(rec ((ao g),())).bind λd=>bif (!decide (d=0))then oR (some d)else some (inl ((aC .i64 b.1 1),()))else oR (some 0)) (0,())
noncomputable def fc:Nat->(aq×Unit)->Y Int:=kU (λrec a=>jx rec a.1)
def lq(a:aq):Y Int:=fc (SizeOf.sizeOf a+1) (a,())
noncomputable def On:KS U prog:=⟨.fn 109 [t4] q0 λa=>lq a.1,Cb (K:=K) (A_s:=[t4]) (r:= .one y0) (B:=λrec a=>jx rec a.1) LR 48 [.tmp 2] [zx,Za] (fk f109 [] func109) (hF:=λa=>⟨_,rfl⟩)⟩
def bQ(a:aq):Y Int:=(jv (ao a)).bind λb=>(oO (decide (4<b)) ((ki (ao a)).bind λc=>some (decide (200<c)))).bind λd=>bif d then some 3 else(lq (ao a)).bind some
def dS:=kf func59 [t4] q0 (u1 bQ) [] .e [Oo,P9,On]
noncomputable def bA(a:ah):Y Bool:=some (nF false a.ai 0 a.Value bE)
def bY:=kf func181 [t2] q1 (u1 bA) [] .e []
noncomputable def xI(a:Int):Y Bool:=some (!decide (a=a))
def TA:=kf func222 [t0] q1 (u1 xI) [] .e []
def fJ(a:Int)(b:Int):Y Int:=(xI a).bind λd=>(xI b).bind λc=>bif d then bif c then some 0 else some (-1:Int)else bif c then some 1 else bif decide (a<b)then some (-1:Int)else bif decide (b<a)then some 1 else some 0
def nW:=kf func162 [t0,t0] q0 (u2 fJ) [] .e [TA]
noncomputable def ur(a:C):Y Bool:=some (!decide (a=a))
def MO:=kf func323 [t3] q1 (u1 ur) [] .e []
def nU(a:C)(b:C):Y Int:=(ur a).bind λd=>(ur b).bind λc=>bif d then bif c then some 0 else some (-1:Int)else bif c then some 1 else bif (nf a b)then some (-1:Int)else bif (!(nf a b||decide (a=b)))then some 1 else some 0
def B5:=kf func289 [t3,t3] q0 (u2 nU) [] .e [MO]
noncomputable def pM(b:Z Int):Y Int:=aE (λ(a:Int×Unit)=>bif decide (a.1<(b.length:Int))then(idx b a.1).bind λc=>bif (!decide (c=0))then oR (some c)else some (inl ((aC .i64 a.1 1),()))else oR (some 0)) (0,())
def B4:=kf func288 [t14] q0 (u1 pM) [] (p_ 5 11 (.j ⟨[.val 8 y0],[3,6,7]⟩ .e)) []
def iQ(a:C)(b:C):Y Int:=(fJ (ByteArray.size a:Int) (ByteArray.size b:Int)).bind λc=>(nU a b).bind λd=>(pM [c,d]).bind some
def zu:=kf func361 [t3,t3] q0 (u2 iQ) [] .e [nW,B5,B4]
def rl(a:ah)(b:ah):Y Int:=(fJ a.ai b.ai).bind λc=>(iQ a.Value b.Value).bind λd=>(pM [c,d]).bind some
def EK:=kf func320 [t2,t2] q0 (u2 rl) [] .e [nW,zu,B4]
def eY(a:ah)(b:ah):Y Bool:=(rl a b).bind λc=>some (decide (c<0))
def kT:=kf func278 [t2,t2] q1 (u2 eY) [] .e [EK]
noncomputable def ct(a:ah)(b:ah):Y Bool:=some (decide (a.Value=b.Value))
def dM:=kf func232 [t2,t2] q1 (u2 ct) [] .e []
noncomputable def jQ(a:ah):Y Bool:=(aO (decide (1<=a.ai)) (some (decide (a.ai<=1000)))).bind λb=>(oO b (some (decide (a.ai=1000000)))).bind λc=>(aO c (some (decide (1<=(ByteArray.size a.Value:Int))))).bind λd=>(aO d (some (decide ((ByteArray.size a.Value:Int)<=200)))).bind some
def tN:=kf func231 [t2] q1 (u1 jQ) [] .e []
def pK(a:ah):Y Bool:=(jQ a).bind λb=>(aO b (some (decide (a.ai<=1000)))).bind some
def DX:=kf func230 [t2] q1 (u1 pK) [] .e [tN]
end Go.Proofs.YtofedieniojipaaGreat
end
