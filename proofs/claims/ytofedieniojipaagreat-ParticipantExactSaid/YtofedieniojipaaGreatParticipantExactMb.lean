/-
  Texts made small by a program (see NOTES). Conditions: those that each theorem names.
-/
import Derived.Test.YtofedieniojipaaGreatParticipantExactMa
set_option linter.unusedVariables false
set_option linter.defProp false
set_option linter.unusedSimpArgs false
set_option linter.unusedSectionVars false
set_option maxHeartbeats 2000000
open Int (toNat)
open Sum (inl inr)
open List (replicate)
noncomputable section
namespace Go.TQ
section
structure TU where
 Ty:Type
 deq:DecidableEq Ty
 den:Ty->Type
 pv:(t:Ty)->den t->List PV
 size:Ty->Nat
 agg:Ty->Bool
 plain:Ty->Bool
inductive KV (U:TU) where
 |any
 |undef
 |int (k:IntKind) (n:Int)
 |bool (b:Bool)
 |iD
 |str (s:ByteArray)
 |nj
 |eV
 |bJ (f:FuncId) (caps:List (KV U))
 |kP (f:FuncId) (first:List (KV U))
 |agg (cs:List (KV U))
 |ff (cs:List (KV U))
 |ptr (id aw off:Nat)
 |ref (cs:List (KV U))
 |sl (T:U.Ty) (xs:List (U.den T))
 |own (id aw:Nat)
 |fK (id aw k i off:Nat)
 |view (id aw k lo n:Nat)
 |og (A B:U.Ty) (xs:List (U.den A×U.den B))
def fo{U:TU}(T:U.Ty)(v:U.den T):PV:=
 match U.agg T with
 |true=> .agg (U.pv T v)
 |false=>(U.pv T v).headD .any
section
variable{U:TU}
mutual
def KV.pv:KV U->PV
 | .any=> .any
 | .undef=> .undef
 | .int k n=> .int k n
 | .bool b=> .bool b
 | .iD=> .iD
 | .str s=> .str s
 | .nj=> .nj
 | .eV=> .eV
 | .bJ f cs=> .bJ f (KV.KQ cs)
 | .kP f cs=> .kP f (KV.KQ cs)
 | .agg cs=> .agg (KV.KQ cs)
 | .ff cs=> .ff (KV.KQ cs)
 | .ptr id aw off=> .ptr id aw off
 | .ref cs=> .ref (KV.KQ cs)
 | .sl T xs=> .sl (xs.map (U.pv T))
 | .own id aw=> .own id aw
 | .fK id aw k i off=> .fK id aw k i off
 | .view id aw k lo n=> .view id aw k lo n
 | .og A B xs=> .og (xs.map λp=>fo A p.1) (xs.map λp=>fo B p.2)
def KV.KQ:Z (KV U)->Z PV
 |[]=>[]
 |x::l=>KV.pv x::KV.KQ l
end
def KV.dm:∀(l:Z (KV U)),KV.KQ l=l.map KV.pv
 |[]=>by simp[KV.KQ]
 |x::l=>by simp[KV.KQ,KV.dm l]
inductive eF (U:TU) where
 |dead
 |box (cs:List (KV U))
 |row (e k:Nat) (T:U.Ty) (xs:List (U.den T))
 |raw (e k:Nat) (es:List (List (KV U)))
structure dJ (U:TU) where
 aw:Nat
 c:eF U
structure bb (U:TU) where
 env:Nat->KV U
 H:Nat->dJ U
 N:Nat
def eF.pv:eF U->zO
 | .dead=> .dead
 | .box cs=> .box (cs.map KV.pv)
 | .row e k T xs=> .row e k (xs.map (U.pv T))
 | .raw e k es=> .row e k (es.map λc=>c.map KV.pv)
def dJ.pv(o:dJ U):gU:=⟨o.aw,o.c.pv⟩
def bb.st(S:bb U):St:=⟨λt=>(S.env t).pv,λid=>(S.H id).pv,S.N⟩
def jd{α:Type}(f:Nat->α)(i:Nat)(x:α)(j:Nat):α:=
 match Nat.beq j i with
 |true=>x
 |false=>f j
theorem eC{α:Type}(f:Nat->α)(i:Nat)(x:α):jd f i x=bZ f i x:=by
 funext j
 unfold jd bZ;split
 .rename_i h;rw[Qe (Qp h)]
 .rename_i h;rw[Qg (qbT h)]
def bb.cY(S:bb U)(d:Y Nat)(x:KV U)(wr:Y (Nat×dJ U)):bb U:=
 {env:=match d with|some d=>jd S.env d x|none=>S.env,H:=match wr with|some (id,o)=>jd S.H id o|none=>S.H,N:=S.N}
def mu(p:Nat×dJ U):Nat×gU:=(p.1,p.2.pv)
def td{α β:Type}(g:α->β)(f:Nat->α)(i:Nat)(x:α):(λj=>g (bZ f i x j))=bZ (λj=>g (f j)) i (g x):=by
 funext j
 unfold bZ;split<;>rfl
def Iv(S:bb U)(d:Y Nat)(x:KV U)(wr:Y (Nat×dJ U)):(S.cY d x wr).st=S.st.cY d x.pv (wr.map mu):=by
 unfold bb.cY St.cY bb.st;congr 1
 .cases d with
  |none=>rfl
  |some d=>simp[eC];exact td _ _ _ _
 .cases wr with
  |none=>rfl
  |some p=>let⟨i,o⟩:=p;simp[eC,Qo,mu];exact td _ _ _ _
abbrev Lk(U:TU):=Nat->Nat->(T:U.Ty)->Y (Z (U.den T))
def DA{U:TU}(b T:U.Ty)(xs:Z (U.den b)):Y (Z (U.den T)):=
 match U.deq b T with
 |isTrue h=>some (h▸xs)
 |isFalse _=>none
def rC{b T:U.Ty}{xs:Z (U.den b)}{d:Z (U.den T)}(h:DA b T xs=some d):∃e:b=T,d=e▸xs:=by
 unfold DA at h;split at h
 .grind
 .cases h
def bb.lk(S:bb U):Lk U:=λid aw T=>
 match Nat.beq (S.H id).aw aw with
 |true=>match(S.H id).c with
  | .row _ _ b xs=>DA b T xs
  |_=>none
 |false=>none
def vh:Lk U:=λ_ _ _=>none
def agR(k:IntKind):KV U->Y Int
 | .int k' n=>if k'=k then some n else none
 |_=>none
def M8:KV U->Y Bool
 | .bool b=>some b
 |_=>none
def agQ:KV U->Y C
 | .str s=>some s
 |_=>none
def ZI(lk:Lk U)(T:U.Ty):KV U->Y (Z (U.den T))
 | .eV=>some []
 | .sl b xs=>DA b T xs
 | .own id aw=>lk id aw T
 |_=>none
inductive rn (lk:Lk U):KV U->PV->Prop where
 |int (k:IntKind) (n:Int):rn lk (.int k n) (.int k n)
 |bool (b:Bool):rn lk (.bool b) (.bool b)
 |str (s:ByteArray):rn lk (.str s) (.str s)
 |eV:rn lk .eV (.sl [])
 |sl (T:U.Ty) (xs:List (U.den T)):rn lk (.sl T xs) (.sl (xs.map (U.pv T)))
 |own (id aw:Nat) (T:U.Ty) (xs:List (U.den T)) (h:lk id aw T=some xs):rn lk (.own id aw) (.sl (xs.map (U.pv T)))
 |og (A B:U.Ty) (xs:List (U.den A×U.den B)):rn lk (.og A B xs) (.og (xs.map λp=>fo A p.1) (xs.map λp=>fo B p.2))
def ajH{lk:Lk U}{k:IntKind}{x:KV U}{n:Int}(h:agR k x=some n):rn lk x (.int k n):=by
 unfold agR at h;split at h
 .split at h
  .rename_i e;injection h with h;subst h e;exact .int _ _
  .cases h
 .cases h
def ajJ{lk:Lk U}{x:KV U}{b:Bool}(h:M8 x=some b):rn lk x (.bool b):=by
 unfold M8 at h;split at h
 .cases h;exact .bool _
 .cases h
def ajF{lk:Lk U}{x:KV U}{s:C}(h:agQ x=some s):rn lk x (.str s):=by
 unfold agQ at h;split at h
 .cases h;exact .str _
 .cases h
def ajG{lk:Lk U}{T:U.Ty}{x:KV U}{xs:Z (U.den T)}(h:ZI lk T x=some xs):rn lk x (.sl (xs.map (U.pv T))):=by
 unfold ZI at h;split at h
 .cases h;exact .eV
 .obtain⟨e,rfl⟩:=rC h;subst e;exact .sl _ _
 .exact .own _ _ _ _ h
 .cases h
def PV.gJ:PV->Bool
 | .int ..| .bool _| .str _| .sl _| .og ..=>true
 |_=>false
inductive js (lk:Lk U):List (KV U)->List PV->Prop where
 |nil:js lk [] []
 |cons {x:KV U} {y:PV} {xs:List (KV U)} {ys:List PV} (h:rn lk x y) (t:js lk xs ys):js lk (x::xs) (y::ys)
structure TK (U:TU) where
 gu:(t:U.Ty)->U.den t->List (KV U)
 dec:(t:U.Ty)->Lk U->List (KV U)->Option (U.den t)
 XX:Nat->Option U.Ty
 wO:∀t v,(gu t v).map KV.pv=U.pv t v
 qT:∀t lk cs v,dec t lk cs=some v->js lk cs (U.pv t v)
 len:∀t v,(U.pv t v).length=U.size t
 gJ:∀t v y,y∈U.pv t v->y.gJ=true
 one:∀t,U.agg t=false->U.size t=1
 plain:∀t,U.plain t=true->∀v y,y∈U.pv t v->y.plain=true
 YR:U.Ty->Option (IntKind×IntKind)
 UT:∀t k l,YR t=some (k,l)->U.agg t=true/\∀v,∃a b,gu t v=[.int k a,.int l b]
variable(K:TK U)
def CK(T:U.Ty)(v:U.den T):KV U:=
 match U.agg T with
 |true=> .agg (K.gu T v)
 |false=>(K.gu T v).headD .any
def G1(lk:Lk U)(T:U.Ty)(x:KV U):Y (U.den T):=
 match U.agg T with
 |true=>(match x with| .agg cs=>K.dec T lk cs|_=>none)
 |false=>K.dec T lk [x]
def Fv(T:U.Ty)(v:U.den T):(CK K T v).pv=fo T v:=by
 unfold CK fo;split
 .simp[KV.pv,KV.dm,K.wO]
 .rename_i h;have d:=K.len T v;rw[K.one T h]at d;have b:=K.wO T v
  cases he:K.gu T v with
  |nil=>rw[he]at b;simp at b;rw[b]at d;simp at d
  |cons x l=>rw[he]at b;rw[<-b];rfl
def PV.dR:PV->Bool
 | .int ..| .bool _| .str _| .nj| .eV| .any| .bJ _ []=>true
 |_=>false
def KV.KT:PV->KV U
 | .int k n=> .int k n
 | .bool b=> .bool b
 | .str s=> .str s
 | .nj=> .nj
 | .eV=> .eV
 | .bJ f []=> .bJ f []
 |_=> .any
def bD.dR:bD->Bool
 | .tmp _=>true
 | .Bp x=>x.dR
def bD.dv(S:bb U):bD->KV U
 | .tmp t=>S.env t
 | .Bp x=>KV.KT x
def w8{S:bb U}{x:bD}(h:x.dR=true):x.val S.st=(x.dv S).pv:=by
 cases x with
 |tmp t=>rfl
 |Bp x=>simp[bD.dR]at h;unfold PV.dR at h;split at h<;>first|rfl|(cases h)
def KV.cells:KV U->Z (KV U)
 | .agg cs=>cs
 |x=>[x]
def KV.one:KV U->Bool
 | .int ..| .bool _| .iD| .str _| .nj| .eV| .bJ ..| .kP ..| .ptr ..| .fK ..| .ref _| .sl ..| .own ..| .view ..| .og ..=>true
 |_=>false
def KV.closed:KV U->Bool
 | .int ..| .bool _| .str _| .nj| .eV| .sl ..| .ref _| .og ..| .bJ _ []=>true
 |_=>false
def KV.bP:KV U->Bool
 | .agg cs| .ff cs| .bJ _ cs=>cs.all KV.closed
 |x=>x.closed
def ak6(x:KV U):x.pv.one=x.one:=by
 cases x with
 |_=>simp[KV.pv,PV.one,KV.one]
def afn(x:KV U):x.pv.closed=x.closed:=by
 cases x with
 |bJ f cs=>cases cs<;>simp[KV.pv,KV.KQ,PV.closed,KV.closed]
 |_=>simp[KV.pv,PV.closed,KV.closed]
def AV(x:KV U):x.pv.cells=x.cells.map KV.pv:=by
 cases x with
 |_=>simp[KV.pv,PV.cells,KV.cells,KV.dm]
def tl(l:Z (KV U)):(l.map KV.pv).all PV.closed=l.all KV.closed:=by
 induction l with
 |nil=>rfl
 |cons x l b=>simp only[Qy,Q3,afn,b]
def zd(l:Z (KV U)):(l.map KV.pv).all PV.one=l.all KV.one:=by
 induction l with
 |nil=>rfl
 |cons x l b=>simp only[Qy,Q3,ak6,b]
def adu(x:KV U):x.pv.bP=x.bP:=by
 cases x with
 |agg cs|ff cs|bJ f cs=>simp only[KV.pv,PV.bP,KV.bP,KV.dm];exact tl cs
 |_=>simp[KV.pv,PV.bP,KV.bP,PV.closed,KV.closed]
end
end
section
open Go.RowKit
section
variable{P:Pr}{nt:Nat}{hs:Z Nat}
def D9{c:Code}{x y:SC}(h:aZ P nt hs c=some (.seq x y)):∃p q,c= .seq p q/\aZ P nt hs p=some x/\aZ P nt hs q=some y:=by
 cases c with
 |seq p q=>
  simp only[aZ]at h;split at h
  .rename_i j i e b;injection h with h
   injection h with h1 f
   subst h1 f;exact⟨p,q,rfl,e,b⟩
  .cases h
 |region id ops d=>cases d<;>simp only[aZ]at h<;>(try split at h)<;>(try split at h)<;>(try split at h)<;>cases h
 |cond c x y=>simp only[aZ]at h;split at h<;>cases h
 |block id c|loop c=>simp only[aZ,Qq]at h;obtain⟨_,_,h⟩:=h;cases h
 |rangeFunc g ps x y=>simp only[aZ]at h;split at h<;>(try split at h)<;>cases h
 |_=>simp only[aZ]at h<;>cases h
def T9{c:Code}{o:bD}{x y:SC}(h:aZ P nt hs c=some (.cond o x y)):∃b p q,c= .cond b p q/\bK b=some o/\aZ P nt hs p=some x/\aZ P nt hs q=some y:=by
 cases c with
 |cond b p q=>
  simp only[aZ]at h;split at h
  .rename_i n m l i f e;injection h with h
   injection h with h1 k j
   subst h1 k j;exact⟨b,p,q,rfl,i,f,e⟩
  .cases h
 |region id ops d=>cases d<;>simp only[aZ]at h<;>(try split at h)<;>(try split at h)<;>(try split at h)<;>cases h
 |seq x y=>simp only[aZ]at h;split at h<;>cases h
 |block id c|loop c=>simp only[aZ,Qq]at h;obtain⟨_,_,h⟩:=h;cases h
 |rangeFunc g ps x y=>simp only[aZ]at h;split at h<;>(try split at h)<;>cases h
 |_=>simp only[aZ]at h<;>cases h
def Pv{c:Code}{id:Nat}{x:SC}(h:aZ P nt hs c=some (.block id x)):∃p,c= .block id p/\aZ P nt hs p=some x:=by
 cases c with
 |block j p=>
  simp only[aZ,Qq]at h;obtain⟨f,b,h⟩:=h;injection h with h1 e
  subst h1 e;exact⟨p,rfl,b⟩
 |region id ops d=>cases d<;>simp only[aZ]at h<;>(try split at h)<;>(try split at h)<;>(try split at h)<;>cases h
 |seq x y|cond c x y=>simp only[aZ]at h;split at h<;>cases h
 |loop c=>simp only[aZ,Qq]at h;obtain⟨_,_,h⟩:=h;cases h
 |rangeFunc g ps x y=>simp only[aZ]at h;split at h<;>(try split at h)<;>cases h
 |_=>simp only[aZ]at h<;>cases h
def adw{c:Code}{x:SC}(h:aZ P nt hs c=some (.loop x)):∃p,c= .loop p/\aZ P nt hs p=some x:=by
 cases c with
 |loop p=>
  simp only[aZ,Qq]at h;obtain⟨e,b,h⟩:=h;injection h with h1
  subst h1;exact⟨p,rfl,b⟩
 |region id ops d=>cases d<;>simp only[aZ]at h<;>(try split at h)<;>(try split at h)<;>(try split at h)<;>cases h
 |seq x y|cond c x y=>simp only[aZ]at h;split at h<;>cases h
 |block id c=>simp only[aZ,Qq]at h;obtain⟨_,_,h⟩:=h;cases h
 |rangeFunc g ps x y=>simp only[aZ]at h;split at h<;>(try split at h)<;>cases h
 |_=>simp only[aZ]at h<;>cases h
def WY{c:Code}{e:Z SG}(h:aZ P nt hs c=some (.vW e)):∃id ops,c= .region id ops false/\ops.toList.mapM (yq P hs ops)=some e/\∀o∈ops.toList,∀t,o.dst=some t->t<nt:=by
 cases c with
 |region id ops d=>
  cases d with
  |true=>simp only[aZ]at h;(try split at h)<;>(try split at h)<;>(try split at h)<;>cases h
  |false=>
   simp only[aZ]at h;split at h
   .rename_i i b;split at h
    .rename_i f;injection h with h
     injection h with h
     subst h;exact⟨id,ops,rfl,b,T0 f⟩
    .cases h
   .cases h
 |seq x y|cond c x y=>simp only[aZ]at h;split at h<;>cases h
 |block id c|loop c=>simp only[aZ,Qq]at h;obtain⟨_,_,h⟩:=h;cases h
 |rangeFunc g ps x y=>simp only[aZ]at h;split at h<;>(try split at h)<;>cases h
 |_=>simp only[aZ]at h<;>cases h
def adx{c:Code}{id:Nat}(h:aZ P nt hs c=some (.exit id)):c= .exit id:=by
 cases c with
 |exit j=>simp only[aZ,Qk,SC.exit.injEq]at h;rw[h]
 |region id ops d=>cases d<;>simp only[aZ]at h<;>(try split at h)<;>(try split at h)<;>(try split at h)<;>cases h
 |seq x y|cond c x y=>simp only[aZ]at h;split at h<;>cases h
 |block id c|loop c=>simp only[aZ,Qq]at h;obtain⟨_,_,h⟩:=h;cases h
 |rangeFunc g ps x y=>simp only[aZ]at h;split at h<;>(try split at h)<;>cases h
 |_=>simp only[aZ]at h<;>cases h
def T8{c:Code}(h:aZ P nt hs c=some .skip):c= .skip:=by
 cases c with
 |skip=>rfl
 |region id ops d=>cases d<;>simp only[aZ]at h<;>(try split at h)<;>(try split at h)<;>(try split at h)<;>cases h
 |seq x y|cond c x y=>simp only[aZ]at h;split at h<;>cases h
 |block id c|loop c=>simp only[aZ,Qq]at h;obtain⟨_,_,h⟩:=h;cases h
 |rangeFunc g ps x y=>simp only[aZ]at h;split at h<;>(try split at h)<;>cases h
 |_=>simp only[aZ]at h<;>cases h
def afp{c:Code}(h:aZ P nt hs c=some .ret):c= .ret:=by
 cases c with
 |ret=>rfl
 |region id ops d=>cases d<;>simp only[aZ]at h<;>(try split at h)<;>(try split at h)<;>(try split at h)<;>cases h
 |seq x y|cond c x y=>simp only[aZ]at h;split at h<;>cases h
 |block id c|loop c=>simp only[aZ,Qq]at h;obtain⟨_,_,h⟩:=h;cases h
 |rangeFunc g ps x y=>simp only[aZ]at h;split at h<;>(try split at h)<;>cases h
 |_=>simp only[aZ]at h<;>cases h
def kH{α β:Type}{f:α->Y β}{l:Z α}{y:β}{ys:Z β}(h:l.mapM f=some (y::ys)):∃x xs,l=x::xs/\f x=some y/\xs.mapM f=some ys:=by
 cases l with
 |nil=>simp at h
 |cons x xs=>simp only[qaa,Qu,Qm,qaf,Qk,List.cons.injEq]at h;obtain⟨z,d,e,b,rfl,rfl⟩:=h;exact⟨x,xs,rfl,d,b⟩
def Mo{α β:Type}{f:α->Y β}{l:Z α}(h:l.mapM f=some []):l=[]:=by
 cases l with
 |nil=>rfl
 |cons x xs=>simp only[qaa,Qu,Qm,qaf,Qk]at h;obtain⟨z,e,d,b,h⟩:=h;cases h
def WW{o:Oper}{f:bD}{xs:Z bD}(h:Hv P hs o=some (.wC f xs)):∃(g:Od) (args:Array Od) (i:Array TI),o.op= .call {callee:= .value g,args:=args,argTypes:=i}/\bK g=some f/\args.toList.mapM bK=some xs:=by
 unfold Hv at h;split at h
 case h_22 k args l d=>
  simp only[Qu,Qm]at h;obtain⟨m,b,h⟩:=h;split at h
  .cases h
  .simp only[Qm,Qk,cU.wC.injEq]at h;obtain⟨j,e,rfl,rfl⟩:=h;exact⟨_,_,_,d,e,b⟩
 all_goals (repeat' (first|(cases h;done)|split at h|(simp only[Qu,Qm]at h;obtain⟨_,_,h⟩:=h)|(obtain⟨_,_,h⟩:=h)))
def AT{x:Od}{t:Nat}(h:bK x=some (.tmp t)):x= .tmp t:=by
 cases x with
 |tmp u=>simp only[bK,Qk,bD.tmp.injEq]at h;rw[h]
 |const v=>simp only[bK,Qq]at h;obtain⟨_,_,h⟩:=h;cases h
 |global g|func f=>simp[bK]at h
end
def GC(k:Nat)(b:Y Nat):SC:=
 .seq (.vW [⟨some 4,none,.load none (.tmp 1)⟩,⟨some 5,none,.len false (.tmp 4)⟩,⟨some 6,none,.bin .sub (.tmp 5) (.Bp (.int .i64 1))⟩,⟨some 3,none,.sw (.tmp 6)⟩])
  (.block 0 (.loop (.seq (.seq (.vW [⟨some 7,none,.sw (.tmp 3)⟩,⟨some 8,none,.bin .geq (.tmp 7) (.Bp (.int .i64 0))⟩]) (.cond (.tmp 8) .skip (.exit 0)))
   (.seq (.block 1 (.seq (.vW [⟨some 11,none,.sw (.tmp 0)⟩,⟨some 12,none,.sw (.tmp 3)⟩,⟨some 13,none,.load none (.tmp 1)⟩,⟨some 14,none,.sw (.tmp 3)⟩,⟨some 15,none,.wu k (.tmp 13) (.tmp 14)⟩,
    ⟨some 16,none,.load b (.tmp 15)⟩,⟨some 17,none,.wC (.tmp 11) [.tmp 12,.tmp 16]⟩,⟨some 18,none,.not (.tmp 17)⟩]) (.cond (.tmp 18) .ret .skip)))
    (.vW [⟨some 9,none,.sw (.tmp 3)⟩,⟨some 10,none,.bin .sub (.tmp 9) (.Bp (.int .i64 1))⟩,⟨some 3,none,.sw (.tmp 10)⟩])))))
section
variable{P:Pr}
def vg:sF:=λ_=>none
def YF:rE P vg:=λ_ _ h=>by cases h
def X6{Γ:sF}(d:rE P Γ){E:En}{hs:Z Nat}{ops:Array Oper}{q:Z Oper}:∀(l:Z Oper) (e:Z SG) (nid:Nat) (S S':St) (a:Act) (w:Wo) (L:Nat->Va),l.mapM (yq P hs ops)=some e->Rel E S a w L->nid+l.length<=S.N->
  (∀o∈l,∀t,o.dst=some t->E.can t)->Ej Γ nid e S=some S'->∀{Q:Exit->Act->Wo->Prop},(∀a' w' p,Rel E S' a' w' p->wpListIn (WF E.rd) 0 P ops Q q a' w')->wpListIn (WF E.rd) 0 P ops Q (l++q) a w
 |[],e,nid,S,S',a,w,L,hm,h,m,j,b,Q,k=>by simp at hm;subst hm;simp only[Ej,Qk]at b;subst b;exact k a w L h
 |o::l,e,nid,S,S',a,w,L,hm,h,m,j,b,Q,k=>by
  simp only[qaa,Qu,Qm,qaf,Qk]at hm;obtain⟨g,s,n,i,rfl⟩:=hm;simp only[Ej]at b;split at b
  .rename_i x hs;rw[List.cons_append];refine qa5 λK u=> ?_
   refine Bg d s h (by simp at m;omega) (j o t_) hs (λa' w' p v=>u _ _ ?_)
   exact X6 d l n (nid+1) x S' a' w' p i v (by rw[ahv hs];simp at m;omega) (λr f=>j r (by simp[f])) b k
  .cases b
def EB(nt:Nat)(W:Wo)(X:Nat->Prop)(hX:zw W X)(kt:Nat->Y Va):En:=
 {w0:=W,rb:=none,nt:=nt,X:=X,H0:=λ_=>False,hX:=⟨λb d=>hX.lt b d.1,λb d=>hX.ng b d.1,hX.gi⟩,Rs:=false,rv:=undef,rk:=false,EL:=λb d=>(by cases d),TE:=λh=>(by cases h),rd:=none,nd:=true,kt:=kt,wk:={W with heap:=#[]},wm:=W,M0:=λ_=>True}
def SB(env:Nat->PV):St:={env:=env,H:=λ_=>⟨0,.dead⟩,N:=8}
def XC{nt:Nat}{W:Wo}{X:Nat->Prop}(hX:zw W X){kt:Nat->Y Va}{env:Nat->PV}{a:Act}{L:Nat->Va}(k:a.defers=[])(hs:a.tmps.size=nt)(f:∀t v,kt t=some v->a.tmps.getD t undef=v)
  (g:∀t,bp W X dz (env t) (a.tmps.getD t undef)):Rel (EB nt W X hX kt) (SB env) a W L:=by
 have m:∀b,bn (EB nt W X hX kt) (SB env) L b->X b:=by
  rintro b (⟨id,_,d,_⟩|h)
  .cases d
  .exact h
 exact⟨Marks.nil k,⟨hs,f⟩,λt=>(g t).mono (dp.of λ_ e=>λh=>e (m _ h)) (dz.le _),λ_ _=>trivial,λi j b _ _ hi=>(by cases hi),λ_ _=>rfl,⟨Fr.refl _ _,FB rfl⟩,λh=>(by cases h),Kept.top _ _ _,(λ_ _ _ d=>by cases d),λb l=>l.elim⟩
structure BF (y c:Value) (i:Int) (a:Act):Prop where
 defers:a.defers=[]
 size:a.tmps.size=19
 y:a.tmps.getD 0 undef=y
 c:a.tmps.getD 1 undef=c
 i:a.tmps.getD 3 undef= .int .i64 i
def DQ(y c:Va)(t:Nat):Y Va:=if t=0 then some y else if t=1 then some c else none
def FX{nt:Nat}{W W':Wo}{X:Nat->Prop}{hX:zw W X}{kt:Nat->Y Va}{S:St}{a:Act}{L:Nat->Va}(h:Rel (EB nt W X hX kt) S a W' L):Fr none W W':=h.fr.toFr
def N8{hs:Z Nat}{ops:Array Oper}{p:Nat->Prop}:∀{l:Z Oper} {f:Z SG},l.mapM (yq P hs ops)=some f->(∀g∈f,∀t,g.d=some t->p t)->∀o∈l,∀t,o.dst=some t->p t
 |[],_,_,_=>t_
 |x::l,f,h,j=>by
  simp only[qaa,Qu,Qm,qaf,Qk]at h;obtain⟨g,e,k,d,rfl⟩:=h;intro o b t i;rcases Qv.1 b with rfl|b
  .exact j g QC t (by rw[(Na e).2.1];exact i)
  .exact N8 d (λg e=>j g (QI _ e)) o b t i
def Gy(es:Z (Z PV))(x:Nat->PV)(t:Nat):PV:=if t=1 then .ref [.sl es]else x t
variable{hs:Z Nat}{es:Z (Z PV)}{y c:Va}{W:Wo}{X:Nat->Prop}{hX:zw W X}{a:Act}
def BF.env{i:Int}(h:BF y c i a)(b:bp W X dz (.ref [.sl es]) c)(t:Nat):bp W X dz (Gy es (λt=>if t=3 then .int .i64 i else .any) t) (a.tmps.getD t undef):=by
 unfold Gy;split
 .rename_i e;rw[e,h.c];exact b
 .simp only;split
  .rename_i e;rw[e,h.i];exact .int _ _
  .exact .any _
def BF.kt{i:Int}(h:BF y c i a)(t:Nat)(v:Va)(hv:DQ y c t=some v):a.tmps.getD t undef=v:=by
 unfold DQ at hv;split at hv
 .rename_i e;injection hv with hv;rw[e,h.y,hv]
 .split at hv
  .rename_i e;injection hv with hv;rw[e,h.c,hv]
  .cases hv
def BF.rel{i:Int}(h:BF y c i a)(b:bp W X dz (.ref [.sl es]) c)(L:Nat->Va):Rel (EB 19 W X hX (DQ y c)) (SB (Gy es λt=>if t=3 then .int .i64 i else .any)) a W L:=
 XC hX h.defers h.size h.kt (h.env b)
def acw{c0:Code}{b:Z SG}(e:aZ P 19 hs c0=some (.vW b)){env:Nat->PV}{S':St}(j:b.length<=8)(m:∀g∈b,∀t,g.d=some t->t≠0/\t≠1){L:Nat->Va}(h:Rel (EB 19 W X hX (DQ y c)) (SB env) a W L)
  (l:Ej vg 0 b (SB env)=some S') {Q:Exit->Act->Wo->Prop} (n:∀a' k q,Rel (EB 19 W X hX (DQ y c)) S' a' k q->Q .normal a' k):c0.wpIn (WF none) 0 P Q a W:=by
 obtain⟨id,ops,rfl,hm,d⟩:=WY e;refine qbv ?_;have r:=z7 hm;refine JG (E:=EB 19 W X hX (DQ y c)) YF ops.toList b 0 (SB env) S' a W L hm h (by simp only[SB];omega) (λo i t f=>⟨d o i t f,?_⟩) l n
 have:=N8 (p:=λt=>t≠0/\t≠1) hm m o i t f
 show DQ y c t=none;unfold DQ;rw[Qg this.1,Qg this.2]
def BF.of{S':St}{b:Wo}{d:Nat->Va}{i:Int}{a':Act}(h:Rel (EB 19 W X hX (DQ y c)) S' a' b d)(hi:S'.env 3= .int .i64 i):BF y c i a':=by refine⟨h.defers.none rfl,h.size.1,h.size.2 0 y rfl,h.size.2 1 c rfl,?_⟩;have:=h.env 3;rw[hi]at this;exact this.jT
def akq(e:bp W X dz (.ref [.sl es]) c):es.length<=maxLen:=by
 cases e with
 |ref _ ad vs d b h=>
  cases vs with
  |nil=>simp at d
  |cons v vs=>
   have f:=h 0 (.sl es) v t_ t_
   cases f with
   |sl _ _ _ _ _ _ _ _ _ g hm=>omega
   |slnil=>simp
def wrap_small{n:Int}(h: -1<=n)(b:n<=9223372036854775807):IntKind.i64.wrap n=n:=by rw[qbS];omega
def D2(b:Y Nat)(e:Z PV):PV:=(xy b e).getD .any
structure Nv (k:Nat) (nE:Option Nat) (es:List (List PV)):Prop where
 len:∀e∈es,e.length=k
 ld:∀e∈es,xy nE e=some (D2 nE e)
 cl:∀e∈es,(D2 nE e).bP=true
def Z8(P:Pr)(l:Nat)(i:Nat)(v:Va)(W:Wo)(R:Ending->Wo->Prop):Prop:=
 ∃(fn:FI) (tmps:Array Va) (b body:Code),(Instr.yield l #[.int .i64 i,v]).run P W= .ok (.round l fn tmps b body) W/\RoundIn (WF none) 0 P l fn tmps b body W R
def af1{k:Nat}{G:Y Nat}{l:Nat}{m:Nat}(hin:Nv k G es)(hX:zw W X)(hc:bp W X dz (.ref [.sl es]) c){J0 J1:Wo->Prop}(hJ0:∀f,Fr none W f->J0 f)
  (hJ:∀f i,J1 f->Fr none f i->J1 i) {Jx:Wo->Prop} (hJx:∀f i,Jx f->Fr none f i->Jx i) (hG1:∀f,J1 f->GI f) (hGx:∀f,Jx f->GI f)
  (hr:∀(f:Wo) (e:Z PV) (v:Va),J0 f->es[m]?=some e->bp f X dz (D2 G e) v->Z8 P l m v f λen i=>(en= .returned (.bool true)/\J1 i)\/(en= .returned (.bool false)/\Jx i))
  {c0:Code} (hcc:aZ P 19 hs c0=some (.vW [⟨some 11,none,.sw (.tmp 0)⟩,⟨some 12,none,.sw (.tmp 3)⟩,⟨some 13,none,.load none (.tmp 1)⟩,⟨some 14,none,.sw (.tmp 3)⟩,⟨some 15,none,.wu k (.tmp 13) (.tmp 14)⟩,
    ⟨some 16,none,.load G (.tmp 15)⟩,⟨some 17,none,.wC (.tmp 11) [.tmp 12,.tmp 16]⟩,⟨some 18,none,.not (.tmp 17)⟩]))
  (hm:m<es.length) (hB:BF (.func (.yield l) #[] #[]) c m a) {Q:Exit->Act->Wo->Prop}
  (hQ:∀a' f b,BF (.func (.yield l) #[] #[]) c m a'->a'.tmps.getD 18 undef= .bool (!b)->(b=true->J1 f)->(b=false->Jx f)->Q .normal a' f):c0.wpIn (WF none) 0 P Q a W:=by
 obtain⟨id,ops,rfl,hmm,hlt⟩:=WY hcc;refine qbv ?_;obtain⟨A,l1,e1,g11,hm1⟩:=kH hmm;obtain⟨o12,l2,rfl,g12,hm2⟩:=kH hm1;obtain⟨o13,l3,rfl,g13,hm3⟩:=kH hm2;obtain⟨o14,l4,rfl,g14,hm4⟩:=kH hm3;obtain⟨o15,l5,rfl,g15,hm5⟩:=kH hm4;obtain⟨o16,l6,rfl,g16,hm6⟩:=kH hm5;obtain⟨o17,l7,rfl,g17,hm7⟩:=kH hm6;obtain⟨o18,l8,rfl,g18,hm8⟩:=kH hm7;have:=Mo hm8;subst this;rw[e1]at hlt ⊢
 have plain:∀{o:Oper} {d:Y Nat} {s:cU},yq P hs ops o=some ⟨d,none,s⟩->o.guard=none/\o.dst=d/\Hv P hs o=some s:=by
  intro o d s hg;obtain⟨q1,q2,q3⟩:=Na hg;rcases q3 with⟨q3,_⟩|⟨_,_,_,_,_,_,_,q⟩
  .exact⟨q3,q2.symm,q1⟩
  .cases q
 obtain⟨u1,u2,u3⟩:=plain g11
 have hmv:(A.op= .move (.tmp 0)\/A.op= .assign (.tmp 0)):=by
  unfold Hv at u3;split at u3
  case h_1 x R=>simp only[Qu,Qm,Qk,cU.sw.injEq]at u3;obtain⟨z,hz,rfl⟩:=u3;rw[AT hz]at R;exact .inl R
  case h_2 x R=>simp only[Qu,Qm,Qk,cU.sw.injEq]at u3;obtain⟨z,hz,rfl⟩:=u3;rw[AT hz]at R;exact .inr R
  all_goals (exfalso)
  all_goals (repeat' (first|(cases u3;done)|split at u3|(simp only[Qu,Qm]at u3;obtain⟨_,_,u3⟩:=u3)|(obtain⟨_,_,u3⟩:=u3)))
 refine wpListIn_plain u1 λK hK=> ?_
 have hev:a.eval (.tmp 0)= .func (.yield l) #[] #[]:=hB.y
 have step1:∀{Q':Exit->Act->Wo->Prop},K (a.put (some 11) (.func (.yield l) #[] #[])) W->A.wpIn (WF none) 0 P a W K Q':=by
  intro Q' hk;unfold Oper.wpIn;rw[qbd _ _ _ (Dy u3)]
  have B:(execOp a.eval A).run P W= .ok (.value (.func (.yield l) #[] #[])) W:=by rcases hmv with R|R<;>simp[execOp,R,hev]
  rw[B];refine⟨λ_ _=>trivial,?_⟩
  show K (a.put A.dst _) W;rw[u2];exact hk
 refine step1 (hK _ _ ?_);have hsz:(a.put (some 11) (.func (.yield l) #[] #[])).tmps.size=19:=by simp[Act.put,hB.size]
 have hne:∀t,t≠11->(a.put (some 11) (.func (.yield l) #[] #[])).tmps.getD t undef=a.tmps.getD t undef:=λt j=>PR j
 have h11:(a.put (some 11) (.func (.yield l) #[] #[])).tmps.getD 11 undef= .func (.yield l) #[] #[]:=by simp[Act.put,Q4,qaS (show 11<a.tmps.size by rw[hB.size];omega)]
 have hrel:Rel (EB 19 W X hX (λt=>if t=11 then some (.func (.yield l) #[] #[])else DQ (.func (.yield l) #[] #[]) c t)) (SB (Gy es λt=>if t=3 then .int .i64 m else .any)) (a.put (some 11) (.func (.yield l) #[] #[])) W (λ_=>undef):=by
  refine XC hX hB.defers hsz (λt v hv=> ?_) (λt=> ?_)
  .by_cases r:t=11
   .rw[Qe r]at hv;injection hv with hv;rw[r,h11,hv]
   .rw[Qg r]at hv;rw[hne t r];exact hB.kt t v hv
  .by_cases r:t=11
   .have:Gy es (λt=>if t=3 then .int .i64 m else .any) t= .any:=by rw[r];rfl
    rw[this];exact .any _
   .rw[hne t r];exact hB.env hc t
 have helt:es[m]?=some es[m]:=Qj hm;have hek:=hin.len _ (QE hm);have hld:=hin.ld _ (QE hm);have s12:zT vg 0 (SB (Gy es λt=>if t=3 then .int .i64 m else .any)) ⟨some 12,none,.sw (.tmp 3)⟩=some ((SB (Gy es λt=>if t=3 then .int .i64 m else .any)).cY (some 12) (.int .i64 m) none):=rfl
 generalize u:(SB (Gy es λt=>if t=3 then .int .i64 m else .any)).cY (some 12) (.int .i64 m) none=S1 at s12
 have s13:zT vg 1 S1 ⟨some 13,none,.load none (.tmp 1)⟩=some (S1.cY (some 13) (.sl es) none):=by subst u;rfl
 generalize D:S1.cY (some 13) (.sl es) none=S2 at s13;have s14:zT vg 2 S2 ⟨some 14,none,.sw (.tmp 3)⟩=some (S2.cY (some 14) (.int .i64 m) none):=by subst D u;rfl
 generalize M:S2.cY (some 14) (.int .i64 m) none=S3 at s14;have e13:S3.env 13= .sl es:=by subst M D u;rfl
 have e14:S3.env 14= .int .i64 m:=by subst M D u;rfl
 have s15:zT vg 3 S3 ⟨some 15,none,.wu k (.tmp 13) (.tmp 14)⟩=some (S3.cY (some 15) (.ref es[m]) none):=by simp only[zT,SG.wanted,exec,bD.val,e13,e14];rw[Qe ⟨O,O⟩];simp only[QV,helt,hek,Qr,Qo]
 generalize hS4:S3.cY (some 15) (.ref es[m]) none=S4 at s15;have e15:S4.env 15= .ref es[m]:=by subst hS4;rfl
 have s16:zT vg 4 S4 ⟨some 16,none,.load G (.tmp 15)⟩=some (S4.cY (some 16) (D2 G es[m]) none):=by simp only[zT,SG.wanted,exec,bD.val,e15,hld,Qo]
 generalize hS5:S4.cY (some 16) (D2 G es[m]) none=S5 at s16;have f12:S5.env 12= .int .i64 m:=by subst hS5 hS4 M D u;rfl
 have f16:S5.env 16=D2 G es[m]:=by subst hS5;rfl
 have f3:S5.env 3= .int .i64 m:=by subst hS5 hS4 M D u;rfl
 have B:Ej vg 0 [⟨some 12,none,.sw (.tmp 3)⟩,⟨some 13,none,.load none (.tmp 1)⟩,⟨some 14,none,.sw (.tmp 3)⟩,⟨some 15,none,.wu k (.tmp 13) (.tmp 14)⟩,⟨some 16,none,.load G (.tmp 15)⟩] (SB (Gy es λt=>if t=3 then .int .i64 m else .any))=some S5:=by simp only[Ej,s12,s13,s14,s15,s16]
 have V:[o12,o13,o14,o15,o16].mapM (yq P hs ops)=some [⟨some 12,none,.sw (.tmp 3)⟩,⟨some 13,none,.load none (.tmp 1)⟩,⟨some 14,none,.sw (.tmp 3)⟩,⟨some 15,none,.wu k (.tmp 13) (.tmp 14)⟩,⟨some 16,none,.load G (.tmp 15)⟩]:=by simp only[qaa,List.mapM_nil,g12,g13,g14,g15,g16,Qu,Qa,qaf]
 show wpListIn (WF none) 0 P ops Q ([o12,o13,o14,o15,o16]++[o17,o18]) _ W;refine X6 (E:=EB 19 W X hX _) YF _ _ 0 _ S5 _ W _ V hrel (by simp[SB]) (λo ho t j=>⟨hlt o (by simp only[Qv]at ho ⊢;right;rcases ho with h|h|h|h|h|h<;>simp_all) t j,?_⟩) B (λa5 W5 L5 N=> ?_)
 .have:=N8 (p:=λt=>t≠0/\t≠1/\t≠11) V (by intro g hg t j;simp only[Qv,QX,qaC]at hg;rcases hg with rfl|rfl|rfl|rfl|rfl<;>(injection j with j;omega)) o ho t j
  show(if t=11 then _ else DQ _ _ t)=none
  rw[Qg this.2.2];unfold DQ;rw[Qg this.1,Qg this.2.1]
 have hfr5:Fr none W W5:=FX N;have v11:a5.tmps.getD 11 undef= .func (.yield l) #[] #[]:=N.size.2 11 _ rfl;have v12:a5.tmps.getD 12 undef= .int .i64 m:=by have:=N.env 12;rw[f12]at this;exact this.jT
 have r16:bp W5 X dz (D2 G es[m]) (a5.tmps.getD 16 undef):=by have:=N.env 16;rw[f16]at this;exact this.bP (hin.cl _ (QE hm)) (λb hb=> .inr hb)
 have F:BF (.func (.yield l) #[] #[]) c m a5:=⟨N.defers.none rfl,N.size.1,N.size.2 0 _ rfl,N.size.2 1 _ rfl,by have:=N.env 3;rw[f3]at this;exact this.jT⟩
 obtain⟨fn,tmps,assign,body,hy,I⟩:=hr W5 _ _ (hJ0 W5 hfr5) helt r16;obtain⟨w1,w2,w3⟩:=plain g17;obtain⟨gv,args,ts,hop,hgv,hargs⟩:=WW w3;have hgv:=AT hgv;subst hgv;obtain⟨x12,xs,ex,hx12,hxs⟩:=kH hargs;obtain⟨x16,xs',rfl,hx16,hxs'⟩:=kH hxs;have:=Mo hxs';subst this;rw[AT hx12,AT hx16]at ex;have J:args=#[.tmp 12,.tmp 16]:=by rw[<-qaq (xs:=args),ex]
 refine wpListIn_plain w1 λK hK=> ?_
 unfold Oper.wpIn;rw[qbd _ _ _ (Dy w3)]
 have H:(execOp a5.eval o17).run P W5= .ok (.round l fn tmps assign body) W5:=by
  have q1:a5.eval (.tmp 11)= .func (.yield l) #[] #[]:=v11;simp only[execOp,hop,resolve,q1,Deferred.ofValue,QY,qaj,qac,invoke,J];have q4:a5.tmps[12]?.getD undef= .int .i64 m:=by rw[<-Q4];exact v12
  simpa[Act.eval,q4]using hy
 rw[H];refine⟨λ_ _=>trivial,(λh=>by cases h),I.mono ?_⟩
 rintro en W6 hen
 have fin:∀b:Bool,en= .returned (.bool b)->(b=true->J1 W6)->(b=false->Jx W6)->K (a5.put o17.dst (.bool b)) W6:=by
  rintro b rfl hj1 hjx;refine hK _ _ ?_;rw[w2];have hsz6:(a5.put (some 17) (.bool b)).tmps.size=19:=by simp[Act.put,F.size]
  have T:∀t,t≠17->(a5.put (some 17) (.bool b)).tmps.getD t undef=a5.tmps.getD t undef:=λt j=>PR j
  have h17:(a5.put (some 17) (.bool b)).tmps.getD 17 undef= .bool b:=by simp[Act.put,Q4,qaS (show 17<a5.tmps.size by rw[F.size];omega)]
  have hgi:GI W6:=by
   cases b with
   |true=>exact hG1 _ (hj1 rfl)
   |false=>exact hGx _ (hjx rfl)
  have hrel6:Rel (EB 19 W6 (λ_=>False) (.nil hgi) (DQ (.func (.yield l) #[] #[]) c)) (SB λt=>if t=17 then .bool b else if t=3 then .int .i64 m else .any) (a5.put (some 17) (.bool b)) W6 (λ_=>undef):=by
   refine XC _ F.defers hsz6 (λt v hv=> ?_) (λt=> ?_)
   .by_cases r:t=17
    .subst r;cases hv
    .rw[T t r];exact F.kt t v hv
   .split
    .rename_i r;rw[r,h17];exact .bool _
    .rename_i r;rw[T t r];split
     .rename_i h3;rw[h3,F.i];exact .int _ _
     .exact .any _
  have n:[o18].mapM (yq P hs ops)=some [⟨some 18,none,.not (.tmp 17)⟩]:=by simp only[qaa,List.mapM_nil,g18,Qu,Qa,qaf]
  refine JG (E:=EB 19 W6 (λ_=>False) (.nil hgi) _) YF _ _ 0 _ ((SB λt=>if t=17 then .bool b else if t=3 then .int .i64 m else .any).cY (some 18) (.bool !b) none) _ W6 _ n hrel6 (by simp[SB]) (λo ho t j=>⟨hlt o (by simp only[Qv]at ho ⊢;simp_all) t j,?_⟩) rfl (λa7 W7 L7 h7=> ?_)
  .have:=N8 (p:=λt=>t≠0/\t≠1) n (by intro g hg t j;simp only[Qv,QX,qaC]at hg;subst hg;injection j with j;omega) o ho t j
   show DQ _ _ t=none;unfold DQ;rw[Qg this.1,Qg this.2]
  .have hfr7:=FX h7;refine hQ a7 W7 b (BF.of h7 rfl) ?_ (λhb=>hJ _ _ (hj1 hb) hfr7) (λhb=>hJx _ _ (hjx hb) hfr7)
   have:=h7.env 18;have e18:((SB λt=>if t=17 then .bool b else if t=3 then .int .i64 m else .any).cY (some 18) (.bool !b) none).env 18= .bool !b:=rfl
   rw[e18]at this;exact this.qC
 rcases hen with⟨rfl,hj⟩|⟨rfl,hj⟩
 .exact fin true rfl (λ_=>hj) (λh=>by cases h)
 .exact fin false rfl (λh=>by cases h) (λ_=>hj)
def adA{f:FI}{k:Nat}{R:Y Nat}(hf:jD P f 19 (GC k R) [])(hin:Nv k R es){l:Nat}(J:Nat->(Nat->Prop)->Wo->Prop)(Jx:Wo->Prop)
  (p:∀i X W,J i X W->zw W X/\bp W X dz (.ref [.sl es]) c) (N:∀i X d h,J i X d->Fr none d h->J i X h) (hJx:∀d h,Jx d->Fr none d h->Jx h) (hGx:∀d,Jx d->GI d)
  (hr:∀(m:Nat) (X:Nat->Prop) (d:Wo) (e:Z PV) (v:Va),J (m+1) X d->es[m]?=some e->bp d X dz (D2 R e) v->Z8 P l m v d λV h=>(V= .returned (.bool true)/\∃X,J m X h)\/(V= .returned (.bool false)/\Jx h))
  (W:Wo) (T:J es.length X W):CallsIn (WF none) 0 P f #[.func (.yield l) #[] #[],c] W λV d=>(∃v,V= .returned v)/\((∃X,J 0 X d)\/Jx d):=by
 obtain⟨fn,hs,h1,h2,D,z,_⟩:=hf
 cases M:fn.body with
 |none=>rw[M]at D;cases D
 |some c0=>
 rw[M]at D;have D:aZ P 19 hs c0=some (GC k R):=D
 have G:fn.results.toList=[]:=by
  cases hq:fn.results.toList with
  |nil=>rfl
  |cons r rs=>rw[hq]at z;cases r<;>simp only[oF]at z<;>first|(split at z<;>cases z)|(simp only[Qq]at z;obtain⟨_,_,z⟩:=z;cases z)
 have j:∀(tm:Array Va) (W:Wo),(results fn tm).run P W= .ok (.tuple #[]) W:=by intro tm W;unfold results;rw[qca,G];simp
 refine callsIn_of_wp (F:=WF none) (n:=0) h1 M trivial ?_;obtain⟨cA,cB,rfl,hA,hB⟩:=D9 D;obtain⟨cL,rfl,hL⟩:=Pv hB;obtain⟨cR,rfl,hR⟩:=adw hL;obtain⟨cR1,cR2,rfl,hR1,hR2⟩:=D9 hR;obtain⟨cT,cC,rfl,hT,hC⟩:=D9 hR1;obtain⟨oc,cS,cX,rfl,hoc,hcS,hcX⟩:=T9 hC;have:=T8 hcS;subst this;have:=adx hcX;subst this;have:=AT hoc;subst this;obtain⟨cM,cN,rfl,hM,hN⟩:=D9 hR2;obtain⟨cM2,rfl,hM2⟩:=Pv hM;obtain⟨cG,cH,rfl,hG,hH⟩:=D9 hM2;obtain⟨od,cV,cK,rfl,hod,hcV,hcK⟩:=T9 hH;have:=afp hcV;subst this;have:=T8 hcK;subst this;have:=AT hod;subst this;have H:=akq (p _ _ _ T).2;simp only[maxLen]at H
 have o:∀t,(#[Value.func (.yield l) #[] #[],c]++Array.replicate (fn.ntmps - (#[Value.func (.yield l) #[] #[],c]:Array Va).size) undef).getD t undef=if t=0 then .func (.yield l) #[] #[]else if t=1 then c else undef:=by
  intro t;rw[h2,Q4,qaW]
  match t with
  |0|1=>rfl
  |t+2=>simp only[List.size_toArray,QN,qay];rw[Qg O,Qg O,Qg O,qbu];split<;>rfl
 refine qa6 ?_
 have A:Rel (EB 19 W X (p _ _ _ T).1 (DQ (.func (.yield l) #[] #[]) c)) (SB (Gy es λ_=> .any)) {tmps:=#[Value.func (.yield l) #[] #[],c]++Array.replicate (fn.ntmps - (#[Value.func (.yield l) #[] #[],c]:Array Va).size) undef,defers:=[]} W (λ_=>undef):=by
  refine XC _ rfl (by simp[h2]) (λt v hv=> ?_) (λt=> ?_)
  .simp only;rw[o t];unfold DQ at hv;split at hv
   .rename_i e;rw[Qe e];injection hv
   .rename_i e;rw[Qg e];split at hv
    .rename_i e';rw[Qe e'];injection hv
    .cases hv
  .simp only;rw[o t];unfold Gy;split
   .rename_i e;subst e;exact(p _ _ _ T).2
   .exact .any _
 have dA:∀g∈[(⟨some 4,none,.load none (.tmp 1)⟩:SG),⟨some 5,none,.len false (.tmp 4)⟩,⟨some 6,none,.bin .sub (.tmp 5) (.Bp (.int .i64 1))⟩,⟨some 3,none,.sw (.tmp 6)⟩],∀t,g.d=some t->t≠0/\t≠1:=by intro g x t u;simp only[Qv,QX,qaC]at x;rcases x with rfl|rfl|rfl|rfl<;>(injection u with u;omega)
 refine acw hA t_ dA A rfl λa1 W1 L1 r1=> ?_
 have hJ1:J es.length X W1:=N _ _ _ _ T (FX r1)
 have b1:BF (.func (.yield l) #[] #[]) c ((es.length:Int) - 1) a1:=by refine BF.of r1 ?_;show PV.int .i64 (IntKind.i64.wrap ((es.length:Int) - 1))=_;rw[wrap_small O O]
 refine wpIn_block ?_;refine wpIn_loop_ghost (λn a W=>n<=es.length/\BF (.func (.yield l) #[] #[]) c ((n:Int) - 1) a/\∃X,J n X W) es.length ⟨Qs _,b1,X,hJ1⟩ ?_
 rintro n a W ⟨hn,M,X,hj⟩;refine qa6 (qa6 ?_)
 have dT:∀g∈[(⟨some 7,none,.sw (.tmp 3)⟩:SG),⟨some 8,none,.bin .geq (.tmp 7) (.Bp (.int .i64 0))⟩],∀t,g.d=some t->t≠0/\t≠1:=by intro g x t u;simp only[Qv,QX,qaC]at x;rcases x with rfl|rfl<;>(injection u with u;omega)
 refine acw hT t_ dT (M.rel (hX:=(p _ _ _ hj).1) (p _ _ _ hj).2 (λ_=>undef)) rfl λa2 W2 L2 r2=> ?_
 have s:J n X W2:=N _ _ _ _ hj (FX r2);have b2:BF (.func (.yield l) #[] #[]) c ((n:Int) - 1) a2:=BF.of r2 rfl
 have t8:a2.eval (.tmp 8)= .bool (decide (0<=(n:Int) - 1)):=by have:=r2.env 8;exact(show bp _ _ _ (.bool (decide ((0:Int)<=(n:Int) - 1))) _ from this).qC
 refine qbt t8 ?_
 cases n with
 |zero=>
  rw[Qf O];refine wpIn_exit ?_;simp only[Exit.then,Exit.inBlock,Qr]
  exact⟨b2.defers,_,j _ _,⟨_,rfl⟩,.inl ⟨X,s⟩⟩
 |succ m=>
  rw[Qd O];refine wpIn_skip ?_;have e1:((m+1:Nat):Int) - 1=(m:Int):=O;rw[e1]at b2;refine qa6 (wpIn_block (qa6 ?_));refine af1 (J0:=J (m+1) X) (J1:=λW=>∃X,J m X W) (Jx:=Jx) hin (p _ _ _ s).1 (p _ _ _ s).2 (λd hW'=>N _ _ _ _ s hW') (λ_ _ ⟨X',q1⟩ q2=>⟨X',N _ _ _ _ q1 q2⟩) hJx (λd ⟨X',q⟩=>(p _ _ _ q).1.gi) hGx (λd e v q1 q2 q3=>hr m X d e v q1 q2 q3) hG O b2 λa3 W3 b I t18 hj3 hx3=> ?_
  refine qbt (t:= !b) t18 ?_
  cases b with
  |false=>refine wpIn_ret ?_;exact⟨I.defers,_,j _ _,⟨_,rfl⟩,.inr (hx3 rfl)⟩
  |true=>
   refine wpIn_skip ?_
   have dN:∀g∈[(⟨some 9,none,.sw (.tmp 3)⟩:SG),⟨some 10,none,.bin .sub (.tmp 9) (.Bp (.int .i64 1))⟩,⟨some 3,none,.sw (.tmp 10)⟩],∀t,g.d=some t->t≠0/\t≠1:=by intro g x t u;simp only[Qv,QX,qaC]at x;rcases x with rfl|rfl|rfl<;>(injection u with u;omega)
   obtain⟨X',B⟩:=hj3 rfl;refine acw hN t_ dN (I.rel (hX:=(p _ _ _ B).1) (p _ _ _ B).2 (λ_=>undef)) rfl λa4 W4 L4 r4=> ?_
   refine⟨m,qav m,O,BF.of r4 ?_,X',N _ _ _ _ B (FX r4)⟩;show PV.int .i64 (IntKind.i64.wrap ((m:Int) - 1))=_;rw[wrap_small O O]
end
end
section
open Go.RowKit
section
variable{P:Pr}{E:En}{S:St}{a:Act}{w:Wo}{L:Nat->Va}
def Rel.NH(h:Rel E S a w L){w':Wo}{a':Act}{env':Nat->PV}(rd:Y Nat)(nd:Bool)(kt:Nat->Y Va)(wk:Wo)
  (l:∀(b:Nat) (o:Obj),w.heap[b]?=some o->MQ o=true->w'.heap[b]?=some o) (G:∀t,bp w (bn E S L) (S.gh L) (env' t) (a'.tmps.getD t undef))
  (D:Marks {E with rd:=rd,nd:=nd,kt:=kt,wk:=wk} a' w') (hs:a'.tmps.size=E.nt/\∀t v,kt t=some v->a'.tmps.getD t undef=v) (F:FrE {E with rd:=rd,nd:=nd,kt:=kt,wk:=wk} w'):
  Rel {E with rd:=rd,nd:=nd,kt:=kt,wk:=wk} {S with env:=env'} a' w' L:=by
 have f:∀(p:Addr) (v:Va),w.cell? p=some v->w'.heap[p.block]?=w.heap[p.block]?:=by
  intro p v d;unfold World.cell? at d
  cases i:w.heap[p.block]? with
  |none=>rw[i]at d;simp at d
  |some o=>refine l _ o i ?_;rw[i]at d;cases o<;>first|rfl|(simp at d)
 have j:dp w w' (bn E S L) (bn E S L):=⟨λp v d q=>⟨(World.cell?_of_block (f p v d)).trans d,q⟩,λb _ _ u q=>⟨l b _ u rfl,q⟩⟩
 refine⟨D,hs,λt=>(G t).mono j (Gh.le.refl _),λid s=> ?_,h.apart,h.fresh,F,h.CB,h.an.1.trans ⟨λb o m x n=>⟨l b o m x,n⟩⟩,h.an.2.1,λb H=>(let⟨q1,⟨o,q2,z,B⟩,A⟩:=h.an.2.2 b H;⟨q1,⟨o,q2,z,l b o B z⟩,A⟩)⟩
 have i:=h.obj id s
 cases r:(S.H id).c.live with
 |false=>
  cases g:(S.H id).c with
  |dead=>trivial
  |box cs|row e k es=>rw[g]at r;cases r
 |true=>
  have:=tZ.mono (w':=w') j (Gh.le.refl _) (λb u _=>by
   obtain⟨o,m,x⟩:=i.cells r u;rw[m]
   exact l b o m (ajb x)) i
  cases g:(S.H id).c with
  |dead=>trivial
  |box cs|row e k es=>rw[g]at this;exact this
def Fr.putObj{rb:Y Nat}{w0:Wo}(h:Fr rb w0 w){l:Nat}(f:w0.heap.size<=l)(o:Obj):Fr rb w0 (w.putObj l o):=
 ⟨h.os,h.tape,h.output,by rw[World.putObj_size];exact h.size,λb e d=>by rw[World.putObj_heap_other O];exact h.block b e d,h.drawn⟩
def St.yY(S:St)(D:Z Nat):St:={S with env:=λt=>if t∈D then .any else S.env t}
def Rel.drop(h:Rel E S a w L)(D:Z Nat):Rel E (S.yY D) a w L:=
 ⟨h.defers,h.size,λt=>by
  show bp _ _ _ (if t∈D then .any else S.env t) _
  split
  .exact .any _
  .exact h.env t,h.obj,h.apart,h.fresh,h.fr,h.CB,h.an⟩
def aiU{x:Wo}(h:EO x w){l:Nat}(f:x.heap.size<=l)(o:Obj):EO x (w.putObj l o):=
 ⟨by rw[World.putObj_size];exact h.size,λk p b d=>by
  have e:k<x.heap.size:=(Q6.1 b).1;rw[World.putObj_heap_other O]
  exact h.same k p b d⟩
def Ng{l:Nat}{o:Obj}(i:w.heap[l]?=some o)(h:MQ o=false)(g:Obj):∀(b:Nat) (q:Obj),w.heap[b]?=some q->MQ q=true->(w.putObj l g).heap[b]?=some q:=by
 intro b q d f
 have:b≠l:=by
  intro e;subst e;rw[i]at d;injection d with d
  subst d;rw[h]at f;cases f
 rw[World.putObj_heap_other this];exact d
def aeW:Exit->Y Code
 | .ret=>some .ret
 | .exit i=>some (.exit i)
 | .goto l=>some (.goto l)
 |_=>none
def Z9(I:St->Prop)(S:St):Prop:=∃S',(∀(E:En) (a:Act) (w:Wo) (L:Nat->Va),Rel E S a w L->∃b,Rel E S' a w b)/\I S'
def Z9.of{I:St->Prop}{S:St}(h:I S):Z9 I S:=⟨S,λ_ _ _ L h=>⟨L,h⟩,h⟩
def aky(D:Z Nat)(I:St->Prop)(Q:Exit->St->Prop):Exit->St->Prop
 | .normal,T=>Z9 I (T.yY D)
 | .ret,T=>Q .ret (T.yY D)
 | .exit i,T=>Q (.exit i) (T.yY D)
 | .goto l,T=>Q (.goto l) (T.yY D)
 |_,_=>False
def amQ(b:Array Va)(e d:Nat)(u v:Va):(#[e,d].zip #[u,v]).foldl (λtmps x=>match x with|(t,a)=>tmps.setIfInBounds t a) b=(b.setIfInBounds e u).setIfInBounds d v:=by rw[<-Array.foldl_toList,Array.toList_zip];rfl
def anT{b:Array Va}{f d t:Nat}{u v:Va}(h:f<b.size)(g:d<b.size):((b.setIfInBounds f u).setIfInBounds d v).getD t undef=if t=d then v else if t=f then u else b.getD t undef:=by
 simp only[Q4]
 by_cases q1:t=d
 .subst q1;rw[Qe rfl,qaS (by simpa using g)]
  rfl
 .rw[Qg q1,qbg (λe=>q1 e.symm)]
  by_cases q0:t=f
  .subst q0;rw[Qe rfl,qaS h];rfl
  .rw[Qg q0,qbg (λe=>q0 e.symm)]
def alP{nt:Nat}{tg G B:Nat}{assign body:Code}{f:FI}{k:Nat}{nE:Y Nat}{es:Z (Z PV)}{Q:Exit->St->Prop}(hf:jD P f 19 (GC k nE) [])(hin:Nv k nE es)(hna:AF assign=true)(hnb:AF body=true)
  (hp0:G<nt) (hp1:B<nt) (_htg:tg∉oo (.rangeFunc (.tmp tg) #[G,B] assign body)) (I:Nat->St->Prop)
  (h0:Z9 (I es.length) (S.yY (oo (.rangeFunc (.tmp tg) #[G,B] assign body)))) (hI:∀i T,I i T->T.env tg= .bJ f [.ref [.sl es]])
  (hround:∀m T e,I (m+1) T->es[m]?=some e->V P nt assign (UB (V P nt body (aky (oo (.rangeFunc (.tmp tg) #[G,B] assign body)) (I m) Q)) (λ_ _=>False)) {T with env:=bZ (bZ T.env G (.int .i64 m)) B (D2 nE e)})
  (hend:∀T,I 0 T->Q .normal T):V P nt (.rangeFunc (.tmp tg) #[G,B] assign body) Q S:=by
 intro E hE N a w L hrel;generalize hD:oo (.rangeFunc (.tmp tg) #[G,B] assign body)=D at*;have hk1:∀t∈D,E.kt t=none:=by rw[<-hD];exact N.1
 obtain⟨hrd,hnd⟩:E.rd=none/\E.nd=false:=by
  rcases N.2 with h|h
  .exact h
  .cases h
 have hDa:∀t∈oo assign,t∈D:=by rw[<-hD];intro t ht;simp only[oo,QA];exact .inl (.inr ht)
 have hDb:∀t∈oo body,t∈D:=by rw[<-hD];intro t ht;simp only[oo,QA];exact .inr ht
 have hD0:G∈D:=by rw[<-hD];simp[oo]
 have hD1:B∈D:=by rw[<-hD];simp[oo]
 have hclo:∀{i:Nat} {T:St} {w':Wo} {L':Nat->Va},I i T->Rel E T a w' L'->∃c,a.tmps.getD tg undef= .func (.func f) #[] #[c]/\bp w' (bn E T L') dz (.ref [.sl es]) c:=by intro i T w' L' hi n;have:=n.env tg;rw[hI i T hi]at this;obtain⟨vs,hv,hrv⟩:=this.za;obtain⟨c,vs',rfl,hc,hr'⟩:=hrv.cons_inv;have:=hr'.vi;subst this;exact⟨c,hv,hc.closed rfl (λb A=>A)⟩
 obtain⟨S0,hw0,h0⟩:=h0;obtain⟨L,hrel0⟩:=hw0 E a w L (hrel.drop D);obtain⟨c,hgv,hc0⟩:=hclo h0 hrel0;rw[hrd];refine wpIn_rangeFunc ?_;intro fn _;obtain⟨rec,g⟩:∃rec:LoopState->Y Code->Loop,rec=λst pe=>{state:=st,pending:=pe,fn,tmps:=a.tmps,params:=#[G,B],assign,body,defers:=w.heap.size}:=⟨_,rfl⟩
 obtain⟨W1,s⟩:∃W1,(w.alloc (.deferred (some []))).alloc (.loop (rec .ready none))=W1:=⟨_,rfl⟩
 have hL1:W1.heap[w.heap.size+1]?=some (.loop (rec .ready none)):=by rw[<-s];have:=World.alloc_heap_new (w.alloc (.deferred (some []))) (.loop (rec .ready none));rwa [World.size_alloc]at this
 have hK1:W1.heap[w.heap.size]?=some (.deferred (some [])):=by rw[<-s];exact(Below.heap_alloc _ _ _ t_).trans (World.alloc_heap_new w _)
 let J:Nat->(Nat->Prop)->Wo->Prop:=λi X W=>∃T L',X=bn E T L'/\I i T/\Rel E T a W L'/\W.heap[w.heap.size+1]?=some (.loop (rec .ready none))/\W.heap[w.heap.size]?=some (.deferred (some []))
 let Jx:Wo->Prop:=λW=>∃z j T L',aeW z=some j/\Q z T/\Rel E T a W L'/\W.heap[w.heap.size+1]?=some (.loop (rec .done (some j)))/\W.heap[w.heap.size]?=some (.deferred (some []))
 have grow:∀{T:St} {L':Nat->Va} {q r:Wo},Rel E T a q L'->Fr none q r->Rel E T a r L':=λh hf=>(h.grow hf.os hf.tape hf.output hf.size (λb A=>hf.block b A t_) hf.drawn).1
 have fg:∀{q r:Wo} {b:Nat} {o:Obj},Fr none q r->q.heap[b]?=some o->r.heap[b]?=some o:=λhf A=>by rw[hf.block _ (Q6.1 A).1 t_];exact A
 have hE0:E.w0.heap.size<=w.heap.size:=hrel.fr.size;have hEk:E.wk.heap.size<=w.heap.size:=hrel.fr.ko.size
 have hW1s:∀(b:Nat),b<w.heap.size->W1.heap[b]?=w.heap[b]?:=by intro b A;rw[<-s];exact(Below.heap_alloc _ _ _ o_).trans (Below.heap_alloc _ _ _ A)
 have hrel1:Rel E S0 a W1 L:=(hrel0.grow (w':=W1) (by rw[<-s];rfl) (by rw[<-s];rfl) (by rw[<-s];rfl) (by rw[<-s];simp;omega) hW1s (by rw[<-s];exact DL.of (Qs _))).1
 have old:∀d∈a.defers,∃Do,d={target:= .collected Do,args:=#[]}/\E.w0.heap.size<=Do/\Do<w.heap.size:=by
  intro d hd;obtain⟨Do,q1,q2,q3⟩:=hrel.defers.at_ d hd
  exact⟨Do,q1,q2,(Q6.1 q3).1⟩
 have hrounds:∀(m:Nat) (X:Nat->Prop) (q:Wo) (e:Z PV) (v:Va),J (m+1) X q->es[m]?=some e->bp q X dz (D2 nE e) v->Z8 P (w.heap.size+1) m v q λz r=>(z= .returned (.bool true)/\∃X,J m X r)\/(z= .returned (.bool false)/\Jx r):=by
  rintro m X q e v ⟨T,L',rfl,hi,n,M,N⟩ hem hrep;refine⟨fn,(a.tmps.setIfInBounds G (.int .i64 m)).setIfInBounds B v,assign,body,by rw[run_yield M (by rw[g];rfl)];simp only[g];rw[<-amQ],?_⟩
  refine roundIn_of_wpIn (F:=WF none) trivial ?_
  let E1:En:={E with rd:=some (w.heap.size+1),nd:=true,kt:=λt=>if t∈D then none else some (a.tmps.getD t undef),wk:=q}
  have hget:∀t,((a.tmps.setIfInBounds G (.int .i64 m)).setIfInBounds B v).getD t undef=if t=B then v else if t=G then .int .i64 m else a.tmps.getD t undef:=by intro t;exact anT (by rw[n.size.1,hE];exact hp0) (by rw[n.size.1,hE];exact hp1)
  have hrel2:Rel E1 {T with env:=bZ (bZ T.env G (.int .i64 m)) B (D2 nE e)} {tmps:=(a.tmps.setIfInBounds G (.int .i64 m)).setIfInBounds B v,defers:=[]} q L':=by
   refine n.NH (some (w.heap.size+1)) true _ q (λ_ _ A _=>A) (λt=> ?_) (Marks.nil rfl) ⟨by simp only[Array.size_setIfInBounds];exact n.size.1,λt u hu=> ?_⟩ ⟨n.fr.toFr,EO.refl _⟩
   .simp only;rw[hget t];simp only[bZ];split
    .exact hrep.mono (dp.of λ_ hn=>hn) (dz.le _)
    .split
     .exact .int _ _
     .exact n.env t
   .simp only at hu ⊢;rw[hget t];split at hu
    .cases hu
    .rename_i hnt;injection hu with hu
     rw[Qg (λe:t=B=>hnt (by rw[e];exact hD1)),Qg (λe:t=G=>hnt (by rw[e];exact hD0)),hu]
  have hV:=hround m T e hi hem;have hw1:=hV E1 hE ⟨λt ht=>Qe (hDa t ht),.inr hna⟩ _ q L' hrel2
  refine qaB hw1 ?_;rintro z a1 w1 ⟨S1,L1,H,hq1⟩
  cases z with
  |exit i|goto i|ret|panic ch|outgrown=>exact hq1.elim
  |normal=>
   have hl1:w1.heap[w.heap.size+1]?=some (.loop (rec .ready none)):=H.fr.ko.same _ _ M rfl;have hd1:a1.defers=[]:=H.defers.none rfl;refine⟨_,run_beginRound hl1 (by rw[g]),?_⟩
   generalize hw2:w1.putObj (w.heap.size+1) (.loop {rec .ready none with state:= .busy})=w2
   have hrec2:({rec .ready none with state:= .busy}:Loop)=rec .busy none:=by rw[g]
   rw[hrec2]at hw2;have hlt1:w.heap.size+1<w1.heap.size:=(Q6.1 hl1).1;have hl2:w2.heap[w.heap.size+1]?=some (.loop (rec .busy none)):=by rw[<-hw2];exact World.putObj_heap_same hlt1
   have hrel3:Rel {E with rd:=some (w.heap.size+1),nd:=true,kt:=λt=>if t∈D then none else some (a.tmps.getD t undef),wk:=w2} S1 a1 w2 L1:=by
    refine H.NH (some (w.heap.size+1)) true _ w2 (by rw[<-hw2];exact Ng hl1 rfl _) (λt=>H.env t) (Marks.nil hd1) H.size ⟨?_,EO.refl _⟩
    rw[<-hw2];exact H.fr.toFr.putObj (by show E.w0.heap.size<=_;omega) _
   have hw3:=hq1 {E with rd:=some (w.heap.size+1),nd:=true,kt:=λt=>if t∈D then none else some (a.tmps.getD t undef),wk:=w2} hE ⟨λt ht=>Qe (hDb t ht),.inr hnb⟩ a1 w2 L1 hrel3
   refine qaB hw3 ?_;rintro z a3 w3 ⟨S3,L3,hr3,hq3⟩;have hl3:w3.heap[w.heap.size+1]?=some (.loop (rec .busy none)):=hr3.fr.ko.same _ _ hl2 rfl;have hlt3:w.heap.size+1<w3.heap.size:=(Q6.1 hl3).1
   have stay:∀(b:Nat) (o:Obj),b≠w.heap.size+1->q.heap[b]?=some o->isC o=false->∀x,(w3.putObj (w.heap.size+1) x).heap[b]?=some o:=by intro b o hne A ho x;rw[World.putObj_heap_other hne];refine hr3.fr.ko.same b o ?_ ho;rw[<-hw2,World.putObj_heap_other hne];exact H.fr.ko.same b o A ho
   have back:∀x,Rel E (S3.yY D) a (w3.putObj (w.heap.size+1) x) L3:=by
    intro x
    have:=hr3.NH (w':=w3.putObj (w.heap.size+1) x) (a':=a) (env':=(S3.yY D).env) E.rd E.nd E.kt E.wk (Ng hl3 rfl _) (λt=>by
      show bp _ _ _ (if t∈D then .any else S3.env t) _
      split
      .exact .any _
      .rename_i hnt;have h4:=hr3.size.2 t (a.tmps.getD t undef) (Qg hnt);rw[<-h4];exact hr3.env t) ⟨n.defers.none,n.defers.nodup,λd hd=>by
      obtain⟨Do,q1,q2,q3⟩:=n.defers.at_ d hd
      obtain⟨Do',q4,_,q6⟩:=old d hd;have:Do=Do':=by rw[q1]at q4;injection q4 with q4;injection q4
      subst this
      exact⟨Do,q1,q2,stay Do _ O q3 rfl _⟩⟩ n.size ⟨hr3.fr.toFr.putObj (by show E.w0.heap.size<=_;omega) _,⟨by rw[World.putObj_size];show E.wk.heap.size<=_;omega,λb o A ho=>stay b o (by have hb':b<E.wk.heap.size:=(Q6.1 A).1;omega) (n.fr.ko.same b o A ho) ho _⟩⟩
    exact this
   have hk3:∀x,(w3.putObj (w.heap.size+1) x).heap[w.heap.size]?=some (.deferred (some [])):=λx=>stay _ _ O N rfl x
   have leave:∀j,aeW z=some j->Q z (S3.yY D)->∃v w',(Instr.endRound (w.heap.size+1) (some j)).run P w3= .ok v w'/\((Ending.returned v= .returned (.bool true)/\∃X,J m X w')\/(Ending.returned v= .returned (.bool false)/\Jx w')):=by intro j hj hq;refine⟨_,_,run_endRound (some j) hl3,.inr ⟨rfl,z,j,S3.yY D,L3,hj,hq,back _,?_,hk3 _⟩⟩;rw[World.putObj_heap_same hlt3,g];rfl
   cases z with
   |normal=>obtain⟨S5,hw5,hi5⟩:=hq3;obtain⟨L5,hr5⟩:=hw5 E a _ L3 (back _);refine⟨_,_,run_endRound none hl3,.inl ⟨rfl,_,S5,L5,rfl,hi5,hr5,?_,hk3 _⟩⟩;rw[World.putObj_heap_same hlt3,g];rfl
   |ret|exit i|goto i=>exact leave _ rfl hq3
   |panic ch|outgrown=>exact hq3.elim
 have hcalls:=adA (P:=P) (c:=c) (l:=w.heap.size+1) hf hin J Jx
  (λi X W ⟨T,L',hX,hi,n,_,_⟩=>by
   subst hX;obtain⟨c',h1,h2⟩:=hclo hi n;rw[hgv]at h1;injection h1 with _ _ h1
   have:c'=c:=by have:=qag (λa:Array Va=>a.toList) h1;simpa using this.symm
   subst this
   exact⟨n.xok λb A=>A,h2⟩)
  (λi X q r ⟨T,L',hX,hi,n,M,N⟩ R=>⟨T,L',hX,hi,grow n R,fg R M,fg R N⟩)
  (λq r ⟨z,j,T,L',h1,h2,n,M,N⟩ R=>⟨z,j,T,L',h1,h2,grow n R,fg R M,fg R N⟩) (λq ⟨z,j,T,L',h1,h2,n,M,N⟩=>n.gi)
  hrounds W1 (X:=bn E S0 L) ⟨S0,L,rfl,h0,hrel1,hL1,hK1⟩
 refine⟨w.heap.size+1,[{target:= .collected w.heap.size,args:=#[]}],W1,{target:= .fn (.func f) #[c],args:=#[.func (.yield (w.heap.size+1)) #[] #[]]},W1,f,#[.func (.yield (w.heap.size+1)) #[] #[],c],W1,?_,?_,λ_ _=>trivial,?_,(λh=>by cases h),hcalls.mono ?_⟩
 .rw[<-s,g];exact run_enterLoop_outer _ _ _ _ _
 .have:a.eval (.tmp tg)= .func (.func f) #[] #[c]:=hgv
  have h2:(#[]++#[Operand.const (Value.func (Fn.yield (w.heap.size+1)) #[] #[])].map a.eval:Array Va)=#[.func (.yield (w.heap.size+1)) #[] #[]]:=by rw[Array.empty_append];simp[Act.eval]
  simp only[resolve,this,Deferred.ofValue];rw[h2];rfl
 .have hen:Enters P f:=hf.enters;simp only[invoke];exact pw hen _
 .rintro z q ⟨⟨v,rfl⟩,hW'⟩
  have marks:∀{T:St} {L':Nat->Va} (x:Obj),Rel E T a q L'->q.heap[w.heap.size+1]?=some x->MQ x=false->q.heap[w.heap.size]?=some (.deferred (some []))->∀o'',Rel E T {a with defers:=[{target:= .collected w.heap.size,args:=#[]}]++a.defers} (q.putObj (w.heap.size+1) o'') L':=by
   intro T L' x n M ho N o'';refine n.NH (env':=T.env) E.rd E.nd E.kt E.wk (Ng M ho _) (λt=>n.env t) ⟨(λe=>by rw[hnd]at e;cases e),?_,λd hd=> ?_⟩ n.size ⟨n.fr.toFr.putObj O _,aiU n.fr.ko O _⟩
   .rw[List.singleton_append,List.nodup_cons];refine⟨λhmem=> ?_,n.defers.nodup⟩
    obtain⟨Do,q1,_,q3⟩:=old _ hmem;injection q1 with q1
    injection q1 with q1
    omega
   .rcases QA.1 hd with hd|hd
    .rw[Qz.1 hd];exact⟨_,rfl,hE0,by rw[World.putObj_heap_other O];exact N⟩
    .obtain⟨Do,q1,q2,q3⟩:=n.defers.at_ d hd
     obtain⟨Do',q4,_,q6⟩:=old d hd;have:Do=Do':=by rw[q1]at q4;injection q4 with q4;injection q4
     subst this;exact⟨Do,q1,q2,by rw[World.putObj_heap_other O];exact q3⟩
  rcases hW' with⟨X,T,L',_,hi,n,M,N⟩|⟨z,j,T,L',hj,hq,n,M,N⟩
  .have hend1:=run_endLoop (P:=P) M (by rw[g];intro e;cases e)
   exact⟨none,_,by rw[hend1,g],T,L',marks _ n M rfl N _,hend T hi⟩
  .have hend1:=run_endLoop (P:=P) M (by rw[g];intro e;cases e)
   obtain⟨p,x,hp,hrun⟩:∃p x,p=some j/\(Instr.endLoop (w.heap.size+1)).run P q= .ok p (q.putObj (w.heap.size+1) x):=⟨_,_,by rw[g],hend1⟩
   subst hp;have hfin:=marks _ n M rfl N x;refine⟨some j,_,hrun,?_⟩
   cases z with
   |ret=>injection hj with hj;subst hj;exact wpIn_ret ⟨T,L',hfin,hq⟩
   |exit i=>injection hj with hj;subst hj;exact wpIn_exit ⟨T,L',hfin,hq⟩
   |goto i=>injection hj with hj;subst hj;exact wpIn_goto ⟨T,L',hfin,hq⟩
   |normal|panic ch|outgrown=>cases hj
def SC.vd:SC->Z Nat
 | .vW gs| .tT _ gs=>gs.filterMap (·.d)
 | .seq x y| .cond _ x y=>x.vd++y.vd
 | .block _ x| .loop x=>x.vd
 | .Iz _ ps x y=>ps++x.vd++y.vd
 |_=>[]
def Vn{hs:Z Nat}{ops:Array Oper}:∀(l:Z Oper) (b:Z SG),l.mapM (yq P hs ops)=some b->l.filterMap (·.dst)=b.filterMap (·.d)
 |[],b,h=>by simp at h;subst h;rfl
 |o::l,b,h=>by simp only[qaa,Qu,Qm,qaf,Qk]at h;obtain⟨g,f,e,d,rfl⟩:=h;simp only[List.filterMap_cons,(Na f).2.1,Vn l e d]
def uA{nt:Nat}{hs:Z Nat}:∀(c:Code) (sc:SC),aZ P nt hs c=some sc->oo c=sc.vd
 | .skip,sc,h| .exit _,sc,h| .ret,sc,h=>by simp only[aZ]at h;injection h with h;subst h;rfl
 | .region _ ops false,sc,h=>by
  simp only[aZ]at h;split at h
  .rename_i i d;split at h
   .injection h with h;subst h;exact Vn _ _ d
   .cases h
  .cases h
 | .region _ ops true,sc,h=>by
  simp only[aZ]at h;split at h
  .rename_i i d;split at h
   .split at h
    .injection h with h;subst h;exact Vn _ _ d
    .cases h
   .cases h
  .cases h
 | .seq x y,sc,h=>by
  simp only[aZ]at h;split at h
  .rename_i b e;injection h with h;subst h;simp only[oo,SC.vd,uA x _ b,uA y _ e]
  .cases h
 | .cond c x y,sc,h=>by
  simp only[aZ]at h;split at h
  .rename_i _ b e;injection h with h;subst h;simp only[oo,SC.vd,uA x _ b,uA y _ e]
  .cases h
 | .block _ x,sc,h=>by simp only[aZ,Qq]at h;obtain⟨f,b,rfl⟩:=h;simp only[oo,SC.vd,uA x _ b]
 | .loop x,sc,h=>by simp only[aZ,Qq]at h;obtain⟨f,b,rfl⟩:=h;simp only[oo,SC.vd,uA x _ b]
 | .rangeFunc g ps x y,sc,h=>by
  simp only[aZ]at h;split at h
  .rename_i _ b e;split at h
   .injection h with h;subst h;simp only[oo,SC.vd,uA x _ b,uA y _ e]
   .cases h
  .cases h
 | .goto _,sc,h| .scope _,sc,h| .label _,sc,h| .refuse _,sc,h=>by simp only[aZ]at h;cases h
def aj8{nt:Nat}{tg q p:Nat}{x y:SC}{f:FI}{k:Nat}{z:Y Nat}{es:Z (Z PV)}{Q:Exit->St->Prop}(R:jD P f 19 (GC k z) [])(F:Nv k z es)
  (r:tg∉SC.vd (.Iz (.tmp tg) [q,p] x y)) (I:Nat->St->Prop)
  (J:Z9 (I es.length) (S.yY (SC.vd (.Iz (.tmp tg) [q,p] x y)))) (hI:∀i T,I i T->T.env tg= .bJ f [.ref [.sl es]])
  (h:∀m T e,I (m+1) T->es[m]?=some e->VS P nt x (UB (VS P nt y (aky (SC.vd (.Iz (.tmp tg) [q,p] x y)) (I m) Q)) (λ_ _=>False)) {T with env:=bZ (bZ T.env q (.int .i64 m)) p (D2 z e)})
  (u:∀T,I 0 T->Q .normal T):VS P nt (.Iz (.tmp tg) [q,p] x y) Q S:=by
 intro c hs b;have n:=uA c _ b
 cases c with
 |rangeFunc g ps assign body=>
  simp only[aZ]at b;split at b
  .rename_i g' x' y' j N M;split at b
   .rename_i l;injection b with b
    injection b with e1 e2 e3 e4
    subst e1 e3 e4;simp only[Qi]at l;obtain⟨⟨D,B⟩,o⟩:=l
    have s:ps=#[q,p]:=by have:=qag List.toArray e2;simpa using this
    subst s
    have G:g= .tmp tg:=by
     cases g with
     |tmp t=>simp only[bK]at j;injection j with j;injection j with j;rw[j]
     |const v=>simp only[bK,Qq]at j;obtain⟨_,_,j⟩:=j;cases j
     |global g|func f=>simp[bK]at j
    subst G;rw[<-n]at J h r;simp only[Q3,List.all_nil,qaw,Qi,Qw]at o;refine alP R F D B o.1 o.2 r I J hI (λm T e hi V=> ?_) u
    refine(h m T e hi V assign hs N).mono ?_;intro en A H
    cases en with
    |normal=>exact H body hs M
    |exit i|goto i|ret|panic ch|outgrown=>exact H
   .cases b
  .cases b
 |region id ops d=>cases d<;>simp only[aZ]at b<;>(try split at b)<;>(try split at b)<;>(try split at b)<;>cases b
 |seq x y|cond c x y=>simp only[aZ]at b;split at b<;>cases b
 |block id c|loop c=>simp only[aZ,Qq]at b;obtain⟨_,_,b⟩:=b;cases b
 |_=>simp only[aZ]at b<;>cases b
end
end
section
section
variable{U:TU}
inductive dK (U:TU) where
 |ty (T:U.Ty)
 |bJ (f:FuncId) (cs:List (dK U))
 |ref (a:dK U)
 |agg (cs:List (dK U))
inductive sH (U:TU) where
 |one (T:U.Ty)
 |many (Ts:List U.Ty)
 |fn (a:dK U)
@[reducible] def KH (U:TU):Z U.Ty->Type
 |[]=>Unit
 |T::l=>U.den T×KH U l
mutual
@[reducible] def dK.den:dK U->Type
 | .ty T=>U.den T
 | .bJ _ cs=>fb cs
 | .ref a=>a.den
 | .agg cs=>fb cs
@[reducible] def fb:Z (dK U)->Type
 |[]=>Unit
 |a::l=>a.den×fb l
end
@[reducible] def sH.den:sH U->Type
 | .one T=>U.den T
 | .many b=>KH U b
 | .fn a=>a.den
def HH:(b:Z U.Ty)->KH U b->Z PV
 |[],_=>[]
 |T::l,v=>fo T v.1::HH l v.2
mutual
def pX:(a:dK U)->a.den->PV
 | .ty T,v=>fo T v
 | .bJ f cs,v=> .bJ f (iK cs v)
 | .ref a,v=> .ref (tW a v)
 | .agg cs,v=> .agg (iK cs v)
def tW:(a:dK U)->a.den->Z PV
 | .ty T,v=>U.pv T v
 | .bJ f cs,v=>[.bJ f (iK cs v)]
 | .ref a,v=>[.ref (tW a v)]
 | .agg cs,v=>iK cs v
def iK:(A_s:Z (dK U))->fb A_s->Z PV
 |[],_=>[]
 |a::l,v=>pX a v.1::iK l v.2
end
def xQ:(r:sH U)->r.den->PV
 | .one T,v=>fo T v
 | .many b,v=> .ff (HH b v)
 | .fn a,v=>pX a v
variable(K:TK U)
def tsK:(b:Z U.Ty)->KH U b->Z (KV U)
 |[],_=>[]
 |T::l,v=>CK K T v.1::tsK l v.2
mutual
def RL:(a:dK U)->a.den->KV U
 | .ty T,v=>CK K T v
 | .bJ f cs,v=> .bJ f (yv cs v)
 | .ref a,v=> .ref (KC a v)
 | .agg cs,v=> .agg (yv cs v)
def KC:(a:dK U)->a.den->Z (KV U)
 | .ty T,v=>K.gu T v
 | .bJ f cs,v=>[.bJ f (yv cs v)]
 | .ref a,v=>[.ref (KC a v)]
 | .agg cs,v=>yv cs v
def yv:(A_s:Z (dK U))->fb A_s->Z (KV U)
 |[],_=>[]
 |a::l,v=>RL a v.1::yv l v.2
end
def X7:(r:sH U)->r.den->KV U
 | .one T,v=>CK K T v
 | .many b,v=> .ff (tsK K b v)
 | .fn a,v=>RL K a v
def ad4:∀(b:Z U.Ty) (v:KH U b),(tsK K b v).map KV.pv=HH b v
 |[],_=>rfl
 |T::l,v=>by rw[tsK,HH,Qy,Fv,ad4 l v.2]
mutual
def abY:∀(a:dK U) (v:a.den),(RL K a v).pv=pX a v
 | .ty T,v=>by rw[RL,pX];exact Fv K T v
 | .bJ f cs,v=>by rw[RL,pX,KV.pv,KV.dm,Eb cs v]
 | .ref a,v=>by rw[RL,pX,KV.pv,KV.dm,Z2 a v]
 | .agg cs,v=>by rw[RL,pX,KV.pv,KV.dm,Eb cs v]
def Z2:∀(a:dK U) (v:a.den),(KC K a v).map KV.pv=tW a v
 | .ty T,v=>by rw[KC,tW];exact K.wO T v
 | .bJ f cs,v=>by rw[KC,tW,Qy,qas,KV.pv,KV.dm,Eb cs v]
 | .ref a,v=>by rw[KC,tW,Qy,qas,KV.pv,KV.dm,Z2 a v]
 | .agg cs,v=>by rw[KC,tW,Eb cs v]
def Eb:∀(A_s:Z (dK U)) (v:fb A_s),(yv K A_s v).map KV.pv=iK A_s v
 |[],_=>by rw[yv,iK];rfl
 |a::l,v=>by rw[yv,iK,Qy,abY a v.1,Eb l v.2]
end
def Se:∀(r:sH U) (v:r.den),(X7 K r v).pv=xQ r v
 | .one T,v=>Fv K T v
 | .many b,v=>by rw[X7,xQ,KV.pv,KV.dm,ad4]
 | .fn a,v=>abY K a v
def XP(lk:Lk U):(b:Z U.Ty)->Z (KV U)->Y (KH U b)
 |[],xs=>match xs with|[]=>some ()|_=>none
 |T::l,xs=>match xs with
  |x::xs=>(match G1 K lk T x with
   |some v=>(match XP lk l xs with|some vs=>some (v,vs)|none=>none)
   |none=>none)
  |[]=>none
def KV.XJ:KV U->Bool
 | .eV=>false
 |_=>true
def adk:Y Nat->Nat->Bool
 |none,_=>true
 |some i,id=> !Nat.beq i id
def Dt:Z (KV U)->KV U
 |[x]=>x
 |_=> .any
def Kt(T:U.Ty)(cs:Z (KV U)):Y (U.den T):=
 match cs.all KV.XJ with
 |true=>K.dec T vh cs
 |false=>none
def NP{α:Type}(f:FI)(x:KV U)(k:Z (KV U)->Y α):Y α:=
 match x with
 | .bJ g b=>(match Nat.beq g f with|true=>k b|false=>none)
 |_=>none
def SL{α:Type}(x:KV U)(k:Z (KV U)->Y α):Y α:=
 match x with
 | .agg cs=>k cs
 |_=>none
def XG{α:Type}(x:KV U)(k:Z (KV U)->Y α):Y α:=
 match x with
 | .ref cs=>k cs
 |_=>none
def XI(xs:Z (KV U)):Y Unit:=
 match xs with
 |[]=>some ()
 |_=>none
def SK{α β:Type}(xs:Z (KV U))(k:KV U->Y α)(m:Z (KV U)->Y β):Y (α×β):=
 match xs with
 |x::l=>(match k x with
  |some v=>(match m l with|some vs=>some (v,vs)|none=>none)
  |none=>none)
 |[]=>none
def XH{α:Type}(S:bb U)(ex:Y Nat)(x:KV U)(b k1:Z (KV U)->Y α):Y α:=
 match x with
 | .ref cells=>b cells
 | .ptr id aw off=>(match Nat.beq off 0&&adk ex id with
  |true=>(match Nat.beq (S.H id).aw aw with
   |true=>(match(S.H id).c with
    | .box cells=>k1 cells
    |_=>none)
   |false=>none)
  |false=>none)
 |_=>none
def E6{α:Type}{f:FI}{x:KV U}{k:Z (KV U)->Y α}{r:α}(h:NP f x k=some r):∃b,x= .bJ f b/\k b=some r:=by
 unfold NP at h;split at h
 .split at h
  .rename_i d;exact⟨_,by rw[Qp d],h⟩
  .cases h
 .cases h
def JR{α:Type}{x:KV U}{k:Z (KV U)->Y α}{r:α}(h:SL x k=some r):∃cs,x= .agg cs/\k cs=some r:=by
 unfold SL at h
 grind
def SH{α:Type}{x:KV U}{k:Z (KV U)->Y α}{r:α}(h:XG x k=some r):∃cs,x= .ref cs/\k cs=some r:=by
 unfold XG at h
 grind
def SJ{xs:Z (KV U)}{r:Unit}(h:XI xs=some r):xs=[]:=by grind [XI]
def O4{α β:Type}{xs:Z (KV U)}{k:KV U->Y α}{m:Z (KV U)->Y β}{r:α×β}(h:SK xs k m=some r):∃x l,xs=x::l/\k x=some r.1/\m l=some r.2:=by
 unfold SK at h
 grind
def SI{α:Type}{S:bb U}{ex:Y Nat}{x:KV U}{e k1:Z (KV U)->Y α}{r:α}(h:XH S ex x e k1=some r):
  (∃cs,x= .ref cs/\e cs=some r)\/∃id aw cells,x= .ptr id aw 0/\adk ex id=true/\(S.H id).aw=aw/\(S.H id).c= .box cells/\k1 cells=some r:=by
 unfold XH at h;split at h
 .exact .inl ⟨_,rfl,h⟩
 .split at h
  .rename_i b;rw[Qi]at b;split at h
   .rename_i d;split at h
    .rename_i f;exact .inr ⟨_,_,_,by rw[Qp b.1],b.2,Qp d,f,h⟩
    .cases h
   .cases h
  .cases h
 .cases h
mutual
def N7:(a:dK U)->KV U->Y a.den
 | .ty T,x=>(match U.agg T with
  |true=>SL x λcs=>Kt K T cs
  |false=>Kt K T [x])
 | .bJ f cs,x=>NP f x λb=>D7 cs b
 | .ref a,x=>XG x λcells=>Fk a cells
 | .agg cs,x=>SL x λcells=>D7 cs cells
def Fk:(a:dK U)->Z (KV U)->Y a.den
 | .ty T,cells=>Kt K T cells
 | .bJ f cs,cells=>NP f (Dt cells) λb=>D7 cs b
 | .ref a,cells=>XG (Dt cells) λcells=>Fk a cells
 | .agg cs,cells=>D7 cs cells
def D7:(A_s:Z (dK U))->Z (KV U)->Y (fb A_s)
 |[],xs=>XI xs
 |a::l,xs=>SK xs (λx=>N7 a x) λxs=>D7 l xs
end
mutual
def RE(S:bb U)(ex:Y Nat):(a:dK U)->KV U->Y a.den
 | .ty T,x=>G1 K S.lk T x
 | .bJ f cs,x=>NP f x λb=>wA S ex cs b
 | .ref a,x=>XH S ex x (λcells=>Fk K a cells) λcells=>RD S ex a cells
 | .agg cs,x=>SL x λcells=>wA S ex cs cells
def RD(S:bb U)(ex:Y Nat):(a:dK U)->Z (KV U)->Y a.den
 | .ty T,cells=>K.dec T S.lk cells
 | .bJ f cs,cells=>NP f (Dt cells) λb=>wA S ex cs b
 | .ref a,cells=>XH S ex (Dt cells) (λcells=>Fk K a cells) λcells=>RD S ex a cells
 | .agg cs,cells=>wA S ex cs cells
def wA(S:bb U)(ex:Y Nat):(A_s:Z (dK U))->Z (KV U)->Y (fb A_s)
 |[],xs=>XI xs
 |a::l,xs=>SK xs (λx=>RE S ex a x) λxs=>wA S ex l xs
end
mutual
def dK.depth:dK U->Nat
 | .ty _=>2
 | .bJ _ cs=>tk cs+1
 | .ref a=>a.depth+1
 | .agg cs=>tk cs+1
def tk:Z (dK U)->Nat
 |[]=>2
 |a::l=>max a.depth (tk l)
end
def sH.plain:sH U->Bool
 | .one T=>U.plain T
 | .many b=>b.all U.plain
 | .fn _=>false
def dK.ahK:dK U->Bool
 | .ref _=>true
 |_=>false
def sH.ok:sH U->Bool
 | .fn (.bJ _ cs)=>cs.all dK.ahK
 | .fn _=>false
 |_=>true
def ajs{H:Nat->gU}{ex:Y Nat}:∀(n:Nat) {y:PV},y.gJ=true->fz H ex n y=y
 |0,y,h|n+1,y,h=>by cases y<;>simp[PV.gJ]at h<;>simp[fz,PV.closed]
def agF{H:Nat->gU}{ex:Y Nat}(n:Nat){l:Z PV}(h:∀y∈l,y.gJ=true):l.map (fz H ex n)=l:=by
 induction l with
 |nil=>rfl
 |cons x l b=>rw[Qy,ajs n (h x t_),b λy d=>h y (by simp[d])]
def abC{S:bb U}{id aw:Nat}{T:U.Ty}{xs:Z (U.den T)}(h:S.lk id aw T=some xs):(S.H id).aw=aw/\∃e k,(S.H id).c= .row e k T xs:=by
 unfold bb.lk at h;split at h
 .rename_i hv;split at h
  .rename_i e k f d b;obtain⟨eq,rfl⟩:=rC h;subst eq;exact⟨Qp hv,e,k,b⟩
  .cases h
 .cases h
variable{K}
variable{S:bb U}{ex:Y Nat}
def ajQ(d:∀id,ex=some id->∀e k T xs,(S.H id).c≠ .row e k T xs)(n:Nat){x:KV U}{y:PV}(h:rn S.lk x y)(K:TK U):fz S.st.H ex (n+1) x.pv=y:=by
 cases h with
 |int|bool|str|sl T xs|og A B xs=>simp[KV.pv,fz,PV.closed]
 |eV=>simp[KV.pv,fz]
 |own id aw T xs h=>
  let⟨hv,e,k,g⟩:=abC h
  have b:¬(some id=ex\/(S.st.H id).aw≠aw):=by
   rintro(h1|h1)
   .exact d id h1.symm _ _ _ _ g
   .exact h1 hv
  have f:(S.st.H id).c= .row e k (xs.map (U.pv T)):=by simp[bb.st,dJ.pv,g,eF.pv]
  simp[KV.pv,fz];rw[Qg b,f];simp only[List.map_map];congr 1;refine qak λv _=> ?_
  exact agF n λy i=>K.gJ T v y i
def RH(b:∀id,ex=some id->∀e k T xs,(S.H id).c≠ .row e k T xs)(n:Nat){xs:Z (KV U)}{ys:Z PV}(h:js S.lk xs ys)(K:TK U):(xs.map KV.pv).map (fz S.st.H ex (n+1))=ys:=by
 induction h with
 |nil=>rfl
 |cons h _ d=>rw[Qy,Qy,ajQ b n h K,d]
def PD(b:∀id,ex=some id->∀e k T xs,(S.H id).c≠ .row e k T xs)(n:Nat){T:U.Ty}{x:KV U}{v:U.den T}(h:G1 K S.lk T x=some v):fz S.st.H ex (n+2) x.pv=fo T v:=by
 unfold G1 at h;unfold fo;split at h
 .rename_i d;split at h
  .rename_i cs;simp[KV.pv,KV.dm,fz,RH b n (K.qT _ _ _ _ h) K]
  .cases h
 .rename_i d;have f:=RH b (n+1) (K.qT _ _ _ _ h) K
  grind
def ZH(b:∀id,ex=some id->∀e k T xs,(S.H id).c≠ .row e k T xs)(n:Nat):∀(d:Z U.Ty) (xs:Z (KV U)) (v:KH U d),XP K S.lk d xs=some v->(xs.map KV.pv).map (fz S.st.H ex (n+2))=HH d v
 |[],[],_,_=>rfl
 |[],_::_,_,h|T::l,[],_,h=>by cases h
 |T::l,x::xs,v,h=>by
  rw[XP]at h;split at h
  .rename_i v1 g;split at h
   .rename_i vs f;injection h with h
    subst h;rw[Qy,Qy,HH,PD b n g,ZH b n l xs vs f]
   .cases h
  .cases h
def ad7{xs:Z (KV U)}{ys:Z PV}(h:js vh xs ys):xs.all KV.XJ=true->xs.map KV.pv=ys:=by
 induction h with
 |nil=>intro _;rfl
 |cons e _ d=>
  intro b;rw[Q3,Qi]at b;rw[Qy,d b.2];congr 1
  cases e with
  |eV=>cases b.1
  |own _ _ _ _ h=>cases h
  |_=>rfl
def RB{T:U.Ty}{cs:Z (KV U)}{v:U.den T}(h:Kt K T cs=some v):cs.map KV.pv=U.pv T v:=by
 unfold Kt at h;split at h
 .rename_i b;exact ad7 (K.qT _ _ _ _ h) b
 .cases h
def TL{cs:Z (KV U)}{f:FI}{b:Z (KV U)}(h:Dt cs= .bJ f b):cs=[.bJ f b]:=by
 unfold Dt at h;split at h
 .rw[h]
 .cases h
def WA{cs cells:Z (KV U)}(h:Dt cs= .ref cells):cs=[.ref cells]:=by
 unfold Dt at h;split at h
 .rw[h]
 .cases h
def ae1{cs:Z (KV U)}{id aw off:Nat}(h:Dt cs= .ptr id aw off):cs=[.ptr id aw off]:=by
 unfold Dt at h;split at h
 .rw[h]
 .cases h
mutual
def agS:∀(a:dK U) (x:KV U) (v:a.den),N7 K a x=some v->x.pv=pX a v
 | .ty T,x,v,h=>by
  rw[N7]at h;rw[pX];split at h
  .rename_i d;obtain⟨cs,rfl,h⟩:=JR h;rw[KV.pv,KV.dm,RB h,fo,d]
  .rename_i d;have:=RB h;rw[fo,d,<-this];rfl
 | .bJ f cs,x,v,h=>by rw[N7]at h;rw[pX];obtain⟨b,rfl,e⟩:=E6 h;rw[KV.pv,KV.dm,D6 cs b v e]
 | .ref a,x,v,h=>by rw[N7]at h;rw[pX];obtain⟨cells,rfl,h⟩:=SH h;rw[KV.pv,KV.dm,Ku a cells v h]
 | .agg cs,x,v,h=>by rw[N7]at h;rw[pX];obtain⟨cells,rfl,h⟩:=JR h;rw[KV.pv,KV.dm,D6 cs cells v h]
def Ku:∀(a:dK U) (cs:Z (KV U)) (v:a.den),Fk K a cs=some v->cs.map KV.pv=tW a v
 | .ty T,cs,v,h=>by rw[Fk]at h;rw[tW];exact RB h
 | .bJ f cs,cells,v,h=>by
  rw[Fk]at h;rw[tW]
  let⟨d,e,h⟩:=E6 h
  rw[TL e,Qy,qas,KV.pv,KV.dm,D6 cs d v h]
 | .ref a,cells,v,h=>by
  rw[Fk]at h;rw[tW]
  let⟨b,e,h⟩:=SH h
  rw[WA e,Qy,qas,KV.pv,KV.dm,Ku a b v h]
 | .agg cs,cells,v,h=>by rw[Fk]at h;rw[tW];exact D6 cs cells v h
def D6:∀(A_s:Z (dK U)) (xs:Z (KV U)) (v:fb A_s),D7 K A_s xs=some v->xs.map KV.pv=iK A_s v
 |[],xs,v,h=>by rw[D7]at h;rw[iK,SJ h];rfl
 |a::l,xs,v,h=>by rw[D7]at h;rw[iK];obtain⟨x,xs,rfl,h1,b⟩:=O4 h;rw[Qy,agS a x v.1 h1,D6 l xs v.2 b]
end
mutual
def abR(d:∀id,ex=some id->∀e k T xs,(S.H id).c≠ .row e k T xs):∀(a:dK U) (n:Nat) (x:KV U) (v:a.den),a.depth<=n->RE K S ex a x=some v->fz S.st.H ex n x.pv=pX a v
 | .ty T,n,x,v,i,h=>by rw[RE]at h;rw[pX];rw[dK.depth]at i;obtain⟨m,rfl⟩:∃m,n=m+2:=⟨n - 2,O⟩;exact PD d m h
 | .bJ f cs,n,x,v,i,h=>by rw[RE]at h;rw[pX];rw[dK.depth]at i;obtain⟨m,rfl⟩:∃m,n=m+1:=⟨n - 1,O⟩;obtain⟨b,rfl,p⟩:=E6 h;rw[KV.pv,KV.dm,fz,qB d cs m b v O p]
 | .ref a,n,x,v,i,h=>by
  rw[RE]at h;rw[pX];rw[dK.depth]at i;obtain⟨m,rfl⟩:∃m,n=m+1:=⟨n - 1,O⟩;rcases SI h with⟨cells,rfl,h⟩|⟨id,aw,cells,rfl,g,j,q,h⟩
  .rw[KV.pv,KV.dm,Ku a cells v h];simp[fz,PV.closed]
  .have l:¬(some id=ex\/(S.st.H id).aw≠aw):=by
    rintro(h1|h1)
    .rw[<-h1]at g;simp[adk]at g
    .exact h1 j
   have o:(S.st.H id).c= .box (cells.map KV.pv):=by simp[bb.st,dJ.pv,q,eF.pv]
   simp[KV.pv,fz];rw[Qg l,o];simp only[List.drop_zero];rw[abQ d a m cells v O h]
 | .agg cs,n,x,v,i,h=>by rw[RE]at h;rw[pX];rw[dK.depth]at i;obtain⟨m,rfl⟩:∃m,n=m+1:=⟨n - 1,O⟩;obtain⟨b,rfl,p⟩:=JR h;rw[KV.pv,KV.dm,fz,qB d cs m b v O p]
def abQ(d:∀id,ex=some id->∀e k T xs,(S.H id).c≠ .row e k T xs):∀(a:dK U) (n:Nat) (cs:Z (KV U)) (v:a.den),a.depth<=n->RD K S ex a cs=some v->(cs.map KV.pv).map (fz S.st.H ex n)=tW a v
 | .ty T,n,cs,v,i,h=>by rw[RD]at h;rw[tW];rw[dK.depth]at i;obtain⟨m,rfl⟩:∃m,n=m+1:=⟨n - 1,O⟩;exact RH d m (K.qT _ _ _ _ h) K
 | .bJ f cs,n,cells,v,i,h=>by
  rw[RD]at h;rw[tW];rw[dK.depth]at i;obtain⟨m,rfl⟩:∃m,n=m+1:=⟨n - 1,O⟩
  let⟨o,l,h⟩:=E6 h
  rw[TL l,Qy,qas,Qy,qas,KV.pv,KV.dm,fz,qB d cs m o v O h]
 | .ref a,n,cells,v,i,h=>by
  rw[RD]at h;rw[tW];rw[dK.depth]at i;obtain⟨m,rfl⟩:∃m,n=m+1:=⟨n - 1,O⟩;rcases SI h with⟨b,l,h⟩|⟨id,aw,b,l,g,j,r,h⟩
  .rw[WA l,Qy,qas,KV.pv,KV.dm,Ku a b v h];simp[fz,PV.closed]
  .have p:¬(some id=ex\/(S.st.H id).aw≠aw):=by
    rintro(h1|h1)
    .rw[<-h1]at g;simp[adk]at g
    .exact h1 j
   have q:(S.st.H id).c= .box (b.map KV.pv):=by simp[bb.st,dJ.pv,r,eF.pv]
   rw[ae1 l];simp[Qy,qas,KV.pv,fz];rw[Qg p,q];simp only[List.drop_zero];rw[abQ d a m b v O h]
 | .agg cs,n,cells,v,i,h=>by rw[RD]at h;rw[tW];rw[dK.depth]at i;exact qB d cs n cells v O h
def qB(b:∀id,ex=some id->∀e k T xs,(S.H id).c≠ .row e k T xs):∀(A_s:Z (dK U)) (n:Nat) (xs:Z (KV U)) (v:fb A_s),tk A_s<=n->wA K S ex A_s xs=some v->(xs.map KV.pv).map (fz S.st.H ex n)=iK A_s v
 |[],n,xs,v,d,h=>by rw[wA]at h;rw[iK,SJ h];rfl
 |a::l,n,xs,v,d,h=>by rw[wA]at h;rw[iK];rw[tk]at d;obtain⟨x,xs,rfl,h1,f⟩:=O4 h;rw[Qy,Qy,abR b a n x v.1 O h1,qB b l n xs v.2 O f]
end
def yu{xs:Z (KV U)}{b:Z PV}(h:js vh xs b):(xs.map KV.pv).map nz=b/\xs.all KV.closed=true:=by
 induction h with
 |nil=>exact⟨rfl,rfl⟩
 |cons h _ d=>
  let⟨h1,e⟩:=d
  simp[Qy,Q3,h1,e,qaw]
  cases h with
  |own _ _ _ _ h=>cases h
  |_=>simp[KV.pv,nz,KV.closed]
def bb.pC(S:bb U)(id aw:Nat):bb U:={env:=S.env,H:=jd S.H id ⟨aw,.dead⟩,N:=S.N}
def ahV{H d:Nat->gU}{ex:Y Nat}(h:∀j,some j≠ex->d j=H j):∀(n:Nat) (y:PV),fz d ex n y=fz H ex n y
 |0,y=>by simp[fz]
 |n+1,y=>by
  have e:fz d ex n=fz H ex n:=funext (ahV h n)
  cases y with
  |own id aw|ptr id aw off=>
   simp[fz,e]
   by_cases b:some id=ex
   .rw[Qe (.inl b),Qe (.inl b)]
   .rw[h id b]
  |agg cs|ff cs|bJ f cs=>simp[fz,e]
  |_=>simp[fz]
def abE(S:bb U)(id aw n:Nat)(y:PV):fz (S.pC id aw).st.H (some id) n y=fz S.st.H (some id) n y:=by
 refine ahV (λj b=> ?_) n y
 have:j≠id:=λe=>b (by rw[e])
 simp only[bb.pC,bb.st,eC,du _ _ this]
def Zo(S:bb U)(id aw:Nat):∀j,some id=some j->∀e k T xs,((S.pC id aw).H j).c≠ .row e k T xs:=by
 intro j b e k T xs;injection b with b
 subst b;simp only[bb.pC,eC,cJ];intro h;cases h
inductive eB (U:TU) where
 |rw(f:FuncId) (e k:Nat) (T:U.Ty) (A_s:List (dK U)) (rs:sH U) (F:List (U.den T)->fb A_s->Option (rs.den×List (U.den T)))
 |cw (f:FuncId) (e k:Nat) (T:U.Ty) (A_s:List (dK U)) (F:List (U.den T)->fb A_s->Option (List (U.den T)))
 |fw (f:FuncId) (A_s:List (dK U)) (e k:Nat) (T:U.Ty) (F:fb A_s->Option (List (U.den T)))
 |fn (f:FuncId) (A_s:List (dK U)) (rs:sH U) (F:fb A_s->Option rs.den)
 |rc (f:FuncId) (pos:Nat) (R:U.Ty) (A_s:List (dK U)) (rs:sH U) (F:U.den R->fb A_s->Option (rs.den×U.den R))
 |nw (f:FuncId) (A_s:List (dK U)) (R:U.Ty) (F:fb A_s->Option (U.den R))
 |ro (f:FuncId) (pos:Nat) (R:U.Ty) (A_s:List (dK U)) (rs:sH U) (F:U.den R->fb A_s->Option (rs.den×U.den R))
 |bk (f k:Nat) (nE:Option Nat)
def eB.Sound(P:Pr):eB U->Prop
 | .rw f e k T A_s d F=>Enters P f/\∀xs a r b,F xs a=some (r,b)->adR P f e k (xs.map (U.pv T)) (iK A_s a) (xQ d r) (b.map (U.pv T))
 | .cw f e k T A_s F=>Enters P f/\∀xs a b,F xs a=some b->RP P f e k (xs.map (U.pv T)) (iK A_s a) (b.map (U.pv T))
 | .fw f A_s e k T F=>Enters P f/\∀a b,F a=some b->aak P f (iK A_s a) e k (b.map (U.pv T))
 | .fn f A_s d F=>Enters P f/\∀a r,F a=some r->Con P f false [] (iK A_s a) (xQ d r) []
 | .rc f pos R A_s d F=>Enters P f/\∀s a r s',F s a=some (r,s')->Of P f pos true (U.pv R s) (iK A_s a) (xQ d r) (U.pv R s')
 | .ro f pos R A_s d F=>Enters P f/\∀s a r s',F s a=some (r,s')->s'=s/\Of P f pos true (U.pv R s) (iK A_s a) (xQ d r) (U.pv R s')
 | .nw f A_s R F=>Enters P f/\∀a s,F a=some s->adS P f (iK A_s a) (U.pv R s)
 | .bk f k g=>jD P f 19 (GC k g) []
def xt(P:Pr):Z (eB U)->Prop
 |[]=>True
 |f::l=>f.Sound P/\xt P l
def TO(f k:Nat)(e:Y Nat):Z (eB U)->Bool
 |[]=>false
 | .bk g k' d::Γ=>(Nat.beq f g&&Nat.beq k k'&&(match e,d with|none,none=>true|some a,some b=>Nat.beq a b|_,_=>false))||TO f k e Γ
 |_::Γ=>TO f k e Γ
def Rt{P:Pr}{f k:Nat}{d:Y Nat}:∀{Γ:Z (eB U)},xt P Γ->TO f k d Γ=true->jD P f 19 (GC k d) []
 |[],_,h=>by cases h
 | .bk l k' nE'::Γ,b,h=>by
  simp only[TO,QR,Qi]at h;rcases h with⟨⟨i,g⟩,e⟩|h
  .have i:=Qp i;have g:=Qp g;subst i g
   have j:d=nE':=by cases d<;>cases nE'<;>simp only at e<;>first|rfl|(cases e)|(rw[Qp e])
   subst j;exact b.1
  .exact Rt b.2 h
 | .ro ..::Γ,b,h| .rw ..::Γ,b,h| .cw ..::Γ,b,h| .fw ..::Γ,b,h| .fn ..::Γ,b,h| .rc ..::Γ,b,h| .nw ..::Γ,b,h=>Rt (Γ:=Γ) b.2 h
def Zs{y:PV}(h:y.gJ=true):y.closed=true:=by cases y<;>first|rfl|cases h
open Classical in
 def yT(recv:Bool)(pos:Nat)(fresh ro:Bool)(cs b:Z PV)(r:PV)(cs':Z PV):Model:=
 {recv:=recv,pos:=pos,fresh:=fresh,m:=λc a=>if c=cs/\a=b then some (r,cs')else none,rk:= .no,ro:=ro,rm:=λ_ _=>none}
open Classical in
 def E4(rk:RK)(es:Z (Z PV))(b:Z PV)(r:PV)(d:Z (Z PV)):Model:=
 {recv:=false,pos:=0,fresh:=false,m:=λ_ _=>none,rk:=rk,ro:=false,rm:=λc a=>if c=es/\a=b then some (r,d)else none}
 def zY(f:FI)(m:Model):sF:=λg=>if g=f then some m else none
def xW{P:Pr}{f:FI}{m:Model}(h:afF P f m):rE P (zY f m):=by
 intro g m' b
 grind [zY]
def xX(f:FI)(m:Model):zY f m f=some m:=Qe rfl
def bb.xk(S:bb U)(id aw:Nat):Y (Z (KV U)):=
 match Nat.beq (S.H id).aw aw with
 |true=>match(S.H id).c with
  | .box cs=>some cs
  |_=>none
 |false=>none
def Ea{id aw:Nat}{cs:Z (KV U)}(h:S.xk id aw=some cs):(S.H id).aw=aw/\(S.H id).c= .box cs:=by
 unfold bb.xk at h;split at h
 .rename_i hv;split at h
  .rename_i b;cases h;exact⟨Qp hv,b⟩
  .cases h
 .cases h
structure ahi (U:TU) where
 e:Nat
 k:Nat
 T:U.Ty
 xs:List (U.den T)
def bb.row?(S:bb U)(id aw:Nat):Y (ahi U):=
 match Nat.beq (S.H id).aw aw with
 |true=>match(S.H id).c with
  | .row e k T xs=>some ⟨e,k,T,xs⟩
  |_=>none
 |false=>none
theorem Hb{id aw:Nat}{r:ahi U}(h:S.row? id aw=some r):(S.H id).aw=aw/\(S.H id).c= .row r.e r.k r.T r.xs:=by
 unfold bb.row? at h;split at h
 .rename_i hv;split at h
  .rename_i b;cases h;exact⟨Qp hv,b⟩
  .cases h
 .cases h
def tE{id aw:Nat}{r:ahi U}(h:S.row? id aw=some r):(S.st.H id).aw=aw/\(S.st.H id).c= .row r.e r.k (r.xs.map (U.pv r.T)):=by grind [Hb,bb.st,dJ.pv,eF.pv]
structure alU (U:TU) where
 e:Nat
 k:Nat
 es:List (List (KV U))
def bb.Yh(S:bb U)(id aw:Nat):Y (alU U):=
 match Nat.beq (S.H id).aw aw with
 |true=>match(S.H id).c with
  | .raw e k es=>some ⟨e,k,es⟩
  |_=>none
 |false=>none
def Yf{id aw:Nat}{r:alU U}(h:S.Yh id aw=some r):(S.st.H id).aw=aw/\(S.st.H id).c= .row r.e r.k (r.es.map λc=>c.map KV.pv):=by
 unfold bb.Yh at h;split at h
 .rename_i hv;split at h
  .rename_i b;injection h with h
   subst h;exact⟨Qp hv,by simp[bb.st,dJ.pv,b,eF.pv]⟩
  .cases h
 .cases h
def XF{α:Type}(S:bb U)(e k:Nat)(T:U.Ty)(b:Z (KV U))(j:Nat->Nat->Z (U.den T)->Z (KV U)->Y α):Y α:=
 match b with
 | .own id aw::rest=>(match S.row? id aw with
  |some r=>(match Nat.beq r.e e&&Nat.beq r.k k with
   |true=>(match DA r.T T r.xs with|some xs=>j id aw xs rest|none=>none)
   |false=>none)
  |none=>none)
 |_=>none
def SF{α:Type}{e k:Nat}{T:U.Ty}{f:Z (KV U)}{j:Nat->Nat->Z (U.den T)->Z (KV U)->Y α}{r:α}(h:XF S e k T f j=some r):
  ∃id aw xs b,f= .own id aw::b/\(S.H id).aw=aw/\(S.H id).c= .row e k T xs/\j id aw xs b=some r:=by
 unfold XF at h;split at h
 .rename_i id aw b;split at h
  .rename_i n o
   let⟨h1,i⟩:=Hb o
   split at h
   .rename_i d;rw[Qi]at d;split at h
    .rename_i xs g;obtain⟨l,rfl⟩:=rC g
     let⟨p,rk,q,m⟩:=n
     simp only at l i d;subst l;exact⟨id,aw,_,b,rfl,h1,by rw[i,Qp d.1,Qp d.2],h⟩
    .cases h
   .cases h
  .cases h
 .cases h
def CX(K:TK U)(T:U.Ty)(xs:Z (U.den T)):DO (xs.map (U.pv T))=true:=by
 refine Qn.2 λu d=> ?_
 obtain⟨x,_,rfl⟩:=QO.1 d;exact Qn.2 λy b=>Zs (K.gJ T x y b)
def PS(K:TK U){T:U.Ty}(e:U.plain T=true)(xs:Z (U.den T)):Me (xs.map (U.pv T))=true:=by
 refine Qn.2 λu d=> ?_
 obtain⟨x,_,rfl⟩:=QO.1 d;exact Qn.2 λy b=>K.plain T e x y b
variable(K)
def lN{ρ:Type}(nid:Nat)(S:bb U)(f:FI)(b:Z (KV U))(k:KV U->Y (Nat×dJ U)->Y ρ):Z (eB U)->Y ρ
 |[]=>none
 | .bk _ _ _::Γ=>lN nid S f b k Γ
 | .rw g e i T A_s h F::Γ=>match Nat.beq f g with
  |true=>XF S e i T b λid aw xs d=>(match wA K (S.pC id aw) (some id) A_s d with
   |some a=>(match(h.plain||d.all KV.bP)&&(U.plain T||d.all KV.bP)&&(h.ok&&Nat.ble (tk A_s) 9)with
    |true=>(F xs a).bind λp=>k (X7 K h p.1) (some (id,⟨aw,.row e i T p.2⟩))
    |false=>none)
   |none=>lN nid S f b k Γ)
  |false=>lN nid S f b k Γ
 | .cw g e i T A_s F::Γ=>match Nat.beq f g with
  |true=>XF S e i T b λid aw xs d=>(match wA K (S.pC id aw) (some id) A_s d with
   |some a=>(match(U.plain T||d.all KV.bP)&&Nat.ble (tk A_s) 9 with
    |true=>(F xs a).bind λj=>k (.own id (aw+1)) (some (id,⟨aw+1,.row e i T j⟩))
    |false=>none)
   |none=>lN nid S f b k Γ)
  |false=>lN nid S f b k Γ
 | .fw g A_s e i T F::Γ=>match Nat.beq f g with
  |true=>(match wA K S none A_s b with
   |some a=>(match(U.plain T||b.all KV.bP)&&Nat.ble (tk A_s) 9 with
    |true=>(F a).bind λj=>k (.own nid ((S.H nid).aw+1)) (some (nid,⟨(S.H nid).aw+1,.row e i T j⟩))
    |false=>none)
   |none=>lN nid S f b k Γ)
  |false=>lN nid S f b k Γ
 | .fn g A_s h F::Γ=>match Nat.beq f g with
  |true=>(match wA K S none A_s b with
   |some a=>(match(h.plain||b.all KV.bP)&&(h.ok&&Nat.ble (tk A_s) 9)with
    |true=>(F a).bind λr=>k (X7 K h r) none
    |false=>none)
   |none=>lN nid S f b k Γ)
  |false=>lN nid S f b k Γ
 | .rc g pos R A_s h F::Γ=>match Nat.beq f g with
  |true=>(match b[pos]? with
   |some (.ptr id aw 0)=>(match S.xk id aw with
    |some cs=>(match K.dec R vh cs with
     |some s=>(match wA K S (some id) A_s (cutAt pos b)with
      |some a=>(match((h.plain&&U.plain R)||(cutAt pos b).all KV.bP)&&(h.ok&&Nat.ble (tk A_s) 9)with
       |true=>(F s a).bind λp=>k (X7 K h p.1) (some (id,⟨aw,.box (K.gu R p.2)⟩))
       |false=>none)
      |none=>lN nid S f b k Γ)
     |none=>none)
    |none=>none)
   |_=>none)
  |false=>lN nid S f b k Γ
 | .ro g pos R A_s h F::Γ=>match Nat.beq f g with
  |true=>(match b[pos]? with
   |some (.ptr id aw 0)=>(match S.xk id aw with
    |some cs=>(match Kt K R cs with
     |some s=>(match wA K S (some id) A_s (cutAt pos b)with
      |some a=>(match((h.plain&&U.plain R)||(cutAt pos b).all KV.bP)&&(h.ok&&Nat.ble (tk A_s) 9)with
       |true=>(F s a).bind λp=>k (X7 K h p.1) none
       |false=>none)
      |none=>lN nid S f b k Γ)
     |none=>none)
    |none=>none)
   |_=>none)
  |false=>lN nid S f b k Γ
 | .nw g A_s R F::Γ=>match Nat.beq f g with
  |true=>(match wA K S none A_s b with
   |some a=>(match(U.plain R||b.all KV.bP)&&Nat.ble (tk A_s) 9 with
    |true=>(F a).bind λs=>k (.ptr nid ((S.H nid).aw+1) 0) (some (nid,⟨(S.H nid).aw+1,.box (K.gu R s)⟩))
    |false=>none)
   |none=>lN nid S f b k Γ)
  |false=>lN nid S f b k Γ
variable{K}
def yO{T:U.Ty}(K:TK U)(v:U.den T)(e:U.agg T=false):∃y,fo T v=y/\y∈U.pv T v:=by
 have b:=K.len T v;rw[K.one T e]at b
 cases d:U.pv T v with
 |nil=>rw[d]at b;cases b
 |cons y l=>exact⟨y,by rw[fo,e,d];rfl,QC⟩
def Bf{T:U.Ty}(v:U.den T)(b:U.agg T=true):fo T v= .agg (U.pv T v):=by rw[fo,b]
def Yt{y:PV}(h:y.plain=true):y.tG=true:=by cases y<;>first|exact h|cases h
def iE{y:PV}(h:y.gJ=true):y.closed=true:=by cases y<;>first|rfl|cases h
def Zr{y:PV}(h:y.gJ=true):y.bP=true:=by cases y<;>first|rfl|cases h
def OV(K:TK U){T:U.Ty}(b:U.plain T=true)(v:U.den T):(fo T v).tG=true:=by
 cases d:U.agg T with
 |true=>rw[Bf v d];exact Qn.2 λy e=>K.plain T b v y e
 |false=>let⟨y,h1,f⟩:=yO K v d;rw[h1];exact Yt (K.plain T b v y f)
def Eg{T:U.Ty}(K:TK U)(v:U.den T):(fo T v).bP=true:=by
 cases b:U.agg T with
 |true=>rw[Bf v b];exact Qn.2 λy d=>iE (K.gJ T v y d)
 |false=>let⟨y,h1,e⟩:=yO K v b;rw[h1];exact Zr (K.gJ T v y e)
def RW(K:TK U):∀(b:Z U.Ty) (v:KH U b),b.all U.plain=true->(HH b v).all PV.tG=true
 |[],v,_=>rfl
 |T::l,v,h=>by rw[Q3,Qi]at h;rw[HH,Q3,OV K h.1 v.1,RW K l v.2 h.2];rfl
def LI(K:TK U):∀(b:Z U.Ty) (v:KH U b),(HH b v).all PV.bP=true
 |[],v=>rfl
 |T::l,v=>by rw[HH,Q3,Eg K v.1,LI K l v.2];rfl
def aeq{y:PV}(h:y.tG=true):y.xU=true:=by cases y<;>first|exact h|cases h
def KP{T:U.Ty}(K:TK U)(v:U.den T)(cs:Z PV):fo T v≠ .ff cs:=by
 intro h
 cases b:U.agg T with
 |true=>rw[Bf v b]at h;cases h
 |false=>let⟨y,h1,e⟩:=yO K v b;have d:=K.gJ T v y e;rw[<-h1,h]at d;cases d
def Dh(K:TK U):∀(r:sH U) (v:r.den),r.plain=true->(xQ r v).xU=true
 | .one T,v,h=>aeq (OV K h v)
 | .many b,v,h=>RW K b v h
 | .fn _,_,h=>by cases h
def W0:∀(A_s:Z (dK U)) (v:fb A_s),A_s.all dK.ahK=true->(iK A_s v).all PV.closed=true
 |[],_,_=>by rw[iK];rfl
 |a::l,v,h=>by
  rw[Q3,Qi]at h;rw[iK,Q3,W0 l v.2 h.2,qaw]
  cases a with
  |ref a=>rw[pX];rfl
  |ty T|bJ f cs|agg cs=>cases h.1
def BE(K:TK U):∀(r:sH U) (v:r.den),r.ok=true->(xQ r v).yZ=true
 | .fn (.bJ f cs),v,h=>by show(pX (.bJ f cs) v).yZ=true;rw[pX];exact W0 cs v h
 | .fn (.ty _),v,h| .fn (.ref _),v,h| .fn (.agg _),v,h=>by cases h
 | .one T,v,_=>by show(fo T v).yZ=true;have d:=Eg K v;have b:=KP K v;generalize fo T v=y at d b;cases y<;>first|exact d|exact absurd rfl (b _)
 | .many e,v,_=>LI K e v
def oH(l:Z (KV U)):(l.map KV.pv).all PV.bP=l.all KV.bP:=by
 induction l with
 |nil=>rfl
 |cons x l b=>simp only[Qy,Q3,adu,b]
def fu{P:Pr}{ρ:Type}{nid:Nat}{f:FI}{n:Z (KV U)}{k:KV U->Y (Nat×dJ U)->Y ρ}{r:ρ}:∀{Γ:Z (eB U)},xt P Γ->lN K nid S f n k Γ=some r->
  ∃Γ' x wr,rE P Γ'/\pF Γ' nid S.st f (n.map KV.pv)=some (x.pv,wr.map mu)/\k x wr=some r
 |[],_,h=>by cases h
 | .bk _ _ _::Γ,j,h=>fu (Γ:=Γ) j.2 h
 | .rw g e kk T A_s J F::Γ,j,h=>by
  simp only[lN]at h;split at h
  .rename_i q;have q:=Qp q;subst q;obtain⟨id,aw,xs,rest,rfl,z,hc,h'⟩:=SF h;split at h'
   .rename_i a ha;split at h'
    .rename_i b;simp only[Qm]at h';obtain⟨⟨v,H⟩,hv,hk⟩:=h';rw[Qi,Qi,Qi]at b;obtain⟨⟨o,d⟩,A,m⟩:=b;have t:=qB (ex:=some id) (Zo S id aw) A_s 9 rest a (QS m) ha
     have hfz':(rest.map KV.pv).map (fz S.st.H (some id) 9)=iK A_s a:=by rw[<-t];exact qak λy _=>(abE S id aw 9 y).symm
     obtain⟨u,l⟩:=j.1;refine⟨zY f (E4 (.bor e kk) (xs.map (U.pv T)) (iK A_s a) (xQ J v) (H.map (U.pv T))),X7 K J v,some (id,⟨aw,.row e kk T H⟩),xW ⟨u,(λ_ cs D r' cs' i=>by cases i),(λp=>by cases p),λes D r' es' i=> ?_,(λp=>by cases p)⟩,?_,hk⟩
     .simp only[E4]at i;split at i
      .rename_i he;injection i with i
       injection i with h1 I
       subst h1 I;obtain⟨rfl,rfl⟩:=he;exact l xs a v H hv
      .cases i
     .have M:(S.st.H id).aw=aw:=z;have hc1:(S.st.H id).c= .row e kk (xs.map (U.pv T)):=by simp[bb.st,dJ.pv,hc,eF.pv]
      simp only[Qy,KV.pv,pF,xX,E4,Db,M,hc1,Qr,CX K T xs,qaN,hfz',Se,Qo,mu,dJ.pv,eF.pv];rw[Qe];rw[oH,BE K J v A,CX K T H];simp only[QR]at o d;rcases o with o|o
      .rw[Dh K J v o];rcases d with d|d
       .rw[PS K d H];rfl
       .rw[d];simp
      .rw[o];simp
    .cases h'
   .exact fu j.2 h'
  .exact fu j.2 h
 | .cw g e kk T A_s F::Γ,j,h=>by
  simp only[lN]at h;split at h
  .rename_i q;have q:=Qp q;subst q;obtain⟨id,aw,xs,rest,rfl,z,hc,h'⟩:=SF h;split at h'
   .rename_i a ha;split at h'
    .rename_i b;simp only[Qm]at h';obtain⟨H,hv,hk⟩:=h';rw[Qi]at b;obtain⟨d,m⟩:=b;have t:=qB (ex:=some id) (Zo S id aw) A_s 9 rest a (QS m) ha
     have hfz':(rest.map KV.pv).map (fz S.st.H (some id) 9)=iK A_s a:=by rw[<-t];exact qak λy _=>(abE S id aw 9 y).symm
     obtain⟨u,l⟩:=j.1;refine⟨zY f (E4 (.T7 e kk) (xs.map (U.pv T)) (iK A_s a) .any (H.map (U.pv T))),.own id (aw+1),some (id,⟨aw+1,.row e kk T H⟩),xW ⟨u,(λ_ cs D r' cs' i=>by cases i),(λp=>by cases p),λes D r' es' i=> ?_,(λp=>by cases p)⟩,?_,hk⟩
     .simp only[E4]at i;split at i
      .rename_i he;injection i with i
       injection i with h1 I
       subst h1 I;obtain⟨rfl,rfl⟩:=he;exact l xs a H hv
      .cases i
     .have M:(S.st.H id).aw=aw:=z;have hc1:(S.st.H id).c= .row e kk (xs.map (U.pv T)):=by simp[bb.st,dJ.pv,hc,eF.pv]
      simp only[Qy,KV.pv,pF,xX,E4,Da,M,hc1,Qr,CX K T xs,qaN,hfz',Qo,mu,dJ.pv,eF.pv];rw[Qe];rw[oH,CX K T H];simp only[QR]at d;rcases d with d|d
      .rw[PS K d H];rfl
      .rw[d];simp
    .cases h'
   .exact fu j.2 h'
  .exact fu j.2 h
 | .fw g A_s e kk T F::Γ,j,h=>by
  simp only[lN]at h;split at h
  .rename_i q;have q:=Qp q;subst q;split at h
   .rename_i a ha;split at h
    .rename_i b;simp only[Qm]at h;obtain⟨H,hv,hk⟩:=h;rw[Qi]at b;obtain⟨d,m⟩:=b;have t:=qB (ex:=none) (λid h=>by cases h) A_s 9 n a (QS m) ha
     obtain⟨u,l⟩:=j.1;refine⟨zY f (E4 (.fre e kk) [] (iK A_s a) .any (H.map (U.pv T))),.own nid ((S.H nid).aw+1),some (nid,⟨(S.H nid).aw+1,.row e kk T H⟩),xW ⟨u,(λ_ cs D r' cs' i=>by cases i),(λp=>by cases p),λD r' es' i=> ?_,(λp=>by cases p)⟩,?_,hk⟩
     .simp only[E4]at i;split at i
      .rename_i he;injection i with i
       injection i with h1 I
       subst h1 I;obtain⟨_,rfl⟩:=he;exact l a H hv
      .cases i
     .simp only[pF,xX,E4,Ja,t,qaN,Qr,Qo,mu,dJ.pv,eF.pv,KV.pv];rw[Qe]
      .rfl
      rw[oH,CX K T H];simp only[QR]at d;rcases d with d|d
      .rw[PS K d H];rfl
      .rw[d];simp
    .cases h
   .exact fu j.2 h
  .exact fu j.2 h
 | .fn g A_s J F::Γ,j,h=>by
  simp only[lN]at h;split at h
  .rename_i q;have q:=Qp q;subst q;split at h
   .rename_i a ha;split at h
    .rename_i b;simp only[Qm]at h;obtain⟨v,hv,hk⟩:=h;rw[Qi,Qi]at b;obtain⟨b,A,m⟩:=b;have t:=qB (ex:=none) (λid h=>by cases h) A_s 9 n a (QS m) ha
     obtain⟨u,l⟩:=j.1;refine⟨zY f (yT false 0 false false [] (iK A_s a) (xQ J v) []),_,none,xW ⟨u,λ_ cs D r' cs' i=> ?_,(λp=>by cases p),trivial,(λp=>by cases p)⟩,?_,hk⟩
     .simp only[yT]at i;split at i
      .rename_i he;injection i with i
       injection i with h1 I
       subst h1 I;obtain⟨rfl,rfl⟩:=he;exact l a v hv
      .cases i
     .simp only[pF,xX,yT,QB,Qx,t,qaN,Qr,Se,Q5];rw[Qe];rw[oH,BE K J v A];simp only[QR]at b;rcases b with b|b
      .rw[Dh K J v b];rfl
      .rw[b];simp
    .cases h
   .obtain⟨Γ',x,wr,h1,I,h3⟩:=fu j.2 h;exact⟨Γ',x,wr,h1,I,h3⟩
  .exact fu j.2 h
 | .rc g pos R A_s J F::Γ,j,h=>by
  simp only[lN]at h;split at h
  .rename_i q;have q:=Qp q;subst q;split at h
   .rename_i id aw B;have B:n[pos]?=some (.ptr id aw 0):=B;generalize N:cutAt pos n=rest at h;split at h
    .rename_i cs hbox;split at h
     .rename_i s hs;split at h
      .rename_i a ha;split at h
       .rename_i b;simp only[Qm]at h;obtain⟨⟨v,s'⟩,hv,hk⟩:=h;obtain⟨z,hc⟩:=Ea hbox;rw[Qi,Qi]at b;obtain⟨b,A,m⟩:=b;have t:=qB (ex:=some id) (λid' h=>by injection h with h;subst h;intro e k T xs p;rw[hc]at p;cases p) A_s 9 rest a (QS m) ha
        obtain⟨hnz,hclo⟩:=yu (K.qT _ _ _ _ hs);obtain⟨u,l⟩:=j.1;refine⟨zY f (yT true pos false false (U.pv R s) (iK A_s a) (xQ J v) (U.pv R s')),_,_,xW ⟨u,λ_ cs D r' cs' i=> ?_,(λp=>by cases p),trivial,(λp=>by cases p)⟩,?_,hk⟩
        .simp only[yT]at i;split at i
         .rename_i he;injection i with i
          injection i with h1 I
          subst h1 I;obtain⟨rfl,rfl⟩:=he;exact l s a v s' hv
         .cases i
        .have M:(S.st.H id).aw=aw:=z;have hc1:(S.st.H id).c= .box (cs.map KV.pv):=by simp[bb.st,dJ.pv,hc,eF.pv]
         have V:(n.map KV.pv)[pos]?=some (.ptr id aw 0):=by rw[QG,B];rfl
         have G:cutAt pos (n.map KV.pv)=rest.map KV.pv:=by rw[<-N];simp[cutAt]
         simp only[pF,xX,yT,qbw,QB,Qx,Qr,V,G,M,hc1,tl,hclo,hnz,t,qaN,Se,Qo,mu,dJ.pv,eF.pv,K.wO];rw[Qe];have hgs:(U.pv R s').all PV.closed=true:=Qn.2 λy hy=>iE (K.gJ R s' y hy)
         rw[oH,BE K J v A,hgs];simp only[QR,Qi]at b;rcases b with⟨o,d⟩|b
         .rw[Dh K J v o,Qn.2 λy hy=>K.plain R d s' y hy];rfl
         .rw[b];simp
       .cases h
      .exact fu j.2 h
     .cases h
    .cases h
   .cases h
  .exact fu j.2 h
 | .ro g pos R A_s J F::Γ,j,h=>by
  simp only[lN]at h;split at h
  .rename_i q;have q:=Qp q;subst q;split at h
   .rename_i id aw B;have B:n[pos]?=some (.ptr id aw 0):=B;generalize N:cutAt pos n=rest at h;split at h
    .rename_i cs hbox;split at h
     .rename_i s hs;split at h
      .rename_i a ha;split at h
       .rename_i b;simp only[Qm]at h;obtain⟨⟨v,s'⟩,hv,hk⟩:=h;obtain⟨z,hc⟩:=Ea hbox;rw[Qi,Qi]at b;obtain⟨b,A,m⟩:=b;have t:=qB (ex:=some id) (λid' h=>by injection h with h;subst h;intro e k T xs p;rw[hc]at p;cases p) A_s 9 rest a (QS m) ha
        obtain⟨hnn,hs⟩:cs.all KV.XJ=true/\K.dec R vh cs=some s:=by
         unfold Kt at hs;split at hs
         .rename_i hn;exact⟨hn,hs⟩
         .cases hs
        obtain⟨hnz,hclo⟩:=yu (K.qT _ _ _ _ hs)
        have hnnp:(cs.map KV.pv).all PV.YG=true:=by rw[Qn];intro y hy;obtain⟨x,hx,rfl⟩:=QO.1 hy;have:=Qn.1 hnn x hx;cases x<;>first|rfl|cases this
        obtain⟨u,l⟩:=j.1;refine⟨zY f (yT true pos false true (U.pv R s) (iK A_s a) (xQ J v) (U.pv R s')),_,none,xW ⟨u,λ_ cs D r' cs' i=> ?_,(λp=>by cases p),trivial,λ_ cs D r' cs' i=> ?_⟩,?_,hk⟩
        .simp only[yT]at i;split at i
         .rename_i he;injection i with i
          injection i with h1 I
          subst h1 I;obtain⟨rfl,rfl⟩:=he;exact(l s a v s' hv).2
         .cases i
        .simp only[yT]at i;split at i
         .rename_i he;injection i with i
          injection i with h1 I
          subst h1 I;rw[(l s a v s' hv).1,he.1]
         .cases i
        .have M:(S.st.H id).aw=aw:=z;have hc1:(S.st.H id).c= .box (cs.map KV.pv):=by simp[bb.st,dJ.pv,hc,eF.pv]
         have V:(n.map KV.pv)[pos]?=some (.ptr id aw 0):=by rw[QG,B];rfl
         have G:cutAt pos (n.map KV.pv)=rest.map KV.pv:=by rw[<-N];simp[cutAt]
         simp only[pF,xX,yT,QB,Qx,Qr,V,G,M,hc1,tl,hclo,hnz,t,qaN,Se,Q5,hnnp,qap];rw[Qe];have hgs:(U.pv R s').all PV.closed=true:=Qn.2 λy hy=>iE (K.gJ R s' y hy)
         rw[oH,BE K J v A,hgs];simp only[QR,Qi]at b;rcases b with⟨o,d⟩|b
         .rw[Dh K J v o,Qn.2 λy hy=>K.plain R d s' y hy];rfl
         .rw[b];simp
       .cases h
      .exact fu j.2 h
     .cases h
    .cases h
   .cases h
  .exact fu j.2 h
 | .nw g A_s R F::Γ,j,h=>by
  simp[lN]at h;split at h
  .rename_i q;have q:=Qp q;subst q;split at h
   .rename_i a ha;split at h
    .rename_i b;simp[Qm]at h
     let⟨s,hs,hk⟩:=h
     rw[Qi]at b
     let⟨b,m⟩:=b
     have t:=qB (ex:=none) (λid h=>by cases h) A_s 9 n a (QS m) ha
     let⟨u,l⟩:=j.1
     refine⟨zY f (yT false 0 true false [] (iK A_s a) .any (U.pv R s)),_,_,xW ⟨u,(λp=>by cases p),λ_ D r' cs' i=> ?_,trivial,(λp=>by cases p)⟩,?_,hk⟩
     .simp only[yT]at i;split at i
      .rename_i he;injection i with i
       injection i with h1 I
       subst h1 I;obtain⟨_,rfl⟩:=he;exact l a s hs
      .cases i
     .simp only[pF,xX,yT,Qr,t,qaN,Qo,mu,dJ.pv,eF.pv,K.wO];have hgs:(U.pv R s).all PV.closed=true:=Qn.2 λy hy=>iE (K.gJ R s y hy)
      rw[Qe]
      .rfl
      rw[oH,hgs];simp only[QR]at b;rcases b with b|b
      .rw[Qn.2 λy hy=>K.plain R b s y hy];rfl
      .rw[b];simp
    .cases h
   .exact fu j.2 h
  .exact fu j.2 h
end
end
section
def idx{α:Type}(xs:Z α)(n:Int):Y α:=if 0<=n then xs[n.toNat]? else none
def bl(b n:Nat):Bool:=decide (n*b<=140737488355328)&&decide (n<=maxLen)
def Fb{b n:Nat}(h:bl b n=true):n*b<=140737488355328/\n<=maxLen:=by simpa[bl]using h
def Rq{α:Type}{xs:Z α}{n:Int}{v:α}(h:idx xs n=some v):0<=n/\n.toNat<xs.length/\xs[n.toNat]?=some v:=by
 unfold idx at h;split at h
 .rename_i b;exact⟨b,(QH.1 h).1,h⟩
 .cases h
section
variable{U:TU}
def Ms:Y Nat->Z (KV U)->Y (KV U)
 |none,cs=>(match cs with|x::_=>some x|[]=>none)
 |some n,cs=>(match Nat.ble n cs.length with|true=>some (.agg (cs.take n))|false=>none)
def Iw(cs:Z (KV U))(off:Nat)(xs:Z (KV U)):Z (KV U):=cs.take off++xs++cs.drop (off+xs.length)
def XO(S:bb U):Z (KV U)->Z (Nat×Nat×bD)->Y (Z (KV U))
 |cs,[]=>some cs
 |cs,(off,n,x)::rest=>
  match Nat.beq (x.dv S).cells.length n&&Nat.ble (off+n) cs.length&&(x.dv S).cells.all KV.one with
  |true=>XO S (Iw cs off (x.dv S).cells) rest
  |false=>none
def M4(S:bb U)(k:Nat):Z (Z (KV U))->Z (Nat×bD)->Y (Z (Z (KV U)))
 |es,[]=>some es
 |es,(i,x)::rest=>
  match Nat.beq (x.dv S).cells.length k&&Nat.blt i es.length&&(x.dv S).cells.all KV.one with
  |true=>M4 S k (es.set i (x.dv S).cells) rest
  |false=>none
def XQ(K:TK U)(T:U.Ty):Z (Z (KV U))->Y (Z (U.den T))
 |[]=>some []
 |e::es=>match K.dec T vh e with
  |some v=>(match XQ K T es with|some vs=>some (v::vs)|none=>none)
  |none=>none
def ag4{ρ:Type}(op:BinOp)(x y:KV U)(k:KV U->Y ρ):Y ρ:=
 match x,y with
 | .int d a,.int e b=>
  match op with
  | .shl=>if b<0 then none else k (.int d (d.wrap (a*2 ^ (min b.toNat d.bits))))
  | .shr=>if b<0 then none else k (.int d (a.fdiv (2 ^ (min b.toNat d.bits))))
  |_=>if d=e then(match op with
   | .add=>k (.int d (d.wrap (a+b)))
   | .sub=>k (.int d (d.wrap (a - b)))
   | .mul=>k (.int d (d.wrap (a*b)))
   | .quo=>if b=0 then none else k (.int d (d.wrap (a.tdiv b)))
   | .rem=>if b=0 then none else k (.int d (a.tmod b))
   | .and=>k (.int d (d.wrap ((BitVec.ofInt d.bits a&&&BitVec.ofInt d.bits b).toNat)))
   | .or=>k (.int d (d.wrap ((BitVec.ofInt d.bits a|||BitVec.ofInt d.bits b).toNat)))
   | .xor=>k (.int d (d.wrap ((BitVec.ofInt d.bits a^^^BitVec.ofInt d.bits b).toNat)))
   | .andNot=>k (.int d (d.wrap ((BitVec.ofInt d.bits a&&& ~~~ BitVec.ofInt d.bits b).toNat)))
   | .eql=>k (.bool (decide (a=b)))
   | .neq=>k (.bool (!decide (a=b)))
   | .lss=>k (.bool (decide (a<b)))
   | .leq=>k (.bool (decide (a<=b)))
   | .gtr=>k (.bool (decide (b<a)))
   | .geq=>k (.bool (decide (b<=a)))
   |_=>none)else none
 | .str a,.str b=>
  match op with
  | .eql=>k (.bool (decide (a=b)))
  | .neq=>k (.bool (!decide (a=b)))
  | .lss=>k (.bool (nf a b))
  | .leq=>k (.bool (nf a b||decide (a=b)))
  | .gtr=>k (.bool (!(nf a b||decide (a=b))))
  | .geq=>k (.bool (!nf a b))
  |_=>none
 |_,_=>none
def N3:Z LK->Z (KV U)->Z (KV U)->Y Bool
 |[],cs,d=>(match cs,d with|[],[]=>some true|_,_=>none)
 |q::ks,cs,d=>(match q,cs,d with
  | .i,.int k a::cs,.int l b::d=>if k=l then(match N3 ks cs d with|some r=>some (decide (a=b)&&r)|none=>none)else none
  | .s,.str a::cs,.str b::d| .b,.bool a::cs,.bool b::d=>(match N3 ks cs d with|some r=>some (decide (a=b)&&r)|none=>none)
  |_,_,_=>none)
def Kn:∀{ks:Z LK} {cs e:Z (KV U)} {b:Bool},N3 ks cs e=some b->pD ks (cs.map KV.pv) (e.map KV.pv)=some b
 |[],cs,e,b,h=>by
  simp only[N3]at h;split at h
  .injection h with h;subst h;rfl
  .cases h
 |q::ks,cs,e,b,h=>by
  simp only[N3]at h;split at h
  .split at h
   .rename_i f;split at h
    .rename_i r d;injection h with h
     subst h;simp only[Qy,KV.pv,pD,Qe f,Kn d,Qo]
    .cases h
   .cases h
  .split at h
   .rename_i r d;injection h with h
    subst h;simp only[Qy,KV.pv,pD,Kn d,Qo]
   .cases h
  .split at h
   .rename_i r d;injection h with h
    subst h;simp only[Qy,KV.pv,pD,Kn d,Qo]
   .cases h
  .cases h
def bb.els(S:bb U)(T:U.Ty)(x:KV U):Y (Z (U.den T)):=ZI S.lk T x
def bb.agA(S:bb U):KV U->Y Nat
 | .eV=>some 0
 | .sl _ xs=>some xs.length
 | .own id aw=>(match S.row? id aw with
  |some r=>some r.xs.length
  |none=>(match S.Yh id aw with|some r=>some r.es.length|none=>none))
 | .view id aw b lo n=>(match S.row? id aw with
  |some r=>(match Nat.beq r.k b with|true=>some ((r.xs.drop lo).take n).length|false=>none)
  |none=>none)
 |_=>none
def H8(S:bb U):Y bD->Int->Y Int
 |none,d=>some d
 |some x,_=>(match x.dv S with| .int _ n=>some n|_=>none)
def c9(l h:Int)(n:Nat):Bool:=decide (0<=l)&&decide (l<=h)&&decide (h<=n)
def cU.dZ:cU->Z bD
 | .sw x| .box x| .Ii x| .load _ x| .Dv _ x| .not x| .conv _ x| .len _ x| .Dn x| .Ic _ x| .B6 _ x
 | .clear _ _ x
 | .Pj _ _ x=>[x]
 | .pick c x y=>[c,x,y]
 | .alloc _=>[]
 | .store _ p x=>[p,x]
 | .build _ ps=>ps.map (·.2.2)
 | .Ua _ _ _ _ ps=>ps.map (·.2)
 | .wu _ x i| .DB _ _ x i=>[x,i]
 | .bin _ x y| .nF _ x y| .I6 _ _ x y| .M5 _ x y| .yb _ x y| .Ik _ _ _ _ x y
 =>[x,y]
 | .call _ xs=>xs
 | .wC f xs=>f::xs
 | .cY _ _ _ _ s x=>[s,x]
 | .O7 _ xs| .O8 _ xs=>xs
 | .SR _ _ _ _ l c=>[l,c]
 | .LM _ x lo hi=>x::(lo.toList++hi.toList)
def cU.dR(op:cU):Bool:=op.dZ.all bD.dR
variable(K:TK U)
def I9(T:U.Ty)(b:Nat):Nat->Z (KV U)->Y (Z (U.den T))
 |0,_=>some []
 |n+1,cs=>(match K.dec T vh (cs.take b)with
  |some v=>(match I9 T b n (cs.drop b)with|some vs=>some (v::vs)|none=>none)
  |none=>none)
def adI(n:Y Nat)(d:Bool)(b:Nat):Bool:=
 match n with
 |none=> !d&&Nat.beq b 1
 |some m=>d&&Nat.beq m b
def Pu{T:U.Ty}{b:Nat}:∀{n:Nat} {cs:Z (KV U)} {vs:Z (U.den T)},I9 K T b n cs=some vs->vs.length=n/\∀(i:Nat) (v:U.den T),vs[i]?=some v->K.dec T vh ((cs.drop (i*b)).take b)=some v
 |0,cs,vs,h=>by
  rw[I9]at h;injection h with h
  subst h;exact⟨rfl,λi v hv=>by simp at hv⟩
 |n+1,cs,vs,h=>by
  rw[I9]at h;split at h
  .rename_i v0 j;split at h
   .rename_i d g;injection h with h
    subst h;obtain⟨f,e⟩:=Pu g;refine⟨by rw[QN,f],λi v hv=> ?_⟩
    cases i with
    |zero=>simp only[List.getElem?_cons_zero,Qk]at hv;subst hv;simpa using j
    |succ i=>
     have:=e i v (by simpa using hv)
     rw[List.drop_drop]at this
     rwa [Nat.succ_mul,qaL]
   .cases h
  .cases h
def adC{ρ:Type}(z:Bool)(id aw e b:Nat)(T:U.Ty)(xs:Z (U.den T))(k:KV U->Y (Nat×dJ U)->Y ρ):Y ρ:=
 match z with
 |false=>k (.own id aw) (some (id,⟨aw,.row e b T xs⟩))
 |true=>k (.sl T xs) (some (id,⟨aw,.dead⟩))
def hY{ρ:Type}(Γ:Z (eB U))(nid:Nat)(S:bb U)(op:cU)(k:KV U->Y (Nat×dJ U)->Y ρ):Y ρ:=
 match op with
 | .sw x=>k (x.dv S) none
 | .pick c x y=>(match c.dv S with
  | .bool b=>(match b with|true=>k (x.dv S) none|false=>k (y.dv S) none)
  |_=>none)
 | .box x=>(match(x.dv S).cells.all KV.one with
  |true=>k (.ptr nid ((S.H nid).aw+1) 0) (some (nid,⟨(S.H nid).aw+1,.box (x.dv S).cells⟩))
  |false=>none)
 | .Ii x=>(match(x.dv S).cells.all KV.one&&(x.dv S).cells.all KV.closed with
  |true=>k (.ref (x.dv S).cells) none
  |false=>none)
 | .alloc z=>(match z.all PV.dR with
  |true=>k (.ptr nid ((S.H nid).aw+1) 0) (some (nid,⟨(S.H nid).aw+1,.box (z.map KV.KT)⟩))
  |false=>none)
 | .load n p=>(match p.dv S with
  | .ptr id aw off=>(match S.xk id aw with
   |some cs=>(match Ms n (cs.drop off)with|some x=>k x none|none=>none)
   |none=>none)
  | .fK id aw g i off=>(match S.row? id aw with
   |some r=>(match Nat.beq g r.k with
    |true=>(r.xs[i]?).bind λv=>(match Ms n ((K.gu r.T v).drop off)with|some x=>k x none|none=>none)
    |false=>none)
   |none=>(match S.Yh id aw with
    |some r=>(match Nat.beq g r.k with
     |true=>(match r.es[i]? with
      |some c=>(match Ms n (c.drop off)with|some x=>k x none|none=>none)
      |none=>none)
     |false=>none)
    |none=>none))
  | .ref cs=>(match Ms n cs with|some x=>k x none|none=>none)
  |_=>none)
 | .store n p x=>(match Nat.beq (x.dv S).cells.length n&&(x.dv S).cells.all KV.one with
  |true=>(match p.dv S with
   | .ptr id aw off=>(match S.xk id aw with
    |some cs=>(match Nat.ble (off+n) cs.length with
     |true=>k .undef (some (id,⟨aw,.box (Iw cs off (x.dv S).cells)⟩))
     |false=>none)
    |none=>none)
   | .fK id aw g i off=>(match S.row? id aw with
    |some r=>(match Nat.beq g r.k&&Nat.beq (U.size r.T) r.k&&Nat.ble (off+n) (U.size r.T)with
     |true=>(r.xs[i]?).bind λv=>(match K.dec r.T vh (Iw (K.gu r.T v) off (x.dv S).cells)with
      |some v'=>k .undef (some (id,⟨aw,.row r.e r.k r.T (r.xs.set i v')⟩))
      |none=>none)
     |false=>none)
    |none=>none)
   |_=>none)
  |false=>none)
 | .build z ps=>(match z.all PV.dR with
  |true=>(match XO S (z.map KV.KT) ps with|some cs=>k (.agg cs) none|none=>none)
  |false=>none)
 | .Ua m e g z ps=>(match K.XX e with
  |some T=>(match Nat.beq (U.size T) g&&z.all (λu=>u.all PV.dR)with
   |true=>(match M4 S g (z.map λu=>u.map KV.KT) ps with
    |some es=>(match XQ K T es with
     |some vs=>(match m with
      |false=>k (.sl T vs) none
      |true=>k (.own nid ((S.H nid).aw+1)) (some (nid,⟨(S.H nid).aw+1,.row e g T vs⟩)))
     |none=>none)
    |none=>none)
   |false=>none)
  |none=>(match m&&z.all (λu=>u.all PV.dR)with
   |true=>(match M4 S g (z.map λu=>u.map KV.KT) ps with
    |some es=>(match es.all (λc=>c.all KV.XJ)with
     |true=>k (.own nid ((S.H nid).aw+1)) (some (nid,⟨(S.H nid).aw+1,.raw e g es⟩))
     |false=>none)
    |none=>none)
   |false=>none))
 | .Dv off p=>(match p.dv S with
  | .ptr id aw o=>(match S.xk id aw with|some _=>k (.ptr id aw (o+off)) none|none=>none)
  | .fK id aw g i o=>(match S.row? id aw with|some r=>(r.xs[i]?).bind λ_=>k (.fK id aw g i (o+off)) none|none=>none)
  | .ref cs=>k (.ref (cs.drop off)) none
  |_=>none)
 | .wu g x i=>(match i.dv S with
  | .int _ n=>(match x.dv S with
   | .sl T xs=>(match Nat.beq (U.size T) g with
    |true=>(idx xs n).bind λv=>k (.ref (K.gu T v)) none
    |false=>none)
   | .own id aw=>(match S.row? id aw with
    |some r=>(match Nat.beq g r.k with
     |true=>(idx r.xs n).bind λ_=>k (.fK id aw g n.toNat 0) none
     |false=>none)
    |none=>(match S.Yh id aw with
     |some r=>(match n with
      | .ofNat j=>(match Nat.beq g r.k&&Nat.blt j r.es.length with
       |true=>k (.fK id aw g j 0) none
       |false=>none)
      |_=>none)
     |none=>none))
   | .view id aw q lo m=>(match S.row? id aw with
    |some r=>(match Nat.beq g r.k&&Nat.beq q g with
     |true=>(idx ((r.xs.drop lo).take m) n).bind λ_=>k (.fK id aw g (lo+n.toNat) 0) none
     |false=>none)
    |none=>none)
   |_=>none)
  |_=>none)
 | .bin op x y=>ag4 op (x.dv S) (y.dv S) λv=>k v none
 | .nF neg x y=>(match x.dv S,y.dv S with
  | .agg [.int D a,.str s],.agg [.int B b,.str t]=>if D=B then k (.bool (xor neg (decide (a=b)&&decide (s=t)))) none else none
  |_,_=>none)
 | .I6 neg ks x y=>(match x.dv S,y.dv S with
  | .agg cs,.agg H=>(match N3 ks cs H with|some b=>k (.bool (xor neg b)) none|none=>none)
  |_,_=>none)
 | .Pj n off x=>(match x.dv S with
  | .agg cs=>(match Ms n (cs.drop off)with|some v=>k v none|none=>none)
  |_=>none)
 | .M5 neg x y=>(match x.dv S,y.dv S with
  | .bool a,.bool b=>k (.bool (xor neg (decide (a=b)))) none
  |_,_=>none)
 | .not x=>(match x.dv S with| .bool b=>k (.bool !b) none|_=>none)
 | .conv D x=>(match x.dv S with| .int _ n=>k (.int D (D.wrap n)) none|_=>none)
 | .len true x=>(match x.dv S with| .str s=>k (.int .i64 s.size) none|_=>none)
 | .len false x=>(match S.agA (x.dv S)with|some n=>k (.int .i64 n) none|none=>none)
 | .call f xs=>lN K nid S f (xs.map (·.dv S)) k Γ
 | .wC G xs=>(match G.dv S with
  | .bJ f A=>lN K nid S f (xs.map (·.dv S)++A) k Γ
  | .kP f first=>lN K nid S f (first++xs.map (·.dv S)) k Γ
  |_=>none)
 | .cY z e g bytes s x=>(match K.XX e with
  |some T=>(match Nat.beq (U.size T) g with
   |true=>(match S.els T (x.dv S)with
    |some news=>(match s.dv S with
     | .eV=>bif bl bytes news.length then adC z nid ((S.H nid).aw+1) e g T news k else none
     | .own id aw=>(match S.row? id aw with
      |some r=>(match Nat.beq r.e e&&Nat.beq r.k g with
       |true=>(match DA r.T T r.xs with
        |some xs=>bif bl bytes (xs.length+news.length)then adC z id (aw+1) e g T (xs++news) k else none
        |none=>none)
       |false=>none)
      |none=>none)
     |_=>none)
    |none=>none)
   |false=>none)
  |none=>none)
 | .Dn x=>(match x.dv S with
  | .ptr id aw off=>(match S.xk id aw with|some _=>k (.ptr id aw off) none|none=>none)
  | .ref cs=>k (.ref cs) none
  | .bJ f cs=>k (.bJ f cs) none
  |_=>none)
 | .Ic i x=>(match x.dv S with
  | .ff cs=>(match cs[i]? with|some y=>k y none|none=>none)
  |_=>none)
 | .O7 f A=>k (.bJ f (A.map (·.dv S))) none
 | .O8 f first=>k (.kP f (first.map (·.dv S))) none
 | .SR e g bytes z l c=>(match K.XX e with
  |some T=>(match Nat.beq (U.size T) g&&z.all PV.dR with
   |true=>(match K.dec T vh (z.map KV.KT)with
    |some d=>(match l.dv S,c.dv S with
     | .int _ n,.int _ m=>bif decide (n<=m)&&decide (0<=n)&&bl bytes m.toNat then k (.own nid ((S.H nid).aw+1)) (some (nid,⟨(S.H nid).aw+1,.row e g T (replicate n.toNat d)⟩))else none
     |_,_=>none)
    |none=>none)
   |false=>none)
  |none=>none)
 | .LM g x lo hi=>(match x.dv S with
  | .sl T xs=>(match Nat.beq (U.size T) g with
   |true=>(match H8 S lo 0,H8 S hi xs.length with
    |some l,some h=>bif c9 l h xs.length then k (.sl T ((xs.take h.toNat).drop l.toNat)) none else none
    |_,_=>none)
   |false=>none)
  | .own id aw=>(match S.row? id aw with
   |some r=>(match Nat.beq g r.k with
    |true=>(match H8 S lo 0,H8 S hi r.xs.length with
     |some l,some h=>bif c9 l h r.xs.length then k (.view id aw g l.toNat (h.toNat - l.toNat)) none else none
     |_,_=>none)
    |false=>none)
   |none=>none)
  | .view id aw q F n0=>(match S.row? id aw with
   |some r=>(match Nat.beq g r.k&&Nat.beq q g with
    |true=>(match H8 S lo 0,H8 S hi n0 with
     |some l,some h=>bif c9 l h n0 then k (.view id aw g (F+l.toNat) (h.toNat - l.toNat)) none else none
     |_,_=>none)
    |false=>none)
   |none=>none)
  |_=>none)
 | .Ik e n len g x i=>(match x.dv S,i.dv S with
  | .agg cs,.int _ j=>(match K.XX e with
   |some T=>(match Nat.beq (U.size T) g&&adI n (U.agg T) g with
    |true=>(match I9 K T g len cs with
     |some vs=>(idx vs j).bind λv=>k (CK K T v) none
     |none=>none)
    |false=>none)
   |none=>none)
  |_,_=>none)
 | .clear g z x=>(match x.dv S with
  | .view id aw q lo n=>(match S.row? id aw with
   |some r=>(match Nat.beq g r.k&&Nat.beq q g&&Nat.beq (U.size r.T) g&&z.all PV.dR&&Nat.beq z.length g&&(z.map (KV.KT:PV->KV U)).all KV.one with
    |true=>(match K.dec r.T vh (z.map KV.KT)with
     |some d=>k (.ff []) (some (id,⟨aw,.row r.e r.k r.T (r.xs.take lo++replicate n d++r.xs.drop (lo+n))⟩))
     |none=>none)
    |false=>none)
   |none=>none)
  |_=>none)
 | .yb mx x y=>(match x.dv S,y.dv S with
  | .int D a,.int B b=>if D=B then k (.int D (if mx then(if b>a then b else a)else(if b<a then b else a))) none else none
  |_,_=>none)
 | .B6 neg x=>(match x.dv S with
  | .eV=>k (.bool !neg) none
  | .sl _ xs=>bif xs.isEmpty then k .iD none else k (.bool neg) none
  |_=>none)
 | .DB g len x i=>(match i.dv S with
  | .int _ (.ofNat n)=>(match Nat.blt n len with
   |true=>(match x.dv S with
    | .ptr id aw o=>(match S.xk id aw with|some _=>k (.ptr id aw (o+n*g)) none|none=>none)
    | .ref cs=>k (.ref (cs.drop (n*g))) none
    |_=>none)
   |false=>none)
  |_=>none)
variable{K}
variable{S:bb U}
def Af{id aw:Nat}{cs:Z (KV U)}(h:S.xk id aw=some cs):(S.st.H id).aw=aw/\(S.st.H id).c= .box (cs.map KV.pv):=by obtain⟨h1,b⟩:=Ea h;exact⟨h1,by simp[bb.st,dJ.pv,b,eF.pv]⟩
def FG:∀{n:Y Nat} {cs:Z (KV U)} {x:KV U},Ms n cs=some x->xy n (cs.map KV.pv)=some x.pv
 |none,[],x,h=>by cases h
 |none,y::l,x,h=>by injection h with h;subst h;rfl
 |some n,cs,x,h=>by
  simp only[Ms]at h;split at h
  .rename_i b;injection h with h
   subst h;rw[xy,Qe (by simpa using QS b),KV.pv,KV.dm,List.map_take]
  .cases h
def LJ(cs xs:Z (KV U))(off:Nat):(Iw cs off xs).map KV.pv=jI (cs.map KV.pv) off (xs.map KV.pv):=by simp[Iw,jI,List.map_append,List.map_take,List.map_drop]
def ak8(S:bb U){x:PV}(h:x.dR=true):(KV.KT x:KV U).pv=x:=(w8 (S:=S) (x:= .Bp x) h).symm
def CY{z:Z PV}(S:bb U)(h:z.all PV.dR=true):(z.map (KV.KT:PV->KV U)).map KV.pv=z:=by
 induction z with
 |nil=>rfl
 |cons x l b=>rw[Q3,Qi]at h;rw[Qy,Qy,ak8 S h.1,b h.2]
def Zy:∀{ps:Z (Nat×Nat×bD)} {cs cs':Z (KV U)},(∀p∈ps,p.2.2.dR=true)->XO S cs ps=some cs'->vn S.st (cs.map KV.pv) ps=some (cs'.map KV.pv)
 |[],cs,cs',_,h=>by injection h with h;subst h;rfl
 |(off,n,x)::ps,cs,cs',e,h=>by
  simp only[XO]at h;split at h
  .rename_i f;simp only[Qi]at f;obtain⟨⟨d,b⟩,i⟩:=f;have d:=Qp d;have b:=QS b;rw[vn,w8 (e _ QC),AV,zd,Qe ⟨by simpa using d,by simpa using b,i⟩,<-LJ]
   exact Zy (λp g=>e p (QI _ g)) h
  .cases h
def M3{g:Nat}:∀{ps:Z (Nat×bD)} {es b:Z (Z (KV U))},(∀p∈ps,p.2.dR=true)->M4 S g es ps=some b->yl S.st g (es.map λe=>e.map KV.pv) ps=some (b.map λe=>e.map KV.pv)
 |[],es,b,_,h=>by injection h with h;subst h;rfl
 |(i,x)::ps,es,b,j,h=>by
  simp only[M4]at h;split at h
  .rename_i k;simp only[Qi]at k;obtain⟨⟨f,d⟩,m⟩:=k;have f:=Qp f;have d:i<es.length:=QS d;rw[yl,w8 (j _ QC),AV,zd,Qe ⟨by simpa using f,by simpa using d,m⟩,<-List.map_set]
   exact M3 (λp l=>j p (QI _ l)) h
  .cases h
def ZJ{T:U.Ty}:∀{es:Z (Z (KV U))} {vs:Z (U.den T)},XQ K T es=some vs->F1 (es.map λe=>e.map KV.pv)=vs.map (U.pv T)/\(es.map λe=>e.map KV.pv).all (λu=>u.all PV.closed)=true
 |[],vs,h=>by injection h with h;subst h;exact⟨rfl,rfl⟩
 |e::es,vs,h=>by
  rw[XQ]at h;split at h
  .rename_i v hv;split at h
   .rename_i d b;injection h with h
    subst h;obtain⟨h1,i⟩:=ZJ b;obtain⟨g,f⟩:=yu (K.qT _ _ _ _ hv);refine⟨?_,?_⟩
    .rw[Qy,Qy,<-h1,<-g];rfl
    .rw[Qy,Q3,tl,f,i];rfl
   .cases h
  .cases h
def Zq{y:PV}(h:y.gJ=true):y.one=true:=by cases y<;>first|rfl|cases h
def abv(T:U.Ty)(vs:Z (U.den T)){b:Nat}(f:U.size T=b)(K:TK U):(vs.map (U.pv T)).all (λu=>u.length==b&&u.all PV.one)=true:=by
 refine Qn.2 λu e=> ?_
 obtain⟨v,_,rfl⟩:=QO.1 e;rw[K.len,f,Qn.2 λy d=>Zq (K.gJ T v y d)]
 simp
def alE{T:U.Ty}{x:KV U}{vs:Z (U.den T)}(h:S.els T x=some vs):jY S.st x.pv=some (vs.map (U.pv T)):=by
 unfold bb.els ZI at h;split at h
 .injection h with h;subst h;rfl
 .obtain⟨e,rfl⟩:=rC h;subst e;rfl
 .rename_i id aw;obtain⟨hv,e,k,f⟩:=abC h;have d:(S.st.H id).c= .row e k (vs.map (U.pv T)):=by simp[bb.st,dJ.pv,f,eF.pv]
  have b:(S.st.H id).aw=aw:=hv;rw[KV.pv,jY,Qe b,d]
 .cases h
def ai7{x:KV U}{n:Nat}(h:S.agA x=some n):∃es,jY S.st x.pv=some es/\es.length=n:=by
 unfold bb.agA at h;split at h
 .injection h with h;exact⟨[],rfl,h⟩
 .rename_i T xs;injection h with h;exact⟨xs.map (U.pv T),rfl,by simpa using h⟩
 .rename_i id aw;split at h
  .rename_i r b;obtain⟨hv,d⟩:=tE b;injection h with h
   refine⟨r.xs.map (U.pv r.T),?_,by simpa using h⟩
   rw[KV.pv,jY,Qe hv,d]
  .split at h
   .rename_i r b;obtain⟨hv,d⟩:=Yf b;injection h with h
    refine⟨r.es.map λc=>c.map KV.pv,?_,by simpa using h⟩
    rw[KV.pv,jY,Qe hv,d]
   .cases h
 .rename_i id aw f lo m;split at h
  .rename_i r b;obtain⟨hv,d⟩:=tE b;split at h
   .rename_i e;injection h with h
    refine⟨((r.xs.drop lo).take m).map (U.pv r.T),?_,by rw[QD];exact h⟩
    rw[KV.pv,jY,Qe hv,d];simp only;rw[Qe (Qp e),List.map_take,List.map_drop]
   .cases h
  .cases h
 .cases h
def SE{l:Z bD}{y:Y bD}{d n:Int}(hi1:∀(y:bD) (d n:Int),y∈l->H8 S (some y) d=some n->∃b,y.val S.st= .int b n)(f:∀z,y=some z->z∈l)(h:H8 S y d=some n):xf S.st y d=some n:=by
 cases y with
 |none=>exact h
 |some z=>obtain⟨b,e⟩:=hi1 z d n (f z rfl) h;simp only[xf,e]
def J4{xs:Z bD}(h:∀x∈xs,x.dR=true):xs.map (·.val S.st)=(xs.map (·.dv S)).map KV.pv:=by rw[List.map_map];exact qak λx b=>w8 (h x b)
def ajV{ρ:Type}{op:BinOp}{x y:KV U}{k:KV U->Y ρ}{r:ρ}(h:ag4 op x y k=some r):∃v:KV U,N9 op x.pv y.pv=some v.pv/\k v=some r:=by
 unfold ag4 at h;split at h
 .rename_i g a e b;cases op<;>simp only at h<;>simp only[KV.pv,N9,Ni]<;>
  first
  |(
    split at h
    .cases h
    .rename_i d;exact⟨_,by rw[Qg d];rfl,h⟩)
  |(
    split at h
    .rename_i d;rw[Qe d]
     first
     |exact⟨_,rfl,h⟩
     |(
       split at h
       .cases h
       .rename_i f;exact⟨_,by rw[Qg f];rfl,h⟩)
     |cases h
    .cases h)
 .rename_i a b;cases op<;>simp only at h<;>simp only[KV.pv,N9,Ud]<;>first|exact⟨_,rfl,h⟩|cases h
 .cases h
def Z3(K:TK U){ρ:Type}{z:Bool}{id aw e b:Nat}{T:U.Ty}{xs:Z (U.den T)}{k:KV U->Y (Nat×dJ U)->Y ρ}{r:ρ}(h:adC z id aw e b T xs k=some r):
  ∃x wr,Nk z id aw e b (xs.map (U.pv T))=some (x.pv,wr.map mu)/\k x wr=some r:=by
 cases z with
 |false=>exact⟨_,_,rfl,h⟩
 |true=>
  refine⟨_,_,?_,h⟩;simp only[Nk];rw[Qe]
  .rfl
  .refine Qn.2 λu f=> ?_
   obtain⟨x,_,rfl⟩:=QO.1 f;exact Qn.2 λy d=>iE (K.gJ _ _ _ d)
def aaO{P:Pr}{ρ:Type}{Γ:Z (eB U)}{nid:Nat}{op:cU}{k:KV U->Y (Nat×dJ U)->Y ρ}{r:ρ}(hΓ:xt P Γ)(ho:op.dR=true)(h:hY K Γ nid S op k=some r):
  ∃M x wr,rE P M/\exec M nid S.st op=some (x.pv,wr.map mu)/\k x wr=some r:=by
 have q:∀x∈op.dZ,x.val S.st=(x.dv S).pv:=λx A=>w8 (Qn.1 ho x A)
 have hoc:∀x∈op.dZ,x.dR=true:=λx A=>Qn.1 ho x A
 have pure:∀{x:KV U} {wr:Y (Nat×dJ U)},exec (λ_=>none) nid S.st op=some (x.pv,wr.map mu)->k x wr=some r->∃M x wr,rE P M/\exec M nid S.st op=some (x.pv,wr.map mu)/\k x wr=some r:=
  λ{x wr} g t=>⟨λ_=>none,x,wr,λf m hm=>(by cases hm),g,t⟩
 cases op with
 |sw x=>
  have g:=q x (by simp[cU.dZ])
  exact pure (by rw[exec,g];rfl) h
 |pick c x y=>
  have g:=q c (by simp[cU.dZ])
  have t:=q x (by simp[cU.dZ])
  have D:=q y (by simp[cU.dZ])
  simp only[hY]at h;split at h
  .rename_i b F;rw[F]at g;split at h
   .exact pure (by rw[exec,g];simp only[KV.pv];rw[t];rfl) h
   .exact pure (by rw[exec,g];simp only[KV.pv];rw[D];rfl) h
  .cases h
 |box x=>
  have g:=q x (by simp[cU.dZ])
  simp only[hY]at h;split at h
  .rename_i F;refine pure ?_ h;rw[exec,g,AV,zd,Qe F];rfl
  .cases h
 |Ii x=>
  have g:=q x (by simp[cU.dZ])
  simp only[hY]at h;split at h
  .rename_i F;refine pure ?_ h;rw[exec,g,AV,zd,tl,Qe F];simp only[KV.pv,KV.dm,Q5]
  .cases h
 |alloc z=>
  simp only[hY]at h;split at h
  .rename_i F;refine pure ?_ h;simp only[exec,Qo,mu,dJ.pv,eF.pv,CY S F];rfl
  .cases h
 |load n p=>
  have g:=q p (by simp[cU.dZ])
  simp only[hY]at h;split at h
  .rename_i id aw off G;rw[G]at g;split at h
   .rename_i cs F;obtain⟨t,D⟩:=Af F;split at h
    .rename_i x A;refine pure ?_ h;have:=FG A;rw[List.map_drop]at this;rw[exec,g];simp only[KV.pv];rw[Qe t,D];simp only[this,Qo,Q5]
    .cases h
   .cases h
  .rename_i id aw kk i off G;rw[G]at g;split at h
   .rename_i R F;obtain⟨t,D⟩:=tE F;split at h
    .rename_i B;simp only[Qm]at h;obtain⟨v,hv,h⟩:=h;split at h
     .rename_i x A;refine pure ?_ h;have:=FG A;rw[List.map_drop,K.wO]at this;rw[exec,g];simp only[KV.pv];rw[Qe t,D];simp only[Qp B,Qr,QG,hv,Qo,this,Q5]
     .cases h
    .cases h
   .split at h
    .rename_i R F;obtain⟨t,D⟩:=Yf F;split at h
     .rename_i B;split at h
      .rename_i c V;split at h
       .rename_i x A;refine pure ?_ h;have:=FG A;rw[List.map_drop]at this;rw[exec,g];simp only[KV.pv];rw[Qe t,D];simp only[Qp B,Qr,QG,V,Qo,this,Q5]
       .cases h
      .cases h
     .cases h
    .cases h
  .rename_i cs G;rw[G]at g;split at h
   .rename_i x A;refine pure ?_ h;rw[exec,g];simp only[KV.pv,KV.dm,FG A,Qo,Q5]
   .cases h
  .cases h
 |store n p x=>
  have g:=q p (by simp[cU.dZ])
  have t:=q x (by simp[cU.dZ])
  simp only[hY]at h;split at h
  .rename_i V;rw[Qi]at V;have N:=Qp V.1
   have hc1:(x.val S.st).cells.length=n/\(x.val S.st).cells.all PV.one=true:=by rw[t,AV,zd];exact⟨by simpa using N,V.2⟩
   split at h
   .rename_i id aw off G;rw[G]at g;split at h
    .rename_i cs F;obtain⟨D,H⟩:=Af F;split at h
     .rename_i hle;refine pure ?_ h;rw[exec,Qe hc1,g];simp only[KV.pv];rw[Qe D,H];simp only[QD];rw[Qe (QS hle),t,AV];simp only[Qo,mu,dJ.pv,eF.pv,LJ]
     .cases h
    .cases h
   .rename_i id aw kk i off G;rw[G]at g;split at h
    .rename_i R F;obtain⟨D,H⟩:=tE F;split at h
     .rename_i B;simp only[Qi]at B;obtain⟨⟨hk1,hk2⟩,hk3⟩:=B;have hk1:=Qp hk1;have hk2:=Qp hk2;have hk3:=QS hk3;simp only[Qm]at h;obtain⟨v,hv,h⟩:=h;split at h
      .rename_i v' hd;refine pure ?_ h;obtain⟨h5,_⟩:=yu (K.qT _ _ _ _ hd);rw[LJ,K.wO]at h5
       have h6:jI (U.pv R.T v) off (((x.dv S).cells.map KV.pv).map nz)=U.pv R.T v':=by
        rw[<-h5]
        have hnz:(U.pv R.T v).map nz=U.pv R.T v:=by
         refine(qak λy I=> ?_).trans (List.map_id _)
         have:=K.gJ _ _ _ I;cases y<;>first|rfl|cases this
        simp only[jI,List.map_append,List.map_take,List.map_drop,hnz,QD]
       rw[exec,Qe hc1,g];simp only[KV.pv];rw[Qe D,H];simp only[hk1,Qr,QG,hv,Qo,K.len];rw[Qe hk3,t,AV,h6];simp only[mu,dJ.pv,eF.pv,List.map_set]
      .cases h
     .cases h
    .cases h
   .cases h
  .cases h
 |build z ps=>
  simp only[hY]at h;split at h
  .rename_i hz;split at h
   .rename_i cs hf;refine pure ?_ h;have:=Zy (λp G=>hoc _ (by simp only[cU.dZ,QO];exact⟨p,G,rfl⟩)) hf
    rw[CY S hz]at this;rw[exec,this];simp only[Qo,Q5,KV.pv,KV.dm]
   .cases h
  .cases h
 |Ua m e kk z ps=>
  simp only[hY]at h;split at h
  .rename_i T hT;split at h
   .rename_i hz;rw[Qi]at hz;split at h
    .rename_i es hf;split at h
     .rename_i vs hd;have g:=M3 (λp G=>hoc _ (by simp only[cU.dZ,QO];exact⟨p,G,rfl⟩)) hf
      have t:(z.map λu=>u.map (KV.KT:PV->KV U)).map (λe=>e.map KV.pv)=z:=by
       rw[List.map_map];refine(qak λu hu=> ?_).trans (List.map_id _)
       exact CY S (Qn.1 hz.2 u hu)
      rw[t]at g;obtain⟨D,H⟩:=ZJ hd;split at h
      .refine pure ?_ h;rw[exec,g];simp only[H,qaN,Qr,D,KV.pv,Q5]
      .refine pure ?_ h;rw[exec,g];simp only[qbx,false_and,Qx,D,KV.pv,Qo,mu,dJ.pv,eF.pv];rfl
     .cases h
    .cases h
   .cases h
  .split at h
   .rename_i hz;rw[Qi]at hz;split at h
    .rename_i es hf;split at h
     .rename_i hnn;have g:=M3 (λp G=>hoc _ (by simp only[cU.dZ,QO];exact⟨p,G,rfl⟩)) hf
      have t:(z.map λu=>u.map (KV.KT:PV->KV U)).map (λe=>e.map KV.pv)=z:=by
       rw[List.map_map];refine(qak λu hu=> ?_).trans (List.map_id _)
       exact CY S (Qn.1 hz.2 u hu)
      rw[t]at g
      have D:F1 (es.map λe=>e.map KV.pv)=es.map λe=>e.map KV.pv:=by
       unfold F1;rw[List.map_map];refine qak λc V=> ?_
       simp only[Function.comp,List.map_map];refine qak λy I=> ?_
       have:=Qn.1 (Qn.1 hnn c V) y I;cases y<;>first|rfl|cases this|simp[KV.pv,nz]
      have hm:m=true:=hz.1;subst hm;refine pure ?_ h;rw[exec,g];simp only[qbx,false_and,Qx,D,KV.pv,Qo,mu,dJ.pv,eF.pv];rfl
     .cases h
    .cases h
   .cases h
 |Dv off p=>
  have g:=q p (by simp[cU.dZ])
  simp only[hY]at h;split at h
  .rename_i id aw o G;rw[G]at g;split at h
   .rename_i cs F;obtain⟨t,D⟩:=Af F;refine pure ?_ h;rw[exec,g];simp only[KV.pv];rw[Qe t,D];rfl
   .cases h
  .rename_i id aw kk i o G;rw[G]at g;split at h
   .rename_i R F;obtain⟨t,D⟩:=tE F;simp only[Qm]at h;obtain⟨v,hv,h⟩:=h;refine pure ?_ h;have hi:=(QH.1 hv).1;rw[exec,g];simp only[KV.pv];rw[Qe t,D];simp only[QD,hi,Qr,Q5]
   .cases h
  .rename_i cs G;rw[G]at g;refine pure ?_ h;rw[exec,g];simp only[KV.pv,KV.dm,List.map_drop,Q5]
  .cases h
 |wu kk x i=>
  have g:=q x (by simp[cU.dZ])
  have t:=q i (by simp[cU.dZ])
  simp only[hY]at h;split at h
  .rename_i kd n hn;rw[hn]at t;split at h
   .rename_i T xs A;rw[A]at g;split at h
    .rename_i B;simp only[Qm]at h;obtain⟨v,hv,h⟩:=h;obtain⟨hi0,hi1,hi2⟩:=Rq hv;refine pure ?_ h;rw[exec,t];simp only[KV.pv];rw[g];simp only[KV.pv,QD];rw[Qe ⟨hi0,O⟩];simp only[QG,hi2,Qo,K.len,Qp B,Qr,KV.dm,K.wO,Q5]
    .cases h
   .rename_i id aw A;rw[A]at g;split at h
    .rename_i R F;obtain⟨D,H⟩:=tE F;split at h
     .rename_i B;simp only[Qm]at h;obtain⟨v,hv,h⟩:=h;obtain⟨hi0,hi1,hi2⟩:=Rq hv;refine pure ?_ h;rw[exec,t];simp only[KV.pv];rw[g];simp only[KV.pv];rw[Qe D,H];simp only[QD];rw[Qe ⟨Qp B,hi0,O⟩];rfl
     .cases h
    .split at h
     .rename_i R F;obtain⟨D,H⟩:=Yf F;split at h
      .rename_i j;split at h
       .rename_i B;rw[Qi]at B;have hlt:j<R.es.length:=QS B.2;refine pure ?_ h;rw[exec,t];simp only[KV.pv];rw[g];simp only[KV.pv];rw[Qe D,H];simp only[QD];rw[Qe ⟨Qp B.1,qbU j,qbi.2 hlt⟩];rfl
       .cases h
      .cases h
     .cases h
   .rename_i id aw kk' lo m A;rw[A]at g;split at h
    .rename_i R F;obtain⟨D,H⟩:=tE F;split at h
     .rename_i B;rw[Qi]at B;simp only[Qm]at h;obtain⟨v,hv,h⟩:=h;obtain⟨hi0,hi1,hi2⟩:=Rq hv;refine pure ?_ h;rw[exec,t];simp only[KV.pv];rw[g];simp only[KV.pv];rw[Qe D,H];simp only[QD];simp only[List.length_take,List.length_drop]at hi1;rw[Qe ⟨Qp B.1,Qp B.2,hi0,O,O⟩];rfl
     .cases h
    .cases h
   .cases h
  .cases h
 |Ik e n len kk x i=>
  have g:=q x (by simp[cU.dZ])
  have t:=q i (by simp[cU.dZ])
  simp only[hY]at h;split at h
  .rename_i cs _ j A hi;rw[A]at g;rw[hi]at t;split at h
   .rename_i T hT;split at h
    .rename_i B;split at h
     .rename_i vs hvs;simp only[Qm]at h;obtain⟨v,hv,h⟩:=h;obtain⟨hlen,hget⟩:=Pu K hvs
      have hv0:0<=j/\vs[j.toNat]?=some v:=by
       unfold idx at hv;split at hv
       .rename_i h0;exact⟨h0,hv⟩
       .cases hv
      have hjl:j.toNat<vs.length:=(QH.1 hv0.2).1;obtain⟨hnz,_⟩:=yu (K.qT _ _ _ _ (hget _ _ hv0.2));rw[Qi]at B;have hkk:=Qp B.1;have hpl:=K.len T v
      have hcl:((cs.drop (j.toNat*kk)).take kk).length=kk:=by have:=qag List.length hnz;simp only[QD]at this;omega
      refine pure ?_ h;rw[exec,g,t];simp only[KV.pv,KV.dm];rw[Qe ⟨hv0.1,O⟩,Fv]
      have hsplit:((cs.map KV.pv).drop (j.toNat*kk)).map nz=U.pv T v++(((cs.drop (j.toNat*kk)).drop kk).map KV.pv).map nz:=by rw[<-hnz,<-List.map_append,<-List.map_append,List.take_append_drop,List.map_drop,List.map_drop,List.map_drop]
      rw[hsplit]
      cases n with
      |none=>
       simp only[adI,Qi,qad]at B;have h1k:=Qp B.2.2;obtain⟨y,hy1,hy2⟩:=yO K v B.2.1
       cases G:U.pv T v with
       |nil=>rw[G]at hy2;cases hy2
       |cons y0 l=>
        have hl0:l=[]:=by rw[G,QN]at hpl;exact qaz O
        rw[G,hl0,Qz]at hy2;rw[hl0];simp only[List.singleton_append,xy,Qo,Q5];rw[hy1,hy2]
      |some m=>
       simp only[adI,Qi]at B;have hm:=Qp B.2.2;subst hm;simp only[xy];rw[Qe (by rw[QM];omega),List.take_append_of_le_length O,List.take_of_length_le O,Bf v B.2.1]
       rfl
     .cases h
    .cases h
   .cases h
  .cases h
 |clear kk z x=>
  have g:=q x (by simp[cU.dZ])
  simp only[hY]at h;split at h
  .rename_i id aw kk' lo n A;rw[A]at g;split at h
   .rename_i R F;obtain⟨D,H⟩:=tE F;split at h
    .rename_i B;simp only[Qi]at B;obtain⟨⟨⟨⟨⟨k1,k2⟩,k3⟩,k4⟩,k5⟩,k6⟩:=B;split at h
     .rename_i d hd;refine pure ?_ h;have h7:=(yu (K.qT _ _ _ _ hd)).1;rw[CY S k4]at h7;have h8:z.all PV.one=true:=by rw[<-zd,CY S k4]at k6;exact k6
      have e1:=Qp k1;have e2:=Qp k2;have e5:=Qp k5;rw[exec,g];simp only[KV.pv];rw[Qe D,H];simp only;rw[Qe ⟨e1,e2,e5,h8⟩,h7];simp only[Qo,mu,dJ.pv,eF.pv,List.map_append,List.map_take,List.map_drop,List.map_replicate,KV.KQ];rw[e1]
     .cases h
    .cases h
   .cases h
  .cases h
 |DB kk len x i=>
  have g:=q x (by simp[cU.dZ])
  have t:=q i (by simp[cU.dZ])
  simp only[hY]at h;split at h
  .rename_i kd n hi;rw[hi]at t;split at h
   .rename_i F;have hlt:n<len:=by simpa using F
    have V:(0:Int)<=Int.ofNat n/\Int.ofNat n<(len:Int):=⟨qbU n,qbi.2 hlt⟩;split at h
    .rename_i id aw o A;rw[A]at g;split at h
     .rename_i cs hbx;obtain⟨D,H⟩:=Af hbx;refine pure ?_ h;rw[exec,t];simp only[KV.pv];rw[Qe V,g];simp only[KV.pv];rw[Qe D,H];rfl
     .cases h
    .rename_i cs A;rw[A]at g;refine pure ?_ h;rw[exec,t];simp only[KV.pv];rw[Qe V,g];simp only[KV.pv,KV.dm,List.map_drop,Q5];rfl
    .cases h
   .cases h
  .cases h
 |bin op x y=>
  have g:=q x (by simp[cU.dZ])
  have t:=q y (by simp[cU.dZ])
  simp only[hY]at h;obtain⟨v,D,H⟩:=ajV h;refine pure ?_ H;rw[exec,g,t,D];rfl
 |nF neg x y=>
  have g:=q x (by simp[cU.dZ])
  have t:=q y (by simp[cU.dZ])
  simp only[hY]at h;split at h
  .rename_i A I;rw[A]at g;rw[I]at t;split at h
   .rename_i B;refine pure ?_ h;rw[exec,g,t];simp only[KV.pv,KV.KQ,B,Qr,Q5]
   .cases h
  .cases h
 |Pj n off x=>
  have g:=q x (by simp[cU.dZ])
  simp only[hY]at h;split at h
  .rename_i cs G;rw[G]at g;split at h
   .rename_i v A;refine pure ?_ h;have:=FG A;rw[List.map_drop]at this;rw[exec,g];simp only[KV.pv,KV.dm,this,Qo,Q5]
   .cases h
  .cases h
 |M5 neg x y=>
  have g:=q x (by simp[cU.dZ])
  have t:=q y (by simp[cU.dZ])
  simp only[hY]at h;split at h
  .rename_i A I;rw[A]at g;rw[I]at t;refine pure ?_ h;rw[exec,g,t];rfl
  .cases h
 |not x|conv kd x=>
  have g:=q x (by simp[cU.dZ])
  simp only[hY]at h;split at h
  .rename_i A;rw[A]at g;exact pure (by rw[exec,g];rfl) h
  .cases h
 |len b x=>
  have g:=q x (by simp[cU.dZ])
  cases b with
  |true=>
   simp only[hY]at h;split at h
   .rename_i A;rw[A]at g;exact pure (by rw[exec,g];rfl) h
   .cases h
  |false=>
   simp only[hY]at h;split at h
   .rename_i n A;obtain⟨es,t,D⟩:=ai7 A;exact pure (by rw[exec,g,t];simp only[Qo,Q5,KV.pv,D]) h
   .cases h
 |call f xs=>simp only[hY]at h;obtain⟨M,x,wr,g,t,D⟩:=fu hΓ h;refine⟨M,x,wr,g,?_,D⟩;rw[exec,J4 (xs:=xs) hoc];exact t
 |wC fv xs=>
  have h0:=q fv (by simp[cU.dZ])
  simp only[hY]at h;split at h
  .rename_i f caps hf;rw[hf]at h0;obtain⟨M,x,wr,g,t,D⟩:=fu hΓ h;refine⟨M,x,wr,g,?_,D⟩;rw[exec,h0];simp only[KV.pv];rw[J4 (λx A=>hoc x (by simp[cU.dZ,A])),KV.dm,<-List.map_append]
   exact t
  .rename_i f caps hf;rw[hf]at h0;obtain⟨M,x,wr,g,t,D⟩:=fu hΓ h;refine⟨M,x,wr,g,?_,D⟩;rw[exec,h0];simp only[KV.pv];rw[J4 (λx A=>hoc x (by simp[cU.dZ,A])),KV.dm,<-List.map_append]
   exact t
  .cases h
 |cY z e kk bytes s x=>
  have g:=q s (by simp[cU.dZ])
  have t:=q x (by simp[cU.dZ])
  simp only[hY]at h;split at h
  .rename_i T hT;split at h
   .rename_i B;have B:=Qp B;split at h
    .rename_i news hn;have D:=alE hn;split at h
     .rename_i hs;rw[hs]at g
      cases N:bl bytes news.length with
      |false=>rw[N]at h;cases h
      |true=>rw[N]at h;obtain⟨hl1,hl2⟩:=Fb N;obtain⟨x0,wr0,g1,g2⟩:=Z3 K h;refine pure ?_ g2;rw[exec,t,D];simp only[abv T news B K,Qr,g,KV.pv,QD];rw[Qe ⟨hl1,hl2⟩];exact g1
     .rename_i id aw hs;rw[hs]at g;split at h
      .rename_i R F;obtain⟨H,h5⟩:=tE F;split at h
       .rename_i he;rw[Qi]at he;have he1:=Qp he.1;have he2:=Qp he.2;split at h
        .rename_i xs V
         have hpv:R.xs.map (U.pv R.T)=xs.map (U.pv T):=by obtain⟨eT,hxs⟩:=rC V;obtain⟨re,rk,rT,rxs⟩:=R;simp only at eT hxs ⊢;subst eT;rw[hxs]
         cases N:bl bytes (xs.length+news.length)with
         |false=>rw[N]at h;cases h
         |true=>rw[N]at h;obtain⟨hl1,hl2⟩:=Fb N;obtain⟨x0,wr0,g1,g2⟩:=Z3 K h;refine pure ?_ g2;rw[exec,t,D];simp only[abv T news B K,Qr,g,KV.pv];rw[Qe H,h5];simp only[hpv,QD];rw[Qe ⟨he1.symm,he2.symm,hl1,hl2⟩];rw[List.map_append]at g1;exact g1
        .cases h
       .cases h
      .cases h
     .cases h
    .cases h
   .cases h
  .cases h
 |Dn x=>
  have g:=q x (by simp[cU.dZ])
  simp only[hY]at h;split at h
  .rename_i id aw o G;rw[G]at g;split at h
   .rename_i cs F;obtain⟨t,D⟩:=Af F;refine pure ?_ h;rw[exec,g];simp only[KV.pv];rw[Qe t,D];rfl
   .cases h
  .rename_i cs G;rw[G]at g;exact pure (by rw[exec,g];rfl) h
  .rename_i cs G;rw[G]at g;exact pure (by rw[exec,g];rfl) h
  .cases h
 |Ic i x=>
  have g:=q x (by simp[cU.dZ])
  simp only[hY]at h;split at h
  .rename_i cs A;rw[A]at g;split at h
   .rename_i y I;refine pure ?_ h;rw[exec,g];simp only[KV.pv,KV.dm,QG,I,Qo,Q5]
   .cases h
  .cases h
 |O7 f caps|O8 f caps=>refine pure ?_ h;rw[exec,J4 (xs:=caps) hoc];simp only[KV.pv,KV.dm,Q5]
 |I6 neg ks x y=>
  have g:=q x (by simp[cU.dZ])
  have t:=q y (by simp[cU.dZ])
  simp only[hY]at h;split at h
  .rename_i cs ds A I;rw[A]at g;rw[I]at t;split at h
   .rename_i b F;refine pure ?_ h;rw[exec,g,t];simp only[KV.pv,KV.dm,Kn F,Qo,Q5]
   .cases h
  .cases h
 |SR e kk bytes z l c=>
  have g:=q l (by simp[cU.dZ])
  have t:=q c (by simp[cU.dZ])
  simp only[hY]at h;split at h
  .rename_i T hT;split at h
   .rename_i hz;rw[Qi]at hz;split at h
    .rename_i d hd;split at h
     .rename_i _ n _ m N V;rw[N]at g;rw[V]at t
      cases F:(decide (n<=m)&&decide (0<=n)&&bl bytes m.toNat)with
      |false=>rw[F]at h;cases h
      |true=>rw[F]at h;simp only[Qi,Qw]at F;obtain⟨⟨D,H⟩,h5⟩:=F;obtain⟨h5,h6⟩:=Fb h5;refine pure ?_ h;have h7:=(yu (K.qT _ _ _ _ hd)).1;rw[CY S hz.2]at h7;rw[exec,g,t];simp only[KV.pv];rw[Qe ⟨D,H,h5,h6⟩,h7];simp only[Qo,mu,dJ.pv,eF.pv,List.map_replicate];rfl
     .cases h
    .cases h
   .cases h
  .cases h
 |LM kk x lo hi=>
  have g:=q x (by simp[cU.dZ])
  have hi1:∀(y:bD) (d n:Int),y∈(cU.LM kk x lo hi).dZ->H8 S (some y) d=some n->∃kd,y.val S.st= .int kd n:=by
   intro y d n ho hn;have:=q y ho;simp only[H8]at hn;split at hn
   .rename_i kd _ I;rw[I]at this;injection hn with hn;subst hn;exact⟨kd,this⟩
   .cases hn
  simp only[hY]at h;split at h
  .rename_i T xs A;rw[A]at g;split at h
   .rename_i B;have B:=Qp B;split at h
    .rename_i l hh N J
     cases hs:c9 l hh xs.length with
     |false=>rw[hs]at h;cases h
     |true=>
      rw[hs]at h;refine pure ?_ h;simp only[c9,Qi,Qw]at hs;obtain⟨⟨H,h5⟩,h6⟩:=hs
      have h7:(xs.map (U.pv T)).all (λe=>e.length==kk)=true:=Qn.2 λu hu=>by obtain⟨v,_,rfl⟩:=QO.1 hu;rw[K.len,B];simp
      unfold exec;simp only[g,KV.pv,QD,h7,Qr]
      have fin:∀(l hh:Int),0<=l/\l<=hh/\hh<=(xs.length:Int)->(if 0<=l/\l<=hh/\hh<=(xs.length:Int)then some (PV.sl (((xs.map (U.pv T)).take hh.toNat).drop l.toNat),(none:Y (Nat×gU)))else none)=some (PV.sl (((xs.take hh.toNat).drop l.toNat).map (U.pv T)),Option.map mu (none:Y (Nat×dJ U))):=λl hh V=>by rw[Qe V];simp only[List.map_take,List.map_drop,Q5]
      cases lo with
      |none=>
       injection N with N
       subst N
       cases hi with
       |none=>injection J with J;subst J;exact fin _ _ ⟨H,h5,h6⟩
       |some y=>obtain⟨kd,I⟩:=hi1 y _ _ (by simp[cU.dZ]) J;simp only[I];exact fin _ _ ⟨H,h5,h6⟩
      |some z=>
       obtain⟨kz,hz⟩:=hi1 z _ _ (by simp[cU.dZ]) N
       cases hi with
       |none=>injection J with J;subst J;simp only[hz];exact fin _ _ ⟨H,h5,h6⟩
       |some y=>obtain⟨kd,I⟩:=hi1 y _ _ (by simp[cU.dZ]) J;simp only[hz,I];exact fin _ _ ⟨H,h5,h6⟩
    .cases h
   .cases h
  .rename_i id aw A;rw[A]at g;split at h
   .rename_i R F;obtain⟨D,H⟩:=tE F;split at h
    .rename_i B;have B:=Qp B;split at h
     .rename_i l hh N J;have e1:=SE (hi1:=hi1) (y:=lo) (λy I=>by simp[cU.dZ,I]) N
      have e2:=SE (hi1:=hi1) (y:=hi) (λy I=>by simp[cU.dZ,I]) J
      cases hs:c9 l hh R.xs.length with
      |false=>rw[hs]at h;cases h
      |true=>rw[hs]at h;refine pure ?_ h;simp only[c9,Qi,Qw]at hs;unfold exec;simp only[g,KV.pv];rw[Qe D,H];simp only[QD];rw[Qe B,e1,e2];simp only;rw[Qe ⟨hs.1.1,hs.1.2,hs.2⟩];rfl
     .cases h
    .cases h
   .cases h
  .rename_i id aw kk' lo0 n0 A;rw[A]at g;split at h
   .rename_i R F;obtain⟨D,H⟩:=tE F;split at h
    .rename_i B;rw[Qi]at B;split at h
     .rename_i l hh N J;have e1:=SE (hi1:=hi1) (y:=lo) (λy I=>by simp[cU.dZ,I]) N
      have e2:=SE (hi1:=hi1) (y:=hi) (λy I=>by simp[cU.dZ,I]) J
      cases hs:c9 l hh n0 with
      |false=>rw[hs]at h;cases h
      |true=>rw[hs]at h;refine pure ?_ h;simp only[c9,Qi,Qw]at hs;unfold exec;simp only[g,KV.pv];rw[Qe D,H];simp only;rw[Qe ⟨Qp B.1,Qp B.2⟩,e1,e2];simp only;rw[Qe ⟨hs.1.1,hs.1.2,hs.2⟩];rfl
     .cases h
    .cases h
   .cases h
  .cases h
 |yb mx x y=>
  have g:=q x (by simp[cU.dZ])
  have t:=q y (by simp[cU.dZ])
  simp only[hY]at h;split at h
  .rename_i A I;rw[A]at g;rw[I]at t;split at h
   .rename_i B;refine pure ?_ h;rw[exec,g,t];simp only[KV.pv,B,Qr,Q5]
   .cases h
  .cases h
 |B6 neg x=>
  have g:=q x (by simp[cU.dZ])
  simp only[hY]at h;split at h
  .rename_i A;rw[A]at g;exact pure (by unfold exec;simp only[g,KV.pv,Q5]) h
  .rename_i T xs A;rw[A]at g
   cases xs with
   |nil=>exact pure (x:= .iD) (by unfold exec;simp only[g,KV.pv,jY,qas,Q5]) h
   |cons y l=>exact pure (x:= .bool neg) (by unfold exec;simp only[g,KV.pv,jY,Qy,Q5]) h
  .cases h
end
end
section
open Go.RowKit
section
variable{P:Pr}{S:St}{nt:Nat}{Q:Exit->St->Prop}{E:En}{a:Act}{w:Wo}{L:Nat->Va}
def Rel.akx(h:Rel E S a w L){id:Nat}(d:id<S.N)(e k:Nat):
  Rel E {S with H:=bZ S.H id ⟨(S.H id).aw+1,.row e k []⟩} a w (bZ L id (.slice none 0 0)):=
 (h.xN (w':=w) d ⟨(S.H id).aw+1,.row e k []⟩ (.slice none 0 0) (.inr (qav _)) rfl rfl rfl (Qs _) (λ_ _ _=>rfl)
  (λb _ g=>by simp[cq]at g) (λ_ _=>⟨[],⟨t_,.inl ⟨rfl,rfl⟩⟩,t_,by exact⟨rfl,λi y v f=>by simp at f⟩⟩)).1
def ak4{S:St}{id:Nat}(b:id<S.N)(e k:Nat){w:Wo}{M:Nat->Prop}{v:Va}(h:v= .slice none 0 0):
  bp w M (St.gh {S with H:=bZ S.H id ⟨(S.H id).aw+1,.row e k []⟩} (bZ L id (.slice none 0 0))) (.own id ((S.H id).aw+1)) v:=by
 subst h;exact .own _ _ _ _ _ b (by simp[St.gh]) (λ_=>by simp[St.gh])
end
end
section
open Go.RowKit
section
variable{P:Pr}{E:En}{S:St}{a:Act}{w:Wo}{L:Nat->Va}
def Rel.anV(h:Rel E S a w L){id aw k n f k':Nat}{es:Z (Z PV)}{v:Va}(r:bp w (bn E S L) (S.gh L) (.view id aw k 0 n) v)(j:(S.H id).aw=aw)(D:(S.H id).c= .row f k' es):
  Rel E {S with H:=bZ S.H id ⟨aw+1,.row f k' (es.take n)⟩} a w (bZ L id v)/\bp w (bn E {S with H:=bZ S.H id ⟨aw+1,.row f k' (es.take n)⟩} (bZ L id v)) (St.gh {S with H:=bZ S.H id ⟨aw+1,.row f k' (es.take n)⟩} (bZ L id v)) (.own id (aw+1)) v:=by
 let⟨s,ad,c,hv,p⟩:=r.CJ (show(S.gh L).V id=aw from j)
 have hle:=h.Nx s D p
 let⟨a0,m0,c0,q,q1,q2,q3,i⟩:=p
 have q:L id= .slice a0 m0 c0:=q;have e:(S.H id).c.live=true:=by rw[D];rfl
 let⟨vs,d,hk,R⟩:=h.mR s D
 have G:ad=a0:=by
  rcases i with i|i
  .exact absurd rfl i.2.1
  .rw[i];cases a0<;>simp[Addr.add]
 have B:c=c0:=O;subst G B;have o:cq v=cq (L id):=by rw[hv,q];cases ad<;>rfl
 have m:(es.take n).length=n:=o_
 have l:w.ownsRow (gE E v) f k' v (es.take n).length (vs.take (n*k')):=by
  rw[Ek o,m];have t:vs.length=es.length*k':=d.1;have T:n*k'<=es.length*k':=Q2 _ O;refine⟨by rw[List.length_take,t];omega,?_⟩
  rcases d.2 with⟨I,h0⟩|⟨g,cap,J,I,F,hh,V,A,z,x⟩
  .grind
  .right;rw[q]at I;injection I with e1 e2 e3
   subst e1 e2 e3;refine⟨g,c,J,hv,F,hh,O,A,z,?_⟩
   grind
 let⟨h1,hs,M⟩:=h.xN (w':=w) s ⟨aw+1,.row f k' (es.take n)⟩ v (.inr (by show(S.H id).aw<aw+1;omega)) rfl rfl rfl (Qs _) (λ_ _ _=>rfl)
  (λb _ hb=> .inl ⟨e,by rw[<-o];exact hb⟩)
  (λhs M=>⟨_,l,λu N=>hk u (qa0 N),by rw[yj k' n es hk];exact(R.take _).mono hs M⟩)
 refine⟨h1,?_⟩;subst hv;exact .own _ _ _ _ _ s (by simp[St.gh]) (λ_=>by simp[St.gh])
def Rel.ahA(h:Rel E S a w L){id:Nat}{cs cs':Z PV}(d:id<S.N)(e:(S.H id).c= .box cs)(g:∀vs,bo w (bn E S L) (S.gh L) cs vs->bo w (bn E S L) (S.gh L) cs' vs):
  Rel E {S with H:=bZ S.H id ⟨(S.H id).aw,.box cs'⟩} a w L:=by
 have:=(h.xN (w':=w) d ⟨(S.H id).aw,.box cs'⟩ (L id) (.inl ⟨rfl,rfl,by rw[e];rfl⟩) rfl rfl rfl (Qs _) (λ_ _ _=>rfl) (λb _ j=> .inl ⟨by rw[e];rfl,j⟩) (λhs i=>by
  let⟨b,f,T,h1,m,l,k⟩:=h.tV d e
  exact⟨b,f,T,h1,m,k,(g _ l).mono hs i⟩)).1
 rwa [Jp]at this
def bo.set{M:Nat->Prop}{G:Gh}{cs:Z PV}{vs:Z Va}(h:bo w M G cs vs)(i:Nat)(y:PV)(d:∀v,vs[i]?=some v->bp w M G y v):bo w M G (cs.set i y) vs:=by
 refine⟨by rw[qan];exact h.1,λj x v b hv=> ?_⟩
 rw[List.getElem?_set]at b;split at b
 .grind
 .exact h.2 j x v b hv
def Rel.ah5(h:Rel E S a w L){S':St}(f:S'.H=S.H)(d:S'.N=S.N)(b:∀t,S'.env t=S.env t\/S'.env t= .any):Rel E S' a w L:=by
 let⟨env,H,N⟩:=S
 let⟨env',i,g⟩:=S'
 simp only at f d b;subst f d;refine⟨h.defers,h.size,λt=> ?_,h.obj,h.apart,h.fresh,h.fr,h.CB,h.an⟩
 rcases b t with e|e
 .show bp _ _ _ (env' t) _;rw[e];exact h.env t
 .show bp _ _ _ (env' t) _;rw[e];exact .any _
end
section
variable{U:TU}
inductive Ps (U:TU) where
 |own (t e k:Nat) (T:U.Ty)
 |EN (t:Nat)
 |CU (t off e k:Nat) (T:U.Ty)
 |MX (t off:Nat)
 |cut (t:Nat)
def Ps.run(S:bb U):Ps U->Y (bb U)
 | .own t e k T=>(match S.env t with
  | .eV=>some {env:=jd S.env t (.own S.N 1),H:=jd S.H S.N ⟨1,.row e k T []⟩,N:=S.N+1}
  |_=>none)
 | .EN t=>(match S.env t with
  | .own id aw=>(match S.row? id aw with
   |some r=>some {env:=jd S.env t (.sl r.T r.xs),H:=jd S.H id ⟨aw,.dead⟩,N:=S.N}
   |none=>none)
  |_=>none)
 | .CU t off e k T=>(match S.env t with
  | .ptr id aw _=>(match S.xk id aw with
   |some cs=>(match cs[off]? with
    |some .eV=>some {env:=S.env,H:=jd (jd S.H S.N ⟨1,.row e k T []⟩) id ⟨aw,.box (cs.set off (.own S.N 1))⟩,N:=S.N+1}
    |_=>none)
   |none=>none)
  |_=>none)
 | .MX t off=>(match S.env t with
  | .ptr id aw _=>(match S.xk id aw with
   |some cs=>(match cs[off]? with
    |some (.own i v)=>(match S.row? i v with
     |some r=>some {env:=S.env,H:=jd (jd S.H i ⟨v,.dead⟩) id ⟨aw,.box (cs.set off (.sl r.T r.xs))⟩,N:=S.N}
     |none=>none)
    |_=>none)
   |none=>none)
  |_=>none)
 | .cut t=>(match S.env t with
  | .view id aw _ lo n=>(match S.row? id aw with
   |some r=>(match Nat.beq lo 0 with
    |true=>some {env:=jd S.env t (.own id (aw+1)),H:=jd S.H id ⟨aw+1,.row r.e r.k r.T (r.xs.take n)⟩,N:=S.N}
    |false=>none)
   |none=>none)
  |_=>none)
def Ps.tmps:Ps U->Z Nat
 | .own t _ _ _| .EN t| .cut t=>[t]
 | .CU _ _ _ _ _| .MX _ _=>[]
def Ps.JV(S:bb U):Ps U->Z Nat
 | .own _ _ _ _=>[S.N]
 | .EN t=>(match S.env t with| .own id _=>[id]|_=>[])
 | .cut t=>(match S.env t with| .view id _ _ _ _=>[id]|_=>[])
 | .CU t _ _ _ _=>S.N::(match S.env t with| .ptr id _ _=>[id]|_=>[])
 | .MX t off=>(match S.env t with
  | .ptr id aw _=>id::(match S.xk id aw with
   |some cs=>(match cs[off]? with|some (.own i _)=>[i]|_=>[])
   |none=>[])
  |_=>[])
def Ps.sound(K:TK U){S S':bb U}{p:Ps U}(d:p.run S=some S'){E:En}{a:Act}{w:Wo}{L:Nat->Va}(h:Rel E S.st a w L):∃L',Rel E S'.st a w L':=by
 cases p with
 |own t e k T=>
  simp[Ps.run]at d;split at d
  .rename_i D;injection d with d
   subst d;have h0:=h.room 1;have hf:(S.st.H S.N)=⟨0,.dead⟩:=h.fresh S.N (Qs _);have A:S.N<({S.st with N:=S.st.N+1}:St).N:=qav S.N
   have B:=h0.akx A e k;refine⟨bZ L S.N (.slice none 0 0),?_⟩
   have g:(bb.st {env:=jd S.env t (.own S.N 1),H:=jd S.H S.N ⟨1,.row e k T []⟩,N:=S.N+1}:St)={env:=bZ S.st.env t (.own S.N 1),H:=bZ S.st.H S.N ⟨(S.st.H S.N).aw+1,.row e k []⟩,N:=S.st.N+1}:=by
    rw[hf];unfold bb.st;congr 1
    .simp[eC];exact td _ _ _ _
    .simp[eC];exact td _ _ _ _
   rw[g];refine⟨B.defers,B.size,λj=> ?_,B.obj,B.apart,B.fresh,B.fr,B.CB,B.an⟩
   show bp w _ _ (bZ S.st.env t _ j) _
   by_cases I:j=t
   .subst I;have l:=h.env j;have F:S.st.env j= .eV:=by simp[bb.st,D,KV.pv]
    rw[F]at l;rw[cJ];have:=ak4 (L:=L) (S:={S.st with N:=S.st.N+1}) A e k (w:=w) (M:=bn E {env:=S.st.env,H:=bZ S.st.H S.N ⟨(S.st.H S.N).aw+1,.row e k []⟩,N:=S.st.N+1} (bZ L S.N (.slice none 0 0))) l.wc
    have hv:(S.st.H S.N).aw+1=1:=by rw[hf]
    simp[hv]at this ⊢;exact this
   .rw[du _ _ I];exact B.env j
  .cases d
 |EN t=>
  simp[Ps.run]at d;split at d
  .rename_i id aw D;split at d
   .rename_i r G;injection d with d
    subst d
    let⟨hv,J⟩:=tE G
    have l:=h.env t;have F:S.st.env t= .own id (S.st.H id).aw:=by rw[hv];simp[bb.st,D,KV.pv]
    rw[F]at l
    let⟨f,h5⟩:=h.EN l J (λu hu=>by
     obtain⟨x,_,rfl⟩:=QO.1 hu
     exact Qn.2 λy hy=>iE (K.gJ _ _ _ hy))
    rw[hv]at f h5;refine⟨L,?_⟩
    have g:(bb.st {env:=jd S.env t (.sl r.T r.xs),H:=jd S.H id ⟨aw,.dead⟩,N:=S.N}:St)={env:=bZ S.st.env t (.sl (r.xs.map (U.pv r.T))),H:=bZ S.st.H id ⟨aw,.dead⟩,N:=S.st.N}:=by
     unfold bb.st;congr 1
     .simp[eC];exact td _ _ _ _
     .simp[eC];exact td _ _ _ _
    rw[g];refine⟨f.defers,f.size,λj=> ?_,f.obj,f.apart,f.fresh,f.fr,f.CB,f.an⟩
    show bp w _ _ (bZ S.st.env t _ j) _
    by_cases I:j=t
    .subst I;rw[cJ];exact h5
    .rw[du _ _ I];exact f.env j
   .cases d
  .cases d
 |cut t=>
  simp[Ps.run]at d;split at d
  .rename_i id aw k lo n D;split at d
   .rename_i r G;split at d
    .rename_i V;injection d with d
     subst d;have V:=Qp V;subst V
     let⟨hv,J⟩:=tE G
     have l:=h.env t;have F:S.st.env t= .view id aw k 0 n:=by simp[bb.st,D,KV.pv]
     rw[F]at l
     let⟨f,h5⟩:=h.anV l hv J
     refine⟨bZ L id (a.tmps.getD t undef),?_⟩
     have g:(bb.st {env:=jd S.env t (.own id (aw+1)),H:=jd S.H id ⟨aw+1,.row r.e r.k r.T (r.xs.take n)⟩,N:=S.N}:St)={env:=bZ S.st.env t (.own id (aw+1)),H:=bZ S.st.H id ⟨aw+1,.row r.e r.k ((r.xs.map (U.pv r.T)).take n)⟩,N:=S.st.N}:=by
      unfold bb.st;congr 1
      .simp[eC];exact td _ _ _ _
      .simp[eC];rw[<-List.map_take];exact td _ _ _ _
     rw[g];refine⟨f.defers,f.size,λj=> ?_,f.obj,f.apart,f.fresh,f.fr,f.CB,f.an⟩
     show bp w _ _ (bZ S.st.env t _ j) _
     by_cases I:j=t
     .subst I;rw[cJ];exact h5
     .rw[du _ _ I];exact f.env j
    .cases d
   .cases d
  .cases d
 |CU t off e k T=>
  simp[Ps.run]at d;split at d
  .rename_i id aw o D;split at d
   .rename_i cs hb;split at d
    .rename_i m;injection d with d
     subst d
     let⟨hv,J⟩:=Af hb
     have F:S.st.env t= .ptr id aw o:=by simp[bb.st,D,KV.pv]
     have z:id<S.N:=by have l:=h.env t;rw[F]at l;exact(l.rQ (show(S.st.gh L).V id=aw from hv)).1
     have h0:=h.room 1;have hf:(S.st.H S.N)=⟨0,.dead⟩:=h.fresh S.N (Qs _);have A:S.N<({S.st with N:=S.st.N+1}:St).N:=qav S.N
     have B:=h0.akx A e k;have s:id≠S.N:=qby z
     have l:=B.ahA (id:=id) (cs:=cs.map KV.pv) (cs':=(cs.map KV.pv).set off (.own S.N ((S.st.H S.N).aw+1))) (Nat.lt_succ_of_lt z) (by show(bZ S.st.H S.N _ id).c=_;rw[du _ _ s];exact J)
      (λvs G=>G.set _ _ λv hvv=>by
       have hn:(cs.map KV.pv)[off]?=some .eV:=by rw[QG,m];rfl
       exact ak4 (L:=L) (S:={S.st with N:=S.st.N+1}) A e k (G.2 off .eV v hn hvv).wc)
     refine⟨bZ L S.N (.slice none 0 0),?_⟩
     have g:(bb.st {env:=S.env,H:=jd (jd S.H S.N ⟨1,.row e k T []⟩) id ⟨aw,.box (cs.set off (.own S.N 1))⟩,N:=S.N+1}:St)
       ={env:=S.st.env,H:=bZ (bZ S.st.H S.N ⟨(S.st.H S.N).aw+1,.row e k []⟩) id ⟨(bZ S.st.H S.N ⟨(S.st.H S.N).aw+1,.row e k []⟩ id).aw,.box ((cs.map KV.pv).set off (.own S.N ((S.st.H S.N).aw+1)))⟩,N:=S.st.N+1}:=by
      rw[du _ _ s,hv,hf];unfold bb.st;congr 1;simp only[eC];rw[td,td];simp[dJ.pv,eF.pv,List.map_set,KV.pv,qas]
     rw[g];exact l
    .cases d
   .cases d
  .cases d
 |MX t off=>
  simp[Ps.run]at d;split at d
  .rename_i id aw o D;split at d
   .rename_i cs hb;split at d
    .rename_i i v m;split at d
     .rename_i r G;injection d with d
      subst d
      let⟨hv,J⟩:=Af hb
      let⟨R,hc2⟩:=tE G
      have F:S.st.env t= .ptr id aw o:=by simp[bb.st,D,KV.pv]
      have z:id<S.N:=by have l:=h.env t;rw[F]at l;exact(l.rQ (show(S.st.gh L).V id=aw from hv)).1
      have q:(cs.map KV.pv)[off]?=some (.own i v):=by rw[QG,m];rfl
      have hili:i<S.N:=by
       let⟨b,cur,T,h5,h6,h7,h8⟩:=h.tV z J
       let⟨u,hu,hru⟩:=h7.get q
       exact(hru.pR (show(S.st.gh L).V i=v from R)).1
      have s:id≠i:=by grind
      let⟨f,h5⟩:=h.alr hili hc2 (λu hu=>by
       obtain⟨x,_,rfl⟩:=QO.1 hu
       exact Qn.2 λy hy=>iE (K.gJ _ _ _ hy))
      have h6:=f.ahA (id:=id) (cs:=cs.map KV.pv) (cs':=(cs.map KV.pv).set off (.sl (r.xs.map (U.pv r.T)))) z (by show(bZ S.st.H i _ id).c=_;rw[du _ _ s];exact J)
       (λvs hrr=>hrr.set _ _ λu hu=>h5 u (by
        have:=hrr.2 off _ u q hu
        exact(this.pR (show(bZ S.st.H i ⟨(S.st.H i).aw,.dead⟩ i).aw=v by rw[cJ];exact R)).2))
      refine⟨L,?_⟩
      have g:(bb.st {env:=S.env,H:=jd (jd S.H i ⟨v,.dead⟩) id ⟨aw,.box (cs.set off (.sl r.T r.xs))⟩,N:=S.N}:St)
        ={env:=S.st.env,H:=bZ (bZ S.st.H i ⟨(S.st.H i).aw,.dead⟩) id ⟨(bZ S.st.H i ⟨(S.st.H i).aw,.dead⟩ id).aw,.box ((cs.map KV.pv).set off (.sl (r.xs.map (U.pv r.T))))⟩,N:=S.st.N}:=by
       rw[du _ _ s,hv,R];unfold bb.st;congr 1;simp only[eC];rw[td,td];simp[dJ.pv,eF.pv,List.map_set,KV.pv]
      rw[g];exact h6
     .cases d
    .cases d
   .cases d
  .cases d
inductive RS (U:TU) where
 |nil
 |op (o:SG) (r:RS U)
 |ps (p:Ps U) (r:RS U)
 |Ey (t:Nat) (r:RS U)
 |ite (t:Nat) (want:Bool) (body:RS U) (d:Nat) (g:Option (Nat×Bool)) (x y:bD) (r:RS U)
def RS.flat:RS U->Z SG
 | .nil=>[]
 | .op o r=>o::r.flat
 | .ps _ r| .Ey _ r=>r.flat
 | .ite t _ b d g x y r=>b.flat++⟨some d,g,.pick (.tmp t) x y⟩::r.flat
def RS.jg:RS U->Z Nat
 | .nil=>[]
 | .op o r=>(match o.d with|some t=>t::r.jg|none=>r.jg)
 | .ps p r=>p.tmps++r.jg
 | .Ey _ r=>r.jg
 | .ite _ _ b d _ _ _ r=>b.jg++d::r.jg
def Av:Z SG->Z Nat
 |[]=>[]
 |o::l=>(match o.d with|some t=>t::Av l|none=>Av l)
def RS.len:RS U->Nat
 | .nil=>0
 | .op _ r=>r.len+1
 | .ps _ r| .Ey _ r=>r.len
 | .ite _ _ b _ _ _ _ r=>b.len+(r.len+1)
def RS.Ga:∀(r:RS U),r.flat.length=r.len
 | .nil=>rfl
 | .op _ r=>by simp[RS.flat,RS.len,r.Ga]
 | .ps _ r| .Ey _ r=>r.Ga
 | .ite _ _ b _ _ _ _ r=>by simp[RS.flat,RS.len,b.Ga,r.Ga]
def je(t:Nat):Z Nat->Bool
 |[]=>false
 |x::l=>(match Nat.beq t x with|true=>true|false=>je t l)
def eD{t:Nat}:∀{l:Z Nat},je t l=true↔t∈l
 |[]=>by simp[je]
 |x::l=>by
  simp[je];split
  .rename_i h;simp[Qp h]
  .rename_i h;rw[eD];simp[qbT h]
def uv{t:Nat}{l:Z Nat}(h:je t l=false):t∉l:=λb=>by rw[eD.2 b]at h;cases h
def adz:Bool->Bool->Bool
 |true,b=>b
 |false,true=>false
 |false,false=>true
theorem VC(x y:Bool):adz x y=(x==y):=by cases x<;>cases y<;>rfl
abbrev WS:=Option (Nat×List Nat)
def okW:WS->Nat->Bool
 |none,_=>false
 |some (n,l),id=>Nat.ble n id||je id l
def JT(W:WS):Y (Nat×dJ U)->Bool
 |none=>true
 |some (id,_)=>okW W id
def LN(t:Nat)(b:Bool):Z Nat->Z SG->Bool
 |_,[]=>true
 |u,o::l=>(match o.g with
  |some (f,e)=>(Nat.beq f t&&adz e b)||je f u
  |none=>false)&&(match o.d with
   |some d=> !Nat.beq d t&&LN t b (d::u) l
   |none=>LN t b u l)
variable(K:TK U)
def adq{ρ:Type}(Γ:Z (eB U))(W:WS)(nid:Nat)(S:bb U)(o:SG)(k:KV U->Y (Nat×dJ U)->Y ρ):Y ρ:=
 match o.g with
 |none=>hY K Γ nid S o.op λx wr=>(match JT W wr with|true=>k x wr|false=>none)
 |some (t,want)=>match S.env t with
  | .bool b=>(match adz b want with
   |true=>hY K Γ nid S o.op λx wr=>(match JT W wr with|true=>k x wr|false=>none)
   |false=>k .undef none)
  | .undef=>k .undef none
  |_=>none
def ahw{ρ:Type}(Γ:Z (eB U))(W:WS)(nid:Nat)(S:bb U)(o:SG)(k:bb U->Y ρ):Y ρ:=
 adq K Γ W nid S o λx wr=>k (S.cY o.d x wr)
def ahp(S:bb U)(d:Z Nat):Y (Nat×Bool)->Bool
 |none=>true
 |some (t,want)=>(match S.env t with| .bool b=>adz b want&& !je t d|_=>false)
def bb.forget(S:bb U)(b:Z Nat):bb U:={env:=λt=>(match je t b with|true=> .any|false=>S.env t),H:=S.H,N:=S.N}
def ads:bD->Y Bool
 | .Bp (.bool b)=>some b
 |_=>none
def kc(Γ:Z (eB U)):RS U->{ρ:Type}->(W:WS)->(nid:Nat)->(S:bb U)->(k:bb U->Y ρ)->Y ρ
 | .nil,_,_,_,S,k=>k S
 | .op o r,_,W,nid,S,k=>ahw K Γ W nid S o λS'=>kc Γ r W (nid+1) S' k
 | .ps p r,_,W,nid,S,k=>(match(p.JV S).all (okW W)with
  |true=>(match p.run S with|some S'=>kc Γ r W nid S' k|none=>none)
  |false=>none)
 | .Ey t r,_,W,nid,S,k=>(match S.env t with
  | .bool b=>bif b then kc Γ r W nid (S.cY (some t) (.bool true) none) k else kc Γ r W nid (S.cY (some t) (.bool false) none) k
  | .undef=>kc Γ r W nid S k
  |_=>none)
 | .ite t want body d g x y r,_,W,nid,S,k=>(match S.env t with
  | .bool b=>(match ahp S body.jg g&&(LN t want [] body.flat&& !je t body.jg)with
   |true=>(match want with
    |true=>(match ads y with
     |some c=>(bif b then kc Γ body none nid (S.cY (some t) (.bool true) none) (λe=>M8 (x.dv e))else some c).bind λv=>kc Γ r W (nid+(body.len+1)) ((S.forget body.jg).cY (some d) (.bool v) none) k
     |none=>none)
    |false=>(match ads x with
     |some c=>(bif b then some c else kc Γ body none nid (S.cY (some t) (.bool false) none) (λe=>M8 (y.dv e))).bind λv=>kc Γ r W (nid+(body.len+1)) ((S.forget body.jg).cY (some d) (.bool v) none) k
     |none=>none))
   |false=>none)
  |_=>none)
structure EP (D:List Nat) (W:WS) (S S':bb U):Prop where
 env:∀t,t∉D->S'.env t=S.env t
 H:∀id,okW W id=false->S'.H id=S.H id
 N:S.N<=S'.N
 Nn:W=none->S'.N=S.N
def EP.refl(D:Z Nat)(W:WS)(S:bb U):EP D W S S:=⟨λ_ _=>rfl,λ_ _=>rfl,Qs _,λ_=>rfl⟩
def EP.trans{D j d:Z Nat}{W:WS}{S S' S'':bb U}(h:EP D W S S')(f:EP j W S' S'')(i:∀t,t∉d->t∉D/\t∉j):EP d W S S'':=
 ⟨λt g=>(f.env t (i t g).2).trans (h.env t (i t g).1),λid b=>(f.H id b).trans (h.H id b),QJ h.N f.N,λe=>(f.Nn e).trans (h.Nn e)⟩
def nG(S:bb U)(d:Y Nat)(x:KV U)(wr:Y (Nat×dJ U)){t:Nat}(h:d≠some t):(S.cY d x wr).env t=S.env t:=by
 cases d with
 |none=>rfl
 |some d=>simp only[bb.cY,eC];exact du _ _ (λe=>h (by rw[e]))
def KD(S:bb U)(d:Y Nat)(x:KV U)(wr:Y (Nat×dJ U)){i:Nat}(h:wr.map (·.1)≠some i):(S.cY d x wr).H i=S.H i:=by
 cases wr with
 |none=>rfl
 |some p=>simp only[bb.cY,eC];exact du _ _ (λe=>h (by rw[e];rfl))
def abZ(S:bb U)(W:WS)(d:Y Nat)(x:KV U)(wr:Y (Nat×dJ U))(h:JT W wr=true):EP d.toList W S (S.cY d x wr):=by
 refine⟨λt f=>nG _ _ _ _ (λe=>f (by simp[e])),λid b=>KD _ _ _ _ (λe=> ?_),Qs _,λ_=>rfl⟩
 cases wr with
 |none=>cases e
 |some p=>simp[Qo,Qk]at e;simp[JT]at h;rw[e,b]at h;cases h
variable{K}
variable{P:Pr}
def TZ{ρ:Type}{Γ:Z (eB U)}{W:WS}{nid:Nat}{S:bb U}{o:SG}{k:KV U->Y (Nat×dJ U)->Y ρ}{r:ρ}(g:xt P Γ)(q:o.op.dR=true)(h:adq K Γ W nid S o k=some r):
  ∃d x wr,rE P d/\D4 d nid S.st o=some (x.pv,wr.map mu)/\JT W wr=true/\k x wr=some r:=by
 have run:∀(e:o.wanted S.st=some true),hY K Γ nid S o.op (λx wr=>(match JT W wr with|true=>k x wr|false=>none))=some r->
   ∃d x wr,rE P d/\D4 d nid S.st o=some (x.pv,wr.map mu)/\JT W wr=true/\k x wr=some r:=by
  intro e h
  let⟨d,x,wr,h1,u,n⟩:=aaO g q h
  split at n
  .rename_i i;refine⟨d,x,wr,h1,?_,i,n⟩;rw[D4,e];exact u
  .cases n
 have skip:∀(e:o.wanted S.st=some false),k .undef none=some r->
   ∃d x wr,rE P d/\D4 d nid S.st o=some (x.pv,wr.map mu)/\JT W wr=true/\k x wr=some r:=by
  intro e h;refine⟨λ_=>none,.undef,none,λf m s=>(by cases s),?_,rfl,h⟩
  rw[D4,e];rfl
 unfold adq at h;split at h
 .grind [SG.wanted]
 .rename_i t p v;split at h
  .rename_i b l;have j:S.st.env t= .bool b:=by simp[bb.st,l,KV.pv]
   grind [SG.wanted,VC]
  .rename_i l;have j:S.st.env t= .undef:=by simp[bb.st,l,KV.pv]
   grind [SG.wanted]
  .cases h
def aaq{ρ:Type}{Γ:Z (eB U)}{W:WS}{nid:Nat}{S:bb U}{o:SG}{k:bb U->Y ρ}{r:ρ}(d:xt P Γ)(e:o.op.dR=true)(h:ahw K Γ W nid S o k=some r):
  ∃b x wr,rE P b/\D4 b nid S.st o=some (x.pv,wr.map mu)/\JT W wr=true/\k (S.cY o.d x wr)=some r:=TZ d e h
def ac0:rE P (λ_=>none):=λf m b=>by cases b
def Jw{E:En}{hs:Z Nat}{ops:Array Oper}{t:Nat}{i:Bool}{Q:Exit->Act->Wo->Prop}{N:Z Oper}:∀(p:Z Oper) (z:Z SG) (u:Z Nat) (S:St) (a:Act) (w:Wo) (L:Nat->Va),
  p.mapM (yq P hs ops)=some z->Rel E S a w L->0<S.N->(∀o∈p,∀t,o.dst=some t->E.can t)->LN t i u z=true->S.env t= .bool (!i)->(∀x∈u,S.env x= .undef)->
  (∀S' a' w' k,(∀x,x∉Av z->S'.env x=S.env x)->S'.H=S.H->S'.N=S.N->Rel E S' a' w' k->wpListIn (WF E.rd) 0 P ops Q N a' w')->wpListIn (WF E.rd) 0 P ops Q (p++N) a w
 |[],z,u,S,a,w,L,hm,h,j,B,hs,A,hu,hk=>by simp at hm;subst hm;exact hk S a w L (λ_ _=>rfl) rfl rfl h
 |o::p,z,u,S,a,w,L,hm,h,j,B,hs,A,hu,hk=>by
  simp[qaa,Qu,Qm,qaf,Qk]at hm;obtain⟨g,hg,v,r,rfl⟩:=hm;simp[LN,Qi]at hs
  let⟨h1,s⟩:=hs
  have V:g.wanted S=some false:=by
   split at h1
   .rename_i T l G;rw[QR,Qi]at h1;rw[SG.wanted,G];rcases h1 with⟨M,R⟩|M
    .rw[Qp M];rw[VC]at R;simp[A];have:=eq_of_beq R;subst this;cases l<;>rfl
    .simp[hu T (eD.1 M)]
   .cases h1
  have F:zT (λ_=>none) 0 S g=some (S.cY g.d .undef none):=by rw[zT,V]
  rw[List.cons_append];refine qa5 λK hK=> ?_
  refine Bg ac0 hg h j (B o t_) F (λa' w' k q=>hK _ _ ?_)
  split at s
  .rename_i d b;rw[Qi]at s;have I:d≠t:=λe=>by subst e;have:=s.1;simp at this
   refine Jw p v (d::u) _ a' w' k r q j (λD n=>B D (by simp[n])) s.2 ?_ ?_ ?_
   .rw[b,St.nG _ _ _ (by simp[I])];exact A
   .intro x f;rw[b]
    by_cases m:x=d
    .subst m;exact cJ _ _ _
    .rw[St.nG _ _ _ (by simpa using λe=>m e.symm)]
     exact hu x ((Qv.1 f).resolve_left m)
   .intro S' a' w' k H J j q;refine hk S' a' w' k (λx f=> ?_) J j q
    simp[Av,b,Qv,qaF]at f;rw[H x f.2,b,St.nG _ _ _ (by simpa using λe=>f.1 e.symm)]
  .rename_i b;refine Jw p v u _ a' w' k r q j (λD n=>B D (by simp[n])) s ?_ ?_ ?_
   .rw[b];exact A
   .intro x f;rw[b];exact hu x f
   .intro S' a' w' k H J j q;refine hk S' a' w' k (λx f=> ?_) J j q
    simp[Av,b]at f;rw[H x f,b];rfl
def RS.dR:RS U->Bool
 | .nil=>true
 | .op o r=>o.op.dR&&r.dR
 | .ps _ r| .Ey _ r=>r.dR
 | .ite _ _ b _ _ x y r=>b.dR&&(x.dR&&y.dR)&&r.dR
def wy:∀(r:RS U) (t:Nat),t∈Av r.flat->t∈r.jg
 | .nil,t,h=>h
 | .op o r,t,h=>by
  simp[RS.flat,Av]at h;simp only[RS.jg];split at h
  .rcases Qv.1 h with h|h
   .exact Qv.2 (.inl h)
   .exact Qv.2 (.inr (wy r t h))
  .exact wy r t h
 | .ps p r,t,h=>QA.2 (.inr (wy r t h))
 | .Ey _ r,t,h=>wy r t h
 | .ite t0 want b d g x y r,t,h=>by
  have cY:∀(f l2:Z SG),t∈Av (f++l2)->t∈Av f\/t∈Av l2:=by
   intro f l2
   induction f with
   |nil=>exact λh=> .inr h
   |cons o f i=>
    intro h;simp[List.cons_append,Av]at h ⊢
    cases j:o.d with
    |none=>rw[j]at h;exact i h
    |some e=>
     rw[j]at h;simp[Qv]at h ⊢;rcases h with h|h
     .exact .inl (.inl h)
     .rcases i h with h|h
      .exact .inl (.inr h)
      .exact .inr h
  simp[RS.flat]at h;simp[RS.jg,QA,Qv];rcases cY _ _ h with h|h
  .exact .inl (wy b t h)
  .simp[Av,Qv]at h;rcases h with h|h
   .exact .inr (.inl h)
   .exact .inr (.inr (wy r t h))
def ajI{x:KV U}{b:Bool}(h:M8 x=some b):x= .bool b:=by
 unfold M8 at h
 grind
def GF{S:bb U}{t:Nat}{x:KV U}(h:S.env t=x):S.cY (some t) x none=S:=by
 unfold bb.cY
 let⟨env,H,N⟩:=S
 grind [eC,Jp]
def Ps.frm{S S':bb U}{p:Ps U}(b:p.run S=some S'){W:WS}(f:(p.JV S).all (okW W)=true):EP p.tmps W S S':=by
 have ne:∀{id g:Nat},okW W id=true->okW W g=false->g≠id:=λu s e=>by subst e;rw[u]at s;cases s
 have r:∀{n:Nat},okW W n=true->W≠none:=λh e=>by rw[e]at h;cases h
 cases p with
 |own t e k T=>
  simp[Ps.run]at b;split at b
  .injection b with b
   subst b;simp[Ps.JV,Q3,List.all_nil,qaw]at f;exact⟨λx j=>by simp only[eC];exact du _ _ (by simpa[Ps.tmps]using j),λid d=>by simp only[eC];exact du _ _ (ne f d),qa1 _,λe=>absurd e (r f)⟩
  .cases b
 |EN t=>
  simp[Ps.run]at b;split at b
  .rename_i id aw l;split at b
   .injection b with b
    subst b;simp[Ps.JV,l,Q3,List.all_nil,qaw]at f;exact⟨λx j=>by simp only[eC];exact du _ _ (by simpa[Ps.tmps]using j),λg d=>by simp only[eC];exact du _ _ (ne f d),Qs _,λ_=>rfl⟩
   .cases b
  .cases b
 |cut t=>
  simp[Ps.run]at b;split at b
  .rename_i id aw k lo n l;split at b
   .split at b
    .injection b with b
     subst b;simp[Ps.JV,l,Q3,List.all_nil,qaw]at f;exact⟨λx j=>by simp only[eC];exact du _ _ (by simpa[Ps.tmps]using j),λg d=>by simp only[eC];exact du _ _ (ne f d),Qs _,λ_=>rfl⟩
    .cases b
   .cases b
  .cases b
 |CU t off e k T=>
  simp[Ps.run]at b;split at b
  .rename_i id aw o l;split at b
   .rename_i cs q;split at b
    .injection b with b
     subst b;simp[Ps.JV,l,Q3,List.all_nil,qaw,Qi]at f;exact⟨λx j=>rfl,λg d=>by simp only[eC];rw[du _ _ (ne f.2 d),du _ _ (ne f.1 d)],qa1 _,λe=>absurd e (r f.1)⟩
    .cases b
   .cases b
  .cases b
 |MX t off=>
  simp[Ps.run]at b;split at b
  .rename_i id aw o l;split at b
   .rename_i cs q;split at b
    .rename_i i v m;split at b
     .injection b with b
      subst b;simp[Ps.JV,l,q,m,Q3,List.all_nil,qaw,Qi]at f;exact⟨λx j=>rfl,λg d=>by simp only[eC];rw[du _ _ (ne f.1 d),du _ _ (ne f.2 d)],Qs _,λ_=>rfl⟩
     .cases b
    .cases b
   .cases b
  .cases b
def BT{α β:Type}{f:α->Y β}:∀{l:Z α} {r1 r2:Z β},l.mapM f=some (r1++r2)->∃d b,l=d++b/\d.mapM f=some r1/\b.mapM f=some r2
 |l,[],r2,h=>⟨[],l,rfl,rfl,h⟩
 |[],x::r1,r2,h=>by simp at h
 |y::l,x::r1,r2,h=>by simp only[qaa,Qu,Qm,qaf,Qk,List.cons_append,List.cons.injEq]at h;obtain⟨z,g,j,e,rfl,rfl⟩:=h;obtain⟨d,b,rfl,h1,i⟩:=BT e;exact⟨y::d,b,rfl,by simp[qaa,g,h1],i⟩
def agV{P:Pr}{hs:Z Nat}{ops:Array Oper}{o:Oper}{d:Y Nat}{s:cU}(h:yq P hs ops o=some ⟨d,none,s⟩):o.guard=none/\o.dst=d/\Hv P hs o=some s:=by
 unfold yq at h
 grind
def aao{o:Oper}{p:Nat->Y Bool}(h:o.guard=none):Region.wanted o p=true:=by simp[Region.wanted,h]
def afc{P:Pr}{a:Act}{w:Wo}{o:Oper}{f:FI}{args:Array Od}{e:Array TI}(b:o.op= .call {callee:= .value (.func f),args:=args,argTypes:=e})(d:Enters P f):
  (execOp a.eval o).run P w= .ok (.enter f (args.toList.map a.eval).toArray) w:=by
 have g:args.map a.eval=(args.toList.map a.eval).toArray:=by rw[<-qa3,qaq]
 simp[execOp,b,resolve,Act.eval,Deferred.ofValue,invoke,g,pw d]
def oX{E:En}{Γ:Z (eB U)}(u:xt P Γ){hs:Z Nat}{ops:Array Oper}{Q:Exit->Act->Wo->Prop}:∀(n:RS U) {ρ:Type} (W:WS) (nid:Nat) (S:bb U) (k:bb U->Y ρ) (r:ρ) (F B:Z Oper) (a:Act) (w:Wo) (L:Nat->Va),
  n.dR=true->F.mapM (yq P hs ops)=some n.flat->Rel E S.st a w L->nid+n.len<=S.N->(∀o∈F,∀t,o.dst=some t->E.can t)->kc K Γ n W nid S k=some r->
  (∀S' a' w' L',EP n.jg W S S'->Rel E S'.st a' w' L'->k S'=some r->wpListIn (WF E.rd) 0 P ops Q B a' w')->wpListIn (WF E.rd) 0 P ops Q (F++B) a w
 | .nil,ρ,W,nid,S,k,r,F,B,a,w,L,j,hm,h,hN,J,f,hk=>by
  have:F=[]:=by have:=z7 hm;exact qaz (by simpa[RS.flat]using this.symm)
  subst this;exact hk S a w L (EP.refl _ _ _) h f
 | .op o n,ρ,W,nid,S,k,r,F,B,a,w,L,j,hm,h,hN,J,f,hk=>by
  simp[RS.dR,Qi]at j
  cases F with
  |nil=>simp[RS.flat]at hm
  |cons p F=>
  simp only[RS.flat,qaa,Qu,Qm,qaf,Qk,List.cons.injEq]at hm;obtain⟨g,hg,gs',hgs,rfl,rfl⟩:=hm;simp[RS.len]at hN
  let⟨Γ',x,wr,hΓ',he,hwr,hr'⟩:=aaq u j.1 f
  have hst:zT Γ' nid S.st g=some (S.cY g.d x wr).st:=by rw[aa1,he,Iv];rfl
  rw[List.cons_append];refine qa5 λK hK=> ?_
  refine Bg hΓ' hg h (show nid<S.N by omega) (J p t_) hst (λa' w' L' M=>hK _ _ ?_)
  refine oX u n W (nid+1) _ k r F B a' w' L' j.2 hgs M (by show _<=S.N;omega) (λo' G=>J o' (by simp[G])) hr' (λS' a' w' L' hf M H=>hk S' a' w' L' ?_ M H)
  refine(abZ S W g.d x wr hwr).trans hf λt V=> ?_
  simp[RS.jg]at V
  cases hdd:g.d with
  |none=>rw[hdd]at V;exact⟨t_,V⟩
  |some d=>rw[hdd]at V;simp[Qv,qaF]at V;exact⟨by simpa using λe=>V.1 e,V.2⟩
 | .ps p n,ρ,W,nid,S,k,r,F,B,a,w,L,j,hm,h,hN,J,f,hk=>by
  simp[kc]at f;split at f
  .rename_i hW;split at f
   .rename_i s hp
    let⟨L1,h1⟩:=Ps.sound K hp h
    have hf:=Ps.frm hp hW;refine oX u n W nid s k r F B a w L1 j hm h1 (QJ hN hf.N) J f (λS' a' w' L' hf' M H=>hk S' a' w' L' (hf.trans hf' λt V=> ?_) M H)
    simp[RS.jg,QA,qaF]at V;exact V
   .cases f
  .cases f
 | .Ey t n,ρ,W,nid,S,k,r,F,B,a,w,L,j,hm,h,hN,J,f,hk=>by
  simp[kc]at f;split at f
  .rename_i b hb
   cases b with
   |true=>rw[Qc,GF hb]at f;exact oX u n W nid S k r F B a w L j hm h hN J f hk
   |false=>rw[Qb,GF hb]at f;exact oX u n W nid S k r F B a w L j hm h hN J f hk
  .exact oX u n W nid S k r F B a w L j hm h hN J f hk
  .cases f
 | .ite t want body d g x y n,ρ,W,nid,S,k,r,F,B,a,w,L,j,hm,h,hN,J,f,hk=>by
  simp[RS.dR,Qi]at j
  let⟨⟨hokb,hokx,hoky⟩,hokr⟩:=j
  simp[RS.flat]at hm;obtain⟨lb,lr,rfl,hmb,hmr⟩:=BT hm
  cases lr with
  |nil=>simp at hmr
  |cons p lr=>
  simp only[qaa,Qu,Qm,qaf,Qk,List.cons.injEq]at hmr;obtain⟨pg,hpg,gs',hgs,rfl,rfl⟩:=hmr;simp[RS.len]at hN;simp only[kc]at f;split at f
  .rename_i b hb;split at f
   .rename_i hchk;simp[Qi,qad]at hchk
    let⟨i,hskip,htd⟩:=hchk
    have htd:=uv htd
    have fin:∀(v:Bool) (s:St) (a1:Act) (w1:Wo) (L1:Nat->Va),(∀x,x∉body.jg->s.env x=S.st.env x)->s.H=S.st.H->s.N=S.st.N->Rel E s a1 w1 L1->
      (if b then x else y).val s= .bool v->kc K Γ n W (nid+(body.len+1)) ((S.forget body.jg).cY (some d) (.bool v) none) k=some r->wpListIn (WF E.rd) 0 P ops Q (p::(lr++B)) a1 w1:=by
     intro v s a1 w1 L1 he hH hN1 h1 hv hr1
     have hpw:(⟨some d,g,.pick (.tmp t) x y⟩:SG).wanted s=some true:=by
      rw[SG.wanted]
      cases g with
      |none=>rfl
      |some q=>
       let⟨N,want'⟩:=q
       simp[ahp]at i;split at i
       .rename_i b' hb';simp[Qi,qad]at i;have:s.env N= .bool b':=by rw[he N (uv i.2)];simp[bb.st,hb',KV.pv]
        simp only[this];rw[VC]at i;rw[i.1]
       .cases i
     have hbt:s.env t= .bool b:=by rw[he t htd];simp[bb.st,hb,KV.pv]
     have hst:zT (λ_=>none) nid s ⟨some d,g,.pick (.tmp t) x y⟩=some (s.cY (some d) (.bool v) none):=by
      rw[zT,hpw];have hbt':(bD.tmp t).val s= .bool b:=hbt;simp only[exec,hbt']
      cases b with
      |true=>simp only[Qr]at hv;simp only[hv];rfl
      |false=>simp only[QB,Qx]at hv;simp only[hv];rfl
     refine qa5 λKK hKK=> ?_
     refine Bg ac0 hpg h1 (show nid<s.N by rw[hN1];show nid<S.N;omega) (J p t_) hst (λa' w' L' M=>hKK _ _ ?_)
     have h2:Rel E ((S.forget body.jg).cY (some d) (.bool v) none).st a' w' L':=by
      refine M.ah5 (by rw[Iv];exact hH.symm) (by rw[Iv];exact hN1.symm) λN=> ?_
      rw[Iv]
      by_cases R:N=d
      .subst R;left;rw[show(s.cY (some N) (.bool v) none).env N= .bool v from cJ _ _ _]
       exact cJ _ _ _
      .rw[St.nG _ _ _ (by simpa using λe=>R e.symm),St.nG _ _ _ (by simpa using λe=>R e.symm)]
       cases T:je N body.jg with
       |true=>right;simp[bb.st,bb.forget,T,KV.pv]
       |false=>left;simp[bb.st,bb.forget,T];exact(he N (uv T)).symm
     refine oX u n W (nid+(body.len+1)) _ k r lr B a' w' L' hokr hgs h2 (by show _<=S.N;omega) (λo' G=>J o' (by simp[G])) hr1 (λS' a' w' L' hf M H=>hk S' a' w' L' ?_ M H)
     refine EP.trans (S':=(S.forget body.jg).cY (some d) (.bool v) none) (D:=body.jg++[d]) ⟨λN A=> ?_,λid _=>rfl,Qs _,λ_=>rfl⟩ hf λN A=> ?_
     .simp[QA,Qz,qaF]at A;rw[nG _ _ _ _ (by simpa using λe=>A.2 e.symm)]
      have:je N body.jg=false:=by
       cases T:je N body.jg with
       |true=>exact absurd (eD.1 T) A.1
       |false=>rfl
      simp[bb.forget,this]
     .simp[RS.jg,QA,Qv,qaF]at A;exact⟨by simp[A.1,A.2.1],A.2.2⟩
    have m:∀(z:bD) (v:Bool),b=want->z.dR=true->z=(if b then x else y)->kc K Γ body none nid (S.cY (some t) (.bool b) none) (λs=>M8 (z.dv s))=some v->
      kc K Γ n W (nid+(body.len+1)) ((S.forget body.jg).cY (some d) (.bool v) none) k=some r->wpListIn (WF E.rd) 0 P ops Q (lb++p::(lr++B)) a w:=by
     intro z v _ hz hzz EL hrr;rw[GF hb]at EL;refine oX u body none nid S _ v lb _ a w L hokb hmb h O (λo' G=>J o' (by simp[G])) EL (λS' a' w' L' hf M H=> ?_)
     have hH:S'.H=S.H:=funext λid=>hf.H id rfl
     have hNN:S'.N=S.N:=hf.Nn rfl;refine fin v S'.st a' w' L' (λx' hx'=>by simp[bb.st,hf.env x' hx']) (by simp[bb.st,hH]) hNN M ?_ hrr
     rw[<-hzz,w8 hz,ajI H];rfl
    have l:∀(c:Bool),b= !want->(if b then x else y)= .Bp (.bool c)->kc K Γ n W (nid+(body.len+1)) ((S.forget body.jg).cY (some d) (.bool c) none) k=some r->wpListIn (WF E.rd) 0 P ops Q (lb++p::(lr++B)) a w:=by
     intro c hbw I hrr;refine Jw lb _ [] S.st a w L hmb h (show 0<S.N by omega) (λo' G=>J o' (by simp[G])) hskip ?_ t_ (λS' a' w' L' he hH hN' M=> ?_)
     .simp[bb.st,hb,KV.pv,hbw]
     .refine fin c S' a' w' L' (λx' hx'=>he x' λhmem=>hx' (wy _ _ hmem)) hH hN' M ?_ hrr
      rw[I];rfl
    rw[qah,List.cons_append];split at f
    .split at f
     .rename_i c I
      have hy:y= .Bp (.bool c):=by
       unfold ads at I;split at I
       .injection I with I;rw[I]
       .cases I
      rw[Qm]at f;obtain⟨v,hv,f⟩:=f
      cases b with
      |true=>exact m x v rfl hokx t_ hv f
      |false=>
       rw[Qb]at hv;injection hv with hv
       subst hv;exact l c rfl (by simpa using hy) f
     .cases f
    .split at f
     .rename_i c I
      have hx:x= .Bp (.bool c):=by
       unfold ads at I;split at I
       .injection I with I;rw[I]
       .cases I
      rw[Qm]at f;obtain⟨v,hv,f⟩:=f
      cases b with
      |false=>exact m y v rfl hoky t_ hv f
      |true=>
       rw[Qc]at hv;injection hv with hv
       subst hv;exact l c rfl (by simpa using hx) f
     .cases f
   .cases f
  .cases f
end
end
section
open Go.RowKit
def PV.xZ(p:Nat->Bool):PV->Bool
 | .own id _| .ptr id _ _| .fK id _ _ _ _| .view id _ _ _ _=>p id
 | .agg _| .ff _| .bJ _ _| .kP _ _=>false
 |_=>true
def PV.ss(p:Nat->Bool):PV->Bool
 | .agg cs| .ff cs| .bJ _ cs| .kP _ cs=>cs.all (PV.xZ p)
 |x=>x.xZ p
section
variable{w:Wo}
def bp.xZ{p:Nat->Bool}{M M':Nat->Prop}{G G':Gh}{x:PV}{v:Va}(q:x.xZ p=true)(r:∀b,M' b->M b)(g:∀id,p id=true->id<G'.N/\G'.V id=G.V id/\G'.L id=G.L id)(h:bp w M G x v):bp w M' G' x v:=by
 have hs:dp w w M M':=(dp.of λ_ s=>λo=>s (r _ o))
 cases h with
 |any=>exact .any _
 |undef=>exact .undef
 |int=>exact .int _ _
 |bool=>exact .bool _
 |iD=>exact .iD _
 |str=>exact .str _
 |nj=>exact .nj
 |eV=>exact .eV
 |bJ|kP|agg|ff=>simp[PV.xZ]at q
 |ptr id aw off a A f h=>obtain⟨h1,j,m⟩:=g id q;exact .ptr _ _ _ _ h1 (by rw[j];exact f) (λe=>by rw[m];exact h (by rw[e,j]))
 |ref cs ad vs t d h=>exact .ref cs ad vs t (λi u l=>⟨(d i u l).1,λo=>(d i u l).2 (r _ o)⟩) (λi p u g l=>(h i p u g l).mono hs (Gh.le.refl _))
 |sl es ad c k vs hk t d h D s=>exact .sl es ad c k vs hk t (λi u l=>⟨(d i u l).1,λo=>(d i u l).2 (r _ o)⟩) (λi p u g l=>(h i p u g l).mono hs (Gh.le.refl _)) D s
 |slnil=>exact .slnil
 |own id aw a n c A f h=>obtain⟨h1,j,m⟩:=g id q;exact .own _ _ _ _ _ h1 (by rw[j];exact f) (λe=>by rw[m];exact h (by rw[e,j]))
 |fK id aw k i off a A f h=>obtain⟨h1,j,m⟩:=g id q;exact .fK _ _ _ _ _ _ h1 (by rw[j];exact f) (λe=>by rw[m];exact h (by rw[e,j]))
 |view id aw k lo n a c A f h=>obtain⟨h1,j,m⟩:=g id q;exact .view _ _ _ _ _ _ _ h1 (by rw[j];exact f) (λe=>by rw[m];exact h (by rw[e,j]))
 |og ks us b es H F B hk hv g1 g2=>exact .og ks us b es H F (λo=>B (r _ o)) hk hv (λi p e g z=>(g1 i p e g z).mono hs (Gh.le.refl _)) (λi p e g z=>(g2 i p e g z).mono hs (Gh.le.refl _))
def bp.ss{p:Nat->Bool}{M M':Nat->Prop}{G G':Gh}{x:PV}{v:Va}(e:x.ss p=true)(k:∀b,M' b->M b)(j:∀id,p id=true->id<G'.N/\G'.V id=G.V id/\G'.L id=G.L id)(h:bp w M G x v):bp w M' G' x v:=by
 have go:∀{cs:Z PV} {vs:Z Va},cs.all (PV.xZ p)=true->bo w M G cs vs->bo w M' G' cs vs:=λl h=>⟨h.1,λi y v g hv=>(h.2 i y v g hv).xZ (Qn.1 l y (QL g)) k j⟩
 cases x with
 |agg cs=>obtain⟨vs,rfl,d⟩:=h.vr;have:=go (by simpa[PV.ss]using e) d;exact .agg _ _ this.1 this.2
 |ff cs=>obtain⟨vs,rfl,d⟩:=h.Is;have:=go (by simpa[PV.ss]using e) d;exact .ff _ _ this.1 this.2
 |bJ f cs=>obtain⟨vs,rfl,d⟩:=h.za;have:=go (by simpa[PV.ss]using e) d;exact .bJ _ _ _ this.1 this.2
 |kP f cs=>obtain⟨vs,rfl,d⟩:=h.VB;have:=go (by simpa[PV.ss]using e) d;exact .kP _ _ _ this.1 this.2
 |_=>exact h.xZ (by simpa[PV.ss]using e) k j
end
section
variable{U:TU}
def KV.xZ(p:Nat->Bool):KV U->Bool
 | .own id _| .ptr id _ _| .fK id _ _ _ _| .view id _ _ _ _=>p id
 | .agg _| .ff _| .bJ _ _| .kP _ _=>false
 |_=>true
def KV.ss(p:Nat->Bool):KV U->Bool
 | .agg cs| .ff cs| .bJ _ cs| .kP _ cs=>cs.all (KV.xZ p)
 |x=>x.xZ p
def ak7(p:Nat->Bool)(x:KV U):x.pv.xZ p=x.xZ p:=by cases x<;>simp[KV.pv,PV.xZ,KV.xZ]
def adF(p:Nat->Bool)(l:Z (KV U)):(l.map KV.pv).all (PV.xZ p)=l.all (KV.xZ p):=by
 induction l with
 |nil=>rfl
 |cons x l b=>simp only[Qy,Q3,ak7,b]
def SM(p:Nat->Bool)(x:KV U):x.pv.ss p=x.ss p:=by
 cases x with
 |agg cs|ff cs|bJ f cs|kP f cs=>simp only[KV.pv,PV.ss,KV.ss,KV.dm];exact adF p cs
 |_=>simp[KV.pv,PV.ss,KV.ss,PV.xZ,KV.xZ]
def eF.ss(p:Nat->Bool):eF U->Bool
 | .dead=>true
 | .box cs=>cs.all (KV.ss p)
 | .row _ _ _ _=>true
 | .raw _ _ es=>es.all λc=>c.all (KV.ss p)
inductive It (U:TU) where
 |val (t:Nat) (T:U.Ty)
 |own (t id aw e k:Nat) (T:U.Ty)
 |box (id aw:Nat) (T:U.Ty) (m:List (Nat×Nat×Nat))
 |eK (id aw e k:Nat) (T:U.Ty)
@[reducible] def It.den:It U->Type
 | .val _ T=>U.den T
 | .own _ _ _ _ _ T=>Z (U.den T)
 | .box _ _ T _=>U.den T
 | .eK _ _ _ _ T=>Z (U.den T)
@[reducible] def wF:Z (It U)->Type
 |[]=>Unit
 |i::l=>i.den×wF l
def FP:Z (Nat×Nat×Nat)->Z (KV U)->Z (KV U)
 |[],cs=>cs
 |(off,_,_)::m,cs=>FP m (cs.set off .eV)
def FW:Z (Nat×Nat×Nat)->Z (KV U)->Z (KV U)
 |[],cs=>cs
 |(off,id,aw)::m,cs=>(FW m cs).set off (.own id aw)
def Mn(S:bb U)(cs:Z (KV U)):Z (Nat×Nat×Nat)->Bool
 |[]=>true
 |(off,id,_)::m=>(match cs[off]? with|some (.own i v)=>Nat.beq i id&&Nat.beq v (S.H id).aw|_=>false)&&Mn S cs m
def Sg(cs:Z (KV U)):∀(m:Z (Nat×Nat×Nat)),(FW m cs).length=cs.length
 |[]=>rfl
 |(off,id,aw)::m=>by rw[FW,qan,Sg cs m]
def Jq:∀(m:Z (Nat×Nat×Nat)) (cs:Z (KV U)),(FP m cs).length=cs.length
 |[],_=>rfl
 |(off,id,aw)::m,cs=>by rw[FP,Jq m,qan]
def Sh(cs:Z (KV U)){i:Nat}{y:KV U}:∀(m:Z (Nat×Nat×Nat)),(FW m cs)[i]?=some y->(∃id aw,(i,id,aw)∈m/\y= .own id aw)\/((∀q∈m,q.1≠i)/\cs[i]?=some y)
 |[],h=> .inr ⟨t_,h⟩
 |(off,id,aw)::m,h=>by
  rw[FW,List.getElem?_set]at h;split at h
  .rename_i e;subst e;split at h
   .injection h with h
    exact .inl ⟨id,aw,QC,h.symm⟩
   .cases h
  .rename_i e;rcases Sh cs m h with⟨a,b,h1,f⟩|⟨h1,f⟩
   .exact .inl ⟨a,b,QI _ h1,f⟩
   .refine .inr ⟨λq d=> ?_,f⟩
    rcases Qv.1 d with rfl|d
    .exact e
    .exact h1 q d
def RT{i:Nat}:∀(m:Z (Nat×Nat×Nat)) (cs:Z (KV U)),(∀q∈m,q.1≠i)->(FP m cs)[i]?=cs[i]?
 |[],_,_=>rfl
 |(off,id,aw)::m,cs,h=>by rw[FP,RT m _ λq b=>h q (QI _ b),List.getElem?_set,Qg (h _ QC)]
def SU{S:bb U}{cs:Z (KV U)}{off id aw:Nat}:∀{m:Z (Nat×Nat×Nat)},Mn S cs m=true->(off,id,aw)∈m->cs[off]?=some (.own id (S.H id).aw)
 |[],_,h=>by cases h
 |(o,i,v)::m,hm,h=>by
  rw[Mn,Qi]at hm;rcases Qv.1 h with e|h
  .injection e with j d
   injection d with d g
   subst j d g;have b:=hm.1;split at b
   .rename_i k v' f;rw[Qi]at b;rw[f,Qp b.1,Qp b.2]
   .cases b
  .exact SU hm.2 h
variable(K:TK U)
def itK(S:bb U):(i:It U)->Y i.den
 | .val t T=>G1 K vh T (S.env t)
 | .own t id aw e k T=>(match S.env t with
  | .own b v=>(match Nat.beq b id with
   |true=>(match S.row? b v with
    |some r=>(match Nat.beq r.e e&&Nat.beq r.k k&&(Nat.blt 0 aw||Nat.beq v 0)with|true=>DA r.T T r.xs|false=>none)
    |none=>none)
   |false=>none)
  |_=>none)
 | .box id aw T m=>(match S.xk id aw with
  |some cs=>(match Mn S cs m with|true=>K.dec T vh (FP m cs)|false=>none)
  |none=>none)
 | .eK id aw e k T=>(match(S.H id).c with
  | .row d k' f xs=>(match Nat.beq d e&&Nat.beq k' k&&(Nat.blt 0 aw||Nat.beq (S.H id).aw 0)with|true=>DA f T xs|false=>none)
  |_=>none)
def pack(S:bb U):(l:Z (It U))->Y (wF l)
 |[]=>some ()
 |i::l=>(match itK K S i with
  |some v=>(match pack S l with|some vs=>some (v,vs)|none=>none)
  |none=>none)
def HM(S:bb U):(i:It U)->i.den->bb U
 | .val t T,v=>{env:=jd S.env t (CK K T v),H:=S.H,N:=S.N}
 | .own t id aw e k T,xs=>{env:=jd S.env t (.own id aw),H:=jd S.H id ⟨aw,.row e k T xs⟩,N:=S.N}
 | .box id aw T m,v=>{env:=S.env,H:=jd S.H id ⟨aw,.box (FW m (K.gu T v))⟩,N:=S.N}
 | .eK id aw e k T,xs=>{env:=S.env,H:=jd S.H id ⟨aw,.row e k T xs⟩,N:=S.N}
def yR(S:bb U):(l:Z (It U))->wF l->bb U
 |[],_=>S
 |i::l,v=>HM K (yR S l v.2) i v.1
structure JS (U:TU) where
 items:List (It U)
 fg:List Nat
def bb.base(S:bb U)(fg:Z Nat):bb U:=
 {env:=λt=>(match je t fg with|true=>S.env t|false=> .any),H:=λid=>(match Nat.blt id S.N with|true=>S.H id|false=>⟨0,.dead⟩),N:=S.N}
def unpack(S:bb U)(J:JS U)(v:wF J.items):bb U:=yR K (S.base J.fg) J.items v
def It.aK:It U->Y Nat
 | .val t _| .own t _ _ _ _ _=>some t
 | .box _ _ _ _| .eK _ _ _ _ _=>none
def It.id:It U->Y Nat
 | .val _ _=>none
 | .own _ id _ _ _ _| .box id _ _ _| .eK id _ _ _ _=>some id
def It.okv:It U->Bool
 | .own _ _ _ _ _ _| .eK _ _ _ _ _=>true
 |_=>true
def It.row:It U->Y Nat
 | .own _ id aw _ _ _| .eK id aw _ _ _=>(match aw with|0=>none|_+1=>some id)
 |_=>none
def It.isRow(id aw:Nat):It U->Bool
 | .eK d b _ _ _| .own _ d b _ _ _=>Nat.beq d id&&Nat.beq b aw
 |_=>false
def TN(id aw:Nat):Z (It U)->Bool
 |[]=>false
 |i::l=>i.isRow id aw||TN id aw l
def It.okm(l:Z (It U)):It U->Bool
 | .box _ _ _ m=>m.all λq=>TN q.2.1 q.2.2 l
 |_=>true
def TM{id aw:Nat}:∀{l:Z (It U)},TN id aw l=true->(∃e k T,(It.eK id aw e k T)∈l)\/∃t e k T,(It.own t id aw e k T)∈l
 |[],h=>by cases h
 |i::l,h=>by
  rw[TN,QR]at h;rcases h with h|h
  .cases i with
   |eK d b e k T=>simp only[It.isRow,Qi]at h;rw[Qp h.1,Qp h.2];exact .inl ⟨e,k,T,QC⟩
   |own t d b e k T=>simp only[It.isRow,Qi]at h;rw[Qp h.1,Qp h.2];exact .inr ⟨t,e,k,T,QC⟩
   |_=>cases h
  .rcases TM h with⟨e,k,T,h⟩|⟨t,e,k,T,h⟩
   .exact .inl ⟨e,k,T,QI _ h⟩
   .exact .inr ⟨t,e,k,T,QI _ h⟩
def gm:Z (It U)->Z Nat
 |[]=>[]
 |i::l=>(match i.id with|some id=>id::gm l|none=>gm l)
def rowsOf:Z (It U)->Z Nat
 |[]=>[]
 |i::l=>(match i.row with|some id=>id::rowsOf l|none=>rowsOf l)
def slotsOf:Z (It U)->Z Nat
 |[]=>[]
 |i::l=>(match i.aK with|some id=>id::slotsOf l|none=>slotsOf l)
def BR:Z Nat->Bool
 |[]=>true
 |x::l=> !je x l&&BR l
def Je:Nat->(Nat->Bool)->Bool
 |0,_=>true
 |n+1,p=>Je n p&&p n
def Fq{p:Nat->Bool}:∀{n:Nat},Je n p=true->∀i,i<n->p i=true
 |0,_,i,hi=>absurd hi (qbK _)
 |n+1,h,i,hi=>by
  simp only[Je,Qi]at h
  by_cases e:i=n
  .rw[e];exact h.2
  .exact Fq h.1 i O
def yt(S:bb U)(J:JS U)(F:Z Nat)(W:WS):Bool:=
 let b:=gm J.items
 let d:=rowsOf J.items
 let p:=λid=>Nat.blt id S.N&& !je id d
 BR b&&b.all (λid=>Nat.blt id S.N&&okW W id)&&(J.items.all It.okv&&J.items.all (It.okm J.items))&&J.fg.all (λt=>(S.env t).ss p&& !je t (slotsOf J.items))&&Je S.N (λid=>je id b||(S.H id).c.ss p)
  &&F.all (λt=>je t J.fg)&&(match W with|some (n,_)=>Nat.ble n S.N|none=>false)
def BQ:(l:Z (It U))->wF l->Z (Sigma (It.den (U:=U)))
 |[],_=>[]
 |i::l,v=>⟨i,v.1⟩::BQ l v.2
variable{K}
def Sw{S:bb U}:∀{l:Z (It U)} {v:wF l},pack K S l=some v->∀p∈BQ l v,itK K S p.1=some p.2
 |[],v,h,p,b=>by cases b
 |i::l,v,h,p,b=>by
  rw[pack]at h;split at h
  .rename_i v1 e;split at h
   .rename_i vs d;injection h with h
    subst h;rcases Qv.1 b with rfl|b
    .exact e
    .exact Sw d p b
   .cases h
  .cases h
def kvI:(i:It U)->i.den->KV U
 | .val _ T,v=>CK K T v
 | .own _ id aw _ _ _,_=> .own id aw
 | .box _ _ _ _,_| .eK _ _ _ _ _,_=> .any
def YC:(i:It U)->i.den->dJ U
 | .val _ _,_=>⟨0,.dead⟩
 | .own _ _ aw e k T,xs=>⟨aw,.row e k T xs⟩
 | .box _ aw T m,v=>⟨aw,.box (FW m (K.gu T v))⟩
 | .eK _ aw e k T,xs=>⟨aw,.row e k T xs⟩
def agd(S:bb U)(i:It U)(v:i.den)(t:Nat):(i.aK=some t/\(HM K S i v).env t=kvI (K:=K) i v)\/(i.aK≠some t/\(HM K S i v).env t=S.env t):=by
 cases i with
 |val b T|own b id aw d k T=>
  by_cases e:b=t
  .subst e;left;exact⟨rfl,by simp only[HM,eC];exact cJ _ _ _⟩
  .right;exact⟨by simpa[It.aK]using e,by simp only[HM,eC];exact du _ _ (λh=>e h.symm)⟩
 |box id aw T m|eK id aw e k T=>right;exact⟨by simp[It.aK],rfl⟩
def Ys(S:bb U)(i:It U)(v:i.den)(id:Nat):(i.id=some id/\(HM K S i v).H id=YC (K:=K) i v)\/(i.id≠some id/\(HM K S i v).H id=S.H id):=by
 cases i with
 |val d T=>right;exact⟨by simp[It.id],rfl⟩
 |own d b aw f k T|box b aw T m|eK b aw f k T=>
  by_cases e:b=id
  .subst e;left;exact⟨rfl,by simp only[HM,eC];exact cJ _ _ _⟩
  .right;exact⟨by simpa[It.id]using e,by simp only[HM,eC];exact du _ _ (λh=>e h.symm)⟩
def akK(S:bb U)(i:It U)(v:i.den):(HM K S i v).N=S.N:=by cases i<;>rfl
def IC(S:bb U):∀(l:Z (It U)) (v:wF l),(yR K S l v).N=S.N
 |[],_=>rfl
 |i::l,v=>by rw[yR,akK,IC S l]
def wZ{id:Nat}:∀{l:Z (It U)} {i:It U},i∈l->i.id=some id->id∈gm l
 |j::l,i,hi,h=>by
  simp only[gm];rcases Qv.1 hi with rfl|hi
  .rw[h];exact QC
  .have:=wZ hi h;split
   .exact QI _ this
   .exact this
def PZ{id:Nat}:∀{l:Z (It U)} {i:It U},i∈l->i.row=some id->id∈rowsOf l
 |j::l,i,hi,h=>by
  simp only[rowsOf];rcases Qv.1 hi with rfl|hi
  .rw[h];exact QC
  .have:=PZ hi h;split
   .exact QI _ this
   .exact this
def Hh{id:Nat}:∀{l:Z (It U)} {i:It U},i∈l->i.aK=some id->id∈slotsOf l
 |j::l,i,hi,h=>by
  simp only[slotsOf];rcases Qv.1 hi with rfl|hi
  .rw[h];exact QC
  .have:=Hh hi h;split
   .exact QI _ this
   .exact this
def nv:∀{l:Z (It U)} {v:wF l} {p:Sigma (It.den (U:=U))},p∈BQ l v->p.1∈l
 |i::l,v,p,b=>by
  rcases Qv.1 b with rfl|b
  .exact QC
  .exact QI _ (nv b)
def P4:∀{l:Z (It U)} {v:wF l} {i:It U},i∈l->∃d,(⟨i,d⟩:Sigma (It.den (U:=U)))∈BQ l v
 |j::l,v,i,hi=>by
  rcases Qv.1 hi with rfl|hi
  .exact⟨v.1,QC⟩
  .obtain⟨d,b⟩:=P4 (v:=v.2) hi;exact⟨d,QI _ b⟩
def DI(S:bb U):∀(l:Z (It U)) (v:wF l) (t:Nat),(∃p∈BQ l v,p.1.aK=some t/\(yR K S l v).env t=kvI (K:=K) p.1 p.2)\/(t∉slotsOf l/\(yR K S l v).env t=S.env t)
 |[],v,t=> .inr ⟨by simp[slotsOf],rfl⟩
 |i::l,v,t=>by
  rcases agd (K:=K) (yR K S l v.2) i v.1 t with⟨h1,d⟩|⟨h1,d⟩
  .exact .inl ⟨⟨i,v.1⟩,QC,h1,d⟩
  .rcases DI S l v.2 t with⟨p,g,b,f⟩|⟨b,f⟩
   .exact .inl ⟨p,QI _ g,b,d.trans f⟩
   .refine .inr ⟨?_,d.trans f⟩;simp only[slotsOf];split
    .rename_i s hs;simp only[Qv,qaF];exact⟨λe=>h1 (by rw[hs,e]),b⟩
    .exact b
def ID(S:bb U):∀(l:Z (It U)) (v:wF l) (id:Nat),BR (gm l)=true->(∃p∈BQ l v,p.1.id=some id/\(yR K S l v).H id=YC (K:=K) p.1 p.2)\/(id∉gm l/\(yR K S l v).H id=S.H id)
 |[],v,t,_=> .inr ⟨by simp[gm],rfl⟩
 |i::l,v,id,b=>by
  have g:BR (gm l)=true:=by
   simp only[gm]at b;split at b
   .simp only[BR,Qi]at b;exact b.2
   .exact b
  rcases Ys (K:=K) (yR K S l v.2) i v.1 id with⟨h1,f⟩|⟨h1,f⟩
  .exact .inl ⟨⟨i,v.1⟩,QC,h1,f⟩
  .rcases ID S l v.2 id g with⟨p,j,d,h⟩|⟨d,h⟩
   .exact .inl ⟨p,QI _ j,d,f.trans h⟩
   .refine .inr ⟨?_,f.trans h⟩;simp only[gm];split
    .rename_i s hs;simp only[Qv,qaF];exact⟨λe=>h1 (by rw[hs,e]),d⟩
    .exact d
def He(S:bb U):∀(l:Z (It U)) (v:wF l),BR (gm l)=true->∀p∈BQ l v,∀id,p.1.id=some id->(yR K S l v).H id=YC (K:=K) p.1 p.2
 |[],v,_,p,e=>by cases e
 |i::l,v,b,p,e=>by
  intro id d
  have g:BR (gm l)=true:=by
   simp only[gm]at b;split at b
   .simp only[BR,Qi]at b;exact b.2
   .exact b
  rcases Qv.1 e with rfl|e
  .rcases Ys (K:=K) (yR K S l v.2) i v.1 id with⟨h1,f⟩|⟨h1,f⟩
   .exact f
   .exact absurd d h1
  .rcases Ys (K:=K) (yR K S l v.2) i v.1 id with⟨h1,f⟩|⟨h1,f⟩
   .exfalso;simp only[gm,h1,BR,Qi,qad]at b;exact uv b.1 (wZ (nv e) d)
   .exact f.trans (He S l v.2 g p e id d)
def Ue(S:bb U)(fg:Z Nat):(S.base fg).N=S.N:=rfl
def KB{S:bb U}{fg:Z Nat}{t:Nat}:(S.base fg).env t=if t∈fg then S.env t else .any:=by
 simp only[bb.base];split
 .rename_i h;rw[Qe (eD.1 h)]
 .rename_i h;rw[Qg (uv h)]
def Uf{S:bb U}{fg:Z Nat}{id:Nat}:(S.base fg).H id=if id<S.N then S.H id else⟨0,.dead⟩:=by
 simp only[bb.base];split
 .rename_i h;rw[Qe (show id<S.N from QS h)]
 .rename_i h;rw[Qg];intro b;have:Nat.blt id S.N=true:=qa7 b;rw[this]at h;cases h
def js.rep{w:Wo}{M:Nat->Prop}{G:Gh}{xs:Z (KV U)}{b:Z PV}(h:js vh xs b):∀{vs:Z Va},bo w M G (xs.map KV.pv) vs->bo w M G b vs:=by
 induction h with
 |nil=>intro vs h;exact h
 |cons g _ e=>
  intro vs h;obtain⟨v,d,rfl,h1,i⟩:=bo.cons_inv h;refine bo.cons ?_ (e i)
  cases g with
  |eV=>rw[KV.pv]at h1;rw[h1.wc];exact .slnil
  |own _ _ _ _ f=>cases f
  |_=>simpa[KV.pv]using h1
def rn.rep{w:Wo}{M:Nat->Prop}{G:Gh}{x:KV U}{y:PV}(e:rn vh x y){v:Va}(b:bp w M G x.pv v):bp w M G y v:=by
 cases e with
 |eV=>rw[KV.pv]at b;rw[b.wc];exact .slnil
 |own _ _ _ _ d=>cases d
 |_=>simpa[KV.pv]using b
def js.len{lk:Lk U}{xs:Z (KV U)}{b:Z PV}(h:js lk xs b):xs.length=b.length:=by
 induction h with
 |nil=>rfl
 |cons _ _ d=>rw[QN,QN,d]
def js.get{lk:Lk U}{xs:Z (KV U)}{e:Z PV}(h:js lk xs e):∀{i:Nat} {x:KV U} {y:PV},xs[i]?=some x->e[i]?=some y->rn lk x y:=by
 induction h with
 |nil=>intro i x y h;simp at h
 |cons g _ f=>
  intro i x y d b
  cases i with
  |zero=>simp only[List.getElem?_cons_zero,Qk]at d b;subst d b;exact g
  |succ i=>exact f (by simpa using d) (by simpa using b)
def ad2{w:Wo}{M:Nat->Prop}{G:Gh}{T:U.Ty}{x:KV U}{d:U.den T}{v:Va}(h:G1 K vh T x=some d)(r:bp w M G x.pv v):bp w M G (fo T d) v:=by
 unfold G1 at h;unfold fo;split at h
 .split at h
  .rename_i cs;rw[KV.pv,KV.dm]at r;obtain⟨vs,rfl,f⟩:=r.vr;have:=(K.qT _ _ _ _ h).rep f;exact .agg _ _ this.1 this.2
  .cases h
 .rename_i k;have i:=K.qT _ _ _ _ h;have j:bo w M G ([x].map KV.pv) [v]:= .cons r .nil;have b:=i.rep j;generalize U.pv T d=e at b;obtain⟨g,b⟩:=b
  cases e with
  |nil=>simp at g
  |cons y l=>exact b 0 y v rfl rfl
def Rel.meet{s G:bb U}{J:JS U}{F:Z Nat}{W:WS}(hchk:yt s J F W=true){v:wF J.items}(hp:pack K G J.items=some v)
  (hk:∀t∈J.fg,G.env t=s.env t) (hH:∀id,id<s.N->id∉gm J.items->G.H id=s.H id) (hN:s.N<=G.N)
  {E:En} {a:Act} {w:Wo} {L:Nat->Va} (h:Rel E G.st a w L):Rel E (unpack K s J v).st a w L:=by
 simp only[yt,Qi,Qn]at hchk;obtain⟨⟨⟨⟨⟨⟨hnd,hids⟩,hokv,hokm⟩,hkeep⟩,hobj⟩,hF⟩,hW⟩:=hchk;have hpk:=Sw hp;have I:(unpack K s J v).N=s.N:=by rw[unpack,IC,Ue]
 have hlt:∀id∈gm J.items,id<s.N:=λid q=>QS (hids id q).1
 have hHc:∀id,(∃p∈BQ J.items v,p.1.id=some id/\(unpack K s J v).H id=YC (K:=K) p.1 p.2)\/(id∉gm J.items/\(unpack K s J v).H id=if id<s.N then s.H id else⟨0,.dead⟩):=by
  intro id;rcases ID (K:=K) (s.base J.fg) J.items v id hnd with h1|⟨h1,A⟩
  .exact .inl h1
  .exact .inr ⟨h1,A.trans Uf⟩
 have hrow:∀t id aw e k T (xs:Z (U.den T)),(⟨.own t id aw e k T,xs⟩:Sigma (It.den (U:=U)))∈BQ J.items v->G.env t= .own id (G.H id).aw/\(G.H id).c= .row e k T xs/\(aw=0->(G.H id).aw=0):=by
  intro t id aw e k T xs g;have:=hpk _ g;simp only[itK]at this;split at this
  .rename_i B v' he;split at this
   .rename_i q;have q:=Qp q;subst q;split at this
    .rename_i r hr;obtain⟨h1,A⟩:=Hb hr;split at this
     .rename_i H;rw[Qi,Qi,QR]at H;obtain⟨re,rk,rT,rxs⟩:=r;obtain⟨eT,hxs⟩:=rC this;simp only at eT hxs A H;subst eT;refine⟨by rw[he,h1],by rw[A,hxs,Qp H.1.1,Qp H.1.2],λhz=> ?_⟩
      rcases H.2 with h9|h9
      .rw[hz]at h9;cases h9
      .rw[h1];exact Qp h9
     .cases this
    .cases this
   .cases this
  .cases this
 have hbox:∀id aw T m (d:U.den T),(⟨.box id aw T m,d⟩:Sigma (It.den (U:=U)))∈BQ J.items v->(G.H id).aw=aw/\∃cs,(G.H id).c= .box cs/\Mn G cs m=true/\js vh (FP m cs) (U.pv T d):=by
  intro id aw T m d g;have:=hpk _ g;simp only[itK]at this;split at this
  .rename_i cs hcs;obtain⟨h1,A⟩:=Ea hcs;split at this
   .rename_i hmk;exact⟨h1,cs,A,hmk,K.qT _ _ _ _ this⟩
   .cases this
  .cases this
 have N:∀id aw e k T (xs:Z (U.den T)),(⟨.eK id aw e k T,xs⟩:Sigma (It.den (U:=U)))∈BQ J.items v->(G.H id).c= .row e k T xs/\(aw=0->(G.H id).aw=0):=by
  intro id aw e k T xs g;have:=hpk _ g;simp only[itK]at this;split at this
  .rename_i e' k' T' ys hc;split at this
   .rename_i H;rw[Qi,Qi,QR]at H;obtain⟨eT,hxs⟩:=rC this;subst eT;refine⟨by rw[hc,hxs,Qp H.1.1,Qp H.1.2],λhz=> ?_⟩
    rcases H.2 with h9|h9
    .rw[hz]at h9;cases h9
    .exact Qp h9
   .cases this
  .cases this
 have D:∀id,id<s.N->((unpack K s J v).st.H id).c.live=true->(G.st.H id).c.live=true:=by
  intro id q hl;rcases hHc id with⟨⟨i,d⟩,g,h1,A⟩|⟨h1,A⟩
  .cases i with
   |val t T=>cases h1
   |own t B aw e k T=>simp only[It.id,Qk]at h1;subst h1;have:=(hrow _ _ _ _ _ _ _ g).2.1;simp only[bb.st,dJ.pv,this,eF.pv];rfl
   |box B aw T m=>simp only[It.id,Qk]at h1;subst h1;obtain⟨_,cs,h3,_,_⟩:=hbox _ _ _ _ _ g;simp only[bb.st,dJ.pv,h3,eF.pv];rfl
   |eK B aw e k T=>simp only[It.id,Qk]at h1;subst h1;have:=(N _ _ _ _ _ _ g).1;simp only[bb.st,dJ.pv,this,eF.pv];rfl
  .rw[Qe q]at A;simp only[bb.st]at hl ⊢;rw[A,<-hH id q h1]at hl;exact hl
 have hM:∀b,bn E (unpack K s J v).st L b->bn E G.st L b:=by
  rintro b (⟨id,q,hl,hb⟩|hb)
  .have o:id<s.N:=by simpa only[bb.st,I]using q
   exact .inl ⟨id,QW o hN,D id o hl,hb⟩
  .exact .inr hb
 have hpok:∀id,(Nat.blt id s.N&& !je id (rowsOf J.items))=true->id<((unpack K s J v).st.gh L).N/\((unpack K s J v).st.gh L).V id=(G.st.gh L).V id/\((unpack K s J v).st.gh L).L id=(G.st.gh L).L id:=by
  intro id q;simp only[Qi,qad]at q;have hid1:id<s.N:=QS q.1;refine⟨by simpa only[St.gh,bb.st,I]using hid1,?_,rfl⟩
  simp only[St.gh,bb.st,dJ.pv];rcases hHc id with⟨⟨i,d⟩,g,h1,A⟩|⟨h1,A⟩
  .cases i with
   |val t T=>cases h1
   |own t B aw e k T=>
    simp only[It.id,Qk]at h1;subst h1
    cases aw with
    |zero=>rw[A];exact((hrow _ _ _ _ _ _ _ g).2.2 rfl).symm
    |succ n=>exact absurd (PZ (nv g) rfl) (uv q.2)
   |box B aw T m=>simp only[It.id,Qk]at h1;subst h1;rw[A];exact(hbox _ _ _ _ _ g).1.symm
   |eK B aw e k T=>
    simp only[It.id,Qk]at h1;subst h1
    cases aw with
    |zero=>rw[A];exact((N _ _ _ _ _ _ g).2 rfl).symm
    |succ n=>exact absurd (PZ (nv g) rfl) (uv q.2)
  .rw[Qe hid1]at A;rw[A,hH id hid1 h1]
 refine⟨h.defers,h.size,λt=> ?_,λid q=> ?_,λi j b hi hj hli hlj hbi hbj=> ?_,λid q=> ?_,h.fr,λhb hlv hvr=> ?_,h.an.1.trans (.of λb hn hm=>hn (hM b hm)),λid b q hl hb hr=>(have o:id<s.N:=(by simpa only[bb.st,I]using q);h.an.2.1 id b (QW o hN) (D id o hl) hb hr),λb hH=>⟨(h.an.2.2 b hH).1,(h.an.2.2 b hH).2.1,λid q hl=>(have o:id<s.N:=(by simpa only[bb.st,I]using q);(h.an.2.2 b hH).2.2 id (QW o hN) (D id o hl))⟩⟩
 .show bp _ _ _ (((unpack K s J v).env t).pv) _;rcases DI (K:=K) (s.base J.fg) J.items v t with⟨⟨i,d⟩,g,h1,A⟩|⟨_,A⟩
  .rw[show(unpack K s J v).env t=_ from A]
   cases i with
   |val t' T=>
    simp only[It.aK,Qk]at h1;subst h1;simp only[kvI,Fv];have h3:=hpk _ g;simp only[itK]at h3;have h4:=ad2 h3 (h.env t')
    have hg:(fo T d).ss (λ_=>false)=true:=by
     have:=Eg K d;have V:=KP K d
     cases hv:fo T d with
     |agg cs=>
      simp only[PV.ss];refine Qn.2 λy hy=> ?_
      cases ha:U.agg T with
      |true=>
       rw[Bf d ha]at hv;injection hv with hv
       rw[<-hv]at hy;have:=K.gJ T d y hy;cases y<;>first|rfl|cases this
      |false=>obtain⟨y0,h6,R⟩:=yO K d ha;have h8:=K.gJ T d y0 R;rw[<-h6,hv]at h8;cases h8
     |ff cs=>exact absurd hv (V cs)
     |bJ f cs=>
      exfalso
      cases ha:U.agg T with
      |true=>rw[Bf d ha]at hv;cases hv
      |false=>obtain⟨y,h6,R⟩:=yO K d ha;have h8:=K.gJ T d y R;rw[<-h6,hv]at h8;cases h8
     |_=>rw[hv]at this;first|rfl|cases this
    exact h4.ss hg hM (λid q=>by cases q)
   |own t' id aw e k T=>
    simp only[It.aK,Qk]at h1;subst h1;obtain⟨h3,h4,_⟩:=hrow _ _ _ _ _ _ _ g;have V:=h.env t';have h6:G.st.env t'= .own id (G.st.H id).aw:=by simp only[bb.st,h3,KV.pv,dJ.pv]
    rw[h6]at V;obtain⟨R,h8⟩:=V.pR (show(G.st.gh L).V id=_ from rfl)
    have hidlt:=hlt id (wZ (nv g) rfl);have h9:=He (K:=K) (s.base J.fg) J.items v hnd _ g id rfl;simp only[kvI,KV.pv]
    have hsl:∃ad n c,a.tmps.getD t' undef= .slice ad n c:=by
     generalize a.tmps.getD t' undef=vv at V
     cases V with
     |own _ _ ad n c _ _ _=>exact⟨ad,n,c,rfl⟩
    obtain⟨ad,n,c,hv⟩:=hsl;rw[hv]at h8 ⊢;refine .own _ _ _ _ _ (by simpa only[St.gh,bb.st,I]using hidlt) ?_ (λ_=>h8)
    simp only[St.gh,bb.st,dJ.pv,show(unpack K s J v).H id=_ from h9,YC]
    exact Qs _
   |box id aw T m|eK id aw e k T=>cases h1
  .rw[show(unpack K s J v).env t=_ from A,KB]
   split
   .rename_i ht;have h3:=(hkeep t ht).1;rw[<-SM]at h3;refine bp.ss h3 hM hpok ?_;have:=h.env t;simp only[bb.st,hk t ht]at this;exact this
   .exact .any _
 .have o:id<s.N:=by simpa only[bb.st,I]using q
  show tZ _ _ _ _ _ (((unpack K s J v).H id).c.pv);rcases hHc id with⟨⟨i,d⟩,g,h1,A⟩|⟨h1,A⟩
  .rw[A]
   cases i with
   |val t T=>cases h1
   |own t B aw e k T=>
    simp only[It.id,Qk]at h1;subst h1;have h3:=(hrow _ _ _ _ _ _ _ g).2.1;have h4:(G.st.H B).c= .row e k (d.map (U.pv T)):=by simp only[bb.st,dJ.pv,h3,eF.pv]
    obtain⟨vs,V,h6,R⟩:=h.mR (QW o hN) h4;refine⟨vs,V,h6,bo.closed ?_ hM R⟩;refine Qn.2 λy hy=> ?_
    obtain⟨u,hu,hyu⟩:=List.mem_flatten.1 hy;obtain⟨x,_,rfl⟩:=QO.1 hu;exact iE (K.gJ T x y hyu)
   |box B aw T m=>
    simp only[It.id,Qk]at h1;subst h1;obtain⟨_,cs,h3,hmk,hcs⟩:=hbox _ _ _ _ _ g;have h4:(G.st.H B).c= .box (cs.map KV.pv):=by simp only[bb.st,dJ.pv,h3,eF.pv]
    obtain⟨b,cur,T',V,h6,R,h8⟩:=h.tV (QW o hN) h4;refine⟨b,cur,T',V,h6,h8,?_,λi y u hy hu=> ?_⟩
    .have e1:=qag List.length (K.wO T d);rw[QD]at e1;rw[QD,Sg,e1,<-hcs.len,Jq,R.1,QD]
    .rw[QG,Qq]at hy;obtain⟨z,hz,rfl⟩:=hy;rcases Sh _ m hz with⟨M,rver,hmm,rfl⟩|⟨hnm,hz⟩
     .have hci:=SU hmk hmm;have h9:=R.2 i _ u (by rw[QG,hci];rfl) hu
      rw[KV.pv]at h9;obtain⟨h10,h11⟩:=h9.pR (show(G.st.gh L).V M=_ from rfl)
      have hmi:(It.box B aw T m)∈J.items:=nv g
      obtain⟨hridlt,hrver⟩:M<s.N/\((unpack K s J v).H M).aw=rver:=by
       rcases TM (Qn.1 (hokm _ hmi) _ hmm)with⟨e,k,T2,hrm⟩|⟨t2,e,k,T2,hrm⟩
       .obtain⟨d2,hd2⟩:=P4 (v:=v) hrm;have h12:=He (K:=K) (s.base J.fg) J.items v hnd _ hd2 M rfl;exact⟨hlt M (wZ hrm rfl),by rw[show(unpack K s J v).H M=_ from h12];rfl⟩
       .obtain⟨d2,hd2⟩:=P4 (v:=v) hrm;have h12:=He (K:=K) (s.base J.fg) J.items v hnd _ hd2 M rfl;exact⟨hlt M (wZ hrm rfl),by rw[show(unpack K s J v).H M=_ from h12];rfl⟩
      have hsl:∃ad n c,u= .slice ad n c:=by
       cases h9 with
       |own _ _ ad n c _ _ _=>exact⟨ad,n,c,rfl⟩
      obtain⟨ad,n,c,hv⟩:=hsl;rw[hv]at h11 ⊢;rw[KV.pv];refine .own _ _ _ _ _ (by simpa only[St.gh,bb.st,I]using hridlt) ?_ (λ_=>h11)
      simp only[St.gh,bb.st,dJ.pv,hrver];exact Qs _
     .have hzp:(U.pv T d)[i]?=some z.pv:=by rw[<-K.wO,QG,hz];rfl
      have hil:i<cs.length:=by have:=(QH.1 hzp).1;rw[<-hcs.len,Jq]at this;exact this
      have hci:cs[i]?=some cs[i]:=Qj hil;have hck:=hcs.get (by rw[RT m cs hnm];exact hci) hzp
      have h9:=R.2 i _ u (by rw[QG,hci];rfl) hu
      exact(hck.rep h9).closed (iE (K.gJ T d _ (QL hzp))) hM
   |eK B aw e k T=>
    simp only[It.id,Qk]at h1;subst h1;have h3:=(N _ _ _ _ _ _ g).1;have h4:(G.st.H B).c= .row e k (d.map (U.pv T)):=by simp only[bb.st,dJ.pv,h3,eF.pv]
    obtain⟨vs,V,h6,R⟩:=h.mR (QW o hN) h4;refine⟨vs,V,h6,bo.closed ?_ hM R⟩;refine Qn.2 λy hy=> ?_
    obtain⟨u,hu,hyu⟩:=List.mem_flatten.1 hy;obtain⟨x,_,rfl⟩:=QO.1 hu;exact iE (K.gJ T x y hyu)
  .rw[A,Qe o,<-hH id o h1];have ho:=h.obj id (QW o hN);have hc:=Fq hobj id o;rw[QR]at hc;have hc:=hc.resolve_left (λe=>h1 (eD.1 e))
   rw[<-hH id o h1]at hc
   change tZ _ _ _ _ _ ((G.H id).c.pv)at ho
   cases hcc:(G.H id).c with
   |dead=>trivial
   |box cs=>
    rw[hcc]at ho hc;obtain⟨b,cur,T',V,h6,R,h8⟩:=ho;refine⟨b,cur,T',V,h6,R,h8.1,λi y u hy hu=> ?_⟩
    simp only[eF.ss,Qn]at hc;rw[QG,Qq]at hy;obtain⟨z,hz,rfl⟩:=hy;refine bp.ss (by rw[SM];exact hc z (QL hz)) hM hpok (h8.2 i z.pv u (by rw[QG,hz];rfl) hu)
   |raw e k es=>
    rw[hcc]at ho hc;obtain⟨vs,V,h6,R⟩:=ho;refine⟨vs,V,h6,R.1,λi y u hy hu=> ?_⟩
    simp only[eF.ss,Qn]at hc;obtain⟨l,hl,hyl⟩:=List.mem_flatten.1 (QL hy);obtain⟨c,hcm,rfl⟩:=QO.1 hl;obtain⟨z,hz,rfl⟩:=QO.1 hyl;exact bp.ss (by rw[SM];exact hc c hcm z hz) hM hpok (R.2 i _ u hy hu)
   |row e k T xs=>
    rw[hcc]at ho;obtain⟨vs,V,h6,R⟩:=ho;refine⟨vs,V,h6,bo.closed ?_ hM R⟩;refine Qn.2 λy hy=> ?_
    obtain⟨u,hu,hyu⟩:=List.mem_flatten.1 hy;obtain⟨x,_,rfl⟩:=QO.1 hu;exact iE (K.gJ T x y hyu)
 .have hi':i<s.N:=by simpa only[bb.st,I]using hi
  have hj':j<s.N:=by simpa only[bb.st,I]using hj
  exact h.apart i j b (QW hi' hN) (QW hj' hN) (D i hi' hli) (D j hj' hlj) hbi hbj
 .have o:s.N<=id:=by simpa only[bb.st,I]using q
  rcases hHc id with⟨⟨i,d⟩,g,h1,A⟩|⟨h1,A⟩
  .have:=hlt id (wZ (nv g) h1);omega
  .rw[Qg O]at A;simp only[bb.st,A,dJ.pv,eF.pv]
 .by_cases h0:0<s.N
  .refine h.CB hb (D 0 h0 hlv) ?_;simp only[bb.st,dJ.pv]at hvr ⊢;rcases hHc 0 with⟨⟨i,d⟩,g,h1,A⟩|⟨h1,A⟩
   .rw[A]at hvr
    cases i with
    |val t T=>cases h1
    |own t B aw e k T=>simp only[It.id,Qk]at h1;subst h1;exact(hrow _ _ _ _ _ _ _ g).2.2 hvr
    |box B aw T m=>simp only[It.id,Qk]at h1;subst h1;rw[(hbox _ _ _ _ _ g).1];exact hvr
    |eK B aw e k T=>simp only[It.id,Qk]at h1;subst h1;exact(N _ _ _ _ _ _ g).2 hvr
   .rw[Qe h0]at A;rw[hH 0 h0 h1,<-A];exact hvr
  .rcases hHc 0 with⟨⟨i,d⟩,g,h1,A⟩|⟨h1,A⟩
   .exact absurd (hlt 0 (wZ (nv g) h1)) h0
   .rw[Qg h0]at A;simp only[bb.st,dJ.pv,A,eF.pv]at hlv;cases hlv
end
section
variable{U:TU}
def acu(S:bb U):RV->Y (KV U)
 | .tmp t=>some (S.env t)
 | .cell t n=>(match S.env t with
  | .ptr id aw off=>(match S.xk id aw with|some cs=>Ms n (cs.drop off)|none=>none)
  |_=>none)
def XB(S:bb U):Z RV->Y (Z (KV U))
 |[]=>some []
 |r::b=>(match acu S r with
  |some x=>(match XB S b with|some xs=>some (x::xs)|none=>none)
  |none=>none)
def aki:Z (KV U)->KV U
 |[x]=>x
 |xs=> .ff xs
def BG(S:bb U)(b:Z RV):Y (KV U):=
 match XB S b with
 |some xs=>some (aki xs)
 |none=>none
def af0{S:bb U}{r:RV}{x:KV U}(h:acu S r=some x):FV S.st r=some x.pv:=by
 cases r with
 |tmp t=>injection h with h;subst h;rfl
 |cell t n=>
  simp only[acu]at h;split at h
  .rename_i id aw off b;split at h
   .rename_i cs d;obtain⟨h1,f⟩:=Af d;have e:S.st.env t= .ptr id aw off:=by simp only[bb.st,b,KV.pv]
    simp only[FV,e];rw[Qe h1,f];have:=FG h;rw[List.map_drop]at this;exact this
   .cases h
  .cases h
def X9{S:bb U}:∀{b:Z RV} {xs:Z (KV U)},XB S b=some xs->AD S.st b=some (xs.map KV.pv)
 |[],xs,h=>by injection h with h;subst h;rfl
 |r::b,xs,h=>by
  simp only[XB]at h;split at h
  .rename_i x e;split at h
   .rename_i f d;injection h with h
    subst h;simp only[AD,af0 e,X9 d,Qy]
   .cases h
  .cases h
def Fx{S:bb U}{d:Z RV}{x:KV U}(h:BG S d=some x):xx S.st d=some x.pv:=by
 unfold BG at h;split at h
 .rename_i xs b;injection h with h
  subst h;have:=X9 b;unfold xx;rw[this]
  match xs with
  |[]|[x]=>rfl
  |x::y::l=>simp only[Qy,aki,KV.pv,KV.dm]
 .cases h
end
end
section
open Go.RowKit
def SC.O6:SC->Bool
 | .seq x y| .cond _ x y=>x.O6&&y.O6
 | .block _ x| .loop x=>x.O6
 | .Iz ..=>false
 |_=>true
def F4{P:Pr}{nt:Nat}{hs:Z Nat}:∀(c:Code) (sc:SC),aZ P nt hs c=some sc->sc.O6=true->AF c=true
 | .seq x y,sc,h,b=>by
  simp only[aZ]at h;split at h
  .rename_i d e;injection h with h
   subst h;simp only[SC.O6,Qi]at b;simp only[AF,F4 x _ d b.1,F4 y _ e b.2,qaw]
  .cases h
 | .cond c x y,sc,h,b=>by
  simp only[aZ]at h;split at h
  .rename_i _ d e;injection h with h
   subst h;simp only[SC.O6,Qi]at b;simp only[AF,F4 x _ d b.1,F4 y _ e b.2,qaw]
  .cases h
 | .block _ x,sc,h,b=>by simp only[aZ,Qq]at h;obtain⟨f,d,rfl⟩:=h;exact F4 x _ d b
 | .loop x,sc,h,b=>by simp only[aZ,Qq]at h;obtain⟨f,d,rfl⟩:=h;exact F4 x _ d b
 | .rangeFunc g ps x y,sc,h,b=>by
  simp only[aZ]at h;split at h
  .split at h
   .injection h with h;subst h;cases b
   .cases h
  .cases h
 | .skip,_,_,_| .exit _,_,_,_| .ret,_,_,_| .region ..,_,_,_| .goto _,_,_,_| .scope _,_,_,_| .label _,_,_,_| .refuse _,_,_,_=>rfl
section
variable{P:Pr}{E:En}{S:St}{a:Act}{w:Wo}{L:Nat->Va}
def tZ.env{E d:En}(m:d.w0=E.w0)(l:d.rb=E.rb)(n:d.rk=E.rk){M:Nat->Prop}{G:Gh}{v:Va}{c:zO}(h:tZ E w M G v c):tZ d w M G v c:=by
 cases c with
 |dead=>trivial
 |box cs=>obtain⟨b,j,T,i,g,f,o⟩:=h;exact⟨b,j,T,i,g,by rw[m,l];exact f,o⟩
 |row e k es=>
  obtain⟨vs,i,g,f⟩:=h;refine⟨vs,?_,g,f⟩;have:gE d v=gE E v:=by unfold gE;rw[m,l,n]
  rw[this];exact i
def St.pC(S:St)(D:Nat->Bool):St:={S with H:=λid=>if D id=true then⟨(S.H id).aw,.dead⟩else S.H id}
def St.shown(A S:St)(D:Nat->Bool):St:={A with H:=λid=>if D id=true then⟨(A.H id).aw+1,(S.H id).c⟩else A.H id}
def St.kill(S:St)(D:Nat->Bool):St:={S with H:=λid=>if D id=true then⟨(S.H id).aw,.dead⟩else S.H id}
def Rel.amD(h:Rel E S a w L)(D:Nat->Bool):Rel E (S.kill D) a w L:=by
 have A:∀id,(D id=true/\(S.kill D).H id=⟨(S.H id).aw,.dead⟩)\/(D id=false/\(S.kill D).H id=S.H id):=by
  intro id;simp only[St.kill];cases D id
  .exact .inr ⟨rfl,rfl⟩
  .exact .inl ⟨rfl,rfl⟩
 have f:∀id,((S.kill D).H id).c.live=true->(S.H id).c.live=true/\(S.kill D).H id=S.H id:=by
  intro id g;rcases A id with⟨_,e⟩|⟨_,e⟩
  .rw[e]at g;cases g
  .exact⟨by rw[<-e];exact g,e⟩
 have n:(S.kill D).gh L=S.gh L:=by
  simp only[St.gh,St.kill];congr 1
  funext id
  split<;>rfl
 have m:∀b,bn E (S.kill D) L b->bn E S L b:=by
  rintro b (⟨id,p,H,G⟩|B)
  .exact .inl ⟨id,p,(f id H).1,G⟩
  .exact .inr B
 have l:dp w w (bn E S L) (bn E (S.kill D) L):=dp.of λb s k=>s (m b k)
 refine⟨h.defers,h.size,λt=> ?_,λid d=> ?_,λi j b hi F v u z x=>h.apart i j b hi F (f i v).1 (f j u).1 z x,λid d=> ?_,h.fr,λr g q=> ?_,h.an.1.trans (.of λb s k=>s (m b k)),λid b d g o r=>h.an.2.1 id b d (f id g).1 o r,λb o=>⟨(h.an.2.2 b o).1,(h.an.2.2 b o).2.1,λid d g=>(h.an.2.2 b o).2.2 id d (f id g).1⟩⟩
 .show bp w _ _ (S.env t) _;rw[n];exact(h.env t).mono l (Gh.le.refl _)
 .rw[n];rcases A id with⟨_,e⟩|⟨_,e⟩
  .rw[e];trivial
  .rw[e];exact(h.obj id d).mono l (Gh.le.refl _) λ_ _ _=>rfl
 .rcases A id with⟨_,e⟩|⟨_,e⟩
  .rw[e,h.fresh id d]
  .rw[e];exact h.fresh id d
 .have p:=f 0 g;exact h.CB r p.1 (by rw[<-p.2];exact q)
def afr{f:FI}{nt:Nat}{sc:SC}{rs:Z RV}(hf:jD P f nt sc rs)(hn:sc.O6=true){xs:Z PV}{vs:Z Va}(h:Rel E S a w L)(hv:bo w (bn E S L) (S.gh L) xs vs)(hlen:xs.length<=nt)(hp:∀t,t<xs.length->t∉sc.vd)
  (D:Nat->Bool) (M:∀id,D id=true->id<S.N/\id≠0/\∃cs,(S.H id).c= .box cs/\cs.all PV.closed=true)
  {Q:PV->St->Prop} (hV:VS P nt sc (λen A=>(en= .ret\/en= .normal)/\∃r,xx A rs=some r/\Q r A/\S.N<=A.N/\∀id,D id=true->(A.H id).c.live=false) {S.pC D with env:=λt=>(xs[t]?).getD .undef}):
  Calls P f vs.toArray w λen w'=>∃v r A L',en= .returned v/\Q r A/\bp w' (bn E (A.shown S D) L') ((A.shown S D).gh L') r v/\
   ∀env':Nat->PV,(∀t,env' t= .any\/(env' t=S.env t/\(S.env t).ss (λ_=>false)=true)\/(∃i,vs[i]?=some (a.tmps.getD t undef)/\env' t=A.env i)\/∃id off,D id=true/\S.env t= .ptr id (S.H id).aw off/\env' t= .ptr id ((A.H id).aw+1) off)->Rel E {A.shown S D with env:=env'} a w' L':=by
 obtain⟨fn,hs,h1,rfl,h3,h4,_⟩:=hf
 cases H:fn.body with
 |none=>rw[H]at h3;cases h3
 |some c=>
 rw[H,Qa]at h3;have hvl:vs.length=xs.length:=hv.1;have m:∀id,D id=true->(S.H id).c.live=true:=λid g=>by obtain⟨_,_,cs,e,_⟩:=M id g;rw[e];rfl
 let HB:Nat->Prop:=λb=>∃id,D id=true/\cq (L id)=some b
 have hHB:∀b,HB b->bn E S L b:=λb ⟨id,h5,q⟩=> .inl ⟨id,(M id h5).1,m id h5,q⟩
 let E':En:={E with nt:=fn.ntmps,rd:=none,nd:=true,kt:=λt=>vs[t]?,wk:=w,wm:=w,M0:=bn E S L,X:=λb=>E.X b\/HB b,H0:=λb=>E.H0 b\/HB b,hX:=⟨λb H=>E.hX.lt b ⟨H.1.resolve_right λh=>H.2 (.inr h),λh=>H.2 (.inl h)⟩,λb H=>E.hX.ng b ⟨H.1.resolve_right λh=>H.2 (.inr h),λh=>H.2 (.inl h)⟩,E.hX.gi⟩,TE:=λhk b hr hx=>hx.elim (E.TE hk b hr) λ⟨id,h5,q⟩=>(M id h5).2.1 (h.an.2.1 id b (M id h5).1 (m id h5) q hr)}
 have hdl:∀id,((S.pC D).H id).c.live=true->D id=false/\(S.H id).c.live=true:=by
  intro id p;simp only[St.pC]at p;split at p
  .cases p
  .rename_i hd;exact⟨by simpa using hd,p⟩
 have hnD:∀id,D id=false->(S.pC D).H id=S.H id:=λid g=>by simp only[St.pC,g];rfl
 have hgh:(S.pC D).gh L=S.gh L:=by
  simp only[St.gh,St.pC];congr 1
  funext id
  split<;>rfl
 have hmu:∀b,bn E' (S.pC D) L b↔bn E S L b:=by
  intro b;constructor
  .rintro(⟨id,h5,q,N⟩|hx|hx)
   .exact .inl ⟨id,h5,(hdl id q).2,N⟩
   .exact .inr hx
   .exact hHB b hx
  .rintro(⟨id,h5,q,N⟩|hx)
   .cases hd:D id with
    |true=>exact .inr (.inr ⟨id,hd,N⟩)
    |false=>exact .inl ⟨id,h5,by rw[hnD id hd];exact q,N⟩
   .exact .inr (.inl hx)
 have hst0:dp w w (bn E S L) (bn E' (S.pC D) L):=dp.of λb hm V=>hm ((hmu b).1 V)
 have hrel:Rel E' {S.pC D with env:=λt=>(xs[t]?).getD .undef} {tmps:=vs.toArray++Array.replicate (fn.ntmps - vs.toArray.size) undef,defers:=[]} w L:=by
  have hget:∀t,(vs.toArray++Array.replicate (fn.ntmps - vs.toArray.size) undef).getD t undef=(vs[t]?).getD undef:=by
   intro t;rw[Q4,qaW]
   by_cases ht:t<vs.toArray.size
   .rw[Qe ht];simp
   .rw[Qg ht,qbu];have hq:vs[t]?=none:=qaJ (by simpa using ht)
    rw[hq];split<;>rfl
  refine⟨Marks.nil rfl,⟨by simp[E',hvl];omega,λt v ht=>by rw[hget];show(vs[t]?).getD undef=v;rw[show vs[t]?=some v from ht];rfl⟩,λt=> ?_,λid g=> ?_,λi j b hi hj hli hlj=>h.apart i j b hi hj (hdl i hli).2 (hdl j hlj).2,λid g=> ?_,⟨h.fr.toFr,EO.refl _⟩,λhr p hv0=> ?_,Kept.of λb hm V=>hm ((hmu b).1 V),λid b g p H hr=>h.an.2.1 id b g (hdl id p).2 H hr,λb hH=> ?_⟩
  .show bp w (bn E' (S.pC D) L) ((S.pC D).gh L) ((xs[t]?).getD .undef) _;rw[hget,hgh]
   cases hx:xs[t]? with
   |none=>
    have:vs[t]?=none:=by rw[List.getElem?_eq_none_iff]at hx ⊢;omega
    rw[this];exact .undef
   |some x=>obtain⟨v,hv1,hr⟩:=hv.get hx;rw[hv1];exact hr.mono hst0 (Gh.le.refl _)
  .show tZ E' w (bn E' (S.pC D) L) ((S.pC D).gh L) (L id) ((S.pC D).H id).c;rw[hgh]
   cases hd:D id with
   |true=>simp only[St.pC,hd,Qr];trivial
   |false=>
    rw[hnD id hd]
    cases p:(S.H id).c.live with
    |false=>cases hcc:(S.H id).c with
     |dead=>trivial
     |box cs|row e k es=>rw[hcc]at p;cases p
    |true=>exact((h.obj id g).mono hst0 (Gh.le.refl _) λ_ _ _=>rfl).env rfl rfl rfl
  .show(S.pC D).H id=_
   cases hd:D id with
   |true=>exact absurd (M id hd).1 (Nat.not_lt.2 (show S.N<=id from g))
   |false=>rw[hnD id hd];exact h.fresh id g
  .have h5:=hdl 0 p;refine h.CB hr h5.2 ?_;rw[<-hnD 0 h5.1];exact hv0
  .rcases hH with hH|⟨id,h5,q⟩
   .obtain⟨q1,⟨o,_,q3,q4⟩,q5⟩:=h.an.2.2 b hH;exact⟨q1,⟨o,q4,q3,q4⟩,λid g p=>q5 id g (hdl id p).2⟩
   .obtain⟨_,_,cs,e,_⟩:=M id h5;obtain⟨b',cur,T,R,e2,_,_⟩:=h.tV (M id h5).1 e;rw[R]at q;injection q with q
    simp only at q;subst q;refine⟨IH h (hHB b' ⟨id,h5,by rw[R];rfl⟩),⟨_,e2,rfl,e2⟩,λj hj p B=> ?_⟩
    have N:=hdl j p;have:=h.apart j id b' hj (M id h5).1 N.2 (m id h5) B (by rw[R];rfl)
    rw[this,h5]at N;cases N.1
 have hcs:=uA c sc h3
 have h0:=hV c hs h3 E' rfl ⟨λt ht=>by
  show vs[t]?=none;refine qaJ ?_;rw[hcs]at ht;rcases qaK t xs.length with hlt|hge
  .exact absurd ht (hp t hlt)
  .omega,.inr (F4 c sc h3 hn)⟩ _ w L hrel
 refine Fo.1 (callsIn_of_wp_marks (F:=WF none) (n:=0) h1 H trivial (qaB h0 ?_));rintro e a' w' ⟨A,L',l,he,r,hres,hq,hAN,hdead⟩;have hd:a'.defers=[]:=l.defers.none rfl;obtain⟨v,hv1,hrep⟩:=Dj l h4 hres
 let L2:Nat->Va:=λid=>if D id=true then L id else L' id
 have J:∀id,D id=true->L2 id=L id:=λid g=>Qe g
 have G:∀id,D id=false->L2 id=L' id:=λid g=>Qg (by rw[g];simp)
 have hA1:∀id,D id=true->(A.shown S D).H id=⟨(A.H id).aw+1,(S.H id).c⟩:=λid g=>Qe g
 have z:∀id,D id=false->(A.shown S D).H id=A.H id:=λid g=>Qg (by rw[g];simp)
 have hle:(A.gh L').le ((A.shown S D).gh L2):=by
  refine⟨Qs _,λid _=> ?_⟩
  cases d:D id with
  |true=>exact .inr (by simp only[St.gh,hA1 id d];omega)
  |false=>exact .inl ⟨by simp only[St.gh,z id d],by simp only[St.gh,G id d]⟩
 have hmu2:∀b,bn E (A.shown S D) L2 b↔bn E' A L' b:=by
  intro b;constructor
  .rintro(⟨id,h5,q,N⟩|hx)
   .cases d:D id with
    |true=>rw[J id d]at N;exact .inr (.inr ⟨id,d,N⟩)
    |false=>rw[z id d]at q;rw[G id d]at N;exact .inl ⟨id,h5,q,N⟩
   .exact .inr (.inl hx)
  .rintro(⟨id,h5,q,N⟩|hx|⟨id,h5,q⟩)
   .cases d:D id with
    |true=>rw[hdead id d]at q;cases q
    |false=>exact .inl ⟨id,h5,by rw[z id d];exact q,by rw[G id d];exact N⟩
   .exact .inr hx
   .exact .inl ⟨id,QW (M id h5).1 hAN,by rw[hA1 id h5];exact m id h5,by rw[J id h5];exact q⟩
 have hst2:dp w' w' (bn E' A L') (bn E (A.shown S D) L2):=dp.of λb hm V=>hm ((hmu2 b).1 V)
 have hst1:dp w w' (bn E S L) (bn E (A.shown S D) L2):=l.an.1.stays.trans hst2
 have fin:LeavesInM (WF none) 0 P fn a'.tmps (λen w'=>∃v r A L',en= .returned v/\Q r A/\bp w' (bn E (A.shown S D) L') ((A.shown S D).gh L') r v/\
   ∀env':Nat->PV,(∀t,env' t= .any\/(env' t=S.env t/\(S.env t).ss (λ_=>false)=true)\/(∃i,vs[i]?=some (a.tmps.getD t undef)/\env' t=A.env i)\/∃id off,D id=true/\S.env t= .ptr id (S.H id).aw off/\env' t= .ptr id ((A.H id).aw+1) off)->Rel E {A.shown S D with env:=env'} a w' L') a'.defers .returning w':=by
  rw[hd];refine⟨v,hv1,v,r,A,L2,rfl,hq,hrep.mono hst2 hle,λenv' he'=> ?_⟩
  refine⟨(h.defers.oth l.fr.ko),h.size,λt=> ?_,λid g=> ?_,λi j b hi hj hli hlj hbi B=> ?_,λid g=> ?_,⟨l.fr.toFr,h.fr.ko.trans l.fr.ko⟩,λhr p hv0=> ?_,(h.an.1.trans l.an.1).trans (.of λb hm V=>hm ((hmu2 b).1 V)),λid b g p H hr=> ?_,λb hH=> ?_⟩
  .show bp w' (bn E (A.shown S D) L2) ((A.shown S D).gh L2) (env' t) _;rcases he' t with R|⟨R,e2⟩|⟨i,R,e2⟩|⟨id,off,R,e2,e3⟩
   .rw[R];exact .any _
   .rw[R];exact((h.env t).ss (M':=bn E S L) (G':=(A.shown S D).gh L2) e2 (λ_ H=>H) (λid g=>by cases g)).mono hst1 (Gh.le.refl _)
   .rw[e2,<-l.size.2 i _ R];exact(l.env i).mono hst2 hle
   .rw[e3];have h5:=h.env t;rw[e2]at h5;obtain⟨q,N⟩:=h5.rQ (show(S.gh L).V id=_ from rfl)
    rw[N];refine .ptr _ _ _ _ (QW (M id R).1 hAN) (by simp only[St.gh,hA1 id R];exact Qs _) λ_=> ?_
    show _=(cq (L2 id)).map _;rw[J id R];rfl
  .show tZ E w' (bn E (A.shown S D) L2) ((A.shown S D).gh L2) (L2 id) ((A.shown S D).H id).c
   cases d:D id with
   |true=>
    rw[J id d,hA1 id d];obtain⟨g1,_,cs,R,e2⟩:=M id d;obtain⟨b,cur,T,q1,q2,q3,q4⟩:=h.tV g1 R;rw[show(⟨(A.H id).aw+1,(S.H id).c⟩:gU).c= .box cs from R]
    obtain⟨_,⟨o,k1,_,k3⟩,_⟩:=l.an.2.2 b (.inr ⟨id,d,by rw[q1];rfl⟩)
    have k1:w.heap[b]?=some o:=k1;rw[q2]at k1;injection k1 with k1
    rw[<-k1]at k3;refine⟨b,cur,T,q1,k3,q4,q3.1,λi y u hy hu=> ?_⟩
    exact((q3.2 i y u hy hu).Vy (G':=(A.shown S D).gh L2) (Qn.1 e2 y (QL hy))).mono hst1 (Gh.le.refl _)
   |false=>
    rw[G id d,z id d]
    cases p:(A.H id).c.live with
    |false=>cases hcc:(A.H id).c with
     |dead=>trivial
     |box cs|row e k es=>rw[hcc]at p;cases p
    |true=>exact((l.obj id g).mono hst2 hle λ_ _ _=>rfl).env rfl rfl rfl
  .have key:∀i j,i<A.N->j<A.N->D i=true->D j=false->(A.H j).c.live=true->cq (L i)=some b->cq (L' j)=some b->i=j:=λi j _ hj I _ p h5 q=>absurd q ((l.an.2.2 b (.inr ⟨i,I,h5⟩)).2.2 j hj p)
   cases I:D i with
   |true=>
    rw[J i I]at hbi
    cases s:D j with
    |true=>rw[J j s]at B;exact h.apart i j b (M i I).1 (M j s).1 (m i I) (m j s) hbi B
    |false=>rw[G j s]at B;rw[z j s]at hlj;exact key i j hi hj I s hlj hbi B
   |false=>
    rw[G i I]at hbi;rw[z i I]at hli
    cases s:D j with
    |true=>rw[J j s]at B;exact(key j i hj hi s I hli B hbi).symm
    |false=>rw[G j s]at B;rw[z j s]at hlj;exact l.apart i j b hi hj hli hlj hbi B
  .have hid':A.N<=id:=g
   cases d:D id with
   |true=>have:=(M id d).1;omega
   |false=>show(A.shown S D).H id=_;rw[z id d];exact l.fresh id hid'
  .have h0D:D 0=false:=by
    cases d:D 0 with
    |true=>exact absurd rfl (M 0 d).2.1
    |false=>rfl
   rw[z 0 h0D]at p hv0;rw[G 0 h0D];exact l.CB hr p hv0
  .cases d:D id with
   |true=>rw[J id d]at H;exact h.an.2.1 id b (M id d).1 (m id d) H hr
   |false=>rw[G id d]at H;rw[z id d]at p;exact l.an.2.1 id b g p H hr
  .obtain⟨q1,⟨o,q2,q3,q4⟩,q5⟩:=h.an.2.2 b hH;obtain⟨_,⟨o',k1,_,k3⟩,k4⟩:=l.an.2.2 b (.inl hH);have k1:w.heap[b]?=some o':=k1;rw[q4]at k1;injection k1 with k1
   refine⟨q1,⟨o,q2,q3,by rw[k1];exact k3⟩,λid g p hbb=> ?_⟩
   cases d:D id with
   |true=>rw[J id d]at hbb;exact q5 id (M id d).1 (m id d) hbb
   |false=>rw[G id d]at hbb;rw[z id d]at p;exact k4 id g p hbb
 rcases he with rfl|rfl<;>exact fin
end
end
section
open Go.RowKit
def uN{b ρ:Type}(step:b->Y (b⊕ρ)):Nat->b->Y ρ
 |0,_=>none
 |n+1,s=>match step s with
  |none=>none
  |some (.inr r)=>some r
  |some (.inl s')=>uN step n s'
def Kh{b ρ:Type}{step:b->Y (b⊕ρ)}{r:ρ}:∀{n m:Nat} {s:b},n<=m->uN step n s=some r->uN step m s=some r
 |0,_,_,_,h=>by cases h
 |n+1,0,_,d,_=>O
 |n+1,m+1,s,d,h=>by
  simp only[uN]at h ⊢;split at h
  .cases h
  .exact h
  .exact Kh O h
def aeX{b ρ:Type}{step:b->Y (b⊕ρ)}{r r':ρ}{n m:Nat}{s:b}(h:uN step n s=some r)(f:uN step m s=some r'):r=r':=by have e:=Kh (Nat.le_max_left n m) h;have d:=Kh (Nat.le_max_right n m) f;rw[e]at d;injection d
open Classical in
 def aE{b ρ:Type}(step:b->Y (b⊕ρ))(s:b):Y ρ:=
 if h:∃r,∃n,uN step n s=some r then some (Classical.choose h)else none
def Fa{b ρ:Type}{step:b->Y (b⊕ρ)}{s:b}{r:ρ}(h:aE step s=some r):∃n,uN step n s=some r:=by
 unfold aE at h;split at h
 .rename_i d;injection h with h
  obtain⟨n,e⟩:=qbj d;exact⟨n,by rw[e,h]⟩
 .cases h
def P7{b ρ:Type}{step:b->Y (b⊕ρ)}{s:b}{r:ρ}{n:Nat}(h:uN step n s=some r):aE step s=some r:=by unfold aE;have d:∃r,∃n,uN step n s=some r:=⟨r,n,h⟩;rw[dif_pos d];obtain⟨m,hm⟩:=qbj d;rw[aeX hm h]
def fB{d ρ:Type}(step:d->Y (d⊕ρ))(s:d):aE step s=match step s with|none=>none|some (.inr r)=>some r|some (.inl s')=>aE step s':=by
 cases hs:step s with
 |none=>
  cases h:aE step s with
  |none=>rfl
  |some r=>
   obtain⟨n,b⟩:=Fa h
   cases n with
   |zero=>cases b
   |succ n=>simp[uN,hs]at b
 |some x=>
  cases x with
  |inr r=>exact P7 (n:=1) (by simp[uN,hs])
  |inl s'=>
   simp only
   cases e:aE step s' with
   |some r=>obtain⟨n,b⟩:=Fa e;exact P7 (n:=n+1) (by simp only[uN,hs];exact b)
   |none=>
    cases h:aE step s with
    |none=>rfl
    |some r=>
     obtain⟨n,b⟩:=Fa h
     cases n with
     |zero=>cases b
     |succ n=>simp only[uN,hs]at b;rw[P7 b]at e;cases e
open Classical in
 def both{ρ:Type}(x y:Y ρ):Y ρ:=if x=y then x else none
def afs{ρ:Type}{x y:Y ρ}{r:ρ}(h:both x y=some r):x=some r/\y=some r:=by
 unfold both at h;split at h
 .rename_i e;exact⟨h,e▸h⟩
 .cases h
@[simp] def ant {ρ:Type} (x:Y ρ):both x x=x:=Qe rfl
def aX{b ρ:Type}(j:b->Y ρ)(f:(b->Y ρ)->Y ρ):Y ρ:=f j
def pV{α b ρ:Type}(step:Nat->α->b->Y (b⊕ρ))(fin:b->Y ρ):Z α->b->Y ρ
 |[],s=>fin s
 |a::l,s=>match step l.length a s with
  |none=>none
  |some (.inr r)=>some r
  |some (.inl s')=>pV step fin l s'
section
variable{U:TU}
inductive SA (U:TU) where
 |skip
 |vW (rs:RS U)
 |tT (un:List (Nat×Nat)) (rs:RS U)
 |seq (x y:SA U)
 |join (J:JS U) (x y:SA U)
 |cond (c:bD) (x y:SA U)
 |block (id:Nat) (x:SA U)
 |loop (J:JS U) (x:SA U)
 |OW (n:Nat) (x:SA U)
 |back (J:JS U) (f k:Nat) (nE:Option Nat) (T:U.Ty) (tg p0 p1:Nat) (x y:SA U)
 |exit (id:Nat)
 |ret
 |ps (p:Ps U) (x:SA U)
 |DJ (p:Ps U) (x:SA U)
 |inl (r1:RS U) (d:Option Nat) (f:FuncId) (c:Option bD) (xs:List bD) (nt:Nat) (rvs:List RV) (x:SA U) (r2:RS U)
def ac7(f:FI)(c:Y bD)(xs:Z bD):cU:=
 match c with
 |none=> .call f xs
 |some b=> .wC b xs
def SA.erase:SA U->SC
 | .skip=> .skip
 | .vW b=> .vW b.flat
 | .tT un b=> .tT un b.flat
 | .seq x y=> .seq x.erase y.erase
 | .join _ x y=> .seq x.erase y.erase
 | .cond c x y=> .cond c x.erase y.erase
 | .block id x=> .block id x.erase
 | .loop _ x=> .loop x.erase
 | .OW _ x=> .loop x.erase
 | .back _ _ _ _ _ e h g x y=> .Iz (.tmp e) [h,g] x.erase y.erase
 | .exit id=> .exit id
 | .ret=> .ret
 | .ps _ x| .DJ _ x=>x.erase
 | .inl r1 d f c xs _ _ _ r2=> .vW (r1.flat++⟨d,none,ac7 f c xs⟩::r2.flat)
def SA.dR:SA U->Bool
 | .vW b| .tT _ b=>b.dR
 | .seq x y| .join _ x y=>x.dR&&y.dR
 | .cond c x y=>c.dR&&x.dR&&y.dR
 | .block _ x| .loop _ x| .OW _ x=>x.dR
 | .back _ _ _ _ _ _ _ _ x y=>x.dR&&y.dR
 | .ps _ x| .DJ _ x=>x.dR
 | .inl ..=>false
 |_=>true
def SA.xY(P:Pr):SA U->Prop
 | .vW d| .tT _ d=>d.dR=true
 | .seq x y| .join _ x y=>x.xY P/\y.xY P
 | .cond c x y=>(c.dR=true/\x.xY P)/\y.xY P
 | .block _ x| .loop _ x| .OW _ x=>x.xY P
 | .back _ _ _ _ _ _ _ _ x y=>x.xY P/\y.xY P
 | .ps _ x| .DJ _ x=>x.xY P
 | .inl r1 _ f c xs nt b x r2=>(r1.dR=true/\r2.dR=true/\xs.all bD.dR=true/\c.all bD.dR=true)/\x.erase.O6=true/\jD P f nt x.erase b/\x.xY P
 |_=>True
def qP{P:Pr}:∀{sa:SA U},sa.dR=true->sa.xY P
 | .vW _,h| .tT _ _,h=>h
 | .seq x y,h| .join _ x y,h=>by simp only[SA.dR,Qi]at h;exact⟨qP h.1,qP h.2⟩
 | .cond c x y,h=>by simp only[SA.dR,Qi]at h;exact⟨⟨h.1.1,qP h.1.2⟩,qP h.2⟩
 | .block _ x,h| .loop _ x,h| .OW _ x,h| .ps _ x,h| .DJ _ x,h=>qP (sa:=x) h
 | .back _ _ _ _ _ _ _ _ x y,h=>by simp only[SA.dR,Qi]at h;exact⟨qP h.1,qP h.2⟩
 | .inl ..,h=>by cases h
 | .skip,_| .exit _,_| .ret,_=>trivial
def SA.CW:SA U->Bool
 | .vW b| .tT _ b=>b.dR
 | .seq x y| .join _ x y=>x.CW&&y.CW
 | .cond c x y=>c.dR&&x.CW&&y.CW
 | .block _ x| .loop _ x| .OW _ x=>x.CW
 | .back _ _ _ _ _ _ _ _ x y=>x.dR&&y.dR
 | .ps _ x| .DJ _ x=>x.CW
 | .inl r1 _ _ c xs _ _ x r2=>r1.dR&&r2.dR&&xs.all bD.dR&&c.all bD.dR&&x.erase.O6&&x.CW
 |_=>true
def SA.Vk:SA U->Z (FI×Nat×SC×Z RV)
 | .seq x y| .join _ x y| .cond _ x y=>x.Vk++y.Vk
 | .block _ x| .loop _ x| .OW _ x| .ps _ x| .DJ _ x=>x.Vk
 | .inl _ _ f _ _ nt b x _=>(f,nt,x.erase,b)::x.Vk
 |_=>[]
def zg(P:Pr):Z (FI×Nat×SC×Z RV)->Prop
 |[]=>True
 |q::l=>jD P q.1 q.2.1 q.2.2.1 q.2.2.2/\zg P l
def zg.cY{P:Pr}:∀{a b:Z (FI×Nat×SC×Z RV)},zg P (a++b)->zg P a/\zg P b
 |[],_,h=>⟨trivial,h⟩
 |_::a,_,h=>⟨⟨h.1,(zg.cY (a:=a) h.2).1⟩,(zg.cY (a:=a) h.2).2⟩
def CV{P:Pr}:∀{sa:SA U},sa.CW=true->zg P sa.Vk->sa.xY P
 | .vW _,h,_| .tT _ _,h,_=>h
 | .seq x y,h,k| .join _ x y,h,k=>by simp only[SA.CW,Qi]at h;exact⟨CV h.1 (zg.cY k).1,CV h.2 (zg.cY k).2⟩
 | .cond c x y,h,k=>by simp only[SA.CW,Qi]at h;exact⟨⟨h.1.1,CV h.1.2 (zg.cY k).1⟩,CV h.2 (zg.cY k).2⟩
 | .block _ x,h,k| .loop _ x,h,k| .OW _ x,h,k| .ps _ x,h,k| .DJ _ x,h,k=>CV (sa:=x) h k
 | .back _ _ _ _ _ _ _ _ x y,h,_=>by simp only[SA.CW,Qi]at h;exact⟨qP h.1,qP h.2⟩
 | .inl r1 d f c xs nt b x r2,h,k=>by simp only[SA.CW,Qi]at h;exact⟨⟨h.1.1.1.1.1,h.1.1.1.1.2,h.1.1.1.2,h.1.1.2⟩,h.1.2,k.1,CV h.2 k.2⟩
 | .skip,_,_| .exit _,_,_| .ret,_,_=>trivial
variable(K:TK U)
def Ha(Γ:Z (eB U)){ρ:Type}(W:WS)(base:Nat):RS U->(i:Nat)->(S:bb U)->(k:bb U->Z zJ->Y ρ)->Y ρ
 | .nil,_,S,k=>k S []
 | .op o r,i,S,k=>adq K Γ W (base+i) S o λx wr=>Ha Γ W base r (i+1) (S.cY o.d x wr) λS' d=>k S' (⟨o.d,o.dD,Lb (base+i) S.st o,wr.map (·.1)⟩::d)
 | .Ey t r,i,S,k=>(match S.env t with
  | .bool b=>bif b then Ha Γ W base r i (S.cY (some t) (.bool true) none) k else Ha Γ W base r i (S.cY (some t) (.bool false) none) k
  | .undef=>Ha Γ W base r i S k
  |_=>none)
 |_,_,_,_=>none
def HP(F:Z Nat)(b:Z Nat):Bool:=b.all λt=> !je t F
def bb.more(S:bb U)(n:Nat):bb U:={env:=S.env,H:=S.H,N:=S.N+n}
def bb.ik(S:bb U)(D:Z Nat):bb U:={env:=λt=>(match je t D with|true=> .any|false=>S.env t),H:=S.H,N:=S.N}
def ac2(U:TU)(T:U.Ty):Y Nat->Bool
 |none=> !U.agg T
 |some n=>U.agg T&&Nat.beq n (U.size T)
def NY(S:bb U)(f:FI)(c:Y bD)(xs:Z bD):Y (Z (KV U)):=
 match c with
 |none=>some (xs.map (·.dv S))
 |some d=>(match d.dv S with
  | .bJ g b=>(match Nat.beq g f with|true=>some (xs.map (·.dv S)++b)|false=>none)
  |_=>none)
def ahy(S:bb U):KV U->KV U->Bool
 | .ptr i v o,.ptr d v' b=>Nat.beq i d&&Nat.beq v v'&&Nat.beq o b&&Nat.beq (S.H i).aw v
 |_,_=>false
def XL(S:bb U)(A_s:Z (KV U))(t:Nat):Bool:=(S.env t).ss (λ_=>false)||A_s.any (ahy S (S.env t))
def akz(id:Nat):KV U->Bool
 | .ptr i _ _=>Nat.beq i id
 | .bJ _ cs| .kP _ cs=>cs.any (λx=>match x with| .ptr i _ _=>Nat.beq i id|_=>false)
 |_=>false
def zG(S:bb U)(A_s:Z (KV U))(id:Nat):Bool:=
 Nat.blt id S.N&& !Nat.beq id 0&&(match(S.H id).c with| .box cs=>cs.all KV.closed|_=>false)&& !A_s.any (akz id)
def Ki(S:bb U)(A_s:Z (KV U)):bb U:={env:=S.env,H:=λid=>(match zG S A_s id with|true=>⟨(S.H id).aw,.dead⟩|false=>S.H id),N:=S.N}
def aja:eF U->Bool
 | .dead=>true
 |_=>false
def ahZ(S S':bb U)(A_s:Z (KV U)):Bool:=Je S.N (λid=> !zG S A_s id||aja (S'.H id).c)
def Zm(S:bb U)(A_s:Z (KV U)):bb U:={env:=λt=>(A_s[t]?).getD .undef,H:=S.H,N:=S.N}
def Ui(S S':bb U)(A_s:Z (KV U))(t:Nat):KV U:=
 match XL S A_s t with
 |true=>S.env t
 |false=>(match S.env t with
  | .ptr id v o=>(match zG S A_s id&&Nat.beq (S.H id).aw v with|true=> .ptr id (Nat.succ (S'.H id).aw) o|false=> .any)
  |_=> .any)
def Ch(S S':bb U)(A_s:Z (KV U))(d:Y Nat)(r:KV U):bb U:=
 ({env:=Ui S S' A_s,H:=λid=>(match zG S A_s id with|true=>⟨Nat.succ (S'.H id).aw,(S.H id).c⟩|false=>S'.H id),N:=S'.N}:bb U).cY d r none
def JP(S S':bb U)(r:KV U)(id:Nat):Bool:=Nat.ble S.N id&&(match(S'.H id).c with| .box _=>true|_=>false)&& !akz id r
def bb.Hi(S:bb U)(q:Nat->Bool):bb U:={env:=S.env,H:=λid=>(match q id with|true=>⟨(S.H id).aw,.dead⟩|false=>S.H id),N:=S.N}
def Zk(S:bb U)(F:Z Nat)(W:WS)(A_s:Z (KV U))(nt:Nat)(b:Z Nat):Bool:=
 (match W with|some (n,_)=>Nat.ble n S.N|none=>false)&&Nat.ble A_s.length nt&&b.all (λt=>Nat.ble A_s.length t)&&F.all (XL S A_s)&&Je S.N (λid=> !zG S A_s id||okW W id)
def XW{ρ:Type}(f:(bb U->Y ρ)->bb U->Y ρ):Nat->bb U->Y ρ
 |0,_=>none
 |n+1,S=>f (XW f n) S
 def qS(Γ:Z (eB U)):SA U->{ρ:Type}->(F:Z Nat)->(W:WS)->(k:Exit->bb U->Y ρ)->(S:bb U)->Y ρ
 | .skip,_,_,_,k,S=>k .normal S
 | .vW h,_,F,W,k,S=>(match HP F h.jg with
  |true=>kc K Γ h W S.N (S.more h.len) λS'=>k .normal S'
  |false=>none)
 | .tT un h,_,F,W,k,S=>(match HP F h.jg with
  |true=>Ha K Γ W S.N h 0 (S.more h.len) λS' A=>(match un.all (λp=>match A[p.1]?,A[p.2]? with|some a,some b=>Gv a b|_,_=>false)with
   |true=>k .normal S'
   |false=>none)
  |false=>none)
 | .seq x y,_,F,W,k,S=>qS Γ x F W (λe S'=>match e with
  | .normal=>qS Γ y F W k S'
  |e=>k e S') S
 | .join J x y,_,F,W,k,S=>(match yt S J F W with
  |true=>aX (λv=>qS Γ y F W k (unpack K S J v)) λj=>qS Γ x J.fg (some (S.N,gm J.items)) (λe S'=>match e with
   | .normal=>(match pack K S' J.items with|some v=>j v|none=>none)
   |e=>k e S') S
  |false=>none)
 | .cond c x y,_,F,W,k,S=>(match c.dv S with
  | .bool b=>bif b then qS Γ x F W k S else qS Γ y F W k S
  | .iD=>both (qS Γ x F W k S) (qS Γ y F W k S)
  |_=>none)
 | .block id x,_,F,W,k,S=>qS Γ x F W (λe S'=>match e with
  | .exit i=>(match Nat.beq i id with|true=>k .normal S'|false=>k (.exit i) S')
  |e=>k e S') S
 | .loop J x,_,F,W,k,S=>(match yt S J F W with
  |true=>(match pack K S J.items with
   |some v0=>aE (λv=>qS Γ x J.fg (some (S.N,gm J.items)) (λe S'=>match e with
    | .normal=>(match pack K S' J.items with|some v=>some (inl v)|none=>none)
    |e=>(k e S').map inr) (unpack K S J v)) v0
   |none=>none)
  |false=>none)
 | .OW n x,_,F,W,k,S=>XW (λB S=>qS Γ x F W (λe S'=>match e with| .normal=>B S'|e=>k e S') S) n S
 | .back J f z u T q t s x y,_,F,W,k,S=>
  let D:=SC.vd (.Iz (.tmp q) [t,s] x.erase y.erase)
  (match TO f z u Γ&&Nat.beq (U.size T) z&&ac2 U T u&&je q J.fg&&HP J.fg D&&HP F D&&yt (S.ik D) J F W with
  |true=>(match S.env q with
   | .bJ G [.ref [.sl H o]]=>(match Nat.beq G f with
    |true=>(match DA H T o with
     |some xs=>(match pack K (S.ik D) J.items with
      |some v0=>pV (λm a v=>qS Γ x J.fg (some (S.N,gm J.items)) (λe g=>match e with
       | .normal=>qS Γ y J.fg (some (S.N,gm J.items)) (λe S'=>match e with
        | .normal=>(match pack K (S'.ik D) J.items with|some v=>some (inl v)|none=>none)
        | .ret=>(k .ret (S'.ik D)).map inr
        | .exit i=>(k (.exit i) (S'.ik D)).map inr
        |_=>none) g
       |_=>none) {(unpack K (S.ik D) J v)with env:=jd (jd (unpack K (S.ik D) J v).env t (.int .i64 m)) s (CK K T a)}) (λv=>k .normal (unpack K (S.ik D) J v)) xs.reverse v0
      |none=>none)
     |none=>none)
    |false=>none)
   |_=>none)
  |false=>none)
 | .inl r1 d f c xs nt r x r2,_,F,W,k,S=>(match HP F (r1.jg++d.toList++r2.jg)with
  |true=>kc K Γ r1 W S.N (S.more r1.len) λg=>(match NY g f c xs with
   |some A_s=>(match Zk g F W A_s nt x.erase.vd with
    |true=>qS Γ x (List.range A_s.length) W (λe l=>match e with
     | .ret| .normal=>(match BG l r with
      |some v=>(match ahZ g l A_s with|true=>kc K Γ r2 W l.N (((Ch g l A_s d v).Hi (JP g l v)).more r2.len) λI=>k .normal I|false=>none)
      |none=>none)
     |_=>none) (Zm (Ki g A_s) A_s)
    |false=>none)
   |none=>none)
  |false=>none)
 | .exit id,_,_,_,k,S=>k (.exit id) S
 | .ret,_,_,_,k,S=>k .ret S
 | .ps p x,_,F,W,k,S=>(match(p.JV S).all (okW W)&&HP F p.tmps with
  |true=>(match p.run S with|some S'=>qS Γ x F W k S'|none=>none)
  |false=>none)
 | .DJ p x,_,F,W,k,S=>qS Γ x F W (λe S'=>match e with
  | .normal=>(match(p.JV S').all (okW W)&&HP F p.tmps with
   |true=>(match p.run S' with|some g=>k .normal g|none=>none)
   |false=>none)
  |e=>k e S') S
structure jC (F:List Nat) (W:WS) (S S':bb U):Prop where
 env:∀t∈F,S'.env t=S.env t
 H:∀id,okW W id=false->S'.H id=S.H id
 N:S.N<=S'.N
def jC.refl(F:Z Nat)(W:WS)(S:bb U):jC F W S S:=⟨λ_ _=>rfl,λ_ _=>rfl,Qs _⟩
def jC.trans{F:Z Nat}{W:WS}{S S' S'':bb U}(h:jC F W S S')(d:jC F W S' S''):jC F W S S'':=
 ⟨λt e=>(d.env t e).trans (h.env t e),λid b=>(d.H id b).trans (h.H id b),QJ h.N d.N⟩
def EP.toC{D F:Z Nat}{W:WS}{S S':bb U}(h:EP D W S S')(e:HP F D=true):jC F W S S':=
 ⟨λt d=>h.env t (λf=>by have b:=Qn.1 e t f;rw[eD.2 d]at b;cases b),h.H,h.N⟩
def jC.more{F:Z Nat}{W:WS}{S S':bb U}{n:Nat}(h:jC F W (S.more n) S'):jC F W S S':=
 ⟨h.env,h.H,QJ (qbL _ _) h.N⟩
variable{K}
variable{P:Pr}{nt:Nat}
def VE{sc:SC}{Q:Exit->St->Prop}{S S':St}(d:∀(E:En) (a:Act) (w:Wo) (L:Nat->Va),Rel E S a w L->∃b,Rel E S' a w b)(h:VS P nt sc Q S'):VS P nt sc Q S:=
 λc hs g E i f a w L e=>by obtain⟨b,j⟩:=d E a w L e;exact h c hs g E i f a w b j
def aj4{sc:SC}{Q f:Exit->St->Prop}{S:St}(h:VS P nt sc f S)(j:∀e A,f e A->∃b,Q e b/\∀(E:En) (a:Act) (w:Wo) (L:Nat->Va),Rel E A a w L->∃g,Rel E b a w g):VS P nt sc Q S:=
 λc hs l E m k a w L i=>qaB (h c hs l E m k a w L i) λ_ _ _ ⟨S',g,h1,q⟩=>by obtain⟨b,p,o⟩:=j _ _ q;obtain⟨d,n⟩:=o _ _ _ _ h1;exact⟨b,d,n,p⟩
def aj3{Γ:Z (eB U)}(j:xt P Γ){f:RS U}{W:WS}{ρ:Type}{k:bb U->Y ρ}{r:ρ}{S:bb U}(l:f.dR=true)(p:kc K Γ f W S.N (S.more f.len) k=some r){Q:Exit->St->Prop}
  (h:∀S',EP f.jg W (S.more f.len) S'->k S'=some r->Q .normal S'.st):VS P nt (.vW f.flat) Q S.st:=by
 intro c hs b
 cases c with
 |region id ops d=>
  cases d with
  |true=>simp only[aZ]at b;(try split at b)<;>(try split at b)<;>(try split at b)<;>cases b
  |false=>
   simp only[aZ]at b;split at b
   .rename_i A n;split at b
    .rename_i t;injection b with b
     injection b with b
     subst b;intro E u q a w L i;refine qbv ?_;have v:Rel E (S.more f.len).st a w L:=i.room f.len;have:=oX (K:=K) (E:=E) j (ops:=ops) (Q:=λe a' w'=>∃S' o,Rel E S' a' w' o/\Q e S') f W S.N (S.more f.len) k r ops.toList [] a w L l n v (Qs _) (ZW u q (T0 t)) p (λS' a' w' o s z m=>⟨S'.st,o,z,h S' s m⟩)
     simpa using this
    .cases b
   .cases b
 |seq x y|cond c x y=>simp only[aZ]at b;split at b<;>cases b
 |block id c|loop c=>simp only[aZ,Qq]at b;obtain⟨_,_,b⟩:=b;cases b
 |rangeFunc g ps x y=>simp only[aZ]at b;(try split at b)<;>(try split at b)<;>cases b
 |_=>simp only[aZ]at b<;>cases b
def Sd{d b:Nat->sF}{base:Nat}:∀(l:Z (Nat×SG)) (S:St),(∀p∈l,d p.1=b p.1)->sn d base l S=sn b base l S
 |[],_,_=>rfl
 |(i,g)::l,S,h=>by
  simp only[sn,h (i,g) t_];split
  .rfl
  .rename_i p f;rw[Sd l _ λq e=>h q (QI _ e)]
def zX{Γ:Z (eB U)}(m:xt P Γ){W:WS}{base:Nat}{ρ:Type}{r:ρ}:∀(l:RS U) (i:Nat) (S:bb U) (k:bb U->Z zJ->Y ρ),l.dR=true->Ha K Γ W base l i S k=some r->
  ∃(g:Nat->sF) (S':bb U) (v:Z zJ),(∀j,rE P (g j))/\sn g base ((l.flat.zipIdx i).map λp=>(p.2,p.1)) S.st=some (S'.st,v)/\EP l.jg W S S'/\k S' v=some r
 | .nil,i,S,k,_,h=>⟨λ_ _=>none,S,[],λ_=>ac0,rfl,EP.refl _ _ _,h⟩
 | .op o l,i,S,k,f,h=>by
  simp only[RS.dR,Qi]at f;simp only[Ha]at h;obtain⟨s,x,wr,h1,M,J,I⟩:=TZ m f.1 h;obtain⟨g,S',v,H,G,F,D⟩:=zX m l (i+1) _ _ f.2 I;refine⟨λj=>if j=i then s else g j,S',_,λj=> ?_,?_,?_,D⟩
  .simp only;split
   .exact h1
   .exact H j
  .simp only[RS.flat,List.zipIdx_cons,Qy,sn,Qr,M]
   have:sn (λj=>if j=i then s else g j) base ((l.flat.zipIdx (i+1)).map λp=>(p.2,p.1)) (S.st.cY o.d x.pv (wr.map mu))=some (S'.st,v):=by
    rw[<-Iv,<-G];refine Sd _ _ λp B=> ?_
    obtain⟨q,A,rfl⟩:=QO.1 B;have:=List.mem_zipIdx A;simp only;rw[Qg O]
   rw[this];simp only[H9]
   cases wr with
   |none|some p=>rfl
  .refine(abZ S W o.d x wr J).trans F λt n=> ?_
   simp only[RS.jg]at n
   cases u:o.d with
   |none=>rw[u]at n;exact⟨t_,n⟩
   |some d=>rw[u]at n;simp only[Qv,qaF]at n;exact⟨by simpa using λe=>n.1 e,n.2⟩
 | .Ey t l,i,S,k,f,h=>by
  simp only[Ha]at h;split at h
  .rename_i b z
   cases b with
   |true=>rw[Qc,GF z]at h;exact zX m l i S k f h
   |false=>rw[Qb,GF z]at h;exact zX m l i S k f h
  .exact zX m l i S k f h
  .cases h
 | .ps _ _,_,_,_,_,h| .ite _ _ _ _ _ _ _ _,_,_,_,_,h=>by cases h
def aj0{c:Code}{Q:Exit->St->Prop}{S:St}(I:Nat->St->Prop)(o:Nat){k:St}(g:∀(E:En) (a:Act) (w:Wo) (L:Nat->Va),Rel E S a w L->∃d,Rel E k a w d)(v:I o k)
  (r:∀m S,I m S->V P nt c (λe S'=>match e with| .normal=>∃m',m'<m/\∃b,(∀(E:En) (a:Act) (w:Wo) (L:Nat->Va),Rel E S' a w L->∃d,Rel E b a w d)/\I m' b|e=>Q e S') S):V P nt (.loop c) Q S:=λE t s a w L f=>by
 refine wpIn_loop_ghost (λm a w=>∃S L,I m S/\Rel E S a w L) o ?_ ?_
 .obtain⟨d,x⟩:=g E a w L f;exact⟨k,d,v,x⟩
 rintro m a w ⟨z,A,hI,h1⟩;refine qaB (r m z hI E t s a w A h1) ?_;rintro e a' w' ⟨S',d,q,p⟩
 cases e with
 |normal=>obtain⟨m',h,b,hw,j⟩:=p;obtain⟨n,u⟩:=hw E a' w' d q;exact⟨m',h,b,n,j,u⟩
 |exit i|goto l|ret|panic c|outgrown=>exact⟨S',d,q,p⟩
def aab{x:SC}{Q:Exit->St->Prop}{S:St}(I:Nat->St->Prop)(j:Nat){k:St}(h:∀(E:En) (a:Act) (w:Wo) (L:Nat->Va),Rel E S a w L->∃i,Rel E k a w i)(o:I j k)
  (n:∀m S,I m S->VS P nt x (λe S'=>match e with| .normal=>∃m',m'<m/\∃f,(∀(E:En) (a:Act) (w:Wo) (L:Nat->Va),Rel E S' a w L->∃i,Rel E f a w i)/\I m' f|e=>Q e S') S):VS P nt (.loop x) Q S:=by
 intro c hs b
 cases c with
 |loop p=>
  simp only[aZ,Qq]at b;obtain⟨q,l,b⟩:=b;injection b with h1
  subst h1;exact aj0 I j h o (λm S hI=>n m S hI p hs l)
 |region id ops d=>cases d<;>simp only[aZ]at b<;>(try split at b)<;>(try split at b)<;>(try split at b)<;>cases b
 |seq x y|cond c x y=>simp only[aZ]at b;split at b<;>cases b
 |block id c=>simp only[aZ,Qq]at b;obtain⟨_,_,b⟩:=b;cases b
 |rangeFunc g ps x y=>simp only[aZ]at b;(try split at b)<;>(try split at b)<;>cases b
 |_=>simp only[aZ]at b<;>cases b
def P5{S:bb U}{J:JS U}{F:Z Nat}{W:WS}(f:yt S J F W=true)(v:wF J.items):jC F W S (unpack K S J v):=by
 simp only[yt,Qi,Qn]at f;obtain⟨⟨⟨⟨⟨⟨o,j⟩,u⟩,g⟩,x⟩,hF⟩,s⟩:=f;refine⟨λt A=> ?_,λid e=> ?_,?_⟩
 .have z:=eD.1 (hF t A);have m:je t (slotsOf J.items)=false:=by simpa using(g t z).2
  rcases DI (K:=K) (S.base J.fg) J.items v t with⟨⟨i,d⟩,b,k,h⟩|⟨_,h⟩
  .exact absurd (Hh (nv b) k) (uv m)
  .rw[show(unpack K S J v).env t=_ from h,KB,Qe z]
 .have p:id<S.N:=by
   cases W with
   |none=>cases s
   |some q=>
    obtain⟨n,l⟩:=q;simp only at s;simp only[okW,qao]at e;have k:=QS s;have h:¬n<=id:=λr=>by rw[qa7 r]at e;cases e.1
    omega
  rcases ID (K:=K) (S.base J.fg) J.items v id o with⟨⟨i,d⟩,b,k,h⟩|⟨_,h⟩
  .have:=(j id (wZ (nv b) k)).2;rw[e]at this;cases this
  .rw[show(unpack K S J v).H id=_ from h,Uf,Qe p]
 .rw[unpack,IC,Ue];exact Qs _
def Mm{S g:bb U}{J:JS U}{F:Z Nat}{W:WS}(b:yt S J F W=true){v:wF J.items}(i:pack K g J.items=some v)(e:jC J.fg (some (S.N,gm J.items)) S g):
  ∀(E:En) (a:Act) (w:Wo) (L:Nat->Va),Rel E g.st a w L->∃L',Rel E (unpack K S J v).st a w L':=by
 intro E a w L h;refine⟨L,Rel.meet b i e.env (λid j d=>e.H id ?_) e.N h⟩
 simp only[okW,qao];refine⟨?_,?_⟩
 .cases f:Nat.ble S.N id with
  |false=>rfl
  |true=>have:=QS f;omega
 .cases f:je id (gm J.items)with
  |false=>rfl
  |true=>exact absurd (eD.1 f) d
def PJ(S:bb U)(D:Z Nat):(S.ik D).st=S.st.yY D:=by
 unfold bb.ik bb.st St.yY;congr 1
 funext t
 simp only
 by_cases h:t∈D
 .rw[Qe h,eD.2 h];rfl
 .rw[Qg h]
  cases b:je t D with
  |true=>exact absurd (eD.1 b) h
  |false=>rfl
def Kq{F D:Z Nat}(h:HP F D=true)(W:WS)(S:bb U):jC F W S (S.ik D):=
 ⟨λt b=>by
  have d:je t D=false:=by
   cases e:je t D with
   |false=>rfl
   |true=>have:=Qn.1 h t (eD.1 e);rw[eD.2 b]at this;cases this
  simp only[bb.ik,d],λ_ _=>rfl,Qs _⟩
def YO{S:bb U}{J:JS U}{F:Z Nat}{W:WS}(b:yt S J F W=true)(v:wF J.items){S':bb U}(g:jC J.fg (some (S.N,gm J.items)) (unpack K S J v) S'):jC F W S S':=by
 have p:=P5 (K:=K) b v;refine p.trans ?_;simp only[yt,Qi,Qn]at b;obtain⟨⟨⟨⟨⟨⟨o,e⟩,j⟩,f⟩,k⟩,hF⟩,i⟩:=b;refine⟨λt m=>g.env t (eD.1 (hF t m)),λid d=>g.H id ?_,g.N⟩
 simp only[okW,qao];refine⟨?_,?_⟩
 .cases W with
  |none=>cases i
  |some q=>
   obtain⟨n,l⟩:=q;simp only at i;simp only[okW,qao]at d;have r:=QS i
   cases h:Nat.ble S.N id with
   |false=>rfl
   |true=>have:=QS h;rw[qa7 (QJ r this)]at d;cases d.1
 .cases h:je id (gm J.items)with
  |false=>rfl
  |true=>have:=(e id (eD.1 h)).2;rw[d]at this;cases this
def Wt{S:bb U}{J:JS U}{F:Z Nat}{W:WS}(b:yt S J F W=true)(v:wF J.items){t:Nat}(h:t∈J.fg):(unpack K S J v).env t=S.env t:=by
 simp only[yt,Qi,Qn]at b;obtain⟨⟨⟨⟨⟨⟨n,l⟩,j⟩,e⟩,k⟩,hF⟩,o⟩:=b;have g:je t (slotsOf J.items)=false:=by simpa using(e t h).2
 rcases DI (K:=K) (S.base J.fg) J.items v t with⟨⟨i,d⟩,f,h1,m⟩|⟨_,m⟩
 .exact absurd (Hh (nv f) h1) (uv g)
 .rw[show(unpack K S J v).env t=_ from m,KB,Qe h]
def aeP{S:bb U}{J:JS U}{F:Z Nat}{W:WS}(b:yt S J F W=true)(v:wF J.items){S':bb U}(o:jC J.fg (some (S.N,gm J.items)) (unpack K S J v) S'){v':wF J.items}(j:pack K S' J.items=some v'):
  ∀(E:En) (a:Act) (w:Wo) (L:Nat->Va),Rel E S'.st a w L->∃L',Rel E (unpack K S J v').st a w L':=by
 intro E a w L e;have l:=λ{t} h=>Wt (K:=K) b v (t:=t) h
 have u:=b;simp only[yt,Qi,Qn]at u;obtain⟨⟨⟨⟨⟨⟨k,s⟩,q⟩,m⟩,r⟩,hF⟩,z⟩:=u;refine⟨L,Rel.meet b j (λt h=>(o.env t h).trans (l h)) (λid n f=>(o.H id ?_).trans ?_) (by have:=o.N;rw[unpack,IC,Ue]at this;exact this) e⟩
 .simp only[okW,qao];refine⟨?_,?_⟩
  .cases p:Nat.ble S.N id with
   |false=>rfl
   |true=>have:=QS p;omega
  .cases p:je id (gm J.items)with
   |false=>rfl
   |true=>exact absurd (eD.1 p) f
 .rcases ID (K:=K) (S.base J.fg) J.items v id k with⟨⟨i,d⟩,g,h1,x⟩|⟨_,x⟩
  .exact absurd (wZ (nv g) h1) f
  .rw[show(unpack K S J v).H id=_ from x,Uf,Qe n]
def ag8{T:U.Ty}{k:Nat}{f:Y Nat}(m:U.size T=k)(b:ac2 U T f=true)(xs:Z (U.den T)):Nv k f (xs.map (U.pv T))/\∀a:U.den T,D2 f (U.pv T a)=(CK K T a).pv:=by
 have g:∀a:U.den T,xy f (U.pv T a)=some (fo T a):=by
  intro a;unfold fo
  cases f with
  |none=>
   simp only[ac2,qad]at b;have j:=K.len T a;rw[K.one T b]at j;rw[b]
   match i:U.pv T a with
   |[]=>rw[i]at j;cases j
   |x::l=>rfl
  |some n=>simp only[ac2,Qi]at b;have j:=Qp b.2;subst j;rw[b.1,xy,Qe (by rw[K.len];exact Qs _),<-K.len T a,QK]
 have d:∀a:U.den T,D2 f (U.pv T a)=fo T a:=λa=>by simp only[D2,g,qaI]
 refine⟨⟨λe h=> ?_,λe h=> ?_,λe h=> ?_⟩,λa=>by rw[d,Fv]⟩
 .obtain⟨a,_,rfl⟩:=QO.1 h;rw[K.len,m]
 .obtain⟨a,_,rfl⟩:=QO.1 h;rw[d,g]
 .obtain⟨a,_,rfl⟩:=QO.1 h;rw[d];unfold fo;split
  .exact Qn.2 λy p=>iE (K.gJ T a y p)
  .cases i:U.pv T a with
   |nil=>have:=K.len T a;rename_i o;rw[K.one T o,i]at this;cases this
   |cons x l=>
    have r:=iE (K.gJ T a x (by rw[i];exact QC))
    have q:=K.gJ T a x (by rw[i];exact QC)
    cases x<;>first|exact r|(cases q)
def alh(S:bb U)(A_s:Z (KV U)):(Zm S A_s).st={S.st with env:=λt=>((A_s.map KV.pv)[t]?).getD .undef}:=by
 unfold Zm bb.st;congr 1
 funext t
 simp only[QG];cases A_s[t]?<;>rfl
def agE(S:bb U)(A_s:Z (KV U)):(Ki S A_s).st=S.st.pC (zG S A_s):=by
 unfold Ki bb.st St.pC;congr 1
 funext id
 simp only;cases zG S A_s id<;>rfl
def MU{S:bb U}{A_s:Z (KV U)}{id:Nat}(h:zG S A_s id=true):id<S.N/\id≠0/\∃cs,(S.st.H id).c= .box cs/\cs.all PV.closed=true:=by
 simp only[zG,Qi,qad]at h;obtain⟨⟨⟨h1,d⟩,b⟩,_⟩:=h;refine⟨QS h1,λe=>(by rw[e]at d;cases d),?_⟩
 split at b
 .rename_i cs f;exact⟨cs.map KV.pv,by simp only[bb.st,dJ.pv,f,eF.pv],by rw[tl];exact b⟩
 .cases b
def ag7(S S':bb U)(A_s:Z (KV U))(d:Y Nat)(r:KV U):(Ch S S' A_s d r).st=St.cY {S'.st.shown S.st (zG S A_s)with env:=λt=>(Ui S S' A_s t).pv} d r.pv none:=by
 unfold Ch;rw[Iv];congr 1;unfold bb.st St.shown;congr 1
 funext id
 simp only;cases zG S A_s id<;>rfl
def agC(S:bb U)(q:Nat->Bool):(S.Hi q).st=S.st.kill q:=by
 unfold bb.Hi bb.st St.kill;congr 1
 funext id
 simp only;cases q id<;>rfl
def ac8{S:bb U}{f:FI}{c:Y bD}{xs:Z bD}{A_s:Z (KV U)}(b:NY S f c xs=some A_s)(u:xs.all bD.dR=true)(z:c.all bD.dR=true){E:En}{a:Act}{w:Wo}{L:Nat->Va}(h:Rel E S.st a w L){hs:Z Nat}{o:Oper}(j:Hv P hs o=some (ac7 f c xs))(k:Enters P f):
  ∃vs:Z Va,(execOp a.eval o).run P w= .ok (.enter f vs.toArray) w/\bo w (bn E S.st L) (S.st.gh L) (A_s.map KV.pv) vs:=by
 have e:xs.map (·.val S.st)=(xs.map (·.dv S)).map KV.pv:=by rw[List.map_map];exact qak λx l=>w8 (Qn.1 u x l)
 cases c with
 |none=>
  injection b with b
  subst b;obtain⟨args,r,d,i⟩:=ZO j;exact⟨_,afc d k,by rw[<-e];exact h.dZ i⟩
 |some A=>
  simp only[NY]at b;split at b
  .rename_i g t v;split at b
   .rename_i p;have p:=Qp p;subst p;injection b with b
    subst b;obtain⟨B,args,r,d,n,i⟩:=WW j;have s:=h.ke n;have q:A.dR=true:=by simpa using z
    rw[w8 q,v,KV.pv,KV.dm]at s;obtain⟨us,hu,m⟩:=s.za;have b:args.map a.eval=(args.toList.map a.eval).toArray:=by rw[<-qa3,qaq]
    refine⟨args.toList.map a.eval++us,?_,by rw[List.map_append,<-e];exact(h.dZ i).append m⟩
    simp only[execOp,d,resolve,hu,Deferred.ofValue,QY,qaj,qac,invoke,b];simp[pw k]
   .cases b
  .cases b
def aj5{Γ:Z (eB U)}(hΓ:xt P Γ){r1 r2:RS U}{d:Y Nat}{f:FI}{c:Y bD}{xs:Z bD}{n:Nat}{rvs:Z RV}{sc:SC}{F:Z Nat}{W:WS}{ρ:Type}{k:Exit->bb U->Y ρ}{r:ρ}{S:bb U}
  (hfn:jD P f n sc rvs) (hnr:sc.O6=true) (hoff:HP F (r1.jg++d.toList++r2.jg)=true) (xZ:r1.dR=true) (ok2:r2.dR=true) (okx:xs.all bD.dR=true) (okv:c.all bD.dR=true) {kk:bb U->Y ρ} (h:kc K Γ r1 W S.N (S.more r1.len) kk=some r)
  (hk:∀b,kk b=some r->∃A_s,NY b f c xs=some A_s/\Zk b F W A_s n sc.vd=true/\VS P n sc (λe A=>∃j,A=j.st/\jC (List.range A_s.length) W (Zm (Ki b A_s) A_s) j/\(e= .ret\/e= .normal)/\∃v,BG j rvs=some v/\ahZ b j A_s=true/\kc K Γ r2 W j.N (((Ch b j A_s d v).Hi (JP b j v)).more r2.len) (λJ=>k .normal J)=some r) (Zm (Ki b A_s) A_s).st):
  VS P nt (.vW (r1.flat++⟨d,none,ac7 f c xs⟩::r2.flat)) (λe A=>∃S',A=S'.st/\jC F W S S'/\k e S'=some r) S.st:=by
 intro c0 hs l
 cases c0 with
 |region id ops d0=>
  cases d0 with
  |true=>simp only[aZ]at l;(try split at l)<;>(try split at l)<;>(try split at l)<;>cases l
  |false=>
   simp only[aZ]at l;split at l
   .rename_i gs' hgs;split at l
    .rename_i hd;injection l with l
     injection l with l
     subst l;intro E hE hkE a w L hrel;refine qbv ?_;obtain⟨l1,l2',el,m1,m2⟩:=BT hgs
     cases l2' with
     |nil=>simp at m2
     |cons o l2=>
     simp only[qaa,Qu,Qm,qaf,Qk,List.cons.injEq]at m2;obtain⟨g,hg,gs2,hgs2,rfl,rfl⟩:=m2;have p:=ZW hE hkE (T0 hd);rw[el]at p ⊢;refine oX (K:=K) (E:=E) hΓ (ops:=ops) (Q:=λe a' w'=>∃S' L',Rel E S' a' w' L'/\_) r1 W S.N (S.more r1.len) kk r l1 (o::l2) a w L xZ m1 (hrel.room r1.len) (Qs _) (λo' T=>p o' (List.mem_append_left _ T)) h (λb a1 w1 L1 hf1 h1 hk1=> ?_)
     obtain⟨A_s,has,I,hvs⟩:=hk b hk1;simp only[Zk,Qi]at I;obtain⟨⟨⟨⟨hWn,z⟩,M⟩,hkeep⟩,hokW⟩:=I;have z:=QS z;obtain⟨hgu,hds,H⟩:=agV hg;obtain⟨vs,hrun,G⟩:=ac8 has okx okv h1 H hfn.enters;rw[alh,agE]at hvs
     have hcall:=afr hfn hnr h1 G (by simpa using z) (λt D V=>by
      have:=QS (Qn.1 M t V);rw[QD]at D
      omega) (zG b A_s) (λid B=>MU B) (Q:=λv A=>∃j x,v=x.pv/\A=j.st/\jC (List.range A_s.length) W (Zm (Ki b A_s) A_s) j/\kc K Γ r2 W j.N (((Ch b j A_s d x).Hi (JP b j x)).more r2.len) (λJ=>k .normal J)=some r)
      (hvs.mono λe A ⟨j,e1,e2,e3,x,e4,e6,e5⟩=>⟨e3,x.pv,by rw[e1];exact Fx e4,⟨j,x,rfl,e1,e2,e5⟩,by rw[e1];exact e2.N,λid B=>by
       have:=Fq e6 id (MU B).1;rw[B,Qh,qa8]at this;rw[e1];simp only[bb.st,dJ.pv]
       cases l:(j.H id).c with
       |dead=>rfl
       |_=>rw[l]at this;cases this⟩)
     refine qa5 λKK hKK=> ?_
     rw[aao hgu,Qe rfl];unfold Oper.wpIn;rw[qbd _ _ _ (Dy H),hrun];refine⟨λ_ _=>trivial,(λh=>by cases h),Fo.2 (Calls.mono hcall ?_)⟩
     rintro e w' ⟨v,_,_,L',rfl,⟨j,x,rfl,rfl,hfr,hr2⟩,hrv,hback⟩;refine hKK _ _ ?_
     have h2:=hback (λt=>(Ui b j A_s t).pv) λt=>by
      simp only[Ui]
      cases m:XL b A_s t with
      |false=>
       simp only;split
       .rename_i id vv o het;split
        .rename_i hh;rw[Qi]at hh;refine .inr (.inr (.inr ⟨id,o,hh.1,?_,rfl⟩));show(b.env t).pv= .ptr id (b.H id).aw o;rw[het,Qp hh.2];rfl
        .exact .inl rfl
       .exact .inl rfl
      |true=>
       simp only[XL,QR]at m;simp only;rcases m with m|m
       .exact .inr (.inl ⟨rfl,by rw[<-SM]at m;exact m⟩)
       .obtain⟨y,hy,s⟩:=List.any_eq_true.1 m;obtain⟨i,hi,rfl⟩:=List.mem_iff_getElem.1 hy;have hai:A_s[i]?=some A_s[i]:=Qj hi;obtain⟨v',hv',hr'⟩:=G.get (i:=i) (x:=A_s[i].pv) (by rw[QG,hai];rfl)
        have hfe:=hfr.env i (List.mem_range.2 hi)
        have hs2:j.env i=A_s[i]:=by rw[hfe];show(A_s[i]?).getD .undef=_;rw[hai];rfl
        have N:=h1.env t;rw[show b.st.env t=(b.env t).pv from rfl]at N
        have u:(b.env t).pv=A_s[i].pv/\vs[i]?=some (a1.tmps.getD t undef):=by
         generalize A_s[i]=y at s hr';generalize b.env t=x at s N
         cases x with
         |ptr id aw off=>
          cases y with
          |ptr id' ver' off'=>simp only[ahy,Qi]at s;obtain⟨⟨⟨e1,e2⟩,e3⟩,e4⟩:=s;obtain rfl:=Qp e1;obtain rfl:=Qp e2;obtain rfl:=Qp e3;have e4:(b.st.gh L1).V id=aw:=Qp e4;obtain⟨_,g1⟩:=N.rQ e4;obtain⟨_,g2⟩:=hr'.rQ e4;exact⟨rfl,by rw[hv',g1,g2]⟩
          |_=>cases s
         |_=>cases s
        exact .inr (.inr (.inl ⟨i,u.2,(show(b.env t).pv=(j.env i).pv by rw[hs2];exact u.1)⟩))
     have h3:=h2.acM (d:=o.dst) (p o (List.mem_append_right _ QC)) hrv
     have h4:Rel E ((Ch b j A_s d x).Hi (JP b j x)).st (a1.put o.dst v) w' L':=by rw[agC,ag7,<-hds];exact h3.amD _
     have hl2:l2=l2++[]:=by rw[List.append_nil]
     rw[hl2];refine oX (K:=K) (E:=E) hΓ (ops:=ops) r2 W j.N (((Ch b j A_s d x).Hi (JP b j x)).more r2.len) (λJ=>k .normal J) r l2 [] _ w' L' ok2 hgs2 (h4.room r2.len) (Qs _) (λo' T=>p o' (List.mem_append_right _ (QI _ T))) hr2 (λJ a3 w3 L3 hf3 h5 hk3=> ?_)
     have R:∀t∈F,t∉r1.jg/\d≠some t/\t∉r2.jg:=by
      intro t D;have:=λq u=>Qn.1 hoff q u
      refine⟨λV=> ?_,λV=> ?_,λV=> ?_⟩
      .have:=this t (List.mem_append_left _ (List.mem_append_left _ V));rw[eD.2 D]at this;cases this
      .have:=this t (List.mem_append_left _ (List.mem_append_right _ (by rw[V];exact Qz.2 rfl)));rw[eD.2 D]at this;cases this
      .have:=this t (List.mem_append_right _ V);rw[eD.2 D]at this;cases this
     refine⟨J.st,L3,h5,J,rfl,⟨λt D=> ?_,λq u=> ?_,?_⟩,hk3⟩
     .obtain⟨n1,n2,n3⟩:=R t D;rw[hf3.env t n3];show(Ch b j A_s d x).env t=_;unfold Ch;rw[nG _ _ _ _ n2];simp only[Ui,Qn.1 hkeep t D];exact hf1.env t n1
     .rw[hf3.H q u]
      have hnh:zG b A_s q=false:=by
       cases hqq:zG b A_s q with
       |false=>rfl
       |true=>have:=Fq hokW q (MU hqq).1;rw[hqq,u]at this;cases this
      have hno:JP b j x q=false:=by
       cases W with
       |none=>cases hWn
       |some W=>
        simp only[okW,qao]at u;have hlt:¬W.1<=q:=λe=>by have:=qa7 e;rw[u.1]at this;cases this
        have hWn:=QS hWn
        have:Nat.ble b.N q=false:=by
         cases hb:Nat.ble b.N q with
         |false=>rfl
         |true=>have:=QS hb;omega
        unfold JP;rw[this];rfl
      show(match JP b j x q with|true=>_|false=>(Ch b j A_s d x).H q)=_
      rw[hno];show(match zG b A_s q with|true=>_|false=>j.H q)=_
      rw[hnh];show j.H q=_;rw[hfr.H q u];show(match zG b A_s q with|true=>_|false=>b.H q)=_
      rw[hnh];exact hf1.H q u
     .have e1:=hf1.N;have e2:=hfr.N;have e3:=hf3.N;have:(S.more r1.len).N=S.N+r1.len:=rfl;have:(((Ch b j A_s d x).Hi (JP b j x)).more r2.len).N=j.N+r2.len:=rfl;have:(Zm (Ki b A_s) A_s).N=b.N:=rfl;omega
    .cases l
   .cases l
 |seq x y|cond c x y=>simp only[aZ]at l;split at l<;>cases l
 |block id c|loop c=>simp only[aZ,Qq]at l;obtain⟨_,_,l⟩:=l;cases l
 |rangeFunc g ps x y=>simp only[aZ]at l;(try split at l)<;>(try split at l)<;>cases l
 |_=>simp only[aZ]at l<;>cases l
def fh{Γ:Z (eB U)}(B:xt P Γ):∀(sa:SA U) {nt:Nat} {ρ:Type} (F:Z Nat) (W:WS) (k:Exit->bb U->Y ρ) (S:bb U) (r:ρ),sa.xY P->qS K Γ sa F W k S=some r->
  VS P nt sa.erase (λe A=>∃S',A=S'.st/\jC F W S S'/\k e S'=some r) S.st
 | .skip,nt,ρ,F,W,k,S,r,j,h=>aj2 ⟨S,rfl,jC.refl _ _ _,h⟩
 | .exit id,nt,ρ,F,W,k,S,r,j,h=>aj6 ⟨S,rfl,jC.refl _ _ _,h⟩
 | .ret,nt,ρ,F,W,k,S,r,j,h=>alQ ⟨S,rfl,jC.refl _ _ _,h⟩
 | .vW rs,nt,ρ,F,W,k,S,r,j,h=>by
  simp only[qS]at h;split at h
  .rename_i ho;exact aj3 B j h λS' G u=>⟨S',rfl,(G.toC ho).more,u⟩
  .cases h
 | .tT un rs,nt,ρ,F,W,k,S,r,j,h=>by
  simp only[qS]at h;split at h
  .rename_i ho;obtain⟨Γs,S',fs,R,h2,h3,h4⟩:=zX B rs 0 _ _ j h;split at h4
   .rename_i hun;refine alR R (S':=S'.st) ?_ ⟨S',rfl,(h3.toC ho).more,h4⟩;rw[RS.Ga];have e:({S.st with N:=S.st.N+rs.len}:St)=(S.more rs.len).st:=rfl
    rw[e,UH];rw[show S.st.N=S.N from rfl,h2]
    exact Qe hun
   .cases h4
  .cases h
 | .seq x y,nt,ρ,F,W,k,S,r,j,h=>by
  simp only[SA.xY]at j;refine afE ((fh B x F W _ S r j.1 h).mono ?_);rintro e A ⟨S',rfl,G,u⟩
  cases e with
  |normal=>exact(fh B y F W k S' r j.2 u).mono λe A ⟨S'',R,h2,h3⟩=>⟨S'',R,G.trans h2,h3⟩
  |exit i|goto l|ret|panic c|outgrown=>exact⟨S',rfl,G,u⟩
 | .join J x y,nt,ρ,F,W,k,S,r,j,h=>by
  simp only[SA.xY]at j;simp only[qS]at h;split at h
  .rename_i o;unfold aX at h
   have hsub:∀S',jC J.fg (some (S.N,gm J.items)) S S'->jC F W S S':=by
    intro S' G;simp only[yt,Qi,Qn]at o;obtain⟨⟨⟨⟨⟨⟨hnd,hids⟩,hokv⟩,hkeep⟩,hobj⟩,hF⟩,V⟩:=o;refine⟨λt ht=>G.env t (eD.1 (hF t ht)),λid I=>G.H id ?_,G.N⟩
    simp only[okW,qao];refine⟨?_,?_⟩
    .cases W with
     |none=>cases V
     |some q=>
      obtain⟨n,l⟩:=q;simp only at V;simp only[okW,qao]at I;have R:=QS V
      cases hb:Nat.ble S.N id with
      |false=>rfl
      |true=>have:=QS hb;rw[qa7 (QJ R this)]at I;cases I.1
    .cases hb:je id (gm J.items)with
     |false=>rfl
     |true=>have:=(hids id (eD.1 hb)).2;rw[I]at this;cases this
   refine afE ((fh B x J.fg _ _ S r j.1 h).mono ?_);rintro e A ⟨S',rfl,G,u⟩
   cases e with
   |normal=>
    simp only at u;split at u
    .rename_i v hv;refine VE (Mm o hv G) ?_;exact(fh B y F W k _ r j.2 u).mono λe A ⟨S'',R,h2,h3⟩=>⟨S'',R,(P5 o v).trans h2,h3⟩
    .cases u
   |exit i|goto l|ret|panic c|outgrown=>exact⟨S',rfl,hsub S' G,u⟩
  .cases h
 | .cond c x y,nt,ρ,F,W,k,S,r,j,h=>by
  simp only[SA.xY]at j;simp only[qS]at h;split at h
  .rename_i b hb;have hv:c.val S.st= .bool b:=by rw[w8 j.1.1,hb];rfl
   refine aj7 hv ?_
   cases b with
   |true=>exact fh B x F W k S r j.1.2 h
   |false=>exact fh B y F W k S r j.2 h
  .rename_i hb;have hv:c.val S.st= .iD:=by rw[w8 j.1.1,hb];rfl
   obtain⟨R,h2⟩:=afs h;exact ahe hv (fh B x F W k S r j.1.2 R) (fh B y F W k S r j.2 h2)
  .cases h
 | .block id x,nt,ρ,F,W,k,S,r,j,h=>by
  refine ahf ((fh B x F W _ S r j h).mono ?_);rintro e A ⟨S',rfl,G,u⟩
  cases e with
  |exit i=>
   simp only at u;simp only[Jb];split at u
   .rename_i hi;rw[Qe (Qp hi)];exact⟨S',rfl,G,u⟩
   .rename_i hi;rw[Qg (qbT hi)];exact⟨S',rfl,G,u⟩
  |normal|goto l|ret|panic c|outgrown=>exact⟨S',rfl,G,u⟩
 | .loop J x,nt,ρ,F,W,k,S,r,j,h=>by
  simp only[qS]at h;split at h
  .rename_i o;split at h
   .rename_i v0 hv0
    have hsub:∀v S',jC J.fg (some (S.N,gm J.items)) (unpack K S J v) S'->jC F W S S':=by
     intro v S' G;have H:=P5 (K:=K) o v;refine H.trans ?_;simp only[yt,Qi,Qn]at o;obtain⟨⟨⟨⟨⟨⟨hnd,hids⟩,hokv⟩,hkeep⟩,hobj⟩,hF⟩,V⟩:=o;refine⟨λt ht=>G.env t (eD.1 (hF t ht)),λid I=>G.H id ?_,G.N⟩
     simp only[okW,qao];refine⟨?_,?_⟩
     .cases W with
      |none=>cases V
      |some q=>
       obtain⟨n,l⟩:=q;simp only at V;simp only[okW,qao]at I;have R:=QS V
       cases hb:Nat.ble S.N id with
       |false=>rfl
       |true=>have:=QS hb;rw[qa7 (QJ R this)]at I;cases I.1
     .cases hb:je id (gm J.items)with
      |false=>rfl
      |true=>have:=(hids id (eD.1 hb)).2;rw[I]at this;cases this
    have hself:∀v S',jC J.fg (some (S.N,gm J.items)) (unpack K S J v) S'->∀v',pack K S' J.items=some v'->∀(E:En) (a:Act) (w:Wo) (L:Nat->Va),Rel E S'.st a w L->∃L',Rel E (unpack K S J v').st a w L':=by
     intro v S' G v' hv' E a w L hrel;have hc:=o;simp only[yt,Qi,Qn]at hc;obtain⟨⟨⟨⟨⟨⟨hnd,hids⟩,hokv⟩,hkeep⟩,hobj⟩,hF⟩,V⟩:=hc;refine⟨L,Rel.meet o hv' (λt ht=>(G.env t ht).trans ?_) (λid I hni=>(G.H id ?_).trans ?_) (by have:=G.N;rw[unpack,IC,Ue]at this;exact this) hrel⟩
     .have hns:je t (slotsOf J.items)=false:=by simpa using(hkeep t ht).2
      rcases DI (K:=K) (S.base J.fg) J.items v t with⟨⟨i,d⟩,hmem,R,h2⟩|⟨_,h2⟩
      .exact absurd (Hh (nv hmem) R) (uv hns)
      .rw[show(unpack K S J v).env t=_ from h2,KB,Qe ht]
     .simp only[okW,qao];refine⟨?_,?_⟩
      .cases hb:Nat.ble S.N id with
       |false=>rfl
       |true=>have:=QS hb;omega
      .cases hb:je id (gm J.items)with
       |false=>rfl
       |true=>exact absurd (eD.1 hb) hni
     .rcases ID (K:=K) (S.base J.fg) J.items v id hnd with⟨⟨i,d⟩,hmem,R,h2⟩|⟨_,h2⟩
      .exact absurd (wZ (nv hmem) R) hni
      .rw[show(unpack K S J v).H id=_ from h2,Uf,Qe I]
    obtain⟨n,hn⟩:=Fa h
    refine aab (λm A=>∃v,A=(unpack K S J v).st/\uN (λv=>qS K Γ x J.fg (some (S.N,gm J.items)) (λe S'=>match e with
     | .normal=>(match pack K S' J.items with|some v=>some (inl v)|none=>none)
     |e=>(k e S').map inr) (unpack K S J v)) m v=some r) n (Mm o hv0 (jC.refl _ _ _)) ⟨v0,rfl,hn⟩ ?_
    rintro m A ⟨v,rfl,H⟩
    cases m with
    |zero=>cases H
    |succ m=>
     simp only[uN]at H;split at H
     .cases H
     .rename_i r' hs;injection H with H
      subst H;refine(fh B x J.fg _ _ _ _ j hs).mono ?_;rintro e A ⟨S',rfl,G,u⟩
      cases e with
      |normal=>simp only at u;split at u<;>cases u
      |exit i|goto l|ret|panic c|outgrown=>simp only[Qq]at u;obtain⟨q,hq,e⟩:=u;injection e with e;subst e;exact⟨S',rfl,hsub v S' G,hq⟩
     .rename_i v' hs;refine(fh B x J.fg _ _ _ _ j hs).mono ?_;rintro e A ⟨S',rfl,G,u⟩
      cases e with
      |normal=>
       simp only at u;split at u
       .rename_i v1 hv1;injection u with u
        injection u with u
        subst u;exact⟨m,qav m,_,hself v S' G v1 hv1,v1,rfl,H⟩
       .cases u
      |exit i|goto l|ret|panic c|outgrown=>simp only[Qq]at u;obtain⟨q,hq,e⟩:=u;cases e
   .cases h
  .cases h
 | .OW n x,nt,ρ,F,W,k,S,r,j,h=>by
  simp only[qS]at h;have⟨g,hg,h⟩:=(⟨_,rfl,h⟩:∃g,g=_/\XW g n S=some r);refine aab (λm A=>∃S1:bb U,A=S1.st/\jC F W S S1/\XW g m S1=some r) n (λE a w L h=>⟨L,h⟩) ⟨S,rfl,jC.refl _ _ _,h⟩ ?_
  rintro m A ⟨S1,rfl,hf1,H⟩
  cases m with
  |zero=>cases H
  |succ m=>
   simp only[XW]at H;rw[hg]at H;simp only at H;rw[<-hg]at H;refine(fh B x F W _ S1 r j H).mono ?_;rintro e A ⟨S',rfl,G,u⟩
   cases e with
   |normal=>exact⟨m,qav m,S'.st,λE a w L h=>⟨L,h⟩,S',rfl,hf1.trans G,u⟩
   |exit i|goto l|ret|panic c|outgrown=>exact⟨S',rfl,hf1.trans G,u⟩
 | .back J f kk nE T tg p0 p1 x y,nt,ρ,F,W,k,S,r,j,h=>by
  simp only[SA.xY]at j;simp only[qS]at h;obtain⟨D,hD⟩:∃D,SC.vd (.Iz (.tmp tg) [p0,p1] x.erase y.erase)=D:=⟨_,rfl⟩;rw[hD]at h;split at h
  .rename_i hcond;simp only[Qi]at hcond;obtain⟨⟨⟨⟨⟨⟨hbk,hsz⟩,hnE⟩,htk⟩,hkD⟩,hFD⟩,o⟩:=hcond;have hsz:=Qp hsz;have htk:=eD.1 htk
   have htD:tg∉D:=λH=>by have:=Qn.1 hkD tg H;rw[eD.2 htk]at this;cases this
   have hp:∀q,q=p0\/q=p1->je q J.fg=false:=by
    intro q hq;have hqD:q∈D:=by rw[<-hD];rcases hq with rfl|rfl<;>simp[SC.vd]
    simpa using Qn.1 hkD q hqD
   split at h
   .rename_i f' T' xs' hclo;split at h
    .rename_i hff;have hff:=Qp hff;subst hff;split at h
     .rename_i xs hcast;obtain⟨eT,hxs⟩:=rC hcast;subst eT;simp only at hxs;subst hxs;split at h
      .rename_i v0 hv0;obtain⟨hin,hev⟩:=ag8 (K:=K) hsz hnE xs;have⟨step,hstep,h⟩:=(⟨_,rfl,h⟩:∃step,step=_/\pV step (λv=>k .normal (unpack K (S.ik D) J v)) xs.reverse v0=some r)
       have hN:(S.ik D).N=S.N:=rfl;refine aj8 (Rt B hbk) hin (by rw[hD];exact htD) (λi A=>∃v,A=(unpack K (S.ik D) J v).st/\pV step (λv=>k .normal (unpack K (S.ik D) J v)) (xs.take i).reverse v=some r) ?_ ?_ ?_ ?_
       .rw[hD,<-PJ];refine⟨_,Mm o hv0 (jC.refl _ _ _),v0,rfl,?_⟩;rw[QD,QK];exact h
       .rintro i A ⟨v,rfl,_⟩;show((unpack K (S.ik D) J v).env tg).pv=_;rw[Wt o v htk];have:(S.ik D).env tg=S.env tg:=(Kq hkD none S).env tg htk;rw[this,hclo];rfl
       .rintro m A e ⟨v,rfl,H⟩ he;rw[QG,Qq]at he;obtain⟨a,ha,rfl⟩:=he;have hml:m<xs.length:=(QH.1 ha).1;rw[List.take_add_one,ha,qbz,List.reverse_append]at H;simp only[List.reverse_cons,List.reverse_nil,List.nil_append,List.singleton_append,pV]at H;rw[List.length_reverse,List.length_take,qaD (qbV hml)]at H
        obtain⟨z,hz,hzr⟩:∃z,step m a v=some z/\(match z with| .inr r'=>r'=r| .inl s'=>pV step (λv=>k .normal (unpack K (S.ik D) J v)) (xs.take m).reverse s'=some r):=by
         split at H
         .cases H
         .rename_i r' hs;injection H with H
          exact⟨_,hs,H⟩
         .rename_i s' hs;exact⟨_,hs,H⟩
        clear H;rw[hstep]at hz;simp only at hz
        have hst:({(unpack K (S.ik D) J v).st with env:=bZ (bZ (unpack K (S.ik D) J v).st.env p0 (.int .i64 m)) p1 (D2 nE (U.pv _ a))}:St)=bb.st {(unpack K (S.ik D) J v)with env:=jd (jd (unpack K (S.ik D) J v).env p0 (.int .i64 m)) p1 (CK K _ a)}:=by
         have henv:bZ (bZ (unpack K (S.ik D) J v).st.env p0 (.int .i64 m)) p1 (D2 nE (U.pv _ a))=λt=>((jd (jd (unpack K (S.ik D) J v).env p0 (.int .i64 m)) p1 (CK K _ a)) t).pv:=by
          funext t
          simp only[eC,hev];unfold bZ;split
          .rfl
          .split
           .rfl
           .rfl
         exact qag (λe=>({(unpack K (S.ik D) J v).st with env:=e}:St)) henv
        rw[hst]
        have hf0:jC J.fg (some (S.N,gm J.items)) (unpack K (S.ik D) J v) {(unpack K (S.ik D) J v)with env:=jd (jd (unpack K (S.ik D) J v).env p0 (.int .i64 m)) p1 (CK K _ a)}:=by
         refine⟨λt ht=> ?_,λ_ _=>rfl,Qs _⟩
         simp only[eC];rw[du _ _ (λe=>by have:=hp t (.inr e);rw[eD.2 ht]at this;cases this),du _ _ (λe=>by have:=hp t (.inl e);rw[eD.2 ht]at this;cases this)]
        refine(fh B x J.fg _ _ _ _ j.1 hz).mono ?_;rintro e A ⟨S1,rfl,hf1,M⟩
        cases e with
        |normal=>
         simp only at M;refine(fh B y J.fg _ _ _ _ j.2 M).mono ?_;rintro e A ⟨S2,rfl,hf2,s⟩;have hf3:jC J.fg (some (S.N,gm J.items)) (unpack K (S.ik D) J v) (S2.ik D):=((hf0.trans hf1).trans hf2).trans (Kq hkD _ _);have hf4:jC F W S (S2.ik D):=(Kq hFD W S).trans (YO o v hf3);rw[hD]
         cases e with
         |normal=>
          simp only at s;split at s
          .rename_i v' hv';injection s with s
           subst s;refine⟨_,?_,v',rfl,hzr⟩;rw[<-PJ];exact aeP o v hf3 hv'
          .cases s
         |ret|exit i=>simp only[Qq]at s;obtain⟨q,hq,rfl⟩:=s;simp only at hzr;subst hzr;exact⟨S2.ik D,(PJ _ _).symm,hf4,hq⟩
         |goto i|panic ch|outgrown=>cases s
        |ret|exit i|goto i|panic ch|outgrown=>cases M
       .rintro A ⟨v,rfl,H⟩;simp only[List.take_zero,List.reverse_nil,pV]at H;exact⟨_,rfl,(Kq hFD W S).trans (YO o v (jC.refl _ _ _)),H⟩
      .cases h
     .cases h
    .cases h
   .cases h
  .cases h
 | .inl r1 d f c xs n rvs x r2,nt,ρ,F,W,k,S,r,j,h=>by
  simp only[SA.xY]at j;obtain⟨⟨xZ,ok2,okx,okv⟩,hnr,hfn,hokx⟩:=j;simp only[qS]at h;split at h
  .rename_i hoff;refine aj5 B hfn hnr hoff xZ ok2 okx okv h λS1 M=> ?_
   split at M
   .rename_i A_s has;split at M
    .rename_i o;refine⟨A_s,has,o,(fh B x _ W _ _ r hokx M).mono ?_⟩;rintro e A ⟨S2,rfl,G,s⟩
     cases e with
     |ret=>
      simp only at s;split at s
      .rename_i v hv;split at s
       .rename_i hdk;exact⟨S2,rfl,G,.inl rfl,v,hv,hdk,s⟩
       .cases s
      .cases s
     |normal=>
      simp only at s;split at s
      .rename_i v hv;split at s
       .rename_i hdk;exact⟨S2,rfl,G,.inr rfl,v,hv,hdk,s⟩
       .cases s
      .cases s
     |exit i|goto l|panic c|outgrown=>cases s
    .cases M
   .cases M
  .cases h
 | .ps p x,nt,ρ,F,W,k,S,r,j,h=>by
  simp only[qS]at h;split at h
  .rename_i V;simp only[Qi]at V;split at h
   .rename_i S1 hp;refine VE (λE a w L hr=>Ps.sound K hp hr) ((fh B x F W k S1 r j h).mono λe A ⟨S'',R,h2,h3⟩=>⟨S'',R,jC.trans ?_ h2,h3⟩)
    exact(Ps.frm hp V.1).toC V.2
   .cases h
  .cases h
 | .DJ p x,nt,ρ,F,W,k,S,r,j,h=>by
  refine aj4 (fh B x F W _ S r j h) ?_;rintro e A ⟨S',rfl,G,u⟩
  cases e with
  |normal=>
   simp only at u;split at u
   .rename_i V;simp only[Qi]at V;split at u
    .rename_i S1 hp;exact⟨S1.st,⟨S1,rfl,G.trans ((Ps.frm hp V.1).toC V.2),u⟩,λE a w L hr=>Ps.sound K hp hr⟩
    .cases u
   .cases u
  |exit i|goto l|ret|panic c|outgrown=>exact⟨_,⟨S',rfl,G,u⟩,λE a w L hr=>⟨L,hr⟩⟩
end
end
section
open Go.RowKit
section
variable{P:Pr}{E:En}{S:St}{a:Act}{w:Wo}{L:Nat->Va}{nt:Nat}
def VS.post{sc:SC}{Q g:Exit->St->Prop}{S:St}(h:VS P nt sc Q S)(j:∀e A,Q e A->∃b,(∀(E:En) (a:Act) (w:Wo) (L:Nat->Va),Rel E A a w L->∃f,Rel E b a w f)/\g e b):VS P nt sc g S:=
 λc hs l E m k a w L i=>qaB (h c hs l E m k a w L i) λe a' w' ⟨S',f,h1,q⟩=>by obtain⟨b,p,o⟩:=j e S' q;obtain⟨d,n⟩:=p E a' w' f h1;exact⟨b,d,n,o⟩
def Rel.amw(h:Rel E S a w L){id:Nat}{cs:Z PV}(d:id<S.N)(e:(S.H id).c= .box cs):Rel E {S with H:=bZ S.H id ⟨(S.H id).aw,.box (cs.map nz)⟩} a w L:=by
 have:=(h.xN (w':=w) d ⟨(S.H id).aw,.box (cs.map nz)⟩ (L id) (.inl ⟨rfl,rfl,by rw[e];rfl⟩) rfl rfl rfl (Qs _) (λ_ _ _=>rfl) (λb _ i=> .inl ⟨by rw[e];rfl,i⟩) (λhs g=>by
  obtain⟨b,f,T,h1,l,k,j⟩:=h.tV d e
  exact⟨b,f,T,h1,l,j,(k.mono hs g).nz⟩)).1
 rwa [Jp]at this
end
section
variable{U:TU}
variable(K:TK U)
def RC(S:bb U)(ex:Y Nat):(r:sH U)->KV U->Y r.den
 | .one T,x=>G1 K S.lk T x
 | .many b,x=>(match x with| .ff xs=>XP K S.lk b xs|_=>none)
 | .fn a,x=>(match Nat.ble a.depth 9 with|true=>RE K S ex a x|false=>none)
variable{K}
def Vv{S:bb U}{ex:Y Nat}(b:∀id,ex=some id->∀e k T xs,(S.H id).c≠ .row e k T xs){r:sH U}{x:KV U}{v:r.den}(h:RC K S ex r x=some v):fz S.st.H ex 9 x.pv=xQ r v:=by
 cases r with
 |one T=>exact PD b 7 h
 |many f=>
  simp only[RC]at h;split at h
  .rename_i xs;rw[KV.pv,KV.dm,fz,xQ,ZH b 6 f _ v h]
  .cases h
 |fn a=>
  simp only[RC]at h;split at h
  .rename_i d;exact abR b a 9 x v (QS d) h
  .cases h
variable(K)
def RM(A_s:Z (KV U)):bb U:=
 {env:=λt=>(A_s[t]?).getD .undef,H:=λ_=>⟨0,.dead⟩,N:=0}
def ahh(pos:Nat)(cs A_s:Z (KV U)):bb U:=
 {env:=λt=>((my pos [KV.ptr 0 0 0] A_s)[t]?).getD .undef,H:=λid=>(match Nat.beq id 0 with|true=>⟨0,.box cs⟩|false=>⟨0,.dead⟩),N:=1}
def ZC{ρ:Type}(ex:Y Nat)(b:Z RV)(r:sH U)(k:bb U->r.den->Y ρ)(e:Exit)(S:bb U):Y ρ:=
 match e with
 | .ret| .normal=>(match BG S b with
  |some x=>(match RC K S ex r x with|some v=>k S v|none=>none)
  |none=>none)
 |_=>none
def FD(S:bb U):Z RV->Bool
 |[]=>true
 | .tmp _::l=>FD S l
 | .cell t _::l=>(match S.env t with| .ptr id _ _=> !Nat.beq id 0|_=>false)&&FD S l
 def Zw(Γ:Z (eB U))(sa:SA U)(b:Z RV)(A_s:Z (dK U))(r:sH U)(a:fb A_s):Y r.den:=
 qS K Γ sa [] (some (0,[])) (ZC K none b r λ_ v=>some v) (RM (yv K A_s a))
 def rcK(Γ:Z (eB U))(sa:SA U)(b:Z RV)(pos:Nat)(R:U.Ty)(A_s:Z (dK U))(r:sH U)(s:U.den R)(a:fb A_s):Y (r.den×U.den R):=
 qS K Γ sa [] (some (0,[])) (ZC K (some 0) b r λS v=>(match FD S b with
  |true=>(match S.xk 0 0 with
   |some cs=>(match K.dec R vh cs with|some s'=>some (v,s')|none=>none)
   |none=>none)
  |false=>none)) (ahh pos (K.gu R s) (yv K A_s a))
 def nwK(Γ:Z (eB U))(sa:SA U)(b:Z RV)(A_s:Z (dK U))(R:U.Ty)(a:fb A_s):Y (U.den R):=
 qS K Γ sa [] (some (0,[])) (λe S=>(match e with
  | .ret=>(match BG S b with
   |some (.ptr id aw 0)=>(match S.xk id aw with|some cs=>K.dec R vh cs|none=>none)
   |_=>none)
  |_=>none)) (RM (yv K A_s a))
variable{K}
variable{P:Pr}{nt:Nat}
def AW:∀(A_s:Z (dK U)) (a:fb A_s),(iK A_s a).length=A_s.length
 |[],_=>by rw[iK];rfl
 |_::l,a=>by rw[iK,QN,AW l a.2,QN]
def Oe(A_s:Z (dK U))(a:fb A_s):(RM (yv K A_s a)).st=eE 0 false [] (iK A_s a):=by
 unfold RM bb.st eE;congr 1
 .funext t
  rw[<-Eb K];simp only[QB,Qx,Wy,QG];cases (yv K A_s a)[t]?<;>rfl
def akb(pos:Nat)(R:U.Ty)(s:U.den R)(A_s:Z (dK U))(a:fb A_s):(ahh pos (K.gu R s) (yv K A_s a)).st=eE pos true (U.pv R s) (iK A_s a):=by
 unfold ahh bb.st eE;congr 1
 .funext t
  rw[<-Eb K];simp only[Qr];have:(my pos [PV.ptr 0 0 0] ((yv K A_s a).map KV.pv))=(my pos [KV.ptr 0 0 0] (yv K A_s a)).map KV.pv:=by simp[my,KV.pv]
  rw[this,QG];cases (my pos [KV.ptr 0 0 0] (yv K A_s a))[t]?<;>rfl
 .funext id
  cases id with
  |zero=>simp only[qaN,Qr,dJ.pv,eF.pv,K.wO]
  |succ id=>simp[Nat.beq,dJ.pv,eF.pv]
def M6{ρ:Type}{ex:Y Nat}{b:Z RV}{r:sH U}{k:bb U->r.den->Y ρ}{e:Exit}{S:bb U}{z:ρ}(h:ZC K ex b r k e S=some z):(e= .ret\/e= .normal)/\∃x v,BG S b=some x/\RC K S ex r x=some v/\k S v=some z:=by
 unfold ZC at h
 have go:∀{o:Y ρ},o=some z->o=(match BG S b with
  |some x=>(match RC K S ex r x with|some v=>k S v|none=>none)
  |none=>none)->∃x v,BG S b=some x/\RC K S ex r x=some v/\k S v=some z:=by
  intro o f he;rw[f]at he;replace he:=he.symm;split at he
  .rename_i x d;split at he
   .rename_i v hv;exact⟨x,v,d,hv,he⟩
   .cases he
  .cases he
 split at h
 .exact⟨.inl rfl,go h rfl⟩
 .exact⟨.inr rfl,go h rfl⟩
 .cases h
def MY{f:FI}{Γ:Z (eB U)}{sa:SA U}{i:Z RV}{A_s:Z (dK U)}{r:sH U}(n:jD P f nt sa.erase i)(k:sa.xY P)(d:A_s.length<=nt)(j:xt P Γ){F:fb A_s->Y r.den}(hF:∀a,Zw K Γ sa i A_s r a=F a):eB.Sound P (.fn f A_s r F):=by
 refine⟨n.enters,λa v hv=> ?_⟩
 rw[<-hF a]at hv;refine n.T7 (by simpa[AW]using d) ?_
 rw[<-Oe (K:=K)];refine(fh j sa [] _ _ _ _ k hv).mono ?_;rintro e A ⟨S',rfl,_,hk⟩;obtain⟨he,x,v',h1,p,m⟩:=M6 hk;injection m with m
 subst m
 have b:Di i false (λo g=>o=xQ r v'/\(false=true->g=[])) S'.st:=by unfold Di;rw[Fx h1];exact⟨Vv (λid l=>by cases l) p,λh=>by cases h⟩
 rcases he with rfl|rfl<;>exact b
 def alw(K:TK U)(Γ:Z (eB U))(sa:SA U)(b:Z RV)(A_s:Z (dK U))(r:sH U)(a:fb A_s):Y r.den:=
 qS K Γ sa [] (some (0,[])) (ZC K none b r λ_ v=>some v) ((RM (yv K A_s a)).more 1)
def adf{f:FI}{Γ:Z (eB U)}{sa:SA U}{i:Z RV}{A_s:Z (dK U)}{r:sH U}(n:jD P f nt sa.erase i)(k:sa.xY P)(d:A_s.length<=nt)(j:xt P Γ){F:fb A_s->Y r.den}(hF:∀a,alw K Γ sa i A_s r a=F a):eB.Sound P (.fn f A_s r F):=by
 refine⟨n.enters,λa v hv=> ?_⟩
 rw[<-hF a]at hv;refine n.T7 (by simpa[AW]using d) ?_
 rw[<-Oe (K:=K)];refine(VE (S':=((RM (yv K A_s a)).more 1).st) (λE a w L h=>⟨L,h.room 1⟩) (fh j sa [] _ _ _ _ k hv)).mono ?_
 rintro e A ⟨S',rfl,_,hk⟩;obtain⟨he,x,v',h1,p,m⟩:=M6 hk;injection m with m
 subst m
 have b:Di i false (λo g=>o=xQ r v'/\(false=true->g=[])) S'.st:=by unfold Di;rw[Fx h1];exact⟨Vv (λid l=>by cases l) p,λh=>by cases h⟩
 rcases he with rfl|rfl<;>exact b
def aeD{S:bb U}{id aw:Nat}{cs:Z (KV U)}(d:S.xk id aw=some cs){R:U.Ty}{s:U.den R}(b:K.dec R vh cs=some s)(e:id<S.N):(∀(E:En) (a:Act) (w:Wo) (L:Nat->Va),Rel E S.st a w L->∃g,Rel E {S.st with H:=bZ S.st.H id ⟨aw,.box (U.pv R s)⟩} a w g):=by intro E a w L h;obtain⟨h1,f⟩:=Af d;have:=h.amw e f;rw[h1,(yu (K.qT _ _ _ _ b)).1]at this;exact⟨L,this⟩
def Zt(K:TK U)(R:U.Ty)(s:U.den R):(U.pv R s).all PV.closed=true:=Qn.2 λy b=>iE (K.gJ R s y b)
def aea{f:FI}{Γ:Z (eB U)}{sa:SA U}{rs:Z RV}{pos:Nat}{R:U.Ty}{A_s:Z (dK U)}{r:sH U}(hf:jD P f nt sa.erase rs)(u:sa.xY P)(l:1+A_s.length<=nt)(p:xt P Γ)
  {F:U.den R->fb A_s->Y (r.den×U.den R)} (hF:∀s a,rcK K Γ sa rs pos R A_s r s a=F s a):eB.Sound P (.rc f pos R A_s r F):=by
 refine⟨hf.enters,λs a v s' hv=> ?_⟩
 rw[<-hF s a]at hv;refine hf.T7 (by simpa[AW]using l) ?_
 rw[<-akb (K:=K)];refine(fh p sa [] _ _ _ _ u hv).post ?_;rintro e A ⟨S',rfl,D,hk⟩;obtain⟨he,x,v',h1,h2,h⟩:=M6 hk;split at h
 case h_2=>cases h
 rename_i B;split at h
 .rename_i cs hb;split at h
  .rename_i b hd;injection h with h
   injection h with h4 h5
   subst h4 h5;have hN:0<S'.N:=QW (show 0<1 from Nat.one_pos) D.N
   refine⟨_,aeD hb hd hN,?_⟩;have h6:=Fx h1
   have j:∀rs:Z RV,FD S' rs=true->AD {S'.st with H:=bZ S'.st.H 0 ⟨0,.box (U.pv R b)⟩} rs=AD S'.st rs:=by
    intro rs d
    induction rs with
    |nil=>rfl
    |cons q rs o=>
     cases q with
     |tmp t=>simp only[FD]at d;simp only[AD,FV,o d]
     |cell t n=>
      simp only[FD,Qi]at d;have I:=d.1;split at I
      .rename_i id aw off ht;have z:id≠0:=by intro e;subst e;simp at I
       have J:S'.st.env t= .ptr id aw off:=by simp only[bb.st,ht,KV.pv]
       simp only[AD,FV,J,du _ _ z,o d.2]
      .cases I
   have i:Di rs true (λr' m=>r'=xQ r v'/\(true=true->m=U.pv R b)) {S'.st with H:=bZ S'.st.H 0 ⟨0,.box (U.pv R b)⟩}:=by
    unfold Di
    have h7:xx {S'.st with H:=bZ S'.st.H 0 ⟨0,.box (U.pv R b)⟩} rs=some x.pv:=by rw[<-h6];unfold xx;have h8:=j rs B;simp only[h8]
    rw[h7];simp only[cJ];refine⟨Zt K R b,?_,t_⟩;have G:=(Ea hb).2;rw[<-Vv (K:=K) (S:=S') (ex:=some 0) (λid g=>by injection g with g;subst g;intro e k T xs N;rw[G]at N;cases N) h2]
    have hz:∀(n:Nat) (y:PV),fz (bZ S'.st.H 0 ⟨0,.box (U.pv R b)⟩) (some 0) n y=fz S'.st.H (some 0) n y:=by
     intro n
     induction n with
     |zero=>intro y;simp only[fz]
     |succ n o=>
      intro y;have hu:∀id,¬(some id=some 0)->bZ S'.st.H 0 ⟨0,.box (U.pv R b)⟩ id=S'.st.H id:=λid g=>du _ _ (λe=>g (by rw[e]))
      have V:fz (bZ S'.st.H 0 ⟨0,.box (U.pv R b)⟩) (some 0) n=fz S'.st.H (some 0) n:=funext o
      cases y with
      |own id aw|ptr id aw off=>
       simp only[fz,V]
       by_cases M:some id=some 0
       .rw[Qe (.inl M),Qe (.inl M)]
       .rw[hu id M]
      |agg cs|ff cs|bJ f cs=>simp only[fz,V]
      |_=>simp only[fz]
    exact hz 9 x.pv
   rcases he with rfl|rfl<;>exact i
  .cases h
 .cases h
def aeE{f:FI}{Γ:Z (eB U)}{sa:SA U}{t:Nat}{A_s:Z (dK U)}{R:U.Ty}(k:jD P f nt sa.erase [.tmp t])(i:sa.xY P)(g:A_s.length<=nt)(h:xt P Γ){F:fb A_s->Y (U.den R)}(hF:∀a,nwK K Γ sa [.tmp t] A_s R a=F a):eB.Sound P (.nw f A_s R F):=by
 refine⟨k.enters,λa s hv=> ?_⟩
 rw[<-hF a]at hv;refine k.anW (by simpa[AW]using g) ?_
 rw[<-Oe (K:=K)];intro c hs p E r j a' w L o;refine qaB (fh h sa [] _ _ _ _ i hv c hs p E r j a' w L o) ?_;rintro e a2 w2 ⟨A,m,b,S',rfl,_,hk⟩;split at hk
 .split at hk
  .rename_i id aw n;split at hk
   .rename_i cs l
    have d:S'.st.env t= .ptr id aw 0:=by have:=Fx n;simpa[xx,AD,FV,KV.pv]using this
    have q:id<S'.N:=by have:=b.env t;rw[d]at this;exact(this.rQ (show(S'.st.gh m).V id=aw from(Af l).1)).1
    obtain⟨x,v⟩:=aeD l hk q E a2 w2 m b;refine⟨_,x,v,?_⟩
    have u:xx {S'.st with H:=bZ S'.st.H id ⟨aw,.box (U.pv R s)⟩} [.tmp t]=some (.ptr id aw 0):=by simp only[xx,AD,FV];rw[d]
    simp only[YH];rw[u];simp only[cJ,Qr];exact⟨Zt K R s,trivial⟩
   .cases hk
  .cases hk
 .cases hk
def ahg(e k:Nat)(T:U.Ty)(xs:Z (U.den T))(A_s:Z (KV U)):bb U:=
 {env:=λt=>(((KV.own 0 0)::A_s)[t]?).getD .undef,H:=λid=>(match Nat.beq id 0 with|true=>⟨0,.row e k T xs⟩|false=>⟨0,.dead⟩),N:=1}
def aka(e k:Nat)(T:U.Ty)(xs:Z (U.den T))(A_s:Z (dK U))(a:fb A_s):(ahg e k T xs (yv K A_s a)).st=xn e k (xs.map (U.pv T)) (iK A_s a):=by
 unfold ahg bb.st xn;congr 1
 .funext t
  rw[<-Eb K]
  cases t with
  |zero=>rfl
  |succ t=>simp only[List.getElem?_cons_succ,QG];cases (yv K A_s a)[t]?<;>rfl
 .funext id
  cases id with
  |zero=>simp[dJ.pv,eF.pv]
  |succ id=>simp[Nat.beq,dJ.pv,eF.pv]
variable(K)
def rowAt(S:bb U)(id aw e k:Nat)(T:U.Ty):Y (Z (U.den T)):=
 match S.row? id aw with
 |some r=>(match Nat.beq r.e e&&Nat.beq r.k k with|true=>DA r.T T r.xs|false=>none)
 |none=>none
def acr{S:bb U}{id aw e k:Nat}{T:U.Ty}{xs:Z (U.den T)}(h:rowAt S id aw e k T=some xs):(S.H id).aw=aw/\(S.H id).c= .row e k T xs:=by
 unfold rowAt at h;split at h
 .rename_i r i;obtain⟨h1,d⟩:=Hb i;split at h
  .rename_i b;rw[Qi]at b;obtain⟨f,rfl⟩:=rC h;obtain⟨j,rk,l,g⟩:=r;simp only at f d b;subst f;exact⟨h1,by rw[d,Qp b.1,Qp b.2]⟩
  .cases h
 .cases h
def adp{ρ:Type}(d:Z RV)(e k:Nat)(T:U.Ty)(j:Z (U.den T)->Y ρ)(f:Exit)(S:bb U):Y ρ:=
 match f with
 | .ret| .normal=>(match BG S d with
  |some (.own id aw)=>(match rowAt S id aw e k T with|some b=>j b|none=>none)
  |_=>none)
 |_=>none
 def cwK(Γ:Z (eB U))(sa:SA U)(d:Z RV)(e k:Nat)(T:U.Ty)(A_s:Z (dK U))(xs:Z (U.den T))(a:fb A_s):Y (Z (U.den T)):=
 qS K Γ sa [] (some (0,[])) (adp d e k T λb=>some b) (ahg e k T xs (yv K A_s a))
 def fwK(Γ:Z (eB U))(sa:SA U)(d:Z RV)(A_s:Z (dK U))(e k:Nat)(T:U.Ty)(a:fb A_s):Y (Z (U.den T)):=
 qS K Γ sa [] (some (0,[])) (adp d e k T λb=>some b) (RM (yv K A_s a))
variable{K}
def WL{ρ:Type}{f:Z RV}{e k:Nat}{T:U.Ty}{j:Z (U.den T)->Y ρ}{i:Exit}{S:bb U}{z:ρ}(h:adp f e k T j i S=some z):
  (i= .ret\/i= .normal)/\∃id aw b,BG S f=some (.own id aw)/\(S.H id).aw=aw/\(S.H id).c= .row e k T b/\j b=some z:=by
 have go:(match BG S f with
  |some (.own id aw)=>(match rowAt S id aw e k T with|some b=>j b|none=>none)
  |_=>none)=some z->∃id aw b,BG S f=some (.own id aw)/\(S.H id).aw=aw/\(S.H id).c= .row e k T b/\j b=some z:=by
  intro d;split at d
  .rename_i id aw l;split at d
   .rename_i b g;obtain⟨h1,m⟩:=acr g;exact⟨id,aw,b,l,h1,m,d⟩
   .cases d
  .cases d
 unfold adp at h;split at h
 .exact⟨.inl rfl,go h⟩
 .exact⟨.inr rfl,go h⟩
 .cases h
def ZD{f:Z RV}{e k:Nat}{T:U.Ty}{S':bb U}{id aw:Nat}{d:Z (U.den T)}(i:BG S' f=some (.own id aw))(h:(S'.H id).aw=aw)(g:(S'.H id).c= .row e k T d)(K:TK U):HL f e k (λb=>b=d.map (U.pv T)) .ret S'.st:=by
 simp only[HL];rw[Fx i];simp only[KV.pv];refine⟨h,?_⟩;have:(S'.st.H id).c= .row e k (d.map (U.pv T)):=by simp only[bb.st,dJ.pv,g,eF.pv]
 rw[this];exact⟨rfl,rfl,CX K T d,rfl⟩
def afh{f:FI}{Γ:Z (eB U)}{sa:SA U}{j:Z RV}{e k:Nat}{T:U.Ty}{A_s:Z (dK U)}(l:jD P f nt sa.erase j)(h:sa.xY P)(d:1+A_s.length<=nt)(g:xt P Γ)
  {F:Z (U.den T)->fb A_s->Y (Z (U.den T))} (hF:∀xs a,cwK K Γ sa j e k T A_s xs a=F xs a):eB.Sound P (.cw f e k T A_s F):=by
 refine⟨l.enters,λxs a p hv=> ?_⟩
 rw[<-hF xs a]at hv;refine l.anY (by simpa[AW]using d) ?_
 rw[<-aka (K:=K)];refine(fh g sa [] _ _ _ _ h hv).mono ?_;rintro q A ⟨S',rfl,_,hk⟩;obtain⟨he,id,aw,m,h1,o,n,i⟩:=WL hk;injection i with i
 subst i;have b:=ZD h1 o n K;rcases he with rfl|rfl<;>exact b
def ae5{f:FI}{Γ:Z (eB U)}{sa:SA U}{j:Z RV}{e k:Nat}{T:U.Ty}{A_s:Z (dK U)}(l:jD P f nt sa.erase j)(h:sa.xY P)(d:A_s.length<=nt)(g:xt P Γ)
  {F:fb A_s->Y (Z (U.den T))} (hF:∀a,fwK K Γ sa j A_s e k T a=F a):eB.Sound P (.fw f A_s e k T F):=by
 refine⟨l.enters,λa p hv=> ?_⟩
 rw[<-hF a]at hv;refine l.anX (by simpa[AW]using d) ?_
 rw[<-Oe (K:=K)];refine(fh g sa [] _ _ _ _ h hv).mono ?_;rintro q A ⟨S',rfl,_,hk⟩;obtain⟨he,id,aw,m,h1,o,n,i⟩:=WL hk;injection i with i
 subst i;have b:=ZD h1 o n K;rcases he with rfl|rfl<;>exact b
end
end
end Go.TQ
end
