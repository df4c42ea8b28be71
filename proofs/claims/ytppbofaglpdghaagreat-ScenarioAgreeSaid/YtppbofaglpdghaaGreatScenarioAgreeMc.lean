/-
  Texts made small by a program (see NOTES). Conditions: those that each theorem names.
-/
import Derived.Test.YtppbofaglpdghaaGreatScenarioAgreeMb
import Derived.KernelRfl
import Derived.Laws.CopyRow
import Derived.Laws.Externs
import Derived.Lib.Overlaps
import Derived.Lib.AppendZerosOnto
import Derived.Laws.NewBlocks
import Derived.Test.YtppbofaglpdghaaGreatProg
import Derived.Shelf.Spec.SlicesInsert
import Derived.Shelf.SlSortCmp.NoneTotal
set_option linter.unusedVariables false
set_option linter.defProp false
set_option linter.unusedSimpArgs false
set_option linter.unusedSectionVars false
set_option maxHeartbeats 2000000
open Int (toNat)
open Sum (inl inr)
open List (replicate)
noncomputable section
namespace Go.TQ
section
open Go.RowKit
def jJ{b ρ:Type}(step:b->Y (b⊕ρ)):Nat->b->Y ρ
 |0,_=>none
 |n+1,s=>match step s with
  |none=>none
  |some (.inr r)=>some r
  |some (.inl s')=>jJ step n s'
def A8{b ρ:Type}{step:b->Y (b⊕ρ)}{r:ρ}:∀{n m:Nat} {s:b},n<=m->jJ step n s=some r->jJ step m s=some r
 |0,_,_,_,h=>by cases h
 |n+1,0,_,d,_=>O
 |n+1,m+1,s,d,h=>by
  simp[jJ]at h ⊢;split at h
  .cases h
  .exact h
  .exact A8 O h
def Ip{b ρ:Type}{step:b->Y (b⊕ρ)}{r r':ρ}{n m:Nat}{s:b}(h:jJ step n s=some r)(l:jJ step m s=some r'):r=r':=by
 have j:=A8 (Nat.le_max_left n m) h;have d:=A8 (Nat.le_max_right n m) l;rw[j]at d;injection d
 def Mq{b ρ:Type}(step:b->Y (b⊕ρ))(n:Nat):b->Y ρ:=
 Nat.rec (motive:=λ_=>b->Y ρ) (λ_=>none) (λ_ d s=>Option.rec none (λx=>Sum.rec (λs'=>d s') (λr=>some r) x) (step s)) n
def E7{b ρ:Type}(step:b->Y (b⊕ρ)):∀(n:Nat) (s:b),Mq step n s=jJ step n s
 |0,_=>rfl
 |n+1,s=>by
  show(Option.rec none (λx=>Sum.rec (λs'=>Mq step n s') (λr=>some r) x) (step s):Y ρ)=_
  rw[jJ]
  cases step s with
  |none=>rfl
  |some x=>cases x with
   |inl s'=>exact E7 step n s'
   |inr r=>rfl
open Classical in
 def aE{b ρ:Type}(step:b->Y (b⊕ρ))(s:b):Y ρ:=
 match Mq step 18446744073709551616 s with
 |some r=>some r
 |none=>if h:∃r,∃n,jJ step n s=some r then some (Classical.choose h)else none
def wj{b ρ:Type}{step:b->Y (b⊕ρ)}{s:b}{r:ρ}(h:aE step s=some r):∃n,jJ step n s=some r:=by
 unfold aE at h;split at h
 .rename_i l;injection h with h
  subst h;exact⟨_,(E7 _ _ _).symm.trans l⟩
 .split at h
  .rename_i d;injection h with h
   let⟨n,j⟩:=qbw d
   exact⟨n,by rw[j,h]⟩
  .cases h
def EN{b ρ:Type}{step:b->Y (b⊕ρ)}{s:b}{r:ρ}{n:Nat}(h:jJ step n s=some r):aE step s=some r:=by
 unfold aE;split
 .rename_i j;rw[Ip ((E7 _ _ _).symm.trans j) h]
 .have d:∃r,∃n,jJ step n s=some r:=⟨r,n,h⟩;rw[dif_pos d]
  let⟨m,hm⟩:=qbw d
  rw[Ip hm h]
def AP{j ρ:Type}(step:j->Y (j⊕ρ))(s:j):aE step s=match step s with|none=>none|some (.inr r)=>some r|some (.inl s')=>aE step s':=by
 cases d:step s with
 |none=>
  cases h:aE step s with
  |none=>rfl
  |some r=>
   let⟨n,b⟩:=wj h
   cases n with
   |zero=>cases b
   |succ n=>simp[jJ,d]at b
 |some x=>
  cases x with
  |inr r=>exact EN (n:=1) (by simp[jJ,d])
  |inl s'=>
   simp only
   cases l:aE step s' with
   |some r=>
    let⟨n,b⟩:=wj l
    exact EN (n:=n+1) (by simp[jJ,d];exact b)
   |none=>
    cases h:aE step s with
    |none=>rfl
    |some r=>
     let⟨n,b⟩:=wj h
     cases n with
     |zero=>cases b
     |succ n=>simp[jJ,d]at b;rw[EN b]at l;cases l
open Classical in
 def both{ρ:Type}(x y:Y ρ):Y ρ:=if x=y then x else none
def Oa{ρ:Type}{x y:Y ρ}{r:ρ}(h:both x y=some r):x=some r/\y=some r:=by
 unfold both at h;split at h
 .rename_i e;exact⟨h,e▸h⟩
 .cases h
@[simp] def uN {ρ:Type} (x:Y ρ):both x x=x:=Qc rfl
def aX{b ρ:Type}(j:b->Y ρ)(f:(b->Y ρ)->Y ρ):Y ρ:=f j
def oS{α d ρ:Type}(step:Nat->α->d->Y (d⊕ρ))(b:d->Y ρ):Z α->d->Y ρ
 |[],s=>b s
 |a::l,s=>match step l.length a s with
  |none=>none
  |some (.inr r)=>some r
  |some (.inl s')=>oS step b l s'
section
variable{U:TU}
inductive SA (U:TU) where
 |skip
 |lZ (rs:RS U)
 |jl (un:List (Nat×Nat)) (rs:RS U)
 |seq (x y:SA U)
 |join (J:JS U) (x y:SA U)
 |cond (c:aQ) (x y:SA U)
 |block (id:Nat) (x:SA U)
 |loop (J:JS U) (x:SA U)
 |Eg (n:Nat) (x:SA U)
 |back (J:JS U) (f k:Nat) (nE:Option Nat) (T:U.Ty) (tg p0 p1:Nat) (x y:SA U)
 |exit (id:Nat)
 |ret
 |ps (p:Ps U) (x:SA U)
 |xa (p:Ps U) (x:SA U)
 |inl (dr:Option (List (Nat×Nat)×Option Nat)) (r1:RS U) (d:Option Nat) (f:FuncId) (c:Option aQ) (xs:List aQ) (nt:Nat) (rvs:List RV) (x:SA U) (r2:RS U)
def jK(f:FI)(c:Y aQ)(xs:Z aQ):bV:=
 match c with
 |none=> .call f xs
 |some b=> .lp b xs
def SA.erase:SA U->SC
 | .skip=> .skip
 | .lZ rs=> .lZ rs.flat
 | .jl un rs=> .jl un rs.flat
 | .seq x y=> .seq x.erase y.erase
 | .join _ x y=> .seq x.erase y.erase
 | .cond c x y=> .cond c x.erase y.erase
 | .block id x=> .block id x.erase
 | .loop _ x=> .loop x.erase
 | .Eg _ x=> .loop x.erase
 | .back _ _ _ _ _ l m p1 x y=> .zA (.tmp l) [m,p1] x.erase y.erase
 | .exit id=> .exit id
 | .ret=> .ret
 | .ps _ x| .xa _ x=>x.erase
 | .inl n j d f c xs _ _ _ b=>(match n with|none=> .lZ (j.flat++⟨d,none,jK f c xs⟩::b.flat)|some q=> .jl q.1 (j.flat++⟨d,none,jK f c xs⟩::b.flat))
def SA.bJ:SA U->Bool
 | .lZ rs| .jl _ rs=>rs.bJ
 | .seq x y| .join _ x y=>x.bJ&&y.bJ
 | .cond c x y=>c.bJ&&x.bJ&&y.bJ
 | .block _ x| .loop _ x| .Eg _ x=>x.bJ
 | .back _ _ _ _ _ _ _ _ x y=>x.bJ&&y.bJ
 | .ps _ x| .xa _ x=>x.bJ
 | .inl ..=>false
 |_=>true
def SA.nR(P:Pr):SA U->Prop
 | .lZ rs| .jl _ rs=>rs.bJ=true
 | .seq x y| .join _ x y=>x.nR P/\y.nR P
 | .cond c x y=>(c.bJ=true/\x.nR P)/\y.nR P
 | .block _ x| .loop _ x| .Eg _ x=>x.nR P
 | .back _ _ _ _ _ _ _ _ x y=>x.nR P/\y.nR P
 | .ps _ x| .xa _ x=>x.nR P
 | .inl _ j _ f c xs nt b x d=>(j.bJ=true/\d.bJ=true/\xs.all aQ.bJ=true/\c.all aQ.bJ=true)/\x.erase.By=true/\ep P f nt x.erase b/\x.nR P
 |_=>True
def iO{P:Pr}:∀{sa:SA U},sa.bJ=true->sa.nR P
 | .lZ _,h| .jl _ _,h=>h
 | .seq x y,h| .join _ x y,h=>by simp[SA.bJ,Qa]at h;exact⟨iO h.1,iO h.2⟩
 | .cond c x y,h=>by simp[SA.bJ,Qa]at h;exact⟨⟨h.1.1,iO h.1.2⟩,iO h.2⟩
 | .block _ x,h| .loop _ x,h| .Eg _ x,h| .ps _ x,h| .xa _ x,h=>iO (sa:=x) h
 | .back _ _ _ _ _ _ _ _ x y,h=>by simp[SA.bJ,Qa]at h;exact⟨iO h.1,iO h.2⟩
 | .inl ..,h=>by cases h
 | .skip,_| .exit _,_| .ret,_=>trivial
def SA.tl:SA U->Bool
 | .lZ rs| .jl _ rs=>rs.bJ
 | .seq x y| .join _ x y=>x.tl&&y.tl
 | .cond c x y=>c.bJ&&x.tl&&y.tl
 | .block _ x| .loop _ x| .Eg _ x=>x.tl
 | .back _ _ _ _ _ _ _ _ x y=>x.bJ&&y.bJ
 | .ps _ x| .xa _ x=>x.tl
 | .inl _ d _ _ c xs _ _ x b=>d.bJ&&b.bJ&&xs.all aQ.bJ&&c.all aQ.bJ&&x.erase.By&&x.tl
 |_=>true
def SA.HM:SA U->Z (FI×Nat×SC×Z RV)
 | .seq x y| .join _ x y| .cond _ x y=>x.HM++y.HM
 | .block _ x| .loop _ x| .Eg _ x| .ps _ x| .xa _ x=>x.HM
 | .inl _ _ _ f _ _ nt b x _=>(f,nt,x.erase,b)::x.HM
 |_=>[]
def oW(P:Pr):Z (FI×Nat×SC×Z RV)->Prop
 |[]=>True
 |q::l=>ep P q.1 q.2.1 q.2.2.1 q.2.2.2/\oW P l
def oW.bA{P:Pr}:∀{a b:Z (FI×Nat×SC×Z RV)},oW P (a++b)->oW P a/\oW P b
 |[],_,h=>⟨trivial,h⟩
 |_::a,_,h=>⟨⟨h.1,(oW.bA (a:=a) h.2).1⟩,(oW.bA (a:=a) h.2).2⟩
def tk{P:Pr}:∀{sa:SA U},sa.tl=true->oW P sa.HM->sa.nR P
 | .lZ _,h,_| .jl _ _,h,_=>h
 | .seq x y,h,k| .join _ x y,h,k=>by simp[SA.tl,Qa]at h;exact⟨tk h.1 (oW.bA k).1,tk h.2 (oW.bA k).2⟩
 | .cond c x y,h,k=>by simp[SA.tl,Qa]at h;exact⟨⟨h.1.1,tk h.1.2 (oW.bA k).1⟩,tk h.2 (oW.bA k).2⟩
 | .block _ x,h,k| .loop _ x,h,k| .Eg _ x,h,k| .ps _ x,h,k| .xa _ x,h,k=>tk (sa:=x) h k
 | .back _ _ _ _ _ _ _ _ x y,h,_=>by simp[SA.tl,Qa]at h;exact⟨iO h.1,iO h.2⟩
 | .inl _ l d f c xs nt b x j,h,k=>by simp only[SA.tl,Qa]at h;exact⟨⟨h.1.1.1.1.1,h.1.1.1.1.2,h.1.1.1.2,h.1.1.2⟩,h.1.2,k.1,tk h.2 k.2⟩
 | .skip,_,_| .exit _,_,_| .ret,_,_=>trivial
variable(K:TK U)
def p6(H:Nat->bu U):Nat->PV->Z Nat
 |0,_=>[]
 |n+1,.own id _=>id::(match(H id).c with| .raw _ _ es=>es.flatMap (λe=>(e.map KV.pv).flatMap (p6 H n))|_=>[])
 |n+1,.ptr id _ _=>id::(match(H id).c with| .box cs=>(cs.map KV.pv).flatMap (p6 H n)|_=>[])
 |n+1,.agg cs|n+1,.cg cs|n+1,.aT _ cs|n+1,.fe _ cs=>cs.flatMap (p6 H n)
 |_+1,_=>[]
def Ny{H:Nat->dg}{y:PV}(h:y.ea=true):∀n,dx H n y=[]
 |0=>by cases y<;>rfl
 |n+1=>by cases y<;>first|rfl|cases h
def Jj(K:TK U)(S:aw U):∀(n:Nat) (x:PV),p6 S.H n x=dx S.st.H n x
 |0,x=>by cases x<;>rfl
 |n+1,x=>by
  have b:p6 S.H n=dx S.st.H n:=funext λy=>Jj K S n y
  cases x with
  |own id ab=>
   simp only[p6,dx,aw.st,bu.pv,b];congr 1
   cases l:(S.H id).c with
   |dead|box cs=>rfl
   |raw e k es=>simp only[cj.pv,List.flatMap_map]
   |row e k T xs=>
    simp only[cj.pv];refine(List.flatMap_eq_nil_iff.2 λe j=>List.flatMap_eq_nil_iff.2 λy d=> ?_).symm
    obtain⟨z,_,rfl⟩:=Qq.1 j;exact Ny (K.ea T z y d) n
  |ptr id ab off=>simp only[p6,dx,aw.st,bu.pv,b];congr 1;cases l:(S.H id).c<;>rfl
  |agg cs|cg cs|aT f cs|fe f cs=>simp only[p6,dx,b]
  |_=>rfl
def JU(nid:Nat)(S:aw U)(g:SG):Z Nat:=
 match g.wanted S.st with
 |some true=>(match g.op with
  | .call _ xs=>nid::(xs.map (·.val S.st)).flatMap (p6 S.H 9)
  | .lp f xs=>nid::(p6 S.H 10 (f.val S.st)++(xs.map (·.val S.st)).flatMap (p6 S.H 9))
  |op=>eN nid S.st op)
 |_=>[]
def Ac(K:TK U)(nid:Nat)(S:aw U)(g:SG):JU nid S g=Ad nid S.st g:=by
 have b:∀n,p6 S.H n=dx S.st.H n:=λn=>funext λy=>Jj K S n y
 unfold JU Ad;split
 .split<;>simp only[eN,b, *]
 .rename_i h;split
  .rename_i d;exact absurd d h
  .rfl
def oG(Γ:Z (bQ U)){ρ:Type}(W:WS)(base:Nat):RS U->(i:Nat)->(S:aw U)->(k:aw U->Z dV->Y ρ)->Y ρ
 | .nil,_,S,k=>k S []
 | .op o r,i,S,k=>HQ K Γ W (base+i) S o λx wr=>oG Γ W base r (i+1) (S.bA o.d x wr) λS' fs=>k S' (⟨o.d,o.bz,JU (base+i) S o,wr.map (·.1)⟩::fs)
 | .np t r,i,S,k=>(match S.env t with
  | .bool b=>bif b then oG Γ W base r i (S.bA (some t) (.bool true) none) k else oG Γ W base r i (S.bA (some t) (.bool false) none) k
  | .undef=>oG Γ W base r i S k
  |_=>none)
 |_,_,_,_=>none
def qk(F:Z Nat)(b:Z Nat):Bool:=b.all λt=> !cZ t F
def aw.more(S:aw U)(n:Nat):aw U:={env:=S.env,H:=S.H,N:=S.N+n}
def aw.dP(S:aw U)(D:Z Nat):aw U:={env:=λt=>(match cZ t D with|true=> .any|false=>S.env t),H:=S.H,N:=S.N}
def Ml(U:TU)(T:U.Ty):Y Nat->Bool
 |none=> !U.agg T
 |some n=>U.agg T&&Nat.beq n (U.size T)
def tD(S:aw U)(f:FI)(c:Y aQ)(xs:Z aQ):Y (Z (KV U)):=
 match c with
 |none=>some (xs.map (·.bP S))
 |some d=>(match d.bP S with
  | .aT g b=>(match Nat.beq g f with|true=>some (xs.map (·.bP S)++b)|false=>none)
  |_=>none)
def Oz(id:Nat):KV U->Bool
 | .ptr i _ _=>Nat.beq i id
 | .aT _ cs| .fe _ cs=>cs.any (λx=>match x with| .ptr i _ _=>Nat.beq i id|_=>false)
 |_=>false
def EF(id:Nat):KV U->Bool
 | .own i _| .cp i _ _ _ _| .view i _ _ _ _=>Nat.beq i id
 | .agg cs| .cg cs| .aT _ cs| .fe _ cs=>cs.any (λx=>match x with| .own i _| .cp i _ _ _ _| .view i _ _ _ _=>Nat.beq i id|_=>false)
 |_=>false
def gn(S:aw U)(A_s:Z (KV U))(id:Nat):Bool:=
 Nat.blt id S.N&& !Nat.beq id 0&&(match(S.H id).c with
  | .box cs=>cs.all KV.closed&& !A_s.any (Oz id)
  | .row ..=> !A_s.any (EF id)&&sn S.N (λq=>(match(S.H q).c with| .box cs=> !cs.any (EF id)|_=>true))
  |_=>false)
def Mo(S:aw U)(t:Nat):Bool:=(S.env t).jx (λid _=>Nat.blt id S.N)
def jL(S:aw U)(A_s:Z (KV U)):aw U:={env:=S.env,H:=λid=>(match gn S A_s id with|true=>⟨(S.H id).ab,.dead⟩|false=>S.H id),N:=S.N}
def Lw:cj U->Bool
 | .dead=>true
 |_=>false
def Bj(S S':aw U)(A_s:Z (KV U)):Bool:=sn S.N (λid=> !gn S A_s id||(Lw (S'.H id).c&&Nat.beq (S'.H id).ab (S.H id).ab))
def sb(S:aw U)(A_s:Z (KV U)):aw U:={env:=λt=>(A_s[t]?).getD .undef,H:=S.H,N:=S.N}
def wH(S:aw U)(t:Nat):KV U:=match Mo S t with|true=>S.env t|false=> .any
def aw.put(S:aw U)(d:Y Nat)(x:KV U):aw U:={env:=match d with|some d=>dj S.env d x|none=>S.env,H:=S.H,N:=S.N}
def aw.Jr(S:aw U)(d:Y Nat)(x:KV U):S.put d x=S.bA d x none:=by cases d<;>rfl
def eR(S S':aw U)(A_s:Z (KV U))(d:Y Nat)(r:KV U):aw U:=
 ({env:=wH S,H:=λid=>(match gn S A_s id with|true=>S.H id|false=>S'.H id),N:=S'.N}:aw U).put d r
def fE(S S':aw U)(r:KV U)(id:Nat):Bool:=Nat.ble S.N id&&(match(S'.H id).c with| .box _=>true|_=>false)&& !Oz id r&&Nat.blt id S'.N
def aw.hP(S:aw U)(q:Nat->Bool):aw U:={env:=S.env,H:=λid=>(match q id with|true=>⟨(S.H id).ab,.dead⟩|false=>S.H id),N:=S.N}
def uF(S:aw U)(F:Z Nat)(W:WS)(A_s:Z (KV U))(nt:Nat)(b:Z Nat):Bool:=
 (match W with|some (n,_)=>Nat.ble n S.N|none=>false)&&Nat.ble A_s.length nt&&b.all (λt=>Nat.ble A_s.length t)&&F.all (Mo S)
def EG:KV U->Z Nat
 | .own i _| .cp i _ _ _ _| .view i _ _ _ _=>[i]
 | .agg cs| .cg cs| .aT _ cs| .fe _ cs=>cs.flatMap (λx=>match x with| .own i _| .cp i _ _ _ _| .view i _ _ _ _=>[i]|_=>[])
 |_=>[]
def zG(S:aw U):Nat->Z Nat
 |0=>[]
 |n+1=>(match(S.H n).c with| .box cs=>cs.flatMap EG++zG S n|_=>zG S n)
def OS(S:aw U)(A_s:Z (KV U))(b:Z Nat)(id:Nat):Bool:=
 Nat.blt id S.N&& !Nat.beq id 0&&(match(S.H id).c with
  | .box cs=>cs.all KV.closed&& !A_s.any (Oz id)
  | .row ..=> !cZ id b
  |_=>false)
def AO(t:Nat):∀(l m:Z Nat),cZ t (l++m)=(cZ t l||cZ t m)
 |[],_=>rfl
 |x::l,m=>by rw[List.cons_append,cZ,cZ,AO t l m];cases Nat.beq t x<;>rfl
def Xa(a b:Nat):Nat.beq a b=Nat.beq b a:=by
 by_cases h:a=b
 .rw[h]
 .rw[MJ h,MJ (Ne.symm h)]
def JD(t x:Nat):cZ t [x]=Nat.beq x t:=by rw[cZ,cZ,Xa];cases Nat.beq x t<;>rfl
def yi(t:Nat){β:Type}(g:β->Z Nat)(p:β->Bool)(h:∀x,cZ t (g x)=p x):∀(l:Z β),cZ t (l.flatMap g)=l.any p
 |[]=>rfl
 |x::l=>by rw[List.flatMap_cons,AO,h,yi t g p h l,List.any_cons]
def Lp(t:Nat)(x:KV U):cZ t (EG x)=EF t x:=by
 cases x<;>first|rfl|exact JD t _|skip
 all_goals
  simp only[EG,EF];refine yi t _ _ (λx=> ?_) _
  cases x<;>first|rfl|exact JD t _
def Ik(S:aw U)(id:Nat):∀(n:Nat),(!cZ id (zG S n))=sn n (λq=>(match(S.H q).c with| .box cs=> !cs.any (EF id)|_=>true))
 |0=>rfl
 |n+1=>by
  rw[zG,sn,<-Ik S id n];cases b:(S.H n).c<;>simp only[AO,yi id EG (EF id) (Lp id),Bool.not_or,QV]
  rw[Bool.and_comm]
def Se(S:aw U)(A_s:Z (KV U)):OS S A_s (A_s.flatMap EG++zG S S.N)=gn S A_s:=funext λid=>by
 rw[OS,gn];congr 1;cases (S.H id).c<;>first|rfl|skip
 simp only[AO,yi id EG (EF id) (Lp id),Bool.not_or,Ik]
def Sd{α:Type}(S:aw U)(A_s:Z (KV U))(k:(Nat->Bool)->α):Hq (gn S A_s) S.N k=k (gn S A_s):=Lm (λi h=>by
 simp only[gn,Qa]at h
 exact Qk h.1.1) k
def R2{α:Type}(S S':aw U)(r:KV U)(k:(Nat->Bool)->α):Hq (fE S S' r) S'.N k=k (fE S S' r):=Lm (λi h=>by
 simp only[fE,Qa]at h
 exact Qk h.2) k
def Vl(S:aw U)(h:Nat->Bool):aw U:={env:=S.env,H:=λid=>(match h id with|true=>⟨(S.H id).ab,.dead⟩|false=>S.H id),N:=S.N}
def VC(S S':aw U)(h:Nat->Bool):Bool:=sn S.N (λid=> !h id||(Lw (S'.H id).c&&Nat.beq (S'.H id).ab (S.H id).ab))
def VD(S S':aw U)(h:Nat->Bool)(d:Y Nat)(r:KV U):aw U:=
 ({env:=wH S,H:=λid=>(match h id with|true=>S.H id|false=>S'.H id),N:=S'.N}:aw U).put d r
def Lv(fr:Y Nat)(i:Nat):Bool:=match fr with|some f=>Nat.beq i f|none=>false
def Tq(un:Z (Nat×Nat))(fr:Y Nat)(m:Nat):Bool:=
 !Lv fr m&&(match fr with|some f=>(List.range (f - m)).all λj=>un.any λp=>Nat.beq p.1 (m+j)&&Nat.beq p.2 f|none=>true)&&un.all λp=>(!Nat.beq p.1 m||Lv fr p.2)&&(!Nat.beq p.2 m||Lv fr p.1)
def Po(un:Z (Nat×Nat))(g:Nat->Y dV):Bool:=un.all λp=>match g p.1,g p.2 with|some a,some b=>Ab a b|_,_=>true
def Pw:KV U->KV U->Bool
 | .ptr i v o,.ptr d v' b=>Nat.beq i d&&Nat.beq v v'&&Nat.beq o b
 |_,_=>false
def lD:SG:=⟨none,none,.jR (.qP (.bool true))⟩
def RS.hole:Nat->RS U->RS U
 |0,.op _ r=> .op lD r
 |n+1,.op o r=> .op o (r.hole n)
 |n,.np t r=> .np t (r.hole n)
 |_,r=>r
def Ep(b:Y (Nat×dV))(i:Nat):Y dV:=match b with|some z=>(match Nat.beq i z.1 with|true=>some z.2|false=>none)|none=>none
def PD(Γ:Z (bQ U)){ρ:Type}(F:Z Nat)(W:WS)(base m:Nat)(fr:Y Nat)(l:Z SG)(S1:aw U)(k:aw U->Y (Nat×dV)->Y ρ):Y ρ:=
 match fr with
 |none=>k S1 none
 |some f=>(match Nat.ble m f with
  |true=>(match l[f]? with
   |some o=>(match o.op.bJ&&qk F o.d.toList with
    |true=>HQ K Γ W (base+f) S1 o λx wr=>k (S1.bA o.d x wr) (some (f,⟨o.d,o.bz,JU (base+f) S1 o,wr.map (·.1)⟩))
    |false=>none)
   |none=>none)
  |false=>k S1 none)
def Jt(Γ:Z (bQ U)){ρ:Type}(F:Z Nat)(W:WS)(l:Y (Z (Nat×Nat)×Y Nat))(b d:RS U)(S:aw U)(k:aw U->Y ρ):Y ρ:=
 match l with
 |none=>jv K Γ b W S.N (S.more b.len) k
 |some q=>(match Tq q.1 q.2 b.len with
  |true=>oG K Γ W S.N b 0 (S.more (b.len+1+d.len)) λS1 fs=>PD K Γ F W S.N b.len q.2 (b.flat++lD::d.flat) S1 λS1 j=>(match Po q.1 (λi=>match fs[i]? with|some x=>some x|none=>Ep j i)with|true=>k S1|false=>none)
  |false=>none)
def aw.raise(S:aw U)(d i v b:Nat):aw U:={env:=dj S.env d (.ptr i (Nat.succ v) b),H:=dj S.H i ⟨Nat.succ v,(S.H i).c⟩,N:=S.N}
def TN(Γ:Z (bQ U)){ρ:Type}(F:Z Nat)(W:WS)(base:Nat)(fr:Y Nat)(l:Z SG)(b:aw U)(k:aw U->Y (Nat×dV)->Y ρ):Y ρ:=
 match fr with
 |none=>k b none
 |some f=>(match l[f]? with
  |some o=>(match o.d,o.g,o.op.bJ with
   |some d,none,true=>(match o.op with
    | .alloc _=>(match b.env d with
     | .ptr i v off=>(match Nat.beq i (base+f)&&Nat.beq v (b.H i).ab&&Nat.blt i b.N&&qk F [d]&&okW W i with
      |true=>k (b.raise d i v off) (some (f,⟨o.d,o.bz,[base+f],some (base+f)⟩))
      |false=>none)
     |_=>none)
    |_=>HQ K Γ W (base+f) b o λx wr=>(match wr with
     |none=>(match !cZ d o.bz&&Pw x (b.env d)with|true=>k b (some (f,⟨o.d,o.bz,JU (base+f) b o,none⟩))|false=>none)
     |some _=>none))
   |_,_,_=>none)
  |none=>none)
def PS(base:Nat)(b:Y (Z (Nat×Nat)×Y Nat))(l:Z SG)(S1:aw U)(h:Nat->Bool):Bool:=
 match b with
 |none|some (_,none)=>true
 |some (_,some f)=>(match l[f]? with
  |some o=>(match o.g,o.op with
   |none,.alloc _=>h (base+f)
   |none,.load ..|none,.si ..=>true
   |_,_=>false)
  |none=>false)
def wD(fr:Y Nat)(m:Nat)(r:RS U):RS U:=match fr with|some f=>(match Nat.ble (m+1) f with|true=>r.hole (f - (m+1))|false=>r)|none=>r
def AK(Γ:Z (bQ U)){ρ:Type}(F:Z Nat)(W:WS)(m:Y (Z (Nat×Nat)×Y Nat))(b d:RS U)(S o j:aw U)(k:aw U->Y ρ):Y ρ:=
 match m with
 |none=>jv K Γ d W o.N (j.more d.len) k
 |some q=>(match qk F (wD q.2 b.len d).dB with
  |true=>TN K Γ F W S.N q.2 (b.flat++lD::d.flat) j λj l=>oG K Γ W S.N (wD q.2 b.len d) (b.len+1) j λn fs=>
   (match Po q.1 (λi=>match Ep l i with|some x=>some x|none=>(match Nat.ble (b.len+1) i with|true=>fs[i - (b.len+1)]?|false=>none))with
   |true=>k n
   |false=>none)
  |false=>none)
def Ja{ρ:Type}(f:(aw U->Y ρ)->aw U->Y ρ):Nat->aw U->Y ρ
 |0,_=>none
 |n+1,S=>f (Ja f n) S
 def iQ(Γ:Z (bQ U)):SA U->{ρ:Type}->(F:Z Nat)->(W:WS)->(k:Exit->aw U->Y ρ)->(S:aw U)->Y ρ
 | .skip,_,_,_,k,S=>k .normal S
 | .lZ rs,_,F,W,k,S=>(match qk F rs.dB with
  |true=>jv K Γ rs W S.N (S.more rs.len) λS'=>k .normal S'
  |false=>none)
 | .jl un rs,_,F,W,k,S=>(match qk F rs.dB with
  |true=>oG K Γ W S.N rs 0 (S.more rs.len) λS' fs=>(match un.all (λp=>match fs[p.1]?,fs[p.2]? with|some a,some b=>Ab a b|_,_=>false)with
   |true=>k .normal S'
   |false=>none)
  |false=>none)
 | .seq x y,_,F,W,k,S=>iQ Γ x F W (λe S'=>match e with
  | .normal=>iQ Γ y F W k S'
  |e=>k e S') S
 | .join J x y,_,F,W,k,S=>Ic S λS=>(match oh S J F W with
  |true=>aX (λv=>iQ Γ y F W k (unpack K S J v)) λj=>iQ Γ x J.cO (some (S.N,dp J.items)) (λe S'=>match e with
   | .normal=>(match pack K S' J.items with|some v=>j v|none=>none)
   |e=>k e S') S
  |false=>none)
 | .cond c x y,_,F,W,k,S=>(match c.bP S with
  | .bool b=>bif b then iQ Γ x F W k S else iQ Γ y F W k S
  | .dI=>both (iQ Γ x F W k S) (iQ Γ y F W k S)
  |_=>none)
 | .block id x,_,F,W,k,S=>iQ Γ x F W (λe S'=>match e with
  | .exit i=>(match Nat.beq i id with|true=>k .normal S'|false=>k (.exit i) S')
  |e=>k e S') S
 | .loop J x,_,F,W,k,S=>Ic S λS=>(match oh S J F W with
  |true=>(match pack K S J.items with
   |some v0=>aE (λv=>iQ Γ x J.cO (some (S.N,dp J.items)) (λe S'=>match e with
    | .normal=>(match pack K S' J.items with|some v=>some (inl v)|none=>none)
    |e=>(k e S').map inr) (unpack K S J v)) v0
   |none=>none)
  |false=>none)
 | .Eg n x,_,F,W,k,S=>Ja (λN S=>iQ Γ x F W (λe S'=>match e with| .normal=>N S'|e=>k e S') S) n S
 | .back J f H G T u B p1 x y,_,F,W,k,S=>
  let D:=SC.jb (.zA (.tmp u) [B,p1] x.erase y.erase)
  (match Gt f H G Γ&&Nat.beq (U.size T) H&&Ml U T G&&cZ u J.cO&&qk J.cO D&&qk F D&&oh (S.dP D) J F W with
  |true=>(match S.env u with
   | .aT Q [.ref [.sl X t]]=>(match Nat.beq Q f with
    |true=>(match uf X T t with
     |some xs=>(match pack K (S.dP D) J.items with
      |some v0=>oS (λm a v=>iQ Γ x J.cO (some (S.N,dp J.items)) (λe S1=>match e with
       | .normal=>iQ Γ y J.cO (some (S.N,dp J.items)) (λe S'=>match e with
        | .normal=>(match pack K (S'.dP D) J.items with|some v=>some (inl v)|none=>none)
        | .ret=>(k .ret (S'.dP D)).map inr
        | .exit i=>(k (.exit i) (S'.dP D)).map inr
        |_=>none) S1
       |_=>none) {(unpack K (S.dP D) J v)with env:=dj (dj (unpack K (S.dP D) J v).env B (.int .i64 m)) p1 (tf K T a)}) (λv=>k .normal (unpack K (S.dP D) J v)) xs.reverse v0
      |none=>none)
     |none=>none)
    |false=>none)
   |_=>none)
  |false=>none)
 | .inl A q d f c xs nt z x o,_,F,W,k,S=>(match qk F (q.dB++d.toList++o.dB)with
  |true=>Jt K Γ F W A q o S λS1=>Ic S1 λS1=>(match tD S1 f c xs with
   |some A_s=>Dr (A_s.flatMap EG++zG S1 S1.N) λM=>Hq (OS S1 A_s M) S1.N λh=>(match uF S1 F W A_s nt x.erase.jb&&PS S.N A (q.flat++lD::o.flat) S1 h with
    |true=>Ic (sb (Vl S1 h) A_s) λSi=>iQ Γ x [] W (λe l=>match e with
     | .ret| .normal=>(match o9 l z with
      |some v=>Ic l λl=>(match VC S1 l h with|true=>Hq (fE S1 l v) l.N λI=>Ic ((VD S1 l h d v).hP I) λV=>AK K Γ F W A q o S l V λS3=>k .normal S3|false=>none)
      |none=>none)
     |_=>none) Si
    |false=>none)
   |none=>none)
  |false=>none)
 | .exit id,_,_,_,k,S=>k (.exit id) S
 | .ret,_,_,_,k,S=>k .ret S
 | .ps p x,_,F,W,k,S=>(match(p.AN S).all (okW W)&&qk F p.tmps with
  |true=>(match p.run S with|some S'=>iQ Γ x F W k S'|none=>none)
  |false=>none)
 | .xa p x,_,F,W,k,S=>iQ Γ x F W (λe S'=>match e with
  | .normal=>(match(p.AN S').all (okW W)&&qk F p.tmps with
   |true=>(match p.run S' with|some S1=>k .normal S1|none=>none)
   |false=>none)
  |e=>k e S') S
structure de (F:List Nat) (W:WS) (S S':aw U):Prop where
 env:∀t∈F,S'.env t=S.env t
 H:∀id,okW W id=false->S'.H id=S.H id
 N:S.N<=S'.N
def de.refl(F:Z Nat)(W:WS)(S:aw U):de F W S S:=⟨λ_ _=>rfl,λ_ _=>rfl,Ql _⟩
def de.trans{F:Z Nat}{W:WS}{S S' S'':aw U}(h:de F W S S')(d:de F W S' S''):de F W S S'':=
 ⟨λt j=>(d.env t j).trans (h.env t j),λid b=>(d.H id b).trans (h.H id b),QS h.N d.N⟩
def me.toC{D F:Z Nat}{W:WS}{S S':aw U}(h:me D W S S')(j:qk F D=true):de F W S S':=
 ⟨λt d=>h.env t (λl=>by have b:=Qe.1 j t l;rw[cJ.2 d]at b;cases b),h.H,h.N⟩
def de.more{F:Z Nat}{W:WS}{S S':aw U}{n:Nat}(h:de F W (S.more n) S'):de F W S S':=
 ⟨h.env,h.H,QS (qa0 _ _) h.N⟩
variable{K}
variable{P:Pr}{nt:Nat}
def LO{d:SC}{Q:Exit->St->Prop}{S S':St}(j:∀(E:En) (a:Act) (w:Wo) (L:Nat->Va),Rel E S a w L->∃b,Rel E S' a w b)(h:VS P nt d Q S'):VS P nt d Q S:=
 λc l o E p n a w L m=>by
  let⟨b,q⟩:=j E a w L m
  exact h c l o E p n a w b q
def SN{x y:SC}{Q n:Exit->St->Prop}{S:St}(D:VS P nt x n S)(G:∀S1,n .normal S1->∃S',(∀(E:En),qg E S->∀(a:Act) (w:Wo) (L:Nat->Va),Rel E S1 a w L->∃o,Rel E S' a w o)/\VS P nt y Q S')(H:∀e S1,e≠ .normal->n e S1->Q e S1):VS P nt (.seq x y) Q S:=by
 intro c t b
 cases c with
 |seq p q=>
  simp[ax]at b;split at b
  .rename_i M J m B;injection b with b
   injection b with h1 j
   subst h1 j;intro E z v a w L u;refine qay (Q6 (D p t m E z v.Te a w L u) ?_);rintro e a' w' ⟨S1,A,h1,j⟩
   cases e with
   |normal=>
    let⟨S',hw,l⟩:=G S1 j
    let⟨o,I⟩:=hw E u.MP a' w' A h1
    exact l q t B E z v.Td a' w' o I
   |_=>exact⟨S1,A,h1,H _ _ (by intro h;cases h) j⟩
  .cases b
 |region id ops d=>cases d<;>simp[ax]at b<;>(try split at b)<;>(try split at b)<;>(try split at b)<;>cases b
 |cond c x y=>simp[ax]at b;split at b<;>cases b
 |block id c|loop c=>simp only[ax,Qh]at b;obtain⟨_,_,b⟩:=b;cases b
 |rangeFunc g ps x y=>simp[ax]at b;(try split at b)<;>(try split at b)<;>cases b
 |_=>simp[ax]at b<;>cases b
def SP{j:SC}{Q Q':Exit->St->Prop}{S:St}(h:VS P nt j Q' S)(o:∀e A,Q' e A->∃b,Q e b/\∀(E:En) (a:Act) (w:Wo) (L:Nat->Va),Rel E A a w L->∃l,Rel E b a w l):VS P nt j Q S:=
 λc m q E t p a w L n=>Q6 (h c m q E t p a w L n) λ_ _ _ ⟨S',l,h1,z⟩=>by
  let⟨b,y,v⟩:=o _ _ z
  let⟨d,u⟩:=v _ _ _ _ h1
  exact⟨b,d,u,y⟩
def SO{Γ:Z (bQ U)}(l:jI P Γ){rs:RS U}{W:WS}{ρ:Type}{k:aw U->Y ρ}{r:ρ}{S:aw U}(m:rs.bJ=true)(p:jv K Γ rs W S.N (S.more rs.len) k=some r){Q:Exit->St->Prop}
  (h:∀S',me rs.dB W (S.more rs.len) S'->k S'=some r->Q .normal S'.st):VS P nt (.lZ rs.flat) Q S.st:=by
 intro c B b
 cases c with
 |region id ops d=>
  cases d with
  |true=>simp[ax]at b;(try split at b)<;>(try split at b)<;>(try split at b)<;>cases b
  |false=>
   simp only[ax]at b;split at b
   .rename_i A hgs;split at b
    .rename_i u;injection b with b
     injection b with b
     subst b;intro E v q a w L j;refine qa6 ?_;have h0:Rel E (S.more rs.len).st a w L:=j.room rs.len;have:=gZ (K:=K) (E:=E) l (ops:=ops) (Q:=λe a' w'=>∃S' o,Rel E S' a' w' o/\Q e S') rs W S.N (S.more rs.len) k r ops.toList [] a w L m hgs h0 (Ql _) (GJ v q (CT u)) p (λS' a' w' o t z n=>⟨S'.st,o,z,h S' t n⟩)
     simpa using this
    .cases b
   .cases b
 |seq x y|cond c x y=>simp[ax]at b;split at b<;>cases b
 |block id c|loop c=>simp only[ax,Qh]at b;obtain⟨_,_,b⟩:=b;cases b
 |rangeFunc g ps x y=>simp[ax]at b;(try split at b)<;>(try split at b)<;>cases b
 |_=>simp[ax]at b<;>cases b
def wg{Γs Γs':Nat->gW}{base:Nat}:∀(l:Z (Nat×SG)) (S:St),(∀p∈l,Γs p.1=Γs' p.1)->dL Γs base l S=dL Γs' base l S
 |[],_,_=>rfl
 |(i,g)::l,S,h=>by
  simp[dL,h (i,g) t_];split
  .rfl
  .rename_i p hp;rw[wg l _ λq b=>h q (Qz _ b)]
def kS{Γ:Z (bQ U)}(m:jI P Γ){W:WS}{base:Nat}{ρ:Type}{r:ρ}:∀(rs:RS U) (i:Nat) (S:aw U) (k:aw U->Z dV->Y ρ),rs.bJ=true->oG K Γ W base rs i S k=some r->
  ∃(Γs:Nat->gW) (S':aw U) (fs:Z dV),(∀j,fQ P (Γs j))/\dL Γs base ((rs.flat.zipIdx i).map λp=>(p.2,p.1)) S.st=some (S'.st,fs)/\me rs.dB W S S'/\k S' fs=some r
 | .nil,i,S,k,_,h=>⟨λ_ _=>none,S,[],λ_=>IZ,rfl,me.refl _ _ _,h⟩
 | .op o rs,i,S,k,l,h=>by
  simp[RS.bJ,Qa]at l;simp[oG,Ac K]at h
  let⟨u,x,wr,h1,J,I,H⟩:=sj m l.1 h
  let⟨Γs,S',fs,G,D,B,A⟩:=kS m rs (i+1) _ _ l.2 H
  refine⟨λj=>if j=i then u else Γs j,S',_,λj=> ?_,?_,?_,A⟩
  .simp only;split
   .exact h1
   .exact G j
  .simp only[RS.flat,List.zipIdx_cons,Qj,dL,Qp,J]
   have:dL (λj=>if j=i then u else Γs j) base ((rs.flat.zipIdx (i+1)).map λp=>(p.2,p.1)) (S.st.bA o.d x.pv (wr.map eZ))=some (S'.st,fs):=by
    rw[<-wX,<-D];refine wg _ _ λp hp=> ?_
    obtain⟨q,z,rfl⟩:=Qq.1 hp;have:=List.mem_zipIdx z;simp only;rw[Qg O]
   rw[this];simp[pn]
   cases wr with
   |none|some p=>rfl
  .refine(H2 S W o.d x wr I).trans B λt n=> ?_
   simp[RS.dB]at n
   cases v:o.d with
   |none=>rw[v]at n;exact⟨t_,n⟩
   |some d=>rw[v]at n;simp[Qm,Q2]at n;exact⟨by simpa using λe=>n.1 e,n.2⟩
 | .np t rs,i,S,k,l,h=>by
  simp[oG]at h;split at h
  .rename_i b y
   cases b with
   |true=>rw[qas,xy y]at h;exact kS m rs i S k l h
   |false=>rw[QN,xy y]at h;exact kS m rs i S k l h
  .exact kS m rs i S k l h
  .cases h
 | .ps _ _,_,_,_,_,h| .ite _ _ _ _ _ _ _ _,_,_,_,_,h=>by cases h
def SK{c:Code}{Q:Exit->St->Prop}{S:St}(I:Nat->St->Prop)(u:Nat){S0:St}(o:∀(E:En),qg E S->∀(a:Act) (w:Wo) (L:Nat->Va),Rel E S a w L->∃j,Rel E S0 a w j)(h0:I u S0)
  (z:∀m S1,I m S1->V P nt c (λe S'=>match e with| .normal=>∃n,n<m/\∃d,(∀(E:En),qg E S->∀(a:Act) (w:Wo) (L:Nat->Va),Rel E S' a w L->∃j,Rel E d a w j)/\I n d|e=>Q e S') S1):V P nt (.loop c) Q S:=λE B A a w L b=>by
 refine wpIn_loop_ghost (λm a w=>∃S L,I m S/\Rel E S a w L) u ?_ ?_
 .let⟨j,G⟩:=o E b.MP a w L b
  exact⟨S0,j,h0,G⟩
 rintro m a w ⟨S1,H,hI,h1⟩;refine Q6 (z m S1 hI E B A a w H h1) ?_;rintro e a' w' ⟨S',j,y,v⟩
 cases e with
 |normal=>
  let⟨n,p,d,hw,q⟩:=v
  let⟨t,D⟩:=hw E b.MP a' w' j y
  exact⟨n,p,d,t,q,D⟩
 |exit i|goto l|ret|panic c|outgrown=>exact⟨S',j,y,v⟩
def KO{x:SC}{Q:Exit->St->Prop}{S:St}(I:Nat->St->Prop)(o:Nat){S0:St}(l:∀(E:En),qg E S->∀(a:Act) (w:Wo) (L:Nat->Va),Rel E S a w L->∃n,Rel E S0 a w n)(h0:I o S0)
  (v:∀m S1,I m S1->VS P nt x (λe S'=>match e with| .normal=>∃q,q<m/\∃j,(∀(E:En),qg E S->∀(a:Act) (w:Wo) (L:Nat->Va),Rel E S' a w L->∃n,Rel E j a w n)/\I q j|e=>Q e S') S1):VS P nt (.loop x) Q S:=by
 intro c u b
 cases c with
 |loop p=>
  simp only[ax,Qh]at b;obtain⟨z,t,b⟩:=b;injection b with h1
  subst h1;exact SK I o l h0 (λm S hI=>v m S hI p u t)
 |region id ops d=>cases d<;>simp[ax]at b<;>(try split at b)<;>(try split at b)<;>(try split at b)<;>cases b
 |seq x y|cond c x y=>simp[ax]at b;split at b<;>cases b
 |block id c=>simp only[ax,Qh]at b;obtain⟨_,_,b⟩:=b;cases b
 |rangeFunc g ps x y=>simp[ax]at b;(try split at b)<;>(try split at b)<;>cases b
 |_=>simp[ax]at b<;>cases b
def EM{S:aw U}{J:JS U}{F:Z Nat}{W:WS}(m:oh S J F W=true)(v:mE J.items):de F W S (unpack K S J v):=by
 simp[oh,Qa,Qe]at m;obtain⟨⟨⟨⟨⟨⟨A,u⟩,H⟩,o⟩,I⟩,hF⟩,G⟩:=m;refine⟨λt N=> ?_,λid j=> ?_,?_⟩
 .have M:=cJ.1 (hF t N);have z:cZ t (slotsOf J.items)=false:=by simpa using(o t M).2
  rcases uq (K:=K) (S.base J.cO) J.items v t with⟨⟨i,d⟩,b,y,p⟩|⟨_,p⟩
  .exact absurd (yh (eS b) y) (kT z)
  .rw[show(unpack K S J v).env t=_ from p,Bk,Qc M]
 .have B:id<S.N:=by
   cases W with
   |none=>cases G
   |some q=>
    let⟨n,l⟩:=q
    simp only at G;simp[okW,Q3]at j;have y:=Qk G;have p:¬n<=id:=λD=>by rw[qak D]at j;cases j.1
    omega
  rcases zF (K:=K) (S.base J.cO) J.items v id A with⟨⟨i,d⟩,b,y,p⟩|⟨_,p⟩
  .have:=(u id (mR (eS b) y)).2;rw[j]at this;cases this
  .rw[show(unpack K S J v).H id=_ from p,GO,Qc B]
 .rw[unpack,zD,GN];exact Ql _
def Ch{S S1:aw U}{J:JS U}{F:Z Nat}{W:WS}(b:oh S J F W=true){v:mE J.items}(hp:pack K S1 J.items=some v)(j:de J.cO (some (S.N,dp J.items)) S S1):
  ∀(E:En),qg E S.st->∀(a:Act) (w:Wo) (L:Nat->Va),Rel E S1.st a w L->∃L',Rel E (unpack K S J v).st a w L':=by
 intro E n a w L h;refine⟨L,Rel.meet b hp j.env (λid m d=>j.H id ?_) j.N n h⟩
 simp[okW,Q3];refine⟨?_,?_⟩
 .cases l:Nat.ble S.N id with
  |false=>rfl
  |true=>have:=Qk l;omega
 .cases l:cZ id (dp J.items)with
  |false=>rfl
  |true=>exact absurd (cJ.1 l) d
def Ey(S:aw U)(D:Z Nat):(S.dP D).st=S.st.oN D:=by
 unfold aw.dP aw.st St.oN;congr 1
 funext t
 simp only
 by_cases h:t∈D
 .rw[Qc h,cJ.2 h];rfl
 .rw[Qg h]
  cases b:cZ t D with
  |true=>exact absurd (cJ.1 b) h
  |false=>rfl
def Bf{F D:Z Nat}(h:qk F D=true)(W:WS)(S:aw U):de F W S (S.dP D):=
 ⟨λt b=>by
  have d:cZ t D=false:=by
   cases j:cZ t D with
   |false=>rfl
   |true=>have:=Qe.1 h t (cJ.1 j);rw[cJ.2 b]at this;cases this
  simp[aw.dP,d],λ_ _=>rfl,Ql _⟩
def JE{S:aw U}{J:JS U}{F:Z Nat}{W:WS}(b:oh S J F W=true)(v:mE J.items){S':aw U}(o:de J.cO (some (S.N,dp J.items)) (unpack K S J v) S'):de F W S S':=by
 have D:=EM (K:=K) b v;refine D.trans ?_;simp[oh,Qa,Qe]at b;obtain⟨⟨⟨⟨⟨⟨B,j⟩,y⟩,m⟩,z⟩,hF⟩,u⟩:=b;refine⟨λt A=>o.env t (cJ.1 (hF t A)),λid d=>o.H id ?_,o.N⟩
 simp[okW,Q3];refine⟨?_,?_⟩
 .cases W with
  |none=>cases u
  |some q=>
   let⟨n,l⟩:=q
   simp only at u;simp[okW,Q3]at d;have G:=Qk u
   cases p:Nat.ble S.N id with
   |false=>rfl
   |true=>have:=Qk p;rw[qak (QS G this)]at d;cases d.1
 .cases p:cZ id (dp J.items)with
  |false=>rfl
  |true=>have:=(j id (cJ.1 p)).2;rw[d]at this;cases this
def Io{S:aw U}{J:JS U}{F:Z Nat}{W:WS}(b:oh S J F W=true)(v:mE J.items){t:Nat}(n:t∈J.cO):(unpack K S J v).env t=S.env t:=by
 simp[oh,Qa,Qe]at b;obtain⟨⟨⟨⟨⟨⟨y,q⟩,o⟩,j⟩,p⟩,hF⟩,z⟩:=b;have m:cZ t (slotsOf J.items)=false:=by simpa using(j t n).2
 rcases uq (K:=K) (S.base J.cO) J.items v t with⟨⟨i,d⟩,l,h1,u⟩|⟨_,u⟩
 .exact absurd (yh (eS l) h1) (kT m)
 .rw[show(unpack K S J v).env t=_ from u,Bk,Qc n]
def NR{S:aw U}{J:JS U}{F:Z Nat}{W:WS}(b:oh S J F W=true)(v:mE J.items){S':aw U}(z:de J.cO (some (S.N,dp J.items)) (unpack K S J v) S'){v':mE J.items}(o:pack K S' J.items=some v'):
  ∀(E:En),qg E S.st->∀(a:Act) (w:Wo) (L:Nat->Va),Rel E S'.st a w L->∃L',Rel E (unpack K S J v').st a w L':=by
 intro E M a w L j;have q:=λ{t} n=>Io (K:=K) b v (t:=t) n
 have H:=b;simp[oh,Qa,Qe]at H;obtain⟨⟨⟨⟨⟨⟨p,G⟩,B⟩,u⟩,D⟩,hF⟩,N⟩:=H;refine⟨L,Rel.meet b o (λt n=>(z.env t n).trans (q n)) (λid y l=>(z.H id ?_).trans ?_) (by have:=z.N;rw[unpack,zD,GN]at this;exact this) M j⟩
 .simp[okW,Q3];refine⟨?_,?_⟩
  .cases A:Nat.ble S.N id with
   |false=>rfl
   |true=>have:=Qk A;omega
  .cases A:cZ id (dp J.items)with
   |false=>rfl
   |true=>exact absurd (cJ.1 A) l
 .rcases zF (K:=K) (S.base J.cO) J.items v id p with⟨⟨i,d⟩,m,h1,I⟩|⟨_,I⟩
  .exact absurd (mR (eS m) h1) l
  .rw[show(unpack K S J v).H id=_ from I,GO,Qc y]
def O5{T:U.Ty}{k:Nat}{j:Y Nat}(t:U.size T=k)(b:Ml U T j=true)(xs:Z (U.den T)):Dc k j (xs.map (U.pv T))/\∀a:U.den T,uH j (U.pv T a)=(tf K T a).pv:=by
 have m:∀a:U.den T,nr j (U.pv T a)=some (cQ T a):=by
  intro a;unfold cQ
  cases j with
  |none=>
   simp[Ml,QQ]at b;have q:=K.len T a;rw[K.one T b]at q;rw[b]
   match p:U.pv T a with
   |[]=>rw[p]at q;cases q
   |x::l=>rfl
  |some n=>simp only[Ml,Qa]at b;have q:=Qf b.2;subst q;rw[b.1,nr,Qc (by rw[K.len];exact Ql _),<-K.len T a,qbf]
 have d:∀a:U.den T,uH j (U.pv T a)=cQ T a:=λa=>by simp only[uH,m,qbe]
 refine⟨⟨λe o=> ?_,λe o=> ?_,λe o=> ?_⟩,λa=>by rw[d,wM]⟩
 .obtain⟨a,_,rfl⟩:=Qq.1 o;rw[K.len,t]
 .obtain⟨a,_,rfl⟩:=Qq.1 o;rw[d,m]
 .obtain⟨a,_,rfl⟩:=Qq.1 o;rw[d];unfold cQ;split
  .exact Qe.2 λy v=>dY (K.ea T a y v)
  .cases p:U.pv T a with
   |nil=>have:=K.len T a;rename_i u;rw[K.one T u,p]at this;cases this
   |cons x l=>
    have A:=dY (K.ea T a x (by rw[p];exact Qx))
    have z:=K.ea T a x (by rw[p];exact Qx)
    cases x<;>first|exact A|(cases z)
def Tx(S:aw U)(A_s:Z (KV U)):(sb S A_s).st={S.st with env:=λt=>((A_s.map KV.pv)[t]?).getD .undef}:=by
 unfold sb aw.st;congr 1
 funext t
 simp[Qr];cases A_s[t]?<;>rfl
def OR(S:aw U)(A_s:Z (KV U)):(jL S A_s).st=S.st.fI (gn S A_s):=by
 unfold jL aw.st St.fI;congr 1
 funext id
 simp only;cases gn S A_s id<;>rfl
def yq(K:TK U){S:aw U}{A_s:Z (KV U)}{id:Nat}(h:gn S A_s id=true):id<S.N/\id≠0/\(S.st.H id).c.shut=true:=by
 simp only[gn,Qa,QQ]at h;obtain⟨⟨h1,m⟩,b⟩:=h;refine⟨Qk h1,λe=>(by rw[e]at m;cases m),?_⟩
 split at b
 .rename_i cs j;rw[Qa]at b;simp only[aw.st,bu.pv,j,cj.pv,ji.shut];rw[kl];exact b.1
 .rename_i e k T xs j;simp only[aw.st,bu.pv,j,cj.pv,ji.shut];refine Qe.2 λy n=> ?_
  obtain⟨l,o,d⟩:=List.mem_flatten.1 n;obtain⟨x,_,rfl⟩:=Qq.1 o;exact CI (K.ea T x y d)
 .cases b
def O4(S S':aw U)(A_s:Z (KV U))(d:Y Nat)(r:KV U):(eR S S' A_s d r).st=St.bA {S'.st.shown S.st (gn S A_s)with env:=λt=>(wH S t).pv} d r.pv none:=by
 unfold eR;rw[aw.Jr,wX];congr 1;unfold aw.st St.shown;congr 1
 funext id
 simp only;cases gn S A_s id<;>rfl
def ON(S:aw U)(q:Nat->Bool):(S.hP q).st=S.st.kill q λid=>(S.H id).ab:=by
 unfold aw.hP aw.st St.kill;congr 1
 funext id
 simp only;cases q id<;>rfl
def Mr{S:aw U}{S0:St}{f:FI}{c:Y aQ}{xs:Z aQ}{A_s:Z (KV U)}(b:tD S f c xs=some A_s)(I:xs.all aQ.bJ=true)(N:c.all aQ.bJ=true){E:En}{a:Act}{w:Wo}{L:Nat->Va}(h:Rel E S0 a w L)(B:∀t∈(jK f c xs).bz,S0.env t=S.st.env t){J:Z Nat}{o:Oper}(m:xv P J o=some (jK f c xs))(n:Enters P f):
  ∃vs:Z Va,(execOp a.eval o).run P w= .ok (.enter f vs.toArray) w/\aK w (aI E S0 L) (S0.gh L) (A_s.map KV.pv) vs:=by
 have j:(∀t∈xs.flatMap aQ.bz,S0.env t=S.st.env t)->xs.map (·.val S0)=(xs.map (·.bP S)).map KV.pv:=by intro q;rw[mi q,List.map_map];exact QU λx p=>mT (Qe.1 I x p)
 cases c with
 |none=>
  injection b with b
  subst b
  let⟨args,D,d,l⟩:=Kg m
  exact⟨_,N3 d n,by rw[<-j B];exact h.cy l⟩
 |some Q=>
  simp[tD]at b;split at b
  .rename_i g H M;split at b
   .rename_i z;have z:=Qf z;subst z;injection b with b
    subst b
    let⟨V,args,D,d,y,l⟩:=IA m
    have G:=h.dK y;have A:Q.bJ=true:=by simpa using N
    rw[aQ.val_congr λt u=>B t (List.mem_append_left _ u),mT A,M,KV.pv,KV.bR]at G
    let⟨us,hu,v⟩:=G.oQ
    have b:args.map a.eval=(args.toList.map a.eval).toArray:=by rw[<-qaG,QZ]
    refine⟨args.toList.map a.eval++us,?_,by rw[List.map_append,<-j λt u=>B t (List.mem_append_right _ u)];exact(h.cy l).append v⟩
    simp[execOp,d,resolve,hu,Deferred.ofValue,Qs,QP,QK,invoke,b];simp[hY n]
   .cases b
  .cases b
def St.H6(T:St)(fd fi:Y Nat)(V:Nat->Nat):St:={env:=λt=>if fd=some t then .any else T.env t,H:=λid=>if fi=some id then⟨V id,.dead⟩else T.H id,N:=T.N}
def St.Jc(T:St)(V:Nat->Nat):T.H6 none none V=T:=by simp[St.H6]
def A9(K:TK U){S1:aw U}{S0:St}{fd fi d:Y Nat}{f:FI}{c:Y aQ}{xs:Z aQ}{A_s:Z (KV U)}{n:Nat}{J:Z RV}{sc:SC}{W:WS}{X:aw U->KV U->Prop}
  (hfn:ep P f n sc J) (hnr:sc.By=true) (okx:xs.all aQ.bJ=true) (okv:c.all aQ.bJ=true) (has:tD S1 f c xs=some A_s) (hlen:A_s.length<=n) (z:∀t∈sc.jb,A_s.length<=t)
  (hN:S0.N=S1.N) (hE0:∀t,fd≠some t->S0.env t=(S1.env t).pv) (hfd:∀t,fd=some t->t∉(jK f c xs).bz/\d≠some t)
  (hH0:∀id,S0.H id=if fi=some id then⟨(S1.H id).ab,.dead⟩else(S1.H id).pv) (hfi:∀id,fi=some id->gn S1 A_s id=true)
  (M:VS P n sc (λe A=>∃b,A=b.st/\de [] W (sb (jL S1 A_s) A_s) b/\(e= .ret\/e= .normal)/\∃v,o9 b J=some v/\Bj S1 b A_s=true/\X b v) (sb (jL S1 A_s) A_s).st)
  {E:En} {a:Act} {w:Wo} {L:Nat->Va} (h1:Rel E S0 a w L) {hs:Z Nat} {o:Oper} (y:xv P hs o=some (jK f c xs)) (hds:d=o.dst) (hcan:∀t,o.dst=some t->E.can t) {KK:Act->Wo->Prop} {Q:Exit->Act->Wo->Prop}
  (hKK:∀b v a' w' L',de [] W (sb (jL S1 A_s) A_s) b->X b v->Rel E (((eR S1 b A_s d v).hP (fE S1 b v)).st.H6 fd fi λid=>(b.H id).ab) a' w' L'->KK a' w'):
  o.wpIn (WF E.rd) 0 P a w KK Q:=by
 obtain⟨vs,N,V⟩:=Mr has okx okv h1 (λt l=>hE0 t λe=>(hfd t e).1 l) y hfn.enters
 let D:Nat->Bool:=λid=>gn S1 A_s id&& !decide (fi=some id)
 have hDn:∀id,fi≠some id->D id=gn S1 A_s id:=λid h=>by simp[D,h]
 have hD:∀id,D id=true->gn S1 A_s id=true/\fi≠some id:=λid h=>by simpa[D,Qa]using h
 have m:∀id,fi≠some id->S0.H id=(S1.H id).pv:=λid h=>by rw[hH0,Qg h]
 have hst:({S0.fI D with env:=λt=>((A_s.map KV.pv)[t]?).getD .undef}:St)=(sb (jL S1 A_s) A_s).st:=by
  rw[Tx,OR];simp only[St.fI,St.mk.injEq,qaJ];refine⟨?_,hN⟩
  funext id
  by_cases hi:fi=some id
  .simp[D,hi,hH0,hfi id hi];rfl
  .rw[hDn id hi,m id hi];rfl
 rw[<-hst]at M
 have G:=N9 hfn hnr h1 V (by simpa using hlen) (λt l hm=>by have:=z t hm;rw[Qv]at l;omega) D (λid j=>by
   let⟨g1,g2⟩:=hD id j
   rw[hN,m id g2]
   exact yq K g1) (p:=λid _=>Nat.blt id S1.N) (λid _ j=>by rw[hN];exact Qk j) (Q:=λv A=>∃b x,v=x.pv/\A=b.st/\de [] W (sb (jL S1 A_s) A_s) b/\Bj S1 b A_s=true/\X b x)
  (M.mono λe A ⟨b,I,e2,e3,x,e4,e6,e5⟩=>⟨e3,x.pv,by rw[I];exact wP e4,⟨b,x,rfl,I,e2,e6,e5⟩,by rw[I,hN];exact e2.N,λid j=>by
   let⟨g1,g2⟩:=hD id j
   have:=sm e6 id (yq K g1).1;rw[g1,qaD,qa7,Qa]at this;rw[I];refine⟨?_,by rw[m id g2];exact Qf this.2⟩
   simp only[aw.st,bu.pv]
   cases hc:(b.H id).c with
   |dead=>rfl
   |_=>rw[hc]at this;cases this.1⟩)
 unfold Oper.wpIn;rw[qaQ _ _ _ (ud y),N];refine⟨λ_ _=>trivial,(λh=>by cases h),wG.2 (Calls.mono G ?_)⟩
 rintro e w' ⟨v,_,_,L',rfl,⟨b,x,rfl,rfl,hfr,hdk,hX⟩,hrv,H⟩
 have h2:=H (λt=>if fd=some t then .any else(wH S1 t).pv) λt=>by
  by_cases l:fd=some t
  .exact .inl (Qc l)
  .rw[Qg l,hE0 t l];simp only[wH]
   cases hkt:Mo S1 t with
   |false=>exact .inl rfl
   |true=>exact .inr ⟨rfl,by rw[F0];exact hkt⟩
 have h3:=(h2.Mh (d:=o.dst) hcan hrv).PF (fE S1 b x) (λid=>((eR S1 b A_s d x).H id).ab) ?_
 .refine hKK b x _ _ L' hfr hX ?_;refine cast (QL (λZ0_=>Rel E Z0_ _ _ _) ?_) h3
  rw[ON,O4,hds];simp only[St.H6,St.kill,St.bA,St.shown,St.mk.injEq];refine⟨?_,?_,?_⟩
  .funext t
   cases hod:o.dst with
   |none=>rfl
   |some q=>
    simp only[bd]
    by_cases l:fd=some t
    .have:t≠q:=λe=>(hfd t l).2 (by rw[hds,hod,e])
     rw[Qc l,Qg this,Qc l]
    .rw[Qg l,Qg l]
  .funext id
   by_cases hi:fi=some id
   .have hh:=hfi id hi;have hlt:id<S1.N:=(yq K hh).1
    have hno:fE S1 b x id=false:=by
     unfold fE
     have:Nat.ble S1.N id=false:=by
      cases hb:Nat.ble S1.N id with
      |false=>rfl
      |true=>have:=Qk hb;omega
     rw[this];rfl
    have u:D id=false:=by simp[D,hi]
    have B:=sm hdk id hlt;rw[hh,qaD,qa7,Qa]at B;rw[hno,Qc hi,u];simp only[QR,QE];show((b.H id).pv:dg)=_;simp only[bu.pv]
    cases hc:(b.H id).c with
    |dead=>rfl
    |_=>rw[hc]at B;cases B.1
   .rw[Qg hi,hDn id hi,m id hi];rfl
  .trivial
 .intro id j;simp only[fE,Qa]at j;have hge:=Qk j.1.1.1
  have hnh:gn S1 A_s id=false:=by
   cases hq:gn S1 A_s id with
   |false=>rfl
   |true=>have:=(yq K hq).1;omega
  have u:D id=false:=by simp[D,hnh]
  have I:((eR S1 b A_s d x).H id).ab=(b.H id).ab:=by
   show(match gn S1 A_s id with|true=>_|false=>b.H id).ab=_
   rw[hnh]
  have e2:(({(b.st.shown S0 D)with env:=λt=>if fd=some t then .any else(wH S1 t).pv}:St).bA o.dst x.pv none).H id=(b.H id).pv:=by
   show(if D id=true then _ else b.st.H id)=_
   rw[u];rfl
  rw[I,e2];refine⟨Ql _,λhN2=> ?_⟩
  have:=(h2.fresh id hN2)
  have e3:(b.H id).pv=⟨0,.dead⟩:=by
   rw[<-this];show _=(if D id=true then _ else b.st.H id)
   rw[u];rfl
  exact QL dg.ab e3
def Sf{S:aw U}{A_s:Z (KV U)}{id:Nat}(h:gn S A_s id=true):id<S.N:=by simp only[gn,Qa]at h;exact Qk h.1.1
def xc{F ds:Z Nat}(h:qk F ds=true){t:Nat}(b:t∈F):t∉ds:=λd=>by have:=Qe.1 h t d;rw[cJ.2 b]at this;cases this
def Ly{G D:Z Nat}{d:Y Nat}{F:Z Nat}{W:WS}{A_s:Z (KV U)}{n k1 k2:Nat}{H:Z Nat}{S S1 b S3:aw U}{x:KV U}(v:∀t∈F,t∉G/\d≠some t/\t∉D)(l:uF S1 F W A_s n H=true)(j:me G W (S.more k1) S1)
  (y:de [] W (sb (jL S1 A_s) A_s) b) (o:me D W (((eR S1 b A_s d x).hP (fE S1 b x)).more k2) S3):de F W S S3:=by
 simp only[uF,Qa]at l;obtain⟨⟨⟨p,_⟩,_⟩,m⟩:=l;refine⟨λt B=> ?_,λq u=> ?_,?_⟩
 .let⟨M,J,I⟩:=v t B
  rw[o.env t I];show(eR S1 b A_s d x).env t=_;unfold eR;rw[aw.Jr,fc _ _ _ _ J];simp[wH,Qe.1 m t B];exact j.env t M
 .rw[o.H q u]
  have z:fE S1 b x q=false:=by
   cases W with
   |none=>cases p
   |some W=>
    simp[okW,Q3]at u;have N:¬W.1<=q:=λe=>by have:=qak e;rw[u.1]at this;cases this
    have p:=Qk p
    have:Nat.ble S1.N q=false:=by
     cases Q:Nat.ble S1.N q with
     |false=>rfl
     |true=>have:=Qk Q;omega
    unfold fE;rw[this];rfl
  show(match fE S1 b x q with|true=>_|false=>(eR S1 b A_s d x).H q)=_
  rw[z];show(match gn S1 A_s q with|true=>S1.H q|false=>b.H q)=_
  cases A:gn S1 A_s q with
  |true=>exact j.H q u
  |false=>
   show b.H q=_;rw[y.H q u];show(match gn S1 A_s q with|true=>_|false=>S1.H q)=_
   rw[A];exact j.H q u
 .have e1:=j.N;have X:=y.N;have V:=o.N;have:(S.more k1).N=S.N+k1:=rfl;have:(((eR S1 b A_s d x).hP (fE S1 b x)).more k2).N=b.N+k2:=rfl;have:(sb (jL S1 A_s) A_s).N=S1.N:=rfl;omega
def SQ{Γ:Z (bQ U)}(D:jI P Γ){p m:RS U}{d:Y Nat}{f:FI}{c:Y aQ}{xs:Z aQ}{n:Nat}{B:Z RV}{M:SC}{F:Z Nat}{W:WS}{ρ:Type}{k:Exit->aw U->Y ρ}{r:ρ}{S:aw U}
  (hfn:ep P f n M B) (hnr:M.By=true) (H:qk F (p.dB++d.toList++m.dB)=true) (lg:p.bJ=true) (ok2:m.bJ=true) (V:xs.all aQ.bJ=true) (X:c.all aQ.bJ=true) {kk:aw U->Y ρ} (h:jv K Γ p W S.N (S.more p.len) kk=some r)
  (hk:∀S1,kk S1=some r->∃A_s,tD S1 f c xs=some A_s/\uF S1 F W A_s n M.jb=true/\VS P n M (λe A=>∃l,A=l.st/\de [] W (sb (jL S1 A_s) A_s) l/\(e= .ret\/e= .normal)/\∃v,o9 l B=some v/\Bj S1 l A_s=true/\jv K Γ m W l.N (((eR S1 l A_s d v).hP (fE S1 l v)).more m.len) (λz=>k .normal z)=some r) (sb (jL S1 A_s) A_s).st):
  VS P nt (.lZ (p.flat++⟨d,none,jK f c xs⟩::m.flat)) (λe A=>∃S',A=S'.st/\de F W S S'/\k e S'=some r) S.st:=by
 intro c0 hs hc;obtain⟨id,ops,rfl,hgs,hd⟩:=O1 hc;intro E hE hkE a w L G;refine qa6 ?_;obtain⟨l1,l2',el,m1,m2⟩:=rP hgs
 cases l2' with
 |nil=>simp at m2
 |cons o N=>
 simp only[QH,Qi,Qd,QO,Qb,List.cons.injEq]at m2;obtain⟨g,hg,gs2,I,rfl,rfl⟩:=m2;have j:=GJ hE hkE hd;rw[el]at j ⊢;refine gZ (K:=K) (E:=E) D (ops:=ops) (Q:=λe a' w'=>∃S' L',Rel E S' a' w' L'/\_) p W S.N (S.more p.len) kk r l1 (o::N) a w L lg m1 (G.room p.len) (Ql _) (λo' y=>j o' (List.mem_append_left _ y)) h (λS1 a1 w1 L1 hf1 h1 hk1=> ?_)
 obtain⟨A_s,has,q,hvs⟩:=hk S1 hk1;have b:=q;simp only[uF,Qa]at b
 have u:∀t∈F,t∉p.dB/\d≠some t/\t∉m.dB:=λt ht=>by have:=xc H ht;simp only[Qu,Q2]at this;exact⟨this.1.1,λe=>this.1.2 (by rw[e];exact qag.2 rfl),this.2⟩
 obtain⟨hgu,hds,J⟩:=Ki hg;refine qaK λKK hKK=> ?_
 rw[Ee hgu,Qc rfl];refine A9 K (fd:=none) (fi:=none) hfn hnr V X has (Qk b.1.1.2) (λt ht=>Qk (Qe.1 b.1.2 t ht)) rfl (λ_ _=>rfl) (λ_ e=>by cases e) (λ_=>rfl) (λ_ e=>by cases e) (hvs.mono λe A ⟨l,e1,e2,e3,x,e4,e5,e6⟩=>⟨l,e1,e2,e3,x,e4,e5,e6⟩) h1 J hds.symm (j o (List.mem_append_right _ Qx)) λl x a' w' L' hfr hr2 h4=>hKK _ _ ?_
 rw[St.Jc]at h4;have hl2:N=N++[]:=by rw[List.append_nil]
 rw[hl2];exact gZ (K:=K) (E:=E) D (ops:=ops) m W l.N (((eR S1 l A_s d x).hP (fE S1 l x)).more m.len) (λz=>k .normal z) r N [] _ w' L' ok2 I (h4.room m.len) (Ql _) (λo' y=>j o' (List.mem_append_right _ (Qz _ y))) hr2 (λz a3 w3 L3 hf3 h5 hk3=>⟨z.st,L3,h5,z,rfl,Ly u q hf1 hfr hf3,hk3⟩)
def RR(P:Pr)(n:Nat)(b p:aw U)(o:SG)(m:dV):Prop:=
 ∃d,o.d=some d/\o.g=none/\(((∃z,o.op= .alloc z)/\m=⟨o.d,o.bz,[n],some n⟩/\∃v l,b.env d= .ptr n v l/\v=(b.H n).ab/\p=b.raise d n v l)\/((∀z,o.op≠ .alloc z)/\d∉o.bz/\p=b/\∃j,fQ P j/\og j n b.st o=some ((b.env d).pv,none)/\m=pn n b.st o ((b.env d).pv,none)))
def Jo(S:aw U)(d i off:Nat):(S.raise d i (S.H i).ab off).st=S.st.raise d i off:=by
 unfold aw.raise aw.st St.raise;congr 1
 .funext t
  simp only[bT,bd];split<;>rfl
 .funext t
  simp only[bT,bd];split<;>rfl
def Sq{Γ:Z (bQ U)}(B:jI P Γ){ρ:Type}{F:Z Nat}{W:WS}{base:Nat}{fr:Y Nat}{l:Z SG}{b:aw U}{k:aw U->Y (Nat×dV)->Y ρ}{r:ρ}(h:TN K Γ F W base fr l b k=some r):
  ∃N p D,k p N=some r/\(fr=none->N=none)/\(p.N=b.N/\∀(E:En) (a:Act) (w:Wo) (L:Nat->Va),Rel E b.st a w L->Rel E p.st a w L)/\(∀t∈F,t∉D)/\me D W b p/\∀q,fr=some q->∃o ft,l[q]?=some o/\N=some (q,ft)/\RR P (base+q) b p o ft:=by
 unfold TN at h;simp only[Ac K]at h;split at h
 .exact⟨none,b,[],h,λ_=>rfl,⟨rfl,λ_ _ _ _ h=>h⟩,λ_ _ h=>(by cases h),me.refl _ _ _,λq e=>by cases e⟩
 .rename_i q;split at h
  .rename_i o Q;split at h
   .rename_i d X V M;split at h
    .rename_i z H;split at h
     .rename_i i v A m;split at h
      .rename_i hb;simp only[Qa]at hb;obtain⟨⟨⟨⟨b1,n⟩,b3⟩,b4⟩,b5⟩:=hb;have b1:=Qf b1;have n:=Qf n;have b3:=Qk b3;refine⟨_,_,[d],h,λe=>(by cases e),⟨rfl,λE a w L hr=> ?_⟩,λt I=>xc b4 I,⟨λt I=> ?_,λid j=> ?_,Ql _,λ_=>rfl⟩,λq' e=>by injection e with e;subst e;exact⟨o,_,Q,rfl,d,X,V,.inl ⟨⟨z,H⟩,rfl,v,A,by rw[m,b1],by rw[<-b1];exact n,by rw[b1]⟩⟩⟩
       .rw[n,Jo];refine hr.raise b3 ?_;show(b.env d).pv=_;rw[m,n];rfl
       .show dj b.env d _ t=_;rw[bT,bq _ _ (λe=>I (by rw[e];exact qag.2 rfl))]
       .show dj b.H i _ id=_;rw[bT,bq _ _ (λe=>by rw[e,b5]at j;cases j)]
      .cases h
     .cases h
    .rename_i H;obtain⟨u,x,wr,g1,g2,g3,g4⟩:=sj B M h;split at g4
     .split at g4
      .rename_i J;rw[Qa,QQ]at J
       have hx:x=b.env d:=by
        have:=J.2;revert this;generalize b.env d=y;cases x<;>cases y<;>simp only[Pw,QR,false_implies,Qa]
        rintro⟨⟨e1,e2⟩,e3⟩;rw[Qf e1,Qf e2,Qf e3]
       subst hx;exact⟨_,b,[],g4,λe=>(by cases e),⟨rfl,λ_ _ _ _ h=>h⟩,λ_ _ h=>(by cases h),me.refl _ _ _,λq' e=>by injection e with e;subst e;exact⟨o,_,Q,rfl,d,X,V,.inr ⟨λz G=>H z G,kT J.1,rfl,u,g1,g2,rfl⟩⟩⟩
      .cases g4
     .cases g4
   .cases h
  .cases h
def Ib{Γs:Nat->gW}{base i:Nat}{g:SG}:∀{l:Z (Nat×SG)} {S S1:St} {fs:Z dV},dL Γs base l S=some (S1,fs)->∀{p:PV×Y (Nat×dg)},og (Γs i) (base+i) S1 g=some p->dL Γs base (l++[(i,g)]) S=some (S1.bA g.d p.1 p.2,fs++[pn (base+i) S1 g p])
 |[],S,S1,fs,h,p,hp=>by simp only[dL,Qb,QX]at h;rw[<-h.1]at hp ⊢;rw[<-h.2];simp only[List.nil_append,dL,hp]
 |(j,q)::l,S,S1,fs,h,p,hp=>by
  simp only[dL]at h;split at h
  .cases h
  .rename_i n b;split at h
   .cases h
   .rename_i o m d;simp only[Qb,QX]at h;rw[h.1]at d;simp only[List.cons_append,dL,b,Ib d hp,<-h.2]
def Jg{Γs:Nat->gW}{base i:Nat}:∀{d b:Z (Nat×SG)} {S S':St} {fs:Z dV},dL Γs base (d++(i,lD)::b) S=some (S',fs)->dL Γs base (d++b) S=some (S',fs.eraseIdx d.length)
 |[],b,S,S',fs,h=>by
  simp only[List.nil_append,dL]at h;split at h
  .cases h
  .rename_i p hp
   have:p=(.bool true,none):=by simp only[og,SG.wanted,lD,exec,aQ.val,Qb]at hp;exact hp.symm
   subst this;split at h
   .cases h
   .rename_i n m l;simp only[Qb,QX]at h;rw[<-h.1,<-h.2];exact l
 |(j,q)::d,b,S,S',fs,h=>by
  simp only[List.cons_append,dL]at h;split at h
  .cases h
  .rename_i p hp;split at h
   .cases h
   .rename_i n m l;simp only[Qb,QX]at h;rw[h.1]at l;simp only[List.cons_append,dL,hp,Jg l,<-h.2,QW,List.eraseIdx_cons_succ]
def yp{Γ:Z (bQ U)}(d:jI P Γ){W:WS}{base:Nat}{ρ:Type}{r:ρ}:∀{rs:RS U} {n i:Nat} {S:aw U} {k:aw U->Z dV->Y ρ},rs.bJ=true->oG K Γ W base (rs.hole n) i S k=some r->(rs.hole n).flat=rs.flat.set n lD
 | .nil,n,i,S,k,_,h=>by cases n<;>rfl
 | .op o q,0,i,S,k,_,h=>rfl
 | .op o q,n+1,i,S,k,ok,h=>by simp only[RS.bJ,Qa]at ok;simp only[RS.hole,oG,Ac K]at h;obtain⟨_,x,wr,_,_,_,h⟩:=sj d ok.1 h;simp only[RS.hole,RS.flat,List.set_cons_succ,yp d ok.2 h]
 | .np t q,n,i,S,k,ok,h=>by
  have e:(RS.np t q).hole n= .np t (q.hole n):=by cases n<;>rfl
  rw[e]at h ⊢;simp only[oG,Ac K]at h;split at h
  .rename_i b _;cases b<;>exact yp d (rs:=q) ok h
  .exact yp d (rs:=q) ok h
  .cases h
 | .ps _ _,n,i,S,k,_,h| .ite _ _ _ _ _ _ _ _,n,i,S,k,_,h=>by cases n<;>cases h
def E9:∀{rs:RS U} {n:Nat},rs.bJ=true->(rs.hole n).bJ=true
 | .op o q,0,h=>by simp only[RS.bJ,Qa]at h;simp only[RS.hole,RS.bJ,h.2,QV];rfl
 | .op o q,n+1,h=>by simp only[RS.bJ,Qa]at h;simp only[RS.hole,RS.bJ,h.1,E9 h.2,QV]
 | .np t q,n,h=>by
  have e:(RS.np t q).hole n= .np t (q.hole n):=by cases n<;>rfl
  rw[e];exact E9 (rs:=q) h
 | .nil,n,h| .ps _ _,n,h| .ite _ _ _ _ _ _ _ _,n,h=>by cases n<;>exact h
def wL{l:Z SG}{k z:Nat}{q:Nat×SG}(h:((l.zipIdx k).map λp=>(p.2,p.1))[z]?=some q):q.1=k+z/\l[z]?=some q.2:=by simp only[Qr,Qh,qa5,List.getElem?_zipIdx,QX]at h;obtain⟨u,v,⟨d,b,rfl,rfl⟩,rfl⟩:=h;exact⟨rfl,b⟩
def Dd{l:Z SG}{k:Nat}{q:Nat×SG}:(q∈(l.zipIdx k).map λp=>(p.2,p.1))↔k<=q.1/\l[q.1 - k]?=some q.2:=by
 constructor
 .intro h;obtain⟨z,d⟩:=List.getElem?_of_mem h
  let⟨h1,b⟩:=wL d
  exact⟨O,by rw[show q.1 - k=z by omega];exact b⟩
 .rintro⟨h1,b⟩;refine Qq.2 ⟨(q.2,q.1),?_,rfl⟩;rw[List.mem_zipIdx_iff_le_and_getElem?_sub];exact⟨h1,b⟩
def rD(l:Z SG)(k:Nat):((l.zipIdx k).map λp=>(p.2,p.1)).Pairwise λp q=>p.1<q.1:=by rw[List.pairwise_iff_getElem];intro i j hi b d;have n:=wL (Qt hi);have m:=wL (Qt b);omega
def HK{fr:Y Nat}{i:Nat}:Lv fr i=true↔fr=some i:=by
 cases fr with
 |none=>simp[Lv]
 |some f=>simp only[Lv,Qb];exact⟨λh=>(Qf h).symm,λh=>by rw[h];exact qa8 i⟩
def Bu.symm{p q:dV}(h:Bu p q):Bu q p:=⟨h.d2,h.d1,λt a b=>h.dd t b a,h.w2,h.w1,λi a b=>h.ww i b a⟩
def Fl{ops:Z Oper}{A:Z SG}{un:Z (Nat×Nat)}(m:un=wN ops)(t:∀p∈un,∀g q,A[p.1]?=some g->A[p.2]?=some q->lI g q=true){l:Z (Nat×SG)}{fs:Z dV}{g:Nat->Y dV}(I:l.Pairwise λp q=>p.1<q.1)
  (D:∀(k:Nat) (p:Nat×SG) (f:dV),l[k]?=some p->fs[k]?=some f->A[p.1]?=some p.2/\(f.d=p.2.d/\f.us=p.2.bz)/\g p.1=some f/\p.1<ops.length) (n:Po un g=true):Hn ops l fs:=by
 intro a b p q f e v hp B u J j;obtain⟨p1,H,G,_⟩:=D a p f hp u;obtain⟨q1,q2,q3,q4⟩:=D b q e B J
 have o:p.1<q.1:=by have z:=(QI.1 hp);have y:=(QI.1 B);obtain⟨z,rfl⟩:=z;obtain⟨y,rfl⟩:=y;exact List.pairwise_iff_getElem.1 I a b z y v
 have d:(p.1,q.1)∈un:=by rw[m];exact ua q4 o j
 refine Ba H q2 (t _ d _ _ p1 q1) ?_;have:=Qe.1 n _ d;simpa only[G,q3]using this
def OE{Γ:Z (bQ U)}(hΓ:jI P Γ){ops:Z Oper}{un:Z (Nat×Nat)}{fr:Y Nat}{b v:RS U}{gc:SG}{F:Z Nat}{W:WS}{ρ:Type}{kk:aw U->Y ρ}{r:ρ}{S:aw U}(hl:ops.length=b.flat.length+1+v.flat.length)
  (hun:un=wN ops) (hfa:∀p∈un,∀g q,(b.flat++gc::v.flat)[p.1]?=some g->(b.flat++gc::v.flat)[p.2]?=some q->lI g q=true) (lg:b.bJ=true) (hoff:∀t∈F,t∉b.dB) (h:Jt K Γ F W (some (un,fr)) b v S kk=some r):
  ((∀p∈un,(p.1=b.flat.length->fr=some p.2)/\(p.2=b.flat.length->fr=some p.1))/\fr≠some b.flat.length/\∀f j,fr=some f->b.flat.length<=j->j<f->(j,f)∈un)/\∃(Γs:Nat->gW) (S1:aw U) (D:Z Nat) (l:Z (Nat×SG)) (fs:Z dV),(∀j,fQ P (Γs j))/\dL Γs S.N l (S.more (b.len+1+v.len)).st=some (S1.st,fs)/\
   (∀p:Nat×SG,p∈l↔(b.flat++gc::v.flat)[p.1]?=some p.2/\(decide (p.1<b.flat.length)||decide (fr=some p.1))=true)/\(l.Pairwise λp q=>p.1<q.1)/\Hn ops l fs/\(∀t∈F,t∉D)/\me D W (S.more (b.len+1+v.len)) S1/\kk S1=some r:=by
 have hl1:=RS.mm b;simp only[Jt]at h;split at h
 case h_2=>cases h
 rename_i n;simp only[Tq,Qa,QQ,Qe,Qw]at n;obtain⟨⟨J,hlate⟩,n⟩:=n;have J:fr≠some b.flat.length:=λe=>by rw[hl1,<-HK]at e;rw[e]at J;cases J
 refine⟨⟨λp hp=>⟨λe=> ?_,λe=> ?_⟩,J,λf j hf u d=> ?_⟩,?_⟩
 .rcases(n p hp).1 with Q|Q
  .exact absurd (e.trans hl1) (qaA Q)
  .exact HK.1 Q
 .rcases(n p hp).2 with Q|Q
  .exact absurd (e.trans hl1) (qaA Q)
  .exact HK.1 Q
 .subst hf;have:=Qe.1 hlate (j - b.len) o_;obtain⟨p,hp,hpp⟩:=List.any_eq_true.1 this;rw[Qa]at hpp;have e1:=Qf hpp.1;have e2:=Qf hpp.2;have:p=(j,f):=Prod.ext (by simp only;omega) e2
  rw[<-this];exact hp
 obtain⟨Γs,S1,m,X,y,hf1,h⟩:=kS hΓ b 0 _ _ lg h;have M:=wO _ _ _ _ y;have B:∀{z:Nat},z<b.flat.length->(b.flat++gc::v.flat)[z]?=b.flat[z]?:=λh=>List.getElem?_append_left h
 have A:∀p:Nat×SG,(p∈(b.flat.zipIdx 0).map λp=>(p.2,p.1))↔(b.flat++gc::v.flat)[p.1]?=some p.2/\p.1<b.flat.length:=λp=>by
  rw[Dd];refine⟨λ⟨_,d⟩=> ?_,λ⟨u,d⟩=>⟨Q7 _,?_⟩⟩
  .have:=(QI.1 d).1;exact⟨by rw[B O];exact d,O⟩
  .rw[B d]at u;exact u
 have N:∀(g:Nat->Y dV),(∀i x,m[i]?=some x->g i=some x)->∀(k:Nat) (p:Nat×SG) (f:dV),((b.flat.zipIdx 0).map λp=>(p.2,p.1))[k]?=some p->m[k]?=some f->(b.flat++gc::v.flat)[p.1]?=some p.2/\(f.d=p.2.d/\f.us=p.2.bz)/\g p.1=some f/\p.1<ops.length:=λg hg k p f hp hf=>by
  let⟨u,d⟩:=wL hp
  have hlt:=(QI.1 d).1;rw[qai]at u;exact⟨by rw[u,B hlt];exact d,M.2 k p.1 p.2 f hp hf,by rw[u];exact hg k f hf,O⟩
 have G:(∀j,fr=some j->j<b.flat.length)->(match Po un (λi=>match m[i]? with|some x=>some x|none=>Ep none i)with|true=>kk S1|false=>none)=some r->∃(Γs:Nat->gW) (S1:aw U) (D:Z Nat) (l:Z (Nat×SG)) (fs:Z dV),(∀j,fQ P (Γs j))/\dL Γs S.N l (S.more (b.len+1+v.len)).st=some (S1.st,fs)/\
   (∀p:Nat×SG,p∈l↔(b.flat++gc::v.flat)[p.1]?=some p.2/\(decide (p.1<b.flat.length)||decide (fr=some p.1))=true)/\(l.Pairwise λp q=>p.1<q.1)/\Hn ops l fs/\(∀t∈F,t∉D)/\me D W (S.more (b.len+1+v.len)) S1/\kk S1=some r:=λhf h=>by
  split at h
  case h_2=>cases h
  rename_i hub;refine⟨Γs,S1,_,_,m,X,y,λp=> ?_,rD _ _,Fl hun hfa (rD _ _) (N _ λi x hx=>by simp only[hx]) hub,hoff,hf1,h⟩
  rw[A,Qw,QB,QB];exact⟨λ⟨u,d⟩=>⟨u,.inl d⟩,λ⟨u,d⟩=>⟨u,d.elim id (hf _)⟩⟩
 cases fr with
 |none=>exact G (λj e=>by cases e) h
 |some f=>
  simp only[PD,Ac K]at h;split at h
  .rename_i H;have H:=Qk H;have H:b.flat.length<f:=Nat.lt_of_le_of_ne O λe=>J (by rw[e])
   split at h
   .rename_i o ho;split at h
    .rename_i hok;rw[Qa]at hok;obtain⟨Γ',x,wr,g1,g2,g3,h⟩:=sj hΓ hok.1 h;split at h
     case h_2=>cases h
     rename_i hub
     have V:(b.flat++gc::v.flat)[f]?=some o:=by
      rw[List.getElem?_append_right O,show f - b.flat.length=(f - b.flat.length - 1)+1 by omega,List.getElem?_cons_succ]at ho ⊢
      exact ho
     have hflt:f<ops.length:=by have:=(QI.1 V).1;simp at this;omega
     have hfr:=H2 S1 W o.d x wr g3;have hlt1:∀p∈(b.flat.zipIdx 0).map λp=>(p.2,p.1),p.1<b.flat.length:=λp hp=>((A p).1 hp).2
     have I:(((b.flat.zipIdx 0).map λp=>(p.2,p.1))++[(f,o)]).Pairwise λp q=>p.1<q.1:=qau.2 ⟨rD _ _,List.pairwise_singleton _ _,λp hp q hq=>by
      rw[qag.1 hq];have:=hlt1 p hp
      simp only;omega⟩
     have hl1':((b.flat.zipIdx 0).map λp=>(p.2,p.1)).length=m.length:=M.1.symm
     refine⟨λj=>if j=f then Γ' else Γs j,S1.bA o.d x wr,b.dB++o.d.toList,_,_,λj=>by simp only;split;exact g1;exact X j,?_,λp=> ?_,I,Fl (fs:=m++[pn (S.N+f) S1.st o (x.pv,wr.map eZ)]) hun hfa I (λk p e hp he=> ?_) hub,λt ht=> ?_,hf1.trans hfr λt ht=> ?_,h⟩
     .have:=Ib (Γs:=λj=>if j=f then Γ' else Γs j) (base:=S.N) (i:=f) (g:=o) (l:=(b.flat.zipIdx 0).map λp=>(p.2,p.1)) (S:=(S.more (b.len+1+v.len)).st) (S1:=S1.st) (fs:=m) (by
       rw[wg (Γs':=Γs)]
       .exact y
       .intro p hp;have:=hlt1 p hp
        rw[Qg O]) (p:=(x.pv,wr.map eZ)) (by simp only[Qp];exact g2)
      rw[wX];exact this
     .rw[Qu,A,qag,Qw,QB,QB];refine⟨λh=> ?_,λ⟨u,d⟩=> ?_⟩
      .rcases h with h|rfl
       .exact⟨h.1,.inl h.2⟩
       .exact⟨V,.inr rfl⟩
      .rcases d with d|d
       .exact .inl ⟨u,d⟩
       .injection d with d
        rw[<-d,V]at u;injection u with u
        exact .inr (Prod.ext d.symm u.symm)
     .rcases qao k ((b.flat.zipIdx 0).map λp=>(p.2,p.1)).length with hk|hk
      .rw[List.getElem?_append_left hk]at hp;rw[List.getElem?_append_left O]at he;exact N (λi=>match m[i]? with|some x=>some x|none=>Ep (some (f,_)) i) (λi x hx=>by simp only[hx]) k p e hp he
      .rw[List.getElem?_append_right hk]at hp;rw[List.getElem?_append_right O]at he
       have hk0:k - ((b.flat.zipIdx 0).map λp=>(p.2,p.1)).length=0:=by have:=(QI.1 hp).1;simp at this ⊢;omega
       rw[hk0]at hp;rw[show k - m.length=0 by omega]at he
       simp only[List.getElem?_cons_zero,Qb]at hp he;subst hp he;refine⟨V,⟨rfl,rfl⟩,?_,hflt⟩;have:m[f]?=none:=qaO (by rw[M.1];simp;omega)
       simp only[this,Ep,qa8];cases wr<;>rfl
     .rw[Qu,Q2];exact⟨hoff t ht,xc hok.2 ht⟩
     .rw[Qu,Q2]at ht;exact ht
    .cases h
   .cases h
  .rename_i H;refine G (λj e=> ?_) h
   injection e with e
   subst e;rcases qao f b.len with Q|Q
   .omega
   .rw[qak Q]at H;cases H
def NG{Γ:Z (bQ U)}(hΓ:jI P Γ){ops:Z Oper}{un:Z (Nat×Nat)}{fr:Y Nat}{b r2:RS U}{X:SG}{F:Z Nat}{W:WS}{ρ:Type}{kk:aw U->Y ρ}{r:ρ}{S S2 T2:aw U}(hl:ops.length=b.flat.length+1+r2.flat.length)
  (hun:un=wN ops) (hfa:∀p∈un,∀g q,(b.flat++X::r2.flat)[p.1]?=some g->(b.flat++X::r2.flat)[p.2]?=some q->lI g q=true) (hnm:fr≠some b.flat.length) (hlate:∀f j,fr=some f->b.flat.length<=j->j<f->(j,f)∈un) (ok2:r2.bJ=true) (h:AK K Γ F W (some (un,fr)) b r2 S S2 T2 kk=some r):
  ∃(Γs:Nat->gW) (T3 S3:aw U) (D:Z Nat) (l:Z (Nat×SG)) (fs:Z dV),(∀j,fQ P (Γs j))/\(T3.N=T2.N/\∀(E:En) (a:Act) (w:Wo) (L:Nat->Va),Rel E T2.st a w L->Rel E T3.st a w L)/\dL Γs S.N l T3.st=some (S3.st,fs)/\
   (∀p:Nat×SG,p∈l↔(b.flat++X::r2.flat)[p.1]?=some p.2/\b.flat.length<p.1/\fr≠some p.1)/\(l.Pairwise λp q=>p.1<q.1)/\Hn ops l fs/\(∀t∈F,t∉D)/\me D W T2 S3/\kk S3=some r/\
   ∀q,fr=some q->∃o ft,(b.flat++X::r2.flat)[q]?=some o/\RR P (S.N+q) T2 T3 o ft/\(ft.d=o.d/\ft.us=o.bz)/\∀(z:Nat) (p:Nat×SG) (e:dV),l[z]?=some p->fs[z]?=some e->gy ops p.1 q=false->Bu ft e:=by
 have hl1:=RS.mm b;simp only[AK]at h;split at h
 case h_2=>cases h
 rename_i hoffB;obtain⟨fo,T3,D0,h,hfn,hrel3,hD0,hfr0,hfo⟩:=Sq hΓ h
 have hokh:(wD fr b.len r2).bJ=true:=by
  unfold wD;split
  .split
   .exact E9 ok2
   .exact ok2
  .exact ok2
 have B:=h;obtain⟨Γs,S3,fs,hΓs,m,hf3,h⟩:=kS hΓ _ _ _ _ hokh h;split at h
 case h_2=>cases h
 rename_i hub
 have hfull:∀q o,q≠b.flat.length->(b.flat++lD::r2.flat)[q]?=some o->(b.flat++X::r2.flat)[q]?=some o:=λq o Q h=>by
  rcases qbq Q with y|y
  .rw[List.getElem?_append_left y]at h ⊢;exact h
  .rw[List.getElem?_append_right O,show q - b.flat.length=(q - b.flat.length - 1)+1 by omega,List.getElem?_cons_succ]at h ⊢;exact h
 have J:∀q,fr=some q->∃o ft,(b.flat++X::r2.flat)[q]?=some o/\fo=some (q,ft)/\RR P (S.N+q) T2 T3 o ft/\(ft.d=o.d/\ft.us=o.bz):=λq Q=>by
  obtain⟨o,ft,u,M,h3⟩:=hfo q Q;refine⟨o,ft,hfull q o (λe=>hnm (by rw[Q,e])) u,M,h3,?_⟩
  obtain⟨d,_,_,V⟩:=h3;rcases V with⟨_,rfl,_⟩|⟨_,_,_,_,_,_,rfl⟩
  .exact⟨rfl,rfl⟩
  .exact⟨rfl,rfl⟩
 have hgs:∀{z:Nat},(b.flat++X::r2.flat)[b.flat.length+1+z]?=r2.flat[z]?:=λ{z}=>by rw[List.getElem?_append_right O,show b.flat.length+1+z - b.flat.length=z+1 by omega,List.getElem?_cons_succ]
 have hfoN:∀i,fr≠some i->Ep fo i=none:=λi hi=>by
  cases I:fr with
  |none=>rw[hfn I];rfl
  |some q=>
   obtain⟨o,ft,_,M,_⟩:=J q I;rw[M,Ep]
   cases hb:Nat.beq i q with
   |true=>exact absurd (by rw[I,Qf hb]) hi
   |false=>rfl
 have key:∃(l:Z (Nat×SG)) (N:Z dV),dL Γs S.N l T3.st=some (S3.st,N)/\(∀p:Nat×SG,p∈l↔(b.flat++X::r2.flat)[p.1]?=some p.2/\b.flat.length<p.1/\fr≠some p.1)/\(l.Pairwise λp q=>p.1<q.1)/\
   ∀(k:Nat) (p:Nat×SG) (e:dV),l[k]?=some p->N[k]?=some e->fs[p.1 - (b.len+1)]?=some e/\(e.d=p.2.d/\e.us=p.2.bz):=by
  by_cases H:∃f,fr=some f/\b.flat.length<f
  .obtain⟨f,hf,H⟩:=H;have e:wD fr b.len r2=r2.hole (f - (b.len+1)):=by rw[hf];simp only[wD,qak (show b.len+1<=f by omega)]
   obtain⟨o,ft,u,_⟩:=J f hf;have hflt:=(QI.1 u).1;simp only[QY,QW]at hflt;rw[e]at m B;rw[yp hΓ ok2 B]at m;have v:(f,lD)∈((r2.flat.set (f - (b.len+1)) lD).zipIdx (b.len+1)).map λp=>(p.2,p.1):=Dd.2 ⟨by simp only;omega,List.getElem?_set_self O⟩
   obtain⟨l1,l2,hsp⟩:=List.append_of_mem v;have hs:=rD (r2.flat.set (f - (b.len+1)) lD) (b.len+1);have n:∀p:Nat×SG,p∈l1++(f,lD)::l2↔b.len+1<=p.1/\(r2.flat.set (f - (b.len+1)) lD)[p.1 - (b.len+1)]?=some p.2:=λp=>by rw[<-hsp];exact Dd
   have hget:∀{z:Nat} {p:Nat×SG},(l1++(f,lD)::l2)[z]?=some p->p.1=b.len+1+z:=λ{z p} h=>(wL (by rw[hsp];exact h)).1
   rw[hsp]at hs m;have G:=Jg m;have hs':=hs;rw[qau,qab]at hs;obtain⟨s1,⟨s2,s3⟩,s4⟩:=hs;refine⟨l1++l2,_,G,λp=> ?_,qau.2 ⟨s1,s3,λp hp q Q=>s4 p hp q (Qz _ Q)⟩,λk p e hp he=>⟨?_,(wO _ _ _ _ G).2 k p.1 p.2 e hp he⟩⟩
   .have hne:p∈l1++l2->p.1≠f:=λhp=>by
     rcases Qu.1 hp with hp|hp
     .exact qaj (s4 p hp (f,lD) Qx)
     .exact(qaj (s2 p hp)).symm
    have hgs':∀{q:Nat×SG},b.len+1<=q.1->q.1≠f->(r2.flat.set (f - (b.len+1)) lD)[q.1 - (b.len+1)]?=(b.flat++X::r2.flat)[q.1]?:=λ{q} u M=>by rw[List.getElem?_set_ne O,<-hgs];congr 1;omega
    refine⟨λhp=> ?_,λ⟨u,M,h3⟩=> ?_⟩
    .have y:=(n p).1 (by rcases Qu.1 hp with hp|hp<;>simp[hp])
     exact⟨by rw[<-hgs' y.1 (hne hp)];exact y.2,O,λe=>hne hp (by rw[hf]at e;injection e with e;exact e.symm)⟩
    .have V:p.1≠f:=λe=>h3 (by rw[hf,e])
     have y:=(n p).2 ⟨O,by rw[hgs' O V];exact u⟩
     rcases Qu.1 y with h|h
     .exact List.mem_append_left _ h
     .rcases Qm.1 h with h|h
      .exact absurd (QL Prod.fst h) V
      .exact List.mem_append_right _ h
   .have y:(l1++(f,lD)::l2)[if k<l1.length then k else k+1]?=some p:=by
     split
     .rename_i hk;rw[List.getElem?_append_left hk]at hp ⊢;exact hp
     .rename_i hk;rw[List.getElem?_append_right O]at hp ⊢;rw[show k+1 - l1.length=(k - l1.length)+1 by omega,List.getElem?_cons_succ]
      exact hp
    rw[hget y,qa3,<-he,List.getElem?_eraseIdx];split<;>rfl
  .have hno:∀f,fr=some f->¬b.flat.length<f:=λf hf h=>H ⟨f,hf,h⟩
   have e:wD fr b.len r2=r2:=by
    cases I:fr with
    |none=>rfl
    |some f=>
     simp only[wD]
     cases hb:Nat.ble (b.len+1) f with
     |false=>rfl
     |true=>have:=Qk hb;exact absurd O (hno f I)
   rw[e]at m;refine⟨_,fs,m,λp=> ?_,rD _ _,λk p e hp he=> ?_⟩
   .rw[Dd];refine⟨λ⟨u,M⟩=>⟨by rw[<-M,<-hgs];congr 1;omega,O,λe=>hno p.1 e O⟩,λ⟨u,M,_⟩=>⟨O,?_⟩⟩
    rw[<-u,<-hgs];congr 1;omega
   .have u:=(wL hp).1;exact⟨by rw[u,qa3];exact he,(wO _ _ _ _ m).2 k p.1 p.2 e hp he⟩
 obtain⟨l,N,hrun',n,A,hpos⟩:=key
 have hall:∀(k:Nat) (p:Nat×SG) (e:dV),l[k]?=some p->N[k]?=some e->(b.flat++X::r2.flat)[p.1]?=some p.2/\(e.d=p.2.d/\e.us=p.2.bz)/\(match Ep fo p.1 with|some x=>some x|none=>(match Nat.ble (b.len+1) p.1 with|true=>fs[p.1 - (b.len+1)]?|false=>none))=some e/\p.1<ops.length:=λk p e hp he=>by
  obtain⟨u,M,h3⟩:=(n p).1 (QD hp);obtain⟨V,y⟩:=hpos k p e hp he;refine⟨u,y,?_,by have:=(QI.1 u).1;simp at this;omega⟩
  rw[hfoN _ h3];simp only[qak (show b.len+1<=p.1 by omega),V]
 refine⟨Γs,T3,S3,D0++(wD fr b.len r2).dB,l,N,hΓs,hrel3,hrun',n,A,Fl hun hfa A hall hub,λt ht=>by rw[Qu,Q2];exact⟨hD0 t ht,xc hoffB ht⟩,hfr0.trans hf3 λt ht=>by rw[Qu,Q2]at ht;exact ht,h,λq Q=> ?_⟩
 obtain⟨o,ft,u,M,h3,V⟩:=J q Q;refine⟨o,ft,u,h3,V,λz p e hp he hanc=> ?_⟩
 obtain⟨p1,p2,p3,p4⟩:=hall z p e hp he;obtain⟨_,y,h6⟩:=(n p).1 (QD hp)
 have hgq:(match Ep fo q with|some x=>some x|none=>(match Nat.ble (b.len+1) q with|true=>fs[q - (b.len+1)]?|false=>none))=some ft:=by rw[M];simp only[Ep,qa8]
 rcases Nat.lt_trichotomy q p.1 with H|heq|hgt
 .have v:(q,p.1)∈un:=by rw[hun];exact ua p4 H hanc
  refine Ba V p2 (hfa _ v _ _ u p1) ?_;have:=Qe.1 hub _ v;simpa only[hgq,p3]using this
 .exact absurd (by rw[Q,heq]) h6
 .have v:=hlate q p.1 Q (Nat.le_of_lt y) hgt;refine(Ba p2 V (hfa _ v _ _ p1 u) ?_).symm;have:=Qe.1 hub _ v;simpa only[hgq,p3]using this
def SR{Γ:Z (bQ U)}(hΓ:jI P Γ){u V:RS U}{un:Z (Nat×Nat)}{fr d:Y Nat}{f:FI}{c:Y aQ}{xs:Z aQ}{n:Nat}{rvs:Z RV}{sc:SC}{F:Z Nat}{W:WS}{ρ:Type}{k:Exit->aw U->Y ρ}{r:ρ}{S:aw U}
  (hfn:ep P f n sc rvs) (hnr:sc.By=true) (hoff:qk F (u.dB++d.toList++V.dB)=true) (lg:u.bJ=true) (ok2:V.bJ=true) (okx:xs.all aQ.bJ=true) (okv:c.all aQ.bJ=true) {kk:aw U->Y ρ} (h:Jt K Γ F W (some (un,fr)) u V S kk=some r)
  (hk:∀S1,kk S1=some r->∃A_s,tD S1 f c xs=some A_s/\uF S1 F W A_s n sc.jb=true/\PS S.N (some (un,fr)) (u.flat++lD::V.flat) S1 (gn S1 A_s)=true/\VS P n sc (λe A=>∃b,A=b.st/\de [] W (sb (jL S1 A_s) A_s) b/\(e= .ret\/e= .normal)/\∃v,o9 b rvs=some v/\Bj S1 b A_s=true/\AK K Γ F W (some (un,fr)) u V S b ((eR S1 b A_s d v).hP (fE S1 b v)) (λS3=>k .normal S3)=some r) (sb (jL S1 A_s) A_s).st):
  VS P nt (.jl un (u.flat++⟨d,none,jK f c xs⟩::V.flat)) (λe A=>∃S',A=S'.st/\de F W S S'/\k e S'=some r) S.st:=by
 intro c0 hs hc;obtain⟨id,ops,rfl,hgs,hd,hm,hu⟩:=N8 hc;intro E hE hkE a w L hrel;obtain⟨hun,hfa,M⟩:=IC hu;have hcan:=GJ hE hkE hd;have hgl:u.flat.length+1+V.flat.length=ops.size:=by have:=mS hgs;simp at this;omega
 have hl1:=RS.mm u;have hl2:=RS.mm V;have hops:ops.toList.length=u.flat.length+1+V.flat.length:=o_
 have hoff':∀t∈F,t∉u.dB/\d≠some t:=λt D=>by have:=xc hoff D;simp only[Qu,Q2]at this;exact⟨this.1.1,λe=>this.1.2 (by rw[e];exact qag.2 rfl)⟩
 obtain⟨⟨hord,hnm,hlate⟩,Γs,S1,D1,l0,fs0,hΓs,hrun1,hl0,hs0,hap0,hD1,hf1,h⟩:=OE hΓ hops hun hfa lg (λt D=>(hoff' t D).1) h
 obtain⟨A_s,has,hchk,B,hvs⟩:=hk S1 h;have hchk':=hchk;simp only[uF,Qa]at hchk';have hlen:=Qk hchk'.1.1.2;have hsets:∀t∈sc.jb,A_s.length<=t:=λt D=>Qk (Qe.1 hchk'.1.2 t D)
 have hgm:(u.flat++⟨d,none,jK f c xs⟩::V.flat)[u.flat.length]?=some ⟨d,none,jK f c xs⟩:=t_;have hmem:∀{i j:Nat},j<ops.size->i<j->gy ops.toList j i=false->(i,j)∈un:=λhj hij h=>by rw[hun];exact ua (by simpa using hj) hij h
 have hN1:S.N+ops.size<=S1.N:=by have:=hf1.N;have e:(S.more (u.len+1+V.len)).N=S.N+(u.len+1+V.len):=rfl;omega
 refine wpIn_region_any hm ?_;refine Bg (E:=E) (base:=S.N) (S':=S1.st) hΓs hgs hcan M (λi=>decide (i<u.flat.length)||decide (fr=some i)) (λhall=> ?_) ?_ ops.size (Array.replicate ops.size false) (S.more (u.len+1+V.len)).st a _ L l0 fs0 (yY _) ((hrel.room _).drew _) (by show _<=S.N+_;omega) ⟨λp=> ?_,hs0.imp λh=>qaj h⟩ hrun1 hap0 (by rw[Jw _ _ o_];simp;omega)
 .have:=hall u.flat.length O;rw[Qw,QB,QB]at this;exact absurd this (λh=>h.elim (qaE _) hnm)
 .intro i fuel listed S0 a0 w0 L0 pre fs1 hl hi hTi h0 hN0 hpre G hfu;rw[Q3,qaC,qaC]at hTi;obtain⟨hTi,hTf⟩:=hTi;have hTi:=Nat.le_of_not_lt hTi;obtain⟨hil,hli,_,hanc⟩:=Cc hl M hi;have hlm:∀j,u.flat.length<=j->fr≠some j->j<ops.size->listed.getD j true=false:=λj h1 h3 N=>hl.t j N (by rw[Q3,qaC,qaC];exact⟨qaR.2 h1,h3⟩)
  have him:i=u.flat.length:=by
   rcases qaS hTi with hlt|he
   .exfalso
    cases hb:gy ops.toList i u.flat.length with
    |true=>have:=hanc _ hb;rw[hlm _ (Ql _) hnm O]at this;cases this
    |false=>exact hTf ((hord _ (hmem hil hlt hb)).1 rfl)
   .exact he.symm
  subst him
  have hpm:∀q∈pre,fr=some q.1/\(u.flat++⟨d,none,jK f c xs⟩::V.flat)[q.1]?=some q.2/\((q.1,u.flat.length)∈un\/u.flat.length<q.1):=λq hq=>by
   obtain⟨g1,g2,g3⟩:=(hpre.mem q).1 hq;rw[Qw,QB,QB]at g3;rcases qao q.1 u.flat.length with g5|g5
   .have g4:(q.1,u.flat.length)∈un:=hmem hil g5 (by
     cases hb:gy ops.toList u.flat.length q.1 with
     |true=>have:=hanc _ hb;rw[g2]at this;cases this
     |false=>rfl)
    exact⟨(hord _ g4).2 rfl,g1,.inl g4⟩
   .have g6:=g3.resolve_left (qaR.2 g5);exact⟨g6,g1,.inr (Nat.lt_of_le_of_ne g5 λe=>hnm (by rw[g6,e]))⟩
  have ho:ops[u.flat.length]?=some ops[u.flat.length]:=qaa hil;obtain⟨hgu,hds,hcop⟩:=Ki (LH _ _ hgs u.flat.length ops[u.flat.length] _ t_ hgm);have hcano:=hcan ops[u.flat.length] t_;have hsz:=hl.size
  have tail:∀(b:aw U) (x:KV U) (T':St) (a':Act) (w':Wo) (L':Nat->Va),de [] W (sb (jL S1 A_s) A_s) b->
    AK K Γ F W (some (un,fr)) u V S b ((eR S1 b A_s d x).hP (fE S1 b x)) (λS3=>k .normal S3)=some r->Rel E T' a' w' L'->T'.N=b.N->
    (pre=[]/\T'=((eR S1 b A_s d x).hP (fE S1 b x)).st\/∃q g,pre=[(q,g)]/\∀ft T3,RR P (S.N+q) ((eR S1 b A_s d x).hP (fE S1 b x)) T3 g ft->∃Γ' p,fQ P Γ'/\og Γ' (S.N+q) T' g=some p/\T'.bA g.d p.1 p.2=T3.st/\ft=pn (S.N+q) T' g p)->
    wpAnyIn (WF E.rd) 0 P .any ops (λe a' w'=>∃S' L',Rel E S' a' w' L'/\∃S'',S'=S''.st/\de F W S S''/\k e S''=some r) fuel (listed.setIfInBounds u.flat.length true) a' w':=by
   intro b x T' a' w' L' hfr hpo h' hN' hfree;have hS2:=hfr.N;have:(sb (jL S1 A_s) A_s).N=S1.N:=rfl;obtain⟨Γ2,T3,S3,D2,l2,fs2,hΓ2,hrel3,hrun2,hm2,hs2,hap2,hD2,hf3,hpo,hfo⟩:=NG hΓ hops hun hfa hnm hlate ok2 hpo;have fin:∀a' w' L',Rel E S3.st a' w' L'->∃S' L',Rel E S' a' w' L'/\∃S'',S'=S''.st/\de F W S S''/\k .normal S''=some r:=λa3 w3 L3 h5=>⟨S3.st,L3,h5,S3,rfl,Ly (λt D=>⟨hD1 t D,(hoff' t D).2,hD2 t D⟩) hchk hf1 hfr (k2:=0) hf3,hpo⟩
   have hset:sy ops (λ_=>true) (listed.setIfInBounds u.flat.length true):=hl.set M hi λj _ D=>by cases D
   have hfu':(hZ (u.flat++⟨d,none,jK f c xs⟩::V.flat) (listed.setIfInBounds u.flat.length true)).length<=fuel:=by have hin:(u.flat.length,(⟨d,none,jK f c xs⟩:SG))∈hZ (u.flat++⟨d,none,jK f c xs⟩::V.flat) listed:=nS.2 ⟨hgm,hli⟩;obtain⟨k1,k2,hk12⟩:=List.append_of_mem hin;rw[Jv O hk12];rw[hk12]at hfu;simp at hfu ⊢;omega
   have hpl:uP (λ_=>true) (u.flat++⟨d,none,jK f c xs⟩::V.flat) (listed.setIfInBounds u.flat.length true) (pre++l2):=by
    refine⟨λp=> ?_,qau.2 ⟨hpre.nd,hs2.imp λh=>qaj h,λp hp q hq e=>((hm2 q).1 hq).2.2 (by rw[<-e];exact(hpm p hp).1)⟩⟩
    rw[Qu,hm2,hpre.mem];refine⟨λh=> ?_,λ⟨h1,N,_⟩=> ?_⟩
    .rcases h with⟨h1,N,h3⟩|⟨h1,N,h3⟩
     .have:p.1≠u.flat.length:=λe=>by
       rw[e,Qw,QB,QB]at h3;exact h3.elim (qaE _) hnm
      exact⟨h1,by rw[xt this];exact N,rfl⟩
     .have:p.1<ops.size:=by have:=(QI.1 h1).1;simp at this;omega
      exact⟨h1,by rw[xt O];exact hlm p.1 O h3 this,rfl⟩
    .have hne:p.1≠u.flat.length:=λe=>by rw[e,Is O]at N;cases N
     rw[xt hne]at N;rcases qbq hne with h5|h5
     .exact .inl ⟨h1,N,by simp[h5]⟩
     .by_cases h6:fr=some p.1
      .exact .inl ⟨h1,N,by simp[h6]⟩
      .exact .inr ⟨h1,h5,h6⟩
   rcases hfree with⟨hp0,rfl⟩|⟨q,g,hp1,hst⟩
   .rw[hp0,List.nil_append]at hpl;exact Bg (E:=E) (base:=S.N) (S':=S3.st) hΓ2 hgs hcan M (λ_=>true) (λ_=>fin) (λi fuel listed S a w L l fs _ _ D=>by cases D) fuel _ _ a' w' L' l2 fs2 hset (hrel3.2 _ _ _ _ h') (by have:=hrel3.1;have:T3.st.N=T3.N:=rfl;have:((eR S1 b A_s d x).hP (fE S1 b x)).N=b.N:=rfl;omega) hpl hrun2 hap2 hfu'
   .obtain⟨hq1,J,hq3⟩:=hpm (q,g) (by rw[hp1];exact Qx)
    simp only at hq1 J hq3;obtain⟨o,ft,ho1,hI,hft,hind⟩:=hfo q hq1;rw[J]at ho1;injection ho1 with ho1
    subst ho1;obtain⟨Γ',p,hΓ',m,happ,rfl⟩:=hst ft T3 hI;rw[hp1,List.singleton_append]at hpl;refine Bg (E:=E) (base:=S.N) (S':=S3.st) (Γs:=λj=>if j=q then Γ' else Γ2 j) (λj=>by show fQ P (if j=q then Γ' else Γ2 j);split;exact hΓ';exact hΓ2 j) hgs hcan M (λ_=>true) (λ_=>fin) (λi fuel listed S a w L l fs _ _ D=>by cases D) fuel _ T' a' w' L' ((q,g)::l2) (pn (S.N+q) T' g p::fs2) hset h' (by rw[hN'];omega) hpl ?_ ?_ hfu'
    .simp only[dL,Qp,m,happ];rw[wg (Γs':=Γ2),hrun2];intro p' hp';rw[Qg (λe=>((hm2 p').1 hp').2.2 (by rw[e];exact hq1))]
    .intro y z p' q' g' e hyz hp' hq' hg' he hanc'
     cases y with
     |zero=>
      cases z with
      |zero=>omega
      |succ z=>simp only[List.getElem?_cons_zero,List.getElem?_cons_succ,Qb]at hp' hq' hg' he;subst hp' hg';exact hind z q' e hq' he hanc'
     |succ y=>
      cases z with
      |zero=>omega
      |succ z=>exact hap2 y z p' q' g' e O (by simpa using hp') (by simpa using hq') (by simpa using hg') (by simpa using he) hanc'
  unfold wpOpIn;rw[ho];simp only;rw[Ee hgu,Qc rfl];have hvs':=hvs.mono (Q':=λe A=>∃b,A=b.st/\de [] W (sb (jL S1 A_s) A_s) b/\(e= .ret\/e= .normal)/\∃v,o9 b rvs=some v/\Bj S1 b A_s=true/\(λb v=>Bj S1 b A_s=true/\AK K Γ F W (some (un,fr)) u V S b ((eR S1 b A_s d v).hP (fE S1 b v)) (λS3=>k .normal S3)=some r) b v) λe A ⟨b,e1,e2,e3,v,e4,e5,e6⟩=>⟨b,e1,e2,e3,v,e4,e5,e5,e6⟩
  rcases pre with _|⟨⟨q,g⟩,pre'⟩
  .simp[dL,Qb,QX]at G;rw[G.1]at h0;refine A9 K (fd:=none) (fi:=none) hfn hnr okx okv has hlen hsets rfl (λ_ _=>rfl) (λ_ e=>by cases e) (λ_=>rfl) (λ_ e=>by cases e) hvs' h0 hcop hds.symm hcano λb x a' w' L' hfr ⟨hdk,hpo⟩ h4=> ?_
   rw[St.Jc]at h4;exact tail b x _ a' w' L' hfr hpo h4 rfl (.inl ⟨rfl,rfl⟩)
  .have hp':pre'=[]:=by
    rcases pre' with _|⟨q',pre'⟩
    .rfl
    .have h1:=hpm (q,g) t_;have N:=hpm q' t_;have hnd:=hpre.nd;rw[qab]at hnd;have:=hnd.1 q' t_;rw[h1.1]at N;injection N.1 with N
     exact absurd N this
   subst hp';obtain⟨hq1,J,hq3⟩:=hpm (q,g) Qx;simp only at hq1 J hq3;have hqlt:q<ops.size:=by have:=(QI.1 J).1;simp at this;omega
   simp only[dL]at G;split at G
   .cases G
   rename_i p m;simp only[Qb,QX]at G;have hS1:=G.1
   have hfd:∀t,g.d=some t->t∉(jK f c xs).bz/\d≠some t:=λt D=>by
    have X:lI g ⟨d,none,jK f c xs⟩=true\/lI ⟨d,none,jK f c xs⟩ g=true:=by
     rcases hq3 with h5|h5
     .exact .inl (hfa _ h5 _ _ J hgm)
     .exact .inr (hfa _ (hlate q _ hq1 (Ql _) h5) _ _ hgm J)
    rcases X with X|X
    .simp only[lI,D,SG.bz,Qa,QQ,bne_iff_ne,ne_eq,List.nil_append]at X;exact⟨λhm=>(by have h6:=X.1.1;rw[List.contains_iff_mem.2 hm]at h6;cases h6),X.1.2⟩
    .simp only[lI,D,SG.bz,Qa,QQ,List.nil_append]at X;refine⟨λhm=>(by have h6:=X.2;rw[List.contains_iff_mem.2 hm]at h6;cases h6),λe=> ?_⟩
     have h6:=X.1;rw[e]at h6;simp at h6
   have hE0:∀t,g.d≠some t->S0.env t=(S1.env t).pv:=λt D=>by rw[<-St.fc g.d p.1 p.2 D,hS1];rfl
   have hN01:S0.N=S1.N:=QL St.N hS1
   have hfl:(u.flat++lD::V.flat)[q]?=some g:=by
    rcases qbq (λe:q=u.flat.length=>hnm (by rw[hq1,e]))with h5|h5
    .rw[List.getElem?_append_left h5]at J ⊢;exact J
    .rw[List.getElem?_append_right O,show q - u.flat.length=(q - u.flat.length - 1)+1 by omega,List.getElem?_cons_succ]at J ⊢;exact J
   simp only[PS,hq1,hfl]at B
   by_cases hna:∀z,g.op≠ .alloc z
   .have hp2:p.2=none:=by
     clear tail;simp only[og,SG.wanted]at m;split at B
     .rename_i H;exact absurd H (hna _)
     .rename_i hgg H;simp only[hgg,H,exec]at m
      repeat' split at m
      all_goals first|cases m|(simp only[Qh]at m;obtain⟨_,_,rfl⟩:=m;rfl)
     .rename_i hgg H;simp only[hgg,H,exec]at m
      repeat' split at m
      all_goals first|(injection m with m;rw[<-m];done)|cases m
     .cases B
    have hHn:∀id,S0.H id=(S1.H id).pv:=λid=>by
     have:=QL (λQ:St=>Q.H id) hS1
     rw[hp2]at this;exact this
    refine A9 K (fd:=g.d) (fi:=none) hfn hnr okx okv has hlen hsets hN01 hE0 hfd hHn (λ_ e=>by cases e) hvs' h0 hcop hds.symm hcano λb x a' w' L' hfr ⟨hdk,hpo⟩ h4=>tail b x _ a' w' L' hfr hpo h4 rfl (.inr ⟨q,g,rfl,?_⟩)
    rintro ft T3 ⟨dd,hdd,_,hI⟩;rcases hI with⟨⟨z,hz⟩,_⟩|⟨_,hnu,rfl,Γ',hΓ',he,rfl⟩
    .exact absurd hz (hna z)
    .have hev:∀t∈g.bz,(((eR S1 b A_s d x).hP (fE S1 b x)).st.H6 g.d none λid=>(b.H id).ab).env t=((eR S1 b A_s d x).hP (fE S1 b x)).st.env t:=λt D=>Qg λe=>by rw[hdd]at e;injection e with e;exact hnu (by rw[e];exact D)
     refine⟨Γ',_,hΓ',(CS hev λ_ _=>rfl).trans he,?_,?_⟩
     .simp only[St.bA,St.H6,hdd,aw.st,St.mk.injEq];refine⟨?_,?_,trivial⟩
      .funext t
       by_cases D:t=dd
       .subst D;rw[bf]
       .rw[bq _ _ D,Qg (λe=>D (by injection e with e;exact e.symm))]
      .funext id
       simp
     .simp only[pn,CH hev λ_ _=>rfl]
   .obtain⟨z,H⟩:=Classical.not_forall.1 hna;have H:=qbl.1 H
    have⟨hgg,B⟩:g.g=none/\gn S1 A_s (S.N+q)=true:=by
     rw[H]at B
     cases hgg:g.g with
     |none=>rw[hgg]at B;exact⟨rfl,B⟩
     |some _=>rw[hgg]at B;cases B
    unfold og at m;have hw:g.wanted S0=some true:=by simp[SG.wanted,hgg]
    rw[hw,H]at m;simp only[exec,Qb]at m;subst m;have hlt0:S.N+q<S0.N:=O
    have h0':=h0.PF (λid=>decide (id=S.N+q)) (λ_=>(S0.H (S.N+q)).ab+1) λid I=>by have:=qaV I;subst this;exact⟨qan _,λe=>O⟩
    have hHq:(S1.H (S.N+q)).pv=⟨(S0.H (S.N+q)).ab+1,.box z⟩:=by
     have:=QL (λQ:St=>Q.H (S.N+q)) hS1
     simp only[St.bA,bf]at this;exact this.symm
    have hvq:(S1.H (S.N+q)).ab=(S0.H (S.N+q)).ab+1:=QL dg.ab hHq
    have hHn:∀id,id≠S.N+q->S0.H id=(S1.H id).pv:=λid I=>by
     have:=QL (λQ:St=>Q.H id) hS1
     simp only[St.bA,bq _ _ I]at this;exact this
    refine A9 K (S0:=S0.kill (λid=>decide (id=S.N+q)) λ_=>(S0.H (S.N+q)).ab+1) (fd:=g.d) (fi:=some (S.N+q)) hfn hnr okx okv has hlen hsets hN01 hE0 hfd (λid=> ?_) (λid e=>by injection e with e;rw[<-e];exact B) hvs' h0' hcop hds.symm hcano λb x a' w' L' hfr ⟨hdk,hpo⟩ h4=> ?_
    .show(if decide (id=S.N+q)=true then _ else S0.H id)=_
     by_cases I:id=S.N+q
     .subst I;rw[Qc rfl,Qc t_,hvq]
     .rw[Qg (by simpa using I),Qg (λe=>I (by injection e with e;exact e.symm)),hHn id I]
    .refine tail b x _ a' w' L' hfr hpo h4 rfl (.inr ⟨q,g,rfl,?_⟩);rintro ft T3 ⟨dd,hdd,_,hI⟩;rcases hI with⟨_,rfl,v,off,het,hv,rfl⟩|⟨hno,_⟩
     .have hw':∀Q:St,g.wanted Q=some true:=λQ=>by simp[SG.wanted,hgg]
      have hno:fE S1 b x (S.N+q)=false:=by
       unfold fE
       have:Nat.ble S1.N (S.N+q)=false:=by
        cases hb:Nat.ble S1.N (S.N+q)with
        |false=>rfl
        |true=>have:=Qk hb;omega
       rw[this];rfl
      have hT2:((eR S1 b A_s d x).hP (fE S1 b x)).H (S.N+q)=S1.H (S.N+q):=by
       show(match fE S1 b x (S.N+q)with|true=>_|false=>(eR S1 b A_s d x).H (S.N+q))=_
       rw[hno];show(match gn S1 A_s (S.N+q)with|true=>S1.H (S.N+q)|false=>b.H (S.N+q))=_
       rw[B]
      have hv2:(b.H (S.N+q)).ab=(S1.H (S.N+q)).ab:=by have:=sm hdk (S.N+q) (Sf B);rw[B,qaD,qa7,Qa]at this;exact Qf this.2
      have hd0:d≠some dd:=(hfd dd hdd).2
      have henv:S1.env dd= .ptr (S.N+q) (S1.H (S.N+q)).ab 0:=by
       have:=QL (λQ:St=>Q.env dd) hS1
       simp only[St.bA,hdd,bf]at this;rw[hvq];have h9:(S1.env dd).pv= .ptr (S.N+q) ((S0.H (S.N+q)).ab+1) 0:=this.symm;revert h9
       cases S1.env dd<;>simp only[KV.pv]<;>intro h9<;>first|(injection h9 with h1 N h3;rw[h1,N,h3])|cases h9
      have hoff0:off=0:=by
       have h9:((eR S1 b A_s d x).hP (fE S1 b x)).env dd=wH S1 dd:=by show(eR S1 b A_s d x).env dd=_;unfold eR;rw[aw.Jr,fc _ _ _ _ hd0]
       rw[h9,wH,henv]at het;split at het
       .injection het with _ _ h3;exact h3.symm
       .cases het
      subst hoff0;refine⟨λ_=>none,(.ptr (S.N+q) ((b.H (S.N+q)).ab+1) 0,some (S.N+q,⟨(b.H (S.N+q)).ab+1,.box z⟩)),IZ,?_,?_,?_⟩
      .unfold og;rw[hw',H];simp only[exec,St.H6,Qc]
      .rw[hv,Jo]
       have hc2:(((eR S1 b A_s d x).hP (fE S1 b x)).st.H (S.N+q))=⟨(b.H (S.N+q)).ab,.box z⟩:=by show(((eR S1 b A_s d x).hP (fE S1 b x)).H (S.N+q)).pv=_;rw[hT2,hHq,hv2,hvq]
       simp only[St.bA,St.H6,hdd,St.raise,hc2,St.mk.injEq];refine⟨?_,?_,trivial⟩
       .funext t
        by_cases D:t=dd
        .subst D;rw[bf,bf]
        .rw[bq _ _ D,bq _ _ D,Qg (λe=>D (by injection e with e;exact e.symm))]
       .funext id
        by_cases I:id=S.N+q
        .subst I;rw[bf,bf]
        .rw[bq _ _ I,bq _ _ I,Qg (λe=>I (by injection e with e;exact e.symm))]
      .simp only[pn,Ad,hw',H,eN,Qn]
     .exact absurd H (hno z)
 .rw[hl0];refine⟨λ⟨h1,N⟩=>⟨h1,(yY (ops:=ops) λ_=>false).t p.1 (by have:=(QI.1 h1).1;simp at this;omega) rfl,N⟩,λ⟨h1,_,N⟩=>⟨h1,N⟩⟩
def cP{Γ:Z (bQ U)}(u:jI P Γ):∀(sa:SA U) {nt:Nat} {ρ:Type} (F:Z Nat) (W:WS) (k:Exit->aw U->Y ρ) (S:aw U) (r:ρ),sa.nR P->iQ K Γ sa F W k S=some r->
  VS P nt sa.erase (λe A=>∃S',A=S'.st/\de F W S S'/\k e S'=some r) S.st
 | .skip,nt,ρ,F,W,k,S,r,j,h=>SM ⟨S,rfl,de.refl _ _ _,h⟩
 | .exit id,nt,ρ,F,W,k,S,r,j,h=>SS ⟨S,rfl,de.refl _ _ _,h⟩
 | .ret,nt,ρ,F,W,k,S,r,j,h=>UO ⟨S,rfl,de.refl _ _ _,h⟩
 | .lZ rs,nt,ρ,F,W,k,S,r,j,h=>by
  simp[iQ]at h;split at h
  .rename_i ho;exact SO u j h λS' H B=>⟨S',rfl,(H.toC ho).more,B⟩
  .cases h
 | .jl un rs,nt,ρ,F,W,k,S,r,j,h=>by
  simp only[iQ]at h;split at h
  .rename_i ho;obtain⟨Γs,S',fs,V,X,h3,h4⟩:=kS u rs 0 _ _ j h;split at h4
   .rename_i hun;refine UP V (S':=S'.st) ?_ ⟨S',rfl,(h3.toC ho).more,h4⟩;rw[RS.mm];have e:({S.st with N:=S.st.N+rs.len}:St)=(S.more rs.len).st:=rfl
    rw[e,Ht];rw[show S.st.N=S.N from rfl,X]
    exact Qc hun
   .cases h4
  .cases h
 | .seq x y,nt,ρ,F,W,k,S,r,j,h=>by
  simp[SA.nR]at j;refine UN ((cP u x F W _ S r j.1 h).mono ?_);rintro e A ⟨S',rfl,H,B⟩
  cases e with
  |normal=>exact(cP u y F W k S' r j.2 B).mono λe A ⟨S'',V,X,h3⟩=>⟨S'',V,H.trans X,h3⟩
  |exit i|goto l|ret|panic c|outgrown=>exact⟨S',rfl,H,B⟩
 | .join J x y,nt,ρ,F,W,k,S,r,j,h=>by
  simp[SA.nR]at j;simp only[iQ,Jl]at h;split at h
  .rename_i o;unfold aX at h
   have hsub:∀S',de J.cO (some (S.N,dp J.items)) S S'->de F W S S':=by
    intro S' H;simp[oh,Qa,Qe]at o;obtain⟨⟨⟨⟨⟨⟨hnd,hids⟩,hokv⟩,hkeep⟩,hobj⟩,hF⟩,hW⟩:=o;refine⟨λt ht=>H.env t (cJ.1 (hF t ht)),λid Q=>H.H id ?_,H.N⟩
    simp[okW,Q3];refine⟨?_,?_⟩
    .cases W with
     |none=>cases hW
     |some q=>
      let⟨n,l⟩:=q
      simp only at hW;simp[okW,Q3]at Q;have V:=Qk hW
      cases hb:Nat.ble S.N id with
      |false=>rfl
      |true=>have:=Qk hb;rw[qak (QS V this)]at Q;cases Q.1
    .cases hb:cZ id (dp J.items)with
     |false=>rfl
     |true=>have:=(hids id (cJ.1 hb)).2;rw[Q]at this;cases this
   refine SN (cP u x J.cO _ _ S r j.1 h) ?_ ?_
   .rintro A ⟨S',rfl,H,B⟩;simp only at B;split at B
    .rename_i v hv;exact⟨_,Ch o hv H,(cP u y F W k _ r j.2 B).mono λe A ⟨S'',V,X,h3⟩=>⟨S'',V,(EM o v).trans X,h3⟩⟩
    .cases B
   .rintro e A hne ⟨S',rfl,H,B⟩
    cases e with
    |normal=>exact absurd rfl hne
    |_=>exact⟨S',rfl,hsub S' H,B⟩
  .cases h
 | .cond c x y,nt,ρ,F,W,k,S,r,j,h=>by
  simp[SA.nR]at j;simp[iQ]at h;split at h
  .rename_i b hb;have hv:c.val S.st= .bool b:=by rw[mT j.1.1,hb];rfl
   refine SU hv ?_
   cases b with
   |true=>exact cP u x F W k S r j.1.2 h
   |false=>exact cP u y F W k S r j.2 h
  .rename_i hb;have hv:c.val S.st= .dI:=by rw[mT j.1.1,hb];rfl
   let⟨V,X⟩:=Oa h
   exact Pd hv (cP u x F W k S r j.1.2 V) (cP u y F W k S r j.2 X)
  .cases h
 | .block id x,nt,ρ,F,W,k,S,r,j,h=>by
  refine Pe ((cP u x F W _ S r j h).mono ?_);rintro e A ⟨S',rfl,H,B⟩
  cases e with
  |exit i=>
   simp only at B;simp[Ah];split at B
   .rename_i hi;rw[Qc (Qf hi)];exact⟨S',rfl,H,B⟩
   .rename_i hi;rw[Qg (qaA hi)];exact⟨S',rfl,H,B⟩
  |normal|goto l|ret|panic c|outgrown=>exact⟨S',rfl,H,B⟩
 | .loop J x,nt,ρ,F,W,k,S,r,j,h=>by
  simp[iQ,Jl]at h;split at h
  .rename_i o;split at h
   .rename_i v0 hv0
    have hsub:∀v S',de J.cO (some (S.N,dp J.items)) (unpack K S J v) S'->de F W S S':=by
     intro v S' H;have I:=EM (K:=K) o v;refine I.trans ?_;simp[oh,Qa,Qe]at o;obtain⟨⟨⟨⟨⟨⟨hnd,hids⟩,hokv⟩,hkeep⟩,hobj⟩,hF⟩,hW⟩:=o;refine⟨λt ht=>H.env t (cJ.1 (hF t ht)),λid Q=>H.H id ?_,H.N⟩
     simp[okW,Q3];refine⟨?_,?_⟩
     .cases W with
      |none=>cases hW
      |some q=>
       let⟨n,l⟩:=q
       simp only at hW;simp[okW,Q3]at Q;have V:=Qk hW
       cases hb:Nat.ble S.N id with
       |false=>rfl
       |true=>have:=Qk hb;rw[qak (QS V this)]at Q;cases Q.1
     .cases hb:cZ id (dp J.items)with
      |false=>rfl
      |true=>have:=(hids id (cJ.1 hb)).2;rw[Q]at this;cases this
    have hself:∀v S',de J.cO (some (S.N,dp J.items)) (unpack K S J v) S'->∀v',pack K S' J.items=some v'->∀(E:En),qg E S.st->∀(a:Act) (w:Wo) (L:Nat->Va),Rel E S'.st a w L->∃L',Rel E (unpack K S J v').st a w L':=by
     intro v S' H v' hv' E hA a w L hrel;have hc:=o;simp[oh,Qa,Qe]at hc;obtain⟨⟨⟨⟨⟨⟨hnd,hids⟩,hokv⟩,hkeep⟩,hobj⟩,hF⟩,hW⟩:=hc;refine⟨L,Rel.meet o hv' (λt ht=>(H.env t ht).trans ?_) (λid Q hni=>(H.H id ?_).trans ?_) (by have:=H.N;rw[unpack,zD,GN]at this;exact this) hA hrel⟩
     .have hns:cZ t (slotsOf J.items)=false:=by simpa using(hkeep t ht).2
      rcases uq (K:=K) (S.base J.cO) J.items v t with⟨⟨i,d⟩,hmem,V,X⟩|⟨_,X⟩
      .exact absurd (yh (eS hmem) V) (kT hns)
      .rw[show(unpack K S J v).env t=_ from X,Bk,Qc ht]
     .simp[okW,Q3];refine⟨?_,?_⟩
      .cases hb:Nat.ble S.N id with
       |false=>rfl
       |true=>have:=Qk hb;omega
      .cases hb:cZ id (dp J.items)with
       |false=>rfl
       |true=>exact absurd (cJ.1 hb) hni
     .rcases zF (K:=K) (S.base J.cO) J.items v id hnd with⟨⟨i,d⟩,hmem,V,X⟩|⟨_,X⟩
      .exact absurd (mR (eS hmem) V) hni
      .rw[show(unpack K S J v).H id=_ from X,GO,Qc Q]
    let⟨n,hn⟩:=wj h
    refine KO (λm A=>∃v,A=(unpack K S J v).st/\jJ (λv=>iQ K Γ x J.cO (some (S.N,dp J.items)) (λe S'=>match e with
     | .normal=>(match pack K S' J.items with|some v=>some (inl v)|none=>none)
     |e=>(k e S').map inr) (unpack K S J v)) m v=some r) n (Ch o hv0 (de.refl _ _ _)) ⟨v0,rfl,hn⟩ ?_
    rintro m A ⟨v,rfl,I⟩
    cases m with
    |zero=>cases I
    |succ m=>
     simp[jJ]at I;split at I
     .cases I
     .rename_i r' hs;injection I with I
      subst I;refine(cP u x J.cO _ _ _ _ j hs).mono ?_;rintro e A ⟨S',rfl,H,B⟩
      cases e with
      |normal=>simp only at B;split at B<;>cases B
      |exit i|goto l|ret|panic c|outgrown=>simp only[Qh]at B;obtain⟨q,hq,e⟩:=B;injection e with e;subst e;exact⟨S',rfl,hsub v S' H,hq⟩
     .rename_i v' hs;refine(cP u x J.cO _ _ _ _ j hs).mono ?_;rintro e A ⟨S',rfl,H,B⟩
      cases e with
      |normal=>
       simp only at B;split at B
       .rename_i v1 hv1;injection B with B
        injection B with B
        subst B;exact⟨m,Q9 m,_,hself v S' H v1 hv1,v1,rfl,I⟩
       .cases B
      |exit i|goto l|ret|panic c|outgrown=>simp only[Qh]at B;obtain⟨q,hq,e⟩:=B;cases e
   .cases h
  .cases h
 | .Eg n x,nt,ρ,F,W,k,S,r,j,h=>by
  simp[iQ]at h;have⟨g,hg,h⟩:=(⟨_,rfl,h⟩:∃g,g=_/\Ja g n S=some r);refine KO (λm A=>∃S1:aw U,A=S1.st/\de F W S S1/\Ja g m S1=some r) n (λE _ a w L h=>⟨L,h⟩) ⟨S,rfl,de.refl _ _ _,h⟩ ?_
  rintro m A ⟨S1,rfl,hf1,I⟩
  cases m with
  |zero=>cases I
  |succ m=>
   simp[Ja]at I;rw[hg]at I;simp only at I;rw[<-hg]at I;refine(cP u x F W _ S1 r j I).mono ?_;rintro e A ⟨S',rfl,H,B⟩
   cases e with
   |normal=>exact⟨m,Q9 m,S'.st,λE _ a w L h=>⟨L,h⟩,S',rfl,hf1.trans H,B⟩
   |exit i|goto l|ret|panic c|outgrown=>exact⟨S',rfl,hf1.trans H,B⟩
 | .back J f kk nE T tg p0 p1 x y,nt,ρ,F,W,k,S,r,j,h=>by
  simp[SA.nR]at j;simp[iQ]at h;obtain⟨D,hD⟩:∃D,SC.jb (.zA (.tmp tg) [p0,p1] x.erase y.erase)=D:=⟨_,rfl⟩;rw[hD]at h;split at h
  .rename_i hcond;simp only[Qa]at hcond;obtain⟨⟨⟨⟨⟨⟨hbk,hsz⟩,hnE⟩,htk⟩,hkD⟩,hFD⟩,o⟩:=hcond;have hsz:=Qf hsz;have htk:=cJ.1 htk
   have htD:tg∉D:=λI=>by have:=Qe.1 hkD tg I;rw[cJ.2 htk]at this;cases this
   have hp:∀q,q=p0\/q=p1->cZ q J.cO=false:=by
    intro q hq;have hqD:q∈D:=by rw[<-hD];rcases hq with rfl|rfl<;>simp[SC.jb]
    simpa using Qe.1 hkD q hqD
   split at h
   .rename_i f' T' xs' hclo;split at h
    .rename_i hff;have hff:=Qf hff;subst hff;split at h
     .rename_i xs hcast
      let⟨eT,hxs⟩:=jf hcast
      subst eT;simp only at hxs;subst hxs;split at h
      .rename_i v0 hv0
       let⟨hin,hev⟩:=O5 (K:=K) hsz hnE xs
       have⟨step,hstep,h⟩:=(⟨_,rfl,h⟩:∃step,step=_/\oS step (λv=>k .normal (unpack K (S.dP D) J v)) xs.reverse v0=some r)
       have hN:(S.dP D).N=S.N:=rfl;refine SV (Fb u hbk) hin (by rw[hD];exact htD) (λi A=>∃v,A=(unpack K (S.dP D) J v).st/\oS step (λv=>k .normal (unpack K (S.dP D) J v)) (xs.take i).reverse v=some r) ?_ ?_ ?_ ?_
       .rw[hD,<-Ey];refine⟨_,λE hz=>Ch o hv0 (de.refl _ _ _) E (.none hz),v0,rfl,?_⟩
        rw[Qv,qbf];exact h
       .rintro i A ⟨v,rfl,_⟩;show((unpack K (S.dP D) J v).env tg).pv=_;rw[Io o v htk];have:(S.dP D).env tg=S.env tg:=(Bf hkD none S).env tg htk;rw[this,hclo];rfl
       .rintro m A e ⟨v,rfl,I⟩ he;rw[Qr,Qh]at he;obtain⟨a,ha,rfl⟩:=he;have hml:m<xs.length:=(QI.1 ha).1;rw[List.take_add_one,ha,Option.toList_some,List.reverse_append]at I;simp only[List.reverse_cons,List.reverse_nil,List.nil_append,List.singleton_append,oS]at I;rw[List.length_reverse,List.length_take,qav (Nat.le_of_lt hml)]at I
        obtain⟨z,hz,hzr⟩:∃z,step m a v=some z/\(match z with| .inr r'=>r'=r| .inl s'=>oS step (λv=>k .normal (unpack K (S.dP D) J v)) (xs.take m).reverse s'=some r):=by
         split at I
         .cases I
         .rename_i r' hs;injection I with I
          exact⟨_,hs,I⟩
         .rename_i s' hs;exact⟨_,hs,I⟩
        clear I;rw[hstep]at hz;simp only at hz
        have hst:({(unpack K (S.dP D) J v).st with env:=bd (bd (unpack K (S.dP D) J v).st.env p0 (.int .i64 m)) p1 (uH nE (U.pv _ a))}:St)=aw.st {(unpack K (S.dP D) J v)with env:=dj (dj (unpack K (S.dP D) J v).env p0 (.int .i64 m)) p1 (tf K _ a)}:=by
         have henv:bd (bd (unpack K (S.dP D) J v).st.env p0 (.int .i64 m)) p1 (uH nE (U.pv _ a))=λt=>((dj (dj (unpack K (S.dP D) J v).env p0 (.int .i64 m)) p1 (tf K _ a)) t).pv:=by
          funext t
          simp only[bT,hev];unfold bd;split
          .rfl
          .split
           .rfl
           .rfl
         exact QL (λe=>({(unpack K (S.dP D) J v).st with env:=e}:St)) henv
        rw[hst]
        have hf0:de J.cO (some (S.N,dp J.items)) (unpack K (S.dP D) J v) {(unpack K (S.dP D) J v)with env:=dj (dj (unpack K (S.dP D) J v).env p0 (.int .i64 m)) p1 (tf K _ a)}:=by
         refine⟨λt ht=> ?_,λ_ _=>rfl,Ql _⟩
         simp only[bT];rw[bq _ _ (λe=>by have:=hp t (.inr e);rw[cJ.2 ht]at this;cases this),bq _ _ (λe=>by have:=hp t (.inl e);rw[cJ.2 ht]at this;cases this)]
        refine(cP u x J.cO _ _ _ _ j.1 hz).mono ?_;rintro e A ⟨S1,rfl,hf1,M⟩
        cases e with
        |normal=>
         simp only at M;refine(cP u y J.cO _ _ _ _ j.2 M).mono ?_;rintro e A ⟨S2,rfl,hf2,G⟩;have hf3:de J.cO (some (S.N,dp J.items)) (unpack K (S.dP D) J v) (S2.dP D):=((hf0.trans hf1).trans hf2).trans (Bf hkD _ _);have hf4:de F W S (S2.dP D):=(Bf hFD W S).trans (JE o v hf3);rw[hD]
         cases e with
         |normal=>
          simp only at G;split at G
          .rename_i v' hv';injection G with G
           subst G;refine⟨_,?_,v',rfl,hzr⟩;rw[<-Ey];exact λE hz=>NR o v hf3 hv' E (.none hz)
          .cases G
         |ret|exit i=>simp[Qh]at G;obtain⟨q,hq,rfl⟩:=G;simp only at hzr;subst hzr;exact⟨S2.dP D,(Ey _ _).symm,hf4,hq⟩
         |goto i|panic ch|outgrown=>cases G
        |ret|exit i|goto i|panic ch|outgrown=>cases M
       .rintro A ⟨v,rfl,I⟩;simp[List.take_zero,List.reverse_nil,oS]at I;exact⟨_,rfl,(Bf hFD W S).trans (JE o v (de.refl _ _ _)),I⟩
      .cases h
     .cases h
    .cases h
   .cases h
  .cases h
 | .inl dr r1 d f c xs n rvs x r2,nt,ρ,F,W,k,S,r,j,h=>by
  simp only[SA.nR]at j;obtain⟨⟨lg,ok2,okx,okv⟩,hnr,hfn,hokx⟩:=j;simp only[iQ]at h;split at h
  .rename_i hoff;obtain⟨kk,hkk,h⟩:∃kk,kk=_/\Jt K Γ F W dr r1 r2 S kk=some r:=⟨_,rfl,h⟩
   have key:∀S1,kk S1=some r->∃A_s,tD S1 f c xs=some A_s/\uF S1 F W A_s n x.erase.jb=true/\PS S.N dr (r1.flat++lD::r2.flat) S1 (gn S1 A_s)=true/\VS P n x.erase (λe A=>∃S2,A=S2.st/\de [] W (sb (jL S1 A_s) A_s) S2/\(e= .ret\/e= .normal)/\∃v,o9 S2 rvs=some v/\Bj S1 S2 A_s=true/\AK K Γ F W dr r1 r2 S S2 ((eR S1 S2 A_s d v).hP (fE S1 S2 v)) (λS3=>k .normal S3)=some r) (sb (jL S1 A_s) A_s).st:=by
    intro S1 M;rw[hkk]at M;simp only[Jl]at M;split at M
    .rename_i A_s has;simp only[Gw,Se,Sd]at M;split at M
     .rename_i o;rw[Qa]at o;refine⟨A_s,has,o.1,o.2,(cP u x _ W _ _ r hokx M).mono ?_⟩;rintro e A ⟨S2,rfl,H,G⟩;have he:e= .ret\/e= .normal:=by cases e<;>first|exact .inl rfl|exact .inr rfl|cases G
      rcases he with rfl|rfl
      all_goals
       simp only at G;split at G
       .rename_i v hv;split at G
        .rename_i hdk;simp only[R2]at G;exact⟨S2,rfl,H,by first|exact .inl rfl|exact .inr rfl,v,hv,hdk,G⟩
        .cases G
       .cases G
     .cases M
    .cases M
   cases dr with
   |none=>exact SQ u hfn hnr hoff lg ok2 okx okv h λS1 M=>let⟨A_s,V,X,_,h4⟩:=key S1 M;⟨A_s,V,X,h4⟩
   |some q=>exact SR u (un:=q.1) (fr:=q.2) hfn hnr hoff lg ok2 okx okv h key
  .cases h
 | .ps p x,nt,ρ,F,W,k,S,r,j,h=>by
  simp[iQ]at h;split at h
  .rename_i hW;simp only[Qa]at hW;split at h
   .rename_i S1 hp;refine LO (λE a w L hr=>Ps.sound K hp hr) ((cP u x F W k S1 r j h).mono λe A ⟨S'',V,X,h3⟩=>⟨S'',V,de.trans ?_ X,h3⟩)
    exact(Ps.TJ hp hW.1).toC hW.2
   .cases h
  .cases h
 | .xa p x,nt,ρ,F,W,k,S,r,j,h=>by
  refine SP (cP u x F W _ S r j h) ?_;rintro e A ⟨S',rfl,H,B⟩
  cases e with
  |normal=>
   simp only at B;split at B
   .rename_i hW;simp only[Qa]at hW;split at B
    .rename_i S1 hp;exact⟨S1.st,⟨S1,rfl,H.trans ((Ps.TJ hp hW.1).toC hW.2),B⟩,λE a w L hr=>Ps.sound K hp hr⟩
    .cases B
   .cases B
  |exit i|goto l|ret|panic c|outgrown=>exact⟨_,⟨S',rfl,H,B⟩,λE a w L hr=>⟨L,hr⟩⟩
end
end
section
open Go.RowKit
section
variable{P:Pr}{E:En}{S:St}{a:Act}{w:Wo}{L:Nat->Va}{nt:Nat}
def VS.post{l:SC}{Q Q':Exit->St->Prop}{S:St}(h:VS P nt l Q S)(o:∀e A,Q e A->∃b,(∀(E:En) (a:Act) (w:Wo) (L:Nat->Va),Rel E A a w L->∃j,Rel E b a w j)/\Q' e b):VS P nt l Q' S:=
 λc m q E t p a w L n=>Q6 (h c m q E t p a w L n) λe a' w' ⟨S',j,h1,z⟩=>by
  let⟨b,y,v⟩:=o e S' z
  let⟨d,u⟩:=y E a' w' j h1
  exact⟨b,d,u,v⟩
def Rel.Vi(h:Rel E S a w L){id:Nat}{cs:Z PV}(d:id<S.N)(j:(S.H id).c= .box cs):Rel E {S with H:=bd S.H id ⟨(S.H id).ab,.box (cs.map nz)⟩} a w L:=by
 have:=(h.nM (w':=w) d ⟨(S.H id).ab,.box (cs.map nz)⟩ (L id) (.inl ⟨rfl,rfl,by rw[j];rfl⟩) rfl rfl rfl (Ql _) (λ_ _ _=>rfl) (λb _ o=> .inl ⟨by rw[j];rfl,o⟩) (λm n=>by
  let⟨b,l,T,h1,t,q,p⟩:=h.mO d j
  exact⟨b,l,T,h1,t,p,(q.mono m n).nz⟩)).1
 rwa [Az]at this
end
section
variable{U:TU}
variable(K:TK U)
def Kc(S:aw U)(ex:Y Nat):(r:jm U)->KV U->Y r.den
 | .one T,x=>yc K S.lk T x
 | .many b,x=>(match x with| .cg xs=>I3 K S.lk b xs|_=>none)
 | .fn a,x=>(match Nat.ble a.depth 9 with|true=>Fi K S ex a x|false=>none)
variable{K}
theorem HR{S:aw U}{ex:Y Nat}(b:∀id,ex=some id->∀e k T xs,(S.H id).c≠ .row e k T xs){r:jm U}{x:KV U}{v:r.den}(h:Kc K S ex r x=some v):fz S.st.H ex 9 x.pv=nN r v:=by
 cases r with
 |one T=>exact Ew b 7 h
 |many j=>
  simp[Kc]at h
  grind [KV.pv,KV.bR,fz,nN,Kb]
 |fn a=>
  simp[Kc]at h;split at h
  .rename_i d;exact LG b a 9 x v (Qk d) h
  .cases h
variable(K)
def Fm(A_s:Z (KV U)):aw U:=
 {env:=λt=>(A_s[t]?).getD .undef,H:=λ_=>⟨0,.dead⟩,N:=0}
def Ph(pos:Nat)(cs A_s:Z (KV U)):aw U:=
 {env:=λt=>((gL pos [KV.ptr 0 0 0] A_s)[t]?).getD .undef,H:=λid=>(match Nat.beq id 0 with|true=>⟨0,.box cs⟩|false=>⟨0,.dead⟩),N:=1}
def J7{ρ:Type}(ex:Y Nat)(rs:Z RV)(r:jm U)(k:aw U->r.den->Y ρ)(e:Exit)(S:aw U):Y ρ:=
 match e with
 | .ret| .normal=>(match o9 S rs with
  |some x=>(match Kc K S ex r x with|some v=>k S v|none=>none)
  |none=>none)
 |_=>none
def wS(S:aw U):Z RV->Bool
 |[]=>true
 | .tmp _::l=>wS S l
 | .cell t _::l=>(match S.env t with| .ptr id _ _=> !Nat.beq id 0|_=>false)&&wS S l
 def J5(Γ:Z (bQ U))(sa:SA U)(rs:Z RV)(A_s:Z (b0 U))(r:jm U)(a:cz A_s):Y r.den:=
 iQ K Γ sa [] (some (0,[])) (J7 K none rs r λ_ v=>some v) (Fm (pJ K A_s a))
 def Tj(Γ:Z (bQ U))(sa:SA U)(rs:Z RV)(pos:Nat)(R:U.Ty)(A_s:Z (b0 U))(r:jm U)(s:U.den R)(a:cz A_s):Y (r.den×U.den R):=
 iQ K Γ sa [] (some (0,[])) (J7 K (some 0) rs r λS v=>(match wS S rs with
  |true=>(match S.om 0 0 with
   |some cs=>(match K.dec R lE cs with|some s'=>some (v,s')|none=>none)
   |none=>none)
  |false=>none)) (Ph pos (K.dD R s) (pJ K A_s a))
 def VV(Γ:Z (bQ U))(sa:SA U)(rs:Z RV)(A_s:Z (b0 U))(R:U.Ty)(a:cz A_s):Y (U.den R):=
 iQ K Γ sa [] (some (0,[])) (λe S=>(match e with
  | .ret=>(match o9 S rs with
   |some (.ptr id ab 0)=>(match S.om id ab with|some cs=>K.dec R lE cs|none=>none)
   |_=>none)
  |_=>none)) (Fm (pJ K A_s a))
variable{K}
variable{P:Pr}{nt:Nat}
def qA:∀(A_s:Z (b0 U)) (a:cz A_s),(ec A_s a).length=A_s.length
 |[],_=>by rw[ec];rfl
 |_::l,a=>by rw[ec,QW,qA l a.2,QW]
def DD(A_s:Z (b0 U))(a:cz A_s):(Fm (pJ K A_s a)).st=cr 0 false [] (ec A_s a):=by
 unfold Fm aw.st cr;congr 1
 .funext t
  rw[<-uO K];simp[QR,QE,Iq,Qr];cases (pJ K A_s a)[t]?<;>rfl
def SZ(pos:Nat)(R:U.Ty)(s:U.den R)(A_s:Z (b0 U))(a:cz A_s):(Ph pos (K.dD R s) (pJ K A_s a)).st=cr pos true (U.pv R s) (ec A_s a):=by
 unfold Ph aw.st cr;congr 1
 .grind [uO,gL,pJ,KV.pv]
 .funext id
  cases id with
  |zero=>simp[qar,Qp,bu.pv,cj.pv,K.lK]
  |succ id=>simp[Nat.beq,bu.pv,cj.pv]
def CR{ρ:Type}{ex:Y Nat}{rs:Z RV}{r:jm U}{k:aw U->r.den->Y ρ}{e:Exit}{S:aw U}{z:ρ}(h:J7 K ex rs r k e S=some z):(e= .ret\/e= .normal)/\∃x v,o9 S rs=some x/\Kc K S ex r x=some v/\k S v=some z:=by
 unfold J7 at h
 grind
def CK{f:FI}{Γ:Z (bQ U)}{sa:SA U}{rs:Z RV}{A_s:Z (b0 U)}{r:jm U}(p:ep P f nt sa.erase rs)(m:sa.nR P)(d:A_s.length<=nt)(l:jI P Γ){F:cz A_s->Y r.den}(hF:∀a,J5 K Γ sa rs A_s r a=F a):bQ.Sound P (.fn f A_s r F):=by
 refine⟨p.enters,λa v o=> ?_⟩
 rw[<-hF a]at o;refine p.GD (by simpa[qA]using d) ?_
 rw[<-DD (K:=K)];refine(cP l sa [] _ _ _ _ m o).mono ?_;rintro e A ⟨S',rfl,_,hk⟩
 let⟨he,x,v',h1,t,n⟩:=CR hk
 injection n with n
 subst n
 have b:tX rs false (λq j=>q=nN r v'/\(false=true->j=[])) S'.st:=by
  unfold tX;rw[wP h1]
  grind [HR]
 rcases he with rfl|rfl<;>exact b
 def TO(K:TK U)(Γ:Z (bQ U))(sa:SA U)(rs:Z RV)(A_s:Z (b0 U))(r:jm U)(a:cz A_s):Y r.den:=
 iQ K Γ sa [] (some (0,[])) (J7 K none rs r λ_ v=>some v) ((Fm (pJ K A_s a)).more 1)
def Mu{f:FI}{Γ:Z (bQ U)}{sa:SA U}{rs:Z RV}{A_s:Z (b0 U)}{r:jm U}(p:ep P f nt sa.erase rs)(m:sa.nR P)(d:A_s.length<=nt)(l:jI P Γ){F:cz A_s->Y r.den}(hF:∀a,TO K Γ sa rs A_s r a=F a):bQ.Sound P (.fn f A_s r F):=by
 refine⟨p.enters,λa v o=> ?_⟩
 rw[<-hF a]at o;refine p.GD (by simpa[qA]using d) ?_
 rw[<-DD (K:=K)];refine(LO (S':=((Fm (pJ K A_s a)).more 1).st) (λE a w L h=>⟨L,h.room 1⟩) (cP l sa [] _ _ _ _ m o)).mono ?_
 rintro e A ⟨S',rfl,_,hk⟩
 let⟨he,x,v',h1,t,n⟩:=CR hk
 injection n with n
 subst n
 have b:tX rs false (λq j=>q=nN r v'/\(false=true->j=[])) S'.st:=by
  unfold tX;rw[wP h1]
  grind [HR]
 rcases he with rfl|rfl<;>exact b
def NL{S:aw U}{id ab:Nat}{cs:Z (KV U)}(d:S.om id ab=some cs){R:U.Ty}{s:U.den R}(b:K.dec R lE cs=some s)(j:id<S.N):(∀(E:En) (a:Act) (w:Wo) (L:Nat->Va),Rel E S.st a w L->∃m,Rel E {S.st with H:=bd S.st.H id ⟨ab,.box (U.pv R s)⟩} a w m):=by
 intro E a w L h
 let⟨h1,l⟩:=sk d
 have:=h.Vi j l;rw[h1,(oi (K.iR _ _ _ _ b)).1]at this;exact⟨L,this⟩
def JX(K:TK U)(R:U.Ty)(s:U.den R):(U.pv R s).all PV.closed=true:=Qe.2 λy b=>dY (K.ea R s y b)
def Nz{f:FI}{Γ:Z (bQ U)}{sa:SA U}{rs:Z RV}{pos:Nat}{R:U.Ty}{A_s:Z (b0 U)}{r:jm U}(V:ep P f nt sa.erase rs)(D:sa.nR P)(o:1+A_s.length<=nt)(B:jI P Γ)
  {F:U.den R->cz A_s->Y (r.den×U.den R)} (hF:∀s a,Tj K Γ sa rs pos R A_s r s a=F s a):bQ.Sound P (.rc f pos R A_s r F):=by
 refine⟨V.enters,λs a v s' M=> ?_⟩
 rw[<-hF s a]at M;refine V.GD (by simpa[qA]using o) ?_
 rw[<-SZ (K:=K)];refine(cP B sa [] _ _ _ _ D M).post ?_;rintro e A ⟨S',rfl,G,hk⟩;obtain⟨he,x,v',h1,h2,l⟩:=CR hk;split at l
 case h_2=>cases l
 rename_i hnc;split at l
 .rename_i cs W;split at l
  .rename_i b hd;injection l with l
   injection l with h4 h5
   subst h4 h5;have hN:0<S'.N:=QF (show 0<1 from Nat.one_pos) G.N
   refine⟨_,NL W hd hN,?_⟩;have h6:=wP h1
   have N:∀rs:Z RV,wS S' rs=true->qh {S'.st with H:=bd S'.st.H 0 ⟨0,.box (U.pv R b)⟩} rs=qh S'.st rs:=by
    intro rs j
    induction rs with
    |nil=>rfl
    |cons q rs z=>
     cases q with
     |tmp t=>simp only[wS]at j;simp only[qh,w7,z j]
     |cell t n=>
      simp only[wS,Qa]at j;have J:=j.1;split at J
      .rename_i id ab u ht;have hne:id≠0:=by intro e;subst e;simp at J
       grind [aw.st,KV.pv,qh,w7,bq]
      .cases J
   have m:tX rs true (λX p=>X=nN r v'/\(true=true->p=U.pv R b)) {S'.st with H:=bd S'.st.H 0 ⟨0,.box (U.pv R b)⟩}:=by
    unfold tX
    have h7:nq {S'.st with H:=bd S'.st.H 0 ⟨0,.box (U.pv R b)⟩} rs=some x.pv:=by grind [nq]
    rw[h7];simp only[bf];refine⟨JX K R b,?_,t_⟩;have I:=(uM W).2;rw[<-HR (K:=K) (S:=S') (ex:=some 0) (λid d=>by injection d with d;subst d;intro e k T xs Q;rw[I]at Q;cases Q) h2]
    have hz:∀(n:Nat) (y:PV),fz (bd S'.st.H 0 ⟨0,.box (U.pv R b)⟩) (some 0) n y=fz S'.st.H (some 0) n y:=by
     intro n
     induction n with
     |zero=>intro y;simp only[fz]
     |succ n z=>
      intro y;have hu:∀id,¬(some id=some 0)->bd S'.st.H 0 ⟨0,.box (U.pv R b)⟩ id=S'.st.H id:=λid d=>bq _ _ (λe=>d (by rw[e]))
      have hm:fz (bd S'.st.H 0 ⟨0,.box (U.pv R b)⟩) (some 0) n=fz S'.st.H (some 0) n:=funext z
      cases y with
      |own id ab|ptr id ab u=>grind [fz]
      |agg cs|cg cs|aT f cs=>simp only[fz,hm]
      |_=>simp only[fz]
    exact hz 9 x.pv
   rcases he with rfl|rfl<;>exact m
  .cases l
 .cases l
def NM{f:FI}{Γ:Z (bQ U)}{sa:SA U}{t:Nat}{A_s:Z (b0 U)}{R:U.Ty}(p:ep P f nt sa.erase [.tmp t])(m:sa.nR P)(j:A_s.length<=nt)(l:jI P Γ){F:cz A_s->Y (U.den R)}(hF:∀a,VV K Γ sa [.tmp t] A_s R a=F a):bQ.Sound P (.nw f A_s R F):=by
 refine⟨p.enters,λa s o=> ?_⟩
 rw[<-hF a]at o;refine p.WZ (by simpa[qA]using j) ?_
 rw[<-DD (K:=K)];intro c y B E G n a' w L z;refine Q6 (cP l sa [] _ _ _ _ m o c y B E G n a' w L z) ?_;rintro e a2 w2 ⟨A,u,b,S',rfl,_,hk⟩;split at hk
 .split at hk
  .rename_i id ab v;split at hk
   .rename_i cs q
    have d:S'.st.env t= .ptr id ab 0:=by have:=wP v;simpa[nq,qh,w7,KV.pv]using this
    have D:id<S'.N:=by have:=b.env t;rw[d]at this;exact(this.lC (show(S'.st.gh u).V id=ab from(sk q).1)).1
    let⟨M,J⟩:=NL q hk D E a2 w2 u b
    refine⟨_,M,J,?_⟩
    have I:nq {S'.st with H:=bd S'.st.H id ⟨ab,.box (U.pv R s)⟩} [.tmp t]=some (.ptr id ab 0):=by simp[nq,qh,w7];rw[d]
    simp only[JC];rw[I];simp only[bf,Qp];exact⟨JX K R s,trivial⟩
   .cases hk
  .cases hk
 .cases hk
def Pg(e k:Nat)(T:U.Ty)(xs:Z (U.den T))(A_s:Z (KV U)):aw U:=
 {env:=λt=>(((KV.own 0 0)::A_s)[t]?).getD .undef,H:=λid=>(match Nat.beq id 0 with|true=>⟨0,.row e k T xs⟩|false=>⟨0,.dead⟩),N:=1}
def SY(e k:Nat)(T:U.Ty)(xs:Z (U.den T))(A_s:Z (b0 U))(a:cz A_s):(Pg e k T xs (pJ K A_s a)).st=nf e k (xs.map (U.pv T)) (ec A_s a):=by
 unfold Pg aw.st nf;congr 1
 .funext t
  rw[<-uO K]
  cases t with
  |zero=>rfl
  |succ t=>simp[List.getElem?_cons_succ,Qr];cases (pJ K A_s a)[t]?<;>rfl
 .funext id
  cases id with
  |zero=>simp[bu.pv,cj.pv]
  |succ id=>simp[Nat.beq,bu.pv,cj.pv]
variable(K)
def rowAt(S:aw U)(id ab e k:Nat)(T:U.Ty):Y (Z (U.den T)):=
 match S.row? id ab with
 |some r=>(match Nat.beq r.e e&&Nat.beq r.k k with|true=>uf r.T T r.xs|false=>none)
 |none=>none
def LZ{S:aw U}{id ab e k:Nat}{T:U.Ty}{xs:Z (U.den T)}(h:rowAt S id ab e k T=some xs):(S.H id).ab=ab/\(S.H id).c= .row e k T xs:=by
 unfold rowAt at h;split at h
 .rename_i r m
  let⟨h1,d⟩:=yd m
  split at h
  .rename_i b;rw[Qa]at b;obtain⟨j,rfl⟩:=jf h
   let⟨n,rk,o,l⟩:=r
   simp only at j d b;subst j;exact⟨h1,by rw[d,Qf b.1,Qf b.2]⟩
  .cases h
 .cases h
def MC{ρ:Type}(rs:Z RV)(e k:Nat)(T:U.Ty)(j:Z (U.den T)->Y ρ)(d:Exit)(S:aw U):Y ρ:=
 match d with
 | .ret| .normal=>(match o9 S rs with
  |some (.own id ab)=>(match rowAt S id ab e k T with|some b=>j b|none=>none)
  |_=>none)
 |_=>none
 def VZ(Γ:Z (bQ U))(sa:SA U)(rs:Z RV)(e k:Nat)(T:U.Ty)(A_s:Z (b0 U))(xs:Z (U.den T))(a:cz A_s):Y (Z (U.den T)):=
 iQ K Γ sa [] (some (0,[])) (MC rs e k T λb=>some b) (Pg e k T xs (pJ K A_s a))
 def VX(Γ:Z (bQ U))(sa:SA U)(rs:Z RV)(A_s:Z (b0 U))(e k:Nat)(T:U.Ty)(a:cz A_s):Y (Z (U.den T)):=
 iQ K Γ sa [] (some (0,[])) (MC rs e k T λb=>some b) (Fm (pJ K A_s a))
variable{K}
def Iy{ρ:Type}{rs:Z RV}{e k:Nat}{T:U.Ty}{j:Z (U.den T)->Y ρ}{m:Exit}{S:aw U}{z:ρ}(h:MC rs e k T j m S=some z):
  (m= .ret\/m= .normal)/\∃id ab b,o9 S rs=some (.own id ab)/\(S.H id).ab=ab/\(S.H id).c= .row e k T b/\j b=some z:=by
 have go:(match o9 S rs with
  |some (.own id ab)=>(match rowAt S id ab e k T with|some b=>j b|none=>none)
  |_=>none)=some z->∃id ab b,o9 S rs=some (.own id ab)/\(S.H id).ab=ab/\(S.H id).c= .row e k T b/\j b=some z:=by
  intro d;split at d
  .rename_i id ab n;split at d
   .rename_i b l
    let⟨h1,o⟩:=LZ l
    exact⟨id,ab,b,n,h1,o,d⟩
   .cases d
  .cases d
 unfold MC at h
 grind
def J8{rs:Z RV}{e k:Nat}{T:U.Ty}{S':aw U}{id ab:Nat}{d:Z (U.den T)}(m:o9 S' rs=some (.own id ab))(l:(S'.H id).ab=ab)(j:(S'.H id).c= .row e k T d)(K:TK U):yS rs e k (λb=>b=d.map (U.pv T)) .ret S'.st:=by
 simp only[yS];rw[wP m];simp[KV.pv];refine⟨l,?_⟩;have:(S'.st.H id).c= .row e k (d.map (U.pv T)):=by simp[aw.st,bu.pv,j,cj.pv]
 rw[this];exact⟨rfl,rfl,tq K T d,rfl⟩
def N4{f:FI}{Γ:Z (bQ U)}{sa:SA U}{rs:Z RV}{e k:Nat}{T:U.Ty}{A_s:Z (b0 U)}(o:ep P f nt sa.erase rs)(l:sa.nR P)(d:1+A_s.length<=nt)(j:jI P Γ)
  {F:Z (U.den T)->cz A_s->Y (Z (U.den T))} (hF:∀xs a,VZ K Γ sa rs e k T A_s xs a=F xs a):bQ.Sound P (.cw f e k T A_s F):=by
 refine⟨o.enters,λxs a u n=> ?_⟩
 rw[<-hF xs a]at n;refine o.W8 (by simpa[qA]using d) ?_
 rw[<-SY (K:=K)];refine(cP j sa [] _ _ _ _ l n).mono ?_;rintro v A ⟨S',rfl,_,hk⟩
 let⟨he,id,ab,p,h1,t,q,m⟩:=Iy hk
 injection m with m
 subst m;have b:=J8 h1 t q K;rcases he with rfl|rfl<;>exact b
def NX{f:FI}{Γ:Z (bQ U)}{sa:SA U}{rs:Z RV}{e k:Nat}{T:U.Ty}{A_s:Z (b0 U)}(o:ep P f nt sa.erase rs)(l:sa.nR P)(d:A_s.length<=nt)(j:jI P Γ)
  {F:cz A_s->Y (Z (U.den T))} (hF:∀a,VX K Γ sa rs A_s e k T a=F a):bQ.Sound P (.fw f A_s e k T F):=by
 refine⟨o.enters,λa u n=> ?_⟩
 rw[<-hF a]at n;refine o.W0 (by simpa[qA]using d) ?_
 rw[<-DD (K:=K)];refine(cP j sa [] _ _ _ _ l n).mono ?_;rintro v A ⟨S',rfl,_,hk⟩
 let⟨he,id,ab,p,h1,t,q,m⟩:=Iy hk
 injection m with m
 subst m;have b:=J8 h1 t q K;rcases he with rfl|rfl<;>exact b
end
end
section
def op{U:TU}(d:Nat)(x:bV)(r:RS U):RS U:= .op ⟨some d,none,x⟩ r
def ops{U:TU}(x:bV)(r:RS U):RS U:= .op ⟨none,none,x⟩ r
def tm(t:Nat):aQ:= .tmp t
def ld{U:TU}(d t:Nat)(r:RS U):RS U:=op d (.load none (tm t)) r
def cl{U:TU}(d f:Nat)(l:Z Nat)(r:RS U):RS U:=op d (.call f (l.map tm)) r
def aC(k:IntKind)(a b:Int):Int:=k.wrap (a+b)
def iG(k:IntKind)(a b:Int):Int:=k.wrap (a - b)
def xf(k:IntKind)(a b:Int):Int:=k.wrap (a*b)
def WR(k:IntKind)(a b:Int):Int:=k.wrap (a.tdiv b)
def L8(_:IntKind)(a b:Int):Int:=a.tmod b
def MO(k:IntKind)(a b:Int):Int:=k.wrap ((BitVec.ofInt k.bits a&&&BitVec.ofInt k.bits b).toNat)
def vt(k:IntKind)(a b:Int):Int:=k.wrap ((BitVec.ofInt k.bits a|||BitVec.ofInt k.bits b).toNat)
def fU(k:IntKind)(a b:Int):Int:=k.wrap ((BitVec.ofInt k.bits a^^^BitVec.ofInt k.bits b).toNat)
def LM(k:IntKind)(a b:Int):Int:=k.wrap ((BitVec.ofInt k.bits a&&& ~~~ BitVec.ofInt k.bits b).toNat)
def dF(k:IntKind)(a b:Int):Int:=k.wrap (a*2 ^ (min b.toNat k.bits))
def iH(k:IntKind)(a b:Int):Int:=a.fdiv (2 ^ (min b.toNat k.bits))
def bB(k:IntKind)(n:Int):Int:=k.wrap n
def rO(a b:Int):Int:=if b<a then b else a
def Ci(a b:Int):Int:=if b>a then b else a
def oe(neg:Bool)(a b:Int)(s t:C):Bool:=xor neg (decide (a=b)&&decide (s=t))
def gK{A R:Type}(B:(A->Y R)->A->Y R):Nat->A->Y R
 |0,_=>none
 |n+1,a=>B (gK B n) a
section
variable{U:TU}
inductive RN (U:TU) where
 |ps (p:Ps U)
 |np (t:Nat)
def Oq(t:Nat):Z SG->Y (Z SG×SG×Z SG)
 |[]=>none
 |o::r=>(match o.op with
  | .pick (.tmp j) _ _=>(match Nat.beq t j with
   |true=>some ([],o,r)
   |false=>(match Oq t r with|some (b,q,d)=>some (o::b,q,d)|none=>none))
  |_=>(match Oq t r with|some (b,q,d)=>some (o::b,q,d)|none=>none))
def before(n:Nat):Z (Nat×RN U)->Z (Nat×RN U)
 |[]=>[]
 |(j,x)::l=>(match Nat.ble n j with|true=>[]|false=>(j,x)::before n l)
def after(n:Nat):Z (Nat×RN U)->Z (Nat×RN U)
 |[]=>[]
 |(j,x)::l=>(match Nat.ble n j with|true=>(j,x)::l|false=>after n l)
def qi(jl:Bool):Nat->Z Nat->Nat->Z SG->Z (Nat×RN U)->RS U
 |0,_,_,_,_=> .nil
 |f+1,l,i,[],m=>(match m with
  |(_,.ps p)::d=> .ps p (qi jl f l i [] d)
  |(_,.np t)::d=> .np t (qi jl f (t::l) i [] d)
  |_=> .nil)
 |f+1,l,i,o::r,m=>(match(match m with|(j,_)::_=>Nat.beq j i|[]=>false)with
  |true=>(match m with
   |(_,.ps p)::d=> .ps p (qi jl f l i (o::r) d)
   |(_,.np t)::d=> .np t (qi jl f (t::l) i (o::r) d)
   |[]=> .nil)
  |false=>(match o.g with
   |none=> .op o (qi jl f l (Nat.succ i) r m)
   |some (t,w)=>(match cZ t l with
    |true=> .op o (qi jl f l (Nat.succ i) r m)
    |false=>(match jl with
     |true=> .np t (qi jl f (t::l) i (o::r) m)
     |false=>(match Oq t (o::r)with
      |some (b,q,n)=>(match q.op with
       | .pick _ x y=> .ite t w (qi jl f (t::l) i b (before (Nat.add i b.length) m)) (q.d.getD 0) q.g x y (qi jl f l (Nat.succ (Nat.add i b.length)) n (after (Nat.add i b.length) m))
       |_=> .nil)
      |none=> .nil)))))
inductive NT (U:TU) where
 |e
 |l (x:NT U)
 |r (x:NT U)
 |b (x y:NT U)
 |ps (p:Ps U) (x:NT U)
 |xa (p:Ps U) (x:NT U)
 |j (J:JS U) (x:NT U)
 |u (n:Nat) (x:NT U)
 |k (J:JS U) (f k:Nat) (nE:Option Nat) (T:U.Ty) (x:NT U)
 |o (J:JS U) (f:Nat) (x:NT U)
 |i (n:Nat) (f:FuncId) (nt:Nat) (rvs:List RV) (x:SA U) (ns ms:List (Nat×RN U))
 |g (ns:List (Nat×RN U))
def NT.lt:NT U->NT U
 | .l x| .b x _=>x
 | .j _ x| .k _ _ _ _ _ x| .o _ _ x| .ps _ x| .xa _ x=>x.lt
 |_=> .e
def NT.rt:NT U->NT U
 | .r x| .b _ x=>x
 | .j _ x| .k _ _ _ _ _ x| .o _ _ x| .ps _ x| .xa _ x=>x.rt
 |_=> .e
def NT.wrap:NT U->SA U->SA U
 | .ps p x,s=> .ps p (x.wrap s)
 | .xa p x,s=> .xa p (x.wrap s)
 |_,s=>s
def NT.core:NT U->NT U
 | .ps _ x| .xa _ x=>x.core
 |x=>x
def Tw(un:Y (Z (Nat×Nat)))(ops:Z SG)(t:NT U):SA U:=
 let go:=λb=>(match un with|none=>SA.lZ (qi false 4000 [] 0 ops b)|some u=> .jl u (qi true 4000 [] 0 ops b))
 match t with
 | .g b=>go b
 | .i n f nt d x b j=>
  let l:=un.map λu=>(u,(u.find? λp=>Nat.beq p.1 n||Nat.beq p.2 n).map λp=>bif Nat.beq p.1 n then p.2 else p.1)
  (match ops.drop n with
  |o::r=>(match o.op with
   | .call _ xs=> .inl l (qi un.isSome 4000 [] 0 (ops.take n) b) o.d f none xs nt d x (qi un.isSome 4000 [] 0 r j)
   | .lp m xs=> .inl l (qi un.isSome 4000 [] 0 (ops.take n) b) o.d f (some m) xs nt d x (qi un.isSome 4000 [] 0 r j)
   |_=> .skip)
  |[]=> .skip)
 |_=>go []
def bc:SC->NT U->SA U
 | .skip,t=>t.wrap .skip
 | .lZ ops,t=>t.wrap (Tw none ops t.core)
 | .jl un ops,t=>t.wrap (Tw (some un) ops t.core)
 | .seq x y,t=>t.wrap (match t.core with
  | .j J u=> .join J (bc x u.lt) (bc y u.rt)
  |u=> .seq (bc x u.lt) (bc y u.rt))
 | .cond c x y,t=>t.wrap (.cond c (bc x t.lt) (bc y t.rt))
 | .block id x,t=>t.wrap (.block id (bc x t.lt))
 | .loop x,t=>t.wrap (match t.core with
  | .j J u=> .loop J (bc x u.lt)
  | .u n t=> .Eg n (bc x t.lt)
  |_=> .loop ⟨[],[]⟩ (bc x t.lt))
 | .zA g ps x y,t=>t.wrap (match t.core with
  | .k J f k d T u=>(match g with
   | .tmp b=> .back J f k d T b (ps.headD 0) (ps.tail.headD 0) (bc x u.lt) (bc y u.rt)
   |_=> .skip)
  |_=> .skip)
 | .exit id,t=>t.wrap (.exit id)
 | .ret,t=>t.wrap .ret
def aS(P:Pr)(nt:Nat)(b:Z Nat)(fn:Func):SC:=(fn.body.bind (ax P nt b)).getD .skip
end
section
variable{U:TU}{P:Pr}
structure KS (U:TU) (P:Program) where
 k:bQ U
 s:k.Sound P
def KS.ks:Z (KS U P)->Z (bQ U)
 |[]=>[]
 |x::l=>x.k::KS.ks l
def KS.all:∀l:Z (KS U P),jI P (KS.ks l)
 |[]=>trivial
 |x::l=>⟨x.s,KS.all l⟩
variable{K:TK U}{f:FI}{A_s:Z (b0 U)}{r:jm U}{e k:Nat}{T R:U.Ty}
def fk{f nt:Nat}{c:SC}{rs:Z RV}(fn:Func)(b:Z Nat)(d:P.funcs[f]?=some fn)(h0:fn.ntmps=nt:=by rfl)(m:(fn.body.bind (ax P nt b))=some c:=by kernel_rfl)(l:gQ P fn.results.toList=some rs:=by kernel_rfl)(j:(fn.name== "runtime.NumGoroutine")=false:=by kernel_rfl):ep P f nt c rs:=⟨fn,b,d,h0,m,l,j⟩
def N0(sa:SA U)(nt:Nat)(rs:Z RV)(G:Z (KS U P))(j:ep P f nt sa.erase rs)(d:sa.bJ=true:=by kernel_rfl)(b:A_s.length<=nt:=by decide){F:cz A_s->Y r.den}(hF:J5 K (KS.ks G) sa rs A_s r=F:=by kernel_rfl):bQ.Sound P (.fn f A_s r F):=
 CK j (iO d) b (KS.all G) λa=>Q4 hF a
def Fc(sa:SA U)(nt:Nat)(rs:Z RV)(G:Z (KS U P))(l:Z (FI×Nat×SC×Z RV))(hi:oW P l)(m:ep P f nt sa.erase rs)(d:sa.tl=true:=by kernel_rfl)(j:sa.HM=l:=by kernel_rfl)(b:A_s.length<=nt:=by decide){F:cz A_s->Y r.den}(hF:TO K (KS.ks G) sa rs A_s r=F:=by kernel_rfl):bQ.Sound P (.fn f A_s r F):=
 Mu m (tk d (by rw[j];exact hi)) b (KS.all G) λa=>Q4 hF a
def Xd{pos:Nat}(sa:SA U)(nt:Nat)(rs:Z RV)(G:Z (KS U P))(j:ep P f nt sa.erase rs)(d:sa.bJ=true:=by kernel_rfl)(b:1+A_s.length<=nt:=by decide){F:U.den R->cz A_s->Y (r.den×U.den R)}(hF:Tj K (KS.ks G) sa rs pos R A_s r=F:=by kernel_rfl):bQ.Sound P (.rc f pos R A_s r F):=
 Nz j (iO d) b (KS.all G) λs a=>Q4 (Q4 hF s) a
def Xc{pos:Nat}{F:U.den R->cz A_s->Y (r.den×U.den R)}(h:bQ.Sound P (.rc f pos R A_s r F))(d:∀s a q,F s a=some q->q.2=s):bQ.Sound P (.ro f pos R A_s r F):=
 ⟨h.1,λs a v s' b=>⟨d s a _ b,h.2 s a v s' b⟩⟩
def Xf(sa:SA U)(nt t:Nat)(G:Z (KS U P))(j:ep P f nt sa.erase [.tmp t])(d:sa.bJ=true:=by kernel_rfl)(b:A_s.length<=nt:=by decide){F:cz A_s->Y (U.den R)}(hF:VV K (KS.ks G) sa [.tmp t] A_s R=F:=by kernel_rfl):bQ.Sound P (.nw f A_s R F):=
 NM j (iO d) b (KS.all G) λa=>Q4 hF a
def Kf(sa:SA U)(nt:Nat)(rs:Z RV)(G:Z (KS U P))(j:ep P f nt sa.erase rs)(d:sa.bJ=true:=by kernel_rfl)(b:1+A_s.length<=nt:=by decide){F:Z (U.den T)->cz A_s->Y (Z (U.den T))}(hF:VZ K (KS.ks G) sa rs e k T A_s=F:=by kernel_rfl):bQ.Sound P (.cw f e k T A_s F):=
 N4 j (iO d) b (KS.all G) λs a=>Q4 (Q4 hF s) a
def CJ(sa:SA U)(nt:Nat)(rs:Z RV)(G:Z (KS U P))(j:ep P f nt sa.erase rs)(d:sa.bJ=true:=by kernel_rfl)(b:A_s.length<=nt:=by decide){F:cz A_s->Y (Z (U.den T))}(hF:VX K (KS.ks G) sa rs A_s e k T=F:=by kernel_rfl):bQ.Sound P (.fw f A_s e k T F):=
 NX j (iO d) b (KS.all G) λa=>Q4 hF a
def VY(sa:SA U)(nt:Nat)(rs:Z RV)(G:Z (KS U P))(j:ep P f nt sa.erase rs)(d:sa.bJ=true:=by kernel_rfl)(b:A_s.length<=nt:=by decide){B:(cz A_s->Y r.den)->cz A_s->Y r.den}(l:(λg=>J5 K (.fn f A_s r g::KS.ks G) sa rs A_s r)=B):∀n,bQ.Sound P (.fn f A_s r (gK B n))
 |0=>⟨j.enters,λa r h=>by cases h⟩
 |n+1=>CK (K:=K) (Γ:= .fn f A_s r (gK B n)::KS.ks G) (F:=gK B (n+1)) j (iO d) b ⟨VY sa nt rs G j d b l n,KS.all G⟩ λa=>Q4 (Q4 l (gK B n)) a
def Bc(sa:SA U)(nt:Nat)(rs:Z RV)(G:Z (KS U P))(j:ep P f nt sa.erase rs)(d:sa.bJ=true:=by kernel_rfl)(b:A_s.length<=nt:=by decide){B:(cz A_s->Y r.den)->cz A_s->Y r.den}(m:(λg=>J5 K (.fn f A_s r g::KS.ks G) sa rs A_s r)=B:=by kernel_rfl){F:cz A_s->Y r.den}(hF:∀a,∃n,F a=gK B n a):bQ.Sound P (.fn f A_s r F):=
 ⟨j.enters,λa r h=>by
  let⟨n,l⟩:=hF a
  rw[l]at h
  exact(VY sa nt rs G j d b m n).2 a r h⟩
def Mt(sa:SA U)(nt:Nat)(rs:Z RV)(G:(g:cz A_s->Y r.den)->bQ.Sound P (.fn f A_s r g)->Z (KS U P))(j:ep P f nt sa.erase rs)(d:sa.bJ=true:=by kernel_rfl)(b:A_s.length<=nt:=by decide){B:(cz A_s->Y r.den)->cz A_s->Y r.den}(l:(λg h=>J5 K (.fn f A_s r g::KS.ks (G g h)) sa rs A_s r)=λg _=>B g):∀n,bQ.Sound P (.fn f A_s r (gK B n))
 |0=>⟨j.enters,λa r h=>by cases h⟩
 |n+1=>CK (K:=K) (Γ:= .fn f A_s r (gK B n)::KS.ks (G (gK B n) (Mt sa nt rs G j d b l n))) (F:=gK B (n+1)) j (iO d) b ⟨Mt sa nt rs G j d b l n,KS.all _⟩ λa=>Q4 (Q4 (Q4 l (gK B n)) (Mt sa nt rs G j d b l n)) a
def VA(sa:SA U)(nt:Nat)(rs:Z RV)(G:(g:cz A_s->Y r.den)->bQ.Sound P (.fn f A_s r g)->Z (KS U P))(j:ep P f nt sa.erase rs)(d:sa.bJ=true:=by kernel_rfl)(b:A_s.length<=nt:=by decide){B:(cz A_s->Y r.den)->cz A_s->Y r.den}(m:(λg h=>J5 K (.fn f A_s r g::KS.ks (G g h)) sa rs A_s r)=(λg _=>B g):=by kernel_rfl){F:cz A_s->Y r.den}(hF:∀a,∃n,F a=gK B n a):bQ.Sound P (.fn f A_s r F):=
 ⟨j.enters,λa r h=>by
  let⟨n,l⟩:=hF a
  rw[l]at h
  exact(Mt sa nt rs G j d b m n).2 a r h⟩
end
 def FD{α:Type}(x:α):α:=(Classical.choice (⟨⟨x,rfl⟩⟩:Nonempty {y:α // y=x})).1
def ED{α:Type}(x:α):FD x=x:=(Classical.choice (⟨⟨x,rfl⟩⟩:Nonempty {y:α // y=x})).2
def Pv{U:TU}{P:Pr}{f:FI}{b:Z (b0 U)}{r:jm U}{x:Y (jm.den r)}(h:bQ.Sound P (.fn f b r λ_=>x)):bQ.Sound P (.fn f b r λ_=>FD x):=by
 rw[show(λ_:cz b=>FD x)=λ_=>x from funext λ_=>ED x]
 exact h
end
section
open Go.RowKit
def Ow{w:Wo}{M:Nat->Prop}{G:Gh}{a:Y Addr}{len cap:Nat}{d:Z Int}(A:∀b,¬M b)
  (h:(a=none/\len=0/\cap=0/\d=[])\/∃x,a=some x/\len<=cap/\cap<=maxLen/\d.length=cap/\(∀i,i<d.length->w.cell? (x.add i)=some (.int .i64 (d.getD i 0)))/\∀n∈d,(Lit.int .i64 n).wf=true):
  aJ w M G (.sl ((d.take len).map λn=>[.int .i64 n])) (.slice a len cap):=by
 rcases h with⟨rfl,rfl,rfl,rfl⟩|⟨x,rfl,h1,D,I,B,_⟩
 .exact .slnil
 .have q:∀l:Z Int,(l.map λn=>[PV.int .i64 n]).flatten=l.map λn=> .int .i64 n:=by
   intro l
   induction l with
   |nil=>rfl
   |cons n l u=>simp only[Qj,List.flatten_cons,u];rfl
  have j:((d.take len).map λn=>[PV.int .i64 n]).length=len:=o_
  have:=aJ.sl (w:=w) (M:=M) (G:=G) ((d.take len).map λn=>[.int .i64 n]) x cap 1 ((d.take len).map λn=> .int .i64 n) (λe z=>by obtain⟨n,_,rfl⟩:=Qq.1 z;rfl) (by rw[q];simp)
   (λi v o=> ?_) (λi y v t o=> ?_) (by rw[j];exact h1) D
  .rw[j]at this;exact this
  .refine⟨?_,A _⟩;rw[Qr,Qh]at o;obtain⟨n,m,rfl⟩:=o;rw[qat]at m;split at m
   .have hi:i<d.length:=(QI.1 m).1;rw[B i hi,qaM,m];rfl
   .cases m
  .rw[q]at t;rw[Qr]at t o;rw[Qh]at t o;obtain⟨n,m,rfl⟩:=t;obtain⟨H,p,rfl⟩:=o;rw[m]at p;injection p with e
   subst e;exact .int _ _
def NS{P:Pr}{f:FI}{b:Z PV}{vs:Z Va}{w:Wo}(o:GI w)(h:RT P f false [] b (.bool true) [])(l:aK w (λ_=>False) cn b vs):
  Calls P f vs.toArray w λe w'=>e= .returned (.bool true)/\Below w.heap.size w w':=by
 refine(h w (λ_=>False) (.nil o) 0 0 [] vs (λd=>by cases d) ?_).mono ?_
 .exact⟨l.1,λi x v m j=>(l.2 i x v m j).mono (bN.of λ_ _=>λd=>by rcases d with⟨d,_⟩|d;cases d;exact d) (Gh.le.refl _)⟩
 .rintro e w' ⟨v,_,rfl,j,_,hF⟩;refine⟨by rw[j.iK],hF.os,hF.tape,hF.output,hF.size,λk n=>hF.block k n t_⟩
end
section
structure ar where
 aV:Int
 aY:(List Int)
 bC:(List ar)
def ar.eta(x:ar):ar.mk x.aV x.aY x.bC=x:=by cases x;rfl
@[reducible] def af (x:ar):ar:=ar.mk x.aV x.aY x.bC
structure aA where
 aF:Int
 cU:Int
 ae:ar
 di:(List ByteArray)
 bK:(List ByteArray)
@[simp] def aA.eta (x:aA):aA.mk x.aF x.cU x.ae x.di x.bK=x:=rfl
structure aD where
 aF:Int
 br:Int
 Round:Int
 cU:Int
 ae:ar
 sx:ByteArray
 di:(List ByteArray)
 bK:(List ByteArray)
 da:(List ByteArray)
 bm:(List aA)
@[simp] def aD.eta (x:aD):aD.mk x.aF x.br x.Round x.cU x.ae x.sx x.di x.bK x.da x.bm=x:=rfl
structure aj where
 al:Int
 Value:ByteArray
@[simp] def aj.eta (x:aj):aj.mk x.al x.Value=x:=rfl
instance:DecidableEq aj:=λa b=>decidable_of_iff (a.al=b.al/\a.Value=b.Value) (by cases a;cases b;simp)
structure ao where
 aF:Int
 br:Int
 cU:Int
 ae:ar
 cF:Int
 aG:aj
 aP:aj
 bD:aj
 eX:Int
 dU:Int
@[simp] def ao.eta (x:ao):ao.mk x.aF x.br x.cU x.ae x.cF x.aG x.aP x.bD x.eX x.dU=x:=rfl
structure aW where
 aF:Int
 br:Int
 cU:Int
 ae:ar
 dZ:Int
 aG:aj
 aP:aj
 bD:aj
 bM:aj
 eX:Int
 dU:Int
 fZ:ByteArray
 bm:(List ao)
@[simp] def aW.eta (x:aW):aW.mk x.aF x.br x.cU x.ae x.dZ x.aG x.aP x.bD x.bM x.eX x.dU x.fZ x.bm=x:=rfl
structure gz where
 al:Int
 td:Int
@[simp] def gz.eta (x:gz):gz.mk x.al x.td=x:=rfl
structure ba where
 aN:aD
 aa:aW
 Timer:gz
 Round:Int
 Next:Int
 Fu:Bool
 Value:ByteArray
@[simp] def ba.eta (x:ba):ba.mk x.aN x.aa x.Timer x.Round x.Next x.Fu x.Value=x:=rfl
structure ay where
 aF:Int
 lN:Bool
 ae:ar
 bX:(List ba)
@[simp] def ay.eta (x:ay):ay.mk x.aF x.lN x.ae x.bX=x:=rfl
structure aL where
 cF:Int
 br:Int
 ai:aA
 ah:ao
@[simp] def aL.eta (x:aL):aL.mk x.cF x.br x.ai x.ah=x:=rfl
structure bx where
 td:Int
 C8:Int
 To:Int
 Number:Int
 ak:aL
@[simp] def bx.eta (x:bx):bx.mk x.td x.C8 x.To x.Number x.ak=x:=rfl
structure bI where
 cD:(List bx)
 Next:Int
 gl:(List Int)
 gG:(List Int)
@[simp] def bI.eta (x:bI):bI.mk x.cD x.Next x.gl x.gG=x:=rfl
structure aH where
 Time:Int
 aY:(List ay)
 fR:Int
 Net:bI
 fl:(List (List ar))
@[simp] def aH.eta (x:aH):aH.mk x.Time x.aY x.fR x.Net x.fl=x:=rfl
structure bS where
 qJ:Bool
 ae:ar
@[simp] def bS.eta (x:bS):bS.mk x.qJ x.ae=x:=rfl
structure bo where
 dS:(List bS)
@[simp] def bo.eta (x:bo):bo.mk x.dS=x:=rfl
structure eA where
 cF:Int
 aF:Int
 To:Int
 br:Int
 Count:Int
 Value:ByteArray
 ae:ar
 ak:aL
 gl:(List Int)
@[simp] def eA.eta (x:eA):eA.mk x.cF x.aF x.To x.br x.Count x.Value x.ae x.ak x.gl=x:=rfl
structure fY where
 aF:Int
 br:Int
 Value:ByteArray
@[simp] def fY.eta (x:fY):fY.mk x.aF x.br x.Value=x:=rfl
structure k7 where
 c0:bo
 c1:bo
@[simp] def k7.eta (x:k7):k7.mk x.c0 x.c1=x:=rfl
structure mD where
 c0:(List eA)
 c1:(List eA)
@[simp] def mD.eta (x:mD):mD.mk x.c0 x.c1=x:=rfl
structure mC where
 c0:aH
 c1:aH
@[simp] def mC.eta (x:mC):mC.mk x.c0 x.c1=x:=rfl
structure jA where
 L:(List Int)
 At:Int
@[simp] def jA.eta (x:jA):jA.mk x.L x.At=x:=rfl
structure cm where
 World:aH
@[simp] def cm.eta (x:cm):cm.mk x.World=x:=rfl
structure av where
 aa:aW
@[simp] def av.eta (x:av):av.mk x.aa=x:=rfl
structure bY where
 ah:ao
@[simp] def bY.eta (x:bY):bY.mk x.ah=x:=rfl
structure eK where
 aF:Int
 View:bo
 bm:(List bY)
@[simp] def eK.eta (x:eK):eK.mk x.aF x.View x.bm=x:=rfl
structure lM where
 Bq:Int
 Value:Int
@[simp] def lM.eta (x:lM):lM.mk x.Bq x.Value=x:=rfl
structure iL where
 aF:Int
 cU:Int
 ae:ar
 di:(List lM)
 bK:(List lM)
@[simp] def iL.eta (x:iL):iL.mk x.aF x.cU x.ae x.di x.bK=x:=rfl
structure Br where
 oJ:Int
 low:Int
 tE:Int
 ew:aj
 cY:aj
 fO:aj
 cv:aj
@[simp] def Br.eta (x:Br):Br.mk x.oJ x.low x.tE x.ew x.cY x.fO x.cv=x:=rfl
structure k8 where
 c0:aj
 c1:aj
@[simp] def k8.eta (x:k8):k8.mk x.c0 x.c1=x:=rfl
structure qB where
 c0:Int
 c1:Int
@[simp] def qB.eta (x:qB):qB.mk x.c0 x.c1=x:=rfl
structure lx where
 Og:Int
 Oi:Int
@[simp] def lx.eta (x:lx):lx.mk x.Og x.Oi=x:=rfl
attribute [simp] ar.eta
inductive iC where
 |ae
 |ai
 |aN
 |aG
 |ah
 |aa
 |Timer
 |br
 |dz
 |ak
 |ij
 |mU
 |World
 |ik
 |Config
 |Step
 |Outcome
 |jj
 |kR
 |kQ
 |Src
 |pK
 |pY
 |oU
 |Seen
 |Claim
 |Message
 |sx
 |jk
 |mV
 |tN
 deriving DecidableEq
inductive Ty where
 |i (k:IntKind)
 |bool
 |str
 |sl (t:Ty)
 |st (n:iC)
def iC.den:iC->Type
 | .ae=>ar
 | .ai=>aA
 | .aN=>aD
 | .aG=>aj
 | .ah=>ao
 | .aa=>aW
 | .Timer=>gz
 | .br=>ba
 | .dz=>ay
 | .ak=>aL
 | .ij=>bx
 | .mU=>bI
 | .World=>aH
 | .ik=>bS
 | .Config=>bo
 | .Step=>eA
 | .Outcome=>fY
 | .jj=>k7
 | .kR=>mD
 | .kQ=>mC
 | .Src=>jA
 | .pK=>cm
 | .pY=>av
 | .oU=>bY
 | .Seen=>eK
 | .Claim=>lM
 | .Message=>iL
 | .sx=>Br
 | .jk=>k8
 | .mV=>qB
 | .tN=>lx
def Ty.den:Ty->Type
 | .i _=>Int
 | .bool=>Bool
 | .str=>C
 | .sl t=>Z t.den
 | .st n=>n.den
def Ty.beq:Ty->Ty->Bool
 | .i k,.i j=>decide (k=j)
 | .bool,.bool| .str,.str=>true
 | .sl t,.sl b=>Ty.beq t b
 | .st n,.st d=>decide (n=d)
 |_,_=>false
def Ty.eq_of_beq:∀{a b:Ty},Ty.beq a b=true->a=b
 | .i k,.i l,h=>by rw[qaV h]
 | .bool,.bool,_| .str,.str,_=>rfl
 | .sl t,.sl d,h=>by rw[Ty.eq_of_beq (a:=t) (b:=d) h]
 | .st n,.st j,h=>by rw[qaV h]
 | .i _,.bool,h| .i _,.str,h| .i _,.sl _,h| .i _,.st _,h| .bool,.i _,h| .bool,.str,h| .bool,.sl _,h| .bool,.st _,h| .str,.i _,h| .str,.bool,h| .str,.sl _,h| .str,.st _,h| .sl _,.i _,h| .sl _,.bool,h| .sl _,.str,h| .sl _,.st _,h| .st _,.i _,h| .st _,.bool,h| .st _,.str,h| .st _,.sl _,h=>by cases h
def Ty.Km:∀(a:Ty),Ty.beq a a=true
 | .i k=>qad rfl
 | .bool| .str=>rfl
 | .sl t=>Ty.Km t
 | .st n=>qad rfl
def Ty.PT(a b:Ty):Decidable (a=b):=
 match h:Ty.beq a b with
 |true=>isTrue (Ty.eq_of_beq h)
 |false=>isFalse λe=>by rw[e,Ty.Km]at h;cases h
@[reducible] def xC:Z Ty->Type
 |[]=>Unit
 |t::l=>t.den×xC l
def iC.leaves:iC->Z Ty
 | .ae=>[(Ty.i .i64),(Ty.sl (Ty.i .i64)),(Ty.sl (Ty.st .ae))]
 | .ai=>[(Ty.i .i64),(Ty.i .i64),(Ty.i .i64),(Ty.sl (Ty.i .i64)),(Ty.sl (Ty.st .ae)),(Ty.sl Ty.str),(Ty.sl Ty.str)]
 | .aN=>[(Ty.i .i64),(Ty.i .i64),(Ty.i .i64),(Ty.i .i64),(Ty.i .i64),(Ty.sl (Ty.i .i64)),(Ty.sl (Ty.st .ae)),Ty.str,(Ty.sl Ty.str),(Ty.sl Ty.str),(Ty.sl Ty.str),(Ty.sl (Ty.st .ai))]
 | .aG=>[(Ty.i .i64),Ty.str]
 | .ah=>[(Ty.i .i64),(Ty.i .i64),(Ty.i .i64),(Ty.i .i64),(Ty.sl (Ty.i .i64)),(Ty.sl (Ty.st .ae)),(Ty.i .i64),(Ty.i .i64),Ty.str,(Ty.i .i64),Ty.str,(Ty.i .i64),Ty.str,(Ty.i .i64),(Ty.i .i64)]
 | .aa=>[(Ty.i .i64),(Ty.i .i64),(Ty.i .i64),(Ty.i .i64),(Ty.sl (Ty.i .i64)),(Ty.sl (Ty.st .ae)),(Ty.i .i64),(Ty.i .i64),Ty.str,(Ty.i .i64),Ty.str,(Ty.i .i64),Ty.str,(Ty.i .i64),Ty.str,(Ty.i .i64),(Ty.i .i64),Ty.str,(Ty.sl (Ty.st .ah))]
 | .Timer=>[(Ty.i .i64),(Ty.i .i64)]
 | .br=>[(Ty.i .i64),(Ty.i .i64),(Ty.i .i64),(Ty.i .i64),(Ty.i .i64),(Ty.sl (Ty.i .i64)),(Ty.sl (Ty.st .ae)),Ty.str,(Ty.sl Ty.str),(Ty.sl Ty.str),(Ty.sl Ty.str),(Ty.sl (Ty.st .ai)),(Ty.i .i64),(Ty.i .i64),(Ty.i .i64),(Ty.i .i64),(Ty.sl (Ty.i .i64)),(Ty.sl (Ty.st .ae)),(Ty.i .i64),(Ty.i .i64),Ty.str,(Ty.i .i64),Ty.str,(Ty.i .i64),Ty.str,(Ty.i .i64),Ty.str,(Ty.i .i64),(Ty.i .i64),Ty.str,(Ty.sl (Ty.st .ah)),(Ty.i .i64),(Ty.i .i64),(Ty.i .i64),(Ty.i .i64),Ty.bool,Ty.str]
 | .dz=>[(Ty.i .i64),Ty.bool,(Ty.i .i64),(Ty.sl (Ty.i .i64)),(Ty.sl (Ty.st .ae)),(Ty.sl (Ty.st .br))]
 | .ak=>[(Ty.i .i64),(Ty.i .i64),(Ty.i .i64),(Ty.i .i64),(Ty.i .i64),(Ty.sl (Ty.i .i64)),(Ty.sl (Ty.st .ae)),(Ty.sl Ty.str),(Ty.sl Ty.str),(Ty.i .i64),(Ty.i .i64),(Ty.i .i64),(Ty.i .i64),(Ty.sl (Ty.i .i64)),(Ty.sl (Ty.st .ae)),(Ty.i .i64),(Ty.i .i64),Ty.str,(Ty.i .i64),Ty.str,(Ty.i .i64),Ty.str,(Ty.i .i64),(Ty.i .i64)]
 | .ij=>[(Ty.i .i64),(Ty.i .i64),(Ty.i .i64),(Ty.i .i64),(Ty.i .i64),(Ty.i .i64),(Ty.i .i64),(Ty.i .i64),(Ty.i .i64),(Ty.sl (Ty.i .i64)),(Ty.sl (Ty.st .ae)),(Ty.sl Ty.str),(Ty.sl Ty.str),(Ty.i .i64),(Ty.i .i64),(Ty.i .i64),(Ty.i .i64),(Ty.sl (Ty.i .i64)),(Ty.sl (Ty.st .ae)),(Ty.i .i64),(Ty.i .i64),Ty.str,(Ty.i .i64),Ty.str,(Ty.i .i64),Ty.str,(Ty.i .i64),(Ty.i .i64)]
 | .mU=>[(Ty.sl (Ty.st .ij)),(Ty.i .i64),(Ty.sl (Ty.i .i64)),(Ty.sl (Ty.i .i64))]
 | .World=>[(Ty.i .i64),(Ty.sl (Ty.st .dz)),(Ty.i .i64),(Ty.sl (Ty.st .ij)),(Ty.i .i64),(Ty.sl (Ty.i .i64)),(Ty.sl (Ty.i .i64)),(Ty.sl (Ty.sl (Ty.st .ae)))]
 | .ik=>[Ty.bool,(Ty.i .i64),(Ty.sl (Ty.i .i64)),(Ty.sl (Ty.st .ae))]
 | .Config=>[(Ty.sl (Ty.st .ik))]
 | .Step=>[(Ty.i .i64),(Ty.i .i64),(Ty.i .i64),(Ty.i .i64),(Ty.i .i64),Ty.str,(Ty.i .i64),(Ty.sl (Ty.i .i64)),(Ty.sl (Ty.st .ae)),(Ty.i .i64),(Ty.i .i64),(Ty.i .i64),(Ty.i .i64),(Ty.i .i64),(Ty.sl (Ty.i .i64)),(Ty.sl (Ty.st .ae)),(Ty.sl Ty.str),(Ty.sl Ty.str),(Ty.i .i64),(Ty.i .i64),(Ty.i .i64),(Ty.i .i64),(Ty.sl (Ty.i .i64)),(Ty.sl (Ty.st .ae)),(Ty.i .i64),(Ty.i .i64),Ty.str,(Ty.i .i64),Ty.str,(Ty.i .i64),Ty.str,(Ty.i .i64),(Ty.i .i64),(Ty.sl (Ty.i .i64))]
 | .Outcome=>[(Ty.i .i64),(Ty.i .i64),Ty.str]
 | .jj=>[(Ty.sl (Ty.st .ik)),(Ty.sl (Ty.st .ik))]
 | .kR=>[(Ty.sl (Ty.st .Step)),(Ty.sl (Ty.st .Step))]
 | .kQ=>[(Ty.i .i64),(Ty.sl (Ty.st .dz)),(Ty.i .i64),(Ty.sl (Ty.st .ij)),(Ty.i .i64),(Ty.sl (Ty.i .i64)),(Ty.sl (Ty.i .i64)),(Ty.sl (Ty.sl (Ty.st .ae))),(Ty.i .i64),(Ty.sl (Ty.st .dz)),(Ty.i .i64),(Ty.sl (Ty.st .ij)),(Ty.i .i64),(Ty.sl (Ty.i .i64)),(Ty.sl (Ty.i .i64)),(Ty.sl (Ty.sl (Ty.st .ae)))]
 | .Src=>[(Ty.sl (Ty.i .i64)),(Ty.i .i64)]
 | .pK=>[(Ty.i .i64),(Ty.sl (Ty.st .dz)),(Ty.i .i64),(Ty.sl (Ty.st .ij)),(Ty.i .i64),(Ty.sl (Ty.i .i64)),(Ty.sl (Ty.i .i64)),(Ty.sl (Ty.sl (Ty.st .ae)))]
 | .pY=>[(Ty.i .i64),(Ty.i .i64),(Ty.i .i64),(Ty.i .i64),(Ty.sl (Ty.i .i64)),(Ty.sl (Ty.st .ae)),(Ty.i .i64),(Ty.i .i64),Ty.str,(Ty.i .i64),Ty.str,(Ty.i .i64),Ty.str,(Ty.i .i64),Ty.str,(Ty.i .i64),(Ty.i .i64),Ty.str,(Ty.sl (Ty.st .ah))]
 | .oU=>[(Ty.i .i64),(Ty.i .i64),(Ty.i .i64),(Ty.i .i64),(Ty.sl (Ty.i .i64)),(Ty.sl (Ty.st .ae)),(Ty.i .i64),(Ty.i .i64),Ty.str,(Ty.i .i64),Ty.str,(Ty.i .i64),Ty.str,(Ty.i .i64),(Ty.i .i64)]
 | .Seen=>[(Ty.i .i64),(Ty.sl (Ty.st .ik)),(Ty.sl (Ty.st .oU))]
 | .Claim=>[(Ty.i .i64),(Ty.i .i64)]
 | .Message=>[(Ty.i .i64),(Ty.i .i64),(Ty.i .i64),(Ty.sl (Ty.i .i64)),(Ty.sl (Ty.st .ae)),(Ty.sl (Ty.st .Claim)),(Ty.sl (Ty.st .Claim))]
 | .sx=>[(Ty.i .i64),(Ty.i .i64),(Ty.i .i64),(Ty.i .i64),Ty.str,(Ty.i .i64),Ty.str,(Ty.i .i64),Ty.str,(Ty.i .i64),Ty.str]
 | .jk=>[(Ty.i .i64),Ty.str,(Ty.i .i64),Ty.str]
 | .mV| .tN=>[(Ty.i .i64),(Ty.i .i64)]
def iC.toL:(n:iC)->n.den->xC n.leaves
 | .ae,(v:ar)=>(v.aV,v.aY,v.bC,())
 | .ai,(v:aA)=>(v.aF,v.cU,v.ae.aV,v.ae.aY,v.ae.bC,v.di,v.bK,())
 | .aN,(v:aD)=>(v.aF,v.br,v.Round,v.cU,v.ae.aV,v.ae.aY,v.ae.bC,v.sx,v.di,v.bK,v.da,v.bm,())
 | .aG,(v:aj)=>(v.al,v.Value,())
 | .ah,(v:ao)=>(v.aF,v.br,v.cU,v.ae.aV,v.ae.aY,v.ae.bC,v.cF,v.aG.al,v.aG.Value,v.aP.al,v.aP.Value,v.bD.al,v.bD.Value,v.eX,v.dU,())
 | .aa,(v:aW)=>(v.aF,v.br,v.cU,v.ae.aV,v.ae.aY,v.ae.bC,v.dZ,v.aG.al,v.aG.Value,v.aP.al,v.aP.Value,v.bD.al,v.bD.Value,v.bM.al,v.bM.Value,v.eX,v.dU,v.fZ,v.bm,())
 | .Timer,(v:gz)=>(v.al,v.td,())
 | .br,(v:ba)=>(v.aN.aF,v.aN.br,v.aN.Round,v.aN.cU,v.aN.ae.aV,v.aN.ae.aY,v.aN.ae.bC,v.aN.sx,v.aN.di,v.aN.bK,v.aN.da,v.aN.bm,v.aa.aF,v.aa.br,v.aa.cU,v.aa.ae.aV,v.aa.ae.aY,v.aa.ae.bC,v.aa.dZ,v.aa.aG.al,v.aa.aG.Value,v.aa.aP.al,v.aa.aP.Value,v.aa.bD.al,v.aa.bD.Value,v.aa.bM.al,v.aa.bM.Value,v.aa.eX,v.aa.dU,v.aa.fZ,v.aa.bm,v.Timer.al,v.Timer.td,v.Round,v.Next,v.Fu,v.Value,())
 | .dz,(v:ay)=>(v.aF,v.lN,v.ae.aV,v.ae.aY,v.ae.bC,v.bX,())
 | .ak,(v:aL)=>(v.cF,v.br,v.ai.aF,v.ai.cU,v.ai.ae.aV,v.ai.ae.aY,v.ai.ae.bC,v.ai.di,v.ai.bK,v.ah.aF,v.ah.br,v.ah.cU,v.ah.ae.aV,v.ah.ae.aY,v.ah.ae.bC,v.ah.cF,v.ah.aG.al,v.ah.aG.Value,v.ah.aP.al,v.ah.aP.Value,v.ah.bD.al,v.ah.bD.Value,v.ah.eX,v.ah.dU,())
 | .ij,(v:bx)=>(v.td,v.C8,v.To,v.Number,v.ak.cF,v.ak.br,v.ak.ai.aF,v.ak.ai.cU,v.ak.ai.ae.aV,v.ak.ai.ae.aY,v.ak.ai.ae.bC,v.ak.ai.di,v.ak.ai.bK,v.ak.ah.aF,v.ak.ah.br,v.ak.ah.cU,v.ak.ah.ae.aV,v.ak.ah.ae.aY,v.ak.ah.ae.bC,v.ak.ah.cF,v.ak.ah.aG.al,v.ak.ah.aG.Value,v.ak.ah.aP.al,v.ak.ah.aP.Value,v.ak.ah.bD.al,v.ak.ah.bD.Value,v.ak.ah.eX,v.ak.ah.dU,())
 | .mU,(v:bI)=>(v.cD,v.Next,v.gl,v.gG,())
 | .World,(v:aH)=>(v.Time,v.aY,v.fR,v.Net.cD,v.Net.Next,v.Net.gl,v.Net.gG,v.fl,())
 | .ik,(v:bS)=>(v.qJ,v.ae.aV,v.ae.aY,v.ae.bC,())
 | .Config,(v:bo)=>(v.dS,())
 | .Step,(v:eA)=>(v.cF,v.aF,v.To,v.br,v.Count,v.Value,v.ae.aV,v.ae.aY,v.ae.bC,v.ak.cF,v.ak.br,v.ak.ai.aF,v.ak.ai.cU,v.ak.ai.ae.aV,v.ak.ai.ae.aY,v.ak.ai.ae.bC,v.ak.ai.di,v.ak.ai.bK,v.ak.ah.aF,v.ak.ah.br,v.ak.ah.cU,v.ak.ah.ae.aV,v.ak.ah.ae.aY,v.ak.ah.ae.bC,v.ak.ah.cF,v.ak.ah.aG.al,v.ak.ah.aG.Value,v.ak.ah.aP.al,v.ak.ah.aP.Value,v.ak.ah.bD.al,v.ak.ah.bD.Value,v.ak.ah.eX,v.ak.ah.dU,v.gl,())
 | .Outcome,(v:fY)=>(v.aF,v.br,v.Value,())
 | .jj,(v:k7)=>(v.c0.dS,v.c1.dS,())
 | .kR,(v:mD)=>(v.c0,v.c1,())
 | .kQ,(v:mC)=>(v.c0.Time,v.c0.aY,v.c0.fR,v.c0.Net.cD,v.c0.Net.Next,v.c0.Net.gl,v.c0.Net.gG,v.c0.fl,v.c1.Time,v.c1.aY,v.c1.fR,v.c1.Net.cD,v.c1.Net.Next,v.c1.Net.gl,v.c1.Net.gG,v.c1.fl,())
 | .Src,(v:jA)=>(v.L,v.At,())
 | .pK,(v:cm)=>(v.World.Time,v.World.aY,v.World.fR,v.World.Net.cD,v.World.Net.Next,v.World.Net.gl,v.World.Net.gG,v.World.fl,())
 | .pY,(v:av)=>(v.aa.aF,v.aa.br,v.aa.cU,v.aa.ae.aV,v.aa.ae.aY,v.aa.ae.bC,v.aa.dZ,v.aa.aG.al,v.aa.aG.Value,v.aa.aP.al,v.aa.aP.Value,v.aa.bD.al,v.aa.bD.Value,v.aa.bM.al,v.aa.bM.Value,v.aa.eX,v.aa.dU,v.aa.fZ,v.aa.bm,())
 | .oU,(v:bY)=>(v.ah.aF,v.ah.br,v.ah.cU,v.ah.ae.aV,v.ah.ae.aY,v.ah.ae.bC,v.ah.cF,v.ah.aG.al,v.ah.aG.Value,v.ah.aP.al,v.ah.aP.Value,v.ah.bD.al,v.ah.bD.Value,v.ah.eX,v.ah.dU,())
 | .Seen,(v:eK)=>(v.aF,v.View.dS,v.bm,())
 | .Claim,(v:lM)=>(v.Bq,v.Value,())
 | .Message,(v:iL)=>(v.aF,v.cU,v.ae.aV,v.ae.aY,v.ae.bC,v.di,v.bK,())
 | .sx,(v:Br)=>(v.oJ,v.low,v.tE,v.ew.al,v.ew.Value,v.cY.al,v.cY.Value,v.fO.al,v.fO.Value,v.cv.al,v.cv.Value,())
 | .jk,(v:k8)=>(v.c0.al,v.c0.Value,v.c1.al,v.c1.Value,())
 | .mV,(v:qB)=>(v.c0,v.c1,())
 | .tN,(v:lx)=>(v.Og,v.Oi,())
def iC.PB:(n:iC)->xC n.leaves->n.den
 | .ae,v=>(ar.mk v.1 v.2.1 v.2.2.1)
 | .ai,v=>let w1:=v.2.2.2.2.2.2;(aA.mk v.1 v.2.1 (ar.mk v.2.2.1 v.2.2.2.1 v.2.2.2.2.1) v.2.2.2.2.2.1 w1.1)
 | .aN,v=>let w1:=v.2.2.2.2.2.2;(aD.mk v.1 v.2.1 v.2.2.1 v.2.2.2.1 (ar.mk v.2.2.2.2.1 v.2.2.2.2.2.1 w1.1) w1.2.1 w1.2.2.1 w1.2.2.2.1 w1.2.2.2.2.1 w1.2.2.2.2.2.1)
 | .aG,v=>(aj.mk v.1 v.2.1)
 | .ah,v=>let w1:=v.2.2.2.2.2.2;let w2:=w1.2.2.2.2.2.2;(ao.mk v.1 v.2.1 v.2.2.1 (ar.mk v.2.2.2.1 v.2.2.2.2.1 v.2.2.2.2.2.1) w1.1 (aj.mk w1.2.1 w1.2.2.1) (aj.mk w1.2.2.2.1 w1.2.2.2.2.1) (aj.mk w1.2.2.2.2.2.1 w2.1) w2.2.1 w2.2.2.1)
 | .aa,v=>let w1:=v.2.2.2.2.2.2;let w2:=w1.2.2.2.2.2.2;let b:=w2.2.2.2.2.2.2;(aW.mk v.1 v.2.1 v.2.2.1 (ar.mk v.2.2.2.1 v.2.2.2.2.1 v.2.2.2.2.2.1) w1.1 (aj.mk w1.2.1 w1.2.2.1) (aj.mk w1.2.2.2.1 w1.2.2.2.2.1) (aj.mk w1.2.2.2.2.2.1 w2.1) (aj.mk w2.2.1 w2.2.2.1) w2.2.2.2.1 w2.2.2.2.2.1 w2.2.2.2.2.2.1 b.1)
 | .Timer,v=>(gz.mk v.1 v.2.1)
 | .br,v=>let w1:=v.2.2.2.2.2.2;let w2:=w1.2.2.2.2.2.2;let b:=w2.2.2.2.2.2.2;let d:=b.2.2.2.2.2.2;let j:=d.2.2.2.2.2.2;let l:=j.2.2.2.2.2.2;(ba.mk (aD.mk v.1 v.2.1 v.2.2.1 v.2.2.2.1 (ar.mk v.2.2.2.2.1 v.2.2.2.2.2.1 w1.1) w1.2.1 w1.2.2.1 w1.2.2.2.1 w1.2.2.2.2.1 w1.2.2.2.2.2.1) (aW.mk w2.1 w2.2.1 w2.2.2.1 (ar.mk w2.2.2.2.1 w2.2.2.2.2.1 w2.2.2.2.2.2.1) b.1 (aj.mk b.2.1 b.2.2.1) (aj.mk b.2.2.2.1 b.2.2.2.2.1) (aj.mk b.2.2.2.2.2.1 d.1) (aj.mk d.2.1 d.2.2.1) d.2.2.2.1 d.2.2.2.2.1 d.2.2.2.2.2.1 j.1) (gz.mk j.2.1 j.2.2.1) j.2.2.2.1 j.2.2.2.2.1 j.2.2.2.2.2.1 l.1)
 | .dz,v=>(ay.mk v.1 v.2.1 (ar.mk v.2.2.1 v.2.2.2.1 v.2.2.2.2.1) v.2.2.2.2.2.1)
 | .ak,v=>let w1:=v.2.2.2.2.2.2;let w2:=w1.2.2.2.2.2.2;let b:=w2.2.2.2.2.2.2;(aL.mk v.1 v.2.1 (aA.mk v.2.2.1 v.2.2.2.1 (ar.mk v.2.2.2.2.1 v.2.2.2.2.2.1 w1.1) w1.2.1 w1.2.2.1) (ao.mk w1.2.2.2.1 w1.2.2.2.2.1 w1.2.2.2.2.2.1 (ar.mk w2.1 w2.2.1 w2.2.2.1) w2.2.2.2.1 (aj.mk w2.2.2.2.2.1 w2.2.2.2.2.2.1) (aj.mk b.1 b.2.1) (aj.mk b.2.2.1 b.2.2.2.1) b.2.2.2.2.1 b.2.2.2.2.2.1))
 | .ij,v=>let w1:=v.2.2.2.2.2.2;let w2:=w1.2.2.2.2.2.2;let b:=w2.2.2.2.2.2.2;let d:=b.2.2.2.2.2.2;(bx.mk v.1 v.2.1 v.2.2.1 v.2.2.2.1 (aL.mk v.2.2.2.2.1 v.2.2.2.2.2.1 (aA.mk w1.1 w1.2.1 (ar.mk w1.2.2.1 w1.2.2.2.1 w1.2.2.2.2.1) w1.2.2.2.2.2.1 w2.1) (ao.mk w2.2.1 w2.2.2.1 w2.2.2.2.1 (ar.mk w2.2.2.2.2.1 w2.2.2.2.2.2.1 b.1) b.2.1 (aj.mk b.2.2.1 b.2.2.2.1) (aj.mk b.2.2.2.2.1 b.2.2.2.2.2.1) (aj.mk d.1 d.2.1) d.2.2.1 d.2.2.2.1)))
 | .mU,v=>(bI.mk v.1 v.2.1 v.2.2.1 v.2.2.2.1)
 | .World,v=>let w1:=v.2.2.2.2.2.2;(aH.mk v.1 v.2.1 v.2.2.1 (bI.mk v.2.2.2.1 v.2.2.2.2.1 v.2.2.2.2.2.1 w1.1) w1.2.1)
 | .ik,v=>(bS.mk v.1 (ar.mk v.2.1 v.2.2.1 v.2.2.2.1))
 | .Config,v=>(bo.mk v.1)
 | .Step,v=>let w1:=v.2.2.2.2.2.2;let w2:=w1.2.2.2.2.2.2;let b:=w2.2.2.2.2.2.2;let d:=b.2.2.2.2.2.2;let j:=d.2.2.2.2.2.2;(eA.mk v.1 v.2.1 v.2.2.1 v.2.2.2.1 v.2.2.2.2.1 v.2.2.2.2.2.1 (ar.mk w1.1 w1.2.1 w1.2.2.1) (aL.mk w1.2.2.2.1 w1.2.2.2.2.1 (aA.mk w1.2.2.2.2.2.1 w2.1 (ar.mk w2.2.1 w2.2.2.1 w2.2.2.2.1) w2.2.2.2.2.1 w2.2.2.2.2.2.1) (ao.mk b.1 b.2.1 b.2.2.1 (ar.mk b.2.2.2.1 b.2.2.2.2.1 b.2.2.2.2.2.1) d.1 (aj.mk d.2.1 d.2.2.1) (aj.mk d.2.2.2.1 d.2.2.2.2.1) (aj.mk d.2.2.2.2.2.1 j.1) j.2.1 j.2.2.1)) j.2.2.2.1)
 | .Outcome,v=>(fY.mk v.1 v.2.1 v.2.2.1)
 | .jj,v=>(k7.mk (bo.mk v.1) (bo.mk v.2.1))
 | .kR,v=>(mD.mk v.1 v.2.1)
 | .kQ,v=>let w1:=v.2.2.2.2.2.2;let w2:=w1.2.2.2.2.2.2;(mC.mk (aH.mk v.1 v.2.1 v.2.2.1 (bI.mk v.2.2.2.1 v.2.2.2.2.1 v.2.2.2.2.2.1 w1.1) w1.2.1) (aH.mk w1.2.2.1 w1.2.2.2.1 w1.2.2.2.2.1 (bI.mk w1.2.2.2.2.2.1 w2.1 w2.2.1 w2.2.2.1) w2.2.2.2.1))
 | .Src,v=>(jA.mk v.1 v.2.1)
 | .pK,v=>let w1:=v.2.2.2.2.2.2;(cm.mk (aH.mk v.1 v.2.1 v.2.2.1 (bI.mk v.2.2.2.1 v.2.2.2.2.1 v.2.2.2.2.2.1 w1.1) w1.2.1))
 | .pY,v=>let w1:=v.2.2.2.2.2.2;let w2:=w1.2.2.2.2.2.2;let b:=w2.2.2.2.2.2.2;(av.mk (aW.mk v.1 v.2.1 v.2.2.1 (ar.mk v.2.2.2.1 v.2.2.2.2.1 v.2.2.2.2.2.1) w1.1 (aj.mk w1.2.1 w1.2.2.1) (aj.mk w1.2.2.2.1 w1.2.2.2.2.1) (aj.mk w1.2.2.2.2.2.1 w2.1) (aj.mk w2.2.1 w2.2.2.1) w2.2.2.2.1 w2.2.2.2.2.1 w2.2.2.2.2.2.1 b.1))
 | .oU,v=>let w1:=v.2.2.2.2.2.2;let w2:=w1.2.2.2.2.2.2;(bY.mk (ao.mk v.1 v.2.1 v.2.2.1 (ar.mk v.2.2.2.1 v.2.2.2.2.1 v.2.2.2.2.2.1) w1.1 (aj.mk w1.2.1 w1.2.2.1) (aj.mk w1.2.2.2.1 w1.2.2.2.2.1) (aj.mk w1.2.2.2.2.2.1 w2.1) w2.2.1 w2.2.2.1))
 | .Seen,v=>(eK.mk v.1 (bo.mk v.2.1) v.2.2.1)
 | .Claim,v=>(lM.mk v.1 v.2.1)
 | .Message,v=>let w1:=v.2.2.2.2.2.2;(iL.mk v.1 v.2.1 (ar.mk v.2.2.1 v.2.2.2.1 v.2.2.2.2.1) v.2.2.2.2.2.1 w1.1)
 | .sx,v=>let w1:=v.2.2.2.2.2.2;(Br.mk v.1 v.2.1 v.2.2.1 (aj.mk v.2.2.2.1 v.2.2.2.2.1) (aj.mk v.2.2.2.2.2.1 w1.1) (aj.mk w1.2.1 w1.2.2.1) (aj.mk w1.2.2.2.1 w1.2.2.2.2.1))
 | .jk,v=>(k8.mk (aj.mk v.1 v.2.1) (aj.mk v.2.2.1 v.2.2.2.1))
 | .mV,v=>(qB.mk v.1 v.2.1)
 | .tN,v=>(lx.mk v.1 v.2.1)
mutual
def cq:ar->Z PV
 |⟨a0,b,a2⟩=>[.int .i64 a0,.sl (b.map (λx=>[.int .i64 x])),.sl (rF a2)]
def rF:Z ar->Z (Z PV)
 |[]=>[]
 |x::l=>cq x::rF l
end
def zC:∀(l:Z ar),rF l=l.map cq
 |[]=>by rw[rF];rfl
 |x::l=>by rw[rF,zC l];rfl
def tj(v:aA):Z PV:=[.int .i64 v.aF,.int .i64 v.cU,.int .i64 v.ae.aV,.sl (v.ae.aY.map (λx=>[.int .i64 x])),.sl (v.ae.bC.map cq),.sl (v.di.map (λx=>[.str x])),.sl (v.bK.map (λx=>[.str x]))]
def IJ(v:aD):Z PV:=[.int .i64 v.aF,.int .i64 v.br,.int .i64 v.Round,.int .i64 v.cU,.int .i64 v.ae.aV,.sl (v.ae.aY.map (λx=>[.int .i64 x])),.sl (v.ae.bC.map cq),.str v.sx,.sl (v.di.map (λx=>[.str x])),.sl (v.bK.map (λx=>[.str x])),.sl (v.da.map (λx=>[.str x])),.sl (v.bm.map tj)]
def Mg(v:aj):Z PV:=[.int .i64 v.al,.str v.Value]
def rH(v:ao):Z PV:=[.int .i64 v.aF,.int .i64 v.br,.int .i64 v.cU,.int .i64 v.ae.aV,.sl (v.ae.aY.map (λx=>[.int .i64 x])),.sl (v.ae.bC.map cq),.int .i64 v.cF,.int .i64 v.aG.al,.str v.aG.Value,.int .i64 v.aP.al,.str v.aP.Value,.int .i64 v.bD.al,.str v.bD.Value,.int .i64 v.eX,.int .i64 v.dU]
def K5(v:aW):Z PV:=[.int .i64 v.aF,.int .i64 v.br,.int .i64 v.cU,.int .i64 v.ae.aV,.sl (v.ae.aY.map (λx=>[.int .i64 x])),.sl (v.ae.bC.map cq),.int .i64 v.dZ,.int .i64 v.aG.al,.str v.aG.Value,.int .i64 v.aP.al,.str v.aP.Value,.int .i64 v.bD.al,.str v.bD.Value,.int .i64 v.bM.al,.str v.bM.Value,.int .i64 v.eX,.int .i64 v.dU,.str v.fZ,.sl (v.bm.map rH)]
def NC(v:gz):Z PV:=[.int .i64 v.al,.int .i64 v.td]
def Jp(v:ba):Z PV:=[.int .i64 v.aN.aF,.int .i64 v.aN.br,.int .i64 v.aN.Round,.int .i64 v.aN.cU,.int .i64 v.aN.ae.aV,.sl (v.aN.ae.aY.map (λx=>[.int .i64 x])),.sl (v.aN.ae.bC.map cq),.str v.aN.sx,.sl (v.aN.di.map (λx=>[.str x])),.sl (v.aN.bK.map (λx=>[.str x])),.sl (v.aN.da.map (λx=>[.str x])),.sl (v.aN.bm.map tj),.int .i64 v.aa.aF,.int .i64 v.aa.br,.int .i64 v.aa.cU,.int .i64 v.aa.ae.aV,.sl (v.aa.ae.aY.map (λx=>[.int .i64 x])),.sl (v.aa.ae.bC.map cq),.int .i64 v.aa.dZ,.int .i64 v.aa.aG.al,.str v.aa.aG.Value,.int .i64 v.aa.aP.al,.str v.aa.aP.Value,.int .i64 v.aa.bD.al,.str v.aa.bD.Value,.int .i64 v.aa.bM.al,.str v.aa.bM.Value,.int .i64 v.aa.eX,.int .i64 v.aa.dU,.str v.aa.fZ,.sl (v.aa.bm.map rH),.int .i64 v.Timer.al,.int .i64 v.Timer.td,.int .i64 v.Round,.int .i64 v.Next,.bool v.Fu,.str v.Value]
def kq(v:ay):Z PV:=[.int .i64 v.aF,.bool v.lN,.int .i64 v.ae.aV,.sl (v.ae.aY.map (λx=>[.int .i64 x])),.sl (v.ae.bC.map cq),.sl (v.bX.map Jp)]
def Md(v:aL):Z PV:=[.int .i64 v.cF,.int .i64 v.br,.int .i64 v.ai.aF,.int .i64 v.ai.cU,.int .i64 v.ai.ae.aV,.sl (v.ai.ae.aY.map (λx=>[.int .i64 x])),.sl (v.ai.ae.bC.map cq),.sl (v.ai.di.map (λx=>[.str x])),.sl (v.ai.bK.map (λx=>[.str x])),.int .i64 v.ah.aF,.int .i64 v.ah.br,.int .i64 v.ah.cU,.int .i64 v.ah.ae.aV,.sl (v.ah.ae.aY.map (λx=>[.int .i64 x])),.sl (v.ah.ae.bC.map cq),.int .i64 v.ah.cF,.int .i64 v.ah.aG.al,.str v.ah.aG.Value,.int .i64 v.ah.aP.al,.str v.ah.aP.Value,.int .i64 v.ah.bD.al,.str v.ah.bD.Value,.int .i64 v.ah.eX,.int .i64 v.ah.dU]
def oH(v:bx):Z PV:=[.int .i64 v.td,.int .i64 v.C8,.int .i64 v.To,.int .i64 v.Number,.int .i64 v.ak.cF,.int .i64 v.ak.br,.int .i64 v.ak.ai.aF,.int .i64 v.ak.ai.cU,.int .i64 v.ak.ai.ae.aV,.sl (v.ak.ai.ae.aY.map (λx=>[.int .i64 x])),.sl (v.ak.ai.ae.bC.map cq),.sl (v.ak.ai.di.map (λx=>[.str x])),.sl (v.ak.ai.bK.map (λx=>[.str x])),.int .i64 v.ak.ah.aF,.int .i64 v.ak.ah.br,.int .i64 v.ak.ah.cU,.int .i64 v.ak.ah.ae.aV,.sl (v.ak.ah.ae.aY.map (λx=>[.int .i64 x])),.sl (v.ak.ah.ae.bC.map cq),.int .i64 v.ak.ah.cF,.int .i64 v.ak.ah.aG.al,.str v.ak.ah.aG.Value,.int .i64 v.ak.ah.aP.al,.str v.ak.ah.aP.Value,.int .i64 v.ak.ah.bD.al,.str v.ak.ah.bD.Value,.int .i64 v.ak.ah.eX,.int .i64 v.ak.ah.dU]
def K3(v:bI):Z PV:=[.sl (v.cD.map oH),.int .i64 v.Next,.sl (v.gl.map (λx=>[.int .i64 x])),.sl (v.gG.map (λx=>[.int .i64 x]))]
def NB(v:aH):Z PV:=[.int .i64 v.Time,.sl (v.aY.map kq),.int .i64 v.fR,.sl (v.Net.cD.map oH),.int .i64 v.Net.Next,.sl (v.Net.gl.map (λx=>[.int .i64 x])),.sl (v.Net.gG.map (λx=>[.int .i64 x])),.sl (v.fl.map (λx=>[.sl (x.map cq)]))]
def rG(v:bS):Z PV:=[.bool v.qJ,.int .i64 v.ae.aV,.sl (v.ae.aY.map (λx=>[.int .i64 x])),.sl (v.ae.bC.map cq)]
def Mf(v:bo):Z PV:=[.sl (v.dS.map rG)]
def EH(v:eA):Z PV:=[.int .i64 v.cF,.int .i64 v.aF,.int .i64 v.To,.int .i64 v.br,.int .i64 v.Count,.str v.Value,.int .i64 v.ae.aV,.sl (v.ae.aY.map (λx=>[.int .i64 x])),.sl (v.ae.bC.map cq),.int .i64 v.ak.cF,.int .i64 v.ak.br,.int .i64 v.ak.ai.aF,.int .i64 v.ak.ai.cU,.int .i64 v.ak.ai.ae.aV,.sl (v.ak.ai.ae.aY.map (λx=>[.int .i64 x])),.sl (v.ak.ai.ae.bC.map cq),.sl (v.ak.ai.di.map (λx=>[.str x])),.sl (v.ak.ai.bK.map (λx=>[.str x])),.int .i64 v.ak.ah.aF,.int .i64 v.ak.ah.br,.int .i64 v.ak.ah.cU,.int .i64 v.ak.ah.ae.aV,.sl (v.ak.ah.ae.aY.map (λx=>[.int .i64 x])),.sl (v.ak.ah.ae.bC.map cq),.int .i64 v.ak.ah.cF,.int .i64 v.ak.ah.aG.al,.str v.ak.ah.aG.Value,.int .i64 v.ak.ah.aP.al,.str v.ak.ah.aP.Value,.int .i64 v.ak.ah.bD.al,.str v.ak.ah.bD.Value,.int .i64 v.ak.ah.eX,.int .i64 v.ak.ah.dU,.sl (v.gl.map (λx=>[.int .i64 x]))]
def K2(v:fY):Z PV:=[.int .i64 v.aF,.int .i64 v.br,.str v.Value]
def Hv(v:k7):Z PV:=[.sl (v.c0.dS.map rG),.sl (v.c1.dS.map rG)]
def IL(v:mD):Z PV:=[.sl (v.c0.map EH),.sl (v.c1.map EH)]
def IK(v:mC):Z PV:=[.int .i64 v.c0.Time,.sl (v.c0.aY.map kq),.int .i64 v.c0.fR,.sl (v.c0.Net.cD.map oH),.int .i64 v.c0.Net.Next,.sl (v.c0.Net.gl.map (λx=>[.int .i64 x])),.sl (v.c0.Net.gG.map (λx=>[.int .i64 x])),.sl (v.c0.fl.map (λx=>[.sl (x.map cq)])),.int .i64 v.c1.Time,.sl (v.c1.aY.map kq),.int .i64 v.c1.fR,.sl (v.c1.Net.cD.map oH),.int .i64 v.c1.Net.Next,.sl (v.c1.Net.gl.map (λx=>[.int .i64 x])),.sl (v.c1.Net.gG.map (λx=>[.int .i64 x])),.sl (v.c1.fl.map (λx=>[.sl (x.map cq)]))]
def RY(v:jA):Z PV:=[.sl (v.L.map (λx=>[.int .i64 x])),.int .i64 v.At]
def Mb(v:cm):Z PV:=[.int .i64 v.World.Time,.sl (v.World.aY.map kq),.int .i64 v.World.fR,.sl (v.World.Net.cD.map oH),.int .i64 v.World.Net.Next,.sl (v.World.Net.gl.map (λx=>[.int .i64 x])),.sl (v.World.Net.gG.map (λx=>[.int .i64 x])),.sl (v.World.fl.map (λx=>[.sl (x.map cq)]))]
def Me(v:av):Z PV:=[.int .i64 v.aa.aF,.int .i64 v.aa.br,.int .i64 v.aa.cU,.int .i64 v.aa.ae.aV,.sl (v.aa.ae.aY.map (λx=>[.int .i64 x])),.sl (v.aa.ae.bC.map cq),.int .i64 v.aa.dZ,.int .i64 v.aa.aG.al,.str v.aa.aG.Value,.int .i64 v.aa.aP.al,.str v.aa.aP.Value,.int .i64 v.aa.bD.al,.str v.aa.bD.Value,.int .i64 v.aa.bM.al,.str v.aa.bM.Value,.int .i64 v.aa.eX,.int .i64 v.aa.dU,.str v.aa.fZ,.sl (v.aa.bm.map rH)]
def Ie(v:bY):Z PV:=[.int .i64 v.ah.aF,.int .i64 v.ah.br,.int .i64 v.ah.cU,.int .i64 v.ah.ae.aV,.sl (v.ah.ae.aY.map (λx=>[.int .i64 x])),.sl (v.ah.ae.bC.map cq),.int .i64 v.ah.cF,.int .i64 v.ah.aG.al,.str v.ah.aG.Value,.int .i64 v.ah.aP.al,.str v.ah.aP.Value,.int .i64 v.ah.bD.al,.str v.ah.bD.Value,.int .i64 v.ah.eX,.int .i64 v.ah.dU]
def OA(v:eK):Z PV:=[.int .i64 v.aF,.sl (v.View.dS.map rG),.sl (v.bm.map Ie)]
def Cd(v:lM):Z PV:=[.int .i64 v.Bq,.int .i64 v.Value]
def K4(v:iL):Z PV:=[.int .i64 v.aF,.int .i64 v.cU,.int .i64 v.ae.aV,.sl (v.ae.aY.map (λx=>[.int .i64 x])),.sl (v.ae.bC.map cq),.sl (v.di.map Cd),.sl (v.bK.map Cd)]
def RZ(v:Br):Z PV:=[.int .i64 v.oJ,.int .i64 v.low,.int .i64 v.tE,.int .i64 v.ew.al,.str v.ew.Value,.int .i64 v.cY.al,.str v.cY.Value,.int .i64 v.fO.al,.str v.fO.Value,.int .i64 v.cv.al,.str v.cv.Value]
def Hw(v:k8):Z PV:=[.int .i64 v.c0.al,.str v.c0.Value,.int .i64 v.c1.al,.str v.c1.Value]
def K6(v:qB):Z PV:=[.int .i64 v.c0,.int .i64 v.c1]
def OB(v:lx):Z PV:=[.int .i64 v.Og,.int .i64 v.Oi]
def iC.pv:(n:iC)->n.den->Z PV
 | .ae,v=>cq v
 | .ai,v=>tj v
 | .aN,v=>IJ v
 | .aG,v=>Mg v
 | .ah,v=>rH v
 | .aa,v=>K5 v
 | .Timer,v=>NC v
 | .br,v=>Jp v
 | .dz,v=>kq v
 | .ak,v=>Md v
 | .ij,v=>oH v
 | .mU,v=>K3 v
 | .World,v=>NB v
 | .ik,v=>rG v
 | .Config,v=>Mf v
 | .Step,v=>EH v
 | .Outcome,v=>K2 v
 | .jj,v=>Hv v
 | .kR,v=>IL v
 | .kQ,v=>IK v
 | .Src,v=>RY v
 | .pK,v=>Mb v
 | .pY,v=>Me v
 | .oU,v=>Ie v
 | .Seen,v=>OA v
 | .Claim,v=>Cd v
 | .Message,v=>K4 v
 | .sx,v=>RZ v
 | .jk,v=>Hw v
 | .mV,v=>K6 v
 | .tN,v=>OB v
def Ty.isAgg:Ty->Bool
 | .st _=>true
 |_=>false
def Ty.pv:(t:Ty)->t.den->Z PV
 | .i k,n=>[.int k n]
 | .bool,b=>[.bool b]
 | .str,s=>[.str s]
 | .sl t,(xs:Z t.den)=>[.sl (xs.map (Ty.pv t))]
 | .st n,v=>n.pv v
def rQ:(b:Z Ty)->xC b->Z PV
 |[],_=>[]
 |t::l,v=>t.pv v.1++rQ l v.2
def iC.FN:∀(n:iC) (v:n.den),n.pv v=rQ n.leaves (n.toL v)
 | .ae,v=>by cases v;simp only[iC.pv,cq,zC];rfl
 | .ai,v| .aN,v| .aG,v| .ah,v| .aa,v| .Timer,v| .br,v| .dz,v| .ak,v| .ij,v| .mU,v| .World,v| .ik,v| .Config,v| .Step,v| .Outcome,v| .jj,v| .kR,v| .kQ,v| .Src,v| .pK,v| .pY,v| .oU,v| .Seen,v| .Claim,v| .Message,v| .sx,v| .jk,v| .mV,v| .tN,v=>rfl
def Ty.leaf:Ty->Bool
 | .st _=>false
 |_=>true
def iC.Dn:∀(n:iC),n.leaves.all Ty.leaf=true
 | .ae| .ai| .aN| .aG| .ah| .aa| .Timer| .br| .dz| .ak| .ij| .mU| .World| .ik| .Config| .Step| .Outcome| .jj| .kR| .kQ| .Src| .pK| .pY| .oU| .Seen| .Claim| .Message| .sx| .jk| .mV| .tN=>rfl
def iC.U4:∀(n:iC) (v:xC n.leaves),n.toL (n.PB v)=v
 | .ae,v| .ai,v| .aN,v| .aG,v| .ah,v| .aa,v| .Timer,v| .br,v| .dz,v| .ak,v| .ij,v| .mU,v| .World,v| .ik,v| .Config,v| .Step,v| .Outcome,v| .jj,v| .kR,v| .kQ,v| .Src,v| .pK,v| .pY,v| .oU,v| .Seen,v| .Claim,v| .Message,v| .sx,v| .jk,v| .mV,v| .tN,v=>rfl
def Ty.Mk:Ty->Bool
 | .sl _=>false
 |_=>true
@[reducible] def U:TU where
 Ty:=Ty
 PT:=Ty.PT
 den:=Ty.den
 pv:=Ty.pv
 size:=λt=>match t with| .st n=>n.leaves.length|_=>1
 agg:=Ty.isAgg
 plain:=λt=>match t with| .st n=>n.leaves.all Ty.Mk|t=>t.Mk
def Dp:(t:Ty)->t.den->KV U
 | .i k,n=> .int k n
 | .bool,b=> .bool b
 | .str,s=> .str s
 | .sl t,(xs:Z t.den)=> .sl t xs
 | .st _,_=> .any
def Dm:(b:Z Ty)->xC b->Z (KV U)
 |[],_=>[]
 |t::l,v=>Dp t v.1::Dm l v.2
def TR:(t:Ty)->t.den->Z (KV U)
 | .st n,v=>Dm n.leaves (n.toL v)
 | .i k,v=>[Dp (.i k) v]
 | .bool,v=>[Dp .bool v]
 | .str,v=>[Dp .str v]
 | .sl t,v=>[Dp (.sl t) v]
def wU(lk:Lk U):(t:Ty)->KV U->Y t.den
 | .i k,x=>OW k x
 | .bool,x=>CV x
 | .str,x=>OV x
 | .sl t,x=>Kd (U:=U) lk t x
 | .st _,_=>none
def uI(lk:Lk U):(b:Z Ty)->Z (KV U)->Y (xC b)
 |[],cs=>match cs with|[]=>some ()|_=>none
 |t::l,cs=>match cs with
  |c::cs=>(match wU lk t c with
   |some v=>(match uI lk l cs with|some vs=>some (v,vs)|none=>none)
   |none=>none)
  |[]=>none
def HS{α:Type}(f:KV U->Y α):Z (KV U)->Y α
 |[x]=>f x
 |_=>none
def WX:(t:Ty)->Lk U->Z (KV U)->Y t.den
 | .st n,lk,cs=>(match uI lk n.leaves cs with|some v=>some (n.PB v)|none=>none)
 | .i k,lk,cs=>HS (wU lk (.i k)) cs
 | .bool,lk,cs=>HS (wU lk .bool) cs
 | .str,lk,cs=>HS (wU lk .str) cs
 | .sl t,lk,cs=>HS (wU lk (.sl t)) cs
def OM:∀(t:Ty) (v:t.den),t.leaf=true->[(Dp t v).pv]=t.pv v
 | .i k,v,_| .bool,v,_| .str,v,_| .sl t,v,_=>rfl
 | .st _,_,h=>by cases h
def F6:∀(b:Z Ty) (v:xC b),b.all Ty.leaf=true->(Dm b v).map KV.pv=rQ b v
 |[],_,_=>rfl
 |t::l,v,h=>by rw[QA,Qa]at h;rw[Dm,rQ,Qj,F6 l v.2 h.2,<-OM t v.1 h.1];rfl
def GA{lk:Lk U}:∀{t:Ty} {x:KV U} {v:t.den},wU lk t x=some v->eC lk [x] (t.pv v)
 | .i k,x,v,h=> .cons (Sv h) .nil
 | .bool,x,v,h=> .cons (Sx h) .nil
 | .str,x,v,h=> .cons (Ss h) .nil
 | .sl t,x,v,h=> .cons (Su (U:=U) h) .nil
 | .st _,_,_,h=>by cases h
def eC.bA{lk:Lk U}{x:KV U}{d:Z PV}{xs:Z (KV U)}{b:Z PV}(h:eC lk [x] d)(k:eC lk xs b):eC lk (x::xs) (d++b):=by
 cases h with
 |cons h1 j=>cases j with|nil=>exact .cons h1 k
def CU{lk:Lk U}:∀{b:Z Ty} {cs:Z (KV U)} {v:xC b},uI lk b cs=some v->eC lk cs (rQ b v)
 |[],[],_,_=> .nil
 |[],_::_,_,h=>by cases h
 |_::_,[],_,h=>by cases h
 |t::l,c::cs,v,h=>by
  rw[uI]at h;split at h
  .rename_i m j;split at h
   .rename_i vs d;injection h with h
    subst h;exact(GA j).bA (CU d)
   .cases h
  .cases h
def Sy{α:Type}{f:KV U->Y α}{cs:Z (KV U)}{v:α}(h:HS f cs=some v):∃x,cs=[x]/\f x=some v:=by
 unfold HS at h;split at h
 .exact⟨_,rfl,h⟩
 .cases h
def NA:∀(b:Z Ty) (v:xC b),b.all Ty.leaf=true->(rQ b v).length=b.length
 |[],_,_=>rfl
 |t::l,v,h=>by
  rw[QA,Qa]at h
  have:(t.pv v.1).length=1:=by
   cases t with
   |st n=>cases h.1
   |_=>rfl
  rw[rQ,QY,NA l v.2 h.2,this,QW,qaq]
def l9:∀(t:Ty) (v:t.den),t.leaf=true->∀y∈t.pv v,y.ea=true/\(t.Mk=true->y.plain=true)
 | .i k,v,_,y,h| .bool,v,_,y,h| .str,v,_,y,h=>by simp only[Ty.pv,qag]at h;subst h;exact⟨rfl,λ_=>rfl⟩
 | .sl t,v,_,y,h=>by simp only[Ty.pv,qag]at h;subst h;exact⟨rfl,λh=>by cases h⟩
 | .st _,_,h,_,_=>by cases h
def yZ:∀(d:Z Ty) (v:xC d),d.all Ty.leaf=true->∀y∈rQ d v,y.ea=true/\(d.all Ty.Mk=true->y.plain=true)
 |[],_,_,y,h=>by cases h
 |t::l,v,h,y,b=>by
  rw[QA,Qa]at h;rw[rQ,Qu]at b;rcases b with b|b
  .obtain⟨h1,j⟩:=l9 t v.1 h.1 y b;exact⟨h1,λhp=>by rw[QA,Qa]at hp;exact j hp.1⟩
  .obtain⟨h1,j⟩:=yZ l v.2 h.2 y b;exact⟨h1,λhp=>by rw[QA,Qa]at hp;exact j hp.2⟩
def JF:iC->Y (IntKind×IntKind)
 | .Timer| .Claim| .mV| .tN=>some (.i64,.i64)
 |_=>none
def Hy:∀(n:iC) (k l:IntKind),JF n=some (k,l)->∀v,∃a b,TR (.st n) v=[.int k a,.int l b]
 | .Timer,_,_,h| .Claim,_,_,h| .mV,_,_,h| .tN,_,_,h=>by injection h with h;injection h with h1 d;subst h1 d;exact λv=>⟨_,_,rfl⟩
 | .ae,_,_,h| .ai,_,_,h| .aN,_,_,h| .aG,_,_,h| .ah,_,_,h| .aa,_,_,h| .br,_,_,h| .dz,_,_,h| .ak,_,_,h| .ij,_,_,h| .mU,_,_,h| .World,_,_,h| .ik,_,_,h| .Config,_,_,h| .Step,_,_,h| .Outcome,_,_,h| .jj,_,_,h| .kR,_,_,h| .kQ,_,_,h| .Src,_,_,h| .pK,_,_,h| .pY,_,_,h| .oU,_,_,h| .Seen,_,_,h| .Message,_,_,h| .sx,_,_,h| .jk,_,_,h=>by cases h
def U3:Z (Nat×Ty):=[(3,(Ty.i .i64)),(4,Ty.bool),(9,Ty.str),(34,(Ty.st .World)),(40,(Ty.st .Config)),(42,(Ty.sl (Ty.st .ae))),(44,(Ty.st .ae)),(46,(Ty.st .aG)),(48,(Ty.st .ah)),(52,(Ty.st .ai)),(54,(Ty.st .ak)),(57,(Ty.st .Step)),(60,(Ty.st .dz)),(65,(Ty.st .ik)),(66,(Ty.sl (Ty.st .Step))),(73,(Ty.st .Outcome)),(117,(Ty.st .br)),(158,(Ty.st .ij)),(313,(Ty.st .oU)),(343,(Ty.st .Message)),(411,(Ty.st .Claim))]
def Nt(n:Nat):Z (Nat×Ty)->Y Ty
 |[]=>none
 |(k,t)::l=>(match Nat.beq k n with|true=>some t|false=>Nt n l)
@[reducible] def K:TK U where
 dD:=TR
 dec:=WX
 Jd:=λn=>Nt n U3
 lK:=λt v=>by
  cases t with
  |st n=>exact(F6 _ _ n.Dn).trans (n.FN v).symm
  |_=>rfl
 iR:=λt lk cs v h=>by
  cases t with
  |st n=>
   change (match uI lk n.leaves cs with|some v=>some (n.PB v)|none=>none)=some v at h
   split at h
   .rename_i u j;injection h with h
    subst h;have:=CU j
    change eC lk cs (n.pv (n.PB u))
    rw[n.FN,n.U4];exact this
   .cases h
  |i k|bool|str|sl t=>obtain⟨x,rfl,d⟩:=Sy h;exact GA d
 len:=λt v=>by
  cases t with
  |st n=>exact(QL List.length (n.FN v)).trans (NA _ _ n.Dn)
  |_=>rfl
 ea:=λt v y b=>by
  cases t with
  |st n=>exact(yZ _ (n.toL v) n.Dn y (Eq.mp (QL (y∈·) (n.FN v)) b)).1
  |i k=>exact(l9 (.i k) v rfl y b).1
  |bool=>exact(l9 .bool v rfl y b).1
  |str=>exact(l9 .str v rfl y b).1
  |sl t=>exact(l9 (.sl t) v rfl y b).1
 one:=λt h=>by
  cases t with
  |st n=>cases h
  |_=>rfl
 plain:=λt h v y b=>by
  cases t with
  |st n=>exact(yZ _ (n.toL v) n.Dn y (Eq.mp (QL (y∈·) (n.FN v)) b)).2 h
  |i k=>exact(l9 (.i k) v rfl y b).2 rfl
  |bool=>exact(l9 .bool v rfl y b).2 rfl
  |str=>exact(l9 .str v rfl y b).2 rfl
  |sl t=>cases h
 JF:=λt=>match t with| .st n=>JF n|_=>none
 Hy:=λt k l h=>by
  cases t with
  |st n=>exact⟨rfl,Hy n k l h⟩
  |_=>cases h
end
section
open Go.RowKit
def Ld{w:Wo}{a:Addr}{v:Va}(h:w.cell? a=some v):∃t n,w.shape? a.block=some (t,n+1):=by
 unfold World.cell? at h;unfold World.shape?;split at h
 .rename_i c t fr d;split at h
  .cases h
  .have b:=(QG.1 h).1;exact⟨t,c.size - 1,by simp only[Qb,QX,qaJ];omega⟩
 .cases h
def EE{P:Pr}(w:Wo)(j M e:TI)(J:P.underlying j=some (.slice e))(size:Nat)(I:∀w,(Go.sizeOf e).run P w= .ok size w)
  (a b:Addr) (q W p V:Nat) (m:a.block≠b.block) {v:Va} (Q:w.cell? a=some v) {d:Array Va} {t:TI} (G:w.heap[b.block]?=some (.cells d t (0,0))) (h0:d.size≠0):
  (Extern.SlicesOverlaps.overlaps #[j,j] #[M] #[.slice (some a) q W,.slice (some b) p V]).run P w= .ok (.bool false) w:=by
 obtain⟨X,N,u⟩:=Ld Q;have l:w.shape? b.block=some (t,d.size):=by simp[World.shape?,G]
 have B:w.frozen? b=false:=by simp[World.frozen?,G]
 have o:w.frozen? {block:=b.block,off:=d.size}=false:=by simp[World.frozen?,G]
 have y:(a.block !=b.block)=true:=by simpa using m
 have n:(a.block==b.block)=false:=by simpa using m
 obtain⟨H,z⟩:∃H,d.size=H+1:=⟨d.size - 1,O⟩;rw[z]at l o
 change Sem.run P (α:=Va) (do
  let some t:=(#[j,j]:Array TI)[0]?|stuck "slices.overlaps: no parameter types"
  let .slice elem <-underlying t|stuck "slices.overlaps: slice type expected"
  let size <-sizeOf elem
  match(some a:Y Addr),(some b:Y Addr)with
  |some a,some b=>
   if q=0\/p=0\/size=0 then pure (Value.bool false)
   else if a.block !=b.block&&(<-frozen a)&&(<-frozen b)then unsupported .addressObserved
   else do
    if a.block !=b.block then do
     noView a;noView b
     if<-mayBeOne a b then return Value.bool ((<-choose (.extern "sameAddr.stringBytes" 2))==1)
    pure (Value.bool (a.block==b.block&&a.off<b.off+p*size&&b.off<a.off+q*size))
  |_,_=>pure (Value.bool false)) w=_
 by_cases h0:q=0\/p=0\/size=0
 .simp[Qo J,I,h0]
 .cases D:w.frozen? a<;>cases A:w.frozen? {block:=a.block,off:=N+1}<;>
   simp[Qo J,I,h0,y,n,frozen,noView,viewAt,mayBeOne,stringish,shape,Sem.run,u,l,D,A,B,o]
def Oc(a:Addr):a.add 0=a:=by
 cases a with
 |mk b o s=>unfold Addr.add;split<;>simp_all
def Bn(a:Addr)(n:Nat):(a.add n).block=a.block:=by unfold Addr.add;split<;>rfl
def lB{α:Type}(l:Z α)(o:Nat)(c:Z α):Z α:=l.take o++c++l.drop (o+c.length)
def AJ{α:Type}{l:Z α}{o:Nat}{c:Z α}(h:o+c.length<=l.length):(lB l o c).length=l.length:=by simp[lB];omega
def Mi{α:Type}{l us b:Z α}{a:Nat}(h:a+us.length+b.length<=l.length):lB (lB l a us) (a+us.length) b=l.take a++us++b++l.drop (a+us.length+b.length):=by
 have d:(l.take a++us).length=a+us.length:=o_
 have m:(lB l a us).take (a+us.length)=l.take a++us:=by rw[lB,List.take_append_of_le_length O,List.take_of_length_le O]
 have j:(lB l a us).drop (a+us.length+b.length)=l.drop (a+us.length+b.length):=by rw[lB,<-List.drop_drop,<-d,List.drop_left,List.drop_drop,d]
 rw[lB,m,j]
def K7{α:Type}{l us b:Z α}{a:Nat}(h:a+us.length+b.length<=l.length):lB (lB l (a+us.length) b) a us=l.take a++us++b++l.drop (a+us.length+b.length):=by
 have m:(l.take (a+us.length)).length=a+us.length:=o_
 have j:(lB l (a+us.length) b).take a=l.take a:=by rw[lB,qaf,List.take_append_of_le_length O,List.take_take,qav O]
 have d:(lB l (a+us.length) b).drop (a+us.length)=b++l.drop (a+us.length+b.length):=by
  conv=>lhs;rw[lB,qaf]
  exact List.drop_left' m
 rw[lB,j,d,qaf,qaf,qaf]
def pA(w:Wo)(g:Nat)(cs:Array Va){b:Nat}(h:b≠g):(w.setRow g cs).heap[b]?=w.heap[b]?:=by simp only[World.setRow,qbr];rw[Qg (λe=>h e.symm)]
def Ia(w:Wo)(g:Nat)(cs:Array Va):Fr (some g) w (w.setRow g cs):=⟨rfl,rfl,rfl,by simp[World.setRow],λb _ d=>pA w g cs (λe=>d (by rw[e])),DL.refl _⟩
def Fr.VB(w:Wo)(rb:Y Nat):Fr rb w w.drew:=⟨rfl,rfl,rfl,Ql _,λ_ _ _=>rfl,DL.of (qan _)⟩
def Fr.trans'{rb:Y Nat}{a b c:Wo}(h:Fr rb a b)(k:Fr rb b c):Fr rb a c:=⟨k.os.trans h.os,k.tape.trans h.tape,k.output.trans h.output,QS h.size k.size,λi hi d=>(k.block i (QF hi h.size) d).trans (h.block i hi d),h.drawn.trans k.drawn⟩
def Ex{w w':Wo}{v u:Va}{X:Nat->Prop}(q:Fr (bp v) w w')(p:∀b,bp u=some b->bp v=some b\/w.heap.size<=b):bN w w' (Mv v X) (Mv u X):=by
 have l:∀b,b<w.heap.size->¬Mv v X b->w'.heap[b]?=w.heap[b]?/\¬Mv u X b:=λb d j=>⟨q.block b d λh=>j (.inl h),by
  rintro(h|h)
  .rcases p _ h with h|h
   .exact j (.inl h)
   .omega
  .exact j (.inr h)⟩
 refine⟨λa x n j=> ?_,λb es t o j=> ?_⟩
 .have d:a.block<w.heap.size:=by
   by_cases h:a.block<w.heap.size
   .exact h
   .have:w.heap[a.block]?=none:=by rw[qbx];omega
    simp[World.cell?,this]at n
  obtain⟨h1,m⟩:=l _ d j;exact⟨(World.cell?_of_block h1).trans n,m⟩
 .obtain⟨h1,m⟩:=l b (QG.1 o).1 j;exact⟨h1.trans o,m⟩
def Ji{w:Wo}{M:Nat->Prop}{es:Z (Z PV)}{xs:Z Va}(h:aK w M cn es.flatten xs)(n:∀u∈es,u.all PV.one=true):∀x∈xs,x.oneCell'=true:=by
 intro x m;obtain⟨q,j,rfl⟩:=List.mem_iff_getElem.1 m;have l:q<es.flatten.length:=by rw[<-h.1];exact j
 obtain⟨el,d,b⟩:=List.mem_flatten.1 (qam l);exact((h.2 q _ _ (Qt l) (Qt j)).one (Qe.1 (n el d) _ b)).1
structure Ni (n c i m:Nat):Prop where
 z1:¬((m:Int)=0)
 z2:¬((i:Int)=(n:Int))
 w1:IntKind.i64.wrap ((i:Int)+(m:Int))=(i:Int)+(m:Int)
 b1:(0:Int)<=(i:Int)+(m:Int)
 tn:((i:Int)+(m:Int)).toNat=i+m
 b3:(i:Int)<=(n:Int)+(m:Int)
 b4:¬(c=i)
 b5:(i:Int)<=(n:Int)
def Ni.of{n c i m:Nat}(hi:i<n)(j:n<=c)(b:c<=9223372036854775807)(d:0<m)(h:n+m<=9223372036854775807):Ni n c i m:=
 ⟨O,O,by rw[qbo];omega,O,O,O,O,O⟩
structure Fo (P:Program) (f S E I B ov k bytes:Nat):Prop where
 WT:0<k
 hS:P.underlying S=some (.slice E)
 hI:P.underlying I=some (.int .i64)
 WU:∃(i:TypeInfo) (z:Value),P.info? E=some i/\i.zero=some z/\z.cells.size=k/\i.size=k/\i.bytes=bytes
 OG:∀(x:Array Value) (w:World),(Extern.SlicesOverlaps.overlaps #[S,S] #[B] x).run P w= .ok (.bool false) w->(callFunc ov x).run P w= .ok (.value (.bool false)) w
 NN:∀(g n c i:Nat),i<=n->n<=c->c<=9223372036854775807->∀(u:Option Addr) (vc:Nat) (w:World),
  Calls P f #[.slice (some ⟨g,0,none⟩) n c,.int .i64 i,.slice u 0 vc] w λe w'=>e= .returned (.slice (some ⟨g,0,none⟩) n c)/\w'=w
 OH:∀(u:Option Addr) (vc:Nat) (w:World),Calls P f #[.slice none 0 0,.int .i64 0,.slice u 0 vc] w λe w'=>e= .returned (.slice none 0 0)/\w'=w
 TY:∀(g n c:Nat),n<=c->c<=9223372036854775807->∀(ad:Addr) (m vc:Nat),0<m->∀(w w1:World) (v1:Value),
  (∀ty,(Builtin.append_ #[S,S] ty #[.slice (some ⟨g,0,none⟩) n c,.slice (some ad) m vc]).run P w= .ok v1 w1)->
  Calls P f #[.slice (some ⟨g,0,none⟩) n c,.int .i64 n,.slice (some ad) m vc] w λe w'=>e= .returned v1/\w'=w1
 MM:∀(ad:Addr) (m vc:Nat),0<m->∀(w w1:World) (v1:Value),
  (∀ty,(Builtin.append_ #[S,S] ty #[.slice none 0 0,.slice (some ad) m vc]).run P w= .ok v1 w1)->
  Calls P f #[.slice none 0 0,.int .i64 0,.slice (some ad) m vc] w λe w'=>e= .returned v1/\w'=w1
 shift:∀(g n c i:Nat),i<n->c<=9223372036854775807->∀(ad:Addr) (m vc:Nat),0<m->n+m<=c->Ni n c i m->¬(c=i+m)->∀(w w1 w2:World),
  (∀lb cb,(callFunc ov #[.slice (some ad) m vc,.slice (some ⟨g,(i+m)*k,none⟩) lb cb]).run P w= .ok (.value (.bool false)) w)->
  (∀ty dc sc,(Builtin.copy_ #[S,S] ty #[.slice (some ⟨g,(i+m)*k,none⟩) (n+m - (i+m)) dc,.slice (some ⟨g,i*k,none⟩) (n+m - i) sc]).run P w.drew= .ok (goInt (n - i:Nat)) w1)->
  (∀ty dc,(Builtin.copy_ #[S,S] ty #[.slice (some ⟨g,i*k,none⟩) (n+m - i) dc,.slice (some ad) m vc]).run P w1= .ok (goInt m) w2)->
  Calls P f #[.slice (some ⟨g,0,none⟩) n c,.int .i64 i,.slice (some ad) m vc] w λe w'=>e= .returned (.slice (some ⟨g,0,none⟩) (n+m) c)/\w'=w2
 grow:∀(g n c i:Nat),i<n->n<=c->c<=9223372036854775807->∀(ad:Addr) (m vc:Nat),0<m->c<n+m->∀(N G:Nat),n+m<=G->G<=9223372036854775807->Ni n c i m->(c:Int)<(n:Int)+(m:Int)->¬(G=i)->¬(G=i+m)->∀(w w1 w2 w3:World),
  (∀ty,(Builtin.append_ #[S,I] ty #[.slice (some ⟨g,0,none⟩) i c,.int .i64 ((n:Int)+(m:Int) - (i:Int))]).run P w= .ok (.slice (some ⟨N,0,none⟩) (n+m) G) w1)->
  (∀ty dc,(Builtin.copy_ #[S,S] ty #[.slice (some ⟨N,i*k,none⟩) (n+m - i) dc,.slice (some ad) m vc]).run P w1= .ok (goInt m) w2)->
  (∀ty dc sc,(Builtin.copy_ #[S,S] ty #[.slice (some ⟨N,(i+m)*k,none⟩) (n+m - (i+m)) dc,.slice (some ⟨g,i*k,none⟩) (n - i) sc]).run P w2.drew= .ok (goInt (n - i:Nat)) w3)->
  Calls P f #[.slice (some ⟨g,0,none⟩) n c,.int .i64 i,.slice (some ad) m vc] w λe w'=>e= .returned (.slice (some ⟨N,0,none⟩) (n+m) G)/\w'=w3
def Aa{P:Pr}{E k bytes:Nat}(h:(P.info? E).map (λi=>(i.zero.map (·.cells.size),i.size,i.bytes))=some (some k,k,bytes)):∃(i:TypeInfo) (z:Va),P.info? E=some i/\i.zero=some z/\z.cells.size=k/\i.size=k/\i.bytes=bytes:=by
 rw[Qh]at h;obtain⟨i,h1,b⟩:=h;injection b with b d
 injection d with d m
 rw[Qh]at b;obtain⟨z,l,j⟩:=b;exact⟨i,z,h1,l,j,d,m⟩
def Sb{P:Pr}{f S E I B ov k o:Nat}(H:Fo P f S E I B ov k o){es vs:Z (Z PV)}{i:Nat}(hi:i<=es.length)(h1e:∀u∈es,u.all PV.one=true)(hvs:∀u∈vs,u.length=k/\u.all PV.one=true)
  (N:es.length+vs.length<=maxLen) (hby:(es.length+vs.length)*o<=140737488355328):Fv P f E k es [.int .i64 i,.sl vs] (es.take i++vs++es.drop i):=by
 have hk0:=H.WT;intro w X hX v args hvX ⟨xs,q,hke,hr⟩ D;obtain⟨a1,args,rfl,ha1,D⟩:=D.cons_inv;obtain⟨a2,args,rfl,ha2,D⟩:=D.cons_inv;obtain rfl:=D.lF;obtain rfl:=ha1.dE;obtain⟨inf,z,hi1,hi2,hi3,hi4,hi5⟩:=H.WU;have hsz:(P.info? E).map (·.size)=some k:=by rw[hi1];simp[hi4]
 have hmem:∀u∈es.take i++vs++es.drop i,u.length=k:=by
  intro u hu;rw[Qu,Qu]at hu;rcases hu with(hu|hu)|hu
  .exact hke u (qbc hu)
  .exact(hvs u hu).1
  .exact hke u (qbd hu)
 have same:vs=[]->es.take i++vs++es.drop i=es:=λh=>by rw[h];simp
 by_cases hm0:vs=[]
 .rw[same hm0]
  have hz:∃u vc,a2= .slice u 0 vc:=by
   subst hm0;rcases ha2.wZ with⟨h,_⟩|⟨ad,c,_,_,h,_⟩
   .exact⟨_,_,h⟩
   .exact⟨_,_,h⟩
  obtain⟨u,vc,rfl⟩:=hz
  have post:∀(e:Ending) (w':Wo),e= .returned v/\w'=w->∃u,e= .returned u/\sw w' (Mv u X) E k u es/\(∀b,bp u=some b->bp v=some b\/w.heap.size<=b)/\Fr (bp v) w w':=by rintro e w' ⟨rfl,rfl⟩;exact⟨v,rfl,⟨xs,q,hke,hr⟩,λb A=> .inl A,Fr.refl _ _⟩
  rcases q.2 with⟨rfl,h0⟩|⟨g,cap,J,rfl,_,hg,hnc,hcm,hcs,htk⟩
  .obtain rfl:i=0:=O;exact(H.OH u vc w).mono λe w' h=>post e w' h
  .exact(H.NN g es.length cap i hi hnc (by simp only[maxLen]at hcm;omega) u vc w).mono λe w' h=>post e w' h
 .
  have hm:0<vs.length:=List.length_pos_iff.2 hm0;rcases ha2.wZ with⟨_,h⟩|⟨ad,vc,k',us,rfl,hk',hru,hcu,_,_⟩
  .exact absurd h hm0
  have V:us.length=vs.length*k:=by rw[hru.1,hU vs k λu hu=>(hvs u hu).1]
  have M:=Ji hru λu hu=>(hvs u hu).2
  have hpos:0<us.length:=by rw[V];exact Nat.mul_pos hm hk0
  obtain⟨c0,hc0⟩:∃c0,us[0]?=some c0:=⟨_,Qt hpos⟩;obtain⟨had,hadM⟩:=hcu 0 c0 hc0;have had:w.cell? ad=some c0:=by rw[Oc]at had;exact had
  have p:∀(j:Nat) (u:Va),us[j]?=some u->w.cell? (ad.add j)=some u:=λj u Q=>(hcu j u Q).1
  have hadlt:ad.block<w.heap.size:=by
   by_cases h:ad.block<w.heap.size
   .exact h
   .have:w.heap[ad.block]?=none:=by rw[qbx];omega
    simp[World.cell?,this]at had
  have fin:∀(v1:Va) (w1:Wo),w1.ownsRow 0 E k v1 (es.length+vs.length) (xs++us)->w.grownBy w1 v.ownBlock->(v1.ownBlock=v.ownBlock\/v1.ownBlock=some w.heap.size)->(∃a n c,v= .slice a n c)->i=es.length->w.drawn<=w1.drawn->
    ∀(e:Ending) (w':Wo),e= .returned v1/\w'=w1->∃u,e= .returned u/\sw w' (Mv u X) E k u (es.take i++vs++es.drop i)/\(∀b,bp u=some b->bp v=some b\/w.heap.size<=b)/\Fr (bp v) w w':=by
   rintro v1 w1 ho hgr hat ⟨a0,n0,c0,hv0⟩ hie hdr e w' ⟨rfl,rfl⟩;have hb0:v.ownBlock=bp v:=ib hv0
   have hb1:v1.ownBlock=bp v1:=by
    rcases ho.2 with⟨h,_⟩|⟨_,_,_,h,_⟩
    .exact ib h
    .exact ib h
   have W:Fr (bp v) w w':=⟨hgr.os,hgr.tape,hgr.output,hgr.size,λb A hne=>hgr.block b A (λh=>hne (by rw[<-hb0,<-h])),DL.of hdr⟩
   have hub:∀b,bp v1=some b->bp v=some b\/w.heap.size<=b:=λb A=>by
    rw[<-hb1]at A;rcases hat with h|h
    .exact .inl (by rw[<-hb0,<-h];exact A)
    .rw[h]at A;injection A with A;exact .inr O
   have he:es.take i++vs++es.drop i=es++vs:=by subst hie;simp
   rw[he]at hmem ⊢;refine⟨v1,rfl,⟨xs++us,by rw[QY];exact ho,hmem,?_⟩,hub,W⟩
   rw[List.flatten_append];exact(hr.append hru).mono (Ex W hub) (cn.le _)
  rcases q.2 with⟨rfl,h0⟩|⟨g,cap,J,rfl,hb0,hg,hnc,hcm,hcs,htk⟩
  .obtain rfl:i=0:=O;obtain⟨v1,w1,r1,r2,r3,_,r5⟩:=qbk (P:=P) w 0 S 0 E inf z k o H.hS hi1 hi2 hi4 hi5 hi3 hk0 (.slice none 0 0) es.length xs q ad vs.length vc us V p M N hby (Q7 _);exact(H.MM ad vs.length vc hm w w1 v1 λty=>r1).mono λe w' h=>fin v1 w1 r2 r3 r5 ⟨_,_,_,rfl⟩ h0.symm (xx (P:=P) w 0 S 0 E inf z k o H.hS hi1 hi2 hi4 hi5 hk0 (.slice none 0 0) es.length xs q ad vs.length vc us V p M N hby r1) e w' h
  .have hcm':cap<=9223372036854775807:=by simp only[maxLen]at hcm;omega
   by_cases hie:i=es.length
   .obtain⟨v1,w1,r1,r2,r3,_,r5⟩:=qbk (P:=P) w 0 S 0 E inf z k o H.hS hi1 hi2 hi4 hi5 hi3 hk0 _ es.length xs q ad vs.length vc us V p M N hby (Q7 _);have:=H.TY g es.length cap hnc hcm' ad vs.length vc hm w w1 v1 λty=>r1
    rw[<-hie]at this ⊢;exact this.mono λe w' h=>fin v1 w1 r2 r3 r5 ⟨_,_,_,rfl⟩ hie (xx (P:=P) w 0 S 0 E inf z k o H.hS hi1 hi2 hi4 hi5 hk0 _ es.length xs q ad vs.length vc us V p M N hby r1) e w' h
   .have hin:i<es.length:=O;have hM:∀b,Mv (.slice (some ⟨g,0,none⟩) es.length cap) X b->True:=λ_ _=>trivial
    have hne:ad.block≠g:=λh=>hadM (.inl (by rw[h];rfl))
    have hglt:g<w.heap.size:=(QG.1 hg).1;have hxl:xs.length=es.length*k:=q.1;have hcl:es.length*k<=J.toList.length:=by simpa[hcs]using QT k hnc
    have hx1:=Ji hr h1e;obtain⟨ys,hys⟩:∃ys,ys=xs.drop (i*k):=⟨_,rfl⟩;have hyl:ys.length=(es.length - i)*k:=by rw[hys,List.length_drop,hxl,Nat.sub_mul]
    have hy1:∀y∈ys,y.oneCell'=true:=λy hy=>hx1 y (qbd (hys▸hy))
    have hcx:∀(j:Nat) (u:Va),xs[j]?=some u->w.cell? ⟨g,j,none⟩=some u:=λj u Q=>by
     refine kH hg ?_;rw[<-htk,qat]at Q;split at Q
     .exact Q
     .cases Q
    have hcy:∀(j:Nat) (u:Va),ys[j]?=some u->w.cell? ((⟨g,i*k,none⟩:Addr).add j)=some u:=λj u Q=>by rw[add_mid];rw[hys,List.getElem?_drop]at Q;exact hcx _ u Q
    have hik:i*k+us.length=(i+vs.length)*k:=by rw[V,QJ]
    have htot:i*k+us.length+ys.length=(es.length+vs.length)*k:=by rw[V,hyl,<-QJ,<-QJ];congr 1;omega
    have hres:aK w (Mv (.slice (some ⟨g,0,none⟩) es.length cap) X) cn (es.take i++vs++es.drop i).flatten (xs.take (i*k)++us++ys):=by rw[List.flatten_append,List.flatten_append,oa k i es hke,se k i es hke,hys];exact((hr.take _).append hru).append (hr.drop _)
    have t:(es.take i++vs++es.drop i).length=es.length+vs.length:=o_
    have htl:(xs.take (i*k)++us++ys).length=(es.length+vs.length)*k:=by rw[QY,QY,List.length_take,hxl,qav (QT k hi)];exact htot
    by_cases hroom:es.length+vs.length<=cap
    .
     have hfit:(es.length+vs.length)*k<=J.toList.length:=by simpa[hcs]using QT k hroom
     have r1:=pZ (P:=P) w.drew S S 0 E g ((i+vs.length)*k) (es.length+vs.length - (i+vs.length)) 0 ⟨g,i*k,none⟩ (es.length+vs.length - i) 0 J E ys k (es.length - i) H.hS hsz hg
      (by simp only[qa9];split<;>omega) hyl hcy (by simp only[Q0]at hfit;omega) hy1
     obtain⟨d,m⟩:∃d:Array Va,d=(lB J.toList ((i+vs.length)*k) ys).toArray:=⟨_,rfl⟩;have hg1:(w.drew.setRow g d).heap[g]?=some (.cells d E (0,0)):=qaw w.drew g J _ E _ hg
     have hl1:d.size=cap*k:=by rw[m,List.size_toArray,AJ (by rw[<-hik];omega),Q0,hcs]
     have r2:=pZ (P:=P) (w.drew.setRow g d) S S 0 E g (i*k) (es.length+vs.length - i) 0 ad vs.length vc d E us k vs.length H.hS hsz hg1
      (by simp only[qa9];split<;>omega) V (λj u Q=>by rw[World.cell?_of_block (w:=w) (pA w.drew g d (by rw[Bn];exact hne))];exact p j u Q)
      (by rw[hl1,<-hcs,<-Q0];omega) M
     obtain⟨cur2,l⟩:∃cur2:Array Va,cur2=(lB d.toList (i*k) us).toArray:=⟨_,rfl⟩;have hg2:((w.drew.setRow g d).setRow g cur2).heap[g]?=some (.cells cur2 E (0,0)):=qaw _ g d _ E _ hg1
     have hc2:cur2.toList=xs.take (i*k)++us++ys++J.toList.drop ((es.length+vs.length)*k):=by rw[l,m,<-hik,K7 O,htot,<-htk,List.take_take,qav (QT k hi)]
     have hC:J.toList.length=cap*k:=(Q0 (xs:=J)).trans hcs;have hL1:d.toList.length=cap*k:=(Q0 (xs:=d)).trans hl1;have W:Fr (some g) w ((w.drew.setRow g d).setRow g cur2):=(Fr.VB w _).trans' ((Ia _ g _).trans' (Ia _ g _))
     have hcap0:J.size≠0:=by have:0<cap:=O;rw[hcs];exact qbp (Nat.mul_pos this hk0)
     refine(H.shift g es.length cap i hin hcm' ad vs.length vc hm hroom (.of hin O hcm' hm O) O w (w.drew.setRow g d) ((w.drew.setRow g d).setRow g cur2) (λlb cb=> ?_) (λty dc sc=> ?_) (λty dc=> ?_)).mono ?_
     .exact H.OG _ w (EE w S B E H.hS k (λw'=>by simp[Go.sizeOf,typeInfo,hi1,hi4]) ad ⟨g,(i+vs.length)*k,none⟩ vs.length vc lb cb hne had hg hcap0)
     .rw[m];exact r1
     .rw[l];exact r2
     .rintro e w' ⟨rfl,rfl⟩;refine⟨_,rfl,⟨xs.take (i*k)++us++ys,⟨?_,.inr ⟨g,cap,cur2,by rw[t],hb0,hg2,by rw[t];exact hroom,hcm,?_,?_⟩⟩,hmem,hres.mono (@Ex w _ (.slice (some ⟨g,0,none⟩) es.length cap) (.slice (some ⟨g,0,none⟩) (es.length+vs.length) cap) X W λb A=> .inl A) (cn.le _)⟩,λb A=> .inl A,W⟩
      .rw[htl,t]
      .rw[l,List.size_toArray,AJ (by rw[hL1];omega),hL1]
      .rw[t,hc2,<-htl,List.take_left' rfl]
    .
     have hik2:i+(es.length+vs.length - i)=es.length+vs.length:=O
     have hold:(Builtin.firstCells inf.size i (.slice (some ⟨g,0,none⟩) i cap)).run P w.drew= .ok (xs.take (i*k)).toArray w.drew:=by
      rw[hi4];refine run_firstCells_some w.drew k i ⟨g,0,none⟩ i cap (xs.take (i*k)) (by rw[List.length_take,hxl];exact qav (QT k hi)) λj u Q=> ?_
      rw[add_mid,qai];rw[qat]at Q;split at Q
      .exact hcx j u Q
      .cases Q
     have hmax':es.length+vs.length<=9223372036854775807:=by simp only[maxLen]at N;omega
     have r0:=λty=>Lib.run_append_grow_zeros (P:=P) w S I ty E inf z .i64 .i64 H.hS H.hI hi1 hi2 (some ⟨g,0,none⟩) i cap (xs.take (i*k)) hold (es.length+vs.length - i) O O O O
      (by rw[hi5];have:=QT o (show es.length+vs.length - i<=es.length+vs.length by omega);omega) (by rw[hi5,hik2];exact growslice_fits O hby)
     rw[hik2]at r0;obtain⟨G,hG⟩:∃G,G=grownCap w (es.length+vs.length) cap E:=⟨_,rfl⟩;have hGn:es.length+vs.length<=G:=by rw[hG];exact grownCap_ge w _ _ _
     have hGm:G<=maxLen:=by rw[hG];exact grownCap_le_maxLen w _ _ _ N
     have hG63:G<=9223372036854775807:=by simp only[maxLen]at hGm;omega
     rw[<-hG]at r0;obtain⟨row,hrow⟩:∃row:Array Va,row=(xs.take (i*k)).toArray++Builtin.zeroCells z.cells (es.length+vs.length - i)++Builtin.zeroCells z.cells (G - (es.length+vs.length)):=⟨_,rfl⟩;rw[<-hrow]at r0;have hrt:(xs.take (i*k)).length=i*k:=by rw[List.length_take,hxl];exact qav (QT k hi)
     have hrl:row.size=G*k:=by rw[hrow,qbs,qbs,List.size_toArray,hrt,size_zeroCells,size_zeroCells,hi3,<-QJ,<-QJ];congr 1;omega
     have hrtake:row.toList.take (i*k)=xs.take (i*k):=by rw[hrow,Array.toList_append,Array.toList_append,qaf];exact List.take_left' hrt
     have hN:(w.drew.alloc (.cells row E)).heap[w.heap.size]?=some (.cells row E (0,0)):=by show(w.heap.push (.cells row E))[w.heap.size]?=_;simp
     have hkeep:∀b,b<w.heap.size->(w.drew.alloc (.cells row E)).heap[b]?=w.heap[b]?:=λb A=>Below.heap_alloc w.drew _ b A
     have hfit:(es.length+vs.length)*k<=row.size:=by rw[hrl];exact QT k hGn
     have r1:=pZ (P:=P) (w.drew.alloc (.cells row E)) S S 0 E w.heap.size (i*k) (es.length+vs.length - i) 0 ad vs.length vc row E us k vs.length H.hS hsz hN
      (by simp only[qa9];split<;>omega) V (λj u Q=>by rw[World.cell?_of_block (w:=w) (hkeep _ (by rw[Bn];exact hadlt))];exact p j u Q) O M
     have hR:row.toList.length=G*k:=(Q0 (xs:=row)).trans hrl;obtain⟨d,m⟩:∃d:Array Va,d=(lB row.toList (i*k) us).toArray:=⟨_,rfl⟩;have hl1:d.size=G*k:=by rw[m,List.size_toArray,AJ (by rw[hR];omega),hR]
     have hL1:d.toList.length=G*k:=(Q0 (xs:=d)).trans hl1;have hg1:((w.drew.alloc (.cells row E)).setRow w.heap.size d).drew.heap[w.heap.size]?=some (.cells d E (0,0)):=qaw _ _ row _ E _ hN
     have r2:=pZ (P:=P) ((w.drew.alloc (.cells row E)).setRow w.heap.size d).drew S S 0 E w.heap.size ((i+vs.length)*k) (es.length+vs.length - (i+vs.length)) 0 ⟨g,i*k,none⟩ (es.length - i) 0 d E ys k (es.length - i) H.hS hsz hg1
      (by simp only[qa9];split<;>omega) hyl (λj u Q=>by
       rw[World.cell?_of_block (w:=w) (w':=((w.drew.alloc (.cells row E)).setRow w.heap.size d).drew) (((pA _ w.heap.size d (by rw[Bn];exact qaj hglt)).trans (hkeep _ (by rw[Bn];exact hglt))))]
       exact hcy j u Q) (by rw[hl1,<-hrl,<-hik];omega) hy1
     obtain⟨cur2,l⟩:∃cur2:Array Va,cur2=(lB d.toList ((i+vs.length)*k) ys).toArray:=⟨_,rfl⟩;obtain⟨w3,hw3⟩:∃w3,w3=((w.drew.alloc (.cells row E)).setRow w.heap.size d).drew.setRow w.heap.size cur2:=⟨_,rfl⟩;have hg2:w3.heap[w.heap.size]?=some (.cells cur2 E (0,0)):=by rw[hw3];exact qaw _ _ d _ E _ hg1
     have hc2:cur2.toList=xs.take (i*k)++us++ys++row.toList.drop ((es.length+vs.length)*k):=by rw[l,m,<-hik,Mi (by rw[hR];omega),htot,hrtake]
     have W:Fr (some g) w w3:=by
      rw[hw3];refine⟨rfl,rfl,rfl,by simp[World.setRow],λb A _=> ?_,DL.of (by show w.drawn<=w.drawn+1+1;omega)⟩
      rw[pA _ _ _ (qaj A)];exact(pA _ w.heap.size d (qaj A)).trans (hkeep b A)
     refine(H.grow g es.length cap i hin hnc hcm' ad vs.length vc hm O w.heap.size G hGn hG63 (.of hin hnc hcm' hm O) O O O w (w.drew.alloc (.cells row E)) ((w.drew.alloc (.cells row E)).setRow w.heap.size d) w3 (λty=> ?_) (λty dc=> ?_) (λty dc sc=> ?_)).mono ?_
     .have:=r0 ty;rw[show((es.length+vs.length - i:Nat):Int)=(es.length:Int)+(vs.length:Int) - (i:Int)by omega]at this
      exact this
     .rw[m];exact r1
     .rw[hw3,l];exact r2
     .rintro e w' ⟨rfl,rfl⟩
      have hub:∀b,bp (.slice (some ⟨w.heap.size,0,none⟩) (es.length+vs.length) G)=some b->bp (.slice (some ⟨g,0,none⟩) es.length cap)=some b\/w.heap.size<=b:=λb A=>by
       injection A with A
       exact .inr (qap A)
      refine⟨_,rfl,⟨xs.take (i*k)++us++ys,⟨?_,.inr ⟨w.heap.size,G,cur2,by rw[t],Q7 _,hg2,by rw[t];exact hGn,hGm,?_,?_⟩⟩,hmem,hres.mono (@Ex w _ (.slice (some ⟨g,0,none⟩) es.length cap) (.slice (some ⟨w.heap.size,0,none⟩) (es.length+vs.length) G) X W hub) (cn.le _)⟩,hub,W⟩
      .rw[htl,t]
      .rw[l,List.size_toArray,AJ (by rw[hL1,<-hik];omega),hL1]
      .rw[t,hc2,<-htl,List.take_left' rfl]
end
end Go.TQ
end
noncomputable section
namespace Go.Proofs.YtppbofaglpdghaaGreat
open Go.RowKit Go.TQ Go.Lib
namespace JQ
set_option maxHeartbeats 8000000 in
set_option maxRecDepth 100000 in
def ways:Fo Tryz.prog 235 58 117 3 4 312 37 496:=by
 have zE:∀w:Wo,(Go.sizeOf 117).run Tryz.prog w= .ok 37 w:=λ_=>d_
 have uS:=Qo Tryz.underlying58;have p:Tryz.prog.follows .mixedOrders=true:=d_;refine⟨s_,Tryz.underlying58,Tryz.underlying3,Aa d_,λx w h=> ?_,λg n c i hi I b u j w=> ?_,λu j w=> ?_,λg n c I b ad m j z w w1 Q H=> ?_,λad m j z w w1 Q H=> ?_,λg n c i hi b ad m j z d ⟨l,q,t,B,v,o,hb4,A⟩ hb2 w w1 w2 y h1 D=> ?_,λg n c i hi I b ad m j z d N G hGn M ⟨l,q,t,B,v,_,X,o⟩ V hGi J w w1 w2 w3 W h1 D=> ?_⟩
 .rw[qaW Tryz.func312 d_ d_ d_ (e:=Extern.SlicesOverlaps.overlaps #[58,58] #[4]) d_,h];rfl
 rotate_left 4
 .go_enter Tryz.func235,Tryz.ntmps235
  go_wp2_with (simp only[y])
  go_region_law_o (refine step_copy_runI rfl _ _ 58 58 rfl _ _ (by simp[Act.eval,Act.put]) (by simp[Act.eval,Act.put]) (h1 _ _ _) ?_)
  go_wp2_with (at_builtin;refine wpList_copy_runI _ rfl _ _ 58 58 rfl _ _ rfl rfl (D _ _) ?_)
  go_ret
  exact⟨rfl,rfl⟩
 .have A:=o
  go_enter Tryz.func235,Tryz.ntmps235
  go_wp2_with (first
   |(at_builtin;refine Lib.wpList_append_run _ rfl _ _ _ _ rfl _ _ rfl rfl _ _ (W _) ?_)
   |(at_builtin;refine wpList_copy_runI _ rfl _ _ 58 58 rfl _ _ rfl rfl (h1 _ _) ?_))
  go_region_law_o (refine step_copy_runI rfl _ _ 58 58 rfl (.slice (some ⟨N,(i+m)*37,none⟩) (n+m - (i+m)) (G - (i+m))) (.slice (some ⟨g,i*37,none⟩) (n - i) (c - i)) (by simp[Act.eval,Act.put]) (by simp[Act.eval,Act.put]) (D 3 (G - (i+m)) (c - i)) ?_)
  go_wp2
  go_ret
  exact⟨rfl,rfl⟩
 all_goals
  try have l:¬((m:Int)=0):=O
  go_enter Tryz.func235,Tryz.ntmps235
  go_wp2_with (at_builtin;refine Lib.wpList_append_run _ rfl _ _ _ _ rfl _ _ rfl rfl _ _ (H _) ?_)
  all_goals go_ret
  all_goals exact⟨rfl,rfl⟩
def enters:Go.TQ.Enters Tryz.prog 235:=⟨Tryz.f235,Tryz.func235,d_,d_⟩
end JQ
end Go.Proofs.YtppbofaglpdghaaGreat
end
noncomputable section
namespace Go.TQ
def CF{α:Type}(b:Nat)(s:Z α)(i:Int)(v:Z α):Y (Z α):=bif decide (0<=i)&&decide (i<=((s.length:Nat):Int))&&bn b (s.length+v.length)then some (s.take i.toNat++v++s.drop i.toNat)else none
def JK{P:Pr}{f S E I B o k b:Nat}(H:Fo P f S E I B o k b)(hent:Enters P f){T:Ty}(q:∀x:T.den,(T.pv x).length=k):
  bQ.Sound P (U:=U) (.cw f E k T [.ty (Ty.i .i64),.ty (Ty.sl T)] λs a=>CF b s a.1 a.2.1):=by
 refine⟨hent,λxs a j h=> ?_⟩
 suffices m:∀(i:Int) (v:Z T.den) (j:Z T.den),CF b xs i v=some j->Fv P f E k (xs.map T.pv) [.int .i64 i,.sl (v.map T.pv)] (j.map T.pv)from m a.1 a.2.1 j h
 clear h;intro i v j h;unfold CF at h
 cases l:(decide (0<=i)&&decide (i<=((xs.length:Nat):Int))&&bn b (xs.length+v.length))with
 |false=>rw[l]at h;cases h
 |true=>
  rw[l]at h;injection h with h
  subst h;simp only[Qa,QB]at l;obtain⟨⟨h0,h1⟩,A⟩:=l;obtain⟨z,t⟩:=wo A;have d:∀x:T.den,(T.pv x).all PV.one=true:=λx=>Qe.2 λy p=>JV (K.ea T x y p)
  have:=Sb H (es:=xs.map T.pv) (vs:=v.map T.pv) (i:=i.toNat) (by rw[Qv];omega)
   (λu n=>by obtain⟨x,_,rfl⟩:=Qq.1 n;exact d x) (λu n=>by obtain⟨x,_,rfl⟩:=Qq.1 n;exact⟨q x,d x⟩)
   (by rw[Qv,Qv];exact t) (by rw[Qv,Qv];exact z)
  rw[<-List.map_take,<-List.map_drop,<-List.map_append,<-List.map_append,show((i.toNat:Nat):Int)=i by omega]at this
  exact this
end Go.TQ
end
noncomputable section
namespace Go.Proofs.YtppbofaglpdghaaGreat
open Go.RowKit Go.TQ Go.Lib
namespace JP
set_option maxHeartbeats 8000000 in
set_option maxRecDepth 100000 in
def ways:Fo Tryz.prog 285 29 158 3 4 350 28 344:=by
 have zE:∀w:Wo,(Go.sizeOf 158).run Tryz.prog w= .ok 28 w:=λ_=>d_
 have uS:=Qo Tryz.underlying29;have p:Tryz.prog.follows .mixedOrders=true:=d_;refine⟨s_,Tryz.underlying29,Tryz.underlying3,Aa d_,λx w h=> ?_,λg n c i hi I b u j w=> ?_,λu j w=> ?_,λg n c I b ad m j z w w1 Q H=> ?_,λad m j z w w1 Q H=> ?_,λg n c i hi b ad m j z d ⟨l,q,t,B,v,o,hb4,A⟩ hb2 w w1 w2 y h1 D=> ?_,λg n c i hi I b ad m j z d N G hGn M ⟨l,q,t,B,v,_,X,o⟩ V hGi J w w1 w2 w3 W h1 D=> ?_⟩
 .rw[qaW Tryz.func350 d_ d_ d_ (e:=Extern.SlicesOverlaps.overlaps #[29,29] #[4]) d_,h];rfl
 rotate_left 4
 .go_enter Tryz.func285,Tryz.ntmps285
  go_wp2_with (simp only[y])
  go_region_law_o (refine step_copy_runI rfl _ _ 29 29 rfl _ _ (by simp[Act.eval,Act.put]) (by simp[Act.eval,Act.put]) (h1 _ _ _) ?_)
  go_wp2_with (at_builtin;refine wpList_copy_runI _ rfl _ _ 29 29 rfl _ _ rfl rfl (D _ _) ?_)
  go_ret
  exact⟨rfl,rfl⟩
 .have A:=o
  go_enter Tryz.func285,Tryz.ntmps285
  go_wp2_with (first
   |(at_builtin;refine Lib.wpList_append_run _ rfl _ _ _ _ rfl _ _ rfl rfl _ _ (W _) ?_)
   |(at_builtin;refine wpList_copy_runI _ rfl _ _ 29 29 rfl _ _ rfl rfl (h1 _ _) ?_))
  go_region_law_o (refine step_copy_runI rfl _ _ 29 29 rfl (.slice (some ⟨N,(i+m)*28,none⟩) (n+m - (i+m)) (G - (i+m))) (.slice (some ⟨g,i*28,none⟩) (n - i) (c - i)) (by simp[Act.eval,Act.put]) (by simp[Act.eval,Act.put]) (D 3 (G - (i+m)) (c - i)) ?_)
  go_wp2
  go_ret
  exact⟨rfl,rfl⟩
 all_goals
  try have l:¬((m:Int)=0):=O
  go_enter Tryz.func285,Tryz.ntmps285
  go_wp2_with (at_builtin;refine Lib.wpList_append_run _ rfl _ _ _ _ rfl _ _ rfl rfl _ _ (H _) ?_)
  all_goals go_ret
  all_goals exact⟨rfl,rfl⟩
def enters:Go.TQ.Enters Tryz.prog 285:=⟨Tryz.f285,Tryz.func285,d_,d_⟩
end JP
end Go.Proofs.YtppbofaglpdghaaGreat
namespace Go.Proofs.YtppbofaglpdghaaGreat
open Go.RowKit Go.TQ Go.Lib
namespace JO
set_option maxHeartbeats 8000000 in
set_option maxRecDepth 100000 in
def ways:Fo Tryz.prog 338 108 52 3 4 372 7 120:=by
 have zE:∀w:Wo,(Go.sizeOf 52).run Tryz.prog w= .ok 7 w:=λ_=>d_
 have uS:=Qo Tryz.underlying108;have p:Tryz.prog.follows .mixedOrders=true:=d_;refine⟨s_,Tryz.underlying108,Tryz.underlying3,Aa d_,λx w h=> ?_,λg n c i hi I b u j w=> ?_,λu j w=> ?_,λg n c I b ad m j z w w1 Q H=> ?_,λad m j z w w1 Q H=> ?_,λg n c i hi b ad m j z d ⟨l,q,t,B,v,o,hb4,A⟩ hb2 w w1 w2 y h1 D=> ?_,λg n c i hi I b ad m j z d N G hGn M ⟨l,q,t,B,v,_,X,o⟩ V hGi J w w1 w2 w3 W h1 D=> ?_⟩
 .rw[qaW Tryz.func372 d_ d_ d_ (e:=Extern.SlicesOverlaps.overlaps #[108,108] #[4]) d_,h];rfl
 rotate_left 4
 .go_enter Tryz.func338,Tryz.ntmps338
  go_wp2_with (simp only[y])
  go_region_law_o (refine step_copy_runI rfl _ _ 108 108 rfl _ _ (by simp[Act.eval,Act.put]) (by simp[Act.eval,Act.put]) (h1 _ _ _) ?_)
  go_wp2_with (at_builtin;refine wpList_copy_runI _ rfl _ _ 108 108 rfl _ _ rfl rfl (D _ _) ?_)
  go_ret
  exact⟨rfl,rfl⟩
 .have A:=o
  go_enter Tryz.func338,Tryz.ntmps338
  go_wp2_with (first
   |(at_builtin;refine Lib.wpList_append_run _ rfl _ _ _ _ rfl _ _ rfl rfl _ _ (W _) ?_)
   |(at_builtin;refine wpList_copy_runI _ rfl _ _ 108 108 rfl _ _ rfl rfl (h1 _ _) ?_))
  go_region_law_o (refine step_copy_runI rfl _ _ 108 108 rfl (.slice (some ⟨N,(i+m)*7,none⟩) (n+m - (i+m)) (G - (i+m))) (.slice (some ⟨g,i*7,none⟩) (n - i) (c - i)) (by simp[Act.eval,Act.put]) (by simp[Act.eval,Act.put]) (D 3 (G - (i+m)) (c - i)) ?_)
  go_wp2
  go_ret
  exact⟨rfl,rfl⟩
 all_goals
  try have l:¬((m:Int)=0):=O
  go_enter Tryz.func338,Tryz.ntmps338
  go_wp2_with (at_builtin;refine Lib.wpList_append_run _ rfl _ _ _ _ rfl _ _ rfl rfl _ _ (H _) ?_)
  all_goals go_ret
  all_goals exact⟨rfl,rfl⟩
def enters:Go.TQ.Enters Tryz.prog 338:=⟨Tryz.f338,Tryz.func338,d_,d_⟩
end JO
end Go.Proofs.YtppbofaglpdghaaGreat
namespace Go.Proofs.YtppbofaglpdghaaGreat
open Go.RowKit Go.TQ Go.Lib
namespace JN
set_option maxHeartbeats 8000000 in
set_option maxRecDepth 100000 in
def ways:Fo Tryz.prog 378 111 48 3 4 415 15 176:=by
 have zE:∀w:Wo,(Go.sizeOf 48).run Tryz.prog w= .ok 15 w:=λ_=>d_
 have uS:=Qo Tryz.underlying111;have p:Tryz.prog.follows .mixedOrders=true:=d_;refine⟨s_,Tryz.underlying111,Tryz.underlying3,Aa d_,λx w h=> ?_,λg n c i hi I b u j w=> ?_,λu j w=> ?_,λg n c I b ad m j z w w1 Q H=> ?_,λad m j z w w1 Q H=> ?_,λg n c i hi b ad m j z d ⟨l,q,t,B,v,o,hb4,A⟩ hb2 w w1 w2 y h1 D=> ?_,λg n c i hi I b ad m j z d N G hGn M ⟨l,q,t,B,v,_,X,o⟩ V hGi J w w1 w2 w3 W h1 D=> ?_⟩
 .rw[qaW Tryz.func415 d_ d_ d_ (e:=Extern.SlicesOverlaps.overlaps #[111,111] #[4]) d_,h];rfl
 rotate_left 4
 .go_enter Tryz.func378,Tryz.ntmps378
  go_wp2_with (simp only[y])
  go_region_law_o (refine step_copy_runI rfl _ _ 111 111 rfl _ _ (by simp[Act.eval,Act.put]) (by simp[Act.eval,Act.put]) (h1 _ _ _) ?_)
  go_wp2_with (at_builtin;refine wpList_copy_runI _ rfl _ _ 111 111 rfl _ _ rfl rfl (D _ _) ?_)
  go_ret
  exact⟨rfl,rfl⟩
 .have A:=o
  go_enter Tryz.func378,Tryz.ntmps378
  go_wp2_with (first
   |(at_builtin;refine Lib.wpList_append_run _ rfl _ _ _ _ rfl _ _ rfl rfl _ _ (W _) ?_)
   |(at_builtin;refine wpList_copy_runI _ rfl _ _ 111 111 rfl _ _ rfl rfl (h1 _ _) ?_))
  go_region_law_o (refine step_copy_runI rfl _ _ 111 111 rfl (.slice (some ⟨N,(i+m)*15,none⟩) (n+m - (i+m)) (G - (i+m))) (.slice (some ⟨g,i*15,none⟩) (n - i) (c - i)) (by simp[Act.eval,Act.put]) (by simp[Act.eval,Act.put]) (D 3 (G - (i+m)) (c - i)) ?_)
  go_wp2
  go_ret
  exact⟨rfl,rfl⟩
 all_goals
  try have l:¬((m:Int)=0):=O
  go_enter Tryz.func378,Tryz.ntmps378
  go_wp2_with (at_builtin;refine Lib.wpList_append_run _ rfl _ _ _ _ rfl _ _ rfl rfl _ _ (H _) ?_)
  all_goals go_ret
  all_goals exact⟨rfl,rfl⟩
def enters:Go.TQ.Enters Tryz.prog 378:=⟨Tryz.f378,Tryz.func378,d_,d_⟩
end JN
end Go.Proofs.YtppbofaglpdghaaGreat
namespace Go.Proofs.YtppbofaglpdghaaGreat
open Go.RowKit Go.TQ Go.Lib
namespace JM
set_option maxHeartbeats 8000000 in
set_option maxRecDepth 100000 in
def ways:Fo Tryz.prog 444 50 9 3 4 478 1 16:=by
 have zE:∀w:Wo,(Go.sizeOf 9).run Tryz.prog w= .ok 1 w:=λ_=>d_
 have uS:=Qo Tryz.underlying50;have t:Tryz.prog.follows .mixedOrders=true:=d_;refine⟨s_,Tryz.underlying50,Tryz.underlying3,Aa d_,λx w h=> ?_,λg n c i hi I b u j w=> ?_,λu j w=> ?_,λg n c I b ad m j A w w1 Q H=> ?_,λad m j A w w1 Q H=> ?_,λg n c i hi b ad m j A d ⟨l,v,y,D,z,p,hb4,B⟩ hb2 w w1 w2 o h1 q=> ?_,λg n c i hi I b ad m j A d N G hGn M ⟨l,v,y,D,z,_,X,p⟩ V hGi J w w1 w2 w3 W h1 q=> ?_⟩
 .rw[qaW Tryz.func478 d_ d_ d_ (e:=Extern.SlicesOverlaps.overlaps #[50,50] #[4]) d_,h];rfl
 rotate_left 4
 simp only[qba]at o h1 q
 .go_enter Tryz.func444,Tryz.ntmps444
  go_wp2_with (simp only[o])
  go_region_law_o (refine step_copy_runI rfl _ _ 50 50 rfl _ _ (by simp[Act.eval,Act.put]) (by simp[Act.eval,Act.put]) (h1 _ _ _) ?_)
  go_wp2_with (at_builtin;refine wpList_copy_runI _ rfl _ _ 50 50 rfl _ _ rfl rfl (q _ _) ?_)
  go_ret
  exact⟨rfl,rfl⟩
 simp only[qba]at h1 q
 .have B:=p
  go_enter Tryz.func444,Tryz.ntmps444
  go_wp2_with (first
   |(at_builtin;refine Lib.wpList_append_run _ rfl _ _ _ _ rfl _ _ rfl rfl _ _ (W _) ?_)
   |(at_builtin;refine wpList_copy_runI _ rfl _ _ 50 50 rfl _ _ rfl rfl (h1 _ _) ?_))
  go_region_law_o (refine step_copy_runI rfl _ _ 50 50 rfl (.slice (some ⟨N,i+m,none⟩) (n+m - (i+m)) (G - (i+m))) (.slice (some ⟨g,i,none⟩) (n - i) (c - i)) (by simp[Act.eval,Act.put]) (by simp[Act.eval,Act.put]) (q 3 (G - (i+m)) (c - i)) ?_)
  go_wp2
  go_ret
  exact⟨rfl,rfl⟩
 all_goals
  try have l:¬((m:Int)=0):=O
  go_enter Tryz.func444,Tryz.ntmps444
  go_wp2_with (at_builtin;refine Lib.wpList_append_run _ rfl _ _ _ _ rfl _ _ rfl rfl _ _ (H _) ?_)
  all_goals go_ret
  all_goals exact⟨rfl,rfl⟩
def enters:Go.TQ.Enters Tryz.prog 444:=⟨Tryz.f444,Tryz.func444,d_,d_⟩
end JM
end Go.Proofs.YtppbofaglpdghaaGreat
end
noncomputable section
namespace Go.TQ
section
open Go.Proofs Go.Sort Go.RowKit Go.Lib
def rI:PV->Bool
 | .int _ _| .str _| .bool _=>true
 |_=>false
def ku:PV->Va
 | .int k n=> .int k n
 | .str s=> .string s
 | .bool b=> .bool b
 |_=>undef
def Ce{w:Wo}{M:Nat->Prop}{G:Gh}{x:PV}(h:rI x=true):aJ w M G x (ku x):=by cases x<;>first|exact .int _ _|exact .str _|exact .bool _|exact absurd h (by simp[rI])
def NI{w:Wo}{M:Nat->Prop}{G:Gh}{x:PV}{v:Va}(h:rI x=true)(b:aJ w M G x v):v=ku x:=by cases x<;>first|(cases b;rfl)|exact absurd h (by simp[rI])
def Ii{x:PV}(h:rI x=true):(ku x).oneCell'=true:=by cases x<;>first|rfl|exact absurd h (by simp[rI])
def FP{w:Wo}{M:Nat->Prop}{G:Gh}:∀{xs:Z PV} {vs:Z Va},xs.all rI=true->aK w M G xs vs->vs=xs.map ku
 |[],vs,_,b=>b.lF
 |x::xs,vs,h,b=>by obtain⟨v,d,rfl,l,j⟩:=b.cons_inv;rw[QA,Qa]at h;rw[Qj,<-NI h.1 l,<-FP h.2 j]
def FO{w:Wo}{M:Nat->Prop}{G:Gh}:∀{xs:Z PV},xs.all rI=true->aK w M G xs (xs.map ku)
 |[],_=> .nil
 |x::xs,h=>by rw[QA,Qa]at h;exact .cons (Ce h.1) (FO h.2)
def Sp{w w':Wo}(h:Fr none w w'):∃q os,w'=grow (w.drewN q) os:=by
 refine⟨w'.drawn - w.drawn,w'.heap.extract w.heap.size w'.heap.size,?_⟩;have A:=h.size
 have l:w'.heap=w.heap++w'.heap.extract w.heap.size w'.heap.size:=by
  apply Array.ext_getElem?;intro k;rw[qaz];split
  .rename_i j;exact h.block k j t_
  .rename_i j;rw[Array.getElem?_extract];split
   .rw[show w.heap.size+(k - w.heap.size)=k by omega]
   .exact Array.getElem?_eq_none O
 have o:=h.os;have n:=h.tape;have m:=h.output;have y:=h.drawn rfl
 cases w' with|mk hp z p os out=>
 cases w with|mk v t b u d=>
 simp only at o n m y l;subst o n m;unfold grow World.drewN;simp only;rw[<-l,show b+(p - b)=p by omega]
def Jq{w:Wo}{b n:Nat}{F:Array Va}{os:Array Obj}{d:Array Va}{e:TI}{fr:Nat×Nat}(l:w.heap[b]?=some (.cells d e fr)):
  (grow (putRow id (Sort.ahead w n) b 0 F) os).heap[b]?=some (.cells (putCells id 0 F d) e fr):=by
 have j:b<w.heap.size:=(QG.1 l).1;unfold grow putRow mapBlock Sort.ahead;simp only;rw[qby (by simp;exact j),qbr,Qc rfl,l]
 rfl
def ND{w:Wo}{b n:Nat}{F:Array Va}{os:Array Obj}:Fr (some b) w (grow (putRow id (Sort.ahead w n) b 0 F) os):=by
 refine⟨rfl,rfl,rfl,?_,λq l j=> ?_,DL.of (qa0 _ _)⟩
 .unfold grow putRow mapBlock Sort.ahead;simp only[qbs,Array.size_modify];omega
 .have d:¬b=q:=λe=>j (by rw[e])
  unfold grow putRow mapBlock Sort.ahead;simp only;rw[qby (by simp;exact l),qbr,Qg d]
def Ig{F b:Array Va}(h:F.size<=b.size):(putCells id 0 F b).toList=F.toList++b.toList.drop F.size:=by
 apply List.ext_getElem?;intro i;rw[qaX];unfold putCells;rw[qbz,List.getElem?_append];simp only[Q0,Q7,qaJ,qai,Nat.sub_zero,id]
 by_cases hi:i<F.size
 .rw[Qc hi,qaX,qaa (show i<b.size by omega),qaa hi,Qn,Qc hi,qaB F i hi]
 .rw[Qg hi,List.getElem?_drop,qaX,show F.size+(i - F.size)=i by omega]
  cases b[i]? with
  |none=>rfl
  |some y=>rw[Qn,Qg hi]
def KQ(P:Pr)(f k:Nat):Prop:=∀(α:Type) [Inhabited α] (dD:α->Z Va) (_:∀x,(dD x).length=k) (_:∀x,∀v∈dD x,v.oneCell'=true) (cf:α->α->Int) (_:Go.Sort.SWO (ltOf cf)) (g:Nat) (l:Array Va) (bp b cap:Nat) (d:Array α) (w:Wo)
  (_:∀j w,(callFunc g j).run P w= .ok (.enter g j) w) (_:CmpLays P g l dD k cf bp b d.size w) (_:HoldsK dD k w bp b d) (_:bp<w.heap.size) (_:d.size<4611686018427387904) (_:∀x y,(ltOf cf) x y=false->(ltOf cf) y x=false->x=y),
  Calls P f #[.slice (some ⟨bp,b,none⟩) d.size cap,.func (.func g) #[] l] w λe w'=>e= .returned (.tuple #[])/\∃n os,w'=sortWorldK dD k w bp b n (d.toList.mergeSort λx y=> !(ltOf cf) y x).toArray os
def Hk(P:Pr)(f:Nat):Prop:=∀(α:Type) [Inhabited α] (dD:α->Va) (_:OneCell dD) (cf:α->α->Int) (_:Go.Sort.SWO (ltOf cf)) (g:Nat) (l:Array Va) (bp b cap:Nat) (d:Array α) (w:Wo)
  (_:∀j w,(callFunc g j).run P w= .ok (.enter g j) w) (_:CmpLays1 P g l dD cf bp b d.size w) (_:Holds dD w bp b d) (_:bp<w.heap.size) (_:d.size<4611686018427387904) (_:∀x y,(ltOf cf) x y=false->(ltOf cf) y x=false->x=y),
  Calls P f #[.slice (some ⟨bp,b,none⟩) d.size cap,.func (.func g) #[] l] w λe w'=>e= .returned (.tuple #[])/\∃n os,w'=sortWorld dD w bp b n (d.toList.mergeSort λx y=> !(ltOf cf) y x).toArray os
def C5(P:Pr)(f:Nat):Prop:=∀(p:Y Addr) (cap:Nat) (b:Va) (w:Wo),Calls P f #[.slice p 0 cap,b] w λe w'=>e= .returned (.tuple #[])/\w'=w
section
variable{P:Pr}{α:Type}{pv:α->Z PV}{k:Nat}
def j1(pv:α->Z PV)(x:α):Z Va:=(pv x).map ku
def KP(P:Pr)(f g e k:Nat)(pv:α->Z PV)(le:α->α->Bool):Prop:=
 ∀(w:Wo) (b cap:Nat) (xs:Z α) (j:Array Va),w.heap[b]?=some (.cells j e (0,0))->xs.length<4611686018427387904->xs.length<=cap->cap<=maxLen->j.size=cap*k->j.toList.take (xs.length*k)=xs.flatMap (j1 pv)->
  Calls P f #[.slice (some ⟨b,0,none⟩) xs.length cap,.func (.func g) #[] #[]] w λl w'=>l= .returned (.tuple #[])/\
   ∃d:Array Va,w'.heap[b]?=some (.cells d e (0,0))/\d.size=j.size/\d.toList.take (xs.length*k)=(xs.mergeSort le).flatMap (j1 pv)/\Fr (some b) w w'
def Iv(b:∀x,(pv x).length=k):∀xs:Z α,(xs.flatMap (j1 pv)).length=xs.length*k
 |[]=>t_
 |x::xs=>by rw[List.flatMap_cons,QY,Iv b xs,j1,Qv,b,QW,QJ,qax,qaq]
def Li{f g e:Nat}{le:α->α->Bool}(xs:Z α)(h0:C5 P f)(hs:xs≠[]->KP P f g e k pv le)(hk0:0<k)(hk:∀x,(pv x).length=k)(hp:∀x,(pv x).all rI=true)(W:xs.length<4611686018427387904):
  Nl P f e k (xs.map pv) [.aT g []] (.cg []) ((xs.mergeSort le).map pv):=by
 intro w X hX v vs hvX ⟨us,n,hke,hr⟩ j;obtain⟨a1,args,rfl,ha1,j⟩:=j.cons_inv;obtain rfl:=j.lF;obtain⟨cs,rfl,hcs⟩:=ha1.oQ;obtain rfl:=hcs.lF
 have o:∀l:Z α,(l.map pv).flatten.map ku=l.flatMap (j1 pv):=λl=>by
  induction l with
  |nil=>rfl
  |cons x l N=>rw[Qj,List.flatten_cons,List.map_append,N,List.flatMap_cons];rfl
 have m:∀l:Z α,(l.map pv).flatten.all rI=true:=λl=>by
  induction l with
  |nil=>rfl
  |cons x l N=>rw[Qj,List.flatten_cons,List.all_append,N,hp x];rfl
 have A:us=xs.flatMap (j1 pv):=by rw[FP (m xs) hr,o]
 have D:(xs.mergeSort le).length=xs.length:=List.length_mergeSort xs
 have H:∀l:Z α,∀u∈l.map pv,u.length=k:=λl u hu=>by obtain⟨x,_,rfl⟩:=Qq.1 hu;exact hk x
 have G:(xs.map pv).length=xs.length:=Qv ..;have d:((xs.mergeSort le).map pv).length=xs.length:=by rw[Qv,D]
 rw[G]at n
 have q:∀w':Wo,aK w' (Mv v X) cn ((xs.mergeSort le).map pv).flatten ((xs.mergeSort le).flatMap (j1 pv)):=λw'=>by rw[<-o];exact FO (m _)
 by_cases Q:xs=[]
 .
  subst Q
  have V:∃p cap,v= .slice p 0 cap:=by
   rcases n.2 with⟨h1,_⟩|⟨b,cap,M,h1,_⟩
   .exact⟨none,0,h1⟩
   .exact⟨_,cap,h1⟩
  obtain⟨p,cap,V⟩:=V;have:=h0 p cap (.func (.func g) #[] [].toArray) w;rw[<-V]at this;refine this.mono λen w' ⟨h1,I⟩=> ?_
  subst I;refine⟨_,h1,.cg _ [] rfl (λi x v h=>by simp at h),⟨us,?_,H _,?_⟩,Fr.refl _ _⟩
  .rw[d];exact n
  .rw[A];have:=q w';rw[show([]:Z α).mergeSort le=[]from t_]at this ⊢
   exact this
 .rcases n.2 with⟨_,I⟩|⟨b,cap,M,rfl,z,hb,hn,t,B,y⟩
  .exact absurd (qah I) Q
  .refine(hs Q w b cap xs M hb W hn t B (by rw[y,A])).mono λen w' ⟨h1,J,I,h3,h4,h5⟩=> ?_
   refine⟨_,h1,.cg _ [] rfl (λi x v h=>by simp at h),⟨(xs.mergeSort le).flatMap (j1 pv),⟨?_,.inr ⟨b,cap,J,by rw[d],z,I,by rw[d];exact hn,t,by rw[h3];exact B,?_⟩⟩,H _,q w'⟩,h5⟩
   .rw[Iv hk,D,d]
   .rw[d];exact h4
variable[Inhabited α]
def Er{dD:α->Z Va}(d:∀x,(dD x).length=k)(b:0<k):∀(l:Z α) (t:Nat),t<l.length*k->(l.flatMap dD)[t]?=(dD l[t / k]!)[t % k]?
 |[],t,h=>by simp at h
 |x::l,t,h=>by
  rw[List.flatMap_cons]
  by_cases j:t<k
  .rw[List.getElem?_append_left (by rw[d];exact j),Nat.div_eq_of_lt j,Nat.mod_eq_of_lt j]
   rfl
  .rw[List.getElem?_append_right (by rw[d];omega),d]
   have m:t - k<l.length*k:=by rw[QW,QJ,qax]at h;omega
   rw[Er d b l (t - k) m,Nat.mod_eq_sub_mod (O:t>=k),show t / k=(t - k) / k+1 from Nat.div_eq_sub_div b O]
   simp
def Mw{dD:α->Z Va}(d:∀x,(dD x).length=k)(b:0<k)(l:Z α):(flatK dD k l.toArray).toList=l.flatMap dD:=by
 have n:(l.flatMap dD).length=l.length*k:=by
  induction l with
  |nil=>simp
  |cons x l o=>rw[List.flatMap_cons,QY,o,d,QW,QJ,qax,qaq]
 apply List.ext_getElem?;intro t
 by_cases j:t<l.length*k
 .rw[Er d b l t j];have m:t % k<(dD l[t / k]!).length:=by rw[d];exact Nat.mod_lt _ b
  rw[Qt m];unfold flatK;simp only[qaG,Array.toList_range,Qr,List.size_toArray];rw[List.getElem?_range j];simp only[Qn];congr 1;rw[show(l.toArray)[t / k]! =l[t / k]! by simp]
  exact qaB (dD l[t / k]!) (t % k) m
 .rw[qaO (by rw[Q0,size_flatK,List.size_toArray];omega),qaO O]
def Pl(P:Pr)(g:Nat)(val:α->Va)(cf:α->α->Int):Prop:=∀(x y:α) (w:Wo),Calls P g #[val x,val y] w λe w'=>e= .returned (.int .i64 (cf x y))/\∃q os,w'=grow (w.drewN q) os
def Gp{w:Wo}{b e cap:Nat}{xs:Z α}{d:Array Va}{F:Array Va}(m:w.heap[b]?=some (.cells d e (0,0)))(hF:F.toList=d.toList.take F.size):Holds id w b 0 F:=by
 intro j l
 have o:d[j]?=some F[j]:=by
  have n:F.toList[j]?=some F[j]:=by rw[qaX];exact qaa l
  rw[hF,qat,Qc l,qaX]at n;exact n
 rw[qaB F j l];refine⟨?_,?_⟩
 .unfold World.cell?;simp only[qai,m];simpa using o
 .unfold World.frozen?;simp only[m];simp
def WL{f g e:Nat}{cf:α->α->Int}(hS:KQ P f k)(B:0<k)(V:∀x,(pv x).length=k)(hp:∀x,(pv x).all rI=true)(hO:Go.Sort.SWO (ltOf cf))(X:∀x y,(ltOf cf) x y=false->(ltOf cf) y x=false->x=y)
  (eg:∀j w,(callFunc g j).run P w= .ok (.enter g j) w) (W:Pl P g (λx=> .agg (j1 pv x).toArray) cf):KP P f g e k pv λx y=> !(ltOf cf) y x:=by
 intro w b cap xs I G u Q J t o;have A:b<w.heap.size:=(QG.1 G).1;have p:∀x,(j1 pv x).length=k:=λx=>by rw[j1,Qv,V]
 have d:∀l:Z α,(flatK (j1 pv) k l.toArray).toList=l.flatMap (j1 pv):=Mw p B;have D:CmpLays P g #[] (j1 pv) k cf b 0 xs.toArray.size w:=λm os dk _ x y=>W x y _
 have hH:HoldsK (j1 pv) k w b 0 xs.toArray:=Gp (xs:=xs) (cap:=cap) G (by rw[d,size_flatK,List.size_toArray];exact o.symm)
 have:=hS α (j1 pv) p (λx v N=>by obtain⟨y,M,rfl⟩:=Qq.1 N;exact Ii (Qe.1 (hp x) y M)) cf hO g #[] b 0 cap xs.toArray w eg D hH A (by rw[List.size_toArray];exact u) X
 refine this.mono λen w' ⟨h1,n,os,h2⟩=>⟨h1,?_⟩
 have z:(xs.mergeSort λx y=> !(ltOf cf) y x).length=xs.length:=List.length_mergeSort xs
 have q:(flatK (j1 pv) k (xs.mergeSort λx y=> !(ltOf cf) y x).toArray).size=xs.length*k:=by rw[size_flatK,List.size_toArray,z]
 have H:(flatK (j1 pv) k (xs.mergeSort λx y=> !(ltOf cf) y x).toArray).size<=I.size:=by rw[q,t];exact QT k Q
 subst h2;refine⟨_,Jq G,by unfold putCells;rw[Array.size_mapIdx],?_,ND⟩
 rw[Ig H,<-q,<-Q0,List.take_left,d]
def WM{f g e:Nat}{cf:α->α->Int}{p1:α->PV}(hS:Hk P f)(hp:∀x,rI (p1 x)=true)(hO:Go.Sort.SWO (ltOf cf))(hT:∀x y,(ltOf cf) x y=false->(ltOf cf) y x=false->x=y)
  (eg:∀p w,(callFunc g p).run P w= .ok (.enter g p) w) (hc:Pl P g (λx=>ku (p1 x)) cf):KP P f g e 1 (λx=>[p1 x]) λx y=> !(ltOf cf) y x:=by
 intro w b cap xs N I A X Q z q;have D:b<w.heap.size:=(QG.1 I).1
 have o:∀l:Z α,(l.toArray.map λx=>ku (p1 x)).toList=l.flatMap (j1 λx=>[p1 x]):=λl=>by
  induction l with
  |nil=>simp
  |cons x l V=>rw[List.flatMap_cons,<-V];simp[j1]
 have H:CmpLays1 P g #[] (λx=>ku (p1 x)) cf b 0 xs.toArray.size w:=λm os dk _ x y=>hc x y _
 have hF:=Gp (xs:=xs) (cap:=cap) (F:=xs.toArray.map λx=>ku (p1 x)) I (by rw[o,qaL,List.size_toArray,<-qba xs.length];exact q.symm)
 have hH:Holds (λx=>ku (p1 x)) w b 0 xs.toArray:=by
  intro j G;have v:=hF j (by rw[qaL];exact G)
  rw[qaB _ j (by rw[qaL];exact G),Array.getElem_map]at v
  rw[qaB _ j G];exact v
 have:=hS α (λx=>ku (p1 x)) (λx=>Ii (hp x)) cf hO g #[] b 0 cap xs.toArray w eg H hH D (by rw[List.size_toArray];exact A) hT
 refine this.mono λen w' ⟨v,n,os,M⟩=>⟨v,?_⟩
 have B:(xs.mergeSort λx y=> !(ltOf cf) y x).length=xs.length:=List.length_mergeSort xs
 have t:∀(W:Wo) (d:Array α),putRow (λx=>ku (p1 x)) W b 0 d=putRow id W b 0 (d.map λx=>ku (p1 x)):=λW d=>by
  unfold putRow;congr 1
  funext c
  unfold putCells;apply Array.ext_getElem?;intro i;simp only[qbz,qaL,Q7,qaJ,qai,Nat.sub_zero,id]
  cases c[i]? with
  |none=>rfl
  |some y=>
   simp only[Qn]
   by_cases hi:i<d.size
   .rw[Qc hi,Qc hi,qaB d i hi,qaB _ i (by rw[qaL];exact hi),Array.getElem_map]
   .rw[Qg hi,Qg hi]
 unfold sortWorld at M;rw[t]at M;have u:((xs.mergeSort λx y=> !(ltOf cf) y x).toArray.map λx=>ku (p1 x)).size=xs.length*1:=by rw[qaL,List.size_toArray,B,qba]
 have J:((xs.mergeSort λx y=> !(ltOf cf) y x).toArray.map λx=>ku (p1 x)).size<=N.size:=by rw[u,z];exact QT 1 X
 subst M;refine⟨_,Jq I,by unfold putCells;rw[Array.size_mapIdx],?_,ND⟩
 rw[Ig J,<-u,<-Q0,List.take_left,o]
end
def LI{P:Pr}{g:Nat}{α:Type}{va:α->PV}{val:α->Va}{cf:α->α->Int}(b:∀(x:α) (w:Wo) (M:Nat->Prop),aJ w M cn (va x) (val x))(h:∀x y,RT P g false [] [va x,va y] (.int .i64 (cf x y)) [])(l:Ms=[]:=by rfl):Pl P g val cf:=by
 intro x y w;have m:GI w:=λq d=>by rw[l]at d;cases d
 have:=h x y w (λ_=>False) (.nil m) 0 0 [] [val x,val y] (λe=>by cases e) (.cons (b x w _) (.cons (b y w _) .nil))
 refine this.mono λp w' ⟨v,j,h1,o,_,n⟩=> ?_
 rw[o.dE]at h1;exact⟨h1,Sp n⟩
end
section
open Go.Proofs Go.Sort
def c5{α:Type}(c:α->α->Y Int)(x y:α):Int:=(c x y).getD 0
structure RQ {α:Type} (c:α->α->Option Int):Prop where
 some:∀x y,c x y=some (c5 c x y)
 ord:Go.Sort.SWO (ltOf (c5 c))
 Lf:∀x y,ltOf (c5 c) x y=false->ltOf (c5 c) y x=false->x=y
def HL{α:Type}(lt:α->α->Bool)(x:α):Z α->Z α
 |[]=>[x]
 |y::l=>bif lt y x then y::HL lt x l else x::y::l
def Ez{α:Type}(lt:α->α->Bool):Z α->Z α
 |[]=>[]
 |x::l=>HL lt x (Ez lt l)
def LU{α:Type}[DecidableEq α](c:α->α->Y Int):Z α->Bool
 |[]=>true
 |x::l=>(c x x).isSome&& !ltOf (c5 c) x x&&l.all (λy=>(c x y).isSome&&(c y x).isSome&&bif ltOf (c5 c) x y then !ltOf (c5 c) y x else decide (x=y))&&LU c l
def LV{α:Type}[DecidableEq α](c:α->α->Y Int)(s:Z α):Bool:=LU c (Ez (ltOf (c5 c)) s)
def yP{α:Type}[DecidableEq α](c:α->α->Y Int)(s:Z α):Y (Unit×Z α):=bif LV c s&&decide (s.length<4611686018427387904)then some ((),Ez (ltOf (c5 c)) s)else none
def CE{α:Type}{lt:α->α->Bool}{x:α}:∀{l:Z α},(HL lt x l).Perm (x::l)
 |[]=> .refl _
 |y::l=>by
  rw[HL]
  cases lt y x with
  |true=>exact(List.Perm.cons y CE).trans (List.Perm.swap x y l)
  |false=>exact .refl _
def uk{α:Type}{lt:α->α->Bool}:∀{l:Z α},(Ez lt l).Perm l
 |[]=> .refl _
 |x::l=>CE.trans (List.Perm.cons x uk)
structure I9 {α:Type} (c:α->α->Option Int) (s:List α):Prop where
 some:∀x∈s,∀y∈s,(c x y).isSome=true
 PI:∀x∈s,ltOf (c5 c) x x=false
 Lf:∀x∈s,∀y∈s,ltOf (c5 c) x y=false->ltOf (c5 c) y x=false->x=y
 tr:∀x∈s,∀y∈s,∀z∈s,ltOf (c5 c) x y=true->ltOf (c5 c) y z=true->ltOf (c5 c) x z=true
def Lj{α:Type}[DecidableEq α]{c:α->α->Y Int}:∀{l:Z α},LU c l=true->I9 c l
 |[],_=>⟨λ_ h=>(by cases h),λ_ h=>(by cases h),λ_ h=>(by cases h),λ_ h=>(by cases h)⟩
 |x::l,h=>by
  simp only[LU,Qa,Qe,QQ]at h;obtain⟨⟨⟨h1,D⟩,t⟩,B⟩:=h;have p:=Lj B
  have J:∀y∈l,(ltOf (c5 c) x y=true/\ltOf (c5 c) y x=false)\/x=y:=λy v=>by
   have:=(t y v).2
   cases u:ltOf (c5 c) x y with
   |true=>rw[u]at this;exact .inl ⟨rfl,by simpa using this⟩
   |false=>rw[u]at this;exact .inr (by simpa using this)
  refine⟨λa n b o=> ?_,λa n=> ?_,λa n b o=> ?_,λa n b o d A=> ?_⟩
  .rcases Qm.1 n with e|j
   .rcases Qm.1 o with q|m
    .rw[e,q];exact h1
    .rw[e];exact(t b m).1.1
   .rcases Qm.1 o with q|m
    .rw[q];exact(t a j).1.2
    .exact p.some a j b m
  .rcases Qm.1 n with e|j
   .rw[e];exact D
   .exact p.PI a j
  .have:=p.Lf a;rcases Qm.1 n with e|j<;>rcases Qm.1 o with q|m<;>grind
  .have I:=p.tr a;have H:=p.PI;rcases Qm.1 n with e|j<;>rcases Qm.1 o with q|m<;>rcases Qm.1 A with G|z<;>grind
section
variable{α:Type}{c:α->α->Y Int}{s:Z α}(h:I9 c s)
 include h
theorem H8{x y:α}(d:x∈s)(b:y∈s):c x y=some (c5 c x y):=by obtain⟨n,j⟩:=Option.isSome_iff_exists.1 (h.some x d y b);rw[c5,j];rfl
theorem AB:Go.Sort.SWO (α:={x // x∈s}) λx y=>ltOf (c5 c) x.1 y.1:=by
 refine⟨λx=>h.PI x.1 x.2,λx y z d b=>h.tr _ x.2 _ y.2 _ z.2 d b,λx y z d b=> ?_⟩
 cases l:ltOf (c5 c) x.1 z.1 with
 |false=>rfl
 |true=>
  have n:=h.tr _ y.2 _ x.2 _ z.2;have m:=h.Lf _ x.2 _ y.2 d
  cases j:ltOf (c5 c) y.1 x.1 with
  |true=>rw[n j l]at b;cases b
  |false=>rw[<-m j,l]at b;cases b
theorem EA{x y:α}(d:x∈s)(b:y∈s)(l:ltOf (c5 c) x y=false)(j:ltOf (c5 c) y x=false):x=y:=h.Lf x d y b l j
theorem H9{x:α}(o:x∈s):∀{l:Z α},(∀y∈l,y∈s)->l.Pairwise (λa b=>(!ltOf (c5 c) b a)=true)->(HL (ltOf (c5 c)) x l).Pairwise λa b=>(!ltOf (c5 c) b a)=true
 |[],_,_=>List.pairwise_singleton _ _
 |y::l,q,hp=>by
  have p:=AB h;have m:=q y Qx;rw[qab]at hp;rw[HL]
  cases j:ltOf (c5 c) y x with
  |true=>
   refine qab.2 ⟨λz d=> ?_,H9 o (λz d=>q z (Qz _ d)) hp.2⟩
   rcases Qm.1 (CE.mem_iff.1 d)with rfl|d
   .cases n:ltOf (c5 c) z y with
    |false=>rfl
    |true=>have:=p.trans ⟨y,m⟩ ⟨z,o⟩ ⟨y,m⟩ j n;rw[p.irrefl ⟨y,m⟩]at this;cases this
   .exact hp.1 z d
  |false=>
   refine qab.2 ⟨λz d=> ?_,qab.2 hp⟩
   rcases Qm.1 d with rfl|d
   .rw[j];rfl
   .have t:=hp.1 z d;have:=p.ntrans ⟨z,q z (Qz _ d)⟩ ⟨y,m⟩ ⟨x,o⟩ (by simpa using t) j
    rw[show ltOf (c5 c) z x=false from this];rfl
theorem H7:∀{l:Z α},(∀y∈l,y∈s)->(Ez (ltOf (c5 c)) l).Pairwise λa b=>(!ltOf (c5 c) b a)=true
 |[],_=> .nil
 |x::l,j=>H9 h (j x Qx) (λy d=>j y (Qz _ (uk.mem_iff.1 d))) (H7 λy d=>j y (Qz _ d))
theorem FA:(s.attach.mergeSort λx y=> !ltOf (c5 c) y.1 x.1).map Subtype.val=Ez (ltOf (c5 c)) s:=by
 have m:=AB h;refine List.Perm.eq_of_pairwise (le:=λa b=>(!ltOf (c5 c) b a)=true) (λa b o n l j=> ?_) ?_ (H7 h λ_ h=>h) ?_
 .obtain⟨a',_,rfl⟩:=Qq.1 o;exact EA h a'.2 (uk.mem_iff.1 n) (by simpa using j) (by simpa using l)
 .refine List.pairwise_map.2 (List.pairwise_mergeSort (le:=λx y:{x // x∈s}=> !ltOf (c5 c) y.1 x.1) (λa b d l j=> ?_) (λa b=> ?_) _)
  .have:=m.ntrans d b a (by simpa using j) (by simpa using l)
   rw[show ltOf (c5 c) d.1 a.1=false from this];rfl
  .cases l:ltOf (c5 c) b.1 a.1 with
   |false=>rfl
   |true=>cases j:ltOf (c5 c) a.1 b.1 with
    |false=>rfl
    |true=>have:=m.trans a b a j l;rw[m.irrefl a]at this;cases this
 .have:=(List.mergeSort_perm s.attach λx y=> !ltOf (c5 c) y.1 x.1).map Subtype.val
  rw[List.attach_map_subtype_val]at this;exact this.trans uk.symm
end
def Ll{α:Type}[DecidableEq α]{c:α->α->Y Int}{s:Z α}(h:LV c s=true):I9 c s:=
 have k:=Lj h;have m:∀{x:α},x∈s->x∈Ez (ltOf (c5 c)) s:=λb=>uk.mem_iff.2 b
 ⟨λx b y d=>k.some x (m b) y (m d),λx b=>k.PI x (m b),λx b y d=>k.Lf x (m b) y (m d),λx b y d z j=>k.tr x (m b) y (m d) z (m j)⟩
def RQ.on{α:Type}{c:α->α->Y Int}(h:RQ c)(s:Z α):I9 c s:=
 ⟨λx _ y _=>by rw[h.some x y];rfl,λx _=>h.ord.irrefl x,λx _ y _=>h.Lf x y,λx _ y _ z _=>h.ord.trans x y z⟩
section
variable{P:Pr}{f g e k:Nat}{T:Ty}{inst:DecidableEq T.den}{F:T.den×T.den×Unit->Y Int}(hent:Enters P f)(h0:C5 P f)(hgs:bQ.Sound P (U:=U) (.fn g [.ty T,.ty T] (.one (Ty.i .i64)) F))(hp:∀x:T.den,(T.pv x).all rI=true)
 include hent h0 hgs hp
theorem Ve(hS:KQ P f k)(l:0<k)(q:∀x:T.den,(T.pv x).length=k)(p:∀x:T.den,cQ (U:=U) T x= .agg (T.pv x)):
  bQ.Sound P (U:=U) (.rw f e k T [.aT g []] (.many []) λs a=>yP (λx y=>F (x,y,())) s):=by
 refine⟨hent,λxs a r t h=> ?_⟩
 have h:yP (λx y=>F (x,y,())) xs=some (r,t):=h
 unfold yP at h
 cases b:LV (λx y=>F (x,y,())) xs&&decide (xs.length<4611686018427387904)with
 |false=>rw[b]at h;cases h
 |true=>
  rw[b,qas]at h;rw[Qa,QB]at b;have b:=And.intro (Ll b.1) b.2;injection h with h
  injection h with _ d
  subst d
  have j:=Li (P:=P) (α:={x // x∈xs}) (pv:=λx=>T.pv x.1) (f:=f) (g:=g) (e:=e) (le:=λx y=> !ltOf (c5 λx y=>F (x,y,())) y.1 x.1) xs.attach h0 (λo=>by
   have hi:Inhabited {x // x∈xs}:=by
    cases u:xs.attach with
    |nil=>exact absurd u o
    |cons x _=>exact⟨x⟩
   refine WL (cf:=λx y:{x // x∈xs}=>c5 (λx y=>F (x,y,())) x.1 y.1) hS l (λx=>q x.1) (λx=>hp x.1) (AB b.1) (λx y n d=>Subtype.ext (EA b.1 x.2 y.2 n d)) (λm w=>hY hgs.1 m) ?_
   refine LI (va:=λx=> .agg (T.pv x.1)) (λx w M=> .agg _ _ (by rw[j1,Qv]) λi y v n d=> ?_) λx y=> ?_
   .rw[j1,Qr,n]at d;injection d with d
    rw[<-d];exact Ce (Qe.1 (hp x.1) y (QD n))
   .have:=hgs.2 (x.1,y.1,()) _ (H8 b.1 x.2 y.2);rw[show ec (U:=U) [.ty T,.ty T] (x.1,y.1,())=[.agg (T.pv x.1),.agg (T.pv y.1)]by rw[<-p x.1,<-p y.1];rfl]at this
    exact this) l (λx=>q x.1) (λx=>hp x.1) (by rw[List.length_attach];exact b.2)
  rw[List.attach_map_val]at j;rw[show((xs.attach.mergeSort λx y=> !ltOf (c5 λx y=>F (x,y,())) y.1 x.1).map λx=>T.pv x.1)=((xs.attach.mergeSort λx y=> !ltOf (c5 λx y=>F (x,y,())) y.1 x.1).map Subtype.val).map (λx=>T.pv x)by rw[List.map_map];rfl,FA b.1]at j
  exact j
theorem LS(hS:Hk P f)(p:∀x:T.den,T.pv x=[cQ (U:=U) T x]):
  bQ.Sound P (U:=U) (.rw f e 1 T [.aT g []] (.many []) λs a=>yP (λx y=>F (x,y,())) s):=by
 refine⟨hent,λxs a r q h=> ?_⟩
 have h:yP (λx y=>F (x,y,())) xs=some (r,q):=h
 unfold yP at h
 cases b:LV (λx y=>F (x,y,())) xs&&decide (xs.length<4611686018427387904)with
 |false=>rw[b]at h;cases h
 |true=>
  rw[b,qas]at h;rw[Qa,QB]at b;have b:=And.intro (Ll b.1) b.2;injection h with h
  injection h with _ o
  subst o;have j:∀x:T.den,rI (cQ (U:=U) T x)=true:=λx=>by have:=hp x;rw[p x]at this;simpa using this
  have d:=Li (P:=P) (α:={x // x∈xs}) (pv:=λx=>[cQ (U:=U) T x.1]) (k:=1) (f:=f) (g:=g) (e:=e) (le:=λx y=> !ltOf (c5 λx y=>F (x,y,())) y.1 x.1) xs.attach h0 (λn=>by
   have hi:Inhabited {x // x∈xs}:=by
    cases t:xs.attach with
    |nil=>exact absurd t n
    |cons x _=>exact⟨x⟩
   exact WM (p1:=λx:{x // x∈xs}=>cQ (U:=U) T x.1) (cf:=λx y:{x // x∈xs}=>c5 (λx y=>F (x,y,())) x.1 y.1) hS (λx=>j x.1) (AB b.1) (λx y u o=>Subtype.ext (EA b.1 x.2 y.2 u o)) (λl w=>hY hgs.1 l) (LI (va:=λx=>cQ (U:=U) T x.1) (λx w M=>Ce (j x.1)) λx y=>(show RT P g false [] [cQ (U:=U) T x.1,cQ (U:=U) T y.1] (.int .i64 _) []from hgs.2 (x.1,y.1,()) _ (H8 b.1 x.2 y.2)))) (Nat.zero_lt_one) (λx=>rfl) (λx=>by simpa using j x.1) (by rw[List.length_attach];exact b.2)
  have m:(λx:T.den=>T.pv x)=λx=>[cQ (U:=U) T x]:=funext p
  rw[List.attach_map_val (f:=λx=>[cQ (U:=U) T x])]at d
  rw[show((xs.attach.mergeSort λx y=> !ltOf (c5 λx y=>F (x,y,())) y.1 x.1).map λx=>[cQ (U:=U) T x.1])=((xs.attach.mergeSort λx y=> !ltOf (c5 λx y=>F (x,y,())) y.1 x.1).map Subtype.val).map (λx=>[cQ (U:=U) T x])by rw[List.map_map];rfl,FA b.1,<-m]at d
  exact d
end
end
end Go.TQ
end
noncomputable section
namespace Go.Proofs
open Go.Shelf
def TP{P:Pr}{f:FI}{fn:Func}(h:(((P.funcs[f]?).map Func.name).getD ""== "runtime.NumGoroutine")=false)(b:P.funcs[f]?=some {fn with name:=((P.funcs[f]?).map Func.name).getD ""}):Bears P f fn:=⟨_,h,b⟩
def Ao:Go.Shelf.Ren:=⟨λ|6=>472|15=>503|14=>502|28=>540|29=>541|20=>532|21=>533|22=>534|23=>535|24=>536|25=>537|26=>538|27=>539|46=>560|47=>561|48=>562|49=>563|50=>564|57=>575|n=>n,λ|22=>50|24=>9|25=>285|3=>3|39=>26|0=>0|53=>388|55=>409|4=>4|46=>418|45=>417|50=>165|5=>5|9=>9|66=>434|70=>438|76=>445|77=>319|n=>n,λ|n=>n⟩
set_option maxRecDepth 100000 in
def Hj:Go.Proofs.SlLaysF.n6 Tryz.prog Ao:=by
 constructor
 all_goals first
  |kernel_rfl
  |exact λ_=>d_
  |exact TP d_ d_
def H3:Go.Shelf.Ren:=⟨λ|6=>565|15=>503|14=>576|28=>540|29=>541|20=>578|21=>579|22=>580|23=>581|24=>582|25=>583|26=>584|27=>585|46=>594|47=>561|48=>562|49=>595|50=>596|57=>600|n=>n,λ|22=>297|24=>46|25=>330|3=>3|39=>26|0=>0|53=>388|55=>409|4=>4|46=>418|45=>417|50=>165|5=>5|9=>9|66=>434|70=>438|76=>445|77=>319|n=>n,λ|n=>n⟩
set_option maxRecDepth 100000 in
def Hi:Go.Proofs.SlLaysF0.n6 Tryz.prog H3:=by
 constructor
 all_goals first
  |kernel_rfl
  |exact λ_=>d_
  |exact TP d_ d_
def An:Go.Shelf.Ren:=⟨λ|6=>569|15=>503|14=>577|28=>540|29=>541|20=>586|21=>587|22=>588|23=>589|24=>590|25=>591|26=>592|27=>593|46=>597|47=>561|48=>562|49=>598|50=>599|57=>601|n=>n,λ|22=>22|24=>3|25=>25|3=>3|39=>26|0=>0|53=>388|55=>409|4=>4|46=>418|45=>417|50=>165|5=>5|9=>9|66=>434|70=>438|76=>445|77=>319|n=>n,λ|n=>n⟩
set_option maxRecDepth 100000 in
def Hh:Go.Proofs.SlLaysF.n6 Tryz.prog An:=by
 constructor
 all_goals first
  |kernel_rfl
  |exact λ_=>d_
  |exact TP d_ d_
end Go.Proofs
namespace Go.Proofs.YtppbofaglpdghaaGreat
open Go.TQ Go.Proofs
namespace wY
def enters:Go.TQ.Enters Tryz.prog 472:=⟨_,Tryz.func472,d_,d_⟩
def none:C5 Tryz.prog 472:=λp cap b w=>AnyF.slices_SortFunc_none (P:=Tryz.prog) (ρ:=Ao) {Hj with} p cap b w
def Dh:Hk Tryz.prog 472:=λα _ dD h1 cf hO g p bp b cap d w o l hH m j n=>Any.slices_SortFunc_total Hj dD h1 cf hO g p bp b cap d w o l hH m j n
end wY
namespace FC
def enters:Go.TQ.Enters Tryz.prog 565:=⟨_,Tryz.func565,d_,d_⟩
def none:C5 Tryz.prog 565:=λp cap b w=>AnyF.slices_SortFunc_none Hi p cap b w
def Dh:KQ Tryz.prog 565 2:=λα _ dD hk h1 cf hO g o bp off cap d w n j hH l b m=>AnyQ.slices_SortFunc_total Hi 2 Tryz.isAgg46 Tryz.sizeOf46 dD hk h1 cf hO g o bp off cap d w n j hH l b m
end FC
namespace FB
def enters:Go.TQ.Enters Tryz.prog 569:=⟨_,Tryz.func569,d_,d_⟩
def none:C5 Tryz.prog 569:=λp cap b w=>AnyF.slices_SortFunc_none (P:=Tryz.prog) (ρ:=An) {Hh with} p cap b w
def Dh:Hk Tryz.prog 569:=λα _ dD h1 cf hO g p bp b cap d w o l hH m j n=>Any.slices_SortFunc_total Hh dD h1 cf hO g p bp b cap d w o l hH m j n
end FB
end Go.Proofs.YtppbofaglpdghaaGreat
end
