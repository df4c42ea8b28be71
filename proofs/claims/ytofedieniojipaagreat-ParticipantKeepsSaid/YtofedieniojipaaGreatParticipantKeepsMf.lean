/-
  Texts made small by a program (see NOTES). Conditions: those that each theorem names.
-/
import Derived.Test.YtofedieniojipaaGreatParticipantKeepsMe
set_option linter.unusedVariables false
set_option linter.defProp false
set_option linter.unusedSimpArgs false
set_option linter.unusedSectionVars false
set_option maxHeartbeats 2000000
noncomputable section
namespace Go.Proofs.YtofedieniojipaaGreat
open Go.TQ
section
def mh{bytes n:Nat}(h:bytes<=200)(hn:n<=1000000):bh bytes n=true:=
 bD ⟨QK (Nat.mul_le_mul hn h) (by decide),hn⟩
def zK{α ρ:Type}(l:List α)(hl:l.length<=1000000)(p:α->Bool){step:Int×Unit->Option ((Int×Unit)⊕ρ)}{fin:Option ρ}{f:Nat->α->Option ρ}
  (h1:∀(i:Nat) (x:α),i<l.length->l[i]?=some x->decide ((i:Int)<(l.length:Int))=true->idx l (i:Int)=some x->aA .i64 (i:Int) 1=((i+1:Nat):Int)->step ((i:Int),())=bif p x then Option.map Sum.inr (f i x)else some (.inl (((i+1:Nat):Int),())))
  (h2:(∀x∈l,p x=false)->decide ((l.length:Int)<(l.length:Int))=false->step ((l.length:Int),())=Option.map Sum.inr fin):
  aE step ((0:Int),())=match l.findIdx? p with|some i=>(l[i]?).bind (f i)|none=>fin:=by
 suffices key:∀(k i:Nat),i+k=l.length->(∀x∈l.take i,p x=false)->aE step ((i:Int),())=match(l.drop i).findIdx? p with|some j=>(l[i+j]?).bind (f (i+j))|none=>fin by
  have:=key l.length 0 (by omega) (by simp)
  rw[List.drop_zero]at this;simp only[Nat.zero_add]at this;exact this
 intro k
 induction k with
 |zero=>
  intro i hi hpre;obtain rfl:i=l.length:=by omega
  rw[Qq62]at hpre;rw[fg,h2 hpre (Qh (Qq64 _)),Qq66];cases fin<;>rfl
 |succ k ih=>
  intro i hi hpre;have hlt:i<l.length:=by omega
  have hx:l[i]?=some l[i]:=Qv hlt;have hs:=h1 i l[i] hlt hx (Qg (by omega)) (by rw[bf];exact hx) (bG (by omega) (by omega))
  rw[QM hlt,List.findIdx?_cons]
  cases hp:p l[i]with
  |true=>rw[hp]at hs;rw[fg,hs];simp only[Qk,Qt,Nat.add_zero,hx,Qa];cases f i l[i]<;>rfl
  |false=>
   rw[hp]at hs
   rw[bx hs,ih (i+1) (by omega) (λx hx=>by
    rw[Q7 hlt,Qz,Q5]at hx;rcases hx with hx|rfl
    ·exact hpre x hx
    ·exact hp)]
   simp only[Qq,Qu]
   cases (l.drop (i+1)).findIdx? p with
   |none=>rfl
   |some j=>simp only[Qe];rw[show i+1+j=i+(j+1)by omega]
def IZ(l:List ak)(e:ak):Nat:=(l.findIdx? λx=>decide (e.al<x.al)).getD l.length
 def sU(l:List ak)(e:ak):List ak×Bool×Unit:=
 if bc e then
  match l.findIdx? λx=>decide (x.al=e.al)with
  |some i=>if e.aH<=((l[i]?).getD e).aH then(l,false,())else(l.set i e,true,())
  |none=>(l.take (IZ l e)++[e]++l.drop (IZ l e),true,())
 else(l,false,())
def ajH(l:List ak)(e:ak):IZ l e<=l.length:=by
 unfold IZ
 cases h:l.findIdx? λx=>decide (e.al<x.al)with
 |none=>exact QI _
 |some i=>exact Nat.le_of_lt ((List.findIdx?_eq_some_iff_getElem.1 h).1)
section
variable {l : List ak} (hl : ∀ x ∈ l, cU x.aa) (hlen : l.length <= 1000)
 include hlen
theorem acE(e:ak):dO l e=some (match l.findIdx? λx=>decide (x.al=e.al)with|some i=>(i:Int)|none=> -1):=by
 unfold dO;refine(zK l (by omega) (λx=>decide (x.al=e.al)) (f:=λi _=>some (i:Int)) (fin:=some (-1)) (λi x hi hx0 hd hx hw=> ?_) (λhall hd=> ?_)).trans ?_
 ·simp only[hd,hx,hw,Qk,Qa,xA,etas]
 ·simp only[hd,Ql]
 ·cases h:l.findIdx? λx=>decide (x.al=e.al)with
  |none=>rfl
  |some i=>have:=(List.findIdx?_eq_some_iff_getElem.1 h).1;simp[Qv this]
theorem aeg(e:ak):dM l e=some (match l.findIdx? λx=>decide (e.al<x.al)with|some i=>(i:Int)|none=> -1):=by
 unfold dM;refine(zK l (by omega) (λx=>decide (e.al<x.al)) (f:=λi _=>some (i:Int)) (fin:=some (-1)) (λi x hi hx0 hd hx hw=> ?_) (λhall hd=> ?_)).trans ?_
 ·simp only[hd,hx,hw,Qk,Qa,xz,etas]
 ·simp only[hd,Ql]
 ·cases h:l.findIdx? λx=>decide (e.al<x.al)with
  |none=>rfl
  |some i=>have:=(List.findIdx?_eq_some_iff_getElem.1 h).1;simp[Qv this]
 include hl
theorem Xv:dV l=some l:=by
 unfold dV
 suffices key:∀(k i:Nat),i+k=l.length->aE _ ((i:Int),l.take i,())=some l from key l.length 0 (by omega)
 intro k
 induction k with
 |zero=>
  intro i hi;obtain rfl:i=l.length:=by omega
  have hd:decide ((l.length:Int)<(l.length:Int))=false:=Qh (Qq64 _);exact bM (by simp only[hd,Ql,Qe,Qq62])
 |succ k ih=>
  intro i hi;have hlt:i<l.length:=by omega
  have hd:decide ((i:Int)<(l.length:Int))=true:=Qg (by omega)
  have hw:aA .i64 (i:Int) 1=((i+1:Nat):Int):=bG (by omega) (by omega)
  have hx:idx l (i:Int)=some l[i]:=by rw[bf];exact Qv hlt
  have hc:jV l[i]=some l[i]:=by simp only[jV,etas,ly (hl _ (Q0 hlt)),Qa]
  refine(bx ?_).trans (ih (i+1) (by omega))
  simp only[hd,hx,hw,Qk,Qa,etas,hc];rw[mh (by omega) (by simp;omega),Q7 hlt]
  rfl
theorem aiJ{e:ak}(he:cU e.aa):vD l e=some (sU l e):=by
 have hc:jV e=some e:=by simp only[jV,etas,ly he,Qa]
 have hat:=ajH l e;unfold vD;simp only[Xv hl hlen,etas,su he,hc,acE hlen,aeg hlen,Qa,aS];unfold sU
 cases bc e with
 |false=>rfl
 |true=>
  simp only[Qo,Ql,Qt]
  cases h:l.findIdx? λx=>decide (x.al=e.al)with
  |some i=>
   have hi:=(List.findIdx?_eq_some_iff_getElem.1 h).1;have hd:decide ((0:Int)<=(i:Int))=true:=Qg (by omega)
   have hx:idx l (i:Int)=some l[i]:=by rw[bf];exact Qv hi
   simp only[hd,hx,Qk,Qa,QV,Qv hi,Q3]
   by_cases hs:e.aH<=l[i].aH<;>simp[hs]
  |none=>
   have hd:decide ((0:Int)<= -1)=false:=rfl;simp only[hd,Ql]
   have hins:∀a:Nat,a<=l.length->eY l (a:Int) [e]=some (l.take a++[e]++l.drop a):=λa ha=>by
    unfold eY CK;have h1:decide ((0:Int)<=(a:Int))=true:=Qg (by omega)
    have h2:decide ((a:Int)<=(l.length:Int))=true:=Qg (by omega)
    rw[h1,h2,mh (by omega) (by simp;omega)]
    rfl
   unfold IZ at hat ⊢
   cases h':l.findIdx? λx=>decide (e.al<x.al)with
   |none=>have hd2:decide ((-1:Int)<0)=true:=rfl;simp only[hd2,Qk,hins _ (QI _),Qa,Option.getD_none]
   |some j=>
    have hj:=(List.findIdx?_eq_some_iff_getElem.1 h').1;have hd2:decide ((j:Int)<0)=false:=Qh (by omega)
    simp only[hd2,Ql,hins _ (Nat.le_of_lt hj),Qa,Q3]
end
end
section
section
variable {l : List ak} (hlen : l.length <= 1000)
 include hlen
theorem JI(e:ak){a b:Nat}(ha:a<=b)(hb:b<=l.length):cD (0:Int) (a:Int) l.length=true/\bh 176 (List.length ((l.take (Int.toNat (a:Int))).drop (Int.toNat (0:Int))))=true/\
  bh 176 (List.length ((l.take (Int.toNat (a:Int))).drop (Int.toNat (0:Int)))+List.length [e])=true/\cD (b:Int) (l.length:Int) l.length=true/\
  bh 176 (List.length (((l.take (Int.toNat (a:Int))).drop (Int.toNat (0:Int)))++[e])+List.length ((l.take (Int.toNat (l.length:Int))).drop (Int.toNat (b:Int))))=true/\
  (((l.take (Int.toNat (a:Int))).drop (Int.toNat (0:Int)))++[e])++((l.take (Int.toNat (l.length:Int))).drop (Int.toNat (b:Int)))=l.take a++[e]++l.drop b:=by
 refine⟨by simp[cD];omega,jl (by omega) (by simp;omega),jl (by omega) (by simp;omega),by simp[cD];omega,jl (by omega) (by simp;omega),?_⟩
 simp only[QV,Int.toNat_zero,List.drop_zero,Qq62]
end
def IX{α:Type}{p q:α->Bool}:∀{l:List α},(∀x∈l,p x=q x)->l.findIdx? p=l.findIdx? q
 |[],_=>rfl
 |x::l,h=>by rw[List.findIdx?_cons,List.findIdx?_cons,h x (by simp),IX λy hy=>h y (by simp[hy])]
def afw{l:List ak}(hl:∀x∈l,cU x.aa)(hlen:l.length<=1000){e:ak}(he:cU e.aa):BY l e=some (sU l e):=by
 unfold BY;simp only[etas,jZ he,Qa,aS];unfold sU
 cases bc e with
 |false=>rfl
 |true=>
  simp only[Qo,Ql,Qt];refine(zK l (by omega) (λx=>decide (x.al=e.al)) (f:=λi x=>if e.aH<=x.aH then some (l,false,())else some (l.take i++[e]++l.drop (i+1),true,())) (fin:=some (l.take (IZ l e)++[e]++l.drop (IZ l e),true,())) (λi x hi hx0 hd hx hw=> ?_) (λhall hd=> ?_)).trans ?_
  ·simp only[hd,hx,hw,Qk,Qa]
   cases decide (x.al=e.al)with
   |false=>rfl
   |true=>
    simp only[Qk];obtain⟨f1,f2,f3,f4,f5,f6⟩:=JI hlen e (show i<=i+1 by omega) (show i+1<=l.length by omega)
    simp only[f1,f2,f3,f4,f5,f6,Qk]
    by_cases hs:e.aH<=x.aH<;>simp[hs]
  ·simp only[hd,Ql];refine congrArg (Option.map Sum.inr) ?_
   have hcg:(l.findIdx? λx=> !decide (x.al<e.al))=l.findIdx? λx=>decide (e.al<x.al):=IX λx hx=>by
    have:=hall x hx;have hne:x.al≠e.al:=of_decide_eq_false this
    by_cases h:x.al<e.al
    ·have h':¬e.al<x.al:=by omega
     simp[h,h']
    ·have h':e.al<x.al:=by omega
     simp[h,h']
   refine(zK l (by omega) (λx=> !decide (x.al<e.al)) (f:=λi x=>some (l.take i++[e]++l.drop i,true,())) (fin:=some (l.take l.length++[e]++l.drop l.length,true,())) (λi x hi hx0 hd hx hw=> ?_) (λ_ hd=> ?_)).trans ?_
   ·simp only[hd,hx,hw,Qk,Qa]
    cases decide (x.al<e.al)with
    |true=>rfl
    |false=>
     simp only[Ql,Qp,Qk];obtain⟨f1,f2,f3,f4,f5,f6⟩:=JI hlen e (QI i) (show i<=l.length by omega)
     simp only[f1,f2,f3,f4,f5,f6,Qk]
   ·simp only[hd,Ql];obtain⟨f1,f2,f3,f4,f5,f6⟩:=JI hlen e (QI l.length) (QI _);simp only[f1,f2,f3,f4,f5,f6,Qk]
   ·rw[hcg];unfold IZ
    cases h:l.findIdx? λx=>decide (e.al<x.al)with
    |none=>rfl
    |some i=>have hi:=(List.findIdx?_eq_some_iff_getElem.1 h).1;simp only[Qv hi,Qa,Q3]
  ·cases h:l.findIdx? λx=>decide (x.al=e.al)with
   |none=>rfl
   |some i=>
    have hi:=(List.findIdx?_eq_some_iff_getElem.1 h).1;simp only[Qv hi,Qa,Q3]
    by_cases hs:e.aH<=l[i].aH
    ·simp[hs]
    ·simp only[hs,Qu];rw[List.set_eq_take_append_cons_drop,Qr hi];simp
end
section
structure wJ (m:ab):Prop where
 n0:0<=m.al
 n1:m.al<10
 aN:cU m.aa
 len:m.ar.length<=100
 sm:∀e∈m.ar,cU e.aa
 valid:∀e∈m.ar,bc e=true
def EG{m:ab}{e:ak}(h:e∈bN m):e∈m.ar\/(aP m.af=false/\e=jj m):=by
 unfold bN at h;split at h
 ·exact .inl h
 ·rename_i hz;rw[(Fo _ _).mem_iff,Qz,Q5]at h;rcases h with h|h
  ·exact .inl h
  ·exact .inr ⟨by simpa using hz,h⟩
def aef(m:ab):(bN m).length<=m.ar.length+1:=by
 unfold bN;split
 ·omega
 ·rw[(Fo _ _).length_eq,QB,Q6];omega
def OQ(m:ab):(jj m).aa=m.aa:=ug m
def wJ.vj{m:ab}(h:wJ m):td (bN m)/\(bN m).length<=1000:=by
 have h1:=aef m;have h2:=h.len;refine⟨⟨by omega,λe he=> ?_⟩,by omega⟩
 rcases EG he with he|⟨_,rfl⟩
 ·exact h.sm e he
 ·rw[OQ];exact h.aN
def wJ.aF{m:ab}(h:wJ m):((m.al.toNat:Nat):Int)=m.al/\m.al.toNat<10:=by have:=h.n0;have:=h.n1;omega
def eC(b:ah):ah:=if 1000<b.ai then⟨1000,b.Value⟩else b
def ajG(b:ah):tq b=some (eC b):=adK b
def dy(p q b:ah):ah×ah:=
 if aP b=true then(p,q)else if aP p=true then(b,q)else if bC p b=true then(if bR p b=true then(b,if bR q b=true then cg else q)else(b,p))
 else if(bC b p&& !bR b p&&(aP q||bC q b))=true then(p,b)else(p,q)
def X1(a b:ah):bR a b=bR b a:=decide_eq_decide.2 ⟨Eq.symm,Eq.symm⟩
def aib(p q b:ah):Az p q b=some ((dy p q b).1,(dy p q b).2,()):=by unfold Az dy;simp only[c7,km,gK,Qa,aS];cases aP b<;>cases aP p<;>cases bC p b<;>cases bR p b<;>cases bR q b<;>cases bC b p<;>cases bR b p<;>cases aP q<;>cases bC q b<;>rfl
def afK(p q b:ah):xf p q b=some ((dy p q b).1,(dy p q b).2,()):=by unfold xf dy;simp only[dp,jW,fU,Qa,aS,X1 b p];cases aP b<;>cases aP p<;>cases bC p b<;>cases bR p b<;>cases bR q b<;>cases bC b p<;>cases aP q<;>cases bC q b<;>rfl
def Jm(m:ab):ByteArray:=if m.aQ=2 then m.af.Value else gy
 def eZ(m:ab):ah:=ka m.al.toNat m.aa (bN m) m.ao m.aD (Jm m)
def tV(m:ab)(p q:ah):Int:=
 if m.aQ=1/\m.aZ≠0 then(if fE m<lL m.af.Value m.aZ p q then 0 else lL m.af.Value m.aZ p q)else m.aZ
 def de(m:ab):ab:=
 if m.aQ=3\/aP m.af=true then m else
  {m with ao:=(dy m.ao m.aD (eC (eZ m))).1,aD:=(dy m.ao m.aD (eC (eZ m))).2,aZ:=tV m (dy m.ao m.aD (eC (eZ m))).1 (dy m.ao m.aD (eC (eZ m))).2}
def ahD{m:ab}(h:wJ m)(p q:ah)(v:ByteArray):tr m.al m.aa (bN m) p q v=some (ka m.al.toNat m.aa (bN m) p q v):=by
 have:=afy h.aF.2 h.aN h.vj.1 h.vj.2 p q v
 rwa [h.aF.1]at this
def ahG{m:ab}(h:wJ m)(a:ah):oh m.al m.aa (bN m) a=some (Ad m.al.toNat m.aa (bN m) a):=by
 have:=afA h.aF.2 h.aN h.vj.1 h.vj.2 a
 rwa [h.aF.1]at this
def ZL{m:ab}(h:wJ m):ux m=some (de m):=by
 have hl:m.ar.length<=1000:=by have:=h.len;omega
 unfold ux de;simp only[etas,c7,Rn hl,ahD h,ajG,aib,Aj,VJ,Qa,aS]
 by_cases h3:m.aQ=3
 ·rw[Qg h3,Qr (.inl h3)];rfl
 ·rw[Qh h3]
  cases hz:aP m.af with
  |true=>rw[Qr (.inr rfl)];rfl
  |false=>
   rw[Qs (by simp[h3])]
   simp only[Ql,Qa]
   by_cases h2:m.aQ=2
   ·have h1:¬m.aQ=1:=by omega
    simp only[Qg h2,Qk,tV,Jm,eZ,Qr h2,h1,false_and,Qu];rfl
   ·simp only[Qh h2,Ql];have hv:bE=Jm m:=by simp only[Jm,Qs h2];rfl
    rw[hv];have hn:ka m.al.toNat m.aa (bN m) m.ao m.aD (Jm m)=eZ m:=rfl;simp only[hn]
    by_cases h1:m.aQ=1
    ·have hh:∀p q:ah,(dg {m with ao:=p,aD:=q}).bq=fE m:=λp q=>by unfold dg;rw[Qr (show({m with ao:=p,aD:=q}:ab).aQ=1 from h1)];rfl
     simp only[Qg h1,Qk,Qa]
     by_cases hL:m.aZ=0
     ·rw[Qg hL];unfold tV;rw[Qs (λh=>h.2 hL)]
      rfl
     ·rw[Qh hL];unfold tV;rw[Qr ⟨h1,hL⟩];simp only[Qp,Qk];rw[show(dg (ab.mk m.al m.aK m.aH m.aa m.aQ m.af (dy m.ao m.aD (eC (eZ m))).1 (dy m.ao m.aD (eC (eZ m))).2 m.ax m.aZ m.bq m.bg m.ar)).bq=fE m from hh _ _]
      by_cases hlt:fE m<lL m.af.Value m.aZ (dy m.ao m.aD (eC (eZ m))).1 (dy m.ao m.aD (eC (eZ m))).2
      ·rw[Qg hlt,Qr hlt];rfl
      ·rw[Qh hlt,Qs hlt];rfl
    ·rw[Qh h1];unfold tV;rw[Qs (λh=>h1 h.1)]
     rfl
 def gV(m:ab):ah:=Ad m.al.toNat m.aa (bN m) m.ax
def C2(m:ab)(b:ah):ab:=
 if bC m.af b=true then{m with ax:=b,af:=b,aZ:=if bR m.af b=true then m.aZ else 0}else{m with ax:=b}
def rh(m:ab)(b:ah):ab:=
 if m.aZ=0/\bR m.af b=true/\lL b.Value m.af.ai m.ao m.aD<=b.ai then{m with aZ:=lL b.Value m.af.ai m.ao m.aD}else m
 def gC(m:ab):ab:=
 if m.aQ≠1\/aP m.af=true\/aP (gV m)=true then m else rh (C2 m (gV m)) (gV m)
def RC(m:ab)(b:ah){α:Type}(j:ab->Option α):
  ((bif decide (m.aZ=(0:Int))then some (bR m.af b)else some false).bind λx=>bif x then(bif decide (lL b.Value m.af.ai m.ao m.aD<=b.ai)then j {m with aZ:=lL b.Value m.af.ai m.ao m.aD}else j m)else j m)=j (rh m b):=by
 unfold rh
 by_cases hL:m.aZ=0
 ·rw[Qg hL]
  cases hc:bR m.af b with
  |true=>
   by_cases hle:lL b.Value m.af.ai m.ao m.aD<=b.ai
   ·rw[Qr ⟨hL,rfl,hle⟩,Qg hle];rfl
   ·rw[Qs (λh=>hle h.2.2),Qh hle];rfl
  |false=>rw[Qs (λh=>by cases h.2.1)];rfl
 ·rw[Qh hL,Qs (λh=>hL h.1)];rfl
def X0{m:ab}(h:wJ m):sG m=some (gC m):=by
 have hl:m.ar.length<=1000:=by have:=h.len;omega
 unfold sG gC;simp only[etas,c7,Rn hl,ahG h,VJ,Qa,aS,gK,km];have hb:Ad m.al.toNat m.aa (bN m) m.ax=gV m:=rfl;simp only[hb]
 by_cases h1:m.aQ=1
 ·rw[Qg h1]
  cases hz:aP m.af with
  |true=>rw[Qr (.inr (.inl rfl))];rfl
  |false=>
   cases hzb:aP (gV m)with
   |true=>rw[Qr (.inr (.inr rfl))];rfl
   |false=>
    rw[Qs (by simp[h1])]
    simp only[Qo,Ql,Qa];unfold C2
    cases hlt:bC m.af (gV m)with
    |true=>
     cases hcp:bR m.af (gV m)with
     |true=>simp only[Qk,Qo,Ql,Qt];exact RC {m with ax:=gV m,af:=gV m} (gV m) some
     |false=>simp only[Qk,Qp,Qt,Qq,Qu];exact RC {m with ax:=gV m,af:=gV m,aZ:=0} (gV m) some
    |false=>simp only[Ql,Qq,Qu];exact RC {m with ax:=gV m} (gV m) some
 ·rw[Qh h1,Qr (.inl h1)];rfl
section
variable {aF : Nat} (hn : aF < 10) {t : aj} (ht : cU t) {l : List ak} (hl : td l) (hlen : l.length <= 1000)
 include hn ht hl hlen
theorem Yo(v:ByteArray)(lo hi:Int):kl aF t l v lo hi=some (nK aF t l v lo hi):=by have hin:=nF l;have hsm:=oB (aF:=aF) ht hl;simp only[kl,etas,Tb hl.aN hlen,Ba hn hl,Qa,wO hsm hn (mO hin) (mO hin)];rfl
theorem ac9(v:ByteArray)(lo hi:Int):mU aF t l v lo hi=some (wh aF t l v lo hi):=by have hin:=nF l;have hsm:=oB (aF:=aF) ht hl;simp only[mU,etas,Tb hl.aN hlen,Ba hn hl,Qa,vn hsm hn (mO hin)];rfl
theorem ac6(p q:ah):qY aF t l p q=some (rF (nK aF t l) l p q (ig (nK aF t l) l p q)):=afC hl hlen (Yo hn ht hl hlen) p q
theorem ahI(v:ByteArray)(low cm:Int):pM aF t l v low cm=some ((F7 (bu l v) (nK aF t l v) low cm).1,(F7 (bu l v) (nK aF t l v) low cm).2,()):=ac7 hl hlen (Yo hn ht hl hlen) v low cm
theorem ahH(v:ByteArray):qZ aF t l v=some (Et (bu l v) (wh aF t l v)):=afE hl hlen (ac9 hn ht hl hlen) v
end
 def iv(m:ab):ByteArray->Int->Int->Bool:=nK m.al.toNat m.aa (bN m)
 def Oa(m:ab):ByteArray->Int->Int->Bool:=wh m.al.toNat m.aa (bN m)
 def fT(m:ab):ByteArray×Int×Int×Bool×Unit:=rF (iv m) (bN m) m.ao m.aD (ig (iv m) (bN m) m.ao m.aD)
 def eV(m:ab):Int×Int:=F7 (bu (bN m) m.af.Value) (iv m m.af.Value) m.aZ m.bq
 def pk(m:ab):Int×Int×Bool×Unit:=Et (bu (bN m) m.af.Value) (Oa m m.af.Value)
def afD{m:ab}(h:wJ m):qY m.al m.aa (bN m) m.ao m.aD=some (fT m):=by
 have:=ac6 h.aF.2 h.aN h.vj.1 h.vj.2 m.ao m.aD
 rwa [h.aF.1]at this
def aja{m:ab}(h:wJ m):pM m.al m.aa (bN m) m.af.Value m.aZ m.bq=some ((eV m).1,(eV m).2,()):=by
 have:=ahI h.aF.2 h.aN h.vj.1 h.vj.2 m.af.Value m.aZ m.bq
 rwa [h.aF.1]at this
def ai9{m:ab}(h:wJ m):qZ m.al m.aa (bN m) m.af.Value=some (pk m):=by
 have:=ahH h.aF.2 h.aN h.vj.1 h.vj.2 m.af.Value
 rwa [h.aF.1]at this
def NY(m:ab)(v:ByteArray)(lo hi:Int):ab:=
 {m with af:=if(!bR m.af ⟨hi,v⟩||bC m.af ⟨hi,v⟩)=true then⟨bF m.af.ai hi,v⟩else m.af,ao:=if jJ m.ao ⟨hi,v⟩=true then m.ao else⟨hi,v⟩,aQ:=2,aZ:=lo,bq:=hi,ax:=⟨hi,v⟩,aD:=cg}
def Cm(m:ab)(lo hi:Int):ab:=
 {m with af:=⟨bF m.af.ai hi,m.af.Value⟩,ao:=⟨bF m.ao.ai hi,m.ao.Value⟩,ax:=⟨bF m.ax.ai hi,m.af.Value⟩,aZ:=lo,bq:=hi}
 def fX(m:ab):ab:=
 if m.aQ=1 then(if(fT m).2.2.2.1=true then NY m (fT m).1 (fT m).2.1 (fT m).2.2.1 else m)
 else if m.aQ=2 then Cm m (eV m).1 (eV m).2 else m
def X2{m:ab}(h:wJ m):sH m=some (fX m):=by
 have hl:m.ar.length<=1000:=by have:=h.len;omega
 unfold sH fX;simp only[etas,Rn hl,afD h,aja h,Qa,aS,gK,km,C6]
 by_cases h1:m.aQ=1
 ·rw[Qg h1,Qr h1]
  cases hk:(fT m).2.2.2.1 with
  |false=>simp only[Qk,Qp,Qq,Qu]
  |true=>simp only[Qk,Qo,Ql,Qt];unfold NY;cases bR m.af ⟨(fT m).2.2.1,(fT m).1⟩<;>cases bC m.af ⟨(fT m).2.2.1,(fT m).1⟩<;>cases jJ m.ao ⟨(fT m).2.2.1,(fT m).1⟩<;>rfl
 ·rw[Qh h1,Qs h1]
  by_cases h2:m.aQ=2
  ·rw[Qg h2,Qr h2];rfl
  ·rw[Qh h2,Qs h2];rfl
def P7(m:ab)(lo hi:Int):ab:={m with aQ:=3,aZ:=lo,bq:=hi,af:=⟨hi,m.af.Value⟩,ao:=cg,aD:=cg,ax:=cg}
 def jf(m:ab):ab:=if m.aQ=2/\(pk m).2.2.1=true then P7 m (pk m).1 (pk m).2.1 else m
def agC{m:ab}(h:wJ m):yo m=some (jf m):=by
 have hl:m.ar.length<=1000:=by have:=h.len;omega
 unfold yo jf;simp only[etas,Rn hl,ai9 h,Qa]
 by_cases h2:m.aQ=2
 ·rw[Qg h2]
  cases hk:(pk m).2.2.1 with
  |false=>rw[Qs (λh=>by cases h.2)];rfl
  |true=>rw[Qr ⟨h2,rfl⟩];rfl
 ·rw[Qh h2,Qs (λh=>h2 h.1)];rfl
end
section
def Fu{α β ρ:Type}(l:List α)(hl:l.length<=1000)(f:α->β){step:Int×List β×Unit->Option ((Int×List β×Unit)⊕ρ)}{fin:List β->Option ρ}
  (h1:∀(i:Nat) (e:α) (s:List β),s.length<=1000->e∈l->decide ((i:Int)<(l.length:Int))=true->idx l (i:Int)=some e->aA .i64 (i:Int) 1=((i+1:Nat):Int)->step ((i:Int),s,())=some (.inl (((i+1:Nat):Int),s++[f e],())))
  (h2:∀s,decide ((l.length:Int)<(l.length:Int))=false->step ((l.length:Int),s,())=Option.map Sum.inr (fin s)):aE step ((0:Int),[],())=fin (l.map f):=by
 suffices key:∀(k i:Nat) (s:List β),i+k=l.length->s.length=i->aE step ((i:Int),s,())=fin (s++(l.drop i).map f)by
  have:=key l.length 0 [] (by omega) rfl
  simpa using this
 intro k
 induction k with
 |zero=>
  intro i s hi hs;obtain rfl:i=l.length:=by omega
  have hd:decide ((l.length:Int)<(l.length:Int))=false:=Qh (Qq64 _);have h:=h2 s hd;rw[Qq66,QO,List.append_nil]
  cases hf:fin s with
  |none=>rw[hf]at h;exact O8 h
  |some r=>rw[hf]at h;exact bM h
 |succ k ih=>
  intro i s hi hs;have hlt:i<l.length:=by omega
  rw[bx (h1 i l[i] s (by omega) (Q0 hlt) (Qg (by omega)) (by rw[bf];exact Qv hlt) (bG (by omega) (by omega))),ih (i+1) (s++[f l[i]]) (by omega) (by simp;omega),
   QM hlt,QD,QL]
  rfl
def abX{α β ρ:Type}(l:List α)(hl:l.length<=1000)(f:α->β){step:Int×List β×Unit->Option ((Int×List β×Unit)⊕ρ)}{fin:List β->Option ρ}
  (h1:∀(i:Nat) (e:α) (s:List β),s.length=l.length->e∈l->i<l.length->decide ((i:Int)<(l.length:Int))=true->idx l (i:Int)=some e->aA .i64 (i:Int) 1=((i+1:Nat):Int)->step ((i:Int),s,())=some (.inl (((i+1:Nat):Int),s.set i (f e),())))
  (h2:∀s,decide ((l.length:Int)<(l.length:Int))=false->step ((l.length:Int),s,())=Option.map Sum.inr (fin s)) {s0:List β} (hs0:s0.length=l.length):aE step ((0:Int),s0,())=fin (l.map f):=by
 suffices key:∀(k i:Nat) (s:List β),i+k=l.length->s.length=l.length->aE step ((i:Int),s,())=fin (s.take i++(l.drop i).map f)by
  have:=key l.length 0 s0 (by omega) hs0
  simpa using this
 intro k
 induction k with
 |zero=>
  intro i s hi hs;obtain rfl:i=l.length:=by omega
  have hd:decide ((l.length:Int)<(l.length:Int))=false:=Qh (Qq64 _);have h:=h2 s hd;rw[Qq66,QO,List.append_nil,<-hs,Qq62];rw[<-hs]at h
  cases hf:fin s with
  |none=>rw[hf]at h;exact O8 h
  |some r=>rw[hf]at h;exact bM h
 |succ k ih=>
  intro i s hi hs;have hlt:i<l.length:=by omega
  rw[bx (h1 i l[i] s hs (Q0 hlt) hlt (Qg (by omega)) (by rw[bf];exact Qv hlt) (bG (by omega) (by omega))),ih (i+1) (s.set i (f l[i])) (by omega) (by simpa using hs),
   QM hlt,QD]
  congr 1;rw[List.take_add_one,List.take_set_of_le (QI i),List.getElem?_set_self (by omega)]
  simp
def Kp(z:ah):List ah->ah
 |[]=>z
 |x::l=>l.foldl (λa y=>if bC a y=true then y else a) x
def PU(l:List ah)(hl:l.length<=1000000)(z:ah){step:Int×ah×Unit->Option ((Int×ah×Unit)⊕ah)}
  (h1:∀(i:Nat) (x s:ah),decide ((i:Int)<(l.length:Int))=true->idx l (i:Int)=some x->aA .i64 (i:Int) 1=((i+1:Nat):Int)->step ((i:Int),s,())=some (.inl (((i+1:Nat):Int),(if i=0 then x else if bC s x=true then x else s),())))
  (h2:∀s,decide ((l.length:Int)<(l.length:Int))=false->step ((l.length:Int),s,())=some (.inr s)):aE step ((0:Int),z,())=some (Kp z l):=by
 have hd:decide ((l.length:Int)<(l.length:Int))=false:=Qh (Qq64 _)
 have key:∀(k i:Nat) (s:ah),i+k=l.length->1<=i->aE step ((i:Int),s,())=some ((l.drop i).foldl (λa y=>if bC a y=true then y else a) s):=by
  intro k
  induction k with
  |zero=>
   intro i s hi h1i;obtain rfl:i=l.length:=by omega
   rw[Qq66];exact bM (h2 s hd)
  |succ k ih=>
   intro i s hi h1i;have hlt:i<l.length:=by omega
   rw[bx (h1 i l[i] s (Qg (by omega)) (by rw[bf];exact Qv hlt) (bG (by omega) (by omega))),ih (i+1) _ (by omega) (by omega),QM hlt,QU,Qs (by omega:¬i=0)]
 cases l with
 |nil=>exact bM (h2 z hd)
 |cons x l=>
  have hx:=h1 0 x z (Qg (by simp)) (by rw[bf];rfl) (bG (by omega) (by omega))
  rw[Qr rfl]at hx;exact(bx hx).trans (key l.length 1 x (by simp;omega) (by omega))
def ago(l:List ah)(hl:l.length<=1000000):qo l=some (Kp cg l):=by
 unfold qo;refine PU l hl cg (λi x s hd hx hw=> ?_) (λs hd=> ?_)
 ·simp only[hd,hx,hw,Qk,aS,Qa,km]
  by_cases hi:i=0
  ·subst hi;rfl
  ·have:decide ((i:Int)=0)=false:=Qh (by omega)
   rw[this,Qs hi];cases bC s x<;>rfl
 ·simp only[hd,Ql,Qe]
def adi(l:List ah)(hl:l.length<=1000000):nV l=some (Kp cg l):=by
 unfold nV;refine PU l hl cg (λi x s hd hx hw=> ?_) (λs hd=> ?_)
 ·simp only[hd,hx,hw,Qk,aS,Qa,jW]
  by_cases hi:i=0
  ·subst hi;rfl
  ·have:decide ((i:Int)=0)=false:=Qh (by omega)
   rw[this,Qs hi];cases bC s x<;>rfl
 ·simp only[hd,Ql,Qe]
def dY(m:ab):ByteArray:=
 if aP m.ax=false then m.ax.Value else if m.aQ≠1 then m.af.Value else if m.bg≠gy then m.bg else(Kp cg (m.ar.map (·.af))).Value
def RD{m:ab}(h:wJ m):oF m=some (dY m):=by
 have hl:m.ar.length<=1000:=by have:=h.len;omega
 unfold oF dY;simp only[c7,Qa]
 cases hz:aP m.ax with
 |false=>rfl
 |true=>
  simp only[Qo,Ql,Bool.true_eq_false,Qu]
  by_cases h1:m.aQ=1
  ·rw[Qg h1,Qs (λh=>h h1)]
   simp only[Qo,Ql]
   by_cases hp:m.bg=gy
   ·have hp':decide (m.bg=bE)=true:=Qg hp;rw[hp',Qs (λh=>h hp)]
    simp only[Qo,Ql]
    rw[Fu m.ar hl (·.af) (fin:=λs=>Option.bind (qo s) λr=>some r.Value) (λi e s hs he hd hx hw=>by
     simp only[hd,hx,hw,Qk,Qa]
     rw[bD (by simp;omega),Qk]) (λs hd=>by simp only[hd,Ql]),ago _ (by simp;omega)]
    rfl
   ·have hp':decide (m.bg=bE)=false:=Qh hp;rw[hp',Qr hp];rfl
  ·rw[Qh h1,Qr h1];rfl
def HA{e:ak}(h:cU e.aa)(hv:bc e=true):lZ e=some (fG e):=by
 simp only[lZ,etas,jZ h,Qa,hv,fG]
 by_cases h3:e.bA=3
 ·rw[Qg h3,Qr h3];rfl
 ·rw[Qh h3,Qs h3];rfl
def Vw{e:ak}(h:cU e.aa)(hv:bc e=true):kx e=some (fG e):=by rw[Xs (KY h)];have:gX (Hk e.aa) e=true:=hv;rw[this,Qr rfl]
def G7(m:ab)(n:Int):Nat:=ff (λe=>decide (n<fG e)) m.ar
 def jm(m:ab)(n:Int):Bool:=Bz (kP m.al.toNat m.aa (bN m)) m.al.toNat (G7 m n)
def wJ.Su{m:ab}(h:wJ m):xa m.ar:=λe he=>kD (h.valid e he)
def Ua{m:ab}(h:wJ m)(n:Int):G7 m n<1024:=mO h.Su
def ag1{m:ab}(h:wJ m)(n:Int):uM m n=some (jm m n):=by
 have hl:m.ar.length<=1000:=by have:=h.len;omega
 unfold uM
 rw[Fu m.ar hl (λe=>decide (n<fG e)) (fin:=λs=>Option.bind (lQ m) λr4=>Option.bind (jo m.al m.aa r4) λr5=>Option.bind (gw m.ar s) λr6=>Option.bind (pO r5 m.al r6) λr7=>some r7)
  (λi e s hs he hd hx hw=>by
   simp only[hd,hx,hw,Qk,Qa,etas,HA (h.sm e he) (h.valid e he)]
   rw[bD (by simp;omega),Qk])
  (λs hd=>by simp only[hd,Ql,etas])]
 have hv:=Ba h.aF.2 (t:=m.aa) h.vj.1;have hb:=OE (oB (aF:=m.al.toNat) h.aN h.vj.1) (v:=m.al.toNat) (Ua h n);rw[h.aF.1]at hv hb;rw[Rn hl,Qa,hv,Qa,BC m.ar hl _ (λe he _=>h.Su e he),Qa,show ff (λe=>decide (n<fG e)) m.ar=G7 m n from rfl,hb]
 rfl
 def n5(m:ab)(Gc:Int)(e:ak):Int:=
 if m.af.ai<fG e/\fG e<Gc/\jm m (fG e)=false then fG e else Gc
 def iz(m:ab):Int:=m.ar.foldl (n5 m) 1000000
 def oC(m:ab):ByteArray:=if m.aQ=1 then dY m else m.af.Value
 def fR(m:ab):ab:=
 if m.aQ=3\/jm m m.af.ai=false then m
 else{m with aZ:=if oC m=m.af.Value then m.aZ else 0,af:=⟨bF m.af.ai (du (iz m) 1000),oC m⟩}
open Classical in
def WZ{m:ab}(h:wJ m){ρ:Type}{step:Int×Int×Unit->Option ((Int×Int×Unit)⊕ρ)}{fin:Int->Option ρ}
  (h1:∀(i:Nat) (e:ak) (s:Int),e∈m.ar->decide ((i:Int)<(m.ar.length:Int))=true->idx m.ar (i:Int)=some e->aA .i64 (i:Int) 1=((i+1:Nat):Int)->step (s,(i:Int),())=some (.inl (n5 m s e,((i+1:Nat):Int),())))
  (h2:∀s,decide ((m.ar.length:Int)<(m.ar.length:Int))=false->step (s,(m.ar.length:Int),())=Option.map Sum.inr (fin s)):aE step ((1000000:Int),(0:Int),())=fin (iz m):=by
 have hl:=h.len
 have key:=iF m.ar (by omega) (λi s=>(s,i,())) (λe s=>if e∈m.ar then some (.inl (n5 m s e))else none) fin (step:=step) (λi x s hd hx hw=>by
  have hm:x∈m.ar:=by rw[bf]at hx;exact Q8 hx
  rw[h1 i x s hm hd hx hw,Qr hm]) (λs hd=>h2 s hd) 1000000
 refine key.trans ?_;unfold iz
 suffices h3:∀(l:List ak),(∀e∈l,e∈m.ar)->∀s,fK (λe s=>if e∈m.ar then some (Sum.inl (β:=ρ) (n5 m s e))else none) fin l s=fin (l.foldl (n5 m) s)from h3 _ (λe he=>he) _
 intro l
 induction l with
 |nil=>intro _ s;rfl
 |cons x l ih=>intro hx s;rw[fK,Qr (hx x Qx),QU];exact ih (λe he=>hx e (Qy _ he)) _
def ad3{m:ab}(h:wJ m):xd m=some (fR m):=by
 unfold xd fR;simp only[etas,ag1 h,RD h,Qa]
 by_cases h3:m.aQ=3
 ·rw[Qg h3,Qr (.inl h3)];rfl
 ·rw[Qh h3]
  cases ha:jm m m.af.ai with
  |false=>rw[Qr (.inr rfl)];rfl
  |true=>
   rw[Qs (by simp[h3])]
   simp only[Ql,Qo];refine(WZ h (fin:=λc=>some {m with aZ:=if oC m=m.af.Value then m.aZ else 0,af:=⟨bF m.af.ai (du c 1000),oC m⟩}) (λi e s he hd hx hw=> ?_) (λs hd=> ?_)).trans rfl
   ·simp only[hd,hx,hw,Qk,aS,Qa,HA (h.sm e he) (h.valid e he)];unfold n5
    by_cases c1:m.af.ai<fG e
    ·by_cases c2:fG e<s
     ·rw[Qg c1,Qg c2]
      cases c3:jm m (fG e)with
      |true=>rw[Qs (by simp)];rfl
      |false=>rw[Qr ⟨c1,c2,rfl⟩];rfl
     ·rw[Qg c1,Qh c2,Qs (λh=>c2 h.2.1)];rfl
    ·rw[Qh c1,Qs (λh=>c1 h.1)];rfl
   ·simp only[hd,Ql,aS];unfold oC
    by_cases h1:m.aQ=1
    ·rw[Qg h1,Qr h1]
     by_cases hv:dY m=m.af.Value
     ·simp only[Qk,Qg hv,Qo,Ql,Qr hv]
     ·simp only[Qk,Qh hv,Qp,Qs hv]
    ·rw[Qh h1,Qs h1];simp only[Ql,decide_true,Qo,Qt]
end
section
def dm(b:ah):Prop:=1<=b.ai/\b.ai<=1000/\1<=b.Value.size/\b.Value.size<=200
def dm.valid{b:ah}(h:dm b):cP b=true:=by obtain⟨h1,h2,h3,h4⟩:=h;simp only[cP,Qm,Qn,Qi];exact⟨⟨.inl ⟨h1,h2⟩,h3⟩,h4⟩
def dm.finite{b:ah}(h:dm b):finite b=true:=by unfold Go.Proofs.YtofedieniojipaaGreat.finite;rw[h.valid,Qg h.2.1];rfl
def YQ{b:ah}(h:cP b=true)(hc:b.ai<=1000):dm b:=by simp only[cP,Qm,Qn,Qi]at h;obtain⟨⟨h1,h2⟩,h3⟩:=h;exact⟨by omega,hc,h2,h3⟩
def dm.nz{b:ah}(h:dm b):aP b=false:=O7 h.1
def dm.ne{b:ah}(h:dm b):b.Value≠gy:=by intro e;have:=h.2.2.1;rw[e]at this;exact absurd this (by decide)
def yW{b:ah}:aP b=true↔b=cg:=by obtain⟨c,v⟩:=b;simp[aP,cg]
def bV:aP cg=true:=yW.2 rfl
structure P1 (m:ab):Prop where
 ba:m.aQ=1
 aT:dm m.af
 dG:m.ao=cg\/dm m.ao
 bX:m.aD=cg\/(dm m.aD/\dm m.ao/\bC m.aD m.ao=true/\bR m.aD m.ao=false)
 ep:m.ax=cg\/(dm m.ax/\ec m.ao m.aD m.ax=true)
 up:bC m.af m.ax=false
 cm:m.bq=0
 low:m.aZ=0\/(1<=m.aZ/\m.aZ<=fE m/\oU m.ao m.aD m.af.Value m.aZ=false)
structure P2 (m:ab):Prop where
 ba:m.aQ=2
 aT:dm m.af
 dG:dm m.ao/\m.ao.Value=m.af.Value
 bX:m.aD=cg
 ep:m.ax=cg\/(dm m.ax/\m.ax.Value=m.af.Value)
 range:1<=m.aZ/\m.aZ<=m.bq/\m.bq<=m.ao.ai
structure P3 (m:ab):Prop where
 ba:m.aQ=3
 aT:dm m.af
 dG:m.ao=cg
 bX:m.aD=cg
 ep:m.ax=cg
 range:1<=m.aZ/\m.aZ<=m.bq/\m.bq<=1000
structure P0 (m:ab):Prop where
 ba:m.aQ=1
 aT:m.af=cg
 dG:m.ao=cg
 bX:m.aD=cg
 ep:m.ax=cg
 low:m.aZ=0
 cm:m.bq=0
structure bs (m:ab):Prop where
 n0:0<=m.al
 n1:m.al<10
 aJ:1<=m.aK/\m.aK<=1000000
 seq:0<=m.aH/\m.aH<=1000000
 aN:dt m.aa
 tP:m.bg.size<=200
 hv:∀e∈m.ar,bc e=true/\dt e.aa/\e.aK=m.aK/\e.al≠m.al
 cZ:m.ar.Pairwise (λa b=>a.al<b.al)
 body:P0 m\/P1 m\/P2 m\/P3 m
def Of:∀(l:List ak) (k:Nat),k<=10->(∀e∈l,(k:Int)<=e.al/\e.al<10)->l.Pairwise (λa b=>a.al<b.al)->l.length+k<=10
 |[],k,hk,_,_=>by simpa using hk
 |x::l,k,hk,h,hp=>by
  rw[Q4]at hp;have hx:=h x Qx;have:=Of l (k+1) (by omega) (λe he=>⟨by have:=hp.1 e he;omega,(h e (Qy _ he)).2⟩) hp.2
  rw[QE];omega
def bs.len{m:ab}(h:bs m):m.ar.length<=10:=by
 have:=Of m.ar 0 (by omega) (λe he=>by have:=kD (h.hv e he).1;omega) h.cZ
 omega
def bs.ev{m:ab}(h:bs m):wJ m:=
 ⟨h.n0,h.n1,h.aN.sm,by have:=h.len;omega,λe he=>(h.hv e he).2.1.sm,λe he=>(h.hv e he).1⟩
def PK{m:ab}(h:P1 m):0<=fE m/\fE m<=m.af.ai/\(fE m=0\/(dm m.ax/\m.ax.Value=m.af.Value/\fE m=m.ax.ai)):=by
 unfold fE;split
 ·rename_i hc;simp only[Qm,Bool.not_eq_true',bR,Qi]at hc;rcases h.ep with e|⟨hf,_⟩
  ·rw[e,bV]at hc;cases hc.1
  ·have hup:=h.up;unfold bC at hup;split at hup
   ·rename_i e;exact⟨by have:=hf.1;omega,by omega,.inr ⟨hf,hc.2,rfl⟩⟩
   ·simp only[Qj]at hup;exact⟨by have:=hf.1;omega,by omega,.inr ⟨hf,hc.2,rfl⟩⟩
 ·exact⟨Int.le_refl _,by have:=h.aT.1;omega,.inl rfl⟩
def Tz{m:ab}(h:bs m)(hz:aP m.af=false):bc (jj m)=true:=by
 have hseq:1<=(jj m).aH/\(jj m).aH<=1000000:=by
  have h1:(jj m).aH=bF m.aH 1:=by show bF (dg m).aH 1=_;rw[Wx]
  have:=h.seq;rw[h1];unfold bF;split<;>omega
 have hnode:(jj m).al=m.al:=zi m;have hslot:(jj m).aK=m.aK:=Fs m
 have hhead:Ae (jj m)=true:=by unfold Ae;rw[hnode,hslot];simp only[Qm,Qi];exact⟨⟨⟨⟨⟨h.n0,h.n1⟩,h.aJ.1⟩,h.aJ.2⟩,hseq.1⟩,hseq.2⟩
 unfold bc;rw[OQ,vJ h.aN];unfold gX;rw[hhead];have hkind:(jj m).bA=m.aQ:=ab2 m;rw[hkind];rcases h.body with h0|h1|h2|h3
 ·rw[h0.aT,bV]at hz;cases hz
 ·rw[Qr h1.ba];have hh:=PK h1;have e:jj m=⟨m.al,m.aK,bF (dg m).aH 1,m.aa,m.aQ,m.af,m.ao,m.aD,m.aZ,fE m⟩:=by unfold jj dg;rw[Qr h1.ba]
  have hp:(aP m.ao||cP m.ao)=true:=by
   rcases h1.dG with e|hf
   ·rw[e,bV];rfl
   ·rw[hf.valid,Bool.or_true]
  have hq:(aP m.aD||cP m.aD)=true:=by
   rcases h1.bX with e|hf
   ·rw[e,bV];rfl
   ·rw[hf.1.valid,Bool.or_true]
  have hpo:DF (jj m)=true:=by
   rw[e];unfold DF;rcases h1.bX with e|⟨_,hf,hl,hc⟩
   ·simp only[e,bV,Bool.true_or]
   ·simp only[hf.nz,hl,hc,Qp,Bool.and_self,Bool.or_true]
  have hhp:(decide (fE m=0)||ec m.ao m.aD ⟨fE m,m.af.Value⟩)=true:=by
   rcases hh.2.2 with e|⟨hf,hv,e⟩
   ·rw[Qg e];rfl
   ·rw[e,<-hv];rcases h1.ep with e2|⟨_,hp⟩
    ·have:=hf.nz;rw[e2,bV]at this;cases this
    ·rw[hp,Bool.or_true]
  have hlow:0<=m.aZ/\m.aZ<=fE m/\(decide (m.aZ=0)||(!eO m.ao ⟨m.aZ,m.af.Value⟩&& !eO m.aD ⟨m.aZ,m.af.Value⟩))=true:=by
   rcases h1.low with e|⟨h5,h6,h7⟩
   ·rw[e];exact⟨Int.le_refl _,hh.1,rfl⟩
   ·refine⟨by omega,h6,?_⟩
    unfold oU at h7;rw[Qq74]at h7;rw[h7.1,h7.2];simp
  unfold gY;rw[hpo];rw[e];unfold at_
  simp only[h1.aT.finite,hp,hq,Qg hlow.1,Qg hlow.2.1,Qg hh.2.1,hhp,hlow.2.2,Bool.and_self,decide_true]
 ·rw[Qs (by rw[h2.ba];decide),Qr h2.ba]
  have e:jj m=⟨m.al,m.aK,bF (dg m).aH 1,m.aa,m.aQ,m.af,m.ao,cg,m.aZ,m.bq⟩:=by unfold jj dg;rw[Qs (by rw[h2.ba];decide),Qr h2.ba]
  have hc:m.bq<=1000:=by have:=h2.range.2.2;have:=h2.dG.1.2.1;omega
  unfold wi uD;rw[e];simp only[h2.aT.finite,h2.dG.1.valid,bR,Qg h2.dG.2,bV,Qg h2.range.1,Qg h2.range.2.1,Qg h2.range.2.2,Qg hc,Bool.and_self,decide_true]
 ·rw[Qs (by rw[h3.ba];decide),Qs (by rw[h3.ba];decide),Qr h3.ba]
  have e:jj m=⟨m.al,m.aK,bF (dg m).aH 1,m.aa,m.aQ,m.af,cg,cg,m.aZ,m.bq⟩:=by unfold jj dg;rw[Qs (by rw[h3.ba];decide),Qs (by rw[h3.ba];decide)]
  unfold BT uD;rw[e];simp only[h3.aT.valid,bV,Qg h3.range.1,Qg h3.range.2.1,Qg h3.range.2.2,Bool.and_self,decide_true]
def bs.FA{m:ab}(h:bs m):∀e∈bN m,bc e=true:=by
 intro e he;rcases EG he with he|⟨hz,rfl⟩
 ·exact(h.hv e he).1
 ·exact Tz h hz
def bs.afX{m:ab}(h:bs m){e:ak}(he:e∈bN m)(hn:e.al.toNat=m.al.toNat):aP m.af=false/\e=jj m:=by
 rcases EG he with he|⟨hz,rfl⟩
 ·have h1:=(h.hv e he).2.2.2;have h2:=kD (h.hv e he).1;have:=h.n0;omega
 ·exact⟨hz,rfl⟩
end
section
def ze(a b:ah):bC a b=true↔a.ai<b.ai\/(a.ai=b.ai/\bP a.Value b.Value=true):=by
 unfold bC;split
 ·rename_i e;rw[e];simp
 ·rename_i e;simp only[Qi];constructor
  ·exact .inl
  ·rintro(h|h)
   ·exact h
   ·exact absurd h.1 e
def nk{a b c:ah}(h:bC a b=true)(h':bC b c=true):bC a c=true:=E3.trans _ _ _ h h'
def abJ(a:ah):bC a a=false:=E3.irrefl a
def JZ{a b:ah}(h:bC a b=false)(h':a≠b):bC b a=true:=by
 cases h1:bC b a with
 |true=>rfl
 |false=>exact absurd (E3.total a b h h1) h'
def jc{a b:ah}(h:bC a b=true):a.ai<=b.ai:=by rw[ze]at h;omega
def Nh{a b:ah}(h:bC a b=false):b.ai<=a.ai:=by
 rcases Int.lt_or_le a.ai b.ai with h1|h1
 ·rw[(ze a b).2 (.inl h1)]at h;cases h
 ·exact h1
def abH(v:ByteArray):bP v v=false:=jx.irrefl v
def HP{a b:ah}(hv:a.Value=b.Value):bC a b=decide (a.ai<b.ai):=by
 unfold bC;split
 ·rename_i e;rw[hv,abH,e];simp
 ·rfl
def KA{p x:ah}(h:jJ p x=true):bC p x=false:=by obtain⟨_,h2,h3⟩:=(lV p x).1 h;rw[HP h2,Qj];omega
def T3{p x q:ah}(h:jJ p x=true)(hq:bC p q=true):bC x q=true:=by
 by_cases e:x=p
 ·rw[e];exact hq
 ·exact nk (JZ (KA h) (λh=>e h.symm)) hq
def jD{a b:ah}:bR a b=true↔a.Value=b.Value:=decide_eq_true_iff
def js{a b:ah}:bR a b=false↔a.Value≠b.Value:=Qj
def D2(p q x:ah):ec p q x=true↔jJ p x=true\/jJ q x=true\/(aP q=false/\bC x q=true):=by unfold ec;simp only[Qn,Qm,Bool.not_eq_true'];exact⟨λh=>by rcases h with(h|h)|h<;>simp[h],λh=>by rcases h with h|h|h<;>simp[h]⟩
def uI(p q:ah):Prop:=(p=cg\/dm p)/\(q=cg\/(dm q/\dm p/\bC q p=true/\bR q p=false))
def P1.gY{m:ab}(h:P1 m):uI m.ao m.aD:=⟨h.dG,h.bX⟩
def NL{b:ah}(h:dm b):b≠cg:=λe=>by have:=h.nz;rw[e,bV]at this;cases this
inductive w8 (p q b:ah):ah->ah->Prop where
 |same:w8 p q b p q
 |first (hp:p=cg) (hq:q=cg):w8 p q b b cg
 |up (hp:dm p) (hl:bC p b=true) (hc:p.Value=b.Value):w8 p q b b q
 |HG (hp:dm p) (hl:bC p b=true) (hc:p.Value≠b.Value):w8 p q b b p
 |under (hp:dm p) (hl:bC b p=true) (hc:b.Value≠p.Value) (hq:q=cg\/bC q b=true):w8 p q b p b
def age{p q b:ah}(h:uI p q)(hb:b=cg\/dm b):w8 p q b (dy p q b).1 (dy p q b).2:=by
 unfold dy;rcases hb with rfl|hb
 ·rw[Qr bV];exact .same
 rw[Qs (by rw[hb.nz];decide)]
 rcases h.1 with rfl|hp
 ·have hq:q=cg:=by
   rcases h.2 with e|⟨_,e,_⟩
   ·exact e
   ·exact absurd rfl (NL e)
  rw[Qr bV,hq];exact .first rfl rfl
 rw[Qs (by rw[hp.nz];decide)]
 by_cases hl:bC p b=true
 ·rw[Qr hl]
  by_cases hc:bR p b=true
  ·rw[Qr hc]
   have hcq:bR q b=false:=by
    rw[jD]at hc;rw[js];rcases h.2 with rfl|⟨_,_,_,e⟩
    ·exact λe=>hb.ne e.symm
    ·rw[js]at e;rw[<-hc];exact e
   rw[Qs (by rw[hcq];decide)]
   exact .up hp hl (jD.1 hc)
  ·rw[Qs hc];exact .HG hp hl (js.1 (by simpa using hc))
 ·rw[Qs hl];split
  ·rename_i hu;simp only[Qm,Qn,Bool.not_eq_true']at hu;refine .under hp hu.1.1 (js.1 hu.1.2) ?_;rcases hu.2 with e|e
   ·exact .inl (yW.1 e)
   ·exact .inr e
  ·exact .same
def w8.ok{p q b p' q':ah}(h:uI p q)(hb:b=cg\/dm b)(hj:w8 p q b p' q'):uI p' q':=by
 have hbf:∀{x:ah},bC x b=true\/dm b\/(dm x/\bC b x=true)->True:=λ_=>trivial
 cases hj with
 |same=>exact h
 |first hp hq=>exact⟨hb,.inl rfl⟩
 |up hp hl hc=>
  have hb':dm b:=by
   rcases hb with rfl|hb
   ·have h1:=jc hl;have h2:=hp.1;have:(cg:ah).ai=0:=rfl;omega
   ·exact hb
  refine⟨.inr hb',?_⟩;rcases h.2 with e|⟨h1,h2,h3,h4⟩
  ·exact .inl e
  ·refine .inr ⟨h1,hb',nk h3 hl,?_⟩;rw[js]at h4 ⊢;rw[<-hc];exact h4
 |HG hp hl hc=>
  have hb':dm b:=by
   rcases hb with rfl|hb
   ·have h1:=jc hl;have h2:=hp.1;have:(cg:ah).ai=0:=rfl;omega
   ·exact hb
  exact⟨.inr hb',.inr ⟨hp,hb',hl,js.2 hc⟩⟩
 |under hp hl hc hq=>
  refine⟨.inr hp,?_⟩;rcases hb with e|hb
  ·exact .inl e
  ·exact .inr ⟨hb,hp,hl,js.2 hc⟩
def w8.mono{p q b p' q':ah}(h:uI p q)(hj:w8 p q b p' q'){x:ah}(hx:ec p q x=true):ec p' q' x=true:=by
 rw[D2]at hx ⊢
 have hqp:aP q=false->bC q p=true:=λhz=>by
  rcases h.2 with e|⟨_,_,e,_⟩
  ·rw[e,bV]at hz;cases hz
  ·exact e
 have hcq:jJ q x=true->aP q=false:=λhc=>((lV q x).1 hc).1
 cases hj with
 |same=>exact hx
 |first hp hq=>
  subst hp hq;rcases hx with hx|hx|hx
  ·have:=((lV _ _).1 hx).1;rw[bV]at this;cases this
  ·have:=((lV _ _).1 hx).1;rw[bV]at this;cases this
  ·rw[bV]at hx;cases hx.1
 |up hp hl hc=>
  rcases hx with hx|hx|hx
  ·obtain⟨h1,h2,h3⟩:=(lV _ _).1 hx;refine .inl ((lV _ _).2 ⟨?_,hc.symm.trans h2,Int.le_trans h3 (jc hl)⟩);have:=hp.1;have:=jc hl;exact O7 (by omega)
  ·exact .inr (.inl hx)
  ·exact .inr (.inr hx)
 |HG hp hl hc=>
  rcases hx with hx|hx|hx
  ·exact .inr (.inl hx)
  ·exact .inr (.inr ⟨hp.nz,T3 hx (hqp (hcq hx))⟩)
  ·exact .inr (.inr ⟨hp.nz,nk hx.2 (hqp hx.1)⟩)
 |under hp hl hc hq=>
  have hbz:aP q=false->bC q b=true:=λhz=>by
   rcases hq with e|e
   ·rw[e,bV]at hz;cases hz
   ·exact e
  have hbn:aP q=false->aP b=false:=λhz=>by
   have h1:=jc (hbz hz);rcases h.2 with e|⟨e,_⟩
   ·rw[e,bV]at hz;cases hz
   ·have:=e.1;exact O7 (by omega)
  rcases hx with hx|hx|hx
  ·exact .inl hx
  ·exact .inr (.inr ⟨hbn (hcq hx),T3 hx (hbz (hcq hx))⟩)
  ·exact .inr (.inr ⟨hbn hx.1,nk hx.2 (hbz hx.1)⟩)
def acx{p:ah}{v:ByteArray}{n k:Int}(h:eO p ⟨n,v⟩=false)(hk:n<=k):eO p ⟨k,v⟩=false:=X5 hk h
def U8{v:ByteArray}{n:Int}{x:ah}(hx:x=cg\/cP x=true):n<=yc v n x/\eO x ⟨yc v n x,v⟩=false:=by
 unfold yc;split
 ·rename_i hc;rw[Qm]at hc;have ha:=hc.2;unfold eO at ha;rw[Qm,Qm]at ha;have hle:n<=x.ai:=jc ha.2;split
  ·refine⟨by omega,?_⟩
   unfold eO;rw[Bool.and_eq_false_iff];right
   cases hl:bC ⟨x.ai+1,v⟩ x with
   |false=>rfl
   |true=>have:=jc hl;simp only at this;omega
  ·rename_i hn;exact⟨hle,by simpa using hn⟩
 ·rename_i hc;refine⟨Int.le_refl _,?_⟩;rcases hx with rfl|hv
  ·unfold eO;rw[bV];rfl
  ·rw[hv,Bool.true_and]at hc;simpa using hc
def YG{v:ByteArray}{n:Int}{p q:ah}(hp:p=cg\/cP p=true)(hq:q=cg\/cP q=true):n<=lL v n p q/\1<=lL v n p q/\oU p q v (lL v n p q)=false:=by
 unfold lL;obtain⟨h1,h2⟩:=U8 (v:=v) (n:=bF n 1) hp;obtain⟨h3,h4⟩:=U8 (v:=v) (n:=yc v (bF n 1) p) hq;have hm:n<=bF n 1/\1<=bF n 1:=by unfold bF;split<;>omega
 refine⟨by omega,by omega,?_⟩
 unfold oU;rw[h4,Bool.or_false];exact acx h2 h3
def Oc{v:ByteArray}{n:Int}{x:ah}(h:eO x ⟨n,v⟩=false):yc v n x=n:=by unfold yc;rw[h,Bool.and_false];rfl
def abF{v:ByteArray}{n:Int}{p q:ah}(h1:1<=n)(h:oU p q v n=false):lL v n p q=n:=by
 unfold oU at h;rw[Qq74]at h;have hm:bF n 1=n:=by unfold bF;split<;>omega
 unfold lL;rw[hm,Oc h.1,Oc h.2]
def uI.valid{p q:ah}(h:uI p q):(p=cg\/cP p=true)/\(q=cg\/cP q=true):=
 ⟨h.1.imp id dm.valid,h.2.imp id λh=>h.1.valid⟩
def Zk{e:ak}(hv:bc e=true){x:ah}(hx:x∈said e)(hz:aP x=false):cP x=true:=by
 have hv':=hv;unfold bc gX at hv';unfold said at hx;rw[Qr hv]at hx;rw[Qm,Qm]at hv';have hb:=hv'.2
 by_cases h1:e.bA=1
 ·rw[Qr h1]at hb hx;unfold gY at hb;simp only[Qm,Qn]at hb;obtain⟨⟨⟨⟨⟨⟨⟨⟨hf,hp⟩,hq⟩,_⟩,_⟩,_⟩,_⟩,_⟩,_⟩:=hb;simp only[QA,QR,or_false]at hx;rcases hx with rfl|rfl|rfl
  ·unfold finite at hf;rw[Qm]at hf;exact hf.1
  ·rcases hp with hp|hp
   ·rw[hp]at hz;cases hz
   ·exact hp
  ·rcases hq with hq|hq
   ·rw[hq]at hz;cases hz
   ·exact hq
 ·rw[Qs h1]at hb hx
  have hinf:∀{b:ah},cP b=true->cP ⟨1000000,b.Value⟩=true:=by intro b hb;simp only[cP,Qm,Qn,Qi]at hb ⊢;exact⟨⟨.inr trivial,hb.1.2⟩,hb.2⟩
  by_cases h2:e.bA=2
  ·rw[Qr h2]at hb hx;unfold wi at hb;simp only[Qm]at hb;obtain⟨⟨⟨⟨⟨hf,hp⟩,hc⟩,_⟩,_⟩,_⟩:=hb;simp only[QA,QR,or_false]at hx;rcases hx with rfl|rfl
   ·exact hp
   ·unfold finite at hf;rw[Qm]at hf;exact hinf hf.1
  ·rw[Qs h2]at hb hx;simp only[QA,QR,or_false]at hx;subst hx
   by_cases h3:e.bA=3
   ·rw[Qr h3]at hb;unfold BT at hb;simp only[Qm]at hb;exact hinf hb.1.1.1
   ·rw[Qs h3]at hb;cases hb
def Mm{e:ak}(hv:bc e=true):1<=e.af.Value.size/\e.af.Value.size<=200:=by
 have hv':=hv;unfold bc gX at hv';rw[Qm,Qm]at hv';have hb:=hv'.2
 have go:∀{b:ah},cP b=true->1<=b.Value.size/\b.Value.size<=200:=by intro b hb;simp only[cP,Qm,Qn,Qi]at hb;exact⟨hb.1.2,hb.2⟩
 have gof:∀{b:ah},finite b=true->1<=b.Value.size/\b.Value.size<=200:=by intro b hb;unfold finite at hb;rw[Qm]at hb;exact go hb.1
 by_cases h1:e.bA=1
 ·rw[Qr h1]at hb;unfold gY at hb;simp only[Qm]at hb;exact gof hb.1.1.1.1.1.1.1.1
 ·rw[Qs h1]at hb
  by_cases h2:e.bA=2
  ·rw[Qr h2]at hb;unfold wi at hb;simp only[Qm]at hb;exact gof hb.1.1.1.1.1
  ·rw[Qs h2]at hb
   by_cases h3:e.bA=3
   ·rw[Qr h3]at hb;unfold BT at hb;simp only[Qm]at hb;exact go hb.1.1.1
   ·rw[Qs h3]at hb;cases hb
def agW{b:ah}(h:cP b=true):dm (eC b):=by
 simp only[cP,Qm,Qn,Qi]at h;obtain⟨⟨h1,h2⟩,h3⟩:=h;unfold eC;split
 ·exact⟨(by decide:(1:Int)<=1000),(by decide:(1000:Int)<=1000),h2,h3⟩
 ·exact⟨by omega,by omega,h2,h3⟩
def Wu{α:Type}{l:List α}{p:α->Bool}{z:α}:(l.find? p).getD z=z\/((l.find? p).getD z∈l/\p ((l.find? p).getD z)=true):=by
 cases h:l.find? p with
 |none=>exact .inl rfl
 |some x=>exact .inr ⟨List.mem_of_find?_eq_some h,List.find?_some h⟩
def IY{m:ab}(h:bs m){x:ah}(hx:x∈fj (bN m)):cP x=true:=by obtain⟨e,he,h1,h2⟩:=((pE h.ev.vj.1.aN h.ev.vj.2).2.2.2 x).1 hx;exact Zk (h.FA e he) h1 h2
def TC{m:ab}(h:bs m):eZ m=cg\/(cP (eZ m)=true/\(Jm m=gy\/(eZ m).Value=Jm m)/\ec (qS m.ao) (qS m.aD) (eZ m)=false/\pD m.al.toNat m.aa (bN m) (eZ m)=true):=by
 unfold eZ ka;rcases Wu (l:=fj (bN m)) (p:=Dk (pD m.al.toNat m.aa (bN m)) m.ao m.aD (Jm m)) (z:=IJ)with e|⟨h1,h2⟩
 ·exact .inl e
 ·right;unfold Dk at h2;simp only[Qm,Qn,Bool.not_eq_true',Qi]at h2;exact⟨IY h h1,h2.1.1,h2.1.2,h2.2⟩
def Ak{m:ab}(h:bs m):eC (eZ m)=cg\/dm (eC (eZ m)):=by
 rcases TC h with e|⟨h1,_⟩
 ·left;rw[e];decide
 ·exact .inr (agW h1)
def Lb{m:ab}(h:bs m)(h1:uI m.ao m.aD):w8 m.ao m.aD (eC (eZ m)) (dy m.ao m.aD (eC (eZ m))).1 (dy m.ao m.aD (eC (eZ m))).2:=age h1 (Ak h)
def P2.gY{m:ab}(h:P2 m):uI m.ao m.aD:=⟨.inr h.dG.1,.inl h.bX⟩
def afM{m:ab}(h:bs m)(h1:P1 m):P1 (de m):=by
 unfold de;rw[Qs (by rw[h1.ba,h1.aT.nz];decide)]
 have hj:=Lb h h1.gY;generalize (dy m.ao m.aD (eC (eZ m))).1=p at hj;generalize (dy m.ao m.aD (eC (eZ m))).2=q at hj;have hok:=hj.ok h1.gY (Ak h);refine⟨h1.ba,h1.aT,hok.1,hok.2,?_,h1.up,h1.cm,?_⟩
 ·rcases h1.ep with e|⟨hf,hp⟩
  ·exact .inl e
  ·exact .inr ⟨hf,hj.mono h1.gY hp⟩
 ·show tV m p q=0\/(1<=tV m p q/\tV m p q<=fE m/\oU p q m.af.Value (tV m p q)=false);unfold tV
  by_cases hL:m.aZ=0
  ·rw[Qs (λh=>h.2 hL)];exact .inl hL
  ·rw[Qr ⟨h1.ba,hL⟩];split
   ·exact .inl rfl
   ·rename_i hlt;obtain⟨h2,h3,h4⟩:=YG (v:=m.af.Value) (n:=m.aZ) hok.valid.1 hok.valid.2;exact .inr ⟨h3,by omega,h4⟩
def Yq{m:ab}(h:bs m)(h2:P2 m):P2 (de m)/\m.ao.ai<=(de m).ao.ai/\(de m).aD=cg:=by
 unfold de;rw[Qs (by rw[h2.ba,h2.aT.nz];decide)]
 have hv:eC (eZ m)=cg\/(eC (eZ m)).Value=m.af.Value:=by
  rcases TC h with e|⟨h3,h4,_⟩
  ·left;rw[e];decide
  ·right;have hc:(eC (eZ m)).Value=(eZ m).Value:=by unfold eC;split<;>rfl
   have hvo:Jm m=m.af.Value:=Qr h2.ba;rw[hvo]at h4;rw[hc];exact h4.resolve_left h2.aT.ne
 have hj:=Lb h h2.gY;have hlow:∀p q,tV m p q=m.aZ:=λp q=>Qs (λh=>by have:=h.1;rw[h2.ba]at this;cases this)
 simp only[hlow];have hok:=hj.ok h2.gY (Ak h);generalize (dy m.ao m.aD (eC (eZ m))).1=p at hj hok;generalize (dy m.ao m.aD (eC (eZ m))).2=q at hj hok;generalize hb:eC (eZ m)=b at hj hv
 have key:dm p/\p.Value=m.af.Value/\m.ao.ai<=p.ai/\q=cg:=by
  cases hj with
  |same=>exact⟨h2.dG.1,h2.dG.2,Int.le_refl _,h2.bX⟩
  |first hp hq=>exact absurd hp (NL h2.dG.1)
  |up hp hl hc=>exact⟨hok.1.resolve_left (λe=>by have:=jc hl;rw[e]at this;have h9:=h2.dG.1.1;have:(cg:ah).ai=0:=rfl;omega),hc.symm.trans h2.dG.2,jc hl,h2.bX⟩
  |HG hp hl hc=>
   exfalso;rcases hv with e|e
   ·have:=jc hl;rw[e]at this;have h9:=h2.dG.1.1;have:(cg:ah).ai=0:=rfl;omega
   ·exact hc (h2.dG.2.trans e.symm)
  |under hp hl hc hq=>
   rcases hv with e|e
   ·exact⟨h2.dG.1,h2.dG.2,Int.le_refl _,e⟩
   ·exact absurd (e.trans h2.dG.2.symm) hc
 exact⟨⟨h2.ba,h2.aT,⟨key.1,key.2.1⟩,key.2.2.2,h2.ep,⟨h2.range.1,h2.range.2.1,Int.le_trans h2.range.2.2 key.2.2.1⟩⟩,key.2.2.1,key.2.2.2⟩
def Tq{m:ab}(h:bs m):bs (de m):=by
 have hid:m.aQ=3\/aP m.af=true->de m=m:=λhc=>Qr hc
 have mk:(P0 (de m)\/P1 (de m)\/P2 (de m)\/P3 (de m))->bs (de m):=by
  intro hb;unfold de at hb ⊢;split at hb
  ·rename_i hc;rw[Qr hc];exact h
  ·rename_i hc;rw[Qs hc];exact⟨h.n0,h.n1,h.aJ,h.seq,h.aN,h.tP,h.hv,h.cZ,hb⟩
 rcases h.body with h0|h1|h2|h3
 ·rw[hid (.inr (by rw[h0.aT];exact bV))];exact h
 ·exact mk (.inr (.inl (afM h h1)))
 ·exact mk (.inr (.inr (.inl (Yq h h2).1)))
 ·rw[hid (.inl h3.ba)];exact h
end
section
end
section
def wg(q:Int->Bool):∀(r:List Int) (lo:Int),dh q r lo<=lo
 |[],lo=>Int.le_refl _
 |e::r,lo=>by
  rw[dh];split
  ·exact wg q r lo
  ·split
   ·exact Int.le_trans (wg q r e) (by omega)
   ·exact Int.le_refl _
def Ev(q:Int->Bool):∀(r:List Int) (lo:Int),dh q r lo=lo\/q (dh q r lo)=true/\dh q r lo∈r
 |[],lo=> .inl rfl
 |e::r,lo=>by
  rw[dh];split
  ·exact(Ev q r lo).imp id λh=>⟨h.1,by simp[h.2]⟩
  ·split
   ·rename_i hq;rcases Ev q r e with h|h
    ·exact .inr ⟨by rw[h];exact hq,by rw[h];simp⟩
    ·exact .inr ⟨h.1,by simp[h.2]⟩
   ·exact .inl rfl
def Ew(q:Int->Bool)(r:List Int)(lo:Int)(h:∀x∈r,1<=x)(h1:1<=lo):1<=dh q r lo:=by
 rcases Ev q r lo with e|⟨_,e⟩
 ·omega
 ·exact h _ e
section
variable {aF : Nat} {t : aj} {l : List ak} (p q : ah)
end
end
section
def afa{m:ab}(h:bs m){p:ak->Bool}(hb:(ff p (c5 (bN m))).testBit m.al.toNat=true):aP m.af=false/\p (jj m)=true:=by rw[AY,List.any_eq_true]at hb;obtain⟨e,he,hp⟩:=hb;rw[Qm,Qi]at hp;obtain⟨h1,h2⟩:=h.afX ((List.mem_filter.1 he).1) hp.2;rw[<-h2];exact⟨h1,hp.1⟩
def WQ{m:ab}(h:bs m){b:ah}(hc:nG m.al.toNat m.aa (bN m) b=true):aP m.af=false/\et (jj m) b=true:=by have hsm:=oB (aF:=m.al.toNat) h.aN.sm h.ev.vj.1;have hg:=Ia hsm (mO (p:=(et · b)) (nF (bN m)));exact afa h (hg.inside _ hc).1
def XK{m:ab}(h1:m.aQ=1){b:ah}(ha:et (jj m) b=true):aP b=false/\ec m.ao m.aD b=true:=by
 have e:jj m=⟨m.al,m.aK,bF (dg m).aH 1,m.aa,m.aQ,m.af,m.ao,m.aD,m.aZ,fE m⟩:=by unfold jj dg;rw[Qr h1]
 rw[e]at ha;unfold et at ha;rw[Qm,Qr h1]at ha;simpa using ha
def abQ{m:ab}(h:bs m)(h1:P1 m):gV m=cg\/(dm (gV m)/\bC m.ax (gV m)=true/\ec m.ao m.aD (gV m)=true):=by
 unfold gV Ad;rcases Wu (l:=fj (bN m)) (p:=Ds (nG m.al.toNat m.aa (bN m)) m.ax) (z:=IJ)with e|⟨h2,h3⟩
 ·exact .inl e
 ·right;unfold Ds at h3;simp only[Qm,Qi]at h3;exact⟨YQ (IY h h2) h3.1.2,h3.1.1,(XK h1.ba (WQ h h3.2).2).2⟩
def agd{p q b:ah}{v:ByteArray}{n:Int}(hok:uI p q)(hb:ec p q b=true)(hv:b.Value≠v)(ha:oU p q v n=false):b.ai<=n:=by
 unfold oU at ha;rw[Qq74]at ha
 have key:∀x:ah,aP x=false->x.Value≠v->eO x ⟨n,v⟩=false->x.ai<=n:=by intro x hz hx h;unfold eO at h;rw[hz,(js (a:=x) (b:=⟨n,v⟩)).2 hx,Qp,Bool.and_self,Bool.true_and]at h;exact Nh h
 have hqp:aP q=false->dm q/\dm p/\bC q p=true/\q.Value≠p.Value:=λhz=>by
  rcases hok.2 with e|⟨e1,e2,e3,e4⟩
  ·rw[e,bV]at hz;cases hz
  ·exact⟨e1,e2,e3,js.1 e4⟩
 rw[D2]at hb;rcases hb with hb|hb|⟨hz,hl⟩
 ·obtain⟨h1,h2,h3⟩:=(lV _ _).1 hb;have:=key p h1 (by rw[h2];exact hv) ha.1
  omega
 ·obtain⟨h1,h2,h3⟩:=(lV _ _).1 hb;have:=key q h1 (by rw[h2];exact hv) ha.2
  omega
 ·obtain⟨e1,e2,e3,e4⟩:=hqp hz;have h5:=jc hl
  by_cases hqv:q.Value=v
  ·have:=key p e2.nz (by rw[<-hqv];exact λe=>e4 e.symm) ha.1
   have:=jc e3;omega
  ·have:=key q hz hqv ha.2;omega
def ajr{m:ab}(h1:P1 m){b:ah}(hb:dm b)(hl:bC m.ax b=true)(hp:ec m.ao m.aD b=true):P1 (C2 m b)/\(C2 m b).ao=m.ao/\(C2 m b).aD=m.aD/\(C2 m b).ax=b/\m.af.ai<=(C2 m b).af.ai:=by
 unfold C2;have hh:=PK h1;split
 ·rename_i hlt
  have hhigh:∀L:Int,fE {m with ax:=b,af:=b,aZ:=L}=b.ai:=by intro L;unfold fE;rw[Qr];rw[hb.nz,jD.2 rfl];rfl
  refine⟨⟨h1.ba,hb,h1.dG,h1.bX,.inr ⟨hb,hp⟩,abJ b,h1.cm,?_⟩,rfl,rfl,rfl,jc hlt⟩;show(if bR m.af b=true then m.aZ else 0)=0\/(1<=(if bR m.af b=true then m.aZ else 0)/\(if bR m.af b=true then m.aZ else 0)<=fE {m with ax:=b,af:=b,aZ:=if bR m.af b=true then m.aZ else 0}/\oU m.ao m.aD b.Value (if bR m.af b=true then m.aZ else 0)=false)
  rw[hhigh];split
  ·rename_i hc;rw[jD]at hc;rcases h1.low with e|⟨h2,h3,h4⟩
   ·exact .inl e
   ·refine .inr ⟨h2,?_,by rw[<-hc];exact h4⟩
    have:=jc hlt;omega
  ·exact .inl rfl
 ·rename_i hlt;have hlt:bC m.af b=false:=by simpa using hlt
  refine⟨⟨h1.ba,h1.aT,h1.dG,h1.bX,.inr ⟨hb,hp⟩,hlt,h1.cm,?_⟩,rfl,rfl,rfl,Int.le_refl _⟩;rcases h1.low with e|⟨h2,h3,h4⟩
  ·exact .inl e
  ·refine .inr ⟨h2,?_,h4⟩;show m.aZ<=fE {m with ax:=b}
   have hv:b.Value=m.af.Value:=by
    refine Classical.byContradiction λhv=> ?_
    have h5:=agd h1.gY hp hv h4;have h6:=jc hl;rcases hh.2.2 with e|⟨e1,e2,e3⟩
    ·omega
    ·
     have e4:bC b m.ax=false:=E3.asymm hl;have e5:=hl;rw[ze]at e5;have hbc:b.ai=m.ax.ai:=by omega
     have hlow:m.aZ=m.ax.ai:=by omega
     have e6:bC ⟨m.aZ,m.af.Value⟩ b=true:=by
      have:(⟨m.aZ,m.af.Value⟩:ah)=m.ax:=by rw[hlow,<-e2]
      rw[this];exact hl
     unfold oU at h4;rw[Qq74]at h4
     have key:∀x:ah,aP x=false->x.Value≠m.af.Value->eO x ⟨m.aZ,m.af.Value⟩=false->bC ⟨m.aZ,m.af.Value⟩ x=false:=by intro x hz hx h;unfold eO at h;rw[hz,(js (a:=x) (b:=⟨m.aZ,m.af.Value⟩)).2 hx,Qp,Bool.and_self,Bool.true_and]at h;exact h
     rw[D2]at hp;rcases hp with hp|hp|⟨hz,hq⟩
     ·obtain⟨g1,g2,g3⟩:=(lV _ _).1 hp;have g4:=key _ g1 (by rw[g2];exact hv) h4.1
      have g5:bC ⟨m.aZ,m.af.Value⟩ m.ao=true:=by
       by_cases e:b=m.ao
       ·rw[<-e];exact e6
       ·exact nk e6 (JZ (KA hp) (λe'=>e e'.symm))
      rw[g5]at g4;cases g4
     ·obtain⟨g1,g2,g3⟩:=(lV _ _).1 hp;have g4:=key _ g1 (by rw[g2];exact hv) h4.2
      have g5:bC ⟨m.aZ,m.af.Value⟩ m.aD=true:=by
       by_cases e:b=m.aD
       ·rw[<-e];exact e6
       ·exact nk e6 (JZ (KA hp) (λe'=>e e'.symm))
      rw[g5]at g4;cases g4
     ·rcases h1.bX with e|⟨f1,f2,f3,f4⟩
      ·rw[e,bV]at hz;cases hz
      ·by_cases hqv:m.aD.Value=m.af.Value
       ·have g4:=key _ f2.nz (by rw[<-hqv];exact λe=>(js.1 f4) e.symm) h4.1
        rw[nk e6 (nk hq f3)]at g4;cases g4
       ·have g4:=key _ hz hqv h4.2;rw[nk e6 hq]at g4;cases g4
   have hhigh:fE {m with ax:=b}=b.ai:=by unfold fE;rw[Qr];show(!aP b&&bR b m.af)=true;rw[hb.nz,jD.2 hv];rfl
   rw[hhigh];rcases hh.2.2 with e|⟨e1,e2,e3⟩
   ·omega
   ·have:=jc hl;omega
def afc{m:ab}(h1:P1 m){b:ah}(hb:dm b)(hc:m.ax=b):P1 (rh m b):=by
 unfold rh;split
 ·rename_i hv;obtain⟨hL,hcp,hle⟩:=hv;rw[jD]at hcp;refine⟨h1.ba,h1.aT,h1.dG,h1.bX,h1.ep,h1.up,h1.cm,?_⟩;obtain⟨h2,h3,h4⟩:=YG (v:=b.Value) (n:=m.af.ai) h1.gY.valid.1 h1.gY.valid.2;refine .inr ⟨h3,?_,by show oU m.ao m.aD m.af.Value _=false;rw[hcp];exact h4⟩
  show lL b.Value m.af.ai m.ao m.aD<=fE {m with aZ:=lL b.Value m.af.ai m.ao m.aD}
  have hhigh:fE {m with aZ:=lL b.Value m.af.ai m.ao m.aD}=b.ai:=by
   unfold fE;rw[Qr]
   ·show m.ax.ai=_;rw[hc]
   ·show(!aP m.ax&&bR m.ax m.af)=true;rw[hc,hb.nz,jD.2 hcp.symm];rfl
  rw[hhigh];exact hle
 ·exact h1
def Y9(m:ab)(b:ah):(rh m b).ao=m.ao/\(rh m b).aD=m.aD/\(rh m b).ax=m.ax/\(rh m b).af=m.af:=by unfold rh;split<;>exact⟨rfl,rfl,rfl,rfl⟩
def vO{m:ab}(h:m.aQ≠1\/aP m.af=true\/aP (gV m)=true):gC m=m:=Qr h
def Fi{m m':ab}(h:bs m)(he:m'.al=m.al/\m'.aK=m.aK/\m'.aH=m.aH/\m'.aa=m.aa/\m'.bg=m.bg/\m'.ar=m.ar)(hb:P0 m'\/P1 m'\/P2 m'\/P3 m'):bs m':=by obtain⟨e1,e2,e3,e4,e5,e6⟩:=he;exact⟨by rw[e1];exact h.n0,by rw[e1];exact h.n1,by rw[e2];exact h.aJ,by rw[e3];exact h.seq,by rw[e4];exact h.aN,by rw[e5];exact h.tP,by rw[e6,e1,e2];exact h.hv,by rw[e6];exact h.cZ,hb⟩
structure je (m m':ab):Prop where
 aF:m'.al=m.al
 aJ:m'.aK=m.aK
 seq:m'.aH=m.aH
 aN:m'.aa=m.aa
 tP:m'.bg=m.bg
 heard:m'.ar=m.ar
def je.refl(m:ab):je m m:=⟨rfl,rfl,rfl,rfl,rfl,rfl⟩
def je.all{m m':ab}(h:je m m'):m'.al=m.al/\m'.aK=m.aK/\m'.aH=m.aH/\m'.aa=m.aa/\m'.bg=m.bg/\m'.ar=m.ar:=⟨h.aF,h.aJ,h.seq,h.aN,h.tP,h.heard⟩
def B6(m:ab):je m (de m):=by unfold de;split<;>exact⟨rfl,rfl,rfl,rfl,rfl,rfl⟩
def agq(m:ab)(b:ah):je m (C2 m b):=by unfold C2;split<;>exact⟨rfl,rfl,rfl,rfl,rfl,rfl⟩
def aaS(m:ab)(b:ah):je m (rh m b):=by unfold rh;split<;>exact⟨rfl,rfl,rfl,rfl,rfl,rfl⟩
def yZ(m:ab):je m (gC m):=by
 unfold gC;split
 ·exact .refl m
 ·have h1:=aaS (C2 m (gV m)) (gV m);have h2:=agq m (gV m);exact⟨h1.aF.trans h2.aF,h1.aJ.trans h2.aJ,h1.seq.trans h2.seq,h1.aN.trans h2.aN,h1.tP.trans h2.tP,h1.heard.trans h2.heard⟩
def zd(m:ab):je m (fX m):=by
 unfold fX NY Cm;split
 ·split<;>exact⟨rfl,rfl,rfl,rfl,rfl,rfl⟩
 ·split<;>exact⟨rfl,rfl,rfl,rfl,rfl,rfl⟩
def za(m:ab):je m (jf m):=by unfold jf P7;split<;>exact⟨rfl,rfl,rfl,rfl,rfl,rfl⟩
def B7(m:ab):je m (fR m):=by unfold fR;split<;>exact⟨rfl,rfl,rfl,rfl,rfl,rfl⟩
def RY{m:ab}(h:bs m)(h1:P1 m):P1 (gC m)/\(gC m=m\/((gC m).ao=m.ao/\(gC m).aD=m.aD/\bC m.ax (gC m).ax=true/\m.af.ai<=(gC m).af.ai)):=by
 unfold gC;split
 ·exact⟨h1,.inl rfl⟩
 ·rename_i hc;rcases abQ h h1 with e|⟨hf,hl,hp⟩
  ·exact absurd (.inr (.inr (by rw[e];exact bV))) hc
  ·obtain⟨g1,g2,g3,g4,g5⟩:=ajr h1 hf hl hp;obtain⟨v1,v2,v3,v4⟩:=Y9 (C2 m (gV m)) (gV m);exact⟨afc g1 hf g4,.inr ⟨v1.trans g2,v2.trans g3,by rw[v3,g4];exact hl,by rw[v4];exact g5⟩⟩
def Tp{m:ab}(h:bs m):bs (gC m):=by
 rcases h.body with h0|h1|h2|h3
 ·rw[vO (.inr (.inl (by rw[h0.aT];exact bV)))];exact h
 ·exact Fi h (yZ m).all (.inr (.inl (RY h h1).1))
 ·rw[vO (.inl (by rw[h2.ba];decide))];exact h
 ·rw[vO (.inl (by rw[h3.ba];decide))];exact h
def By{m:ab}(h:bs m)(v:ByteArray):∀x∈bu (bN m) v,1<=x/\x<=1000:=Fy h.ev.vj.1 h.ev.vj.2 v
def acF{m:ab}(h:bs m):∀v∈gG (bN m),1<=v.size/\v.size<=200:=by intro v hv;obtain⟨e,he,h1,h2⟩:=((wL h.ev.vj.1.aN h.ev.vj.2).2.2.2 v).1 hv;rw[h2];exact Mm h1
def aas{m:ab}(h:bs m){x:ByteArray->Int->Int->Bool}{p q:ah}:(ig x (bN m) p q).1=false\/(dm (ig x (bN m) p q).2/\(ig x (bN m) p q).2.Value∈gG (bN m)/\(ig x (bN m) p q).2.ai∈bu (bN m) (ig x (bN m) p q).2.Value/\
  oU p q (ig x (bN m) p q).2.Value (ig x (bN m) p q).2.ai=false/\x (ig x (bN m) p q).2.Value (ig x (bN m) p q).2.ai (ig x (bN m) p q).2.ai=true):=by
 let G:Bool×ah->Prop:=λs=>s.1=false\/(dm s.2/\s.2.Value∈gG (bN m)/\s.2.ai∈bu (bN m) s.2.Value/\oU p q s.2.Value s.2.ai=false/\x s.2.Value s.2.ai s.2.ai=true)
 have inner:∀(v:ByteArray),v∈gG (bN m)->∀(b:List Int),(∀n∈b,n∈bu (bN m) v)->∀s,G s->G (b.foldl (fY x p q v) s):=by
  intro v hv b
  induction b with
  |nil=>intro _ s hs;exact hs
  |cons n b ih=>
   intro hb s hs;rw[QU];refine ih (λk hk=>hb k (Qy _ hk)) _ ?_
   unfold fY;split
   ·rename_i hc;simp only[Qm,Bool.not_eq_true']at hc;have hn:=hb n Qx;have h1:=By h v n hn;have h2:=acF h v hv;exact .inr ⟨⟨h1.1,h1.2,h2.1,h2.2⟩,hv,hn,hc.1.2,hc.2⟩
   ·exact hs
 have outer:∀(vs:List ByteArray),(∀v∈vs,v∈gG (bN m))->∀s,G s->G (vs.foldl (λs v=>(bu (bN m) v).foldl (fY x p q v) s) s):=by
  intro vs
  induction vs with
  |nil=>intro _ s hs;exact hs
  |cons v vs ih=>intro hv s hs;rw[QU];exact ih (λu hu=>hv u (Qy _ hu)) _ (inner v (hv v Qx) _ (λn hn=>hn) s hs)
 exact outer _ (λv hv=>hv) (false,⟨0,gy⟩) (.inl rfl)
structure ajO (m:ab) (v:ByteArray) (lo hi:Int):Prop where
 fin:dm ⟨hi,v⟩
 lo1:1<=lo
 le:lo<=hi
 val:v∈gG (bN m)
 top:iv m v hi hi=true
 all:iv m v lo hi=true
def PW{m:ab}(h:bs m)(hk:(fT m).2.2.2.1=true):ajO m (fT m).1 (fT m).2.1 (fT m).2.2.1:=by
 rcases aas (x:=iv m) (p:=m.ao) (q:=m.aD) h with e|⟨h1,h2,h3,h4,h5⟩
 ·unfold fT rF at hk;rw[e]at hk;cases hk
 ·have hb:(ig (iv m) (bN m) m.ao m.aD).1=true:=by
   unfold fT rF at hk;split at hk
   ·assumption
   ·cases hk
  have e:fT m=((ig (iv m) (bN m) m.ao m.aD).2.Value,dh (λn=> !oU m.ao m.aD (ig (iv m) (bN m) m.ao m.aD).2.Value n&&iv m (ig (iv m) (bN m) m.ao m.aD).2.Value n (ig (iv m) (bN m) m.ao m.aD).2.ai) (bu (bN m) (ig (iv m) (bN m) m.ao m.aD).2.Value).reverse (ig (iv m) (bN m) m.ao m.aD).2.ai,(ig (iv m) (bN m) m.ao m.aD).2.ai,true,()):=by unfold fT rF;rw[Qr hb]
  rw[e];refine⟨h1,Ew _ _ _ (λx hx=>(By h _ x (List.mem_reverse.1 hx)).1) h1.1,wg _ _ _,h2,h5,?_⟩
  simp only;rcases Ev (λn=> !oU m.ao m.aD (ig (iv m) (bN m) m.ao m.aD).2.Value n&&iv m (ig (iv m) (bN m) m.ao m.aD).2.Value n (ig (iv m) (bN m) m.ao m.aD).2.ai) (bu (bN m) (ig (iv m) (bN m) m.ao m.aD).2.Value).reverse (ig (iv m) (bN m) m.ao m.aD).2.ai with e|⟨e,_⟩
  ·rw[e];exact h5
  ·rw[Qm]at e;exact e.2
def WR{m:ab}(hb0:m.af=cg\/dm m.af)(hp0:m.ao=cg\/dm m.ao){v:ByteArray}{lo hi:Int}(hf:dm ⟨hi,v⟩)(hlo:1<=lo)(hle:lo<=hi):P2 (NY m v lo hi):=by
 unfold NY
 have hmax:dm ⟨bF m.af.ai hi,v⟩:=by
  rcases hb0 with e|h2
  ·have:bF m.af.ai hi=hi:=by
    have h3:=hf.1;simp only at h3;have h4:m.af.ai=0:=by rw[e];rfl
    unfold bF;split<;>omega
   rw[this];exact hf
  ·have:bF m.af.ai hi=m.af.ai\/bF m.af.ai hi=hi:=by unfold bF;split<;>simp
   rcases this with e|e<;>rw[e]
   ·exact⟨h2.1,h2.2.1,hf.2.2⟩
   ·exact hf
 have hbv:∀b:ah,b=(if(!bR m.af ⟨hi,v⟩||bC m.af ⟨hi,v⟩)=true then⟨bF m.af.ai hi,v⟩else m.af)->dm b/\b.Value=v:=by
  intro b hb;split at hb
  ·rw[hb];exact⟨hmax,rfl⟩
  ·rename_i hc;rw[hb];simp only[Qn,Bool.not_eq_true',not_or,Bool.not_eq_false]at hc;refine⟨hb0.resolve_left (λe=> ?_),jD.1 hc.1⟩
   have:=jD.1 hc.1;rw[e]at this;exact hf.ne this.symm
 obtain⟨b1,b2⟩:=hbv _ rfl
 have hpv:∀p:ah,p=(if jJ m.ao ⟨hi,v⟩=true then m.ao else⟨hi,v⟩)->dm p/\p.Value=v/\hi<=p.ai:=by
  intro p hp;split at hp
  ·rename_i hc;rw[hp];obtain⟨g1,g2,g3⟩:=(lV _ _).1 hc;refine⟨?_,g2,g3⟩;rcases hp0 with e|e
   ·rw[e,bV]at g1;cases g1
   ·exact e
  ·rw[hp];exact⟨hf,rfl,Int.le_refl _⟩
 obtain⟨p1,p2,p3⟩:=hpv _ rfl;exact⟨rfl,b1,⟨p1,p2.trans b2.symm⟩,rfl,.inr ⟨hf,b2.symm⟩,⟨hlo,hle,p3⟩⟩
def Ww{m:ab}(h:bs m)(h2:P2 m):1<=(eV m).1/\(eV m).1<=(eV m).2/\(eV m).2<=1000/\(((eV m).2=m.bq/\(eV m).1<=m.aZ)\/m.bq<(eV m).2):=by
 have hr:=h2.range;have hH:m.bq<=1000:=by have:=h2.dG.1.2.1;omega
 have hb:∀x∈(bu (bN m) m.af.Value).reverse,1<=x:=λx hx=>(By h _ x (List.mem_reverse.1 hx)).1
 unfold eV F7;split
 ·refine⟨Ew _ _ _ hb hr.1,?_,hH,.inl ⟨rfl,wg _ _ _⟩⟩;exact Int.le_trans (wg _ _ _) hr.2.1
 ·rename_i n hn;have hnb:=By h _ n (List.mem_reverse.1 (List.mem_of_find?_eq_some hn));have hnp:=List.find?_some hn;simp only[Qm,Qi]at hnp;have h5:1<=dh (λx=>iv m m.af.Value x n) (bu (bN m) m.af.Value).reverse n:=Ew _ _ _ hb hnb.1
  have h6:=wg (λx=>iv m m.af.Value x n) (bu (bN m) m.af.Value).reverse n
  simp only;refine⟨Ew _ _ _ hb ?_,?_,hnb.2,.inr hnp.1⟩
  ·split
   ·exact h5
   ·exact hr.1
  ·refine Int.le_trans (wg _ _ _) ?_;split
   ·exact h6
   ·omega
def aac{m:ab}(h2:P2 m){lo hi:Int}(hlo:1<=lo)(hle:lo<=hi)(hhi:hi<=1000):P2 (Cm m lo hi):=by
 unfold Cm;have hb:=h2.aT;have hp:=h2.dG;have e1:∀c:Int,bF c hi=c\/bF c hi=hi:=λc=>by unfold bF;split<;>simp
 have e2:∀c:Int,hi<=bF c hi:=λc=>by unfold bF;split<;>omega
 have mx:∀c:Int,c<=1000->dm ⟨bF c hi,m.af.Value⟩:=by
  intro c hc;refine⟨by have:=e2 c;simp only;omega,?_,hb.2.2.1,hb.2.2.2⟩
  rcases e1 c with e|e<;>simp only[e]<;>omega
 refine⟨h2.ba,mx _ hb.2.1,⟨?_,?_⟩,h2.bX,.inr ⟨mx _ ?_,rfl⟩,⟨hlo,hle,e2 _⟩⟩
 ·show dm ⟨bF m.ao.ai hi,m.ao.Value⟩;rw[hp.2];exact mx _ hp.1.2.1
 ·exact hp.2
 ·rcases h2.ep with e|e
  ·rw[e];decide
  ·exact e.1.2.1
def Tv{m:ab}(h:bs m):bs (fX m):=by
 refine Fi h (zd m).all ?_;unfold fX;rcases h.body with h0|h1|h2|h3
 ·rw[Qr h0.ba];split
  ·rename_i hk;have hf:=PW h hk;exact .inr (.inr (.inl (WR (.inl h0.aT) (.inl h0.dG) hf.fin hf.lo1 hf.le)))
  ·exact .inl h0
 ·rw[Qr h1.ba];split
  ·rename_i hk;have hf:=PW h hk;exact .inr (.inr (.inl (WR (.inr h1.aT) h1.dG hf.fin hf.lo1 hf.le)))
  ·exact .inr (.inl h1)
 ·rw[Qs (by rw[h2.ba];decide),Qr h2.ba]
  have:=Ww h h2;exact .inr (.inr (.inl (aac h2 this.1 this.2.1 this.2.2.1)))
 ·rw[Qs (by rw[h3.ba];decide),Qs (by rw[h3.ba];decide)]
  exact .inr (.inr (.inr h3))
def ais{m:ab}(h:bs m)(hk:(pk m).2.2.1=true):1<=(pk m).1/\(pk m).1<=(pk m).2.1/\(pk m).2.1<=1000/\Oa m m.af.Value (pk m).1 (pk m).2.1=true:=by
 unfold pk Et at hk ⊢;split at hk
 ·rename_i n hn;have hnb:=By h _ n (List.mem_reverse.1 (List.mem_of_find?_eq_some hn));have hs:=List.find?_some hn;simp only;refine⟨Ew _ _ _ (λx hx=>(By h _ x (List.mem_reverse.1 hx)).1) hnb.1,wg _ _ _,hnb.2,?_⟩
  rcases Ev (λx=>Oa m m.af.Value x n) (bu (bN m) m.af.Value).reverse n with e|⟨e,_⟩
  ·rw[e];exact hs
  ·exact e
 ·cases hk
def Ys{m:ab}(h:bs m)(h2:P2 m)(hk:(pk m).2.2.1=true):P3 (P7 m (pk m).1 (pk m).2.1):=by obtain⟨g1,g2,g3,_⟩:=ais h hk;unfold P7;exact⟨rfl,⟨by simp only;omega,g3,h2.aT.2.2.1,h2.aT.2.2.2⟩,rfl,rfl,rfl,⟨g1,g2,g3⟩⟩
def Tu{m:ab}(h:bs m):bs (jf m):=by
 refine Fi h (za m).all ?_;unfold jf;split
 ·rename_i hc;rcases h.body with h0|h1|h2|h3
  ·have:=h0.ba;have:=hc.1;omega
  ·have:=h1.ba;have:=hc.1;omega
  ·exact .inr (.inr (.inr (Ys h h2 hc.2)))
  ·have:=h3.ba;have:=hc.1;omega
 ·exact h.body
def Z2{z:ah}:∀{l:List ah},l≠[]->Kp z l∈l
 |[],h=>absurd rfl h
 |x::l,_=>by
  show l.foldl (λa y=>if bC a y=true then y else a) x∈x::l
  suffices key:∀(l:List ah) (a:ah),l.foldl (λa y=>if bC a y=true then y else a) a=a\/l.foldl (λa y=>if bC a y=true then y else a) a∈l by
   rcases key l x with e|e
   ·rw[e];exact Qx
   ·exact Qy _ e
  intro l
  induction l with
  |nil=>intro a;exact .inl rfl
  |cons y l ih=>
   intro a;rw[QU];rcases ih (if bC a y=true then y else a)with e|e
   ·rw[e];split
    ·exact .inr Qx
    ·exact .inl rfl
   ·exact .inr (Qy _ e)
def afo{t:aj}(h:dt t){s:Nat}(hs:∀k,k<10->s.testBit k=true):mC s t=true:=by
 have hn:∀x:Int,0<=x->x<10->qe s x=true:=by
  intro x h0 h1;unfold qe fQ;rw[Qg h0,Qg h1,hs _ (by omega)]
  rfl
 have hc:t.bb.countP (qe s)=t.bb.length:=List.countP_eq_length.2 λx hx=>hn x (h.nodes x hx).1 (h.nodes x hx).2
 have hi:zw s t.aO=t.aO.length:=by
  rcases h.inner with e|⟨x,h0,h1,e⟩
  ·rw[e];rfl
  ·rw[e]
   have:mC s ⟨1,[x],[]⟩=true:=by rw[RI];simp[hn x h0 h1,zw]
   simp[zw,this]
 rw[RI,hc,hi,Qi];have:=h.th.2;omega
def aaC{m:ab}(h:bs m){n:Int}(ha:jm m n=true):∃e∈m.ar,n<fG e:=by
 refine Classical.byContradiction λhno=> ?_
 have hz:G7 m n=0:=by
  refine DK λk=> ?_
  unfold G7;rw[AY,Nat.zero_testBit,List.any_eq_false];intro e he;have:¬n<fG e:=λhlt=>hno ⟨e,he,hlt⟩
  simp[this]
 unfold jm Bz at ha;rw[hz,Qm]at ha
 have hown:pG (kP m.al.toNat m.aa (bN m)) m.al.toNat=m.aa:=by unfold pG;rw[Jj h.ev.aF.2 m.aa (bN m) h.ev.aF.2,Qr rfl];rfl
 rw[hown,afo h.aN (λk hk=>by rw[Dh (by omega)];simp[hk])]at ha
 cases ha.2
def Yb{m:ab}(h:bs m)(h1:m.aQ=1)(hc:m.ax=cg\/dm m.ax)(hh:m.ar≠[]\/m.bg≠gy\/m.ax≠cg):1<=(dY m).size/\(dY m).size<=200:=by
 unfold dY;split
 ·rename_i hz;rcases hc with e|e
  ·rw[e,bV]at hz;cases hz
  ·exact e.2.2
 ·rename_i hz;have hz:aP m.ax=true:=by simpa using hz
  rw[Qs (λh=>h h1)]
  split
  ·rename_i hp;refine⟨?_,h.tP⟩;rcases Nat.eq_zero_or_pos m.bg.size with e|e
   ·exfalso;apply hp;have:m.bg.data=#[]:=Array.eq_empty_of_size_eq_zero e
    cases hm:m.bg with
    |mk d=>rw[hm]at this;simp only at this;rw[this];rfl
   ·exact e
  ·rename_i hp
   have hne:m.ar≠[]:=by
    rcases hh with e|e|e
    ·exact e
    ·exact absurd e hp
    ·exact absurd (yW.1 hz) e
   have hm:=Z2 (z:=cg) (l:=m.ar.map (·.af)) (by simpa using hne)
   obtain⟨e,he,heq⟩:=QP.1 hm;rw[<-heq];exact Mm (h.hv e he).1
def acb{e:ak}(hv:bc e=true):1<=fG e/\(fG e<=1000\/fG e=1000000):=by
 unfold fG;split
 ·exact⟨by decide,.inr rfl⟩
 ·rename_i h3;have hv':=hv;unfold bc gX at hv';rw[Qm,Qm]at hv';have hb:=hv'.2
  have gof:∀{b:ah},finite b=true->1<=b.ai/\b.ai<=1000:=by intro b hb;unfold finite at hb;rw[Qm,Qi]at hb;have:=(YQ hb.1 hb.2);exact⟨this.1,this.2.1⟩
  by_cases h1:e.bA=1
  ·rw[Qr h1]at hb;unfold gY at hb;simp only[Qm]at hb;have:=gof hb.1.1.1.1.1.1.1.1;exact⟨this.1,.inl this.2⟩
  ·rw[Qs h1]at hb
   by_cases h2:e.bA=2
   ·rw[Qr h2]at hb;unfold wi at hb;simp only[Qm]at hb;have:=gof hb.1.1.1.1.1;exact⟨this.1,.inl this.2⟩
   ·rw[Qs h2,Qs h3]at hb;cases hb
def acj(m:ab):iz m=1000000\/(m.af.ai<iz m/\iz m<1000000/\jm m (iz m)=false/\∃e∈m.ar,iz m=fG e):=by
 unfold iz
 suffices key:∀(l:List ak),(∀e∈l,e∈m.ar)->∀s,(s=1000000\/(m.af.ai<s/\s<1000000/\jm m s=false/\∃e∈m.ar,s=fG e))->
   (l.foldl (n5 m) s=1000000\/(m.af.ai<l.foldl (n5 m) s/\l.foldl (n5 m) s<1000000/\jm m (l.foldl (n5 m) s)=false/\∃e∈m.ar,l.foldl (n5 m) s=fG e))from key _ (λe he=>he) _ (.inl rfl)
 intro l
 induction l with
 |nil=>intro _ s hs;exact hs
 |cons x l ih=>
  intro hm s hs;rw[QU];refine ih (λe he=>hm e (Qy _ he)) _ ?_
  unfold n5;split
  ·rename_i hc;exact .inr ⟨hc.1,by rcases hs with e|e<;>omega,hc.2.2,x,hm x Qx,rfl⟩
  ·exact hs
def KC{m:ab}(h:bs m)(hb:0<=m.af.ai/\m.af.ai<=1000):m.af.ai<=bF m.af.ai (du (iz m) 1000)/\bF m.af.ai (du (iz m) 1000)<=1000/\1<=bF m.af.ai (du (iz m) 1000)/\
  (bF m.af.ai (du (iz m) 1000)=m.af.ai->m.af.ai=1000)/\bF m.af.ai (du (iz m) 1000)=du (iz m) 1000:=by
 have hmin:du (iz m) 1000<=1000/\1<=du (iz m) 1000/\(m.af.ai<du (iz m) 1000\/du (iz m) 1000=1000):=by
  rcases acj m with e|⟨g1,g2,_,x,hx,g4⟩
  ·rw[e];exact⟨by decide,by decide,.inr (by decide)⟩
  ·have hc:=acb (h.hv x hx).1;rw[<-g4]at hc;have:iz m<=1000:=by omega
   have e:du (iz m) 1000=iz m:=by unfold du;split<;>omega
   rw[e];omega
 unfold bF;split<;>omega
def RZ{m:ab}(h:bs m)(h1:P0 m\/P1 m)(ha:jm m m.af.ai=true):P1 (fR m):=by
 have hph:m.aQ=1:=by rcases h1 with h|h<;>exact h.ba
 have hbc:0<=m.af.ai/\m.af.ai<=1000:=by
  rcases h1 with h|h
  ·rw[h.aT];decide
  ·have:=h.aT;exact⟨by have:=this.1;omega,this.2.1⟩
 obtain⟨c1,c2,c3,_⟩:=KC h hbc;obtain⟨e0,he0,_⟩:=aaC h ha
 have hconf:m.ax=cg\/dm m.ax:=by
  rcases h1 with h|h
  ·exact .inl h.ep
  ·exact h.ep.imp id (·.1)
 have hv:=Yb h hph hconf (.inl (List.ne_nil_of_mem he0));unfold fR;rw[Qs (by rw[hph,ha];decide)]
 have hnv:oC m=dY m:=Qr hph;rw[hnv];generalize hn:bF m.af.ai (du (iz m) 1000)=n at c1 c2 c3 ⊢
 have hpo:uI m.ao m.aD:=by
  rcases h1 with h|h
  ·exact⟨.inl h.dG,.inl h.bX⟩
  ·exact h.gY
 refine⟨hph,⟨c3,c2,hv.1,hv.2⟩,hpo.1,hpo.2,?_,?_,?_,?_⟩
 ·rcases h1 with h|h
  ·exact .inl h.ep
  ·exact h.ep
 ·show bC ⟨n,dY m⟩ m.ax=false;rcases hconf with e|e
  ·rw[e]
   cases hl:bC ⟨n,dY m⟩ cg with
   |false=>rfl
   |true=>have:=jc hl;have h0:(cg:ah).ai=0:=rfl;simp only at this;omega
  ·have hvc:dY m=m.ax.Value:=by unfold dY;rw[Qr e.nz]
   rw[HP (show(⟨n,dY m⟩:ah).Value=m.ax.Value from hvc),Qj]
   rcases h1 with h|h
   ·exact absurd h.ep (NL e)
   ·have:=Nh h.up;simp only;omega
 ·rcases h1 with h|h<;>exact h.cm
 ·show(if dY m=m.af.Value then m.aZ else 0)=0\/(1<=(if dY m=m.af.Value then m.aZ else 0)/\_<=_/\oU m.ao m.aD (dY m) (if dY m=m.af.Value then m.aZ else 0)=false)
  split
  ·rename_i hve;rcases h1 with h|h
   ·exact .inl h.low
   ·rcases h.low with e|⟨g1,g2,g3⟩
    ·exact .inl e
    ·refine .inr ⟨g1,?_,by rw[hve];exact g3⟩
     have:fE {m with aZ:=m.aZ,af:=⟨n,dY m⟩}=fE m:=by unfold fE bR;simp only[hve]
     show m.aZ<=fE {m with aZ:=m.aZ,af:=⟨n,dY m⟩}
     rw[this];exact g2
  ·exact .inl rfl
def Yr{m:ab}(h:bs m)(h2:P2 m):P2 (fR m):=by
 unfold fR;split
 ·exact h2
 ·obtain⟨c1,c2,c3,_⟩:=KC h ⟨by have:=h2.aT.1;omega,h2.aT.2.1⟩
  have hnv:oC m=m.af.Value:=Qs (by rw[h2.ba];decide)
  rw[hnv,Qr rfl];exact⟨h2.ba,⟨c3,c2,h2.aT.2.2⟩,h2.dG,h2.bX,h2.ep,h2.range⟩
def Tt{m:ab}(h:bs m):bs (fR m):=by
 have hid:m.aQ=3\/jm m m.af.ai=false->fR m=m:=λhc=>Qr hc
 cases ha:jm m m.af.ai with
 |false=>rw[hid (.inr ha)];exact h
 |true=>
  refine Fi h (B7 m).all ?_;rcases h.body with h0|h1|h2|h3
  ·exact .inr (.inl (RZ h (.inl h0) ha))
  ·exact .inr (.inl (RZ h (.inr h1) ha))
  ·exact .inr (.inr (.inl (Yr h h2)))
  ·rw[hid (.inl h3.ba)];exact .inr (.inr (.inr h3))
end
section
def lexLt{a a' b b' B:Nat}(hb:b<B)(h:a<a'):a*B+b<a'*B+b':=by have h1:(a+1)*B<=a'*B:=Qq63 B h;rw[Qq73]at h1;omega
def BM{a a' b b' B:Nat}(h:a=a')(hb:b<b'):a*B+b<a'*B+b':=by rw[h];omega
def HO{a b A B:Nat}(ha:a<A)(hb:b<B):a*B+b<A*B:=by have h1:(a+1)*B<=A*B:=Qq63 B ha;rw[Qq73]at h1;omega
def dm.sm{b:ah}(h:dm b):Sm b:=⟨by have:=h.1;omega,h.2.1,h.2.2.2⟩
def aby:Sm cg:=⟨by decide,by decide,by decide⟩
def vk{b:ah}(h:b=cg\/dm b):Sm b:=by
 rcases h with rfl|h
 ·exact aby
 ·exact h.sm
def SE{b:ah}(h:dm b):pn cg<pn b:=zf aby h.sm ((ze _ _).2 (.inl h.1))
 def t1(m:ab):Nat:=2*m.af.ai.toNat+(if m.af.Value=oC m then 1 else 0)
 def pq(m:ab):Nat:=pn m.ao*WB+pn m.aD
 def r1(m:ab):Nat:=(pq m*WB+pn m.ax)*2002+t1 m
def K1:Nat:=(WB*WB)*WB*2002
 def r2(m:ab):Nat:=(((m.bq.toNat*1001+(1000 - m.aZ).toNat)*WB+pn m.ao)*WB+pn m.ax)*1001+m.af.ai.toNat
def K2:Nat:=((1001*1001)*WB*WB)*1001
 def ky(m:ab):Nat:=if m.aQ=1 then r1 m else if m.aQ=2 then K1+r2 m else K1+K2
def BK(m:ab):Prop:=(m.ao=cg\/dm m.ao)/\(m.aD=cg\/dm m.aD)/\(m.ax=cg\/dm m.ax)/\(m.af=cg\/dm m.af)
def P0.ok{m:ab}(h:P0 m):BK m:=⟨.inl h.dG,.inl h.bX,.inl h.ep,.inl h.aT⟩
def P1.ok{m:ab}(h:P1 m):BK m:=⟨h.dG,h.bX.imp id (·.1),h.ep.imp id (·.1),.inr h.aT⟩
def P2.ok{m:ab}(h:P2 m):BK m:=⟨.inr h.dG.1,.inl h.bX,h.ep.imp id (·.1),.inr h.aT⟩
def Zf{m:ab}(h:BK m):t1 m<2002:=by
 have:m.af.ai<=1000:=by
  rcases h.2.2.2 with e|e
  ·rw[e];decide
  ·exact e.2.1
 unfold t1;split<;>omega
def ajc{m:ab}(h:BK m):pq m<WB*WB:=HO (s8 (vk h.1)) (s8 (vk h.2.1))
def ZC{m:ab}(h:BK m):r1 m<K1:=HO (HO (ajc h) (s8 (vk h.2.2.1))) (Zf h)
def P2.cm{m:ab}(h:P2 m):m.bq<=1000:=by have:=h.range.2.2;have:=h.dG.1.2.1;omega
def aeH{m:ab}(h:P2 m):r2 m<K2:=by
 have h1:=h.range;have h2:=h.cm;refine HO (HO (HO (HO (A:=1001) ?_ ?_) (s8 h.dG.1.sm)) (s8 (vk h.ok.2.2.1))) ?_
 ·omega
 ·omega
 ·have:=h.aT.2.1;omega
def zD{m:ab}(h:m.aQ=1):ky m=r1 m:=Qr h
def zC{m:ab}(h:m.aQ=2):ky m=K1+r2 m:=by unfold ky;rw[Qs (by omega),Qr h]
def aa3{m:ab}(h:m.aQ=3):ky m=K1+K2:=by unfold ky;rw[Qs (by omega),Qs (by omega)]
def Yi{m:ab}(h:bs m):ky m<=K1+K2:=by
 rcases h.body with h0|h1|h2|h3
 ·rw[zD h0.ba];have:=ZC h0.ok;omega
 ·rw[zD h1.ba];have:=ZC h1.ok;omega
 ·rw[zC h2.ba];have:=aeH h2;omega
 ·rw[aa3 h3.ba];exact QI _
def w8.up_{p q b p' q':ah}(h:uI p q)(hb:b=cg\/dm b)(hj:w8 p q b p' q'):(p'=p/\q'=q)\/pn p*WB+pn q<pn p'*WB+pn q':=by
 have hok:=hj.ok h hb;have hp:=vk h.1;have hq:Sm q:=vk (h.2.imp id (·.1))
 cases hj with
 |same=>exact .inl ⟨rfl,rfl⟩
 |first h1 h2=>
  subst h1 h2;rcases hb with e|e
  ·exact .inl ⟨e,rfl⟩
  ·exact .inr (lexLt (s8 hq) (SE e))
 |up h1 hl hc|HG h1 hl hc=>exact .inr (lexLt (s8 hq) (zf hp (vk hb) hl))
 |under h1 hl hc hq'=>
  rcases hq' with e|e
  ·subst e;rcases hb with e2|e2
   ·exact .inl ⟨rfl,e2⟩
   ·exact .inr (BM rfl (SE e2))
  ·exact .inr (BM rfl (zf hq (vk hb) e))
def Eb{m m':ab}(he:je m m')(h1:m'.aQ=m.aQ)(h2:m'.af=m.af)(h3:m'.ao=m.ao)(h4:m'.aD=m.aD)(h5:m'.ax=m.ax)(h6:m'.aZ=m.aZ)(h7:m'.bq=m.bq):m'=m:=by obtain⟨e1,e2,e3,e4,e5,e6⟩:=he;cases m;cases m';simp only at*;subst e1 e2 e3 e4 e5 e6 h1 h2 h3 h4 h5 h6 h7;rfl
def acP{m m':ab}(he:je m m')(h:E8 m m'=true):m'=m:=by unfold E8 at h;simp only[Qm,Qi,Tg]at h;obtain⟨⟨⟨⟨⟨⟨h1,h2⟩,h3⟩,h4⟩,h5⟩,h6⟩,h7⟩:=h;exact Eb he h1.symm h2.symm h3.symm h4.symm h5.symm h6.symm h7.symm
def zx(m:ab):E8 m m=true:=by unfold E8;simp only[decide_true,Tg.2 rfl,Bool.and_self]
def ajb{m m':ab}(h:BK m)(hlt:pq m<pq m'):r1 m<r1 m':=lexLt (Zf h) (lexLt (s8 (vk h.2.2.1)) hlt)
def aku{m m':ab}(h:BK m)(hpq:pq m=pq m')(hlt:pn m.ax<pn m'.ax):r1 m<r1 m':=lexLt (Zf h) (BM hpq hlt)
def akt{m m':ab}(hpq:pq m=pq m')(hc:m.ax=m'.ax)(hlt:t1 m<t1 m'):r1 m<r1 m':=BM (by rw[hpq,hc]) hlt
def OM{m:ab}(h1:P1 m):tV m m.ao m.aD=m.aZ:=by
 unfold tV;split
 ·rename_i hc;rcases h1.low with e|⟨g1,g2,g3⟩
  ·exact absurd e hc.2
  ·rw[abF g1 g3,Qs (by omega)]
 ·rfl
def aki{m:ab}(h:bs m):de m=m\/ky m<ky (de m):=by
 have hid:m.aQ=3\/aP m.af=true->de m=m:=λhc=>Qr hc
 rcases h.body with h0|h1|h2|h3
 ·exact .inl (hid (.inr (by rw[h0.aT];exact bV)))
 ·have hj:=(Lb h h1.gY).up_ h1.gY (Ak h);have he:de m={m with ao:=(dy m.ao m.aD (eC (eZ m))).1,aD:=(dy m.ao m.aD (eC (eZ m))).2,aZ:=tV m (dy m.ao m.aD (eC (eZ m))).1 (dy m.ao m.aD (eC (eZ m))).2}:=Qs (by rw[h1.ba,h1.aT.nz];decide)
  rcases hj with⟨e1,e2⟩|hlt
  ·left;rw[he,e1,e2,OM h1]
  ·right;rw[zD h1.ba,zD (by rw[he];exact h1.ba)]
   exact ajb h1.ok (by rw[he];exact hlt)
 ·have hj:=(Lb h h2.gY).up_ h2.gY (Ak h);have hk:=Yq h h2;have he:de m={m with ao:=(dy m.ao m.aD (eC (eZ m))).1,aD:=(dy m.ao m.aD (eC (eZ m))).2,aZ:=tV m (dy m.ao m.aD (eC (eZ m))).1 (dy m.ao m.aD (eC (eZ m))).2}:=Qs (by rw[h2.ba,h2.aT.nz];decide)
  have hlow:∀p q,tV m p q=m.aZ:=λp q=>Qs (λh=>by have:=h.1;rw[h2.ba]at this;cases this)
  rcases hj with⟨e1,e2⟩|hlt
  ·left;rw[he,e1,e2,hlow]
  ·right;rw[zC h2.ba,zC (by rw[he];exact h2.ba)]
   have e2:(dy m.ao m.aD (eC (eZ m))).2=m.aD:=by have h3:=hk.2.2;rw[he]at h3;exact h3.trans h2.bX.symm
   have hp:pn m.ao<pn (de m).ao:=by
    rw[he];simp only;rw[e2]at hlt;refine Nat.lt_of_not_le λhle=> ?_
    have:=Qq63 WB hle;omega
   have e3:(de m).bq=m.bq/\(de m).aZ=m.aZ/\(de m).ax=m.ax/\(de m).af=m.af:=by rw[he];exact⟨rfl,hlow _ _,rfl,rfl⟩
   have:r2 m<r2 (de m):=by unfold r2;rw[e3.1,e3.2.1,e3.2.2.1,e3.2.2.2];exact lexLt (by have:=h2.aT.2.1;omega) (lexLt (s8 (vk h2.ok.2.2.1)) (BM rfl hp))
   omega
 ·exact .inl (hid (.inl h3.ba))
def akh{m:ab}(h:bs m):gC m=m\/ky m<ky (gC m):=by
 rcases h.body with h0|h1|h2|h3
 ·exact .inl (vO (.inr (.inl (by rw[h0.aT];exact bV))))
 ·obtain⟨g1,g2⟩:=RY h h1;rcases g2 with e|⟨e1,e2,e3,_⟩
  ·exact .inl e
  ·right;rw[zD h1.ba,zD g1.ba];exact aku h1.ok (by unfold pq;rw[e1,e2]) (zf (vk h1.ok.2.2.1) (vk g1.ok.2.2.1) e3)
 ·exact .inl (vO (.inl (by rw[h2.ba];decide)))
 ·exact .inl (vO (.inl (by rw[h3.ba];decide)))
def O4(a b:Int):(bF a b=a/\b<=a)\/(bF a b=b/\a<b):=by unfold bF;split<;>omega
def po{a b:ah}(h1:a.ai=b.ai)(h2:a.Value=b.Value):a=b:=by cases a;cases b;simp only at h1 h2;rw[h1,h2]
def akl{m:ab}(h:bs m):fX m=m\/ky m<ky (fX m):=by
 have hC:m.aQ=1->BK m->fX m=m\/ky m<ky (fX m):=by
  intro hp hok
  by_cases hk:(fT m).2.2.2.1=true
  ·right;have e:fX m=NY m (fT m).1 (fT m).2.1 (fT m).2.2.1:=by unfold fX;rw[Qr hp,Qr hk]
   rw[zD hp,zC (by rw[e];rfl)]
   have:=ZC hok;omega
  ·left;unfold fX;rw[Qr hp,Qs hk]
 rcases h.body with h0|h1|h2|h3
 ·exact hC h0.ba h0.ok
 ·exact hC h1.ba h1.ok
 ·have e:fX m=Cm m (eV m).1 (eV m).2:=by unfold fX;rw[Qs (by rw[h2.ba];decide),Qr h2.ba]
  obtain⟨g1,g2,g3,g4⟩:=Ww h h2;have h2':=aac h2 g1 g2 g3;rw[e]
  have hr:m.bq.toNat<=1000/\(1000 - m.aZ).toNat<1001/\m.af.ai.toNat<1001:=by have:=h2.cm;have:=h2.range;have:=h2.aT.2.1;omega
  have hcB:m.ax=(Cm m (eV m).1 (eV m).2).ax\/pn m.ax<pn (Cm m (eV m).1 (eV m).2).ax:=by
   rcases h2.ep with e|⟨hf,hv⟩
   ·right;rw[e]
    exact SE (h2'.ep.resolve_left (λe=>by
     have h1:=h2'.range;have h3:(Cm m (eV m).1 (eV m).2).ax.ai=bF m.ax.ai (eV m).2:=rfl;rw[e]at h3;have h4:=O4 m.ax.ai (eV m).2;have h5:(cg:ah).ai=0:=rfl
     omega)).1
   ·rcases O4 m.ax.ai (eV m).2 with⟨e1,_⟩|⟨e1,e2⟩
    ·exact .inl (po e1.symm hv)
    ·right;refine zf hf.sm (vk h2'.ok.2.2.1) ((ze _ _).2 (.inl ?_));show m.ax.ai<bF m.ax.ai (eV m).2;omega
  have hpB:m.ao=(Cm m (eV m).1 (eV m).2).ao\/pn m.ao<pn (Cm m (eV m).1 (eV m).2).ao:=by
   rcases O4 m.ao.ai (eV m).2 with⟨e1,_⟩|⟨e1,e2⟩
   ·exact .inl (po e1.symm rfl)
   ·right;refine zf h2.dG.1.sm h2'.dG.1.sm ((ze _ _).2 (.inl ?_));show m.ao.ai<bF m.ao.ai (eV m).2;omega
  have hbB:m.af=(Cm m (eV m).1 (eV m).2).af\/m.af.ai<(Cm m (eV m).1 (eV m).2).af.ai:=by
   rcases O4 m.af.ai (eV m).2 with⟨e1,_⟩|⟨e1,e2⟩
   ·exact .inl (po e1.symm rfl)
   ·right;show m.af.ai<bF m.af.ai (eV m).2;omega
  rw[zC h2.ba,zC h2'.ba];have hPs:=s8 h2.dG.1.sm;have hCs:=s8 (vk h2.ok.2.2.1);have hHi:(Cm m (eV m).1 (eV m).2).bq=(eV m).2:=rfl;have hLo:(Cm m (eV m).1 (eV m).2).aZ=(eV m).1:=rfl;have fin:r2 m<r2 (Cm m (eV m).1 (eV m).2)->K1+r2 m<K1+r2 (Cm m (eV m).1 (eV m).2):=λh=>by omega
  have hrng:=h2.range;rcases g4 with⟨e1,e2⟩|e1
  ·rcases Int.lt_or_eq_of_le e2 with e3|e3
   ·
    refine .inr (fin (lexLt hr.2.2 (lexLt hCs (lexLt hPs (BM ?_ ?_)))))
    ·rw[hHi,e1]
    ·rw[hLo];omega
   ·rcases hpB with hp|hp
    ·rcases hcB with hc|hc
     ·rcases hbB with hb|hb
      ·left;exact Eb ⟨rfl,rfl,rfl,rfl,rfl,rfl⟩ rfl hb.symm hp.symm rfl hc.symm e3 e1
      ·refine .inr (fin (BM ?_ (by have:=h2.aT.1;omega)))
       rw[hHi,hLo,<-hp,<-hc,e1,e3]
     ·refine .inr (fin (lexLt hr.2.2 (BM ?_ hc)));rw[hHi,hLo,<-hp,e1,e3]
    ·refine .inr (fin (lexLt hr.2.2 (lexLt hCs (BM ?_ hp))));rw[hHi,hLo,e1,e3]
  ·refine .inr (fin (lexLt hr.2.2 (lexLt hCs (lexLt hPs (lexLt hr.2.1 ?_)))));rw[hHi];omega
 ·left;unfold fX;rw[Qs (by rw[h3.ba];decide),Qs (by rw[h3.ba];decide)]
def akk{m:ab}(h:bs m):jf m=m\/ky m<ky (jf m):=by
 by_cases hc:m.aQ=2/\(pk m).2.2.1=true
 ·right;have e:jf m=P7 m (pk m).1 (pk m).2.1:=Qr hc;rw[zC hc.1,aa3 (by rw[e];rfl)]
  rcases h.body with h0|h1|h2|h3
  ·have:=h0.ba;have:=hc.1;omega
  ·have:=h1.ba;have:=hc.1;omega
  ·have:=aeH h2;omega
  ·have:=h3.ba;have:=hc.1;omega
 ·exact .inl (Qs hc)
def akj{m:ab}(h:bs m):fR m=m\/ky m<ky (fR m):=by
 have hid:m.aQ=3\/jm m m.af.ai=false->fR m=m:=λhc=>Qr hc
 cases ha:jm m m.af.ai with
 |false=>exact .inl (hid (.inr ha))
 |true=>
  have hC:m.aQ=1->BK m->0<=m.af.ai/\m.af.ai<=1000->fR m=m\/ky m<ky (fR m):=by
   intro hp hok hb;obtain⟨c1,c2,c3,c4,_⟩:=KC h hb;have e:fR m={m with aZ:=if oC m=m.af.Value then m.aZ else 0,af:=⟨bF m.af.ai (du (iz m) 1000),oC m⟩}:=Qs (by rw[hp,ha];decide)
   have hnv:oC (fR m)=oC m:=by unfold oC dY;rw[e];simp only[hp,Qt,not_true_eq_false,Qu,ne_eq]
   by_cases hs:bF m.af.ai (du (iz m) 1000)=m.af.ai/\oC m=m.af.Value
   ·left;rw[e];refine Eb ⟨rfl,rfl,rfl,rfl,rfl,rfl⟩ rfl (po hs.1 hs.2) rfl rfl rfl ?_ rfl;exact Qr hs.2
   ·right;rw[zD hp,zD (by rw[e];exact hp)]
    refine akt (by rw[e];rfl) (by rw[e]) ?_
    unfold t1;rw[hnv];have hb':(fR m).af=⟨bF m.af.ai (du (iz m) 1000),oC m⟩:=by rw[e]
    rw[hb',Qr rfl];simp only
    by_cases hv:oC m=m.af.Value
    ·rw[Qr hv.symm];have:bF m.af.ai (du (iz m) 1000)≠m.af.ai:=λe=>hs ⟨e,hv⟩
     omega
    ·rw[Qs (λe=>hv e.symm)]
     omega
  rcases h.body with h0|h1|h2|h3
  ·exact hC h0.ba h0.ok (by rw[h0.aT];decide)
  ·exact hC h1.ba h1.ok ⟨by have:=h1.aT.1;omega,h1.aT.2.1⟩
  ·obtain⟨c1,c2,c3,c4,_⟩:=KC h ⟨by have:=h2.aT.1;omega,h2.aT.2.1⟩
   have hnv:oC m=m.af.Value:=Qs (by rw[h2.ba];decide)
   have e:fR m={m with af:=⟨bF m.af.ai (du (iz m) 1000),m.af.Value⟩}:=by unfold fR;rw[Qs (by rw[h2.ba,ha];decide),hnv,Qr rfl]
   rw[e]
   by_cases hs:bF m.af.ai (du (iz m) 1000)=m.af.ai
   ·left;exact Eb ⟨rfl,rfl,rfl,rfl,rfl,rfl⟩ rfl (po hs rfl) rfl rfl rfl rfl rfl
   ·right;rw[zC h2.ba,zC (show({m with af:=⟨bF m.af.ai (du (iz m) 1000),m.af.Value⟩}:ab).aQ=2 from h2.ba)]
    have:r2 m<r2 {m with af:=⟨bF m.af.ai (du (iz m) 1000),m.af.Value⟩}:=by refine BM rfl ?_;have:=h2.aT.1;show m.af.ai.toNat<(bF m.af.ai (du (iz m) 1000)).toNat;omega
    omega
  ·exact .inl (hid (.inl h3.ba))
end
section
def ajL(p:ak->Bool):Prop:=∀e s,p {e with aH:=s}=p e
structure Alike (l l':List ak):Prop where
 view:∀aF,aF<10->∀t,kP aF t l=kP aF t l'
 Ya:∀p,ajL p->ff p (c5 l)=ff p (c5 l')
 bal:fj l=fj l'
 val:gG l=gG l'
 jw:∀v,bu l v=bu l' v
section
variable {l l' : List ak} (h : Alike l l')
 include h
theorem Alike.acc{aF:Nat}(hn:aF<10)(t:aj):pD aF t l=pD aF t l':=by
 funext b
 unfold pD;rw[h.view aF hn t,h.Ya _ (λe s=>rfl),h.Ya _ (λe s=>rfl)]
theorem Alike.ep{aF:Nat}(hn:aF<10)(t:aj):nG aF t l=nG aF t l':=by
 funext b
 unfold nG;rw[h.view aF hn t,h.Ya _ (λe s=>rfl)]
theorem Alike.ready{aF:Nat}(hn:aF<10)(t:aj):nK aF t l=nK aF t l':=by
 funext v lo hi
 unfold nK;rw[h.view aF hn t,h.Ya _ (λe s=>rfl),h.Ya _ (λe s=>rfl)]
theorem Alike.sure{aF:Nat}(hn:aF<10)(t:aj):wh aF t l=wh aF t l':=by
 funext v lo hi
 unfold wh;rw[h.view aF hn t,h.Ya _ (λe s=>rfl)]
theorem Alike.next{aF:Nat}(hn:aF<10)(t:aj)(p q:ah)(v:ByteArray):ka aF t l p q v=ka aF t l' p q v:=by unfold ka;rw[h.bal,h.acc hn t]
theorem Alike.cm{aF:Nat}(hn:aF<10)(t:aj)(a:ah):Ad aF t l a=Ad aF t l' a:=by unfold Ad;rw[h.bal,h.ep hn t]
theorem Alike.Gc(x:ByteArray->Int->Int->Bool)(p q:ah):ig x l p q=ig x l' p q:=by
 unfold ig;rw[h.val];congr 1
 funext s v
 rw[h.jw]
theorem Alike.first(x:ByteArray->Int->Int->Bool)(p q:ah)(s:Bool×ah):rF x l p q s=rF x l' p q s:=by unfold rF;rw[h.jw]
end
def Ro{l l':List ak}(hl:td l)(hn:l.length<=1000)(hl':td l')(hn':l'.length<=1000)
  (h1:∀x,(∃e∈l,x∈said e/\aP x=false)↔∃e∈l',x∈said e/\aP x=false) (h2:∀x,(∃e∈l,bc e=true/\x=e.af.Value)↔∃e∈l',bc e=true/\x=e.af.Value)
  (h3:∀v x,x∈ends v l↔x∈ends v l'):fj l=fj l'/\gG l=gG l'/\∀v,bu l v=bu l' v:=by
 obtain⟨_,a2,_,a4⟩:=pE hl.aN hn;obtain⟨_,b2,_,b4⟩:=pE hl'.aN hn';obtain⟨_,c2,_,c4⟩:=wL hl.aN hn;obtain⟨_,d2,_,d4⟩:=wL hl'.aN hn';refine⟨E3.flip.unique a2 b2 λx=> ?_,jx.unique c2 d2 λx=> ?_,λv=> ?_⟩
 ·rw[a4,b4];exact h1 x
 ·rw[c4,d4];exact h2 x
 ·obtain⟨_,e2,_,e4⟩:=jE hl.aN hn v;obtain⟨_,f2,_,f4⟩:=jE hl'.aN hn' v;refine K4.unique (e2.imp λh=>Qg h) (f2.imp λh=>Qg h) λx=> ?_
  rw[e4,f4];exact h3 v x
def aaB{l l':List ak}(hl:td l)(hn:l.length<=1000)(ha:B0 l)(h:l.Perm l'):Alike l l':=by
 have hl':td l':=⟨by rw[<-h.length_eq];exact hl.len,λe he=>hl.aN e (h.mem_iff.2 he)⟩
 have hm:∀(P:ak->Prop),(∃e∈l,P e)↔∃e∈l',P e:=λP=>⟨λ⟨e,he,hp⟩=>⟨e,h.mem_iff.1 he,hp⟩,λ⟨e,he,hp⟩=>⟨e,h.mem_iff.2 he,hp⟩⟩
 obtain⟨a,b,c⟩:=Ro hl hn hl' (by rw[<-h.length_eq];exact hn) (λx=>hm _) (λx=>hm _) (λv x=>by rw[Ea,Ea];exact hm _)
 exact⟨λaF hn t=>Za hn t ha h,λp _=>aaQ (XE h) p,a,b,c⟩
def acs{l:List ak}(hl:td l)(hn:l.length<=1000)(f:ak->ak)(hf:∀e∈l,f e={e with aH:=(f e).aH}/\bc (f e)=bc e):Alike l (l.map f):=by
 have e1:∀e∈l,(f e).al=e.al/\(f e).aa=e.aa/\(f e).af=e.af/\(f e).bA=e.bA/\(f e).ao=e.ao/\(f e).aD=e.aD/\(f e).aZ=e.aZ/\(f e).bq=e.bq:=λe he=>by have:=(hf e he).1;rw[this];exact⟨rfl,rfl,rfl,rfl,rfl,rfl,rfl,rfl⟩
 have hl':td (l.map f):=⟨by rw[QC];exact hl.len,λe he=>by
  obtain⟨x,hx,rfl⟩:=QP.1 he
  rw[(e1 x hx).2.1];exact hl.aN x hx⟩
 have hm:∀(P:ak->Prop),(∀e∈l,P e↔P (f e))->((∃e∈l,P e)↔∃e∈l.map f,P e):=λP hP=>⟨λ⟨e,he,hp⟩=>⟨f e,QP.2 ⟨e,he,rfl⟩,(hP e he).1 hp⟩,λ⟨e,he,hp⟩=>by
  obtain⟨x,hx,rfl⟩:=QP.1 he
  exact⟨x,hx,(hP x hx).2 hp⟩⟩
 have hsaid:∀e∈l,said (f e)=said e:=λe he=>by
  obtain⟨g1,g2,g3,g4,g5,g6,g7,g8⟩:=e1 e he;unfold said at_
  rw[(hf e he).2,g4,g3,g5,g6]
 have hbnd:∀v,∀e∈l,kc v (f e)=kc v e:=λv e he=>by obtain⟨g1,g2,g3,g4,g5,g6,g7,g8⟩:=e1 e he;unfold kc;simp only[(hf e he).2,g3,g7]
 obtain⟨a,b,c⟩:=Ro hl hn hl' (by rw[QC];exact hn) (λx=>hm _ λe he=>by rw[hsaid e he]) (λx=>hm _ λe he=>by rw[(hf e he).2,(e1 e he).2.2.1])
  (λv x=>by rw[Ea,Ea];exact hm _ λe he=>by rw[hbnd v e he,(e1 e he).2.2.2.2.2.2.1,(e1 e he).2.2.2.2.2.2.2])
 refine⟨λaF hn t=> ?_,λp hp=> ?_,a,b,c⟩
 ·unfold kP;generalize (List.replicate 10 jk).set aF ⟨true,t⟩=ms
  suffices key:∀(k:List ak) (ms:List bj),(∀e∈k,e∈l)->k.foldl fF ms=(k.map f).foldl fF ms from key l ms λe he=>he
  intro k
  induction k with
  |nil=>intro ms _;rfl
  |cons x k ih=>
   intro ms hk;have hx:=hk x Qx
   have:fF ms (f x)=fF ms x:=by unfold fF;rw[(hf x hx).2,(e1 x hx).1,(e1 x hx).2.1]
   rw[QD,QU,QU,this];exact ih _ λe he=>hk e (Qy _ he)
 ·unfold c5
  suffices key:∀(k:List ak),(∀e∈k,e∈l)->ff p (k.filter bc)=ff p ((k.map f).filter bc)from key l λe he=>he
  intro k
  induction k with
  |nil=>intro _;rfl
  |cons x k ih=>
   intro hk;have hx:=hk x Qx
   have hpx:p (f x)=p x:=by rw[(hf x hx).1];exact hp x _
   rw[QD,List.filter_cons,List.filter_cons,(hf x hx).2];split
   ·rw[ff,ff,hpx,(e1 x hx).1,ih λe he=>hk e (Qy _ he)]
   ·exact ih λe he=>hk e (Qy _ he)
structure fS (m:ab):Prop where
 zero:aP m.af=true->m.aH=0
 pos:aP m.af=false->1<=m.aH
def JR(m:ab):ak:=⟨m.al,m.aK,m.aH,m.aa,m.aQ,m.af,m.ao,m.aD,m.aZ,if m.aQ=1 then fE m else m.bq⟩
def Ff(m:ab):dW m=some (JR m):=by
 unfold dW JR fE;simp only[aS,etas,dp,fU,Qa]
 by_cases h1:m.aQ=1
 ·rw[Qg h1,Qr h1];cases aP m.ax<;>cases bR m.ax m.af<;>rfl
 ·rw[Qh h1,Qs h1];rfl
def Lg{m:ab}(h:bs m):JR m=dg m:=by
 unfold JR dg;rcases h.body with h0|h1|h2|h3
 ·rw[Qr h0.ba,Qr h0.ba]
 ·rw[Qr h1.ba,Qr h1.ba]
 ·rw[Qs (by rw[h2.ba];decide),Qs (by rw[h2.ba];decide),Qr h2.ba,h2.bX]
 ·rw[Qs (by rw[h3.ba];decide),Qs (by rw[h3.ba];decide),Qs (by rw[h3.ba];decide),h3.bX,h3.dG]
def Yy{m:ab}(hs:fS m)(hz:aP m.af=false):jj m=dg m:=by
 unfold jj
 have:bF (dg m).aH 1=(dg m).aH:=by have:=hs.pos hz;rw[Wx];unfold bF;split<;>omega
 rw[this]
def wQ(m:ab):List ak:=if aP m.af=true then m.ar else m.ar++[JR m]
def ach{l:List ak}(hl:l.length<=1000):fo l=some l:=by
 unfold fo;have h1:bh 176 (List.length ([]:List ak)+List.length l)=true:=bD (by simp;omega)
 rw[h1]
 cases l with
 |nil=>simp
 |cons x l=>rfl
def JP{m:ab}(h:m.ar.length<=100):dz ⟨m⟩=some (wQ m,⟨m⟩):=by
 unfold dz wQ;simp only[etas,dp,Ff,Qa,ach (show m.ar.length<=1000 by omega)]
 cases aP m.af with
 |true=>rfl
 |false=>
  simp only[Ql,Qq,Qu];rw[bD (by simp;omega)]
  rfl
def bs.apart{m:ab}(h:bs m):B0 (bN m):=by
 have hs:∀a∈m.ar,∀b∈m.ar,a.al=b.al->a=b:=by
  have:=h.cZ;revert this;generalize m.ar=l;intro hp
  induction l with
  |nil=>intro a ha;cases ha
  |cons x l ih=>
   rw[Q4]at hp;intro a ha b hb e;rcases QA.1 ha with ha'|ha'<;>rcases QA.1 hb with hb'|hb'
   ·rw[ha',hb']
   ·have:=hp.1 b hb';rw[ha']at e;omega
   ·have:=hp.1 a ha';rw[hb']at e;omega
   ·exact ih hp.2 a ha' b hb' e
 intro a ha b hb e;rcases EG ha with ha|⟨_,rfl⟩<;>rcases EG hb with hb|⟨_,rfl⟩
 ·exact hs a ha b hb e
 ·exact absurd (e.trans (zi m)) (h.hv a ha).2.2.2
 ·exact absurd (e.symm.trans (zi m)) (h.hv b hb).2.2.2
 ·rfl
def Tw{m:ab}(h:bs m)(hs:fS m):(bN m).Perm (wQ m):=by
 unfold bN wQ;split
 ·exact .refl _
 ·rename_i hz;rw[Lg h,<-Yy hs (by simpa using hz)]
  exact Fo _ _
def nj{m:ab}(h:bs m)(hs:fS m):Alike (bN m) (wQ m):=aaB h.ev.vj.1 h.ev.vj.2 h.apart (Tw h hs)
def tQ{m:ab}(h:bs m)(hs:fS m):td (wQ m)/\(wQ m).length<=1000:=by have hp:=Tw h hs;have:=h.ev.vj;exact⟨⟨by rw[<-hp.length_eq];exact this.1.len,λe he=>this.1.aN e (hp.mem_iff.2 he)⟩,by rw[<-hp.length_eq];exact this.2⟩
section
variable {m : ab} (h : bs m) (hs : fS m)
 include h hs
theorem ahP(p q:ah)(v:ByteArray):pP m.al m.aa (wQ m) p q v=some (ka m.al.toNat m.aa (bN m) p q v):=by
 have:=afT h.ev.aF.2 h.ev.aN (tQ h hs).1 (tQ h hs).2 p q v
 rwa [h.ev.aF.1,<-(nj h hs).next h.ev.aF.2]at this
theorem ahR(a:ah):mo m.al m.aa (wQ m) a=some (Ad m.al.toNat m.aa (bN m) a):=by
 have:=afU h.ev.aF.2 h.ev.aN (tQ h hs).1 (tQ h hs).2 a
 rwa [h.ev.aF.1,<-(nj h hs).cm h.ev.aF.2]at this
theorem afV:tF m.al m.aa (wQ m) m.ao m.aD=some (fT m):=by
 have hl:=tQ h hs;have:=aiO (Vg h.ev.aF.2 h.ev.aN hl.1) hl.1 hl.2 (look_eq h.ev.aF.2 h.ev.aN hl.1) m.ao m.aD;rw[h.ev.aF.1,<-(nj h hs).ready h.ev.aF.2,<-(nj h hs).Gc,<-(nj h hs).first]at this
 exact this
theorem aji:se m.al m.aa (wQ m) m.af.Value m.aZ m.bq=some ((eV m).1,(eV m).2,()):=by have hl:=tQ h hs;have:=ahg (Vg h.ev.aF.2 h.ev.aN hl.1) hl.1 hl.2 (look_eq h.ev.aF.2 h.ev.aN hl.1) m.af.Value m.aZ m.bq;rw[h.ev.aF.1,<-(nj h hs).ready h.ev.aF.2,<-(nj h hs).jw]at this;exact this
theorem ajh:tG m.al m.aa (wQ m) m.af.Value=some (pk m):=by have hl:=tQ h hs;have:=aiP (afj h.ev.aF.2 h.ev.aN hl.1) hl.1 hl.2 (look_eq h.ev.aF.2 h.ev.aN hl.1) m.af.Value;rw[h.ev.aF.1,<-(nj h hs).sure h.ev.aF.2,<-(nj h hs).jw]at this;exact this
end
def Tn(v:ByteArray)(n:Int)(p q:ah):qA v n p q=some (lL v n p q):=by
 unfold qA lL;generalize bF n 1=k
 have hst:∀(i:Nat) (x:ah) (k:Int),i<2->[p,q][i]?=some x->
   (λ(v1:Int×Int×Unit)=>
    bif (decide (v1.2.1<((List.length [p,q]:Nat):Int)))then
    aY (λ(v2:Int×Unit)=>some (Sum.inl (v2.1,(aA .i64 v1.2.1 (1:Int)),()))) λj3=>
    Option.bind (idx [p,q] v1.2.1) λx4=>
    Option.bind (iY x4) λr5=>
    Option.bind (bif (!r5)then some true else Option.bind (eG x4 (ah.mk v1.1 v)) λr6=>some (!r6)) λb7=>
    bif b7 then j3 (v1.1,())
    else Option.bind (eG x4 (ah.mk x4.ai v)) λr8=>bif r8 then j3 ((aA .i64 x4.ai (1:Int)),())else j3 (x4.ai,())
    else(Option.map Sum.inr (some v1.1):Option ((Int×Int×Unit)⊕Int))) (k,(i:Int),())=some (Sum.inl (yc v k x,((i+1:Nat):Int),())):=by
  intro i x k hi hx;have hd:decide ((i:Int)<((List.length [p,q]:Nat):Int))=true:=Qg (by simp;omega)
  have hw:aA .i64 (i:Int) 1=((i+1:Nat):Int):=bG (by omega) (by omega)
  have hx':idx [p,q] (i:Int)=some x:=by rw[bf];exact hx
  simp only[hd,hw,hx',Qk,aS,Qa,Cy,vh];unfold yc
  cases hv:cP x with
  |false=>simp
  |true=>
   have hc:aA .i64 x.ai 1=x.ai+1:=by
    have:1<=x.ai/\x.ai<=1000000:=by simp only[cP,Qm,Qn,Qi]at hv;omega
    exact bG (by omega) (by omega)
   cases h1:eO x ⟨k,v⟩with
   |false=>simp
   |true=>cases h2:eO x ⟨x.ai,v⟩<;>simp[hc]
 refine(bx (hst 0 p k (by omega) rfl)).trans ((bx (hst 1 q _ (by omega) rfl)).trans (bM ?_))
 rfl
def adz(b:ah):(⟨du b.ai 1000,b.Value⟩:ah)=eC b:=by unfold du eC;split<;>rfl
section
variable {m : ab} (h : bs m) (hs : fS m)
 include h
theorem ZM(hz:aP (eZ m)=true):de m=m:=by
 have hid:m.aQ=3\/aP m.af=true->de m=m:=λhc=>Qr hc
 have hj:dy m.ao m.aD (eC (eZ m))=(m.ao,m.aD):=by
  have:eC (eZ m)=cg:=by rw[yW.1 hz];decide
  rw[this];exact Qr bV
 have he:¬(m.aQ=3\/aP m.af=true)->tV m m.ao m.aD=m.aZ->de m=m:=by intro hc hl;unfold de;rw[Qs hc,hj];simp only;rw[hl]
 rcases h.body with h0|h1|h2|h3
 ·exact hid (.inr (by rw[h0.aT];exact bV))
 ·exact he (by rw[h1.ba,h1.aT.nz];decide) (OM h1)
 ·exact he (by rw[h2.ba,h2.aT.nz];decide) (Qs (λh=>by have:=h.1;rw[h2.ba]at this;cases this))
 ·exact hid (.inl h3.ba)
 include hs
theorem ZK:lI ⟨m⟩=some ((),⟨de m⟩):=by
 have hl:m.ar.length<=100:=by have:=h.len;omega
 unfold lI;simp only[etas,dp,JP hl,ahP h hs,afK,Tn,Ff,Qa,aS,adz]
 by_cases h3:m.aQ=3\/aP m.af=true
 ·have e:de m=m:=Qr h3;rw[e];rcases h3 with h3|h3
  ·rw[Qg h3];cases aP m.af<;>rfl
  ·rw[h3];rfl
 ·have hz:aP m.af=false:=by
   cases hz:aP m.af with
   |true=>exact absurd (.inr hz) h3
   |false=>rfl
  have h3':¬m.aQ=3:=λe=>h3 (.inl e)
  rw[hz,Qh h3'];simp only[Ql,Qa]
  have hmain:∀v:ByteArray,v=Jm m->(bif aP (ka m.al.toNat m.aa (bN m) m.ao m.aD v)then some ((),(⟨m⟩:aM))else
    Option.bind (bif decide (m.aQ=1)then some (!decide (m.aZ=0))else some false) λb9=>
    bif b9 then
     bif decide ((JR ⟨m.al,m.aK,m.aH,m.aa,m.aQ,m.af,(dy m.ao m.aD (eC (ka m.al.toNat m.aa (bN m) m.ao m.aD v))).1,(dy m.ao m.aD (eC (ka m.al.toNat m.aa (bN m) m.ao m.aD v))).2,m.ax,lL m.af.Value m.aZ (dy m.ao m.aD (eC (ka m.al.toNat m.aa (bN m) m.ao m.aD v))).1 (dy m.ao m.aD (eC (ka m.al.toNat m.aa (bN m) m.ao m.aD v))).2,m.bq,m.bg,m.ar⟩).bq<lL m.af.Value m.aZ (dy m.ao m.aD (eC (ka m.al.toNat m.aa (bN m) m.ao m.aD v))).1 (dy m.ao m.aD (eC (ka m.al.toNat m.aa (bN m) m.ao m.aD v))).2)then
      some ((),(⟨⟨m.al,m.aK,m.aH,m.aa,m.aQ,m.af,(dy m.ao m.aD (eC (ka m.al.toNat m.aa (bN m) m.ao m.aD v))).1,(dy m.ao m.aD (eC (ka m.al.toNat m.aa (bN m) m.ao m.aD v))).2,m.ax,0,m.bq,m.bg,m.ar⟩⟩:aM))
     else some ((),(⟨⟨m.al,m.aK,m.aH,m.aa,m.aQ,m.af,(dy m.ao m.aD (eC (ka m.al.toNat m.aa (bN m) m.ao m.aD v))).1,(dy m.ao m.aD (eC (ka m.al.toNat m.aa (bN m) m.ao m.aD v))).2,m.ax,lL m.af.Value m.aZ (dy m.ao m.aD (eC (ka m.al.toNat m.aa (bN m) m.ao m.aD v))).1 (dy m.ao m.aD (eC (ka m.al.toNat m.aa (bN m) m.ao m.aD v))).2,m.bq,m.bg,m.ar⟩⟩:aM))
    else some ((),(⟨⟨m.al,m.aK,m.aH,m.aa,m.aQ,m.af,(dy m.ao m.aD (eC (ka m.al.toNat m.aa (bN m) m.ao m.aD v))).1,(dy m.ao m.aD (eC (ka m.al.toNat m.aa (bN m) m.ao m.aD v))).2,m.ax,m.aZ,m.bq,m.bg,m.ar⟩⟩:aM)))=some ((),(⟨de m⟩:aM)):=by
   intro v hv;subst hv;rw[show ka m.al.toNat m.aa (bN m) m.ao m.aD (Jm m)=eZ m from rfl]
   cases hzn:aP (eZ m)with
   |true=>rw[ZM h hzn];rfl
   |false=>
    simp only[Ql];have e:de m={m with ao:=(dy m.ao m.aD (eC (eZ m))).1,aD:=(dy m.ao m.aD (eC (eZ m))).2,aZ:=tV m (dy m.ao m.aD (eC (eZ m))).1 (dy m.ao m.aD (eC (eZ m))).2}:=Qs h3
    rw[e];unfold tV
    by_cases hc:m.aQ=1/\m.aZ≠0
    ·rw[Qg hc.1,Qh hc.2,Qr hc];simp only[Qk,Qa,Qp];have hh:∀(p q:ah) (L:Int),(JR {m with ao:=p,aD:=q,aZ:=L}).bq=fE m:=λp q L=>by unfold JR;exact Qr hc.1
     rw[hh];split
     ·rename_i hlt;rw[Qg hlt];rfl
     ·rename_i hlt;rw[Qh hlt];rfl
    ·rw[Qs hc]
     by_cases h1:m.aQ=1
     ·rw[Qg h1,Qg (show m.aZ=0 from Classical.byContradiction λhn=>hc ⟨h1,hn⟩)];rfl
     ·rw[Qh h1];rfl
  by_cases h2:m.aQ=2
  ·rw[Qg h2];exact hmain _ (Qr h2).symm
  ·rw[Qh h2];exact hmain _ (Qs h2).symm
end
def aaW(m:ab)(b:ah):lC ⟨m⟩ b=some ((),⟨{m with aZ:=bif bR m.af b then m.aZ else 0,af:=b}⟩):=by unfold lC;simp only[etas,fU,Qa,aS];cases bR m.af b<;>rfl
def Na(m:ab)(b:ah){α:Type}(j:ab->Option α):
  (bif decide (m.aZ=(0:Int))then(bif bR m.af b then(bif decide (lL b.Value m.af.ai m.ao m.aD<=b.ai)then j {m with aZ:=lL b.Value m.af.ai m.ao m.aD}else j m)else j m)else(bif false then(bif decide (lL b.Value m.af.ai m.ao m.aD<=b.ai)then j {m with aZ:=lL b.Value m.af.ai m.ao m.aD}else j m)else j m))=j (rh m b):=by
 unfold rh
 by_cases hL:m.aZ=0
 ·rw[Qg hL]
  cases hc:bR m.af b with
  |true=>
   by_cases hle:lL b.Value m.af.ai m.ao m.aD<=b.ai
   ·rw[Qr ⟨hL,rfl,hle⟩,Qg hle];rfl
   ·rw[Qs (λh=>hle h.2.2),Qh hle];rfl
  |false=>rw[Qs (λh=>by cases h.2.1)];rfl
 ·rw[Qh hL,Qs (λh=>hL h.1)];rfl
section
variable {m : ab} (h : bs m) (hs : fS m)
 include h hs
theorem ahp:ou ⟨m⟩=some ((),⟨gC m⟩):=by
 have hl:m.ar.length<=100:=by have:=h.len;omega
 unfold ou;simp only[etas,aM.eta,dp,JP hl,ahR h hs,Tn,aaW,fU,jW,Qa,aS];have hb:Ad m.al.toNat m.aa (bN m) m.ax=gV m:=rfl;simp only[hb];unfold gC
 cases hz:aP m.af with
 |true=>rw[Qr (.inr (.inl rfl))];rfl
 |false=>
  by_cases h1:m.aQ=1
  ·rw[Qg h1]
   cases hzb:aP (gV m)with
   |true=>rw[Qr (.inr (.inr rfl))];rfl
   |false=>
    rw[Qs (by simp[h1])]
    simp only[Qo,Ql,Qa];unfold C2
    cases hlt:bC m.af (gV m)with
    |true=>
     simp only[Qk,Qt]
     cases hcp:bR m.af (gV m)with
     |true=>exact Na {m with ax:=gV m,af:=gV m} (gV m) (λx=>some ((),(⟨x⟩:aM)))
     |false=>exact Na {m with ax:=gV m,af:=gV m,aZ:=0} (gV m) (λx=>some ((),(⟨x⟩:aM)))
    |false=>simp only[Ql,Qq,Qu];exact Na {m with ax:=gV m} (gV m) (λx=>some ((),(⟨x⟩:aM)))
  ·rw[Qh h1,Qr (.inl h1)];rfl
theorem ace:me ⟨m⟩=some ((),⟨fX m⟩):=by
 have hl:m.ar.length<=100:=by have:=h.len;omega
 unfold me;simp only[etas,aM.eta,JP hl,afV h hs,aji h hs,fU,jW,Qa,aS];unfold fX
 by_cases h1:m.aQ=1
 ·rw[Qg h1,Qr h1];simp only[Qk]
  cases hk:(fT m).2.2.2.1 with
  |false=>rfl
  |true=>
   have hf:=PW h hk
   have hcov:jJ m.ao ⟨(fT m).2.2.1,(fT m).1⟩= !(bC m.ao ⟨(fT m).2.2.1,(fT m).1⟩|| !bR m.ao ⟨(fT m).2.2.1,(fT m).1⟩):=by
    cases hc:bR m.ao ⟨(fT m).2.2.1,(fT m).1⟩with
    |false=>unfold jJ;rw[hc];simp
    |true=>
     have hv:=jD.1 hc
     have hnz:aP m.ao=false:=by
      cases hz:aP m.ao with
      |false=>rfl
      |true=>rw[yW.1 hz]at hv;exact absurd hv.symm hf.fin.ne
     unfold jJ;rw[hc,hnz,HP hv,Qo,Bool.or_false,Qp,Bool.and_self,Bool.true_and];rw[QW];simp only[Qi,Bool.not_eq_true',Qj];omega
   simp only[Qo,Ql,Qt];unfold NY;rw[hcov];cases bR m.af ⟨(fT m).2.2.1,(fT m).1⟩<;>cases bC m.af ⟨(fT m).2.2.1,(fT m).1⟩<;>cases bC m.ao ⟨(fT m).2.2.1,(fT m).1⟩<;>cases bR m.ao ⟨(fT m).2.2.1,(fT m).1⟩<;>rfl
 ·rw[Qh h1,Qs h1]
  by_cases h2:m.aQ=2
  ·rw[Qg h2,Qr h2];rcases h.body with k|k|k|k
   ·exact absurd k.ba h1
   ·exact absurd k.ba h1
   ·unfold Cm;rw[k.dG.2];rfl
   ·have:=k.ba;omega
  ·rw[Qh h2,Qs h2];rfl
theorem adP:mG ⟨m⟩=some ((),⟨jf m⟩):=by
 have hl:m.ar.length<=100:=by have:=h.len;omega
 unfold mG jf;simp only[etas,JP hl,ajh h hs,Qa]
 by_cases h2:m.aQ=2
 ·rw[Qg h2]
  cases hk:(pk m).2.2.1 with
  |false=>rw[Qs (λh=>by cases h.2)];rfl
  |true=>rw[Qr ⟨h2,rfl⟩];rfl
 ·rw[Qh h2,Qs (λh=>h2 h.1)];rfl
end
def Vr{m:ab}(h:wJ m):iG ⟨m⟩=some (dY m):=by
 have hl:m.ar.length<=1000:=by have:=h.len;omega
 unfold iG dY;simp only[dp,Qa]
 cases hz:aP m.ax with
 |false=>rfl
 |true=>
  simp only[Qo,Ql,Bool.true_eq_false,Qu]
  by_cases h1:m.aQ=1
  ·rw[Qg h1,Qs (λh=>h h1)]
   simp only[Qo,Ql]
   by_cases hp:m.bg=gy
   ·have hp':decide (m.bg=bE)=true:=Qg hp;rw[hp',Qs (λh=>h hp)]
    simp only[Qo,Ql]
    rw[Fu m.ar hl (·.af) (fin:=λs=>Option.bind (nV s) λr=>some r.Value) (λi e s hs he hd hx hw=>by
     simp only[hd,hx,hw,Qk,Qa]
     rw[bD (by simp;omega),Qk]) (λs hd=>by simp only[hd,Ql]),adi _ (by simp;omega)]
    rfl
   ·have hp':decide (m.bg=bE)=false:=Qh hp;rw[hp',Qr hp];rfl
  ·rw[Qh h1,Qr h1];rfl
def afQ(l:List ak)(hlen:l.length<=1000)(p:ak->Bool)(hp:∀e∈l,p e=true->0<=e.al/\e.al<10):sb l (l.map p)=some ((ff p l:Nat):Int):=by
 unfold sb
 suffices key:∀(k i s:Nat),i+k=l.length->s<1024->aE _ ((s:Int),(i:Int),())=some ((s|||ff p (l.drop i):Nat):Int)by
  have:=key l.length 0 0 (by omega) (by omega)
  rw[Nat.zero_or,List.drop_zero]at this;exact this
 intro k
 induction k with
 |zero=>
  intro i s hi hs;obtain rfl:i=l.length:=by omega
  have hd:decide ((l.length:Int)<(l.length:Int))=false:=Qh (Qq64 _);rw[bM (r:=(s:Int)) (by simp only[hd,Ql,Qe]),Qq66,ff]
  simp
 |succ k ih=>
  intro i s hi hs;have hlt:i<l.length:=by omega
  have hd:decide ((i:Int)<(l.length:Int))=true:=Qg (by omega)
  have hd2:decide ((i:Int)<(((l.map p).length:Nat):Int))=true:=Qg (by rw[QC];omega)
  have hw:aA .i64 (i:Int) 1=((i+1:Nat):Int):=bG (by omega) (by omega)
  have hx:idx l (i:Int)=some l[i]:=by rw[bf];exact Qv hlt
  have hx2:idx (l.map p) (i:Int)=some (p l[i]):=by rw[bf,QT,Qv hlt];rfl
  rw[QM hlt,ff]
  cases hpe:p l[i]with
  |false=>
   rw[bx (s':=((s:Int),((i+1:Nat):Int),())) (by simp only[hd,hd2,hx,hx2,hw,hpe,Qk,Ql,aS,Qa]),ih (i+1) s (by omega) hs]
   simp
  |true=>
   obtain⟨h0,h1⟩:=hp _ (Q0 hlt) hpe;have hn0:¬l[i].al<0:=by omega
   have d1:decide ((0:Int)<=l[i].al)=true:=Qg h0;have d2:decide (l[i].al<(10:Int))=true:=Qg (by omega)
   rw[bx (s':=(((s|||2 ^ l[i].al.toNat:Nat):Int),((i+1:Nat):Int),())) (by
    simp only[hd,hd2,hx,hx2,hw,hpe,Qk,aS,Qa,d1,d2,hn0,Qu]
    rw[qO hs h0 h1]),ih (i+1) _ (by omega) (BJ hs h1)]
   simp[Nat.or_assoc]
def adk{m:ab}(h:wJ m)(n:Int):nB ⟨m⟩ n=some ((G7 m n:Nat):Int):=by
 have hl:m.ar.length<=1000:=by have:=h.len;omega
 unfold nB;have d1:decide ((m.ar.length:Int)<=(m.ar.length:Int))=true:=Qg (Int.le_refl _);have d2:decide (0<=(m.ar.length:Int))=true:=Qg (Int.natCast_nonneg _);have d3:bh 1 m.ar.length=true:=bD (by omega)
 simp only[d1,d2,d3,QV,Int.le_refl,decide_true,Bool.and_self,Qk]
 rw[abX m.ar hl (λe=>decide (n<fG e)) (fin:=λs=>Option.bind (sb m.ar s) λr=>some r)
  (λi e s hsl he hi hd hx hw=>by
   have h1:idx s (i:Int)=some s[i]:=by rw[bf];exact Qv (by omega)
   have h2:s[i]?=some s[i]:=Qv (by omega)
   simp only[hd,hx,hw,h1,h2,Qk,Qa,etas,Vw (h.sm e he) (h.valid e he),QV])
  (λs hd=>by simp only[hd,Ql]) (by simp),afQ m.ar hl _ (λe he _=>h.Su e he)]
 rfl
section
variable {m : ab} (h : bs m) (hs : fS m)
 include h hs
theorem abW(n:Int):iW n ⟨kP m.al.toNat m.aa (wQ m)⟩ ⟨m⟩=some (jm m n):=by unfold iW;simp only[etas,adk h.ev,Qa];have hb:=Ue (oB (aF:=m.al.toNat) h.ev.aN (tQ h hs).1) (v:=m.al.toNat) (Ua h.ev n);rw[h.ev.aF.1]at hb;rw[hb,Qa];unfold jm;rw[(nj h hs).view _ h.ev.aF.2]
theorem adH:mF ⟨m⟩=some ((),⟨fR m⟩):=by
 have hl:m.ar.length<=100:=by have:=h.len;omega
 have hv:=Y5 h.ev.aF.2 h.ev.aN (tQ h hs).1;rw[h.ev.aF.1]at hv;unfold mF fR;simp only[etas,aM.eta,dp,JP hl,hv,abW h hs,Vr h.ev,aaW,Qa,aS]
 by_cases h3:m.aQ=3
 ·rw[Qg h3,Qr (.inl h3)];rfl
 ·rw[Qh h3]
  cases ha:jm m m.af.ai with
  |false=>rw[Qr (.inr rfl)];rfl
  |true=>
   rw[Qs (by simp[h3])]
   simp only[Ql,Qo]
   have hbc:0<=m.af.ai/\m.af.ai<=1000:=by
    rcases h.body with k|k|k|k
    ·rw[k.aT];decide
    ·exact⟨by have:=k.aT.1;omega,k.aT.2.1⟩
    ·exact⟨by have:=k.aT.1;omega,k.aT.2.1⟩
    ·exact absurd k.ba h3
   have hz1:aP m.af=true->m.aQ=1:=by
    intro hz;rcases h.body with k|k|k|k
    ·exact k.ba
    ·exact k.ba
    ·rw[k.aT.nz]at hz;cases hz
    ·exact absurd k.ba h3
   refine(WZ h.ev (fin:=λc=>some ((),(⟨{m with aZ:=bif bR m.af ⟨du c 1000,oC m⟩then m.aZ else 0,af:=⟨du c 1000,oC m⟩}⟩:aM))) (λi e s he hd hx hw=> ?_) (λs hd=> ?_)).trans ?_
   ·simp only[hd,hx,hw,Qk,Qa,Vw (h.ev.sm e he) (h.ev.valid e he)];unfold n5
    by_cases c1:m.af.ai<fG e
    ·by_cases c2:fG e<s
     ·rw[Qg c1,Qg c2]
      cases c3:jm m (fG e)with
      |true=>rw[Qs (by simp)];rfl
      |false=>rw[Qr ⟨c1,c2,rfl⟩];rfl
     ·rw[Qg c1,Qh c2,Qs (λh=>c2 h.2.1)];rfl
    ·rw[Qh c1,Qs (λh=>c1 h.1)];rfl
   ·simp only[hd,Ql,aS];unfold oC
    by_cases h1:m.aQ=1
    ·rw[Qg h1,Qr h1];cases aP m.af<;>rfl
    ·rw[Qh h1,Qs h1]
     cases hz:aP m.af with
     |true=>exact absurd (hz1 hz) h1
     |false=>rfl
   ·have hm:=(KC h hbc).2.2.2.2;rw[hm]
    have hcp:(bif bR m.af ⟨du (iz m) 1000,oC m⟩then m.aZ else 0)=(if oC m=m.af.Value then m.aZ else 0):=by
     by_cases e:oC m=m.af.Value
     ·rw[Qr e,(jD (a:=m.af) (b:=⟨du (iz m) 1000,oC m⟩)).2 e.symm];rfl
     ·rw[Qs e,(js (a:=m.af) (b:=⟨du (iz m) 1000,oC m⟩)).2 (λhc=>e hc.symm)];rfl
    rw[hcp]
end
end
section
def Xg{m:ab}(h:bs m)(s:Int):bN {m with aH:=s}=(bN m).map (λe=>if e.al=m.al then{e with aH:=bF s 1}else e):=by
 have hf:∀e∈m.ar,(if e.al=m.al then{e with aH:=bF s 1}else e)=e:=λe he=>Qs (h.hv e he).2.2.2
 have hmap:m.ar.map (λe=>if e.al=m.al then{e with aH:=bF s 1}else e)=m.ar:=by rw[Qq71 hf];simp
 have hown:jj {m with aH:=s}={jj m with aH:=bF s 1}:=by
  unfold jj dg fE;split
  ·rfl
  ·split<;>rfl
 unfold bN;split
 ·exact hmap.symm
 ·rw[hown];have hn:(jj m).al=m.al:=zi m
  suffices key:∀l:List ak,(∀e∈l,(if e.al=m.al then{e with aH:=bF s 1}else e)=e)->Ac {jj m with aH:=bF s 1} l=(Ac (jj m) l).map (λe=>if e.al=m.al then{e with aH:=bF s 1}else e)from key _ hf
  intro l
  induction l with
  |nil=>intro _;simp only[Ac,QD,QO,hn,Qt]
  |cons x l ih=>
   intro hx;unfold Ac;simp only;split
   ·rw[QD,QD,hn,Qr rfl,hx x Qx,Qq71 (λe he=>hx e (Qy _ he))]
    simp
   ·rw[QD,hx x Qx,ih λe he=>hx e (Qy _ he)]
def Sp{m:ab}(h:bs m){s:Int}(hs:0<=s/\s<=1000000):bs {m with aH:=s}:=by
 refine⟨h.n0,h.n1,h.aJ,hs,h.aN,h.tP,h.hv,h.cZ,?_⟩;rcases h.body with k|k|k|k
 ·exact .inl ⟨k.ba,k.aT,k.dG,k.bX,k.ep,k.low,k.cm⟩
 ·exact .inr (.inl ⟨k.ba,k.aT,k.dG,k.bX,k.ep,k.up,k.cm,k.low⟩)
 ·exact .inr (.inr (.inl ⟨k.ba,k.aT,k.dG,k.bX,k.ep,k.range⟩))
 ·exact .inr (.inr (.inr ⟨k.ba,k.aT,k.dG,k.bX,k.ep,k.range⟩))
def rL{m:ab}(h:bs m){s:Int}(hs:0<=s/\s<=1000000):Alike (bN m) (bN {m with aH:=s}):=by
 rw[Xg h s];refine acs h.ev.vj.1 h.ev.vj.2 _ λe he=> ?_
 split
 ·rename_i hn;refine⟨rfl,?_⟩;rw[h.FA e he];have hv:=h.FA e he
  have hm:{e with aH:=bF s 1}∈bN {m with aH:=s}:=by rw[Xg h s];exact QP.2 ⟨e,he,Qr hn⟩
  exact(Sp h hs).FA _ hm
 ·exact⟨rfl,rfl⟩
def agp(m:ab)(s:Int)(b:ah):C2 {m with aH:=s} b={C2 m b with aH:=s}:=by
 unfold C2
 by_cases h:bC m.af b=true
 ·simp only[Qr h]
 ·simp only[Qs h]
def aaR(m:ab)(s:Int)(b:ah):rh {m with aH:=s} b={rh m b with aH:=s}:=by
 unfold rh
 by_cases h:m.aZ=0/\bR m.af b=true/\lL b.Value m.af.ai m.ao m.aD<=b.ai
 ·simp only[Qr h]
 ·simp only[Qs h]
section
variable {m : ab} (h : bs m) {s : Int} (hs : 0 <= s /\ s <= 1000000)
 include h hs
theorem af1:eZ {m with aH:=s}=eZ m:=((rL h hs).next h.ev.aF.2 m.aa _ _ _).symm
theorem agm:gV {m with aH:=s}=gV m:=((rL h hs).cm h.ev.aF.2 m.aa _).symm
theorem Tj:iv {m with aH:=s}=iv m:=((rL h hs).ready h.ev.aF.2 m.aa).symm
theorem acJ:Oa {m with aH:=s}=Oa m:=((rL h hs).sure h.ev.aF.2 m.aa).symm
theorem agy:fT {m with aH:=s}=fT m:=by unfold fT;rw[Tj h hs];simp only;rw[<-(rL h hs).Gc,<-(rL h hs).first]
theorem agE:eV {m with aH:=s}=eV m:=by unfold eV;rw[Tj h hs];simp only;rw[<-(rL h hs).jw]
theorem agD:pk {m with aH:=s}=pk m:=by unfold pk;rw[acJ h hs];simp only;rw[<-(rL h hs).jw]
theorem T9(n:Int):jm {m with aH:=s} n=jm m n:=by unfold jm;simp only;rw[<-(rL h hs).view _ h.ev.aF.2];rfl
theorem agV:iz {m with aH:=s}=iz m:=by
 unfold iz;simp only;congr 1
 funext b e
 unfold n5;simp only[T9 h hs]
theorem JM:de {m with aH:=s}={de m with aH:=s}:=by unfold de;simp only[af1 h hs];split<;>rfl
theorem JL:gC {m with aH:=s}={gC m with aH:=s}:=by
 unfold gC;simp only[agm h hs];split
 ·rfl
 ·rw[agp,aaR]
theorem JO:fX {m with aH:=s}={fX m with aH:=s}:=by
 unfold fX;simp only[agy h hs,agE h hs];split
 ·split<;>rfl
 ·split<;>rfl
theorem JN:jf {m with aH:=s}={jf m with aH:=s}:=by unfold jf;simp only[agD h hs];split<;>rfl
theorem Tr:fR {m with aH:=s}={fR m with aH:=s}:=by unfold fR;simp only[T9 h hs,agV h hs];split<;>rfl
end
open Classical in
 def c9(m:ab):ab:=
 if de m=m then(if gC m=m then(if fX m=m then(if jf m=m then fR m else jf m)else fX m)else gC m)else de m
structure KR (m:ab):Prop where
 p:de m=m
 s:gC m=m
 c:fX m=m
 f:jf m=m
 k:fR m=m
def acL{m:ab}(h:c9 m=m):KR m:=by
 unfold c9 at h;split at h
 ·split at h
  ·split at h
   ·split at h
    ·exact⟨by assumption,by assumption,by assumption,by assumption,h⟩
    ·contradiction
   ·contradiction
  ·contradiction
 ·contradiction
def adJ{m:ab}(h:KR m):c9 m=m:=by unfold c9;rw[Qr h.p,Qr h.s,Qr h.c,Qr h.f,h.k]
def Hm{m:ab}{Q:ab->Prop}(h1:Q (de m))(h2:Q (gC m))(h3:Q (fX m))(h4:Q (jf m))(h5:Q (fR m)):Q (c9 m):=by
 unfold c9;split
 ·split
  ·split
   ·split
    ·exact h5
    ·exact h4
   ·exact h3
  ·exact h2
 ·exact h1
def E5{m:ab}(h:bs m):bs (c9 m):=Hm (Tq h) (Tp h) (Tv h) (Tu h) (Tt h)
def S7(m:ab):je m (c9 m):=Hm (B6 m) (yZ m) (zd m) (za m) (B7 m)
def U7{m:ab}(h:bs m):c9 m=m\/ky m<ky (c9 m):=Hm (Q:=λx=>x=m\/ky m<ky x) (aki h) (akh h) (akl h) (akk h) (akj h)
def akx(m:ab):(de m).af=m.af:=by unfold de;split<;>rfl
def M1{m:ab}(h:bs m)(hz:aP m.af=false):aP (c9 m).af=false:=by
 have hb:P1 m\/P2 m\/P3 m:=h.body.resolve_left λk=>by rw[k.aT,bV]at hz;cases hz
 refine Hm (Q:=λx=>aP x.af=false) (by rw[akx];exact hz) ?_ ?_ ?_ ?_
 ·rcases hb with k|k|k
  ·exact(RY h k).1.aT.nz
  ·rw[vO (.inl (by rw[k.ba];decide))];exact hz
  ·rw[vO (.inl (by rw[k.ba];decide))];exact hz
 ·unfold fX;rcases hb with k|k|k
  ·rw[Qr k.ba];split
   ·rename_i hk;have hf:=PW h hk;exact(WR (.inr k.aT) k.dG hf.fin hf.lo1 hf.le).aT.nz
   ·exact hz
  ·rw[Qs (by rw[k.ba];decide),Qr k.ba]
   obtain⟨g1,g2,g3,_⟩:=Ww h k;exact(aac k g1 g2 g3).aT.nz
  ·rw[Qs (by rw[k.ba];decide),Qs (by rw[k.ba];decide)];exact hz
 ·unfold jf;split
  ·rename_i hc;rcases hb with k|k|k
   ·have:=k.ba;have:=hc.1;omega
   ·exact(Ys h k hc.2).aT.nz
   ·have:=k.ba;have:=hc.1;omega
  ·exact hz
 ·cases ha:jm m m.af.ai with
  |false=>have:fR m=m:=Qr (.inr ha);rw[this];exact hz
  |true=>
   rcases hb with k|k|k
   ·exact(RZ h (.inr k) ha).aT.nz
   ·exact(Yr h k).aT.nz
   ·have:fR m=m:=Qr (.inl k.ba);rw[this];exact hz
def dj(m:ab):ab:=if aP m.af=false then{m with aH:=bF m.aH 1}else m
def YB{m:ab}(h:bs m):0<=bF m.aH 1/\bF m.aH 1<=1000000:=by have:=h.seq;unfold bF;split<;>omega
def yw{m:ab}(h:bs m):bs (dj m):=by
 unfold dj;split
 ·exact Sp h (YB h)
 ·exact h
def Lf{m:ab}(h:aP m.af=true->m.aH=0):fS (dj m):=by
 unfold dj;split
 ·rename_i hz;exact⟨λe=>(by rw[show({m with aH:=bF m.aH 1}:ab).af=m.af from rfl,hz]at e;cases e),λ_=>by show 1<=bF m.aH 1;unfold bF;split<;>omega⟩
 ·rename_i hz;exact⟨h,λe=>absurd e hz⟩
def agB{m:ab}(h:bs m)(hf:KR m){s:Int}(hs:0<=s/\s<=1000000):KR {m with aH:=s}:=
 ⟨by rw[JM h hs,hf.p],by rw[JL h hs,hf.s],by rw[JO h hs,hf.c],by rw[JN h hs,hf.f],by rw[Tr h hs,hf.k]⟩
def adt{m:ab}(h:bs m)(hf:KR m):KR (dj m):=by
 unfold dj;split
 ·exact agB h hf (YB h)
 ·exact hf
def af2{m:ab}(hs:fS m):dj m=m:=by
 unfold dj;split
 ·rename_i hz;have:=hs.pos hz;have e:bF m.aH 1=m.aH:=by unfold bF;split<;>omega
  rw[e]
 ·rfl
def acZ(m:ab):ky (dj m)=ky m:=by unfold dj;split<;>rfl
def VC{m:ab}(h:0<=m.aH):dE ⟨m⟩=some ((),⟨dj m⟩):=by
 unfold dE dj;simp only[etas,dp,Qa]
 cases hz:aP m.af with
 |true=>rfl
 |false=>
  simp only[Qp,Qk,Qa,Qt]
  by_cases hs:m.aH=0
  ·have e:bF m.aH 1=1:=by unfold bF;split<;>omega
   rw[Qg hs,e];rfl
  ·have e:bF m.aH 1=m.aH:=by unfold bF;split<;>omega
   rw[Qh hs,e];rfl
def xM{m m':ab}(he:je m m'):
  (decide (m'.aQ=m.aQ)&&(decide (m'.aZ=m.aZ)&&(decide (m'.bq=m.bq)&&(decide (m'.af.ai=m.af.ai)&&(decide (m'.af.Value=m.af.Value)&&(decide (m'.ao.ai=m.ao.ai)&&(decide (m'.ao.Value=m.ao.Value)&&(decide (m'.aD.ai=m.aD.ai)&&(decide (m'.aD.Value=m.aD.Value)&&(decide (m'.ax.ai=m.ax.ai)&&(decide (m'.ax.Value=m.ax.Value)&&true)))))))))))=true↔m'=m:=by
 simp only[Qm,Qi];constructor
 ·rintro⟨h1,h2,h3,h4,h5,h6,h7,h8,h9,h10,h11,_⟩;exact Eb he h1 (po h4 h5) (po h6 h7) (po h8 h9) (po h10 h11) h2 h3
 ·rintro rfl;simp
open Classical in
def ahq{m:ab}(h:bs m)(hs:fS m):ow ⟨m⟩=some (if c9 m=m then(false,⟨m⟩)else(true,⟨dj (c9 m)⟩)):=by
 have hnum:∀{x:ab},bs x->dE ⟨x⟩=some ((),⟨dj x⟩):=λhx=>VC hx.seq.1
 unfold ow;simp only[etas,aM.eta,gk,Qa,ZK h hs]
 by_cases hP:de m=m
 ·simp only[(xM (B6 m)).2 hP,Ql,show xor true true=false from rfl]
  rw[hP,ahp h hs];simp only[Qa]
  by_cases hS:gC m=m
  ·simp only[(xM (yZ m)).2 hS,Ql,show xor true true=false from rfl]
   rw[hS,ace h hs];simp only[Qa]
   by_cases hC:fX m=m
   ·simp only[(xM (zd m)).2 hC,Ql,show xor true true=false from rfl]
    rw[hC,adP h hs];simp only[Qa]
    by_cases hF:jf m=m
    ·simp only[(xM (za m)).2 hF,Ql,show xor true true=false from rfl]
     rw[hF,adH h hs];simp only[Qa];have e:c9 m=fR m:=by unfold c9;rw[Qr hP,Qr hS,Qr hC,Qr hF]
     rw[e]
     by_cases hK:fR m=m
     ·simp only[(xM (B7 m)).2 hK,Ql,show xor true true=false from rfl]
      rw[Qr hK,hK]
     ·have hb:=mt (xM (B7 m)).1 hK;rw[QX]at hb;simp only[hb,Qk,show xor true false=true from rfl]
      rw[hnum (Tt h),Qs hK];rfl
    ·have e:c9 m=jf m:=by unfold c9;rw[Qr hP,Qr hS,Qr hC,Qs hF]
     have hb:=mt (xM (za m)).1 hF;rw[QX]at hb;simp only[hb,Qk,show xor true false=true from rfl]
     rw[hnum (Tu h),e,Qs hF];rfl
   ·have e:c9 m=fX m:=by unfold c9;rw[Qr hP,Qr hS,Qs hC]
    have hb:=mt (xM (zd m)).1 hC;rw[QX]at hb;simp only[hb,Qk,show xor true false=true from rfl]
    rw[hnum (Tv h),e,Qs hC];rfl
  ·have e:c9 m=gC m:=by unfold c9;rw[Qr hP,Qs hS]
   have hb:=mt (xM (yZ m)).1 hS;rw[QX]at hb;simp only[hb,Qk,show xor true false=true from rfl]
   rw[hnum (Tp h),e,Qs hS];rfl
 ·have e:c9 m=de m:=by unfold c9;rw[Qs hP]
  have hb:=mt (xM (B6 m)).1 hP;rw[QX]at hb;simp only[hb,Qk,show xor true false=true from rfl]
  rw[hnum (Tq h),e,Qs hP];rfl
structure ID (R:ab->Prop) (m m':ab):Prop where
 inv:bs m'
 seq:fS m'
 env:m'.al=m.al/\m'.aK=m.aK/\m'.aa=m.aa/\m'.bg=m.bg/\m'.ar=m.ar
 num:m'.aH=m.aH\/(m.aH=0/\m'.aH=1)
 nz:aP m.af=false->aP m'.af=false
 rel:R m'
 fix:KR m'
def acu{R:ab->Prop}(hR1:∀m,bs m->R m->R (c9 m))(hR2:∀m,R m->R (dj m)){m:ab}(h:bs m)(hs:aP m.af=true->m.aH=0)(hr:R m):Yd (gN ⟨m⟩) λq=>∃m',q=((),⟨m'⟩)/\ID R m m':=by
 unfold gN;simp only[etas,aM.eta,VC h.seq.1,Qa]
 have num1:∀{x:ab},bs x->(dj x).aH=x.aH\/(x.aH=0/\(dj x).aH=1):=λ{x} hx=>by
  have:=hx.seq;unfold dj;split
  ·show bF x.aH 1=x.aH\/(x.aH=0/\bF x.aH 1=1);unfold bF;split<;>omega
  ·exact .inl rfl
 have env1:∀x:ab,(dj x).al=x.al/\(dj x).aK=x.aK/\(dj x).aa=x.aa/\(dj x).bg=x.bg/\(dj x).ar=x.ar/\(dj x).af=x.af:=λx=>by unfold dj;split<;>exact⟨rfl,rfl,rfl,rfl,rfl,rfl⟩
 refine Yd.down (λs=>∃x,s=((⟨x⟩:aM),())/\bs x/\fS x/\R x/\(x.al=m.al/\x.aK=m.aK/\x.aa=m.aa/\x.bg=m.bg/\x.ar=m.ar)/\(x.aH=m.aH\/(m.aH=0/\x.aH=1))/\(aP m.af=false->aP x.af=false)) (λs=>K1+K2 - ky s.1.ae) ?_ ⟨dj m,rfl,yw h,Lf hs,hR2 _ hr,⟨(env1 m).1,(env1 m).2.1,(env1 m).2.2.1,(env1 m).2.2.2.1,(env1 m).2.2.2.2.1⟩,num1 h,λhz=>by rw[(env1 m).2.2.2.2.2];exact hz⟩
 rintro s ⟨x,rfl,hx,hsx,hrx,hex,hnx,hzx⟩;simp only[ahq hx hsx,Qa]
 by_cases hst:c9 x=x
 ·rw[Qr hst];exact .some ⟨x,rfl,⟨hx,hsx,hex,hnx,hzx,hrx,acL hst⟩⟩
 ·rw[Qs hst];have hi:=E5 hx;have hv:=S7 x;have hup:=(U7 hx).resolve_left hst;refine .some ⟨⟨dj (c9 x),rfl,yw hi,Lf ?_,hR2 _ (hR1 _ hx hrx),?_,?_,?_⟩,?_⟩
  ·intro hz;rw[hv.seq];refine hsx.zero ?_
   cases hzz:aP x.af with
   |true=>rfl
   |false=>rw[M1 hx hzz]at hz;cases hz
  ·obtain⟨e1,e2,e3,e4,e5,_⟩:=env1 (c9 x);exact⟨e1.trans (hv.aF.trans hex.1),e2.trans (hv.aJ.trans hex.2.1),e3.trans (hv.aN.trans hex.2.2.1),e4.trans (hv.tP.trans hex.2.2.2.1),e5.trans (hv.heard.trans hex.2.2.2.2)⟩
  ·have h1:=num1 hi;rw[hv.seq]at h1;rcases h1 with e|⟨e1,e2⟩
   ·rw[e];exact hnx
   ·right;rcases hnx with e3|⟨_,e3⟩
    ·exact⟨by rw[<-e3];exact e1,e2⟩
    ·omega
  ·intro hz;rw[(env1 (c9 x)).2.2.2.2.2];exact M1 hx (hzx hz)
  ·have h1:=Yi hi;show K1+K2 - ky (dj (c9 x))<K1+K2 - ky x;rw[acZ];omega
end
section
def Xh{α:Type}{s t:List α}(hl:s.length=t.length)(hn:s.length<=1000000){step:Int×Unit->Option ((Int×Unit)⊕Bool)}
  (h1:∀(i:Nat) (h:i<s.length) (h':i<t.length),decide ((i:Int)<(s.length:Int))=true->idx s (i:Int)=some s[i]->idx t (i:Int)=some t[i]->aA .i64 (i:Int) 1=((i+1:Nat):Int)->∃b:Bool,step ((i:Int),())=some (bif b then .inl (((i+1:Nat):Int),())else .inr false)/\(b=true↔s[i]=t[i]))
  (h2:decide ((s.length:Int)<(s.length:Int))=false->step ((s.length:Int),())=some (.inr true)):∃b,aE step (0,())=some b/\(b=true↔s=t):=by
 suffices key:∀(k i:Nat),i+k=s.length->∃b,aE step ((i:Int),())=some b/\(b=true↔s.drop i=t.drop i)from by simpa using key s.length 0 (by omega)
 intro k
 induction k with
 |zero=>
  intro i hi;obtain rfl:i=s.length:=by omega
  refine⟨true,bM (h2 (Qh (Qq64 _))),?_⟩;rw[List.drop_eq_nil_of_le (by omega),List.drop_eq_nil_of_le (by omega)]
  simp
 |succ k ih=>
  intro i hi;have hi':i<s.length:=by omega
  have hi'':i<t.length:=by omega
  obtain⟨b,h3,h4⟩:=h1 i hi' hi'' (Qg (by omega)) (by rw[bf];exact Qv hi') (by rw[bf];exact Qv hi'') (bG (by omega) (by omega))
  rw[QM hi',QM hi'',List.cons.injEq]
  cases b with
  |false=>refine⟨false,bM h3,?_⟩;simp only[Qq,false_iff]at h4 ⊢;exact λh=>h4 h.1
  |true=>
   obtain⟨b,h5,h6⟩:=ih (i+1) (by omega)
   refine⟨b,(bx h3).trans h5,?_⟩;rw[h6];exact⟨λh=>⟨h4.1 rfl,h⟩,λh=>h.2⟩
def Pb{α:Type}{s t:List α}(h:s.length≠t.length):(false=true↔s=t):=by
 simp only[Qq,false_iff];exact λh1=>h (by rw[h1])
 def ae0(a0:List Int)(a1:List Int):Option Bool:=
 bif (!decide (((List.length a0:Nat):Int)=((List.length a1:Nat):Int)))then
 some false
 else
 aE (λ(v1:Int×Unit)=>
 bif (decide (v1.1<((List.length a0:Nat):Int)))then
 Option.bind (idx a0 v1.1) λx2=>
 Option.bind (idx a1 v1.1) λx3=>
 bif (!decide (x2=x3))then
 Option.map Sum.inr (some false)
 else
 some (Sum.inl ((aA .i64 v1.1 (1:Int)),()))
 else
 Option.map Sum.inr (some true)) ((0:Int),())
def aeT(s t:List Int)(h:s.length<=1000000):∃b,ae0 s t=some b/\(b=true↔s=t):=by
 unfold ae0
 by_cases hl:s.length=t.length
 ·rw[Qg (by omega:(s.length:Int)=(t.length:Int)),Qo,Ql]
  refine Xh hl h (λi hi hi' hd hx hy hw=> ?_) (λhd=> ?_)
  ·refine⟨decide (s[i]=t[i]),?_,by simp⟩
   simp only[hd,hx,hy,hw,Qk,Qa];cases decide (s[i]=t[i])<;>rfl
  ·simp only[hd,Ql];rfl
 ·rw[Qh (by omega:¬(s.length:Int)=(t.length:Int)),Qp,Qk]
  exact⟨false,rfl,Pb hl⟩
def aic(s t:List Int)(h:s.length<=1000000):∃b,EN s t=some b/\(b=true↔s=t):=aeT s t h
def ajq(s t:List Int)(h:s.length<=1000000):∃b,sy s t=some b/\(b=true↔s=t):=aeT s t h
def S6(a b:aj):a=b↔a.aI=b.aI/\a.bb=b.bb/\a.aO=b.aO:=by cases a;cases b;simp
def aiN{n:Nat}:∀{a b:aj},SizeOf.sizeOf a<n->cU a->∃r,EK n (a,b,())=some r/\(r=true↔a=b):=by
 induction n with
 |zero=>intro a b h;omega
 |succ n ih=>
  intro a b hs hm;show∃r,AN (EK n) a b=some r/\(r=true↔a=b);have hl:=hm.len;have hns:=hm.nodes;obtain⟨r,h1,h2⟩:=aic a.bb b.bb hns;rw[S6];unfold AN
  by_cases ht:a.aI=b.aI
  ·rw[Qg ht];simp only[Qo,Ql,h1,Qa]
   cases r with
   |false=>simp only[Qp,Qk,Qa];refine⟨false,rfl,?_⟩;simp only[Qq,false_iff]at h2 ⊢;exact λh=>h2 h.2.1
   |true=>
    simp only[Qo,Ql,Qa]
    by_cases hi:a.aO.length=b.aO.length
    ·rw[Qg (by omega:(a.aO.length:Int)=(b.aO.length:Int)),Qo,Ql]
     have key:∀step:Int×Unit->Option ((Int×Unit)⊕Bool),(∃r,aE step (0,())=some r/\(r=true↔a.aO=b.aO))->∃r,aE step (0,())=some r/\(r=true↔a.aI=b.aI/\a.bb=b.bb/\a.aO=b.aO):=by rintro step ⟨r,h3,h4⟩;exact⟨r,h3,by rw[h4];exact⟨λh=>⟨ht,h2.1 rfl,h⟩,λh=>h.2.2⟩⟩
     refine key _ (Xh hi hl (λi hi hi' hd hx hy hw=> ?_) (λhd=> ?_))
     ·have hu:=Q0 hi;obtain⟨r,h3,h4⟩:=ih (a:=a.aO[i]) (b:=b.aO[i]) (by have:=so hu;omega) (hm.inner _ hu)
      refine⟨r,?_,h4⟩;simp only[hd,hx,hy,hw,Qk,Qa,etas,h3];cases r<;>rfl
     ·simp only[hd,Ql];rfl
    ·rw[Qh (by omega:¬(a.aO.length:Int)=(b.aO.length:Int)),Qp,Qk]
     refine⟨false,rfl,?_⟩;simp only[Qq,false_iff];exact λh=>hi (by rw[h.2.2])
  ·rw[Qh ht];refine⟨false,rfl,?_⟩;simp only[Qq,false_iff];exact λh=>ht h.1
def F9{a b:aj}(h:cU a):∃r,iB a b=some r/\(r=true↔a=b):=aiN (by omega) h
def ajN{n:Nat}:∀{a b:aj},SizeOf.sizeOf a<n->cU a->∃r,yQ n (a,b,())=some r/\(r=true↔a=b):=by
 induction n with
 |zero=>intro a b h;omega
 |succ n ih=>
  intro a b hs hm;show∃r,uB (yQ n) a b=some r/\(r=true↔a=b);have hl:=hm.len;have hns:=hm.nodes;obtain⟨r,h1,h2⟩:=ajq a.bb b.bb hns;rw[S6];unfold uB
  by_cases ht:a.aI=b.aI
  ·rw[Qg ht];simp only[Qk,h1,Qa]
   cases r with
   |false=>simp only[Ql];refine⟨false,rfl,?_⟩;simp only[Qq,false_iff]at h2 ⊢;exact λh=>h2 h.2.1
   |true=>
    simp only[Qk]
    have key:∀o:Option Bool,(∃r,o=some r/\(r=true↔a.aO=b.aO))->∃r,(Option.bind (Option.bind o λr3=>some r3) λb4=>some b4)=some r/\(r=true↔a.aI=b.aI/\a.bb=b.bb/\a.aO=b.aO):=by rintro o ⟨r,rfl,h4⟩;exact⟨r,rfl,by rw[h4];exact⟨λh=>⟨ht,h2.1 rfl,h⟩,λh=>h.2.2⟩⟩
    refine key _ ?_;unfold dL
    by_cases hi:a.aO.length=b.aO.length
    ·rw[Qg (by omega:(a.aO.length:Int)=(b.aO.length:Int)),Qo,Ql]
     refine Xh hi hl (λi hi hi' hd hx hy hw=> ?_) (λhd=> ?_)
     ·have hu:=Q0 hi;obtain⟨r,h3,h4⟩:=ih (a:=a.aO[i]) (b:=b.aO[i]) (by have:=so hu;omega) (hm.inner _ hu)
      refine⟨r,?_,h4⟩;simp only[hd,hx,hy,hw,Qk,Qa,etas,h3];cases r<;>rfl
     ·simp only[hd,Ql];rfl
    ·rw[Qh (by omega:¬(a.aO.length:Int)=(b.aO.length:Int)),Qp,Qk]
     exact⟨false,rfl,Pb hi⟩
  ·rw[Qh ht];refine⟨false,rfl,?_⟩;simp only[Qq,false_iff];exact λh=>ht h.1
def eqT{a b:aj}(h:cU a):∃r,mT a b=some r/\(r=true↔a=b):=ajN (by omega) h
def YR(a b:Int)(s t:ByteArray):mw false a b s t=(decide (a=b)&&decide (s=t)):=by simp
def Rl(a b:ah):a=b↔a.ai=b.ai/\a.Value=b.Value:=by cases a;cases b;simp
def YS(a b:ak):a=b↔a.al=b.al/\a.aK=b.aK/\a.aH=b.aH/\a.aa=b.aa/\a.bA=b.bA/\a.af=b.af/\a.ao=b.ao/\a.aD=b.aD/\a.aZ=b.aZ/\a.bq=b.bq:=by cases a;cases b;simp
def YZ(a b:Bool):(bif a then some b else some false)=some (a&&b):=by cases a<;>rfl
def aiu{a b:ak}(h:cU a.aa):∃r,tu a b=some r/\(r=true↔a=b):=by
 obtain⟨r,h1,h2⟩:=F9 (a:=a.aa) (b:=b.aa) h;have hc:∀x:Bool,(bif x then some r else some false)=some (x&&r):=λx=>by cases x<;>rfl
 refine⟨_,by simp only[tu,etas,h1,Qa,YZ,hc,YR];rfl,?_⟩
 rw[YS];simp only[Qm,Qi,h2,Rl];constructor
 ·rintro⟨⟨⟨⟨⟨⟨⟨⟨⟨h1,h2⟩,h3⟩,h4⟩,h5⟩,h6⟩,h7⟩,h8⟩,h9⟩,h10⟩;exact⟨h1,h2,h3,h4,h5,h6,h7,h8,h9,h10⟩
 ·rintro⟨h1,h2,h3,h4,h5,h6,h7,h8,h9,h10⟩;exact⟨⟨⟨⟨⟨⟨⟨⟨⟨h1,h2⟩,h3⟩,h4⟩,h5⟩,h6⟩,h7⟩,h8⟩,h9⟩,h10⟩
end
section
def PL{m:ab}(h:bs m){ρ:Type}{step:Int×Unit->Option ((Int×Unit)⊕ρ)}{fin:Option ρ}
  (h1:∀(i:Nat) (e:ak),e∈m.ar->decide ((i:Int)<(m.ar.length:Int))=true->idx m.ar (i:Int)=some e->aA .i64 (i:Int) 1=((i+1:Nat):Int)->
   (i=0\/(decide ((0:Int)<(i:Int))=true/\∃x,idx m.ar (c8 .i64 (i:Int) 1)=some x/\decide (e.al<=x.al)=false))->step ((i:Int),())=some (.inl (((i+1:Nat):Int),())))
  (h2:decide ((m.ar.length:Int)<(m.ar.length:Int))=false->step ((m.ar.length:Int),())=Option.map Sum.inr fin):aE step (0,())=fin:=by
 have hl:=h.len;refine aa1 m.ar.length (by omega) (λi hi hd hw=> ?_) h2
 have hx:idx m.ar (i:Int)=some m.ar[i]:=by rw[bf];exact Qv hi
 refine h1 i m.ar[i] (Q0 hi) hd hx hw ?_
 cases i with
 |zero=>exact .inl rfl
 |succ i=>
  refine .inr ⟨Qg (by omega),m.ar[i],?_,?_⟩
  ·have:c8 .i64 ((i+1:Nat):Int) 1=(i:Int):=by rw[qC (by omega) (by omega)];omega
   rw[this,bf];exact Qv (by omega)
  ·have:=List.pairwise_iff_getElem.1 h.cZ i (i+1) (by omega) hi (by omega)
   exact Qh (by omega)
def agn{m:ab}(h:bs m):vC m=some true:=by
 unfold vC;refine PL h (λi e he hd hx hw hi=> ?_) (λhd=>by simp only[hd,Ql])
 obtain⟨g1,g2,g3,g4⟩:=h.hv e he;simp only[hd,hx,hw,Qk,Qa,aS,etas,su g2.sm,g1,Qo,Ql,Qg g3,Qh g4];rcases hi with rfl|⟨hi,x,hx2,hn⟩
 ·rfl
 ·rw[hi,hx2];simp only[Qk,Qa,hn,Ql]
def Lc{m:ab}(h:bs m)(hs:fS m)(hz:aP m.af=false):bc (dg m)=true:=by rw[<-Yy hs hz];exact Tz h hz
def af4:mw false cg.ai (0:Int) cg.Value bE=true:=by decide
def GZ{m:ab}(h:bs m)(hs:fS m):kp m=some true:=by
 have d1:decide (m.al<0)=false:=Qh (by have:=h.n0;omega)
 have d2:decide ((10:Int)<=m.al)=false:=Qh (by have:=h.n1;omega)
 have d3:decide (m.aK<1)=false:=Qh (by have:=h.aJ;omega)
 have d4:decide ((1000000:Int)<m.aK)=false:=Qh (by have:=h.aJ;omega)
 have d5:decide (m.aH<0)=false:=Qh (by have:=h.seq;omega)
 have d6:decide ((1000000:Int)<m.aH)=false:=Qh (by have:=h.seq;omega)
 have d7:decide ((200:Int)<((m.bg.size:Nat):Int))=false:=Qh (by have:=h.tP;omega)
 have hm:cU (dg m).aa:=by rw[ug];exact h.aN.sm
 unfold kp;simp only[d1,d2,d3,d4,d5,d6,d7,Ql,Qa,etas,eK h.aN,decide_true,Qo,agn h,dp,Ff,Lg h,su hm]
 cases hz:aP m.af with
 |true=>
  have h0:P0 m:=by
   rcases h.body with k|k|k|k
   ·exact k
   ·rw[k.aT.nz]at hz;cases hz
   ·rw[k.aT.nz]at hz;cases hz
   ·rw[k.aT.nz]at hz;cases hz
  unfold AG;simp only[h0.ba,hs.zero hz,h0.dG,h0.bX,h0.ep,h0.low,h0.cm,af4,decide_true,Qk,Qa]
 |false=>
  have hv:=Lc h hs hz;simp only[hv,Ql,Qk]
  have hconf:qG m=some true:=by
   unfold qG;simp only[dp,Cy,tI,fU,Qa]
   have fin:∀(hf:dm m.ax) (hp:(ec m.ao m.aD m.ax||(!decide (m.aQ=1)&&bR m.ax m.af))=true),_:=λhf hp=>(show(bif aP m.ax then some true else
     (bif !cP m.ax then some true else some (decide (1000<m.ax.ai))).bind λb3=>bif b3 then some false else
     (bif ec m.ao m.aD m.ax then some true else(bif !decide (m.aQ=1)then some (bR m.ax m.af)else some false).bind λb6=>some b6).bind λb7=>some b7)=some true by
    rw[hf.nz,hf.valid,Qh (show¬1000<m.ax.ai by have:=hf.2.1;omega)]
    revert hp
    cases ec m.ao m.aD m.ax<;>cases decide (m.aQ=1)<;>cases bR m.ax m.af<;>simp)
   have nob:m.ax=cg->(bif aP m.ax then some true else
     (bif !cP m.ax then some true else some (decide (1000<m.ax.ai))).bind λb3=>bif b3 then some false else
     (bif ec m.ao m.aD m.ax then some true else(bif !decide (m.aQ=1)then some (bR m.ax m.af)else some false).bind λb6=>some b6).bind λb7=>some b7)=some true:=λe=>by rw[e,bV];rfl
   rcases h.body with k|k|k|k
   ·exact nob k.ep
   ·rcases k.ep with e|⟨hf,hp⟩
    ·exact nob e
    ·exact fin hf (by rw[hp];rfl)
   ·rcases k.ep with e|⟨hf,hp⟩
    ·exact nob e
    ·exact fin hf (by rw[jD.2 hp,Qh (show¬m.aQ=1 by have:=k.ba;omega)];simp)
   ·exact nob k.ep
  rw[hconf];simp only[Qa,Qk];rcases h.body with k|k|k|k
  ·rw[k.aT,bV]at hz;cases hz
  ·simp only[k.ba,k.cm,decide_true,Qo,Ql,Qa,Qp,Qk,show decide ((1:Int)=3)=false from rfl]
  ·simp only[k.ba,k.bX,bV,show decide ((2:Int)=1)=false from rfl,show decide ((2:Int)=3)=false from rfl,Qo,Ql,Qa,Qp,Qk]
  ·simp only[k.ba,k.bX,k.dG,bV,show decide ((3:Int)=1)=false from rfl,decide_true,Qo,Ql,Qa,Qp,Qk]
def w4{m:ab}(h:bs m)(hs:fS m):iA m=some true:=by
 have d1:decide (m.al<0)=false:=Qh (by have:=h.n0;omega)
 have d2:decide ((9:Int)<m.al)=false:=Qh (by have:=h.n1;omega)
 have d3:decide (m.aK<1)=false:=Qh (by have:=h.aJ;omega)
 have d4:decide ((1000000:Int)<m.aK)=false:=Qh (by have:=h.aJ;omega)
 have d5:decide (m.aH<0)=false:=Qh (by have:=h.seq;omega)
 have d6:decide ((1000000:Int)<m.aH)=false:=Qh (by have:=h.seq;omega)
 have d7:decide ((200:Int)<((m.bg.size:Nat):Int))=false:=Qh (by have:=h.tP;omega)
 have hm:cU (dg m).aa:=by rw[ug];exact h.aN.sm
 unfold iA;simp only[d1,d2,d3,d4,d5,d6,d7,Ql,Qa,etas,dI h.aN,decide_true,Qo];refine PL h (λi e he hd hx hw hi=> ?_) (λhd=> ?_)
 ·obtain⟨g1,g2,g3,g4⟩:=h.hv e he;simp only[hd,hx,hw,Qk,Qa,aS,jZ g2.sm,g1,Qo,Ql,Qg g3,Qh g4];rcases hi with rfl|⟨hi,x,hx2,hn⟩
  ·rfl
  ·rw[hi,hx2];simp only[Qk,Qa,hn,Ql]
 ·simp only[hd,Ql];congr 1;simp only[c7,yT,vf,gK,Qa,Aj,jZ hm]
  cases hz:aP m.af with
  |true=>
   have h0:P0 m:=by
    rcases h.body with k|k|k|k
    ·exact k
    ·rw[k.aT.nz]at hz;cases hz
    ·rw[k.aT.nz]at hz;cases hz
    ·rw[k.aT.nz]at hz;cases hz
   simp only[h0.ba,hs.zero hz,h0.dG,h0.bX,h0.ep,h0.low,h0.cm,bV,decide_true,Qk,Qa]
  |false=>
   have hv:=Lc h hs hz;simp only[hv,Ql,Qo];rcases h.body with k|k|k|k
   ·rw[k.aT,bV]at hz;cases hz
   ·simp only[k.ba,k.cm,decide_true,Qo,Ql,Qa,Qp,Qk,show decide ((1:Int)=3)=false from rfl,show decide ((1:Int)=2)=false from rfl]
    rcases k.ep with e|⟨hf,hp⟩
    ·rw[e,bV];rfl
    ·rw[hf.nz,hf.valid,Qh (show¬1000<m.ax.ai by have:=hf.2.1;omega),hp];rfl
   ·simp only[k.ba,k.bX,bV,show decide ((2:Int)=1)=false from rfl,show decide ((2:Int)=3)=false from rfl,decide_true,Qo,Ql,Qa,Qp,Qk]
    rcases k.ep with e|⟨hf,hp⟩
    ·rw[e,bV];rfl
    ·rw[hf.nz,hf.valid,Qh (show¬1000<m.ax.ai by have:=hf.2.1;omega),jD.2 hp];rfl
   ·simp only[k.ba,k.bX,k.dG,k.ep,bV,show decide ((3:Int)=1)=false from rfl,show decide ((3:Int)=2)=false from rfl,decide_true,Qo,Ql,Qa,Qp,Qk]
end
section
def D6(x:ab):(dj x).al=x.al/\(dj x).aK=x.aK/\(dj x).aa=x.aa/\(dj x).bg=x.bg/\(dj x).ar=x.ar/\(dj x).af=x.af:=by unfold dj;split<;>exact⟨rfl,rfl,rfl,rfl,rfl,rfl⟩
def ads{x:ab}(hx:bs x):(dj x).aH=x.aH\/(x.aH=0/\(dj x).aH=1):=by
 have:=hx.seq;unfold dj;split
 ·show bF x.aH 1=x.aH\/(x.aH=0/\bF x.aH 1=1);unfold bF;split<;>omega
 ·exact .inl rfl
def D7{m m':ab}(he:je m m')(h:¬m'=m):E8 m m'=false:=by
 cases hs:E8 m m' with
 |false=>rfl
 |true=>exact absurd (acP he hs) h
def acv{R:ab->Prop}(hR1:∀m,bs m->R m->R (c9 m))(hR2:∀m,R m->R (dj m)){m:ab}(h:bs m)(hs:fS m)(hr:R m):Yd (vy m) (ID R m):=by
 unfold vy;simp only[etas,w4 h hs,Qa,Qo,Ql];refine Yd.down (λs=>bs s.1/\R s.1/\je m s.1/\(aP m.af=false->aP s.1.af=false)) (λs=>K1+K2 - ky s.1) ?_ ⟨h,hr,je.refl m,id⟩
 rintro⟨x,z,_⟩ ⟨hx,hrx,hex,hzx⟩;simp only at hx hrx hex hzx;simp only[aS,ZL hx.ev,Qa,ahx]
 have hgo:∀{y:ab},y=c9 x->¬y=x->(bs y/\R y/\je m y/\(aP m.af=false->aP y.af=false))/\K1+K2 - ky y<K1+K2 - ky x:=by rintro y rfl hne;have hv:=S7 x;have hup:=(U7 hx).resolve_left hne;have h1:=Yi (E5 hx);exact⟨⟨E5 hx,hR1 _ hx hrx,⟨hv.aF.trans hex.aF,hv.aJ.trans hex.aJ,hv.seq.trans hex.seq,hv.aN.trans hex.aN,hv.tP.trans hex.tP,hv.heard.trans hex.heard⟩,λhz=>M1 hx (hzx hz)⟩,by omega⟩
 by_cases hP:de x=x
 ·simp only[hP,zx,Qk,X0 hx.ev,Qa]
  by_cases hS:gC x=x
  ·simp only[hS,zx,Qk,X2 hx.ev,Qa]
   by_cases hC:fX x=x
   ·simp only[hC,zx,Qk,agC hx.ev,Qa]
    by_cases hF:jf x=x
    ·simp only[hF,zx,Qk,ad3 hx.ev,Qa];have e:c9 x=fR x:=by unfold c9;rw[Qr hP,Qr hS,Qr hC,Qr hF]
     by_cases hK:fR x=x
     ·simp only[hK,zx,Qk,c7,Qa]
      have hnum:(bif !aP x.af then Option.map Sum.inr (some (⟨x.al,x.aK,bF x.aH (1:Int),x.aa,x.aQ,x.af,x.ao,x.aD,x.ax,x.aZ,x.bq,x.bg,x.ar⟩:ab))else Option.map (Sum.inr (α:=ab×ab×Unit)) (some x))=some (Sum.inr (dj x)):=by unfold dj;cases aP x.af<;>rfl
      rw[hnum];obtain⟨e1,e2,e3,e4,e5,e6⟩:=D6 x;refine .some ⟨yw hx,Lf λhz=> ?_,⟨e1.trans hex.aF,e2.trans hex.aJ,e3.trans hex.aN,e4.trans hex.tP,e5.trans hex.heard⟩,?_,λhz=>by rw[e6];exact hzx hz,hR2 _ hrx,adt hx ⟨hP,hS,hC,hF,hK⟩⟩
      ·rw[hex.seq];refine hs.zero ?_
       cases hzz:aP m.af with
       |true=>rfl
       |false=>rw[hzx hzz]at hz;cases hz
      ·have:=ads hx;rw[hex.seq]at this;exact this
     ·simp only[D7 (B7 x) hK,Ql];exact .some (hgo e.symm hK)
    ·simp only[D7 (za x) hF,Ql];have e:c9 x=jf x:=by unfold c9;rw[Qr hP,Qr hS,Qr hC,Qs hF]
     exact .some (hgo e.symm hF)
   ·simp only[D7 (zd x) hC,Ql];have e:c9 x=fX x:=by unfold c9;rw[Qr hP,Qr hS,Qs hC]
    exact .some (hgo e.symm hC)
  ·simp only[D7 (yZ x) hS,Ql];have e:c9 x=gC x:=by unfold c9;rw[Qr hP,Qs hS]
   exact .some (hgo e.symm hS)
 ·simp only[D7 (B6 x) hP,Ql];have e:c9 x=de x:=by unfold c9;rw[Qs hP]
  exact .some (hgo e.symm hP)
open Classical in
 def um(m m2:ab):ab:=if aP m.af=false/\{dg m with aH:=0}≠{dg m2 with aH:=0}then{m2 with aH:=du (m2.aH+1) 1000000}else m2
def N2(m m2:ab):∃s,um m m2={m2 with aH:=s}/\(s=m2.aH\/s=du (m2.aH+1) 1000000):=by
 unfold um;split
 ·exact⟨_,rfl,.inr rfl⟩
 ·exact⟨m2.aH,rfl,.inl rfl⟩
def X4{m m2:ab}(h:bs m2):∃s,um m m2={m2 with aH:=s}/\m2.aH<=s/\0<=s/\s<=1000000:=by
 obtain⟨s,h1,h2⟩:=N2 m m2;have:=h.seq;refine⟨s,h1,?_⟩;rcases h2 with rfl|rfl
 ·omega
 ·unfold du;split<;>omega
def ad6{m m2:ab}(h:bs m2):bs (um m m2):=by obtain⟨s,h1,h2⟩:=X4 (m:=m) h;rw[h1];exact Sp h h2.2
def agX{m m2:ab}(h:bs m2)(hs:fS m2)(hnz:aP m.af=false->aP m2.af=false):fS (um m m2):=by
 unfold um;split
 ·rename_i hc;have:=hs.pos (hnz hc.1);refine⟨λhz=> ?_,λ_=> ?_⟩
  ·rw[show({m2 with aH:=du (m2.aH+1) 1000000}:ab).af=m2.af from rfl,hnz hc.1]at hz
   cases hz
  ·show 1<=du (m2.aH+1) 1000000;unfold du;split<;>omega
 ·exact hs
def I0(R:ab->Prop)(m m1:ab)(q:ab×Int×Unit):Prop:=∃m2,q=(um m m2,(0:Int),())/\ID R (dj m1) m2
def ag2{R:ab->Prop}{m1 m2:ab}(h1:bs m1)(h:ID R m1 m2):ID R (dj m1) m2:=by
 obtain⟨e1,e2,e3,e4,e5,e6⟩:=D6 m1;refine⟨h.inv,h.seq,?_,?_,λhz=>h.nz (by rw[e6]at hz;exact hz),h.rel,h.fix⟩
 ·obtain⟨a1,a2,a3,a4,a5⟩:=h.env;exact⟨a1.trans e1.symm,a2.trans e2.symm,a3.trans e3.symm,a4.trans e4.symm,a5.trans e5.symm⟩
 ·have hn:=h.num;have hq:=h1.seq
  cases hz:aP m1.af with
  |true=>
   have:dj m1=m1:=Qs (by rw[hz];decide)
   rw[this];exact hn
  |false=>
   have h3:=h.seq.pos (h.nz hz);have:(dj m1).aH=bF m1.aH 1:=by unfold dj;rw[Qr hz]
   rw[this];left;unfold bF;split<;>omega
def agG{m:ab}(h:bs m):cU ({dg m with aH:=0}:ak).aa:=by rw[show({dg m with aH:=0}:ak).aa=(dg m).aa from rfl,ug];exact h.aN.sm
def Dj{R:ab->Prop}(hR1:∀m,bs m->R m->R (c9 m))(hR2:∀m,R m->R (dj m)){m m1:ab}(h:bs m)(h1:bs m1)(hz1:aP m1.af=true->m1.aH=0)(hnz:aP m.af=false->aP m1.af=false)(hr:R m1):
  Yd (ij m (dj m1)) λq=>∃m2,q=um m m2/\ID R (dj m1) m2:=by
 unfold ij;simp only[etas];refine Yd.bind (acv hR1 hR2 (yw h1) (Lf hz1) (hR2 _ hr)) λm2 ha=> ?_
 have hq:=ha.inv.seq;obtain⟨r,g1,g2⟩:=aiu (a:={dg m with aH:=0}) (b:={dg m2 with aH:=0}) (agG h)
 have hadd:aA .i64 m2.aH 1=m2.aH+1:=bG (by omega) (by omega)
 simp only[c7,Qa,Aj,aS,g1,hadd]
 cases hz2:aP m2.af with
 |true=>
  have hz:aP m.af=true:=by
   cases hc:aP m.af with
   |true=>rfl
   |false=>rw[ha.nz (by rw[(D6 m1).2.2.2.2.2];exact hnz hc)]at hz2;cases hz2
  refine .some ⟨m2,?_,ha⟩;unfold um;rw[Qs (by rw[hz];rintro⟨e,_⟩;cases e)]
 |false=>
  refine Yd.of_eq (x:=um m m2) ?_ ⟨m2,rfl,ha⟩;unfold um
  cases hz:aP m.af with
  |true=>rw[Qs (by rintro⟨e,_⟩;cases e)];rfl
  |false=>
   cases r with
   |true=>rw[Qs (λe=>e.2 (g2.1 rfl))];rfl
   |false=>rw[Qr ⟨rfl,λe=>by have:=g2.2 e;cases this⟩];rfl
def ahw(a b:ak)(h:cU a.aa)(hn:a.al=b.al)(hs:a.aK=b.aK):∃r,pQ a b=some r/\(r=true↔{a with aH:=0}={b with aH:=0}):=by
 obtain⟨r,h1,h2⟩:=eqT (a:=a.aa) (b:=b.aa) h;refine⟨r&&decide (a.bA=b.bA)&&decide (a.af=b.af)&&decide (a.ao=b.ao)&&decide (a.aD=b.aD)&&decide (a.aZ=b.aZ)&&decide (a.bq=b.bq),?_,?_⟩
 ·unfold pQ;simp only[etas,h1,Qa,YZ,YR,<-Bool.decide_and,<-Rl,Qa]
 ·rw[YS];simp only[Qm,Qi,hn,hs,h2,true_and];simp only[and_assoc]
def NX{m:ab}(h:bs m):nc m=some m:=by
 unfold nc;simp only[etas,ly h.aN.sm,Qa];rw[Xv (λe he=>(h.hv e he).2.1.sm) (by have:=h.len;omega)]
 rfl
def Tm{l:List ak}{e:ak}(hv:bc e=true):
  (∃x∈l,x.al=e.al/\e.aH<=x.aH/\sU l e=(l,false,()))\/
  (∃a b,((∃x,l=a++x::b/\x.al=e.al/\x.aH<e.aH)\/(l=a++b/\(∀x∈l,x.al≠e.al)/\(∀x∈a,¬e.al<x.al)/\(∀x,b.head?=some x->e.al<x.al)))/\sU l e=(a++e::b,true,())):=by
 unfold sU;rw[Qr hv]
 cases hf:l.findIdx? (λx=>decide (x.al=e.al))with
 |some i=>
  obtain⟨hi,h2,_⟩:=List.findIdx?_eq_some_iff_getElem.1 hf;have hx:l[i]?=some l[i]:=Qv hi;have h2:=of_decide_eq_true h2;simp only[hx,Q3]
  by_cases hle:e.aH<=l[i].aH
  ·left;rw[Qr hle];exact⟨l[i],Q0 hi,h2,hle,rfl⟩
  ·right;rw[Qs hle];refine⟨l.take i,l.drop (i+1),.inl ⟨l[i],?_,h2,by omega⟩,?_⟩
   ·rw[List.getElem_cons_drop];exact(List.take_append_drop i l).symm
   ·rw[List.set_eq_take_append_cons_drop,Qr hi]
 |none=>
  right
  have hne:∀x∈l,x.al≠e.al:=λx hx he=>by have:=List.findIdx?_eq_none_iff.1 hf x hx;rw[he]at this;simp at this
  refine⟨l.take (IZ l e),l.drop (IZ l e),.inr ⟨(List.take_append_drop _ l).symm,hne,?_,?_⟩,by rw[QL];rfl⟩
  ·intro x hx hlt;obtain⟨j,hj,rfl⟩:=List.getElem_of_mem hx;rw[List.getElem_take]at hlt;rw[List.length_take]at hj;unfold IZ at hj
   cases hg:l.findIdx? (λx=>decide (e.al<x.al))with
   |none=>
    have:=List.findIdx?_eq_none_iff.1 hg _ (Q0 (show j<l.length by omega))
    simp[hlt]at this
   |some k=>
    obtain⟨_,_,h3⟩:=List.findIdx?_eq_some_iff_getElem.1 hg;rw[hg,Q3]at hj;have:=h3 j (by omega)
    simp[hlt]at this
  ·intro x hx;rw[List.head?_drop]at hx;unfold IZ at hx
   cases hg:l.findIdx? (λx=>decide (e.al<x.al))with
   |none=>rw[hg,Option.getD_none,Qq72 (QI _)]at hx;cases hx
   |some k=>obtain⟨hk,h2,_⟩:=List.findIdx?_eq_some_iff_getElem.1 hg;rw[hg,Q3,Qv hk]at hx;obtain rfl:=Option.some.inj hx;exact of_decide_eq_true h2
def afI{l:List ak}{e:ak}{y:ak}(hy:y∈(sU l e).1):y=e\/y∈l:=by
 by_cases hv:bc e=true
 ·rcases Tm (l:=l) hv with⟨x,_,_,_,h⟩|⟨a,b,h1,h⟩
  ·rw[h]at hy;exact .inr hy
  ·rw[h]at hy;rcases Qz.1 hy with hy|hy
   ·rcases h1 with⟨x,rfl,_⟩|⟨rfl,_⟩
    ·exact .inr (List.mem_append_left _ hy)
    ·exact .inr (List.mem_append_left _ hy)
   ·rcases QA.1 hy with hy|hy
    ·exact .inl hy
    ·rcases h1 with⟨x,rfl,_⟩|⟨rfl,_⟩
     ·exact .inr (List.mem_append_right _ (Qy _ hy))
     ·exact .inr (List.mem_append_right _ hy)
 ·unfold sU at hy;rw[Qs hv]at hy;exact .inr hy
def ZI{l:List ak}{e:ak}(hl:l.Pairwise (λa b=>a.al<b.al)):(sU l e).1.Pairwise (λa b=>a.al<b.al):=by
 by_cases hv:bc e=true
 ·rcases Tm (l:=l) hv with⟨x,_,_,_,h⟩|⟨a,b,h1,h⟩
  ·rw[h];exact hl
  ·rw[h];show(a++e::b).Pairwise _;rcases h1 with⟨x,rfl,hn,_⟩|⟨rfl,hne,ha,hb⟩
   ·rw[Qq69,Q4]at hl ⊢;obtain⟨g1,⟨g2,g3⟩,g4⟩:=hl;refine⟨g1,⟨λy hy=> ?_,g3⟩,λy hy z hz=> ?_⟩
    ·rw[<-hn];exact g2 y hy
    ·rcases QA.1 hz with rfl|hz
     ·rw[<-hn];exact g4 y hy x Qx
     ·exact g4 y hy z (Qy _ hz)
   ·rw[Qq69]at hl;rw[Qq69,Q4];obtain⟨g1,g3,g4⟩:=hl
    have hbe:∀y∈b,e.al<y.al:=by
     intro y hy
     cases b with
     |nil=>cases hy
     |cons z b=>
      have:=hb z rfl;rcases QA.1 hy with rfl|hy
      ·exact this
      ·have:=(Q4.1 g3).1 y hy;omega
    refine⟨g1,⟨hbe,g3⟩,λy hy z hz=> ?_⟩
    rcases QA.1 hz with rfl|hz
    ·have h2:=ha y hy;have h3:=hne y (List.mem_append_left _ hy);omega
    ·exact g4 y hy z hz
 ·unfold sU;rw[Qs hv];exact hl
structure Aq (m:ab) (e:ak):Prop where
 valid:bc e=true
 aN:dt e.aa
 aJ:e.aK=m.aK
 aF:e.al≠m.al
 def BP(m:ab)(e:ak):ab:={m with ar:=(sU m.ar e).1}
def H7{m:ab}(h:bs m){e:ak}(he:Aq m e):bs (BP m e):=by
 refine⟨h.n0,h.n1,h.aJ,h.seq,h.aN,h.tP,λy hy=> ?_,ZI h.cZ,?_⟩
 ·rcases afI hy with rfl|hy
  ·exact⟨he.valid,he.aN,he.aJ,he.aF⟩
  ·exact h.hv y hy
 ·rcases h.body with k|k|k|k
  ·exact .inl ⟨k.ba,k.aT,k.dG,k.bX,k.ep,k.low,k.cm⟩
  ·exact .inr (.inl ⟨k.ba,k.aT,k.dG,k.bX,k.ep,k.up,k.cm,k.low⟩)
  ·exact .inr (.inr (.inl ⟨k.ba,k.aT,k.dG,k.bX,k.ep,k.range⟩))
  ·exact .inr (.inr (.inr ⟨k.ba,k.aT,k.dG,k.bX,k.ep,k.range⟩))
def Ih(m:ab)(t:aj):ab:={m with aa:=t}
def WG{m:ab}(h:bs m){t:aj}(ht:dt t):bs (Ih m t):=by
 refine⟨h.n0,h.n1,h.aJ,h.seq,ht,h.tP,h.hv,h.cZ,?_⟩;rcases h.body with k|k|k|k
 ·exact .inl ⟨k.ba,k.aT,k.dG,k.bX,k.ep,k.low,k.cm⟩
 ·exact .inr (.inl ⟨k.ba,k.aT,k.dG,k.bX,k.ep,k.up,k.cm,k.low⟩)
 ·exact .inr (.inr (.inl ⟨k.ba,k.aT,k.dG,k.bX,k.ep,k.range⟩))
 ·exact .inr (.inr (.inr ⟨k.ba,k.aT,k.dG,k.bX,k.ep,k.range⟩))
def gB(m:ab)(v:ByteArray):ab:=if aP m.af=true then{m with bg:=v,af:=⟨1,dY {m with bg:=v}⟩}else{m with bg:=v}
def afm{v:ByteArray}(h:1<=v.size):v≠gy:=by rintro rfl;exact absurd h (by decide)
def UZ{m:ab}(h:P0 m){v:ByteArray}(hv:1<=v.size):dY {m with bg:=v}=v:=by unfold dY;rw[Qs (by rw[show({m with bg:=v}:ab).ax=m.ax from rfl,h.ep,bV];decide),Qs (by rw[show({m with bg:=v}:ab).aQ=m.aQ from rfl,h.ba];decide),Qr (afm hv)]
def HE{m:ab}(h:bs m){v:ByteArray}(hv:1<=v.size/\v.size<=200):bs (gB m v):=by
 unfold gB;rcases h.body with k|k|k|k
 ·rw[Qr (by rw[k.aT];exact bV),UZ k hv.1]
  refine⟨h.n0,h.n1,h.aJ,h.seq,h.aN,hv.2,h.hv,h.cZ,.inr (.inl ⟨k.ba,⟨by show(1:Int)<=1;omega,by show(1:Int)<=1000;omega,hv.1,hv.2⟩,.inl k.dG,.inl k.bX,.inl k.ep,?_,k.cm,.inl k.low⟩)⟩
  show bC _ m.ax=false;rw[k.ep]
  cases hl:bC (⟨1,v⟩:ah) cg with
  |false=>rfl
  |true=>have:=jc hl;exact absurd (show(1:Int)<=0 from this) (by decide)
 ·rw[Qs (by rw[k.aT.nz];decide)]
  exact⟨h.n0,h.n1,h.aJ,h.seq,h.aN,hv.2,h.hv,h.cZ,.inr (.inl ⟨k.ba,k.aT,k.dG,k.bX,k.ep,k.up,k.cm,k.low⟩)⟩
 ·rw[Qs (by rw[k.aT.nz];decide)]
  exact⟨h.n0,h.n1,h.aJ,h.seq,h.aN,hv.2,h.hv,h.cZ,.inr (.inr (.inl ⟨k.ba,k.aT,k.dG,k.bX,k.ep,k.range⟩))⟩
 ·rw[Qs (by rw[k.aT.nz];decide)]
  exact⟨h.n0,h.n1,h.aJ,h.seq,h.aN,hv.2,h.hv,h.cZ,.inr (.inr (.inr ⟨k.ba,k.aT,k.dG,k.bX,k.ep,k.range⟩))⟩
def qB(m:ab):ab:={m with aZ:=if dY m=m.af.Value then m.aZ else 0,af:=⟨m.af.ai+1,dY m⟩}
def acG{m:ab}(h:bs m)(h3:m.aQ≠3)(hv:dY m≠gy):1<=(dY m).size/\(dY m).size<=200:=by
 have h1:m.aQ=1->(m.ax=cg\/dm m.ax)->1<=(dY m).size/\(dY m).size<=200:=λhp hc=>by
  refine Yb h hp hc ?_;refine Classical.byContradiction λhn=>hv ?_
  simp only[not_or,Classical.not_not]at hn;obtain⟨a1,a2,a3⟩:=hn;unfold dY;rw[Qs (by rw[a3,bV];decide),Qs (by rw[hp];decide),Qs (by rw[a2];exact λe=>e rfl),a1]
  rfl
 rcases h.body with k|k|k|k
 ·exact h1 k.ba (.inl k.ep)
 ·exact h1 k.ba (k.ep.imp_right And.left)
 ·unfold dY;rcases k.ep with e|⟨hf,_⟩
  ·rw[Qs (by rw[e,bV];decide),Qr (by rw[k.ba];decide)]
   exact k.aT.2.2
  ·rw[Qr hf.nz];exact hf.2.2
 ·exact absurd k.ba h3
def aiV{m:ab}(k:P2 m):dY m=m.af.Value:=by
 unfold dY;rcases k.ep with e|⟨hf,he⟩
 ·rw[Qs (by rw[e,bV];decide),Qr (by rw[k.ba];decide)]
 ·rw[Qr hf.nz,he]
def U5{m:ab}(h:bs m)(h3:m.aQ≠3)(hv:dY m≠gy)(hc:m.af.ai<1000):bs (qB m):=by
 have hsz:=acG h h3 hv;refine⟨h.n0,h.n1,h.aJ,h.seq,h.aN,h.tP,h.hv,h.cZ,?_⟩;have hfin:0<=m.af.ai->dm (qB m).af:=λh0=>⟨by show 1<=m.af.ai+1;omega,by show m.af.ai+1<=1000;omega,hsz⟩
 rcases h.body with k|k|k|k
 ·have h0:m.af.ai=0:=by rw[k.aT];rfl
  refine .inr (.inl ⟨k.ba,hfin (by omega),.inl k.dG,.inl k.bX,.inl k.ep,?_,k.cm,.inl ?_⟩)
  ·show bC (⟨m.af.ai+1,dY m⟩:ah) m.ax=false;rw[k.ep]
   cases hl:bC (⟨m.af.ai+1,dY m⟩:ah) cg with
   |false=>rfl
   |true=>have:=jc hl;exact absurd (show m.af.ai+1<=0 from this) (by omega)
  ·show(if dY m=m.af.Value then m.aZ else 0)=0
   rw[k.low,ite_self]
 ·have hb:=k.aT;have h0:0<=m.af.ai:=by have:=hb.1;omega
  refine .inr (.inl ⟨k.ba,hfin h0,k.dG,k.bX,k.ep,?_,k.cm,?_⟩)
  ·show bC (⟨m.af.ai+1,dY m⟩:ah) m.ax=false
   cases hl:bC (⟨m.af.ai+1,dY m⟩:ah) m.ax with
   |false=>rfl
   |true=>have h1:=jc hl;have h2:=Nh k.up;exact absurd (show m.af.ai+1<=m.ax.ai from h1) (by omega)
  ·show(if dY m=m.af.Value then m.aZ else 0)=0\/_
   by_cases he:dY m=m.af.Value
   ·have hlow:(qB m).aZ=m.aZ:=by show(if dY m=m.af.Value then m.aZ else 0)=m.aZ;rw[Qr he]
    have hhigh:fE (qB m)=fE m:=by
     show(if(!aP m.ax&&bR m.ax ⟨m.af.ai+1,dY m⟩)=true then m.ax.ai else 0)=fE m
     rw[he];rfl
    rw[Qr he,hlow,hhigh];rcases k.low with e|⟨g1,g2,g3⟩
    ·exact .inl e
    ·refine .inr ⟨g1,g2,?_⟩;show oU m.ao m.aD (dY m) m.aZ=false;rw[he];exact g3
   ·rw[Qs he];exact .inl rfl
 ·have hb:=k.aT;have h0:0<=m.af.ai:=by have:=hb.1;omega
  have hv2:=aiV k;have hval:(qB m).af.Value=m.af.Value:=hv2;have hlow:(qB m).aZ=m.aZ:=by show(if dY m=m.af.Value then m.aZ else 0)=m.aZ;rw[Qr hv2]
  refine .inr (.inr (.inl ⟨k.ba,hfin h0,?_,k.bX,?_,?_⟩))
  ·rw[hval];exact k.dG
  ·rw[hval];exact k.ep
  ·rw[hlow];exact k.range
 ·exact absurd k.ba h3
end
section
def aiU:aj:=⟨0,[],[]⟩
def KW:ab:=⟨0,0,0,aiU,0,cg,cg,cg,cg,0,0,gy,[]⟩
def VD{m m1:ab}(hs:fS m)(hb:aP m1.af=aP m.af)(hq:m1.aH=m.aH):dj m1=m1:=by
 refine af2 ⟨λhz=> ?_,λhz=> ?_⟩
 ·rw[hq];exact hs.zero (by rw[<-hb];exact hz)
 ·rw[hq];exact hs.pos (by rw[<-hb];exact hz)
def nY{m:ab}{v:ByteArray}:(aP m.af=false->aP (gB m v).af=false)/\(gB m v).aH=m.aH:=by
 unfold gB;split
 ·rename_i hz;refine⟨λe=> ?_,rfl⟩
  rw[hz]at e;cases e
 ·exact⟨λe=>e,rfl⟩
def adg{m:ab}(h:bs m){v:ByteArray}(hv:1<=v.size/\v.size<=200):aP (gB m v).af=false:=by
 rcases h.body with k|k|k|k
 ·unfold gB;rw[Qr (by rw[k.aT];exact bV),UZ k hv.1]
  exact dm.nz ⟨by show(1:Int)<=1;omega,by show(1:Int)<=1000;omega,hv.1,hv.2⟩
 ·exact nY.1 k.aT.nz
 ·exact nY.1 k.aT.nz
 ·exact nY.1 k.aT.nz
def KZ{m:ab}(h:bs m):aP (qB m).af=false:=by
 have:0<=m.af.ai:=by
  rcases h.body with k|k|k|k
  ·rw[k.aT];decide
  ·have:=k.aT.1;omega
  ·have:=k.aT.1;omega
  ·have:=k.aT.1;omega
 cases hz:aP (qB m).af with
 |false=>rfl
 |true=>have:=yW.1 hz;have h2:m.af.ai+1=0:=congrArg ah.ai this;omega
section
variable {R : ab -> Prop} (hR1 : ∀ m, bs m -> R m -> R (c9 m)) (hR2 : ∀ m, R m -> R (dj m)) {m : ab} (h : bs m) (hs : fS m)
 include hR1 hR2 h hs
theorem M9{v:ByteArray}(hv:1<=v.size/\v.size<=200)(hr:R (gB m v)):Yd (kj m v) (I0 R m (gB m v)):=by
 have d1:decide (((ByteArray.size v:Nat):Int)<(1:Int))=false:=Qh (by omega)
 have d2:decide ((200:Int)<((ByteArray.size v:Nat):Int))=false:=Qh (by omega)
 have hi:=HE h hv;have hval:oF {m with bg:=v}=some (dY {m with bg:=v}):=RD (m:={m with bg:=v}) ⟨h.ev.n0,h.ev.n1,h.ev.aN,h.ev.len,h.ev.sm,h.ev.valid⟩
 unfold kj;simp only[etas,w4 h hs,Qa,Qo,Ql,d1,d2,c7,aS]
 have key:Yd ((ij m (dj (gB m v))).bind λr5=>some (r5,(0:Int),())) (I0 R m (gB m v)):=
  Yd.bind (Dj hR1 hR2 h hi (λhz=>by rw[nY.2];exact hs.zero (by cases hc:aP m.af with|true=>rfl|false=>rw[nY.1 hc]at hz;cases hz)) nY.1 hr) λq hq=>by obtain⟨m2,rfl,ha⟩:=hq;exact .some ⟨m2,rfl,ha⟩
 cases hz:aP m.af with
 |true=>
  have hsq:=hs.zero hz
  have he:dj (gB m v)=⟨m.al,m.aK,1,m.aa,m.aQ,⟨1,dY {m with bg:=v}⟩,m.ao,m.aD,m.ax,m.aZ,m.bq,v,m.ar⟩:=by unfold dj;rw[Qr (adg h hv),nY.2,hsq];unfold gB;rw[Qr hz];rfl
  rw[he]at key;simp only[Qk];rw[show(⟨m.al,m.aK,m.aH,m.aa,m.aQ,m.af,m.ao,m.aD,m.ax,m.aZ,m.bq,v,m.ar⟩:ab)={m with bg:=v}from rfl,hval]
  exact key
 |false=>
  have he:dj (gB m v)=⟨m.al,m.aK,m.aH,m.aa,m.aQ,m.af,m.ao,m.aD,m.ax,m.aZ,m.bq,v,m.ar⟩:=by
   rw[VD hs (by rw[nY.1 hz,hz]) nY.2]
   unfold gB;rw[Qs (by rw[hz];decide)]
  rw[he]at key;exact key
theorem Vm{e:ak}(he:Aq m e)(hr:R (BP m e)):Yd (ki m e) λq=>(I0 R m (BP m e) q/\(sU m.ar e).2.1=true)\/(q=(KW,(9:Int),())/\(sU m.ar e).2.1=false):=by
 have hi:=H7 h he;have hlen:=h.len;have hput:=afw (l:=m.ar) (λx hx=>(h.hv x hx).2.1.sm) (by omega) (e:=e) he.aN.sm
 have hid:dj (BP m e)=BP m e:=VD hs rfl rfl;unfold ki;simp only[etas,w4 h hs,Qa,Qo,Ql,jZ he.aN.sm,he.valid,Qh he.aF,Qg he.aJ,hput]
 cases hp:(sU m.ar e).2.1 with
 |false=>exact .some (.inr ⟨rfl,rfl⟩)
 |true=>
  have:=Dj hR1 hR2 h hi hs.zero (λe=>e) hr
  rw[hid]at this;refine Yd.bind this λq hq=> ?_
  obtain⟨m2,rfl,ha⟩:=hq;exact .some (.inl ⟨⟨m2,rfl,by rw[hid];exact ha⟩,rfl⟩)
theorem ac1(hr:R (qB m)):Yd (rO m) λq=>(I0 R m (qB m) q/\m.aQ≠3/\dY m≠gy/\m.af.ai<1000)\/(q=(KW,(62:Int),())/\(m.aQ=3\/dY m=gy))\/(q=(KW,(3:Int),())/\1000<=m.af.ai):=by
 unfold rO;simp only[etas,w4 h hs,Qa,Qo,Ql,RD h.ev,aS]
 by_cases h3:m.aQ=3
 ·rw[Qg h3];exact .some (.inr (.inl ⟨rfl,.inl h3⟩))
 ·rw[Qh h3]
  by_cases hv:dY m=bE
  ·rw[Qg hv];exact .some (.inr (.inl ⟨rfl,.inr hv⟩))
  ·rw[Qh hv]
   by_cases hc:(1000:Int)<=m.af.ai
   ·rw[Qg hc];exact .some (.inr (.inr ⟨rfl,hc⟩))
   ·rw[Qh hc];have hi:=U5 h h3 hv (by omega)
    have hb0:0<=m.af.ai:=by
     rcases h.body with k|k|k|k
     ·rw[k.aT];decide
     ·have:=k.aT.1;omega
     ·have:=k.aT.1;omega
     ·have:=k.aT.1;omega
    have hadd:aA .i64 m.af.ai 1=m.af.ai+1:=bG (by omega) (by omega)
    have key:Yd ((ij m (dj (qB m))).bind λr5=>some (r5,(0:Int),())) (I0 R m (qB m)):=
     Yd.bind (Dj hR1 hR2 h hi (λhz=>by rw[KZ h]at hz;cases hz) (λ_=>KZ h) hr) λq hq=>by obtain⟨m2,rfl,ha⟩:=hq;exact .some ⟨m2,rfl,ha⟩
    have he:dj (qB m)=⟨m.al,m.aK,bF m.aH 1,m.aa,m.aQ,⟨m.af.ai+1,dY m⟩,m.ao,m.aD,m.ax,(if dY m=m.af.Value then m.aZ else 0),m.bq,m.bg,m.ar⟩:=by unfold dj;rw[Qr (KZ h)];rfl
    rw[he]at key;simp only[hadd,Ql]
    by_cases hev:dY m=m.af.Value
    ·simp only[Qg hev,Qo,Ql];rw[Qr hev]at key;exact key.mono λq hq=> .inl ⟨hq,h3,hv,by omega⟩
    ·simp only[Qh hev,Qp,Qk];rw[Qs hev]at key;exact key.mono λq hq=> .inl ⟨hq,h3,hv,by omega⟩
theorem ac8{t:aj}(ht:dt t)(hr:R (Ih m t)):Yd (rP m t) (I0 R m (Ih m t)):=by
 have hi:=WG h ht;have hid:dj (Ih m t)=Ih m t:=VD hs rfl rfl;unfold rP;simp only[etas,w4 h hs,Qa,Qo,Ql,dI ht,decide_true];have:=Dj hR1 hR2 h hi hs.zero (λe=>e) hr
 rw[hid]at this;refine Yd.bind this λq hq=> ?_
 obtain⟨m2,rfl,ha⟩:=hq;exact .some ⟨m2,rfl,by rw[hid];exact ha⟩
end
def Ni(aF aJ:Int)(t:aj):ab:=⟨aF,aJ,0,t,1,cg,cg,cg,cg,0,0,gy,[]⟩
def ac2{aF aJ:Int}{t:aj}(h0:0<=aF)(h1:aF<10)(h2:1<=aJ)(h3:aJ<=1000000)(ht:dt t):BX aF aJ t=some (Ni aF aJ t,(0:Int),()):=by
 unfold BX;simp only[etas,Qh (show¬aF<0 by omega),Qh (show¬(9:Int)<aF by omega),Qh (show¬aJ<1 by omega),Qh (show¬(1000000:Int)<aJ by omega),Ql,Qa,dI ht,decide_true,Qo]
 rfl
def akv{aF aJ:Int}{t:aj}(h0:0<=aF)(h1:aF<10)(h2:1<=aJ)(h3:aJ<=1000000)(ht:dt t):yp aF aJ t=some (Ni aF aJ t,(0:Int),()):=by
 unfold yp;simp only[etas,Qh (show¬aF<0 by omega),Qh (show¬(10:Int)<=aF by omega),Qh (show¬aJ<1 by omega),Qh (show¬(1000000:Int)<aJ by omega),Ql,Qa,eK ht,decide_true,Qo,ly ht.sm]
 rfl
def R0{aF aJ:Int}{t:aj}(h0:0<=aF)(h1:aF<10)(h2:1<=aJ)(h3:aJ<=1000000)(ht:dt t):bs (Ni aF aJ t)/\fS (Ni aF aJ t):=
 ⟨⟨h0,h1,⟨h2,h3⟩,⟨by show(0:Int)<=0;omega,by show(0:Int)<=1000000;omega⟩,ht,(by show gy.size<=200;decide),(λe he=>absurd he QR),List.Pairwise.nil,.inl ⟨rfl,rfl,rfl,rfl,rfl,rfl,rfl⟩⟩,⟨λ_=>rfl,λhz=>absurd (show aP cg=false from hz) (by rw[bV];decide)⟩⟩
section
variable {R : ab -> Prop} (hR1 : ∀ m, bs m -> R m -> R (c9 m)) (hR2 : ∀ m, R m -> R (dj m)) {m : ab} (h : bs m) (hs : fS m)
 include hR1 hR2 h hs
theorem WY{m1:ab}(h1:bs m1)(hz1:aP m1.af=true->m1.aH=0)(hnz:aP m.af=false->aP m1.af=false)(hn:m1.al=m.al)(hsl:m1.aK=m.aK)(hr:R m1):
  Yd (Option.bind (gN ⟨m1⟩) λp4=>
   aY (λ(v5:aM×Unit)=>some (v5.1.ae,(0:Int),())) λj6=>
   aY (λ(v7:Bool×Unit)=>
   bif v7.1 then
   j6 ((aM.mk (ab.mk p4.2.ae.al p4.2.ae.aK (du (aA .i64 p4.2.ae.aH (1:Int)) (1000000:Int)) p4.2.ae.aa p4.2.ae.aQ p4.2.ae.af p4.2.ae.ao p4.2.ae.aD p4.2.ae.ax p4.2.ae.aZ p4.2.ae.bq p4.2.ae.bg p4.2.ae.ar)),())
   else
   j6 (p4.2,())) λj8=>
   Option.bind (bz m.af) λr9=>
   bif (!r9)then
   Option.bind (dW m) λr10=>
   Option.bind (dW p4.2.ae) λr11=>
   Option.bind (pQ r10 r11) λr12=>
   j8 ((!r12),())
   else
   j8 (false,())) (I0 R m m1):=by
 refine Yd.bind (acu hR1 hR2 h1 hz1 hr) λq hq=> ?_
 obtain⟨m2,rfl,ha⟩:=hq;have hq:=ha.inv.seq;have hadd:aA .i64 m2.aH 1=m2.aH+1:=bG (by omega) (by omega)
 obtain⟨r,g1,g2⟩:=ahw (dg m) (dg m2) (by rw[ug];exact h.aN.sm) (by rw[zi,zi,ha.env.1,hn]) (by rw[Fs,Fs,ha.env.2.1,hsl])
 simp only[aS,dp,Qa,Ff,Lg h,Lg ha.inv,hadd,g1];have hb:=ag2 h1 ha;refine Yd.of_eq (x:=(um m m2,(0:Int),())) ?_ ⟨m2,rfl,hb⟩;unfold um
 cases hz:aP m.af with
 |true=>rw[Qs (by rintro⟨e,_⟩;cases e)];rfl
 |false=>
  cases r with
  |true=>rw[Qs (λe=>e.2 (g2.1 rfl))];rfl
  |false=>rw[Qr ⟨rfl,λe=>by have:=g2.2 e;cases this⟩];rfl
theorem ado{v:ByteArray}(hv:1<=v.size/\v.size<=200)(hr:R (gB m v)):Yd (o0 m v) (I0 R m (gB m v)):=by
 have d1:decide (((ByteArray.size v:Nat):Int)<(1:Int))=false:=Qh (by omega)
 have d2:decide ((200:Int)<((ByteArray.size v:Nat):Int))=false:=Qh (by omega)
 have hi:=HE h hv;have hval:iG ⟨{m with bg:=v}⟩=some (dY {m with bg:=v}):=Vr (m:={m with bg:=v}) ⟨h.ev.n0,h.ev.n1,h.ev.aN,h.ev.len,h.ev.sm,h.ev.valid⟩
 have hdo:qH ⟨m⟩ v=some ((0:Int),⟨gB m v⟩):=by
  unfold qH gB;simp only[d1,d2,Ql,Qa,dp,aS]
  cases hz:aP m.af with
  |true=>
   simp only[Qk,Qt,etas];rw[show(⟨m.al,m.aK,m.aH,m.aa,m.aQ,m.af,m.ao,m.aD,m.ax,m.aZ,m.bq,v,m.ar⟩:ab)={m with bg:=v}from rfl,hval]
   rfl
  |false=>simp only[Ql,Qq,Qu,etas]
 unfold o0 tD;simp only[etas,aM.eta,GZ h hs,NX h,hdo,Qa,Qo,Ql,decide_true];refine Yd.bind (WY hR1 hR2 h hs hi (λhz=>by rw[nY.2];exact hs.zero (by cases hc:aP m.af with|true=>rfl|false=>rw[nY.1 hc]at hz;cases hz)) nY.1 (by unfold gB;split<;>rfl) (by unfold gB;split<;>rfl) hr) λq hq=> ?_
 obtain⟨m2,rfl,ha⟩:=hq;exact .some ⟨m2,rfl,ha⟩
theorem adn{e:ak}(he:Aq m e)(hr:R (BP m e)):Yd (jU m e) λq=>(I0 R m (BP m e) q/\(sU m.ar e).2.1=true)\/(q=(KW,(9:Int),())/\(sU m.ar e).2.1=false):=by
 have hi:=H7 h he;have hlen:=h.len;have hput:=aiJ (l:=m.ar) (λx hx=>(h.hv x hx).2.1.sm) (by omega) (e:=e) he.aN.sm
 have hdo:kv ⟨m⟩ e=some (bif (sU m.ar e).2.1 then((0:Int),⟨BP m e⟩)else((9:Int),⟨m⟩)):=by unfold kv;simp only[etas,aS,su he.aN.sm,he.valid,Qa,Qo,Ql,Qh he.aF,Qg he.aJ,hput];cases (sU m.ar e).2.1<;>rfl
 unfold jU ox;simp only[etas,aM.eta,GZ h hs,NX h,hdo,Qa,Qo,Ql]
 cases hp:(sU m.ar e).2.1 with
 |false=>exact .some (.inr ⟨rfl,rfl⟩)
 |true=>
  simp only[Qk,decide_true,Qo,Ql];refine Yd.bind (WY hR1 hR2 h hs hi hs.zero (λe=>e) rfl rfl hr) λq hq=> ?_
  obtain⟨m2,rfl,ha⟩:=hq;exact .some (.inl ⟨⟨m2,rfl,ha⟩,trivial⟩)
end
def Nf{m:ab}(h:bs m)(hs:fS m):pa m=some (bif decide (m.aQ=3)then m.af.Value else gy,decide (m.aQ=3),()):=by unfold pa;simp only[etas,GZ h hs,Qa];cases decide (m.aQ=3)<;>rfl
def afR{m:ab}(h:bs m)(hs:fS m){e:ak}(ht:cU e.aa)(hbad:bc e=false\/e.al=m.al\/e.aK≠m.aK):jU m e=some (KW,(61:Int),()):=by
 have hdo:kv ⟨m⟩ e=some ((61:Int),⟨m⟩):=by
  unfold kv;simp only[etas,aS,su ht,Qa]
  cases hv:bc e with
  |false=>rfl
  |true=>
   by_cases hn:e.al=m.al
   ·rw[Qg hn];rfl
   ·have hsl:e.aK≠m.aK:=(hbad.resolve_left (by rw[hv];decide)).resolve_left hn
    rw[Qh hn,Qh hsl];rfl
 unfold jU ox;simp only[etas,aM.eta,GZ h hs,NX h,hdo,Qa,Qo,Ql];rfl
end
section
structure IA (n:Nat) (k:Int) (m:ab):Prop where
 n10:n<=10
 k1:1<=k
 kn:k<=n
 aN:m.aa=flat n k
 heard:∀e∈m.ar,e.aa=flat n k
section
variable {n : Nat} {k : Int} {m : ab} (h : bs m) (hf : IA n k m)
 include h
 include hf
end
section
variable {l : List ak} (hv : ∀ e ∈ l, bc e = true) (hsm : ∀ e ∈ l, cU e.aa) (hlen : l.length <= 1000)
 include hv hsm hlen
end
section
variable {n : Nat} {k : Int} {m : ab} (h : bs m) (hf : IA n k m)
 include h hf
end
section
variable {n : Nat} {k : Int} {m : ab} (h : bs m) (hf : IA n k m)
 include h hf
end
def IA.step{n:Nat}{k:Int}{m m':ab}(hf:IA n k m)(he:je m m'):IA n k m':=⟨hf.n10,hf.k1,hf.kn,by rw[he.aN];exact hf.aN,by rw[he.heard];exact hf.heard⟩
structure ae9 (n:Nat) (k:Int) (m:ab):Prop where
 inv:bs m
 seq:fS m
 flat:IA n k m
 nz:aP m.af=false
 aJ:m.aK=1
def ae9.env{n:Nat}{k:Int}{m:ab}(h:ae9 n k m):bc (dg m)=true/\(dg m).aa=Go.Proofs.YtofedieniojipaaGreat.flat n k/\(dg m).aK=1:=⟨Lc h.inv h.seq h.nz,by rw[ug];exact h.flat.aN,by rw[Fs];exact h.aJ⟩
end
section
section
variable {n : Nat} {k : Int}
end
end
section
section
variable {n : Nat} {k : Int} (hn : n <= 10) (hk1 : 1 <= k) (hkn : k <= n) {i : Int} (hi0 : 0 <= i) (hi9 : i < 10) {v : ByteArray} (hv : 1 <= v.size /\ v.size <= 200)
 include hn hk1 hkn hi0 hi9
 include hv
end
end
section
def AM(m m1:ab):Prop:=
 (∃v,(1<=v.size/\v.size<=200)/\m1=gB m v)\/(∃e,Aq m e/\m1=BP m e)\/(m.aQ≠3/\dY m≠gy/\m.af.ai<1000/\m1=qB m)\/(∃t,dt t/\m1=Ih m t)
structure ajP (m m1:ab):Prop where
 inv:bs m1
 aF:m1.al=m.al
 aJ:m1.aK=m.aK
 seq:m1.aH=m.aH
 nz:aP m.af=false->aP m1.af=false
def ad9{m m1:ab}(h:bs m)(hb:AM m m1):ajP m m1:=by
 rcases hb with⟨v,hv,rfl⟩|⟨e,he,rfl⟩|⟨h3,hv,hc,rfl⟩|⟨t,ht,rfl⟩
 ·exact⟨HE h hv,by unfold gB;split<;>rfl,by unfold gB;split<;>rfl,nY.2,nY.1⟩
 ·exact⟨H7 h he,rfl,rfl,rfl,λe=>e⟩
 ·exact⟨U5 h h3 hv hc,rfl,rfl,rfl,λ_=>KZ h⟩
 ·exact⟨WG h ht,rfl,rfl,rfl,λe=>e⟩
structure OkM (m:ab):Prop where
 inv:bs m
 seq:fS m
 fix:KR m
 aF:m.al=0
 aJ:m.aK=1
def Ym{m:ab}(h:bs m)(hs:fS m){e:ak}(ht:cU e.aa)(hbad:bc e=false\/e.al=m.al\/e.aK≠m.aK):ki m e=some (KW,(61:Int),()):=by
 unfold ki;simp only[etas,w4 h hs,Qa,Qo,Ql,jZ ht]
 cases hv:bc e with
 |false=>rfl
 |true=>
  by_cases hn:e.al=m.al
  ·rw[Qg hn];rfl
  ·have hsl:e.aK≠m.aK:=(hbad.resolve_left (by rw[hv];decide)).resolve_left hn
   rw[Qh hn,Qh hsl];rfl
def Gj{v:ByteArray}(h:Rp v):1<=v.size/\v.size<=200:=by have:=h.size;omega
end
section
abbrev Lp{σ ρ:Type}(I:σ->Prop)(p:ρ->Prop):σ⊕ρ->Prop
 | .inl s=>I s
 | .inr r=>p r
def Yd.Du{σ ρ:Type}{step:σ->Option (σ⊕ρ)}{p:ρ->Prop}(inv:σ->Prop)(μ:σ->Nat)(h:∀s,inv s->Yd (step s) (Lp (λs'=>inv s'/\μ s'<μ s) p)){s:σ}(hs:inv s):Yd (aE step s) p:=
 Yd.down inv μ (λs hi=>(h s hi).mono λy hy=>by cases y<;>exact hy) hs
def Yd.list{α σ τ ρ:Type}{p:ρ->Prop}{step:τ->Option (τ⊕ρ)}(l:List α)(hl:l.length<=1000000)(mk:Int->σ->τ)(inv:Nat->σ->Prop)
  (h1:∀(i:Nat) (x:α) (s:σ),inv i s->l.drop i=x::l.drop (i+1)->x∈l->i<l.length->decide ((i:Int)<(l.length:Int))=true->idx l (i:Int)=some x->aA .i64 (i:Int) 1=((i+1:Nat):Int)->Yd (step (mk (i:Int) s)) (Lp (λt=>∃s',t=mk ((i+1:Nat):Int) s'/\inv (i+1) s') p))
  (h2:∀s,inv l.length s->decide ((l.length:Int)<(l.length:Int))=false->Yd (step (mk (l.length:Int) s)) (Lp (λ_=>False) p))
  {s:σ} (h0:inv 0 s):Yd (aE step (mk 0 s)) p:=by
 suffices key:∀(k i:Nat) (s:σ),i+k=l.length->inv i s->Yd (aE step (mk (i:Int) s)) p from key l.length 0 s (by omega) h0
 intro k
 induction k with
 |zero=>
  intro i s hi hs;obtain rfl:i=l.length:=by omega
  refine Yd.loop ((h2 s hs (Qh (Qq64 _))).mono λy hy=> ?_)
  cases y with
  |inl t=>exact hy.elim
  |inr r=>exact hy
 |succ k ih=>
  intro i s hi hs;have hi':i<l.length:=by omega
  refine Yd.loop ((h1 i l[i] s hs (QM hi') (Q0 hi') hi' (Qg (by omega)) (by rw[bf];exact Qv hi') (bG (by omega) (by omega))).mono λy hy=> ?_)
  cases y with
  |inl t=>grind
  |inr r=>exact hy
def kT(x:ByteArray):Prop:=1<=x.size/\x.size<=200
instance (x:ByteArray):Decidable (kT x):=by unfold kT;infer_instance
def ab7:∀(x:ByteArray) (l:List ByteArray),Decidable (x∈l)
 |_,[]=>isFalse QR
 |x,y::l=>if h:x=y then isTrue (by rw[h];exact Qx)else match ab7 x l with
  |isTrue h2=>isTrue (Qy _ h2)
  |isFalse h2=>isFalse λe=>(QA.1 e).elim h h2
instance (x:ByteArray) (l:List ByteArray):Decidable (x∈l):=ab7 x l
structure VL (l:List ByteArray):Prop where
 si:∀x∈l,kT x
 G5:l.Pairwise (λa b=>bP a b=true)
 len:l.length<=40
def VL.nil:VL []:=⟨λx h=>absurd h QR,List.Pairwise.nil,by simp⟩
def VL.sC{l:List ByteArray}(h:VL l):l.length<=1000000:=QK h.len (by omega)
def Fw(a b:ByteArray):Int:=if a=b then 0 else if bP a b=true then -1 else 1
theorem Bc(a b:ByteArray):iV a b=some (Fw a b):=by grind [iV,Fw,bP,lG]
theorem Fv{a b:ByteArray}:decide (Fw a b<0)=bP a b:=by
 unfold Fw
 by_cases h:a=b
 ·subst h;rw[Qr rfl,jx.irrefl];rfl
 ·rw[Qs h];cases bP a b<;>rfl
theorem KE{a b:ByteArray}:decide (0<Fw a b)=bP b a:=by
 unfold Fw
 by_cases h:a=b
 ·subst h;rw[Qr rfl,jx.irrefl];rfl
 ·rw[Qs h]
  cases h1:bP a b with
  |true=>rw[jx.asymm h1];rfl
  |false=>
   cases h2:bP b a with
   |true=>rfl
   |false=>exact absurd (jx.total _ _ h1 h2) h
def aal{a b:ByteArray}:decide (0<=Fw a b)= !bP a b:=by
 rw[<-Fv (a:=a) (b:=b)]
 grind
def OB(x:ByteArray):uN x=some (decide (kT x)):=by grind [uN,kT]
def JG(l:List ByteArray)(hl:l.length<=1000000)(x:ByteArray):nv l x=some (decide (x∈l)):=by
 unfold nv
 have h:Yd (aE (λ(v1:Int×Unit)=>
   bif (decide (v1.1<((List.length l:Nat):Int)))then
   Option.bind (idx l v1.1) λx2=>
   bif (decide (x=x2))then
   Option.map Sum.inr (some true)
   else
   some (Sum.inl ((aA .i64 v1.1 (1:Int)),()))
   else
   Option.map Sum.inr (some false)) ((0:Int),())) (λb=>b=decide (x∈l)):=by
  refine Yd.list l hl (λi (_:Unit)=>(i,())) (λi _=>x∉l.take i) ?_ ?_ (s:=()) (by simp)
  ·intro i y s hs hd hy hi hdec hx hadd;simp only;rw[hdec,Qk,hx,Qa,hadd]
   by_cases hxy:x=y
   ·rw[Qg hxy,Qk];exact .some (by subst hxy;exact(Qg hy).symm)
   ·rw[Qh hxy,Ql];refine .some ⟨(),rfl,?_⟩
    have hi2:l[i]?=some y:=by rw[bf]at hx;exact hx
    rw[List.take_add_one,hi2];simp only[Option.toList_some,Qz,Q5];exact λh=>h.elim hs hxy
  ·intro s hs hdec;simp only;rw[hdec,Ql];rw[Qq62]at hs;exact .some (Qh hs).symm
 obtain⟨b,h1,rfl⟩:=h;exact h1
def Wb{α:Type}[DecidableEq α]{lt:α->α->Bool}(x:α):∀(l:List α),x∉l->(dR lt x l).length=l.length+1
 |[],_=>rfl
 |y::l,h=>by
  have h1:y≠x:=λe=>h (by rw[e];exact Qx)
  rw[dR]
  by_cases h2:lt y x=true
  ·rw[Qr h2,QE,Wb x l (λe=>h (Qy _ e)),QE]
  ·rw[Qs h2,Qs h1];rfl
def mP(l:List ByteArray)(x:ByteArray):List ByteArray:=if x∈l\/40<=l.length then l else dR bP x l
def JD{l:List ByteArray}(h:VL l)(x:ByteArray):nu l x=some (mP l x):=by
 have hl:=h.len;unfold nu mP;rw[JG l h.sC,Qa]
 by_cases hx:x∈l
 ·grind
 rw[Qh hx];simp only[Ql,Qa]
 by_cases h40:40<=l.length
 ·grind
 rw[Qh (by omega:¬(40:Int)<=(l.length:Int)),Qs (λe=>e.elim hx h40)]
 simp only[Ql,aS];have hk:∀n,n<=100->bh 16 n=true:=λn hn=>bD ⟨by omega,by omega⟩
 have:=Yd.list (p:=λr=>r=dR bP x l) (step:=λ(v3:Bool×Int×(List ByteArray)×Unit)=>
   bif (decide (v3.2.1<((List.length l:Nat):Int)))then
   Option.bind (idx l v3.2.1) λx4=>
   Option.bind (bif (!v3.1)then
   Option.bind (iV x x4) λr7=>
   some (decide (r7<(0:Int)))
   else some false) λb8=>
   bif b8 then
   bif bh 16 (List.length v3.2.2.1+List.length [x])then
   bif bh 16 (List.length (v3.2.2.1++[x])+List.length [x4])then
   some (Sum.inl (true,(aA .i64 v3.2.1 (1:Int)),((v3.2.2.1++[x])++[x4]),()))
   else none
   else none
   else
   bif bh 16 (List.length v3.2.2.1+List.length [x4])then
   some (Sum.inl (v3.1,(aA .i64 v3.2.1 (1:Int)),(v3.2.2.1++[x4]),()))
   else none
   else
   Option.map Sum.inr (
   bif (!v3.1)then
   bif bh 16 (List.length v3.2.2.1+List.length [x])then
   some (v3.2.2.1++[x])
   else none
   else
   some v3.2.2.1)) l h.sC (λi (s:Bool×List ByteArray)=>(s.1,i,s.2,()))
   (λi s=>s.2.length<=2*i/\(s.1=false->s.2++dR bP x (l.drop i)=dR bP x l)/\(s.1=true->s.2++l.drop i=dR bP x l)) ?_ ?_ (s:=(false,[])) ⟨by simp,λ_=>by simp,λe=>by cases e⟩
 ·obtain⟨r,h1,rfl⟩:=this;exact h1
 ·rintro i y ⟨d,out⟩ ⟨hs1,hs2,hs3⟩ hd hy hi hdec hx' hadd;simp only at hs1 hs2 hs3;simp only;rw[hdec,Qk,hx',Qa,hadd,Bc,Qa,Fv];have hne:y≠x:=λe=>hx (by rw[<-e];exact hy)
  have k1:bh 16 (out.length+[x].length)=true:=hk _ (by simp only[Q6];omega)
  have k2:bh 16 ((out++[x]).length+[y].length)=true:=hk _ (by simp only[QB,Q6];omega)
  have k3:bh 16 (out.length+[y].length)=true:=hk _ (by simp only[Q6];omega)
  rw[k1,k2,k3]
  cases d with
  |true=>
   simp only[Qo,Ql,Qa,Qk];refine .some ⟨(true,out++[y]),rfl,by simp only[QB,Q6];omega,λe=>(by cases e),λ_=> ?_⟩
   rw[<-hs3 rfl,hd,QL];rfl
  |false=>
   have hs2:=hs2 rfl;rw[hd,dR]at hs2;simp only[Qp,Qk,Qa]
   cases hxy:bP x y with
   |true=>
    simp only[Qk];rw[Qs (by rw[jx.asymm hxy];simp),Qs hne]at hs2
    refine .some ⟨(true,(out++[x])++[y]),rfl,by simp only[QB,Q6];omega,λe=>(by cases e),λ_=> ?_⟩
    grind
   |false=>
    simp only[Ql]
    have hyx:bP y x=true:=by
     cases hh:bP y x with
     |true=>rfl
     |false=>exact absurd (jx.total _ _ hh hxy) hne
    rw[Qr hyx]at hs2;refine .some ⟨(false,out++[y]),rfl,by simp only[QB,Q6];omega,λ_=> ?_,λe=>by cases e⟩
    rw[<-hs2,QL];rfl
 ·rintro⟨d,out⟩ ⟨hs1,hs2,hs3⟩ hdec;simp only at hs1 hs2 hs3;simp only;have k1:bh 16 (out.length+[x].length)=true:=hk _ (by simp only[Q6];omega)
  rw[hdec,Ql,k1]
  cases d with
  |true=>have:=hs3 rfl;rw[Qq66,List.append_nil]at this;exact .some this
  |false=>have:=hs2 rfl;rw[Qq66]at this;exact .some this
def uT{l:List ByteArray}(h:VL l){x:ByteArray}(hx:kT x):VL (mP l x)/\(∀y∈l,y∈mP l x)/\(∀y∈mP l x,y=x\/y∈l)/\(x∉l->l.length<40->(mP l x).length=l.length+1):=by
 unfold mP
 by_cases h1:x∈l\/40<=l.length
 ·grind
 ·rw[Qs h1];have hm:=HN (lt:=bP) x l;have hlen:=wa (lt:=bP) x l;have h2:¬40<=l.length:=λe=>h1 (.inr e)
  refine⟨⟨λy hy=> ?_,jx.dR x h.G5,by omega⟩,λy hy=>(hm y).2 (.inr hy),λy hy=>(hm y).1 hy,λh3 _=>Wb x l h3⟩
  rcases(hm y).1 hy with rfl|hy
  ·exact hx
  ·exact h.si y hy
def JE{l:List ByteArray}(h:VL l):mz l=some true:=by
 unfold mz;refine Yd.eq_true (Yd.list l h.sC (λi (_:Unit)=>(i,())) (λ_ _=>True) ?_ ?_ (s:=()) trivial)
 ·intro i y s hs hd hy hi hdec hx hadd;simp only;rw[hdec,Qk,hx,Qa,OB,Qa,Qg (h.si y hy),hadd];simp only[Qo,Ql]
  by_cases h0:i=0
  ·subst h0;rw[Qh (by omega:¬(0:Int)<((0:Nat):Int))]
   exact .some ⟨(),rfl,trivial⟩
  ·rw[Qg (by omega:(0:Int)<(i:Int))]
   simp only[Qk];have hsub:c8 .i64 (i:Int) 1=((i - 1:Nat):Int):=by rw[qC (by omega) (by have:=h.len;omega)];omega
   have hi1:i - 1<l.length:=by omega
   rw[hsub,bf,Qv hi1,Qa,Bc,Qa,aal]
   have hyi:y=l[i]:=by grind [bf]
   have hlt:bP l[i - 1] y=true:=by rw[hyi];exact List.pairwise_iff_getElem.1 h.G5 (i - 1) i hi1 hi (by omega)
   rw[hlt];exact .some ⟨(),rfl,trivial⟩
 ·intro s hs hdec;simp only;rw[hdec,Ql,Qg (by have:=h.len;omega:(l.length:Int)<=(40:Int))]
  exact .some rfl
def OD{s t:List ByteArray}(h:s.length<=1000000):∃b,gf s t=some b/\(b=true↔s=t):=by
 unfold gf
 by_cases hl:s.length=t.length
 ·rw[Qg (by omega:(s.length:Int)=(t.length:Int)),Qo,Ql]
  refine Xh hl h (λi hi hi' hd hx hy hw=> ?_) (λhd=> ?_)
  ·simp only;rw[hd,Qk,hx,hy,Qa,Qa,hw]
   by_cases he:s[i]=t[i]
   ·rw[Qg he];exact⟨true,rfl,by simp[he]⟩
   ·rw[Qh he];exact⟨false,rfl,by simp[he]⟩
  ·simp only;rw[hd,Ql];rfl
 ·rw[Qh (by omega:¬(s.length:Int)=(t.length:Int))]
  exact⟨false,rfl,Pb hl⟩
def OC{a b:List ByteArray}{n:Nat}(hn:a.length+b.length<=n)(h:n<=100000):Yd (jv a b) λr=>r.length<=n/\∀x∈r,x∈a\/x∈b:=by
 unfold jv;simp only[aS];refine Yd.Du (λ(v:Int×Int×List ByteArray×Unit)=>∃i k:Nat,v.1=i/\v.2.1=k/\i<=a.length/\k<=b.length/\v.2.2.1.length<=i+k/\∀x∈v.2.2.1,x∈a\/x∈b) (λv=>a.length+b.length - (v.1.toNat+v.2.1.toNat)) ?_ ⟨0,0,rfl,rfl,by omega,by omega,by simp,λx hx=>absurd hx QR⟩
 rintro⟨i',k',out,u⟩ ⟨i,k,e1,e2,hi,hk,hlen,hmem⟩;simp only at e1 e2 hlen hmem;subst e1 e2;have kk:∀x:ByteArray,bh 16 (out.length+[x].length)=true:=λx=>bD ⟨by simp only[Q6];omega,by simp only[Q6];omega⟩
 have hi1:aA .i64 (i:Int) 1=((i+1:Nat):Int):=bG (by omega) (by omega)
 have hk1:aA .i64 (k:Int) 1=((k+1:Nat):Int):=bG (by omega) (by omega)
 have ga:i<a.length->∃x∈a,idx a (i:Int)=some x:=λh=>⟨a[i],Q0 h,by rw[bf];exact Qv h⟩
 have gb:k<b.length->∃x∈b,idx b (k:Int)=some x:=λh=>⟨b[k],Q0 h,by rw[bf];exact Qv h⟩
 have fin1:∀(x:ByteArray) (j1 j2:Nat),(x∈a\/x∈b)->j1<=a.length->j2<=b.length->i+k<j1+j2->Yd (bif bh 16 (out.length+[x].length)then some (Sum.inl (((j1:Nat):Int),((j2:Nat):Int),(out++[x]),()))else(none:Option ((Int×Int×List ByteArray×Unit)⊕List ByteArray)))
   (Lp (λs'=>(∃i k:Nat,s'.1=i/\s'.2.1=k/\i<=a.length/\k<=b.length/\s'.2.2.1.length<=i+k/\∀x∈s'.2.2.1,x∈a\/x∈b)/\a.length+b.length - (s'.1.toNat+s'.2.1.toNat)<a.length+b.length - ((i:Int).toNat+(k:Int).toNat)) (λr=>r.length<=n/\∀x∈r,x∈a\/x∈b)):=by
  intro x j1 j2 hx h1 h2 h3;rw[kk x,Qk];refine .some ⟨⟨j1,j2,rfl,rfl,h1,h2,?_,?_⟩,?_⟩
  ·simp only[QB,Q6];omega
  ·intro y hy;rcases Qz.1 hy with hy|hy
   ·exact hmem y hy
   ·rw[Q5.1 hy];exact hx
  ·simp only[QV];omega
 simp only
 by_cases c1:i<a.length
 ·obtain⟨x,hx,ex⟩:=ga c1;rw[Qg (by omega:(i:Int)<(a.length:Int))]
  simp only[Qk,Qa]
  grind [Bc,Fv,KE,bP]
 ·rw[Qh (by omega:¬(i:Int)<(a.length:Int))]
  simp only[Ql]
  by_cases c2:k<b.length
  ·grind
  ·rw[Qh (by omega:¬(k:Int)<(b.length:Int))]
   simp only[Ql,Qa];exact .some ⟨by omega,hmem⟩
def ZB{l:List ByteArray}(h:l.length<=1000000):Yd (mm l) λr=>r.2.1=true->kT r.1:=by
 unfold mm;simp only[aS];refine Yd.list l h (λi (s:ByteArray×Bool)=>(s.1,s.2,i,())) (λ_ s=>s.2=true->kT s.1) ?_ ?_ (s:=(_,false)) (λe=>by cases e)
 ·rintro i y ⟨Gc,found⟩ hs hd hy hi hdec hx hadd;simp only at hs;simp only;rw[hdec,Qk,hx,Qa,OB,Qa,hadd]
  by_cases hv:kT y
  ·rw[Qg hv];simp only[Qk]
   cases found with
   |false=>simp only[Qp,Qk,Qa];exact .some ⟨(y,true),rfl,λ_=>hv⟩
   |true=>
    simp only[Qo,Ql,Qa,Bc]
    cases decide (0<Fw y Gc)with
    |true=>exact .some ⟨(y,true),rfl,λ_=>hv⟩
    |false=>exact .some ⟨(Gc,true),rfl,hs⟩
  ·rw[Qh hv];simp only[Ql,Qa];exact .some ⟨(Gc,found),rfl,hs⟩
 ·rintro⟨Gc,found⟩ hs hdec;simp only;rw[hdec,Ql];exact .some hs
end
section
def aer{rec:(aj×Int×Unit)->Option (eX×Bool×Unit)}{t:aj}{x:Int}(hm:cU t)(hr:∀u∈t.aO,Yd (rec (u,x,())) λ_=>True):Yd (jH rec t x) λ_=>True:=by
 unfold jH;simp only[etas];refine Yd.list t.bb hm.nodes (λi (s:eX)=>(i,s,())) (λ_ _=>True) ?_ ?_ trivial
 ·intro i y s hs hd hy hi hdec hx hadd;simp only;rw[hdec,Qk,hx,Qa,hadd]
  cases decide (y=x)with
  |true=>exact .some trivial
  |false=>exact .some ⟨s,rfl,trivial⟩
 ·intro s hs hdec;simp only;rw[hdec,Ql];refine Yd.map (Yd.list t.aO hm.len (λi (s:eX)=>(i,s,())) (λ_ _=>True) ?_ ?_ trivial)
  ·intro i y s hs hd hy hi hdec hx hadd;simp only;rw[hdec,Qk,hx,Qa,hadd];refine Yd.bind (hr y hy) λq _=> ?_
   cases q.2.1 with
   |true=>exact .some trivial
   |false=>exact .some ⟨s,rfl,trivial⟩
  ·intro s hs hdec;simp only;rw[hdec,Ql];exact .some trivial
def aem{x:Int}{n:Nat}:∀{t:aj},SizeOf.sizeOf t<n->cU t->Yd (tk n (t,x,())) λ_=>True:=by
 induction n with
 |zero=>intro t h;omega
 |succ n ih=>
  intro t hz hm;show Yd (jH (tk n) t x) λ_=>True
  exact aer hm λu hu=>ih (t:=u) (by have:=so hu;omega) (hm.inner u hu)
def afq{t:aj}(hm:cU t)(x:Int):Yd (xe t x) λ_=>True:=aem (by omega) hm
structure DC (t:aj) (v aJ round:Int):Prop where
 aN:dt t
 v0:0<=v
 v1:v<10
 s0:0<=aJ
 s1:aJ<=1000000
 r1:1<=round
 r2:round<=1000
def Zz(a b c d:Int):∃r,nM a b c d=some r:=⟨_,rfl⟩
section
variable {t : aj} {v aJ round : Int}
def OF(h:DC t v aJ round):uP t v aJ round=some 0:=by
 have e1:=h.v0;have e2:=h.v1;have e3:=h.s0;have e4:=h.s1;have e5:=h.r1;have e6:=h.r2;unfold uP;simp only[etas,dI h.aN,Qa];rw[Qh (by omega:¬v<0),Qh (by omega:¬(10:Int)<=v),Qh (by omega:¬aJ<0),Qh (by omega:¬(1000000:Int)<aJ),Qh (by omega:¬round<1),Qh (by omega:¬(1000:Int)<round)]
 rfl
def ahE(h:DC t v aJ round)(k:Int):Yd (mn t v aJ round k) λ_=>True:=by
 unfold mn;simp only[etas,OF h,Qa,aS];have h1:∀b:Bool,Yd (bif b then(some true:Option Bool)else some (decide (k<0))) λ_=>True:=λb=>by cases b<;>exact .some trivial
 refine Yd.bind (h1 _) λb1 _=> ?_
 have h2:∀b:Bool,Yd (bif b then(some true:Option Bool)else some (decide ((10:Int)<=k))) λ_=>True:=λb=>by cases b<;>exact .some trivial
 refine Yd.bind (h2 _) λb2 _=> ?_
 cases b2 with
 |true=>exact .some trivial
 |false=>
  simp only[Ql];refine Yd.bind (afq h.aN.sm k) λq _=> ?_
  obtain⟨hsh,eh⟩:=Zz 1 aJ round k;rw[eh];simp only[Qa]
  cases decide (k=v)with
  |true=>exact .some trivial
  |false=>cases q.2.1<;>exact .some trivial
def Yn(h:DC t v aJ round):Yd (lz t v aJ round) λq=>0<=q.1/\q.1<10/\q.2.1=0:=by
 unfold lz;simp only[etas,OF h,Qa,aS];simp only[decide_true,Qo,Ql];refine Yd.Du (λ(s:Int×Int×Unit)=>0<=s.1/\s.1<10/\0<=s.2.1/\s.2.1<=10) (λs=>(10 - s.2.1).toNat) ?_ ⟨h.v0,h.v1,Int.le_refl _,by show(0:Int)<=10;omega⟩
 rintro⟨b,k,u⟩ ⟨h1,h2,h3,h4⟩;simp only at h1 h2 h3 h4;simp only
 by_cases hk:k<10
 ·rw[Qg hk];have hadd:aA .i64 k 1=k+1:=bG (by omega) (by omega)
  simp only[Qk];rw[hadd]
  have fin:∀x:Int,0<=x->x<10->Yd (some (Sum.inl (x,k+1,())):Option ((Int×Int×Unit)⊕(Int×Int×Unit))) (Lp (λs'=>(0<=s'.1/\s'.1<10/\0<=s'.2.1/\s'.2.1<=10)/\(10 - s'.2.1).toNat<(10 - k).toNat) (λr=>0<=r.1/\r.1<10/\r.2.1=0)):=
   λx g1 g2=> .some ⟨⟨g1,g2,by show 0<=k+1;omega,by show k+1<=10;omega⟩,by show(10 - (k+1)).toNat<(10 - k).toNat;omega⟩
  refine Yd.bind (ahE h k) λr _=> ?_
  cases r with
  |false=>exact fin b h1 h2
  |true=>
   obtain⟨hsh,eh⟩:=Zz 2 aJ round k;obtain⟨hsb,eb⟩:=Zz 2 aJ round b;rw[eh,eb];simp only[Qo,Ql,Qa];refine Yd.bind (p:=λ_=>True) ?_ λb9 _=> ?_
   ·refine Yd.cond (λ_=> .some trivial) λ_=> ?_
    exact Yd.bind (p:=λ_=>True) (Yd.cond (λ_=> .some trivial) λ_=> .some trivial) λ_ _=> .some trivial
   ·cases b9 with
    |true=>exact fin k h3 hk
    |false=>exact fin b h1 h2
 ·rw[Qh hk];exact .some ⟨h1,h2,rfl⟩
def ac4(h:DC t v aJ round):Yd (oo t v aJ round) λq=>∃s:Nat,q.1=s/\s<1024:=by
 have e5:=h.r1;have e6:=h.r2;unfold oo;simp only[etas,aS];refine Yd.bind (Yn h) λq ⟨_,_,hq⟩=> ?_
 rw[hq];simp only[decide_true,Qo,Ql];refine Yd.Du (λ(s:Int×Int×Unit)=>(∃n:Nat,s.1=n/\n<1024)/\1<=s.2.1/\s.2.1<=round+1) (λs=>(round+1 - s.2.1).toNat) ?_ ⟨⟨0,rfl,by omega⟩,Int.le_refl _,by show(1:Int)<=round+1;omega⟩
 rintro⟨b,k,u⟩ ⟨⟨n,h1,h2⟩,h3,h4⟩;simp only at h1 h3 h4;subst h1;simp only
 by_cases hk:k<=round
 ·rw[Qg hk];have hadd:aA .i64 k 1=k+1:=bG (by omega) (by omega)
  simp only[Qk];rw[hadd];refine Yd.bind (Yn ⟨h.aN,h.v0,h.v1,h.s0,h.s1,h3,by omega⟩) λq ⟨g1,g2,_⟩=> ?_
  rw[mY,Qa]
  have fin:∀x:Nat,x<1024->Yd (some (Sum.inl ((x:Int),k+1,())):Option ((Int×Int×Unit)⊕(Int×Int×Unit))) (Lp (λs'=>((∃n:Nat,s'.1=n/\n<1024)/\1<=s'.2.1/\s'.2.1<=round+1)/\(round+1 - s'.2.1).toNat<(round+1 - k).toNat) (λr=>∃s:Nat,r.1=s/\s<1024)):=
   λx g=> .some ⟨⟨⟨x,rfl,g⟩,by show 1<=k+1;omega,by show k+1<=round+1;omega⟩,by show(round+1 - (k+1)).toNat<(round+1 - k).toNat;omega⟩
  cases xt n q.1 with
  |true=>exact fin n h2
  |false=>
   simp only[Qp,Qk];rw[Qs (by omega),qO h2 g1 g2]
   exact fin _ (BJ h2 g2)
 ·rw[Qh hk];exact .some ⟨n,rfl,h2⟩
end
end
end Go.Proofs.YtofedieniojipaaGreat
end
