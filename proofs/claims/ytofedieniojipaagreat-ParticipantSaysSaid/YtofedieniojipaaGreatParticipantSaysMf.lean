/-
  Texts made small by a program (see NOTES). Conditions: those that each theorem names.
-/
import Derived.Test.YtofedieniojipaaGreatParticipantSaysMe
set_option linter.unusedVariables false
set_option linter.defProp false
set_option linter.unusedSimpArgs false
set_option linter.unusedSectionVars false
set_option maxHeartbeats 2000000
open Int (toNat)
open Sum (inl inr)
open List (replicate)
noncomputable section
namespace Go.Proofs.YtofedieniojipaaGreat
open Go.TQ
section
def mg{bytes n:Nat}(h:bytes<=200)(hn:n<=1000000):bg bytes n=true:=
 bz ⟨QK (Nat.mul_le_mul hn h) (by decide),hn⟩
def Ab{α ρ:Type}(l:List α)(hl:l.length<=1000000)(p:α->Bool){step:Int×Unit->Option ((Int×Unit)⊕ρ)}{fin:Option ρ}{f:Nat->α->Option ρ}
  (h1:∀(i:Nat) (x:α),i<l.length->l[i]?=some x->decide ((i:Int)<(l.length:Int))=true->idx l (i:Int)=some x->aB .i64 (i:Int) 1=((i+1:Nat):Int)->step ((i:Int),())=bif p x then Option.map inr (f i x)else some (.inl (((i+1:Nat):Int),())))
  (h2:(∀x∈l,p x=false)->decide ((l.length:Int)<(l.length:Int))=false->step ((l.length:Int),())=Option.map inr fin):
  aE step ((0:Int),())=match l.findIdx? p with|some i=>(l[i]?).bind (f i)|none=>fin:=by
 suffices key:∀(k i:Nat),i+k=l.length->(∀x∈l.take i,p x=false)->aE step ((i:Int),())=match(l.drop i).findIdx? p with|some j=>(l[i+j]?).bind (f (i+j))|none=>fin by
  have:=key l.length 0 (by omega) (by simp)
  rw[List.drop_zero]at this;simp only[Nat.zero_add]at this;exact this
 intro k
 induction k with
 |zero=>
  intro i hi hpre;obtain rfl:i=l.length:=by omega
  rw[Qq62]at hpre;rw[fg,h2 hpre (Qh (Qq64 _)),Qq66];cases fin<;>rfl
 |succ k ih=>
  intro i hi hpre;have hlt:i<l.length:=by omega
  have hx:l[i]?=some l[i]:=Qv hlt;have hs:=h1 i l[i] hlt hx (Qg (by omega)) (by rw[bd];exact hx) (bG (by omega) (by omega))
  rw[QM hlt,List.findIdx?_cons]
  cases hp:p l[i]with
  |true=>rw[hp]at hs;rw[fg,hs];simp only[Qk,Qt,Nat.add_zero,hx,Qa];cases f i l[i]<;>rfl
  |false=>
   rw[hp]at hs
   rw[bA hs,ih (i+1) (by omega) (λx hx=>by
    rw[Q7 hlt,Qz,Q5]at hx;rcases hx with hx|rfl
    ·exact hpre x hx
    ·exact hp)]
   simp only[Qq,Qu]
   cases (l.drop (i+1)).findIdx? p with
   |none=>rfl
   |some j=>simp only[Qe];rw[show i+1+j=i+(j+1)by omega]
def I8(l:List ak)(e:ak):Nat:=(l.findIdx? λx=>decide (e.al<x.al)).getD l.length
 def s9(l:List ak)(e:ak):List ak×Bool×Unit:=
 if bc e then
  match l.findIdx? λx=>decide (x.al=e.al)with
  |some i=>if e.aH<=((l[i]?).getD e).aH then(l,false,())else(l.set i e,true,())
  |none=>(l.take (I8 l e)++[e]++l.drop (I8 l e),true,())
 else(l,false,())
def ajL(l:List ak)(e:ak):I8 l e<=l.length:=by
 unfold I8
 cases h:l.findIdx? λx=>decide (e.al<x.al)with
 |none=>exact QI _
 |some i=>exact Nat.le_of_lt ((List.findIdx?_eq_some_iff_getElem.1 h).1)
section
variable {l : List ak} (hl : ∀ x ∈ l, cQ x.aa) (hlen : l.length <= 1000)
 include hlen
theorem acO(e:ak):dR l e=some (match l.findIdx? λx=>decide (x.al=e.al)with|some i=>(i:Int)|none=> -1):=by
 unfold dR;refine(Ab l (by omega) (λx=>decide (x.al=e.al)) (f:=λi _=>some (i:Int)) (fin:=some (-1)) (λi x hi hx0 hd hx hw=> ?_) (λhall hd=> ?_)).trans ?_
 ·simp only[hd,hx,hw,Qk,Qa,xU,etas]
 ·simp only[hd,Ql]
 ·cases h:l.findIdx? λx=>decide (x.al=e.al)with
  |none=>rfl
  |some i=>have:=(List.findIdx?_eq_some_iff_getElem.1 h).1;simp[Qv this]
theorem aen(e:ak):dQ l e=some (match l.findIdx? λx=>decide (e.al<x.al)with|some i=>(i:Int)|none=> -1):=by
 unfold dQ;refine(Ab l (by omega) (λx=>decide (e.al<x.al)) (f:=λi _=>some (i:Int)) (fin:=some (-1)) (λi x hi hx0 hd hx hw=> ?_) (λhall hd=> ?_)).trans ?_
 ·simp only[hd,hx,hw,Qk,Qa,xT,etas]
 ·simp only[hd,Ql]
 ·cases h:l.findIdx? λx=>decide (e.al<x.al)with
  |none=>rfl
  |some i=>have:=(List.findIdx?_eq_some_iff_getElem.1 h).1;simp[Qv this]
 include hl
theorem XA:dZ l=some l:=by
 unfold dZ
 suffices key:∀(k i:Nat),i+k=l.length->aE _ ((i:Int),l.take i,())=some l from key l.length 0 (by omega)
 intro k
 induction k with
 |zero=>
  intro i hi;obtain rfl:i=l.length:=by omega
  have hd:decide ((l.length:Int)<(l.length:Int))=false:=Qh (Qq64 _);exact bO (by simp only[hd,Ql,Qe,Qq62])
 |succ k ih=>
  intro i hi;have hlt:i<l.length:=by omega
  have hd:decide ((i:Int)<(l.length:Int))=true:=Qg (by omega)
  have hw:aB .i64 (i:Int) 1=((i+1:Nat):Int):=bG (by omega) (by omega)
  have hx:idx l (i:Int)=some l[i]:=by rw[bd];exact Qv hlt
  have hc:jZ l[i]=some l[i]:=by simp only[jZ,etas,jm (hl _ (Q0 hlt)),Qa]
  refine(bA ?_).trans (ih (i+1) (by omega))
  simp only[hd,hx,hw,Qk,Qa,etas,hc];rw[mg (by omega) (by simp;omega),Q7 hlt]
  rfl
theorem aiK{e:ak}(he:cQ e.aa):vL l e=some (s9 l e):=by
 have hc:jZ e=some e:=by simp only[jZ,etas,jm he,Qa]
 have hat:=ajL l e;unfold vL;simp only[XA hl hlen,etas,sG he,hc,acO hlen,aen hlen,Qa,aR];unfold s9
 cases bc e with
 |false=>rfl
 |true=>
  simp only[Qo,Ql,Qt]
  cases h:l.findIdx? λx=>decide (x.al=e.al)with
  |some i=>
   have hi:=(List.findIdx?_eq_some_iff_getElem.1 h).1;have hd:decide ((0:Int)<=(i:Int))=true:=Qg (by omega)
   have hx:idx l (i:Int)=some l[i]:=by rw[bd];exact Qv hi
   simp only[hd,hx,Qk,Qa,QV,Qv hi,Q3]
   by_cases hs:e.aH<=l[i].aH<;>simp[hs]
  |none=>
   have hd:decide ((0:Int)<= -1)=false:=rfl;simp only[hd,Ql]
   have hins:∀a:Nat,a<=l.length->eZ l (a:Int) [e]=some (l.take a++[e]++l.drop a):=λa ha=>by
    unfold eZ C1;have h1:decide ((0:Int)<=(a:Int))=true:=Qg (by omega)
    have h2:decide ((a:Int)<=(l.length:Int))=true:=Qg (by omega)
    rw[h1,h2,mg (by omega) (by simp;omega)]
    rfl
   unfold I8 at hat ⊢
   cases h':l.findIdx? λx=>decide (e.al<x.al)with
   |none=>have hd2:decide ((-1:Int)<0)=true:=rfl;simp only[hd2,Qk,hins _ (QI _),Qa,Option.getD_none]
   |some j=>
    have hj:=(List.findIdx?_eq_some_iff_getElem.1 h').1;have hd2:decide ((j:Int)<0)=false:=Qh (by omega)
    simp only[hd2,Ql,hins _ (Nat.le_of_lt hj),Qa,Q3]
end
end
section
section
variable {l : List ak} (hlen : l.length <= 1000)
 include hlen
theorem JO(e:ak){a b:Nat}(ha:a<=b)(hb:b<=l.length):cF (0:Int) (a:Int) l.length=true/\bg 176 (List.length ((l.take (toNat (a:Int))).drop (toNat (0:Int))))=true/\
  bg 176 (List.length ((l.take (toNat (a:Int))).drop (toNat (0:Int)))+List.length [e])=true/\cF (b:Int) (l.length:Int) l.length=true/\
  bg 176 (List.length (((l.take (toNat (a:Int))).drop (toNat (0:Int)))++[e])+List.length ((l.take (toNat (l.length:Int))).drop (toNat (b:Int))))=true/\
  (((l.take (toNat (a:Int))).drop (toNat (0:Int)))++[e])++((l.take (toNat (l.length:Int))).drop (toNat (b:Int)))=l.take a++[e]++l.drop b:=by
 refine⟨by simp[cF];omega,jl (by omega) (by simp;omega),jl (by omega) (by simp;omega),by simp[cF];omega,jl (by omega) (by simp;omega),?_⟩
 simp only[QV,Int.toNat_zero,List.drop_zero,Qq62]
end
def I6{α:Type}{p q:α->Bool}:∀{l:List α},(∀x∈l,p x=q x)->l.findIdx? p=l.findIdx? q
 |[],_=>rfl
 |x::l,h=>by rw[List.findIdx?_cons,List.findIdx?_cons,h x (by simp),I6 λy hy=>h y (by simp[hy])]
def afB{l:List ak}(hl:∀x∈l,cQ x.aa)(hlen:l.length<=1000){e:ak}(he:cQ e.aa):Cj l e=some (s9 l e):=by
 unfold Cj;simp only[etas,ke he,Qa,aR];unfold s9
 cases bc e with
 |false=>rfl
 |true=>
  simp only[Qo,Ql,Qt];refine(Ab l (by omega) (λx=>decide (x.al=e.al)) (f:=λi x=>if e.aH<=x.aH then some (l,false,())else some (l.take i++[e]++l.drop (i+1),true,())) (fin:=some (l.take (I8 l e)++[e]++l.drop (I8 l e),true,())) (λi x hi hx0 hd hx hw=> ?_) (λhall hd=> ?_)).trans ?_
  ·simp only[hd,hx,hw,Qk,Qa]
   cases decide (x.al=e.al)with
   |false=>rfl
   |true=>
    simp only[Qk];obtain⟨f1,f2,f3,f4,f5,f6⟩:=JO hlen e (show i<=i+1 by omega) (show i+1<=l.length by omega)
    simp only[f1,f2,f3,f4,f5,f6,Qk]
    by_cases hs:e.aH<=x.aH<;>simp[hs]
  ·simp only[hd,Ql];refine congrArg (Option.map inr) ?_
   have hcg:(l.findIdx? λx=> !decide (x.al<e.al))=l.findIdx? λx=>decide (e.al<x.al):=I6 λx hx=>by
    have:=hall x hx;have hne:x.al≠e.al:=of_decide_eq_false this
    by_cases h:x.al<e.al
    ·have h':¬e.al<x.al:=by omega
     simp[h,h']
    ·have h':e.al<x.al:=by omega
     simp[h,h']
   refine(Ab l (by omega) (λx=> !decide (x.al<e.al)) (f:=λi x=>some (l.take i++[e]++l.drop i,true,())) (fin:=some (l.take l.length++[e]++l.drop l.length,true,())) (λi x hi hx0 hd hx hw=> ?_) (λ_ hd=> ?_)).trans ?_
   ·simp only[hd,hx,hw,Qk,Qa]
    cases decide (x.al<e.al)with
    |true=>rfl
    |false=>
     simp only[Ql,Qp,Qk];obtain⟨f1,f2,f3,f4,f5,f6⟩:=JO hlen e (QI i) (show i<=l.length by omega)
     simp only[f1,f2,f3,f4,f5,f6,Qk]
   ·simp only[hd,Ql];obtain⟨f1,f2,f3,f4,f5,f6⟩:=JO hlen e (QI l.length) (QI _);simp only[f1,f2,f3,f4,f5,f6,Qk]
   ·rw[hcg];unfold I8
    cases h:l.findIdx? λx=>decide (e.al<x.al)with
    |none=>rfl
    |some i=>have hi:=(List.findIdx?_eq_some_iff_getElem.1 h).1;simp only[Qv hi,Qa,Q3]
  ·cases h:l.findIdx? λx=>decide (x.al=e.al)with
   |none=>rfl
   |some i=>
    have hi:=(List.findIdx?_eq_some_iff_getElem.1 h).1;simp only[Qv hi,Qa,Q3]
    by_cases hs:e.aH<=l[i].aH
    ·simp[hs]
    ·simp only[hs,Qu];rw[List.set_eq_take_append_cons_drop,Qr hi];simp
end
section
structure wZ (m:ae):Prop where
 n0:0<=m.al
 n1:m.al<10
 aN:cQ m.aa
 len:m.au.length<=100
 sm:∀e∈m.au,cQ e.aa
 valid:∀e∈m.au,bc e=true
def EW{m:ae}{e:ak}(h:e∈bP m):e∈m.au\/(aP m.af=false/\e=jj m):=by
 unfold bP at h;split at h
 ·exact .inl h
 ·rename_i hz;rw[(FC _ _).mem_iff,Qz,Q5]at h;rcases h with h|h
  ·exact .inl h
  ·exact .inr ⟨by simpa using hz,h⟩
def aem(m:ae):(bP m).length<=m.au.length+1:=by
 unfold bP;split
 ·omega
 ·rw[(FC _ _).length_eq,QB,Q6];omega
def OX(m:ae):(jj m).aa=m.aa:=rU m
def wZ.vt{m:ae}(h:wZ m):tw (bP m)/\(bP m).length<=1000:=by
 have h1:=aem m;have h2:=h.len;refine⟨⟨by omega,λe he=> ?_⟩,by omega⟩
 rcases EW he with he|⟨_,rfl⟩
 ·exact h.sm e he
 ·rw[OX];exact h.aN
def wZ.aF{m:ae}(h:wZ m):((m.al.toNat:Nat):Int)=m.al/\m.al.toNat<10:=by have:=h.n0;have:=h.n1;omega
def eH(b:ah):ah:=if 1000<b.ai then⟨1000,b.Value⟩else b
def ajK(b:ah):tF b=some (eH b):=adQ b
def dC(p q b:ah):ah×ah:=
 if aP b=true then(p,q)else if aP p=true then(b,q)else if bC p b=true then(if bS p b=true then(b,if bS q b=true then cg else q)else(b,p))
 else if(bC b p&& !bS b p&&(aP q||bC q b))=true then(p,b)else(p,q)
def X6(a b:ah):bS a b=bS b a:=decide_eq_decide.2 ⟨Eq.symm,Eq.symm⟩
def aid(p q b:ah):AO p q b=some ((dC p q b).1,(dC p q b).2,()):=by unfold AO dC;simp only[df,kv,gJ,Qa,aR];cases aP b<;>cases aP p<;>cases bC p b<;>cases bS p b<;>cases bS q b<;>cases bC b p<;>cases bS b p<;>cases aP q<;>cases bC q b<;>rfl
def afP(p q b:ah):xz p q b=some ((dC p q b).1,(dC p q b).2,()):=by unfold xz dC;simp only[c6,ka,fU,Qa,aR,X6 b p];cases aP b<;>cases aP p<;>cases bC p b<;>cases bS p b<;>cases bS q b<;>cases bC b p<;>cases aP q<;>cases bC q b<;>rfl
def Jt(m:ae):ByteArray:=if m.aQ=2 then m.af.Value else gw
 def fb(m:ae):ah:=kg m.al.toNat m.aa (bP m) m.ao m.aD (Jt m)
def ue(m:ae)(p q:ah):Int:=
 if m.aQ=1/\m.aZ≠0 then(if fE m<lM m.af.Value m.aZ p q then 0 else lM m.af.Value m.aZ p q)else m.aZ
 def di(m:ae):ae:=
 if m.aQ=3\/aP m.af=true then m else
  {m with ao:=(dC m.ao m.aD (eH (fb m))).1,aD:=(dC m.ao m.aD (eH (fb m))).2,aZ:=ue m (dC m.ao m.aD (eH (fb m))).1 (dC m.ao m.aD (eH (fb m))).2}
def ahG{m:ae}(h:wZ m)(p q:ah)(v:ByteArray):tG m.al m.aa (bP m) p q v=some (kg m.al.toNat m.aa (bP m) p q v):=by
 have:=afD h.aF.2 h.aN h.vt.1 h.vt.2 p q v
 rwa [h.aF.1]at this
def ahJ{m:ae}(h:wZ m)(a:ah):oi m.al m.aa (bP m) a=some (Aw m.al.toNat m.aa (bP m) a):=by
 have:=afF h.aF.2 h.aN h.vt.1 h.vt.2 a
 rwa [h.aF.1]at this
def ZR{m:ae}(h:wZ m):uD m=some (di m):=by
 have hl:m.au.length<=1000:=by have:=h.len;omega
 unfold uD di;simp only[etas,df,Rt hl,ahG h,ajK,aid,AD,VT,Qa,aR]
 by_cases h3:m.aQ=3
 ·rw[Qg h3,Qr (.inl h3)];rfl
 ·rw[Qh h3]
  cases hz:aP m.af with
  |true=>rw[Qr (.inr rfl)];rfl
  |false=>
   rw[Qs (by simp[h3])]
   simp only[Ql,Qa]
   by_cases h2:m.aQ=2
   ·have h1:¬m.aQ=1:=by omega
    simp only[Qg h2,Qk,ue,Jt,fb,Qr h2,h1,false_and,Qu];rfl
   ·simp only[Qh h2,Ql];have hv:bE=Jt m:=by simp only[Jt,Qs h2];rfl
    rw[hv];have hn:kg m.al.toNat m.aa (bP m) m.ao m.aD (Jt m)=fb m:=rfl;simp only[hn]
    by_cases h1:m.aQ=1
    ·have hh:∀p q:ah,(cY {m with ao:=p,aD:=q}).bq=fE m:=λp q=>by unfold cY;rw[Qr (show({m with ao:=p,aD:=q}:ae).aQ=1 from h1)];rfl
     simp only[Qg h1,Qk,Qa]
     by_cases hL:m.aZ=0
     ·rw[Qg hL];unfold ue;rw[Qs (λh=>h.2 hL)]
      rfl
     ·rw[Qh hL];unfold ue;rw[Qr ⟨h1,hL⟩];simp only[Qp,Qk];rw[show(cY (ae.mk m.al m.aL m.aH m.aa m.aQ m.af (dC m.ao m.aD (eH (fb m))).1 (dC m.ao m.aD (eH (fb m))).2 m.ax m.aZ m.bq m.bj m.au)).bq=fE m from hh _ _]
      by_cases hlt:fE m<lM m.af.Value m.aZ (dC m.ao m.aD (eH (fb m))).1 (dC m.ao m.aD (eH (fb m))).2
      ·rw[Qg hlt,Qr hlt];rfl
      ·rw[Qh hlt,Qs hlt];rfl
    ·rw[Qh h1];unfold ue;rw[Qs (λh=>h1 h.1)]
     rfl
 def gS(m:ae):ah:=Aw m.al.toNat m.aa (bP m) m.ax
def Dg(m:ae)(b:ah):ae:=
 if bC m.af b=true then{m with ax:=b,af:=b,aZ:=if bS m.af b=true then m.aZ else 0}else{m with ax:=b}
def rE(m:ae)(b:ah):ae:=
 if m.aZ=0/\bS m.af b=true/\lM b.Value m.af.ai m.ao m.aD<=b.ai then{m with aZ:=lM b.Value m.af.ai m.ao m.aD}else m
 def gB(m:ae):ae:=
 if m.aQ≠1\/aP m.af=true\/aP (gS m)=true then m else rE (Dg m (gS m)) (gS m)
def RI(m:ae)(b:ah){α:Type}(j:ae->Option α):
  ((bif decide (m.aZ=(0:Int))then some (bS m.af b)else some false).bind λx=>bif x then(bif decide (lM b.Value m.af.ai m.ao m.aD<=b.ai)then j {m with aZ:=lM b.Value m.af.ai m.ao m.aD}else j m)else j m)=j (rE m b):=by
 unfold rE
 by_cases hL:m.aZ=0
 ·rw[Qg hL]
  cases hc:bS m.af b with
  |true=>
   by_cases hle:lM b.Value m.af.ai m.ao m.aD<=b.ai
   ·rw[Qr ⟨hL,rfl,hle⟩,Qg hle];rfl
   ·rw[Qs (λh=>hle h.2.2),Qh hle];rfl
  |false=>rw[Qs (λh=>by cases h.2.1)];rfl
 ·rw[Qh hL,Qs (λh=>hL h.1)];rfl
def X5{m:ae}(h:wZ m):sS m=some (gB m):=by
 have hl:m.au.length<=1000:=by have:=h.len;omega
 unfold sS gB;simp only[etas,df,Rt hl,ahJ h,VT,Qa,aR,gJ,kv];have hb:Aw m.al.toNat m.aa (bP m) m.ax=gS m:=rfl;simp only[hb]
 by_cases h1:m.aQ=1
 ·rw[Qg h1]
  cases hz:aP m.af with
  |true=>rw[Qr (.inr (.inl rfl))];rfl
  |false=>
   cases hzb:aP (gS m)with
   |true=>rw[Qr (.inr (.inr rfl))];rfl
   |false=>
    rw[Qs (by simp[h1])]
    simp only[Qo,Ql,Qa];unfold Dg
    cases hlt:bC m.af (gS m)with
    |true=>
     cases hcp:bS m.af (gS m)with
     |true=>simp only[Qk,Qo,Ql,Qt];exact RI {m with ax:=gS m,af:=gS m} (gS m) some
     |false=>simp only[Qk,Qp,Qt,Qq,Qu];exact RI {m with ax:=gS m,af:=gS m,aZ:=0} (gS m) some
    |false=>simp only[Ql,Qq,Qu];exact RI {m with ax:=gS m} (gS m) some
 ·rw[Qh h1,Qr (.inl h1)];rfl
section
variable {aF : Nat} (hn : aF < 10) {t : aj} (ht : cQ t) {l : List ak} (hl : tw l) (hlen : l.length <= 1000)
 include hn ht hl hlen
theorem Yt(v:ByteArray)(lo hi:Int):ku aF t l v lo hi=some (nI aF t l v lo hi):=by have hin:=nC l;have hsm:=oE (aF:=aF) ht hl;simp only[ku,etas,Tl hl.aN hlen,Bq hn hl,Qa,w8 hsm hn (mM hin) (mM hin)];rfl
theorem adj(v:ByteArray)(lo hi:Int):mR aF t l v lo hi=some (wD aF t l v lo hi):=by have hin:=nC l;have hsm:=oE (aF:=aF) ht hl;simp only[mR,etas,Tl hl.aN hlen,Bq hn hl,Qa,vx hsm hn (mM hin)];rfl
theorem adh(p q:ah):rA aF t l p q=some (rR (nI aF t l) l p q (ic (nI aF t l) l p q)):=afH hl hlen (Yt hn ht hl hlen) p q
theorem ahL(v:ByteArray)(low cn:Int):pU aF t l v low cn=some ((Gk (bw l v) (nI aF t l v) low cn).1,(Gk (bw l v) (nI aF t l v) low cn).2,()):=adi hl hlen (Yt hn ht hl hlen) v low cn
theorem ahK(v:ByteArray):rB aF t l v=some (EI (bw l v) (wD aF t l v)):=afJ hl hlen (adj hn ht hl hlen) v
end
 def iu(m:ae):ByteArray->Int->Int->Bool:=nI m.al.toNat m.aa (bP m)
 def Oh(m:ae):ByteArray->Int->Int->Bool:=wD m.al.toNat m.aa (bP m)
 def fT(m:ae):ByteArray×Int×Int×Bool×Unit:=rR (iu m) (bP m) m.ao m.aD (ic (iu m) (bP m) m.ao m.aD)
 def eW(m:ae):Int×Int:=Gk (bw (bP m) m.af.Value) (iu m m.af.Value) m.aZ m.bq
 def pA(m:ae):Int×Int×Bool×Unit:=EI (bw (bP m) m.af.Value) (Oh m m.af.Value)
def afI{m:ae}(h:wZ m):rA m.al m.aa (bP m) m.ao m.aD=some (fT m):=by
 have:=adh h.aF.2 h.aN h.vt.1 h.vt.2 m.ao m.aD
 rwa [h.aF.1]at this
def ajc{m:ae}(h:wZ m):pU m.al m.aa (bP m) m.af.Value m.aZ m.bq=some ((eW m).1,(eW m).2,()):=by
 have:=ahL h.aF.2 h.aN h.vt.1 h.vt.2 m.af.Value m.aZ m.bq
 rwa [h.aF.1]at this
def ajb{m:ae}(h:wZ m):rB m.al m.aa (bP m) m.af.Value=some (pA m):=by
 have:=ahK h.aF.2 h.aN h.vt.1 h.vt.2 m.af.Value
 rwa [h.aF.1]at this
def N5(m:ae)(v:ByteArray)(lo hi:Int):ae:=
 {m with af:=if(!bS m.af ⟨hi,v⟩||bC m.af ⟨hi,v⟩)=true then⟨bF m.af.ai hi,v⟩else m.af,ao:=if jM m.ao ⟨hi,v⟩=true then m.ao else⟨hi,v⟩,aQ:=2,aZ:=lo,bq:=hi,ax:=⟨hi,v⟩,aD:=cg}
def CF(m:ae)(lo hi:Int):ae:=
 {m with af:=⟨bF m.af.ai hi,m.af.Value⟩,ao:=⟨bF m.ao.ai hi,m.ao.Value⟩,ax:=⟨bF m.ax.ai hi,m.af.Value⟩,aZ:=lo,bq:=hi}
 def fX(m:ae):ae:=
 if m.aQ=1 then(if(fT m).2.2.2.1=true then N5 m (fT m).1 (fT m).2.1 (fT m).2.2.1 else m)
 else if m.aQ=2 then CF m (eW m).1 (eW m).2 else m
def X7{m:ae}(h:wZ m):sU m=some (fX m):=by
 have hl:m.au.length<=1000:=by have:=h.len;omega
 unfold sU fX;simp only[etas,Rt hl,afI h,ajc h,Qa,aR,gJ,kv,Dk]
 by_cases h1:m.aQ=1
 ·rw[Qg h1,Qr h1]
  cases hk:(fT m).2.2.2.1 with
  |false=>simp only[Qk,Qp,Qq,Qu]
  |true=>simp only[Qk,Qo,Ql,Qt];unfold N5;cases bS m.af ⟨(fT m).2.2.1,(fT m).1⟩<;>cases bC m.af ⟨(fT m).2.2.1,(fT m).1⟩<;>cases jM m.ao ⟨(fT m).2.2.1,(fT m).1⟩<;>rfl
 ·rw[Qh h1,Qs h1]
  by_cases h2:m.aQ=2
  ·rw[Qg h2,Qr h2];rfl
  ·rw[Qh h2,Qs h2];rfl
def Re(m:ae)(lo hi:Int):ae:={m with aQ:=3,aZ:=lo,bq:=hi,af:=⟨hi,m.af.Value⟩,ao:=cg,aD:=cg,ax:=cg}
 def jf(m:ae):ae:=if m.aQ=2/\(pA m).2.2.1=true then Re m (pA m).1 (pA m).2.1 else m
def agD{m:ae}(h:wZ m):yJ m=some (jf m):=by
 have hl:m.au.length<=1000:=by have:=h.len;omega
 unfold yJ jf;simp only[etas,Rt hl,ajb h,Qa]
 by_cases h2:m.aQ=2
 ·rw[Qg h2]
  cases hk:(pA m).2.2.1 with
  |false=>rw[Qs (λh=>by cases h.2)];rfl
  |true=>rw[Qr ⟨h2,rfl⟩];rfl
 ·rw[Qh h2,Qs (λh=>h2 h.1)];rfl
end
section
def FI{α β ρ:Type}(l:List α)(hl:l.length<=1000)(f:α->β){step:Int×List β×Unit->Option ((Int×List β×Unit)⊕ρ)}{fin:List β->Option ρ}
  (h1:∀(i:Nat) (e:α) (s:List β),s.length<=1000->e∈l->decide ((i:Int)<(l.length:Int))=true->idx l (i:Int)=some e->aB .i64 (i:Int) 1=((i+1:Nat):Int)->step ((i:Int),s,())=some (.inl (((i+1:Nat):Int),s++[f e],())))
  (h2:∀s,decide ((l.length:Int)<(l.length:Int))=false->step ((l.length:Int),s,())=Option.map inr (fin s)):aE step ((0:Int),[],())=fin (l.map f):=by
 suffices key:∀(k i:Nat) (s:List β),i+k=l.length->s.length=i->aE step ((i:Int),s,())=fin (s++(l.drop i).map f)by
  have:=key l.length 0 [] (by omega) rfl
  simpa using this
 intro k
 induction k with
 |zero=>
  intro i s hi hs;obtain rfl:i=l.length:=by omega
  have hd:decide ((l.length:Int)<(l.length:Int))=false:=Qh (Qq64 _);have h:=h2 s hd;rw[Qq66,QO,List.append_nil]
  cases hf:fin s with
  |none=>rw[hf]at h;exact Pg h
  |some r=>rw[hf]at h;exact bO h
 |succ k ih=>
  intro i s hi hs;have hlt:i<l.length:=by omega
  rw[bA (h1 i l[i] s (by omega) (Q0 hlt) (Qg (by omega)) (by rw[bd];exact Qv hlt) (bG (by omega) (by omega))),ih (i+1) (s++[f l[i]]) (by omega) (by simp;omega),
   QM hlt,QD,QL]
  rfl
def ab6{α β ρ:Type}(l:List α)(hl:l.length<=1000)(f:α->β){step:Int×List β×Unit->Option ((Int×List β×Unit)⊕ρ)}{fin:List β->Option ρ}
  (h1:∀(i:Nat) (e:α) (s:List β),s.length=l.length->e∈l->i<l.length->decide ((i:Int)<(l.length:Int))=true->idx l (i:Int)=some e->aB .i64 (i:Int) 1=((i+1:Nat):Int)->step ((i:Int),s,())=some (.inl (((i+1:Nat):Int),s.set i (f e),())))
  (h2:∀s,decide ((l.length:Int)<(l.length:Int))=false->step ((l.length:Int),s,())=Option.map inr (fin s)) {s0:List β} (hs0:s0.length=l.length):aE step ((0:Int),s0,())=fin (l.map f):=by
 suffices key:∀(k i:Nat) (s:List β),i+k=l.length->s.length=l.length->aE step ((i:Int),s,())=fin (s.take i++(l.drop i).map f)by
  have:=key l.length 0 s0 (by omega) hs0
  simpa using this
 intro k
 induction k with
 |zero=>
  intro i s hi hs;obtain rfl:i=l.length:=by omega
  have hd:decide ((l.length:Int)<(l.length:Int))=false:=Qh (Qq64 _);have h:=h2 s hd;rw[Qq66,QO,List.append_nil,<-hs,Qq62];rw[<-hs]at h
  cases hf:fin s with
  |none=>rw[hf]at h;exact Pg h
  |some r=>rw[hf]at h;exact bO h
 |succ k ih=>
  intro i s hi hs;have hlt:i<l.length:=by omega
  rw[bA (h1 i l[i] s hs (Q0 hlt) hlt (Qg (by omega)) (by rw[bd];exact Qv hlt) (bG (by omega) (by omega))),ih (i+1) (s.set i (f l[i])) (by omega) (by simpa using hs),
   QM hlt,QD]
  congr 1;rw[List.take_add_one,List.take_set_of_le (QI i),List.getElem?_set_self (by omega)]
  simp
def Ku(z:ah):List ah->ah
 |[]=>z
 |x::l=>l.foldl (λa y=>if bC a y=true then y else a) x
def P5(l:List ah)(hl:l.length<=1000000)(z:ah){step:Int×ah×Unit->Option ((Int×ah×Unit)⊕ah)}
  (h1:∀(i:Nat) (x s:ah),decide ((i:Int)<(l.length:Int))=true->idx l (i:Int)=some x->aB .i64 (i:Int) 1=((i+1:Nat):Int)->step ((i:Int),s,())=some (.inl (((i+1:Nat):Int),(if i=0 then x else if bC s x=true then x else s),())))
  (h2:∀s,decide ((l.length:Int)<(l.length:Int))=false->step ((l.length:Int),s,())=some (.inr s)):aE step ((0:Int),z,())=some (Ku z l):=by
 have hd:decide ((l.length:Int)<(l.length:Int))=false:=Qh (Qq64 _)
 have key:∀(k i:Nat) (s:ah),i+k=l.length->1<=i->aE step ((i:Int),s,())=some ((l.drop i).foldl (λa y=>if bC a y=true then y else a) s):=by
  intro k
  induction k with
  |zero=>
   intro i s hi h1i;obtain rfl:i=l.length:=by omega
   rw[Qq66];exact bO (h2 s hd)
  |succ k ih=>
   intro i s hi h1i;have hlt:i<l.length:=by omega
   rw[bA (h1 i l[i] s (Qg (by omega)) (by rw[bd];exact Qv hlt) (bG (by omega) (by omega))),ih (i+1) _ (by omega) (by omega),QM hlt,QU,Qs (by omega:¬i=0)]
 cases l with
 |nil=>exact bO (h2 z hd)
 |cons x l=>
  have hx:=h1 0 x z (Qg (by simp)) (by rw[bd];rfl) (bG (by omega) (by omega))
  rw[Qr rfl]at hx;exact(bA hx).trans (key l.length 1 x (by simp;omega) (by omega))
def agp(l:List ah)(hl:l.length<=1000000):qC l=some (Ku cg l):=by
 unfold qC;refine P5 l hl cg (λi x s hd hx hw=> ?_) (λs hd=> ?_)
 ·simp only[hd,hx,hw,Qk,aR,Qa,kv]
  by_cases hi:i=0
  ·subst hi;rfl
  ·have:decide ((i:Int)=0)=false:=Qh (by omega)
   rw[this,Qs hi];cases bC s x<;>rfl
 ·simp only[hd,Ql,Qe]
def adq(l:List ah)(hl:l.length<=1000000):nV l=some (Ku cg l):=by
 unfold nV;refine P5 l hl cg (λi x s hd hx hw=> ?_) (λs hd=> ?_)
 ·simp only[hd,hx,hw,Qk,aR,Qa,ka]
  by_cases hi:i=0
  ·subst hi;rfl
  ·have:decide ((i:Int)=0)=false:=Qh (by omega)
   rw[this,Qs hi];cases bC s x<;>rfl
 ·simp only[hd,Ql,Qe]
def eo(m:ae):ByteArray:=
 if aP m.ax=false then m.ax.Value else if m.aQ≠1 then m.af.Value else if m.bj≠gw then m.bj else(Ku cg (m.au.map (·.af))).Value
def RJ{m:ae}(h:wZ m):oL m=some (eo m):=by
 have hl:m.au.length<=1000:=by have:=h.len;omega
 unfold oL eo;simp only[df,Qa]
 cases hz:aP m.ax with
 |false=>rfl
 |true=>
  simp only[Qo,Ql,Bool.true_eq_false,Qu]
  by_cases h1:m.aQ=1
  ·rw[Qg h1,Qs (λh=>h h1)]
   simp only[Qo,Ql]
   by_cases hp:m.bj=gw
   ·have hp':decide (m.bj=bE)=true:=Qg hp;rw[hp',Qs (λh=>h hp)]
    simp only[Qo,Ql]
    rw[FI m.au hl (·.af) (fin:=λs=>Option.bind (qC s) λr=>some r.Value) (λi e s hs he hd hx hw=>by
     simp only[hd,hx,hw,Qk,Qa]
     rw[bz (by simp;omega),Qk]) (λs hd=>by simp only[hd,Ql]),agp _ (by simp;omega)]
    rfl
   ·have hp':decide (m.bj=bE)=false:=Qh hp;rw[hp',Qr hp];rfl
  ·rw[Qh h1,Qr h1];rfl
def HJ{e:ak}(h:cQ e.aa)(hv:bc e=true):lY e=some (fG e):=by
 simp only[lY,etas,ke h,Qa,hv,fG]
 by_cases h3:e.bu=3
 ·rw[Qg h3,Qr h3];rfl
 ·rw[Qh h3,Qs h3];rfl
def VE{e:ak}(h:cQ e.aa)(hv:bc e=true):kD e=some (fG e):=by rw[Xx (K6 h)];have:gV (Hs e.aa) e=true:=hv;rw[this,Qr rfl]
def Hf(m:ae)(n:Int):Nat:=ff (λe=>decide (n<fG e)) m.au
 def jn(m:ae)(n:Int):Bool:=BS (kP m.al.toNat m.aa (bP m)) m.al.toNat (Hf m n)
def wZ.SH{m:ae}(h:wZ m):xr m.au:=λe he=>kG (h.valid e he)
def Uk{m:ae}(h:wZ m)(n:Int):Hf m n<1024:=mM h.SH
def ag1{m:ae}(h:wZ m)(n:Int):uV m n=some (jn m n):=by
 have hl:m.au.length<=1000:=by have:=h.len;omega
 unfold uV
 rw[FI m.au hl (λe=>decide (n<fG e)) (fin:=λs=>Option.bind (lQ m) λr4=>Option.bind (jq m.al m.aa r4) λr5=>Option.bind (gu m.au s) λr6=>Option.bind (pX r5 m.al r6) λr7=>some r7)
  (λi e s hs he hd hx hw=>by
   simp only[hd,hx,hw,Qk,Qa,etas,HJ (h.sm e he) (h.valid e he)]
   rw[bz (by simp;omega),Qk])
  (λs hd=>by simp only[hd,Ql,etas])]
 have hv:=Bq h.aF.2 (t:=m.aa) h.vt.1;have hb:=OM (oE (aF:=m.al.toNat) h.aN h.vt.1) (v:=m.al.toNat) (Uk h n);rw[h.aF.1]at hv hb;rw[Rt hl,Qa,hv,Qa,BW m.au hl _ (λe he _=>h.SH e he),Qa,show ff (λe=>decide (n<fG e)) m.au=Hf m n from rfl,hb]
 rfl
 def oa(m:ae)(Gp:Int)(e:ak):Int:=
 if m.af.ai<fG e/\fG e<Gp/\jn m (fG e)=false then fG e else Gp
 def ix(m:ae):Int:=m.au.foldl (oa m) 1000000
 def oG(m:ae):ByteArray:=if m.aQ=1 then eo m else m.af.Value
 def fS(m:ae):ae:=
 if m.aQ=3\/jn m m.af.ai=false then m
 else{m with aZ:=if oG m=m.af.Value then m.aZ else 0,af:=⟨bF m.af.ai (dt (ix m) 1000),oG m⟩}
open Classical in
def Xb{m:ae}(h:wZ m){ρ:Type}{step:Int×Int×Unit->Option ((Int×Int×Unit)⊕ρ)}{fin:Int->Option ρ}
  (h1:∀(i:Nat) (e:ak) (s:Int),e∈m.au->decide ((i:Int)<(m.au.length:Int))=true->idx m.au (i:Int)=some e->aB .i64 (i:Int) 1=((i+1:Nat):Int)->step (s,(i:Int),())=some (.inl (oa m s e,((i+1:Nat):Int),())))
  (h2:∀s,decide ((m.au.length:Int)<(m.au.length:Int))=false->step (s,(m.au.length:Int),())=Option.map inr (fin s)):aE step ((1000000:Int),(0:Int),())=fin (ix m):=by
 have hl:=h.len
 have key:=iD m.au (by omega) (λi s=>(s,i,())) (λe s=>if e∈m.au then some (.inl (oa m s e))else none) fin (step:=step) (λi x s hd hx hw=>by
  have hm:x∈m.au:=by rw[bd]at hx;exact Q8 hx
  rw[h1 i x s hm hd hx hw,Qr hm]) (λs hd=>h2 s hd) 1000000
 refine key.trans ?_;unfold ix
 suffices h3:∀(l:List ak),(∀e∈l,e∈m.au)->∀s,fL (λe s=>if e∈m.au then some (inl (β:=ρ) (oa m s e))else none) fin l s=fin (l.foldl (oa m) s)from h3 _ (λe he=>he) _
 intro l
 induction l with
 |nil=>intro _ s;rfl
 |cons x l ih=>intro hx s;rw[fL,Qr (hx x Qx),QU];exact ih (λe he=>hx e (Qy _ he)) _
def aea{m:ae}(h:wZ m):xx m=some (fS m):=by
 unfold xx fS;simp only[etas,ag1 h,RJ h,Qa]
 by_cases h3:m.aQ=3
 ·rw[Qg h3,Qr (.inl h3)];rfl
 ·rw[Qh h3]
  cases ha:jn m m.af.ai with
  |false=>rw[Qr (.inr rfl)];rfl
  |true=>
   rw[Qs (by simp[h3])]
   simp only[Ql,Qo];refine(Xb h (fin:=λc=>some {m with aZ:=if oG m=m.af.Value then m.aZ else 0,af:=⟨bF m.af.ai (dt c 1000),oG m⟩}) (λi e s he hd hx hw=> ?_) (λs hd=> ?_)).trans rfl
   ·simp only[hd,hx,hw,Qk,aR,Qa,HJ (h.sm e he) (h.valid e he)];unfold oa
    by_cases c1:m.af.ai<fG e
    ·by_cases c2:fG e<s
     ·rw[Qg c1,Qg c2]
      cases c3:jn m (fG e)with
      |true=>rw[Qs (by simp)];rfl
      |false=>rw[Qr ⟨c1,c2,rfl⟩];rfl
     ·rw[Qg c1,Qh c2,Qs (λh=>c2 h.2.1)];rfl
    ·rw[Qh c1,Qs (λh=>c1 h.1)];rfl
   ·simp only[hd,Ql,aR];unfold oG
    by_cases h1:m.aQ=1
    ·rw[Qg h1,Qr h1]
     by_cases hv:eo m=m.af.Value
     ·simp only[Qk,Qg hv,Qo,Ql,Qr hv]
     ·simp only[Qk,Qh hv,Qp,Qs hv]
    ·rw[Qh h1,Qs h1];simp only[Ql,decide_true,Qo,Qt]
end
section
def du(b:ah):Prop:=1<=b.ai/\b.ai<=1000/\1<=b.Value.size/\b.Value.size<=200
def du.valid{b:ah}(h:du b):cP b=true:=by obtain⟨h1,h2,h3,h4⟩:=h;simp only[cP,Qm,Qn,Qi];exact⟨⟨.inl ⟨h1,h2⟩,h3⟩,h4⟩
def du.finite{b:ah}(h:du b):finite b=true:=by unfold Go.Proofs.YtofedieniojipaaGreat.finite;rw[h.valid,Qg h.2.1];rfl
def YV{b:ah}(h:cP b=true)(hc:b.ai<=1000):du b:=by simp only[cP,Qm,Qn,Qi]at h;obtain⟨⟨h1,h2⟩,h3⟩:=h;exact⟨by omega,hc,h2,h3⟩
def du.nz{b:ah}(h:du b):aP b=false:=Pf h.1
def du.ne{b:ah}(h:du b):b.Value≠gw:=by intro e;have:=h.2.2.1;rw[e]at this;exact absurd this (by decide)
def zt{b:ah}:aP b=true↔b=cg:=by obtain⟨c,v⟩:=b;simp[aP,cg]
def bV:aP cg=true:=zt.2 rfl
structure P1 (m:ae):Prop where
 ba:m.aQ=1
 aT:du m.af
 dK:m.ao=cg\/du m.ao
 bY:m.aD=cg\/(du m.aD/\du m.ao/\bC m.aD m.ao=true/\bS m.aD m.ao=false)
 eB:m.ax=cg\/(du m.ax/\et m.ao m.aD m.ax=true)
 up:bC m.af m.ax=false
 cn:m.bq=0
 low:m.aZ=0\/(1<=m.aZ/\m.aZ<=fE m/\o0 m.ao m.aD m.af.Value m.aZ=false)
structure P2 (m:ae):Prop where
 ba:m.aQ=2
 aT:du m.af
 dK:du m.ao/\m.ao.Value=m.af.Value
 bY:m.aD=cg
 eB:m.ax=cg\/(du m.ax/\m.ax.Value=m.af.Value)
 range:1<=m.aZ/\m.aZ<=m.bq/\m.bq<=m.ao.ai
structure P3 (m:ae):Prop where
 ba:m.aQ=3
 aT:du m.af
 dK:m.ao=cg
 bY:m.aD=cg
 eB:m.ax=cg
 range:1<=m.aZ/\m.aZ<=m.bq/\m.bq<=1000
structure P0 (m:ae):Prop where
 ba:m.aQ=1
 aT:m.af=cg
 dK:m.ao=cg
 bY:m.aD=cg
 eB:m.ax=cg
 low:m.aZ=0
 cn:m.bq=0
structure bs (m:ae):Prop where
 n0:0<=m.al
 n1:m.al<10
 aK:1<=m.aL/\m.aL<=1000000
 seq:0<=m.aH/\m.aH<=1000000
 aN:c5 m.aa
 ub:m.bj.size<=200
 hv:∀e∈m.au,bc e=true/\c5 e.aa/\e.aL=m.aL/\e.al≠m.al
 dn:m.au.Pairwise (λa b=>a.al<b.al)
 body:P0 m\/P1 m\/P2 m\/P3 m
def On:∀(l:List ak) (k:Nat),k<=10->(∀e∈l,(k:Int)<=e.al/\e.al<10)->l.Pairwise (λa b=>a.al<b.al)->l.length+k<=10
 |[],k,hk,_,_=>by simpa using hk
 |x::l,k,hk,h,hp=>by
  rw[Q4]at hp;have hx:=h x Qx;have:=On l (k+1) (by omega) (λe he=>⟨by have:=hp.1 e he;omega,(h e (Qy _ he)).2⟩) hp.2
  rw[QE];omega
def bs.len{m:ae}(h:bs m):m.au.length<=10:=by
 have:=On m.au 0 (by omega) (λe he=>by have:=kG (h.hv e he).1;omega) h.dn
 omega
def bs.ev{m:ae}(h:bs m):wZ m:=
 ⟨h.n0,h.n1,h.aN.sm,by have:=h.len;omega,λe he=>(h.hv e he).2.1.sm,λe he=>(h.hv e he).1⟩
def PS{m:ae}(h:P1 m):0<=fE m/\fE m<=m.af.ai/\(fE m=0\/(du m.ax/\m.ax.Value=m.af.Value/\fE m=m.ax.ai)):=by
 unfold fE;split
 ·rename_i hc;simp only[Qm,Bool.not_eq_true',bS,Qi]at hc;rcases h.eB with e|⟨hf,_⟩
  ·rw[e,bV]at hc;cases hc.1
  ·have hup:=h.up;unfold bC at hup;split at hup
   ·rename_i e;exact⟨by have:=hf.1;omega,by omega,.inr ⟨hf,hc.2,rfl⟩⟩
   ·simp only[Qj]at hup;exact⟨by have:=hf.1;omega,by omega,.inr ⟨hf,hc.2,rfl⟩⟩
 ·exact⟨Int.le_refl _,by have:=h.aT.1;omega,.inl rfl⟩
def TL{m:ae}(h:bs m)(hz:aP m.af=false):bc (jj m)=true:=by
 have hseq:1<=(jj m).aH/\(jj m).aH<=1000000:=by
  have h1:(jj m).aH=bF m.aH 1:=by show bF (cY m).aH 1=_;rw[WG]
  have:=h.seq;rw[h1];unfold bF;split<;>omega
 have hnode:(jj m).al=m.al:=wB m;have hslot:(jj m).aL=m.aL:=FF m
 have hhead:Ax (jj m)=true:=by unfold Ax;rw[hnode,hslot];simp only[Qm,Qi];exact⟨⟨⟨⟨⟨h.n0,h.n1⟩,h.aK.1⟩,h.aK.2⟩,hseq.1⟩,hseq.2⟩
 unfold bc;rw[OX,vQ h.aN];unfold gV;rw[hhead];have hkind:(jj m).bu=m.aQ:=acd m;rw[hkind];rcases h.body with h0|h1|h2|h3
 ·rw[h0.aT,bV]at hz;cases hz
 ·rw[Qr h1.ba];have hh:=PS h1;have e:jj m=⟨m.al,m.aL,bF (cY m).aH 1,m.aa,m.aQ,m.af,m.ao,m.aD,m.aZ,fE m⟩:=by unfold jj cY;rw[Qr h1.ba]
  have hp:(aP m.ao||cP m.ao)=true:=by
   rcases h1.dK with e|hf
   ·rw[e,bV];rfl
   ·rw[hf.valid,Bool.or_true]
  have hq:(aP m.aD||cP m.aD)=true:=by
   rcases h1.bY with e|hf
   ·rw[e,bV];rfl
   ·rw[hf.1.valid,Bool.or_true]
  have hpo:DU (jj m)=true:=by
   rw[e];unfold DU;rcases h1.bY with e|⟨_,hf,hl,hc⟩
   ·simp only[e,bV,Bool.true_or]
   ·simp only[hf.nz,hl,hc,Qp,Bool.and_self,Bool.or_true]
  have hhp:(decide (fE m=0)||et m.ao m.aD ⟨fE m,m.af.Value⟩)=true:=by
   rcases hh.2.2 with e|⟨hf,hv,e⟩
   ·rw[Qg e];rfl
   ·rw[e,<-hv];rcases h1.eB with e2|⟨_,hp⟩
    ·have:=hf.nz;rw[e2,bV]at this;cases this
    ·rw[hp,Bool.or_true]
  have hlow:0<=m.aZ/\m.aZ<=fE m/\(decide (m.aZ=0)||(!eQ m.ao ⟨m.aZ,m.af.Value⟩&& !eQ m.aD ⟨m.aZ,m.af.Value⟩))=true:=by
   rcases h1.low with e|⟨h5,h6,h7⟩
   ·rw[e];exact⟨Int.le_refl _,hh.1,rfl⟩
   ·refine⟨by omega,h6,?_⟩
    unfold o0 at h7;rw[Qq74]at h7;rw[h7.1,h7.2];simp
  unfold gW;rw[hpo];rw[e];unfold at_
  simp only[h1.aT.finite,hp,hq,Qg hlow.1,Qg hlow.2.1,Qg hh.2.1,hhp,hlow.2.2,Bool.and_self,decide_true]
 ·rw[Qs (by rw[h2.ba];decide),Qr h2.ba]
  have e:jj m=⟨m.al,m.aL,bF (cY m).aH 1,m.aa,m.aQ,m.af,m.ao,cg,m.aZ,m.bq⟩:=by unfold jj cY;rw[Qs (by rw[h2.ba];decide),Qr h2.ba]
  have hc:m.bq<=1000:=by have:=h2.range.2.2;have:=h2.dK.1.2.1;omega
  unfold wE uJ;rw[e];simp only[h2.aT.finite,h2.dK.1.valid,bS,Qg h2.dK.2,bV,Qg h2.range.1,Qg h2.range.2.1,Qg h2.range.2.2,Qg hc,Bool.and_self,decide_true]
 ·rw[Qs (by rw[h3.ba];decide),Qs (by rw[h3.ba];decide),Qr h3.ba]
  have e:jj m=⟨m.al,m.aL,bF (cY m).aH 1,m.aa,m.aQ,m.af,cg,cg,m.aZ,m.bq⟩:=by unfold jj cY;rw[Qs (by rw[h3.ba];decide),Qs (by rw[h3.ba];decide)]
  unfold Cc uJ;rw[e];simp only[h3.aT.valid,bV,Qg h3.range.1,Qg h3.range.2.1,Qg h3.range.2.2,Bool.and_self,decide_true]
def bs.FN{m:ae}(h:bs m):∀e∈bP m,bc e=true:=by
 intro e he;rcases EW he with he|⟨hz,rfl⟩
 ·exact(h.hv e he).1
 ·exact TL h hz
def bs.af1{m:ae}(h:bs m){e:ak}(he:e∈bP m)(hn:e.al.toNat=m.al.toNat):aP m.af=false/\e=jj m:=by
 rcases EW he with he|⟨hz,rfl⟩
 ·have h1:=(h.hv e he).2.2.2;have h2:=kG (h.hv e he).1;have:=h.n0;omega
 ·exact⟨hz,rfl⟩
end
section
def zC(a b:ah):bC a b=true↔a.ai<b.ai\/(a.ai=b.ai/\bQ a.Value b.Value=true):=by
 unfold bC;split
 ·rename_i e;rw[e];simp
 ·rename_i e;simp only[Qi];constructor
  ·exact .inl
  ·rintro(h|h)
   ·exact h
   ·exact absurd h.1 e
def ni{a b c:ah}(h:bC a b=true)(h':bC b c=true):bC a c=true:=Fg.trans _ _ _ h h'
def abS(a:ah):bC a a=false:=Fg.irrefl a
def J7{a b:ah}(h:bC a b=false)(h':a≠b):bC b a=true:=by
 cases h1:bC b a with
 |true=>rfl
 |false=>exact absurd (Fg.total a b h h1) h'
def jc{a b:ah}(h:bC a b=true):a.ai<=b.ai:=by rw[zC]at h;omega
def Np{a b:ah}(h:bC a b=false):b.ai<=a.ai:=by
 rcases Int.lt_or_le a.ai b.ai with h1|h1
 ·rw[(zC a b).2 (.inl h1)]at h;cases h
 ·exact h1
def abQ(v:ByteArray):bQ v v=false:=jA.irrefl v
def HX{a b:ah}(hv:a.Value=b.Value):bC a b=decide (a.ai<b.ai):=by
 unfold bC;split
 ·rename_i e;rw[hv,abQ,e];simp
 ·rfl
def KF{p x:ah}(h:jM p x=true):bC p x=false:=by obtain⟨_,h2,h3⟩:=(lU p x).1 h;rw[HX h2,Qj];omega
def Ud{p x q:ah}(h:jM p x=true)(hq:bC p q=true):bC x q=true:=by
 by_cases e:x=p
 ·rw[e];exact hq
 ·exact ni (J7 (KF h) (λh=>e h.symm)) hq
def jG{a b:ah}:bS a b=true↔a.Value=b.Value:=decide_eq_true_iff
def jv{a b:ah}:bS a b=false↔a.Value≠b.Value:=Qj
def Eg(p q x:ah):et p q x=true↔jM p x=true\/jM q x=true\/(aP q=false/\bC x q=true):=by unfold et;simp only[Qn,Qm,Bool.not_eq_true'];exact⟨λh=>by rcases h with(h|h)|h<;>simp[h],λh=>by rcases h with h|h|h<;>simp[h]⟩
def uP(p q:ah):Prop:=(p=cg\/du p)/\(q=cg\/(du q/\du p/\bC q p=true/\bS q p=false))
def P1.gW{m:ae}(h:P1 m):uP m.ao m.aD:=⟨h.dK,h.bY⟩
def NS{b:ah}(h:du b):b≠cg:=λe=>by have:=h.nz;rw[e,bV]at this;cases this
inductive xp (p q b:ah):ah->ah->Prop where
 |same:xp p q b p q
 |first (hp:p=cg) (hq:q=cg):xp p q b b cg
 |up (hp:du p) (hl:bC p b=true) (hc:p.Value=b.Value):xp p q b b q
 |HO (hp:du p) (hl:bC p b=true) (hc:p.Value≠b.Value):xp p q b b p
 |under (hp:du p) (hl:bC b p=true) (hc:b.Value≠p.Value) (hq:q=cg\/bC q b=true):xp p q b p b
def agf{p q b:ah}(h:uP p q)(hb:b=cg\/du b):xp p q b (dC p q b).1 (dC p q b).2:=by
 unfold dC;rcases hb with rfl|hb
 ·rw[Qr bV];exact .same
 rw[Qs (by rw[hb.nz];decide)]
 rcases h.1 with rfl|hp
 ·have hq:q=cg:=by
   rcases h.2 with e|⟨_,e,_⟩
   ·exact e
   ·exact absurd rfl (NS e)
  rw[Qr bV,hq];exact .first rfl rfl
 rw[Qs (by rw[hp.nz];decide)]
 by_cases hl:bC p b=true
 ·rw[Qr hl]
  by_cases hc:bS p b=true
  ·rw[Qr hc]
   have hcq:bS q b=false:=by
    rw[jG]at hc;rw[jv];rcases h.2 with rfl|⟨_,_,_,e⟩
    ·exact λe=>hb.ne e.symm
    ·rw[jv]at e;rw[<-hc];exact e
   rw[Qs (by rw[hcq];decide)]
   exact .up hp hl (jG.1 hc)
  ·rw[Qs hc];exact .HO hp hl (jv.1 (by simpa using hc))
 ·rw[Qs hl];split
  ·rename_i hu;simp only[Qm,Qn,Bool.not_eq_true']at hu;refine .under hp hu.1.1 (jv.1 hu.1.2) ?_;rcases hu.2 with e|e
   ·exact .inl (zt.1 e)
   ·exact .inr e
  ·exact .same
def xp.ok{p q b p' q':ah}(h:uP p q)(hb:b=cg\/du b)(hj:xp p q b p' q'):uP p' q':=by
 have hbf:∀{x:ah},bC x b=true\/du b\/(du x/\bC b x=true)->True:=λ_=>trivial
 cases hj with
 |same=>exact h
 |first hp hq=>exact⟨hb,.inl rfl⟩
 |up hp hl hc=>
  have hb':du b:=by
   rcases hb with rfl|hb
   ·have h1:=jc hl;have h2:=hp.1;have:(cg:ah).ai=0:=rfl;omega
   ·exact hb
  refine⟨.inr hb',?_⟩;rcases h.2 with e|⟨h1,h2,h3,h4⟩
  ·exact .inl e
  ·refine .inr ⟨h1,hb',ni h3 hl,?_⟩;rw[jv]at h4 ⊢;rw[<-hc];exact h4
 |HO hp hl hc=>
  have hb':du b:=by
   rcases hb with rfl|hb
   ·have h1:=jc hl;have h2:=hp.1;have:(cg:ah).ai=0:=rfl;omega
   ·exact hb
  exact⟨.inr hb',.inr ⟨hp,hb',hl,jv.2 hc⟩⟩
 |under hp hl hc hq=>
  refine⟨.inr hp,?_⟩;rcases hb with e|hb
  ·exact .inl e
  ·exact .inr ⟨hb,hp,hl,jv.2 hc⟩
def xp.mono{p q b p' q':ah}(h:uP p q)(hj:xp p q b p' q'){x:ah}(hx:et p q x=true):et p' q' x=true:=by
 rw[Eg]at hx ⊢
 have hqp:aP q=false->bC q p=true:=λhz=>by
  rcases h.2 with e|⟨_,_,e,_⟩
  ·rw[e,bV]at hz;cases hz
  ·exact e
 have hcq:jM q x=true->aP q=false:=λhc=>((lU q x).1 hc).1
 cases hj with
 |same=>exact hx
 |first hp hq=>
  subst hp hq;rcases hx with hx|hx|hx
  ·have:=((lU _ _).1 hx).1;rw[bV]at this;cases this
  ·have:=((lU _ _).1 hx).1;rw[bV]at this;cases this
  ·rw[bV]at hx;cases hx.1
 |up hp hl hc=>
  rcases hx with hx|hx|hx
  ·obtain⟨h1,h2,h3⟩:=(lU _ _).1 hx;refine .inl ((lU _ _).2 ⟨?_,hc.symm.trans h2,Int.le_trans h3 (jc hl)⟩);have:=hp.1;have:=jc hl;exact Pf (by omega)
  ·exact .inr (.inl hx)
  ·exact .inr (.inr hx)
 |HO hp hl hc=>
  rcases hx with hx|hx|hx
  ·exact .inr (.inl hx)
  ·exact .inr (.inr ⟨hp.nz,Ud hx (hqp (hcq hx))⟩)
  ·exact .inr (.inr ⟨hp.nz,ni hx.2 (hqp hx.1)⟩)
 |under hp hl hc hq=>
  have hbz:aP q=false->bC q b=true:=λhz=>by
   rcases hq with e|e
   ·rw[e,bV]at hz;cases hz
   ·exact e
  have hbn:aP q=false->aP b=false:=λhz=>by
   have h1:=jc (hbz hz);rcases h.2 with e|⟨e,_⟩
   ·rw[e,bV]at hz;cases hz
   ·have:=e.1;exact Pf (by omega)
  rcases hx with hx|hx|hx
  ·exact .inl hx
  ·exact .inr (.inr ⟨hbn (hcq hx),Ud hx (hbz (hcq hx))⟩)
  ·exact .inr (.inr ⟨hbn hx.1,ni hx.2 (hbz hx.1)⟩)
def acH{p:ah}{v:ByteArray}{n k:Int}(h:eQ p ⟨n,v⟩=false)(hk:n<=k):eQ p ⟨k,v⟩=false:=Ya hk h
def Ve{v:ByteArray}{n:Int}{x:ah}(hx:x=cg\/cP x=true):n<=yw v n x/\eQ x ⟨yw v n x,v⟩=false:=by
 unfold yw;split
 ·rename_i hc;rw[Qm]at hc;have ha:=hc.2;unfold eQ at ha;rw[Qm,Qm]at ha;have hle:n<=x.ai:=jc ha.2;split
  ·refine⟨by omega,?_⟩
   unfold eQ;rw[Bool.and_eq_false_iff];right
   cases hl:bC ⟨x.ai+1,v⟩ x with
   |false=>rfl
   |true=>have:=jc hl;simp only at this;omega
  ·rename_i hn;exact⟨hle,by simpa using hn⟩
 ·rename_i hc;refine⟨Int.le_refl _,?_⟩;rcases hx with rfl|hv
  ·unfold eQ;rw[bV];rfl
  ·rw[hv,Bool.true_and]at hc;simpa using hc
def YL{v:ByteArray}{n:Int}{p q:ah}(hp:p=cg\/cP p=true)(hq:q=cg\/cP q=true):n<=lM v n p q/\1<=lM v n p q/\o0 p q v (lM v n p q)=false:=by
 unfold lM;obtain⟨h1,h2⟩:=Ve (v:=v) (n:=bF n 1) hp;obtain⟨h3,h4⟩:=Ve (v:=v) (n:=yw v (bF n 1) p) hq;have hm:n<=bF n 1/\1<=bF n 1:=by unfold bF;split<;>omega
 refine⟨by omega,by omega,?_⟩
 unfold o0;rw[h4,Bool.or_false];exact acH h2 h3
def Oj{v:ByteArray}{n:Int}{x:ah}(h:eQ x ⟨n,v⟩=false):yw v n x=n:=by unfold yw;rw[h,Bool.and_false];rfl
def abO{v:ByteArray}{n:Int}{p q:ah}(h1:1<=n)(h:o0 p q v n=false):lM v n p q=n:=by
 unfold o0 at h;rw[Qq74]at h;have hm:bF n 1=n:=by unfold bF;split<;>omega
 unfold lM;rw[hm,Oj h.1,Oj h.2]
def uP.valid{p q:ah}(h:uP p q):(p=cg\/cP p=true)/\(q=cg\/cP q=true):=
 ⟨h.1.imp id du.valid,h.2.imp id λh=>h.1.valid⟩
def Zq{e:ak}(hv:bc e=true){x:ah}(hx:x∈said e)(hz:aP x=false):cP x=true:=by
 have hv':=hv;unfold bc gV at hv';unfold said at hx;rw[Qr hv]at hx;rw[Qm,Qm]at hv';have hb:=hv'.2
 by_cases h1:e.bu=1
 ·rw[Qr h1]at hb hx;unfold gW at hb;simp only[Qm,Qn]at hb;obtain⟨⟨⟨⟨⟨⟨⟨⟨hf,hp⟩,hq⟩,_⟩,_⟩,_⟩,_⟩,_⟩,_⟩:=hb;simp only[QA,QR,or_false]at hx;rcases hx with rfl|rfl|rfl
  ·unfold finite at hf;rw[Qm]at hf;exact hf.1
  ·rcases hp with hp|hp
   ·rw[hp]at hz;cases hz
   ·exact hp
  ·rcases hq with hq|hq
   ·rw[hq]at hz;cases hz
   ·exact hq
 ·rw[Qs h1]at hb hx
  have hinf:∀{b:ah},cP b=true->cP ⟨1000000,b.Value⟩=true:=by intro b hb;simp only[cP,Qm,Qn,Qi]at hb ⊢;exact⟨⟨.inr trivial,hb.1.2⟩,hb.2⟩
  by_cases h2:e.bu=2
  ·rw[Qr h2]at hb hx;unfold wE at hb;simp only[Qm]at hb;obtain⟨⟨⟨⟨⟨hf,hp⟩,hc⟩,_⟩,_⟩,_⟩:=hb;simp only[QA,QR,or_false]at hx;rcases hx with rfl|rfl
   ·exact hp
   ·unfold finite at hf;rw[Qm]at hf;exact hinf hf.1
  ·rw[Qs h2]at hb hx;simp only[QA,QR,or_false]at hx;subst hx
   by_cases h3:e.bu=3
   ·rw[Qr h3]at hb;unfold Cc at hb;simp only[Qm]at hb;exact hinf hb.1.1.1
   ·rw[Qs h3]at hb;cases hb
def Mu{e:ak}(hv:bc e=true):1<=e.af.Value.size/\e.af.Value.size<=200:=by
 have hv':=hv;unfold bc gV at hv';rw[Qm,Qm]at hv';have hb:=hv'.2
 have go:∀{b:ah},cP b=true->1<=b.Value.size/\b.Value.size<=200:=by intro b hb;simp only[cP,Qm,Qn,Qi]at hb;exact⟨hb.1.2,hb.2⟩
 have gof:∀{b:ah},finite b=true->1<=b.Value.size/\b.Value.size<=200:=by intro b hb;unfold finite at hb;rw[Qm]at hb;exact go hb.1
 by_cases h1:e.bu=1
 ·rw[Qr h1]at hb;unfold gW at hb;simp only[Qm]at hb;exact gof hb.1.1.1.1.1.1.1.1
 ·rw[Qs h1]at hb
  by_cases h2:e.bu=2
  ·rw[Qr h2]at hb;unfold wE at hb;simp only[Qm]at hb;exact gof hb.1.1.1.1.1
  ·rw[Qs h2]at hb
   by_cases h3:e.bu=3
   ·rw[Qr h3]at hb;unfold Cc at hb;simp only[Qm]at hb;exact go hb.1.1.1
   ·rw[Qs h3]at hb;cases hb
def agW{b:ah}(h:cP b=true):du (eH b):=by
 simp only[cP,Qm,Qn,Qi]at h;obtain⟨⟨h1,h2⟩,h3⟩:=h;unfold eH;split
 ·exact⟨(by decide:(1:Int)<=1000),(by decide:(1000:Int)<=1000),h2,h3⟩
 ·exact⟨by omega,by omega,h2,h3⟩
def WC{α:Type}{l:List α}{p:α->Bool}{z:α}:(l.find? p).getD z=z\/((l.find? p).getD z∈l/\p ((l.find? p).getD z)=true):=by
 cases h:l.find? p with
 |none=>exact .inl rfl
 |some x=>exact .inr ⟨List.mem_of_find?_eq_some h,List.find?_some h⟩
def I7{m:ae}(h:bs m){x:ah}(hx:x∈fj (bP m)):cP x=true:=by obtain⟨e,he,h1,h2⟩:=((pM h.ev.vt.1.aN h.ev.vt.2).2.2.2 x).1 hx;exact Zq (h.FN e he) h1 h2
def TN{m:ae}(h:bs m):fb m=cg\/(cP (fb m)=true/\(Jt m=gw\/(fb m).Value=Jt m)/\et (rl m.ao) (rl m.aD) (fb m)=false/\pL m.al.toNat m.aa (bP m) (fb m)=true):=by
 unfold fb kg;rcases WC (l:=fj (bP m)) (p:=Dy (pL m.al.toNat m.aa (bP m)) m.ao m.aD (Jt m)) (z:=IT)with e|⟨h1,h2⟩
 ·exact .inl e
 ·right;unfold Dy at h2;simp only[Qm,Qn,Bool.not_eq_true',Qi]at h2;exact⟨I7 h h1,h2.1.1,h2.1.2,h2.2⟩
def AE{m:ae}(h:bs m):eH (fb m)=cg\/du (eH (fb m)):=by
 rcases TN h with e|⟨h1,_⟩
 ·left;rw[e];decide
 ·exact .inr (agW h1)
def Lj{m:ae}(h:bs m)(h1:uP m.ao m.aD):xp m.ao m.aD (eH (fb m)) (dC m.ao m.aD (eH (fb m))).1 (dC m.ao m.aD (eH (fb m))).2:=agf h1 (AE h)
def P2.gW{m:ae}(h:P2 m):uP m.ao m.aD:=⟨.inr h.dK.1,.inl h.bY⟩
def afR{m:ae}(h:bs m)(h1:P1 m):P1 (di m):=by
 unfold di;rw[Qs (by rw[h1.ba,h1.aT.nz];decide)]
 have hj:=Lj h h1.gW;generalize (dC m.ao m.aD (eH (fb m))).1=p at hj;generalize (dC m.ao m.aD (eH (fb m))).2=q at hj;have hok:=hj.ok h1.gW (AE h);refine⟨h1.ba,h1.aT,hok.1,hok.2,?_,h1.up,h1.cn,?_⟩
 ·rcases h1.eB with e|⟨hf,hp⟩
  ·exact .inl e
  ·exact .inr ⟨hf,hj.mono h1.gW hp⟩
 ·show ue m p q=0\/(1<=ue m p q/\ue m p q<=fE m/\o0 p q m.af.Value (ue m p q)=false);unfold ue
  by_cases hL:m.aZ=0
  ·rw[Qs (λh=>h.2 hL)];exact .inl hL
  ·rw[Qr ⟨h1.ba,hL⟩];split
   ·exact .inl rfl
   ·rename_i hlt;obtain⟨h2,h3,h4⟩:=YL (v:=m.af.Value) (n:=m.aZ) hok.valid.1 hok.valid.2;exact .inr ⟨h3,by omega,h4⟩
def Yv{m:ae}(h:bs m)(h2:P2 m):P2 (di m)/\m.ao.ai<=(di m).ao.ai/\(di m).aD=cg:=by
 unfold di;rw[Qs (by rw[h2.ba,h2.aT.nz];decide)]
 have hv:eH (fb m)=cg\/(eH (fb m)).Value=m.af.Value:=by
  rcases TN h with e|⟨h3,h4,_⟩
  ·left;rw[e];decide
  ·right;have hc:(eH (fb m)).Value=(fb m).Value:=by unfold eH;split<;>rfl
   have hvo:Jt m=m.af.Value:=Qr h2.ba;rw[hvo]at h4;rw[hc];exact h4.resolve_left h2.aT.ne
 have hj:=Lj h h2.gW;have hlow:∀p q,ue m p q=m.aZ:=λp q=>Qs (λh=>by have:=h.1;rw[h2.ba]at this;cases this)
 simp only[hlow];have hok:=hj.ok h2.gW (AE h);generalize (dC m.ao m.aD (eH (fb m))).1=p at hj hok;generalize (dC m.ao m.aD (eH (fb m))).2=q at hj hok;generalize hb:eH (fb m)=b at hj hv
 have key:du p/\p.Value=m.af.Value/\m.ao.ai<=p.ai/\q=cg:=by
  cases hj with
  |same=>exact⟨h2.dK.1,h2.dK.2,Int.le_refl _,h2.bY⟩
  |first hp hq=>exact absurd hp (NS h2.dK.1)
  |up hp hl hc=>exact⟨hok.1.resolve_left (λe=>by have:=jc hl;rw[e]at this;have h9:=h2.dK.1.1;have:(cg:ah).ai=0:=rfl;omega),hc.symm.trans h2.dK.2,jc hl,h2.bY⟩
  |HO hp hl hc=>
   exfalso;rcases hv with e|e
   ·have:=jc hl;rw[e]at this;have h9:=h2.dK.1.1;have:(cg:ah).ai=0:=rfl;omega
   ·exact hc (h2.dK.2.trans e.symm)
  |under hp hl hc hq=>
   rcases hv with e|e
   ·exact⟨h2.dK.1,h2.dK.2,Int.le_refl _,e⟩
   ·exact absurd (e.trans h2.dK.2.symm) hc
 exact⟨⟨h2.ba,h2.aT,⟨key.1,key.2.1⟩,key.2.2.2,h2.eB,⟨h2.range.1,h2.range.2.1,Int.le_trans h2.range.2.2 key.2.2.1⟩⟩,key.2.2.1,key.2.2.2⟩
def TC{m:ae}(h:bs m):bs (di m):=by
 have hid:m.aQ=3\/aP m.af=true->di m=m:=λhc=>Qr hc
 have mk:(P0 (di m)\/P1 (di m)\/P2 (di m)\/P3 (di m))->bs (di m):=by
  intro hb;unfold di at hb ⊢;split at hb
  ·rename_i hc;rw[Qr hc];exact h
  ·rename_i hc;rw[Qs hc];exact⟨h.n0,h.n1,h.aK,h.seq,h.aN,h.ub,h.hv,h.dn,hb⟩
 rcases h.body with h0|h1|h2|h3
 ·rw[hid (.inr (by rw[h0.aT];exact bV))];exact h
 ·exact mk (.inr (.inl (afR h h1)))
 ·exact mk (.inr (.inr (.inl (Yv h h2).1)))
 ·rw[hid (.inl h3.ba)];exact h
end
section
end
section
def wC(q:Int->Bool):∀(r:List Int) (lo:Int),dm q r lo<=lo
 |[],lo=>Int.le_refl _
 |e::r,lo=>by
  rw[dm];split
  ·exact wC q r lo
  ·split
   ·exact Int.le_trans (wC q r e) (by omega)
   ·exact Int.le_refl _
def EK(q:Int->Bool):∀(r:List Int) (lo:Int),dm q r lo=lo\/q (dm q r lo)=true/\dm q r lo∈r
 |[],lo=> .inl rfl
 |e::r,lo=>by
  rw[dm];split
  ·exact(EK q r lo).imp id λh=>⟨h.1,by simp[h.2]⟩
  ·split
   ·rename_i hq;rcases EK q r e with h|h
    ·exact .inr ⟨by rw[h];exact hq,by rw[h];simp⟩
    ·exact .inr ⟨h.1,by simp[h.2]⟩
   ·exact .inl rfl
def EL(q:Int->Bool)(r:List Int)(lo:Int)(h:∀x∈r,1<=x)(h1:1<=lo):1<=dm q r lo:=by
 rcases EK q r lo with e|⟨_,e⟩
 ·omega
 ·exact h _ e
section
variable {aF : Nat} {t : aj} {l : List ak} (p q : ah)
end
end
section
def afg{m:ae}(h:bs m){p:ak->Bool}(hb:(ff p (c8 (bP m))).testBit m.al.toNat=true):aP m.af=false/\p (jj m)=true:=by rw[Bk,List.any_eq_true]at hb;obtain⟨e,he,hp⟩:=hb;rw[Qm,Qi]at hp;obtain⟨h1,h2⟩:=h.af1 ((List.mem_filter.1 he).1) hp.2;rw[<-h2];exact⟨h1,hp.1⟩
def WY{m:ae}(h:bs m){b:ah}(hc:nD m.al.toNat m.aa (bP m) b=true):aP m.af=false/\eC (jj m) b=true:=by have hsm:=oE (aF:=m.al.toNat) h.aN.sm h.ev.vt.1;have hg:=Il hsm (mM (p:=(eC · b)) (nC (bP m)));exact afg h (hg.inside _ hc).1
def XP{m:ae}(h1:m.aQ=1){b:ah}(ha:eC (jj m) b=true):aP b=false/\et m.ao m.aD b=true:=by
 have e:jj m=⟨m.al,m.aL,bF (cY m).aH 1,m.aa,m.aQ,m.af,m.ao,m.aD,m.aZ,fE m⟩:=by unfold jj cY;rw[Qr h1]
 rw[e]at ha;unfold eC at ha;rw[Qm,Qr h1]at ha;simpa using ha
def abZ{m:ae}(h:bs m)(h1:P1 m):gS m=cg\/(du (gS m)/\bC m.ax (gS m)=true/\et m.ao m.aD (gS m)=true):=by
 unfold gS Aw;rcases WC (l:=fj (bP m)) (p:=DG (nD m.al.toNat m.aa (bP m)) m.ax) (z:=IT)with e|⟨h2,h3⟩
 ·exact .inl e
 ·right;unfold DG at h3;simp only[Qm,Qi]at h3;exact⟨YV (I7 h h2) h3.1.2,h3.1.1,(XP h1.ba (WY h h3.2).2).2⟩
def age{p q b:ah}{v:ByteArray}{n:Int}(hok:uP p q)(hb:et p q b=true)(hv:b.Value≠v)(ha:o0 p q v n=false):b.ai<=n:=by
 unfold o0 at ha;rw[Qq74]at ha
 have key:∀x:ah,aP x=false->x.Value≠v->eQ x ⟨n,v⟩=false->x.ai<=n:=by intro x hz hx h;unfold eQ at h;rw[hz,(jv (a:=x) (b:=⟨n,v⟩)).2 hx,Qp,Bool.and_self,Bool.true_and]at h;exact Np h
 have hqp:aP q=false->du q/\du p/\bC q p=true/\q.Value≠p.Value:=λhz=>by
  rcases hok.2 with e|⟨e1,e2,e3,e4⟩
  ·rw[e,bV]at hz;cases hz
  ·exact⟨e1,e2,e3,jv.1 e4⟩
 rw[Eg]at hb;rcases hb with hb|hb|⟨hz,hl⟩
 ·obtain⟨h1,h2,h3⟩:=(lU _ _).1 hb;have:=key p h1 (by rw[h2];exact hv) ha.1
  omega
 ·obtain⟨h1,h2,h3⟩:=(lU _ _).1 hb;have:=key q h1 (by rw[h2];exact hv) ha.2
  omega
 ·obtain⟨e1,e2,e3,e4⟩:=hqp hz;have h5:=jc hl
  by_cases hqv:q.Value=v
  ·have:=key p e2.nz (by rw[<-hqv];exact λe=>e4 e.symm) ha.1
   have:=jc e3;omega
  ·have:=key q hz hqv ha.2;omega
def ajv{m:ae}(h1:P1 m){b:ah}(hb:du b)(hl:bC m.ax b=true)(hp:et m.ao m.aD b=true):P1 (Dg m b)/\(Dg m b).ao=m.ao/\(Dg m b).aD=m.aD/\(Dg m b).ax=b/\m.af.ai<=(Dg m b).af.ai:=by
 unfold Dg;have hh:=PS h1;split
 ·rename_i hlt
  have hhigh:∀L:Int,fE {m with ax:=b,af:=b,aZ:=L}=b.ai:=by intro L;unfold fE;rw[Qr];rw[hb.nz,jG.2 rfl];rfl
  refine⟨⟨h1.ba,hb,h1.dK,h1.bY,.inr ⟨hb,hp⟩,abS b,h1.cn,?_⟩,rfl,rfl,rfl,jc hlt⟩;show(if bS m.af b=true then m.aZ else 0)=0\/(1<=(if bS m.af b=true then m.aZ else 0)/\(if bS m.af b=true then m.aZ else 0)<=fE {m with ax:=b,af:=b,aZ:=if bS m.af b=true then m.aZ else 0}/\o0 m.ao m.aD b.Value (if bS m.af b=true then m.aZ else 0)=false)
  rw[hhigh];split
  ·rename_i hc;rw[jG]at hc;rcases h1.low with e|⟨h2,h3,h4⟩
   ·exact .inl e
   ·refine .inr ⟨h2,?_,by rw[<-hc];exact h4⟩
    have:=jc hlt;omega
  ·exact .inl rfl
 ·rename_i hlt;have hlt:bC m.af b=false:=by simpa using hlt
  refine⟨⟨h1.ba,h1.aT,h1.dK,h1.bY,.inr ⟨hb,hp⟩,hlt,h1.cn,?_⟩,rfl,rfl,rfl,Int.le_refl _⟩;rcases h1.low with e|⟨h2,h3,h4⟩
  ·exact .inl e
  ·refine .inr ⟨h2,?_,h4⟩;show m.aZ<=fE {m with ax:=b}
   have hv:b.Value=m.af.Value:=by
    refine Classical.byContradiction λhv=> ?_
    have h5:=age h1.gW hp hv h4;have h6:=jc hl;rcases hh.2.2 with e|⟨e1,e2,e3⟩
    ·omega
    ·
     have e4:bC b m.ax=false:=Fg.asymm hl;have e5:=hl;rw[zC]at e5;have hbc:b.ai=m.ax.ai:=by omega
     have hlow:m.aZ=m.ax.ai:=by omega
     have e6:bC ⟨m.aZ,m.af.Value⟩ b=true:=by
      have:(⟨m.aZ,m.af.Value⟩:ah)=m.ax:=by rw[hlow,<-e2]
      rw[this];exact hl
     unfold o0 at h4;rw[Qq74]at h4
     have key:∀x:ah,aP x=false->x.Value≠m.af.Value->eQ x ⟨m.aZ,m.af.Value⟩=false->bC ⟨m.aZ,m.af.Value⟩ x=false:=by intro x hz hx h;unfold eQ at h;rw[hz,(jv (a:=x) (b:=⟨m.aZ,m.af.Value⟩)).2 hx,Qp,Bool.and_self,Bool.true_and]at h;exact h
     rw[Eg]at hp;rcases hp with hp|hp|⟨hz,hq⟩
     ·obtain⟨g1,g2,g3⟩:=(lU _ _).1 hp;have g4:=key _ g1 (by rw[g2];exact hv) h4.1
      have g5:bC ⟨m.aZ,m.af.Value⟩ m.ao=true:=by
       by_cases e:b=m.ao
       ·rw[<-e];exact e6
       ·exact ni e6 (J7 (KF hp) (λe'=>e e'.symm))
      rw[g5]at g4;cases g4
     ·obtain⟨g1,g2,g3⟩:=(lU _ _).1 hp;have g4:=key _ g1 (by rw[g2];exact hv) h4.2
      have g5:bC ⟨m.aZ,m.af.Value⟩ m.aD=true:=by
       by_cases e:b=m.aD
       ·rw[<-e];exact e6
       ·exact ni e6 (J7 (KF hp) (λe'=>e e'.symm))
      rw[g5]at g4;cases g4
     ·rcases h1.bY with e|⟨f1,f2,f3,f4⟩
      ·rw[e,bV]at hz;cases hz
      ·by_cases hqv:m.aD.Value=m.af.Value
       ·have g4:=key _ f2.nz (by rw[<-hqv];exact λe=>(jv.1 f4) e.symm) h4.1
        rw[ni e6 (ni hq f3)]at g4;cases g4
       ·have g4:=key _ hz hqv h4.2;rw[ni e6 hq]at g4;cases g4
   have hhigh:fE {m with ax:=b}=b.ai:=by unfold fE;rw[Qr];show(!aP b&&bS b m.af)=true;rw[hb.nz,jG.2 hv];rfl
   rw[hhigh];rcases hh.2.2 with e|⟨e1,e2,e3⟩
   ·omega
   ·have:=jc hl;omega
def afi{m:ae}(h1:P1 m){b:ah}(hb:du b)(hc:m.ax=b):P1 (rE m b):=by
 unfold rE;split
 ·rename_i hv;obtain⟨hL,hcp,hle⟩:=hv;rw[jG]at hcp;refine⟨h1.ba,h1.aT,h1.dK,h1.bY,h1.eB,h1.up,h1.cn,?_⟩;obtain⟨h2,h3,h4⟩:=YL (v:=b.Value) (n:=m.af.ai) h1.gW.valid.1 h1.gW.valid.2;refine .inr ⟨h3,?_,by show o0 m.ao m.aD m.af.Value _=false;rw[hcp];exact h4⟩
  show lM b.Value m.af.ai m.ao m.aD<=fE {m with aZ:=lM b.Value m.af.ai m.ao m.aD}
  have hhigh:fE {m with aZ:=lM b.Value m.af.ai m.ao m.aD}=b.ai:=by
   unfold fE;rw[Qr]
   ·show m.ax.ai=_;rw[hc]
   ·show(!aP m.ax&&bS m.ax m.af)=true;rw[hc,hb.nz,jG.2 hcp.symm];rfl
  rw[hhigh];exact hle
 ·exact h1
def Zf(m:ae)(b:ah):(rE m b).ao=m.ao/\(rE m b).aD=m.aD/\(rE m b).ax=m.ax/\(rE m b).af=m.af:=by unfold rE;split<;>exact⟨rfl,rfl,rfl,rfl⟩
def vW{m:ae}(h:m.aQ≠1\/aP m.af=true\/aP (gS m)=true):gB m=m:=Qr h
def Fw{m m':ae}(h:bs m)(he:m'.al=m.al/\m'.aL=m.aL/\m'.aH=m.aH/\m'.aa=m.aa/\m'.bj=m.bj/\m'.au=m.au)(hb:P0 m'\/P1 m'\/P2 m'\/P3 m'):bs m':=by obtain⟨e1,e2,e3,e4,e5,e6⟩:=he;exact⟨by rw[e1];exact h.n0,by rw[e1];exact h.n1,by rw[e2];exact h.aK,by rw[e3];exact h.seq,by rw[e4];exact h.aN,by rw[e5];exact h.ub,by rw[e6,e1,e2];exact h.hv,by rw[e6];exact h.dn,hb⟩
structure je (m m':ae):Prop where
 aF:m'.al=m.al
 aK:m'.aL=m.aL
 seq:m'.aH=m.aH
 aN:m'.aa=m.aa
 ub:m'.bj=m.bj
 heard:m'.au=m.au
def je.refl(m:ae):je m m:=⟨rfl,rfl,rfl,rfl,rfl,rfl⟩
def je.all{m m':ae}(h:je m m'):m'.al=m.al/\m'.aL=m.aL/\m'.aH=m.aH/\m'.aa=m.aa/\m'.bj=m.bj/\m'.au=m.au:=⟨h.aF,h.aK,h.seq,h.aN,h.ub,h.heard⟩
def Cr(m:ae):je m (di m):=by unfold di;split<;>exact⟨rfl,rfl,rfl,rfl,rfl,rfl⟩
def agr(m:ae)(b:ah):je m (Dg m b):=by unfold Dg;split<;>exact⟨rfl,rfl,rfl,rfl,rfl,rfl⟩
def aaZ(m:ae)(b:ah):je m (rE m b):=by unfold rE;split<;>exact⟨rfl,rfl,rfl,rfl,rfl,rfl⟩
def zx(m:ae):je m (gB m):=by
 unfold gB;split
 ·exact .refl m
 ·have h1:=aaZ (Dg m (gS m)) (gS m);have h2:=agr m (gS m);exact⟨h1.aF.trans h2.aF,h1.aK.trans h2.aK,h1.seq.trans h2.seq,h1.aN.trans h2.aN,h1.ub.trans h2.ub,h1.heard.trans h2.heard⟩
def zz(m:ae):je m (fX m):=by
 unfold fX N5 CF;split
 ·split<;>exact⟨rfl,rfl,rfl,rfl,rfl,rfl⟩
 ·split<;>exact⟨rfl,rfl,rfl,rfl,rfl,rfl⟩
def zy(m:ae):je m (jf m):=by unfold jf Re;split<;>exact⟨rfl,rfl,rfl,rfl,rfl,rfl⟩
def Cs(m:ae):je m (fS m):=by unfold fS;split<;>exact⟨rfl,rfl,rfl,rfl,rfl,rfl⟩
def R4{m:ae}(h:bs m)(h1:P1 m):P1 (gB m)/\(gB m=m\/((gB m).ao=m.ao/\(gB m).aD=m.aD/\bC m.ax (gB m).ax=true/\m.af.ai<=(gB m).af.ai)):=by
 unfold gB;split
 ·exact⟨h1,.inl rfl⟩
 ·rename_i hc;rcases abZ h h1 with e|⟨hf,hl,hp⟩
  ·exact absurd (.inr (.inr (by rw[e];exact bV))) hc
  ·obtain⟨g1,g2,g3,g4,g5⟩:=ajv h1 hf hl hp;obtain⟨v1,v2,v3,v4⟩:=Zf (Dg m (gS m)) (gS m);exact⟨afi g1 hf g4,.inr ⟨v1.trans g2,v2.trans g3,by rw[v3,g4];exact hl,by rw[v4];exact g5⟩⟩
def TB{m:ae}(h:bs m):bs (gB m):=by
 rcases h.body with h0|h1|h2|h3
 ·rw[vW (.inr (.inl (by rw[h0.aT];exact bV)))];exact h
 ·exact Fw h (zx m).all (.inr (.inl (R4 h h1).1))
 ·rw[vW (.inl (by rw[h2.ba];decide))];exact h
 ·rw[vW (.inl (by rw[h3.ba];decide))];exact h
def BR{m:ae}(h:bs m)(v:ByteArray):∀x∈bw (bP m) v,1<=x/\x<=1000:=FM h.ev.vt.1 h.ev.vt.2 v
def acP{m:ae}(h:bs m):∀v∈gF (bP m),1<=v.size/\v.size<=200:=by intro v hv;obtain⟨e,he,h1,h2⟩:=((w5 h.ev.vt.1.aN h.ev.vt.2).2.2.2 v).1 hv;rw[h2];exact Mu h1
def aaz{m:ae}(h:bs m){x:ByteArray->Int->Int->Bool}{p q:ah}:(ic x (bP m) p q).1=false\/(du (ic x (bP m) p q).2/\(ic x (bP m) p q).2.Value∈gF (bP m)/\(ic x (bP m) p q).2.ai∈bw (bP m) (ic x (bP m) p q).2.Value/\
  o0 p q (ic x (bP m) p q).2.Value (ic x (bP m) p q).2.ai=false/\x (ic x (bP m) p q).2.Value (ic x (bP m) p q).2.ai (ic x (bP m) p q).2.ai=true):=by
 let G:Bool×ah->Prop:=λs=>s.1=false\/(du s.2/\s.2.Value∈gF (bP m)/\s.2.ai∈bw (bP m) s.2.Value/\o0 p q s.2.Value s.2.ai=false/\x s.2.Value s.2.ai s.2.ai=true)
 have inner:∀(v:ByteArray),v∈gF (bP m)->∀(b:List Int),(∀n∈b,n∈bw (bP m) v)->∀s,G s->G (b.foldl (fY x p q v) s):=by
  intro v hv b
  induction b with
  |nil=>intro _ s hs;exact hs
  |cons n b ih=>
   intro hb s hs;rw[QU];refine ih (λk hk=>hb k (Qy _ hk)) _ ?_
   unfold fY;split
   ·rename_i hc;simp only[Qm,Bool.not_eq_true']at hc;have hn:=hb n Qx;have h1:=BR h v n hn;have h2:=acP h v hv;exact .inr ⟨⟨h1.1,h1.2,h2.1,h2.2⟩,hv,hn,hc.1.2,hc.2⟩
   ·exact hs
 have outer:∀(vs:List ByteArray),(∀v∈vs,v∈gF (bP m))->∀s,G s->G (vs.foldl (λs v=>(bw (bP m) v).foldl (fY x p q v) s) s):=by
  intro vs
  induction vs with
  |nil=>intro _ s hs;exact hs
  |cons v vs ih=>intro hv s hs;rw[QU];exact ih (λu hu=>hv u (Qy _ hu)) _ (inner v (hv v Qx) _ (λn hn=>hn) s hs)
 exact outer _ (λv hv=>hv) (false,⟨0,gw⟩) (.inl rfl)
structure ajS (m:ae) (v:ByteArray) (lo hi:Int):Prop where
 fin:du ⟨hi,v⟩
 lo1:1<=lo
 le:lo<=hi
 val:v∈gF (bP m)
 top:iu m v hi hi=true
 all:iu m v lo hi=true
def P6{m:ae}(h:bs m)(hk:(fT m).2.2.2.1=true):ajS m (fT m).1 (fT m).2.1 (fT m).2.2.1:=by
 rcases aaz (x:=iu m) (p:=m.ao) (q:=m.aD) h with e|⟨h1,h2,h3,h4,h5⟩
 ·unfold fT rR at hk;rw[e]at hk;cases hk
 ·have hb:(ic (iu m) (bP m) m.ao m.aD).1=true:=by
   unfold fT rR at hk;split at hk
   ·assumption
   ·cases hk
  have e:fT m=((ic (iu m) (bP m) m.ao m.aD).2.Value,dm (λn=> !o0 m.ao m.aD (ic (iu m) (bP m) m.ao m.aD).2.Value n&&iu m (ic (iu m) (bP m) m.ao m.aD).2.Value n (ic (iu m) (bP m) m.ao m.aD).2.ai) (bw (bP m) (ic (iu m) (bP m) m.ao m.aD).2.Value).reverse (ic (iu m) (bP m) m.ao m.aD).2.ai,(ic (iu m) (bP m) m.ao m.aD).2.ai,true,()):=by unfold fT rR;rw[Qr hb]
  rw[e];refine⟨h1,EL _ _ _ (λx hx=>(BR h _ x (List.mem_reverse.1 hx)).1) h1.1,wC _ _ _,h2,h5,?_⟩
  simp only;rcases EK (λn=> !o0 m.ao m.aD (ic (iu m) (bP m) m.ao m.aD).2.Value n&&iu m (ic (iu m) (bP m) m.ao m.aD).2.Value n (ic (iu m) (bP m) m.ao m.aD).2.ai) (bw (bP m) (ic (iu m) (bP m) m.ao m.aD).2.Value).reverse (ic (iu m) (bP m) m.ao m.aD).2.ai with e|⟨e,_⟩
  ·rw[e];exact h5
  ·rw[Qm]at e;exact e.2
def WZ{m:ae}(hb0:m.af=cg\/du m.af)(hp0:m.ao=cg\/du m.ao){v:ByteArray}{lo hi:Int}(hf:du ⟨hi,v⟩)(hlo:1<=lo)(hle:lo<=hi):P2 (N5 m v lo hi):=by
 unfold N5
 have hmax:du ⟨bF m.af.ai hi,v⟩:=by
  rcases hb0 with e|h2
  ·have:bF m.af.ai hi=hi:=by
    have h3:=hf.1;simp only at h3;have h4:m.af.ai=0:=by rw[e];rfl
    unfold bF;split<;>omega
   rw[this];exact hf
  ·have:bF m.af.ai hi=m.af.ai\/bF m.af.ai hi=hi:=by unfold bF;split<;>simp
   rcases this with e|e<;>rw[e]
   ·exact⟨h2.1,h2.2.1,hf.2.2⟩
   ·exact hf
 have hbv:∀b:ah,b=(if(!bS m.af ⟨hi,v⟩||bC m.af ⟨hi,v⟩)=true then⟨bF m.af.ai hi,v⟩else m.af)->du b/\b.Value=v:=by
  intro b hb;split at hb
  ·rw[hb];exact⟨hmax,rfl⟩
  ·rename_i hc;rw[hb];simp only[Qn,Bool.not_eq_true',not_or,Bool.not_eq_false]at hc;refine⟨hb0.resolve_left (λe=> ?_),jG.1 hc.1⟩
   have:=jG.1 hc.1;rw[e]at this;exact hf.ne this.symm
 obtain⟨b1,b2⟩:=hbv _ rfl
 have hpv:∀p:ah,p=(if jM m.ao ⟨hi,v⟩=true then m.ao else⟨hi,v⟩)->du p/\p.Value=v/\hi<=p.ai:=by
  intro p hp;split at hp
  ·rename_i hc;rw[hp];obtain⟨g1,g2,g3⟩:=(lU _ _).1 hc;refine⟨?_,g2,g3⟩;rcases hp0 with e|e
   ·rw[e,bV]at g1;cases g1
   ·exact e
  ·rw[hp];exact⟨hf,rfl,Int.le_refl _⟩
 obtain⟨p1,p2,p3⟩:=hpv _ rfl;exact⟨rfl,b1,⟨p1,p2.trans b2.symm⟩,rfl,.inr ⟨hf,b2.symm⟩,⟨hlo,hle,p3⟩⟩
def WE{m:ae}(h:bs m)(h2:P2 m):1<=(eW m).1/\(eW m).1<=(eW m).2/\(eW m).2<=1000/\(((eW m).2=m.bq/\(eW m).1<=m.aZ)\/m.bq<(eW m).2):=by
 have hr:=h2.range;have hH:m.bq<=1000:=by have:=h2.dK.1.2.1;omega
 have hb:∀x∈(bw (bP m) m.af.Value).reverse,1<=x:=λx hx=>(BR h _ x (List.mem_reverse.1 hx)).1
 unfold eW Gk;split
 ·refine⟨EL _ _ _ hb hr.1,?_,hH,.inl ⟨rfl,wC _ _ _⟩⟩;exact Int.le_trans (wC _ _ _) hr.2.1
 ·rename_i n hn;have hnb:=BR h _ n (List.mem_reverse.1 (List.mem_of_find?_eq_some hn));have hnp:=List.find?_some hn;simp only[Qm,Qi]at hnp;have h5:1<=dm (λx=>iu m m.af.Value x n) (bw (bP m) m.af.Value).reverse n:=EL _ _ _ hb hnb.1
  have h6:=wC (λx=>iu m m.af.Value x n) (bw (bP m) m.af.Value).reverse n
  simp only;refine⟨EL _ _ _ hb ?_,?_,hnb.2,.inr hnp.1⟩
  ·split
   ·exact h5
   ·exact hr.1
  ·refine Int.le_trans (wC _ _ _) ?_;split
   ·exact h6
   ·omega
def aaj{m:ae}(h2:P2 m){lo hi:Int}(hlo:1<=lo)(hle:lo<=hi)(hhi:hi<=1000):P2 (CF m lo hi):=by
 unfold CF;have hb:=h2.aT;have hp:=h2.dK;have e1:∀c:Int,bF c hi=c\/bF c hi=hi:=λc=>by unfold bF;split<;>simp
 have e2:∀c:Int,hi<=bF c hi:=λc=>by unfold bF;split<;>omega
 have mx:∀c:Int,c<=1000->du ⟨bF c hi,m.af.Value⟩:=by
  intro c hc;refine⟨by have:=e2 c;simp only;omega,?_,hb.2.2.1,hb.2.2.2⟩
  rcases e1 c with e|e<;>simp only[e]<;>omega
 refine⟨h2.ba,mx _ hb.2.1,⟨?_,?_⟩,h2.bY,.inr ⟨mx _ ?_,rfl⟩,⟨hlo,hle,e2 _⟩⟩
 ·show du ⟨bF m.ao.ai hi,m.ao.Value⟩;rw[hp.2];exact mx _ hp.1.2.1
 ·exact hp.2
 ·rcases h2.eB with e|e
  ·rw[e];decide
  ·exact e.1.2.1
def TG{m:ae}(h:bs m):bs (fX m):=by
 refine Fw h (zz m).all ?_;unfold fX;rcases h.body with h0|h1|h2|h3
 ·rw[Qr h0.ba];split
  ·rename_i hk;have hf:=P6 h hk;exact .inr (.inr (.inl (WZ (.inl h0.aT) (.inl h0.dK) hf.fin hf.lo1 hf.le)))
  ·exact .inl h0
 ·rw[Qr h1.ba];split
  ·rename_i hk;have hf:=P6 h hk;exact .inr (.inr (.inl (WZ (.inr h1.aT) h1.dK hf.fin hf.lo1 hf.le)))
  ·exact .inr (.inl h1)
 ·rw[Qs (by rw[h2.ba];decide),Qr h2.ba]
  have:=WE h h2;exact .inr (.inr (.inl (aaj h2 this.1 this.2.1 this.2.2.1)))
 ·rw[Qs (by rw[h3.ba];decide),Qs (by rw[h3.ba];decide)]
  exact .inr (.inr (.inr h3))
def aiv{m:ae}(h:bs m)(hk:(pA m).2.2.1=true):1<=(pA m).1/\(pA m).1<=(pA m).2.1/\(pA m).2.1<=1000/\Oh m m.af.Value (pA m).1 (pA m).2.1=true:=by
 unfold pA EI at hk ⊢;split at hk
 ·rename_i n hn;have hnb:=BR h _ n (List.mem_reverse.1 (List.mem_of_find?_eq_some hn));have hs:=List.find?_some hn;simp only;refine⟨EL _ _ _ (λx hx=>(BR h _ x (List.mem_reverse.1 hx)).1) hnb.1,wC _ _ _,hnb.2,?_⟩
  rcases EK (λx=>Oh m m.af.Value x n) (bw (bP m) m.af.Value).reverse n with e|⟨e,_⟩
  ·rw[e];exact hs
  ·exact e
 ·cases hk
def Yx{m:ae}(h:bs m)(h2:P2 m)(hk:(pA m).2.2.1=true):P3 (Re m (pA m).1 (pA m).2.1):=by obtain⟨g1,g2,g3,_⟩:=aiv h hk;unfold Re;exact⟨rfl,⟨by simp only;omega,g3,h2.aT.2.2.1,h2.aT.2.2.2⟩,rfl,rfl,rfl,⟨g1,g2,g3⟩⟩
def TF{m:ae}(h:bs m):bs (jf m):=by
 refine Fw h (zy m).all ?_;unfold jf;split
 ·rename_i hc;rcases h.body with h0|h1|h2|h3
  ·have:=h0.ba;have:=hc.1;omega
  ·have:=h1.ba;have:=hc.1;omega
  ·exact .inr (.inr (.inr (Yx h h2 hc.2)))
  ·have:=h3.ba;have:=hc.1;omega
 ·exact h.body
def Z9{z:ah}:∀{l:List ah},l≠[]->Ku z l∈l
 |[],h=>absurd rfl h
 |x::l,_=>by
  show l.foldl (λa y=>if bC a y=true then y else a) x∈x::l
  suffices key:∀(l:List ah) (a:ah),l.foldl (λa y=>if bC a y=true then y else a) a=a\/l.foldl (λa y=>if bC a y=true then y else a) a∈l by
   rcases key l x with e|e
   ·rw[e];exact Qx
   ·exact Qy _ e
  intro l
  induction l with
  |nil=>intro a;exact .inl rfl
  |cons y l ih=>
   intro a;rw[QU];rcases ih (if bC a y=true then y else a)with e|e
   ·rw[e];split
    ·exact .inr Qx
    ·exact .inl rfl
   ·exact .inr (Qy _ e)
def aft{t:aj}(h:c5 t){s:Nat}(hs:∀k,k<10->s.testBit k=true):mB s t=true:=by
 have hn:∀x:Int,0<=x->x<10->qu s x=true:=by
  intro x h0 h1;unfold qu fR;rw[Qg h0,Qg h1,hs _ (by omega)]
  rfl
 have hc:t.bb.countP (qu s)=t.bb.length:=List.countP_eq_length.2 λx hx=>hn x (h.nodes x hx).1 (h.nodes x hx).2
 have hi:zT s t.aO=t.aO.length:=by
  rcases h.inner with e|⟨x,h0,h1,e⟩
  ·rw[e];rfl
  ·rw[e]
   have:mB s ⟨1,[x],[]⟩=true:=by rw[RQ];simp[hn x h0 h1,zT]
   simp[zT,this]
 rw[RQ,hc,hi,Qi];have:=h.th.2;omega
def aaJ{m:ae}(h:bs m){n:Int}(ha:jn m n=true):∃e∈m.au,n<fG e:=by
 refine Classical.byContradiction λhno=> ?_
 have hz:Hf m n=0:=by
  refine DZ λk=> ?_
  unfold Hf;rw[Bk,Nat.zero_testBit,List.any_eq_false];intro e he;have:¬n<fG e:=λhlt=>hno ⟨e,he,hlt⟩
  simp[this]
 unfold jn BS at ha;rw[hz,Qm]at ha
 have hown:pO (kP m.al.toNat m.aa (bP m)) m.al.toNat=m.aa:=by unfold pO;rw[Jq h.ev.aF.2 m.aa (bP m) h.ev.aF.2,Qr rfl];rfl
 rw[hown,aft h.aN (λk hk=>by rw[Dv (by omega)];simp[hk])]at ha
 cases ha.2
def Yh{m:ae}(h:bs m)(h1:m.aQ=1)(hc:m.ax=cg\/du m.ax)(hh:m.au≠[]\/m.bj≠gw\/m.ax≠cg):1<=(eo m).size/\(eo m).size<=200:=by
 unfold eo;split
 ·rename_i hz;rcases hc with e|e
  ·rw[e,bV]at hz;cases hz
  ·exact e.2.2
 ·rename_i hz;have hz:aP m.ax=true:=by simpa using hz
  rw[Qs (λh=>h h1)]
  split
  ·rename_i hp;refine⟨?_,h.ub⟩;rcases Nat.eq_zero_or_pos m.bj.size with e|e
   ·exfalso;apply hp;have:m.bj.data=#[]:=Array.eq_empty_of_size_eq_zero e
    cases hm:m.bj with
    |mk d=>rw[hm]at this;simp only at this;rw[this];rfl
   ·exact e
  ·rename_i hp
   have hne:m.au≠[]:=by
    rcases hh with e|e|e
    ·exact e
    ·exact absurd e hp
    ·exact absurd (zt.1 hz) e
   have hm:=Z9 (z:=cg) (l:=m.au.map (·.af)) (by simpa using hne)
   obtain⟨e,he,heq⟩:=QP.1 hm;rw[<-heq];exact Mu (h.hv e he).1
def aco{e:ak}(hv:bc e=true):1<=fG e/\(fG e<=1000\/fG e=1000000):=by
 unfold fG;split
 ·exact⟨by decide,.inr rfl⟩
 ·rename_i h3;have hv':=hv;unfold bc gV at hv';rw[Qm,Qm]at hv';have hb:=hv'.2
  have gof:∀{b:ah},finite b=true->1<=b.ai/\b.ai<=1000:=by intro b hb;unfold finite at hb;rw[Qm,Qi]at hb;have:=(YV hb.1 hb.2);exact⟨this.1,this.2.1⟩
  by_cases h1:e.bu=1
  ·rw[Qr h1]at hb;unfold gW at hb;simp only[Qm]at hb;have:=gof hb.1.1.1.1.1.1.1.1;exact⟨this.1,.inl this.2⟩
  ·rw[Qs h1]at hb
   by_cases h2:e.bu=2
   ·rw[Qr h2]at hb;unfold wE at hb;simp only[Qm]at hb;have:=gof hb.1.1.1.1.1;exact⟨this.1,.inl this.2⟩
   ·rw[Qs h2,Qs h3]at hb;cases hb
def acw(m:ae):ix m=1000000\/(m.af.ai<ix m/\ix m<1000000/\jn m (ix m)=false/\∃e∈m.au,ix m=fG e):=by
 unfold ix
 suffices key:∀(l:List ak),(∀e∈l,e∈m.au)->∀s,(s=1000000\/(m.af.ai<s/\s<1000000/\jn m s=false/\∃e∈m.au,s=fG e))->
   (l.foldl (oa m) s=1000000\/(m.af.ai<l.foldl (oa m) s/\l.foldl (oa m) s<1000000/\jn m (l.foldl (oa m) s)=false/\∃e∈m.au,l.foldl (oa m) s=fG e))from key _ (λe he=>he) _ (.inl rfl)
 intro l
 induction l with
 |nil=>intro _ s hs;exact hs
 |cons x l ih=>
  intro hm s hs;rw[QU];refine ih (λe he=>hm e (Qy _ he)) _ ?_
  unfold oa;split
  ·rename_i hc;exact .inr ⟨hc.1,by rcases hs with e|e<;>omega,hc.2.2,x,hm x Qx,rfl⟩
  ·exact hs
def KH{m:ae}(h:bs m)(hb:0<=m.af.ai/\m.af.ai<=1000):m.af.ai<=bF m.af.ai (dt (ix m) 1000)/\bF m.af.ai (dt (ix m) 1000)<=1000/\1<=bF m.af.ai (dt (ix m) 1000)/\
  (bF m.af.ai (dt (ix m) 1000)=m.af.ai->m.af.ai=1000)/\bF m.af.ai (dt (ix m) 1000)=dt (ix m) 1000:=by
 have hmin:dt (ix m) 1000<=1000/\1<=dt (ix m) 1000/\(m.af.ai<dt (ix m) 1000\/dt (ix m) 1000=1000):=by
  rcases acw m with e|⟨g1,g2,_,x,hx,g4⟩
  ·rw[e];exact⟨by decide,by decide,.inr (by decide)⟩
  ·have hc:=aco (h.hv x hx).1;rw[<-g4]at hc;have:ix m<=1000:=by omega
   have e:dt (ix m) 1000=ix m:=by unfold dt;split<;>omega
   rw[e];omega
 unfold bF;split<;>omega
def R5{m:ae}(h:bs m)(h1:P0 m\/P1 m)(ha:jn m m.af.ai=true):P1 (fS m):=by
 have hph:m.aQ=1:=by rcases h1 with h|h<;>exact h.ba
 have hbc:0<=m.af.ai/\m.af.ai<=1000:=by
  rcases h1 with h|h
  ·rw[h.aT];decide
  ·have:=h.aT;exact⟨by have:=this.1;omega,this.2.1⟩
 obtain⟨c1,c2,c3,_⟩:=KH h hbc;obtain⟨e0,he0,_⟩:=aaJ h ha
 have hconf:m.ax=cg\/du m.ax:=by
  rcases h1 with h|h
  ·exact .inl h.eB
  ·exact h.eB.imp id (·.1)
 have hv:=Yh h hph hconf (.inl (List.ne_nil_of_mem he0));unfold fS;rw[Qs (by rw[hph,ha];decide)]
 have hnv:oG m=eo m:=Qr hph;rw[hnv];generalize hn:bF m.af.ai (dt (ix m) 1000)=n at c1 c2 c3 ⊢
 have hpo:uP m.ao m.aD:=by
  rcases h1 with h|h
  ·exact⟨.inl h.dK,.inl h.bY⟩
  ·exact h.gW
 refine⟨hph,⟨c3,c2,hv.1,hv.2⟩,hpo.1,hpo.2,?_,?_,?_,?_⟩
 ·rcases h1 with h|h
  ·exact .inl h.eB
  ·exact h.eB
 ·show bC ⟨n,eo m⟩ m.ax=false;rcases hconf with e|e
  ·rw[e]
   cases hl:bC ⟨n,eo m⟩ cg with
   |false=>rfl
   |true=>have:=jc hl;have h0:(cg:ah).ai=0:=rfl;simp only at this;omega
  ·have hvc:eo m=m.ax.Value:=by unfold eo;rw[Qr e.nz]
   rw[HX (show(⟨n,eo m⟩:ah).Value=m.ax.Value from hvc),Qj]
   rcases h1 with h|h
   ·exact absurd h.eB (NS e)
   ·have:=Np h.up;simp only;omega
 ·rcases h1 with h|h<;>exact h.cn
 ·show(if eo m=m.af.Value then m.aZ else 0)=0\/(1<=(if eo m=m.af.Value then m.aZ else 0)/\_<=_/\o0 m.ao m.aD (eo m) (if eo m=m.af.Value then m.aZ else 0)=false)
  split
  ·rename_i hve;rcases h1 with h|h
   ·exact .inl h.low
   ·rcases h.low with e|⟨g1,g2,g3⟩
    ·exact .inl e
    ·refine .inr ⟨g1,?_,by rw[hve];exact g3⟩
     have:fE {m with aZ:=m.aZ,af:=⟨n,eo m⟩}=fE m:=by unfold fE bS;simp only[hve]
     show m.aZ<=fE {m with aZ:=m.aZ,af:=⟨n,eo m⟩}
     rw[this];exact g2
  ·exact .inl rfl
def Yw{m:ae}(h:bs m)(h2:P2 m):P2 (fS m):=by
 unfold fS;split
 ·exact h2
 ·obtain⟨c1,c2,c3,_⟩:=KH h ⟨by have:=h2.aT.1;omega,h2.aT.2.1⟩
  have hnv:oG m=m.af.Value:=Qs (by rw[h2.ba];decide)
  rw[hnv,Qr rfl];exact⟨h2.ba,⟨c3,c2,h2.aT.2.2⟩,h2.dK,h2.bY,h2.eB,h2.range⟩
def TE{m:ae}(h:bs m):bs (fS m):=by
 have hid:m.aQ=3\/jn m m.af.ai=false->fS m=m:=λhc=>Qr hc
 cases ha:jn m m.af.ai with
 |false=>rw[hid (.inr ha)];exact h
 |true=>
  refine Fw h (Cs m).all ?_;rcases h.body with h0|h1|h2|h3
  ·exact .inr (.inl (R5 h (.inl h0) ha))
  ·exact .inr (.inl (R5 h (.inr h1) ha))
  ·exact .inr (.inr (.inl (Yw h h2)))
  ·rw[hid (.inl h3.ba)];exact .inr (.inr (.inr h3))
end
section
def lexLt{a a' b b' B:Nat}(hb:b<B)(h:a<a'):a*B+b<a'*B+b':=by have h1:(a+1)*B<=a'*B:=Qq63 B h;rw[Qq73]at h1;omega
def B5{a a' b b' B:Nat}(h:a=a')(hb:b<b'):a*B+b<a'*B+b':=by rw[h];omega
def HW{a b A B:Nat}(ha:a<A)(hb:b<B):a*B+b<A*B:=by have h1:(a+1)*B<=A*B:=Qq63 B ha;rw[Qq73]at h1;omega
def du.sm{b:ah}(h:du b):Sm b:=⟨by have:=h.1;omega,h.2.1,h.2.2.2⟩
def abI:Sm cg:=⟨by decide,by decide,by decide⟩
def vu{b:ah}(h:b=cg\/du b):Sm b:=by
 rcases h with rfl|h
 ·exact abI
 ·exact h.sm
def SO{b:ah}(h:du b):pB cg<pB b:=zD abI h.sm ((zC _ _).2 (.inl h.1))
 def t1(m:ae):Nat:=2*m.af.ai.toNat+(if m.af.Value=oG m then 1 else 0)
 def pq(m:ae):Nat:=pB m.ao*WB+pB m.aD
 def r1(m:ae):Nat:=(pq m*WB+pB m.ax)*2002+t1 m
def K1:Nat:=(WB*WB)*WB*2002
 def r2(m:ae):Nat:=(((m.bq.toNat*1001+(1000 - m.aZ).toNat)*WB+pB m.ao)*WB+pB m.ax)*1001+m.af.ai.toNat
def K2:Nat:=((1001*1001)*WB*WB)*1001
 def kE(m:ae):Nat:=if m.aQ=1 then r1 m else if m.aQ=2 then K1+r2 m else K1+K2
def B3(m:ae):Prop:=(m.ao=cg\/du m.ao)/\(m.aD=cg\/du m.aD)/\(m.ax=cg\/du m.ax)/\(m.af=cg\/du m.af)
def P0.ok{m:ae}(h:P0 m):B3 m:=⟨.inl h.dK,.inl h.bY,.inl h.eB,.inl h.aT⟩
def P1.ok{m:ae}(h:P1 m):B3 m:=⟨h.dK,h.bY.imp id (·.1),h.eB.imp id (·.1),.inr h.aT⟩
def P2.ok{m:ae}(h:P2 m):B3 m:=⟨.inr h.dK.1,.inl h.bY,h.eB.imp id (·.1),.inr h.aT⟩
def Zl{m:ae}(h:B3 m):t1 m<2002:=by
 have:m.af.ai<=1000:=by
  rcases h.2.2.2 with e|e
  ·rw[e];decide
  ·exact e.2.1
 unfold t1;split<;>omega
def ajf{m:ae}(h:B3 m):pq m<WB*WB:=HW (tr (vu h.1)) (tr (vu h.2.1))
def ZI{m:ae}(h:B3 m):r1 m<K1:=HW (HW (ajf h) (tr (vu h.2.2.1))) (Zl h)
def P2.cn{m:ae}(h:P2 m):m.bq<=1000:=by have:=h.range.2.2;have:=h.dK.1.2.1;omega
def aeO{m:ae}(h:P2 m):r2 m<K2:=by
 have h1:=h.range;have h2:=h.cn;refine HW (HW (HW (HW (A:=1001) ?_ ?_) (tr h.dK.1.sm)) (tr (vu h.ok.2.2.1))) ?_
 ·omega
 ·omega
 ·have:=h.aT.2.1;omega
def zY{m:ae}(h:m.aQ=1):kE m=r1 m:=Qr h
def zX{m:ae}(h:m.aQ=2):kE m=K1+r2 m:=by unfold kE;rw[Qs (by omega),Qr h]
def aa9{m:ae}(h:m.aQ=3):kE m=K1+K2:=by unfold kE;rw[Qs (by omega),Qs (by omega)]
def Yn{m:ae}(h:bs m):kE m<=K1+K2:=by
 rcases h.body with h0|h1|h2|h3
 ·rw[zY h0.ba];have:=ZI h0.ok;omega
 ·rw[zY h1.ba];have:=ZI h1.ok;omega
 ·rw[zX h2.ba];have:=aeO h2;omega
 ·rw[aa9 h3.ba];exact QI _
def xp.up_{p q b p' q':ah}(h:uP p q)(hb:b=cg\/du b)(hj:xp p q b p' q'):(p'=p/\q'=q)\/pB p*WB+pB q<pB p'*WB+pB q':=by
 have hok:=hj.ok h hb;have hp:=vu h.1;have hq:Sm q:=vu (h.2.imp id (·.1))
 cases hj with
 |same=>exact .inl ⟨rfl,rfl⟩
 |first h1 h2=>
  subst h1 h2;rcases hb with e|e
  ·exact .inl ⟨e,rfl⟩
  ·exact .inr (lexLt (tr hq) (SO e))
 |up h1 hl hc|HO h1 hl hc=>exact .inr (lexLt (tr hq) (zD hp (vu hb) hl))
 |under h1 hl hc hq'=>
  rcases hq' with e|e
  ·subst e;rcases hb with e2|e2
   ·exact .inl ⟨rfl,e2⟩
   ·exact .inr (B5 rfl (SO e2))
  ·exact .inr (B5 rfl (zD hq (vu hb) e))
def Es{m m':ae}(he:je m m')(h1:m'.aQ=m.aQ)(h2:m'.af=m.af)(h3:m'.ao=m.ao)(h4:m'.aD=m.aD)(h5:m'.ax=m.ax)(h6:m'.aZ=m.aZ)(h7:m'.bq=m.bq):m'=m:=by obtain⟨e1,e2,e3,e4,e5,e6⟩:=he;cases m;cases m';simp only at*;subst e1 e2 e3 e4 e5 e6 h1 h2 h3 h4 h5 h6 h7;rfl
def acY{m m':ae}(he:je m m')(h:Fl m m'=true):m'=m:=by unfold Fl at h;simp only[Qm,Qi,Tq]at h;obtain⟨⟨⟨⟨⟨⟨h1,h2⟩,h3⟩,h4⟩,h5⟩,h6⟩,h7⟩:=h;exact Es he h1.symm h2.symm h3.symm h4.symm h5.symm h6.symm h7.symm
def zU(m:ae):Fl m m=true:=by unfold Fl;simp only[decide_true,Tq.2 rfl,Bool.and_self]
def ajd{m m':ae}(h:B3 m)(hlt:pq m<pq m'):r1 m<r1 m':=lexLt (Zl h) (lexLt (tr (vu h.2.2.1)) hlt)
def aky{m m':ae}(h:B3 m)(hpq:pq m=pq m')(hlt:pB m.ax<pB m'.ax):r1 m<r1 m':=lexLt (Zl h) (B5 hpq hlt)
def akx{m m':ae}(hpq:pq m=pq m')(hc:m.ax=m'.ax)(hlt:t1 m<t1 m'):r1 m<r1 m':=B5 (by rw[hpq,hc]) hlt
def OT{m:ae}(h1:P1 m):ue m m.ao m.aD=m.aZ:=by
 unfold ue;split
 ·rename_i hc;rcases h1.low with e|⟨g1,g2,g3⟩
  ·exact absurd e hc.2
  ·rw[abO g1 g3,Qs (by omega)]
 ·rfl
def akm{m:ae}(h:bs m):di m=m\/kE m<kE (di m):=by
 have hid:m.aQ=3\/aP m.af=true->di m=m:=λhc=>Qr hc
 rcases h.body with h0|h1|h2|h3
 ·exact .inl (hid (.inr (by rw[h0.aT];exact bV)))
 ·have hj:=(Lj h h1.gW).up_ h1.gW (AE h);have he:di m={m with ao:=(dC m.ao m.aD (eH (fb m))).1,aD:=(dC m.ao m.aD (eH (fb m))).2,aZ:=ue m (dC m.ao m.aD (eH (fb m))).1 (dC m.ao m.aD (eH (fb m))).2}:=Qs (by rw[h1.ba,h1.aT.nz];decide)
  rcases hj with⟨e1,e2⟩|hlt
  ·left;rw[he,e1,e2,OT h1]
  ·right;rw[zY h1.ba,zY (by rw[he];exact h1.ba)]
   exact ajd h1.ok (by rw[he];exact hlt)
 ·have hj:=(Lj h h2.gW).up_ h2.gW (AE h);have hk:=Yv h h2;have he:di m={m with ao:=(dC m.ao m.aD (eH (fb m))).1,aD:=(dC m.ao m.aD (eH (fb m))).2,aZ:=ue m (dC m.ao m.aD (eH (fb m))).1 (dC m.ao m.aD (eH (fb m))).2}:=Qs (by rw[h2.ba,h2.aT.nz];decide)
  have hlow:∀p q,ue m p q=m.aZ:=λp q=>Qs (λh=>by have:=h.1;rw[h2.ba]at this;cases this)
  rcases hj with⟨e1,e2⟩|hlt
  ·left;rw[he,e1,e2,hlow]
  ·right;rw[zX h2.ba,zX (by rw[he];exact h2.ba)]
   have e2:(dC m.ao m.aD (eH (fb m))).2=m.aD:=by have h3:=hk.2.2;rw[he]at h3;exact h3.trans h2.bY.symm
   have hp:pB m.ao<pB (di m).ao:=by
    rw[he];simp only;rw[e2]at hlt;refine Nat.lt_of_not_le λhle=> ?_
    have:=Qq63 WB hle;omega
   have e3:(di m).bq=m.bq/\(di m).aZ=m.aZ/\(di m).ax=m.ax/\(di m).af=m.af:=by rw[he];exact⟨rfl,hlow _ _,rfl,rfl⟩
   have:r2 m<r2 (di m):=by unfold r2;rw[e3.1,e3.2.1,e3.2.2.1,e3.2.2.2];exact lexLt (by have:=h2.aT.2.1;omega) (lexLt (tr (vu h2.ok.2.2.1)) (B5 rfl hp))
   omega
 ·exact .inl (hid (.inl h3.ba))
def akl{m:ae}(h:bs m):gB m=m\/kE m<kE (gB m):=by
 rcases h.body with h0|h1|h2|h3
 ·exact .inl (vW (.inr (.inl (by rw[h0.aT];exact bV))))
 ·obtain⟨g1,g2⟩:=R4 h h1;rcases g2 with e|⟨e1,e2,e3,_⟩
  ·exact .inl e
  ·right;rw[zY h1.ba,zY g1.ba];exact aky h1.ok (by unfold pq;rw[e1,e2]) (zD (vu h1.ok.2.2.1) (vu g1.ok.2.2.1) e3)
 ·exact .inl (vW (.inl (by rw[h2.ba];decide)))
 ·exact .inl (vW (.inl (by rw[h3.ba];decide)))
def Pc(a b:Int):(bF a b=a/\b<=a)\/(bF a b=b/\a<b):=by unfold bF;split<;>omega
def pC{a b:ah}(h1:a.ai=b.ai)(h2:a.Value=b.Value):a=b:=by cases a;cases b;simp only at h1 h2;rw[h1,h2]
def akp{m:ae}(h:bs m):fX m=m\/kE m<kE (fX m):=by
 have hC:m.aQ=1->B3 m->fX m=m\/kE m<kE (fX m):=by
  intro hp hok
  by_cases hk:(fT m).2.2.2.1=true
  ·right;have e:fX m=N5 m (fT m).1 (fT m).2.1 (fT m).2.2.1:=by unfold fX;rw[Qr hp,Qr hk]
   rw[zY hp,zX (by rw[e];rfl)]
   have:=ZI hok;omega
  ·left;unfold fX;rw[Qr hp,Qs hk]
 rcases h.body with h0|h1|h2|h3
 ·exact hC h0.ba h0.ok
 ·exact hC h1.ba h1.ok
 ·have e:fX m=CF m (eW m).1 (eW m).2:=by unfold fX;rw[Qs (by rw[h2.ba];decide),Qr h2.ba]
  obtain⟨g1,g2,g3,g4⟩:=WE h h2;have h2':=aaj h2 g1 g2 g3;rw[e]
  have hr:m.bq.toNat<=1000/\(1000 - m.aZ).toNat<1001/\m.af.ai.toNat<1001:=by have:=h2.cn;have:=h2.range;have:=h2.aT.2.1;omega
  have hcB:m.ax=(CF m (eW m).1 (eW m).2).ax\/pB m.ax<pB (CF m (eW m).1 (eW m).2).ax:=by
   rcases h2.eB with e|⟨hf,hv⟩
   ·right;rw[e]
    exact SO (h2'.eB.resolve_left (λe=>by
     have h1:=h2'.range;have h3:(CF m (eW m).1 (eW m).2).ax.ai=bF m.ax.ai (eW m).2:=rfl;rw[e]at h3;have h4:=Pc m.ax.ai (eW m).2;have h5:(cg:ah).ai=0:=rfl
     omega)).1
   ·rcases Pc m.ax.ai (eW m).2 with⟨e1,_⟩|⟨e1,e2⟩
    ·exact .inl (pC e1.symm hv)
    ·right;refine zD hf.sm (vu h2'.ok.2.2.1) ((zC _ _).2 (.inl ?_));show m.ax.ai<bF m.ax.ai (eW m).2;omega
  have hpB:m.ao=(CF m (eW m).1 (eW m).2).ao\/pB m.ao<pB (CF m (eW m).1 (eW m).2).ao:=by
   rcases Pc m.ao.ai (eW m).2 with⟨e1,_⟩|⟨e1,e2⟩
   ·exact .inl (pC e1.symm rfl)
   ·right;refine zD h2.dK.1.sm h2'.dK.1.sm ((zC _ _).2 (.inl ?_));show m.ao.ai<bF m.ao.ai (eW m).2;omega
  have hbB:m.af=(CF m (eW m).1 (eW m).2).af\/m.af.ai<(CF m (eW m).1 (eW m).2).af.ai:=by
   rcases Pc m.af.ai (eW m).2 with⟨e1,_⟩|⟨e1,e2⟩
   ·exact .inl (pC e1.symm rfl)
   ·right;show m.af.ai<bF m.af.ai (eW m).2;omega
  rw[zX h2.ba,zX h2'.ba];have hPs:=tr h2.dK.1.sm;have hCs:=tr (vu h2.ok.2.2.1);have hHi:(CF m (eW m).1 (eW m).2).bq=(eW m).2:=rfl;have hLo:(CF m (eW m).1 (eW m).2).aZ=(eW m).1:=rfl;have fin:r2 m<r2 (CF m (eW m).1 (eW m).2)->K1+r2 m<K1+r2 (CF m (eW m).1 (eW m).2):=λh=>by omega
  have hrng:=h2.range;rcases g4 with⟨e1,e2⟩|e1
  ·rcases Int.lt_or_eq_of_le e2 with e3|e3
   ·
    refine .inr (fin (lexLt hr.2.2 (lexLt hCs (lexLt hPs (B5 ?_ ?_)))))
    ·rw[hHi,e1]
    ·rw[hLo];omega
   ·rcases hpB with hp|hp
    ·rcases hcB with hc|hc
     ·rcases hbB with hb|hb
      ·left;exact Es ⟨rfl,rfl,rfl,rfl,rfl,rfl⟩ rfl hb.symm hp.symm rfl hc.symm e3 e1
      ·refine .inr (fin (B5 ?_ (by have:=h2.aT.1;omega)))
       rw[hHi,hLo,<-hp,<-hc,e1,e3]
     ·refine .inr (fin (lexLt hr.2.2 (B5 ?_ hc)));rw[hHi,hLo,<-hp,e1,e3]
    ·refine .inr (fin (lexLt hr.2.2 (lexLt hCs (B5 ?_ hp))));rw[hHi,hLo,e1,e3]
  ·refine .inr (fin (lexLt hr.2.2 (lexLt hCs (lexLt hPs (lexLt hr.2.1 ?_)))));rw[hHi];omega
 ·left;unfold fX;rw[Qs (by rw[h3.ba];decide),Qs (by rw[h3.ba];decide)]
def ako{m:ae}(h:bs m):jf m=m\/kE m<kE (jf m):=by
 by_cases hc:m.aQ=2/\(pA m).2.2.1=true
 ·right;have e:jf m=Re m (pA m).1 (pA m).2.1:=Qr hc;rw[zX hc.1,aa9 (by rw[e];rfl)]
  rcases h.body with h0|h1|h2|h3
  ·have:=h0.ba;have:=hc.1;omega
  ·have:=h1.ba;have:=hc.1;omega
  ·have:=aeO h2;omega
  ·have:=h3.ba;have:=hc.1;omega
 ·exact .inl (Qs hc)
def akn{m:ae}(h:bs m):fS m=m\/kE m<kE (fS m):=by
 have hid:m.aQ=3\/jn m m.af.ai=false->fS m=m:=λhc=>Qr hc
 cases ha:jn m m.af.ai with
 |false=>exact .inl (hid (.inr ha))
 |true=>
  have hC:m.aQ=1->B3 m->0<=m.af.ai/\m.af.ai<=1000->fS m=m\/kE m<kE (fS m):=by
   intro hp hok hb;obtain⟨c1,c2,c3,c4,_⟩:=KH h hb;have e:fS m={m with aZ:=if oG m=m.af.Value then m.aZ else 0,af:=⟨bF m.af.ai (dt (ix m) 1000),oG m⟩}:=Qs (by rw[hp,ha];decide)
   have hnv:oG (fS m)=oG m:=by unfold oG eo;rw[e];simp only[hp,Qt,not_true_eq_false,Qu,ne_eq]
   by_cases hs:bF m.af.ai (dt (ix m) 1000)=m.af.ai/\oG m=m.af.Value
   ·left;rw[e];refine Es ⟨rfl,rfl,rfl,rfl,rfl,rfl⟩ rfl (pC hs.1 hs.2) rfl rfl rfl ?_ rfl;exact Qr hs.2
   ·right;rw[zY hp,zY (by rw[e];exact hp)]
    refine akx (by rw[e];rfl) (by rw[e]) ?_
    unfold t1;rw[hnv];have hb':(fS m).af=⟨bF m.af.ai (dt (ix m) 1000),oG m⟩:=by rw[e]
    rw[hb',Qr rfl];simp only
    by_cases hv:oG m=m.af.Value
    ·rw[Qr hv.symm];have:bF m.af.ai (dt (ix m) 1000)≠m.af.ai:=λe=>hs ⟨e,hv⟩
     omega
    ·rw[Qs (λe=>hv e.symm)]
     omega
  rcases h.body with h0|h1|h2|h3
  ·exact hC h0.ba h0.ok (by rw[h0.aT];decide)
  ·exact hC h1.ba h1.ok ⟨by have:=h1.aT.1;omega,h1.aT.2.1⟩
  ·obtain⟨c1,c2,c3,c4,_⟩:=KH h ⟨by have:=h2.aT.1;omega,h2.aT.2.1⟩
   have hnv:oG m=m.af.Value:=Qs (by rw[h2.ba];decide)
   have e:fS m={m with af:=⟨bF m.af.ai (dt (ix m) 1000),m.af.Value⟩}:=by unfold fS;rw[Qs (by rw[h2.ba,ha];decide),hnv,Qr rfl]
   rw[e]
   by_cases hs:bF m.af.ai (dt (ix m) 1000)=m.af.ai
   ·left;exact Es ⟨rfl,rfl,rfl,rfl,rfl,rfl⟩ rfl (pC hs rfl) rfl rfl rfl rfl rfl
   ·right;rw[zX h2.ba,zX (show({m with af:=⟨bF m.af.ai (dt (ix m) 1000),m.af.Value⟩}:ae).aQ=2 from h2.ba)]
    have:r2 m<r2 {m with af:=⟨bF m.af.ai (dt (ix m) 1000),m.af.Value⟩}:=by refine B5 rfl ?_;have:=h2.aT.1;show m.af.ai.toNat<(bF m.af.ai (dt (ix m) 1000)).toNat;omega
    omega
  ·exact .inl (hid (.inl h3.ba))
end
section
def ajP(p:ak->Bool):Prop:=∀e s,p {e with aH:=s}=p e
structure Alike (l l':List ak):Prop where
 view:∀aF,aF<10->∀t,kP aF t l=kP aF t l'
 Yg:∀p,ajP p->ff p (c8 l)=ff p (c8 l')
 bal:fj l=fj l'
 val:gF l=gF l'
 jz:∀v,bw l v=bw l' v
section
variable {l l' : List ak} (h : Alike l l')
 include h
theorem Alike.acc{aF:Nat}(hn:aF<10)(t:aj):pL aF t l=pL aF t l':=by
 funext b
 unfold pL;rw[h.view aF hn t,h.Yg _ (λe s=>rfl),h.Yg _ (λe s=>rfl)]
theorem Alike.eB{aF:Nat}(hn:aF<10)(t:aj):nD aF t l=nD aF t l':=by
 funext b
 unfold nD;rw[h.view aF hn t,h.Yg _ (λe s=>rfl)]
theorem Alike.ready{aF:Nat}(hn:aF<10)(t:aj):nI aF t l=nI aF t l':=by
 funext v lo hi
 unfold nI;rw[h.view aF hn t,h.Yg _ (λe s=>rfl),h.Yg _ (λe s=>rfl)]
theorem Alike.sure{aF:Nat}(hn:aF<10)(t:aj):wD aF t l=wD aF t l':=by
 funext v lo hi
 unfold wD;rw[h.view aF hn t,h.Yg _ (λe s=>rfl)]
theorem Alike.next{aF:Nat}(hn:aF<10)(t:aj)(p q:ah)(v:ByteArray):kg aF t l p q v=kg aF t l' p q v:=by unfold kg;rw[h.bal,h.acc hn t]
theorem Alike.cn{aF:Nat}(hn:aF<10)(t:aj)(a:ah):Aw aF t l a=Aw aF t l' a:=by unfold Aw;rw[h.bal,h.eB hn t]
theorem Alike.Gp(x:ByteArray->Int->Int->Bool)(p q:ah):ic x l p q=ic x l' p q:=by
 unfold ic;rw[h.val];congr 1
 funext s v
 rw[h.jz]
theorem Alike.first(x:ByteArray->Int->Int->Bool)(p q:ah)(s:Bool×ah):rR x l p q s=rR x l' p q s:=by unfold rR;rw[h.jz]
end
def Ru{l l':List ak}(hl:tw l)(hn:l.length<=1000)(hl':tw l')(hn':l'.length<=1000)
  (h1:∀x,(∃e∈l,x∈said e/\aP x=false)↔∃e∈l',x∈said e/\aP x=false) (h2:∀x,(∃e∈l,bc e=true/\x=e.af.Value)↔∃e∈l',bc e=true/\x=e.af.Value)
  (h3:∀v x,x∈ends v l↔x∈ends v l'):fj l=fj l'/\gF l=gF l'/\∀v,bw l v=bw l' v:=by
 obtain⟨_,a2,_,a4⟩:=pM hl.aN hn;obtain⟨_,b2,_,b4⟩:=pM hl'.aN hn';obtain⟨_,c2,_,c4⟩:=w5 hl.aN hn;obtain⟨_,d2,_,d4⟩:=w5 hl'.aN hn';refine⟨Fg.flip.unique a2 b2 λx=> ?_,jA.unique c2 d2 λx=> ?_,λv=> ?_⟩
 ·rw[a4,b4];exact h1 x
 ·rw[c4,d4];exact h2 x
 ·obtain⟨_,e2,_,e4⟩:=jH hl.aN hn v;obtain⟨_,f2,_,f4⟩:=jH hl'.aN hn' v;refine La.unique (e2.imp λh=>Qg h) (f2.imp λh=>Qg h) λx=> ?_
  rw[e4,f4];exact h3 v x
def aaI{l l':List ak}(hl:tw l)(hn:l.length<=1000)(ha:Cl l)(h:l.Perm l'):Alike l l':=by
 have hl':tw l':=⟨by rw[<-h.length_eq];exact hl.len,λe he=>hl.aN e (h.mem_iff.2 he)⟩
 have hm:∀(P:ak->Prop),(∃e∈l,P e)↔∃e∈l',P e:=λP=>⟨λ⟨e,he,hp⟩=>⟨e,h.mem_iff.1 he,hp⟩,λ⟨e,he,hp⟩=>⟨e,h.mem_iff.2 he,hp⟩⟩
 obtain⟨a,b,c⟩:=Ru hl hn hl' (by rw[<-h.length_eq];exact hn) (λx=>hm _) (λx=>hm _) (λv x=>by rw[Er,Er];exact hm _)
 exact⟨λaF hn t=>Zg hn t ha h,λp _=>aaW (XJ h) p,a,b,c⟩
def acD{l:List ak}(hl:tw l)(hn:l.length<=1000)(f:ak->ak)(hf:∀e∈l,f e={e with aH:=(f e).aH}/\bc (f e)=bc e):Alike l (l.map f):=by
 have e1:∀e∈l,(f e).al=e.al/\(f e).aa=e.aa/\(f e).af=e.af/\(f e).bu=e.bu/\(f e).ao=e.ao/\(f e).aD=e.aD/\(f e).aZ=e.aZ/\(f e).bq=e.bq:=λe he=>by have:=(hf e he).1;rw[this];exact⟨rfl,rfl,rfl,rfl,rfl,rfl,rfl,rfl⟩
 have hl':tw (l.map f):=⟨by rw[QC];exact hl.len,λe he=>by
  obtain⟨x,hx,rfl⟩:=QP.1 he
  rw[(e1 x hx).2.1];exact hl.aN x hx⟩
 have hm:∀(P:ak->Prop),(∀e∈l,P e↔P (f e))->((∃e∈l,P e)↔∃e∈l.map f,P e):=λP hP=>⟨λ⟨e,he,hp⟩=>⟨f e,QP.2 ⟨e,he,rfl⟩,(hP e he).1 hp⟩,λ⟨e,he,hp⟩=>by
  obtain⟨x,hx,rfl⟩:=QP.1 he
  exact⟨x,hx,(hP x hx).2 hp⟩⟩
 have hsaid:∀e∈l,said (f e)=said e:=λe he=>by
  obtain⟨g1,g2,g3,g4,g5,g6,g7,g8⟩:=e1 e he;unfold said at_
  rw[(hf e he).2,g4,g3,g5,g6]
 have hbnd:∀v,∀e∈l,ki v (f e)=ki v e:=λv e he=>by obtain⟨g1,g2,g3,g4,g5,g6,g7,g8⟩:=e1 e he;unfold ki;simp only[(hf e he).2,g3,g7]
 obtain⟨a,b,c⟩:=Ru hl hn hl' (by rw[QC];exact hn) (λx=>hm _ λe he=>by rw[hsaid e he]) (λx=>hm _ λe he=>by rw[(hf e he).2,(e1 e he).2.2.1])
  (λv x=>by rw[Er,Er];exact hm _ λe he=>by rw[hbnd v e he,(e1 e he).2.2.2.2.2.2.1,(e1 e he).2.2.2.2.2.2.2])
 refine⟨λaF hn t=> ?_,λp hp=> ?_,a,b,c⟩
 ·unfold kP;generalize (replicate 10 jk).set aF ⟨true,t⟩=ms
  suffices key:∀(k:List ak) (ms:List bh),(∀e∈k,e∈l)->k.foldl fF ms=(k.map f).foldl fF ms from key l ms λe he=>he
  intro k
  induction k with
  |nil=>intro ms _;rfl
  |cons x k ih=>
   intro ms hk;have hx:=hk x Qx
   have:fF ms (f x)=fF ms x:=by unfold fF;rw[(hf x hx).2,(e1 x hx).1,(e1 x hx).2.1]
   rw[QD,QU,QU,this];exact ih _ λe he=>hk e (Qy _ he)
 ·unfold c8
  suffices key:∀(k:List ak),(∀e∈k,e∈l)->ff p (k.filter bc)=ff p ((k.map f).filter bc)from key l λe he=>he
  intro k
  induction k with
  |nil=>intro _;rfl
  |cons x k ih=>
   intro hk;have hx:=hk x Qx
   have hpx:p (f x)=p x:=by rw[(hf x hx).1];exact hp x _
   rw[QD,List.filter_cons,List.filter_cons,(hf x hx).2];split
   ·rw[ff,ff,hpx,(e1 x hx).1,ih λe he=>hk e (Qy _ he)]
   ·exact ih λe he=>hk e (Qy _ he)
structure fM (m:ae):Prop where
 zero:aP m.af=true->m.aH=0
 pos:aP m.af=false->1<=m.aH
def JY(m:ae):ak:=⟨m.al,m.aL,m.aH,m.aa,m.aQ,m.af,m.ao,m.aD,m.aZ,if m.aQ=1 then fE m else m.bq⟩
def Cu(m:ae):dw m=some (JY m):=by
 unfold dw JY fE;simp only[aR,etas,c6,fU,Qa]
 by_cases h1:m.aQ=1
 ·rw[Qg h1,Qr h1];cases aP m.ax<;>cases bS m.ax m.af<;>rfl
 ·rw[Qh h1,Qs h1];rfl
def GL{m:ae}(h:bs m):JY m=cY m:=by
 unfold JY cY;rcases h.body with h0|h1|h2|h3
 ·rw[Qr h0.ba,Qr h0.ba]
 ·rw[Qr h1.ba,Qr h1.ba]
 ·rw[Qs (by rw[h2.ba];decide),Qs (by rw[h2.ba];decide),Qr h2.ba,h2.bY]
 ·rw[Qs (by rw[h3.ba];decide),Qs (by rw[h3.ba];decide),Qs (by rw[h3.ba];decide),h3.bY,h3.dK]
def YC{m:ae}(hs:fM m)(hz:aP m.af=false):jj m=cY m:=by
 unfold jj
 have:bF (cY m).aH 1=(cY m).aH:=by have:=hs.pos hz;rw[WG];unfold bF;split<;>omega
 rw[this]
def xa(m:ae):List ak:=if aP m.af=true then m.au else m.au++[JY m]
def acu{l:List ak}(hl:l.length<=1000):fo l=some l:=by
 unfold fo;have h1:bg 176 (List.length ([]:List ak)+List.length l)=true:=bz (by simp;omega)
 rw[h1]
 cases l with
 |nil=>simp
 |cons x l=>rfl
def JW{m:ae}(h:m.au.length<=100):dD ⟨m⟩=some (xa m,⟨m⟩):=by
 unfold dD xa;simp only[etas,c6,Cu,Qa,acu (show m.au.length<=1000 by omega)]
 cases aP m.af with
 |true=>rfl
 |false=>
  simp only[Ql,Qq,Qu];rw[bz (by simp;omega)]
  rfl
def bs.apart{m:ae}(h:bs m):Cl (bP m):=by
 have hs:∀a∈m.au,∀b∈m.au,a.al=b.al->a=b:=by
  have:=h.dn;revert this;generalize m.au=l;intro hp
  induction l with
  |nil=>intro a ha;cases ha
  |cons x l ih=>
   rw[Q4]at hp;intro a ha b hb e;rcases QA.1 ha with ha'|ha'<;>rcases QA.1 hb with hb'|hb'
   ·rw[ha',hb']
   ·have:=hp.1 b hb';rw[ha']at e;omega
   ·have:=hp.1 a ha';rw[hb']at e;omega
   ·exact ih hp.2 a ha' b hb' e
 intro a ha b hb e;rcases EW ha with ha|⟨_,rfl⟩<;>rcases EW hb with hb|⟨_,rfl⟩
 ·exact hs a ha b hb e
 ·exact absurd (e.trans (wB m)) (h.hv a ha).2.2.2
 ·exact absurd (e.symm.trans (wB m)) (h.hv b hb).2.2.2
 ·rfl
def TH{m:ae}(h:bs m)(hs:fM m):(bP m).Perm (xa m):=by
 unfold bP xa;split
 ·exact .refl _
 ·rename_i hz;rw[GL h,<-YC hs (by simpa using hz)]
  exact FC _ _
def nh{m:ae}(h:bs m)(hs:fM m):Alike (bP m) (xa m):=aaI h.ev.vt.1 h.ev.vt.2 h.apart (TH h hs)
def uc{m:ae}(h:bs m)(hs:fM m):tw (xa m)/\(xa m).length<=1000:=by have hp:=TH h hs;have:=h.ev.vt;exact⟨⟨by rw[<-hp.length_eq];exact this.1.len,λe he=>this.1.aN e (hp.mem_iff.2 he)⟩,by rw[<-hp.length_eq];exact this.2⟩
section
variable {m : ae} (h : bs m) (hs : fM m)
 include h hs
theorem ahQ(p q:ah)(v:ByteArray):pY m.al m.aa (xa m) p q v=some (kg m.al.toNat m.aa (bP m) p q v):=by
 have:=afX h.ev.aF.2 h.ev.aN (uc h hs).1 (uc h hs).2 p q v
 rwa [h.ev.aF.1,<-(nh h hs).next h.ev.aF.2]at this
theorem ahS(a:ah):mm m.al m.aa (xa m) a=some (Aw m.al.toNat m.aa (bP m) a):=by
 have:=afY h.ev.aF.2 h.ev.aN (uc h hs).1 (uc h hs).2 a
 rwa [h.ev.aF.1,<-(nh h hs).cn h.ev.aF.2]at this
theorem afZ:tP m.al m.aa (xa m) m.ao m.aD=some (fT m):=by
 have hl:=uc h hs;have:=aiQ (Vn h.ev.aF.2 h.ev.aN hl.1) hl.1 hl.2 (look_eq h.ev.aF.2 h.ev.aN hl.1) m.ao m.aD;rw[h.ev.aF.1,<-(nh h hs).ready h.ev.aF.2,<-(nh h hs).Gp,<-(nh h hs).first]at this
 exact this
theorem ajl:sx m.al m.aa (xa m) m.af.Value m.aZ m.bq=some ((eW m).1,(eW m).2,()):=by have hl:=uc h hs;have:=ahg (Vn h.ev.aF.2 h.ev.aN hl.1) hl.1 hl.2 (look_eq h.ev.aF.2 h.ev.aN hl.1) m.af.Value m.aZ m.bq;rw[h.ev.aF.1,<-(nh h hs).ready h.ev.aF.2,<-(nh h hs).jz]at this;exact this
theorem ajk:tQ m.al m.aa (xa m) m.af.Value=some (pA m):=by have hl:=uc h hs;have:=aiR (afp h.ev.aF.2 h.ev.aN hl.1) hl.1 hl.2 (look_eq h.ev.aF.2 h.ev.aN hl.1) m.af.Value;rw[h.ev.aF.1,<-(nh h hs).sure h.ev.aF.2,<-(nh h hs).jz]at this;exact this
end
def Tz(v:ByteArray)(n:Int)(p q:ah):qM v n p q=some (lM v n p q):=by
 unfold qM lM;generalize bF n 1=k
 have hst:∀(i:Nat) (x:ah) (k:Int),i<2->[p,q][i]?=some x->
   (λ(v1:Int×Int×Unit)=>
    bif (decide (v1.2.1<((List.length [p,q]:Nat):Int)))then
    aY (λ(v2:Int×Unit)=>some (inl (v2.1,(aB .i64 v1.2.1 (1:Int)),()))) λj3=>
    Option.bind (idx [p,q] v1.2.1) λx4=>
    Option.bind (iZ x4) λr5=>
    Option.bind (bif (!r5)then some true else Option.bind (eJ x4 (ah.mk v1.1 v)) λr6=>some (!r6)) λb7=>
    bif b7 then j3 (v1.1,())
    else Option.bind (eJ x4 (ah.mk x4.ai v)) λr8=>bif r8 then j3 ((aB .i64 x4.ai (1:Int)),())else j3 (x4.ai,())
    else(Option.map inr (some v1.1):Option ((Int×Int×Unit)⊕Int))) (k,(i:Int),())=some (inl (yw v k x,((i+1:Nat):Int),())):=by
  intro i x k hi hx;have hd:decide ((i:Int)<((List.length [p,q]:Nat):Int))=true:=Qg (by simp;omega)
  have hw:aB .i64 (i:Int) 1=((i+1:Nat):Int):=bG (by omega) (by omega)
  have hx':idx [p,q] (i:Int)=some x:=by rw[bd];exact hx
  simp only[hd,hw,hx',Qk,aR,Qa,CR,vp];unfold yw
  cases hv:cP x with
  |false=>simp
  |true=>
   have hc:aB .i64 x.ai 1=x.ai+1:=by
    have:1<=x.ai/\x.ai<=1000000:=by simp only[cP,Qm,Qn,Qi]at hv;omega
    exact bG (by omega) (by omega)
   cases h1:eQ x ⟨k,v⟩with
   |false=>simp
   |true=>cases h2:eQ x ⟨x.ai,v⟩<;>simp[hc]
 refine(bA (hst 0 p k (by omega) rfl)).trans ((bA (hst 1 q _ (by omega) rfl)).trans (bO ?_))
 rfl
def adF(b:ah):(⟨dt b.ai 1000,b.Value⟩:ah)=eH b:=by unfold dt eH;split<;>rfl
section
variable {m : ae} (h : bs m) (hs : fM m)
 include h
theorem ZS(hz:aP (fb m)=true):di m=m:=by
 have hid:m.aQ=3\/aP m.af=true->di m=m:=λhc=>Qr hc
 have hj:dC m.ao m.aD (eH (fb m))=(m.ao,m.aD):=by
  have:eH (fb m)=cg:=by rw[zt.1 hz];decide
  rw[this];exact Qr bV
 have he:¬(m.aQ=3\/aP m.af=true)->ue m m.ao m.aD=m.aZ->di m=m:=by intro hc hl;unfold di;rw[Qs hc,hj];simp only;rw[hl]
 rcases h.body with h0|h1|h2|h3
 ·exact hid (.inr (by rw[h0.aT];exact bV))
 ·exact he (by rw[h1.ba,h1.aT.nz];decide) (OT h1)
 ·exact he (by rw[h2.ba,h2.aT.nz];decide) (Qs (λh=>by have:=h.1;rw[h2.ba]at this;cases this))
 ·exact hid (.inl h3.ba)
 include hs
theorem ZQ:lK ⟨m⟩=some ((),⟨di m⟩):=by
 have hl:m.au.length<=100:=by have:=h.len;omega
 unfold lK;simp only[etas,c6,JW hl,ahQ h hs,afP,Tz,Cu,Qa,aR,adF]
 by_cases h3:m.aQ=3\/aP m.af=true
 ·have e:di m=m:=Qr h3;rw[e];rcases h3 with h3|h3
  ·rw[Qg h3];cases aP m.af<;>rfl
  ·rw[h3];rfl
 ·have hz:aP m.af=false:=by
   cases hz:aP m.af with
   |true=>exact absurd (.inr hz) h3
   |false=>rfl
  have h3':¬m.aQ=3:=λe=>h3 (.inl e)
  rw[hz,Qh h3'];simp only[Ql,Qa]
  have hmain:∀v:ByteArray,v=Jt m->(bif aP (kg m.al.toNat m.aa (bP m) m.ao m.aD v)then some ((),(⟨m⟩:aM))else
    Option.bind (bif decide (m.aQ=1)then some (!decide (m.aZ=0))else some false) λb9=>
    bif b9 then
     bif decide ((JY ⟨m.al,m.aL,m.aH,m.aa,m.aQ,m.af,(dC m.ao m.aD (eH (kg m.al.toNat m.aa (bP m) m.ao m.aD v))).1,(dC m.ao m.aD (eH (kg m.al.toNat m.aa (bP m) m.ao m.aD v))).2,m.ax,lM m.af.Value m.aZ (dC m.ao m.aD (eH (kg m.al.toNat m.aa (bP m) m.ao m.aD v))).1 (dC m.ao m.aD (eH (kg m.al.toNat m.aa (bP m) m.ao m.aD v))).2,m.bq,m.bj,m.au⟩).bq<lM m.af.Value m.aZ (dC m.ao m.aD (eH (kg m.al.toNat m.aa (bP m) m.ao m.aD v))).1 (dC m.ao m.aD (eH (kg m.al.toNat m.aa (bP m) m.ao m.aD v))).2)then
      some ((),(⟨⟨m.al,m.aL,m.aH,m.aa,m.aQ,m.af,(dC m.ao m.aD (eH (kg m.al.toNat m.aa (bP m) m.ao m.aD v))).1,(dC m.ao m.aD (eH (kg m.al.toNat m.aa (bP m) m.ao m.aD v))).2,m.ax,0,m.bq,m.bj,m.au⟩⟩:aM))
     else some ((),(⟨⟨m.al,m.aL,m.aH,m.aa,m.aQ,m.af,(dC m.ao m.aD (eH (kg m.al.toNat m.aa (bP m) m.ao m.aD v))).1,(dC m.ao m.aD (eH (kg m.al.toNat m.aa (bP m) m.ao m.aD v))).2,m.ax,lM m.af.Value m.aZ (dC m.ao m.aD (eH (kg m.al.toNat m.aa (bP m) m.ao m.aD v))).1 (dC m.ao m.aD (eH (kg m.al.toNat m.aa (bP m) m.ao m.aD v))).2,m.bq,m.bj,m.au⟩⟩:aM))
    else some ((),(⟨⟨m.al,m.aL,m.aH,m.aa,m.aQ,m.af,(dC m.ao m.aD (eH (kg m.al.toNat m.aa (bP m) m.ao m.aD v))).1,(dC m.ao m.aD (eH (kg m.al.toNat m.aa (bP m) m.ao m.aD v))).2,m.ax,m.aZ,m.bq,m.bj,m.au⟩⟩:aM)))=some ((),(⟨di m⟩:aM)):=by
   intro v hv;subst hv;rw[show kg m.al.toNat m.aa (bP m) m.ao m.aD (Jt m)=fb m from rfl]
   cases hzn:aP (fb m)with
   |true=>rw[ZS h hzn];rfl
   |false=>
    simp only[Ql];have e:di m={m with ao:=(dC m.ao m.aD (eH (fb m))).1,aD:=(dC m.ao m.aD (eH (fb m))).2,aZ:=ue m (dC m.ao m.aD (eH (fb m))).1 (dC m.ao m.aD (eH (fb m))).2}:=Qs h3
    rw[e];unfold ue
    by_cases hc:m.aQ=1/\m.aZ≠0
    ·rw[Qg hc.1,Qh hc.2,Qr hc];simp only[Qk,Qa,Qp];have hh:∀(p q:ah) (L:Int),(JY {m with ao:=p,aD:=q,aZ:=L}).bq=fE m:=λp q L=>by unfold JY;exact Qr hc.1
     rw[hh];split
     ·rename_i hlt;rw[Qg hlt];rfl
     ·rename_i hlt;rw[Qh hlt];rfl
    ·rw[Qs hc]
     by_cases h1:m.aQ=1
     ·rw[Qg h1,Qg (show m.aZ=0 from Classical.byContradiction λhn=>hc ⟨h1,hn⟩)];rfl
     ·rw[Qh h1];rfl
  by_cases h2:m.aQ=2
  ·rw[Qg h2];exact hmain _ (Qr h2).symm
  ·rw[Qh h2];exact hmain _ (Qs h2).symm
end
def aa3(m:ae)(b:ah):lE ⟨m⟩ b=some ((),⟨{m with aZ:=bif bS m.af b then m.aZ else 0,af:=b}⟩):=by unfold lE;simp only[etas,fU,Qa,aR];cases bS m.af b<;>rfl
def Ni(m:ae)(b:ah){α:Type}(j:ae->Option α):
  (bif decide (m.aZ=(0:Int))then(bif bS m.af b then(bif decide (lM b.Value m.af.ai m.ao m.aD<=b.ai)then j {m with aZ:=lM b.Value m.af.ai m.ao m.aD}else j m)else j m)else(bif false then(bif decide (lM b.Value m.af.ai m.ao m.aD<=b.ai)then j {m with aZ:=lM b.Value m.af.ai m.ao m.aD}else j m)else j m))=j (rE m b):=by
 unfold rE
 by_cases hL:m.aZ=0
 ·rw[Qg hL]
  cases hc:bS m.af b with
  |true=>
   by_cases hle:lM b.Value m.af.ai m.ao m.aD<=b.ai
   ·rw[Qr ⟨hL,rfl,hle⟩,Qg hle];rfl
   ·rw[Qs (λh=>hle h.2.2),Qh hle];rfl
  |false=>rw[Qs (λh=>by cases h.2.1)];rfl
 ·rw[Qh hL,Qs (λh=>hL h.1)];rfl
section
variable {m : ae} (h : bs m) (hs : fM m)
 include h hs
theorem ahq:oy ⟨m⟩=some ((),⟨gB m⟩):=by
 have hl:m.au.length<=100:=by have:=h.len;omega
 unfold oy;simp only[etas,aM.eta,c6,JW hl,ahS h hs,Tz,aa3,fU,ka,Qa,aR];have hb:Aw m.al.toNat m.aa (bP m) m.ax=gS m:=rfl;simp only[hb];unfold gB
 cases hz:aP m.af with
 |true=>rw[Qr (.inr (.inl rfl))];rfl
 |false=>
  by_cases h1:m.aQ=1
  ·rw[Qg h1]
   cases hzb:aP (gS m)with
   |true=>rw[Qr (.inr (.inr rfl))];rfl
   |false=>
    rw[Qs (by simp[h1])]
    simp only[Qo,Ql,Qa];unfold Dg
    cases hlt:bC m.af (gS m)with
    |true=>
     simp only[Qk,Qt]
     cases hcp:bS m.af (gS m)with
     |true=>exact Ni {m with ax:=gS m,af:=gS m} (gS m) (λx=>some ((),(⟨x⟩:aM)))
     |false=>exact Ni {m with ax:=gS m,af:=gS m,aZ:=0} (gS m) (λx=>some ((),(⟨x⟩:aM)))
    |false=>simp only[Ql,Qq,Qu];exact Ni {m with ax:=gS m} (gS m) (λx=>some ((),(⟨x⟩:aM)))
  ·rw[Qh h1,Qr (.inl h1)];rfl
theorem acq:ma ⟨m⟩=some ((),⟨fX m⟩):=by
 have hl:m.au.length<=100:=by have:=h.len;omega
 unfold ma;simp only[etas,aM.eta,JW hl,afZ h hs,ajl h hs,fU,ka,Qa,aR];unfold fX
 by_cases h1:m.aQ=1
 ·rw[Qg h1,Qr h1];simp only[Qk]
  cases hk:(fT m).2.2.2.1 with
  |false=>rfl
  |true=>
   have hf:=P6 h hk
   have hcov:jM m.ao ⟨(fT m).2.2.1,(fT m).1⟩= !(bC m.ao ⟨(fT m).2.2.1,(fT m).1⟩|| !bS m.ao ⟨(fT m).2.2.1,(fT m).1⟩):=by
    cases hc:bS m.ao ⟨(fT m).2.2.1,(fT m).1⟩with
    |false=>unfold jM;rw[hc];simp
    |true=>
     have hv:=jG.1 hc
     have hnz:aP m.ao=false:=by
      cases hz:aP m.ao with
      |false=>rfl
      |true=>rw[zt.1 hz]at hv;exact absurd hv.symm hf.fin.ne
     unfold jM;rw[hc,hnz,HX hv,Qo,Bool.or_false,Qp,Bool.and_self,Bool.true_and];rw[QW];simp only[Qi,Bool.not_eq_true',Qj];omega
   simp only[Qo,Ql,Qt];unfold N5;rw[hcov];cases bS m.af ⟨(fT m).2.2.1,(fT m).1⟩<;>cases bC m.af ⟨(fT m).2.2.1,(fT m).1⟩<;>cases bC m.ao ⟨(fT m).2.2.1,(fT m).1⟩<;>cases bS m.ao ⟨(fT m).2.2.1,(fT m).1⟩<;>rfl
 ·rw[Qh h1,Qs h1]
  by_cases h2:m.aQ=2
  ·rw[Qg h2,Qr h2];rcases h.body with k|k|k|k
   ·exact absurd k.ba h1
   ·exact absurd k.ba h1
   ·unfold CF;rw[k.dK.2];rfl
   ·have:=k.ba;omega
  ·rw[Qh h2,Qs h2];rfl
theorem adW:mF ⟨m⟩=some ((),⟨jf m⟩):=by
 have hl:m.au.length<=100:=by have:=h.len;omega
 unfold mF jf;simp only[etas,JW hl,ajk h hs,Qa]
 by_cases h2:m.aQ=2
 ·rw[Qg h2]
  cases hk:(pA m).2.2.1 with
  |false=>rw[Qs (λh=>by cases h.2)];rfl
  |true=>rw[Qr ⟨h2,rfl⟩];rfl
 ·rw[Qh h2,Qs (λh=>h2 h.1)];rfl
end
def Vz{m:ae}(h:wZ m):iF ⟨m⟩=some (eo m):=by
 have hl:m.au.length<=1000:=by have:=h.len;omega
 unfold iF eo;simp only[c6,Qa]
 cases hz:aP m.ax with
 |false=>rfl
 |true=>
  simp only[Qo,Ql,Bool.true_eq_false,Qu]
  by_cases h1:m.aQ=1
  ·rw[Qg h1,Qs (λh=>h h1)]
   simp only[Qo,Ql]
   by_cases hp:m.bj=gw
   ·have hp':decide (m.bj=bE)=true:=Qg hp;rw[hp',Qs (λh=>h hp)]
    simp only[Qo,Ql]
    rw[FI m.au hl (·.af) (fin:=λs=>Option.bind (nV s) λr=>some r.Value) (λi e s hs he hd hx hw=>by
     simp only[hd,hx,hw,Qk,Qa]
     rw[bz (by simp;omega),Qk]) (λs hd=>by simp only[hd,Ql]),adq _ (by simp;omega)]
    rfl
   ·have hp':decide (m.bj=bE)=false:=Qh hp;rw[hp',Qr hp];rfl
  ·rw[Qh h1,Qr h1];rfl
def afU(l:List ak)(hlen:l.length<=1000)(p:ak->Bool)(hp:∀e∈l,p e=true->0<=e.al/\e.al<10):sv l (l.map p)=some ((ff p l:Nat):Int):=by
 unfold sv
 suffices key:∀(k i s:Nat),i+k=l.length->s<1024->aE _ ((s:Int),(i:Int),())=some ((s|||ff p (l.drop i):Nat):Int)by
  have:=key l.length 0 0 (by omega) (by omega)
  rw[Nat.zero_or,List.drop_zero]at this;exact this
 intro k
 induction k with
 |zero=>
  intro i s hi hs;obtain rfl:i=l.length:=by omega
  have hd:decide ((l.length:Int)<(l.length:Int))=false:=Qh (Qq64 _);rw[bO (r:=(s:Int)) (by simp only[hd,Ql,Qe]),Qq66,ff]
  simp
 |succ k ih=>
  intro i s hi hs;have hlt:i<l.length:=by omega
  have hd:decide ((i:Int)<(l.length:Int))=true:=Qg (by omega)
  have hd2:decide ((i:Int)<(((l.map p).length:Nat):Int))=true:=Qg (by rw[QC];omega)
  have hw:aB .i64 (i:Int) 1=((i+1:Nat):Int):=bG (by omega) (by omega)
  have hx:idx l (i:Int)=some l[i]:=by rw[bd];exact Qv hlt
  have hx2:idx (l.map p) (i:Int)=some (p l[i]):=by rw[bd,QT,Qv hlt];rfl
  rw[QM hlt,ff]
  cases hpe:p l[i]with
  |false=>
   rw[bA (s':=((s:Int),((i+1:Nat):Int),())) (by simp only[hd,hd2,hx,hx2,hw,hpe,Qk,Ql,aR,Qa]),ih (i+1) s (by omega) hs]
   simp
  |true=>
   obtain⟨h0,h1⟩:=hp _ (Q0 hlt) hpe;have hn0:¬l[i].al<0:=by omega
   have d1:decide ((0:Int)<=l[i].al)=true:=Qg h0;have d2:decide (l[i].al<(10:Int))=true:=Qg (by omega)
   rw[bA (s':=(((s|||2 ^ l[i].al.toNat:Nat):Int),((i+1:Nat):Int),())) (by
    simp only[hd,hd2,hx,hx2,hw,hpe,Qk,aR,Qa,d1,d2,hn0,Qu]
    rw[ra hs h0 h1]),ih (i+1) _ (by omega) (B2 hs h1)]
   simp[Nat.or_assoc]
def ads{m:ae}(h:wZ m)(n:Int):nv ⟨m⟩ n=some ((Hf m n:Nat):Int):=by
 have hl:m.au.length<=1000:=by have:=h.len;omega
 unfold nv;have d1:decide ((m.au.length:Int)<=(m.au.length:Int))=true:=Qg (Int.le_refl _);have d2:decide (0<=(m.au.length:Int))=true:=Qg (Int.natCast_nonneg _);have d3:bg 1 m.au.length=true:=bz (by omega)
 simp only[d1,d2,d3,QV,Int.le_refl,decide_true,Bool.and_self,Qk]
 rw[ab6 m.au hl (λe=>decide (n<fG e)) (fin:=λs=>Option.bind (sv m.au s) λr=>some r)
  (λi e s hsl he hi hd hx hw=>by
   have h1:idx s (i:Int)=some s[i]:=by rw[bd];exact Qv (by omega)
   have h2:s[i]?=some s[i]:=Qv (by omega)
   simp only[hd,hx,hw,h1,h2,Qk,Qa,etas,VE (h.sm e he) (h.valid e he),QV])
  (λs hd=>by simp only[hd,Ql]) (by simp),afU m.au hl _ (λe he _=>h.SH e he)]
 rfl
section
variable {m : ae} (h : bs m) (hs : fM m)
 include h hs
theorem ab5(n:Int):iW n ⟨kP m.al.toNat m.aa (xa m)⟩ ⟨m⟩=some (jn m n):=by unfold iW;simp only[etas,ads h.ev,Qa];have hb:=Uo (oE (aF:=m.al.toNat) h.ev.aN (uc h hs).1) (v:=m.al.toNat) (Uk h.ev n);rw[h.ev.aF.1]at hb;rw[hb,Qa];unfold jn;rw[(nh h hs).view _ h.ev.aF.2]
theorem adO:mE ⟨m⟩=some ((),⟨fS m⟩):=by
 have hl:m.au.length<=100:=by have:=h.len;omega
 have hv:=Zb h.ev.aF.2 h.ev.aN (uc h hs).1;rw[h.ev.aF.1]at hv;unfold mE fS;simp only[etas,aM.eta,c6,JW hl,hv,ab5 h hs,Vz h.ev,aa3,Qa,aR]
 by_cases h3:m.aQ=3
 ·rw[Qg h3,Qr (.inl h3)];rfl
 ·rw[Qh h3]
  cases ha:jn m m.af.ai with
  |false=>rw[Qr (.inr rfl)];rfl
  |true=>
   rw[Qs (by simp[h3])]
   simp only[Ql,Qo]
   have hbc:0<=m.af.ai/\m.af.ai<=1000:=by
    rcases h.body with k|k|k|k
    ·rw[k.aT];decide
    ·exact⟨by have:=k.aT.1;omega,k.aT.2.1⟩
    ·exact⟨by have:=k.aT.1;omega,k.aT.2.1⟩
    ·exact absurd k.ba h3
   have hz1:aP m.af=true->m.aQ=1:=by
    intro hz;rcases h.body with k|k|k|k
    ·exact k.ba
    ·exact k.ba
    ·rw[k.aT.nz]at hz;cases hz
    ·exact absurd k.ba h3
   refine(Xb h.ev (fin:=λc=>some ((),(⟨{m with aZ:=bif bS m.af ⟨dt c 1000,oG m⟩then m.aZ else 0,af:=⟨dt c 1000,oG m⟩}⟩:aM))) (λi e s he hd hx hw=> ?_) (λs hd=> ?_)).trans ?_
   ·simp only[hd,hx,hw,Qk,Qa,VE (h.ev.sm e he) (h.ev.valid e he)];unfold oa
    by_cases c1:m.af.ai<fG e
    ·by_cases c2:fG e<s
     ·rw[Qg c1,Qg c2]
      cases c3:jn m (fG e)with
      |true=>rw[Qs (by simp)];rfl
      |false=>rw[Qr ⟨c1,c2,rfl⟩];rfl
     ·rw[Qg c1,Qh c2,Qs (λh=>c2 h.2.1)];rfl
    ·rw[Qh c1,Qs (λh=>c1 h.1)];rfl
   ·simp only[hd,Ql,aR];unfold oG
    by_cases h1:m.aQ=1
    ·rw[Qg h1,Qr h1];cases aP m.af<;>rfl
    ·rw[Qh h1,Qs h1]
     cases hz:aP m.af with
     |true=>exact absurd (hz1 hz) h1
     |false=>rfl
   ·have hm:=(KH h hbc).2.2.2.2;rw[hm]
    have hcp:(bif bS m.af ⟨dt (ix m) 1000,oG m⟩then m.aZ else 0)=(if oG m=m.af.Value then m.aZ else 0):=by
     by_cases e:oG m=m.af.Value
     ·rw[Qr e,(jG (a:=m.af) (b:=⟨dt (ix m) 1000,oG m⟩)).2 e.symm];rfl
     ·rw[Qs e,(jv (a:=m.af) (b:=⟨dt (ix m) 1000,oG m⟩)).2 (λhc=>e hc.symm)];rfl
    rw[hcp]
end
end
section
def Xl{m:ae}(h:bs m)(s:Int):bP {m with aH:=s}=(bP m).map (λe=>if e.al=m.al then{e with aH:=bF s 1}else e):=by
 have hf:∀e∈m.au,(if e.al=m.al then{e with aH:=bF s 1}else e)=e:=λe he=>Qs (h.hv e he).2.2.2
 have hmap:m.au.map (λe=>if e.al=m.al then{e with aH:=bF s 1}else e)=m.au:=by rw[Qq71 hf];simp
 have hown:jj {m with aH:=s}={jj m with aH:=bF s 1}:=by
  unfold jj cY fE;split
  ·rfl
  ·split<;>rfl
 unfold bP;split
 ·exact hmap.symm
 ·rw[hown];have hn:(jj m).al=m.al:=wB m
  suffices key:∀l:List ak,(∀e∈l,(if e.al=m.al then{e with aH:=bF s 1}else e)=e)->Av {jj m with aH:=bF s 1} l=(Av (jj m) l).map (λe=>if e.al=m.al then{e with aH:=bF s 1}else e)from key _ hf
  intro l
  induction l with
  |nil=>intro _;simp only[Av,QD,QO,hn,Qt]
  |cons x l ih=>
   intro hx;unfold Av;simp only;split
   ·rw[QD,QD,hn,Qr rfl,hx x Qx,Qq71 (λe he=>hx e (Qy _ he))]
    simp
   ·rw[QD,hx x Qx,ih λe he=>hx e (Qy _ he)]
def Sz{m:ae}(h:bs m){s:Int}(hs:0<=s/\s<=1000000):bs {m with aH:=s}:=by
 refine⟨h.n0,h.n1,h.aK,hs,h.aN,h.ub,h.hv,h.dn,?_⟩;rcases h.body with k|k|k|k
 ·exact .inl ⟨k.ba,k.aT,k.dK,k.bY,k.eB,k.low,k.cn⟩
 ·exact .inr (.inl ⟨k.ba,k.aT,k.dK,k.bY,k.eB,k.up,k.cn,k.low⟩)
 ·exact .inr (.inr (.inl ⟨k.ba,k.aT,k.dK,k.bY,k.eB,k.range⟩))
 ·exact .inr (.inr (.inr ⟨k.ba,k.aT,k.dK,k.bY,k.eB,k.range⟩))
def sb{m:ae}(h:bs m){s:Int}(hs:0<=s/\s<=1000000):Alike (bP m) (bP {m with aH:=s}):=by
 rw[Xl h s];refine acD h.ev.vt.1 h.ev.vt.2 _ λe he=> ?_
 split
 ·rename_i hn;refine⟨rfl,?_⟩;rw[h.FN e he];have hv:=h.FN e he
  have hm:{e with aH:=bF s 1}∈bP {m with aH:=s}:=by rw[Xl h s];exact QP.2 ⟨e,he,Qr hn⟩
  exact(Sz h hs).FN _ hm
 ·exact⟨rfl,rfl⟩
def agq(m:ae)(s:Int)(b:ah):Dg {m with aH:=s} b={Dg m b with aH:=s}:=by
 unfold Dg
 by_cases h:bC m.af b=true
 ·simp only[Qr h]
 ·simp only[Qs h]
def aaY(m:ae)(s:Int)(b:ah):rE {m with aH:=s} b={rE m b with aH:=s}:=by
 unfold rE
 by_cases h:m.aZ=0/\bS m.af b=true/\lM b.Value m.af.ai m.ao m.aD<=b.ai
 ·simp only[Qr h]
 ·simp only[Qs h]
section
variable {m : ae} (h : bs m) {s : Int} (hs : 0 <= s /\ s <= 1000000)
 include h hs
theorem af5:fb {m with aH:=s}=fb m:=((sb h hs).next h.ev.aF.2 m.aa _ _ _).symm
theorem agn:gS {m with aH:=s}=gS m:=((sb h hs).cn h.ev.aF.2 m.aa _).symm
theorem Tu:iu {m with aH:=s}=iu m:=((sb h hs).ready h.ev.aF.2 m.aa).symm
theorem acU:Oh {m with aH:=s}=Oh m:=((sb h hs).sure h.ev.aF.2 m.aa).symm
theorem agz:fT {m with aH:=s}=fT m:=by unfold fT;rw[Tu h hs];simp only;rw[<-(sb h hs).Gp,<-(sb h hs).first]
theorem agF:eW {m with aH:=s}=eW m:=by unfold eW;rw[Tu h hs];simp only;rw[<-(sb h hs).jz]
theorem agE:pA {m with aH:=s}=pA m:=by unfold pA;rw[acU h hs];simp only;rw[<-(sb h hs).jz]
theorem Uj(n:Int):jn {m with aH:=s} n=jn m n:=by unfold jn;simp only;rw[<-(sb h hs).view _ h.ev.aF.2];rfl
theorem agV:ix {m with aH:=s}=ix m:=by
 unfold ix;simp only;congr 1
 funext b e
 unfold oa;simp only[Uj h hs]
theorem JT:di {m with aH:=s}={di m with aH:=s}:=by unfold di;simp only[af5 h hs];split<;>rfl
theorem JR:gB {m with aH:=s}={gB m with aH:=s}:=by
 unfold gB;simp only[agn h hs];split
 ·rfl
 ·rw[agq,aaY]
theorem JV:fX {m with aH:=s}={fX m with aH:=s}:=by
 unfold fX;simp only[agz h hs,agF h hs];split
 ·split<;>rfl
 ·split<;>rfl
theorem JU:jf {m with aH:=s}={jf m with aH:=s}:=by unfold jf;simp only[agE h hs];split<;>rfl
theorem TD:fS {m with aH:=s}={fS m with aH:=s}:=by unfold fS;simp only[Uj h hs,agV h hs];split<;>rfl
end
open Classical in
 def dh(m:ae):ae:=
 if di m=m then(if gB m=m then(if fX m=m then(if jf m=m then fS m else jf m)else fX m)else gB m)else di m
structure KZ (m:ae):Prop where
 p:di m=m
 s:gB m=m
 c:fX m=m
 f:jf m=m
 k:fS m=m
def acV{m:ae}(h:dh m=m):KZ m:=by
 unfold dh at h;split at h
 ·split at h
  ·split at h
   ·split at h
    ·exact⟨by assumption,by assumption,by assumption,by assumption,h⟩
    ·contradiction
   ·contradiction
  ·contradiction
 ·contradiction
def adP{m:ae}(h:KZ m):dh m=m:=by unfold dh;rw[Qr h.p,Qr h.s,Qr h.c,Qr h.f,h.k]
def Hu{m:ae}{Q:ae->Prop}(h1:Q (di m))(h2:Q (gB m))(h3:Q (fX m))(h4:Q (jf m))(h5:Q (fS m)):Q (dh m):=by
 unfold dh;split
 ·split
  ·split
   ·split
    ·exact h5
    ·exact h4
   ·exact h3
  ·exact h2
 ·exact h1
def Fi{m:ae}(h:bs m):bs (dh m):=Hu (TC h) (TB h) (TG h) (TF h) (TE h)
def Th(m:ae):je m (dh m):=Hu (Cr m) (zx m) (zz m) (zy m) (Cs m)
def Vd{m:ae}(h:bs m):dh m=m\/kE m<kE (dh m):=Hu (Q:=λx=>x=m\/kE m<kE x) (akm h) (akl h) (akp h) (ako h) (akn h)
def akC(m:ae):(di m).af=m.af:=by unfold di;split<;>rfl
def M9{m:ae}(h:bs m)(hz:aP m.af=false):aP (dh m).af=false:=by
 have hb:P1 m\/P2 m\/P3 m:=h.body.resolve_left λk=>by rw[k.aT,bV]at hz;cases hz
 refine Hu (Q:=λx=>aP x.af=false) (by rw[akC];exact hz) ?_ ?_ ?_ ?_
 ·rcases hb with k|k|k
  ·exact(R4 h k).1.aT.nz
  ·rw[vW (.inl (by rw[k.ba];decide))];exact hz
  ·rw[vW (.inl (by rw[k.ba];decide))];exact hz
 ·unfold fX;rcases hb with k|k|k
  ·rw[Qr k.ba];split
   ·rename_i hk;have hf:=P6 h hk;exact(WZ (.inr k.aT) k.dK hf.fin hf.lo1 hf.le).aT.nz
   ·exact hz
  ·rw[Qs (by rw[k.ba];decide),Qr k.ba]
   obtain⟨g1,g2,g3,_⟩:=WE h k;exact(aaj k g1 g2 g3).aT.nz
  ·rw[Qs (by rw[k.ba];decide),Qs (by rw[k.ba];decide)];exact hz
 ·unfold jf;split
  ·rename_i hc;rcases hb with k|k|k
   ·have:=k.ba;have:=hc.1;omega
   ·exact(Yx h k hc.2).aT.nz
   ·have:=k.ba;have:=hc.1;omega
  ·exact hz
 ·cases ha:jn m m.af.ai with
  |false=>have:fS m=m:=Qr (.inr ha);rw[this];exact hz
  |true=>
   rcases hb with k|k|k
   ·exact(R5 h (.inr k) ha).aT.nz
   ·exact(Yw h k).aT.nz
   ·have:fS m=m:=Qr (.inl k.ba);rw[this];exact hz
def dq(m:ae):ae:=if aP m.af=false then{m with aH:=bF m.aH 1}else m
def YF{m:ae}(h:bs m):0<=bF m.aH 1/\bF m.aH 1<=1000000:=by have:=h.seq;unfold bF;split<;>omega
def wc{m:ae}(h:bs m):bs (dq m):=by
 unfold dq;split
 ·exact Sz h (YF h)
 ·exact h
def Lq{m:ae}(h:aP m.af=true->m.aH=0):fM (dq m):=by
 unfold dq;split
 ·rename_i hz;exact⟨λe=>(by rw[show({m with aH:=bF m.aH 1}:ae).af=m.af from rfl,hz]at e;cases e),λ_=>by show 1<=bF m.aH 1;unfold bF;split<;>omega⟩
 ·rename_i hz;exact⟨h,λe=>absurd e hz⟩
def agC{m:ae}(h:bs m)(hf:KZ m){s:Int}(hs:0<=s/\s<=1000000):KZ {m with aH:=s}:=
 ⟨by rw[JT h hs,hf.p],by rw[JR h hs,hf.s],by rw[JV h hs,hf.c],by rw[JU h hs,hf.f],by rw[TD h hs,hf.k]⟩
def adA{m:ae}(h:bs m)(hf:KZ m):KZ (dq m):=by
 unfold dq;split
 ·exact agC h hf (YF h)
 ·exact hf
def af6{m:ae}(hs:fM m):dq m=m:=by
 unfold dq;split
 ·rename_i hz;have:=hs.pos hz;have e:bF m.aH 1=m.aH:=by unfold bF;split<;>omega
  rw[e]
 ·rfl
def ac8(m:ae):kE (dq m)=kE m:=by unfold dq;split<;>rfl
def VK{m:ae}(h:0<=m.aH):dI ⟨m⟩=some ((),⟨dq m⟩):=by
 unfold dI dq;simp only[etas,c6,Qa]
 cases hz:aP m.af with
 |true=>rfl
 |false=>
  simp only[Qp,Qk,Qa,Qt]
  by_cases hs:m.aH=0
  ·have e:bF m.aH 1=1:=by unfold bF;split<;>omega
   rw[Qg hs,e];rfl
  ·have e:bF m.aH 1=m.aH:=by unfold bF;split<;>omega
   rw[Qh hs,e];rfl
def yg{m m':ae}(he:je m m'):
  (decide (m'.aQ=m.aQ)&&(decide (m'.aZ=m.aZ)&&(decide (m'.bq=m.bq)&&(decide (m'.af.ai=m.af.ai)&&(decide (m'.af.Value=m.af.Value)&&(decide (m'.ao.ai=m.ao.ai)&&(decide (m'.ao.Value=m.ao.Value)&&(decide (m'.aD.ai=m.aD.ai)&&(decide (m'.aD.Value=m.aD.Value)&&(decide (m'.ax.ai=m.ax.ai)&&(decide (m'.ax.Value=m.ax.Value)&&true)))))))))))=true↔m'=m:=by
 simp only[Qm,Qi];constructor
 ·rintro⟨h1,h2,h3,h4,h5,h6,h7,h8,h9,h10,h11,_⟩;exact Es he h1 (pC h4 h5) (pC h6 h7) (pC h8 h9) (pC h10 h11) h2 h3
 ·rintro rfl;simp
open Classical in
def ahr{m:ae}(h:bs m)(hs:fM m):oz ⟨m⟩=some (if dh m=m then(false,⟨m⟩)else(true,⟨dq (dh m)⟩)):=by
 have hnum:∀{x:ae},bs x->dI ⟨x⟩=some ((),⟨dq x⟩):=λhx=>VK hx.seq.1
 unfold oz;simp only[etas,aM.eta,gg,Qa,ZQ h hs]
 by_cases hP:di m=m
 ·simp only[(yg (Cr m)).2 hP,Ql,show xor true true=false from rfl]
  rw[hP,ahq h hs];simp only[Qa]
  by_cases hS:gB m=m
  ·simp only[(yg (zx m)).2 hS,Ql,show xor true true=false from rfl]
   rw[hS,acq h hs];simp only[Qa]
   by_cases hC:fX m=m
   ·simp only[(yg (zz m)).2 hC,Ql,show xor true true=false from rfl]
    rw[hC,adW h hs];simp only[Qa]
    by_cases hF:jf m=m
    ·simp only[(yg (zy m)).2 hF,Ql,show xor true true=false from rfl]
     rw[hF,adO h hs];simp only[Qa];have e:dh m=fS m:=by unfold dh;rw[Qr hP,Qr hS,Qr hC,Qr hF]
     rw[e]
     by_cases hK:fS m=m
     ·simp only[(yg (Cs m)).2 hK,Ql,show xor true true=false from rfl]
      rw[Qr hK,hK]
     ·have hb:=mt (yg (Cs m)).1 hK;rw[QX]at hb;simp only[hb,Qk,show xor true false=true from rfl]
      rw[hnum (TE h),Qs hK];rfl
    ·have e:dh m=jf m:=by unfold dh;rw[Qr hP,Qr hS,Qr hC,Qs hF]
     have hb:=mt (yg (zy m)).1 hF;rw[QX]at hb;simp only[hb,Qk,show xor true false=true from rfl]
     rw[hnum (TF h),e,Qs hF];rfl
   ·have e:dh m=fX m:=by unfold dh;rw[Qr hP,Qr hS,Qs hC]
    have hb:=mt (yg (zz m)).1 hC;rw[QX]at hb;simp only[hb,Qk,show xor true false=true from rfl]
    rw[hnum (TG h),e,Qs hC];rfl
  ·have e:dh m=gB m:=by unfold dh;rw[Qr hP,Qs hS]
   have hb:=mt (yg (zx m)).1 hS;rw[QX]at hb;simp only[hb,Qk,show xor true false=true from rfl]
   rw[hnum (TB h),e,Qs hS];rfl
 ·have e:dh m=di m:=by unfold dh;rw[Qs hP]
  have hb:=mt (yg (Cr m)).1 hP;rw[QX]at hb;simp only[hb,Qk,show xor true false=true from rfl]
  rw[hnum (TC h),e,Qs hP];rfl
structure IL (R:ae->Prop) (m m':ae):Prop where
 inv:bs m'
 seq:fM m'
 env:m'.al=m.al/\m'.aL=m.aL/\m'.aa=m.aa/\m'.bj=m.bj/\m'.au=m.au
 num:m'.aH=m.aH\/(m.aH=0/\m'.aH=1)
 nz:aP m.af=false->aP m'.af=false
 rel:R m'
 fix:KZ m'
def acE{R:ae->Prop}(hR1:∀m,bs m->R m->R (dh m))(hR2:∀m,R m->R (dq m)){m:ae}(h:bs m)(hs:aP m.af=true->m.aH=0)(hr:R m):Yd (fI ⟨m⟩) λq=>∃m',q=((),⟨m'⟩)/\IL R m m':=by
 unfold fI;simp only[etas,aM.eta,VK h.seq.1,Qa]
 have num1:∀{x:ae},bs x->(dq x).aH=x.aH\/(x.aH=0/\(dq x).aH=1):=λ{x} hx=>by
  have:=hx.seq;unfold dq;split
  ·show bF x.aH 1=x.aH\/(x.aH=0/\bF x.aH 1=1);unfold bF;split<;>omega
  ·exact .inl rfl
 have env1:∀x:ae,(dq x).al=x.al/\(dq x).aL=x.aL/\(dq x).aa=x.aa/\(dq x).bj=x.bj/\(dq x).au=x.au/\(dq x).af=x.af:=λx=>by unfold dq;split<;>exact⟨rfl,rfl,rfl,rfl,rfl,rfl⟩
 refine Yd.down (λs=>∃x,s=((⟨x⟩:aM),())/\bs x/\fM x/\R x/\(x.al=m.al/\x.aL=m.aL/\x.aa=m.aa/\x.bj=m.bj/\x.au=m.au)/\(x.aH=m.aH\/(m.aH=0/\x.aH=1))/\(aP m.af=false->aP x.af=false)) (λs=>K1+K2 - kE s.1.ab) ?_ ⟨dq m,rfl,wc h,Lq hs,hR2 _ hr,⟨(env1 m).1,(env1 m).2.1,(env1 m).2.2.1,(env1 m).2.2.2.1,(env1 m).2.2.2.2.1⟩,num1 h,λhz=>by rw[(env1 m).2.2.2.2.2];exact hz⟩
 rintro s ⟨x,rfl,hx,hsx,hrx,hex,hnx,hzx⟩;simp only[ahr hx hsx,Qa]
 by_cases hst:dh x=x
 ·rw[Qr hst];exact .some ⟨x,rfl,⟨hx,hsx,hex,hnx,hzx,hrx,acV hst⟩⟩
 ·rw[Qs hst];have hi:=Fi hx;have hv:=Th x;have hup:=(Vd hx).resolve_left hst;refine .some ⟨⟨dq (dh x),rfl,wc hi,Lq ?_,hR2 _ (hR1 _ hx hrx),?_,?_,?_⟩,?_⟩
  ·intro hz;rw[hv.seq];refine hsx.zero ?_
   cases hzz:aP x.af with
   |true=>rfl
   |false=>rw[M9 hx hzz]at hz;cases hz
  ·obtain⟨e1,e2,e3,e4,e5,_⟩:=env1 (dh x);exact⟨e1.trans (hv.aF.trans hex.1),e2.trans (hv.aK.trans hex.2.1),e3.trans (hv.aN.trans hex.2.2.1),e4.trans (hv.ub.trans hex.2.2.2.1),e5.trans (hv.heard.trans hex.2.2.2.2)⟩
  ·have h1:=num1 hi;rw[hv.seq]at h1;rcases h1 with e|⟨e1,e2⟩
   ·rw[e];exact hnx
   ·right;rcases hnx with e3|⟨_,e3⟩
    ·exact⟨by rw[<-e3];exact e1,e2⟩
    ·omega
  ·intro hz;rw[(env1 (dh x)).2.2.2.2.2];exact M9 hx (hzx hz)
  ·have h1:=Yn hi;show K1+K2 - kE (dq (dh x))<K1+K2 - kE x;rw[ac8];omega
end
section
def Xm{α:Type}{s t:List α}(hl:s.length=t.length)(hn:s.length<=1000000){step:Int×Unit->Option ((Int×Unit)⊕Bool)}
  (h1:∀(i:Nat) (h:i<s.length) (h':i<t.length),decide ((i:Int)<(s.length:Int))=true->idx s (i:Int)=some s[i]->idx t (i:Int)=some t[i]->aB .i64 (i:Int) 1=((i+1:Nat):Int)->∃b:Bool,step ((i:Int),())=some (bif b then .inl (((i+1:Nat):Int),())else .inr false)/\(b=true↔s[i]=t[i]))
  (h2:decide ((s.length:Int)<(s.length:Int))=false->step ((s.length:Int),())=some (.inr true)):∃b,aE step (0,())=some b/\(b=true↔s=t):=by
 suffices key:∀(k i:Nat),i+k=s.length->∃b,aE step ((i:Int),())=some b/\(b=true↔s.drop i=t.drop i)from by simpa using key s.length 0 (by omega)
 intro k
 induction k with
 |zero=>
  intro i hi;obtain rfl:i=s.length:=by omega
  refine⟨true,bO (h2 (Qh (Qq64 _))),?_⟩;rw[List.drop_eq_nil_of_le (by omega),List.drop_eq_nil_of_le (by omega)]
  simp
 |succ k ih=>
  intro i hi;have hi':i<s.length:=by omega
  have hi'':i<t.length:=by omega
  obtain⟨b,h3,h4⟩:=h1 i hi' hi'' (Qg (by omega)) (by rw[bd];exact Qv hi') (by rw[bd];exact Qv hi'') (bG (by omega) (by omega))
  rw[QM hi',QM hi'',List.cons.injEq]
  cases b with
  |false=>refine⟨false,bO h3,?_⟩;simp only[Qq,false_iff]at h4 ⊢;exact λh=>h4 h.1
  |true=>
   obtain⟨b,h5,h6⟩:=ih (i+1) (by omega)
   refine⟨b,(bA h3).trans h5,?_⟩;rw[h6];exact⟨λh=>⟨h4.1 rfl,h⟩,λh=>h.2⟩
def Pj{α:Type}{s t:List α}(h:s.length≠t.length):(false=true↔s=t):=by
 simp only[Qq,false_iff];exact λh1=>h (by rw[h1])
 def ae6(a0:List Int)(a1:List Int):Option Bool:=
 bif (!decide (((List.length a0:Nat):Int)=((List.length a1:Nat):Int)))then
 some false
 else
 aE (λ(v1:Int×Unit)=>
 bif (decide (v1.1<((List.length a0:Nat):Int)))then
 Option.bind (idx a0 v1.1) λx2=>
 Option.bind (idx a1 v1.1) λx3=>
 bif (!decide (x2=x3))then
 Option.map inr (some false)
 else
 some (inl ((aB .i64 v1.1 (1:Int)),()))
 else
 Option.map inr (some true)) ((0:Int),())
def aeZ(s t:List Int)(h:s.length<=1000000):∃b,ae6 s t=some b/\(b=true↔s=t):=by
 unfold ae6
 by_cases hl:s.length=t.length
 ·rw[Qg (by omega:(s.length:Int)=(t.length:Int)),Qo,Ql]
  refine Xm hl h (λi hi hi' hd hx hy hw=> ?_) (λhd=> ?_)
  ·refine⟨decide (s[i]=t[i]),?_,by simp⟩
   simp only[hd,hx,hy,hw,Qk,Qa];cases decide (s[i]=t[i])<;>rfl
  ·simp only[hd,Ql];rfl
 ·rw[Qh (by omega:¬(s.length:Int)=(t.length:Int)),Qp,Qk]
  exact⟨false,rfl,Pj hl⟩
def aie(s t:List Int)(h:s.length<=1000000):∃b,wX s t=some b/\(b=true↔s=t):=aeZ s t h
def aju(s t:List Int)(h:s.length<=1000000):∃b,sL s t=some b/\(b=true↔s=t):=aeZ s t h
def Tg(a b:aj):a=b↔a.aI=b.aI/\a.bb=b.bb/\a.aO=b.aO:=by cases a;cases b;simp
def aiP{n:Nat}:∀{a b:aj},SizeOf.sizeOf a<n->cQ a->∃r,wO n (a,b,())=some r/\(r=true↔a=b):=by
 induction n with
 |zero=>intro a b h;omega
 |succ n ih=>
  intro a b hs hm;show∃r,tV (wO n) a b=some r/\(r=true↔a=b);have hl:=hm.len;have hns:=hm.nodes;obtain⟨r,h1,h2⟩:=aie a.bb b.bb hns;rw[Tg];unfold tV
  by_cases ht:a.aI=b.aI
  ·rw[Qg ht];simp only[Qo,Ql,h1,Qa]
   cases r with
   |false=>simp only[Qp,Qk,Qa];refine⟨false,rfl,?_⟩;simp only[Qq,false_iff]at h2 ⊢;exact λh=>h2 h.2.1
   |true=>
    simp only[Qo,Ql,Qa]
    by_cases hi:a.aO.length=b.aO.length
    ·rw[Qg (by omega:(a.aO.length:Int)=(b.aO.length:Int)),Qo,Ql]
     have key:∀step:Int×Unit->Option ((Int×Unit)⊕Bool),(∃r,aE step (0,())=some r/\(r=true↔a.aO=b.aO))->∃r,aE step (0,())=some r/\(r=true↔a.aI=b.aI/\a.bb=b.bb/\a.aO=b.aO):=by rintro step ⟨r,h3,h4⟩;exact⟨r,h3,by rw[h4];exact⟨λh=>⟨ht,h2.1 rfl,h⟩,λh=>h.2.2⟩⟩
     refine key _ (Xm hi hl (λi hi hi' hd hx hy hw=> ?_) (λhd=> ?_))
     ·have hu:=Q0 hi;obtain⟨r,h3,h4⟩:=ih (a:=a.aO[i]) (b:=b.aO[i]) (by have:=qt hu;omega) (hm.inner _ hu)
      refine⟨r,?_,h4⟩;simp only[hd,hx,hy,hw,Qk,Qa,etas,h3];cases r<;>rfl
     ·simp only[hd,Ql];rfl
    ·rw[Qh (by omega:¬(a.aO.length:Int)=(b.aO.length:Int)),Qp,Qk]
     refine⟨false,rfl,?_⟩;simp only[Qq,false_iff];exact λh=>hi (by rw[h.2.2])
  ·rw[Qh ht];refine⟨false,rfl,?_⟩;simp only[Qq,false_iff];exact λh=>ht h.1
def NV{a b:aj}(h:cQ a):∃r,iz a b=some r/\(r=true↔a=b):=aiP (by omega) h
def ajR{n:Nat}:∀{a b:aj},SizeOf.sizeOf a<n->cQ a->∃r,zj n (a,b,())=some r/\(r=true↔a=b):=by
 induction n with
 |zero=>intro a b h;omega
 |succ n ih=>
  intro a b hs hm;show∃r,uH (zj n) a b=some r/\(r=true↔a=b);have hl:=hm.len;have hns:=hm.nodes;obtain⟨r,h1,h2⟩:=aju a.bb b.bb hns;rw[Tg];unfold uH
  by_cases ht:a.aI=b.aI
  ·rw[Qg ht];simp only[Qk,h1,Qa]
   cases r with
   |false=>simp only[Ql];refine⟨false,rfl,?_⟩;simp only[Qq,false_iff]at h2 ⊢;exact λh=>h2 h.2.1
   |true=>
    simp only[Qk]
    have key:∀o:Option Bool,(∃r,o=some r/\(r=true↔a.aO=b.aO))->∃r,(Option.bind (Option.bind o λr3=>some r3) λb4=>some b4)=some r/\(r=true↔a.aI=b.aI/\a.bb=b.bb/\a.aO=b.aO):=by rintro o ⟨r,rfl,h4⟩;exact⟨r,rfl,by rw[h4];exact⟨λh=>⟨ht,h2.1 rfl,h⟩,λh=>h.2.2⟩⟩
    refine key _ ?_;unfold dP
    by_cases hi:a.aO.length=b.aO.length
    ·rw[Qg (by omega:(a.aO.length:Int)=(b.aO.length:Int)),Qo,Ql]
     refine Xm hi hl (λi hi hi' hd hx hy hw=> ?_) (λhd=> ?_)
     ·have hu:=Q0 hi;obtain⟨r,h3,h4⟩:=ih (a:=a.aO[i]) (b:=b.aO[i]) (by have:=qt hu;omega) (hm.inner _ hu)
      refine⟨r,?_,h4⟩;simp only[hd,hx,hy,hw,Qk,Qa,etas,h3];cases r<;>rfl
     ·simp only[hd,Ql];rfl
    ·rw[Qh (by omega:¬(a.aO.length:Int)=(b.aO.length:Int)),Qp,Qk]
     exact⟨false,rfl,Pj hi⟩
  ·rw[Qh ht];refine⟨false,rfl,?_⟩;simp only[Qq,false_iff];exact λh=>ht h.1
def eqT{a b:aj}(h:cQ a):∃r,k9 a b=some r/\(r=true↔a=b):=ajR (by omega) h
def YX(a b:Int)(s t:ByteArray):mu false a b s t=(decide (a=b)&&decide (s=t)):=by simp
def Rr(a b:ah):a=b↔a.ai=b.ai/\a.Value=b.Value:=by cases a;cases b;simp
def YY(a b:ak):a=b↔a.al=b.al/\a.aL=b.aL/\a.aH=b.aH/\a.aa=b.aa/\a.bu=b.bu/\a.af=b.af/\a.ao=b.ao/\a.aD=b.aD/\a.aZ=b.aZ/\a.bq=b.bq:=by cases a;cases b;simp
def Y5(a b:Bool):(bif a then some b else some false)=some (a&&b):=by cases a<;>rfl
def akG{a b:ak}(h:cQ a.aa):∃r,AP a b=some r/\(r=true↔a=b):=by
 obtain⟨r,h1,h2⟩:=NV (a:=a.aa) (b:=b.aa) h;have hc:∀x:Bool,(bif x then some r else some false)=some (x&&r):=λx=>by cases x<;>rfl
 refine⟨_,by simp only[AP,etas,h1,Qa,Y5,hc,YX];rfl,?_⟩
 rw[YY];simp only[Qm,Qi,h2,Rr];constructor
 ·rintro⟨⟨⟨⟨⟨⟨⟨⟨⟨h1,h2⟩,h3⟩,h4⟩,h5⟩,h6⟩,h7⟩,h8⟩,h9⟩,h10⟩;exact⟨h1,h2,h3,h4,h5,h6,h7,h8,h9,h10⟩
 ·rintro⟨h1,h2,h3,h4,h5,h6,h7,h8,h9,h10⟩;exact⟨⟨⟨⟨⟨⟨⟨⟨⟨h1,h2⟩,h3⟩,h4⟩,h5⟩,h6⟩,h7⟩,h8⟩,h9⟩,h10⟩
end
section
def PT{m:ae}(h:bs m){ρ:Type}{step:Int×Unit->Option ((Int×Unit)⊕ρ)}{fin:Option ρ}
  (h1:∀(i:Nat) (e:ak),e∈m.au->decide ((i:Int)<(m.au.length:Int))=true->idx m.au (i:Int)=some e->aB .i64 (i:Int) 1=((i+1:Nat):Int)->
   (i=0\/(decide ((0:Int)<(i:Int))=true/\∃x,idx m.au (cW .i64 (i:Int) 1)=some x/\decide (e.al<=x.al)=false))->step ((i:Int),())=some (.inl (((i+1:Nat):Int),())))
  (h2:decide ((m.au.length:Int)<(m.au.length:Int))=false->step ((m.au.length:Int),())=Option.map inr fin):aE step (0,())=fin:=by
 have hl:=h.len;refine aa7 m.au.length (by omega) (λi hi hd hw=> ?_) h2
 have hx:idx m.au (i:Int)=some m.au[i]:=by rw[bd];exact Qv hi
 refine h1 i m.au[i] (Q0 hi) hd hx hw ?_
 cases i with
 |zero=>exact .inl rfl
 |succ i=>
  refine .inr ⟨Qg (by omega),m.au[i],?_,?_⟩
  ·have:cW .i64 ((i+1:Nat):Int) 1=(i:Int):=by rw[nY (by omega) (by omega)];omega
   rw[this,bd];exact Qv (by omega)
  ·have:=List.pairwise_iff_getElem.1 h.dn i (i+1) (by omega) hi (by omega)
   exact Qh (by omega)
def ago{m:ae}(h:bs m):vK m=some true:=by
 unfold vK;refine PT h (λi e he hd hx hw hi=> ?_) (λhd=>by simp only[hd,Ql])
 obtain⟨g1,g2,g3,g4⟩:=h.hv e he;simp only[hd,hx,hw,Qk,Qa,aR,etas,sG g2.sm,g1,Qo,Ql,Qg g3,Qh g4];rcases hi with rfl|⟨hi,x,hx2,hn⟩
 ·rfl
 ·rw[hi,hx2];simp only[Qk,Qa,hn,Ql]
def Lm{m:ae}(h:bs m)(hs:fM m)(hz:aP m.af=false):bc (cY m)=true:=by rw[<-YC hs hz];exact TL h hz
def af7:mu false cg.ai (0:Int) cg.Value bE=true:=by decide
def BO{m:ae}(h:bs m)(hs:fM m):iX m=some true:=by
 have d1:decide (m.al<0)=false:=Qh (by have:=h.n0;omega)
 have d2:decide ((10:Int)<=m.al)=false:=Qh (by have:=h.n1;omega)
 have d3:decide (m.aL<1)=false:=Qh (by have:=h.aK;omega)
 have d4:decide ((1000000:Int)<m.aL)=false:=Qh (by have:=h.aK;omega)
 have d5:decide (m.aH<0)=false:=Qh (by have:=h.seq;omega)
 have d6:decide ((1000000:Int)<m.aH)=false:=Qh (by have:=h.seq;omega)
 have d7:decide ((200:Int)<((m.bj.size:Nat):Int))=false:=Qh (by have:=h.ub;omega)
 have hm:cQ (cY m).aa:=by rw[rU];exact h.aN.sm
 unfold iX;simp only[d1,d2,d3,d4,d5,d6,d7,Ql,Qa,etas,de h.aN,decide_true,Qo,ago h,c6,Cu,GL h,sG hm]
 cases hz:aP m.af with
 |true=>
  have h0:P0 m:=by
   rcases h.body with k|k|k|k
   ·exact k
   ·rw[k.aT.nz]at hz;cases hz
   ·rw[k.aT.nz]at hz;cases hz
   ·rw[k.aT.nz]at hz;cases hz
  unfold AU;simp only[h0.ba,hs.zero hz,h0.dK,h0.bY,h0.eB,h0.low,h0.cn,af7,decide_true,Qk,Qa]
 |false=>
  have hv:=Lm h hs hz;simp only[hv,Ql,Qk]
  have hconf:qS m=some true:=by
   unfold qS;simp only[c6,CR,tU,fU,Qa]
   have fin:∀(hf:du m.ax) (hp:(et m.ao m.aD m.ax||(!decide (m.aQ=1)&&bS m.ax m.af))=true),_:=λhf hp=>(show(bif aP m.ax then some true else
     (bif !cP m.ax then some true else some (decide (1000<m.ax.ai))).bind λb3=>bif b3 then some false else
     (bif et m.ao m.aD m.ax then some true else(bif !decide (m.aQ=1)then some (bS m.ax m.af)else some false).bind λb6=>some b6).bind λb7=>some b7)=some true by
    rw[hf.nz,hf.valid,Qh (show¬1000<m.ax.ai by have:=hf.2.1;omega)]
    revert hp
    cases et m.ao m.aD m.ax<;>cases decide (m.aQ=1)<;>cases bS m.ax m.af<;>simp)
   have nob:m.ax=cg->(bif aP m.ax then some true else
     (bif !cP m.ax then some true else some (decide (1000<m.ax.ai))).bind λb3=>bif b3 then some false else
     (bif et m.ao m.aD m.ax then some true else(bif !decide (m.aQ=1)then some (bS m.ax m.af)else some false).bind λb6=>some b6).bind λb7=>some b7)=some true:=λe=>by rw[e,bV];rfl
   rcases h.body with k|k|k|k
   ·exact nob k.eB
   ·rcases k.eB with e|⟨hf,hp⟩
    ·exact nob e
    ·exact fin hf (by rw[hp];rfl)
   ·rcases k.eB with e|⟨hf,hp⟩
    ·exact nob e
    ·exact fin hf (by rw[jG.2 hp,Qh (show¬m.aQ=1 by have:=k.ba;omega)];simp)
   ·exact nob k.eB
  rw[hconf];simp only[Qa,Qk];rcases h.body with k|k|k|k
  ·rw[k.aT,bV]at hz;cases hz
  ·simp only[k.ba,k.cn,decide_true,Qo,Ql,Qa,Qp,Qk,show decide ((1:Int)=3)=false from rfl]
  ·simp only[k.ba,k.bY,bV,show decide ((2:Int)=1)=false from rfl,show decide ((2:Int)=3)=false from rfl,Qo,Ql,Qa,Qp,Qk]
  ·simp only[k.ba,k.bY,k.dK,bV,show decide ((3:Int)=1)=false from rfl,decide_true,Qo,Ql,Qa,Qp,Qk]
def xl{m:ae}(h:bs m)(hs:fM m):iy m=some true:=by
 have d1:decide (m.al<0)=false:=Qh (by have:=h.n0;omega)
 have d2:decide ((9:Int)<m.al)=false:=Qh (by have:=h.n1;omega)
 have d3:decide (m.aL<1)=false:=Qh (by have:=h.aK;omega)
 have d4:decide ((1000000:Int)<m.aL)=false:=Qh (by have:=h.aK;omega)
 have d5:decide (m.aH<0)=false:=Qh (by have:=h.seq;omega)
 have d6:decide ((1000000:Int)<m.aH)=false:=Qh (by have:=h.seq;omega)
 have d7:decide ((200:Int)<((m.bj.size:Nat):Int))=false:=Qh (by have:=h.ub;omega)
 have hm:cQ (cY m).aa:=by rw[rU];exact h.aN.sm
 unfold iy;simp only[d1,d2,d3,d4,d5,d6,d7,Ql,Qa,etas,dx h.aN,decide_true,Qo];refine PT h (λi e he hd hx hw hi=> ?_) (λhd=> ?_)
 ·obtain⟨g1,g2,g3,g4⟩:=h.hv e he;simp only[hd,hx,hw,Qk,Qa,aR,ke g2.sm,g1,Qo,Ql,Qg g3,Qh g4];rcases hi with rfl|⟨hi,x,hx2,hn⟩
  ·rfl
  ·rw[hi,hx2];simp only[Qk,Qa,hn,Ql]
 ·simp only[hd,Ql];congr 1;simp only[df,zn,vn,gJ,Qa,AD,ke hm]
  cases hz:aP m.af with
  |true=>
   have h0:P0 m:=by
    rcases h.body with k|k|k|k
    ·exact k
    ·rw[k.aT.nz]at hz;cases hz
    ·rw[k.aT.nz]at hz;cases hz
    ·rw[k.aT.nz]at hz;cases hz
   simp only[h0.ba,hs.zero hz,h0.dK,h0.bY,h0.eB,h0.low,h0.cn,bV,decide_true,Qk,Qa]
  |false=>
   have hv:=Lm h hs hz;simp only[hv,Ql,Qo];rcases h.body with k|k|k|k
   ·rw[k.aT,bV]at hz;cases hz
   ·simp only[k.ba,k.cn,decide_true,Qo,Ql,Qa,Qp,Qk,show decide ((1:Int)=3)=false from rfl,show decide ((1:Int)=2)=false from rfl]
    rcases k.eB with e|⟨hf,hp⟩
    ·rw[e,bV];rfl
    ·rw[hf.nz,hf.valid,Qh (show¬1000<m.ax.ai by have:=hf.2.1;omega),hp];rfl
   ·simp only[k.ba,k.bY,bV,show decide ((2:Int)=1)=false from rfl,show decide ((2:Int)=3)=false from rfl,decide_true,Qo,Ql,Qa,Qp,Qk]
    rcases k.eB with e|⟨hf,hp⟩
    ·rw[e,bV];rfl
    ·rw[hf.nz,hf.valid,Qh (show¬1000<m.ax.ai by have:=hf.2.1;omega),jG.2 hp];rfl
   ·simp only[k.ba,k.bY,k.dK,k.eB,bV,show decide ((3:Int)=1)=false from rfl,show decide ((3:Int)=2)=false from rfl,decide_true,Qo,Ql,Qa,Qp,Qk]
end
section
def El(x:ae):(dq x).al=x.al/\(dq x).aL=x.aL/\(dq x).aa=x.aa/\(dq x).bj=x.bj/\(dq x).au=x.au/\(dq x).af=x.af:=by unfold dq;split<;>exact⟨rfl,rfl,rfl,rfl,rfl,rfl⟩
def adz{x:ae}(hx:bs x):(dq x).aH=x.aH\/(x.aH=0/\(dq x).aH=1):=by
 have:=hx.seq;unfold dq;split
 ·show bF x.aH 1=x.aH\/(x.aH=0/\bF x.aH 1=1);unfold bF;split<;>omega
 ·exact .inl rfl
def Em{m m':ae}(he:je m m')(h:¬m'=m):Fl m m'=false:=by
 cases hs:Fl m m' with
 |false=>rfl
 |true=>exact absurd (acY he hs) h
def acF{R:ae->Prop}(hR1:∀m,bs m->R m->R (dh m))(hR2:∀m,R m->R (dq m)){m:ae}(h:bs m)(hs:fM m)(hr:R m):Yd (vI m) (IL R m):=by
 unfold vI;simp only[etas,xl h hs,Qa,Qo,Ql];refine Yd.down (λs=>bs s.1/\R s.1/\je m s.1/\(aP m.af=false->aP s.1.af=false)) (λs=>K1+K2 - kE s.1) ?_ ⟨h,hr,je.refl m,id⟩
 rintro⟨x,z,_⟩ ⟨hx,hrx,hex,hzx⟩;simp only at hx hrx hex hzx;simp only[aR,ZR hx.ev,Qa,ahy]
 have hgo:∀{y:ae},y=dh x->¬y=x->(bs y/\R y/\je m y/\(aP m.af=false->aP y.af=false))/\K1+K2 - kE y<K1+K2 - kE x:=by rintro y rfl hne;have hv:=Th x;have hup:=(Vd hx).resolve_left hne;have h1:=Yn (Fi hx);exact⟨⟨Fi hx,hR1 _ hx hrx,⟨hv.aF.trans hex.aF,hv.aK.trans hex.aK,hv.seq.trans hex.seq,hv.aN.trans hex.aN,hv.ub.trans hex.ub,hv.heard.trans hex.heard⟩,λhz=>M9 hx (hzx hz)⟩,by omega⟩
 by_cases hP:di x=x
 ·simp only[hP,zU,Qk,X5 hx.ev,Qa]
  by_cases hS:gB x=x
  ·simp only[hS,zU,Qk,X7 hx.ev,Qa]
   by_cases hC:fX x=x
   ·simp only[hC,zU,Qk,agD hx.ev,Qa]
    by_cases hF:jf x=x
    ·simp only[hF,zU,Qk,aea hx.ev,Qa];have e:dh x=fS x:=by unfold dh;rw[Qr hP,Qr hS,Qr hC,Qr hF]
     by_cases hK:fS x=x
     ·simp only[hK,zU,Qk,df,Qa]
      have hnum:(bif !aP x.af then Option.map inr (some (⟨x.al,x.aL,bF x.aH (1:Int),x.aa,x.aQ,x.af,x.ao,x.aD,x.ax,x.aZ,x.bq,x.bj,x.au⟩:ae))else Option.map (inr (α:=ae×ae×Unit)) (some x))=some (inr (dq x)):=by unfold dq;cases aP x.af<;>rfl
      rw[hnum];obtain⟨e1,e2,e3,e4,e5,e6⟩:=El x;refine .some ⟨wc hx,Lq λhz=> ?_,⟨e1.trans hex.aF,e2.trans hex.aK,e3.trans hex.aN,e4.trans hex.ub,e5.trans hex.heard⟩,?_,λhz=>by rw[e6];exact hzx hz,hR2 _ hrx,adA hx ⟨hP,hS,hC,hF,hK⟩⟩
      ·rw[hex.seq];refine hs.zero ?_
       cases hzz:aP m.af with
       |true=>rfl
       |false=>rw[hzx hzz]at hz;cases hz
      ·have:=adz hx;rw[hex.seq]at this;exact this
     ·simp only[Em (Cs x) hK,Ql];exact .some (hgo e.symm hK)
    ·simp only[Em (zy x) hF,Ql];have e:dh x=jf x:=by unfold dh;rw[Qr hP,Qr hS,Qr hC,Qs hF]
     exact .some (hgo e.symm hF)
   ·simp only[Em (zz x) hC,Ql];have e:dh x=fX x:=by unfold dh;rw[Qr hP,Qr hS,Qs hC]
    exact .some (hgo e.symm hC)
  ·simp only[Em (zx x) hS,Ql];have e:dh x=gB x:=by unfold dh;rw[Qr hP,Qs hS]
   exact .some (hgo e.symm hS)
 ·simp only[Em (Cr x) hP,Ql];have e:dh x=di x:=by unfold dh;rw[Qs hP]
  exact .some (hgo e.symm hP)
open Classical in
 def ux(m m2:ae):ae:=if aP m.af=false/\{cY m with aH:=0}≠{cY m2 with aH:=0}then{m2 with aH:=dt (m2.aH+1) 1000000}else m2
def Oa(m m2:ae):∃s,ux m m2={m2 with aH:=s}/\(s=m2.aH\/s=dt (m2.aH+1) 1000000):=by
 unfold ux;split
 ·exact⟨_,rfl,.inr rfl⟩
 ·exact⟨m2.aH,rfl,.inl rfl⟩
def X9{m m2:ae}(h:bs m2):∃s,ux m m2={m2 with aH:=s}/\m2.aH<=s/\0<=s/\s<=1000000:=by
 obtain⟨s,h1,h2⟩:=Oa m m2;have:=h.seq;refine⟨s,h1,?_⟩;rcases h2 with rfl|rfl
 ·omega
 ·unfold dt;split<;>omega
def aed{m m2:ae}(h:bs m2):bs (ux m m2):=by obtain⟨s,h1,h2⟩:=X9 (m:=m) h;rw[h1];exact Sz h h2.2
def agX{m m2:ae}(h:bs m2)(hs:fM m2)(hnz:aP m.af=false->aP m2.af=false):fM (ux m m2):=by
 unfold ux;split
 ·rename_i hc;have:=hs.pos (hnz hc.1);refine⟨λhz=> ?_,λ_=> ?_⟩
  ·rw[show({m2 with aH:=dt (m2.aH+1) 1000000}:ae).af=m2.af from rfl,hnz hc.1]at hz
   cases hz
  ·show 1<=dt (m2.aH+1) 1000000;unfold dt;split<;>omega
 ·exact hs
def Hi(R:ae->Prop)(m m1:ae)(q:ae×Int×Unit):Prop:=∃m2,q=(ux m m2,(0:Int),())/\IL R (dq m1) m2
def ag2{R:ae->Prop}{m1 m2:ae}(h1:bs m1)(h:IL R m1 m2):IL R (dq m1) m2:=by
 obtain⟨e1,e2,e3,e4,e5,e6⟩:=El m1;refine⟨h.inv,h.seq,?_,?_,λhz=>h.nz (by rw[e6]at hz;exact hz),h.rel,h.fix⟩
 ·obtain⟨a1,a2,a3,a4,a5⟩:=h.env;exact⟨a1.trans e1.symm,a2.trans e2.symm,a3.trans e3.symm,a4.trans e4.symm,a5.trans e5.symm⟩
 ·have hn:=h.num;have hq:=h1.seq
  cases hz:aP m1.af with
  |true=>
   have:dq m1=m1:=Qs (by rw[hz];decide)
   rw[this];exact hn
  |false=>
   have h3:=h.seq.pos (h.nz hz);have:(dq m1).aH=bF m1.aH 1:=by unfold dq;rw[Qr hz]
   rw[this];left;unfold bF;split<;>omega
def agG{m:ae}(h:bs m):cQ ({cY m with aH:=0}:ak).aa:=by rw[show({cY m with aH:=0}:ak).aa=(cY m).aa from rfl,rU];exact h.aN.sm
def Dx{R:ae->Prop}(hR1:∀m,bs m->R m->R (dh m))(hR2:∀m,R m->R (dq m)){m m1:ae}(h:bs m)(h1:bs m1)(hz1:aP m1.af=true->m1.aH=0)(hnz:aP m.af=false->aP m1.af=false)(hr:R m1):
  Yd (ig m (dq m1)) λq=>∃m2,q=ux m m2/\IL R (dq m1) m2:=by
 unfold ig;simp only[etas];refine Yd.bind (acF hR1 hR2 (wc h1) (Lq hz1) (hR2 _ hr)) λm2 ha=> ?_
 have hq:=ha.inv.seq;obtain⟨r,g1,g2⟩:=akG (a:={cY m with aH:=0}) (b:={cY m2 with aH:=0}) (agG h)
 have hadd:aB .i64 m2.aH 1=m2.aH+1:=bG (by omega) (by omega)
 simp only[df,Qa,AD,aR,g1,hadd]
 cases hz2:aP m2.af with
 |true=>
  have hz:aP m.af=true:=by
   cases hc:aP m.af with
   |true=>rfl
   |false=>rw[ha.nz (by rw[(El m1).2.2.2.2.2];exact hnz hc)]at hz2;cases hz2
  refine .some ⟨m2,?_,ha⟩;unfold ux;rw[Qs (by rw[hz];rintro⟨e,_⟩;cases e)]
 |false=>
  refine Yd.of_eq (x:=ux m m2) ?_ ⟨m2,rfl,ha⟩;unfold ux
  cases hz:aP m.af with
  |true=>rw[Qs (by rintro⟨e,_⟩;cases e)];rfl
  |false=>
   cases r with
   |true=>rw[Qs (λe=>e.2 (g2.1 rfl))];rfl
   |false=>rw[Qr ⟨rfl,λe=>by have:=g2.2 e;cases this⟩];rfl
def ahx(a b:ak)(h:cQ a.aa)(hn:a.al=b.al)(hs:a.aL=b.aL):∃r,mY a b=some r/\(r=true↔{a with aH:=0}={b with aH:=0}):=by
 obtain⟨r,h1,h2⟩:=eqT (a:=a.aa) (b:=b.aa) h;refine⟨r&&decide (a.bu=b.bu)&&decide (a.af=b.af)&&decide (a.ao=b.ao)&&decide (a.aD=b.aD)&&decide (a.aZ=b.aZ)&&decide (a.bq=b.bq),?_,?_⟩
 ·unfold mY;simp only[etas,h1,Qa,Y5,YX,<-Bool.decide_and,<-Rr,Qa]
 ·rw[YY];simp only[Qm,Qi,hn,hs,h2,true_and];simp only[and_assoc]
def EN{m:ae}(h:bs m):ln m=some m:=by
 unfold ln;simp only[etas,jm h.aN.sm,Qa];rw[XA (λe he=>(h.hv e he).2.1.sm) (by have:=h.len;omega)]
 rfl
def Tx{l:List ak}{e:ak}(hv:bc e=true):
  (∃x∈l,x.al=e.al/\e.aH<=x.aH/\s9 l e=(l,false,()))\/
  (∃a b,((∃x,l=a++x::b/\x.al=e.al/\x.aH<e.aH)\/(l=a++b/\(∀x∈l,x.al≠e.al)/\(∀x∈a,¬e.al<x.al)/\(∀x,b.head?=some x->e.al<x.al)))/\s9 l e=(a++e::b,true,())):=by
 unfold s9;rw[Qr hv]
 cases hf:l.findIdx? (λx=>decide (x.al=e.al))with
 |some i=>
  obtain⟨hi,h2,_⟩:=List.findIdx?_eq_some_iff_getElem.1 hf;have hx:l[i]?=some l[i]:=Qv hi;have h2:=of_decide_eq_true h2;simp only[hx,Q3]
  by_cases hle:e.aH<=l[i].aH
  ·left;rw[Qr hle];exact⟨l[i],Q0 hi,h2,hle,rfl⟩
  ·right;rw[Qs hle];refine⟨l.take i,l.drop (i+1),.inl ⟨l[i],?_,h2,by omega⟩,?_⟩
   ·rw[List.getElem_cons_drop];exact(List.take_append_drop i l).symm
   ·rw[List.set_eq_take_append_cons_drop,Qr hi]
 |none=>
  right
  have hne:∀x∈l,x.al≠e.al:=λx hx he=>by have:=List.findIdx?_eq_none_iff.1 hf x hx;rw[he]at this;simp at this
  refine⟨l.take (I8 l e),l.drop (I8 l e),.inr ⟨(List.take_append_drop _ l).symm,hne,?_,?_⟩,by rw[QL];rfl⟩
  ·intro x hx hlt;obtain⟨j,hj,rfl⟩:=List.getElem_of_mem hx;rw[List.getElem_take]at hlt;rw[List.length_take]at hj;unfold I8 at hj
   cases hg:l.findIdx? (λx=>decide (e.al<x.al))with
   |none=>
    have:=List.findIdx?_eq_none_iff.1 hg _ (Q0 (show j<l.length by omega))
    simp[hlt]at this
   |some k=>
    obtain⟨_,_,h3⟩:=List.findIdx?_eq_some_iff_getElem.1 hg;rw[hg,Q3]at hj;have:=h3 j (by omega)
    simp[hlt]at this
  ·intro x hx;rw[List.head?_drop]at hx;unfold I8 at hx
   cases hg:l.findIdx? (λx=>decide (e.al<x.al))with
   |none=>rw[hg,Option.getD_none,Qq72 (QI _)]at hx;cases hx
   |some k=>obtain⟨hk,h2,_⟩:=List.findIdx?_eq_some_iff_getElem.1 hg;rw[hg,Q3,Qv hk]at hx;obtain rfl:=Option.some.inj hx;exact of_decide_eq_true h2
def afN{l:List ak}{e:ak}{y:ak}(hy:y∈(s9 l e).1):y=e\/y∈l:=by
 by_cases hv:bc e=true
 ·rcases Tx (l:=l) hv with⟨x,_,_,_,h⟩|⟨a,b,h1,h⟩
  ·rw[h]at hy;exact .inr hy
  ·rw[h]at hy;rcases Qz.1 hy with hy|hy
   ·rcases h1 with⟨x,rfl,_⟩|⟨rfl,_⟩
    ·exact .inr (List.mem_append_left _ hy)
    ·exact .inr (List.mem_append_left _ hy)
   ·rcases QA.1 hy with hy|hy
    ·exact .inl hy
    ·rcases h1 with⟨x,rfl,_⟩|⟨rfl,_⟩
     ·exact .inr (List.mem_append_right _ (Qy _ hy))
     ·exact .inr (List.mem_append_right _ hy)
 ·unfold s9 at hy;rw[Qs hv]at hy;exact .inr hy
def ZO{l:List ak}{e:ak}(hl:l.Pairwise (λa b=>a.al<b.al)):(s9 l e).1.Pairwise (λa b=>a.al<b.al):=by
 by_cases hv:bc e=true
 ·rcases Tx (l:=l) hv with⟨x,_,_,_,h⟩|⟨a,b,h1,h⟩
  ·rw[h];exact hl
  ·rw[h];show(a++e::b).Pairwise _;rcases h1 with⟨x,rfl,hn,_⟩|⟨rfl,hne,ha,hb⟩
   ·rw[Qq69,Q4]at hl ⊢;obtain⟨g1,⟨g2,g3⟩,g4⟩:=hl;refine⟨g1,⟨λy hy=> ?_,g3⟩,λy hy z hz=> ?_⟩
    ·rw[<-hn];exact g2 y hy
    ·rcases QA.1 hz with rfl|hz
     ·rw[<-hn];exact g4 y hy x Qx
     ·exact g4 y hy z (Qy _ hz)
   ·rw[Qq69]at hl;rw[Qq69,Q4];obtain⟨g1,g3,g4⟩:=hl
    have hbe:∀y∈b,e.al<y.al:=by
     intro y hy
     cases b with
     |nil=>cases hy
     |cons z b=>
      have:=hb z rfl;rcases QA.1 hy with rfl|hy
      ·exact this
      ·have:=(Q4.1 g3).1 y hy;omega
    refine⟨g1,⟨hbe,g3⟩,λy hy z hz=> ?_⟩
    rcases QA.1 hz with rfl|hz
    ·have h2:=ha y hy;have h3:=hne y (List.mem_append_left _ hy);omega
    ·exact g4 y hy z hz
 ·unfold s9;rw[Qs hv];exact hl
structure AJ (m:ae) (e:ak):Prop where
 valid:bc e=true
 aN:c5 e.aa
 aK:e.aL=m.aL
 aF:e.al≠m.al
 def B8(m:ae)(e:ak):ae:={m with au:=(s9 m.au e).1}
def Ii{m:ae}(h:bs m){e:ak}(he:AJ m e):bs (B8 m e):=by
 refine⟨h.n0,h.n1,h.aK,h.seq,h.aN,h.ub,λy hy=> ?_,ZO h.dn,?_⟩
 ·rcases afN hy with rfl|hy
  ·exact⟨he.valid,he.aN,he.aK,he.aF⟩
  ·exact h.hv y hy
 ·rcases h.body with k|k|k|k
  ·exact .inl ⟨k.ba,k.aT,k.dK,k.bY,k.eB,k.low,k.cn⟩
  ·exact .inr (.inl ⟨k.ba,k.aT,k.dK,k.bY,k.eB,k.up,k.cn,k.low⟩)
  ·exact .inr (.inr (.inl ⟨k.ba,k.aT,k.dK,k.bY,k.eB,k.range⟩))
  ·exact .inr (.inr (.inr ⟨k.ba,k.aT,k.dK,k.bY,k.eB,k.range⟩))
def Cd(m:ae)(t:aj):ae:={m with aa:=t}
def NY{m:ae}(h:bs m){t:aj}(ht:c5 t):bs (Cd m t):=by
 refine⟨h.n0,h.n1,h.aK,h.seq,ht,h.ub,h.hv,h.dn,?_⟩;rcases h.body with k|k|k|k
 ·exact .inl ⟨k.ba,k.aT,k.dK,k.bY,k.eB,k.low,k.cn⟩
 ·exact .inr (.inl ⟨k.ba,k.aT,k.dK,k.bY,k.eB,k.up,k.cn,k.low⟩)
 ·exact .inr (.inr (.inl ⟨k.ba,k.aT,k.dK,k.bY,k.eB,k.range⟩))
 ·exact .inr (.inr (.inr ⟨k.ba,k.aT,k.dK,k.bY,k.eB,k.range⟩))
def gA(m:ae)(v:ByteArray):ae:=if aP m.af=true then{m with bj:=v,af:=⟨1,eo {m with bj:=v}⟩}else{m with bj:=v}
def afr{v:ByteArray}(h:1<=v.size):v≠gw:=by rintro rfl;exact absurd h (by decide)
def U5{m:ae}(h:P0 m){v:ByteArray}(hv:1<=v.size):eo {m with bj:=v}=v:=by unfold eo;rw[Qs (by rw[show({m with bj:=v}:ae).ax=m.ax from rfl,h.eB,bV];decide),Qs (by rw[show({m with bj:=v}:ae).aQ=m.aQ from rfl,h.ba];decide),Qr (afr hv)]
def HM{m:ae}(h:bs m){v:ByteArray}(hv:1<=v.size/\v.size<=200):bs (gA m v):=by
 unfold gA;rcases h.body with k|k|k|k
 ·rw[Qr (by rw[k.aT];exact bV),U5 k hv.1]
  refine⟨h.n0,h.n1,h.aK,h.seq,h.aN,hv.2,h.hv,h.dn,.inr (.inl ⟨k.ba,⟨by show(1:Int)<=1;omega,by show(1:Int)<=1000;omega,hv.1,hv.2⟩,.inl k.dK,.inl k.bY,.inl k.eB,?_,k.cn,.inl k.low⟩)⟩
  show bC _ m.ax=false;rw[k.eB]
  cases hl:bC (⟨1,v⟩:ah) cg with
  |false=>rfl
  |true=>have:=jc hl;exact absurd (show(1:Int)<=0 from this) (by decide)
 ·rw[Qs (by rw[k.aT.nz];decide)]
  exact⟨h.n0,h.n1,h.aK,h.seq,h.aN,hv.2,h.hv,h.dn,.inr (.inl ⟨k.ba,k.aT,k.dK,k.bY,k.eB,k.up,k.cn,k.low⟩)⟩
 ·rw[Qs (by rw[k.aT.nz];decide)]
  exact⟨h.n0,h.n1,h.aK,h.seq,h.aN,hv.2,h.hv,h.dn,.inr (.inr (.inl ⟨k.ba,k.aT,k.dK,k.bY,k.eB,k.range⟩))⟩
 ·rw[Qs (by rw[k.aT.nz];decide)]
  exact⟨h.n0,h.n1,h.aK,h.seq,h.aN,hv.2,h.hv,h.dn,.inr (.inr (.inr ⟨k.ba,k.aT,k.dK,k.bY,k.eB,k.range⟩))⟩
def qN(m:ae):ae:={m with aZ:=if eo m=m.af.Value then m.aZ else 0,af:=⟨m.af.ai+1,eo m⟩}
def acQ{m:ae}(h:bs m)(h3:m.aQ≠3)(hv:eo m≠gw):1<=(eo m).size/\(eo m).size<=200:=by
 have h1:m.aQ=1->(m.ax=cg\/du m.ax)->1<=(eo m).size/\(eo m).size<=200:=λhp hc=>by
  refine Yh h hp hc ?_;refine Classical.byContradiction λhn=>hv ?_
  simp only[not_or,Classical.not_not]at hn;obtain⟨a1,a2,a3⟩:=hn;unfold eo;rw[Qs (by rw[a3,bV];decide),Qs (by rw[hp];decide),Qs (by rw[a2];exact λe=>e rfl),a1]
  rfl
 rcases h.body with k|k|k|k
 ·exact h1 k.ba (.inl k.eB)
 ·exact h1 k.ba (k.eB.imp_right And.left)
 ·unfold eo;rcases k.eB with e|⟨hf,_⟩
  ·rw[Qs (by rw[e,bV];decide),Qr (by rw[k.ba];decide)]
   exact k.aT.2.2
  ·rw[Qr hf.nz];exact hf.2.2
 ·exact absurd k.ba h3
def aiX{m:ae}(k:P2 m):eo m=m.af.Value:=by
 unfold eo;rcases k.eB with e|⟨hf,he⟩
 ·rw[Qs (by rw[e,bV];decide),Qr (by rw[k.ba];decide)]
 ·rw[Qr hf.nz,he]
def Vb{m:ae}(h:bs m)(h3:m.aQ≠3)(hv:eo m≠gw)(hc:m.af.ai<1000):bs (qN m):=by
 have hsz:=acQ h h3 hv;refine⟨h.n0,h.n1,h.aK,h.seq,h.aN,h.ub,h.hv,h.dn,?_⟩;have hfin:0<=m.af.ai->du (qN m).af:=λh0=>⟨by show 1<=m.af.ai+1;omega,by show m.af.ai+1<=1000;omega,hsz⟩
 rcases h.body with k|k|k|k
 ·have h0:m.af.ai=0:=by rw[k.aT];rfl
  refine .inr (.inl ⟨k.ba,hfin (by omega),.inl k.dK,.inl k.bY,.inl k.eB,?_,k.cn,.inl ?_⟩)
  ·show bC (⟨m.af.ai+1,eo m⟩:ah) m.ax=false;rw[k.eB]
   cases hl:bC (⟨m.af.ai+1,eo m⟩:ah) cg with
   |false=>rfl
   |true=>have:=jc hl;exact absurd (show m.af.ai+1<=0 from this) (by omega)
  ·show(if eo m=m.af.Value then m.aZ else 0)=0
   rw[k.low,ite_self]
 ·have hb:=k.aT;have h0:0<=m.af.ai:=by have:=hb.1;omega
  refine .inr (.inl ⟨k.ba,hfin h0,k.dK,k.bY,k.eB,?_,k.cn,?_⟩)
  ·show bC (⟨m.af.ai+1,eo m⟩:ah) m.ax=false
   cases hl:bC (⟨m.af.ai+1,eo m⟩:ah) m.ax with
   |false=>rfl
   |true=>have h1:=jc hl;have h2:=Np k.up;exact absurd (show m.af.ai+1<=m.ax.ai from h1) (by omega)
  ·show(if eo m=m.af.Value then m.aZ else 0)=0\/_
   by_cases he:eo m=m.af.Value
   ·have hlow:(qN m).aZ=m.aZ:=by show(if eo m=m.af.Value then m.aZ else 0)=m.aZ;rw[Qr he]
    have hhigh:fE (qN m)=fE m:=by
     show(if(!aP m.ax&&bS m.ax ⟨m.af.ai+1,eo m⟩)=true then m.ax.ai else 0)=fE m
     rw[he];rfl
    rw[Qr he,hlow,hhigh];rcases k.low with e|⟨g1,g2,g3⟩
    ·exact .inl e
    ·refine .inr ⟨g1,g2,?_⟩;show o0 m.ao m.aD (eo m) m.aZ=false;rw[he];exact g3
   ·rw[Qs he];exact .inl rfl
 ·have hb:=k.aT;have h0:0<=m.af.ai:=by have:=hb.1;omega
  have hv2:=aiX k;have hval:(qN m).af.Value=m.af.Value:=hv2;have hlow:(qN m).aZ=m.aZ:=by show(if eo m=m.af.Value then m.aZ else 0)=m.aZ;rw[Qr hv2]
  refine .inr (.inr (.inl ⟨k.ba,hfin h0,?_,k.bY,?_,?_⟩))
  ·rw[hval];exact k.dK
  ·rw[hval];exact k.eB
  ·rw[hlow];exact k.range
 ·exact absurd k.ba h3
end
section
def aiW:aj:=⟨0,[],[]⟩
def K4:ae:=⟨0,0,0,aiW,0,cg,cg,cg,cg,0,0,gw,[]⟩
def VM{m m1:ae}(hs:fM m)(hb:aP m1.af=aP m.af)(hq:m1.aH=m.aH):dq m1=m1:=by
 refine af6 ⟨λhz=> ?_,λhz=> ?_⟩
 ·rw[hq];exact hs.zero (by rw[<-hb];exact hz)
 ·rw[hq];exact hs.pos (by rw[<-hb];exact hz)
def nZ{m:ae}{v:ByteArray}:(aP m.af=false->aP (gA m v).af=false)/\(gA m v).aH=m.aH:=by
 unfold gA;split
 ·rename_i hz;refine⟨λe=> ?_,rfl⟩
  rw[hz]at e;cases e
 ·exact⟨λe=>e,rfl⟩
def ado{m:ae}(h:bs m){v:ByteArray}(hv:1<=v.size/\v.size<=200):aP (gA m v).af=false:=by
 rcases h.body with k|k|k|k
 ·unfold gA;rw[Qr (by rw[k.aT];exact bV),U5 k hv.1]
  exact du.nz ⟨by show(1:Int)<=1;omega,by show(1:Int)<=1000;omega,hv.1,hv.2⟩
 ·exact nZ.1 k.aT.nz
 ·exact nZ.1 k.aT.nz
 ·exact nZ.1 k.aT.nz
def K7{m:ae}(h:bs m):aP (qN m).af=false:=by
 have:0<=m.af.ai:=by
  rcases h.body with k|k|k|k
  ·rw[k.aT];decide
  ·have:=k.aT.1;omega
  ·have:=k.aT.1;omega
  ·have:=k.aT.1;omega
 cases hz:aP (qN m).af with
 |false=>rfl
 |true=>have:=zt.1 hz;have h2:m.af.ai+1=0:=congrArg ah.ai this;omega
section
variable {R : ae -> Prop} (hR1 : ∀ m, bs m -> R m -> R (dh m)) (hR2 : ∀ m, R m -> R (dq m)) {m : ae} (h : bs m) (hs : fM m)
 include hR1 hR2 h hs
theorem Nh{v:ByteArray}(hv:1<=v.size/\v.size<=200)(hr:R (gA m v)):Yd (kq m v) (Hi R m (gA m v)):=by
 have d1:decide (((ByteArray.size v:Nat):Int)<(1:Int))=false:=Qh (by omega)
 have d2:decide ((200:Int)<((ByteArray.size v:Nat):Int))=false:=Qh (by omega)
 have hi:=HM h hv;have hval:oL {m with bj:=v}=some (eo {m with bj:=v}):=RJ (m:={m with bj:=v}) ⟨h.ev.n0,h.ev.n1,h.ev.aN,h.ev.len,h.ev.sm,h.ev.valid⟩
 unfold kq;simp only[etas,xl h hs,Qa,Qo,Ql,d1,d2,df,aR]
 have key:Yd ((ig m (dq (gA m v))).bind λr5=>some (r5,(0:Int),())) (Hi R m (gA m v)):=
  Yd.bind (Dx hR1 hR2 h hi (λhz=>by rw[nZ.2];exact hs.zero (by cases hc:aP m.af with|true=>rfl|false=>rw[nZ.1 hc]at hz;cases hz)) nZ.1 hr) λq hq=>by obtain⟨m2,rfl,ha⟩:=hq;exact .some ⟨m2,rfl,ha⟩
 cases hz:aP m.af with
 |true=>
  have hsq:=hs.zero hz
  have he:dq (gA m v)=⟨m.al,m.aL,1,m.aa,m.aQ,⟨1,eo {m with bj:=v}⟩,m.ao,m.aD,m.ax,m.aZ,m.bq,v,m.au⟩:=by unfold dq;rw[Qr (ado h hv),nZ.2,hsq];unfold gA;rw[Qr hz];rfl
  rw[he]at key;simp only[Qk];rw[show(⟨m.al,m.aL,m.aH,m.aa,m.aQ,m.af,m.ao,m.aD,m.ax,m.aZ,m.bq,v,m.au⟩:ae)={m with bj:=v}from rfl,hval]
  exact key
 |false=>
  have he:dq (gA m v)=⟨m.al,m.aL,m.aH,m.aa,m.aQ,m.af,m.ao,m.aD,m.ax,m.aZ,m.bq,v,m.au⟩:=by
   rw[VM hs (by rw[nZ.1 hz,hz]) nZ.2]
   unfold gA;rw[Qs (by rw[hz];decide)]
  rw[he]at key;exact key
theorem Vt{e:ak}(he:AJ m e)(hr:R (B8 m e)):Yd (kp m e) λq=>(Hi R m (B8 m e) q/\(s9 m.au e).2.1=true)\/(q=(K4,(9:Int),())/\(s9 m.au e).2.1=false):=by
 have hi:=Ii h he;have hlen:=h.len;have hput:=afB (l:=m.au) (λx hx=>(h.hv x hx).2.1.sm) (by omega) (e:=e) he.aN.sm
 have hid:dq (B8 m e)=B8 m e:=VM hs rfl rfl;unfold kp;simp only[etas,xl h hs,Qa,Qo,Ql,ke he.aN.sm,he.valid,Qh he.aF,Qg he.aK,hput]
 cases hp:(s9 m.au e).2.1 with
 |false=>exact .some (.inr ⟨rfl,rfl⟩)
 |true=>
  have:=Dx hR1 hR2 h hi hs.zero (λe=>e) hr
  rw[hid]at this;refine Yd.bind this λq hq=> ?_
  obtain⟨m2,rfl,ha⟩:=hq;exact .some (.inl ⟨⟨m2,rfl,by rw[hid];exact ha⟩,rfl⟩)
theorem ada(hr:R (qN m)):Yd (si m) λq=>(Hi R m (qN m) q/\m.aQ≠3/\eo m≠gw/\m.af.ai<1000)\/(q=(K4,(62:Int),())/\(m.aQ=3\/eo m=gw))\/(q=(K4,(3:Int),())/\1000<=m.af.ai):=by
 unfold si;simp only[etas,xl h hs,Qa,Qo,Ql,RJ h.ev,aR]
 by_cases h3:m.aQ=3
 ·rw[Qg h3];exact .some (.inr (.inl ⟨rfl,.inl h3⟩))
 ·rw[Qh h3]
  by_cases hv:eo m=bE
  ·rw[Qg hv];exact .some (.inr (.inl ⟨rfl,.inr hv⟩))
  ·rw[Qh hv]
   by_cases hc:(1000:Int)<=m.af.ai
   ·rw[Qg hc];exact .some (.inr (.inr ⟨rfl,hc⟩))
   ·rw[Qh hc];have hi:=Vb h h3 hv (by omega)
    have hb0:0<=m.af.ai:=by
     rcases h.body with k|k|k|k
     ·rw[k.aT];decide
     ·have:=k.aT.1;omega
     ·have:=k.aT.1;omega
     ·have:=k.aT.1;omega
    have hadd:aB .i64 m.af.ai 1=m.af.ai+1:=bG (by omega) (by omega)
    have key:Yd ((ig m (dq (qN m))).bind λr5=>some (r5,(0:Int),())) (Hi R m (qN m)):=
     Yd.bind (Dx hR1 hR2 h hi (λhz=>by rw[K7 h]at hz;cases hz) (λ_=>K7 h) hr) λq hq=>by obtain⟨m2,rfl,ha⟩:=hq;exact .some ⟨m2,rfl,ha⟩
    have he:dq (qN m)=⟨m.al,m.aL,bF m.aH 1,m.aa,m.aQ,⟨m.af.ai+1,eo m⟩,m.ao,m.aD,m.ax,(if eo m=m.af.Value then m.aZ else 0),m.bq,m.bj,m.au⟩:=by unfold dq;rw[Qr (K7 h)];rfl
    rw[he]at key;simp only[hadd,Ql]
    by_cases hev:eo m=m.af.Value
    ·simp only[Qg hev,Qo,Ql];rw[Qr hev]at key;exact key.mono λq hq=> .inl ⟨hq,h3,hv,by omega⟩
    ·simp only[Qh hev,Qp,Qk];rw[Qs hev]at key;exact key.mono λq hq=> .inl ⟨hq,h3,hv,by omega⟩
theorem Vv{t:aj}(ht:c5 t)(hr:R (Cd m t)):Yd (oh m t) (Hi R m (Cd m t)):=by
 have hi:=NY h ht;have hid:dq (Cd m t)=Cd m t:=VM hs rfl rfl;unfold oh;simp only[etas,xl h hs,Qa,Qo,Ql,dx ht,decide_true];have:=Dx hR1 hR2 h hi hs.zero (λe=>e) hr
 rw[hid]at this;refine Yd.bind this λq hq=> ?_
 obtain⟨m2,rfl,ha⟩:=hq;exact .some ⟨m2,rfl,by rw[hid];exact ha⟩
end
def Nq(aF aK:Int)(t:aj):ae:=⟨aF,aK,0,t,1,cg,cg,cg,cg,0,0,gw,[]⟩
def adb{aF aK:Int}{t:aj}(h0:0<=aF)(h1:aF<10)(h2:1<=aK)(h3:aK<=1000000)(ht:c5 t):Ci aF aK t=some (Nq aF aK t,(0:Int),()):=by
 unfold Ci;simp only[etas,Qh (show¬aF<0 by omega),Qh (show¬(9:Int)<aF by omega),Qh (show¬aK<1 by omega),Qh (show¬(1000000:Int)<aK by omega),Ql,Qa,dx ht,decide_true,Qo]
 rfl
def akz{aF aK:Int}{t:aj}(h0:0<=aF)(h1:aF<10)(h2:1<=aK)(h3:aK<=1000000)(ht:c5 t):yK aF aK t=some (Nq aF aK t,(0:Int),()):=by
 unfold yK;simp only[etas,Qh (show¬aF<0 by omega),Qh (show¬(10:Int)<=aF by omega),Qh (show¬aK<1 by omega),Qh (show¬(1000000:Int)<aK by omega),Ql,Qa,de ht,decide_true,Qo,jm ht.sm]
 rfl
def R7{aF aK:Int}{t:aj}(h0:0<=aF)(h1:aF<10)(h2:1<=aK)(h3:aK<=1000000)(ht:c5 t):bs (Nq aF aK t)/\fM (Nq aF aK t):=
 ⟨⟨h0,h1,⟨h2,h3⟩,⟨by show(0:Int)<=0;omega,by show(0:Int)<=1000000;omega⟩,ht,(by show gw.size<=200;decide),(λe he=>absurd he QR),List.Pairwise.nil,.inl ⟨rfl,rfl,rfl,rfl,rfl,rfl,rfl⟩⟩,⟨λ_=>rfl,λhz=>absurd (show aP cg=false from hz) (by rw[bV];decide)⟩⟩
section
variable {R : ae -> Prop} (hR1 : ∀ m, bs m -> R m -> R (dh m)) (hR2 : ∀ m, R m -> R (dq m)) {m : ae} (h : bs m) (hs : fM m)
 include hR1 hR2 h hs
theorem N7{m1:ae}(h1:bs m1)(hz1:aP m1.af=true->m1.aH=0)(hnz:aP m.af=false->aP m1.af=false)(hn:m1.al=m.al)(hsl:m1.aL=m.aL)(hr:R m1):
  Yd (Option.bind (fI ⟨m1⟩) λp4=>
   aY (λ(v5:aM×Unit)=>some (v5.1.ab,(0:Int),())) λj6=>
   aY (λ(v7:Bool×Unit)=>
   bif v7.1 then
   j6 ((aM.mk (ae.mk p4.2.ab.al p4.2.ab.aL (dt (aB .i64 p4.2.ab.aH (1:Int)) (1000000:Int)) p4.2.ab.aa p4.2.ab.aQ p4.2.ab.af p4.2.ab.ao p4.2.ab.aD p4.2.ab.ax p4.2.ab.aZ p4.2.ab.bq p4.2.ab.bj p4.2.ab.au)),())
   else
   j6 (p4.2,())) λj8=>
   Option.bind (bx m.af) λr9=>
   bif (!r9)then
   Option.bind (dw m) λr10=>
   Option.bind (dw p4.2.ab) λr11=>
   Option.bind (mY r10 r11) λr12=>
   j8 ((!r12),())
   else
   j8 (false,())) (Hi R m m1):=by
 refine Yd.bind (acE hR1 hR2 h1 hz1 hr) λq hq=> ?_
 obtain⟨m2,rfl,ha⟩:=hq;have hq:=ha.inv.seq;have hadd:aB .i64 m2.aH 1=m2.aH+1:=bG (by omega) (by omega)
 obtain⟨r,g1,g2⟩:=ahx (cY m) (cY m2) (by rw[rU];exact h.aN.sm) (by rw[wB,wB,ha.env.1,hn]) (by rw[FF,FF,ha.env.2.1,hsl])
 simp only[aR,c6,Qa,Cu,GL h,GL ha.inv,hadd,g1];have hb:=ag2 h1 ha;refine Yd.of_eq (x:=(ux m m2,(0:Int),())) ?_ ⟨m2,rfl,hb⟩;unfold ux
 cases hz:aP m.af with
 |true=>rw[Qs (by rintro⟨e,_⟩;cases e)];rfl
 |false=>
  cases r with
  |true=>rw[Qs (λe=>e.2 (g2.1 rfl))];rfl
  |false=>rw[Qr ⟨rfl,λe=>by have:=g2.2 e;cases this⟩];rfl
theorem adv{v:ByteArray}(hv:1<=v.size/\v.size<=200)(hr:R (gA m v)):Yd (pf m v) (Hi R m (gA m v)):=by
 have d1:decide (((ByteArray.size v:Nat):Int)<(1:Int))=false:=Qh (by omega)
 have d2:decide ((200:Int)<((ByteArray.size v:Nat):Int))=false:=Qh (by omega)
 have hi:=HM h hv;have hval:iF ⟨{m with bj:=v}⟩=some (eo {m with bj:=v}):=Vz (m:={m with bj:=v}) ⟨h.ev.n0,h.ev.n1,h.ev.aN,h.ev.len,h.ev.sm,h.ev.valid⟩
 have hdo:qT ⟨m⟩ v=some ((0:Int),⟨gA m v⟩):=by
  unfold qT gA;simp only[d1,d2,Ql,Qa,c6,aR]
  cases hz:aP m.af with
  |true=>
   simp only[Qk,Qt,etas];rw[show(⟨m.al,m.aL,m.aH,m.aa,m.aQ,m.af,m.ao,m.aD,m.ax,m.aZ,m.bq,v,m.au⟩:ae)={m with bj:=v}from rfl,hval]
   rfl
  |false=>simp only[Ql,Qq,Qu,etas]
 unfold pf tN;simp only[etas,aM.eta,BO h hs,EN h,hdo,Qa,Qo,Ql,decide_true];refine Yd.bind (N7 hR1 hR2 h hs hi (λhz=>by rw[nZ.2];exact hs.zero (by cases hc:aP m.af with|true=>rfl|false=>rw[nZ.1 hc]at hz;cases hz)) nZ.1 (by unfold gA;split<;>rfl) (by unfold gA;split<;>rfl) hr) λq hq=> ?_
 obtain⟨m2,rfl,ha⟩:=hq;exact .some ⟨m2,rfl,ha⟩
theorem adu{e:ak}(he:AJ m e)(hr:R (B8 m e)):Yd (jY m e) λq=>(Hi R m (B8 m e) q/\(s9 m.au e).2.1=true)\/(q=(K4,(9:Int),())/\(s9 m.au e).2.1=false):=by
 have hi:=Ii h he;have hlen:=h.len;have hput:=aiK (l:=m.au) (λx hx=>(h.hv x hx).2.1.sm) (by omega) (e:=e) he.aN.sm
 have hdo:kC ⟨m⟩ e=some (bif (s9 m.au e).2.1 then((0:Int),⟨B8 m e⟩)else((9:Int),⟨m⟩)):=by unfold kC;simp only[etas,aR,sG he.aN.sm,he.valid,Qa,Qo,Ql,Qh he.aF,Qg he.aK,hput];cases (s9 m.au e).2.1<;>rfl
 unfold jY oA;simp only[etas,aM.eta,BO h hs,EN h,hdo,Qa,Qo,Ql]
 cases hp:(s9 m.au e).2.1 with
 |false=>exact .some (.inr ⟨rfl,rfl⟩)
 |true=>
  simp only[Qk,decide_true,Qo,Ql];refine Yd.bind (N7 hR1 hR2 h hs hi hs.zero (λe=>e) rfl rfl hr) λq hq=> ?_
  obtain⟨m2,rfl,ha⟩:=hq;exact .some (.inl ⟨⟨m2,rfl,ha⟩,trivial⟩)
end
def adw{m:ae}(h:bs m)(hs:fM m):∃e,sX m=some (e,!aP m.af,())/\(aP m.af=false->e=cY m):=by
 unfold sX;simp only[etas,c6,BO h hs,EN h,Cu,GL h,Qa]
 cases aP m.af with
 |true=>exact⟨_,rfl,λe=>by cases e⟩
 |false=>exact⟨_,rfl,λ_=>rfl⟩
def No{m:ae}(h:bs m)(hs:fM m):pj m=some (bif decide (m.aQ=3)then m.af.Value else gw,decide (m.aQ=3),()):=by unfold pj;simp only[etas,BO h hs,Qa];cases decide (m.aQ=3)<;>rfl
def afV{m:ae}(h:bs m)(hs:fM m){e:ak}(ht:cQ e.aa)(hbad:bc e=false\/e.al=m.al\/e.aL≠m.aL):jY m e=some (K4,(61:Int),()):=by
 have hdo:kC ⟨m⟩ e=some ((61:Int),⟨m⟩):=by
  unfold kC;simp only[etas,aR,sG ht,Qa]
  cases hv:bc e with
  |false=>rfl
  |true=>
   by_cases hn:e.al=m.al
   ·rw[Qg hn];rfl
   ·have hsl:e.aL≠m.aL:=(hbad.resolve_left (by rw[hv];decide)).resolve_left hn
    rw[Qh hn,Qh hsl];rfl
 unfold jY oA;simp only[etas,aM.eta,BO h hs,EN h,hdo,Qa,Qo,Ql];rfl
end
section
structure II (n:Nat) (k:Int) (m:ae):Prop where
 n10:n<=10
 k1:1<=k
 kn:k<=n
 aN:m.aa=flat n k
 heard:∀e∈m.au,e.aa=flat n k
section
variable {n : Nat} {k : Int} {m : ae} (h : bs m) (hf : II n k m)
 include h
 include hf
end
section
variable {l : List ak} (hv : ∀ e ∈ l, bc e = true) (hsm : ∀ e ∈ l, cQ e.aa) (hlen : l.length <= 1000)
 include hv hsm hlen
end
section
variable {n : Nat} {k : Int} {m : ae} (h : bs m) (hf : II n k m)
 include h hf
end
section
variable {n : Nat} {k : Int} {m : ae} (h : bs m) (hf : II n k m)
 include h hf
end
def II.step{n:Nat}{k:Int}{m m':ae}(hf:II n k m)(he:je m m'):II n k m':=⟨hf.n10,hf.k1,hf.kn,by rw[he.aN];exact hf.aN,by rw[he.heard];exact hf.heard⟩
structure aff (n:Nat) (k:Int) (m:ae):Prop where
 inv:bs m
 seq:fM m
 flat:II n k m
 nz:aP m.af=false
 aK:m.aL=1
def aff.env{n:Nat}{k:Int}{m:ae}(h:aff n k m):bc (cY m)=true/\(cY m).aa=Go.Proofs.YtofedieniojipaaGreat.flat n k/\(cY m).aL=1:=⟨Lm h.inv h.seq h.nz,by rw[rU];exact h.flat.aN,by rw[FF];exact h.aK⟩
end
section
section
variable {n : Nat} {k : Int}
end
end
section
section
variable {n : Nat} {k : Int} (hn : n <= 10) (hk1 : 1 <= k) (hkn : k <= n) {i : Int} (hi0 : 0 <= i) (hi9 : i < 10) {v : ByteArray} (hv : 1 <= v.size /\ v.size <= 200)
 include hn hk1 hkn hi0 hi9
 include hv
end
end
section
def A7(m m1:ae):Prop:=
 (∃v,(1<=v.size/\v.size<=200)/\m1=gA m v)\/(∃e,AJ m e/\m1=B8 m e)\/(m.aQ≠3/\eo m≠gw/\m.af.ai<1000/\m1=qN m)\/(∃t,c5 t/\m1=Cd m t)
structure ajT (m m1:ae):Prop where
 inv:bs m1
 aF:m1.al=m.al
 aK:m1.aL=m.aL
 seq:m1.aH=m.aH
 nz:aP m.af=false->aP m1.af=false
def aeg{m m1:ae}(h:bs m)(hb:A7 m m1):ajT m m1:=by
 rcases hb with⟨v,hv,rfl⟩|⟨e,he,rfl⟩|⟨h3,hv,hc,rfl⟩|⟨t,ht,rfl⟩
 ·exact⟨HM h hv,by unfold gA;split<;>rfl,by unfold gA;split<;>rfl,nZ.2,nZ.1⟩
 ·exact⟨Ii h he,rfl,rfl,rfl,λe=>e⟩
 ·exact⟨Vb h h3 hv hc,rfl,rfl,rfl,λ_=>K7 h⟩
 ·exact⟨NY h ht,rfl,rfl,rfl,λe=>e⟩
structure OkM (m:ae):Prop where
 inv:bs m
 seq:fM m
 fix:KZ m
 aF:m.al=0
 aK:m.aL=1
def Yr{m:ae}(h:bs m)(hs:fM m){e:ak}(ht:cQ e.aa)(hbad:bc e=false\/e.al=m.al\/e.aL≠m.aL):kp m e=some (K4,(61:Int),()):=by
 unfold kp;simp only[etas,xl h hs,Qa,Qo,Ql,ke ht]
 cases hv:bc e with
 |false=>rfl
 |true=>
  by_cases hn:e.al=m.al
  ·rw[Qg hn];rfl
  ·have hsl:e.aL≠m.aL:=(hbad.resolve_left (by rw[hv];decide)).resolve_left hn
   rw[Qh hn,Qh hsl];rfl
def Gu{v:ByteArray}(h:Rv v):1<=v.size/\v.size<=200:=by have:=h.size;omega
end
section
abbrev Lp{σ ρ:Type}(I:σ->Prop)(p:ρ->Prop):σ⊕ρ->Prop
 | .inl s=>I s
 | .inr r=>p r
def Yd.FG{σ ρ:Type}{step:σ->Option (σ⊕ρ)}{p:ρ->Prop}(inv:σ->Prop)(μ:σ->Nat)(h:∀s,inv s->Yd (step s) (Lp (λs'=>inv s'/\μ s'<μ s) p)){s:σ}(hs:inv s):Yd (aE step s) p:=
 Yd.down inv μ (λs hi=>(h s hi).mono λy hy=>by cases y<;>exact hy) hs
def Yd.list{α σ τ ρ:Type}{p:ρ->Prop}{step:τ->Option (τ⊕ρ)}(l:List α)(hl:l.length<=1000000)(mk:Int->σ->τ)(inv:Nat->σ->Prop)
  (h1:∀(i:Nat) (x:α) (s:σ),inv i s->l.drop i=x::l.drop (i+1)->x∈l->i<l.length->decide ((i:Int)<(l.length:Int))=true->idx l (i:Int)=some x->aB .i64 (i:Int) 1=((i+1:Nat):Int)->Yd (step (mk (i:Int) s)) (Lp (λt=>∃s',t=mk ((i+1:Nat):Int) s'/\inv (i+1) s') p))
  (h2:∀s,inv l.length s->decide ((l.length:Int)<(l.length:Int))=false->Yd (step (mk (l.length:Int) s)) (Lp (λ_=>False) p))
  {s:σ} (h0:inv 0 s):Yd (aE step (mk 0 s)) p:=by
 suffices key:∀(k i:Nat) (s:σ),i+k=l.length->inv i s->Yd (aE step (mk (i:Int) s)) p from key l.length 0 s (by omega) h0
 intro k
 induction k with
 |zero=>
  intro i s hi hs;obtain rfl:i=l.length:=by omega
  refine Yd.loop ((h2 s hs (Qh (Qq64 _))).mono λy hy=> ?_)
  cases y with
  |inl t=>exact hy.elim
  |inr r=>exact hy
 |succ k ih=>
  intro i s hi hs;have hi':i<l.length:=by omega
  refine Yd.loop ((h1 i l[i] s hs (QM hi') (Q0 hi') hi' (Qg (by omega)) (by rw[bd];exact Qv hi') (bG (by omega) (by omega))).mono λy hy=> ?_)
  cases y with
  |inl t=>grind
  |inr r=>exact hy
def kT(x:ByteArray):Prop:=1<=x.size/\x.size<=200
instance (x:ByteArray):Decidable (kT x):=by unfold kT;infer_instance
def acj:∀(x:ByteArray) (l:List ByteArray),Decidable (x∈l)
 |_,[]=>isFalse QR
 |x,y::l=>if h:x=y then isTrue (by rw[h];exact Qx)else match acj x l with
  |isTrue h2=>isTrue (Qy _ h2)
  |isFalse h2=>isFalse λe=>(QA.1 e).elim h h2
instance (x:ByteArray) (l:List ByteArray):Decidable (x∈l):=acj x l
structure VL (l:List ByteArray):Prop where
 sz:∀x∈l,kT x
 Hd:l.Pairwise (λa b=>bQ a b=true)
 len:l.length<=40
def VL.nil:VL []:=⟨λx h=>absurd h QR,List.Pairwise.nil,by simp⟩
def VL.wg{l:List ByteArray}(h:VL l):l.length<=1000000:=QK h.len (by omega)
def FK(a b:ByteArray):Int:=if a=b then 0 else if bQ a b=true then -1 else 1
theorem Bs(a b:ByteArray):iU a b=some (FK a b):=by grind [iU,FK,bQ,lI]
theorem FJ{a b:ByteArray}:decide (FK a b<0)=bQ a b:=by
 unfold FK
 by_cases h:a=b
 ·subst h;rw[Qr rfl,jA.irrefl];rfl
 ·rw[Qs h];cases bQ a b<;>rfl
theorem KJ{a b:ByteArray}:decide (0<FK a b)=bQ b a:=by
 unfold FK
 by_cases h:a=b
 ·subst h;rw[Qr rfl,jA.irrefl];rfl
 ·rw[Qs h]
  cases h1:bQ a b with
  |true=>rw[jA.asymm h1];rfl
  |false=>
   cases h2:bQ b a with
   |true=>rfl
   |false=>exact absurd (jA.total _ _ h1 h2) h
def aas{a b:ByteArray}:decide (0<=FK a b)= !bQ a b:=by
 rw[<-FJ (a:=a) (b:=b)]
 grind
def OI(x:ByteArray):uW x=some (decide (kT x)):=by grind [uW,kT]
def JM(l:List ByteArray)(hl:l.length<=1000000)(x:ByteArray):nr l x=some (decide (x∈l)):=by
 unfold nr
 have h:Yd (aE (λ(v1:Int×Unit)=>
   bif (decide (v1.1<((List.length l:Nat):Int)))then
   Option.bind (idx l v1.1) λx2=>
   bif (decide (x=x2))then
   Option.map inr (some true)
   else
   some (inl ((aB .i64 v1.1 (1:Int)),()))
   else
   Option.map inr (some false)) ((0:Int),())) (λb=>b=decide (x∈l)):=by
  refine Yd.list l hl (λi (_:Unit)=>(i,())) (λi _=>x∉l.take i) ?_ ?_ (s:=()) (by simp)
  ·intro i y s hs hd hy hi hdec hx hadd;simp only;rw[hdec,Qk,hx,Qa,hadd]
   by_cases hxy:x=y
   ·rw[Qg hxy,Qk];exact .some (by subst hxy;exact(Qg hy).symm)
   ·rw[Qh hxy,Ql];refine .some ⟨(),rfl,?_⟩
    have hi2:l[i]?=some y:=by rw[bd]at hx;exact hx
    rw[List.take_add_one,hi2];simp only[Option.toList_some,Qz,Q5];exact λh=>h.elim hs hxy
  ·intro s hs hdec;simp only;rw[hdec,Ql];rw[Qq62]at hs;exact .some (Qh hs).symm
 obtain⟨b,h1,rfl⟩:=h;exact h1
def Wi{α:Type}[DecidableEq α]{lt:α->α->Bool}(x:α):∀(l:List α),x∉l->(dV lt x l).length=l.length+1
 |[],_=>rfl
 |y::l,h=>by
  have h1:y≠x:=λe=>h (by rw[e];exact Qx)
  rw[dV]
  by_cases h2:lt y x=true
  ·rw[Qr h2,QE,Wi x l (λe=>h (Qy _ e)),QE]
  ·rw[Qs h2,Qs h1];rfl
def mN(l:List ByteArray)(x:ByteArray):List ByteArray:=if x∈l\/40<=l.length then l else dV bQ x l
def JJ{l:List ByteArray}(h:VL l)(x:ByteArray):nq l x=some (mN l x):=by
 have hl:=h.len;unfold nq mN;rw[JM l h.wg,Qa]
 by_cases hx:x∈l
 ·grind
 rw[Qh hx];simp only[Ql,Qa]
 by_cases h40:40<=l.length
 ·grind
 rw[Qh (by omega:¬(40:Int)<=(l.length:Int)),Qs (λe=>e.elim hx h40)]
 simp only[Ql,aR];have hk:∀n,n<=100->bg 16 n=true:=λn hn=>bz ⟨by omega,by omega⟩
 have:=Yd.list (p:=λr=>r=dV bQ x l) (step:=λ(v3:Bool×Int×(List ByteArray)×Unit)=>
   bif (decide (v3.2.1<((List.length l:Nat):Int)))then
   Option.bind (idx l v3.2.1) λx4=>
   Option.bind (bif (!v3.1)then
   Option.bind (iU x x4) λr7=>
   some (decide (r7<(0:Int)))
   else some false) λb8=>
   bif b8 then
   bif bg 16 (List.length v3.2.2.1+List.length [x])then
   bif bg 16 (List.length (v3.2.2.1++[x])+List.length [x4])then
   some (inl (true,(aB .i64 v3.2.1 (1:Int)),((v3.2.2.1++[x])++[x4]),()))
   else none
   else none
   else
   bif bg 16 (List.length v3.2.2.1+List.length [x4])then
   some (inl (v3.1,(aB .i64 v3.2.1 (1:Int)),(v3.2.2.1++[x4]),()))
   else none
   else
   Option.map inr (
   bif (!v3.1)then
   bif bg 16 (List.length v3.2.2.1+List.length [x])then
   some (v3.2.2.1++[x])
   else none
   else
   some v3.2.2.1)) l h.wg (λi (s:Bool×List ByteArray)=>(s.1,i,s.2,()))
   (λi s=>s.2.length<=2*i/\(s.1=false->s.2++dV bQ x (l.drop i)=dV bQ x l)/\(s.1=true->s.2++l.drop i=dV bQ x l)) ?_ ?_ (s:=(false,[])) ⟨by simp,λ_=>by simp,λe=>by cases e⟩
 ·obtain⟨r,h1,rfl⟩:=this;exact h1
 ·rintro i y ⟨d,out⟩ ⟨hs1,hs2,hs3⟩ hd hy hi hdec hx' hadd;simp only at hs1 hs2 hs3;simp only;rw[hdec,Qk,hx',Qa,hadd,Bs,Qa,FJ];have hne:y≠x:=λe=>hx (by rw[<-e];exact hy)
  have k1:bg 16 (out.length+[x].length)=true:=hk _ (by simp only[Q6];omega)
  have k2:bg 16 ((out++[x]).length+[y].length)=true:=hk _ (by simp only[QB,Q6];omega)
  have k3:bg 16 (out.length+[y].length)=true:=hk _ (by simp only[Q6];omega)
  rw[k1,k2,k3]
  cases d with
  |true=>
   simp only[Qo,Ql,Qa,Qk];refine .some ⟨(true,out++[y]),rfl,by simp only[QB,Q6];omega,λe=>(by cases e),λ_=> ?_⟩
   rw[<-hs3 rfl,hd,QL];rfl
  |false=>
   have hs2:=hs2 rfl;rw[hd,dV]at hs2;simp only[Qp,Qk,Qa]
   cases hxy:bQ x y with
   |true=>
    simp only[Qk];rw[Qs (by rw[jA.asymm hxy];simp),Qs hne]at hs2
    refine .some ⟨(true,(out++[x])++[y]),rfl,by simp only[QB,Q6];omega,λe=>(by cases e),λ_=> ?_⟩
    grind
   |false=>
    simp only[Ql]
    have hyx:bQ y x=true:=by
     cases hh:bQ y x with
     |true=>rfl
     |false=>exact absurd (jA.total _ _ hh hxy) hne
    rw[Qr hyx]at hs2;refine .some ⟨(false,out++[y]),rfl,by simp only[QB,Q6];omega,λ_=> ?_,λe=>by cases e⟩
    rw[<-hs2,QL];rfl
 ·rintro⟨d,out⟩ ⟨hs1,hs2,hs3⟩ hdec;simp only at hs1 hs2 hs3;simp only;have k1:bg 16 (out.length+[x].length)=true:=hk _ (by simp only[Q6];omega)
  rw[hdec,Ql,k1]
  cases d with
  |true=>have:=hs3 rfl;rw[Qq66,List.append_nil]at this;exact .some this
  |false=>have:=hs2 rfl;rw[Qq66]at this;exact .some this
def u7{l:List ByteArray}(h:VL l){x:ByteArray}(hx:kT x):VL (mN l x)/\(∀y∈l,y∈mN l x)/\(∀y∈mN l x,y=x\/y∈l)/\(x∉l->l.length<40->(mN l x).length=l.length+1):=by
 unfold mN
 by_cases h1:x∈l\/40<=l.length
 ·grind
 ·rw[Qs h1];have hm:=HV (lt:=bQ) x l;have hlen:=wx (lt:=bQ) x l;have h2:¬40<=l.length:=λe=>h1 (.inr e)
  refine⟨⟨λy hy=> ?_,jA.dV x h.Hd,by omega⟩,λy hy=>(hm y).2 (.inr hy),λy hy=>(hm y).1 hy,λh3 _=>Wi x l h3⟩
  rcases(hm y).1 hy with rfl|hy
  ·exact hx
  ·exact h.sz y hy
def JK{l:List ByteArray}(h:VL l):my l=some true:=by
 unfold my;refine Yd.eq_true (Yd.list l h.wg (λi (_:Unit)=>(i,())) (λ_ _=>True) ?_ ?_ (s:=()) trivial)
 ·intro i y s hs hd hy hi hdec hx hadd;simp only;rw[hdec,Qk,hx,Qa,OI,Qa,Qg (h.sz y hy),hadd];simp only[Qo,Ql]
  by_cases h0:i=0
  ·subst h0;rw[Qh (by omega:¬(0:Int)<((0:Nat):Int))]
   exact .some ⟨(),rfl,trivial⟩
  ·rw[Qg (by omega:(0:Int)<(i:Int))]
   simp only[Qk];have hsub:cW .i64 (i:Int) 1=((i - 1:Nat):Int):=by rw[nY (by omega) (by have:=h.len;omega)];omega
   have hi1:i - 1<l.length:=by omega
   rw[hsub,bd,Qv hi1,Qa,Bs,Qa,aas]
   have hyi:y=l[i]:=by grind [bd]
   have hlt:bQ l[i - 1] y=true:=by rw[hyi];exact List.pairwise_iff_getElem.1 h.Hd (i - 1) i hi1 hi (by omega)
   rw[hlt];exact .some ⟨(),rfl,trivial⟩
 ·intro s hs hdec;simp only;rw[hdec,Ql,Qg (by have:=h.len;omega:(l.length:Int)<=(40:Int))]
  exact .some rfl
def OL{s t:List ByteArray}(h:s.length<=1000000):∃b,qD s t=some b/\(b=true↔s=t):=by
 unfold qD
 by_cases hl:s.length=t.length
 ·rw[Qg (by omega:(s.length:Int)=(t.length:Int)),Qo,Ql]
  refine Xm hl h (λi hi hi' hd hx hy hw=> ?_) (λhd=> ?_)
  ·simp only;rw[hd,Qk,hx,hy,Qa,Qa,hw]
   by_cases he:s[i]=t[i]
   ·rw[Qg he];exact⟨true,rfl,by simp[he]⟩
   ·rw[Qh he];exact⟨false,rfl,by simp[he]⟩
  ·simp only;rw[hd,Ql];rfl
 ·rw[Qh (by omega:¬(s.length:Int)=(t.length:Int))]
  exact⟨false,rfl,Pj hl⟩
def OJ{a b:List ByteArray}{n:Nat}(hn:a.length+b.length<=n)(h:n<=100000):Yd (jy a b) λr=>r.length<=n/\∀x∈r,x∈a\/x∈b:=by
 unfold jy;simp only[aR];refine Yd.FG (λ(v:Int×Int×List ByteArray×Unit)=>∃i k:Nat,v.1=i/\v.2.1=k/\i<=a.length/\k<=b.length/\v.2.2.1.length<=i+k/\∀x∈v.2.2.1,x∈a\/x∈b) (λv=>a.length+b.length - (v.1.toNat+v.2.1.toNat)) ?_ ⟨0,0,rfl,rfl,by omega,by omega,by simp,λx hx=>absurd hx QR⟩
 rintro⟨i',k',out,u⟩ ⟨i,k,e1,e2,hi,hk,hlen,hmem⟩;simp only at e1 e2 hlen hmem;subst e1 e2;have kk:∀x:ByteArray,bg 16 (out.length+[x].length)=true:=λx=>bz ⟨by simp only[Q6];omega,by simp only[Q6];omega⟩
 have hi1:aB .i64 (i:Int) 1=((i+1:Nat):Int):=bG (by omega) (by omega)
 have hk1:aB .i64 (k:Int) 1=((k+1:Nat):Int):=bG (by omega) (by omega)
 have ga:i<a.length->∃x∈a,idx a (i:Int)=some x:=λh=>⟨a[i],Q0 h,by rw[bd];exact Qv h⟩
 have gb:k<b.length->∃x∈b,idx b (k:Int)=some x:=λh=>⟨b[k],Q0 h,by rw[bd];exact Qv h⟩
 have fin1:∀(x:ByteArray) (j1 j2:Nat),(x∈a\/x∈b)->j1<=a.length->j2<=b.length->i+k<j1+j2->Yd (bif bg 16 (out.length+[x].length)then some (inl (((j1:Nat):Int),((j2:Nat):Int),(out++[x]),()))else(none:Option ((Int×Int×List ByteArray×Unit)⊕List ByteArray)))
   (Lp (λs'=>(∃i k:Nat,s'.1=i/\s'.2.1=k/\i<=a.length/\k<=b.length/\s'.2.2.1.length<=i+k/\∀x∈s'.2.2.1,x∈a\/x∈b)/\a.length+b.length - (s'.1.toNat+s'.2.1.toNat)<a.length+b.length - ((i:Int).toNat+(k:Int).toNat)) (λr=>r.length<=n/\∀x∈r,x∈a\/x∈b)):=by
  intro x j1 j2 hx h1 h2 h3;rw[kk x,Qk];refine .some ⟨⟨j1,j2,rfl,rfl,h1,h2,?_,?_⟩,?_⟩
  ·simp only[QB,Q6];omega
  ·intro y hy;rcases Qz.1 hy with hy|hy
   ·exact hmem y hy
   ·rw[Q5.1 hy];exact hx
  ·simp only[QV];omega
 simp only
 by_cases c1:i<a.length
 ·obtain⟨x,hx,ex⟩:=ga c1;rw[Qg (by omega:(i:Int)<(a.length:Int))]
  simp only[Qk,Qa]
  grind [Bs,FJ,KJ,bQ]
 ·rw[Qh (by omega:¬(i:Int)<(a.length:Int))]
  simp only[Ql]
  by_cases c2:k<b.length
  ·grind
  ·rw[Qh (by omega:¬(k:Int)<(b.length:Int))]
   simp only[Ql,Qa];exact .some ⟨by omega,hmem⟩
def ZH{l:List ByteArray}(h:l.length<=1000000):Yd (mj l) λr=>r.2.1=true->kT r.1:=by
 unfold mj;simp only[aR];refine Yd.list l h (λi (s:ByteArray×Bool)=>(s.1,s.2,i,())) (λ_ s=>s.2=true->kT s.1) ?_ ?_ (s:=(_,false)) (λe=>by cases e)
 ·rintro i y ⟨Gp,found⟩ hs hd hy hi hdec hx hadd;simp only at hs;simp only;rw[hdec,Qk,hx,Qa,OI,Qa,hadd]
  by_cases hv:kT y
  ·rw[Qg hv];simp only[Qk]
   cases found with
   |false=>simp only[Qp,Qk,Qa];exact .some ⟨(y,true),rfl,λ_=>hv⟩
   |true=>
    simp only[Qo,Ql,Qa,Bs]
    cases decide (0<FK y Gp)with
    |true=>exact .some ⟨(y,true),rfl,λ_=>hv⟩
    |false=>exact .some ⟨(Gp,true),rfl,hs⟩
  ·rw[Qh hv];simp only[Ql,Qa];exact .some ⟨(Gp,found),rfl,hs⟩
 ·rintro⟨Gp,found⟩ hs hdec;simp only;rw[hdec,Ql];exact .some hs
end
section
def aey{rec:(aj×Int×Unit)->Option (eY×Bool×Unit)}{t:aj}{x:Int}(hm:cQ t)(hr:∀u∈t.aO,Yd (rec (u,x,())) λ_=>True):Yd (jK rec t x) λ_=>True:=by
 unfold jK;simp only[etas];refine Yd.list t.bb hm.nodes (λi (s:eY)=>(i,s,())) (λ_ _=>True) ?_ ?_ trivial
 ·intro i y s hs hd hy hi hdec hx hadd;simp only;rw[hdec,Qk,hx,Qa,hadd]
  cases decide (y=x)with
  |true=>exact .some trivial
  |false=>exact .some ⟨s,rfl,trivial⟩
 ·intro s hs hdec;simp only;rw[hdec,Ql];refine Yd.map (Yd.list t.aO hm.len (λi (s:eY)=>(i,s,())) (λ_ _=>True) ?_ ?_ trivial)
  ·intro i y s hs hd hy hi hdec hx hadd;simp only;rw[hdec,Qk,hx,Qa,hadd];refine Yd.bind (hr y hy) λq _=> ?_
   cases q.2.1 with
   |true=>exact .some trivial
   |false=>exact .some ⟨s,rfl,trivial⟩
  ·intro s hs hdec;simp only;rw[hdec,Ql];exact .some trivial
def aet{x:Int}{n:Nat}:∀{t:aj},SizeOf.sizeOf t<n->cQ t->Yd (tD n (t,x,())) λ_=>True:=by
 induction n with
 |zero=>intro t h;omega
 |succ n ih=>
  intro t hz hm;show Yd (jK (tD n) t x) λ_=>True
  exact aey hm λu hu=>ih (t:=u) (by have:=qt hu;omega) (hm.inner u hu)
def afv{t:aj}(hm:cQ t)(x:Int):Yd (xy t x) λ_=>True:=aet (by omega) hm
structure DQ (t:aj) (v aK round:Int):Prop where
 aN:c5 t
 v0:0<=v
 v1:v<10
 s0:0<=aK
 s1:aK<=1000000
 r1:1<=round
 r2:round<=1000
def ZF(a b c d:Int):∃r,nN a b c d=some r:=⟨_,rfl⟩
section
variable {t : aj} {v aK round : Int}
def ON(h:DQ t v aK round):uY t v aK round=some 0:=by
 have e1:=h.v0;have e2:=h.v1;have e3:=h.s0;have e4:=h.s1;have e5:=h.r1;have e6:=h.r2;unfold uY;simp only[etas,dx h.aN,Qa];rw[Qh (by omega:¬v<0),Qh (by omega:¬(10:Int)<=v),Qh (by omega:¬aK<0),Qh (by omega:¬(1000000:Int)<aK),Qh (by omega:¬round<1),Qh (by omega:¬(1000:Int)<round)]
 rfl
def ahH(h:DQ t v aK round)(k:Int):Yd (ml t v aK round k) λ_=>True:=by
 unfold ml;simp only[etas,ON h,Qa,aR];have h1:∀b:Bool,Yd (bif b then(some true:Option Bool)else some (decide (k<0))) λ_=>True:=λb=>by cases b<;>exact .some trivial
 refine Yd.bind (h1 _) λb1 _=> ?_
 have h2:∀b:Bool,Yd (bif b then(some true:Option Bool)else some (decide ((10:Int)<=k))) λ_=>True:=λb=>by cases b<;>exact .some trivial
 refine Yd.bind (h2 _) λb2 _=> ?_
 cases b2 with
 |true=>exact .some trivial
 |false=>
  simp only[Ql];refine Yd.bind (afv h.aN.sm k) λq _=> ?_
  obtain⟨hsh,eh⟩:=ZF 1 aK round k;rw[eh];simp only[Qa]
  cases decide (k=v)with
  |true=>exact .some trivial
  |false=>cases q.2.1<;>exact .some trivial
def Ys(h:DQ t v aK round):Yd (lA t v aK round) λq=>0<=q.1/\q.1<10/\q.2.1=0:=by
 unfold lA;simp only[etas,ON h,Qa,aR];simp only[decide_true,Qo,Ql];refine Yd.FG (λ(s:Int×Int×Unit)=>0<=s.1/\s.1<10/\0<=s.2.1/\s.2.1<=10) (λs=>(10 - s.2.1).toNat) ?_ ⟨h.v0,h.v1,Int.le_refl _,by show(0:Int)<=10;omega⟩
 rintro⟨b,k,u⟩ ⟨h1,h2,h3,h4⟩;simp only at h1 h2 h3 h4;simp only
 by_cases hk:k<10
 ·rw[Qg hk];have hadd:aB .i64 k 1=k+1:=bG (by omega) (by omega)
  simp only[Qk];rw[hadd]
  have fin:∀x:Int,0<=x->x<10->Yd (some (inl (x,k+1,())):Option ((Int×Int×Unit)⊕(Int×Int×Unit))) (Lp (λs'=>(0<=s'.1/\s'.1<10/\0<=s'.2.1/\s'.2.1<=10)/\(10 - s'.2.1).toNat<(10 - k).toNat) (λr=>0<=r.1/\r.1<10/\r.2.1=0)):=
   λx g1 g2=> .some ⟨⟨g1,g2,by show 0<=k+1;omega,by show k+1<=10;omega⟩,by show(10 - (k+1)).toNat<(10 - k).toNat;omega⟩
  refine Yd.bind (ahH h k) λr _=> ?_
  cases r with
  |false=>exact fin b h1 h2
  |true=>
   obtain⟨hsh,eh⟩:=ZF 2 aK round k;obtain⟨hsb,eb⟩:=ZF 2 aK round b;rw[eh,eb];simp only[Qo,Ql,Qa];refine Yd.bind (p:=λ_=>True) ?_ λb9 _=> ?_
   ·refine Yd.cond (λ_=> .some trivial) λ_=> ?_
    exact Yd.bind (p:=λ_=>True) (Yd.cond (λ_=> .some trivial) λ_=> .some trivial) λ_ _=> .some trivial
   ·cases b9 with
    |true=>exact fin k h3 hk
    |false=>exact fin b h1 h2
 ·rw[Qh hk];exact .some ⟨h1,h2,rfl⟩
def adf(h:DQ t v aK round):Yd (ot t v aK round) λq=>∃s:Nat,q.1=s/\s<1024:=by
 have e5:=h.r1;have e6:=h.r2;unfold ot;simp only[etas,aR];refine Yd.bind (Ys h) λq ⟨_,_,hq⟩=> ?_
 rw[hq];simp only[decide_true,Qo,Ql];refine Yd.FG (λ(s:Int×Int×Unit)=>(∃n:Nat,s.1=n/\n<1024)/\1<=s.2.1/\s.2.1<=round+1) (λs=>(round+1 - s.2.1).toNat) ?_ ⟨⟨0,rfl,by omega⟩,Int.le_refl _,by show(1:Int)<=round+1;omega⟩
 rintro⟨b,k,u⟩ ⟨⟨n,h1,h2⟩,h3,h4⟩;simp only at h1 h3 h4;subst h1;simp only
 by_cases hk:k<=round
 ·rw[Qg hk];have hadd:aB .i64 k 1=k+1:=bG (by omega) (by omega)
  simp only[Qk];rw[hadd];refine Yd.bind (Ys ⟨h.aN,h.v0,h.v1,h.s0,h.s1,h3,by omega⟩) λq ⟨g1,g2,_⟩=> ?_
  rw[mV,Qa]
  have fin:∀x:Nat,x<1024->Yd (some (inl ((x:Int),k+1,())):Option ((Int×Int×Unit)⊕(Int×Int×Unit))) (Lp (λs'=>((∃n:Nat,s'.1=n/\n<1024)/\1<=s'.2.1/\s'.2.1<=round+1)/\(round+1 - s'.2.1).toNat<(round+1 - k).toNat) (λr=>∃s:Nat,r.1=s/\s<1024)):=
   λx g=> .some ⟨⟨⟨x,rfl,g⟩,by show 1<=k+1;omega,by show k+1<=round+1;omega⟩,by show(round+1 - (k+1)).toNat<(round+1 - k).toNat;omega⟩
  cases xN n q.1 with
  |true=>exact fin n h2
  |false=>
   simp only[Qp,Qk];rw[Qs (by omega),ra h2 g1 g2]
   exact fin _ (B2 h2 g2)
 ·rw[Qh hk];exact .some ⟨n,rfl,h2⟩
end
end
end Go.Proofs.YtofedieniojipaaGreat
end
