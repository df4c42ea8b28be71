/-
  Texts made small by a program (see NOTES). Conditions: those that each theorem names.
-/
import Derived.Test.YtofedieniojipaaGreatParticipantSlotsMe
set_option linter.unusedVariables false
set_option linter.defProp false
set_option linter.unusedSimpArgs false
set_option linter.unusedSectionVars false
set_option maxHeartbeats 2000000
noncomputable section
namespace Go.Proofs.YtofedieniojipaaGreat
open Go.TQ
section
def lY{bytes n:Nat}(h:bytes<=200)(hn:n<=1000000):bl bytes n=true:=
 bC ⟨QK (Nat.mul_le_mul hn h) (by decide),hn⟩
def zC{α ρ:Type}(l:List α)(hl:l.length<=1000000)(p:α->Bool){step:Int×Unit->Option ((Int×Unit)⊕ρ)}{fin:Option ρ}{f:Nat->α->Option ρ}
  (h1:∀(i:Nat) (x:α),i<l.length->l[i]?=some x->decide ((i:Int)<(l.length:Int))=true->idx l (i:Int)=some x->aA .i64 (i:Int) 1=((i+1:Nat):Int)->step ((i:Int),())=bif p x then Option.map Sum.inr (f i x)else some (.inl (((i+1:Nat):Int),())))
  (h2:(∀x∈l,p x=false)->decide ((l.length:Int)<(l.length:Int))=false->step ((l.length:Int),())=Option.map Sum.inr fin):
  aD step ((0:Int),())=match l.findIdx? p with|some i=>(l[i]?).bind (f i)|none=>fin:=by
 suffices key:∀(k i:Nat),i+k=l.length->(∀x∈l.take i,p x=false)->aD step ((i:Int),())=match(l.drop i).findIdx? p with|some j=>(l[i+j]?).bind (f (i+j))|none=>fin by
  have:=key l.length 0 (by omega) (by simp)
  rw[List.drop_zero]at this;simp only[Nat.zero_add]at this;exact this
 intro k
 induction k with
 |zero=>
  intro i hi hpre;obtain rfl:i=l.length:=by omega
  rw[Qq62]at hpre;rw[ff,h2 hpre (Qh (Qq64 _)),Qq66];cases fin<;>rfl
 |succ k ih=>
  intro i hi hpre;have hlt:i<l.length:=by omega
  have hx:l[i]?=some l[i]:=Qv hlt;have hs:=h1 i l[i] hlt hx (Qg (by omega)) (by rw[bf];exact hx) (bH (by omega) (by omega))
  rw[QM hlt,List.findIdx?_cons]
  cases hp:p l[i]with
  |true=>
   rw[hp]at hs;rw[ff,hs];simp only[Qk,Qt,Nat.add_zero,hx,Qa];cases f i l[i]<;>rfl
  |false=>
   rw[hp]at hs
   rw[bw hs,ih (i+1) (by omega) (λx hx=>by
    rw[Q7 hlt,Qz,Q5]at hx;rcases hx with hx|rfl
    ·exact hpre x hx
    ·exact hp)]
   simp only[Qq,Qu]
   cases (l.drop (i+1)).findIdx? p with
   |none=>rfl
   |some j=>
    simp only[Qe];rw[show i+1+j=i+(j+1)by omega]
def IL(l:List ak)(e:ak):Nat:=(l.findIdx? λx=>decide (e.al<x.al)).getD l.length
 def sO(l:List ak)(e:ak):List ak×Bool×Unit:=
 if bc e then
  match l.findIdx? λx=>decide (x.al=e.al)with
  |some i=>if e.aH<=((l[i]?).getD e).aH then(l,false,())else(l.set i e,true,())
  |none=>(l.take (IL l e)++[e]++l.drop (IL l e),true,())
 else(l,false,())
def ajo(l:List ak)(e:ak):IL l e<=l.length:=by
 unfold IL
 cases h:l.findIdx? λx=>decide (e.al<x.al)with
 |none=>exact QI _
 |some i=>exact Nat.le_of_lt ((List.findIdx?_eq_some_iff_getElem.1 h).1)
section
variable {l : List ak} (hl : ∀ x ∈ l, cU x.aa) (hlen : l.length <= 1000)
 include hlen
theorem ack(e:ak):dM l e=some (match l.findIdx? λx=>decide (x.al=e.al)with|some i=>(i:Int)|none=> -1):=by
 unfold dM;refine(zC l (by omega) (λx=>decide (x.al=e.al)) (f:=λi _=>some (i:Int)) (fin:=some (-1)) (λi x hi hx0 hd hx hw=> ?_) (λhall hd=> ?_)).trans ?_
 ·simp only[hd,hx,hw,Qk,Qa,xv,etas]
 ·simp only[hd,Ql]
 ·cases h:l.findIdx? λx=>decide (x.al=e.al)with
  |none=>rfl
  |some i=>have:=(List.findIdx?_eq_some_iff_getElem.1 h).1;simp[Qv this]
theorem adW(e:ak):dL l e=some (match l.findIdx? λx=>decide (e.al<x.al)with|some i=>(i:Int)|none=> -1):=by
 unfold dL;refine(zC l (by omega) (λx=>decide (e.al<x.al)) (f:=λi _=>some (i:Int)) (fin:=some (-1)) (λi x hi hx0 hd hx hw=> ?_) (λhall hd=> ?_)).trans ?_
 ·simp only[hd,hx,hw,Qk,Qa,xu,etas]
 ·simp only[hd,Ql]
 ·cases h:l.findIdx? λx=>decide (e.al<x.al)with
  |none=>rfl
  |some i=>have:=(List.findIdx?_eq_some_iff_getElem.1 h).1;simp[Qv this]
 include hl
theorem Xb:dU l=some l:=by
 unfold dU
 suffices key:∀(k i:Nat),i+k=l.length->aD _ ((i:Int),l.take i,())=some l from key l.length 0 (by omega)
 intro k
 induction k with
 |zero=>
  intro i hi;obtain rfl:i=l.length:=by omega
  have hd:decide ((l.length:Int)<(l.length:Int))=false:=Qh (Qq64 _);exact bM (by simp only[hd,Ql,Qe,Qq62])
 |succ k ih=>
  intro i hi;have hlt:i<l.length:=by omega
  have hd:decide ((i:Int)<(l.length:Int))=true:=Qg (by omega)
  have hw:aA .i64 (i:Int) 1=((i+1:Nat):Int):=bH (by omega) (by omega)
  have hx:idx l (i:Int)=some l[i]:=by rw[bf];exact Qv hlt
  have hc:jQ l[i]=some l[i]:=by simp only[jQ,etas,ml (hl _ (Q0 hlt)),Qa]
  refine(bw ?_).trans (ih (i+1) (by omega))
  simp only[hd,hx,hw,Qk,Qa,etas,hc];rw[lY (by omega) (by simp;omega),Q7 hlt]
  rfl
theorem aiq{e:ak}(he:cU e.aa):vw l e=some (sO l e):=by
 have hc:jQ e=some e:=by simp only[jQ,etas,ml he,Qa]
 have hat:=ajo l e;unfold vw;simp only[Xb hl hlen,etas,sk he,hc,ack hlen,adW hlen,Qa,aS];unfold sO
 cases bc e with
 |false=>rfl
 |true=>
  simp only[Qo,Ql,Qt]
  cases h:l.findIdx? λx=>decide (x.al=e.al)with
  |some i=>
   have hi:=(List.findIdx?_eq_some_iff_getElem.1 h).1;have hd:decide ((0:Int)<=(i:Int))=true:=Qg (by omega)
   have hx:idx l (i:Int)=some l[i]:=by rw[bf];exact Qv hi
   simp only[hd,hx,Qk,Qa,QV,Qv hi,Q3]
   by_cases hs:e.aH<=l[i].aH<;>simp[hs]
  |none=>
   have hd:decide ((0:Int)<= -1)=false:=rfl;simp only[hd,Ql]
   have hins:∀a:Nat,a<=l.length->eW l (a:Int) [e]=some (l.take a++[e]++l.drop a):=λa ha=>by
    unfold eW CC;have h1:decide ((0:Int)<=(a:Int))=true:=Qg (by omega)
    have h2:decide ((a:Int)<=(l.length:Int))=true:=Qg (by omega)
    rw[h1,h2,lY (by omega) (by simp;omega)]
    rfl
   unfold IL at hat ⊢
   cases h':l.findIdx? λx=>decide (e.al<x.al)with
   |none=>
    have hd2:decide ((-1:Int)<0)=true:=rfl;simp only[hd2,Qk,hins _ (QI _),Qa,Option.getD_none]
   |some j=>
    have hj:=(List.findIdx?_eq_some_iff_getElem.1 h').1;have hd2:decide ((j:Int)<0)=false:=Qh (by omega)
    simp only[hd2,Ql,hins _ (Nat.le_of_lt hj),Qa,Q3]
end
end
section
section
variable {l : List ak} (hlen : l.length <= 1000)
 include hlen
theorem Jw(e:ak){a b:Nat}(ha:a<=b)(hb:b<=l.length):cD (0:Int) (a:Int) l.length=true/\bl 176 (List.length ((l.take (Int.toNat (a:Int))).drop (Int.toNat (0:Int))))=true/\
  bl 176 (List.length ((l.take (Int.toNat (a:Int))).drop (Int.toNat (0:Int)))+List.length [e])=true/\cD (b:Int) (l.length:Int) l.length=true/\
  bl 176 (List.length (((l.take (Int.toNat (a:Int))).drop (Int.toNat (0:Int)))++[e])+List.length ((l.take (Int.toNat (l.length:Int))).drop (Int.toNat (b:Int))))=true/\
  (((l.take (Int.toNat (a:Int))).drop (Int.toNat (0:Int)))++[e])++((l.take (Int.toNat (l.length:Int))).drop (Int.toNat (b:Int)))=l.take a++[e]++l.drop b:=by
 refine⟨by simp[cD];omega,jg (by omega) (by simp;omega),jg (by omega) (by simp;omega),by simp[cD];omega,jg (by omega) (by simp;omega),?_⟩
 simp only[QV,Int.toNat_zero,List.drop_zero,Qq62]
end
def IJ{α:Type}{p q:α->Bool}:∀{l:List α},(∀x∈l,p x=q x)->l.findIdx? p=l.findIdx? q
 |[],_=>rfl
 |x::l,h=>by rw[List.findIdx?_cons,List.findIdx?_cons,h x (by simp),IJ λy hy=>h y (by simp[hy])]
def afc{l:List ak}(hl:∀x∈l,cU x.aa)(hlen:l.length<=1000){e:ak}(he:cU e.aa):BP l e=some (sO l e):=by
 unfold BP;simp only[etas,jU he,Qa,aS];unfold sO
 cases bc e with
 |false=>rfl
 |true=>
  simp only[Qo,Ql,Qt];refine(zC l (by omega) (λx=>decide (x.al=e.al)) (f:=λi x=>if e.aH<=x.aH then some (l,false,())else some (l.take i++[e]++l.drop (i+1),true,())) (fin:=some (l.take (IL l e)++[e]++l.drop (IL l e),true,())) (λi x hi hx0 hd hx hw=> ?_) (λhall hd=> ?_)).trans ?_
  ·simp only[hd,hx,hw,Qk,Qa]
   cases decide (x.al=e.al)with
   |false=>rfl
   |true=>
    simp only[Qk];obtain⟨f1,f2,f3,f4,f5,f6⟩:=Jw hlen e (show i<=i+1 by omega) (show i+1<=l.length by omega)
    simp only[f1,f2,f3,f4,f5,f6,Qk]
    by_cases hs:e.aH<=x.aH<;>simp[hs]
  ·simp only[hd,Ql];refine congrArg (Option.map Sum.inr) ?_
   have hcg:(l.findIdx? λx=> !decide (x.al<e.al))=l.findIdx? λx=>decide (e.al<x.al):=IJ λx hx=>by
    have:=hall x hx;have hne:x.al≠e.al:=of_decide_eq_false this
    by_cases h:x.al<e.al
    ·have h':¬e.al<x.al:=by omega
     simp[h,h']
    ·have h':e.al<x.al:=by omega
     simp[h,h']
   refine(zC l (by omega) (λx=> !decide (x.al<e.al)) (f:=λi x=>some (l.take i++[e]++l.drop i,true,())) (fin:=some (l.take l.length++[e]++l.drop l.length,true,())) (λi x hi hx0 hd hx hw=> ?_) (λ_ hd=> ?_)).trans ?_
   ·simp only[hd,hx,hw,Qk,Qa]
    cases decide (x.al<e.al)with
    |true=>rfl
    |false=>
     simp only[Ql,Qp,Qk];obtain⟨f1,f2,f3,f4,f5,f6⟩:=Jw hlen e (QI i) (show i<=l.length by omega)
     simp only[f1,f2,f3,f4,f5,f6,Qk]
   ·simp only[hd,Ql];obtain⟨f1,f2,f3,f4,f5,f6⟩:=Jw hlen e (QI l.length) (QI _);simp only[f1,f2,f3,f4,f5,f6,Qk]
   ·rw[hcg];unfold IL
    cases h:l.findIdx? λx=>decide (e.al<x.al)with
    |none=>rfl
    |some i=>
     have hi:=(List.findIdx?_eq_some_iff_getElem.1 h).1;simp only[Qv hi,Qa,Q3]
  ·cases h:l.findIdx? λx=>decide (x.al=e.al)with
   |none=>rfl
   |some i=>
    have hi:=(List.findIdx?_eq_some_iff_getElem.1 h).1;simp only[Qv hi,Qa,Q3]
    by_cases hs:e.aH<=l[i].aH
    ·simp[hs]
    ·simp only[hs,Qu];rw[List.set_eq_take_append_cons_drop,Qr hi];simp
end
section
structure wE (m:ab):Prop where
 n0:0<=m.al
 n1:m.al<10
 aN:cU m.aa
 len:m.ar.length<=100
 sm:∀e∈m.ar,cU e.aa
 valid:∀e∈m.ar,bc e=true
def Ew{m:ab}{e:ak}(h:e∈bN m):e∈m.ar\/(aP m.ae=false/\e=je m):=by
 unfold bN at h;split at h
 ·exact .inl h
 ·rename_i hz;rw[(Fb _ _).mem_iff,Qz,Q5]at h;rcases h with h|h
  ·exact .inl h
  ·exact .inr ⟨by simpa using hz,h⟩
def adV(m:ab):(bN m).length<=m.ar.length+1:=by
 unfold bN;split
 ·omega
 ·rw[(Fb _ _).length_eq,QB,Q6];omega
def OA(m:ab):(je m).aa=m.aa:=tZ m
def wE.vb{m:ab}(h:wE m):s5 (bN m)/\(bN m).length<=1000:=by
 have h1:=adV m;have h2:=h.len;refine⟨⟨by omega,λe he=> ?_⟩,by omega⟩
 rcases Ew he with he|⟨_,rfl⟩
 ·exact h.sm e he
 ·rw[OA];exact h.aN
def wE.aG{m:ab}(h:wE m):((m.al.toNat:Nat):Int)=m.al/\m.al.toNat<10:=by
 have:=h.n0;have:=h.n1;omega
def eA(b:ah):ah:=if 1000<b.ai then⟨1000,b.Value⟩else b
def ajn(b:ah):td b=some (eA b):=adr b
def dx(p q b:ah):ah×ah:=
 if aP b=true then(p,q)else if aP p=true then(b,q)else if bB p b=true then(if bQ p b=true then(b,if bQ q b=true then cd else q)else(b,p))
 else if(bB b p&& !bQ b p&&(aP q||bB q b))=true then(p,b)else(p,q)
def XH(a b:ah):bQ a b=bQ b a:=decide_eq_decide.2 ⟨Eq.symm,Eq.symm⟩
def ahS(p q b:ah):Ap p q b=some ((dx p q b).1,(dx p q b).2,()):=by
 unfold Ap dx;simp only[c6,kg,gJ,Qa,aS];cases aP b<;>cases aP p<;>cases bB p b<;>cases bQ p b<;>cases bQ q b<;>cases bB b p<;>cases bQ b p<;>cases aP q<;>cases bB q b<;>rfl
def afq(p q b:ah):xa p q b=some ((dx p q b).1,(dx p q b).2,()):=by
 unfold xa dx;simp only[dm,jR,fT,Qa,aS,XH b p];cases aP b<;>cases aP p<;>cases bB p b<;>cases bQ p b<;>cases bQ q b<;>cases bB b p<;>cases aP q<;>cases bB q b<;>rfl
def Ja(m:ab):ByteArray:=if m.aQ=2 then m.ae.Value else gw
 def eX(m:ab):ah:=jV m.al.toNat m.aa (bN m) m.ao m.aC (Ja m)
def tM(m:ab)(p q:ah):Int:=
 if m.aQ=1/\m.aZ≠0 then(if fE m<lE m.ae.Value m.aZ p q then 0 else lE m.ae.Value m.aZ p q)else m.aZ
 def c8(m:ab):ab:=
 if m.aQ=3\/aP m.ae=true then m else
  {m with ao:=(dx m.ao m.aC (eA (eX m))).1,aC:=(dx m.ao m.aC (eA (eX m))).2,aZ:=tM m (dx m.ao m.aC (eA (eX m))).1 (dx m.ao m.aC (eA (eX m))).2}
def ahj{m:ab}(h:wE m)(p q:ah)(v:ByteArray):te m.al m.aa (bN m) p q v=some (jV m.al.toNat m.aa (bN m) p q v):=by
 have:=afe h.aG.2 h.aN h.vb.1 h.vb.2 p q v
 rwa [h.aG.1]at this
def ahm{m:ab}(h:wE m)(a:ah):n9 m.al m.aa (bN m) a=some (zX m.al.toNat m.aa (bN m) a):=by
 have:=afg h.aG.2 h.aN h.vb.1 h.vb.2 a
 rwa [h.aG.1]at this
def Zs{m:ab}(h:wE m):um m=some (c8 m):=by
 have hl:m.ar.length<=1000:=by have:=h.len;omega
 unfold um c8;simp only[etas,c6,P6 hl,ahj h,ajn,ahS,Aa,Vp,Qa,aS]
 by_cases h3:m.aQ=3
 ·rw[Qg h3,Qr (.inl h3)];rfl
 ·rw[Qh h3]
  cases hz:aP m.ae with
  |true=>rw[Qr (.inr rfl)];rfl
  |false=>
   rw[Qs (by simp[h3])]
   simp only[Ql,Qa]
   by_cases h2:m.aQ=2
   ·have h1:¬m.aQ=1:=by omega
    simp only[Qg h2,Qk,tM,Ja,eX,Qr h2,h1,false_and,Qu];rfl
   ·simp only[Qh h2,Ql];have hv:bE=Ja m:=by simp only[Ja,Qs h2];rfl
    rw[hv];have hn:jV m.al.toNat m.aa (bN m) m.ao m.aC (Ja m)=eX m:=rfl;simp only[hn]
    by_cases h1:m.aQ=1
    ·have hh:∀p q:ah,(de {m with ao:=p,aC:=q}).bq=fE m:=λp q=>by unfold de;rw[Qr (show({m with ao:=p,aC:=q}:ab).aQ=1 from h1)];rfl
     simp only[Qg h1,Qk,Qa]
     by_cases hL:m.aZ=0
     ·rw[Qg hL];unfold tM;rw[Qs (λh=>h.2 hL)]
      rfl
     ·rw[Qh hL];unfold tM;rw[Qr ⟨h1,hL⟩];simp only[Qp,Qk];rw[show(de (ab.mk m.al m.aK m.aH m.aa m.aQ m.ae (dx m.ao m.aC (eA (eX m))).1 (dx m.ao m.aC (eA (eX m))).2 m.ax m.aZ m.bq m.bg m.ar)).bq=fE m from hh _ _]
      by_cases hlt:fE m<lE m.ae.Value m.aZ (dx m.ao m.aC (eA (eX m))).1 (dx m.ao m.aC (eA (eX m))).2
      ·rw[Qg hlt,Qr hlt];rfl
      ·rw[Qh hlt,Qs hlt];rfl
    ·rw[Qh h1];unfold tM;rw[Qs (λh=>h1 h.1)]
     rfl
 def gS(m:ab):ah:=zX m.al.toNat m.aa (bN m) m.ax
def CS(m:ab)(b:ah):ab:=
 if bB m.ae b=true then{m with ax:=b,ae:=b,aZ:=if bQ m.ae b=true then m.aZ else 0}else{m with ax:=b}
def q7(m:ab)(b:ah):ab:=
 if m.aZ=0/\bQ m.ae b=true/\lE b.Value m.ae.ai m.ao m.aC<=b.ai then{m with aZ:=lE b.Value m.ae.ai m.ao m.aC}else m
 def gB(m:ab):ab:=
 if m.aQ≠1\/aP m.ae=true\/aP (gS m)=true then m else q7 (CS m (gS m)) (gS m)
def Rm(m:ab)(b:ah){α:Type}(j:ab->Option α):
  ((bif decide (m.aZ=(0:Int))then some (bQ m.ae b)else some false).bind λx=>bif x then(bif decide (lE b.Value m.ae.ai m.ao m.aC<=b.ai)then j {m with aZ:=lE b.Value m.ae.ai m.ao m.aC}else j m)else j m)=j (q7 m b):=by
 unfold q7
 by_cases hL:m.aZ=0
 ·rw[Qg hL]
  cases hc:bQ m.ae b with
  |true=>
   by_cases hle:lE b.Value m.ae.ai m.ao m.aC<=b.ai
   ·rw[Qr ⟨hL,rfl,hle⟩,Qg hle];rfl
   ·rw[Qs (λh=>hle h.2.2),Qh hle];rfl
  |false=>
   rw[Qs (λh=>by cases h.2.1)];rfl
 ·rw[Qh hL,Qs (λh=>hL h.1)];rfl
def XG{m:ab}(h:wE m):sC m=some (gB m):=by
 have hl:m.ar.length<=1000:=by have:=h.len;omega
 unfold sC gB;simp only[etas,c6,P6 hl,ahm h,Vp,Qa,aS,gJ,kg];have hb:zX m.al.toNat m.aa (bN m) m.ax=gS m:=rfl;simp only[hb]
 by_cases h1:m.aQ=1
 ·rw[Qg h1]
  cases hz:aP m.ae with
  |true=>rw[Qr (.inr (.inl rfl))];rfl
  |false=>
   cases hzb:aP (gS m)with
   |true=>rw[Qr (.inr (.inr rfl))];rfl
   |false=>
    rw[Qs (by simp[h1])]
    simp only[Qo,Ql,Qa];unfold CS
    cases hlt:bB m.ae (gS m)with
    |true=>
     cases hcp:bQ m.ae (gS m)with
     |true=>simp only[Qk,Qo,Ql,Qt];exact Rm {m with ax:=gS m,ae:=gS m} (gS m) some
     |false=>simp only[Qk,Qp,Qt,Qq,Qu];exact Rm {m with ax:=gS m,ae:=gS m,aZ:=0} (gS m) some
    |false=>simp only[Ql,Qq,Qu];exact Rm {m with ax:=gS m} (gS m) some
 ·rw[Qh h1,Qr (.inl h1)];rfl
section
variable {aG : Nat} (hn : aG < 10) {t : aj} (ht : cU t) {l : List ak} (hl : s5 l) (hlen : l.length <= 1000)
 include hn ht hl hlen
theorem X3(v:ByteArray)(lo hi:Int):ke aG t l v lo hi=some (nD aG t l v lo hi):=by
 have hin:=nr l;have hsm:=ou (aG:=aG) ht hl;simp only[ke,etas,SL hl.aN hlen,AV hn hl,Qa,wJ hsm hn (mH hin) (mH hin)];rfl
theorem acR(v:ByteArray)(lo hi:Int):mN aG t l v lo hi=some (vZ aG t l v lo hi):=by
 have hin:=nr l;have hsm:=ou (aG:=aG) ht hl;simp only[mN,etas,SL hl.aN hlen,AV hn hl,Qa,vf hsm hn (mH hin)];rfl
theorem acO(p q:ah):qV aG t l p q=some (rB (nD aG t l) l p q (ic (nD aG t l) l p q)):=afi hl hlen (X3 hn ht hl hlen) p q
theorem aho(v:ByteArray)(low cm:Int):pJ aG t l v low cm=some ((FW (bu l v) (nD aG t l v) low cm).1,(FW (bu l v) (nD aG t l v) low cm).2,()):=acP hl hlen (X3 hn ht hl hlen) v low cm
theorem ahn(v:ByteArray):qW aG t l v=some (Ei (bu l v) (vZ aG t l v)):=afk hl hlen (acR hn ht hl hlen) v
end
 def iu(m:ab):ByteArray->Int->Int->Bool:=nD m.al.toNat m.aa (bN m)
 def NW(m:ab):ByteArray->Int->Int->Bool:=vZ m.al.toNat m.aa (bN m)
 def fS(m:ab):ByteArray×Int×Int×Bool×Unit:=rB (iu m) (bN m) m.ao m.aC (ic (iu m) (bN m) m.ao m.aC)
 def eS(m:ab):Int×Int:=FW (bu (bN m) m.ae.Value) (iu m m.ae.Value) m.aZ m.bq
 def pc(m:ab):Int×Int×Bool×Unit:=Ei (bu (bN m) m.ae.Value) (NW m m.ae.Value)
def afj{m:ab}(h:wE m):qV m.al m.aa (bN m) m.ao m.aC=some (fS m):=by
 have:=acO h.aG.2 h.aN h.vb.1 h.vb.2 m.ao m.aC
 rwa [h.aG.1]at this
def aiR{m:ab}(h:wE m):pJ m.al m.aa (bN m) m.ae.Value m.aZ m.bq=some ((eS m).1,(eS m).2,()):=by
 have:=aho h.aG.2 h.aN h.vb.1 h.vb.2 m.ae.Value m.aZ m.bq
 rwa [h.aG.1]at this
def aiQ{m:ab}(h:wE m):qW m.al m.aa (bN m) m.ae.Value=some (pc m):=by
 have:=ahn h.aG.2 h.aN h.vb.1 h.vb.2 m.ae.Value
 rwa [h.aG.1]at this
def NJ(m:ab)(v:ByteArray)(lo hi:Int):ab:=
 {m with ae:=if(!bQ m.ae ⟨hi,v⟩||bB m.ae ⟨hi,v⟩)=true then⟨bF m.ae.ai hi,v⟩else m.ae,ao:=if jE m.ao ⟨hi,v⟩=true then m.ao else⟨hi,v⟩,aQ:=2,aZ:=lo,bq:=hi,ax:=⟨hi,v⟩,aC:=cd}
def Cd(m:ab)(lo hi:Int):ab:=
 {m with ae:=⟨bF m.ae.ai hi,m.ae.Value⟩,ao:=⟨bF m.ao.ai hi,m.ao.Value⟩,ax:=⟨bF m.ax.ai hi,m.ae.Value⟩,aZ:=lo,bq:=hi}
 def fW(m:ab):ab:=
 if m.aQ=1 then(if(fS m).2.2.2.1=true then NJ m (fS m).1 (fS m).2.1 (fS m).2.2.1 else m)
 else if m.aQ=2 then Cd m (eS m).1 (eS m).2 else m
def XI{m:ab}(h:wE m):sD m=some (fW m):=by
 have hl:m.ar.length<=1000:=by have:=h.len;omega
 unfold sD fW;simp only[etas,P6 hl,afj h,aiR h,Qa,aS,gJ,kg,CW]
 by_cases h1:m.aQ=1
 ·rw[Qg h1,Qr h1]
  cases hk:(fS m).2.2.2.1 with
  |false=>simp only[Qk,Qp,Qq,Qu]
  |true=>
   simp only[Qk,Qo,Ql,Qt];unfold NJ;cases bQ m.ae ⟨(fS m).2.2.1,(fS m).1⟩<;>cases bB m.ae ⟨(fS m).2.2.1,(fS m).1⟩<;>cases jE m.ao ⟨(fS m).2.2.1,(fS m).1⟩<;>rfl
 ·rw[Qh h1,Qs h1]
  by_cases h2:m.aQ=2
  ·rw[Qg h2,Qr h2];rfl
  ·rw[Qh h2,Qs h2];rfl
def PK(m:ab)(lo hi:Int):ab:={m with aQ:=3,aZ:=lo,bq:=hi,ae:=⟨hi,m.ae.Value⟩,ao:=cd,aC:=cd,ax:=cd}
 def ja(m:ab):ab:=if m.aQ=2/\(pc m).2.2.1=true then PK m (pc m).1 (pc m).2.1 else m
def agh{m:ab}(h:wE m):yj m=some (ja m):=by
 have hl:m.ar.length<=1000:=by have:=h.len;omega
 unfold yj ja;simp only[etas,P6 hl,aiQ h,Qa]
 by_cases h2:m.aQ=2
 ·rw[Qg h2]
  cases hk:(pc m).2.2.1 with
  |false=>rw[Qs (λh=>by cases h.2)];rfl
  |true=>rw[Qr ⟨h2,rfl⟩];rfl
 ·rw[Qh h2,Qs (λh=>h2 h.1)];rfl
end
section
def Fi{α β ρ:Type}(l:List α)(hl:l.length<=1000)(f:α->β){step:Int×List β×Unit->Option ((Int×List β×Unit)⊕ρ)}{fin:List β->Option ρ}
  (h1:∀(i:Nat) (e:α) (s:List β),s.length<=1000->e∈l->decide ((i:Int)<(l.length:Int))=true->idx l (i:Int)=some e->aA .i64 (i:Int) 1=((i+1:Nat):Int)->step ((i:Int),s,())=some (.inl (((i+1:Nat):Int),s++[f e],())))
  (h2:∀s,decide ((l.length:Int)<(l.length:Int))=false->step ((l.length:Int),s,())=Option.map Sum.inr (fin s)):aD step ((0:Int),[],())=fin (l.map f):=by
 suffices key:∀(k i:Nat) (s:List β),i+k=l.length->s.length=i->aD step ((i:Int),s,())=fin (s++(l.drop i).map f)by
  have:=key l.length 0 [] (by omega) rfl
  simpa using this
 intro k
 induction k with
 |zero=>
  intro i s hi hs;obtain rfl:i=l.length:=by omega
  have hd:decide ((l.length:Int)<(l.length:Int))=false:=Qh (Qq64 _);have h:=h2 s hd;rw[Qq66,QO,List.append_nil]
  cases hf:fin s with
  |none=>rw[hf]at h;exact OT h
  |some r=>rw[hf]at h;exact bM h
 |succ k ih=>
  intro i s hi hs;have hlt:i<l.length:=by omega
  rw[bw (h1 i l[i] s (by omega) (Q0 hlt) (Qg (by omega)) (by rw[bf];exact Qv hlt) (bH (by omega) (by omega))),ih (i+1) (s++[f l[i]]) (by omega) (by simp;omega),
   QM hlt,QD,QL]
  rfl
def abF{α β ρ:Type}(l:List α)(hl:l.length<=1000)(f:α->β){step:Int×List β×Unit->Option ((Int×List β×Unit)⊕ρ)}{fin:List β->Option ρ}
  (h1:∀(i:Nat) (e:α) (s:List β),s.length=l.length->e∈l->i<l.length->decide ((i:Int)<(l.length:Int))=true->idx l (i:Int)=some e->aA .i64 (i:Int) 1=((i+1:Nat):Int)->step ((i:Int),s,())=some (.inl (((i+1:Nat):Int),s.set i (f e),())))
  (h2:∀s,decide ((l.length:Int)<(l.length:Int))=false->step ((l.length:Int),s,())=Option.map Sum.inr (fin s)) {s0:List β} (hs0:s0.length=l.length):aD step ((0:Int),s0,())=fin (l.map f):=by
 suffices key:∀(k i:Nat) (s:List β),i+k=l.length->s.length=l.length->aD step ((i:Int),s,())=fin (s.take i++(l.drop i).map f)by
  have:=key l.length 0 s0 (by omega) hs0
  simpa using this
 intro k
 induction k with
 |zero=>
  intro i s hi hs;obtain rfl:i=l.length:=by omega
  have hd:decide ((l.length:Int)<(l.length:Int))=false:=Qh (Qq64 _);have h:=h2 s hd;rw[Qq66,QO,List.append_nil,<-hs,Qq62];rw[<-hs]at h
  cases hf:fin s with
  |none=>rw[hf]at h;exact OT h
  |some r=>rw[hf]at h;exact bM h
 |succ k ih=>
  intro i s hi hs;have hlt:i<l.length:=by omega
  rw[bw (h1 i l[i] s hs (Q0 hlt) hlt (Qg (by omega)) (by rw[bf];exact Qv hlt) (bH (by omega) (by omega))),ih (i+1) (s.set i (f l[i])) (by omega) (by simpa using hs),
   QM hlt,QD]
  congr 1;rw[List.take_add_one,List.take_set_of_le (QI i),List.getElem?_set_self (by omega)]
  simp
def Kd(z:ah):List ah->ah
 |[]=>z
 |x::l=>l.foldl (λa y=>if bB a y=true then y else a) x
def PC(l:List ah)(hl:l.length<=1000000)(z:ah){step:Int×ah×Unit->Option ((Int×ah×Unit)⊕ah)}
  (h1:∀(i:Nat) (x s:ah),decide ((i:Int)<(l.length:Int))=true->idx l (i:Int)=some x->aA .i64 (i:Int) 1=((i+1:Nat):Int)->step ((i:Int),s,())=some (.inl (((i+1:Nat):Int),(if i=0 then x else if bB s x=true then x else s),())))
  (h2:∀s,decide ((l.length:Int)<(l.length:Int))=false->step ((l.length:Int),s,())=some (.inr s)):aD step ((0:Int),z,())=some (Kd z l):=by
 have hd:decide ((l.length:Int)<(l.length:Int))=false:=Qh (Qq64 _)
 have key:∀(k i:Nat) (s:ah),i+k=l.length->1<=i->aD step ((i:Int),s,())=some ((l.drop i).foldl (λa y=>if bB a y=true then y else a) s):=by
  intro k
  induction k with
  |zero=>
   intro i s hi h1i;obtain rfl:i=l.length:=by omega
   rw[Qq66];exact bM (h2 s hd)
  |succ k ih=>
   intro i s hi h1i;have hlt:i<l.length:=by omega
   rw[bw (h1 i l[i] s (Qg (by omega)) (by rw[bf];exact Qv hlt) (bH (by omega) (by omega))),ih (i+1) _ (by omega) (by omega),QM hlt,QU,Qs (by omega:¬i=0)]
 cases l with
 |nil=>exact bM (h2 z hd)
 |cons x l=>
  have hx:=h1 0 x z (Qg (by simp)) (by rw[bf];rfl) (bH (by omega) (by omega))
  rw[Qr rfl]at hx;exact(bw hx).trans (key l.length 1 x (by simp;omega) (by omega))
def af2(l:List ah)(hl:l.length<=1000000):qk l=some (Kd cd l):=by
 unfold qk;refine PC l hl cd (λi x s hd hx hw=> ?_) (λs hd=> ?_)
 ·simp only[hd,hx,hw,Qk,aS,Qa,kg]
  by_cases hi:i=0
  ·subst hi;rfl
  ·have:decide ((i:Int)=0)=false:=Qh (by omega)
   rw[this,Qs hi];cases bB s x<;>rfl
 ·simp only[hd,Ql,Qe]
def acY(l:List ah)(hl:l.length<=1000000):nQ l=some (Kd cd l):=by
 unfold nQ;refine PC l hl cd (λi x s hd hx hw=> ?_) (λs hd=> ?_)
 ·simp only[hd,hx,hw,Qk,aS,Qa,jR]
  by_cases hi:i=0
  ·subst hi;rfl
  ·have:decide ((i:Int)=0)=false:=Qh (by omega)
   rw[this,Qs hi];cases bB s x<;>rfl
 ·simp only[hd,Ql,Qe]
def dW(m:ab):ByteArray:=
 if aP m.ax=false then m.ax.Value else if m.aQ≠1 then m.ae.Value else if m.bg≠gw then m.bg else(Kd cd (m.ar.map (·.ae))).Value
def Rn{m:ab}(h:wE m):oA m=some (dW m):=by
 have hl:m.ar.length<=1000:=by have:=h.len;omega
 unfold oA dW;simp only[c6,Qa]
 cases hz:aP m.ax with
 |false=>rfl
 |true=>
  simp only[Qo,Ql,Bool.true_eq_false,Qu]
  by_cases h1:m.aQ=1
  ·rw[Qg h1,Qs (λh=>h h1)]
   simp only[Qo,Ql]
   by_cases hp:m.bg=gw
   ·have hp':decide (m.bg=bE)=true:=Qg hp;rw[hp',Qs (λh=>h hp)]
    simp only[Qo,Ql]
    rw[Fi m.ar hl (·.ae) (fin:=λs=>Option.bind (qk s) λr=>some r.Value) (λi e s hs he hd hx hw=>by
     simp only[hd,hx,hw,Qk,Qa]
     rw[bC (by simp;omega),Qk]) (λs hd=>by simp only[hd,Ql]),af2 _ (by simp;omega)]
    rfl
   ·have hp':decide (m.bg=bE)=false:=Qh hp;rw[hp',Qr hp];rfl
  ·rw[Qh h1,Qr h1];rfl
def Hk{e:ak}(h:cU e.aa)(hv:bc e=true):lR e=some (fG e):=by
 simp only[lR,etas,jU h,Qa,hv,fG]
 by_cases h3:e.bx=3
 ·rw[Qg h3,Qr h3];rfl
 ·rw[Qh h3,Qs h3];rfl
def Vc{e:ak}(h:cU e.aa)(hv:bc e=true):kl e=some (fG e):=by
 rw[W8 (KJ h)];have:gV (G5 e.aa) e=true:=hv;rw[this,Qr rfl]
def GS(m:ab)(n:Int):Nat:=fc (λe=>decide (n<fG e)) m.ar
 def jh(m:ab)(n:Int):Bool:=Bq (kI m.al.toNat m.aa (bN m)) m.al.toNat (GS m n)
def wE.Sa{m:ab}(h:wE m):w5 m.ar:=λe he=>kq (h.valid e he)
def TP{m:ab}(h:wE m)(n:Int):GS m n<1024:=mH h.Sa
def agG{m:ab}(h:wE m)(n:Int):uE m n=some (jh m n):=by
 have hl:m.ar.length<=1000:=by have:=h.len;omega
 unfold uE
 rw[Fi m.ar hl (λe=>decide (n<fG e)) (fin:=λs=>Option.bind (lJ m) λr4=>Option.bind (jj m.al m.aa r4) λr5=>Option.bind (gu m.ar s) λr6=>Option.bind (pL r5 m.al r6) λr7=>some r7)
  (λi e s hs he hd hx hw=>by
   simp only[hd,hx,hw,Qk,Qa,etas,Hk (h.sm e he) (h.valid e he)]
   rw[bC (by simp;omega),Qk])
  (λs hd=>by simp only[hd,Ql,etas])]
 have hv:=AV h.aG.2 (t:=m.aa) h.vb.1;have hb:=On (ou (aG:=m.al.toNat) h.aN h.vb.1) (v:=m.al.toNat) (TP h n);rw[h.aG.1]at hv hb;rw[P6 hl,Qa,hv,Qa,Bt m.ar hl _ (λe he _=>h.Sa e he),Qa,show fc (λe=>decide (n<fG e)) m.ar=GS m n from rfl,hb]
 rfl
 def nX(m:ab)(F0:Int)(e:ak):Int:=
 if m.ae.ai<fG e/\fG e<F0/\jh m (fG e)=false then fG e else F0
 def ix(m:ab):Int:=m.ar.foldl (nX m) 1000000
 def ow(m:ab):ByteArray:=if m.aQ=1 then dW m else m.ae.Value
 def fQ(m:ab):ab:=
 if m.aQ=3\/jh m m.ae.ai=false then m
 else{m with aZ:=if ow m=m.ae.Value then m.aZ else 0,ae:=⟨bF m.ae.ai (dt (ix m) 1000),ow m⟩}
open Classical in
def WA{m:ab}(h:wE m){ρ:Type}{step:Int×Int×Unit->Option ((Int×Int×Unit)⊕ρ)}{fin:Int->Option ρ}
  (h1:∀(i:Nat) (e:ak) (s:Int),e∈m.ar->decide ((i:Int)<(m.ar.length:Int))=true->idx m.ar (i:Int)=some e->aA .i64 (i:Int) 1=((i+1:Nat):Int)->step (s,(i:Int),())=some (.inl (nX m s e,((i+1:Nat):Int),())))
  (h2:∀s,decide ((m.ar.length:Int)<(m.ar.length:Int))=false->step (s,(m.ar.length:Int),())=Option.map Sum.inr (fin s)):aD step ((1000000:Int),(0:Int),())=fin (ix m):=by
 have hl:=h.len
 have key:=iB m.ar (by omega) (λi s=>(s,i,())) (λe s=>if e∈m.ar then some (.inl (nX m s e))else none) fin (step:=step) (λi x s hd hx hw=>by
  have hm:x∈m.ar:=by rw[bf]at hx;exact Q8 hx
  rw[h1 i x s hm hd hx hw,Qr hm]) (λs hd=>h2 s hd) 1000000
 refine key.trans ?_;unfold ix
 suffices h3:∀(l:List ak),(∀e∈l,e∈m.ar)->∀s,fK (λe s=>if e∈m.ar then some (Sum.inl (β:=ρ) (nX m s e))else none) fin l s=fin (l.foldl (nX m) s)from h3 _ (λe he=>he) _
 intro l
 induction l with
 |nil=>intro _ s;rfl
 |cons x l ih=>
  intro hx s;rw[fK,Qr (hx x Qx),QU];exact ih (λe he=>hx e (Qy _ he)) _
def adJ{m:ab}(h:wE m):w8 m=some (fQ m):=by
 unfold w8 fQ;simp only[etas,agG h,Rn h,Qa]
 by_cases h3:m.aQ=3
 ·rw[Qg h3,Qr (.inl h3)];rfl
 ·rw[Qh h3]
  cases ha:jh m m.ae.ai with
  |false=>rw[Qr (.inr rfl)];rfl
  |true=>
   rw[Qs (by simp[h3])]
   simp only[Ql,Qo];refine(WA h (fin:=λc=>some {m with aZ:=if ow m=m.ae.Value then m.aZ else 0,ae:=⟨bF m.ae.ai (dt c 1000),ow m⟩}) (λi e s he hd hx hw=> ?_) (λs hd=> ?_)).trans rfl
   ·simp only[hd,hx,hw,Qk,aS,Qa,Hk (h.sm e he) (h.valid e he)];unfold nX
    by_cases c1:m.ae.ai<fG e
    ·by_cases c2:fG e<s
     ·rw[Qg c1,Qg c2]
      cases c3:jh m (fG e)with
      |true=>rw[Qs (by simp)];rfl
      |false=>rw[Qr ⟨c1,c2,rfl⟩];rfl
     ·rw[Qg c1,Qh c2,Qs (λh=>c2 h.2.1)];rfl
    ·rw[Qh c1,Qs (λh=>c1 h.1)];rfl
   ·simp only[hd,Ql,aS];unfold ow
    by_cases h1:m.aQ=1
    ·rw[Qg h1,Qr h1]
     by_cases hv:dW m=m.ae.Value
     ·simp only[Qk,Qg hv,Qo,Ql,Qr hv]
     ·simp only[Qk,Qh hv,Qp,Qs hv]
    ·rw[Qh h1,Qs h1];simp only[Ql,decide_true,Qo,Qt]
end
section
def di(b:ah):Prop:=1<=b.ai/\b.ai<=1000/\1<=b.Value.size/\b.Value.size<=200
def di.valid{b:ah}(h:di b):cO b=true:=by
 obtain⟨h1,h2,h3,h4⟩:=h;simp only[cO,Qm,Qn,Qi];exact⟨⟨.inl ⟨h1,h2⟩,h3⟩,h4⟩
def di.finite{b:ah}(h:di b):finite b=true:=by
 unfold Go.Proofs.YtofedieniojipaaGreat.finite;rw[h.valid,Qg h.2.1];rfl
def Yx{b:ah}(h:cO b=true)(hc:b.ai<=1000):di b:=by
 simp only[cO,Qm,Qn,Qi]at h;obtain⟨⟨h1,h2⟩,h3⟩:=h;exact⟨by omega,hc,h2,h3⟩
def di.nz{b:ah}(h:di b):aP b=false:=OS h.1
def di.ne{b:ah}(h:di b):b.Value≠gw:=by
 intro e;have:=h.2.2.1;rw[e]at this;exact absurd this (by decide)
def yP{b:ah}:aP b=true↔b=cd:=by
 obtain⟨c,v⟩:=b;simp[aP,cd]
def bU:aP cd=true:=yP.2 rfl
structure P1 (m:ab):Prop where
 ba:m.aQ=1
 aT:di m.ae
 dF:m.ao=cd\/di m.ao
 bX:m.aC=cd\/(di m.aC/\di m.ao/\bB m.aC m.ao=true/\bQ m.aC m.ao=false)
 ed:m.ax=cd\/(di m.ax/\dY m.ao m.aC m.ax=true)
 up:bB m.ae m.ax=false
 cm:m.bq=0
 low:m.aZ=0\/(1<=m.aZ/\m.aZ<=fE m/\oP m.ao m.aC m.ae.Value m.aZ=false)
structure P2 (m:ab):Prop where
 ba:m.aQ=2
 aT:di m.ae
 dF:di m.ao/\m.ao.Value=m.ae.Value
 bX:m.aC=cd
 ed:m.ax=cd\/(di m.ax/\m.ax.Value=m.ae.Value)
 range:1<=m.aZ/\m.aZ<=m.bq/\m.bq<=m.ao.ai
structure P3 (m:ab):Prop where
 ba:m.aQ=3
 aT:di m.ae
 dF:m.ao=cd
 bX:m.aC=cd
 ed:m.ax=cd
 range:1<=m.aZ/\m.aZ<=m.bq/\m.bq<=1000
structure P0 (m:ab):Prop where
 ba:m.aQ=1
 aT:m.ae=cd
 dF:m.ao=cd
 bX:m.aC=cd
 ed:m.ax=cd
 low:m.aZ=0
 cm:m.bq=0
structure bs (m:ab):Prop where
 n0:0<=m.al
 n1:m.al<10
 aJ:1<=m.aK/\m.aK<=1000000
 seq:0<=m.aH/\m.aH<=1000000
 aN:dq m.aa
 tI:m.bg.size<=200
 hv:∀e∈m.ar,bc e=true/\dq e.aa/\e.aK=m.aK/\e.al≠m.al
 dn:m.ar.Pairwise (λa b=>a.al<b.al)
 body:P0 m\/P1 m\/P2 m\/P3 m
def N1:∀(l:List ak) (k:Nat),k<=10->(∀e∈l,(k:Int)<=e.al/\e.al<10)->l.Pairwise (λa b=>a.al<b.al)->l.length+k<=10
 |[],k,hk,_,_=>by simpa using hk
 |x::l,k,hk,h,hp=>by
  rw[Q4]at hp;have hx:=h x Qx;have:=N1 l (k+1) (by omega) (λe he=>⟨by have:=hp.1 e he;omega,(h e (Qy _ he)).2⟩) hp.2
  rw[QE];omega
def bs.len{m:ab}(h:bs m):m.ar.length<=10:=by
 have:=N1 m.ar 0 (by omega) (λe he=>by have:=kq (h.hv e he).1;omega) h.dn
 omega
def bs.ev{m:ab}(h:bs m):wE m:=
 ⟨h.n0,h.n1,h.aN.sm,by have:=h.len;omega,λe he=>(h.hv e he).2.1.sm,λe he=>(h.hv e he).1⟩
def Pv{m:ab}(h:P1 m):0<=fE m/\fE m<=m.ae.ai/\(fE m=0\/(di m.ax/\m.ax.Value=m.ae.Value/\fE m=m.ax.ai)):=by
 unfold fE;split
 ·rename_i hc;simp only[Qm,Bool.not_eq_true',bQ,Qi]at hc;rcases h.ed with e|⟨hf,_⟩
  ·rw[e,bU]at hc;cases hc.1
  ·have hup:=h.up;unfold bB at hup;split at hup
   ·rename_i e;exact⟨by have:=hf.1;omega,by omega,.inr ⟨hf,hc.2,rfl⟩⟩
   ·simp only[Qj]at hup;exact⟨by have:=hf.1;omega,by omega,.inr ⟨hf,hc.2,rfl⟩⟩
 ·exact⟨Int.le_refl _,by have:=h.aT.1;omega,.inl rfl⟩
def Tf{m:ab}(h:bs m)(hz:aP m.ae=false):bc (je m)=true:=by
 have hseq:1<=(je m).aH/\(je m).aH<=1000000:=by
  have h1:(je m).aH=bF m.aH 1:=by show bF (de m).aH 1=_;rw[Wd]
  have:=h.seq;rw[h1];unfold bF;split<;>omega
 have hnode:(je m).al=m.al:=yZ m;have hslot:(je m).aK=m.aK:=Ff m
 have hhead:zY (je m)=true:=by
  unfold zY;rw[hnode,hslot];simp only[Qm,Qi];exact⟨⟨⟨⟨⟨h.n0,h.n1⟩,h.aJ.1⟩,h.aJ.2⟩,hseq.1⟩,hseq.2⟩
 unfold bc;rw[OA,vC h.aN];unfold gV;rw[hhead];have hkind:(je m).bx=m.aQ:=abK m;rw[hkind];rcases h.body with h0|h1|h2|h3
 ·rw[h0.aT,bU]at hz;cases hz
 ·rw[Qr h1.ba];have hh:=Pv h1;have e:je m=⟨m.al,m.aK,bF (de m).aH 1,m.aa,m.aQ,m.ae,m.ao,m.aC,m.aZ,fE m⟩:=by unfold je de;rw[Qr h1.ba]
  have hp:(aP m.ao||cO m.ao)=true:=by
   rcases h1.dF with e|hf
   ·rw[e,bU];rfl
   ·rw[hf.valid,Bool.or_true]
  have hq:(aP m.aC||cO m.aC)=true:=by
   rcases h1.bX with e|hf
   ·rw[e,bU];rfl
   ·rw[hf.1.valid,Bool.or_true]
  have hpo:Dt (je m)=true:=by
   rw[e];unfold Dt;rcases h1.bX with e|⟨_,hf,hl,hc⟩
   ·simp only[e,bU,Bool.true_or]
   ·simp only[hf.nz,hl,hc,Qp,Bool.and_self,Bool.or_true]
  have hhp:(decide (fE m=0)||dY m.ao m.aC ⟨fE m,m.ae.Value⟩)=true:=by
   rcases hh.2.2 with e|⟨hf,hv,e⟩
   ·rw[Qg e];rfl
   ·rw[e,<-hv];rcases h1.ed with e2|⟨_,hp⟩
    ·have:=hf.nz;rw[e2,bU]at this;cases this
    ·rw[hp,Bool.or_true]
  have hlow:0<=m.aZ/\m.aZ<=fE m/\(decide (m.aZ=0)||(!eN m.ao ⟨m.aZ,m.ae.Value⟩&& !eN m.aC ⟨m.aZ,m.ae.Value⟩))=true:=by
   rcases h1.low with e|⟨h5,h6,h7⟩
   ·rw[e];exact⟨Int.le_refl _,hh.1,rfl⟩
   ·refine⟨by omega,h6,?_⟩
    unfold oP at h7;rw[Qq74]at h7;rw[h7.1,h7.2];simp
  unfold gW;rw[hpo];rw[e];unfold at_
  simp only[h1.aT.finite,hp,hq,Qg hlow.1,Qg hlow.2.1,Qg hh.2.1,hhp,hlow.2.2,Bool.and_self,decide_true]
 ·rw[Qs (by rw[h2.ba];decide),Qr h2.ba]
  have e:je m=⟨m.al,m.aK,bF (de m).aH 1,m.aa,m.aQ,m.ae,m.ao,cd,m.aZ,m.bq⟩:=by unfold je de;rw[Qs (by rw[h2.ba];decide),Qr h2.ba]
  have hc:m.bq<=1000:=by have:=h2.range.2.2;have:=h2.dF.1.2.1;omega
  unfold wa uw;rw[e];simp only[h2.aT.finite,h2.dF.1.valid,bQ,Qg h2.dF.2,bU,Qg h2.range.1,Qg h2.range.2.1,Qg h2.range.2.2,Qg hc,Bool.and_self,decide_true]
 ·rw[Qs (by rw[h3.ba];decide),Qs (by rw[h3.ba];decide),Qr h3.ba]
  have e:je m=⟨m.al,m.aK,bF (de m).aH 1,m.aa,m.aQ,m.ae,cd,cd,m.aZ,m.bq⟩:=by unfold je de;rw[Qs (by rw[h3.ba];decide),Qs (by rw[h3.ba];decide)]
  unfold BK uw;rw[e];simp only[h3.aT.valid,bU,Qg h3.range.1,Qg h3.range.2.1,Qg h3.range.2.2,Bool.and_self,decide_true]
def bs.Fp{m:ab}(h:bs m):∀e∈bN m,bc e=true:=by
 intro e he;rcases Ew he with he|⟨hz,rfl⟩
 ·exact(h.hv e he).1
 ·exact Tf h hz
def bs.afC{m:ab}(h:bs m){e:ak}(he:e∈bN m)(hn:e.al.toNat=m.al.toNat):aP m.ae=false/\e=je m:=by
 rcases Ew he with he|⟨hz,rfl⟩
 ·have h1:=(h.hv e he).2.2.2;have h2:=kq (h.hv e he).1;have:=h.n0;omega
 ·exact⟨hz,rfl⟩
end
section
def yV(a b:ah):bB a b=true↔a.ai<b.ai\/(a.ai=b.ai/\bO a.Value b.Value=true):=by
 unfold bB;split
 ·rename_i e;rw[e];simp
 ·rename_i e;simp only[Qi];constructor
  ·exact .inl
  ·rintro(h|h)
   ·exact h
   ·exact absurd h.1 e
def mZ{a b c:ah}(h:bB a b=true)(h':bB b c=true):bB a c=true:=ER.trans _ _ _ h h'
def abp(a:ah):bB a a=false:=ER.irrefl a
def JN{a b:ah}(h:bB a b=false)(h':a≠b):bB b a=true:=by
 cases h1:bB b a with
 |true=>rfl
 |false=>exact absurd (ER.total a b h h1) h'
def iX{a b:ah}(h:bB a b=true):a.ai<=b.ai:=by
 rw[yV]at h;omega
def M3{a b:ah}(h:bB a b=false):b.ai<=a.ai:=by
 rcases Int.lt_or_le a.ai b.ai with h1|h1
 ·rw[(yV a b).2 (.inl h1)]at h;cases h
 ·exact h1
def abn(v:ByteArray):bO v v=false:=jt.irrefl v
def Hz{a b:ah}(hv:a.Value=b.Value):bB a b=decide (a.ai<b.ai):=by
 unfold bB;split
 ·rename_i e;rw[hv,abn,e];simp
 ·rfl
def Ko{p x:ah}(h:jE p x=true):bB p x=false:=by
 obtain⟨_,h2,h3⟩:=(lM p x).1 h;rw[Hz h2,Qj];omega
def TH{p x q:ah}(h:jE p x=true)(hq:bB p q=true):bB x q=true:=by
 by_cases e:x=p
 ·rw[e];exact hq
 ·exact mZ (JN (Ko h) (λh=>e h.symm)) hq
def jy{a b:ah}:bQ a b=true↔a.Value=b.Value:=decide_eq_true_iff
def jn{a b:ah}:bQ a b=false↔a.Value≠b.Value:=Qj
def DQ(p q x:ah):dY p q x=true↔jE p x=true\/jE q x=true\/(aP q=false/\bB x q=true):=by
 unfold dY;simp only[Qn,Qm,Bool.not_eq_true'];exact⟨λh=>by rcases h with(h|h)|h<;>simp[h],λh=>by rcases h with h|h|h<;>simp[h]⟩
def uA(p q:ah):Prop:=(p=cd\/di p)/\(q=cd\/(di q/\di p/\bB q p=true/\bQ q p=false))
def P1.gW{m:ab}(h:P1 m):uA m.ao m.aC:=⟨h.dF,h.bX⟩
def Nw{b:ah}(h:di b):b≠cd:=λe=>by have:=h.nz;rw[e,bU]at this;cases this
inductive wZ (p q b:ah):ah->ah->Prop where
 |same:wZ p q b p q
 |first (hp:p=cd) (hq:q=cd):wZ p q b b cd
 |up (hp:di p) (hl:bB p b=true) (hc:p.Value=b.Value):wZ p q b b q
 |Hp (hp:di p) (hl:bB p b=true) (hc:p.Value≠b.Value):wZ p q b b p
 |under (hp:di p) (hl:bB b p=true) (hc:b.Value≠p.Value) (hq:q=cd\/bB q b=true):wZ p q b p b
def afT{p q b:ah}(h:uA p q)(hb:b=cd\/di b):wZ p q b (dx p q b).1 (dx p q b).2:=by
 unfold dx;rcases hb with rfl|hb
 ·rw[Qr bU];exact .same
 rw[Qs (by rw[hb.nz];decide)]
 rcases h.1 with rfl|hp
 ·have hq:q=cd:=by
   rcases h.2 with e|⟨_,e,_⟩
   ·exact e
   ·exact absurd rfl (Nw e)
  rw[Qr bU,hq];exact .first rfl rfl
 rw[Qs (by rw[hp.nz];decide)]
 by_cases hl:bB p b=true
 ·rw[Qr hl]
  by_cases hc:bQ p b=true
  ·rw[Qr hc]
   have hcq:bQ q b=false:=by
    rw[jy]at hc;rw[jn];rcases h.2 with rfl|⟨_,_,_,e⟩
    ·exact λe=>hb.ne e.symm
    ·rw[jn]at e;rw[<-hc];exact e
   rw[Qs (by rw[hcq];decide)]
   exact .up hp hl (jy.1 hc)
  ·rw[Qs hc];exact .Hp hp hl (jn.1 (by simpa using hc))
 ·rw[Qs hl];split
  ·rename_i hu;simp only[Qm,Qn,Bool.not_eq_true']at hu;refine .under hp hu.1.1 (jn.1 hu.1.2) ?_;rcases hu.2 with e|e
   ·exact .inl (yP.1 e)
   ·exact .inr e
  ·exact .same
def wZ.ok{p q b p' q':ah}(h:uA p q)(hb:b=cd\/di b)(hj:wZ p q b p' q'):uA p' q':=by
 have hbf:∀{x:ah},bB x b=true\/di b\/(di x/\bB b x=true)->True:=λ_=>trivial
 cases hj with
 |same=>exact h
 |first hp hq=>exact⟨hb,.inl rfl⟩
 |up hp hl hc=>
  have hb':di b:=by
   rcases hb with rfl|hb
   ·have h1:=iX hl;have h2:=hp.1;have:(cd:ah).ai=0:=rfl;omega
   ·exact hb
  refine⟨.inr hb',?_⟩;rcases h.2 with e|⟨h1,h2,h3,h4⟩
  ·exact .inl e
  ·refine .inr ⟨h1,hb',mZ h3 hl,?_⟩;rw[jn]at h4 ⊢;rw[<-hc];exact h4
 |Hp hp hl hc=>
  have hb':di b:=by
   rcases hb with rfl|hb
   ·have h1:=iX hl;have h2:=hp.1;have:(cd:ah).ai=0:=rfl;omega
   ·exact hb
  exact⟨.inr hb',.inr ⟨hp,hb',hl,jn.2 hc⟩⟩
 |under hp hl hc hq=>
  refine⟨.inr hp,?_⟩;rcases hb with e|hb
  ·exact .inl e
  ·exact .inr ⟨hb,hp,hl,jn.2 hc⟩
def wZ.mono{p q b p' q':ah}(h:uA p q)(hj:wZ p q b p' q'){x:ah}(hx:dY p q x=true):dY p' q' x=true:=by
 rw[DQ]at hx ⊢
 have hqp:aP q=false->bB q p=true:=λhz=>by
  rcases h.2 with e|⟨_,_,e,_⟩
  ·rw[e,bU]at hz;cases hz
  ·exact e
 have hcq:jE q x=true->aP q=false:=λhc=>((lM q x).1 hc).1
 cases hj with
 |same=>exact hx
 |first hp hq=>
  subst hp hq;rcases hx with hx|hx|hx
  ·have:=((lM _ _).1 hx).1;rw[bU]at this;cases this
  ·have:=((lM _ _).1 hx).1;rw[bU]at this;cases this
  ·rw[bU]at hx;cases hx.1
 |up hp hl hc=>
  rcases hx with hx|hx|hx
  ·obtain⟨h1,h2,h3⟩:=(lM _ _).1 hx;refine .inl ((lM _ _).2 ⟨?_,hc.symm.trans h2,Int.le_trans h3 (iX hl)⟩);have:=hp.1;have:=iX hl;exact OS (by omega)
  ·exact .inr (.inl hx)
  ·exact .inr (.inr hx)
 |Hp hp hl hc=>
  rcases hx with hx|hx|hx
  ·exact .inr (.inl hx)
  ·exact .inr (.inr ⟨hp.nz,TH hx (hqp (hcq hx))⟩)
  ·exact .inr (.inr ⟨hp.nz,mZ hx.2 (hqp hx.1)⟩)
 |under hp hl hc hq=>
  have hbz:aP q=false->bB q b=true:=λhz=>by
   rcases hq with e|e
   ·rw[e,bU]at hz;cases hz
   ·exact e
  have hbn:aP q=false->aP b=false:=λhz=>by
   have h1:=iX (hbz hz);rcases h.2 with e|⟨e,_⟩
   ·rw[e,bU]at hz;cases hz
   ·have:=e.1;exact OS (by omega)
  rcases hx with hx|hx|hx
  ·exact .inl hx
  ·exact .inr (.inr ⟨hbn (hcq hx),TH hx (hbz (hcq hx))⟩)
  ·exact .inr (.inr ⟨hbn hx.1,mZ hx.2 (hbz hx.1)⟩)
def acd{p:ah}{v:ByteArray}{n k:Int}(h:eN p ⟨n,v⟩=false)(hk:n<=k):eN p ⟨k,v⟩=false:=XL hk h
def UO{v:ByteArray}{n:Int}{x:ah}(hx:x=cd\/cO x=true):n<=xX v n x/\eN x ⟨xX v n x,v⟩=false:=by
 unfold xX;split
 ·rename_i hc;rw[Qm]at hc;have ha:=hc.2;unfold eN at ha;rw[Qm,Qm]at ha;have hle:n<=x.ai:=iX ha.2;split
  ·refine⟨by omega,?_⟩
   unfold eN;rw[Bool.and_eq_false_iff];right
   cases hl:bB ⟨x.ai+1,v⟩ x with
   |false=>rfl
   |true=>have:=iX hl;simp only at this;omega
  ·rename_i hn;exact⟨hle,by simpa using hn⟩
 ·rename_i hc;refine⟨Int.le_refl _,?_⟩;rcases hx with rfl|hv
  ·unfold eN;rw[bU];rfl
  ·rw[hv,Bool.true_and]at hc;simpa using hc
def Yn{v:ByteArray}{n:Int}{p q:ah}(hp:p=cd\/cO p=true)(hq:q=cd\/cO q=true):n<=lE v n p q/\1<=lE v n p q/\oP p q v (lE v n p q)=false:=by
 unfold lE;obtain⟨h1,h2⟩:=UO (v:=v) (n:=bF n 1) hp;obtain⟨h3,h4⟩:=UO (v:=v) (n:=xX v (bF n 1) p) hq;have hm:n<=bF n 1/\1<=bF n 1:=by unfold bF;split<;>omega
 refine⟨by omega,by omega,?_⟩
 unfold oP;rw[h4,Bool.or_false];exact acd h2 h3
def NY{v:ByteArray}{n:Int}{x:ah}(h:eN x ⟨n,v⟩=false):xX v n x=n:=by
 unfold xX;rw[h,Bool.and_false];rfl
def abl{v:ByteArray}{n:Int}{p q:ah}(h1:1<=n)(h:oP p q v n=false):lE v n p q=n:=by
 unfold oP at h;rw[Qq74]at h;have hm:bF n 1=n:=by unfold bF;split<;>omega
 unfold lE;rw[hm,NY h.1,NY h.2]
def uA.valid{p q:ah}(h:uA p q):(p=cd\/cO p=true)/\(q=cd\/cO q=true):=
 ⟨h.1.imp id di.valid,h.2.imp id λh=>h.1.valid⟩
def Y1{e:ak}(hv:bc e=true){x:ah}(hx:x∈said e)(hz:aP x=false):cO x=true:=by
 have hv':=hv;unfold bc gV at hv';unfold said at hx;rw[Qr hv]at hx;rw[Qm,Qm]at hv';have hb:=hv'.2
 by_cases h1:e.bx=1
 ·rw[Qr h1]at hb hx;unfold gW at hb;simp only[Qm,Qn]at hb;obtain⟨⟨⟨⟨⟨⟨⟨⟨hf,hp⟩,hq⟩,_⟩,_⟩,_⟩,_⟩,_⟩,_⟩:=hb;simp only[QA,QR,or_false]at hx;rcases hx with rfl|rfl|rfl
  ·unfold finite at hf;rw[Qm]at hf;exact hf.1
  ·rcases hp with hp|hp
   ·rw[hp]at hz;cases hz
   ·exact hp
  ·rcases hq with hq|hq
   ·rw[hq]at hz;cases hz
   ·exact hq
 ·rw[Qs h1]at hb hx
  have hinf:∀{b:ah},cO b=true->cO ⟨1000000,b.Value⟩=true:=by
   intro b hb;simp only[cO,Qm,Qn,Qi]at hb ⊢;exact⟨⟨.inr trivial,hb.1.2⟩,hb.2⟩
  by_cases h2:e.bx=2
  ·rw[Qr h2]at hb hx;unfold wa at hb;simp only[Qm]at hb;obtain⟨⟨⟨⟨⟨hf,hp⟩,hc⟩,_⟩,_⟩,_⟩:=hb;simp only[QA,QR,or_false]at hx;rcases hx with rfl|rfl
   ·exact hp
   ·unfold finite at hf;rw[Qm]at hf;exact hinf hf.1
  ·rw[Qs h2]at hb hx;simp only[QA,QR,or_false]at hx;subst hx
   by_cases h3:e.bx=3
   ·rw[Qr h3]at hb;unfold BK at hb;simp only[Qm]at hb;exact hinf hb.1.1.1
   ·rw[Qs h3]at hb;cases hb
def L9{e:ak}(hv:bc e=true):1<=e.ae.Value.size/\e.ae.Value.size<=200:=by
 have hv':=hv;unfold bc gV at hv';rw[Qm,Qm]at hv';have hb:=hv'.2
 have go:∀{b:ah},cO b=true->1<=b.Value.size/\b.Value.size<=200:=by
  intro b hb;simp only[cO,Qm,Qn,Qi]at hb;exact⟨hb.1.2,hb.2⟩
 have gof:∀{b:ah},finite b=true->1<=b.Value.size/\b.Value.size<=200:=by
  intro b hb;unfold finite at hb;rw[Qm]at hb;exact go hb.1
 by_cases h1:e.bx=1
 ·rw[Qr h1]at hb;unfold gW at hb;simp only[Qm]at hb;exact gof hb.1.1.1.1.1.1.1.1
 ·rw[Qs h1]at hb
  by_cases h2:e.bx=2
  ·rw[Qr h2]at hb;unfold wa at hb;simp only[Qm]at hb;exact gof hb.1.1.1.1.1
  ·rw[Qs h2]at hb
   by_cases h3:e.bx=3
   ·rw[Qr h3]at hb;unfold BK at hb;simp only[Qm]at hb;exact go hb.1.1.1
   ·rw[Qs h3]at hb;cases hb
def agB{b:ah}(h:cO b=true):di (eA b):=by
 simp only[cO,Qm,Qn,Qi]at h;obtain⟨⟨h1,h2⟩,h3⟩:=h;unfold eA;split
 ·exact⟨(by decide:(1:Int)<=1000),(by decide:(1000:Int)<=1000),h2,h3⟩
 ·exact⟨by omega,by omega,h2,h3⟩
def Wa{α:Type}{l:List α}{p:α->Bool}{z:α}:(l.find? p).getD z=z\/((l.find? p).getD z∈l/\p ((l.find? p).getD z)=true):=by
 cases h:l.find? p with
 |none=>exact .inl rfl
 |some x=>exact .inr ⟨List.mem_of_find?_eq_some h,List.find?_some h⟩
def IK{m:ab}(h:bs m){x:ah}(hx:x∈fh (bN m)):cO x=true:=by
 obtain⟨e,he,h1,h2⟩:=((pB h.ev.vb.1.aN h.ev.vb.2).2.2.2 x).1 hx;exact Y1 (h.Fp e he) h1 h2
def Ti{m:ab}(h:bs m):eX m=cd\/(cO (eX m)=true/\(Ja m=gw\/(eX m).Value=Ja m)/\dY (qP m.ao) (qP m.aC) (eX m)=false/\pA m.al.toNat m.aa (bN m) (eX m)=true):=by
 unfold eX jV;rcases Wa (l:=fh (bN m)) (p:=C9 (pA m.al.toNat m.aa (bN m)) m.ao m.aC (Ja m)) (z:=Ix)with e|⟨h1,h2⟩
 ·exact .inl e
 ·right;unfold C9 at h2;simp only[Qm,Qn,Bool.not_eq_true',Qi]at h2;exact⟨IK h h1,h2.1.1,h2.1.2,h2.2⟩
def Ab{m:ab}(h:bs m):eA (eX m)=cd\/di (eA (eX m)):=by
 rcases Ti h with e|⟨h1,_⟩
 ·left;rw[e];decide
 ·exact .inr (agB h1)
def KX{m:ab}(h:bs m)(h1:uA m.ao m.aC):wZ m.ao m.aC (eA (eX m)) (dx m.ao m.aC (eA (eX m))).1 (dx m.ao m.aC (eA (eX m))).2:=afT h1 (Ab h)
def P2.gW{m:ab}(h:P2 m):uA m.ao m.aC:=⟨.inr h.dF.1,.inl h.bX⟩
def afs{m:ab}(h:bs m)(h1:P1 m):P1 (c8 m):=by
 unfold c8;rw[Qs (by rw[h1.ba,h1.aT.nz];decide)]
 have hj:=KX h h1.gW;generalize (dx m.ao m.aC (eA (eX m))).1=p at hj;generalize (dx m.ao m.aC (eA (eX m))).2=q at hj;have hok:=hj.ok h1.gW (Ab h);refine⟨h1.ba,h1.aT,hok.1,hok.2,?_,h1.up,h1.cm,?_⟩
 ·rcases h1.ed with e|⟨hf,hp⟩
  ·exact .inl e
  ·exact .inr ⟨hf,hj.mono h1.gW hp⟩
 ·show tM m p q=0\/(1<=tM m p q/\tM m p q<=fE m/\oP p q m.ae.Value (tM m p q)=false);unfold tM
  by_cases hL:m.aZ=0
  ·rw[Qs (λh=>h.2 hL)];exact .inl hL
  ·rw[Qr ⟨h1.ba,hL⟩];split
   ·exact .inl rfl
   ·rename_i hlt;obtain⟨h2,h3,h4⟩:=Yn (v:=m.ae.Value) (n:=m.aZ) hok.valid.1 hok.valid.2;exact .inr ⟨h3,by omega,h4⟩
def X5{m:ab}(h:bs m)(h2:P2 m):P2 (c8 m)/\m.ao.ai<=(c8 m).ao.ai/\(c8 m).aC=cd:=by
 unfold c8;rw[Qs (by rw[h2.ba,h2.aT.nz];decide)]
 have hv:eA (eX m)=cd\/(eA (eX m)).Value=m.ae.Value:=by
  rcases Ti h with e|⟨h3,h4,_⟩
  ·left;rw[e];decide
  ·right;have hc:(eA (eX m)).Value=(eX m).Value:=by unfold eA;split<;>rfl
   have hvo:Ja m=m.ae.Value:=Qr h2.ba;rw[hvo]at h4;rw[hc];exact h4.resolve_left h2.aT.ne
 have hj:=KX h h2.gW;have hlow:∀p q,tM m p q=m.aZ:=λp q=>Qs (λh=>by have:=h.1;rw[h2.ba]at this;cases this)
 simp only[hlow];have hok:=hj.ok h2.gW (Ab h);generalize (dx m.ao m.aC (eA (eX m))).1=p at hj hok;generalize (dx m.ao m.aC (eA (eX m))).2=q at hj hok;generalize hb:eA (eX m)=b at hj hv
 have key:di p/\p.Value=m.ae.Value/\m.ao.ai<=p.ai/\q=cd:=by
  cases hj with
  |same=>exact⟨h2.dF.1,h2.dF.2,Int.le_refl _,h2.bX⟩
  |first hp hq=>exact absurd hp (Nw h2.dF.1)
  |up hp hl hc=>exact⟨hok.1.resolve_left (λe=>by have:=iX hl;rw[e]at this;have h9:=h2.dF.1.1;have:(cd:ah).ai=0:=rfl;omega),hc.symm.trans h2.dF.2,iX hl,h2.bX⟩
  |Hp hp hl hc=>
   exfalso;rcases hv with e|e
   ·have:=iX hl;rw[e]at this;have h9:=h2.dF.1.1;have:(cd:ah).ai=0:=rfl;omega
   ·exact hc (h2.dF.2.trans e.symm)
  |under hp hl hc hq=>
   rcases hv with e|e
   ·exact⟨h2.dF.1,h2.dF.2,Int.le_refl _,e⟩
   ·exact absurd (e.trans h2.dF.2.symm) hc
 exact⟨⟨h2.ba,h2.aT,⟨key.1,key.2.1⟩,key.2.2.2,h2.ed,⟨h2.range.1,h2.range.2.1,Int.le_trans h2.range.2.2 key.2.2.1⟩⟩,key.2.2.1,key.2.2.2⟩
def S8{m:ab}(h:bs m):bs (c8 m):=by
 have hid:m.aQ=3\/aP m.ae=true->c8 m=m:=λhc=>Qr hc
 have mk:(P0 (c8 m)\/P1 (c8 m)\/P2 (c8 m)\/P3 (c8 m))->bs (c8 m):=by
  intro hb;unfold c8 at hb ⊢;split at hb
  ·rename_i hc;rw[Qr hc];exact h
  ·rename_i hc;rw[Qs hc];exact⟨h.n0,h.n1,h.aJ,h.seq,h.aN,h.tI,h.hv,h.dn,hb⟩
 rcases h.body with h0|h1|h2|h3
 ·rw[hid (.inr (by rw[h0.aT];exact bU))];exact h
 ·exact mk (.inr (.inl (afs h h1)))
 ·exact mk (.inr (.inr (.inl (X5 h h2).1)))
 ·rw[hid (.inl h3.ba)];exact h
end
section
end
section
def vY(q:Int->Bool):∀(r:List Int) (lo:Int),df q r lo<=lo
 |[],lo=>Int.le_refl _
 |e::r,lo=>by
  rw[df];split
  ·exact vY q r lo
  ·split
   ·exact Int.le_trans (vY q r e) (by omega)
   ·exact Int.le_refl _
def Ek(q:Int->Bool):∀(r:List Int) (lo:Int),df q r lo=lo\/q (df q r lo)=true/\df q r lo∈r
 |[],lo=> .inl rfl
 |e::r,lo=>by
  rw[df];split
  ·exact(Ek q r lo).imp id λh=>⟨h.1,by simp[h.2]⟩
  ·split
   ·rename_i hq;rcases Ek q r e with h|h
    ·exact .inr ⟨by rw[h];exact hq,by rw[h];simp⟩
    ·exact .inr ⟨h.1,by simp[h.2]⟩
   ·exact .inl rfl
def El(q:Int->Bool)(r:List Int)(lo:Int)(h:∀x∈r,1<=x)(h1:1<=lo):1<=df q r lo:=by
 rcases Ek q r lo with e|⟨_,e⟩
 ·omega
 ·exact h _ e
section
variable {aG : Nat} {t : aj} {l : List ak} (p q : ah)
end
end
section
def aeQ{m:ab}(h:bs m){p:ak->Bool}(hb:(fc p (cZ (bN m))).testBit m.al.toNat=true):aP m.ae=false/\p (je m)=true:=by
 rw[AP,List.any_eq_true]at hb;obtain⟨e,he,hp⟩:=hb;rw[Qm,Qi]at hp;obtain⟨h1,h2⟩:=h.afC ((List.mem_filter.1 he).1) hp.2;rw[<-h2];exact⟨h1,hp.1⟩
def Wt{m:ab}(h:bs m){b:ah}(hc:nu m.al.toNat m.aa (bN m) b=true):aP m.ae=false/\eo (je m) b=true:=by
 have hsm:=ou (aG:=m.al.toNat) h.aN.sm h.ev.vb.1;have hg:=HV hsm (mH (p:=(eo · b)) (nr (bN m)));exact aeQ h (hg.inside _ hc).1
def Xq{m:ab}(h1:m.aQ=1){b:ah}(ha:eo (je m) b=true):aP b=false/\dY m.ao m.aC b=true:=by
 have e:je m=⟨m.al,m.aK,bF (de m).aH 1,m.aa,m.aQ,m.ae,m.ao,m.aC,m.aZ,fE m⟩:=by unfold je de;rw[Qr h1]
 rw[e]at ha;unfold eo at ha;rw[Qm,Qr h1]at ha;simpa using ha
def abx{m:ab}(h:bs m)(h1:P1 m):gS m=cd\/(di (gS m)/\bB m.ax (gS m)=true/\dY m.ao m.aC (gS m)=true):=by
 unfold gS zX;rcases Wa (l:=fh (bN m)) (p:=Dg (nu m.al.toNat m.aa (bN m)) m.ax) (z:=Ix)with e|⟨h2,h3⟩
 ·exact .inl e
 ·right;unfold Dg at h3;simp only[Qm,Qi]at h3;exact⟨Yx (IK h h2) h3.1.2,h3.1.1,(Xq h1.ba (Wt h h3.2).2).2⟩
def afS{p q b:ah}{v:ByteArray}{n:Int}(hok:uA p q)(hb:dY p q b=true)(hv:b.Value≠v)(ha:oP p q v n=false):b.ai<=n:=by
 unfold oP at ha;rw[Qq74]at ha
 have key:∀x:ah,aP x=false->x.Value≠v->eN x ⟨n,v⟩=false->x.ai<=n:=by
  intro x hz hx h;unfold eN at h;rw[hz,(jn (a:=x) (b:=⟨n,v⟩)).2 hx,Qp,Bool.and_self,Bool.true_and]at h;exact M3 h
 have hqp:aP q=false->di q/\di p/\bB q p=true/\q.Value≠p.Value:=λhz=>by
  rcases hok.2 with e|⟨e1,e2,e3,e4⟩
  ·rw[e,bU]at hz;cases hz
  ·exact⟨e1,e2,e3,jn.1 e4⟩
 rw[DQ]at hb;rcases hb with hb|hb|⟨hz,hl⟩
 ·obtain⟨h1,h2,h3⟩:=(lM _ _).1 hb;have:=key p h1 (by rw[h2];exact hv) ha.1
  omega
 ·obtain⟨h1,h2,h3⟩:=(lM _ _).1 hb;have:=key q h1 (by rw[h2];exact hv) ha.2
  omega
 ·obtain⟨e1,e2,e3,e4⟩:=hqp hz;have h5:=iX hl
  by_cases hqv:q.Value=v
  ·have:=key p e2.nz (by rw[<-hqv];exact λe=>e4 e.symm) ha.1
   have:=iX e3;omega
  ·have:=key q hz hqv ha.2;omega
def ai8{m:ab}(h1:P1 m){b:ah}(hb:di b)(hl:bB m.ax b=true)(hp:dY m.ao m.aC b=true):P1 (CS m b)/\(CS m b).ao=m.ao/\(CS m b).aC=m.aC/\(CS m b).ax=b/\m.ae.ai<=(CS m b).ae.ai:=by
 unfold CS;have hh:=Pv h1;split
 ·rename_i hlt
  have hhigh:∀L:Int,fE {m with ax:=b,ae:=b,aZ:=L}=b.ai:=by
   intro L;unfold fE;rw[Qr];rw[hb.nz,jy.2 rfl];rfl
  refine⟨⟨h1.ba,hb,h1.dF,h1.bX,.inr ⟨hb,hp⟩,abp b,h1.cm,?_⟩,rfl,rfl,rfl,iX hlt⟩;show(if bQ m.ae b=true then m.aZ else 0)=0\/(1<=(if bQ m.ae b=true then m.aZ else 0)/\(if bQ m.ae b=true then m.aZ else 0)<=fE {m with ax:=b,ae:=b,aZ:=if bQ m.ae b=true then m.aZ else 0}/\oP m.ao m.aC b.Value (if bQ m.ae b=true then m.aZ else 0)=false)
  rw[hhigh];split
  ·rename_i hc;rw[jy]at hc;rcases h1.low with e|⟨h2,h3,h4⟩
   ·exact .inl e
   ·refine .inr ⟨h2,?_,by rw[<-hc];exact h4⟩
    have:=iX hlt;omega
  ·exact .inl rfl
 ·rename_i hlt;have hlt:bB m.ae b=false:=by simpa using hlt
  refine⟨⟨h1.ba,h1.aT,h1.dF,h1.bX,.inr ⟨hb,hp⟩,hlt,h1.cm,?_⟩,rfl,rfl,rfl,Int.le_refl _⟩;rcases h1.low with e|⟨h2,h3,h4⟩
  ·exact .inl e
  ·refine .inr ⟨h2,?_,h4⟩;show m.aZ<=fE {m with ax:=b}
   have hv:b.Value=m.ae.Value:=by
    refine Classical.byContradiction λhv=> ?_
    have h5:=afS h1.gW hp hv h4;have h6:=iX hl;rcases hh.2.2 with e|⟨e1,e2,e3⟩
    ·omega
    ·
     have e4:bB b m.ax=false:=ER.asymm hl;have e5:=hl;rw[yV]at e5;have hbc:b.ai=m.ax.ai:=by omega
     have hlow:m.aZ=m.ax.ai:=by omega
     have e6:bB ⟨m.aZ,m.ae.Value⟩ b=true:=by
      have:(⟨m.aZ,m.ae.Value⟩:ah)=m.ax:=by rw[hlow,<-e2]
      rw[this];exact hl
     unfold oP at h4;rw[Qq74]at h4
     have key:∀x:ah,aP x=false->x.Value≠m.ae.Value->eN x ⟨m.aZ,m.ae.Value⟩=false->bB ⟨m.aZ,m.ae.Value⟩ x=false:=by
      intro x hz hx h;unfold eN at h;rw[hz,(jn (a:=x) (b:=⟨m.aZ,m.ae.Value⟩)).2 hx,Qp,Bool.and_self,Bool.true_and]at h;exact h
     rw[DQ]at hp;rcases hp with hp|hp|⟨hz,hq⟩
     ·obtain⟨g1,g2,g3⟩:=(lM _ _).1 hp;have g4:=key _ g1 (by rw[g2];exact hv) h4.1
      have g5:bB ⟨m.aZ,m.ae.Value⟩ m.ao=true:=by
       by_cases e:b=m.ao
       ·rw[<-e];exact e6
       ·exact mZ e6 (JN (Ko hp) (λe'=>e e'.symm))
      rw[g5]at g4;cases g4
     ·obtain⟨g1,g2,g3⟩:=(lM _ _).1 hp;have g4:=key _ g1 (by rw[g2];exact hv) h4.2
      have g5:bB ⟨m.aZ,m.ae.Value⟩ m.aC=true:=by
       by_cases e:b=m.aC
       ·rw[<-e];exact e6
       ·exact mZ e6 (JN (Ko hp) (λe'=>e e'.symm))
      rw[g5]at g4;cases g4
     ·rcases h1.bX with e|⟨f1,f2,f3,f4⟩
      ·rw[e,bU]at hz;cases hz
      ·by_cases hqv:m.aC.Value=m.ae.Value
       ·have g4:=key _ f2.nz (by rw[<-hqv];exact λe=>(jn.1 f4) e.symm) h4.1
        rw[mZ e6 (mZ hq f3)]at g4;cases g4
       ·have g4:=key _ hz hqv h4.2;rw[mZ e6 hq]at g4;cases g4
   have hhigh:fE {m with ax:=b}=b.ai:=by
    unfold fE;rw[Qr];show(!aP b&&bQ b m.ae)=true;rw[hb.nz,jy.2 hv];rfl
   rw[hhigh];rcases hh.2.2 with e|⟨e1,e2,e3⟩
   ·omega
   ·have:=iX hl;omega
def aeS{m:ab}(h1:P1 m){b:ah}(hb:di b)(hc:m.ax=b):P1 (q7 m b):=by
 unfold q7;split
 ·rename_i hv;obtain⟨hL,hcp,hle⟩:=hv;rw[jy]at hcp;refine⟨h1.ba,h1.aT,h1.dF,h1.bX,h1.ed,h1.up,h1.cm,?_⟩;obtain⟨h2,h3,h4⟩:=Yn (v:=b.Value) (n:=m.ae.ai) h1.gW.valid.1 h1.gW.valid.2;refine .inr ⟨h3,?_,by show oP m.ao m.aC m.ae.Value _=false;rw[hcp];exact h4⟩
  show lE b.Value m.ae.ai m.ao m.aC<=fE {m with aZ:=lE b.Value m.ae.ai m.ao m.aC}
  have hhigh:fE {m with aZ:=lE b.Value m.ae.ai m.ao m.aC}=b.ai:=by
   unfold fE;rw[Qr]
   ·show m.ax.ai=_;rw[hc]
   ·show(!aP m.ax&&bQ m.ax m.ae)=true;rw[hc,hb.nz,jy.2 hcp.symm];rfl
  rw[hhigh];exact hle
 ·exact h1
def YQ(m:ab)(b:ah):(q7 m b).ao=m.ao/\(q7 m b).aC=m.aC/\(q7 m b).ax=m.ax/\(q7 m b).ae=m.ae:=by
 unfold q7;split<;>exact⟨rfl,rfl,rfl,rfl⟩
def vI{m:ab}(h:m.aQ≠1\/aP m.ae=true\/aP (gS m)=true):gB m=m:=Qr h
def E6{m m':ab}(h:bs m)(he:m'.al=m.al/\m'.aK=m.aK/\m'.aH=m.aH/\m'.aa=m.aa/\m'.bg=m.bg/\m'.ar=m.ar)(hb:P0 m'\/P1 m'\/P2 m'\/P3 m'):bs m':=by
 obtain⟨e1,e2,e3,e4,e5,e6⟩:=he;exact⟨by rw[e1];exact h.n0,by rw[e1];exact h.n1,by rw[e2];exact h.aJ,by rw[e3];exact h.seq,by rw[e4];exact h.aN,by rw[e5];exact h.tI,by rw[e6,e1,e2];exact h.hv,by rw[e6];exact h.dn,hb⟩
structure iZ (m m':ab):Prop where
 aG:m'.al=m.al
 aJ:m'.aK=m.aK
 seq:m'.aH=m.aH
 aN:m'.aa=m.aa
 tI:m'.bg=m.bg
 heard:m'.ar=m.ar
def iZ.refl(m:ab):iZ m m:=⟨rfl,rfl,rfl,rfl,rfl,rfl⟩
def iZ.all{m m':ab}(h:iZ m m'):m'.al=m.al/\m'.aK=m.aK/\m'.aH=m.aH/\m'.aa=m.aa/\m'.bg=m.bg/\m'.ar=m.ar:=⟨h.aG,h.aJ,h.seq,h.aN,h.tI,h.heard⟩
def BX(m:ab):iZ m (c8 m):=by unfold c8;split<;>exact⟨rfl,rfl,rfl,rfl,rfl,rfl⟩
def af4(m:ab)(b:ah):iZ m (CS m b):=by unfold CS;split<;>exact⟨rfl,rfl,rfl,rfl,rfl,rfl⟩
def aaA(m:ab)(b:ah):iZ m (q7 m b):=by unfold q7;split<;>exact⟨rfl,rfl,rfl,rfl,rfl,rfl⟩
def yS(m:ab):iZ m (gB m):=by
 unfold gB;split
 ·exact .refl m
 ·have h1:=aaA (CS m (gS m)) (gS m);have h2:=af4 m (gS m);exact⟨h1.aG.trans h2.aG,h1.aJ.trans h2.aJ,h1.seq.trans h2.seq,h1.aN.trans h2.aN,h1.tI.trans h2.tI,h1.heard.trans h2.heard⟩
def yU(m:ab):iZ m (fW m):=by
 unfold fW NJ Cd;split
 ·split<;>exact⟨rfl,rfl,rfl,rfl,rfl,rfl⟩
 ·split<;>exact⟨rfl,rfl,rfl,rfl,rfl,rfl⟩
def yT(m:ab):iZ m (ja m):=by unfold ja PK;split<;>exact⟨rfl,rfl,rfl,rfl,rfl,rfl⟩
def BY(m:ab):iZ m (fQ m):=by unfold fQ;split<;>exact⟨rfl,rfl,rfl,rfl,rfl,rfl⟩
def RE{m:ab}(h:bs m)(h1:P1 m):P1 (gB m)/\(gB m=m\/((gB m).ao=m.ao/\(gB m).aC=m.aC/\bB m.ax (gB m).ax=true/\m.ae.ai<=(gB m).ae.ai)):=by
 unfold gB;split
 ·exact⟨h1,.inl rfl⟩
 ·rename_i hc;rcases abx h h1 with e|⟨hf,hl,hp⟩
  ·exact absurd (.inr (.inr (by rw[e];exact bU))) hc
  ·obtain⟨g1,g2,g3,g4,g5⟩:=ai8 h1 hf hl hp;obtain⟨v1,v2,v3,v4⟩:=YQ (CS m (gS m)) (gS m);exact⟨aeS g1 hf g4,.inr ⟨v1.trans g2,v2.trans g3,by rw[v3,g4];exact hl,by rw[v4];exact g5⟩⟩
def S7{m:ab}(h:bs m):bs (gB m):=by
 rcases h.body with h0|h1|h2|h3
 ·rw[vI (.inr (.inl (by rw[h0.aT];exact bU)))];exact h
 ·exact E6 h (yS m).all (.inr (.inl (RE h h1).1))
 ·rw[vI (.inl (by rw[h2.ba];decide))];exact h
 ·rw[vI (.inl (by rw[h3.ba];decide))];exact h
def Bp{m:ab}(h:bs m)(v:ByteArray):∀x∈bu (bN m) v,1<=x/\x<=1000:=Fm h.ev.vb.1 h.ev.vb.2 v
def acm{m:ab}(h:bs m):∀v∈gF (bN m),1<=v.size/\v.size<=200:=by
 intro v hv;obtain⟨e,he,h1,h2⟩:=((wG h.ev.vb.1.aN h.ev.vb.2).2.2.2 v).1 hv;rw[h2];exact L9 h1
def Z9{m:ab}(h:bs m){x:ByteArray->Int->Int->Bool}{p q:ah}:(ic x (bN m) p q).1=false\/(di (ic x (bN m) p q).2/\(ic x (bN m) p q).2.Value∈gF (bN m)/\(ic x (bN m) p q).2.ai∈bu (bN m) (ic x (bN m) p q).2.Value/\
  oP p q (ic x (bN m) p q).2.Value (ic x (bN m) p q).2.ai=false/\x (ic x (bN m) p q).2.Value (ic x (bN m) p q).2.ai (ic x (bN m) p q).2.ai=true):=by
 let G:Bool×ah->Prop:=λs=>s.1=false\/(di s.2/\s.2.Value∈gF (bN m)/\s.2.ai∈bu (bN m) s.2.Value/\oP p q s.2.Value s.2.ai=false/\x s.2.Value s.2.ai s.2.ai=true)
 have inner:∀(v:ByteArray),v∈gF (bN m)->∀(b:List Int),(∀n∈b,n∈bu (bN m) v)->∀s,G s->G (b.foldl (fX x p q v) s):=by
  intro v hv b
  induction b with
  |nil=>intro _ s hs;exact hs
  |cons n b ih=>
   intro hb s hs;rw[QU];refine ih (λk hk=>hb k (Qy _ hk)) _ ?_
   unfold fX;split
   ·rename_i hc;simp only[Qm,Bool.not_eq_true']at hc;have hn:=hb n Qx;have h1:=Bp h v n hn;have h2:=acm h v hv;exact .inr ⟨⟨h1.1,h1.2,h2.1,h2.2⟩,hv,hn,hc.1.2,hc.2⟩
   ·exact hs
 have outer:∀(vs:List ByteArray),(∀v∈vs,v∈gF (bN m))->∀s,G s->G (vs.foldl (λs v=>(bu (bN m) v).foldl (fX x p q v) s) s):=by
  intro vs
  induction vs with
  |nil=>intro _ s hs;exact hs
  |cons v vs ih=>
   intro hv s hs;rw[QU];exact ih (λu hu=>hv u (Qy _ hu)) _ (inner v (hv v Qx) _ (λn hn=>hn) s hs)
 exact outer _ (λv hv=>hv) (false,⟨0,gw⟩) (.inl rfl)
structure ajv (m:ab) (v:ByteArray) (lo hi:Int):Prop where
 fin:di ⟨hi,v⟩
 lo1:1<=lo
 le:lo<=hi
 val:v∈gF (bN m)
 top:iu m v hi hi=true
 all:iu m v lo hi=true
def PD{m:ab}(h:bs m)(hk:(fS m).2.2.2.1=true):ajv m (fS m).1 (fS m).2.1 (fS m).2.2.1:=by
 rcases Z9 (x:=iu m) (p:=m.ao) (q:=m.aC) h with e|⟨h1,h2,h3,h4,h5⟩
 ·unfold fS rB at hk;rw[e]at hk;cases hk
 ·have hb:(ic (iu m) (bN m) m.ao m.aC).1=true:=by
   unfold fS rB at hk;split at hk
   ·assumption
   ·cases hk
  have e:fS m=((ic (iu m) (bN m) m.ao m.aC).2.Value,df (λn=> !oP m.ao m.aC (ic (iu m) (bN m) m.ao m.aC).2.Value n&&iu m (ic (iu m) (bN m) m.ao m.aC).2.Value n (ic (iu m) (bN m) m.ao m.aC).2.ai) (bu (bN m) (ic (iu m) (bN m) m.ao m.aC).2.Value).reverse (ic (iu m) (bN m) m.ao m.aC).2.ai,(ic (iu m) (bN m) m.ao m.aC).2.ai,true,()):=by
   unfold fS rB;rw[Qr hb]
  rw[e];refine⟨h1,El _ _ _ (λx hx=>(Bp h _ x (List.mem_reverse.1 hx)).1) h1.1,vY _ _ _,h2,h5,?_⟩
  simp only;rcases Ek (λn=> !oP m.ao m.aC (ic (iu m) (bN m) m.ao m.aC).2.Value n&&iu m (ic (iu m) (bN m) m.ao m.aC).2.Value n (ic (iu m) (bN m) m.ao m.aC).2.ai) (bu (bN m) (ic (iu m) (bN m) m.ao m.aC).2.Value).reverse (ic (iu m) (bN m) m.ao m.aC).2.ai with e|⟨e,_⟩
  ·rw[e];exact h5
  ·rw[Qm]at e;exact e.2
def Wu{m:ab}(hb0:m.ae=cd\/di m.ae)(hp0:m.ao=cd\/di m.ao){v:ByteArray}{lo hi:Int}(hf:di ⟨hi,v⟩)(hlo:1<=lo)(hle:lo<=hi):P2 (NJ m v lo hi):=by
 unfold NJ
 have hmax:di ⟨bF m.ae.ai hi,v⟩:=by
  rcases hb0 with e|h2
  ·have:bF m.ae.ai hi=hi:=by
    have h3:=hf.1;simp only at h3;have h4:m.ae.ai=0:=by rw[e];rfl
    unfold bF;split<;>omega
   rw[this];exact hf
  ·have:bF m.ae.ai hi=m.ae.ai\/bF m.ae.ai hi=hi:=by unfold bF;split<;>simp
   rcases this with e|e<;>rw[e]
   ·exact⟨h2.1,h2.2.1,hf.2.2⟩
   ·exact hf
 have hbv:∀b:ah,b=(if(!bQ m.ae ⟨hi,v⟩||bB m.ae ⟨hi,v⟩)=true then⟨bF m.ae.ai hi,v⟩else m.ae)->di b/\b.Value=v:=by
  intro b hb;split at hb
  ·rw[hb];exact⟨hmax,rfl⟩
  ·rename_i hc;rw[hb];simp only[Qn,Bool.not_eq_true',not_or,Bool.not_eq_false]at hc;refine⟨hb0.resolve_left (λe=> ?_),jy.1 hc.1⟩
   have:=jy.1 hc.1;rw[e]at this;exact hf.ne this.symm
 obtain⟨b1,b2⟩:=hbv _ rfl
 have hpv:∀p:ah,p=(if jE m.ao ⟨hi,v⟩=true then m.ao else⟨hi,v⟩)->di p/\p.Value=v/\hi<=p.ai:=by
  intro p hp;split at hp
  ·rename_i hc;rw[hp];obtain⟨g1,g2,g3⟩:=(lM _ _).1 hc;refine⟨?_,g2,g3⟩;rcases hp0 with e|e
   ·rw[e,bU]at g1;cases g1
   ·exact e
  ·rw[hp];exact⟨hf,rfl,Int.le_refl _⟩
 obtain⟨p1,p2,p3⟩:=hpv _ rfl;exact⟨rfl,b1,⟨p1,p2.trans b2.symm⟩,rfl,.inr ⟨hf,b2.symm⟩,⟨hlo,hle,p3⟩⟩
def Wc{m:ab}(h:bs m)(h2:P2 m):1<=(eS m).1/\(eS m).1<=(eS m).2/\(eS m).2<=1000/\(((eS m).2=m.bq/\(eS m).1<=m.aZ)\/m.bq<(eS m).2):=by
 have hr:=h2.range;have hH:m.bq<=1000:=by have:=h2.dF.1.2.1;omega
 have hb:∀x∈(bu (bN m) m.ae.Value).reverse,1<=x:=λx hx=>(Bp h _ x (List.mem_reverse.1 hx)).1
 unfold eS FW;split
 ·refine⟨El _ _ _ hb hr.1,?_,hH,.inl ⟨rfl,vY _ _ _⟩⟩;exact Int.le_trans (vY _ _ _) hr.2.1
 ·rename_i n hn;have hnb:=Bp h _ n (List.mem_reverse.1 (List.mem_of_find?_eq_some hn));have hnp:=List.find?_some hn;simp only[Qm,Qi]at hnp;have h5:1<=df (λx=>iu m m.ae.Value x n) (bu (bN m) m.ae.Value).reverse n:=El _ _ _ hb hnb.1
  have h6:=vY (λx=>iu m m.ae.Value x n) (bu (bN m) m.ae.Value).reverse n
  simp only;refine⟨El _ _ _ hb ?_,?_,hnb.2,.inr hnp.1⟩
  ·split
   ·exact h5
   ·exact hr.1
  ·refine Int.le_trans (vY _ _ _) ?_;split
   ·exact h6
   ·omega
def ZT{m:ab}(h2:P2 m){lo hi:Int}(hlo:1<=lo)(hle:lo<=hi)(hhi:hi<=1000):P2 (Cd m lo hi):=by
 unfold Cd;have hb:=h2.aT;have hp:=h2.dF;have e1:∀c:Int,bF c hi=c\/bF c hi=hi:=λc=>by unfold bF;split<;>simp
 have e2:∀c:Int,hi<=bF c hi:=λc=>by unfold bF;split<;>omega
 have mx:∀c:Int,c<=1000->di ⟨bF c hi,m.ae.Value⟩:=by
  intro c hc;refine⟨by have:=e2 c;simp only;omega,?_,hb.2.2.1,hb.2.2.2⟩
  rcases e1 c with e|e<;>simp only[e]<;>omega
 refine⟨h2.ba,mx _ hb.2.1,⟨?_,?_⟩,h2.bX,.inr ⟨mx _ ?_,rfl⟩,⟨hlo,hle,e2 _⟩⟩
 ·show di ⟨bF m.ao.ai hi,m.ao.Value⟩;rw[hp.2];exact mx _ hp.1.2.1
 ·exact hp.2
 ·rcases h2.ed with e|e
  ·rw[e];decide
  ·exact e.1.2.1
def Tc{m:ab}(h:bs m):bs (fW m):=by
 refine E6 h (yU m).all ?_;unfold fW;rcases h.body with h0|h1|h2|h3
 ·rw[Qr h0.ba];split
  ·rename_i hk;have hf:=PD h hk;exact .inr (.inr (.inl (Wu (.inl h0.aT) (.inl h0.dF) hf.fin hf.lo1 hf.le)))
  ·exact .inl h0
 ·rw[Qr h1.ba];split
  ·rename_i hk;have hf:=PD h hk;exact .inr (.inr (.inl (Wu (.inr h1.aT) h1.dF hf.fin hf.lo1 hf.le)))
  ·exact .inr (.inl h1)
 ·rw[Qs (by rw[h2.ba];decide),Qr h2.ba]
  have:=Wc h h2;exact .inr (.inr (.inl (ZT h2 this.1 this.2.1 this.2.2.1)))
 ·rw[Qs (by rw[h3.ba];decide),Qs (by rw[h3.ba];decide)]
  exact .inr (.inr (.inr h3))
def ah8{m:ab}(h:bs m)(hk:(pc m).2.2.1=true):1<=(pc m).1/\(pc m).1<=(pc m).2.1/\(pc m).2.1<=1000/\NW m m.ae.Value (pc m).1 (pc m).2.1=true:=by
 unfold pc Ei at hk ⊢;split at hk
 ·rename_i n hn;have hnb:=Bp h _ n (List.mem_reverse.1 (List.mem_of_find?_eq_some hn));have hs:=List.find?_some hn;simp only;refine⟨El _ _ _ (λx hx=>(Bp h _ x (List.mem_reverse.1 hx)).1) hnb.1,vY _ _ _,hnb.2,?_⟩
  rcases Ek (λx=>NW m m.ae.Value x n) (bu (bN m) m.ae.Value).reverse n with e|⟨e,_⟩
  ·rw[e];exact hs
  ·exact e
 ·cases hk
def X7{m:ab}(h:bs m)(h2:P2 m)(hk:(pc m).2.2.1=true):P3 (PK m (pc m).1 (pc m).2.1):=by
 obtain⟨g1,g2,g3,_⟩:=ah8 h hk;unfold PK;exact⟨rfl,⟨by simp only;omega,g3,h2.aT.2.2.1,h2.aT.2.2.2⟩,rfl,rfl,rfl,⟨g1,g2,g3⟩⟩
def Tb{m:ab}(h:bs m):bs (ja m):=by
 refine E6 h (yT m).all ?_;unfold ja;split
 ·rename_i hc;rcases h.body with h0|h1|h2|h3
  ·have:=h0.ba;have:=hc.1;omega
  ·have:=h1.ba;have:=hc.1;omega
  ·exact .inr (.inr (.inr (X7 h h2 hc.2)))
  ·have:=h3.ba;have:=hc.1;omega
 ·exact h.body
def ZJ{z:ah}:∀{l:List ah},l≠[]->Kd z l∈l
 |[],h=>absurd rfl h
 |x::l,_=>by
  show l.foldl (λa y=>if bB a y=true then y else a) x∈x::l
  suffices key:∀(l:List ah) (a:ah),l.foldl (λa y=>if bB a y=true then y else a) a=a\/l.foldl (λa y=>if bB a y=true then y else a) a∈l by
   rcases key l x with e|e
   ·rw[e];exact Qx
   ·exact Qy _ e
  intro l
  induction l with
  |nil=>intro a;exact .inl rfl
  |cons y l ih=>
   intro a;rw[QU];rcases ih (if bB a y=true then y else a)with e|e
   ·rw[e];split
    ·exact .inr Qx
    ·exact .inl rfl
   ·exact .inr (Qy _ e)
def ae4{t:aj}(h:dq t){s:Nat}(hs:∀k,k<10->s.testBit k=true):mq s t=true:=by
 have hn:∀x:Int,0<=x->x<10->qb s x=true:=by
  intro x h0 h1;unfold qb fP;rw[Qg h0,Qg h1,hs _ (by omega)]
  rfl
 have hc:t.bb.countP (qb s)=t.bb.length:=List.countP_eq_length.2 λx hx=>hn x (h.nodes x hx).1 (h.nodes x hx).2
 have hi:zn s t.aO=t.aO.length:=by
  rcases h.inner with e|⟨x,h0,h1,e⟩
  ·rw[e];rfl
  ·rw[e]
   have:mq s ⟨1,[x],[]⟩=true:=by
    rw[Rs];simp[hn x h0 h1,zn]
   simp[zn,this]
 rw[Rs,hc,hi,Qi];have:=h.th.2;omega
def aaj{m:ab}(h:bs m){n:Int}(ha:jh m n=true):∃e∈m.ar,n<fG e:=by
 refine Classical.byContradiction λhno=> ?_
 have hz:GS m n=0:=by
  refine Dy λk=> ?_
  unfold GS;rw[AP,Nat.zero_testBit,List.any_eq_false];intro e he;have:¬n<fG e:=λhlt=>hno ⟨e,he,hlt⟩
  simp[this]
 unfold jh Bq at ha;rw[hz,Qm]at ha
 have hown:pD (kI m.al.toNat m.aa (bN m)) m.al.toNat=m.aa:=by
  unfold pD;rw[I7 h.ev.aG.2 m.aa (bN m) h.ev.aG.2,Qr rfl];rfl
 rw[hown,ae4 h.aN (λk hk=>by rw[C6 (by omega)];simp[hk])]at ha
 cases ha.2
def XR{m:ab}(h:bs m)(h1:m.aQ=1)(hc:m.ax=cd\/di m.ax)(hh:m.ar≠[]\/m.bg≠gw\/m.ax≠cd):1<=(dW m).size/\(dW m).size<=200:=by
 unfold dW;split
 ·rename_i hz;rcases hc with e|e
  ·rw[e,bU]at hz;cases hz
  ·exact e.2.2
 ·rename_i hz;have hz:aP m.ax=true:=by simpa using hz
  rw[Qs (λh=>h h1)]
  split
  ·rename_i hp;refine⟨?_,h.tI⟩;rcases Nat.eq_zero_or_pos m.bg.size with e|e
   ·exfalso;apply hp;have:m.bg.data=#[]:=Array.eq_empty_of_size_eq_zero e
    cases hm:m.bg with
    |mk d=>rw[hm]at this;simp only at this;rw[this];rfl
   ·exact e
  ·rename_i hp
   have hne:m.ar≠[]:=by
    rcases hh with e|e|e
    ·exact e
    ·exact absurd e hp
    ·exact absurd (yP.1 hz) e
   have hm:=ZJ (z:=cd) (l:=m.ar.map (·.ae)) (by simpa using hne)
   obtain⟨e,he,heq⟩:=QP.1 hm;rw[<-heq];exact L9 (h.hv e he).1
def abT{e:ak}(hv:bc e=true):1<=fG e/\(fG e<=1000\/fG e=1000000):=by
 unfold fG;split
 ·exact⟨by decide,.inr rfl⟩
 ·rename_i h3;have hv':=hv;unfold bc gV at hv';rw[Qm,Qm]at hv';have hb:=hv'.2
  have gof:∀{b:ah},finite b=true->1<=b.ai/\b.ai<=1000:=by
   intro b hb;unfold finite at hb;rw[Qm,Qi]at hb;have:=(Yx hb.1 hb.2);exact⟨this.1,this.2.1⟩
  by_cases h1:e.bx=1
  ·rw[Qr h1]at hb;unfold gW at hb;simp only[Qm]at hb;have:=gof hb.1.1.1.1.1.1.1.1;exact⟨this.1,.inl this.2⟩
  ·rw[Qs h1]at hb
   by_cases h2:e.bx=2
   ·rw[Qr h2]at hb;unfold wa at hb;simp only[Qm]at hb;have:=gof hb.1.1.1.1.1;exact⟨this.1,.inl this.2⟩
   ·rw[Qs h2,Qs h3]at hb;cases hb
def ab0(m:ab):ix m=1000000\/(m.ae.ai<ix m/\ix m<1000000/\jh m (ix m)=false/\∃e∈m.ar,ix m=fG e):=by
 unfold ix
 suffices key:∀(l:List ak),(∀e∈l,e∈m.ar)->∀s,(s=1000000\/(m.ae.ai<s/\s<1000000/\jh m s=false/\∃e∈m.ar,s=fG e))->
   (l.foldl (nX m) s=1000000\/(m.ae.ai<l.foldl (nX m) s/\l.foldl (nX m) s<1000000/\jh m (l.foldl (nX m) s)=false/\∃e∈m.ar,l.foldl (nX m) s=fG e))from key _ (λe he=>he) _ (.inl rfl)
 intro l
 induction l with
 |nil=>intro _ s hs;exact hs
 |cons x l ih=>
  intro hm s hs;rw[QU];refine ih (λe he=>hm e (Qy _ he)) _ ?_
  unfold nX;split
  ·rename_i hc;exact .inr ⟨hc.1,by rcases hs with e|e<;>omega,hc.2.2,x,hm x Qx,rfl⟩
  ·exact hs
def Kq{m:ab}(h:bs m)(hb:0<=m.ae.ai/\m.ae.ai<=1000):m.ae.ai<=bF m.ae.ai (dt (ix m) 1000)/\bF m.ae.ai (dt (ix m) 1000)<=1000/\1<=bF m.ae.ai (dt (ix m) 1000)/\
  (bF m.ae.ai (dt (ix m) 1000)=m.ae.ai->m.ae.ai=1000)/\bF m.ae.ai (dt (ix m) 1000)=dt (ix m) 1000:=by
 have hmin:dt (ix m) 1000<=1000/\1<=dt (ix m) 1000/\(m.ae.ai<dt (ix m) 1000\/dt (ix m) 1000=1000):=by
  rcases ab0 m with e|⟨g1,g2,_,x,hx,g4⟩
  ·rw[e];exact⟨by decide,by decide,.inr (by decide)⟩
  ·have hc:=abT (h.hv x hx).1;rw[<-g4]at hc;have:ix m<=1000:=by omega
   have e:dt (ix m) 1000=ix m:=by unfold dt;split<;>omega
   rw[e];omega
 unfold bF;split<;>omega
def RF{m:ab}(h:bs m)(h1:P0 m\/P1 m)(ha:jh m m.ae.ai=true):P1 (fQ m):=by
 have hph:m.aQ=1:=by rcases h1 with h|h<;>exact h.ba
 have hbc:0<=m.ae.ai/\m.ae.ai<=1000:=by
  rcases h1 with h|h
  ·rw[h.aT];decide
  ·have:=h.aT;exact⟨by have:=this.1;omega,this.2.1⟩
 obtain⟨c1,c2,c3,_⟩:=Kq h hbc;obtain⟨e0,he0,_⟩:=aaj h ha
 have hconf:m.ax=cd\/di m.ax:=by
  rcases h1 with h|h
  ·exact .inl h.ed
  ·exact h.ed.imp id (·.1)
 have hv:=XR h hph hconf (.inl (List.ne_nil_of_mem he0));unfold fQ;rw[Qs (by rw[hph,ha];decide)]
 have hnv:ow m=dW m:=Qr hph;rw[hnv];generalize hn:bF m.ae.ai (dt (ix m) 1000)=n at c1 c2 c3 ⊢
 have hpo:uA m.ao m.aC:=by
  rcases h1 with h|h
  ·exact⟨.inl h.dF,.inl h.bX⟩
  ·exact h.gW
 refine⟨hph,⟨c3,c2,hv.1,hv.2⟩,hpo.1,hpo.2,?_,?_,?_,?_⟩
 ·rcases h1 with h|h
  ·exact .inl h.ed
  ·exact h.ed
 ·show bB ⟨n,dW m⟩ m.ax=false;rcases hconf with e|e
  ·rw[e]
   cases hl:bB ⟨n,dW m⟩ cd with
   |false=>rfl
   |true=>have:=iX hl;have h0:(cd:ah).ai=0:=rfl;simp only at this;omega
  ·have hvc:dW m=m.ax.Value:=by unfold dW;rw[Qr e.nz]
   rw[Hz (show(⟨n,dW m⟩:ah).Value=m.ax.Value from hvc),Qj]
   rcases h1 with h|h
   ·exact absurd h.ed (Nw e)
   ·have:=M3 h.up;simp only;omega
 ·rcases h1 with h|h<;>exact h.cm
 ·show(if dW m=m.ae.Value then m.aZ else 0)=0\/(1<=(if dW m=m.ae.Value then m.aZ else 0)/\_<=_/\oP m.ao m.aC (dW m) (if dW m=m.ae.Value then m.aZ else 0)=false)
  split
  ·rename_i hve;rcases h1 with h|h
   ·exact .inl h.low
   ·rcases h.low with e|⟨g1,g2,g3⟩
    ·exact .inl e
    ·refine .inr ⟨g1,?_,by rw[hve];exact g3⟩
     have:fE {m with aZ:=m.aZ,ae:=⟨n,dW m⟩}=fE m:=by
      unfold fE bQ;simp only[hve]
     show m.aZ<=fE {m with aZ:=m.aZ,ae:=⟨n,dW m⟩}
     rw[this];exact g2
  ·exact .inl rfl
def X6{m:ab}(h:bs m)(h2:P2 m):P2 (fQ m):=by
 unfold fQ;split
 ·exact h2
 ·obtain⟨c1,c2,c3,_⟩:=Kq h ⟨by have:=h2.aT.1;omega,h2.aT.2.1⟩
  have hnv:ow m=m.ae.Value:=Qs (by rw[h2.ba];decide)
  rw[hnv,Qr rfl];exact⟨h2.ba,⟨c3,c2,h2.aT.2.2⟩,h2.dF,h2.bX,h2.ed,h2.range⟩
def Ta{m:ab}(h:bs m):bs (fQ m):=by
 have hid:m.aQ=3\/jh m m.ae.ai=false->fQ m=m:=λhc=>Qr hc
 cases ha:jh m m.ae.ai with
 |false=>rw[hid (.inr ha)];exact h
 |true=>
  refine E6 h (BY m).all ?_;rcases h.body with h0|h1|h2|h3
  ·exact .inr (.inl (RF h (.inl h0) ha))
  ·exact .inr (.inl (RF h (.inr h1) ha))
  ·exact .inr (.inr (.inl (X6 h h2)))
  ·rw[hid (.inl h3.ba)];exact .inr (.inr (.inr h3))
end
section
def lexLt{a a' b b' B:Nat}(hb:b<B)(h:a<a'):a*B+b<a'*B+b':=by
 have h1:(a+1)*B<=a'*B:=Qq63 B h;rw[Qq73]at h1;omega
def BC{a a' b b' B:Nat}(h:a=a')(hb:b<b'):a*B+b<a'*B+b':=by rw[h];omega
def Hy{a b A B:Nat}(ha:a<A)(hb:b<B):a*B+b<A*B:=by
 have h1:(a+1)*B<=A*B:=Qq63 B ha;rw[Qq73]at h1;omega
def di.sm{b:ah}(h:di b):Sm b:=⟨by have:=h.1;omega,h.2.1,h.2.2.2⟩
def abf:Sm cd:=⟨by decide,by decide,by decide⟩
def vd{b:ah}(h:b=cd\/di b):Sm b:=by
 rcases h with rfl|h
 ·exact abf
 ·exact h.sm
def Sh{b:ah}(h:di b):pd cd<pd b:=yW abf h.sm ((yV _ _).2 (.inl h.1))
 def t1(m:ab):Nat:=2*m.ae.ai.toNat+(if m.ae.Value=ow m then 1 else 0)
 def pq(m:ab):Nat:=pd m.ao*WB+pd m.aC
 def r1(m:ab):Nat:=(pq m*WB+pd m.ax)*2002+t1 m
def K1:Nat:=(WB*WB)*WB*2002
 def r2(m:ab):Nat:=(((m.bq.toNat*1001+(1000 - m.aZ).toNat)*WB+pd m.ao)*WB+pd m.ax)*1001+m.ae.ai.toNat
def K2:Nat:=((1001*1001)*WB*WB)*1001
 def km(m:ab):Nat:=if m.aQ=1 then r1 m else if m.aQ=2 then K1+r2 m else K1+K2
def BA(m:ab):Prop:=(m.ao=cd\/di m.ao)/\(m.aC=cd\/di m.aC)/\(m.ax=cd\/di m.ax)/\(m.ae=cd\/di m.ae)
def P0.ok{m:ab}(h:P0 m):BA m:=⟨.inl h.dF,.inl h.bX,.inl h.ed,.inl h.aT⟩
def P1.ok{m:ab}(h:P1 m):BA m:=⟨h.dF,h.bX.imp id (·.1),h.ed.imp id (·.1),.inr h.aT⟩
def P2.ok{m:ab}(h:P2 m):BA m:=⟨.inr h.dF.1,.inl h.bX,h.ed.imp id (·.1),.inr h.aT⟩
def YW{m:ab}(h:BA m):t1 m<2002:=by
 have:m.ae.ai<=1000:=by
  rcases h.2.2.2 with e|e
  ·rw[e];decide
  ·exact e.2.1
 unfold t1;split<;>omega
def aiT{m:ab}(h:BA m):pq m<WB*WB:=Hy (sY (vd h.1)) (sY (vd h.2.1))
def Zj{m:ab}(h:BA m):r1 m<K1:=Hy (Hy (aiT h) (sY (vd h.2.2.1))) (YW h)
def P2.cm{m:ab}(h:P2 m):m.bq<=1000:=by have:=h.range.2.2;have:=h.dF.1.2.1;omega
def aeo{m:ab}(h:P2 m):r2 m<K2:=by
 have h1:=h.range;have h2:=h.cm;refine Hy (Hy (Hy (Hy (A:=1001) ?_ ?_) (sY h.dF.1.sm)) (sY (vd h.ok.2.2.1))) ?_
 ·omega
 ·omega
 ·have:=h.aT.2.1;omega
def zt{m:ab}(h:m.aQ=1):km m=r1 m:=Qr h
def zr{m:ab}(h:m.aQ=2):km m=K1+r2 m:=by unfold km;rw[Qs (by omega),Qr h]
def aaK{m:ab}(h:m.aQ=3):km m=K1+K2:=by unfold km;rw[Qs (by omega),Qs (by omega)]
def XX{m:ab}(h:bs m):km m<=K1+K2:=by
 rcases h.body with h0|h1|h2|h3
 ·rw[zt h0.ba];have:=Zj h0.ok;omega
 ·rw[zt h1.ba];have:=Zj h1.ok;omega
 ·rw[zr h2.ba];have:=aeo h2;omega
 ·rw[aaK h3.ba];exact QI _
def wZ.up_{p q b p' q':ah}(h:uA p q)(hb:b=cd\/di b)(hj:wZ p q b p' q'):(p'=p/\q'=q)\/pd p*WB+pd q<pd p'*WB+pd q':=by
 have hok:=hj.ok h hb;have hp:=vd h.1;have hq:Sm q:=vd (h.2.imp id (·.1))
 cases hj with
 |same=>exact .inl ⟨rfl,rfl⟩
 |first h1 h2=>
  subst h1 h2;rcases hb with e|e
  ·exact .inl ⟨e,rfl⟩
  ·exact .inr (lexLt (sY hq) (Sh e))
 |up h1 hl hc|Hp h1 hl hc=>exact .inr (lexLt (sY hq) (yW hp (vd hb) hl))
 |under h1 hl hc hq'=>
  rcases hq' with e|e
  ·subst e;rcases hb with e2|e2
   ·exact .inl ⟨rfl,e2⟩
   ·exact .inr (BC rfl (Sh e2))
  ·exact .inr (BC rfl (yW hq (vd hb) e))
def DZ{m m':ab}(he:iZ m m')(h1:m'.aQ=m.aQ)(h2:m'.ae=m.ae)(h3:m'.ao=m.ao)(h4:m'.aC=m.aC)(h5:m'.ax=m.ax)(h6:m'.aZ=m.aZ)(h7:m'.bq=m.bq):m'=m:=by
 obtain⟨e1,e2,e3,e4,e5,e6⟩:=he;cases m;cases m';simp only at*;subst e1 e2 e3 e4 e5 e6 h1 h2 h3 h4 h5 h6 h7;rfl
def acx{m m':ab}(he:iZ m m')(h:EW m m'=true):m'=m:=by
 unfold EW at h;simp only[Qm,Qi,SQ]at h;obtain⟨⟨⟨⟨⟨⟨h1,h2⟩,h3⟩,h4⟩,h5⟩,h6⟩,h7⟩:=h;exact DZ he h1.symm h2.symm h3.symm h4.symm h5.symm h6.symm h7.symm
def zo(m:ab):EW m m=true:=by
 unfold EW;simp only[decide_true,SQ.2 rfl,Bool.and_self]
def aiS{m m':ab}(h:BA m)(hlt:pq m<pq m'):r1 m<r1 m':=lexLt (YW h) (lexLt (sY (vd h.2.2.1)) hlt)
def akb{m m':ab}(h:BA m)(hpq:pq m=pq m')(hlt:pd m.ax<pd m'.ax):r1 m<r1 m':=lexLt (YW h) (BC hpq hlt)
def aka{m m':ab}(hpq:pq m=pq m')(hc:m.ax=m'.ax)(hlt:t1 m<t1 m'):r1 m<r1 m':=BC (by rw[hpq,hc]) hlt
def Ox{m:ab}(h1:P1 m):tM m m.ao m.aC=m.aZ:=by
 unfold tM;split
 ·rename_i hc;rcases h1.low with e|⟨g1,g2,g3⟩
  ·exact absurd e hc.2
  ·rw[abl g1 g3,Qs (by omega)]
 ·rfl
def ajZ{m:ab}(h:bs m):c8 m=m\/km m<km (c8 m):=by
 have hid:m.aQ=3\/aP m.ae=true->c8 m=m:=λhc=>Qr hc
 rcases h.body with h0|h1|h2|h3
 ·exact .inl (hid (.inr (by rw[h0.aT];exact bU)))
 ·have hj:=(KX h h1.gW).up_ h1.gW (Ab h);have he:c8 m={m with ao:=(dx m.ao m.aC (eA (eX m))).1,aC:=(dx m.ao m.aC (eA (eX m))).2,aZ:=tM m (dx m.ao m.aC (eA (eX m))).1 (dx m.ao m.aC (eA (eX m))).2}:=Qs (by rw[h1.ba,h1.aT.nz];decide)
  rcases hj with⟨e1,e2⟩|hlt
  ·left;rw[he,e1,e2,Ox h1]
  ·right;rw[zt h1.ba,zt (by rw[he];exact h1.ba)]
   exact aiS h1.ok (by rw[he];exact hlt)
 ·have hj:=(KX h h2.gW).up_ h2.gW (Ab h);have hk:=X5 h h2;have he:c8 m={m with ao:=(dx m.ao m.aC (eA (eX m))).1,aC:=(dx m.ao m.aC (eA (eX m))).2,aZ:=tM m (dx m.ao m.aC (eA (eX m))).1 (dx m.ao m.aC (eA (eX m))).2}:=Qs (by rw[h2.ba,h2.aT.nz];decide)
  have hlow:∀p q,tM m p q=m.aZ:=λp q=>Qs (λh=>by have:=h.1;rw[h2.ba]at this;cases this)
  rcases hj with⟨e1,e2⟩|hlt
  ·left;rw[he,e1,e2,hlow]
  ·right;rw[zr h2.ba,zr (by rw[he];exact h2.ba)]
   have e2:(dx m.ao m.aC (eA (eX m))).2=m.aC:=by
    have h3:=hk.2.2;rw[he]at h3;exact h3.trans h2.bX.symm
   have hp:pd m.ao<pd (c8 m).ao:=by
    rw[he];simp only;rw[e2]at hlt;refine Nat.lt_of_not_le λhle=> ?_
    have:=Qq63 WB hle;omega
   have e3:(c8 m).bq=m.bq/\(c8 m).aZ=m.aZ/\(c8 m).ax=m.ax/\(c8 m).ae=m.ae:=by rw[he];exact⟨rfl,hlow _ _,rfl,rfl⟩
   have:r2 m<r2 (c8 m):=by
    unfold r2;rw[e3.1,e3.2.1,e3.2.2.1,e3.2.2.2];exact lexLt (by have:=h2.aT.2.1;omega) (lexLt (sY (vd h2.ok.2.2.1)) (BC rfl hp))
   omega
 ·exact .inl (hid (.inl h3.ba))
def ajY{m:ab}(h:bs m):gB m=m\/km m<km (gB m):=by
 rcases h.body with h0|h1|h2|h3
 ·exact .inl (vI (.inr (.inl (by rw[h0.aT];exact bU))))
 ·obtain⟨g1,g2⟩:=RE h h1;rcases g2 with e|⟨e1,e2,e3,_⟩
  ·exact .inl e
  ·right;rw[zt h1.ba,zt g1.ba];exact akb h1.ok (by unfold pq;rw[e1,e2]) (yW (vd h1.ok.2.2.1) (vd g1.ok.2.2.1) e3)
 ·exact .inl (vI (.inl (by rw[h2.ba];decide)))
 ·exact .inl (vI (.inl (by rw[h3.ba];decide)))
def OP(a b:Int):(bF a b=a/\b<=a)\/(bF a b=b/\a<b):=by unfold bF;split<;>omega
def pf{a b:ah}(h1:a.ai=b.ai)(h2:a.Value=b.Value):a=b:=by cases a;cases b;simp only at h1 h2;rw[h1,h2]
def aj2{m:ab}(h:bs m):fW m=m\/km m<km (fW m):=by
 have hC:m.aQ=1->BA m->fW m=m\/km m<km (fW m):=by
  intro hp hok
  by_cases hk:(fS m).2.2.2.1=true
  ·right;have e:fW m=NJ m (fS m).1 (fS m).2.1 (fS m).2.2.1:=by unfold fW;rw[Qr hp,Qr hk]
   rw[zt hp,zr (by rw[e];rfl)]
   have:=Zj hok;omega
  ·left;unfold fW;rw[Qr hp,Qs hk]
 rcases h.body with h0|h1|h2|h3
 ·exact hC h0.ba h0.ok
 ·exact hC h1.ba h1.ok
 ·have e:fW m=Cd m (eS m).1 (eS m).2:=by unfold fW;rw[Qs (by rw[h2.ba];decide),Qr h2.ba]
  obtain⟨g1,g2,g3,g4⟩:=Wc h h2;have h2':=ZT h2 g1 g2 g3;rw[e]
  have hr:m.bq.toNat<=1000/\(1000 - m.aZ).toNat<1001/\m.ae.ai.toNat<1001:=by
   have:=h2.cm;have:=h2.range;have:=h2.aT.2.1;omega
  have hcB:m.ax=(Cd m (eS m).1 (eS m).2).ax\/pd m.ax<pd (Cd m (eS m).1 (eS m).2).ax:=by
   rcases h2.ed with e|⟨hf,hv⟩
   ·right;rw[e]
    exact Sh (h2'.ed.resolve_left (λe=>by
     have h1:=h2'.range;have h3:(Cd m (eS m).1 (eS m).2).ax.ai=bF m.ax.ai (eS m).2:=rfl;rw[e]at h3;have h4:=OP m.ax.ai (eS m).2;have h5:(cd:ah).ai=0:=rfl
     omega)).1
   ·rcases OP m.ax.ai (eS m).2 with⟨e1,_⟩|⟨e1,e2⟩
    ·exact .inl (pf e1.symm hv)
    ·right;refine yW hf.sm (vd h2'.ok.2.2.1) ((yV _ _).2 (.inl ?_));show m.ax.ai<bF m.ax.ai (eS m).2;omega
  have hpB:m.ao=(Cd m (eS m).1 (eS m).2).ao\/pd m.ao<pd (Cd m (eS m).1 (eS m).2).ao:=by
   rcases OP m.ao.ai (eS m).2 with⟨e1,_⟩|⟨e1,e2⟩
   ·exact .inl (pf e1.symm rfl)
   ·right;refine yW h2.dF.1.sm h2'.dF.1.sm ((yV _ _).2 (.inl ?_));show m.ao.ai<bF m.ao.ai (eS m).2;omega
  have hbB:m.ae=(Cd m (eS m).1 (eS m).2).ae\/m.ae.ai<(Cd m (eS m).1 (eS m).2).ae.ai:=by
   rcases OP m.ae.ai (eS m).2 with⟨e1,_⟩|⟨e1,e2⟩
   ·exact .inl (pf e1.symm rfl)
   ·right;show m.ae.ai<bF m.ae.ai (eS m).2;omega
  rw[zr h2.ba,zr h2'.ba];have hPs:=sY h2.dF.1.sm;have hCs:=sY (vd h2.ok.2.2.1);have hHi:(Cd m (eS m).1 (eS m).2).bq=(eS m).2:=rfl;have hLo:(Cd m (eS m).1 (eS m).2).aZ=(eS m).1:=rfl;have fin:r2 m<r2 (Cd m (eS m).1 (eS m).2)->K1+r2 m<K1+r2 (Cd m (eS m).1 (eS m).2):=λh=>by omega
  have hrng:=h2.range;rcases g4 with⟨e1,e2⟩|e1
  ·rcases Int.lt_or_eq_of_le e2 with e3|e3
   ·
    refine .inr (fin (lexLt hr.2.2 (lexLt hCs (lexLt hPs (BC ?_ ?_)))))
    ·rw[hHi,e1]
    ·rw[hLo];omega
   ·rcases hpB with hp|hp
    ·rcases hcB with hc|hc
     ·rcases hbB with hb|hb
      ·left;exact DZ ⟨rfl,rfl,rfl,rfl,rfl,rfl⟩ rfl hb.symm hp.symm rfl hc.symm e3 e1
      ·refine .inr (fin (BC ?_ (by have:=h2.aT.1;omega)))
       rw[hHi,hLo,<-hp,<-hc,e1,e3]
     ·refine .inr (fin (lexLt hr.2.2 (BC ?_ hc)));rw[hHi,hLo,<-hp,e1,e3]
    ·refine .inr (fin (lexLt hr.2.2 (lexLt hCs (BC ?_ hp))));rw[hHi,hLo,e1,e3]
  ·refine .inr (fin (lexLt hr.2.2 (lexLt hCs (lexLt hPs (lexLt hr.2.1 ?_)))));rw[hHi];omega
 ·left;unfold fW;rw[Qs (by rw[h3.ba];decide),Qs (by rw[h3.ba];decide)]
def aj1{m:ab}(h:bs m):ja m=m\/km m<km (ja m):=by
 by_cases hc:m.aQ=2/\(pc m).2.2.1=true
 ·right;have e:ja m=PK m (pc m).1 (pc m).2.1:=Qr hc;rw[zr hc.1,aaK (by rw[e];rfl)]
  rcases h.body with h0|h1|h2|h3
  ·have:=h0.ba;have:=hc.1;omega
  ·have:=h1.ba;have:=hc.1;omega
  ·have:=aeo h2;omega
  ·have:=h3.ba;have:=hc.1;omega
 ·exact .inl (Qs hc)
def aj0{m:ab}(h:bs m):fQ m=m\/km m<km (fQ m):=by
 have hid:m.aQ=3\/jh m m.ae.ai=false->fQ m=m:=λhc=>Qr hc
 cases ha:jh m m.ae.ai with
 |false=>exact .inl (hid (.inr ha))
 |true=>
  have hC:m.aQ=1->BA m->0<=m.ae.ai/\m.ae.ai<=1000->fQ m=m\/km m<km (fQ m):=by
   intro hp hok hb;obtain⟨c1,c2,c3,c4,_⟩:=Kq h hb;have e:fQ m={m with aZ:=if ow m=m.ae.Value then m.aZ else 0,ae:=⟨bF m.ae.ai (dt (ix m) 1000),ow m⟩}:=Qs (by rw[hp,ha];decide)
   have hnv:ow (fQ m)=ow m:=by
    unfold ow dW;rw[e];simp only[hp,Qt,not_true_eq_false,Qu,ne_eq]
   by_cases hs:bF m.ae.ai (dt (ix m) 1000)=m.ae.ai/\ow m=m.ae.Value
   ·left;rw[e];refine DZ ⟨rfl,rfl,rfl,rfl,rfl,rfl⟩ rfl (pf hs.1 hs.2) rfl rfl rfl ?_ rfl;exact Qr hs.2
   ·right;rw[zt hp,zt (by rw[e];exact hp)]
    refine aka (by rw[e];rfl) (by rw[e]) ?_
    unfold t1;rw[hnv];have hb':(fQ m).ae=⟨bF m.ae.ai (dt (ix m) 1000),ow m⟩:=by rw[e]
    rw[hb',Qr rfl];simp only
    by_cases hv:ow m=m.ae.Value
    ·rw[Qr hv.symm];have:bF m.ae.ai (dt (ix m) 1000)≠m.ae.ai:=λe=>hs ⟨e,hv⟩
     omega
    ·rw[Qs (λe=>hv e.symm)]
     omega
  rcases h.body with h0|h1|h2|h3
  ·exact hC h0.ba h0.ok (by rw[h0.aT];decide)
  ·exact hC h1.ba h1.ok ⟨by have:=h1.aT.1;omega,h1.aT.2.1⟩
  ·obtain⟨c1,c2,c3,c4,_⟩:=Kq h ⟨by have:=h2.aT.1;omega,h2.aT.2.1⟩
   have hnv:ow m=m.ae.Value:=Qs (by rw[h2.ba];decide)
   have e:fQ m={m with ae:=⟨bF m.ae.ai (dt (ix m) 1000),m.ae.Value⟩}:=by
    unfold fQ;rw[Qs (by rw[h2.ba,ha];decide),hnv,Qr rfl]
   rw[e]
   by_cases hs:bF m.ae.ai (dt (ix m) 1000)=m.ae.ai
   ·left;exact DZ ⟨rfl,rfl,rfl,rfl,rfl,rfl⟩ rfl (pf hs rfl) rfl rfl rfl rfl rfl
   ·right;rw[zr h2.ba,zr (show({m with ae:=⟨bF m.ae.ai (dt (ix m) 1000),m.ae.Value⟩}:ab).aQ=2 from h2.ba)]
    have:r2 m<r2 {m with ae:=⟨bF m.ae.ai (dt (ix m) 1000),m.ae.Value⟩}:=by
     refine BC rfl ?_;have:=h2.aT.1;show m.ae.ai.toNat<(bF m.ae.ai (dt (ix m) 1000)).toNat;omega
    omega
  ·exact .inl (hid (.inl h3.ba))
end
section
def ajs(p:ak->Bool):Prop:=∀e s,p {e with aH:=s}=p e
structure Alike (l l':List ak):Prop where
 view:∀aG,aG<10->∀t,kI aG t l=kI aG t l'
 XQ:∀p,ajs p->fc p (cZ l)=fc p (cZ l')
 bal:fh l=fh l'
 val:gF l=gF l'
 js:∀v,bu l v=bu l' v
section
variable {l l' : List ak} (h : Alike l l')
 include h
theorem Alike.acc{aG:Nat}(hn:aG<10)(t:aj):pA aG t l=pA aG t l':=by
 funext b
 unfold pA;rw[h.view aG hn t,h.XQ _ (λe s=>rfl),h.XQ _ (λe s=>rfl)]
theorem Alike.ed{aG:Nat}(hn:aG<10)(t:aj):nu aG t l=nu aG t l':=by
 funext b
 unfold nu;rw[h.view aG hn t,h.XQ _ (λe s=>rfl)]
theorem Alike.ready{aG:Nat}(hn:aG<10)(t:aj):nD aG t l=nD aG t l':=by
 funext v lo hi
 unfold nD;rw[h.view aG hn t,h.XQ _ (λe s=>rfl),h.XQ _ (λe s=>rfl)]
theorem Alike.sure{aG:Nat}(hn:aG<10)(t:aj):vZ aG t l=vZ aG t l':=by
 funext v lo hi
 unfold vZ;rw[h.view aG hn t,h.XQ _ (λe s=>rfl)]
theorem Alike.next{aG:Nat}(hn:aG<10)(t:aj)(p q:ah)(v:ByteArray):jV aG t l p q v=jV aG t l' p q v:=by
 unfold jV;rw[h.bal,h.acc hn t]
theorem Alike.cm{aG:Nat}(hn:aG<10)(t:aj)(a:ah):zX aG t l a=zX aG t l' a:=by
 unfold zX;rw[h.bal,h.ed hn t]
theorem Alike.F0(x:ByteArray->Int->Int->Bool)(p q:ah):ic x l p q=ic x l' p q:=by
 unfold ic;rw[h.val];congr 1
 funext s v
 rw[h.js]
theorem Alike.first(x:ByteArray->Int->Int->Bool)(p q:ah)(s:Bool×ah):rB x l p q s=rB x l' p q s:=by
 unfold rB;rw[h.js]
end
def P7{l l':List ak}(hl:s5 l)(hn:l.length<=1000)(hl':s5 l')(hn':l'.length<=1000)
  (h1:∀x,(∃e∈l,x∈said e/\aP x=false)↔∃e∈l',x∈said e/\aP x=false) (h2:∀x,(∃e∈l,bc e=true/\x=e.ae.Value)↔∃e∈l',bc e=true/\x=e.ae.Value)
  (h3:∀v x,x∈ends v l↔x∈ends v l'):fh l=fh l'/\gF l=gF l'/\∀v,bu l v=bu l' v:=by
 obtain⟨_,a2,_,a4⟩:=pB hl.aN hn;obtain⟨_,b2,_,b4⟩:=pB hl'.aN hn';obtain⟨_,c2,_,c4⟩:=wG hl.aN hn;obtain⟨_,d2,_,d4⟩:=wG hl'.aN hn';refine⟨ER.flip.unique a2 b2 λx=> ?_,jt.unique c2 d2 λx=> ?_,λv=> ?_⟩
 ·rw[a4,b4];exact h1 x
 ·rw[c4,d4];exact h2 x
 ·obtain⟨_,e2,_,e4⟩:=jz hl.aN hn v;obtain⟨_,f2,_,f4⟩:=jz hl'.aN hn' v;refine KO.unique (e2.imp λh=>Qg h) (f2.imp λh=>Qg h) λx=> ?_
  rw[e4,f4];exact h3 v x
def aai{l l':List ak}(hl:s5 l)(hn:l.length<=1000)(ha:BR l)(h:l.Perm l'):Alike l l':=by
 have hl':s5 l':=⟨by rw[<-h.length_eq];exact hl.len,λe he=>hl.aN e (h.mem_iff.2 he)⟩
 have hm:∀(P:ak->Prop),(∃e∈l,P e)↔∃e∈l',P e:=λP=>⟨λ⟨e,he,hp⟩=>⟨e,h.mem_iff.1 he,hp⟩,λ⟨e,he,hp⟩=>⟨e,h.mem_iff.2 he,hp⟩⟩
 obtain⟨a,b,c⟩:=P7 hl hn hl' (by rw[<-h.length_eq];exact hn) (λx=>hm _) (λx=>hm _) (λv x=>by rw[DY,DY];exact hm _)
 exact⟨λaG hn t=>YR hn t ha h,λp _=>aax (Xk h) p,a,b,c⟩
def ab8{l:List ak}(hl:s5 l)(hn:l.length<=1000)(f:ak->ak)(hf:∀e∈l,f e={e with aH:=(f e).aH}/\bc (f e)=bc e):Alike l (l.map f):=by
 have e1:∀e∈l,(f e).al=e.al/\(f e).aa=e.aa/\(f e).ae=e.ae/\(f e).bx=e.bx/\(f e).ao=e.ao/\(f e).aC=e.aC/\(f e).aZ=e.aZ/\(f e).bq=e.bq:=λe he=>by
  have:=(hf e he).1;rw[this];exact⟨rfl,rfl,rfl,rfl,rfl,rfl,rfl,rfl⟩
 have hl':s5 (l.map f):=⟨by rw[QC];exact hl.len,λe he=>by
  obtain⟨x,hx,rfl⟩:=QP.1 he
  rw[(e1 x hx).2.1];exact hl.aN x hx⟩
 have hm:∀(P:ak->Prop),(∀e∈l,P e↔P (f e))->((∃e∈l,P e)↔∃e∈l.map f,P e):=λP hP=>⟨λ⟨e,he,hp⟩=>⟨f e,QP.2 ⟨e,he,rfl⟩,(hP e he).1 hp⟩,λ⟨e,he,hp⟩=>by
  obtain⟨x,hx,rfl⟩:=QP.1 he
  exact⟨x,hx,(hP x hx).2 hp⟩⟩
 have hsaid:∀e∈l,said (f e)=said e:=λe he=>by
  obtain⟨g1,g2,g3,g4,g5,g6,g7,g8⟩:=e1 e he;unfold said at_
  rw[(hf e he).2,g4,g3,g5,g6]
 have hbnd:∀v,∀e∈l,jX v (f e)=jX v e:=λv e he=>by
  obtain⟨g1,g2,g3,g4,g5,g6,g7,g8⟩:=e1 e he;unfold jX;simp only[(hf e he).2,g3,g7]
 obtain⟨a,b,c⟩:=P7 hl hn hl' (by rw[QC];exact hn) (λx=>hm _ λe he=>by rw[hsaid e he]) (λx=>hm _ λe he=>by rw[(hf e he).2,(e1 e he).2.2.1])
  (λv x=>by rw[DY,DY];exact hm _ λe he=>by rw[hbnd v e he,(e1 e he).2.2.2.2.2.2.1,(e1 e he).2.2.2.2.2.2.2])
 refine⟨λaG hn t=> ?_,λp hp=> ?_,a,b,c⟩
 ·unfold kI;generalize (List.replicate 10 jf).set aG ⟨true,t⟩=ms
  suffices key:∀(k:List ak) (ms:List bh),(∀e∈k,e∈l)->k.foldl fF ms=(k.map f).foldl fF ms from key l ms λe he=>he
  intro k
  induction k with
  |nil=>intro ms _;rfl
  |cons x k ih=>
   intro ms hk;have hx:=hk x Qx
   have:fF ms (f x)=fF ms x:=by
    unfold fF;rw[(hf x hx).2,(e1 x hx).1,(e1 x hx).2.1]
   rw[QD,QU,QU,this];exact ih _ λe he=>hk e (Qy _ he)
 ·unfold cZ
  suffices key:∀(k:List ak),(∀e∈k,e∈l)->fc p (k.filter bc)=fc p ((k.map f).filter bc)from key l λe he=>he
  intro k
  induction k with
  |nil=>intro _;rfl
  |cons x k ih=>
   intro hk;have hx:=hk x Qx
   have hpx:p (f x)=p x:=by
    rw[(hf x hx).1];exact hp x _
   rw[QD,List.filter_cons,List.filter_cons,(hf x hx).2];split
   ·rw[fc,fc,hpx,(e1 x hx).1,ih λe he=>hk e (Qy _ he)]
   ·exact ih λe he=>hk e (Qy _ he)
structure fR (m:ab):Prop where
 zero:aP m.ae=true->m.aH=0
 pos:aP m.ae=false->1<=m.aH
def JG(m:ab):ak:=⟨m.al,m.aK,m.aH,m.aa,m.aQ,m.ae,m.ao,m.aC,m.aZ,if m.aQ=1 then fE m else m.bq⟩
def E3(m:ab):eG m=some (JG m):=by
 unfold eG JG fE;simp only[aS,etas,dm,fT,Qa]
 by_cases h1:m.aQ=1
 ·rw[Qg h1,Qr h1];cases aP m.ax<;>cases bQ m.ax m.ae<;>rfl
 ·rw[Qh h1,Qs h1];rfl
def K4{m:ab}(h:bs m):JG m=de m:=by
 unfold JG de;rcases h.body with h0|h1|h2|h3
 ·rw[Qr h0.ba,Qr h0.ba]
 ·rw[Qr h1.ba,Qr h1.ba]
 ·rw[Qs (by rw[h2.ba];decide),Qs (by rw[h2.ba];decide),Qr h2.ba,h2.bX]
 ·rw[Qs (by rw[h3.ba];decide),Qs (by rw[h3.ba];decide),Qs (by rw[h3.ba];decide),h3.bX,h3.dF]
def Yf{m:ab}(hs:fR m)(hz:aP m.ae=false):je m=de m:=by
 unfold je
 have:bF (de m).aH 1=(de m).aH:=by
  have:=hs.pos hz;rw[Wd];unfold bF;split<;>omega
 rw[this]
def wL(m:ab):List ak:=if aP m.ae=true then m.ar else m.ar++[JG m]
def abY{l:List ak}(hl:l.length<=1000):fm l=some l:=by
 unfold fm;have h1:bl 176 (List.length ([]:List ak)+List.length l)=true:=bC (by simp;omega)
 rw[h1]
 cases l with
 |nil=>simp
 |cons x l=>rfl
def JE{m:ab}(h:m.ar.length<=100):dy ⟨m⟩=some (wL m,⟨m⟩):=by
 unfold dy wL;simp only[etas,dm,E3,Qa,abY (show m.ar.length<=1000 by omega)]
 cases aP m.ae with
 |true=>rfl
 |false=>
  simp only[Ql,Qq,Qu];rw[bC (by simp;omega)]
  rfl
def bs.apart{m:ab}(h:bs m):BR (bN m):=by
 have hs:∀a∈m.ar,∀b∈m.ar,a.al=b.al->a=b:=by
  have:=h.dn;revert this;generalize m.ar=l;intro hp
  induction l with
  |nil=>intro a ha;cases ha
  |cons x l ih=>
   rw[Q4]at hp;intro a ha b hb e;rcases QA.1 ha with ha'|ha'<;>rcases QA.1 hb with hb'|hb'
   ·rw[ha',hb']
   ·have:=hp.1 b hb';rw[ha']at e;omega
   ·have:=hp.1 a ha';rw[hb']at e;omega
   ·exact ih hp.2 a ha' b hb' e
 intro a ha b hb e;rcases Ew ha with ha|⟨_,rfl⟩<;>rcases Ew hb with hb|⟨_,rfl⟩
 ·exact hs a ha b hb e
 ·exact absurd (e.trans (yZ m)) (h.hv a ha).2.2.2
 ·exact absurd (e.symm.trans (yZ m)) (h.hv b hb).2.2.2
 ·rfl
def Td{m:ab}(h:bs m)(hs:fR m):(bN m).Perm (wL m):=by
 unfold bN wL;split
 ·exact .refl _
 ·rename_i hz;rw[K4 h,<-Yf hs (by simpa using hz)]
  exact Fb _ _
def mY{m:ab}(h:bs m)(hs:fR m):Alike (bN m) (wL m):=aai h.ev.vb.1 h.ev.vb.2 h.apart (Td h hs)
def tJ{m:ab}(h:bs m)(hs:fR m):s5 (wL m)/\(wL m).length<=1000:=by
 have hp:=Td h hs;have:=h.ev.vb;exact⟨⟨by rw[<-hp.length_eq];exact this.1.len,λe he=>this.1.aN e (hp.mem_iff.2 he)⟩,by rw[<-hp.length_eq];exact this.2⟩
section
variable {m : ab} (h : bs m) (hs : fR m)
 include h hs
theorem ahv(p q:ah)(v:ByteArray):pM m.al m.aa (wL m) p q v=some (jV m.al.toNat m.aa (bN m) p q v):=by
 have:=afy h.ev.aG.2 h.ev.aN (tJ h hs).1 (tJ h hs).2 p q v
 rwa [h.ev.aG.1,<-(mY h hs).next h.ev.aG.2]at this
theorem ahx(a:ah):me m.al m.aa (wL m) a=some (zX m.al.toNat m.aa (bN m) a):=by
 have:=afz h.ev.aG.2 h.ev.aN (tJ h hs).1 (tJ h hs).2 a
 rwa [h.ev.aG.1,<-(mY h hs).cm h.ev.aG.2]at this
theorem afA:tw m.al m.aa (wL m) m.ao m.aC=some (fS m):=by
 have hl:=tJ h hs;have:=aiv (UX h.ev.aG.2 h.ev.aN hl.1) hl.1 hl.2 (look_eq h.ev.aG.2 h.ev.aN hl.1) m.ao m.aC;rw[h.ev.aG.1,<-(mY h hs).ready h.ev.aG.2,<-(mY h hs).F0,<-(mY h hs).first]at this
 exact this
theorem aiY:rX m.al m.aa (wL m) m.ae.Value m.aZ m.bq=some ((eS m).1,(eS m).2,()):=by
 have hl:=tJ h hs;have:=agV (UX h.ev.aG.2 h.ev.aN hl.1) hl.1 hl.2 (look_eq h.ev.aG.2 h.ev.aN hl.1) m.ae.Value m.aZ m.bq;rw[h.ev.aG.1,<-(mY h hs).ready h.ev.aG.2,<-(mY h hs).js]at this;exact this
theorem aiX:tx m.al m.aa (wL m) m.ae.Value=some (pc m):=by
 have hl:=tJ h hs;have:=aiw (aeZ h.ev.aG.2 h.ev.aN hl.1) hl.1 hl.2 (look_eq h.ev.aG.2 h.ev.aN hl.1) m.ae.Value;rw[h.ev.aG.1,<-(mY h hs).sure h.ev.aG.2,<-(mY h hs).js]at this;exact this
end
def SZ(v:ByteArray)(n:Int)(p q:ah):qx v n p q=some (lE v n p q):=by
 unfold qx lE;generalize bF n 1=k
 have hst:∀(i:Nat) (x:ah) (k:Int),i<2->[p,q][i]?=some x->
   (λ(v1:Int×Int×Unit)=>
    bif (decide (v1.2.1<((List.length [p,q]:Nat):Int)))then
    aY (λ(v2:Int×Unit)=>some (Sum.inl (v2.1,(aA .i64 v1.2.1 (1:Int)),()))) λj3=>
    Option.bind (idx [p,q] v1.2.1) λx4=>
    Option.bind (iT x4) λr5=>
    Option.bind (bif (!r5)then some true else Option.bind (eE x4 (ah.mk v1.1 v)) λr6=>some (!r6)) λb7=>
    bif b7 then j3 (v1.1,())
    else Option.bind (eE x4 (ah.mk x4.ai v)) λr8=>
     bif r8 then j3 ((aA .i64 x4.ai (1:Int)),())else j3 (x4.ai,())
    else(Option.map Sum.inr (some v1.1):Option ((Int×Int×Unit)⊕Int))) (k,(i:Int),())=some (Sum.inl (xX v k x,((i+1:Nat):Int),())):=by
  intro i x k hi hx;have hd:decide ((i:Int)<((List.length [p,q]:Nat):Int))=true:=Qg (by simp;omega)
  have hw:aA .i64 (i:Int) 1=((i+1:Nat):Int):=bH (by omega) (by omega)
  have hx':idx [p,q] (i:Int)=some x:=by rw[bf];exact hx
  simp only[hd,hw,hx',Qk,aS,Qa,Cp,u0];unfold xX
  cases hv:cO x with
  |false=>simp
  |true=>
   have hc:aA .i64 x.ai 1=x.ai+1:=by
    have:1<=x.ai/\x.ai<=1000000:=by
     simp only[cO,Qm,Qn,Qi]at hv;omega
    exact bH (by omega) (by omega)
   cases h1:eN x ⟨k,v⟩with
   |false=>simp
   |true=>cases h2:eN x ⟨x.ai,v⟩<;>simp[hc]
 refine(bw (hst 0 p k (by omega) rfl)).trans ((bw (hst 1 q _ (by omega) rfl)).trans (bM ?_))
 rfl
def adh(b:ah):(⟨dt b.ai 1000,b.Value⟩:ah)=eA b:=by
 unfold dt eA;split<;>rfl
section
variable {m : ab} (h : bs m) (hs : fR m)
 include h
theorem Zt(hz:aP (eX m)=true):c8 m=m:=by
 have hid:m.aQ=3\/aP m.ae=true->c8 m=m:=λhc=>Qr hc
 have hj:dx m.ao m.aC (eA (eX m))=(m.ao,m.aC):=by
  have:eA (eX m)=cd:=by rw[yP.1 hz];decide
  rw[this];exact Qr bU
 have he:¬(m.aQ=3\/aP m.ae=true)->tM m m.ao m.aC=m.aZ->c8 m=m:=by
  intro hc hl;unfold c8;rw[Qs hc,hj];simp only;rw[hl]
 rcases h.body with h0|h1|h2|h3
 ·exact hid (.inr (by rw[h0.aT];exact bU))
 ·exact he (by rw[h1.ba,h1.aT.nz];decide) (Ox h1)
 ·exact he (by rw[h2.ba,h2.aT.nz];decide) (Qs (λh=>by have:=h.1;rw[h2.ba]at this;cases this))
 ·exact hid (.inl h3.ba)
 include hs
theorem Zr:lB ⟨m⟩=some ((),⟨c8 m⟩):=by
 have hl:m.ar.length<=100:=by have:=h.len;omega
 unfold lB;simp only[etas,dm,JE hl,ahv h hs,afq,SZ,E3,Qa,aS,adh]
 by_cases h3:m.aQ=3\/aP m.ae=true
 ·have e:c8 m=m:=Qr h3;rw[e];rcases h3 with h3|h3
  ·rw[Qg h3];cases aP m.ae<;>rfl
  ·rw[h3];rfl
 ·have hz:aP m.ae=false:=by
   cases hz:aP m.ae with
   |true=>exact absurd (.inr hz) h3
   |false=>rfl
  have h3':¬m.aQ=3:=λe=>h3 (.inl e)
  rw[hz,Qh h3'];simp only[Ql,Qa]
  have hmain:∀v:ByteArray,v=Ja m->(bif aP (jV m.al.toNat m.aa (bN m) m.ao m.aC v)then some ((),(⟨m⟩:aL))else
    Option.bind (bif decide (m.aQ=1)then some (!decide (m.aZ=0))else some false) λb9=>
    bif b9 then
     bif decide ((JG ⟨m.al,m.aK,m.aH,m.aa,m.aQ,m.ae,(dx m.ao m.aC (eA (jV m.al.toNat m.aa (bN m) m.ao m.aC v))).1,(dx m.ao m.aC (eA (jV m.al.toNat m.aa (bN m) m.ao m.aC v))).2,m.ax,lE m.ae.Value m.aZ (dx m.ao m.aC (eA (jV m.al.toNat m.aa (bN m) m.ao m.aC v))).1 (dx m.ao m.aC (eA (jV m.al.toNat m.aa (bN m) m.ao m.aC v))).2,m.bq,m.bg,m.ar⟩).bq<lE m.ae.Value m.aZ (dx m.ao m.aC (eA (jV m.al.toNat m.aa (bN m) m.ao m.aC v))).1 (dx m.ao m.aC (eA (jV m.al.toNat m.aa (bN m) m.ao m.aC v))).2)then
      some ((),(⟨⟨m.al,m.aK,m.aH,m.aa,m.aQ,m.ae,(dx m.ao m.aC (eA (jV m.al.toNat m.aa (bN m) m.ao m.aC v))).1,(dx m.ao m.aC (eA (jV m.al.toNat m.aa (bN m) m.ao m.aC v))).2,m.ax,0,m.bq,m.bg,m.ar⟩⟩:aL))
     else some ((),(⟨⟨m.al,m.aK,m.aH,m.aa,m.aQ,m.ae,(dx m.ao m.aC (eA (jV m.al.toNat m.aa (bN m) m.ao m.aC v))).1,(dx m.ao m.aC (eA (jV m.al.toNat m.aa (bN m) m.ao m.aC v))).2,m.ax,lE m.ae.Value m.aZ (dx m.ao m.aC (eA (jV m.al.toNat m.aa (bN m) m.ao m.aC v))).1 (dx m.ao m.aC (eA (jV m.al.toNat m.aa (bN m) m.ao m.aC v))).2,m.bq,m.bg,m.ar⟩⟩:aL))
    else some ((),(⟨⟨m.al,m.aK,m.aH,m.aa,m.aQ,m.ae,(dx m.ao m.aC (eA (jV m.al.toNat m.aa (bN m) m.ao m.aC v))).1,(dx m.ao m.aC (eA (jV m.al.toNat m.aa (bN m) m.ao m.aC v))).2,m.ax,m.aZ,m.bq,m.bg,m.ar⟩⟩:aL)))=some ((),(⟨c8 m⟩:aL)):=by
   intro v hv;subst hv;rw[show jV m.al.toNat m.aa (bN m) m.ao m.aC (Ja m)=eX m from rfl]
   cases hzn:aP (eX m)with
   |true=>rw[Zt h hzn];rfl
   |false=>
    simp only[Ql];have e:c8 m={m with ao:=(dx m.ao m.aC (eA (eX m))).1,aC:=(dx m.ao m.aC (eA (eX m))).2,aZ:=tM m (dx m.ao m.aC (eA (eX m))).1 (dx m.ao m.aC (eA (eX m))).2}:=Qs h3
    rw[e];unfold tM
    by_cases hc:m.aQ=1/\m.aZ≠0
    ·rw[Qg hc.1,Qh hc.2,Qr hc];simp only[Qk,Qa,Qp];have hh:∀(p q:ah) (L:Int),(JG {m with ao:=p,aC:=q,aZ:=L}).bq=fE m:=λp q L=>by unfold JG;exact Qr hc.1
     rw[hh];split
     ·rename_i hlt;rw[Qg hlt];rfl
     ·rename_i hlt;rw[Qh hlt];rfl
    ·rw[Qs hc]
     by_cases h1:m.aQ=1
     ·rw[Qg h1,Qg (show m.aZ=0 from Classical.byContradiction λhn=>hc ⟨h1,hn⟩)];rfl
     ·rw[Qh h1];rfl
  by_cases h2:m.aQ=2
  ·rw[Qg h2];exact hmain _ (Qr h2).symm
  ·rw[Qh h2];exact hmain _ (Qs h2).symm
end
def aaE(m:ab)(b:ah):lu ⟨m⟩ b=some ((),⟨{m with aZ:=bif bQ m.ae b then m.aZ else 0,ae:=b}⟩):=by
 unfold lu;simp only[etas,fT,Qa,aS];cases bQ m.ae b<;>rfl
def MV(m:ab)(b:ah){α:Type}(j:ab->Option α):
  (bif decide (m.aZ=(0:Int))then(bif bQ m.ae b then(bif decide (lE b.Value m.ae.ai m.ao m.aC<=b.ai)then j {m with aZ:=lE b.Value m.ae.ai m.ao m.aC}else j m)else j m)else(bif false then(bif decide (lE b.Value m.ae.ai m.ao m.aC<=b.ai)then j {m with aZ:=lE b.Value m.ae.ai m.ao m.aC}else j m)else j m))=j (q7 m b):=by
 unfold q7
 by_cases hL:m.aZ=0
 ·rw[Qg hL]
  cases hc:bQ m.ae b with
  |true=>
   by_cases hle:lE b.Value m.ae.ai m.ao m.aC<=b.ai
   ·rw[Qr ⟨hL,rfl,hle⟩,Qg hle];rfl
   ·rw[Qs (λh=>hle h.2.2),Qh hle];rfl
  |false=>
   rw[Qs (λh=>by cases h.2.1)];rfl
 ·rw[Qh hL,Qs (λh=>hL h.1)];rfl
section
variable {m : ab} (h : bs m) (hs : fR m)
 include h hs
theorem ag5:oh ⟨m⟩=some ((),⟨gB m⟩):=by
 have hl:m.ar.length<=100:=by have:=h.len;omega
 unfold oh;simp only[etas,aL.eta,dm,JE hl,ahx h hs,SZ,aaE,fT,jR,Qa,aS];have hb:zX m.al.toNat m.aa (bN m) m.ax=gS m:=rfl;simp only[hb];unfold gB
 cases hz:aP m.ae with
 |true=>rw[Qr (.inr (.inl rfl))];rfl
 |false=>
  by_cases h1:m.aQ=1
  ·rw[Qg h1]
   cases hzb:aP (gS m)with
   |true=>rw[Qr (.inr (.inr rfl))];rfl
   |false=>
    rw[Qs (by simp[h1])]
    simp only[Qo,Ql,Qa];unfold CS
    cases hlt:bB m.ae (gS m)with
    |true=>
     simp only[Qk,Qt]
     cases hcp:bQ m.ae (gS m)with
     |true=>exact MV {m with ax:=gS m,ae:=gS m} (gS m) (λx=>some ((),(⟨x⟩:aL)))
     |false=>exact MV {m with ax:=gS m,ae:=gS m,aZ:=0} (gS m) (λx=>some ((),(⟨x⟩:aL)))
    |false=>
     simp only[Ql,Qq,Qu];exact MV {m with ax:=gS m} (gS m) (λx=>some ((),(⟨x⟩:aL)))
  ·rw[Qh h1,Qr (.inl h1)];rfl
theorem abV:lU ⟨m⟩=some ((),⟨fW m⟩):=by
 have hl:m.ar.length<=100:=by have:=h.len;omega
 unfold lU;simp only[etas,aL.eta,JE hl,afA h hs,aiY h hs,fT,jR,Qa,aS];unfold fW
 by_cases h1:m.aQ=1
 ·rw[Qg h1,Qr h1];simp only[Qk]
  cases hk:(fS m).2.2.2.1 with
  |false=>rfl
  |true=>
   have hf:=PD h hk
   have hcov:jE m.ao ⟨(fS m).2.2.1,(fS m).1⟩= !(bB m.ao ⟨(fS m).2.2.1,(fS m).1⟩|| !bQ m.ao ⟨(fS m).2.2.1,(fS m).1⟩):=by
    cases hc:bQ m.ao ⟨(fS m).2.2.1,(fS m).1⟩with
    |false=>unfold jE;rw[hc];simp
    |true=>
     have hv:=jy.1 hc
     have hnz:aP m.ao=false:=by
      cases hz:aP m.ao with
      |false=>rfl
      |true=>rw[yP.1 hz]at hv;exact absurd hv.symm hf.fin.ne
     unfold jE;rw[hc,hnz,Hz hv,Qo,Bool.or_false,Qp,Bool.and_self,Bool.true_and];rw[QW];simp only[Qi,Bool.not_eq_true',Qj];omega
   simp only[Qo,Ql,Qt];unfold NJ;rw[hcov];cases bQ m.ae ⟨(fS m).2.2.1,(fS m).1⟩<;>cases bB m.ae ⟨(fS m).2.2.1,(fS m).1⟩<;>cases bB m.ao ⟨(fS m).2.2.1,(fS m).1⟩<;>cases bQ m.ao ⟨(fS m).2.2.1,(fS m).1⟩<;>rfl
 ·rw[Qh h1,Qs h1]
  by_cases h2:m.aQ=2
  ·rw[Qg h2,Qr h2];rcases h.body with k|k|k|k
   ·exact absurd k.ba h1
   ·exact absurd k.ba h1
   ·unfold Cd;rw[k.dF.2];rfl
   ·have:=k.ba;omega
  ·rw[Qh h2,Qs h2];rfl
theorem adw:my ⟨m⟩=some ((),⟨ja m⟩):=by
 have hl:m.ar.length<=100:=by have:=h.len;omega
 unfold my ja;simp only[etas,JE hl,aiX h hs,Qa]
 by_cases h2:m.aQ=2
 ·rw[Qg h2]
  cases hk:(pc m).2.2.1 with
  |false=>rw[Qs (λh=>by cases h.2)];rfl
  |true=>rw[Qr ⟨h2,rfl⟩];rfl
 ·rw[Qh h2,Qs (λh=>h2 h.1)];rfl
end
def U8{m:ab}(h:wE m):iC ⟨m⟩=some (dW m):=by
 have hl:m.ar.length<=1000:=by have:=h.len;omega
 unfold iC dW;simp only[dm,Qa]
 cases hz:aP m.ax with
 |false=>rfl
 |true=>
  simp only[Qo,Ql,Bool.true_eq_false,Qu]
  by_cases h1:m.aQ=1
  ·rw[Qg h1,Qs (λh=>h h1)]
   simp only[Qo,Ql]
   by_cases hp:m.bg=gw
   ·have hp':decide (m.bg=bE)=true:=Qg hp;rw[hp',Qs (λh=>h hp)]
    simp only[Qo,Ql]
    rw[Fi m.ar hl (·.ae) (fin:=λs=>Option.bind (nQ s) λr=>some r.Value) (λi e s hs he hd hx hw=>by
     simp only[hd,hx,hw,Qk,Qa]
     rw[bC (by simp;omega),Qk]) (λs hd=>by simp only[hd,Ql]),acY _ (by simp;omega)]
    rfl
   ·have hp':decide (m.bg=bE)=false:=Qh hp;rw[hp',Qr hp];rfl
  ·rw[Qh h1,Qr h1];rfl
def afv(l:List ak)(hlen:l.length<=1000)(p:ak->Bool)(hp:∀e∈l,p e=true->0<=e.al/\e.al<10):rU l (l.map p)=some ((fc p l:Nat):Int):=by
 unfold rU
 suffices key:∀(k i s:Nat),i+k=l.length->s<1024->aD _ ((s:Int),(i:Int),())=some ((s|||fc p (l.drop i):Nat):Int)by
  have:=key l.length 0 0 (by omega) (by omega)
  rw[Nat.zero_or,List.drop_zero]at this;exact this
 intro k
 induction k with
 |zero=>
  intro i s hi hs;obtain rfl:i=l.length:=by omega
  have hd:decide ((l.length:Int)<(l.length:Int))=false:=Qh (Qq64 _);rw[bM (r:=(s:Int)) (by simp only[hd,Ql,Qe]),Qq66,fc]
  simp
 |succ k ih=>
  intro i s hi hs;have hlt:i<l.length:=by omega
  have hd:decide ((i:Int)<(l.length:Int))=true:=Qg (by omega)
  have hd2:decide ((i:Int)<(((l.map p).length:Nat):Int))=true:=Qg (by rw[QC];omega)
  have hw:aA .i64 (i:Int) 1=((i+1:Nat):Int):=bH (by omega) (by omega)
  have hx:idx l (i:Int)=some l[i]:=by rw[bf];exact Qv hlt
  have hx2:idx (l.map p) (i:Int)=some (p l[i]):=by rw[bf,QT,Qv hlt];rfl
  rw[QM hlt,fc]
  cases hpe:p l[i]with
  |false=>
   rw[bw (s':=((s:Int),((i+1:Nat):Int),())) (by simp only[hd,hd2,hx,hx2,hw,hpe,Qk,Ql,aS,Qa]),ih (i+1) s (by omega) hs]
   simp
  |true=>
   obtain⟨h0,h1⟩:=hp _ (Q0 hlt) hpe;have hn0:¬l[i].al<0:=by omega
   have d1:decide ((0:Int)<=l[i].al)=true:=Qg h0;have d2:decide (l[i].al<(10:Int))=true:=Qg (by omega)
   rw[bw (s':=(((s|||2 ^ l[i].al.toNat:Nat):Int),((i+1:Nat):Int),())) (by
    simp only[hd,hd2,hx,hx2,hw,hpe,Qk,aS,Qa,d1,d2,hn0,Qu]
    rw[qL hs h0 h1]),ih (i+1) _ (by omega) (Bz hs h1)]
   simp[Nat.or_assoc]
def ac0{m:ab}(h:wE m)(n:Int):nn ⟨m⟩ n=some ((GS m n:Nat):Int):=by
 have hl:m.ar.length<=1000:=by have:=h.len;omega
 unfold nn;have d1:decide ((m.ar.length:Int)<=(m.ar.length:Int))=true:=Qg (Int.le_refl _);have d2:decide (0<=(m.ar.length:Int))=true:=Qg (Int.natCast_nonneg _);have d3:bl 1 m.ar.length=true:=bC (by omega)
 simp only[d1,d2,d3,QV,Int.le_refl,decide_true,Bool.and_self,Qk]
 rw[abF m.ar hl (λe=>decide (n<fG e)) (fin:=λs=>Option.bind (rU m.ar s) λr=>some r)
  (λi e s hsl he hi hd hx hw=>by
   have h1:idx s (i:Int)=some s[i]:=by rw[bf];exact Qv (by omega)
   have h2:s[i]?=some s[i]:=Qv (by omega)
   simp only[hd,hx,hw,h1,h2,Qk,Qa,etas,Vc (h.sm e he) (h.valid e he),QV])
  (λs hd=>by simp only[hd,Ql]) (by simp),afv m.ar hl _ (λe he _=>h.Sa e he)]
 rfl
section
variable {m : ab} (h : bs m) (hs : fR m)
 include h hs
theorem abE(n:Int):iR n ⟨kI m.al.toNat m.aa (wL m)⟩ ⟨m⟩=some (jh m n):=by
 unfold iR;simp only[etas,ac0 h.ev,Qa];have hb:=TV (ou (aG:=m.al.toNat) h.ev.aN (tJ h hs).1) (v:=m.al.toNat) (TP h.ev n);rw[h.ev.aG.1]at hb;rw[hb,Qa];unfold jh;rw[(mY h hs).view _ h.ev.aG.2]
theorem adp:mw ⟨m⟩=some ((),⟨fQ m⟩):=by
 have hl:m.ar.length<=100:=by have:=h.len;omega
 have hv:=YM h.ev.aG.2 h.ev.aN (tJ h hs).1;rw[h.ev.aG.1]at hv;unfold mw fQ;simp only[etas,aL.eta,dm,JE hl,hv,abE h hs,U8 h.ev,aaE,Qa,aS]
 by_cases h3:m.aQ=3
 ·rw[Qg h3,Qr (.inl h3)];rfl
 ·rw[Qh h3]
  cases ha:jh m m.ae.ai with
  |false=>rw[Qr (.inr rfl)];rfl
  |true=>
   rw[Qs (by simp[h3])]
   simp only[Ql,Qo]
   have hbc:0<=m.ae.ai/\m.ae.ai<=1000:=by
    rcases h.body with k|k|k|k
    ·rw[k.aT];decide
    ·exact⟨by have:=k.aT.1;omega,k.aT.2.1⟩
    ·exact⟨by have:=k.aT.1;omega,k.aT.2.1⟩
    ·exact absurd k.ba h3
   have hz1:aP m.ae=true->m.aQ=1:=by
    intro hz;rcases h.body with k|k|k|k
    ·exact k.ba
    ·exact k.ba
    ·rw[k.aT.nz]at hz;cases hz
    ·exact absurd k.ba h3
   refine(WA h.ev (fin:=λc=>some ((),(⟨{m with aZ:=bif bQ m.ae ⟨dt c 1000,ow m⟩then m.aZ else 0,ae:=⟨dt c 1000,ow m⟩}⟩:aL))) (λi e s he hd hx hw=> ?_) (λs hd=> ?_)).trans ?_
   ·simp only[hd,hx,hw,Qk,Qa,Vc (h.ev.sm e he) (h.ev.valid e he)];unfold nX
    by_cases c1:m.ae.ai<fG e
    ·by_cases c2:fG e<s
     ·rw[Qg c1,Qg c2]
      cases c3:jh m (fG e)with
      |true=>rw[Qs (by simp)];rfl
      |false=>rw[Qr ⟨c1,c2,rfl⟩];rfl
     ·rw[Qg c1,Qh c2,Qs (λh=>c2 h.2.1)];rfl
    ·rw[Qh c1,Qs (λh=>c1 h.1)];rfl
   ·simp only[hd,Ql,aS];unfold ow
    by_cases h1:m.aQ=1
    ·rw[Qg h1,Qr h1];cases aP m.ae<;>rfl
    ·rw[Qh h1,Qs h1]
     cases hz:aP m.ae with
     |true=>exact absurd (hz1 hz) h1
     |false=>rfl
   ·have hm:=(Kq h hbc).2.2.2.2;rw[hm]
    have hcp:(bif bQ m.ae ⟨dt (ix m) 1000,ow m⟩then m.aZ else 0)=(if ow m=m.ae.Value then m.aZ else 0):=by
     by_cases e:ow m=m.ae.Value
     ·rw[Qr e,(jy (a:=m.ae) (b:=⟨dt (ix m) 1000,ow m⟩)).2 e.symm];rfl
     ·rw[Qs e,(jn (a:=m.ae) (b:=⟨dt (ix m) 1000,ow m⟩)).2 (λhc=>e hc.symm)];rfl
    rw[hcp]
end
end
section
def WM{m:ab}(h:bs m)(s:Int):bN {m with aH:=s}=(bN m).map (λe=>if e.al=m.al then{e with aH:=bF s 1}else e):=by
 have hf:∀e∈m.ar,(if e.al=m.al then{e with aH:=bF s 1}else e)=e:=λe he=>Qs (h.hv e he).2.2.2
 have hmap:m.ar.map (λe=>if e.al=m.al then{e with aH:=bF s 1}else e)=m.ar:=by
  rw[Qq71 hf];simp
 have hown:je {m with aH:=s}={je m with aH:=bF s 1}:=by
  unfold je de fE;split
  ·rfl
  ·split<;>rfl
 unfold bN;split
 ·exact hmap.symm
 ·rw[hown];have hn:(je m).al=m.al:=yZ m
  suffices key:∀l:List ak,(∀e∈l,(if e.al=m.al then{e with aH:=bF s 1}else e)=e)->zW {je m with aH:=bF s 1} l=(zW (je m) l).map (λe=>if e.al=m.al then{e with aH:=bF s 1}else e)from key _ hf
  intro l
  induction l with
  |nil=>
   intro _;simp only[zW,QD,QO,hn,Qt]
  |cons x l ih=>
   intro hx;unfold zW;simp only;split
   ·rw[QD,QD,hn,Qr rfl,hx x Qx,Qq71 (λe he=>hx e (Qy _ he))]
    simp
   ·rw[QD,hx x Qx,ih λe he=>hx e (Qy _ he)]
def R6{m:ab}(h:bs m){s:Int}(hs:0<=s/\s<=1000000):bs {m with aH:=s}:=by
 refine⟨h.n0,h.n1,h.aJ,hs,h.aN,h.tI,h.hv,h.dn,?_⟩;rcases h.body with k|k|k|k
 ·exact .inl ⟨k.ba,k.aT,k.dF,k.bX,k.ed,k.low,k.cm⟩
 ·exact .inr (.inl ⟨k.ba,k.aT,k.dF,k.bX,k.ed,k.up,k.cm,k.low⟩)
 ·exact .inr (.inr (.inl ⟨k.ba,k.aT,k.dF,k.bX,k.ed,k.range⟩))
 ·exact .inr (.inr (.inr ⟨k.ba,k.aT,k.dF,k.bX,k.ed,k.range⟩))
def rH{m:ab}(h:bs m){s:Int}(hs:0<=s/\s<=1000000):Alike (bN m) (bN {m with aH:=s}):=by
 rw[WM h s];refine ab8 h.ev.vb.1 h.ev.vb.2 _ λe he=> ?_
 split
 ·rename_i hn;refine⟨rfl,?_⟩;rw[h.Fp e he];have hv:=h.Fp e he
  have hm:{e with aH:=bF s 1}∈bN {m with aH:=s}:=by
   rw[WM h s];exact QP.2 ⟨e,he,Qr hn⟩
  exact(R6 h hs).Fp _ hm
 ·exact⟨rfl,rfl⟩
def af3(m:ab)(s:Int)(b:ah):CS {m with aH:=s} b={CS m b with aH:=s}:=by
 unfold CS
 by_cases h:bB m.ae b=true
 ·simp only[Qr h]
 ·simp only[Qs h]
def aaz(m:ab)(s:Int)(b:ah):q7 {m with aH:=s} b={q7 m b with aH:=s}:=by
 unfold q7
 by_cases h:m.aZ=0/\bQ m.ae b=true/\lE b.Value m.ae.ai m.ao m.aC<=b.ai
 ·simp only[Qr h]
 ·simp only[Qs h]
section
variable {m : ab} (h : bs m) {s : Int} (hs : 0 <= s /\ s <= 1000000)
 include h hs
theorem afG:eX {m with aH:=s}=eX m:=((rH h hs).next h.ev.aG.2 m.aa _ _ _).symm
theorem af0:gS {m with aH:=s}=gS m:=((rH h hs).cm h.ev.aG.2 m.aa _).symm
theorem SU:iu {m with aH:=s}=iu m:=((rH h hs).ready h.ev.aG.2 m.aa).symm
theorem acr:NW {m with aH:=s}=NW m:=((rH h hs).sure h.ev.aG.2 m.aa).symm
theorem agc:fS {m with aH:=s}=fS m:=by
 unfold fS;rw[SU h hs];simp only;rw[<-(rH h hs).F0,<-(rH h hs).first]
theorem agj:eS {m with aH:=s}=eS m:=by
 unfold eS;rw[SU h hs];simp only;rw[<-(rH h hs).js]
theorem agi:pc {m with aH:=s}=pc m:=by
 unfold pc;rw[acr h hs];simp only;rw[<-(rH h hs).js]
theorem TO(n:Int):jh {m with aH:=s} n=jh m n:=by
 unfold jh;simp only;rw[<-(rH h hs).view _ h.ev.aG.2];rfl
theorem agA:ix {m with aH:=s}=ix m:=by
 unfold ix;simp only;congr 1
 funext b e
 unfold nX;simp only[TO h hs]
theorem JB:c8 {m with aH:=s}={c8 m with aH:=s}:=by
 unfold c8;simp only[afG h hs];split<;>rfl
theorem JA:gB {m with aH:=s}={gB m with aH:=s}:=by
 unfold gB;simp only[af0 h hs];split
 ·rfl
 ·rw[af3,aaz]
theorem JD:fW {m with aH:=s}={fW m with aH:=s}:=by
 unfold fW;simp only[agc h hs,agj h hs];split
 ·split<;>rfl
 ·split<;>rfl
theorem JC:ja {m with aH:=s}={ja m with aH:=s}:=by
 unfold ja;simp only[agi h hs];split<;>rfl
theorem S9:fQ {m with aH:=s}={fQ m with aH:=s}:=by
 unfold fQ;simp only[TO h hs,agA h hs];split<;>rfl
end
open Classical in
 def c7(m:ab):ab:=
 if c8 m=m then(if gB m=m then(if fW m=m then(if ja m=m then fQ m else ja m)else fW m)else gB m)else c8 m
structure KE (m:ab):Prop where
 p:c8 m=m
 s:gB m=m
 c:fW m=m
 f:ja m=m
 k:fQ m=m
def acs{m:ab}(h:c7 m=m):KE m:=by
 unfold c7 at h;split at h
 ·split at h
  ·split at h
   ·split at h
    ·exact⟨by assumption,by assumption,by assumption,by assumption,h⟩
    ·contradiction
   ·contradiction
  ·contradiction
 ·contradiction
def adq{m:ab}(h:KE m):c7 m=m:=by
 unfold c7;rw[Qr h.p,Qr h.s,Qr h.c,Qr h.f,h.k]
def G7{m:ab}{Q:ab->Prop}(h1:Q (c8 m))(h2:Q (gB m))(h3:Q (fW m))(h4:Q (ja m))(h5:Q (fQ m)):Q (c7 m):=by
 unfold c7;split
 ·split
  ·split
   ·split
    ·exact h5
    ·exact h4
   ·exact h3
  ·exact h2
 ·exact h1
def ET{m:ab}(h:bs m):bs (c7 m):=G7 (S8 h) (S7 h) (Tc h) (Tb h) (Ta h)
def SH(m:ab):iZ m (c7 m):=G7 (BX m) (yS m) (yU m) (yT m) (BY m)
def UN{m:ab}(h:bs m):c7 m=m\/km m<km (c7 m):=G7 (Q:=λx=>x=m\/km m<km x) (ajZ h) (ajY h) (aj2 h) (aj1 h) (aj0 h)
def ake(m:ab):(c8 m).ae=m.ae:=by unfold c8;split<;>rfl
def MN{m:ab}(h:bs m)(hz:aP m.ae=false):aP (c7 m).ae=false:=by
 have hb:P1 m\/P2 m\/P3 m:=h.body.resolve_left λk=>by rw[k.aT,bU]at hz;cases hz
 refine G7 (Q:=λx=>aP x.ae=false) (by rw[ake];exact hz) ?_ ?_ ?_ ?_
 ·rcases hb with k|k|k
  ·exact(RE h k).1.aT.nz
  ·rw[vI (.inl (by rw[k.ba];decide))];exact hz
  ·rw[vI (.inl (by rw[k.ba];decide))];exact hz
 ·unfold fW;rcases hb with k|k|k
  ·rw[Qr k.ba];split
   ·rename_i hk;have hf:=PD h hk;exact(Wu (.inr k.aT) k.dF hf.fin hf.lo1 hf.le).aT.nz
   ·exact hz
  ·rw[Qs (by rw[k.ba];decide),Qr k.ba]
   obtain⟨g1,g2,g3,_⟩:=Wc h k;exact(ZT k g1 g2 g3).aT.nz
  ·rw[Qs (by rw[k.ba];decide),Qs (by rw[k.ba];decide)];exact hz
 ·unfold ja;split
  ·rename_i hc;rcases hb with k|k|k
   ·have:=k.ba;have:=hc.1;omega
   ·exact(X7 h k hc.2).aT.nz
   ·have:=k.ba;have:=hc.1;omega
  ·exact hz
 ·cases ha:jh m m.ae.ai with
  |false=>
   have:fQ m=m:=Qr (.inr ha);rw[this];exact hz
  |true=>
   rcases hb with k|k|k
   ·exact(RF h (.inr k) ha).aT.nz
   ·exact(X6 h k).aT.nz
   ·have:fQ m=m:=Qr (.inl k.ba);rw[this];exact hz
def dh(m:ab):ab:=if aP m.ae=false then{m with aH:=bF m.aH 1}else m
def Yi{m:ab}(h:bs m):0<=bF m.aH 1/\bF m.aH 1<=1000000:=by
 have:=h.seq;unfold bF;split<;>omega
def yq{m:ab}(h:bs m):bs (dh m):=by
 unfold dh;split
 ·exact R6 h (Yi h)
 ·exact h
def K3{m:ab}(h:aP m.ae=true->m.aH=0):fR (dh m):=by
 unfold dh;split
 ·rename_i hz;exact⟨λe=>(by rw[show({m with aH:=bF m.aH 1}:ab).ae=m.ae from rfl,hz]at e;cases e),λ_=>by show 1<=bF m.aH 1;unfold bF;split<;>omega⟩
 ·rename_i hz;exact⟨h,λe=>absurd e hz⟩
def agf{m:ab}(h:bs m)(hf:KE m){s:Int}(hs:0<=s/\s<=1000000):KE {m with aH:=s}:=
 ⟨by rw[JB h hs,hf.p],by rw[JA h hs,hf.s],by rw[JD h hs,hf.c],by rw[JC h hs,hf.f],by rw[S9 h hs,hf.k]⟩
def ac9{m:ab}(h:bs m)(hf:KE m):KE (dh m):=by
 unfold dh;split
 ·exact agf h hf (Yi h)
 ·exact hf
def afH{m:ab}(hs:fR m):dh m=m:=by
 unfold dh;split
 ·rename_i hz;have:=hs.pos hz;have e:bF m.aH 1=m.aH:=by unfold bF;split<;>omega
  rw[e]
 ·rfl
def acH(m:ab):km (dh m)=km m:=by
 unfold dh;split<;>rfl
def Vi{m:ab}(h:0<=m.aH):dD ⟨m⟩=some ((),⟨dh m⟩):=by
 unfold dD dh;simp only[etas,dm,Qa]
 cases hz:aP m.ae with
 |true=>rfl
 |false=>
  simp only[Qp,Qk,Qa,Qt]
  by_cases hs:m.aH=0
  ·have e:bF m.aH 1=1:=by unfold bF;split<;>omega
   rw[Qg hs,e];rfl
  ·have e:bF m.aH 1=m.aH:=by unfold bF;split<;>omega
   rw[Qh hs,e];rfl
def xH{m m':ab}(he:iZ m m'):
  (decide (m'.aQ=m.aQ)&&(decide (m'.aZ=m.aZ)&&(decide (m'.bq=m.bq)&&(decide (m'.ae.ai=m.ae.ai)&&(decide (m'.ae.Value=m.ae.Value)&&(decide (m'.ao.ai=m.ao.ai)&&(decide (m'.ao.Value=m.ao.Value)&&(decide (m'.aC.ai=m.aC.ai)&&(decide (m'.aC.Value=m.aC.Value)&&(decide (m'.ax.ai=m.ax.ai)&&(decide (m'.ax.Value=m.ax.Value)&&true)))))))))))=true↔m'=m:=by
 simp only[Qm,Qi];constructor
 ·rintro⟨h1,h2,h3,h4,h5,h6,h7,h8,h9,h10,h11,_⟩;exact DZ he h1 (pf h4 h5) (pf h6 h7) (pf h8 h9) (pf h10 h11) h2 h3
 ·rintro rfl;simp
open Classical in
def ag6{m:ab}(h:bs m)(hs:fR m):oi ⟨m⟩=some (if c7 m=m then(false,⟨m⟩)else(true,⟨dh (c7 m)⟩)):=by
 have hnum:∀{x:ab},bs x->dD ⟨x⟩=some ((),⟨dh x⟩):=λhx=>Vi hx.seq.1
 unfold oi;simp only[etas,aL.eta,gg,Qa,Zr h hs]
 by_cases hP:c8 m=m
 ·simp only[(xH (BX m)).2 hP,Ql,show xor true true=false from rfl]
  rw[hP,ag5 h hs];simp only[Qa]
  by_cases hS:gB m=m
  ·simp only[(xH (yS m)).2 hS,Ql,show xor true true=false from rfl]
   rw[hS,abV h hs];simp only[Qa]
   by_cases hC:fW m=m
   ·simp only[(xH (yU m)).2 hC,Ql,show xor true true=false from rfl]
    rw[hC,adw h hs];simp only[Qa]
    by_cases hF:ja m=m
    ·simp only[(xH (yT m)).2 hF,Ql,show xor true true=false from rfl]
     rw[hF,adp h hs];simp only[Qa];have e:c7 m=fQ m:=by unfold c7;rw[Qr hP,Qr hS,Qr hC,Qr hF]
     rw[e]
     by_cases hK:fQ m=m
     ·simp only[(xH (BY m)).2 hK,Ql,show xor true true=false from rfl]
      rw[Qr hK,hK]
     ·have hb:=mt (xH (BY m)).1 hK;rw[QX]at hb;simp only[hb,Qk,show xor true false=true from rfl]
      rw[hnum (Ta h),Qs hK];rfl
    ·have e:c7 m=ja m:=by unfold c7;rw[Qr hP,Qr hS,Qr hC,Qs hF]
     have hb:=mt (xH (yT m)).1 hF;rw[QX]at hb;simp only[hb,Qk,show xor true false=true from rfl]
     rw[hnum (Tb h),e,Qs hF];rfl
   ·have e:c7 m=fW m:=by unfold c7;rw[Qr hP,Qr hS,Qs hC]
    have hb:=mt (xH (yU m)).1 hC;rw[QX]at hb;simp only[hb,Qk,show xor true false=true from rfl]
    rw[hnum (Tc h),e,Qs hC];rfl
  ·have e:c7 m=gB m:=by unfold c7;rw[Qr hP,Qs hS]
   have hb:=mt (xH (yS m)).1 hS;rw[QX]at hb;simp only[hb,Qk,show xor true false=true from rfl]
   rw[hnum (S7 h),e,Qs hS];rfl
 ·have e:c7 m=c8 m:=by unfold c7;rw[Qs hP]
  have hb:=mt (xH (BX m)).1 hP;rw[QX]at hb;simp only[hb,Qk,show xor true false=true from rfl]
  rw[hnum (S8 h),e,Qs hP];rfl
structure Iq (R:ab->Prop) (m m':ab):Prop where
 inv:bs m'
 seq:fR m'
 env:m'.al=m.al/\m'.aK=m.aK/\m'.aa=m.aa/\m'.bg=m.bg/\m'.ar=m.ar
 num:m'.aH=m.aH\/(m.aH=0/\m'.aH=1)
 nz:aP m.ae=false->aP m'.ae=false
 rel:R m'
 fix:KE m'
def ab9{R:ab->Prop}(hR1:∀m,bs m->R m->R (c7 m))(hR2:∀m,R m->R (dh m)){m:ab}(h:bs m)(hs:aP m.ae=true->m.aH=0)(hr:R m):Yd (gL ⟨m⟩) λq=>∃m',q=((),⟨m'⟩)/\Iq R m m':=by
 unfold gL;simp only[etas,aL.eta,Vi h.seq.1,Qa]
 have num1:∀{x:ab},bs x->(dh x).aH=x.aH\/(x.aH=0/\(dh x).aH=1):=λ{x} hx=>by
  have:=hx.seq;unfold dh;split
  ·show bF x.aH 1=x.aH\/(x.aH=0/\bF x.aH 1=1);unfold bF;split<;>omega
  ·exact .inl rfl
 have env1:∀x:ab,(dh x).al=x.al/\(dh x).aK=x.aK/\(dh x).aa=x.aa/\(dh x).bg=x.bg/\(dh x).ar=x.ar/\(dh x).ae=x.ae:=λx=>by
  unfold dh;split<;>exact⟨rfl,rfl,rfl,rfl,rfl,rfl⟩
 refine Yd.down (λs=>∃x,s=((⟨x⟩:aL),())/\bs x/\fR x/\R x/\(x.al=m.al/\x.aK=m.aK/\x.aa=m.aa/\x.bg=m.bg/\x.ar=m.ar)/\(x.aH=m.aH\/(m.aH=0/\x.aH=1))/\(aP m.ae=false->aP x.ae=false)) (λs=>K1+K2 - km s.1.af) ?_ ⟨dh m,rfl,yq h,K3 hs,hR2 _ hr,⟨(env1 m).1,(env1 m).2.1,(env1 m).2.2.1,(env1 m).2.2.2.1,(env1 m).2.2.2.2.1⟩,num1 h,λhz=>by rw[(env1 m).2.2.2.2.2];exact hz⟩
 rintro s ⟨x,rfl,hx,hsx,hrx,hex,hnx,hzx⟩;simp only[ag6 hx hsx,Qa]
 by_cases hst:c7 x=x
 ·rw[Qr hst];exact .some ⟨x,rfl,⟨hx,hsx,hex,hnx,hzx,hrx,acs hst⟩⟩
 ·rw[Qs hst];have hi:=ET hx;have hv:=SH x;have hup:=(UN hx).resolve_left hst;refine .some ⟨⟨dh (c7 x),rfl,yq hi,K3 ?_,hR2 _ (hR1 _ hx hrx),?_,?_,?_⟩,?_⟩
  ·intro hz;rw[hv.seq];refine hsx.zero ?_
   cases hzz:aP x.ae with
   |true=>rfl
   |false=>rw[MN hx hzz]at hz;cases hz
  ·obtain⟨e1,e2,e3,e4,e5,_⟩:=env1 (c7 x);exact⟨e1.trans (hv.aG.trans hex.1),e2.trans (hv.aJ.trans hex.2.1),e3.trans (hv.aN.trans hex.2.2.1),e4.trans (hv.tI.trans hex.2.2.2.1),e5.trans (hv.heard.trans hex.2.2.2.2)⟩
  ·have h1:=num1 hi;rw[hv.seq]at h1;rcases h1 with e|⟨e1,e2⟩
   ·rw[e];exact hnx
   ·right;rcases hnx with e3|⟨_,e3⟩
    ·exact⟨by rw[<-e3];exact e1,e2⟩
    ·omega
  ·intro hz;rw[(env1 (c7 x)).2.2.2.2.2];exact MN hx (hzx hz)
  ·have h1:=XX hi;show K1+K2 - km (dh (c7 x))<K1+K2 - km x;rw[acH];omega
end
section
def WN{α:Type}{s t:List α}(hl:s.length=t.length)(hn:s.length<=1000000){step:Int×Unit->Option ((Int×Unit)⊕Bool)}
  (h1:∀(i:Nat) (h:i<s.length) (h':i<t.length),decide ((i:Int)<(s.length:Int))=true->idx s (i:Int)=some s[i]->idx t (i:Int)=some t[i]->aA .i64 (i:Int) 1=((i+1:Nat):Int)->∃b:Bool,step ((i:Int),())=some (bif b then .inl (((i+1:Nat):Int),())else .inr false)/\(b=true↔s[i]=t[i]))
  (h2:decide ((s.length:Int)<(s.length:Int))=false->step ((s.length:Int),())=some (.inr true)):∃b,aD step (0,())=some b/\(b=true↔s=t):=by
 suffices key:∀(k i:Nat),i+k=s.length->∃b,aD step ((i:Int),())=some b/\(b=true↔s.drop i=t.drop i)from by simpa using key s.length 0 (by omega)
 intro k
 induction k with
 |zero=>
  intro i hi;obtain rfl:i=s.length:=by omega
  refine⟨true,bM (h2 (Qh (Qq64 _))),?_⟩;rw[List.drop_eq_nil_of_le (by omega),List.drop_eq_nil_of_le (by omega)]
  simp
 |succ k ih=>
  intro i hi;have hi':i<s.length:=by omega
  have hi'':i<t.length:=by omega
  obtain⟨b,h3,h4⟩:=h1 i hi' hi'' (Qg (by omega)) (by rw[bf];exact Qv hi') (by rw[bf];exact Qv hi'') (bH (by omega) (by omega))
  rw[QM hi',QM hi'',List.cons.injEq]
  cases b with
  |false=>
   refine⟨false,bM h3,?_⟩;simp only[Qq,false_iff]at h4 ⊢;exact λh=>h4 h.1
  |true=>
   obtain⟨b,h5,h6⟩:=ih (i+1) (by omega)
   refine⟨b,(bw h3).trans h5,?_⟩;rw[h6];exact⟨λh=>⟨h4.1 rfl,h⟩,λh=>h.2⟩
def OV{α:Type}{s t:List α}(h:s.length≠t.length):(false=true↔s=t):=by
 simp only[Qq,false_iff];exact λh1=>h (by rw[h1])
 def aeG(a0:List Int)(a1:List Int):Option Bool:=
 bif (!decide (((List.length a0:Nat):Int)=((List.length a1:Nat):Int)))then
 some false
 else
 aD (λ(v1:Int×Unit)=>
 bif (decide (v1.1<((List.length a0:Nat):Int)))then
 Option.bind (idx a0 v1.1) λx2=>
 Option.bind (idx a1 v1.1) λx3=>
 bif (!decide (x2=x3))then
 Option.map Sum.inr (some false)
 else
 some (Sum.inl ((aA .i64 v1.1 (1:Int)),()))
 else
 Option.map Sum.inr (some true)) ((0:Int),())
def aez(s t:List Int)(h:s.length<=1000000):∃b,aeG s t=some b/\(b=true↔s=t):=by
 unfold aeG
 by_cases hl:s.length=t.length
 ·rw[Qg (by omega:(s.length:Int)=(t.length:Int)),Qo,Ql]
  refine WN hl h (λi hi hi' hd hx hy hw=> ?_) (λhd=> ?_)
  ·refine⟨decide (s[i]=t[i]),?_,by simp⟩
   simp only[hd,hx,hy,hw,Qk,Qa];cases decide (s[i]=t[i])<;>rfl
  ·simp only[hd,Ql];rfl
 ·rw[Qh (by omega:¬(s.length:Int)=(t.length:Int)),Qp,Qk]
  exact⟨false,rfl,OV hl⟩
def ahT(s t:List Int)(h:s.length<=1000000):∃b,EE s t=some b/\(b=true↔s=t):=aez s t h
def ai7(s t:List Int)(h:s.length<=1000000):∃b,su s t=some b/\(b=true↔s=t):=aez s t h
def SF(a b:aj):a=b↔a.aI=b.aI/\a.bb=b.bb/\a.aO=b.aO:=by
 cases a;cases b;simp
def aiu{n:Nat}:∀{a b:aj},SizeOf.sizeOf a<n->cU a->∃r,EA n (a,b,())=some r/\(r=true↔a=b):=by
 induction n with
 |zero=>intro a b h;omega
 |succ n ih=>
  intro a b hs hm;show∃r,AE (EA n) a b=some r/\(r=true↔a=b);have hl:=hm.len;have hns:=hm.nodes;obtain⟨r,h1,h2⟩:=ahT a.bb b.bb hns;rw[SF];unfold AE
  by_cases ht:a.aI=b.aI
  ·rw[Qg ht];simp only[Qo,Ql,h1,Qa]
   cases r with
   |false=>
    simp only[Qp,Qk,Qa];refine⟨false,rfl,?_⟩;simp only[Qq,false_iff]at h2 ⊢;exact λh=>h2 h.2.1
   |true=>
    simp only[Qo,Ql,Qa]
    by_cases hi:a.aO.length=b.aO.length
    ·rw[Qg (by omega:(a.aO.length:Int)=(b.aO.length:Int)),Qo,Ql]
     have key:∀step:Int×Unit->Option ((Int×Unit)⊕Bool),(∃r,aD step (0,())=some r/\(r=true↔a.aO=b.aO))->∃r,aD step (0,())=some r/\(r=true↔a.aI=b.aI/\a.bb=b.bb/\a.aO=b.aO):=by
      rintro step ⟨r,h3,h4⟩;exact⟨r,h3,by rw[h4];exact⟨λh=>⟨ht,h2.1 rfl,h⟩,λh=>h.2.2⟩⟩
     refine key _ (WN hi hl (λi hi hi' hd hx hy hw=> ?_) (λhd=> ?_))
     ·have hu:=Q0 hi;obtain⟨r,h3,h4⟩:=ih (a:=a.aO[i]) (b:=b.aO[i]) (by have:=sf hu;omega) (hm.inner _ hu)
      refine⟨r,?_,h4⟩;simp only[hd,hx,hy,hw,Qk,Qa,etas,h3];cases r<;>rfl
     ·simp only[hd,Ql];rfl
    ·rw[Qh (by omega:¬(a.aO.length:Int)=(b.aO.length:Int)),Qp,Qk]
     refine⟨false,rfl,?_⟩;simp only[Qq,false_iff];exact λh=>hi (by rw[h.2.2])
  ·rw[Qh ht];refine⟨false,rfl,?_⟩;simp only[Qq,false_iff];exact λh=>ht h.1
def HX{a b:aj}(h:cU a):∃r,jl a b=some r/\(r=true↔a=b):=aiu (by omega) h
def aju{n:Nat}:∀{a b:aj},SizeOf.sizeOf a<n->cU a->∃r,yJ n (a,b,())=some r/\(r=true↔a=b):=by
 induction n with
 |zero=>intro a b h;omega
 |succ n ih=>
  intro a b hs hm;show∃r,uu (yJ n) a b=some r/\(r=true↔a=b);have hl:=hm.len;have hns:=hm.nodes;obtain⟨r,h1,h2⟩:=ai7 a.bb b.bb hns;rw[SF];unfold uu
  by_cases ht:a.aI=b.aI
  ·rw[Qg ht];simp only[Qk,h1,Qa]
   cases r with
   |false=>
    simp only[Ql];refine⟨false,rfl,?_⟩;simp only[Qq,false_iff]at h2 ⊢;exact λh=>h2 h.2.1
   |true=>
    simp only[Qk]
    have key:∀o:Option Bool,(∃r,o=some r/\(r=true↔a.aO=b.aO))->∃r,(Option.bind (Option.bind o λr3=>some r3) λb4=>some b4)=some r/\(r=true↔a.aI=b.aI/\a.bb=b.bb/\a.aO=b.aO):=by
     rintro o ⟨r,rfl,h4⟩;exact⟨r,rfl,by rw[h4];exact⟨λh=>⟨ht,h2.1 rfl,h⟩,λh=>h.2.2⟩⟩
    refine key _ ?_;unfold dK
    by_cases hi:a.aO.length=b.aO.length
    ·rw[Qg (by omega:(a.aO.length:Int)=(b.aO.length:Int)),Qo,Ql]
     refine WN hi hl (λi hi hi' hd hx hy hw=> ?_) (λhd=> ?_)
     ·have hu:=Q0 hi;obtain⟨r,h3,h4⟩:=ih (a:=a.aO[i]) (b:=b.aO[i]) (by have:=sf hu;omega) (hm.inner _ hu)
      refine⟨r,?_,h4⟩;simp only[hd,hx,hy,hw,Qk,Qa,etas,h3];cases r<;>rfl
     ·simp only[hd,Ql];rfl
    ·rw[Qh (by omega:¬(a.aO.length:Int)=(b.aO.length:Int)),Qp,Qk]
     exact⟨false,rfl,OV hi⟩
  ·rw[Qh ht];refine⟨false,rfl,?_⟩;simp only[Qq,false_iff];exact λh=>ht h.1
def eqT{a b:aj}(h:cU a):∃r,mM a b=some r/\(r=true↔a=b):=aju (by omega) h
def Yy(a b:Int)(s t:ByteArray):mj false a b s t=(decide (a=b)&&decide (s=t)):=by
 simp
def P4(a b:ah):a=b↔a.ai=b.ai/\a.Value=b.Value:=by
 cases a;cases b;simp
def Yz(a b:ak):a=b↔a.al=b.al/\a.aK=b.aK/\a.aH=b.aH/\a.aa=b.aa/\a.bx=b.bx/\a.ae=b.ae/\a.ao=b.ao/\a.aC=b.aC/\a.aZ=b.aZ/\a.bq=b.bq:=by
 cases a;cases b;simp
def YG(a b:Bool):(bif a then some b else some false)=some (a&&b):=by cases a<;>rfl
def aia{a b:ak}(h:cU a.aa):∃r,ti a b=some r/\(r=true↔a=b):=by
 obtain⟨r,h1,h2⟩:=HX (a:=a.aa) (b:=b.aa) h;have hc:∀x:Bool,(bif x then some r else some false)=some (x&&r):=λx=>by cases x<;>rfl
 refine⟨_,by simp only[ti,etas,h1,Qa,YG,hc,Yy];rfl,?_⟩
 rw[Yz];simp only[Qm,Qi,h2,P4];constructor
 ·rintro⟨⟨⟨⟨⟨⟨⟨⟨⟨h1,h2⟩,h3⟩,h4⟩,h5⟩,h6⟩,h7⟩,h8⟩,h9⟩,h10⟩;exact⟨h1,h2,h3,h4,h5,h6,h7,h8,h9,h10⟩
 ·rintro⟨h1,h2,h3,h4,h5,h6,h7,h8,h9,h10⟩;exact⟨⟨⟨⟨⟨⟨⟨⟨⟨h1,h2⟩,h3⟩,h4⟩,h5⟩,h6⟩,h7⟩,h8⟩,h9⟩,h10⟩
end
section
def Pw{m:ab}(h:bs m){ρ:Type}{step:Int×Unit->Option ((Int×Unit)⊕ρ)}{fin:Option ρ}
  (h1:∀(i:Nat) (e:ak),e∈m.ar->decide ((i:Int)<(m.ar.length:Int))=true->idx m.ar (i:Int)=some e->aA .i64 (i:Int) 1=((i+1:Nat):Int)->
   (i=0\/(decide ((0:Int)<(i:Int))=true/\∃x,idx m.ar (cQ .i64 (i:Int) 1)=some x/\decide (e.al<=x.al)=false))->step ((i:Int),())=some (.inl (((i+1:Nat):Int),())))
  (h2:decide ((m.ar.length:Int)<(m.ar.length:Int))=false->step ((m.ar.length:Int),())=Option.map Sum.inr fin):aD step (0,())=fin:=by
 have hl:=h.len;refine aaI m.ar.length (by omega) (λi hi hd hw=> ?_) h2
 have hx:idx m.ar (i:Int)=some m.ar[i]:=by rw[bf];exact Qv hi
 refine h1 i m.ar[i] (Q0 hi) hd hx hw ?_
 cases i with
 |zero=>exact .inl rfl
 |succ i=>
  refine .inr ⟨Qg (by omega),m.ar[i],?_,?_⟩
  ·have:cQ .i64 ((i+1:Nat):Int) 1=(i:Int):=by rw[nT (by omega) (by omega)];omega
   rw[this,bf];exact Qv (by omega)
  ·have:=List.pairwise_iff_getElem.1 h.dn i (i+1) (by omega) hi (by omega)
   exact Qh (by omega)
def af1{m:ab}(h:bs m):vu m=some true:=by
 unfold vu;refine Pw h (λi e he hd hx hw hi=> ?_) (λhd=>by simp only[hd,Ql])
 obtain⟨g1,g2,g3,g4⟩:=h.hv e he;simp only[hd,hx,hw,Qk,Qa,aS,etas,sk g2.sm,g1,Qo,Ql,Qg g3,Qh g4];rcases hi with rfl|⟨hi,x,hx2,hn⟩
 ·rfl
 ·rw[hi,hx2];simp only[Qk,Qa,hn,Ql]
def KY{m:ab}(h:bs m)(hs:fR m)(hz:aP m.ae=false):bc (de m)=true:=by
 rw[<-Yf hs hz];exact Tf h hz
def afJ:mj false cd.ai (0:Int) cd.Value bE=true:=by decide
def GK{m:ab}(h:bs m)(hs:fR m):lV m=some true:=by
 have d1:decide (m.al<0)=false:=Qh (by have:=h.n0;omega)
 have d2:decide ((10:Int)<=m.al)=false:=Qh (by have:=h.n1;omega)
 have d3:decide (m.aK<1)=false:=Qh (by have:=h.aJ;omega)
 have d4:decide ((1000000:Int)<m.aK)=false:=Qh (by have:=h.aJ;omega)
 have d5:decide (m.aH<0)=false:=Qh (by have:=h.seq;omega)
 have d6:decide ((1000000:Int)<m.aH)=false:=Qh (by have:=h.seq;omega)
 have d7:decide ((200:Int)<((m.bg.size:Nat):Int))=false:=Qh (by have:=h.tI;omega)
 have hm:cU (de m).aa:=by rw[tZ];exact h.aN.sm
 unfold lV;simp only[d1,d2,d3,d4,d5,d6,d7,Ql,Qa,etas,eJ h.aN,decide_true,Qo,af1 h,dm,E3,K4 h,sk hm]
 cases hz:aP m.ae with
 |true=>
  have h0:P0 m:=by
   rcases h.body with k|k|k|k
   ·exact k
   ·rw[k.aT.nz]at hz;cases hz
   ·rw[k.aT.nz]at hz;cases hz
   ·rw[k.aT.nz]at hz;cases hz
  unfold Aw;simp only[h0.ba,hs.zero hz,h0.dF,h0.bX,h0.ed,h0.low,h0.cm,afJ,decide_true,Qk,Qa]
 |false=>
  have hv:=KY h hs hz;simp only[hv,Ql,Qk]
  have hconf:qC m=some true:=by
   unfold qC;simp only[dm,Cp,tB,fT,Qa]
   have fin:∀(hf:di m.ax) (hp:(dY m.ao m.aC m.ax||(!decide (m.aQ=1)&&bQ m.ax m.ae))=true),_:=λhf hp=>(show(bif aP m.ax then some true else
     (bif !cO m.ax then some true else some (decide (1000<m.ax.ai))).bind λb3=>bif b3 then some false else
     (bif dY m.ao m.aC m.ax then some true else(bif !decide (m.aQ=1)then some (bQ m.ax m.ae)else some false).bind λb6=>some b6).bind λb7=>some b7)=some true by
    rw[hf.nz,hf.valid,Qh (show¬1000<m.ax.ai by have:=hf.2.1;omega)]
    revert hp
    cases dY m.ao m.aC m.ax<;>cases decide (m.aQ=1)<;>cases bQ m.ax m.ae<;>simp)
   have nob:m.ax=cd->(bif aP m.ax then some true else
     (bif !cO m.ax then some true else some (decide (1000<m.ax.ai))).bind λb3=>bif b3 then some false else
     (bif dY m.ao m.aC m.ax then some true else(bif !decide (m.aQ=1)then some (bQ m.ax m.ae)else some false).bind λb6=>some b6).bind λb7=>some b7)=some true:=λe=>by rw[e,bU];rfl
   rcases h.body with k|k|k|k
   ·exact nob k.ed
   ·rcases k.ed with e|⟨hf,hp⟩
    ·exact nob e
    ·exact fin hf (by rw[hp];rfl)
   ·rcases k.ed with e|⟨hf,hp⟩
    ·exact nob e
    ·exact fin hf (by rw[jy.2 hp,Qh (show¬m.aQ=1 by have:=k.ba;omega)];simp)
   ·exact nob k.ed
  rw[hconf];simp only[Qa,Qk];rcases h.body with k|k|k|k
  ·rw[k.aT,bU]at hz;cases hz
  ·simp only[k.ba,k.cm,decide_true,Qo,Ql,Qa,Qp,Qk,show decide ((1:Int)=3)=false from rfl]
  ·simp only[k.ba,k.bX,bU,show decide ((2:Int)=1)=false from rfl,show decide ((2:Int)=3)=false from rfl,Qo,Ql,Qa,Qp,Qk]
  ·simp only[k.ba,k.bX,k.dF,bU,show decide ((3:Int)=1)=false from rfl,decide_true,Qo,Ql,Qa,Qp,Qk]
def wV{m:ab}(h:bs m)(hs:fR m):iy m=some true:=by
 have d1:decide (m.al<0)=false:=Qh (by have:=h.n0;omega)
 have d2:decide ((9:Int)<m.al)=false:=Qh (by have:=h.n1;omega)
 have d3:decide (m.aK<1)=false:=Qh (by have:=h.aJ;omega)
 have d4:decide ((1000000:Int)<m.aK)=false:=Qh (by have:=h.aJ;omega)
 have d5:decide (m.aH<0)=false:=Qh (by have:=h.seq;omega)
 have d6:decide ((1000000:Int)<m.aH)=false:=Qh (by have:=h.seq;omega)
 have d7:decide ((200:Int)<((m.bg.size:Nat):Int))=false:=Qh (by have:=h.tI;omega)
 have hm:cU (de m).aa:=by rw[tZ];exact h.aN.sm
 unfold iy;simp only[d1,d2,d3,d4,d5,d6,d7,Ql,Qa,etas,dH h.aN,decide_true,Qo];refine Pw h (λi e he hd hx hw hi=> ?_) (λhd=> ?_)
 ·obtain⟨g1,g2,g3,g4⟩:=h.hv e he;simp only[hd,hx,hw,Qk,Qa,aS,jU g2.sm,g1,Qo,Ql,Qg g3,Qh g4];rcases hi with rfl|⟨hi,x,hx2,hn⟩
  ·rfl
  ·rw[hi,hx2];simp only[Qk,Qa,hn,Ql]
 ·simp only[hd,Ql];congr 1;simp only[c6,yM,uY,gJ,Qa,Aa,jU hm]
  cases hz:aP m.ae with
  |true=>
   have h0:P0 m:=by
    rcases h.body with k|k|k|k
    ·exact k
    ·rw[k.aT.nz]at hz;cases hz
    ·rw[k.aT.nz]at hz;cases hz
    ·rw[k.aT.nz]at hz;cases hz
   simp only[h0.ba,hs.zero hz,h0.dF,h0.bX,h0.ed,h0.low,h0.cm,bU,decide_true,Qk,Qa]
  |false=>
   have hv:=KY h hs hz;simp only[hv,Ql,Qo];rcases h.body with k|k|k|k
   ·rw[k.aT,bU]at hz;cases hz
   ·simp only[k.ba,k.cm,decide_true,Qo,Ql,Qa,Qp,Qk,show decide ((1:Int)=3)=false from rfl,show decide ((1:Int)=2)=false from rfl]
    rcases k.ed with e|⟨hf,hp⟩
    ·rw[e,bU];rfl
    ·rw[hf.nz,hf.valid,Qh (show¬1000<m.ax.ai by have:=hf.2.1;omega),hp];rfl
   ·simp only[k.ba,k.bX,bU,show decide ((2:Int)=1)=false from rfl,show decide ((2:Int)=3)=false from rfl,decide_true,Qo,Ql,Qa,Qp,Qk]
    rcases k.ed with e|⟨hf,hp⟩
    ·rw[e,bU];rfl
    ·rw[hf.nz,hf.valid,Qh (show¬1000<m.ax.ai by have:=hf.2.1;omega),jy.2 hp];rfl
   ·simp only[k.ba,k.bX,k.dF,k.ed,bU,show decide ((3:Int)=1)=false from rfl,show decide ((3:Int)=2)=false from rfl,decide_true,Qo,Ql,Qa,Qp,Qk]
end
section
def DU(x:ab):(dh x).al=x.al/\(dh x).aK=x.aK/\(dh x).aa=x.aa/\(dh x).bg=x.bg/\(dh x).ar=x.ar/\(dh x).ae=x.ae:=by
 unfold dh;split<;>exact⟨rfl,rfl,rfl,rfl,rfl,rfl⟩
def ac8{x:ab}(hx:bs x):(dh x).aH=x.aH\/(x.aH=0/\(dh x).aH=1):=by
 have:=hx.seq;unfold dh;split
 ·show bF x.aH 1=x.aH\/(x.aH=0/\bF x.aH 1=1);unfold bF;split<;>omega
 ·exact .inl rfl
def DV{m m':ab}(he:iZ m m')(h:¬m'=m):EW m m'=false:=by
 cases hs:EW m m' with
 |false=>rfl
 |true=>exact absurd (acx he hs) h
def aca{R:ab->Prop}(hR1:∀m,bs m->R m->R (c7 m))(hR2:∀m,R m->R (dh m)){m:ab}(h:bs m)(hs:fR m)(hr:R m):Yd (vq m) (Iq R m):=by
 unfold vq;simp only[etas,wV h hs,Qa,Qo,Ql];refine Yd.down (λs=>bs s.1/\R s.1/\iZ m s.1/\(aP m.ae=false->aP s.1.ae=false)) (λs=>K1+K2 - km s.1) ?_ ⟨h,hr,iZ.refl m,id⟩
 rintro⟨x,z,_⟩ ⟨hx,hrx,hex,hzx⟩;simp only at hx hrx hex hzx;simp only[aS,Zs hx.ev,Qa,ahd]
 have hgo:∀{y:ab},y=c7 x->¬y=x->(bs y/\R y/\iZ m y/\(aP m.ae=false->aP y.ae=false))/\K1+K2 - km y<K1+K2 - km x:=by
  rintro y rfl hne;have hv:=SH x;have hup:=(UN hx).resolve_left hne;have h1:=XX (ET hx);exact⟨⟨ET hx,hR1 _ hx hrx,⟨hv.aG.trans hex.aG,hv.aJ.trans hex.aJ,hv.seq.trans hex.seq,hv.aN.trans hex.aN,hv.tI.trans hex.tI,hv.heard.trans hex.heard⟩,λhz=>MN hx (hzx hz)⟩,by omega⟩
 by_cases hP:c8 x=x
 ·simp only[hP,zo,Qk,XG hx.ev,Qa]
  by_cases hS:gB x=x
  ·simp only[hS,zo,Qk,XI hx.ev,Qa]
   by_cases hC:fW x=x
   ·simp only[hC,zo,Qk,agh hx.ev,Qa]
    by_cases hF:ja x=x
    ·simp only[hF,zo,Qk,adJ hx.ev,Qa];have e:c7 x=fQ x:=by unfold c7;rw[Qr hP,Qr hS,Qr hC,Qr hF]
     by_cases hK:fQ x=x
     ·simp only[hK,zo,Qk,c6,Qa]
      have hnum:(bif !aP x.ae then Option.map Sum.inr (some (⟨x.al,x.aK,bF x.aH (1:Int),x.aa,x.aQ,x.ae,x.ao,x.aC,x.ax,x.aZ,x.bq,x.bg,x.ar⟩:ab))else Option.map (Sum.inr (α:=ab×ab×Unit)) (some x))=some (Sum.inr (dh x)):=by
       unfold dh;cases aP x.ae<;>rfl
      rw[hnum];obtain⟨e1,e2,e3,e4,e5,e6⟩:=DU x;refine .some ⟨yq hx,K3 λhz=> ?_,⟨e1.trans hex.aG,e2.trans hex.aJ,e3.trans hex.aN,e4.trans hex.tI,e5.trans hex.heard⟩,?_,λhz=>by rw[e6];exact hzx hz,hR2 _ hrx,ac9 hx ⟨hP,hS,hC,hF,hK⟩⟩
      ·rw[hex.seq];refine hs.zero ?_
       cases hzz:aP m.ae with
       |true=>rfl
       |false=>rw[hzx hzz]at hz;cases hz
      ·have:=ac8 hx;rw[hex.seq]at this;exact this
     ·simp only[DV (BY x) hK,Ql];exact .some (hgo e.symm hK)
    ·simp only[DV (yT x) hF,Ql];have e:c7 x=ja x:=by unfold c7;rw[Qr hP,Qr hS,Qr hC,Qs hF]
     exact .some (hgo e.symm hF)
   ·simp only[DV (yU x) hC,Ql];have e:c7 x=fW x:=by unfold c7;rw[Qr hP,Qr hS,Qs hC]
    exact .some (hgo e.symm hC)
  ·simp only[DV (yS x) hS,Ql];have e:c7 x=gB x:=by unfold c7;rw[Qr hP,Qs hS]
   exact .some (hgo e.symm hS)
 ·simp only[DV (BX x) hP,Ql];have e:c7 x=c8 x:=by unfold c7;rw[Qs hP]
  exact .some (hgo e.symm hP)
open Classical in
 def ue(m m2:ab):ab:=if aP m.ae=false/\{de m with aH:=0}≠{de m2 with aH:=0}then{m2 with aH:=dt (m2.aH+1) 1000000}else m2
def NN(m m2:ab):∃s,ue m m2={m2 with aH:=s}/\(s=m2.aH\/s=dt (m2.aH+1) 1000000):=by
 unfold ue;split
 ·exact⟨_,rfl,.inr rfl⟩
 ·exact⟨m2.aH,rfl,.inl rfl⟩
def XK{m m2:ab}(h:bs m2):∃s,ue m m2={m2 with aH:=s}/\m2.aH<=s/\0<=s/\s<=1000000:=by
 obtain⟨s,h1,h2⟩:=NN m m2;have:=h.seq;refine⟨s,h1,?_⟩;rcases h2 with rfl|rfl
 ·omega
 ·unfold dt;split<;>omega
def adM{m m2:ab}(h:bs m2):bs (ue m m2):=by
 obtain⟨s,h1,h2⟩:=XK (m:=m) h;rw[h1];exact R6 h h2.2
def agC{m m2:ab}(h:bs m2)(hs:fR m2)(hnz:aP m.ae=false->aP m2.ae=false):fR (ue m m2):=by
 unfold ue;split
 ·rename_i hc;have:=hs.pos (hnz hc.1);refine⟨λhz=> ?_,λ_=> ?_⟩
  ·rw[show({m2 with aH:=dt (m2.aH+1) 1000000}:ab).ae=m2.ae from rfl,hnz hc.1]at hz
   cases hz
  ·show 1<=dt (m2.aH+1) 1000000;unfold dt;split<;>omega
 ·exact hs
def IM(R:ab->Prop)(m m1:ab)(q:ab×Int×Unit):Prop:=∃m2,q=(ue m m2,(0:Int),())/\Iq R (dh m1) m2
def agH{R:ab->Prop}{m1 m2:ab}(h1:bs m1)(h:Iq R m1 m2):Iq R (dh m1) m2:=by
 obtain⟨e1,e2,e3,e4,e5,e6⟩:=DU m1;refine⟨h.inv,h.seq,?_,?_,λhz=>h.nz (by rw[e6]at hz;exact hz),h.rel,h.fix⟩
 ·obtain⟨a1,a2,a3,a4,a5⟩:=h.env;exact⟨a1.trans e1.symm,a2.trans e2.symm,a3.trans e3.symm,a4.trans e4.symm,a5.trans e5.symm⟩
 ·have hn:=h.num;have hq:=h1.seq
  cases hz:aP m1.ae with
  |true=>
   have:dh m1=m1:=Qs (by rw[hz];decide)
   rw[this];exact hn
  |false=>
   have h3:=h.seq.pos (h.nz hz);have:(dh m1).aH=bF m1.aH 1:=by unfold dh;rw[Qr hz]
   rw[this];left;unfold bF;split<;>omega
def agl{m:ab}(h:bs m):cU ({de m with aH:=0}:ak).aa:=by rw[show({de m with aH:=0}:ak).aa=(de m).aa from rfl,tZ];exact h.aN.sm
def C8{R:ab->Prop}(hR1:∀m,bs m->R m->R (c7 m))(hR2:∀m,R m->R (dh m)){m m1:ab}(h:bs m)(h1:bs m1)(hz1:aP m1.ae=true->m1.aH=0)(hnz:aP m.ae=false->aP m1.ae=false)(hr:R m1):
  Yd (ig m (dh m1)) λq=>∃m2,q=ue m m2/\Iq R (dh m1) m2:=by
 unfold ig;simp only[etas];refine Yd.bind (aca hR1 hR2 (yq h1) (K3 hz1) (hR2 _ hr)) λm2 ha=> ?_
 have hq:=ha.inv.seq;obtain⟨r,g1,g2⟩:=aia (a:={de m with aH:=0}) (b:={de m2 with aH:=0}) (agl h)
 have hadd:aA .i64 m2.aH 1=m2.aH+1:=bH (by omega) (by omega)
 simp only[c6,Qa,Aa,aS,g1,hadd]
 cases hz2:aP m2.ae with
 |true=>
  have hz:aP m.ae=true:=by
   cases hc:aP m.ae with
   |true=>rfl
   |false=>rw[ha.nz (by rw[(DU m1).2.2.2.2.2];exact hnz hc)]at hz2;cases hz2
  refine .some ⟨m2,?_,ha⟩;unfold ue;rw[Qs (by rw[hz];rintro⟨e,_⟩;cases e)]
 |false=>
  refine Yd.of_eq (x:=ue m m2) ?_ ⟨m2,rfl,ha⟩;unfold ue
  cases hz:aP m.ae with
  |true=>rw[Qs (by rintro⟨e,_⟩;cases e)];rfl
  |false=>
   cases r with
   |true=>rw[Qs (λe=>e.2 (g2.1 rfl))];rfl
   |false=>rw[Qr ⟨rfl,λe=>by have:=g2.2 e;cases this⟩];rfl
def ahc(a b:ak)(h:cU a.aa)(hn:a.al=b.al)(hs:a.aK=b.aK):∃r,pN a b=some r/\(r=true↔{a with aH:=0}={b with aH:=0}):=by
 obtain⟨r,h1,h2⟩:=eqT (a:=a.aa) (b:=b.aa) h;refine⟨r&&decide (a.bx=b.bx)&&decide (a.ae=b.ae)&&decide (a.ao=b.ao)&&decide (a.aC=b.aC)&&decide (a.aZ=b.aZ)&&decide (a.bq=b.bq),?_,?_⟩
 ·unfold pN;simp only[etas,h1,Qa,YG,Yy,<-Bool.decide_and,<-P4,Qa]
 ·rw[Yz];simp only[Qm,Qi,hn,hs,h2,true_and];simp only[and_assoc]
def NI{m:ab}(h:bs m):qo m=some m:=by
 unfold qo;simp only[etas,ml h.aN.sm,Qa];rw[Xb (λe he=>(h.hv e he).2.1.sm) (by have:=h.len;omega)]
 rfl
def SY{l:List ak}{e:ak}(hv:bc e=true):
  (∃x∈l,x.al=e.al/\e.aH<=x.aH/\sO l e=(l,false,()))\/
  (∃a b,((∃x,l=a++x::b/\x.al=e.al/\x.aH<e.aH)\/(l=a++b/\(∀x∈l,x.al≠e.al)/\(∀x∈a,¬e.al<x.al)/\(∀x,b.head?=some x->e.al<x.al)))/\sO l e=(a++e::b,true,())):=by
 unfold sO;rw[Qr hv]
 cases hf:l.findIdx? (λx=>decide (x.al=e.al))with
 |some i=>
  obtain⟨hi,h2,_⟩:=List.findIdx?_eq_some_iff_getElem.1 hf;have hx:l[i]?=some l[i]:=Qv hi;have h2:=of_decide_eq_true h2;simp only[hx,Q3]
  by_cases hle:e.aH<=l[i].aH
  ·left;rw[Qr hle];exact⟨l[i],Q0 hi,h2,hle,rfl⟩
  ·right;rw[Qs hle];refine⟨l.take i,l.drop (i+1),.inl ⟨l[i],?_,h2,by omega⟩,?_⟩
   ·rw[List.getElem_cons_drop];exact(List.take_append_drop i l).symm
   ·rw[List.set_eq_take_append_cons_drop,Qr hi]
 |none=>
  right
  have hne:∀x∈l,x.al≠e.al:=λx hx he=>by
   have:=List.findIdx?_eq_none_iff.1 hf x hx;rw[he]at this;simp at this
  refine⟨l.take (IL l e),l.drop (IL l e),.inr ⟨(List.take_append_drop _ l).symm,hne,?_,?_⟩,by rw[QL];rfl⟩
  ·intro x hx hlt;obtain⟨j,hj,rfl⟩:=List.getElem_of_mem hx;rw[List.getElem_take]at hlt;rw[List.length_take]at hj;unfold IL at hj
   cases hg:l.findIdx? (λx=>decide (e.al<x.al))with
   |none=>
    have:=List.findIdx?_eq_none_iff.1 hg _ (Q0 (show j<l.length by omega))
    simp[hlt]at this
   |some k=>
    obtain⟨_,_,h3⟩:=List.findIdx?_eq_some_iff_getElem.1 hg;rw[hg,Q3]at hj;have:=h3 j (by omega)
    simp[hlt]at this
  ·intro x hx;rw[List.head?_drop]at hx;unfold IL at hx
   cases hg:l.findIdx? (λx=>decide (e.al<x.al))with
   |none=>rw[hg,Option.getD_none,Qq72 (QI _)]at hx;cases hx
   |some k=>
    obtain⟨hk,h2,_⟩:=List.findIdx?_eq_some_iff_getElem.1 hg;rw[hg,Q3,Qv hk]at hx;obtain rfl:=Option.some.inj hx;exact of_decide_eq_true h2
def afo{l:List ak}{e:ak}{y:ak}(hy:y∈(sO l e).1):y=e\/y∈l:=by
 by_cases hv:bc e=true
 ·rcases SY (l:=l) hv with⟨x,_,_,_,h⟩|⟨a,b,h1,h⟩
  ·rw[h]at hy;exact .inr hy
  ·rw[h]at hy;rcases Qz.1 hy with hy|hy
   ·rcases h1 with⟨x,rfl,_⟩|⟨rfl,_⟩
    ·exact .inr (List.mem_append_left _ hy)
    ·exact .inr (List.mem_append_left _ hy)
   ·rcases QA.1 hy with hy|hy
    ·exact .inl hy
    ·rcases h1 with⟨x,rfl,_⟩|⟨rfl,_⟩
     ·exact .inr (List.mem_append_right _ (Qy _ hy))
     ·exact .inr (List.mem_append_right _ hy)
 ·unfold sO at hy;rw[Qs hv]at hy;exact .inr hy
def Zp{l:List ak}{e:ak}(hl:l.Pairwise (λa b=>a.al<b.al)):(sO l e).1.Pairwise (λa b=>a.al<b.al):=by
 by_cases hv:bc e=true
 ·rcases SY (l:=l) hv with⟨x,_,_,_,h⟩|⟨a,b,h1,h⟩
  ·rw[h];exact hl
  ·rw[h];show(a++e::b).Pairwise _;rcases h1 with⟨x,rfl,hn,_⟩|⟨rfl,hne,ha,hb⟩
   ·rw[Qq69,Q4]at hl ⊢;obtain⟨g1,⟨g2,g3⟩,g4⟩:=hl;refine⟨g1,⟨λy hy=> ?_,g3⟩,λy hy z hz=> ?_⟩
    ·rw[<-hn];exact g2 y hy
    ·rcases QA.1 hz with rfl|hz
     ·rw[<-hn];exact g4 y hy x Qx
     ·exact g4 y hy z (Qy _ hz)
   ·rw[Qq69]at hl;rw[Qq69,Q4];obtain⟨g1,g3,g4⟩:=hl
    have hbe:∀y∈b,e.al<y.al:=by
     intro y hy
     cases b with
     |nil=>cases hy
     |cons z b=>
      have:=hb z rfl;rcases QA.1 hy with rfl|hy
      ·exact this
      ·have:=(Q4.1 g3).1 y hy;omega
    refine⟨g1,⟨hbe,g3⟩,λy hy z hz=> ?_⟩
    rcases QA.1 hz with rfl|hz
    ·have h2:=ha y hy;have h3:=hne y (List.mem_append_left _ hy);omega
    ·exact g4 y hy z hz
 ·unfold sO;rw[Qs hv];exact hl
structure Ah (m:ab) (e:ak):Prop where
 valid:bc e=true
 aN:dq e.aa
 aJ:e.aK=m.aK
 aG:e.al≠m.al
 def BG(m:ab)(e:ak):ab:={m with ar:=(sO m.ar e).1}
def HR{m:ab}(h:bs m){e:ak}(he:Ah m e):bs (BG m e):=by
 refine⟨h.n0,h.n1,h.aJ,h.seq,h.aN,h.tI,λy hy=> ?_,Zp h.dn,?_⟩
 ·rcases afo hy with rfl|hy
  ·exact⟨he.valid,he.aN,he.aJ,he.aG⟩
  ·exact h.hv y hy
 ·rcases h.body with k|k|k|k
  ·exact .inl ⟨k.ba,k.aT,k.dF,k.bX,k.ed,k.low,k.cm⟩
  ·exact .inr (.inl ⟨k.ba,k.aT,k.dF,k.bX,k.ed,k.up,k.cm,k.low⟩)
  ·exact .inr (.inr (.inl ⟨k.ba,k.aT,k.dF,k.bX,k.ed,k.range⟩))
  ·exact .inr (.inr (.inr ⟨k.ba,k.aT,k.dF,k.bX,k.ed,k.range⟩))
def H3(m:ab)(t:aj):ab:={m with aa:=t}
def Wk{m:ab}(h:bs m){t:aj}(ht:dq t):bs (H3 m t):=by
 refine⟨h.n0,h.n1,h.aJ,h.seq,ht,h.tI,h.hv,h.dn,?_⟩;rcases h.body with k|k|k|k
 ·exact .inl ⟨k.ba,k.aT,k.dF,k.bX,k.ed,k.low,k.cm⟩
 ·exact .inr (.inl ⟨k.ba,k.aT,k.dF,k.bX,k.ed,k.up,k.cm,k.low⟩)
 ·exact .inr (.inr (.inl ⟨k.ba,k.aT,k.dF,k.bX,k.ed,k.range⟩))
 ·exact .inr (.inr (.inr ⟨k.ba,k.aT,k.dF,k.bX,k.ed,k.range⟩))
def gA(m:ab)(v:ByteArray):ab:=if aP m.ae=true then{m with bg:=v,ae:=⟨1,dW {m with bg:=v}⟩}else{m with bg:=v}
def ae2{v:ByteArray}(h:1<=v.size):v≠gw:=by
 rintro rfl;exact absurd h (by decide)
def UF{m:ab}(h:P0 m){v:ByteArray}(hv:1<=v.size):dW {m with bg:=v}=v:=by
 unfold dW;rw[Qs (by rw[show({m with bg:=v}:ab).ax=m.ax from rfl,h.ed,bU];decide),Qs (by rw[show({m with bg:=v}:ab).aQ=m.aQ from rfl,h.ba];decide),Qr (ae2 hv)]
def Hn{m:ab}(h:bs m){v:ByteArray}(hv:1<=v.size/\v.size<=200):bs (gA m v):=by
 unfold gA;rcases h.body with k|k|k|k
 ·rw[Qr (by rw[k.aT];exact bU),UF k hv.1]
  refine⟨h.n0,h.n1,h.aJ,h.seq,h.aN,hv.2,h.hv,h.dn,.inr (.inl ⟨k.ba,⟨by show(1:Int)<=1;omega,by show(1:Int)<=1000;omega,hv.1,hv.2⟩,.inl k.dF,.inl k.bX,.inl k.ed,?_,k.cm,.inl k.low⟩)⟩
  show bB _ m.ax=false;rw[k.ed]
  cases hl:bB (⟨1,v⟩:ah) cd with
  |false=>rfl
  |true=>have:=iX hl;exact absurd (show(1:Int)<=0 from this) (by decide)
 ·rw[Qs (by rw[k.aT.nz];decide)]
  exact⟨h.n0,h.n1,h.aJ,h.seq,h.aN,hv.2,h.hv,h.dn,.inr (.inl ⟨k.ba,k.aT,k.dF,k.bX,k.ed,k.up,k.cm,k.low⟩)⟩
 ·rw[Qs (by rw[k.aT.nz];decide)]
  exact⟨h.n0,h.n1,h.aJ,h.seq,h.aN,hv.2,h.hv,h.dn,.inr (.inr (.inl ⟨k.ba,k.aT,k.dF,k.bX,k.ed,k.range⟩))⟩
 ·rw[Qs (by rw[k.aT.nz];decide)]
  exact⟨h.n0,h.n1,h.aJ,h.seq,h.aN,hv.2,h.hv,h.dn,.inr (.inr (.inr ⟨k.ba,k.aT,k.dF,k.bX,k.ed,k.range⟩))⟩
def qy(m:ab):ab:={m with aZ:=if dW m=m.ae.Value then m.aZ else 0,ae:=⟨m.ae.ai+1,dW m⟩}
def acn{m:ab}(h:bs m)(h3:m.aQ≠3)(hv:dW m≠gw):1<=(dW m).size/\(dW m).size<=200:=by
 have h1:m.aQ=1->(m.ax=cd\/di m.ax)->1<=(dW m).size/\(dW m).size<=200:=λhp hc=>by
  refine XR h hp hc ?_;refine Classical.byContradiction λhn=>hv ?_
  simp only[not_or,Classical.not_not]at hn;obtain⟨a1,a2,a3⟩:=hn;unfold dW;rw[Qs (by rw[a3,bU];decide),Qs (by rw[hp];decide),Qs (by rw[a2];exact λe=>e rfl),a1]
  rfl
 rcases h.body with k|k|k|k
 ·exact h1 k.ba (.inl k.ed)
 ·exact h1 k.ba (k.ed.imp_right And.left)
 ·unfold dW;rcases k.ed with e|⟨hf,_⟩
  ·rw[Qs (by rw[e,bU];decide),Qr (by rw[k.ba];decide)]
   exact k.aT.2.2
  ·rw[Qr hf.nz];exact hf.2.2
 ·exact absurd k.ba h3
def aiC{m:ab}(k:P2 m):dW m=m.ae.Value:=by
 unfold dW;rcases k.ed with e|⟨hf,he⟩
 ·rw[Qs (by rw[e,bU];decide),Qr (by rw[k.ba];decide)]
 ·rw[Qr hf.nz,he]
def UL{m:ab}(h:bs m)(h3:m.aQ≠3)(hv:dW m≠gw)(hc:m.ae.ai<1000):bs (qy m):=by
 have hsz:=acn h h3 hv;refine⟨h.n0,h.n1,h.aJ,h.seq,h.aN,h.tI,h.hv,h.dn,?_⟩;have hfin:0<=m.ae.ai->di (qy m).ae:=λh0=>⟨by show 1<=m.ae.ai+1;omega,by show m.ae.ai+1<=1000;omega,hsz⟩
 rcases h.body with k|k|k|k
 ·have h0:m.ae.ai=0:=by rw[k.aT];rfl
  refine .inr (.inl ⟨k.ba,hfin (by omega),.inl k.dF,.inl k.bX,.inl k.ed,?_,k.cm,.inl ?_⟩)
  ·show bB (⟨m.ae.ai+1,dW m⟩:ah) m.ax=false;rw[k.ed]
   cases hl:bB (⟨m.ae.ai+1,dW m⟩:ah) cd with
   |false=>rfl
   |true=>have:=iX hl;exact absurd (show m.ae.ai+1<=0 from this) (by omega)
  ·show(if dW m=m.ae.Value then m.aZ else 0)=0
   rw[k.low,ite_self]
 ·have hb:=k.aT;have h0:0<=m.ae.ai:=by have:=hb.1;omega
  refine .inr (.inl ⟨k.ba,hfin h0,k.dF,k.bX,k.ed,?_,k.cm,?_⟩)
  ·show bB (⟨m.ae.ai+1,dW m⟩:ah) m.ax=false
   cases hl:bB (⟨m.ae.ai+1,dW m⟩:ah) m.ax with
   |false=>rfl
   |true=>
    have h1:=iX hl;have h2:=M3 k.up;exact absurd (show m.ae.ai+1<=m.ax.ai from h1) (by omega)
  ·show(if dW m=m.ae.Value then m.aZ else 0)=0\/_
   by_cases he:dW m=m.ae.Value
   ·have hlow:(qy m).aZ=m.aZ:=by show(if dW m=m.ae.Value then m.aZ else 0)=m.aZ;rw[Qr he]
    have hhigh:fE (qy m)=fE m:=by
     show(if(!aP m.ax&&bQ m.ax ⟨m.ae.ai+1,dW m⟩)=true then m.ax.ai else 0)=fE m
     rw[he];rfl
    rw[Qr he,hlow,hhigh];rcases k.low with e|⟨g1,g2,g3⟩
    ·exact .inl e
    ·refine .inr ⟨g1,g2,?_⟩;show oP m.ao m.aC (dW m) m.aZ=false;rw[he];exact g3
   ·rw[Qs he];exact .inl rfl
 ·have hb:=k.aT;have h0:0<=m.ae.ai:=by have:=hb.1;omega
  have hv2:=aiC k;have hval:(qy m).ae.Value=m.ae.Value:=hv2;have hlow:(qy m).aZ=m.aZ:=by show(if dW m=m.ae.Value then m.aZ else 0)=m.aZ;rw[Qr hv2]
  refine .inr (.inr (.inl ⟨k.ba,hfin h0,?_,k.bX,?_,?_⟩))
  ·rw[hval];exact k.dF
  ·rw[hval];exact k.ed
  ·rw[hlow];exact k.range
 ·exact absurd k.ba h3
end
section
def aiB:aj:=⟨0,[],[]⟩
def KH:ab:=⟨0,0,0,aiB,0,cd,cd,cd,cd,0,0,gw,[]⟩
def Vj{m m1:ab}(hs:fR m)(hb:aP m1.ae=aP m.ae)(hq:m1.aH=m.aH):dh m1=m1:=by
 refine afH ⟨λhz=> ?_,λhz=> ?_⟩
 ·rw[hq];exact hs.zero (by rw[<-hb];exact hz)
 ·rw[hq];exact hs.pos (by rw[<-hb];exact hz)
def nU{m:ab}{v:ByteArray}:(aP m.ae=false->aP (gA m v).ae=false)/\(gA m v).aH=m.aH:=by
 unfold gA;split
 ·rename_i hz;refine⟨λe=> ?_,rfl⟩
  rw[hz]at e;cases e
 ·exact⟨λe=>e,rfl⟩
def acW{m:ab}(h:bs m){v:ByteArray}(hv:1<=v.size/\v.size<=200):aP (gA m v).ae=false:=by
 rcases h.body with k|k|k|k
 ·unfold gA;rw[Qr (by rw[k.aT];exact bU),UF k hv.1]
  exact di.nz ⟨by show(1:Int)<=1;omega,by show(1:Int)<=1000;omega,hv.1,hv.2⟩
 ·exact nU.1 k.aT.nz
 ·exact nU.1 k.aT.nz
 ·exact nU.1 k.aT.nz
def KL{m:ab}(h:bs m):aP (qy m).ae=false:=by
 have:0<=m.ae.ai:=by
  rcases h.body with k|k|k|k
  ·rw[k.aT];decide
  ·have:=k.aT.1;omega
  ·have:=k.aT.1;omega
  ·have:=k.aT.1;omega
 cases hz:aP (qy m).ae with
 |false=>rfl
 |true=>
  have:=yP.1 hz;have h2:m.ae.ai+1=0:=congrArg ah.ai this;omega
section
variable {R : ab -> Prop} (hR1 : ∀ m, bs m -> R m -> R (c7 m)) (hR2 : ∀ m, R m -> R (dh m)) {m : ab} (h : bs m) (hs : fR m)
 include hR1 hR2 h hs
theorem MU{v:ByteArray}(hv:1<=v.size/\v.size<=200)(hr:R (gA m v)):Yd (kc m v) (IM R m (gA m v)):=by
 have d1:decide (((ByteArray.size v:Nat):Int)<(1:Int))=false:=Qh (by omega)
 have d2:decide ((200:Int)<((ByteArray.size v:Nat):Int))=false:=Qh (by omega)
 have hi:=Hn h hv;have hval:oA {m with bg:=v}=some (dW {m with bg:=v}):=Rn (m:={m with bg:=v}) ⟨h.ev.n0,h.ev.n1,h.ev.aN,h.ev.len,h.ev.sm,h.ev.valid⟩
 unfold kc;simp only[etas,wV h hs,Qa,Qo,Ql,d1,d2,c6,aS]
 have key:Yd ((ig m (dh (gA m v))).bind λr5=>some (r5,(0:Int),())) (IM R m (gA m v)):=
  Yd.bind (C8 hR1 hR2 h hi (λhz=>by rw[nU.2];exact hs.zero (by cases hc:aP m.ae with|true=>rfl|false=>rw[nU.1 hc]at hz;cases hz)) nU.1 hr) λq hq=>by
   obtain⟨m2,rfl,ha⟩:=hq;exact .some ⟨m2,rfl,ha⟩
 cases hz:aP m.ae with
 |true=>
  have hsq:=hs.zero hz
  have he:dh (gA m v)=⟨m.al,m.aK,1,m.aa,m.aQ,⟨1,dW {m with bg:=v}⟩,m.ao,m.aC,m.ax,m.aZ,m.bq,v,m.ar⟩:=by
   unfold dh;rw[Qr (acW h hv),nU.2,hsq];unfold gA;rw[Qr hz];rfl
  rw[he]at key;simp only[Qk];rw[show(⟨m.al,m.aK,m.aH,m.aa,m.aQ,m.ae,m.ao,m.aC,m.ax,m.aZ,m.bq,v,m.ar⟩:ab)={m with bg:=v}from rfl,hval]
  exact key
 |false=>
  have he:dh (gA m v)=⟨m.al,m.aK,m.aH,m.aa,m.aQ,m.ae,m.ao,m.aC,m.ax,m.aZ,m.bq,v,m.ar⟩:=by
   rw[Vj hs (by rw[nU.1 hz,hz]) nU.2]
   unfold gA;rw[Qs (by rw[hz];decide)]
  rw[he]at key;exact key
theorem U3{e:ak}(he:Ah m e)(hr:R (BG m e)):Yd (kb m e) λq=>(IM R m (BG m e) q/\(sO m.ar e).2.1=true)\/(q=(KH,(9:Int),())/\(sO m.ar e).2.1=false):=by
 have hi:=HR h he;have hlen:=h.len;have hput:=afc (l:=m.ar) (λx hx=>(h.hv x hx).2.1.sm) (by omega) (e:=e) he.aN.sm
 have hid:dh (BG m e)=BG m e:=Vj hs rfl rfl;unfold kb;simp only[etas,wV h hs,Qa,Qo,Ql,jU he.aN.sm,he.valid,Qh he.aG,Qg he.aJ,hput]
 cases hp:(sO m.ar e).2.1 with
 |false=>exact .some (.inr ⟨rfl,rfl⟩)
 |true=>
  have:=C8 hR1 hR2 h hi hs.zero (λe=>e) hr
  rw[hid]at this;refine Yd.bind this λq hq=> ?_
  obtain⟨m2,rfl,ha⟩:=hq;exact .some (.inl ⟨⟨m2,rfl,by rw[hid];exact ha⟩,rfl⟩)
theorem acJ(hr:R (qy m)):Yd (rK m) λq=>(IM R m (qy m) q/\m.aQ≠3/\dW m≠gw/\m.ae.ai<1000)\/(q=(KH,(62:Int),())/\(m.aQ=3\/dW m=gw))\/(q=(KH,(3:Int),())/\1000<=m.ae.ai):=by
 unfold rK;simp only[etas,wV h hs,Qa,Qo,Ql,Rn h.ev,aS]
 by_cases h3:m.aQ=3
 ·rw[Qg h3];exact .some (.inr (.inl ⟨rfl,.inl h3⟩))
 ·rw[Qh h3]
  by_cases hv:dW m=bE
  ·rw[Qg hv];exact .some (.inr (.inl ⟨rfl,.inr hv⟩))
  ·rw[Qh hv]
   by_cases hc:(1000:Int)<=m.ae.ai
   ·rw[Qg hc];exact .some (.inr (.inr ⟨rfl,hc⟩))
   ·rw[Qh hc];have hi:=UL h h3 hv (by omega)
    have hb0:0<=m.ae.ai:=by
     rcases h.body with k|k|k|k
     ·rw[k.aT];decide
     ·have:=k.aT.1;omega
     ·have:=k.aT.1;omega
     ·have:=k.aT.1;omega
    have hadd:aA .i64 m.ae.ai 1=m.ae.ai+1:=bH (by omega) (by omega)
    have key:Yd ((ig m (dh (qy m))).bind λr5=>some (r5,(0:Int),())) (IM R m (qy m)):=
     Yd.bind (C8 hR1 hR2 h hi (λhz=>by rw[KL h]at hz;cases hz) (λ_=>KL h) hr) λq hq=>by
      obtain⟨m2,rfl,ha⟩:=hq;exact .some ⟨m2,rfl,ha⟩
    have he:dh (qy m)=⟨m.al,m.aK,bF m.aH 1,m.aa,m.aQ,⟨m.ae.ai+1,dW m⟩,m.ao,m.aC,m.ax,(if dW m=m.ae.Value then m.aZ else 0),m.bq,m.bg,m.ar⟩:=by
     unfold dh;rw[Qr (KL h)];rfl
    rw[he]at key;simp only[hadd,Ql]
    by_cases hev:dW m=m.ae.Value
    ·simp only[Qg hev,Qo,Ql];rw[Qr hev]at key;exact key.mono λq hq=> .inl ⟨hq,h3,hv,by omega⟩
    ·simp only[Qh hev,Qp,Qk];rw[Qs hev]at key;exact key.mono λq hq=> .inl ⟨hq,h3,hv,by omega⟩
theorem acQ{t:aj}(ht:dq t)(hr:R (H3 m t)):Yd (rL m t) (IM R m (H3 m t)):=by
 have hi:=Wk h ht;have hid:dh (H3 m t)=H3 m t:=Vj hs rfl rfl;unfold rL;simp only[etas,wV h hs,Qa,Qo,Ql,dH ht,decide_true];have:=C8 hR1 hR2 h hi hs.zero (λe=>e) hr
 rw[hid]at this;refine Yd.bind this λq hq=> ?_
 obtain⟨m2,rfl,ha⟩:=hq;exact .some ⟨m2,rfl,by rw[hid];exact ha⟩
end
def M4(aG aJ:Int)(t:aj):ab:=⟨aG,aJ,0,t,1,cd,cd,cd,cd,0,0,gw,[]⟩
def acK{aG aJ:Int}{t:aj}(h0:0<=aG)(h1:aG<10)(h2:1<=aJ)(h3:aJ<=1000000)(ht:dq t):BO aG aJ t=some (M4 aG aJ t,(0:Int),()):=by
 unfold BO;simp only[etas,Qh (show¬aG<0 by omega),Qh (show¬(9:Int)<aG by omega),Qh (show¬aJ<1 by omega),Qh (show¬(1000000:Int)<aJ by omega),Ql,Qa,dH ht,decide_true,Qo]
 rfl
def akc{aG aJ:Int}{t:aj}(h0:0<=aG)(h1:aG<10)(h2:1<=aJ)(h3:aJ<=1000000)(ht:dq t):yk aG aJ t=some (M4 aG aJ t,(0:Int),()):=by
 unfold yk;simp only[etas,Qh (show¬aG<0 by omega),Qh (show¬(10:Int)<=aG by omega),Qh (show¬aJ<1 by omega),Qh (show¬(1000000:Int)<aJ by omega),Ql,Qa,eJ ht,decide_true,Qo,ml ht.sm]
 rfl
def RG{aG aJ:Int}{t:aj}(h0:0<=aG)(h1:aG<10)(h2:1<=aJ)(h3:aJ<=1000000)(ht:dq t):bs (M4 aG aJ t)/\fR (M4 aG aJ t):=
 ⟨⟨h0,h1,⟨h2,h3⟩,⟨by show(0:Int)<=0;omega,by show(0:Int)<=1000000;omega⟩,ht,(by show gw.size<=200;decide),(λe he=>absurd he QR),List.Pairwise.nil,.inl ⟨rfl,rfl,rfl,rfl,rfl,rfl,rfl⟩⟩,⟨λ_=>rfl,λhz=>absurd (show aP cd=false from hz) (by rw[bU];decide)⟩⟩
section
variable {R : ab -> Prop} (hR1 : ∀ m, bs m -> R m -> R (c7 m)) (hR2 : ∀ m, R m -> R (dh m)) {m : ab} (h : bs m) (hs : fR m)
 include hR1 hR2 h hs
theorem Wz{m1:ab}(h1:bs m1)(hz1:aP m1.ae=true->m1.aH=0)(hnz:aP m.ae=false->aP m1.ae=false)(hn:m1.al=m.al)(hsl:m1.aK=m.aK)(hr:R m1):
  Yd (Option.bind (gL ⟨m1⟩) λp4=>
   aY (λ(v5:aL×Unit)=>some (v5.1.af,(0:Int),())) λj6=>
   aY (λ(v7:Bool×Unit)=>
   bif v7.1 then
   j6 ((aL.mk (ab.mk p4.2.af.al p4.2.af.aK (dt (aA .i64 p4.2.af.aH (1:Int)) (1000000:Int)) p4.2.af.aa p4.2.af.aQ p4.2.af.ae p4.2.af.ao p4.2.af.aC p4.2.af.ax p4.2.af.aZ p4.2.af.bq p4.2.af.bg p4.2.af.ar)),())
   else
   j6 (p4.2,())) λj8=>
   Option.bind (bA m.ae) λr9=>
   bif (!r9)then
   Option.bind (eG m) λr10=>
   Option.bind (eG p4.2.af) λr11=>
   Option.bind (pN r10 r11) λr12=>
   j8 ((!r12),())
   else
   j8 (false,())) (IM R m m1):=by
 refine Yd.bind (ab9 hR1 hR2 h1 hz1 hr) λq hq=> ?_
 obtain⟨m2,rfl,ha⟩:=hq;have hq:=ha.inv.seq;have hadd:aA .i64 m2.aH 1=m2.aH+1:=bH (by omega) (by omega)
 obtain⟨r,g1,g2⟩:=ahc (de m) (de m2) (by rw[tZ];exact h.aN.sm) (by rw[yZ,yZ,ha.env.1,hn]) (by rw[Ff,Ff,ha.env.2.1,hsl])
 simp only[aS,dm,Qa,E3,K4 h,K4 ha.inv,hadd,g1];have hb:=agH h1 ha;refine Yd.of_eq (x:=(ue m m2,(0:Int),())) ?_ ⟨m2,rfl,hb⟩;unfold ue
 cases hz:aP m.ae with
 |true=>rw[Qs (by rintro⟨e,_⟩;cases e)];rfl
 |false=>
  cases r with
  |true=>rw[Qs (λe=>e.2 (g2.1 rfl))];rfl
  |false=>rw[Qr ⟨rfl,λe=>by have:=g2.2 e;cases this⟩];rfl
theorem ac4{v:ByteArray}(hv:1<=v.size/\v.size<=200)(hr:R (gA m v)):Yd (oV m v) (IM R m (gA m v)):=by
 have d1:decide (((ByteArray.size v:Nat):Int)<(1:Int))=false:=Qh (by omega)
 have d2:decide ((200:Int)<((ByteArray.size v:Nat):Int))=false:=Qh (by omega)
 have hi:=Hn h hv;have hval:iC ⟨{m with bg:=v}⟩=some (dW {m with bg:=v}):=U8 (m:={m with bg:=v}) ⟨h.ev.n0,h.ev.n1,h.ev.aN,h.ev.len,h.ev.sm,h.ev.valid⟩
 have hdo:qD ⟨m⟩ v=some ((0:Int),⟨gA m v⟩):=by
  unfold qD gA;simp only[d1,d2,Ql,Qa,dm,aS]
  cases hz:aP m.ae with
  |true=>
   simp only[Qk,Qt,etas];rw[show(⟨m.al,m.aK,m.aH,m.aa,m.aQ,m.ae,m.ao,m.aC,m.ax,m.aZ,m.bq,v,m.ar⟩:ab)={m with bg:=v}from rfl,hval]
   rfl
  |false=>simp only[Ql,Qq,Qu,etas]
 unfold oV tt;simp only[etas,aL.eta,GK h hs,NI h,hdo,Qa,Qo,Ql,decide_true];refine Yd.bind (Wz hR1 hR2 h hs hi (λhz=>by rw[nU.2];exact hs.zero (by cases hc:aP m.ae with|true=>rfl|false=>rw[nU.1 hc]at hz;cases hz)) nU.1 (by unfold gA;split<;>rfl) (by unfold gA;split<;>rfl) hr) λq hq=> ?_
 obtain⟨m2,rfl,ha⟩:=hq;exact .some ⟨m2,rfl,ha⟩
theorem ac3{e:ak}(he:Ah m e)(hr:R (BG m e)):Yd (jP m e) λq=>(IM R m (BG m e) q/\(sO m.ar e).2.1=true)\/(q=(KH,(9:Int),())/\(sO m.ar e).2.1=false):=by
 have hi:=HR h he;have hlen:=h.len;have hput:=aiq (l:=m.ar) (λx hx=>(h.hv x hx).2.1.sm) (by omega) (e:=e) he.aN.sm
 have hdo:kj ⟨m⟩ e=some (bif (sO m.ar e).2.1 then((0:Int),⟨BG m e⟩)else((9:Int),⟨m⟩)):=by
  unfold kj;simp only[etas,aS,sk he.aN.sm,he.valid,Qa,Qo,Ql,Qh he.aG,Qg he.aJ,hput];cases (sO m.ar e).2.1<;>rfl
 unfold jP om;simp only[etas,aL.eta,GK h hs,NI h,hdo,Qa,Qo,Ql]
 cases hp:(sO m.ar e).2.1 with
 |false=>exact .some (.inr ⟨rfl,rfl⟩)
 |true=>
  simp only[Qk,decide_true,Qo,Ql];refine Yd.bind (Wz hR1 hR2 h hs hi hs.zero (λe=>e) rfl rfl hr) λq hq=> ?_
  obtain⟨m2,rfl,ha⟩:=hq;exact .some (.inl ⟨⟨m2,rfl,ha⟩,trivial⟩)
end
def MZ{m:ab}(h:bs m)(hs:fR m):oW m=some (bif decide (m.aQ=3)then m.ae.Value else gw,decide (m.aQ=3),()):=by
 unfold oW;simp only[etas,GK h hs,Qa];cases decide (m.aQ=3)<;>rfl
def afw{m:ab}(h:bs m)(hs:fR m){e:ak}(ht:cU e.aa)(hbad:bc e=false\/e.al=m.al\/e.aK≠m.aK):jP m e=some (KH,(61:Int),()):=by
 have hdo:kj ⟨m⟩ e=some ((61:Int),⟨m⟩):=by
  unfold kj;simp only[etas,aS,sk ht,Qa]
  cases hv:bc e with
  |false=>rfl
  |true=>
   by_cases hn:e.al=m.al
   ·rw[Qg hn];rfl
   ·have hsl:e.aK≠m.aK:=(hbad.resolve_left (by rw[hv];decide)).resolve_left hn
    rw[Qh hn,Qh hsl];rfl
 unfold jP om;simp only[etas,aL.eta,GK h hs,NI h,hdo,Qa,Qo,Ql];rfl
end
section
structure Im (n:Nat) (k:Int) (m:ab):Prop where
 n10:n<=10
 k1:1<=k
 kn:k<=n
 aN:m.aa=flat n k
 heard:∀e∈m.ar,e.aa=flat n k
section
variable {n : Nat} {k : Int} {m : ab} (h : bs m) (hf : Im n k m)
 include h
 include hf
end
section
variable {l : List ak} (hv : ∀ e ∈ l, bc e = true) (hsm : ∀ e ∈ l, cU e.aa) (hlen : l.length <= 1000)
 include hv hsm hlen
end
section
variable {n : Nat} {k : Int} {m : ab} (h : bs m) (hf : Im n k m)
 include h hf
end
section
variable {n : Nat} {k : Int} {m : ab} (h : bs m) (hf : Im n k m)
 include h hf
end
def Im.step{n:Nat}{k:Int}{m m':ab}(hf:Im n k m)(he:iZ m m'):Im n k m':=⟨hf.n10,hf.k1,hf.kn,by rw[he.aN];exact hf.aN,by rw[he.heard];exact hf.heard⟩
structure aeP (n:Nat) (k:Int) (m:ab):Prop where
 inv:bs m
 seq:fR m
 flat:Im n k m
 nz:aP m.ae=false
 aJ:m.aK=1
def aeP.env{n:Nat}{k:Int}{m:ab}(h:aeP n k m):bc (de m)=true/\(de m).aa=Go.Proofs.YtofedieniojipaaGreat.flat n k/\(de m).aK=1:=⟨KY h.inv h.seq h.nz,by rw[tZ];exact h.flat.aN,by rw[Ff];exact h.aJ⟩
end
section
section
variable {n : Nat} {k : Int}
end
end
section
section
variable {n : Nat} {k : Int} (hn : n <= 10) (hk1 : 1 <= k) (hkn : k <= n) {i : Int} (hi0 : 0 <= i) (hi9 : i < 10) {v : ByteArray} (hv : 1 <= v.size /\ v.size <= 200)
 include hn hk1 hkn hi0 hi9
 include hv
end
end
section
def AD(m m1:ab):Prop:=
 (∃v,(1<=v.size/\v.size<=200)/\m1=gA m v)\/(∃e,Ah m e/\m1=BG m e)\/(m.aQ≠3/\dW m≠gw/\m.ae.ai<1000/\m1=qy m)\/(∃t,dq t/\m1=H3 m t)
structure ajw (m m1:ab):Prop where
 inv:bs m1
 aG:m1.al=m.al
 aJ:m1.aK=m.aK
 seq:m1.aH=m.aH
 nz:aP m.ae=false->aP m1.ae=false
def adP{m m1:ab}(h:bs m)(hb:AD m m1):ajw m m1:=by
 rcases hb with⟨v,hv,rfl⟩|⟨e,he,rfl⟩|⟨h3,hv,hc,rfl⟩|⟨t,ht,rfl⟩
 ·exact⟨Hn h hv,by unfold gA;split<;>rfl,by unfold gA;split<;>rfl,nU.2,nU.1⟩
 ·exact⟨HR h he,rfl,rfl,rfl,λe=>e⟩
 ·exact⟨UL h h3 hv hc,rfl,rfl,rfl,λ_=>KL h⟩
 ·exact⟨Wk h ht,rfl,rfl,rfl,λe=>e⟩
structure OkM (m:ab):Prop where
 inv:bs m
 seq:fR m
 fix:KE m
 aG:m.al=0
 aJ:m.aK=1
def X1{m:ab}(h:bs m)(hs:fR m){e:ak}(ht:cU e.aa)(hbad:bc e=false\/e.al=m.al\/e.aK≠m.aK):kb m e=some (KH,(61:Int),()):=by
 unfold kb;simp only[etas,wV h hs,Qa,Qo,Ql,jU ht]
 cases hv:bc e with
 |false=>rfl
 |true=>
  by_cases hn:e.al=m.al
  ·rw[Qg hn];rfl
  ·have hsl:e.aK≠m.aK:=(hbad.resolve_left (by rw[hv];decide)).resolve_left hn
   rw[Qh hn,Qh hsl];rfl
def F7{v:ByteArray}(h:P8 v):1<=v.size/\v.size<=200:=by
 have:=h.size;omega
end
section
abbrev Lp{σ ρ:Type}(I:σ->Prop)(p:ρ->Prop):σ⊕ρ->Prop
 | .inl s=>I s
 | .inr r=>p r
def Yd.Fg{σ ρ:Type}{step:σ->Option (σ⊕ρ)}{p:ρ->Prop}(inv:σ->Prop)(μ:σ->Nat)(h:∀s,inv s->Yd (step s) (Lp (λs'=>inv s'/\μ s'<μ s) p)){s:σ}(hs:inv s):Yd (aD step s) p:=
 Yd.down inv μ (λs hi=>(h s hi).mono λy hy=>by cases y<;>exact hy) hs
def Yd.list{α σ τ ρ:Type}{p:ρ->Prop}{step:τ->Option (τ⊕ρ)}(l:List α)(hl:l.length<=1000000)(mk:Int->σ->τ)(inv:Nat->σ->Prop)
  (h1:∀(i:Nat) (x:α) (s:σ),inv i s->l.drop i=x::l.drop (i+1)->x∈l->i<l.length->decide ((i:Int)<(l.length:Int))=true->idx l (i:Int)=some x->aA .i64 (i:Int) 1=((i+1:Nat):Int)->Yd (step (mk (i:Int) s)) (Lp (λt=>∃s',t=mk ((i+1:Nat):Int) s'/\inv (i+1) s') p))
  (h2:∀s,inv l.length s->decide ((l.length:Int)<(l.length:Int))=false->Yd (step (mk (l.length:Int) s)) (Lp (λ_=>False) p))
  {s:σ} (h0:inv 0 s):Yd (aD step (mk 0 s)) p:=by
 suffices key:∀(k i:Nat) (s:σ),i+k=l.length->inv i s->Yd (aD step (mk (i:Int) s)) p from key l.length 0 s (by omega) h0
 intro k
 induction k with
 |zero=>
  intro i s hi hs;obtain rfl:i=l.length:=by omega
  refine Yd.loop ((h2 s hs (Qh (Qq64 _))).mono λy hy=> ?_)
  cases y with
  |inl t=>exact hy.elim
  |inr r=>exact hy
 |succ k ih=>
  intro i s hi hs;have hi':i<l.length:=by omega
  refine Yd.loop ((h1 i l[i] s hs (QM hi') (Q0 hi') hi' (Qg (by omega)) (by rw[bf];exact Qv hi') (bH (by omega) (by omega))).mono λy hy=> ?_)
  cases y with
  |inl t=>
   grind
  |inr r=>exact hy
def kM(x:ByteArray):Prop:=1<=x.size/\x.size<=200
instance (x:ByteArray):Decidable (kM x):=by unfold kM;infer_instance
def abP:∀(x:ByteArray) (l:List ByteArray),Decidable (x∈l)
 |_,[]=>isFalse QR
 |x,y::l=>if h:x=y then isTrue (by rw[h];exact Qx)else match abP x l with
  |isTrue h2=>isTrue (Qy _ h2)
  |isFalse h2=>isFalse λe=>(QA.1 e).elim h h2
instance (x:ByteArray) (l:List ByteArray):Decidable (x∈l):=abP x l
structure VL (l:List ByteArray):Prop where
 rZ:∀x∈l,kM x
 GQ:l.Pairwise (λa b=>bO a b=true)
 len:l.length<=40
def VL.nil:VL []:=⟨λx h=>absurd h QR,List.Pairwise.nil,by simp⟩
def VL.sy{l:List ByteArray}(h:VL l):l.length<=1000000:=QK h.len (by omega)
def Fk(a b:ByteArray):Int:=if a=b then 0 else if bO a b=true then -1 else 1
theorem AX(a b:ByteArray):iQ a b=some (Fk a b):=by
 grind [iQ,Fk,bO,lz]
theorem Fj{a b:ByteArray}:decide (Fk a b<0)=bO a b:=by
 unfold Fk
 by_cases h:a=b
 ·subst h;rw[Qr rfl,jt.irrefl];rfl
 ·rw[Qs h];cases bO a b<;>rfl
theorem Ks{a b:ByteArray}:decide (0<Fk a b)=bO b a:=by
 unfold Fk
 by_cases h:a=b
 ·subst h;rw[Qr rfl,jt.irrefl];rfl
 ·rw[Qs h]
  cases h1:bO a b with
  |true=>rw[jt.asymm h1];rfl
  |false=>
   cases h2:bO b a with
   |true=>rfl
   |false=>exact absurd (jt.total _ _ h1 h2) h
def Z2{a b:ByteArray}:decide (0<=Fk a b)= !bO a b:=by
 rw[<-Fj (a:=a) (b:=b)]
 grind
def Oj(x:ByteArray):uF x=some (decide (kM x)):=by
 grind [uF,kM]
def Ju(l:List ByteArray)(hl:l.length<=1000000)(x:ByteArray):nk l x=some (decide (x∈l)):=by
 unfold nk
 have h:Yd (aD (λ(v1:Int×Unit)=>
   bif (decide (v1.1<((List.length l:Nat):Int)))then
   Option.bind (idx l v1.1) λx2=>
   bif (decide (x=x2))then
   Option.map Sum.inr (some true)
   else
   some (Sum.inl ((aA .i64 v1.1 (1:Int)),()))
   else
   Option.map Sum.inr (some false)) ((0:Int),())) (λb=>b=decide (x∈l)):=by
  refine Yd.list l hl (λi (_:Unit)=>(i,())) (λi _=>x∉l.take i) ?_ ?_ (s:=()) (by simp)
  ·intro i y s hs hd hy hi hdec hx hadd;simp only;rw[hdec,Qk,hx,Qa,hadd]
   by_cases hxy:x=y
   ·rw[Qg hxy,Qk];exact .some (by subst hxy;exact(Qg hy).symm)
   ·rw[Qh hxy,Ql];refine .some ⟨(),rfl,?_⟩
    have hi2:l[i]?=some y:=by
     rw[bf]at hx;exact hx
    rw[List.take_add_one,hi2];simp only[Option.toList_some,Qz,Q5];exact λh=>h.elim hs hxy
  ·intro s hs hdec;simp only;rw[hdec,Ql];rw[Qq62]at hs;exact .some (Qh hs).symm
 obtain⟨b,h1,rfl⟩:=h;exact h1
def VQ{α:Type}[DecidableEq α]{lt:α->α->Bool}(x:α):∀(l:List α),x∉l->(dQ lt x l).length=l.length+1
 |[],_=>rfl
 |y::l,h=>by
  have h1:y≠x:=λe=>h (by rw[e];exact Qx)
  rw[dQ]
  by_cases h2:lt y x=true
  ·rw[Qr h2,QE,VQ x l (λe=>h (Qy _ e)),QE]
  ·rw[Qs h2,Qs h1];rfl
def mI(l:List ByteArray)(x:ByteArray):List ByteArray:=if x∈l\/40<=l.length then l else dQ bO x l
def Jr{l:List ByteArray}(h:VL l)(x:ByteArray):nj l x=some (mI l x):=by
 have hl:=h.len;unfold nj mI;rw[Ju l h.sy,Qa]
 by_cases hx:x∈l
 ·grind
 rw[Qh hx];simp only[Ql,Qa]
 by_cases h40:40<=l.length
 ·grind
 rw[Qh (by omega:¬(40:Int)<=(l.length:Int)),Qs (λe=>e.elim hx h40)]
 simp only[Ql,aS];have hk:∀n,n<=100->bl 16 n=true:=λn hn=>bC ⟨by omega,by omega⟩
 have:=Yd.list (p:=λr=>r=dQ bO x l) (step:=λ(v3:Bool×Int×(List ByteArray)×Unit)=>
   bif (decide (v3.2.1<((List.length l:Nat):Int)))then
   Option.bind (idx l v3.2.1) λx4=>
   Option.bind (bif (!v3.1)then
   Option.bind (iQ x x4) λr7=>
   some (decide (r7<(0:Int)))
   else some false) λb8=>
   bif b8 then
   bif bl 16 (List.length v3.2.2.1+List.length [x])then
   bif bl 16 (List.length (v3.2.2.1++[x])+List.length [x4])then
   some (Sum.inl (true,(aA .i64 v3.2.1 (1:Int)),((v3.2.2.1++[x])++[x4]),()))
   else none
   else none
   else
   bif bl 16 (List.length v3.2.2.1+List.length [x4])then
   some (Sum.inl (v3.1,(aA .i64 v3.2.1 (1:Int)),(v3.2.2.1++[x4]),()))
   else none
   else
   Option.map Sum.inr (
   bif (!v3.1)then
   bif bl 16 (List.length v3.2.2.1+List.length [x])then
   some (v3.2.2.1++[x])
   else none
   else
   some v3.2.2.1)) l h.sy (λi (s:Bool×List ByteArray)=>(s.1,i,s.2,()))
   (λi s=>s.2.length<=2*i/\(s.1=false->s.2++dQ bO x (l.drop i)=dQ bO x l)/\(s.1=true->s.2++l.drop i=dQ bO x l)) ?_ ?_ (s:=(false,[])) ⟨by simp,λ_=>by simp,λe=>by cases e⟩
 ·obtain⟨r,h1,rfl⟩:=this;exact h1
 ·rintro i y ⟨d,out⟩ ⟨hs1,hs2,hs3⟩ hd hy hi hdec hx' hadd;simp only at hs1 hs2 hs3;simp only;rw[hdec,Qk,hx',Qa,hadd,AX,Qa,Fj];have hne:y≠x:=λe=>hx (by rw[<-e];exact hy)
  have k1:bl 16 (out.length+[x].length)=true:=hk _ (by simp only[Q6];omega)
  have k2:bl 16 ((out++[x]).length+[y].length)=true:=hk _ (by simp only[QB,Q6];omega)
  have k3:bl 16 (out.length+[y].length)=true:=hk _ (by simp only[Q6];omega)
  rw[k1,k2,k3]
  cases d with
  |true=>
   simp only[Qo,Ql,Qa,Qk];refine .some ⟨(true,out++[y]),rfl,by simp only[QB,Q6];omega,λe=>(by cases e),λ_=> ?_⟩
   rw[<-hs3 rfl,hd,QL];rfl
  |false=>
   have hs2:=hs2 rfl;rw[hd,dQ]at hs2;simp only[Qp,Qk,Qa]
   cases hxy:bO x y with
   |true=>
    simp only[Qk];rw[Qs (by rw[jt.asymm hxy];simp),Qs hne]at hs2
    refine .some ⟨(true,(out++[x])++[y]),rfl,by simp only[QB,Q6];omega,λe=>(by cases e),λ_=> ?_⟩
    grind
   |false=>
    simp only[Ql]
    have hyx:bO y x=true:=by
     cases hh:bO y x with
     |true=>rfl
     |false=>exact absurd (jt.total _ _ hh hxy) hne
    rw[Qr hyx]at hs2;refine .some ⟨(false,out++[y]),rfl,by simp only[QB,Q6];omega,λ_=> ?_,λe=>by cases e⟩
    rw[<-hs2,QL];rfl
 ·rintro⟨d,out⟩ ⟨hs1,hs2,hs3⟩ hdec;simp only at hs1 hs2 hs3;simp only;have k1:bl 16 (out.length+[x].length)=true:=hk _ (by simp only[Q6];omega)
  rw[hdec,Ql,k1]
  cases d with
  |true=>
   have:=hs3 rfl;rw[Qq66,List.append_nil]at this;exact .some this
  |false=>
   have:=hs2 rfl;rw[Qq66]at this;exact .some this
def uK{l:List ByteArray}(h:VL l){x:ByteArray}(hx:kM x):VL (mI l x)/\(∀y∈l,y∈mI l x)/\(∀y∈mI l x,y=x\/y∈l)/\(x∉l->l.length<40->(mI l x).length=l.length+1):=by
 unfold mI
 by_cases h1:x∈l\/40<=l.length
 ·grind
 ·rw[Qs h1];have hm:=Hw (lt:=bO) x l;have hlen:=vU (lt:=bO) x l;have h2:¬40<=l.length:=λe=>h1 (.inr e)
  refine⟨⟨λy hy=> ?_,jt.dQ x h.GQ,by omega⟩,λy hy=>(hm y).2 (.inr hy),λy hy=>(hm y).1 hy,λh3 _=>VQ x l h3⟩
  rcases(hm y).1 hy with rfl|hy
  ·exact hx
  ·exact h.rZ y hy
def Js{l:List ByteArray}(h:VL l):mn l=some true:=by
 unfold mn;refine Yd.eq_true (Yd.list l h.sy (λi (_:Unit)=>(i,())) (λ_ _=>True) ?_ ?_ (s:=()) trivial)
 ·intro i y s hs hd hy hi hdec hx hadd;simp only;rw[hdec,Qk,hx,Qa,Oj,Qa,Qg (h.rZ y hy),hadd];simp only[Qo,Ql]
  by_cases h0:i=0
  ·subst h0;rw[Qh (by omega:¬(0:Int)<((0:Nat):Int))]
   exact .some ⟨(),rfl,trivial⟩
  ·rw[Qg (by omega:(0:Int)<(i:Int))]
   simp only[Qk];have hsub:cQ .i64 (i:Int) 1=((i - 1:Nat):Int):=by rw[nT (by omega) (by have:=h.len;omega)];omega
   have hi1:i - 1<l.length:=by omega
   rw[hsub,bf,Qv hi1,Qa,AX,Qa,Z2]
   have hyi:y=l[i]:=by
    grind [bf]
   have hlt:bO l[i - 1] y=true:=by
    rw[hyi];exact List.pairwise_iff_getElem.1 h.GQ (i - 1) i hi1 hi (by omega)
   rw[hlt];exact .some ⟨(),rfl,trivial⟩
 ·intro s hs hdec;simp only;rw[hdec,Ql,Qg (by have:=h.len;omega:(l.length:Int)<=(40:Int))]
  exact .some rfl
def Om{s t:List ByteArray}(h:s.length<=1000000):∃b,gd s t=some b/\(b=true↔s=t):=by
 unfold gd
 by_cases hl:s.length=t.length
 ·rw[Qg (by omega:(s.length:Int)=(t.length:Int)),Qo,Ql]
  refine WN hl h (λi hi hi' hd hx hy hw=> ?_) (λhd=> ?_)
  ·simp only;rw[hd,Qk,hx,hy,Qa,Qa,hw]
   by_cases he:s[i]=t[i]
   ·rw[Qg he];exact⟨true,rfl,by simp[he]⟩
   ·rw[Qh he];exact⟨false,rfl,by simp[he]⟩
  ·simp only;rw[hd,Ql];rfl
 ·rw[Qh (by omega:¬(s.length:Int)=(t.length:Int))]
  exact⟨false,rfl,OV hl⟩
def Ol{a b:List ByteArray}{n:Nat}(hn:a.length+b.length<=n)(h:n<=100000):Yd (jr a b) λr=>r.length<=n/\∀x∈r,x∈a\/x∈b:=by
 unfold jr;simp only[aS];refine Yd.Fg (λ(v:Int×Int×List ByteArray×Unit)=>∃i k:Nat,v.1=i/\v.2.1=k/\i<=a.length/\k<=b.length/\v.2.2.1.length<=i+k/\∀x∈v.2.2.1,x∈a\/x∈b) (λv=>a.length+b.length - (v.1.toNat+v.2.1.toNat)) ?_ ⟨0,0,rfl,rfl,by omega,by omega,by simp,λx hx=>absurd hx QR⟩
 rintro⟨i',k',out,u⟩ ⟨i,k,e1,e2,hi,hk,hlen,hmem⟩;simp only at e1 e2 hlen hmem;subst e1 e2;have kk:∀x:ByteArray,bl 16 (out.length+[x].length)=true:=λx=>bC ⟨by simp only[Q6];omega,by simp only[Q6];omega⟩
 have hi1:aA .i64 (i:Int) 1=((i+1:Nat):Int):=bH (by omega) (by omega)
 have hk1:aA .i64 (k:Int) 1=((k+1:Nat):Int):=bH (by omega) (by omega)
 have ga:i<a.length->∃x∈a,idx a (i:Int)=some x:=λh=>⟨a[i],Q0 h,by rw[bf];exact Qv h⟩
 have gb:k<b.length->∃x∈b,idx b (k:Int)=some x:=λh=>⟨b[k],Q0 h,by rw[bf];exact Qv h⟩
 have fin1:∀(x:ByteArray) (j1 j2:Nat),(x∈a\/x∈b)->j1<=a.length->j2<=b.length->i+k<j1+j2->Yd (bif bl 16 (out.length+[x].length)then some (Sum.inl (((j1:Nat):Int),((j2:Nat):Int),(out++[x]),()))else(none:Option ((Int×Int×List ByteArray×Unit)⊕List ByteArray)))
   (Lp (λs'=>(∃i k:Nat,s'.1=i/\s'.2.1=k/\i<=a.length/\k<=b.length/\s'.2.2.1.length<=i+k/\∀x∈s'.2.2.1,x∈a\/x∈b)/\a.length+b.length - (s'.1.toNat+s'.2.1.toNat)<a.length+b.length - ((i:Int).toNat+(k:Int).toNat)) (λr=>r.length<=n/\∀x∈r,x∈a\/x∈b)):=by
  intro x j1 j2 hx h1 h2 h3;rw[kk x,Qk];refine .some ⟨⟨j1,j2,rfl,rfl,h1,h2,?_,?_⟩,?_⟩
  ·simp only[QB,Q6];omega
  ·intro y hy;rcases Qz.1 hy with hy|hy
   ·exact hmem y hy
   ·rw[Q5.1 hy];exact hx
  ·simp only[QV];omega
 simp only
 by_cases c1:i<a.length
 ·obtain⟨x,hx,ex⟩:=ga c1;rw[Qg (by omega:(i:Int)<(a.length:Int))]
  simp only[Qk,Qa]
  grind [AX,Fj,Ks,bO]
 ·rw[Qh (by omega:¬(i:Int)<(a.length:Int))]
  simp only[Ql]
  by_cases c2:k<b.length
  ·grind
  ·rw[Qh (by omega:¬(k:Int)<(b.length:Int))]
   simp only[Ql,Qa];exact .some ⟨by omega,hmem⟩
def Zi{l:List ByteArray}(h:l.length<=1000000):Yd (l9 l) λr=>r.2.1=true->kM r.1:=by
 unfold l9;simp only[aS];refine Yd.list l h (λi (s:ByteArray×Bool)=>(s.1,s.2,i,())) (λ_ s=>s.2=true->kM s.1) ?_ ?_ (s:=(_,false)) (λe=>by cases e)
 ·rintro i y ⟨F0,found⟩ hs hd hy hi hdec hx hadd;simp only at hs;simp only;rw[hdec,Qk,hx,Qa,Oj,Qa,hadd]
  by_cases hv:kM y
  ·rw[Qg hv];simp only[Qk]
   cases found with
   |false=>
    simp only[Qp,Qk,Qa];exact .some ⟨(y,true),rfl,λ_=>hv⟩
   |true=>
    simp only[Qo,Ql,Qa,AX]
    cases decide (0<Fk y F0)with
    |true=>exact .some ⟨(y,true),rfl,λ_=>hv⟩
    |false=>exact .some ⟨(F0,true),rfl,hs⟩
  ·rw[Qh hv];simp only[Ql,Qa];exact .some ⟨(F0,found),rfl,hs⟩
 ·rintro⟨F0,found⟩ hs hdec;simp only;rw[hdec,Ql];exact .some hs
end
section
def ad8{rec:(aj×Int×Unit)->Option (eV×Bool×Unit)}{t:aj}{x:Int}(hm:cU t)(hr:∀u∈t.aO,Yd (rec (u,x,())) λ_=>True):Yd (jC rec t x) λ_=>True:=by
 unfold jC;simp only[etas];refine Yd.list t.bb hm.nodes (λi (s:eV)=>(i,s,())) (λ_ _=>True) ?_ ?_ trivial
 ·intro i y s hs hd hy hi hdec hx hadd;simp only;rw[hdec,Qk,hx,Qa,hadd]
  cases decide (y=x)with
  |true=>exact .some trivial
  |false=>exact .some ⟨s,rfl,trivial⟩
 ·intro s hs hdec;simp only;rw[hdec,Ql];refine Yd.map (Yd.list t.aO hm.len (λi (s:eV)=>(i,s,())) (λ_ _=>True) ?_ ?_ trivial)
  ·intro i y s hs hd hy hi hdec hx hadd;simp only;rw[hdec,Qk,hx,Qa,hadd];refine Yd.bind (hr y hy) λq _=> ?_
   cases q.2.1 with
   |true=>exact .some trivial
   |false=>exact .some ⟨s,rfl,trivial⟩
  ·intro s hs hdec;simp only;rw[hdec,Ql];exact .some trivial
def ad3{x:Int}{n:Nat}:∀{t:aj},SizeOf.sizeOf t<n->cU t->Yd (s8 n (t,x,())) λ_=>True:=by
 induction n with
 |zero=>intro t h;omega
 |succ n ih=>
  intro t hz hm;show Yd (jC (s8 n) t x) λ_=>True
  exact ad8 hm λu hu=>ih (t:=u) (by have:=sf hu;omega) (hm.inner u hu)
def ae6{t:aj}(hm:cU t)(x:Int):Yd (w9 t x) λ_=>True:=ad3 (by omega) hm
structure Dq (t:aj) (v aJ round:Int):Prop where
 aN:dq t
 v0:0<=v
 v1:v<10
 s0:0<=aJ
 s1:aJ<=1000000
 r1:1<=round
 r2:round<=1000
def Zg(a b c d:Int):∃r,nH a b c d=some r:=⟨_,rfl⟩
section
variable {t : aj} {v aJ round : Int}
def Oo(h:Dq t v aJ round):uH t v aJ round=some 0:=by
 have e1:=h.v0;have e2:=h.v1;have e3:=h.s0;have e4:=h.s1;have e5:=h.r1;have e6:=h.r2;unfold uH;simp only[etas,dH h.aN,Qa];rw[Qh (by omega:¬v<0),Qh (by omega:¬(10:Int)<=v),Qh (by omega:¬aJ<0),Qh (by omega:¬(1000000:Int)<aJ),Qh (by omega:¬round<1),Qh (by omega:¬(1000:Int)<round)]
 rfl
def ahk(h:Dq t v aJ round)(k:Int):Yd (ma t v aJ round k) λ_=>True:=by
 unfold ma;simp only[etas,Oo h,Qa,aS];have h1:∀b:Bool,Yd (bif b then(some true:Option Bool)else some (decide (k<0))) λ_=>True:=λb=>by cases b<;>exact .some trivial
 refine Yd.bind (h1 _) λb1 _=> ?_
 have h2:∀b:Bool,Yd (bif b then(some true:Option Bool)else some (decide ((10:Int)<=k))) λ_=>True:=λb=>by cases b<;>exact .some trivial
 refine Yd.bind (h2 _) λb2 _=> ?_
 cases b2 with
 |true=>exact .some trivial
 |false=>
  simp only[Ql];refine Yd.bind (ae6 h.aN.sm k) λq _=> ?_
  obtain⟨hsh,eh⟩:=Zg 1 aJ round k;rw[eh];simp only[Qa]
  cases decide (k=v)with
  |true=>exact .some trivial
  |false=>
   cases q.2.1<;>exact .some trivial
def X2(h:Dq t v aJ round):Yd (ln t v aJ round) λq=>0<=q.1/\q.1<10/\q.2.1=0:=by
 unfold ln;simp only[etas,Oo h,Qa,aS];simp only[decide_true,Qo,Ql];refine Yd.Fg (λ(s:Int×Int×Unit)=>0<=s.1/\s.1<10/\0<=s.2.1/\s.2.1<=10) (λs=>(10 - s.2.1).toNat) ?_ ⟨h.v0,h.v1,Int.le_refl _,by show(0:Int)<=10;omega⟩
 rintro⟨b,k,u⟩ ⟨h1,h2,h3,h4⟩;simp only at h1 h2 h3 h4;simp only
 by_cases hk:k<10
 ·rw[Qg hk];have hadd:aA .i64 k 1=k+1:=bH (by omega) (by omega)
  simp only[Qk];rw[hadd]
  have fin:∀x:Int,0<=x->x<10->Yd (some (Sum.inl (x,k+1,())):Option ((Int×Int×Unit)⊕(Int×Int×Unit))) (Lp (λs'=>(0<=s'.1/\s'.1<10/\0<=s'.2.1/\s'.2.1<=10)/\(10 - s'.2.1).toNat<(10 - k).toNat) (λr=>0<=r.1/\r.1<10/\r.2.1=0)):=
   λx g1 g2=> .some ⟨⟨g1,g2,by show 0<=k+1;omega,by show k+1<=10;omega⟩,by show(10 - (k+1)).toNat<(10 - k).toNat;omega⟩
  refine Yd.bind (ahk h k) λr _=> ?_
  cases r with
  |false=>exact fin b h1 h2
  |true=>
   obtain⟨hsh,eh⟩:=Zg 2 aJ round k;obtain⟨hsb,eb⟩:=Zg 2 aJ round b;rw[eh,eb];simp only[Qo,Ql,Qa];refine Yd.bind (p:=λ_=>True) ?_ λb9 _=> ?_
   ·refine Yd.cond (λ_=> .some trivial) λ_=> ?_
    exact Yd.bind (p:=λ_=>True) (Yd.cond (λ_=> .some trivial) λ_=> .some trivial) λ_ _=> .some trivial
   ·cases b9 with
    |true=>exact fin k h3 hk
    |false=>exact fin b h1 h2
 ·rw[Qh hk];exact .some ⟨h1,h2,rfl⟩
def acM(h:Dq t v aJ round):Yd (oe t v aJ round) λq=>∃s:Nat,q.1=s/\s<1024:=by
 have e5:=h.r1;have e6:=h.r2;unfold oe;simp only[etas,aS];refine Yd.bind (X2 h) λq ⟨_,_,hq⟩=> ?_
 rw[hq];simp only[decide_true,Qo,Ql];refine Yd.Fg (λ(s:Int×Int×Unit)=>(∃n:Nat,s.1=n/\n<1024)/\1<=s.2.1/\s.2.1<=round+1) (λs=>(round+1 - s.2.1).toNat) ?_ ⟨⟨0,rfl,by omega⟩,Int.le_refl _,by show(1:Int)<=round+1;omega⟩
 rintro⟨b,k,u⟩ ⟨⟨n,h1,h2⟩,h3,h4⟩;simp only at h1 h3 h4;subst h1;simp only
 by_cases hk:k<=round
 ·rw[Qg hk];have hadd:aA .i64 k 1=k+1:=bH (by omega) (by omega)
  simp only[Qk];rw[hadd];refine Yd.bind (X2 ⟨h.aN,h.v0,h.v1,h.s0,h.s1,h3,by omega⟩) λq ⟨g1,g2,_⟩=> ?_
  rw[mR,Qa]
  have fin:∀x:Nat,x<1024->Yd (some (Sum.inl ((x:Int),k+1,())):Option ((Int×Int×Unit)⊕(Int×Int×Unit))) (Lp (λs'=>((∃n:Nat,s'.1=n/\n<1024)/\1<=s'.2.1/\s'.2.1<=round+1)/\(round+1 - s'.2.1).toNat<(round+1 - k).toNat) (λr=>∃s:Nat,r.1=s/\s<1024)):=
   λx g=> .some ⟨⟨⟨x,rfl,g⟩,by show 1<=k+1;omega,by show k+1<=round+1;omega⟩,by show(round+1 - (k+1)).toNat<(round+1 - k).toNat;omega⟩
  cases xn n q.1 with
  |true=>exact fin n h2
  |false=>
   simp only[Qp,Qk];rw[Qs (by omega),qL h2 g1 g2]
   exact fin _ (Bz h2 g2)
 ·rw[Qh hk];exact .some ⟨n,rfl,h2⟩
end
end
end Go.Proofs.YtofedieniojipaaGreat
end
