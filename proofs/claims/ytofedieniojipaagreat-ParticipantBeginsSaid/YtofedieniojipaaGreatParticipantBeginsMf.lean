/-
  Texts made small by a program (see NOTES). Conditions: those that each theorem names.
-/
import Derived.Test.YtofedieniojipaaGreatParticipantBeginsMe
set_option linter.unusedVariables false
set_option linter.defProp false
set_option linter.unusedSimpArgs false
set_option linter.unusedSectionVars false
set_option maxHeartbeats 2000000
noncomputable section
namespace Go.Proofs.YtofedieniojipaaGreat
open Go.TQ
section
def lu{bytes n:Nat}(h:bytes<=200)(hn:n<=1000000):bl bytes n=true:=
 bK ⟨QK (Nat.mul_le_mul hn h) (by decide),hn⟩
def yo{α ρ:Type}(l:List α)(hl:l.length<=1000000)(p:α->Bool){step:Int×Unit->Option ((Int×Unit)⊕ρ)}{fin:Option ρ}{f:Nat->α->Option ρ}
  (h1:∀(i:Nat) (x:α),i<l.length->l[i]?=some x->decide ((i:Int)<(l.length:Int))=true->idx l (i:Int)=some x->aA .i64 (i:Int) 1=((i+1:Nat):Int)->step ((i:Int),())=bif p x then Option.map Sum.inr (f i x)else some (.inl (((i+1:Nat):Int),())))
  (h2:(∀x∈l,p x=false)->decide ((l.length:Int)<(l.length:Int))=false->step ((l.length:Int),())=Option.map Sum.inr fin):
  aB step ((0:Int),())=match l.findIdx? p with|some i=>(l[i]?).bind (f i)|none=>fin:=by
 suffices key:∀(k i:Nat),i+k=l.length->(∀x∈l.take i,p x=false)->aB step ((i:Int),())=match(l.drop i).findIdx? p with|some j=>(l[i+j]?).bind (f (i+j))|none=>fin by
  have:=key l.length 0 (by omega) (by simp)
  rw[List.drop_zero]at this;simp only[Nat.zero_add]at this;exact this
 intro k
 induction k with
 |zero=>
  intro i hi hpre;obtain rfl:i=l.length:=by omega
  rw[Qq62]at hpre;rw[fb,h2 hpre (Qh (Qq64 _)),Qq66];cases fin<;>rfl
 |succ k ih=>
  intro i hi hpre;have hlt:i<l.length:=by omega
  have hx:l[i]?=some l[i]:=Qv hlt;have hs:=h1 i l[i] hlt hx (Qg (by omega)) (by rw[bg];exact hx) (bH (by omega) (by omega))
  rw[QM hlt,List.findIdx?_cons]
  cases hp:p l[i]with
  |true=>
   rw[hp]at hs;rw[fb,hs];simp only[Qk,Qt,Nat.add_zero,hx,Qa];cases f i l[i]<;>rfl
  |false=>
   rw[hp]at hs
   rw[bw hs,ih (i+1) (by omega) (λx hx=>by
    rw[Q7 hlt,Qz,Q5]at hx;rcases hx with hx|rfl
    ·exact hpre x hx
    ·exact hp)]
   simp only[Qq,Qu]
   cases (l.drop (i+1)).findIdx? p with
   |none=>rfl
   |some j=>
    simp only[Qe];rw[show i+1+j=i+(j+1)by omega]
def G0(l:List aj)(e:aj):Nat:=(l.findIdx? λx=>decide (e.al<x.al)).getD l.length
 def rC(l:List aj)(e:aj):List aj×Bool×Unit:=
 if bc e then
  match l.findIdx? λx=>decide (x.al=e.al)with
  |some i=>if e.aG<=((l[i]?).getD e).aG then(l,false,())else(l.set i e,true,())
  |none=>(l.take (G0 l e)++[e]++l.drop (G0 l e),true,())
 else(l,false,())
def agi(l:List aj)(e:aj):G0 l e<=l.length:=by
 unfold G0
 cases h:l.findIdx? λx=>decide (e.al<x.al)with
 |none=>exact QI _
 |some i=>exact Nat.le_of_lt ((List.findIdx?_eq_some_iff_getElem.1 h).1)
section
variable {l : List aj} (hl : ∀ x ∈ l, cQ x.aa) (hlen : l.length <= 1000)
 include hlen
theorem Zy(e:aj):dH l e=some (match l.findIdx? λx=>decide (x.al=e.al)with|some i=>(i:Int)|none=> -1):=by
 unfold dH;refine(yo l (by omega) (λx=>decide (x.al=e.al)) (f:=λi _=>some (i:Int)) (fin:=some (-1)) (λi x hi hx0 hd hx hw=> ?_) (λhall hd=> ?_)).trans ?_
 ·simp only[hd,hx,hw,Qk,Qa,wu,etas]
 ·simp only[hd,Ql]
 ·cases h:l.findIdx? λx=>decide (x.al=e.al)with
  |none=>rfl
  |some i=>have:=(List.findIdx?_eq_some_iff_getElem.1 h).1;simp[Qv this]
theorem aa2(e:aj):dG l e=some (match l.findIdx? λx=>decide (e.al<x.al)with|some i=>(i:Int)|none=> -1):=by
 unfold dG;refine(yo l (by omega) (λx=>decide (e.al<x.al)) (f:=λi _=>some (i:Int)) (fin:=some (-1)) (λi x hi hx0 hd hx hw=> ?_) (λhall hd=> ?_)).trans ?_
 ·simp only[hd,hx,hw,Qk,Qa,wq,etas]
 ·simp only[hd,Ql]
 ·cases h:l.findIdx? λx=>decide (e.al<x.al)with
  |none=>rfl
  |some i=>have:=(List.findIdx?_eq_some_iff_getElem.1 h).1;simp[Qv this]
 include hl
theorem Ud:dP l=some l:=by
 unfold dP
 suffices key:∀(k i:Nat),i+k=l.length->aB _ ((i:Int),l.take i,())=some l from key l.length 0 (by omega)
 intro k
 induction k with
 |zero=>
  intro i hi;obtain rfl:i=l.length:=by omega
  have hd:decide ((l.length:Int)<(l.length:Int))=false:=Qh (Qq64 _);exact bM (by simp only[hd,Ql,Qe,Qq62])
 |succ k ih=>
  intro i hi;have hlt:i<l.length:=by omega
  have hd:decide ((i:Int)<(l.length:Int))=true:=Qg (by omega)
  have hw:aA .i64 (i:Int) 1=((i+1:Nat):Int):=bH (by omega) (by omega)
  have hx:idx l (i:Int)=some l[i]:=by rw[bg];exact Qv hlt
  have hc:jz l[i]=some l[i]:=by simp only[jz,etas,kF (hl _ (Q0 hlt)),Qa]
  refine(bw ?_).trans (ih (i+1) (by omega))
  simp only[hd,hx,hw,Qk,Qa,etas,hc];rw[lu (by omega) (by simp;omega),Q7 hlt]
  rfl
theorem afk{e:aj}(he:cQ e.aa):ue l e=some (rC l e):=by
 have hc:jz e=some e:=by simp only[jz,etas,kF he,Qa]
 have hat:=agi l e;unfold ue;simp only[Ud hl hlen,etas,qP he,hc,Zy hlen,aa2 hlen,Qa,aQ];unfold rC
 cases bc e with
 |false=>rfl
 |true=>
  simp only[Qo,Ql,Qt]
  cases h:l.findIdx? λx=>decide (x.al=e.al)with
  |some i=>
   have hi:=(List.findIdx?_eq_some_iff_getElem.1 h).1;have hd:decide ((0:Int)<=(i:Int))=true:=Qg (by omega)
   have hx:idx l (i:Int)=some l[i]:=by rw[bg];exact Qv hi
   simp only[hd,hx,Qk,Qa,QV,Qv hi,Q3]
   by_cases hs:e.aG<=l[i].aG<;>simp[hs]
  |none=>
   have hd:decide ((0:Int)<= -1)=false:=rfl;simp only[hd,Ql]
   have hins:∀a:Nat,a<=l.length->eR l (a:Int) [e]=some (l.take a++[e]++l.drop a):=λa ha=>by
    unfold eR Bf;have h1:decide ((0:Int)<=(a:Int))=true:=Qg (by omega)
    have h2:decide ((a:Int)<=(l.length:Int))=true:=Qg (by omega)
    rw[h1,h2,lu (by omega) (by simp;omega)]
    rfl
   unfold G0 at hat ⊢
   cases h':l.findIdx? λx=>decide (e.al<x.al)with
   |none=>
    have hd2:decide ((-1:Int)<0)=true:=rfl;simp only[hd2,Qk,hins _ (QI _),Qa,Option.getD_none]
   |some j=>
    have hj:=(List.findIdx?_eq_some_iff_getElem.1 h').1;have hd2:decide ((j:Int)<0)=false:=Qh (by omega)
    simp only[hd2,Ql,hins _ (Nat.le_of_lt hj),Qa,Q3]
end
end
section
section
variable {l : List aj} (hlen : l.length <= 1000)
 include hlen
theorem HI(e:aj){a b:Nat}(ha:a<=b)(hb:b<=l.length):cz (0:Int) (a:Int) l.length=true/\bl 176 (List.length ((l.take (Int.toNat (a:Int))).drop (Int.toNat (0:Int))))=true/\
  bl 176 (List.length ((l.take (Int.toNat (a:Int))).drop (Int.toNat (0:Int)))+List.length [e])=true/\cz (b:Int) (l.length:Int) l.length=true/\
  bl 176 (List.length (((l.take (Int.toNat (a:Int))).drop (Int.toNat (0:Int)))++[e])+List.length ((l.take (Int.toNat (l.length:Int))).drop (Int.toNat (b:Int))))=true/\
  (((l.take (Int.toNat (a:Int))).drop (Int.toNat (0:Int)))++[e])++((l.take (Int.toNat (l.length:Int))).drop (Int.toNat (b:Int)))=l.take a++[e]++l.drop b:=by
 refine⟨by simp[cz];omega,iR (by omega) (by simp;omega),iR (by omega) (by simp;omega),by simp[cz];omega,iR (by omega) (by simp;omega),?_⟩
 simp only[QV,Int.toNat_zero,List.drop_zero,Qq62]
end
def GY{α:Type}{p q:α->Bool}:∀{l:List α},(∀x∈l,p x=q x)->l.findIdx? p=l.findIdx? q
 |[],_=>rfl
 |x::l,h=>by rw[List.findIdx?_cons,List.findIdx?_cons,h x (by simp),GY λy hy=>h y (by simp[hy])]
def acj{l:List aj}(hl:∀x∈l,cQ x.aa)(hlen:l.length<=1000){e:aj}(he:cQ e.aa):Ey l e=some (rC l e):=by
 unfold Ey;simp only[etas,jC he,Qa,aQ];unfold rC
 cases bc e with
 |false=>rfl
 |true=>
  simp only[Qo,Ql,Qt];refine(yo l (by omega) (λx=>decide (x.al=e.al)) (f:=λi x=>if e.aG<=x.aG then some (l,false,())else some (l.take i++[e]++l.drop (i+1),true,())) (fin:=some (l.take (G0 l e)++[e]++l.drop (G0 l e),true,())) (λi x hi hx0 hd hx hw=> ?_) (λhall hd=> ?_)).trans ?_
  ·simp only[hd,hx,hw,Qk,Qa]
   cases decide (x.al=e.al)with
   |false=>rfl
   |true=>
    simp only[Qk];obtain⟨f1,f2,f3,f4,f5,f6⟩:=HI hlen e (show i<=i+1 by omega) (show i+1<=l.length by omega)
    simp only[f1,f2,f3,f4,f5,f6,Qk]
    by_cases hs:e.aG<=x.aG<;>simp[hs]
  ·simp only[hd,Ql];refine congrArg (Option.map Sum.inr) ?_
   have hcg:(l.findIdx? λx=> !decide (x.al<e.al))=l.findIdx? λx=>decide (e.al<x.al):=GY λx hx=>by
    have:=hall x hx;have hne:x.al≠e.al:=of_decide_eq_false this
    by_cases h:x.al<e.al
    ·have h':¬e.al<x.al:=by omega
     simp[h,h']
    ·have h':e.al<x.al:=by omega
     simp[h,h']
   refine(yo l (by omega) (λx=> !decide (x.al<e.al)) (f:=λi x=>some (l.take i++[e]++l.drop i,true,())) (fin:=some (l.take l.length++[e]++l.drop l.length,true,())) (λi x hi hx0 hd hx hw=> ?_) (λ_ hd=> ?_)).trans ?_
   ·simp only[hd,hx,hw,Qk,Qa]
    cases decide (x.al<e.al)with
    |true=>rfl
    |false=>
     simp only[Ql,Qp,Qk];obtain⟨f1,f2,f3,f4,f5,f6⟩:=HI hlen e (QI i) (show i<=l.length by omega)
     simp only[f1,f2,f3,f4,f5,f6,Qk]
   ·simp only[hd,Ql];obtain⟨f1,f2,f3,f4,f5,f6⟩:=HI hlen e (QI l.length) (QI _);simp only[f1,f2,f3,f4,f5,f6,Qk]
   ·rw[hcg];unfold G0
    cases h:l.findIdx? λx=>decide (e.al<x.al)with
    |none=>rfl
    |some i=>
     have hi:=(List.findIdx?_eq_some_iff_getElem.1 h).1;simp only[Qv hi,Qa,Q3]
  ·cases h:l.findIdx? λx=>decide (x.al=e.al)with
   |none=>rfl
   |some i=>
    have hi:=(List.findIdx?_eq_some_iff_getElem.1 h).1;simp only[Qv hi,Qa,Q3]
    by_cases hs:e.aG<=l[i].aG
    ·simp[hs]
    ·simp only[hs,Qu];rw[List.set_eq_take_append_cons_drop,Qr hi];simp
end
section
structure vg (m:af):Prop where
 n0:0<=m.al
 n1:m.al<10
 aO:cQ m.aa
 len:m.ar.length<=100
 sm:∀e∈m.ar,cQ e.aa
 valid:∀e∈m.ar,bc e=true
def C8{m:af}{e:aj}(h:e∈bN m):e∈m.ar\/(aM m.ab=false/\e=iP m):=by
 unfold bN at h;split at h
 ·exact .inl h
 ·rename_i hz;rw[(DM _ _).mem_iff,Qz,Q5]at h;rcases h with h|h
  ·exact .inl h
  ·exact .inr ⟨by simpa using hz,h⟩
def aa1(m:af):(bN m).length<=m.ar.length+1:=by
 unfold bN;split
 ·omega
 ·rw[(DM _ _).length_eq,QB,Q6];omega
def Mo(m:af):(iP m).aa=m.aa:=vx m
def vg.tO{m:af}(h:vg m):sv (bN m)/\(bN m).length<=1000:=by
 have h1:=aa1 m;have h2:=h.len;refine⟨⟨by omega,λe he=> ?_⟩,by omega⟩
 rcases C8 he with he|⟨_,rfl⟩
 ·exact h.sm e he
 ·rw[Mo];exact h.aO
def vg.aD{m:af}(h:vg m):((m.al.toNat:Nat):Int)=m.al/\m.al.toNat<10:=by
 have:=h.n0;have:=h.n1;omega
def eo(b:ae):ae:=if 1000<b.ai then⟨1000,b.Value⟩else b
def agh(b:ae):vI b=some (eo b):=aax b
def dj(p q b:ae):ae×ae:=
 if aM b=true then(p,q)else if aM p=true then(b,q)else if bB p b=true then(if bQ p b=true then(b,if bQ q b=true then bZ else q)else(b,p))
 else if(bB b p&& !bQ b p&&(aM q||bB q b))=true then(p,b)else(p,q)
def UF(a b:ae):bQ a b=bQ b a:=decide_eq_decide.2 ⟨Eq.symm,Eq.symm⟩
def aeQ(p q b:ae):De p q b=some ((dj p q b).1,(dj p q b).2,()):=by
 unfold De dj;simp only[dg,jJ,gy,Qa,aQ];cases aM b<;>cases aM p<;>cases bB p b<;>cases bQ p b<;>cases bQ q b<;>cases bB b p<;>cases bQ b p<;>cases aM q<;>cases bB q b<;>rfl
def acz(p q b:ae):vL p q b=some ((dj p q b).1,(dj p q b).2,()):=by
 unfold vL dj;simp only[df,jA,fN,Qa,aQ,UF b p];cases aM b<;>cases aM p<;>cases bB p b<;>cases bQ p b<;>cases bQ q b<;>cases bB b p<;>cases aM q<;>cases bB q b<;>rfl
def Hl(m:af):ByteArray:=if m.aP=2 then m.ab.Value else gC
 def eS(m:af):ae:=jD m.al.toNat m.aa (bN m) m.ao m.az (Hl m)
def sz(m:af)(p q:ae):Int:=
 if m.aP=1/\m.aY≠0 then(if ft m<kT m.ab.Value m.aY p q then 0 else kT m.ab.Value m.aY p q)else m.aY
 def cW(m:af):af:=
 if m.aP=3\/aM m.ab=true then m else
  {m with ao:=(dj m.ao m.az (eo (eS m))).1,az:=(dj m.ao m.az (eo (eS m))).2,aY:=sz m (dj m.ao m.az (eo (eS m))).1 (dj m.ao m.az (eo (eS m))).2}
def ael{m:af}(h:vg m)(p q:ae)(v:ByteArray):u9 m.al m.aa (bN m) p q v=some (jD m.al.toNat m.aa (bN m) p q v):=by
 have:=acm h.aD.2 h.aO h.tO.1 h.tO.2 p q v
 rwa [h.aD.1]at this
def aeo{m:af}(h:vg m)(a:ae):qw m.al m.aa (bN m) a=some (yG m.al.toNat m.aa (bN m) a):=by
 have:=aco h.aD.2 h.aO h.tO.1 h.tO.2 a
 rwa [h.aD.1]at this
def Wz{m:af}(h:vg m):xC m=some (cW m):=by
 have hl:m.ar.length<=1000:=by have:=h.len;omega
 unfold xC cW;simp only[etas,dg,NG hl,ael h,agh,aeQ,BW,SM,Qa,aQ]
 by_cases h3:m.aP=3
 ·rw[Qg h3,Qr (.inl h3)];rfl
 ·rw[Qh h3]
  cases hz:aM m.ab with
  |true=>rw[Qr (.inr rfl)];rfl
  |false=>
   rw[Qs (by simp[h3])]
   simp only[Ql,Qa]
   by_cases h2:m.aP=2
   ·have h1:¬m.aP=1:=by omega
    simp only[Qg h2,Qk,sz,Hl,eS,Qr h2,h1,false_and,Qu];rfl
   ·simp only[Qh h2,Ql];have hv:bE=Hl m:=by simp only[Hl,Qs h2];rfl
    rw[hv];have hn:jD m.al.toNat m.aa (bN m) m.ao m.az (Hl m)=eS m:=rfl;simp only[hn]
    by_cases h1:m.aP=1
    ·have hh:∀p q:ae,(dR {m with ao:=p,az:=q}).bq=ft m:=λp q=>by unfold dR;rw[Qr (show({m with ao:=p,az:=q}:af).aP=1 from h1)];rfl
     simp only[Qg h1,Qk,Qa]
     by_cases hL:m.aY=0
     ·rw[Qg hL];unfold sz;rw[Qs (λh=>h.2 hL)]
      rfl
     ·rw[Qh hL];unfold sz;rw[Qr ⟨h1,hL⟩];simp only[Qp,Qk];rw[show(dR (af.mk m.al m.aK m.aG m.aa m.aP m.ab (dj m.ao m.az (eo (eS m))).1 (dj m.ao m.az (eo (eS m))).2 m.aw m.aY m.bq m.bh m.ar)).bq=ft m from hh _ _]
      by_cases hlt:ft m<kT m.ab.Value m.aY (dj m.ao m.az (eo (eS m))).1 (dj m.ao m.az (eo (eS m))).2
      ·rw[Qg hlt,Qr hlt];rfl
      ·rw[Qh hlt,Qs hlt];rfl
    ·rw[Qh h1];unfold sz;rw[Qs (λh=>h1 h.1)]
     rfl
 def gI(m:af):ae:=yG m.al.toNat m.aa (bN m) m.aw
def Bv(m:af)(b:ae):af:=
 if bB m.ab b=true then{m with aw:=b,ab:=b,aY:=if bQ m.ab b=true then m.aY else 0}else{m with aw:=b}
def pX(m:af)(b:ae):af:=
 if m.aY=0/\bQ m.ab b=true/\kT b.Value m.ab.ai m.ao m.az<=b.ai then{m with aY:=kT b.Value m.ab.ai m.ao m.az}else m
 def gl(m:af):af:=
 if m.aP≠1\/aM m.ab=true\/aM (gI m)=true then m else pX (Bv m (gI m)) (gI m)
def NX(m:af)(b:ae){α:Type}(j:af->Option α):
  ((bif decide (m.aY=(0:Int))then some (bQ m.ab b)else some false).bind λx=>bif x then(bif decide (kT b.Value m.ab.ai m.ao m.az<=b.ai)then j {m with aY:=kT b.Value m.ab.ai m.ao m.az}else j m)else j m)=j (pX m b):=by
 unfold pX
 by_cases hL:m.aY=0
 ·rw[Qg hL]
  cases hc:bQ m.ab b with
  |true=>
   by_cases hle:kT b.Value m.ab.ai m.ao m.az<=b.ai
   ·rw[Qr ⟨hL,rfl,hle⟩,Qg hle];rfl
   ·rw[Qs (λh=>hle h.2.2),Qh hle];rfl
  |false=>
   rw[Qs (λh=>by cases h.2.1)];rfl
 ·rw[Qh hL,Qs (λh=>hL h.1)];rfl
def UE{m:af}(h:vg m):wj m=some (gl m):=by
 have hl:m.ar.length<=1000:=by have:=h.len;omega
 unfold wj gl;simp only[etas,dg,NG hl,aeo h,SM,Qa,aQ,gy,jJ];have hb:yG m.al.toNat m.aa (bN m) m.aw=gI m:=rfl;simp only[hb]
 by_cases h1:m.aP=1
 ·rw[Qg h1]
  cases hz:aM m.ab with
  |true=>rw[Qr (.inr (.inl rfl))];rfl
  |false=>
   cases hzb:aM (gI m)with
   |true=>rw[Qr (.inr (.inr rfl))];rfl
   |false=>
    rw[Qs (by simp[h1])]
    simp only[Qo,Ql,Qa];unfold Bv
    cases hlt:bB m.ab (gI m)with
    |true=>
     cases hcp:bQ m.ab (gI m)with
     |true=>simp only[Qk,Qo,Ql,Qt];exact NX {m with aw:=gI m,ab:=gI m} (gI m) some
     |false=>simp only[Qk,Qp,Qt,Qq,Qu];exact NX {m with aw:=gI m,ab:=gI m,aY:=0} (gI m) some
    |false=>simp only[Ql,Qq,Qu];exact NX {m with aw:=gI m} (gI m) some
 ·rw[Qh h1,Qr (.inl h1)];rfl
section
variable {aD : Nat} (hn : aD < 10) {t : ak} (ht : cQ t) {l : List aj} (hl : sv l) (hlen : l.length <= 1000)
 include hn ht hl hlen
theorem U5(v:ByteArray)(lo hi:Int):lh aD t l v lo hi=some (mD aD t l v lo hi):=by
 have hin:=mu l;have hsm:=oI (aD:=aD) ht hl;simp only[lh,etas,O8 hl.aO hlen,Cr hn hl,Qa,vn hsm hn (mS hin) (mS hin)];rfl
theorem Z0(v:ByteArray)(lo hi:Int):pb aD t l v lo hi=some (uN aD t l v lo hi):=by
 have hin:=mu l;have hsm:=oI (aD:=aD) ht hl;simp only[pb,etas,O8 hl.aO hlen,Cr hn hl,Qa,tT hsm hn (mS hin)];rfl
theorem ZY(p q:ae):te aD t l p q=some (qk (mD aD t l) l p q (gS (mD aD t l) l p q)):=acq hl hlen (U5 hn ht hl hlen) p q
theorem aeq(v:ByteArray)(low cg:Int):rS aD t l v low cg=some ((Er (bs l v) (mD aD t l v) low cg).1,(Er (bs l v) (mD aD t l v) low cg).2,()):=ZZ hl hlen (U5 hn ht hl hlen) v low cg
theorem aep(v:ByteArray):tf aD t l v=some (CX (bs l v) (uN aD t l v)):=acs hl hlen (Z0 hn ht hl hlen) v
end
 def gX(m:af):ByteArray->Int->Int->Bool:=mD m.al.toNat m.aa (bN m)
 def LH(m:af):ByteArray->Int->Int->Bool:=uN m.al.toNat m.aa (bN m)
 def fM(m:af):ByteArray×Int×Int×Bool×Unit:=qk (gX m) (bN m) m.ao m.az (gS (gX m) (bN m) m.ao m.az)
 def eO(m:af):Int×Int:=Er (bs (bN m) m.ab.Value) (gX m m.ab.Value) m.aY m.bq
 def n4(m:af):Int×Int×Bool×Unit:=CX (bs (bN m) m.ab.Value) (LH m m.ab.Value)
def acr{m:af}(h:vg m):te m.al m.aa (bN m) m.ao m.az=some (fM m):=by
 have:=ZY h.aD.2 h.aO h.tO.1 h.tO.2 m.ao m.az
 rwa [h.aD.1]at this
def afL{m:af}(h:vg m):rS m.al m.aa (bN m) m.ab.Value m.aY m.bq=some ((eO m).1,(eO m).2,()):=by
 have:=aeq h.aD.2 h.aO h.tO.1 h.tO.2 m.ab.Value m.aY m.bq
 rwa [h.aD.1]at this
def afK{m:af}(h:vg m):tf m.al m.aa (bN m) m.ab.Value=some (n4 m):=by
 have:=aep h.aD.2 h.aO h.tO.1 h.tO.2 m.ab.Value
 rwa [h.aD.1]at this
def Lr(m:af)(v:ByteArray)(lo hi:Int):af:=
 {m with ab:=if(!bQ m.ab ⟨hi,v⟩||bB m.ab ⟨hi,v⟩)=true then⟨bD m.ab.ai hi,v⟩else m.ab,ao:=if jo m.ao ⟨hi,v⟩=true then m.ao else⟨hi,v⟩,aP:=2,aY:=lo,bq:=hi,aw:=⟨hi,v⟩,az:=bZ}
def AM(m:af)(lo hi:Int):af:=
 {m with ab:=⟨bD m.ab.ai hi,m.ab.Value⟩,ao:=⟨bD m.ao.ai hi,m.ao.Value⟩,aw:=⟨bD m.aw.ai hi,m.ab.Value⟩,aY:=lo,bq:=hi}
 def fP(m:af):af:=
 if m.aP=1 then(if(fM m).2.2.2.1=true then Lr m (fM m).1 (fM m).2.1 (fM m).2.2.1 else m)
 else if m.aP=2 then AM m (eO m).1 (eO m).2 else m
def UG{m:af}(h:vg m):wo m=some (fP m):=by
 have hl:m.ar.length<=1000:=by have:=h.len;omega
 unfold wo fP;simp only[etas,NG hl,acr h,afL h,Qa,aQ,gy,jJ,By]
 by_cases h1:m.aP=1
 ·rw[Qg h1,Qr h1]
  cases hk:(fM m).2.2.2.1 with
  |false=>simp only[Qk,Qp,Qq,Qu]
  |true=>
   simp only[Qk,Qo,Ql,Qt];unfold Lr;cases bQ m.ab ⟨(fM m).2.2.1,(fM m).1⟩<;>cases bB m.ab ⟨(fM m).2.2.1,(fM m).1⟩<;>cases jo m.ao ⟨(fM m).2.2.1,(fM m).1⟩<;>rfl
 ·rw[Qh h1,Qs h1]
  by_cases h2:m.aP=2
  ·rw[Qg h2,Qr h2];rfl
  ·rw[Qh h2,Qs h2];rfl
def No(m:af)(lo hi:Int):af:={m with aP:=3,aY:=lo,bq:=hi,ab:=⟨hi,m.ab.Value⟩,ao:=bZ,az:=bZ,aw:=bZ}
 def iL(m:af):af:=if m.aP=2/\(n4 m).2.2.1=true then No m (n4 m).1 (n4 m).2.1 else m
def adn{m:af}(h:vg m):Bk m=some (iL m):=by
 have hl:m.ar.length<=1000:=by have:=h.len;omega
 unfold Bk iL;simp only[etas,NG hl,afK h,Qa]
 by_cases h2:m.aP=2
 ·rw[Qg h2]
  cases hk:(n4 m).2.2.1 with
  |false=>rw[Qs (λh=>by cases h.2)];rfl
  |true=>rw[Qr ⟨h2,rfl⟩];rfl
 ·rw[Qh h2,Qs (λh=>h2 h.1)];rfl
end
section
def Iv{α β ρ:Type}(l:List α)(hl:l.length<=1000)(f:α->β){step:Int×List β×Unit->Option ((Int×List β×Unit)⊕ρ)}{fin:List β->Option ρ}
  (h1:∀(i:Nat) (e:α) (s:List β),s.length<=1000->e∈l->decide ((i:Int)<(l.length:Int))=true->idx l (i:Int)=some e->aA .i64 (i:Int) 1=((i+1:Nat):Int)->step ((i:Int),s,())=some (.inl (((i+1:Nat):Int),s++[f e],())))
  (h2:∀s,decide ((l.length:Int)<(l.length:Int))=false->step ((l.length:Int),s,())=Option.map Sum.inr (fin s)):aB step ((0:Int),[],())=fin (l.map f):=by
 suffices key:∀(k i:Nat) (s:List β),i+k=l.length->s.length=i->aB step ((i:Int),s,())=fin (s++(l.drop i).map f)by
  have:=key l.length 0 [] (by omega) rfl
  simpa using this
 intro k
 induction k with
 |zero=>
  intro i s hi hs;obtain rfl:i=l.length:=by omega
  have hd:decide ((l.length:Int)<(l.length:Int))=false:=Qh (Qq64 _);have h:=h2 s hd;rw[Qq66,QO,List.append_nil]
  cases hf:fin s with
  |none=>rw[hf]at h;exact MI h
  |some r=>rw[hf]at h;exact bM h
 |succ k ih=>
  intro i s hi hs;have hlt:i<l.length:=by omega
  rw[bw (h1 i l[i] s (by omega) (Q0 hlt) (Qg (by omega)) (by rw[bg];exact Qv hlt) (bH (by omega) (by omega))),ih (i+1) (s++[f l[i]]) (by omega) (by simp;omega),
   QM hlt,QD,QL]
  rfl
def YU{α β ρ:Type}(l:List α)(hl:l.length<=1000)(f:α->β){step:Int×List β×Unit->Option ((Int×List β×Unit)⊕ρ)}{fin:List β->Option ρ}
  (h1:∀(i:Nat) (e:α) (s:List β),s.length=l.length->e∈l->i<l.length->decide ((i:Int)<(l.length:Int))=true->idx l (i:Int)=some e->aA .i64 (i:Int) 1=((i+1:Nat):Int)->step ((i:Int),s,())=some (.inl (((i+1:Nat):Int),s.set i (f e),())))
  (h2:∀s,decide ((l.length:Int)<(l.length:Int))=false->step ((l.length:Int),s,())=Option.map Sum.inr (fin s)) {s0:List β} (hs0:s0.length=l.length):aB step ((0:Int),s0,())=fin (l.map f):=by
 suffices key:∀(k i:Nat) (s:List β),i+k=l.length->s.length=l.length->aB step ((i:Int),s,())=fin (s.take i++(l.drop i).map f)by
  have:=key l.length 0 s0 (by omega) hs0
  simpa using this
 intro k
 induction k with
 |zero=>
  intro i s hi hs;obtain rfl:i=l.length:=by omega
  have hd:decide ((l.length:Int)<(l.length:Int))=false:=Qh (Qq64 _);have h:=h2 s hd;rw[Qq66,QO,List.append_nil,<-hs,Qq62];rw[<-hs]at h
  cases hf:fin s with
  |none=>rw[hf]at h;exact MI h
  |some r=>rw[hf]at h;exact bM h
 |succ k ih=>
  intro i s hi hs;have hlt:i<l.length:=by omega
  rw[bw (h1 i l[i] s hs (Q0 hlt) hlt (Qg (by omega)) (by rw[bg];exact Qv hlt) (bH (by omega) (by omega))),ih (i+1) (s.set i (f l[i])) (by omega) (by simpa using hs),
   QM hlt,QD]
  congr 1;rw[List.take_add_one,List.take_set_of_le (QI i),List.getElem?_set_self (by omega)]
  simp
def Ii(z:ae):List ae->ae
 |[]=>z
 |x::l=>l.foldl (λa y=>if bB a y=true then y else a) x
def Nd(l:List ae)(hl:l.length<=1000000)(z:ae){step:Int×ae×Unit->Option ((Int×ae×Unit)⊕ae)}
  (h1:∀(i:Nat) (x s:ae),decide ((i:Int)<(l.length:Int))=true->idx l (i:Int)=some x->aA .i64 (i:Int) 1=((i+1:Nat):Int)->step ((i:Int),s,())=some (.inl (((i+1:Nat):Int),(if i=0 then x else if bB s x=true then x else s),())))
  (h2:∀s,decide ((l.length:Int)<(l.length:Int))=false->step ((l.length:Int),s,())=some (.inr s)):aB step ((0:Int),z,())=some (Ii z l):=by
 have hd:decide ((l.length:Int)<(l.length:Int))=false:=Qh (Qq64 _)
 have key:∀(k i:Nat) (s:ae),i+k=l.length->1<=i->aB step ((i:Int),s,())=some ((l.drop i).foldl (λa y=>if bB a y=true then y else a) s):=by
  intro k
  induction k with
  |zero=>
   intro i s hi h1i;obtain rfl:i=l.length:=by omega
   rw[Qq66];exact bM (h2 s hd)
  |succ k ih=>
   intro i s hi h1i;have hlt:i<l.length:=by omega
   rw[bw (h1 i l[i] s (Qg (by omega)) (by rw[bg];exact Qv hlt) (bH (by omega) (by omega))),ih (i+1) _ (by omega) (by omega),QM hlt,QU,Qs (by omega:¬i=0)]
 cases l with
 |nil=>exact bM (h2 z hd)
 |cons x l=>
  have hx:=h1 0 x z (Qg (by simp)) (by rw[bg];rfl) (bH (by omega) (by omega))
  rw[Qr rfl]at hx;exact(bw hx).trans (key l.length 1 x (by simp;omega) (by omega))
def ac8(l:List ae)(hl:l.length<=1000000):sV l=some (Ii bZ l):=by
 unfold sV;refine Nd l hl bZ (λi x s hd hx hw=> ?_) (λs hd=> ?_)
 ·simp only[hd,hx,hw,Qk,aQ,Qa,jJ]
  by_cases hi:i=0
  ·subst hi;rfl
  ·have:decide ((i:Int)=0)=false:=Qh (by omega)
   rw[this,Qs hi];cases bB s x<;>rfl
 ·simp only[hd,Ql,Qe]
def Z6(l:List ae)(hl:l.length<=1000000):mP l=some (Ii bZ l):=by
 unfold mP;refine Nd l hl bZ (λi x s hd hx hw=> ?_) (λs hd=> ?_)
 ·simp only[hd,hx,hw,Qk,aQ,Qa,jA]
  by_cases hi:i=0
  ·subst hi;rfl
  ·have:decide ((i:Int)=0)=false:=Qh (by omega)
   rw[this,Qs hi];cases bB s x<;>rfl
 ·simp only[hd,Ql,Qe]
def eI(m:af):ByteArray:=
 if aM m.aw=false then m.aw.Value else if m.aP≠1 then m.ab.Value else if m.bh≠gC then m.bh else(Ii bZ (m.ar.map (·.ab))).Value
def UQ{m:af}(h:vg m):td m=some (eI m):=by
 have hl:m.ar.length<=1000:=by have:=h.len;omega
 unfold td eI;simp only[dg,Qa]
 cases hz:aM m.aw with
 |false=>rfl
 |true=>
  simp only[Qo,Ql,Bool.true_eq_false,Qu]
  by_cases h1:m.aP=1
  ·rw[Qg h1,Qs (λh=>h h1)]
   simp only[Qo,Ql]
   by_cases hp:m.bh=gC
   ·have hp':decide (m.bh=bE)=true:=Qg hp;rw[hp',Qs (λh=>h hp)]
    simp only[Qo,Ql]
    rw[Iv m.ar hl (·.ab) (fin:=λs=>Option.bind (sV s) λr=>some r.Value) (λi e s hs he hd hx hw=>by
     simp only[hd,hx,hw,Qk,Qa]
     rw[bK (by simp;omega),Qk]) (λs hd=>by simp only[hd,Ql]),ac8 _ (by simp;omega)]
    rfl
   ·have hp':decide (m.bh=bE)=false:=Qh hp;rw[hp',Qr hp];rfl
  ·rw[Qh h1,Qr h1];rfl
def Sl{e:aj}(h:cQ e.aa)(hv:bc e=true):ub e=some (fQ e):=by
 simp only[ub,etas,jC h,Qa,hv,fQ]
 by_cases h3:e.bC=3
 ·rw[Qg h3,Qr h3];rfl
 ·rw[Qh h3,Qs h3];rfl
def Sx{e:aj}(h:cQ e.aa)(hv:bc e=true):jP e=some (fQ e):=by
 rw[Ua (IU h)];have:gK (Fy e.aa) e=true:=hv;rw[this,Qr rfl]
def Fh(m:af)(n:Int):Nat:=eZ (λe=>decide (n<fQ e)) m.ar
 def iS(m:af)(n:Int):Bool:=zW (jZ m.al.toNat m.aa (bN m)) m.al.toNat (Fh m n)
def vg.OD{m:af}(h:vg m):xS m.ar:=λe he=>kZ (h.valid e he)
def Rc{m:af}(h:vg m)(n:Int):Fh m n<1024:=mS h.OD
def adM{m:af}(h:vg m)(n:Int):w8 m n=some (iS m n):=by
 have hl:m.ar.length<=1000:=by have:=h.len;omega
 unfold w8
 rw[Iv m.ar hl (λe=>decide (n<fQ e)) (fin:=λs=>Option.bind (mm m) λr4=>Option.bind (mF m.al m.aa r4) λr5=>Option.bind (ja m.ar s) λr6=>Option.bind (rZ r5 m.al r6) λr7=>some r7)
  (λi e s hs he hd hx hw=>by
   simp only[hd,hx,hw,Qk,Qa,etas,Sl (h.sm e he) (h.valid e he)]
   rw[bK (by simp;omega),Qk])
  (λs hd=>by simp only[hd,Ql,etas])]
 have hv:=Cr h.aD.2 (t:=m.aa) h.tO.1;have hb:=Me (oI (aD:=m.al.toNat) h.aO h.tO.1) (v:=m.al.toNat) (Rc h n);rw[h.aD.1]at hv hb;rw[NG hl,Qa,hv,Qa,Da m.ar hl _ (λe he _=>h.OD e he),Qa,show eZ (λe=>decide (n<fQ e)) m.ar=Fh m n from rfl,hb]
 rfl
 def mW(m:af)(Ev:Int)(e:aj):Int:=
 if m.ab.ai<fQ e/\fQ e<Ev/\iS m (fQ e)=false then fQ e else Ev
 def hY(m:af):Int:=m.ar.foldl (mW m) 1000000
 def nm(m:af):ByteArray:=if m.aP=1 then eI m else m.ab.Value
 def fK(m:af):af:=
 if m.aP=3\/iS m m.ab.ai=false then m
 else{m with aY:=if nm m=m.ab.Value then m.aY else 0,ab:=⟨bD m.ab.ai (dJ (hY m) 1000),nm m⟩}
open Classical in
def TL{m:af}(h:vg m){ρ:Type}{step:Int×Int×Unit->Option ((Int×Int×Unit)⊕ρ)}{fin:Int->Option ρ}
  (h1:∀(i:Nat) (e:aj) (s:Int),e∈m.ar->decide ((i:Int)<(m.ar.length:Int))=true->idx m.ar (i:Int)=some e->aA .i64 (i:Int) 1=((i+1:Nat):Int)->step (s,(i:Int),())=some (.inl (mW m s e,((i+1:Nat):Int),())))
  (h2:∀s,decide ((m.ar.length:Int)<(m.ar.length:Int))=false->step (s,(m.ar.length:Int),())=Option.map Sum.inr (fin s)):aB step ((1000000:Int),(0:Int),())=fin (hY m):=by
 have hl:=h.len
 have key:=ig m.ar (by omega) (λi s=>(s,i,())) (λe s=>if e∈m.ar then some (.inl (mW m s e))else none) fin (step:=step) (λi x s hd hx hw=>by
  have hm:x∈m.ar:=by rw[bg]at hx;exact Q8 hx
  rw[h1 i x s hm hd hx hw,Qr hm]) (λs hd=>h2 s hd) 1000000
 refine key.trans ?_;unfold hY
 suffices h3:∀(l:List aj),(∀e∈l,e∈m.ar)->∀s,fD (λe s=>if e∈m.ar then some (Sum.inl (β:=ρ) (mW m s e))else none) fin l s=fin (l.foldl (mW m) s)from h3 _ (λe he=>he) _
 intro l
 induction l with
 |nil=>intro _ s;rfl
 |cons x l ih=>
  intro hx s;rw[fD,Qr (hx x Qx),QU];exact ih (λe he=>hx e (Qy _ he)) _
def aaQ{m:af}(h:vg m):z6 m=some (fK m):=by
 unfold z6 fK;simp only[etas,adM h,UQ h,Qa]
 by_cases h3:m.aP=3
 ·rw[Qg h3,Qr (.inl h3)];rfl
 ·rw[Qh h3]
  cases ha:iS m m.ab.ai with
  |false=>rw[Qr (.inr rfl)];rfl
  |true=>
   rw[Qs (by simp[h3])]
   simp only[Ql,Qo];refine(TL h (fin:=λc=>some {m with aY:=if nm m=m.ab.Value then m.aY else 0,ab:=⟨bD m.ab.ai (dJ c 1000),nm m⟩}) (λi e s he hd hx hw=> ?_) (λs hd=> ?_)).trans rfl
   ·simp only[hd,hx,hw,Qk,aQ,Qa,Sl (h.sm e he) (h.valid e he)];unfold mW
    by_cases c1:m.ab.ai<fQ e
    ·by_cases c2:fQ e<s
     ·rw[Qg c1,Qg c2]
      cases c3:iS m (fQ e)with
      |true=>rw[Qs (by simp)];rfl
      |false=>rw[Qr ⟨c1,c2,rfl⟩];rfl
     ·rw[Qg c1,Qh c2,Qs (λh=>c2 h.2.1)];rfl
    ·rw[Qh c1,Qs (λh=>c1 h.1)];rfl
   ·simp only[hd,Ql,aQ];unfold nm
    by_cases h1:m.aP=1
    ·rw[Qg h1,Qr h1]
     by_cases hv:eI m=m.ab.Value
     ·simp only[Qk,Qg hv,Qo,Ql,Qr hv]
     ·simp only[Qk,Qh hv,Qp,Qs hv]
    ·rw[Qh h1,Qs h1];simp only[Ql,decide_true,Qo,Qt]
end
section
def c8(b:ae):Prop:=1<=b.ai/\b.ai<=1000/\1<=b.Value.size/\b.Value.size<=200
def c8.valid{b:ae}(h:c8 b):cD b=true:=by
 obtain⟨h1,h2,h3,h4⟩:=h;simp only[cD,Qm,Qn,Qi];exact⟨⟨.inl ⟨h1,h2⟩,h3⟩,h4⟩
def c8.finite{b:ae}(h:c8 b):finite b=true:=by
 unfold Go.Proofs.YtofedieniojipaaGreat.finite;rw[h.valid,Qg h.2.1];rfl
def VB{b:ae}(h:cD b=true)(hc:b.ai<=1000):c8 b:=by
 simp only[cD,Qm,Qn,Qi]at h;obtain⟨⟨h1,h2⟩,h3⟩:=h;exact⟨by omega,hc,h2,h3⟩
def c8.nz{b:ae}(h:c8 b):aM b=false:=MH h.1
def c8.ne{b:ae}(h:c8 b):b.Value≠gC:=by
 intro e;have:=h.2.2.1;rw[e]at this;exact absurd this (by decide)
def xG{b:ae}:aM b=true↔b=bZ:=by
 obtain⟨c,v⟩:=b;simp[aM,bZ]
def bU:aM bZ=true:=xG.2 rfl
structure P1 (m:af):Prop where
 aW:m.aP=1
 aZ:c8 m.ab
 dx:m.ao=bZ\/c8 m.ao
 bW:m.az=bZ\/(c8 m.az/\c8 m.ao/\bB m.az m.ao=true/\bQ m.az m.ao=false)
 dX:m.aw=bZ\/(c8 m.aw/\dU m.ao m.az m.aw=true)
 up:bB m.ab m.aw=false
 cg:m.bq=0
 low:m.aY=0\/(1<=m.aY/\m.aY<=ft m/\nL m.ao m.az m.ab.Value m.aY=false)
structure P2 (m:af):Prop where
 aW:m.aP=2
 aZ:c8 m.ab
 dx:c8 m.ao/\m.ao.Value=m.ab.Value
 bW:m.az=bZ
 dX:m.aw=bZ\/(c8 m.aw/\m.aw.Value=m.ab.Value)
 range:1<=m.aY/\m.aY<=m.bq/\m.bq<=m.ao.ai
structure P3 (m:af):Prop where
 aW:m.aP=3
 aZ:c8 m.ab
 dx:m.ao=bZ
 bW:m.az=bZ
 dX:m.aw=bZ
 range:1<=m.aY/\m.aY<=m.bq/\m.bq<=1000
structure P0 (m:af):Prop where
 aW:m.aP=1
 aZ:m.ab=bZ
 dx:m.ao=bZ
 bW:m.az=bZ
 dX:m.aw=bZ
 low:m.aY=0
 cg:m.bq=0
structure br (m:af):Prop where
 n0:0<=m.al
 n1:m.al<10
 aI:1<=m.aK/\m.aK<=1000000
 seq:0<=m.aG/\m.aG<=1000000
 aO:dO m.aa
 sw:m.bh.size<=200
 hv:∀e∈m.ar,bc e=true/\dO e.aa/\e.aK=m.aK/\e.al≠m.al
 dn:m.ar.Pairwise (λa b=>a.al<b.al)
 body:P0 m\/P1 m\/P2 m\/P3 m
def LN:∀(l:List aj) (k:Nat),k<=10->(∀e∈l,(k:Int)<=e.al/\e.al<10)->l.Pairwise (λa b=>a.al<b.al)->l.length+k<=10
 |[],k,hk,_,_=>by simpa using hk
 |x::l,k,hk,h,hp=>by
  rw[Q4]at hp;have hx:=h x Qx;have:=LN l (k+1) (by omega) (λe he=>⟨by have:=hp.1 e he;omega,(h e (Qy _ he)).2⟩) hp.2
  rw[QE];omega
def br.len{m:af}(h:br m):m.ar.length<=10:=by
 have:=LN m.ar 0 (by omega) (λe he=>by have:=kZ (h.hv e he).1;omega) h.dn
 omega
def br.ev{m:af}(h:br m):vg m:=
 ⟨h.n0,h.n1,h.aO.sm,by have:=h.len;omega,λe he=>(h.hv e he).2.1.sm,λe he=>(h.hv e he).1⟩
def M6{m:af}(h:P1 m):0<=ft m/\ft m<=m.ab.ai/\(ft m=0\/(c8 m.aw/\m.aw.Value=m.ab.Value/\ft m=m.aw.ai)):=by
 unfold ft;split
 ·rename_i hc;simp only[Qm,Bool.not_eq_true',bQ,Qi]at hc;rcases h.dX with e|⟨hf,_⟩
  ·rw[e,bU]at hc;cases hc.1
  ·have hup:=h.up;unfold bB at hup;split at hup
   ·rename_i e;exact⟨by have:=hf.1;omega,by omega,.inr ⟨hf,hc.2,rfl⟩⟩
   ·simp only[Qj]at hup;exact⟨by have:=hf.1;omega,by omega,.inr ⟨hf,hc.2,rfl⟩⟩
 ·exact⟨Int.le_refl _,by have:=h.aZ.1;omega,.inl rfl⟩
def Py{m:af}(h:br m)(hz:aM m.ab=false):bc (iP m)=true:=by
 have hseq:1<=(iP m).aG/\(iP m).aG<=1000000:=by
  have h1:(iP m).aG=bD m.aG 1:=by show bD (dR m).aG 1=_;rw[Tn]
  have:=h.seq;rw[h1];unfold bD;split<;>omega
 have hnode:(iP m).al=m.al:=xQ m;have hslot:(iP m).aK=m.aK:=DP m
 have hhead:yH (iP m)=true:=by
  unfold yH;rw[hnode,hslot];simp only[Qm,Qi];exact⟨⟨⟨⟨⟨h.n0,h.n1⟩,h.aI.1⟩,h.aI.2⟩,hseq.1⟩,hseq.2⟩
 unfold bc;rw[Mo,Aq h.aO];unfold gK;rw[hhead];have hkind:(iP m).bC=m.aP:=YZ m;rw[hkind];rcases h.body with h0|h1|h2|h3
 ·rw[h0.aZ,bU]at hz;cases hz
 ·rw[Qr h1.aW];have hh:=M6 h1;have e:iP m=⟨m.al,m.aK,bD (dR m).aG 1,m.aa,m.aP,m.ab,m.ao,m.az,m.aY,ft m⟩:=by unfold iP dR;rw[Qr h1.aW]
  have hp:(aM m.ao||cD m.ao)=true:=by
   rcases h1.dx with e|hf
   ·rw[e,bU];rfl
   ·rw[hf.valid,Bool.or_true]
  have hq:(aM m.az||cD m.az)=true:=by
   rcases h1.bW with e|hf
   ·rw[e,bU];rfl
   ·rw[hf.1.valid,Bool.or_true]
  have hpo:B7 (iP m)=true:=by
   rw[e];unfold B7;rcases h1.bW with e|⟨_,hf,hl,hc⟩
   ·simp only[e,bU,Bool.true_or]
   ·simp only[hf.nz,hl,hc,Qp,Bool.and_self,Bool.or_true]
  have hhp:(decide (ft m=0)||dU m.ao m.az ⟨ft m,m.ab.Value⟩)=true:=by
   rcases hh.2.2 with e|⟨hf,hv,e⟩
   ·rw[Qg e];rfl
   ·rw[e,<-hv];rcases h1.dX with e2|⟨_,hp⟩
    ·have:=hf.nz;rw[e2,bU]at this;cases this
    ·rw[hp,Bool.or_true]
  have hlow:0<=m.aY/\m.aY<=ft m/\(decide (m.aY=0)||(!eJ m.ao ⟨m.aY,m.ab.Value⟩&& !eJ m.az ⟨m.aY,m.ab.Value⟩))=true:=by
   rcases h1.low with e|⟨h5,h6,h7⟩
   ·rw[e];exact⟨Int.le_refl _,hh.1,rfl⟩
   ·refine⟨by omega,h6,?_⟩
    unfold nL at h7;rw[Qq74]at h7;rw[h7.1,h7.2];simp
  unfold gL;rw[hpo];rw[e];unfold at_
  simp only[h1.aZ.finite,hp,hq,Qg hlow.1,Qg hlow.2.1,Qg hh.2.1,hhp,hlow.2.2,Bool.and_self,decide_true]
 ·rw[Qs (by rw[h2.aW];decide),Qr h2.aW]
  have e:iP m=⟨m.al,m.aK,bD (dR m).aG 1,m.aa,m.aP,m.ab,m.ao,bZ,m.aY,m.bq⟩:=by unfold iP dR;rw[Qs (by rw[h2.aW];decide),Qr h2.aW]
  have hc:m.bq<=1000:=by have:=h2.range.2.2;have:=h2.dx.1.2.1;omega
  unfold uO s5;rw[e];simp only[h2.aZ.finite,h2.dx.1.valid,bQ,Qg h2.dx.2,bU,Qg h2.range.1,Qg h2.range.2.1,Qg h2.range.2.2,Qg hc,Bool.and_self,decide_true]
 ·rw[Qs (by rw[h3.aW];decide),Qs (by rw[h3.aW];decide),Qr h3.aW]
  have e:iP m=⟨m.al,m.aK,bD (dR m).aG 1,m.aa,m.aP,m.ab,bZ,bZ,m.aY,m.bq⟩:=by unfold iP dR;rw[Qs (by rw[h3.aW];decide),Qs (by rw[h3.aW];decide)]
  unfold Al s5;rw[e];simp only[h3.aZ.valid,bU,Qg h3.range.1,Qg h3.range.2.1,Qg h3.range.2.2,Bool.and_self,decide_true]
def br.DX{m:af}(h:br m):∀e∈bN m,bc e=true:=by
 intro e he;rcases C8 he with he|⟨hz,rfl⟩
 ·exact(h.hv e he).1
 ·exact Py h hz
def br.acM{m:af}(h:br m){e:aj}(he:e∈bN m)(hn:e.al.toNat=m.al.toNat):aM m.ab=false/\e=iP m:=by
 rcases C8 he with he|⟨hz,rfl⟩
 ·have h1:=(h.hv e he).2.2.2;have h2:=kZ (h.hv e he).1;have:=h.n0;omega
 ·exact⟨hz,rfl⟩
end
section
def xM(a b:ae):bB a b=true↔a.ai<b.ai\/(a.ai=b.ai/\bO a.Value b.Value=true):=by
 unfold bB;split
 ·rename_i e;rw[e];simp
 ·rename_i e;simp only[Qi];constructor
  ·exact .inl
  ·rintro(h|h)
   ·exact h
   ·exact absurd h.1 e
def mh{a b c:ae}(h:bB a b=true)(h':bB b c=true):bB a c=true:=Du.trans _ _ _ h h'
def YG(a:ae):bB a a=false:=Du.irrefl a
def HY{a b:ae}(h:bB a b=false)(h':a≠b):bB b a=true:=by
 cases h1:bB b a with
 |true=>rfl
 |false=>exact absurd (Du.total a b h h1) h'
def iI{a b:ae}(h:bB a b=true):a.ai<=b.ai:=by
 rw[xM]at h;omega
def KM{a b:ae}(h:bB a b=false):b.ai<=a.ai:=by
 rcases Int.lt_or_le a.ai b.ai with h1|h1
 ·rw[(xM a b).2 (.inl h1)]at h;cases h
 ·exact h1
def YE(v:ByteArray):bO v v=false:=jd.irrefl v
def FZ{a b:ae}(hv:a.Value=b.Value):bB a b=decide (a.ai<b.ai):=by
 unfold bB;split
 ·rename_i e;rw[hv,YE,e];simp
 ·rfl
def Iu{p x:ae}(h:jo p x=true):bB p x=false:=by
 obtain⟨_,h2,h3⟩:=(k7 p x).1 h;rw[FZ h2,Qj];omega
def P5{p x q:ae}(h:jo p x=true)(hq:bB p q=true):bB x q=true:=by
 by_cases e:x=p
 ·rw[e];exact hq
 ·exact mh (HY (Iu h) (λh=>e h.symm)) hq
def jj{a b:ae}:bQ a b=true↔a.Value=b.Value:=decide_eq_true_iff
def iY{a b:ae}:bQ a b=false↔a.Value≠b.Value:=Qj
def Cv(p q x:ae):dU p q x=true↔jo p x=true\/jo q x=true\/(aM q=false/\bB x q=true):=by
 unfold dU;simp only[Qn,Qm,Bool.not_eq_true'];exact⟨λh=>by rcases h with(h|h)|h<;>simp[h],λh=>by rcases h with h|h|h<;>simp[h]⟩
def s9(p q:ae):Prop:=(p=bZ\/c8 p)/\(q=bZ\/(c8 q/\c8 p/\bB q p=true/\bQ q p=false))
def P1.gL{m:af}(h:P1 m):s9 m.ao m.az:=⟨h.dx,h.bW⟩
def Ld{b:ae}(h:c8 b):b≠bZ:=λe=>by have:=h.nz;rw[e,bU]at this;cases this
inductive vF (p q b:ae):ae->ae->Prop where
 |same:vF p q b p q
 |first (hp:p=bZ) (hq:q=bZ):vF p q b b bZ
 |up (hp:c8 p) (hl:bB p b=true) (hc:p.Value=b.Value):vF p q b b q
 |FQ (hp:c8 p) (hl:bB p b=true) (hc:p.Value≠b.Value):vF p q b b p
 |under (hp:c8 p) (hl:bB b p=true) (hc:b.Value≠p.Value) (hq:q=bZ\/bB q b=true):vF p q b p b
def ac0{p q b:ae}(h:s9 p q)(hb:b=bZ\/c8 b):vF p q b (dj p q b).1 (dj p q b).2:=by
 unfold dj;rcases hb with rfl|hb
 ·rw[Qr bU];exact .same
 rw[Qs (by rw[hb.nz];decide)]
 rcases h.1 with rfl|hp
 ·have hq:q=bZ:=by
   rcases h.2 with e|⟨_,e,_⟩
   ·exact e
   ·exact absurd rfl (Ld e)
  rw[Qr bU,hq];exact .first rfl rfl
 rw[Qs (by rw[hp.nz];decide)]
 by_cases hl:bB p b=true
 ·rw[Qr hl]
  by_cases hc:bQ p b=true
  ·rw[Qr hc]
   have hcq:bQ q b=false:=by
    rw[jj]at hc;rw[iY];rcases h.2 with rfl|⟨_,_,_,e⟩
    ·exact λe=>hb.ne e.symm
    ·rw[iY]at e;rw[<-hc];exact e
   rw[Qs (by rw[hcq];decide)]
   exact .up hp hl (jj.1 hc)
  ·rw[Qs hc];exact .FQ hp hl (iY.1 (by simpa using hc))
 ·rw[Qs hl];split
  ·rename_i hu;simp only[Qm,Qn,Bool.not_eq_true']at hu;refine .under hp hu.1.1 (iY.1 hu.1.2) ?_;rcases hu.2 with e|e
   ·exact .inl (xG.1 e)
   ·exact .inr e
  ·exact .same
def vF.ok{p q b p' q':ae}(h:s9 p q)(hb:b=bZ\/c8 b)(hj:vF p q b p' q'):s9 p' q':=by
 have hbf:∀{x:ae},bB x b=true\/c8 b\/(c8 x/\bB b x=true)->True:=λ_=>trivial
 cases hj with
 |same=>exact h
 |first hp hq=>exact⟨hb,.inl rfl⟩
 |up hp hl hc=>
  have hb':c8 b:=by
   rcases hb with rfl|hb
   ·have h1:=iI hl;have h2:=hp.1;have:(bZ:ae).ai=0:=rfl;omega
   ·exact hb
  refine⟨.inr hb',?_⟩;rcases h.2 with e|⟨h1,h2,h3,h4⟩
  ·exact .inl e
  ·refine .inr ⟨h1,hb',mh h3 hl,?_⟩;rw[iY]at h4 ⊢;rw[<-hc];exact h4
 |FQ hp hl hc=>
  have hb':c8 b:=by
   rcases hb with rfl|hb
   ·have h1:=iI hl;have h2:=hp.1;have:(bZ:ae).ai=0:=rfl;omega
   ·exact hb
  exact⟨.inr hb',.inr ⟨hp,hb',hl,iY.2 hc⟩⟩
 |under hp hl hc hq=>
  refine⟨.inr hp,?_⟩;rcases hb with e|hb
  ·exact .inl e
  ·exact .inr ⟨hb,hp,hl,iY.2 hc⟩
def vF.mono{p q b p' q':ae}(h:s9 p q)(hj:vF p q b p' q'){x:ae}(hx:dU p q x=true):dU p' q' x=true:=by
 rw[Cv]at hx ⊢
 have hqp:aM q=false->bB q p=true:=λhz=>by
  rcases h.2 with e|⟨_,_,e,_⟩
  ·rw[e,bU]at hz;cases hz
  ·exact e
 have hcq:jo q x=true->aM q=false:=λhc=>((k7 q x).1 hc).1
 cases hj with
 |same=>exact hx
 |first hp hq=>
  subst hp hq;rcases hx with hx|hx|hx
  ·have:=((k7 _ _).1 hx).1;rw[bU]at this;cases this
  ·have:=((k7 _ _).1 hx).1;rw[bU]at this;cases this
  ·rw[bU]at hx;cases hx.1
 |up hp hl hc=>
  rcases hx with hx|hx|hx
  ·obtain⟨h1,h2,h3⟩:=(k7 _ _).1 hx;refine .inl ((k7 _ _).2 ⟨?_,hc.symm.trans h2,Int.le_trans h3 (iI hl)⟩);have:=hp.1;have:=iI hl;exact MH (by omega)
  ·exact .inr (.inl hx)
  ·exact .inr (.inr hx)
 |FQ hp hl hc=>
  rcases hx with hx|hx|hx
  ·exact .inr (.inl hx)
  ·exact .inr (.inr ⟨hp.nz,P5 hx (hqp (hcq hx))⟩)
  ·exact .inr (.inr ⟨hp.nz,mh hx.2 (hqp hx.1)⟩)
 |under hp hl hc hq=>
  have hbz:aM q=false->bB q b=true:=λhz=>by
   rcases hq with e|e
   ·rw[e,bU]at hz;cases hz
   ·exact e
  have hbn:aM q=false->aM b=false:=λhz=>by
   have h1:=iI (hbz hz);rcases h.2 with e|⟨e,_⟩
   ·rw[e,bU]at hz;cases hz
   ·have:=e.1;exact MH (by omega)
  rcases hx with hx|hx|hx
  ·exact .inl hx
  ·exact .inr (.inr ⟨hbn (hcq hx),P5 hx (hbz (hcq hx))⟩)
  ·exact .inr (.inr ⟨hbn hx.1,mh hx.2 (hbz hx.1)⟩)
def Zq{p:ae}{v:ByteArray}{n k:Int}(h:eJ p ⟨n,v⟩=false)(hk:n<=k):eJ p ⟨k,v⟩=false:=UJ hk h
def R5{v:ByteArray}{n:Int}{x:ae}(hx:x=bZ\/cD x=true):n<=wV v n x/\eJ x ⟨wV v n x,v⟩=false:=by
 unfold wV;split
 ·rename_i hc;rw[Qm]at hc;have ha:=hc.2;unfold eJ at ha;rw[Qm,Qm]at ha;have hle:n<=x.ai:=iI ha.2;split
  ·refine⟨by omega,?_⟩
   unfold eJ;rw[Bool.and_eq_false_iff];right
   cases hl:bB ⟨x.ai+1,v⟩ x with
   |false=>rfl
   |true=>have:=iI hl;simp only at this;omega
  ·rename_i hn;exact⟨hle,by simpa using hn⟩
 ·rename_i hc;refine⟨Int.le_refl _,?_⟩;rcases hx with rfl|hv
  ·unfold eJ;rw[bU];rfl
  ·rw[hv,Bool.true_and]at hc;simpa using hc
def Vn{v:ByteArray}{n:Int}{p q:ae}(hp:p=bZ\/cD p=true)(hq:q=bZ\/cD q=true):n<=kT v n p q/\1<=kT v n p q/\nL p q v (kT v n p q)=false:=by
 unfold kT;obtain⟨h1,h2⟩:=R5 (v:=v) (n:=bD n 1) hp;obtain⟨h3,h4⟩:=R5 (v:=v) (n:=wV v (bD n 1) p) hq;have hm:n<=bD n 1/\1<=bD n 1:=by unfold bD;split<;>omega
 refine⟨by omega,by omega,?_⟩
 unfold nL;rw[h4,Bool.or_false];exact Zq h2 h3
def LJ{v:ByteArray}{n:Int}{x:ae}(h:eJ x ⟨n,v⟩=false):wV v n x=n:=by
 unfold wV;rw[h,Bool.and_false];rfl
def YC{v:ByteArray}{n:Int}{p q:ae}(h1:1<=n)(h:nL p q v n=false):kT v n p q=n:=by
 unfold nL at h;rw[Qq74]at h;have hm:bD n 1=n:=by unfold bD;split<;>omega
 unfold kT;rw[hm,LJ h.1,LJ h.2]
def s9.valid{p q:ae}(h:s9 p q):(p=bZ\/cD p=true)/\(q=bZ\/cD q=true):=
 ⟨h.1.imp id c8.valid,h.2.imp id λh=>h.1.valid⟩
def V7{e:aj}(hv:bc e=true){x:ae}(hx:x∈said e)(hz:aM x=false):cD x=true:=by
 have hv':=hv;unfold bc gK at hv';unfold said at hx;rw[Qr hv]at hx;rw[Qm,Qm]at hv';have hb:=hv'.2
 by_cases h1:e.bC=1
 ·rw[Qr h1]at hb hx;unfold gL at hb;simp only[Qm,Qn]at hb;obtain⟨⟨⟨⟨⟨⟨⟨⟨hf,hp⟩,hq⟩,_⟩,_⟩,_⟩,_⟩,_⟩,_⟩:=hb;simp only[QA,QR,or_false]at hx;rcases hx with rfl|rfl|rfl
  ·unfold finite at hf;rw[Qm]at hf;exact hf.1
  ·rcases hp with hp|hp
   ·rw[hp]at hz;cases hz
   ·exact hp
  ·rcases hq with hq|hq
   ·rw[hq]at hz;cases hz
   ·exact hq
 ·rw[Qs h1]at hb hx
  have hinf:∀{b:ae},cD b=true->cD ⟨1000000,b.Value⟩=true:=by
   intro b hb;simp only[cD,Qm,Qn,Qi]at hb ⊢;exact⟨⟨.inr trivial,hb.1.2⟩,hb.2⟩
  by_cases h2:e.bC=2
  ·rw[Qr h2]at hb hx;unfold uO at hb;simp only[Qm]at hb;obtain⟨⟨⟨⟨⟨hf,hp⟩,hc⟩,_⟩,_⟩,_⟩:=hb;simp only[QA,QR,or_false]at hx;rcases hx with rfl|rfl
   ·exact hp
   ·unfold finite at hf;rw[Qm]at hf;exact hinf hf.1
  ·rw[Qs h2]at hb hx;simp only[QA,QR,or_false]at hx;subst hx
   by_cases h3:e.bC=3
   ·rw[Qr h3]at hb;unfold Al at hb;simp only[Qm]at hb;exact hinf hb.1.1.1
   ·rw[Qs h3]at hb;cases hb
def JV{e:aj}(hv:bc e=true):1<=e.ab.Value.size/\e.ab.Value.size<=200:=by
 have hv':=hv;unfold bc gK at hv';rw[Qm,Qm]at hv';have hb:=hv'.2
 have go:∀{b:ae},cD b=true->1<=b.Value.size/\b.Value.size<=200:=by
  intro b hb;simp only[cD,Qm,Qn,Qi]at hb;exact⟨hb.1.2,hb.2⟩
 have gof:∀{b:ae},finite b=true->1<=b.Value.size/\b.Value.size<=200:=by
  intro b hb;unfold finite at hb;rw[Qm]at hb;exact go hb.1
 by_cases h1:e.bC=1
 ·rw[Qr h1]at hb;unfold gL at hb;simp only[Qm]at hb;exact gof hb.1.1.1.1.1.1.1.1
 ·rw[Qs h1]at hb
  by_cases h2:e.bC=2
  ·rw[Qr h2]at hb;unfold uO at hb;simp only[Qm]at hb;exact gof hb.1.1.1.1.1
  ·rw[Qs h2]at hb
   by_cases h3:e.bC=3
   ·rw[Qr h3]at hb;unfold Al at hb;simp only[Qm]at hb;exact go hb.1.1.1
   ·rw[Qs h3]at hb;cases hb
def adH{b:ae}(h:cD b=true):c8 (eo b):=by
 simp only[cD,Qm,Qn,Qi]at h;obtain⟨⟨h1,h2⟩,h3⟩:=h;unfold eo;split
 ·exact⟨(by decide:(1:Int)<=1000),(by decide:(1000:Int)<=1000),h2,h3⟩
 ·exact⟨by omega,by omega,h2,h3⟩
def Tk{α:Type}{l:List α}{p:α->Bool}{z:α}:(l.find? p).getD z=z\/((l.find? p).getD z∈l/\p ((l.find? p).getD z)=true):=by
 cases h:l.find? p with
 |none=>exact .inl rfl
 |some x=>exact .inr ⟨List.mem_of_find?_eq_some h,List.find?_some h⟩
def GZ{m:af}(h:br m){x:ae}(hx:x∈fe (bN m)):cD x=true:=by
 obtain⟨e,he,h1,h2⟩:=((ot h.ev.tO.1.aO h.ev.tO.2).2.2.2 x).1 hx;exact V7 (h.DX e he) h1 h2
def PB{m:af}(h:br m):eS m=bZ\/(cD (eS m)=true/\(Hl m=gC\/(eS m).Value=Hl m)/\dU (pO m.ao) (pO m.az) (eS m)=false/\oo m.al.toNat m.aa (bN m) (eS m)=true):=by
 unfold eS jD;rcases Tk (l:=fe (bN m)) (p:=BM (oo m.al.toNat m.aa (bN m)) m.ao m.az (Hl m)) (z:=GU)with e|⟨h1,h2⟩
 ·exact .inl e
 ·right;unfold BM at h2;simp only[Qm,Qn,Bool.not_eq_true',Qi]at h2;exact⟨GZ h h1,h2.1.1,h2.1.2,h2.2⟩
def yL{m:af}(h:br m):eo (eS m)=bZ\/c8 (eo (eS m)):=by
 rcases PB h with e|⟨h1,_⟩
 ·left;rw[e];decide
 ·exact .inr (adH h1)
def I2{m:af}(h:br m)(h1:s9 m.ao m.az):vF m.ao m.az (eo (eS m)) (dj m.ao m.az (eo (eS m))).1 (dj m.ao m.az (eo (eS m))).2:=ac0 h1 (yL h)
def P2.gL{m:af}(h:P2 m):s9 m.ao m.az:=⟨.inr h.dx.1,.inl h.bW⟩
def acC{m:af}(h:br m)(h1:P1 m):P1 (cW m):=by
 unfold cW;rw[Qs (by rw[h1.aW,h1.aZ.nz];decide)]
 have hj:=I2 h h1.gL;generalize (dj m.ao m.az (eo (eS m))).1=p at hj;generalize (dj m.ao m.az (eo (eS m))).2=q at hj;have hok:=hj.ok h1.gL (yL h);refine⟨h1.aW,h1.aZ,hok.1,hok.2,?_,h1.up,h1.cg,?_⟩
 ·rcases h1.dX with e|⟨hf,hp⟩
  ·exact .inl e
  ·exact .inr ⟨hf,hj.mono h1.gL hp⟩
 ·show sz m p q=0\/(1<=sz m p q/\sz m p q<=ft m/\nL p q m.ab.Value (sz m p q)=false);unfold sz
  by_cases hL:m.aY=0
  ·rw[Qs (λh=>h.2 hL)];exact .inl hL
  ·rw[Qr ⟨h1.aW,hL⟩];split
   ·exact .inl rfl
   ·rename_i hlt;obtain⟨h2,h3,h4⟩:=Vn (v:=m.ab.Value) (n:=m.aY) hok.valid.1 hok.valid.2;exact .inr ⟨h3,by omega,h4⟩
def U7{m:af}(h:br m)(h2:P2 m):P2 (cW m)/\m.ao.ai<=(cW m).ao.ai/\(cW m).az=bZ:=by
 unfold cW;rw[Qs (by rw[h2.aW,h2.aZ.nz];decide)]
 have hv:eo (eS m)=bZ\/(eo (eS m)).Value=m.ab.Value:=by
  rcases PB h with e|⟨h3,h4,_⟩
  ·left;rw[e];decide
  ·right;have hc:(eo (eS m)).Value=(eS m).Value:=by unfold eo;split<;>rfl
   have hvo:Hl m=m.ab.Value:=Qr h2.aW;rw[hvo]at h4;rw[hc];exact h4.resolve_left h2.aZ.ne
 have hj:=I2 h h2.gL;have hlow:∀p q,sz m p q=m.aY:=λp q=>Qs (λh=>by have:=h.1;rw[h2.aW]at this;cases this)
 simp only[hlow];have hok:=hj.ok h2.gL (yL h);generalize (dj m.ao m.az (eo (eS m))).1=p at hj hok;generalize (dj m.ao m.az (eo (eS m))).2=q at hj hok;generalize hb:eo (eS m)=b at hj hv
 have key:c8 p/\p.Value=m.ab.Value/\m.ao.ai<=p.ai/\q=bZ:=by
  cases hj with
  |same=>exact⟨h2.dx.1,h2.dx.2,Int.le_refl _,h2.bW⟩
  |first hp hq=>exact absurd hp (Ld h2.dx.1)
  |up hp hl hc=>exact⟨hok.1.resolve_left (λe=>by have:=iI hl;rw[e]at this;have h9:=h2.dx.1.1;have:(bZ:ae).ai=0:=rfl;omega),hc.symm.trans h2.dx.2,iI hl,h2.bW⟩
  |FQ hp hl hc=>
   exfalso;rcases hv with e|e
   ·have:=iI hl;rw[e]at this;have h9:=h2.dx.1.1;have:(bZ:ae).ai=0:=rfl;omega
   ·exact hc (h2.dx.2.trans e.symm)
  |under hp hl hc hq=>
   rcases hv with e|e
   ·exact⟨h2.dx.1,h2.dx.2,Int.le_refl _,e⟩
   ·exact absurd (e.trans h2.dx.2.symm) hc
 exact⟨⟨h2.aW,h2.aZ,⟨key.1,key.2.1⟩,key.2.2.2,h2.dX,⟨h2.range.1,h2.range.2.1,Int.le_trans h2.range.2.2 key.2.2.1⟩⟩,key.2.2.1,key.2.2.2⟩
def Pp{m:af}(h:br m):br (cW m):=by
 have hid:m.aP=3\/aM m.ab=true->cW m=m:=λhc=>Qr hc
 have mk:(P0 (cW m)\/P1 (cW m)\/P2 (cW m)\/P3 (cW m))->br (cW m):=by
  intro hb;unfold cW at hb ⊢;split at hb
  ·rename_i hc;rw[Qr hc];exact h
  ·rename_i hc;rw[Qs hc];exact⟨h.n0,h.n1,h.aI,h.seq,h.aO,h.sw,h.hv,h.dn,hb⟩
 rcases h.body with h0|h1|h2|h3
 ·rw[hid (.inr (by rw[h0.aZ];exact bU))];exact h
 ·exact mk (.inr (.inl (acC h h1)))
 ·exact mk (.inr (.inr (.inl (U7 h h2).1)))
 ·rw[hid (.inl h3.aW)];exact h
end
section
end
section
def uM(q:Int->Bool):∀(r:List Int) (lo:Int),cZ q r lo<=lo
 |[],lo=>Int.le_refl _
 |e::r,lo=>by
  rw[cZ];split
  ·exact uM q r lo
  ·split
   ·exact Int.le_trans (uM q r e) (by omega)
   ·exact Int.le_refl _
def CZ(q:Int->Bool):∀(r:List Int) (lo:Int),cZ q r lo=lo\/q (cZ q r lo)=true/\cZ q r lo∈r
 |[],lo=> .inl rfl
 |e::r,lo=>by
  rw[cZ];split
  ·exact(CZ q r lo).imp id λh=>⟨h.1,by simp[h.2]⟩
  ·split
   ·rename_i hq;rcases CZ q r e with h|h
    ·exact .inr ⟨by rw[h];exact hq,by rw[h];simp⟩
    ·exact .inr ⟨h.1,by simp[h.2]⟩
   ·exact .inl rfl
def C0(q:Int->Bool)(r:List Int)(lo:Int)(h:∀x∈r,1<=x)(h1:1<=lo):1<=cZ q r lo:=by
 rcases CZ q r lo with e|⟨_,e⟩
 ·omega
 ·exact h _ e
section
variable {aD : Nat} {t : ak} {l : List aj} (p q : ae)
end
end
section
def abZ{m:af}(h:br m){p:aj->Bool}(hb:(eZ p (cO (bN m))).testBit m.al.toNat=true):aM m.ab=false/\p (iP m)=true:=by
 rw[zp,List.any_eq_true]at hb;obtain⟨e,he,hp⟩:=hb;rw[Qm,Qi]at hp;obtain⟨h1,h2⟩:=h.acM ((List.mem_filter.1 he).1) hp.2;rw[<-h2];exact⟨h1,hp.1⟩
def TD{m:af}(h:br m){b:ae}(hc:my m.al.toNat m.aa (bN m) b=true):aM m.ab=false/\dZ (iP m) b=true:=by
 have hsm:=oI (aD:=m.al.toNat) h.aO.sm h.ev.tO.1;have hg:=Gk hsm (mS (p:=(dZ · b)) (mu (bN m)));exact abZ h (hg.inside _ hc).1
def Us{m:af}(h1:m.aP=1){b:ae}(ha:dZ (iP m) b=true):aM b=false/\dU m.ao m.az b=true:=by
 have e:iP m=⟨m.al,m.aK,bD (dR m).aG 1,m.aa,m.aP,m.ab,m.ao,m.az,m.aY,ft m⟩:=by unfold iP dR;rw[Qr h1]
 rw[e]at ha;unfold dZ at ha;rw[Qm,Qr h1]at ha;simpa using ha
def YN{m:af}(h:br m)(h1:P1 m):gI m=bZ\/(c8 (gI m)/\bB m.aw (gI m)=true/\dU m.ao m.az (gI m)=true):=by
 unfold gI yG;rcases Tk (l:=fe (bN m)) (p:=BU (my m.al.toNat m.aa (bN m)) m.aw) (z:=GU)with e|⟨h2,h3⟩
 ·exact .inl e
 ·right;unfold BU at h3;simp only[Qm,Qi]at h3;exact⟨VB (GZ h h2) h3.1.2,h3.1.1,(Us h1.aW (TD h h3.2).2).2⟩
def acZ{p q b:ae}{v:ByteArray}{n:Int}(hok:s9 p q)(hb:dU p q b=true)(hv:b.Value≠v)(ha:nL p q v n=false):b.ai<=n:=by
 unfold nL at ha;rw[Qq74]at ha
 have key:∀x:ae,aM x=false->x.Value≠v->eJ x ⟨n,v⟩=false->x.ai<=n:=by
  intro x hz hx h;unfold eJ at h;rw[hz,(iY (a:=x) (b:=⟨n,v⟩)).2 hx,Qp,Bool.and_self,Bool.true_and]at h;exact KM h
 have hqp:aM q=false->c8 q/\c8 p/\bB q p=true/\q.Value≠p.Value:=λhz=>by
  rcases hok.2 with e|⟨e1,e2,e3,e4⟩
  ·rw[e,bU]at hz;cases hz
  ·exact⟨e1,e2,e3,iY.1 e4⟩
 rw[Cv]at hb;rcases hb with hb|hb|⟨hz,hl⟩
 ·obtain⟨h1,h2,h3⟩:=(k7 _ _).1 hb;have:=key p h1 (by rw[h2];exact hv) ha.1
  omega
 ·obtain⟨h1,h2,h3⟩:=(k7 _ _).1 hb;have:=key q h1 (by rw[h2];exact hv) ha.2
  omega
 ·obtain⟨e1,e2,e3,e4⟩:=hqp hz;have h5:=iI hl
  by_cases hqv:q.Value=v
  ·have:=key p e2.nz (by rw[<-hqv];exact λe=>e4 e.symm) ha.1
   have:=iI e3;omega
  ·have:=key q hz hqv ha.2;omega
def af0{m:af}(h1:P1 m){b:ae}(hb:c8 b)(hl:bB m.aw b=true)(hp:dU m.ao m.az b=true):P1 (Bv m b)/\(Bv m b).ao=m.ao/\(Bv m b).az=m.az/\(Bv m b).aw=b/\m.ab.ai<=(Bv m b).ab.ai:=by
 unfold Bv;have hh:=M6 h1;split
 ·rename_i hlt
  have hhigh:∀L:Int,ft {m with aw:=b,ab:=b,aY:=L}=b.ai:=by
   intro L;unfold ft;rw[Qr];rw[hb.nz,jj.2 rfl];rfl
  refine⟨⟨h1.aW,hb,h1.dx,h1.bW,.inr ⟨hb,hp⟩,YG b,h1.cg,?_⟩,rfl,rfl,rfl,iI hlt⟩;show(if bQ m.ab b=true then m.aY else 0)=0\/(1<=(if bQ m.ab b=true then m.aY else 0)/\(if bQ m.ab b=true then m.aY else 0)<=ft {m with aw:=b,ab:=b,aY:=if bQ m.ab b=true then m.aY else 0}/\nL m.ao m.az b.Value (if bQ m.ab b=true then m.aY else 0)=false)
  rw[hhigh];split
  ·rename_i hc;rw[jj]at hc;rcases h1.low with e|⟨h2,h3,h4⟩
   ·exact .inl e
   ·refine .inr ⟨h2,?_,by rw[<-hc];exact h4⟩
    have:=iI hlt;omega
  ·exact .inl rfl
 ·rename_i hlt;have hlt:bB m.ab b=false:=by simpa using hlt
  refine⟨⟨h1.aW,h1.aZ,h1.dx,h1.bW,.inr ⟨hb,hp⟩,hlt,h1.cg,?_⟩,rfl,rfl,rfl,Int.le_refl _⟩;rcases h1.low with e|⟨h2,h3,h4⟩
  ·exact .inl e
  ·refine .inr ⟨h2,?_,h4⟩;show m.aY<=ft {m with aw:=b}
   have hv:b.Value=m.ab.Value:=by
    refine Classical.byContradiction λhv=> ?_
    have h5:=acZ h1.gL hp hv h4;have h6:=iI hl;rcases hh.2.2 with e|⟨e1,e2,e3⟩
    ·omega
    ·
     have e4:bB b m.aw=false:=Du.asymm hl;have e5:=hl;rw[xM]at e5;have hbc:b.ai=m.aw.ai:=by omega
     have hlow:m.aY=m.aw.ai:=by omega
     have e6:bB ⟨m.aY,m.ab.Value⟩ b=true:=by
      have:(⟨m.aY,m.ab.Value⟩:ae)=m.aw:=by rw[hlow,<-e2]
      rw[this];exact hl
     unfold nL at h4;rw[Qq74]at h4
     have key:∀x:ae,aM x=false->x.Value≠m.ab.Value->eJ x ⟨m.aY,m.ab.Value⟩=false->bB ⟨m.aY,m.ab.Value⟩ x=false:=by
      intro x hz hx h;unfold eJ at h;rw[hz,(iY (a:=x) (b:=⟨m.aY,m.ab.Value⟩)).2 hx,Qp,Bool.and_self,Bool.true_and]at h;exact h
     rw[Cv]at hp;rcases hp with hp|hp|⟨hz,hq⟩
     ·obtain⟨g1,g2,g3⟩:=(k7 _ _).1 hp;have g4:=key _ g1 (by rw[g2];exact hv) h4.1
      have g5:bB ⟨m.aY,m.ab.Value⟩ m.ao=true:=by
       by_cases e:b=m.ao
       ·rw[<-e];exact e6
       ·exact mh e6 (HY (Iu hp) (λe'=>e e'.symm))
      rw[g5]at g4;cases g4
     ·obtain⟨g1,g2,g3⟩:=(k7 _ _).1 hp;have g4:=key _ g1 (by rw[g2];exact hv) h4.2
      have g5:bB ⟨m.aY,m.ab.Value⟩ m.az=true:=by
       by_cases e:b=m.az
       ·rw[<-e];exact e6
       ·exact mh e6 (HY (Iu hp) (λe'=>e e'.symm))
      rw[g5]at g4;cases g4
     ·rcases h1.bW with e|⟨f1,f2,f3,f4⟩
      ·rw[e,bU]at hz;cases hz
      ·by_cases hqv:m.az.Value=m.ab.Value
       ·have g4:=key _ f2.nz (by rw[<-hqv];exact λe=>(iY.1 f4) e.symm) h4.1
        rw[mh e6 (mh hq f3)]at g4;cases g4
       ·have g4:=key _ hz hqv h4.2;rw[mh e6 hq]at g4;cases g4
   have hhigh:ft {m with aw:=b}=b.ai:=by
    unfold ft;rw[Qr];show(!aM b&&bQ b m.ab)=true;rw[hb.nz,jj.2 hv];rfl
   rw[hhigh];rcases hh.2.2 with e|⟨e1,e2,e3⟩
   ·omega
   ·have:=iI hl;omega
def ab1{m:af}(h1:P1 m){b:ae}(hb:c8 b)(hc:m.aw=b):P1 (pX m b):=by
 unfold pX;split
 ·rename_i hv;obtain⟨hL,hcp,hle⟩:=hv;rw[jj]at hcp;refine⟨h1.aW,h1.aZ,h1.dx,h1.bW,h1.dX,h1.up,h1.cg,?_⟩;obtain⟨h2,h3,h4⟩:=Vn (v:=b.Value) (n:=m.ab.ai) h1.gL.valid.1 h1.gL.valid.2;refine .inr ⟨h3,?_,by show nL m.ao m.az m.ab.Value _=false;rw[hcp];exact h4⟩
  show kT b.Value m.ab.ai m.ao m.az<=ft {m with aY:=kT b.Value m.ab.ai m.ao m.az}
  have hhigh:ft {m with aY:=kT b.Value m.ab.ai m.ao m.az}=b.ai:=by
   unfold ft;rw[Qr]
   ·show m.aw.ai=_;rw[hc]
   ·show(!aM m.aw&&bQ m.aw m.ab)=true;rw[hc,hb.nz,jj.2 hcp.symm];rfl
  rw[hhigh];exact hle
 ·exact h1
def VV(m:af)(b:ae):(pX m b).ao=m.ao/\(pX m b).az=m.az/\(pX m b).aw=m.aw/\(pX m b).ab=m.ab:=by
 unfold pX;split<;>exact⟨rfl,rfl,rfl,rfl⟩
def ur{m:af}(h:m.aP≠1\/aM m.ab=true\/aM (gI m)=true):gl m=m:=Qr h
def DJ{m m':af}(h:br m)(he:m'.al=m.al/\m'.aK=m.aK/\m'.aG=m.aG/\m'.aa=m.aa/\m'.bh=m.bh/\m'.ar=m.ar)(hb:P0 m'\/P1 m'\/P2 m'\/P3 m'):br m':=by
 obtain⟨e1,e2,e3,e4,e5,e6⟩:=he;exact⟨by rw[e1];exact h.n0,by rw[e1];exact h.n1,by rw[e2];exact h.aI,by rw[e3];exact h.seq,by rw[e4];exact h.aO,by rw[e5];exact h.sw,by rw[e6,e1,e2];exact h.hv,by rw[e6];exact h.dn,hb⟩
structure iK (m m':af):Prop where
 aD:m'.al=m.al
 aI:m'.aK=m.aK
 seq:m'.aG=m.aG
 aO:m'.aa=m.aa
 sw:m'.bh=m.bh
 heard:m'.ar=m.ar
def iK.refl(m:af):iK m m:=⟨rfl,rfl,rfl,rfl,rfl,rfl⟩
def iK.all{m m':af}(h:iK m m'):m'.al=m.al/\m'.aK=m.aK/\m'.aG=m.aG/\m'.aa=m.aa/\m'.bh=m.bh/\m'.ar=m.ar:=⟨h.aD,h.aI,h.seq,h.aO,h.sw,h.heard⟩
def Av(m:af):iK m (cW m):=by unfold cW;split<;>exact⟨rfl,rfl,rfl,rfl,rfl,rfl⟩
def ada(m:af)(b:ae):iK m (Bv m b):=by unfold Bv;split<;>exact⟨rfl,rfl,rfl,rfl,rfl,rfl⟩
def XR(m:af)(b:ae):iK m (pX m b):=by unfold pX;split<;>exact⟨rfl,rfl,rfl,rfl,rfl,rfl⟩
def xJ(m:af):iK m (gl m):=by
 unfold gl;split
 ·exact .refl m
 ·have h1:=XR (Bv m (gI m)) (gI m);have h2:=ada m (gI m);exact⟨h1.aD.trans h2.aD,h1.aI.trans h2.aI,h1.seq.trans h2.seq,h1.aO.trans h2.aO,h1.sw.trans h2.sw,h1.heard.trans h2.heard⟩
def xL(m:af):iK m (fP m):=by
 unfold fP Lr AM;split
 ·split<;>exact⟨rfl,rfl,rfl,rfl,rfl,rfl⟩
 ·split<;>exact⟨rfl,rfl,rfl,rfl,rfl,rfl⟩
def xK(m:af):iK m (iL m):=by unfold iL No;split<;>exact⟨rfl,rfl,rfl,rfl,rfl,rfl⟩
def Aw(m:af):iK m (fK m):=by unfold fK;split<;>exact⟨rfl,rfl,rfl,rfl,rfl,rfl⟩
def Od{m:af}(h:br m)(h1:P1 m):P1 (gl m)/\(gl m=m\/((gl m).ao=m.ao/\(gl m).az=m.az/\bB m.aw (gl m).aw=true/\m.ab.ai<=(gl m).ab.ai)):=by
 unfold gl;split
 ·exact⟨h1,.inl rfl⟩
 ·rename_i hc;rcases YN h h1 with e|⟨hf,hl,hp⟩
  ·exact absurd (.inr (.inr (by rw[e];exact bU))) hc
  ·obtain⟨g1,g2,g3,g4,g5⟩:=af0 h1 hf hl hp;obtain⟨v1,v2,v3,v4⟩:=VV (Bv m (gI m)) (gI m);exact⟨ab1 g1 hf g4,.inr ⟨v1.trans g2,v2.trans g3,by rw[v3,g4];exact hl,by rw[v4];exact g5⟩⟩
def Po{m:af}(h:br m):br (gl m):=by
 rcases h.body with h0|h1|h2|h3
 ·rw[ur (.inr (.inl (by rw[h0.aZ];exact bU)))];exact h
 ·exact DJ h (xJ m).all (.inr (.inl (Od h h1).1))
 ·rw[ur (.inl (by rw[h2.aW];decide))];exact h
 ·rw[ur (.inl (by rw[h3.aW];decide))];exact h
def zV{m:af}(h:br m)(v:ByteArray):∀x∈bs (bN m) v,1<=x/\x<=1000:=DW h.ev.tO.1 h.ev.tO.2 v
def Zz{m:af}(h:br m):∀v∈gr (bN m),1<=v.size/\v.size<=200:=by
 intro v hv;obtain⟨e,he,h1,h2⟩:=((vi h.ev.tO.1.aO h.ev.tO.2).2.2.2 v).1 hv;rw[h2];exact JV h1
def Xt{m:af}(h:br m){x:ByteArray->Int->Int->Bool}{p q:ae}:(gS x (bN m) p q).1=false\/(c8 (gS x (bN m) p q).2/\(gS x (bN m) p q).2.Value∈gr (bN m)/\(gS x (bN m) p q).2.ai∈bs (bN m) (gS x (bN m) p q).2.Value/\
  nL p q (gS x (bN m) p q).2.Value (gS x (bN m) p q).2.ai=false/\x (gS x (bN m) p q).2.Value (gS x (bN m) p q).2.ai (gS x (bN m) p q).2.ai=true):=by
 let G:Bool×ae->Prop:=λs=>s.1=false\/(c8 s.2/\s.2.Value∈gr (bN m)/\s.2.ai∈bs (bN m) s.2.Value/\nL p q s.2.Value s.2.ai=false/\x s.2.Value s.2.ai s.2.ai=true)
 have inner:∀(v:ByteArray),v∈gr (bN m)->∀(b:List Int),(∀n∈b,n∈bs (bN m) v)->∀s,G s->G (b.foldl (fR x p q v) s):=by
  intro v hv b
  induction b with
  |nil=>intro _ s hs;exact hs
  |cons n b ih=>
   intro hb s hs;rw[QU];refine ih (λk hk=>hb k (Qy _ hk)) _ ?_
   unfold fR;split
   ·rename_i hc;simp only[Qm,Bool.not_eq_true']at hc;have hn:=hb n Qx;have h1:=zV h v n hn;have h2:=Zz h v hv;exact .inr ⟨⟨h1.1,h1.2,h2.1,h2.2⟩,hv,hn,hc.1.2,hc.2⟩
   ·exact hs
 have outer:∀(vs:List ByteArray),(∀v∈vs,v∈gr (bN m))->∀s,G s->G (vs.foldl (λs v=>(bs (bN m) v).foldl (fR x p q v) s) s):=by
  intro vs
  induction vs with
  |nil=>intro _ s hs;exact hs
  |cons v vs ih=>
   intro hv s hs;rw[QU];exact ih (λu hu=>hv u (Qy _ hu)) _ (inner v (hv v Qx) _ (λn hn=>hn) s hs)
 exact outer _ (λv hv=>hv) (false,⟨0,gC⟩) (.inl rfl)
structure agp (m:af) (v:ByteArray) (lo hi:Int):Prop where
 fin:c8 ⟨hi,v⟩
 lo1:1<=lo
 le:lo<=hi
 val:v∈gr (bN m)
 top:gX m v hi hi=true
 all:gX m v lo hi=true
def Nf{m:af}(h:br m)(hk:(fM m).2.2.2.1=true):agp m (fM m).1 (fM m).2.1 (fM m).2.2.1:=by
 rcases Xt (x:=gX m) (p:=m.ao) (q:=m.az) h with e|⟨h1,h2,h3,h4,h5⟩
 ·unfold fM qk at hk;rw[e]at hk;cases hk
 ·have hb:(gS (gX m) (bN m) m.ao m.az).1=true:=by
   unfold fM qk at hk;split at hk
   ·assumption
   ·cases hk
  have e:fM m=((gS (gX m) (bN m) m.ao m.az).2.Value,cZ (λn=> !nL m.ao m.az (gS (gX m) (bN m) m.ao m.az).2.Value n&&gX m (gS (gX m) (bN m) m.ao m.az).2.Value n (gS (gX m) (bN m) m.ao m.az).2.ai) (bs (bN m) (gS (gX m) (bN m) m.ao m.az).2.Value).reverse (gS (gX m) (bN m) m.ao m.az).2.ai,(gS (gX m) (bN m) m.ao m.az).2.ai,true,()):=by
   unfold fM qk;rw[Qr hb]
  rw[e];refine⟨h1,C0 _ _ _ (λx hx=>(zV h _ x (List.mem_reverse.1 hx)).1) h1.1,uM _ _ _,h2,h5,?_⟩
  simp only;rcases CZ (λn=> !nL m.ao m.az (gS (gX m) (bN m) m.ao m.az).2.Value n&&gX m (gS (gX m) (bN m) m.ao m.az).2.Value n (gS (gX m) (bN m) m.ao m.az).2.ai) (bs (bN m) (gS (gX m) (bN m) m.ao m.az).2.Value).reverse (gS (gX m) (bN m) m.ao m.az).2.ai with e|⟨e,_⟩
  ·rw[e];exact h5
  ·rw[Qm]at e;exact e.2
def TE{m:af}(hb0:m.ab=bZ\/c8 m.ab)(hp0:m.ao=bZ\/c8 m.ao){v:ByteArray}{lo hi:Int}(hf:c8 ⟨hi,v⟩)(hlo:1<=lo)(hle:lo<=hi):P2 (Lr m v lo hi):=by
 unfold Lr
 have hmax:c8 ⟨bD m.ab.ai hi,v⟩:=by
  rcases hb0 with e|h2
  ·have:bD m.ab.ai hi=hi:=by
    have h3:=hf.1;simp only at h3;have h4:m.ab.ai=0:=by rw[e];rfl
    unfold bD;split<;>omega
   rw[this];exact hf
  ·have:bD m.ab.ai hi=m.ab.ai\/bD m.ab.ai hi=hi:=by unfold bD;split<;>simp
   rcases this with e|e<;>rw[e]
   ·exact⟨h2.1,h2.2.1,hf.2.2⟩
   ·exact hf
 have hbv:∀b:ae,b=(if(!bQ m.ab ⟨hi,v⟩||bB m.ab ⟨hi,v⟩)=true then⟨bD m.ab.ai hi,v⟩else m.ab)->c8 b/\b.Value=v:=by
  intro b hb;split at hb
  ·rw[hb];exact⟨hmax,rfl⟩
  ·rename_i hc;rw[hb];simp only[Qn,Bool.not_eq_true',not_or,Bool.not_eq_false]at hc;refine⟨hb0.resolve_left (λe=> ?_),jj.1 hc.1⟩
   have:=jj.1 hc.1;rw[e]at this;exact hf.ne this.symm
 obtain⟨b1,b2⟩:=hbv _ rfl
 have hpv:∀p:ae,p=(if jo m.ao ⟨hi,v⟩=true then m.ao else⟨hi,v⟩)->c8 p/\p.Value=v/\hi<=p.ai:=by
  intro p hp;split at hp
  ·rename_i hc;rw[hp];obtain⟨g1,g2,g3⟩:=(k7 _ _).1 hc;refine⟨?_,g2,g3⟩;rcases hp0 with e|e
   ·rw[e,bU]at g1;cases g1
   ·exact e
  ·rw[hp];exact⟨hf,rfl,Int.le_refl _⟩
 obtain⟨p1,p2,p3⟩:=hpv _ rfl;exact⟨rfl,b1,⟨p1,p2.trans b2.symm⟩,rfl,.inr ⟨hf,b2.symm⟩,⟨hlo,hle,p3⟩⟩
def Tm{m:af}(h:br m)(h2:P2 m):1<=(eO m).1/\(eO m).1<=(eO m).2/\(eO m).2<=1000/\(((eO m).2=m.bq/\(eO m).1<=m.aY)\/m.bq<(eO m).2):=by
 have hr:=h2.range;have hH:m.bq<=1000:=by have:=h2.dx.1.2.1;omega
 have hb:∀x∈(bs (bN m) m.ab.Value).reverse,1<=x:=λx hx=>(zV h _ x (List.mem_reverse.1 hx)).1
 unfold eO Er;split
 ·refine⟨C0 _ _ _ hb hr.1,?_,hH,.inl ⟨rfl,uM _ _ _⟩⟩;exact Int.le_trans (uM _ _ _) hr.2.1
 ·rename_i n hn;have hnb:=zV h _ n (List.mem_reverse.1 (List.mem_of_find?_eq_some hn));have hnp:=List.find?_some hn;simp only[Qm,Qi]at hnp;have h5:1<=cZ (λx=>gX m m.ab.Value x n) (bs (bN m) m.ab.Value).reverse n:=C0 _ _ _ hb hnb.1
  have h6:=uM (λx=>gX m m.ab.Value x n) (bs (bN m) m.ab.Value).reverse n
  simp only;refine⟨C0 _ _ _ hb ?_,?_,hnb.2,.inr hnp.1⟩
  ·split
   ·exact h5
   ·exact hr.1
  ·refine Int.le_trans (uM _ _ _) ?_;split
   ·exact h6
   ·omega
def Xc{m:af}(h2:P2 m){lo hi:Int}(hlo:1<=lo)(hle:lo<=hi)(hhi:hi<=1000):P2 (AM m lo hi):=by
 unfold AM;have hb:=h2.aZ;have hp:=h2.dx;have e1:∀c:Int,bD c hi=c\/bD c hi=hi:=λc=>by unfold bD;split<;>simp
 have e2:∀c:Int,hi<=bD c hi:=λc=>by unfold bD;split<;>omega
 have mx:∀c:Int,c<=1000->c8 ⟨bD c hi,m.ab.Value⟩:=by
  intro c hc;refine⟨by have:=e2 c;simp only;omega,?_,hb.2.2.1,hb.2.2.2⟩
  rcases e1 c with e|e<;>simp only[e]<;>omega
 refine⟨h2.aW,mx _ hb.2.1,⟨?_,?_⟩,h2.bW,.inr ⟨mx _ ?_,rfl⟩,⟨hlo,hle,e2 _⟩⟩
 ·show c8 ⟨bD m.ao.ai hi,m.ao.Value⟩;rw[hp.2];exact mx _ hp.1.2.1
 ·exact hp.2
 ·rcases h2.dX with e|e
  ·rw[e];decide
  ·exact e.1.2.1
def Pv{m:af}(h:br m):br (fP m):=by
 refine DJ h (xL m).all ?_;unfold fP;rcases h.body with h0|h1|h2|h3
 ·rw[Qr h0.aW];split
  ·rename_i hk;have hf:=Nf h hk;exact .inr (.inr (.inl (TE (.inl h0.aZ) (.inl h0.dx) hf.fin hf.lo1 hf.le)))
  ·exact .inl h0
 ·rw[Qr h1.aW];split
  ·rename_i hk;have hf:=Nf h hk;exact .inr (.inr (.inl (TE (.inr h1.aZ) h1.dx hf.fin hf.lo1 hf.le)))
  ·exact .inr (.inl h1)
 ·rw[Qs (by rw[h2.aW];decide),Qr h2.aW]
  have:=Tm h h2;exact .inr (.inr (.inl (Xc h2 this.1 this.2.1 this.2.2.1)))
 ·rw[Qs (by rw[h3.aW];decide),Qs (by rw[h3.aW];decide)]
  exact .inr (.inr (.inr h3))
def ae6{m:af}(h:br m)(hk:(n4 m).2.2.1=true):1<=(n4 m).1/\(n4 m).1<=(n4 m).2.1/\(n4 m).2.1<=1000/\LH m m.ab.Value (n4 m).1 (n4 m).2.1=true:=by
 unfold n4 CX at hk ⊢;split at hk
 ·rename_i n hn;have hnb:=zV h _ n (List.mem_reverse.1 (List.mem_of_find?_eq_some hn));have hs:=List.find?_some hn;simp only;refine⟨C0 _ _ _ (λx hx=>(zV h _ x (List.mem_reverse.1 hx)).1) hnb.1,uM _ _ _,hnb.2,?_⟩
  rcases CZ (λx=>LH m m.ab.Value x n) (bs (bN m) m.ab.Value).reverse n with e|⟨e,_⟩
  ·rw[e];exact hs
  ·exact e
 ·cases hk
def U9{m:af}(h:br m)(h2:P2 m)(hk:(n4 m).2.2.1=true):P3 (No m (n4 m).1 (n4 m).2.1):=by
 obtain⟨g1,g2,g3,_⟩:=ae6 h hk;unfold No;exact⟨rfl,⟨by simp only;omega,g3,h2.aZ.2.2.1,h2.aZ.2.2.2⟩,rfl,rfl,rfl,⟨g1,g2,g3⟩⟩
def Pu{m:af}(h:br m):br (iL m):=by
 refine DJ h (xK m).all ?_;unfold iL;split
 ·rename_i hc;rcases h.body with h0|h1|h2|h3
  ·have:=h0.aW;have:=hc.1;omega
  ·have:=h1.aW;have:=hc.1;omega
  ·exact .inr (.inr (.inr (U9 h h2 hc.2)))
  ·have:=h3.aW;have:=hc.1;omega
 ·exact h.body
def WU{z:ae}:∀{l:List ae},l≠[]->Ii z l∈l
 |[],h=>absurd rfl h
 |x::l,_=>by
  show l.foldl (λa y=>if bB a y=true then y else a) x∈x::l
  suffices key:∀(l:List ae) (a:ae),l.foldl (λa y=>if bB a y=true then y else a) a=a\/l.foldl (λa y=>if bB a y=true then y else a) a∈l by
   rcases key l x with e|e
   ·rw[e];exact Qx
   ·exact Qy _ e
  intro l
  induction l with
  |nil=>intro a;exact .inl rfl
  |cons y l ih=>
   intro a;rw[QU];rcases ih (if bB a y=true then y else a)with e|e
   ·rw[e];split
    ·exact .inr Qx
    ·exact .inl rfl
   ·exact .inr (Qy _ e)
def ace{t:ak}(h:dO t){s:Nat}(hs:∀k,k<10->s.testBit k=true):lE s t=true:=by
 have hn:∀x:Int,0<=x->x<10->oS s x=true:=by
  intro x h0 h1;unfold oS fI;rw[Qg h0,Qg h1,hs _ (by omega)]
  rfl
 have hc:t.aX.countP (oS s)=t.aX.length:=List.countP_eq_length.2 λx hx=>hn x (h.nodes x hx).1 (h.nodes x hx).2
 have hi:yd s t.aL=t.aL.length:=by
  rcases h.inner with e|⟨x,h0,h1,e⟩
  ·rw[e];rfl
  ·rw[e]
   have:lE s ⟨1,[x],[]⟩=true:=by
    rw[N0];simp[hn x h0 h1,yd]
   simp[yd,this]
 rw[N0,hc,hi,Qi];have:=h.th.2;omega
def XB{m:af}(h:br m){n:Int}(ha:iS m n=true):∃e∈m.ar,n<fQ e:=by
 refine Classical.byContradiction λhno=> ?_
 have hz:Fh m n=0:=by
  refine Cc λk=> ?_
  unfold Fh;rw[zp,Nat.zero_testBit,List.any_eq_false];intro e he;have:¬n<fQ e:=λhlt=>hno ⟨e,he,hlt⟩
  simp[this]
 unfold iS zW at ha;rw[hz,Qm]at ha
 have hown:oy (jZ m.al.toNat m.aa (bN m)) m.al.toNat=m.aa:=by
  unfold oy;rw[Hh h.ev.aD.2 m.aa (bN m) h.ev.aD.2,Qr rfl];rfl
 rw[hown,ace h.aO (λk hk=>by rw[BK (by omega)];simp[hk])]at ha
 cases ha.2
def UR{m:af}(h:br m)(h1:m.aP=1)(hc:m.aw=bZ\/c8 m.aw)(hh:m.ar≠[]\/m.bh≠gC\/m.aw≠bZ):1<=(eI m).size/\(eI m).size<=200:=by
 unfold eI;split
 ·rename_i hz;rcases hc with e|e
  ·rw[e,bU]at hz;cases hz
  ·exact e.2.2
 ·rename_i hz;have hz:aM m.aw=true:=by simpa using hz
  rw[Qs (λh=>h h1)]
  split
  ·rename_i hp;refine⟨?_,h.sw⟩;rcases Nat.eq_zero_or_pos m.bh.size with e|e
   ·exfalso;apply hp;have:m.bh.data=#[]:=Array.eq_empty_of_size_eq_zero e
    cases hm:m.bh with
    |mk d=>rw[hm]at this;simp only at this;rw[this];rfl
   ·exact e
  ·rename_i hp
   have hne:m.ar≠[]:=by
    rcases hh with e|e|e
    ·exact e
    ·exact absurd e hp
    ·exact absurd (xG.1 hz) e
   have hm:=WU (z:=bZ) (l:=m.ar.map (·.ab)) (by simpa using hne)
   obtain⟨e,he,heq⟩:=QP.1 hm;rw[<-heq];exact JV (h.hv e he).1
def Y7{e:aj}(hv:bc e=true):1<=fQ e/\(fQ e<=1000\/fQ e=1000000):=by
 unfold fQ;split
 ·exact⟨by decide,.inr rfl⟩
 ·rename_i h3;have hv':=hv;unfold bc gK at hv';rw[Qm,Qm]at hv';have hb:=hv'.2
  have gof:∀{b:ae},finite b=true->1<=b.ai/\b.ai<=1000:=by
   intro b hb;unfold finite at hb;rw[Qm,Qi]at hb;have:=(VB hb.1 hb.2);exact⟨this.1,this.2.1⟩
  by_cases h1:e.bC=1
  ·rw[Qr h1]at hb;unfold gL at hb;simp only[Qm]at hb;have:=gof hb.1.1.1.1.1.1.1.1;exact⟨this.1,.inl this.2⟩
  ·rw[Qs h1]at hb
   by_cases h2:e.bC=2
   ·rw[Qr h2]at hb;unfold uO at hb;simp only[Qm]at hb;have:=gof hb.1.1.1.1.1;exact⟨this.1,.inl this.2⟩
   ·rw[Qs h2,Qs h3]at hb;cases hb
def Ze(m:af):hY m=1000000\/(m.ab.ai<hY m/\hY m<1000000/\iS m (hY m)=false/\∃e∈m.ar,hY m=fQ e):=by
 unfold hY
 suffices key:∀(l:List aj),(∀e∈l,e∈m.ar)->∀s,(s=1000000\/(m.ab.ai<s/\s<1000000/\iS m s=false/\∃e∈m.ar,s=fQ e))->
   (l.foldl (mW m) s=1000000\/(m.ab.ai<l.foldl (mW m) s/\l.foldl (mW m) s<1000000/\iS m (l.foldl (mW m) s)=false/\∃e∈m.ar,l.foldl (mW m) s=fQ e))from key _ (λe he=>he) _ (.inl rfl)
 intro l
 induction l with
 |nil=>intro _ s hs;exact hs
 |cons x l ih=>
  intro hm s hs;rw[QU];refine ih (λe he=>hm e (Qy _ he)) _ ?_
  unfold mW;split
  ·rename_i hc;exact .inr ⟨hc.1,by rcases hs with e|e<;>omega,hc.2.2,x,hm x Qx,rfl⟩
  ·exact hs
def Ix{m:af}(h:br m)(hb:0<=m.ab.ai/\m.ab.ai<=1000):m.ab.ai<=bD m.ab.ai (dJ (hY m) 1000)/\bD m.ab.ai (dJ (hY m) 1000)<=1000/\1<=bD m.ab.ai (dJ (hY m) 1000)/\
  (bD m.ab.ai (dJ (hY m) 1000)=m.ab.ai->m.ab.ai=1000)/\bD m.ab.ai (dJ (hY m) 1000)=dJ (hY m) 1000:=by
 have hmin:dJ (hY m) 1000<=1000/\1<=dJ (hY m) 1000/\(m.ab.ai<dJ (hY m) 1000\/dJ (hY m) 1000=1000):=by
  rcases Ze m with e|⟨g1,g2,_,x,hx,g4⟩
  ·rw[e];exact⟨by decide,by decide,.inr (by decide)⟩
  ·have hc:=Y7 (h.hv x hx).1;rw[<-g4]at hc;have:hY m<=1000:=by omega
   have e:dJ (hY m) 1000=hY m:=by unfold dJ;split<;>omega
   rw[e];omega
 unfold bD;split<;>omega
def Oe{m:af}(h:br m)(h1:P0 m\/P1 m)(ha:iS m m.ab.ai=true):P1 (fK m):=by
 have hph:m.aP=1:=by rcases h1 with h|h<;>exact h.aW
 have hbc:0<=m.ab.ai/\m.ab.ai<=1000:=by
  rcases h1 with h|h
  ·rw[h.aZ];decide
  ·have:=h.aZ;exact⟨by have:=this.1;omega,this.2.1⟩
 obtain⟨c1,c2,c3,_⟩:=Ix h hbc;obtain⟨e0,he0,_⟩:=XB h ha
 have hconf:m.aw=bZ\/c8 m.aw:=by
  rcases h1 with h|h
  ·exact .inl h.dX
  ·exact h.dX.imp id (·.1)
 have hv:=UR h hph hconf (.inl (List.ne_nil_of_mem he0));unfold fK;rw[Qs (by rw[hph,ha];decide)]
 have hnv:nm m=eI m:=Qr hph;rw[hnv];generalize hn:bD m.ab.ai (dJ (hY m) 1000)=n at c1 c2 c3 ⊢
 have hpo:s9 m.ao m.az:=by
  rcases h1 with h|h
  ·exact⟨.inl h.dx,.inl h.bW⟩
  ·exact h.gL
 refine⟨hph,⟨c3,c2,hv.1,hv.2⟩,hpo.1,hpo.2,?_,?_,?_,?_⟩
 ·rcases h1 with h|h
  ·exact .inl h.dX
  ·exact h.dX
 ·show bB ⟨n,eI m⟩ m.aw=false;rcases hconf with e|e
  ·rw[e]
   cases hl:bB ⟨n,eI m⟩ bZ with
   |false=>rfl
   |true=>have:=iI hl;have h0:(bZ:ae).ai=0:=rfl;simp only at this;omega
  ·have hvc:eI m=m.aw.Value:=by unfold eI;rw[Qr e.nz]
   rw[FZ (show(⟨n,eI m⟩:ae).Value=m.aw.Value from hvc),Qj]
   rcases h1 with h|h
   ·exact absurd h.dX (Ld e)
   ·have:=KM h.up;simp only;omega
 ·rcases h1 with h|h<;>exact h.cg
 ·show(if eI m=m.ab.Value then m.aY else 0)=0\/(1<=(if eI m=m.ab.Value then m.aY else 0)/\_<=_/\nL m.ao m.az (eI m) (if eI m=m.ab.Value then m.aY else 0)=false)
  split
  ·rename_i hve;rcases h1 with h|h
   ·exact .inl h.low
   ·rcases h.low with e|⟨g1,g2,g3⟩
    ·exact .inl e
    ·refine .inr ⟨g1,?_,by rw[hve];exact g3⟩
     have:ft {m with aY:=m.aY,ab:=⟨n,eI m⟩}=ft m:=by
      unfold ft bQ;simp only[hve]
     show m.aY<=ft {m with aY:=m.aY,ab:=⟨n,eI m⟩}
     rw[this];exact g2
  ·exact .inl rfl
def U8{m:af}(h:br m)(h2:P2 m):P2 (fK m):=by
 unfold fK;split
 ·exact h2
 ·obtain⟨c1,c2,c3,_⟩:=Ix h ⟨by have:=h2.aZ.1;omega,h2.aZ.2.1⟩
  have hnv:nm m=m.ab.Value:=Qs (by rw[h2.aW];decide)
  rw[hnv,Qr rfl];exact⟨h2.aW,⟨c3,c2,h2.aZ.2.2⟩,h2.dx,h2.bW,h2.dX,h2.range⟩
def Pt{m:af}(h:br m):br (fK m):=by
 have hid:m.aP=3\/iS m m.ab.ai=false->fK m=m:=λhc=>Qr hc
 cases ha:iS m m.ab.ai with
 |false=>rw[hid (.inr ha)];exact h
 |true=>
  refine DJ h (Aw m).all ?_;rcases h.body with h0|h1|h2|h3
  ·exact .inr (.inl (Oe h (.inl h0) ha))
  ·exact .inr (.inl (Oe h (.inr h1) ha))
  ·exact .inr (.inr (.inl (U8 h h2)))
  ·rw[hid (.inl h3.aW)];exact .inr (.inr (.inr h3))
end
section
def lexLt{a a' b b' B:Nat}(hb:b<B)(h:a<a'):a*B+b<a'*B+b':=by
 have h1:(a+1)*B<=a'*B:=Qq63 B h;rw[Qq73]at h1;omega
def Ag{a a' b b' B:Nat}(h:a=a')(hb:b<b'):a*B+b<a'*B+b':=by rw[h];omega
def FY{a b A B:Nat}(ha:a<A)(hb:b<B):a*B+b<A*B:=by
 have h1:(a+1)*B<=A*B:=Qq63 B ha;rw[Qq73]at h1;omega
def c8.sm{b:ae}(h:c8 b):Sm b:=⟨by have:=h.1;omega,h.2.1,h.2.2.2⟩
def Yx:Sm bZ:=⟨by decide,by decide,by decide⟩
def tP{b:ae}(h:b=bZ\/c8 b):Sm b:=by
 rcases h with rfl|h
 ·exact Yx
 ·exact h.sm
def OJ{b:ae}(h:c8 b):n5 bZ<n5 b:=xN Yx h.sm ((xM _ _).2 (.inl h.1))
 def t1(m:af):Nat:=2*m.ab.ai.toNat+(if m.ab.Value=nm m then 1 else 0)
 def pq(m:af):Nat:=n5 m.ao*WB+n5 m.az
 def r1(m:af):Nat:=(pq m*WB+n5 m.aw)*2002+t1 m
def K1:Nat:=(WB*WB)*WB*2002
 def r2(m:af):Nat:=(((m.bq.toNat*1001+(1000 - m.aY).toNat)*WB+n5 m.ao)*WB+n5 m.aw)*1001+m.ab.ai.toNat
def K2:Nat:=((1001*1001)*WB*WB)*1001
 def jQ(m:af):Nat:=if m.aP=1 then r1 m else if m.aP=2 then K1+r2 m else K1+K2
def Ae(m:af):Prop:=(m.ao=bZ\/c8 m.ao)/\(m.az=bZ\/c8 m.az)/\(m.aw=bZ\/c8 m.aw)/\(m.ab=bZ\/c8 m.ab)
def P0.ok{m:af}(h:P0 m):Ae m:=⟨.inl h.dx,.inl h.bW,.inl h.dX,.inl h.aZ⟩
def P1.ok{m:af}(h:P1 m):Ae m:=⟨h.dx,h.bW.imp id (·.1),h.dX.imp id (·.1),.inr h.aZ⟩
def P2.ok{m:af}(h:P2 m):Ae m:=⟨.inr h.dx.1,.inl h.bW,h.dX.imp id (·.1),.inr h.aZ⟩
def V1{m:af}(h:Ae m):t1 m<2002:=by
 have:m.ab.ai<=1000:=by
  rcases h.2.2.2 with e|e
  ·rw[e];decide
  ·exact e.2.1
 unfold t1;split<;>omega
def afN{m:af}(h:Ae m):pq m<WB*WB:=FY (rK (tP h.1)) (rK (tP h.2.1))
def Wq{m:af}(h:Ae m):r1 m<K1:=FY (FY (afN h) (rK (tP h.2.2.1))) (V1 h)
def P2.cg{m:af}(h:P2 m):m.bq<=1000:=by have:=h.range.2.2;have:=h.dx.1.2.1;omega
def abt{m:af}(h:P2 m):r2 m<K2:=by
 have h1:=h.range;have h2:=h.cg;refine FY (FY (FY (FY (A:=1001) ?_ ?_) (rK h.dx.1.sm)) (rK (tP h.ok.2.2.1))) ?_
 ·omega
 ·omega
 ·have:=h.aZ.2.1;omega
def yi{m:af}(h:m.aP=1):jQ m=r1 m:=Qr h
def yh{m:af}(h:m.aP=2):jQ m=K1+r2 m:=by unfold jQ;rw[Qs (by omega),Qr h]
def X2{m:af}(h:m.aP=3):jQ m=K1+K2:=by unfold jQ;rw[Qs (by omega),Qs (by omega)]
def UZ{m:af}(h:br m):jQ m<=K1+K2:=by
 rcases h.body with h0|h1|h2|h3
 ·rw[yi h0.aW];have:=Wq h0.ok;omega
 ·rw[yi h1.aW];have:=Wq h1.ok;omega
 ·rw[yh h2.aW];have:=abt h2;omega
 ·rw[X2 h3.aW];exact QI _
def vF.up_{p q b p' q':ae}(h:s9 p q)(hb:b=bZ\/c8 b)(hj:vF p q b p' q'):(p'=p/\q'=q)\/n5 p*WB+n5 q<n5 p'*WB+n5 q':=by
 have hok:=hj.ok h hb;have hp:=tP h.1;have hq:Sm q:=tP (h.2.imp id (·.1))
 cases hj with
 |same=>exact .inl ⟨rfl,rfl⟩
 |first h1 h2=>
  subst h1 h2;rcases hb with e|e
  ·exact .inl ⟨e,rfl⟩
  ·exact .inr (lexLt (rK hq) (OJ e))
 |up h1 hl hc|FQ h1 hl hc=>exact .inr (lexLt (rK hq) (xN hp (tP hb) hl))
 |under h1 hl hc hq'=>
  rcases hq' with e|e
  ·subst e;rcases hb with e2|e2
   ·exact .inl ⟨rfl,e2⟩
   ·exact .inr (Ag rfl (OJ e2))
  ·exact .inr (Ag rfl (xN hq (tP hb) e))
def CE{m m':af}(he:iK m m')(h1:m'.aP=m.aP)(h2:m'.ab=m.ab)(h3:m'.ao=m.ao)(h4:m'.az=m.az)(h5:m'.aw=m.aw)(h6:m'.aY=m.aY)(h7:m'.bq=m.bq):m'=m:=by
 obtain⟨e1,e2,e3,e4,e5,e6⟩:=he;cases m;cases m';simp only at*;subst e1 e2 e3 e4 e5 e6 h1 h2 h3 h4 h5 h6 h7;rfl
def ZJ{m m':af}(he:iK m m')(h:Dz m m'=true):m'=m:=by
 unfold Dz at h;simp only[Qm,Qi,Pe]at h;obtain⟨⟨⟨⟨⟨⟨h1,h2⟩,h3⟩,h4⟩,h5⟩,h6⟩,h7⟩:=h;exact CE he h1.symm h2.symm h3.symm h4.symm h5.symm h6.symm h7.symm
def ye(m:af):Dz m m=true:=by
 unfold Dz;simp only[decide_true,Pe.2 rfl,Bool.and_self]
def afM{m m':af}(h:Ae m)(hlt:pq m<pq m'):r1 m<r1 m':=lexLt (V1 h) (lexLt (rK (tP h.2.2.1)) hlt)
def ag5{m m':af}(h:Ae m)(hpq:pq m=pq m')(hlt:n5 m.aw<n5 m'.aw):r1 m<r1 m':=lexLt (V1 h) (Ag hpq hlt)
def ag4{m m':af}(hpq:pq m=pq m')(hc:m.aw=m'.aw)(hlt:t1 m<t1 m'):r1 m<r1 m':=Ag (by rw[hpq,hc]) hlt
def Ml{m:af}(h1:P1 m):sz m m.ao m.az=m.aY:=by
 unfold sz;split
 ·rename_i hc;rcases h1.low with e|⟨g1,g2,g3⟩
  ·exact absurd e hc.2
  ·rw[YC g1 g3,Qs (by omega)]
 ·rfl
def agT{m:af}(h:br m):cW m=m\/jQ m<jQ (cW m):=by
 have hid:m.aP=3\/aM m.ab=true->cW m=m:=λhc=>Qr hc
 rcases h.body with h0|h1|h2|h3
 ·exact .inl (hid (.inr (by rw[h0.aZ];exact bU)))
 ·have hj:=(I2 h h1.gL).up_ h1.gL (yL h);have he:cW m={m with ao:=(dj m.ao m.az (eo (eS m))).1,az:=(dj m.ao m.az (eo (eS m))).2,aY:=sz m (dj m.ao m.az (eo (eS m))).1 (dj m.ao m.az (eo (eS m))).2}:=Qs (by rw[h1.aW,h1.aZ.nz];decide)
  rcases hj with⟨e1,e2⟩|hlt
  ·left;rw[he,e1,e2,Ml h1]
  ·right;rw[yi h1.aW,yi (by rw[he];exact h1.aW)]
   exact afM h1.ok (by rw[he];exact hlt)
 ·have hj:=(I2 h h2.gL).up_ h2.gL (yL h);have hk:=U7 h h2;have he:cW m={m with ao:=(dj m.ao m.az (eo (eS m))).1,az:=(dj m.ao m.az (eo (eS m))).2,aY:=sz m (dj m.ao m.az (eo (eS m))).1 (dj m.ao m.az (eo (eS m))).2}:=Qs (by rw[h2.aW,h2.aZ.nz];decide)
  have hlow:∀p q,sz m p q=m.aY:=λp q=>Qs (λh=>by have:=h.1;rw[h2.aW]at this;cases this)
  rcases hj with⟨e1,e2⟩|hlt
  ·left;rw[he,e1,e2,hlow]
  ·right;rw[yh h2.aW,yh (by rw[he];exact h2.aW)]
   have e2:(dj m.ao m.az (eo (eS m))).2=m.az:=by
    have h3:=hk.2.2;rw[he]at h3;exact h3.trans h2.bW.symm
   have hp:n5 m.ao<n5 (cW m).ao:=by
    rw[he];simp only;rw[e2]at hlt;refine Nat.lt_of_not_le λhle=> ?_
    have:=Qq63 WB hle;omega
   have e3:(cW m).bq=m.bq/\(cW m).aY=m.aY/\(cW m).aw=m.aw/\(cW m).ab=m.ab:=by rw[he];exact⟨rfl,hlow _ _,rfl,rfl⟩
   have:r2 m<r2 (cW m):=by
    unfold r2;rw[e3.1,e3.2.1,e3.2.2.1,e3.2.2.2];exact lexLt (by have:=h2.aZ.2.1;omega) (lexLt (rK (tP h2.ok.2.2.1)) (Ag rfl hp))
   omega
 ·exact .inl (hid (.inl h3.aW))
def agS{m:af}(h:br m):gl m=m\/jQ m<jQ (gl m):=by
 rcases h.body with h0|h1|h2|h3
 ·exact .inl (ur (.inr (.inl (by rw[h0.aZ];exact bU))))
 ·obtain⟨g1,g2⟩:=Od h h1;rcases g2 with e|⟨e1,e2,e3,_⟩
  ·exact .inl e
  ·right;rw[yi h1.aW,yi g1.aW];exact ag5 h1.ok (by unfold pq;rw[e1,e2]) (xN (tP h1.ok.2.2.1) (tP g1.ok.2.2.1) e3)
 ·exact .inl (ur (.inl (by rw[h2.aW];decide)))
 ·exact .inl (ur (.inl (by rw[h3.aW];decide)))
def ME(a b:Int):(bD a b=a/\b<=a)\/(bD a b=b/\a<b):=by unfold bD;split<;>omega
def n9{a b:ae}(h1:a.ai=b.ai)(h2:a.Value=b.Value):a=b:=by cases a;cases b;simp only at h1 h2;rw[h1,h2]
def agW{m:af}(h:br m):fP m=m\/jQ m<jQ (fP m):=by
 have hC:m.aP=1->Ae m->fP m=m\/jQ m<jQ (fP m):=by
  intro hp hok
  by_cases hk:(fM m).2.2.2.1=true
  ·right;have e:fP m=Lr m (fM m).1 (fM m).2.1 (fM m).2.2.1:=by unfold fP;rw[Qr hp,Qr hk]
   rw[yi hp,yh (by rw[e];rfl)]
   have:=Wq hok;omega
  ·left;unfold fP;rw[Qr hp,Qs hk]
 rcases h.body with h0|h1|h2|h3
 ·exact hC h0.aW h0.ok
 ·exact hC h1.aW h1.ok
 ·have e:fP m=AM m (eO m).1 (eO m).2:=by unfold fP;rw[Qs (by rw[h2.aW];decide),Qr h2.aW]
  obtain⟨g1,g2,g3,g4⟩:=Tm h h2;have h2':=Xc h2 g1 g2 g3;rw[e]
  have hr:m.bq.toNat<=1000/\(1000 - m.aY).toNat<1001/\m.ab.ai.toNat<1001:=by
   have:=h2.cg;have:=h2.range;have:=h2.aZ.2.1;omega
  have hcB:m.aw=(AM m (eO m).1 (eO m).2).aw\/n5 m.aw<n5 (AM m (eO m).1 (eO m).2).aw:=by
   rcases h2.dX with e|⟨hf,hv⟩
   ·right;rw[e]
    exact OJ (h2'.dX.resolve_left (λe=>by
     have h1:=h2'.range;have h3:(AM m (eO m).1 (eO m).2).aw.ai=bD m.aw.ai (eO m).2:=rfl;rw[e]at h3;have h4:=ME m.aw.ai (eO m).2;have h5:(bZ:ae).ai=0:=rfl
     omega)).1
   ·rcases ME m.aw.ai (eO m).2 with⟨e1,_⟩|⟨e1,e2⟩
    ·exact .inl (n9 e1.symm hv)
    ·right;refine xN hf.sm (tP h2'.ok.2.2.1) ((xM _ _).2 (.inl ?_));show m.aw.ai<bD m.aw.ai (eO m).2;omega
  have hpB:m.ao=(AM m (eO m).1 (eO m).2).ao\/n5 m.ao<n5 (AM m (eO m).1 (eO m).2).ao:=by
   rcases ME m.ao.ai (eO m).2 with⟨e1,_⟩|⟨e1,e2⟩
   ·exact .inl (n9 e1.symm rfl)
   ·right;refine xN h2.dx.1.sm h2'.dx.1.sm ((xM _ _).2 (.inl ?_));show m.ao.ai<bD m.ao.ai (eO m).2;omega
  have hbB:m.ab=(AM m (eO m).1 (eO m).2).ab\/m.ab.ai<(AM m (eO m).1 (eO m).2).ab.ai:=by
   rcases ME m.ab.ai (eO m).2 with⟨e1,_⟩|⟨e1,e2⟩
   ·exact .inl (n9 e1.symm rfl)
   ·right;show m.ab.ai<bD m.ab.ai (eO m).2;omega
  rw[yh h2.aW,yh h2'.aW];have hPs:=rK h2.dx.1.sm;have hCs:=rK (tP h2.ok.2.2.1);have hHi:(AM m (eO m).1 (eO m).2).bq=(eO m).2:=rfl;have hLo:(AM m (eO m).1 (eO m).2).aY=(eO m).1:=rfl;have fin:r2 m<r2 (AM m (eO m).1 (eO m).2)->K1+r2 m<K1+r2 (AM m (eO m).1 (eO m).2):=λh=>by omega
  have hrng:=h2.range;rcases g4 with⟨e1,e2⟩|e1
  ·rcases Int.lt_or_eq_of_le e2 with e3|e3
   ·
    refine .inr (fin (lexLt hr.2.2 (lexLt hCs (lexLt hPs (Ag ?_ ?_)))))
    ·rw[hHi,e1]
    ·rw[hLo];omega
   ·rcases hpB with hp|hp
    ·rcases hcB with hc|hc
     ·rcases hbB with hb|hb
      ·left;exact CE ⟨rfl,rfl,rfl,rfl,rfl,rfl⟩ rfl hb.symm hp.symm rfl hc.symm e3 e1
      ·refine .inr (fin (Ag ?_ (by have:=h2.aZ.1;omega)))
       rw[hHi,hLo,<-hp,<-hc,e1,e3]
     ·refine .inr (fin (lexLt hr.2.2 (Ag ?_ hc)));rw[hHi,hLo,<-hp,e1,e3]
    ·refine .inr (fin (lexLt hr.2.2 (lexLt hCs (Ag ?_ hp))));rw[hHi,hLo,e1,e3]
  ·refine .inr (fin (lexLt hr.2.2 (lexLt hCs (lexLt hPs (lexLt hr.2.1 ?_)))));rw[hHi];omega
 ·left;unfold fP;rw[Qs (by rw[h3.aW];decide),Qs (by rw[h3.aW];decide)]
def agV{m:af}(h:br m):iL m=m\/jQ m<jQ (iL m):=by
 by_cases hc:m.aP=2/\(n4 m).2.2.1=true
 ·right;have e:iL m=No m (n4 m).1 (n4 m).2.1:=Qr hc;rw[yh hc.1,X2 (by rw[e];rfl)]
  rcases h.body with h0|h1|h2|h3
  ·have:=h0.aW;have:=hc.1;omega
  ·have:=h1.aW;have:=hc.1;omega
  ·have:=abt h2;omega
  ·have:=h3.aW;have:=hc.1;omega
 ·exact .inl (Qs hc)
def agU{m:af}(h:br m):fK m=m\/jQ m<jQ (fK m):=by
 have hid:m.aP=3\/iS m m.ab.ai=false->fK m=m:=λhc=>Qr hc
 cases ha:iS m m.ab.ai with
 |false=>exact .inl (hid (.inr ha))
 |true=>
  have hC:m.aP=1->Ae m->0<=m.ab.ai/\m.ab.ai<=1000->fK m=m\/jQ m<jQ (fK m):=by
   intro hp hok hb;obtain⟨c1,c2,c3,c4,_⟩:=Ix h hb;have e:fK m={m with aY:=if nm m=m.ab.Value then m.aY else 0,ab:=⟨bD m.ab.ai (dJ (hY m) 1000),nm m⟩}:=Qs (by rw[hp,ha];decide)
   have hnv:nm (fK m)=nm m:=by
    unfold nm eI;rw[e];simp only[hp,Qt,not_true_eq_false,Qu,ne_eq]
   by_cases hs:bD m.ab.ai (dJ (hY m) 1000)=m.ab.ai/\nm m=m.ab.Value
   ·left;rw[e];refine CE ⟨rfl,rfl,rfl,rfl,rfl,rfl⟩ rfl (n9 hs.1 hs.2) rfl rfl rfl ?_ rfl;exact Qr hs.2
   ·right;rw[yi hp,yi (by rw[e];exact hp)]
    refine ag4 (by rw[e];rfl) (by rw[e]) ?_
    unfold t1;rw[hnv];have hb':(fK m).ab=⟨bD m.ab.ai (dJ (hY m) 1000),nm m⟩:=by rw[e]
    rw[hb',Qr rfl];simp only
    by_cases hv:nm m=m.ab.Value
    ·rw[Qr hv.symm];have:bD m.ab.ai (dJ (hY m) 1000)≠m.ab.ai:=λe=>hs ⟨e,hv⟩
     omega
    ·rw[Qs (λe=>hv e.symm)]
     omega
  rcases h.body with h0|h1|h2|h3
  ·exact hC h0.aW h0.ok (by rw[h0.aZ];decide)
  ·exact hC h1.aW h1.ok ⟨by have:=h1.aZ.1;omega,h1.aZ.2.1⟩
  ·obtain⟨c1,c2,c3,c4,_⟩:=Ix h ⟨by have:=h2.aZ.1;omega,h2.aZ.2.1⟩
   have hnv:nm m=m.ab.Value:=Qs (by rw[h2.aW];decide)
   have e:fK m={m with ab:=⟨bD m.ab.ai (dJ (hY m) 1000),m.ab.Value⟩}:=by
    unfold fK;rw[Qs (by rw[h2.aW,ha];decide),hnv,Qr rfl]
   rw[e]
   by_cases hs:bD m.ab.ai (dJ (hY m) 1000)=m.ab.ai
   ·left;exact CE ⟨rfl,rfl,rfl,rfl,rfl,rfl⟩ rfl (n9 hs rfl) rfl rfl rfl rfl rfl
   ·right;rw[yh h2.aW,yh (show({m with ab:=⟨bD m.ab.ai (dJ (hY m) 1000),m.ab.Value⟩}:af).aP=2 from h2.aW)]
    have:r2 m<r2 {m with ab:=⟨bD m.ab.ai (dJ (hY m) 1000),m.ab.Value⟩}:=by
     refine Ag rfl ?_;have:=h2.aZ.1;show m.ab.ai.toNat<(bD m.ab.ai (dJ (hY m) 1000)).toNat;omega
    omega
  ·exact .inl (hid (.inl h3.aW))
end
section
def agm(p:aj->Bool):Prop:=∀e s,p {e with aG:=s}=p e
structure Alike (l l':List aj):Prop where
 view:∀aD,aD<10->∀t,jZ aD t l=jZ aD t l'
 UO:∀p,agm p->eZ p (cO l)=eZ p (cO l')
 bal:fe l=fe l'
 val:gr l=gr l'
 jc:∀v,bs l v=bs l' v
section
variable {l l' : List aj} (h : Alike l l')
 include h
theorem Alike.acc{aD:Nat}(hn:aD<10)(t:ak):oo aD t l=oo aD t l':=by
 funext b
 unfold oo;rw[h.view aD hn t,h.UO _ (λe s=>rfl),h.UO _ (λe s=>rfl)]
theorem Alike.dX{aD:Nat}(hn:aD<10)(t:ak):my aD t l=my aD t l':=by
 funext b
 unfold my;rw[h.view aD hn t,h.UO _ (λe s=>rfl)]
theorem Alike.ready{aD:Nat}(hn:aD<10)(t:ak):mD aD t l=mD aD t l':=by
 funext v lo hi
 unfold mD;rw[h.view aD hn t,h.UO _ (λe s=>rfl),h.UO _ (λe s=>rfl)]
theorem Alike.sure{aD:Nat}(hn:aD<10)(t:ak):uN aD t l=uN aD t l':=by
 funext v lo hi
 unfold uN;rw[h.view aD hn t,h.UO _ (λe s=>rfl)]
theorem Alike.next{aD:Nat}(hn:aD<10)(t:ak)(p q:ae)(v:ByteArray):jD aD t l p q v=jD aD t l' p q v:=by
 unfold jD;rw[h.bal,h.acc hn t]
theorem Alike.cg{aD:Nat}(hn:aD<10)(t:ak)(a:ae):yG aD t l a=yG aD t l' a:=by
 unfold yG;rw[h.bal,h.dX hn t]
theorem Alike.Ev(x:ByteArray->Int->Int->Bool)(p q:ae):gS x l p q=gS x l' p q:=by
 unfold gS;rw[h.val];congr 1
 funext s v
 rw[h.jc]
theorem Alike.first(x:ByteArray->Int->Int->Bool)(p q:ae)(s:Bool×ae):qk x l p q s=qk x l' p q s:=by
 unfold qk;rw[h.jc]
end
def NH{l l':List aj}(hl:sv l)(hn:l.length<=1000)(hl':sv l')(hn':l'.length<=1000)
  (h1:∀x,(∃e∈l,x∈said e/\aM x=false)↔∃e∈l',x∈said e/\aM x=false) (h2:∀x,(∃e∈l,bc e=true/\x=e.ab.Value)↔∃e∈l',bc e=true/\x=e.ab.Value)
  (h3:∀v x,x∈ends v l↔x∈ends v l'):fe l=fe l'/\gr l=gr l'/\∀v,bs l v=bs l' v:=by
 obtain⟨_,a2,_,a4⟩:=ot hl.aO hn;obtain⟨_,b2,_,b4⟩:=ot hl'.aO hn';obtain⟨_,c2,_,c4⟩:=vi hl.aO hn;obtain⟨_,d2,_,d4⟩:=vi hl'.aO hn';refine⟨Du.flip.unique a2 b2 λx=> ?_,jd.unique c2 d2 λx=> ?_,λv=> ?_⟩
 ·rw[a4,b4];exact h1 x
 ·rw[c4,d4];exact h2 x
 ·obtain⟨_,e2,_,e4⟩:=jk hl.aO hn v;obtain⟨_,f2,_,f4⟩:=jk hl'.aO hn' v;refine IX.unique (e2.imp λh=>Qg h) (f2.imp λh=>Qg h) λx=> ?_
  rw[e4,f4];exact h3 v x
def XA{l l':List aj}(hl:sv l)(hn:l.length<=1000)(ha:Ao l)(h:l.Perm l'):Alike l l':=by
 have hl':sv l':=⟨by rw[<-h.length_eq];exact hl.len,λe he=>hl.aO e (h.mem_iff.2 he)⟩
 have hm:∀(P:aj->Prop),(∃e∈l,P e)↔∃e∈l',P e:=λP=>⟨λ⟨e,he,hp⟩=>⟨e,h.mem_iff.1 he,hp⟩,λ⟨e,he,hp⟩=>⟨e,h.mem_iff.2 he,hp⟩⟩
 obtain⟨a,b,c⟩:=NH hl hn hl' (by rw[<-h.length_eq];exact hn) (λx=>hm _) (λx=>hm _) (λv x=>by rw[CD,CD];exact hm _)
 exact⟨λaD hn t=>VW hn t ha h,λp _=>XO (Um h) p,a,b,c⟩
def Zm{l:List aj}(hl:sv l)(hn:l.length<=1000)(f:aj->aj)(hf:∀e∈l,f e={e with aG:=(f e).aG}/\bc (f e)=bc e):Alike l (l.map f):=by
 have e1:∀e∈l,(f e).al=e.al/\(f e).aa=e.aa/\(f e).ab=e.ab/\(f e).bC=e.bC/\(f e).ao=e.ao/\(f e).az=e.az/\(f e).aY=e.aY/\(f e).bq=e.bq:=λe he=>by
  have:=(hf e he).1;rw[this];exact⟨rfl,rfl,rfl,rfl,rfl,rfl,rfl,rfl⟩
 have hl':sv (l.map f):=⟨by rw[QC];exact hl.len,λe he=>by
  obtain⟨x,hx,rfl⟩:=QP.1 he
  rw[(e1 x hx).2.1];exact hl.aO x hx⟩
 have hm:∀(P:aj->Prop),(∀e∈l,P e↔P (f e))->((∃e∈l,P e)↔∃e∈l.map f,P e):=λP hP=>⟨λ⟨e,he,hp⟩=>⟨f e,QP.2 ⟨e,he,rfl⟩,(hP e he).1 hp⟩,λ⟨e,he,hp⟩=>by
  obtain⟨x,hx,rfl⟩:=QP.1 he
  exact⟨x,hx,(hP x hx).2 hp⟩⟩
 have hsaid:∀e∈l,said (f e)=said e:=λe he=>by
  obtain⟨g1,g2,g3,g4,g5,g6,g7,g8⟩:=e1 e he;unfold said at_
  rw[(hf e he).2,g4,g3,g5,g6]
 have hbnd:∀v,∀e∈l,jF v (f e)=jF v e:=λv e he=>by
  obtain⟨g1,g2,g3,g4,g5,g6,g7,g8⟩:=e1 e he;unfold jF;simp only[(hf e he).2,g3,g7]
 obtain⟨a,b,c⟩:=NH hl hn hl' (by rw[QC];exact hn) (λx=>hm _ λe he=>by rw[hsaid e he]) (λx=>hm _ λe he=>by rw[(hf e he).2,(e1 e he).2.2.1])
  (λv x=>by rw[CD,CD];exact hm _ λe he=>by rw[hbnd v e he,(e1 e he).2.2.2.2.2.2.1,(e1 e he).2.2.2.2.2.2.2])
 refine⟨λaD hn t=> ?_,λp hp=> ?_,a,b,c⟩
 ·unfold jZ;generalize (List.replicate 10 iQ).set aD ⟨true,t⟩=ms
  suffices key:∀(k:List aj) (ms:List bf),(∀e∈k,e∈l)->k.foldl fu ms=(k.map f).foldl fu ms from key l ms λe he=>he
  intro k
  induction k with
  |nil=>intro ms _;rfl
  |cons x k ih=>
   intro ms hk;have hx:=hk x Qx
   have:fu ms (f x)=fu ms x:=by
    unfold fu;rw[(hf x hx).2,(e1 x hx).1,(e1 x hx).2.1]
   rw[QD,QU,QU,this];exact ih _ λe he=>hk e (Qy _ he)
 ·unfold cO
  suffices key:∀(k:List aj),(∀e∈k,e∈l)->eZ p (k.filter bc)=eZ p ((k.map f).filter bc)from key l λe he=>he
  intro k
  induction k with
  |nil=>intro _;rfl
  |cons x k ih=>
   intro hk;have hx:=hk x Qx
   have hpx:p (f x)=p x:=by
    rw[(hf x hx).1];exact hp x _
   rw[QD,List.filter_cons,List.filter_cons,(hf x hx).2];split
   ·rw[eZ,eZ,hpx,(e1 x hx).1,ih λe he=>hk e (Qy _ he)]
   ·exact ih λe he=>hk e (Qy _ he)
structure fL (m:af):Prop where
 zero:aM m.ab=true->m.aG=0
 pos:aM m.ab=false->1<=m.aG
def HR(m:af):aj:=⟨m.al,m.aK,m.aG,m.aa,m.aP,m.ab,m.ao,m.az,m.aY,if m.aP=1 then ft m else m.bq⟩
def DG(m:af):eB m=some (HR m):=by
 unfold eB HR ft;simp only[aQ,etas,df,fN,Qa]
 by_cases h1:m.aP=1
 ·rw[Qg h1,Qr h1];cases aM m.aw<;>cases bQ m.aw m.ab<;>rfl
 ·rw[Qh h1,Qs h1];rfl
def I5{m:af}(h:br m):HR m=dR m:=by
 unfold HR dR;rcases h.body with h0|h1|h2|h3
 ·rw[Qr h0.aW,Qr h0.aW]
 ·rw[Qr h1.aW,Qr h1.aW]
 ·rw[Qs (by rw[h2.aW];decide),Qs (by rw[h2.aW];decide),Qr h2.aW,h2.bW]
 ·rw[Qs (by rw[h3.aW];decide),Qs (by rw[h3.aW];decide),Qs (by rw[h3.aW];decide),h3.bW,h3.dx]
def Vf{m:af}(hs:fL m)(hz:aM m.ab=false):iP m=dR m:=by
 unfold iP
 have:bD (dR m).aG 1=(dR m).aG:=by
  have:=hs.pos hz;rw[Tn];unfold bD;split<;>omega
 rw[this]
def vp(m:af):List aj:=if aM m.ab=true then m.ar else m.ar++[HR m]
def Zc{l:List aj}(hl:l.length<=1000):fh l=some l:=by
 unfold fh;have h1:bl 176 (List.length ([]:List aj)+List.length l)=true:=bK (by simp;omega)
 rw[h1]
 cases l with
 |nil=>simp
 |cons x l=>rfl
def HP{m:af}(h:m.ar.length<=100):dm ⟨m⟩=some (vp m,⟨m⟩):=by
 unfold dm vp;simp only[etas,df,DG,Qa,Zc (show m.ar.length<=1000 by omega)]
 cases aM m.ab with
 |true=>rfl
 |false=>
  simp only[Ql,Qq,Qu];rw[bK (by simp;omega)]
  rfl
def br.apart{m:af}(h:br m):Ao (bN m):=by
 have hs:∀a∈m.ar,∀b∈m.ar,a.al=b.al->a=b:=by
  have:=h.dn;revert this;generalize m.ar=l;intro hp
  induction l with
  |nil=>intro a ha;cases ha
  |cons x l ih=>
   rw[Q4]at hp;intro a ha b hb e;rcases QA.1 ha with ha'|ha'<;>rcases QA.1 hb with hb'|hb'
   ·rw[ha',hb']
   ·have:=hp.1 b hb';rw[ha']at e;omega
   ·have:=hp.1 a ha';rw[hb']at e;omega
   ·exact ih hp.2 a ha' b hb' e
 intro a ha b hb e;rcases C8 ha with ha|⟨_,rfl⟩<;>rcases C8 hb with hb|⟨_,rfl⟩
 ·exact hs a ha b hb e
 ·exact absurd (e.trans (xQ m)) (h.hv a ha).2.2.2
 ·exact absurd (e.symm.trans (xQ m)) (h.hv b hb).2.2.2
 ·rfl
def Pw{m:af}(h:br m)(hs:fL m):(bN m).Perm (vp m):=by
 unfold bN vp;split
 ·exact .refl _
 ·rename_i hz;rw[I5 h,<-Vf hs (by simpa using hz)]
  exact DM _ _
def mg{m:af}(h:br m)(hs:fL m):Alike (bN m) (vp m):=XA h.ev.tO.1 h.ev.tO.2 h.apart (Pw h hs)
def sx{m:af}(h:br m)(hs:fL m):sv (vp m)/\(vp m).length<=1000:=by
 have hp:=Pw h hs;have:=h.ev.tO;exact⟨⟨by rw[<-hp.length_eq];exact this.1.len,λe he=>this.1.aO e (hp.mem_iff.2 he)⟩,by rw[<-hp.length_eq];exact this.2⟩
section
variable {m : af} (h : br m) (hs : fL m)
 include h hs
theorem aev(p q:ae)(v:ByteArray):oD m.al m.aa (vp m) p q v=some (jD m.al.toNat m.aa (bN m) p q v):=by
 have:=acI h.ev.aD.2 h.ev.aO (sx h hs).1 (sx h hs).2 p q v
 rwa [h.ev.aD.1,<-(mg h hs).next h.ev.aD.2]at this
theorem aey(a:ae):lz m.al m.aa (vp m) a=some (yG m.al.toNat m.aa (bN m) a):=by
 have:=acJ h.ev.aD.2 h.ev.aO (sx h hs).1 (sx h hs).2 a
 rwa [h.ev.aD.1,<-(mg h hs).cg h.ev.aD.2]at this
theorem acK:si m.al m.aa (vp m) m.ao m.az=some (fM m):=by
 have hl:=sx h hs;have:=afp (Sd h.ev.aD.2 h.ev.aO hl.1) hl.1 hl.2 (look_eq h.ev.aD.2 h.ev.aO hl.1) m.ao m.az;rw[h.ev.aD.1,<-(mg h hs).ready h.ev.aD.2,<-(mg h hs).Ev,<-(mg h hs).first]at this
 exact this
theorem afS:qH m.al m.aa (vp m) m.ab.Value m.aY m.bq=some ((eO m).1,(eO m).2,()):=by
 have hl:=sx h hs;have:=ad2 (Sd h.ev.aD.2 h.ev.aO hl.1) hl.1 hl.2 (look_eq h.ev.aD.2 h.ev.aO hl.1) m.ab.Value m.aY m.bq;rw[h.ev.aD.1,<-(mg h hs).ready h.ev.aD.2,<-(mg h hs).jc]at this;exact this
theorem afR:sj m.al m.aa (vp m) m.ab.Value=some (n4 m):=by
 have hl:=sx h hs;have:=afq (ab9 h.ev.aD.2 h.ev.aO hl.1) hl.1 hl.2 (look_eq h.ev.aD.2 h.ev.aO hl.1) m.ab.Value;rw[h.ev.aD.1,<-(mg h hs).sure h.ev.aD.2,<-(mg h hs).jc]at this;exact this
end
def Pm(v:ByteArray)(n:Int)(p q:ae):py v n p q=some (kT v n p q):=by
 unfold py kT;generalize bD n 1=k
 have hst:∀(i:Nat) (x:ae) (k:Int),i<2->[p,q][i]?=some x->
   (λ(v1:Int×Int×Unit)=>
    bif (decide (v1.2.1<((List.length [p,q]:Nat):Int)))then
    bb (λ(v2:Int×Unit)=>some (Sum.inl (v2.1,(aA .i64 v1.2.1 (1:Int)),()))) λj3=>
    Option.bind (idx [p,q] v1.2.1) λx4=>
    Option.bind (iF x4) λr5=>
    Option.bind (bif (!r5)then some true else Option.bind (eu x4 (ae.mk v1.1 v)) λr6=>some (!r6)) λb7=>
    bif b7 then j3 (v1.1,())
    else Option.bind (eu x4 (ae.mk x4.ai v)) λr8=>
     bif r8 then j3 ((aA .i64 x4.ai (1:Int)),())else j3 (x4.ai,())
    else(Option.map Sum.inr (some v1.1):Option ((Int×Int×Unit)⊕Int))) (k,(i:Int),())=some (Sum.inl (wV v k x,((i+1:Nat):Int),())):=by
  intro i x k hi hx;have hd:decide ((i:Int)<((List.length [p,q]:Nat):Int))=true:=Qg (by simp;omega)
  have hw:aA .i64 (i:Int) 1=((i+1:Nat):Int):=bH (by omega) (by omega)
  have hx':idx [p,q] (i:Int)=some x:=by rw[bg];exact hx
  simp only[hd,hw,hx',Qk,aQ,Qa,AY,tM];unfold wV
  cases hv:cD x with
  |false=>simp
  |true=>
   have hc:aA .i64 x.ai 1=x.ai+1:=by
    have:1<=x.ai/\x.ai<=1000000:=by
     simp only[cD,Qm,Qn,Qi]at hv;omega
    exact bH (by omega) (by omega)
   cases h1:eJ x ⟨k,v⟩with
   |false=>simp
   |true=>cases h2:eJ x ⟨x.ai,v⟩<;>simp[hc]
 refine(bw (hst 0 p k (by omega) rfl)).trans ((bw (hst 1 q _ (by omega) rfl)).trans (bM ?_))
 rfl
def aam(b:ae):(⟨dJ b.ai 1000,b.Value⟩:ae)=eo b:=by
 unfold dJ eo;split<;>rfl
section
variable {m : af} (h : br m) (hs : fL m)
 include h
theorem WA(hz:aM (eS m)=true):cW m=m:=by
 have hid:m.aP=3\/aM m.ab=true->cW m=m:=λhc=>Qr hc
 have hj:dj m.ao m.az (eo (eS m))=(m.ao,m.az):=by
  have:eo (eS m)=bZ:=by rw[xG.1 hz];decide
  rw[this];exact Qr bU
 have he:¬(m.aP=3\/aM m.ab=true)->sz m m.ao m.az=m.aY->cW m=m:=by
  intro hc hl;unfold cW;rw[Qs hc,hj];simp only;rw[hl]
 rcases h.body with h0|h1|h2|h3
 ·exact hid (.inr (by rw[h0.aZ];exact bU))
 ·exact he (by rw[h1.aW,h1.aZ.nz];decide) (Ml h1)
 ·exact he (by rw[h2.aW,h2.aZ.nz];decide) (Qs (λh=>by have:=h.1;rw[h2.aW]at this;cases this))
 ·exact hid (.inl h3.aW)
 include hs
theorem Wy:kR ⟨m⟩=some ((),⟨cW m⟩):=by
 have hl:m.ar.length<=100:=by have:=h.len;omega
 unfold kR;simp only[etas,df,HP hl,aev h hs,acz,Pm,DG,Qa,aQ,aam]
 by_cases h3:m.aP=3\/aM m.ab=true
 ·have e:cW m=m:=Qr h3;rw[e];rcases h3 with h3|h3
  ·rw[Qg h3];cases aM m.ab<;>rfl
  ·rw[h3];rfl
 ·have hz:aM m.ab=false:=by
   cases hz:aM m.ab with
   |true=>exact absurd (.inr hz) h3
   |false=>rfl
  have h3':¬m.aP=3:=λe=>h3 (.inl e)
  rw[hz,Qh h3'];simp only[Ql,Qa]
  have hmain:∀v:ByteArray,v=Hl m->(bif aM (jD m.al.toNat m.aa (bN m) m.ao m.az v)then some ((),(⟨m⟩:aJ))else
    Option.bind (bif decide (m.aP=1)then some (!decide (m.aY=0))else some false) λb9=>
    bif b9 then
     bif decide ((HR ⟨m.al,m.aK,m.aG,m.aa,m.aP,m.ab,(dj m.ao m.az (eo (jD m.al.toNat m.aa (bN m) m.ao m.az v))).1,(dj m.ao m.az (eo (jD m.al.toNat m.aa (bN m) m.ao m.az v))).2,m.aw,kT m.ab.Value m.aY (dj m.ao m.az (eo (jD m.al.toNat m.aa (bN m) m.ao m.az v))).1 (dj m.ao m.az (eo (jD m.al.toNat m.aa (bN m) m.ao m.az v))).2,m.bq,m.bh,m.ar⟩).bq<kT m.ab.Value m.aY (dj m.ao m.az (eo (jD m.al.toNat m.aa (bN m) m.ao m.az v))).1 (dj m.ao m.az (eo (jD m.al.toNat m.aa (bN m) m.ao m.az v))).2)then
      some ((),(⟨⟨m.al,m.aK,m.aG,m.aa,m.aP,m.ab,(dj m.ao m.az (eo (jD m.al.toNat m.aa (bN m) m.ao m.az v))).1,(dj m.ao m.az (eo (jD m.al.toNat m.aa (bN m) m.ao m.az v))).2,m.aw,0,m.bq,m.bh,m.ar⟩⟩:aJ))
     else some ((),(⟨⟨m.al,m.aK,m.aG,m.aa,m.aP,m.ab,(dj m.ao m.az (eo (jD m.al.toNat m.aa (bN m) m.ao m.az v))).1,(dj m.ao m.az (eo (jD m.al.toNat m.aa (bN m) m.ao m.az v))).2,m.aw,kT m.ab.Value m.aY (dj m.ao m.az (eo (jD m.al.toNat m.aa (bN m) m.ao m.az v))).1 (dj m.ao m.az (eo (jD m.al.toNat m.aa (bN m) m.ao m.az v))).2,m.bq,m.bh,m.ar⟩⟩:aJ))
    else some ((),(⟨⟨m.al,m.aK,m.aG,m.aa,m.aP,m.ab,(dj m.ao m.az (eo (jD m.al.toNat m.aa (bN m) m.ao m.az v))).1,(dj m.ao m.az (eo (jD m.al.toNat m.aa (bN m) m.ao m.az v))).2,m.aw,m.aY,m.bq,m.bh,m.ar⟩⟩:aJ)))=some ((),(⟨cW m⟩:aJ)):=by
   intro v hv;subst hv;rw[show jD m.al.toNat m.aa (bN m) m.ao m.az (Hl m)=eS m from rfl]
   cases hzn:aM (eS m)with
   |true=>rw[WA h hzn];rfl
   |false=>
    simp only[Ql];have e:cW m={m with ao:=(dj m.ao m.az (eo (eS m))).1,az:=(dj m.ao m.az (eo (eS m))).2,aY:=sz m (dj m.ao m.az (eo (eS m))).1 (dj m.ao m.az (eo (eS m))).2}:=Qs h3
    rw[e];unfold sz
    by_cases hc:m.aP=1/\m.aY≠0
    ·rw[Qg hc.1,Qh hc.2,Qr hc];simp only[Qk,Qa,Qp];have hh:∀(p q:ae) (L:Int),(HR {m with ao:=p,az:=q,aY:=L}).bq=ft m:=λp q L=>by unfold HR;exact Qr hc.1
     rw[hh];split
     ·rename_i hlt;rw[Qg hlt];rfl
     ·rename_i hlt;rw[Qh hlt];rfl
    ·rw[Qs hc]
     by_cases h1:m.aP=1
     ·rw[Qg h1,Qg (show m.aY=0 from Classical.byContradiction λhn=>hc ⟨h1,hn⟩)];rfl
     ·rw[Qh h1];rfl
  by_cases h2:m.aP=2
  ·rw[Qg h2];exact hmain _ (Qr h2).symm
  ·rw[Qh h2];exact hmain _ (Qs h2).symm
end
def XV(m:af)(b:ae):kJ ⟨m⟩ b=some ((),⟨{m with aY:=bif bQ m.ab b then m.aY else 0,ab:=b}⟩):=by
 unfold kJ;simp only[etas,fN,Qa,aQ];cases bQ m.ab b<;>rfl
def KF(m:af)(b:ae){α:Type}(j:af->Option α):
  (bif decide (m.aY=(0:Int))then(bif bQ m.ab b then(bif decide (kT b.Value m.ab.ai m.ao m.az<=b.ai)then j {m with aY:=kT b.Value m.ab.ai m.ao m.az}else j m)else j m)else(bif false then(bif decide (kT b.Value m.ab.ai m.ao m.az<=b.ai)then j {m with aY:=kT b.Value m.ab.ai m.ao m.az}else j m)else j m))=j (pX m b):=by
 unfold pX
 by_cases hL:m.aY=0
 ·rw[Qg hL]
  cases hc:bQ m.ab b with
  |true=>
   by_cases hle:kT b.Value m.ab.ai m.ao m.az<=b.ai
   ·rw[Qr ⟨hL,rfl,hle⟩,Qg hle];rfl
   ·rw[Qs (λh=>hle h.2.2),Qh hle];rfl
  |false=>
   rw[Qs (λh=>by cases h.2.1)];rfl
 ·rw[Qh hL,Qs (λh=>hL h.1)];rfl
section
variable {m : af} (h : br m) (hs : fL m)
 include h hs
theorem ad9:nc ⟨m⟩=some ((),⟨gl m⟩):=by
 have hl:m.ar.length<=100:=by have:=h.len;omega
 unfold nc;simp only[etas,aJ.eta,df,HP hl,aey h hs,Pm,XV,fN,jA,Qa,aQ];have hb:yG m.al.toNat m.aa (bN m) m.aw=gI m:=rfl;simp only[hb];unfold gl
 cases hz:aM m.ab with
 |true=>rw[Qr (.inr (.inl rfl))];rfl
 |false=>
  by_cases h1:m.aP=1
  ·rw[Qg h1]
   cases hzb:aM (gI m)with
   |true=>rw[Qr (.inr (.inr rfl))];rfl
   |false=>
    rw[Qs (by simp[h1])]
    simp only[Qo,Ql,Qa];unfold Bv
    cases hlt:bB m.ab (gI m)with
    |true=>
     simp only[Qk,Qt]
     cases hcp:bQ m.ab (gI m)with
     |true=>exact KF {m with aw:=gI m,ab:=gI m} (gI m) (λx=>some ((),(⟨x⟩:aJ)))
     |false=>exact KF {m with aw:=gI m,ab:=gI m,aY:=0} (gI m) (λx=>some ((),(⟨x⟩:aJ)))
    |false=>
     simp only[Ql,Qq,Qu];exact KF {m with aw:=gI m} (gI m) (λx=>some ((),(⟨x⟩:aJ)))
  ·rw[Qh h1,Qr (.inl h1)];rfl
theorem Y9:ll ⟨m⟩=some ((),⟨fP m⟩):=by
 have hl:m.ar.length<=100:=by have:=h.len;omega
 unfold ll;simp only[etas,aJ.eta,HP hl,acK h hs,afS h hs,fN,jA,Qa,aQ];unfold fP
 by_cases h1:m.aP=1
 ·rw[Qg h1,Qr h1];simp only[Qk]
  cases hk:(fM m).2.2.2.1 with
  |false=>rfl
  |true=>
   have hf:=Nf h hk
   have hcov:jo m.ao ⟨(fM m).2.2.1,(fM m).1⟩= !(bB m.ao ⟨(fM m).2.2.1,(fM m).1⟩|| !bQ m.ao ⟨(fM m).2.2.1,(fM m).1⟩):=by
    cases hc:bQ m.ao ⟨(fM m).2.2.1,(fM m).1⟩with
    |false=>unfold jo;rw[hc];simp
    |true=>
     have hv:=jj.1 hc
     have hnz:aM m.ao=false:=by
      cases hz:aM m.ao with
      |false=>rfl
      |true=>rw[xG.1 hz]at hv;exact absurd hv.symm hf.fin.ne
     unfold jo;rw[hc,hnz,FZ hv,Qo,Bool.or_false,Qp,Bool.and_self,Bool.true_and];rw[QW];simp only[Qi,Bool.not_eq_true',Qj];omega
   simp only[Qo,Ql,Qt];unfold Lr;rw[hcov];cases bQ m.ab ⟨(fM m).2.2.1,(fM m).1⟩<;>cases bB m.ab ⟨(fM m).2.2.1,(fM m).1⟩<;>cases bB m.ao ⟨(fM m).2.2.1,(fM m).1⟩<;>cases bQ m.ao ⟨(fM m).2.2.1,(fM m).1⟩<;>rfl
 ·rw[Qh h1,Qs h1]
  by_cases h2:m.aP=2
  ·rw[Qg h2,Qr h2];rcases h.body with k|k|k|k
   ·exact absurd k.aW h1
   ·exact absurd k.aW h1
   ·unfold AM;rw[k.dx.2];rfl
   ·have:=k.aW;omega
  ·rw[Qh h2,Qs h2];rfl
theorem aaD:lI ⟨m⟩=some ((),⟨iL m⟩):=by
 have hl:m.ar.length<=100:=by have:=h.len;omega
 unfold lI iL;simp only[etas,HP hl,afR h hs,Qa]
 by_cases h2:m.aP=2
 ·rw[Qg h2]
  cases hk:(n4 m).2.2.1 with
  |false=>rw[Qs (λh=>by cases h.2)];rfl
  |true=>rw[Qr ⟨h2,rfl⟩];rfl
 ·rw[Qh h2,Qs (λh=>h2 h.1)];rfl
end
def Sr{m:af}(h:vg m):ij ⟨m⟩=some (eI m):=by
 have hl:m.ar.length<=1000:=by have:=h.len;omega
 unfold ij eI;simp only[df,Qa]
 cases hz:aM m.aw with
 |false=>rfl
 |true=>
  simp only[Qo,Ql,Bool.true_eq_false,Qu]
  by_cases h1:m.aP=1
  ·rw[Qg h1,Qs (λh=>h h1)]
   simp only[Qo,Ql]
   by_cases hp:m.bh=gC
   ·have hp':decide (m.bh=bE)=true:=Qg hp;rw[hp',Qs (λh=>h hp)]
    simp only[Qo,Ql]
    rw[Iv m.ar hl (·.ab) (fin:=λs=>Option.bind (mP s) λr=>some r.Value) (λi e s hs he hd hx hw=>by
     simp only[hd,hx,hw,Qk,Qa]
     rw[bK (by simp;omega),Qk]) (λs hd=>by simp only[hd,Ql]),Z6 _ (by simp;omega)]
    rfl
   ·have hp':decide (m.bh=bE)=false:=Qh hp;rw[hp',Qr hp];rfl
  ·rw[Qh h1,Qr h1];rfl
def acF(l:List aj)(hlen:l.length<=1000)(p:aj->Bool)(hp:∀e∈l,p e=true->0<=e.al/\e.al<10):qF l (l.map p)=some ((eZ p l:Nat):Int):=by
 unfold qF
 suffices key:∀(k i s:Nat),i+k=l.length->s<1024->aB _ ((s:Int),(i:Int),())=some ((s|||eZ p (l.drop i):Nat):Int)by
  have:=key l.length 0 0 (by omega) (by omega)
  rw[Nat.zero_or,List.drop_zero]at this;exact this
 intro k
 induction k with
 |zero=>
  intro i s hi hs;obtain rfl:i=l.length:=by omega
  have hd:decide ((l.length:Int)<(l.length:Int))=false:=Qh (Qq64 _);rw[bM (r:=(s:Int)) (by simp only[hd,Ql,Qe]),Qq66,eZ]
  simp
 |succ k ih=>
  intro i s hi hs;have hlt:i<l.length:=by omega
  have hd:decide ((i:Int)<(l.length:Int))=true:=Qg (by omega)
  have hd2:decide ((i:Int)<(((l.map p).length:Nat):Int))=true:=Qg (by rw[QC];omega)
  have hw:aA .i64 (i:Int) 1=((i+1:Nat):Int):=bH (by omega) (by omega)
  have hx:idx l (i:Int)=some l[i]:=by rw[bg];exact Qv hlt
  have hx2:idx (l.map p) (i:Int)=some (p l[i]):=by rw[bg,QT,Qv hlt];rfl
  rw[QM hlt,eZ]
  cases hpe:p l[i]with
  |false=>
   rw[bw (s':=((s:Int),((i+1:Nat):Int),())) (by simp only[hd,hd2,hx,hx2,hw,hpe,Qk,Ql,aQ,Qa]),ih (i+1) s (by omega) hs]
   simp
  |true=>
   obtain⟨h0,h1⟩:=hp _ (Q0 hlt) hpe;have hn0:¬l[i].al<0:=by omega
   have d1:decide ((0:Int)<=l[i].al)=true:=Qg h0;have d2:decide (l[i].al<(10:Int))=true:=Qg (by omega)
   rw[bw (s':=(((s|||2 ^ l[i].al.toNat:Nat):Int),((i+1:Nat):Int),())) (by
    simp only[hd,hd2,hx,hx2,hw,hpe,Qk,aQ,Qa,d1,d2,hn0,Qu]
    rw[pL hs h0 h1]),ih (i+1) _ (by omega) (Ad hs h1)]
   simp[Nat.or_assoc]
def Z8{m:af}(h:vg m)(n:Int):mo ⟨m⟩ n=some ((Fh m n:Nat):Int):=by
 have hl:m.ar.length<=1000:=by have:=h.len;omega
 unfold mo;have d1:decide ((m.ar.length:Int)<=(m.ar.length:Int))=true:=Qg (Int.le_refl _);have d2:decide (0<=(m.ar.length:Int))=true:=Qg (Int.natCast_nonneg _);have d3:bl 1 m.ar.length=true:=bK (by omega)
 simp only[d1,d2,d3,QV,Int.le_refl,decide_true,Bool.and_self,Qk]
 rw[YU m.ar hl (λe=>decide (n<fQ e)) (fin:=λs=>Option.bind (qF m.ar s) λr=>some r)
  (λi e s hsl he hi hd hx hw=>by
   have h1:idx s (i:Int)=some s[i]:=by rw[bg];exact Qv (by omega)
   have h2:s[i]?=some s[i]:=Qv (by omega)
   simp only[hd,hx,hw,h1,h2,Qk,Qa,etas,Sx (h.sm e he) (h.valid e he),QV])
  (λs hd=>by simp only[hd,Ql]) (by simp),acF m.ar hl _ (λe he _=>h.OD e he)]
 rfl
section
variable {m : af} (h : br m) (hs : fL m)
 include h hs
theorem YT(n:Int):iD n ⟨jZ m.al.toNat m.aa (vp m)⟩ ⟨m⟩=some (iS m n):=by
 unfold iD;simp only[etas,Z8 h.ev,Qa];have hb:=Rh (oI (aD:=m.al.toNat) h.ev.aO (sx h hs).1) (v:=m.al.toNat) (Rc h.ev n);rw[h.ev.aD.1]at hb;rw[hb,Qa];unfold iS;rw[(mg h hs).view _ h.ev.aD.2]
theorem aav:lH ⟨m⟩=some ((),⟨fK m⟩):=by
 have hl:m.ar.length<=100:=by have:=h.len;omega
 have hv:=VQ h.ev.aD.2 h.ev.aO (sx h hs).1;rw[h.ev.aD.1]at hv;unfold lH fK;simp only[etas,aJ.eta,df,HP hl,hv,YT h hs,Sr h.ev,XV,Qa,aQ]
 by_cases h3:m.aP=3
 ·rw[Qg h3,Qr (.inl h3)];rfl
 ·rw[Qh h3]
  cases ha:iS m m.ab.ai with
  |false=>rw[Qr (.inr rfl)];rfl
  |true=>
   rw[Qs (by simp[h3])]
   simp only[Ql,Qo]
   have hbc:0<=m.ab.ai/\m.ab.ai<=1000:=by
    rcases h.body with k|k|k|k
    ·rw[k.aZ];decide
    ·exact⟨by have:=k.aZ.1;omega,k.aZ.2.1⟩
    ·exact⟨by have:=k.aZ.1;omega,k.aZ.2.1⟩
    ·exact absurd k.aW h3
   have hz1:aM m.ab=true->m.aP=1:=by
    intro hz;rcases h.body with k|k|k|k
    ·exact k.aW
    ·exact k.aW
    ·rw[k.aZ.nz]at hz;cases hz
    ·exact absurd k.aW h3
   refine(TL h.ev (fin:=λc=>some ((),(⟨{m with aY:=bif bQ m.ab ⟨dJ c 1000,nm m⟩then m.aY else 0,ab:=⟨dJ c 1000,nm m⟩}⟩:aJ))) (λi e s he hd hx hw=> ?_) (λs hd=> ?_)).trans ?_
   ·simp only[hd,hx,hw,Qk,Qa,Sx (h.ev.sm e he) (h.ev.valid e he)];unfold mW
    by_cases c1:m.ab.ai<fQ e
    ·by_cases c2:fQ e<s
     ·rw[Qg c1,Qg c2]
      cases c3:iS m (fQ e)with
      |true=>rw[Qs (by simp)];rfl
      |false=>rw[Qr ⟨c1,c2,rfl⟩];rfl
     ·rw[Qg c1,Qh c2,Qs (λh=>c2 h.2.1)];rfl
    ·rw[Qh c1,Qs (λh=>c1 h.1)];rfl
   ·simp only[hd,Ql,aQ];unfold nm
    by_cases h1:m.aP=1
    ·rw[Qg h1,Qr h1];cases aM m.ab<;>rfl
    ·rw[Qh h1,Qs h1]
     cases hz:aM m.ab with
     |true=>exact absurd (hz1 hz) h1
     |false=>rfl
   ·have hm:=(Ix h hbc).2.2.2.2;rw[hm]
    have hcp:(bif bQ m.ab ⟨dJ (hY m) 1000,nm m⟩then m.aY else 0)=(if nm m=m.ab.Value then m.aY else 0):=by
     by_cases e:nm m=m.ab.Value
     ·rw[Qr e,(jj (a:=m.ab) (b:=⟨dJ (hY m) 1000,nm m⟩)).2 e.symm];rfl
     ·rw[Qs e,(iY (a:=m.ab) (b:=⟨dJ (hY m) 1000,nm m⟩)).2 (λhc=>e hc.symm)];rfl
    rw[hcp]
end
end
section
def TX{m:af}(h:br m)(s:Int):bN {m with aG:=s}=(bN m).map (λe=>if e.al=m.al then{e with aG:=bD s 1}else e):=by
 have hf:∀e∈m.ar,(if e.al=m.al then{e with aG:=bD s 1}else e)=e:=λe he=>Qs (h.hv e he).2.2.2
 have hmap:m.ar.map (λe=>if e.al=m.al then{e with aG:=bD s 1}else e)=m.ar:=by
  rw[Qq71 hf];simp
 have hown:iP {m with aG:=s}={iP m with aG:=bD s 1}:=by
  unfold iP dR ft;split
  ·rfl
  ·split<;>rfl
 unfold bN;split
 ·exact hmap.symm
 ·rw[hown];have hn:(iP m).al=m.al:=xQ m
  suffices key:∀l:List aj,(∀e∈l,(if e.al=m.al then{e with aG:=bD s 1}else e)=e)->yF {iP m with aG:=bD s 1} l=(yF (iP m) l).map (λe=>if e.al=m.al then{e with aG:=bD s 1}else e)from key _ hf
  intro l
  induction l with
  |nil=>
   intro _;simp only[yF,QD,QO,hn,Qt]
  |cons x l ih=>
   intro hx;unfold yF;simp only;split
   ·rw[QD,QD,hn,Qr rfl,hx x Qx,Qq71 (λe he=>hx e (Qy _ he))]
    simp
   ·rw[QD,hx x Qx,ih λe he=>hx e (Qy _ he)]
def OA{m:af}(h:br m){s:Int}(hs:0<=s/\s<=1000000):br {m with aG:=s}:=by
 refine⟨h.n0,h.n1,h.aI,hs,h.aO,h.sw,h.hv,h.dn,?_⟩;rcases h.body with k|k|k|k
 ·exact .inl ⟨k.aW,k.aZ,k.dx,k.bW,k.dX,k.low,k.cg⟩
 ·exact .inr (.inl ⟨k.aW,k.aZ,k.dx,k.bW,k.dX,k.up,k.cg,k.low⟩)
 ·exact .inr (.inr (.inl ⟨k.aW,k.aZ,k.dx,k.bW,k.dX,k.range⟩))
 ·exact .inr (.inr (.inr ⟨k.aW,k.aZ,k.dx,k.bW,k.dX,k.range⟩))
def qt{m:af}(h:br m){s:Int}(hs:0<=s/\s<=1000000):Alike (bN m) (bN {m with aG:=s}):=by
 rw[TX h s];refine Zm h.ev.tO.1 h.ev.tO.2 _ λe he=> ?_
 split
 ·rename_i hn;refine⟨rfl,?_⟩;rw[h.DX e he];have hv:=h.DX e he
  have hm:{e with aG:=bD s 1}∈bN {m with aG:=s}:=by
   rw[TX h s];exact QP.2 ⟨e,he,Qr hn⟩
  exact(OA h hs).DX _ hm
 ·exact⟨rfl,rfl⟩
def ac9(m:af)(s:Int)(b:ae):Bv {m with aG:=s} b={Bv m b with aG:=s}:=by
 unfold Bv
 by_cases h:bB m.ab b=true
 ·simp only[Qr h]
 ·simp only[Qs h]
def XQ(m:af)(s:Int)(b:ae):pX {m with aG:=s} b={pX m b with aG:=s}:=by
 unfold pX
 by_cases h:m.aY=0/\bQ m.ab b=true/\kT b.Value m.ab.ai m.ao m.az<=b.ai
 ·simp only[Qr h]
 ·simp only[Qs h]
section
variable {m : af} (h : br m) {s : Int} (hs : 0 <= s /\ s <= 1000000)
 include h hs
theorem acQ:eS {m with aG:=s}=eS m:=((qt h hs).next h.ev.aD.2 m.aa _ _ _).symm
theorem ac6:gI {m with aG:=s}=gI m:=((qt h hs).cg h.ev.aD.2 m.aa _).symm
theorem Ph:gX {m with aG:=s}=gX m:=((qt h hs).ready h.ev.aD.2 m.aa).symm
theorem ZE:LH {m with aG:=s}=LH m:=((qt h hs).sure h.ev.aD.2 m.aa).symm
theorem adk:fM {m with aG:=s}=fM m:=by
 unfold fM;rw[Ph h hs];simp only;rw[<-(qt h hs).Ev,<-(qt h hs).first]
theorem adp:eO {m with aG:=s}=eO m:=by
 unfold eO;rw[Ph h hs];simp only;rw[<-(qt h hs).jc]
theorem ado:n4 {m with aG:=s}=n4 m:=by
 unfold n4;rw[ZE h hs];simp only;rw[<-(qt h hs).jc]
theorem Rb(n:Int):iS {m with aG:=s} n=iS m n:=by
 unfold iS;simp only;rw[<-(qt h hs).view _ h.ev.aD.2];rfl
theorem adG:hY {m with aG:=s}=hY m:=by
 unfold hY;simp only;congr 1
 funext b e
 unfold mW;simp only[Rb h hs]
theorem HM:cW {m with aG:=s}={cW m with aG:=s}:=by
 unfold cW;simp only[acQ h hs];split<;>rfl
theorem HL:gl {m with aG:=s}={gl m with aG:=s}:=by
 unfold gl;simp only[ac6 h hs];split
 ·rfl
 ·rw[ac9,XQ]
theorem HO:fP {m with aG:=s}={fP m with aG:=s}:=by
 unfold fP;simp only[adk h hs,adp h hs];split
 ·split<;>rfl
 ·split<;>rfl
theorem HN:iL {m with aG:=s}={iL m with aG:=s}:=by
 unfold iL;simp only[ado h hs];split<;>rfl
theorem Pr:fK {m with aG:=s}={fK m with aG:=s}:=by
 unfold fK;simp only[Rb h hs,adG h hs];split<;>rfl
end
open Classical in
 def c6(m:af):af:=
 if cW m=m then(if gl m=m then(if fP m=m then(if iL m=m then fK m else iL m)else fP m)else gl m)else cW m
structure IL (m:af):Prop where
 p:cW m=m
 s:gl m=m
 c:fP m=m
 f:iL m=m
 k:fK m=m
def ZF{m:af}(h:c6 m=m):IL m:=by
 unfold c6 at h;split at h
 ·split at h
  ·split at h
   ·split at h
    ·exact⟨by assumption,by assumption,by assumption,by assumption,h⟩
    ·contradiction
   ·contradiction
  ·contradiction
 ·contradiction
def aaw{m:af}(h:IL m):c6 m=m:=by
 unfold c6;rw[Qr h.p,Qr h.s,Qr h.c,Qr h.f,h.k]
def FA{m:af}{Q:af->Prop}(h1:Q (cW m))(h2:Q (gl m))(h3:Q (fP m))(h4:Q (iL m))(h5:Q (fK m)):Q (c6 m):=by
 unfold c6;split
 ·split
  ·split
   ·split
    ·exact h5
    ·exact h4
   ·exact h3
  ·exact h2
 ·exact h1
def Dw{m:af}(h:br m):br (c6 m):=FA (Pp h) (Po h) (Pv h) (Pu h) (Pt h)
def O4(m:af):iK m (c6 m):=FA (Av m) (xJ m) (xL m) (xK m) (Aw m)
def R4{m:af}(h:br m):c6 m=m\/jQ m<jQ (c6 m):=FA (Q:=λx=>x=m\/jQ m<jQ x) (agT h) (agS h) (agW h) (agV h) (agU h)
def ag7(m:af):(cW m).ab=m.ab:=by unfold cW;split<;>rfl
def Ky{m:af}(h:br m)(hz:aM m.ab=false):aM (c6 m).ab=false:=by
 have hb:P1 m\/P2 m\/P3 m:=h.body.resolve_left λk=>by rw[k.aZ,bU]at hz;cases hz
 refine FA (Q:=λx=>aM x.ab=false) (by rw[ag7];exact hz) ?_ ?_ ?_ ?_
 ·rcases hb with k|k|k
  ·exact(Od h k).1.aZ.nz
  ·rw[ur (.inl (by rw[k.aW];decide))];exact hz
  ·rw[ur (.inl (by rw[k.aW];decide))];exact hz
 ·unfold fP;rcases hb with k|k|k
  ·rw[Qr k.aW];split
   ·rename_i hk;have hf:=Nf h hk;exact(TE (.inr k.aZ) k.dx hf.fin hf.lo1 hf.le).aZ.nz
   ·exact hz
  ·rw[Qs (by rw[k.aW];decide),Qr k.aW]
   obtain⟨g1,g2,g3,_⟩:=Tm h k;exact(Xc k g1 g2 g3).aZ.nz
  ·rw[Qs (by rw[k.aW];decide),Qs (by rw[k.aW];decide)];exact hz
 ·unfold iL;split
  ·rename_i hc;rcases hb with k|k|k
   ·have:=k.aW;have:=hc.1;omega
   ·exact(U9 h k hc.2).aZ.nz
   ·have:=k.aW;have:=hc.1;omega
  ·exact hz
 ·cases ha:iS m m.ab.ai with
  |false=>
   have:fK m=m:=Qr (.inr ha);rw[this];exact hz
  |true=>
   rcases hb with k|k|k
   ·exact(Oe h (.inr k) ha).aZ.nz
   ·exact(U8 h k).aZ.nz
   ·have:fK m=m:=Qr (.inl k.aW);rw[this];exact hz
def dy(m:af):af:=if aM m.ab=false then{m with aG:=bD m.aG 1}else m
def Vj{m:af}(h:br m):0<=bD m.aG 1/\bD m.aG 1<=1000000:=by
 have:=h.seq;unfold bD;split<;>omega
def xi{m:af}(h:br m):br (dy m):=by
 unfold dy;split
 ·exact OA h (Vj h)
 ·exact h
def I4{m:af}(h:aM m.ab=true->m.aG=0):fL (dy m):=by
 unfold dy;split
 ·rename_i hz;exact⟨λe=>(by rw[show({m with aG:=bD m.aG 1}:af).ab=m.ab from rfl,hz]at e;cases e),λ_=>by show 1<=bD m.aG 1;unfold bD;split<;>omega⟩
 ·rename_i hz;exact⟨h,λe=>absurd e hz⟩
def adm{m:af}(h:br m)(hf:IL m){s:Int}(hs:0<=s/\s<=1000000):IL {m with aG:=s}:=
 ⟨by rw[HM h hs,hf.p],by rw[HL h hs,hf.s],by rw[HO h hs,hf.c],by rw[HN h hs,hf.f],by rw[Pr h hs,hf.k]⟩
def aah{m:af}(h:br m)(hf:IL m):IL (dy m):=by
 unfold dy;split
 ·exact adm h hf (Vj h)
 ·exact hf
def acR{m:af}(hs:fL m):dy m=m:=by
 unfold dy;split
 ·rename_i hz;have:=hs.pos hz;have e:bD m.aG 1=m.aG:=by unfold bD;split<;>omega
  rw[e]
 ·rfl
def ZT(m:af):jQ (dy m)=jQ m:=by
 unfold dy;split<;>rfl
def SH{m:af}(h:0<=m.aG):dv ⟨m⟩=some ((),⟨dy m⟩):=by
 unfold dv dy;simp only[etas,df,Qa]
 cases hz:aM m.ab with
 |true=>rfl
 |false=>
  simp only[Qp,Qk,Qa,Qt]
  by_cases hs:m.aG=0
  ·have e:bD m.aG 1=1:=by unfold bD;split<;>omega
   rw[Qg hs,e];rfl
  ·have e:bD m.aG 1=m.aG:=by unfold bD;split<;>omega
   rw[Qh hs,e];rfl
def wG{m m':af}(he:iK m m'):
  (decide (m'.aP=m.aP)&&(decide (m'.aY=m.aY)&&(decide (m'.bq=m.bq)&&(decide (m'.ab.ai=m.ab.ai)&&(decide (m'.ab.Value=m.ab.Value)&&(decide (m'.ao.ai=m.ao.ai)&&(decide (m'.ao.Value=m.ao.Value)&&(decide (m'.az.ai=m.az.ai)&&(decide (m'.az.Value=m.az.Value)&&(decide (m'.aw.ai=m.aw.ai)&&(decide (m'.aw.Value=m.aw.Value)&&true)))))))))))=true↔m'=m:=by
 simp only[Qm,Qi];constructor
 ·rintro⟨h1,h2,h3,h4,h5,h6,h7,h8,h9,h10,h11,_⟩;exact CE he h1 (n9 h4 h5) (n9 h6 h7) (n9 h8 h9) (n9 h10 h11) h2 h3
 ·rintro rfl;simp
open Classical in
def aea{m:af}(h:br m)(hs:fL m):nf ⟨m⟩=some (if c6 m=m then(false,⟨m⟩)else(true,⟨dy (c6 m)⟩)):=by
 have hnum:∀{x:af},br x->dv ⟨x⟩=some ((),⟨dy x⟩):=λhx=>SH hx.seq.1
 unfold nf;simp only[etas,aJ.eta,fU,Qa,Wy h hs]
 by_cases hP:cW m=m
 ·simp only[(wG (Av m)).2 hP,Ql,show xor true true=false from rfl]
  rw[hP,ad9 h hs];simp only[Qa]
  by_cases hS:gl m=m
  ·simp only[(wG (xJ m)).2 hS,Ql,show xor true true=false from rfl]
   rw[hS,Y9 h hs];simp only[Qa]
   by_cases hC:fP m=m
   ·simp only[(wG (xL m)).2 hC,Ql,show xor true true=false from rfl]
    rw[hC,aaD h hs];simp only[Qa]
    by_cases hF:iL m=m
    ·simp only[(wG (xK m)).2 hF,Ql,show xor true true=false from rfl]
     rw[hF,aav h hs];simp only[Qa];have e:c6 m=fK m:=by unfold c6;rw[Qr hP,Qr hS,Qr hC,Qr hF]
     rw[e]
     by_cases hK:fK m=m
     ·simp only[(wG (Aw m)).2 hK,Ql,show xor true true=false from rfl]
      rw[Qr hK,hK]
     ·have hb:=mt (wG (Aw m)).1 hK;rw[QX]at hb;simp only[hb,Qk,show xor true false=true from rfl]
      rw[hnum (Pt h),Qs hK];rfl
    ·have e:c6 m=iL m:=by unfold c6;rw[Qr hP,Qr hS,Qr hC,Qs hF]
     have hb:=mt (wG (xK m)).1 hF;rw[QX]at hb;simp only[hb,Qk,show xor true false=true from rfl]
     rw[hnum (Pu h),e,Qs hF];rfl
   ·have e:c6 m=fP m:=by unfold c6;rw[Qr hP,Qr hS,Qs hC]
    have hb:=mt (wG (xL m)).1 hC;rw[QX]at hb;simp only[hb,Qk,show xor true false=true from rfl]
    rw[hnum (Pv h),e,Qs hC];rfl
  ·have e:c6 m=gl m:=by unfold c6;rw[Qr hP,Qs hS]
   have hb:=mt (wG (xJ m)).1 hS;rw[QX]at hb;simp only[hb,Qk,show xor true false=true from rfl]
   rw[hnum (Po h),e,Qs hS];rfl
 ·have e:c6 m=cW m:=by unfold c6;rw[Qs hP]
  have hb:=mt (wG (Av m)).1 hP;rw[QX]at hb;simp only[hb,Qk,show xor true false=true from rfl]
  rw[hnum (Pp h),e,Qs hP];rfl
structure GN (R:af->Prop) (m m':af):Prop where
 inv:br m'
 seq:fL m'
 env:m'.al=m.al/\m'.aK=m.aK/\m'.aa=m.aa/\m'.bh=m.bh/\m'.ar=m.ar
 num:m'.aG=m.aG\/(m.aG=0/\m'.aG=1)
 nz:aM m.ab=false->aM m'.ab=false
 rel:R m'
 fix:IL m'
def Zn{R:af->Prop}(hR1:∀m,br m->R m->R (c6 m))(hR2:∀m,R m->R (dy m)){m:af}(h:br m)(hs:aM m.ab=true->m.aG=0)(hr:R m):Yd (gA ⟨m⟩) λq=>∃m',q=((),⟨m'⟩)/\GN R m m':=by
 unfold gA;simp only[etas,aJ.eta,SH h.seq.1,Qa]
 have num1:∀{x:af},br x->(dy x).aG=x.aG\/(x.aG=0/\(dy x).aG=1):=λ{x} hx=>by
  have:=hx.seq;unfold dy;split
  ·show bD x.aG 1=x.aG\/(x.aG=0/\bD x.aG 1=1);unfold bD;split<;>omega
  ·exact .inl rfl
 have env1:∀x:af,(dy x).al=x.al/\(dy x).aK=x.aK/\(dy x).aa=x.aa/\(dy x).bh=x.bh/\(dy x).ar=x.ar/\(dy x).ab=x.ab:=λx=>by
  unfold dy;split<;>exact⟨rfl,rfl,rfl,rfl,rfl,rfl⟩
 refine Yd.down (λs=>∃x,s=((⟨x⟩:aJ),())/\br x/\fL x/\R x/\(x.al=m.al/\x.aK=m.aK/\x.aa=m.aa/\x.bh=m.bh/\x.ar=m.ar)/\(x.aG=m.aG\/(m.aG=0/\x.aG=1))/\(aM m.ab=false->aM x.ab=false)) (λs=>K1+K2 - jQ s.1.ah) ?_ ⟨dy m,rfl,xi h,I4 hs,hR2 _ hr,⟨(env1 m).1,(env1 m).2.1,(env1 m).2.2.1,(env1 m).2.2.2.1,(env1 m).2.2.2.2.1⟩,num1 h,λhz=>by rw[(env1 m).2.2.2.2.2];exact hz⟩
 rintro s ⟨x,rfl,hx,hsx,hrx,hex,hnx,hzx⟩;simp only[aea hx hsx,Qa]
 by_cases hst:c6 x=x
 ·rw[Qr hst];exact .some ⟨x,rfl,⟨hx,hsx,hex,hnx,hzx,hrx,ZF hst⟩⟩
 ·rw[Qs hst];have hi:=Dw hx;have hv:=O4 x;have hup:=(R4 hx).resolve_left hst;refine .some ⟨⟨dy (c6 x),rfl,xi hi,I4 ?_,hR2 _ (hR1 _ hx hrx),?_,?_,?_⟩,?_⟩
  ·intro hz;rw[hv.seq];refine hsx.zero ?_
   cases hzz:aM x.ab with
   |true=>rfl
   |false=>rw[Ky hx hzz]at hz;cases hz
  ·obtain⟨e1,e2,e3,e4,e5,_⟩:=env1 (c6 x);exact⟨e1.trans (hv.aD.trans hex.1),e2.trans (hv.aI.trans hex.2.1),e3.trans (hv.aO.trans hex.2.2.1),e4.trans (hv.sw.trans hex.2.2.2.1),e5.trans (hv.heard.trans hex.2.2.2.2)⟩
  ·have h1:=num1 hi;rw[hv.seq]at h1;rcases h1 with e|⟨e1,e2⟩
   ·rw[e];exact hnx
   ·right;rcases hnx with e3|⟨_,e3⟩
    ·exact⟨by rw[<-e3];exact e1,e2⟩
    ·omega
  ·intro hz;rw[(env1 (c6 x)).2.2.2.2.2];exact Ky hx (hzx hz)
  ·have h1:=UZ hi;show K1+K2 - jQ (dy (c6 x))<K1+K2 - jQ x;rw[ZT];omega
end
section
def TY{α:Type}{s t:List α}(hl:s.length=t.length)(hn:s.length<=1000000){step:Int×Unit->Option ((Int×Unit)⊕Bool)}
  (h1:∀(i:Nat) (h:i<s.length) (h':i<t.length),decide ((i:Int)<(s.length:Int))=true->idx s (i:Int)=some s[i]->idx t (i:Int)=some t[i]->aA .i64 (i:Int) 1=((i+1:Nat):Int)->∃b:Bool,step ((i:Int),())=some (bif b then .inl (((i+1:Nat):Int),())else .inr false)/\(b=true↔s[i]=t[i]))
  (h2:decide ((s.length:Int)<(s.length:Int))=false->step ((s.length:Int),())=some (.inr true)):∃b,aB step (0,())=some b/\(b=true↔s=t):=by
 suffices key:∀(k i:Nat),i+k=s.length->∃b,aB step ((i:Int),())=some b/\(b=true↔s.drop i=t.drop i)from by simpa using key s.length 0 (by omega)
 intro k
 induction k with
 |zero=>
  intro i hi;obtain rfl:i=s.length:=by omega
  refine⟨true,bM (h2 (Qh (Qq64 _))),?_⟩;rw[List.drop_eq_nil_of_le (by omega),List.drop_eq_nil_of_le (by omega)]
  simp
 |succ k ih=>
  intro i hi;have hi':i<s.length:=by omega
  have hi'':i<t.length:=by omega
  obtain⟨b,h3,h4⟩:=h1 i hi' hi'' (Qg (by omega)) (by rw[bg];exact Qv hi') (by rw[bg];exact Qv hi'') (bH (by omega) (by omega))
  rw[QM hi',QM hi'',List.cons.injEq]
  cases b with
  |false=>
   refine⟨false,bM h3,?_⟩;simp only[Qq,false_iff]at h4 ⊢;exact λh=>h4 h.1
  |true=>
   obtain⟨b,h5,h6⟩:=ih (i+1) (by omega)
   refine⟨b,(bw h3).trans h5,?_⟩;rw[h6];exact⟨λh=>⟨h4.1 rfl,h⟩,λh=>h.2⟩
def MK{α:Type}{s t:List α}(h:s.length≠t.length):(false=true↔s=t):=by
 simp only[Qq,false_iff];exact λh1=>h (by rw[h1])
 def abP(a0:List Int)(a1:List Int):Option Bool:=
 bif (!decide (((List.length a0:Nat):Int)=((List.length a1:Nat):Int)))then
 some false
 else
 aB (λ(v1:Int×Unit)=>
 bif (decide (v1.1<((List.length a0:Nat):Int)))then
 Option.bind (idx a0 v1.1) λx2=>
 Option.bind (idx a1 v1.1) λx3=>
 bif (!decide (x2=x3))then
 Option.map Sum.inr (some false)
 else
 some (Sum.inl ((aA .i64 v1.1 (1:Int)),()))
 else
 Option.map Sum.inr (some true)) ((0:Int),())
def abI(s t:List Int)(h:s.length<=1000000):∃b,abP s t=some b/\(b=true↔s=t):=by
 unfold abP
 by_cases hl:s.length=t.length
 ·rw[Qg (by omega:(s.length:Int)=(t.length:Int)),Qo,Ql]
  refine TY hl h (λi hi hi' hd hx hy hw=> ?_) (λhd=> ?_)
  ·refine⟨decide (s[i]=t[i]),?_,by simp⟩
   simp only[hd,hx,hy,hw,Qk,Qa];cases decide (s[i]=t[i])<;>rfl
  ·simp only[hd,Ql];rfl
 ·rw[Qh (by omega:¬(s.length:Int)=(t.length:Int)),Qp,Qk]
  exact⟨false,rfl,MK hl⟩
def aeR(s t:List Int)(h:s.length<=1000000):∃b,IM s t=some b/\(b=true↔s=t):=abI s t h
def afZ(s t:List Int)(h:s.length<=1000000):∃b,qU s t=some b/\(b=true↔s=t):=abI s t h
def O3(a b:ak):a=b↔a.aH=b.aH/\a.aX=b.aX/\a.aL=b.aL:=by
 cases a;cases b;simp
def afo{n:Nat}:∀{a b:ak},SizeOf.sizeOf a<n->cQ a->∃r,Dd n (a,b,())=some r/\(r=true↔a=b):=by
 induction n with
 |zero=>intro a b h;omega
 |succ n ih=>
  intro a b hs hm;show∃r,Dj (Dd n) a b=some r/\(r=true↔a=b);have hl:=hm.len;have hns:=hm.nodes;obtain⟨r,h1,h2⟩:=aeR a.aX b.aX hns;rw[O3];unfold Dj
  by_cases ht:a.aH=b.aH
  ·rw[Qg ht];simp only[Qo,Ql,h1,Qa]
   cases r with
   |false=>
    simp only[Qp,Qk,Qa];refine⟨false,rfl,?_⟩;simp only[Qq,false_iff]at h2 ⊢;exact λh=>h2 h.2.1
   |true=>
    simp only[Qo,Ql,Qa]
    by_cases hi:a.aL.length=b.aL.length
    ·rw[Qg (by omega:(a.aL.length:Int)=(b.aL.length:Int)),Qo,Ql]
     have key:∀step:Int×Unit->Option ((Int×Unit)⊕Bool),(∃r,aB step (0,())=some r/\(r=true↔a.aL=b.aL))->∃r,aB step (0,())=some r/\(r=true↔a.aH=b.aH/\a.aX=b.aX/\a.aL=b.aL):=by
      rintro step ⟨r,h3,h4⟩;exact⟨r,h3,by rw[h4];exact⟨λh=>⟨ht,h2.1 rfl,h⟩,λh=>h.2.2⟩⟩
     refine key _ (TY hi hl (λi hi hi' hd hx hy hw=> ?_) (λhd=> ?_))
     ·have hu:=Q0 hi;obtain⟨r,h3,h4⟩:=ih (a:=a.aL[i]) (b:=b.aL[i]) (by have:=qM hu;omega) (hm.inner _ hu)
      refine⟨r,?_,h4⟩;simp only[hd,hx,hy,hw,Qk,Qa,etas,h3];cases r<;>rfl
     ·simp only[hd,Ql];rfl
    ·rw[Qh (by omega:¬(a.aL.length:Int)=(b.aL.length:Int)),Qp,Qk]
     refine⟨false,rfl,?_⟩;simp only[Qq,false_iff];exact λh=>hi (by rw[h.2.2])
  ·rw[Qh ht];refine⟨false,rfl,?_⟩;simp only[Qq,false_iff];exact λh=>ht h.1
def Xe{a b:ak}(h:cQ a):∃r,vd a b=some r/\(r=true↔a=b):=afo (by omega) h
def ago{n:Nat}:∀{a b:ak},SizeOf.sizeOf a<n->cQ a->∃r,xz n (a,b,())=some r/\(r=true↔a=b):=by
 induction n with
 |zero=>intro a b h;omega
 |succ n ih=>
  intro a b hs hm;show∃r,sZ (xz n) a b=some r/\(r=true↔a=b);have hl:=hm.len;have hns:=hm.nodes;obtain⟨r,h1,h2⟩:=afZ a.aX b.aX hns;rw[O3];unfold sZ
  by_cases ht:a.aH=b.aH
  ·rw[Qg ht];simp only[Qk,h1,Qa]
   cases r with
   |false=>
    simp only[Ql];refine⟨false,rfl,?_⟩;simp only[Qq,false_iff]at h2 ⊢;exact λh=>h2 h.2.1
   |true=>
    simp only[Qk]
    have key:∀o:Option Bool,(∃r,o=some r/\(r=true↔a.aL=b.aL))->∃r,(Option.bind (Option.bind o λr3=>some r3) λb4=>some b4)=some r/\(r=true↔a.aH=b.aH/\a.aX=b.aX/\a.aL=b.aL):=by
     rintro o ⟨r,rfl,h4⟩;exact⟨r,rfl,by rw[h4];exact⟨λh=>⟨ht,h2.1 rfl,h⟩,λh=>h.2.2⟩⟩
    refine key _ ?_;unfold dC
    by_cases hi:a.aL.length=b.aL.length
    ·rw[Qg (by omega:(a.aL.length:Int)=(b.aL.length:Int)),Qo,Ql]
     refine TY hi hl (λi hi hi' hd hx hy hw=> ?_) (λhd=> ?_)
     ·have hu:=Q0 hi;obtain⟨r,h3,h4⟩:=ih (a:=a.aL[i]) (b:=b.aL[i]) (by have:=qM hu;omega) (hm.inner _ hu)
      refine⟨r,?_,h4⟩;simp only[hd,hx,hy,hw,Qk,Qa,etas,h3];cases r<;>rfl
     ·simp only[hd,Ql];rfl
    ·rw[Qh (by omega:¬(a.aL.length:Int)=(b.aL.length:Int)),Qp,Qk]
     exact⟨false,rfl,MK hi⟩
  ·rw[Qh ht];refine⟨false,rfl,?_⟩;simp only[Qq,false_iff];exact λh=>ht h.1
def eqT{a b:ak}(h:cQ a):∃r,lU a b=some r/\(r=true↔a=b):=ago (by omega) h
def VC(a b:Int)(s t:ByteArray):lC false a b s t=(decide (a=b)&&decide (s=t)):=by
 simp
def ND(a b:ae):a=b↔a.ai=b.ai/\a.Value=b.Value:=by
 cases a;cases b;simp
def VD(a b:aj):a=b↔a.al=b.al/\a.aK=b.aK/\a.aG=b.aG/\a.aa=b.aa/\a.bC=b.bC/\a.ab=b.ab/\a.ao=b.ao/\a.az=b.az/\a.aY=b.aY/\a.bq=b.bq:=by
 cases a;cases b;simp
def VK(a b:Bool):(bif a then some b else some false)=some (a&&b):=by cases a<;>rfl
def ahb{a b:aj}(h:cQ a.aa):∃r,Df a b=some r/\(r=true↔a=b):=by
 obtain⟨r,h1,h2⟩:=Xe (a:=a.aa) (b:=b.aa) h;have hc:∀x:Bool,(bif x then some r else some false)=some (x&&r):=λx=>by cases x<;>rfl
 refine⟨_,by simp only[Df,etas,h1,Qa,VK,hc,VC];rfl,?_⟩
 rw[VD];simp only[Qm,Qi,h2,ND];constructor
 ·rintro⟨⟨⟨⟨⟨⟨⟨⟨⟨h1,h2⟩,h3⟩,h4⟩,h5⟩,h6⟩,h7⟩,h8⟩,h9⟩,h10⟩;exact⟨h1,h2,h3,h4,h5,h6,h7,h8,h9,h10⟩
 ·rintro⟨h1,h2,h3,h4,h5,h6,h7,h8,h9,h10⟩;exact⟨⟨⟨⟨⟨⟨⟨⟨⟨h1,h2⟩,h3⟩,h4⟩,h5⟩,h6⟩,h7⟩,h8⟩,h9⟩,h10⟩
end
section
def M7{m:af}(h:br m){ρ:Type}{step:Int×Unit->Option ((Int×Unit)⊕ρ)}{fin:Option ρ}
  (h1:∀(i:Nat) (e:aj),e∈m.ar->decide ((i:Int)<(m.ar.length:Int))=true->idx m.ar (i:Int)=some e->aA .i64 (i:Int) 1=((i+1:Nat):Int)->
   (i=0\/(decide ((0:Int)<(i:Int))=true/\∃x,idx m.ar (cU .i64 (i:Int) 1)=some x/\decide (e.al<=x.al)=false))->step ((i:Int),())=some (.inl (((i+1:Nat):Int),())))
  (h2:decide ((m.ar.length:Int)<(m.ar.length:Int))=false->step ((m.ar.length:Int),())=Option.map Sum.inr fin):aB step (0,())=fin:=by
 have hl:=h.len;refine X0 m.ar.length (by omega) (λi hi hd hw=> ?_) h2
 have hx:idx m.ar (i:Int)=some m.ar[i]:=by rw[bg];exact Qv hi
 refine h1 i m.ar[i] (Q0 hi) hd hx hw ?_
 cases i with
 |zero=>exact .inl rfl
 |succ i=>
  refine .inr ⟨Qg (by omega),m.ar[i],?_,?_⟩
  ·have:cU .i64 ((i+1:Nat):Int) 1=(i:Int):=by rw[pz (by omega) (by omega)];omega
   rw[this,bg];exact Qv (by omega)
  ·have:=List.pairwise_iff_getElem.1 h.dn i (i+1) (by omega) hi (by omega)
   exact Qh (by omega)
def ac7{m:af}(h:br m):ud m=some true:=by
 unfold ud;refine M7 h (λi e he hd hx hw hi=> ?_) (λhd=>by simp only[hd,Ql])
 obtain⟨g1,g2,g3,g4⟩:=h.hv e he;simp only[hd,hx,hw,Qk,Qa,aQ,etas,qP g2.sm,g1,Qo,Ql,Qg g3,Qh g4];rcases hi with rfl|⟨hi,x,hx2,hn⟩
 ·rfl
 ·rw[hi,hx2];simp only[Qk,Qa,hn,Ql]
def Og{m:af}(h:br m)(hs:fL m)(hz:aM m.ab=false):bc (dR m)=true:=by
 rw[<-Vf hs hz];exact Py h hz
def acS:lC false bZ.ai (0:Int) bZ.Value bE=true:=by decide
def Fa{m:af}(h:br m)(hs:fL m):ln m=some true:=by
 have d1:decide (m.al<0)=false:=Qh (by have:=h.n0;omega)
 have d2:decide ((10:Int)<=m.al)=false:=Qh (by have:=h.n1;omega)
 have d3:decide (m.aK<1)=false:=Qh (by have:=h.aI;omega)
 have d4:decide ((1000000:Int)<m.aK)=false:=Qh (by have:=h.aI;omega)
 have d5:decide (m.aG<0)=false:=Qh (by have:=h.seq;omega)
 have d6:decide ((1000000:Int)<m.aG)=false:=Qh (by have:=h.seq;omega)
 have d7:decide ((200:Int)<((m.bh.size:Nat):Int))=false:=Qh (by have:=h.sw;omega)
 have hm:cQ (dR m).aa:=by rw[vx];exact h.aO.sm
 unfold ln;simp only[d1,d2,d3,d4,d5,d6,d7,Ql,Qa,etas,eC h.aO,decide_true,Qo,ac7 h,df,DG,I5 h,qP hm]
 cases hz:aM m.ab with
 |true=>
  have h0:P0 m:=by
   rcases h.body with k|k|k|k
   ·exact k
   ·rw[k.aZ.nz]at hz;cases hz
   ·rw[k.aZ.nz]at hz;cases hz
   ·rw[k.aZ.nz]at hz;cases hz
  unfold zd;simp only[h0.aW,hs.zero hz,h0.dx,h0.bW,h0.dX,h0.low,h0.cg,acS,decide_true,Qk,Qa]
 |false=>
  have hv:=Og h hs hz;simp only[hv,Ql,Qk]
  have hconf:pC m=some true:=by
   unfold pC;simp only[df,AY,sn,fN,Qa]
   have fin:∀(hf:c8 m.aw) (hp:(dU m.ao m.az m.aw||(!decide (m.aP=1)&&bQ m.aw m.ab))=true),_:=λhf hp=>(show(bif aM m.aw then some true else
     (bif !cD m.aw then some true else some (decide (1000<m.aw.ai))).bind λb3=>bif b3 then some false else
     (bif dU m.ao m.az m.aw then some true else(bif !decide (m.aP=1)then some (bQ m.aw m.ab)else some false).bind λb6=>some b6).bind λb7=>some b7)=some true by
    rw[hf.nz,hf.valid,Qh (show¬1000<m.aw.ai by have:=hf.2.1;omega)]
    revert hp
    cases dU m.ao m.az m.aw<;>cases decide (m.aP=1)<;>cases bQ m.aw m.ab<;>simp)
   have nob:m.aw=bZ->(bif aM m.aw then some true else
     (bif !cD m.aw then some true else some (decide (1000<m.aw.ai))).bind λb3=>bif b3 then some false else
     (bif dU m.ao m.az m.aw then some true else(bif !decide (m.aP=1)then some (bQ m.aw m.ab)else some false).bind λb6=>some b6).bind λb7=>some b7)=some true:=λe=>by rw[e,bU];rfl
   rcases h.body with k|k|k|k
   ·exact nob k.dX
   ·rcases k.dX with e|⟨hf,hp⟩
    ·exact nob e
    ·exact fin hf (by rw[hp];rfl)
   ·rcases k.dX with e|⟨hf,hp⟩
    ·exact nob e
    ·exact fin hf (by rw[jj.2 hp,Qh (show¬m.aP=1 by have:=k.aW;omega)];simp)
   ·exact nob k.dX
  rw[hconf];simp only[Qa,Qk];rcases h.body with k|k|k|k
  ·rw[k.aZ,bU]at hz;cases hz
  ·simp only[k.aW,k.cg,decide_true,Qo,Ql,Qa,Qp,Qk,show decide ((1:Int)=3)=false from rfl]
  ·simp only[k.aW,k.bW,bU,show decide ((2:Int)=1)=false from rfl,show decide ((2:Int)=3)=false from rfl,Qo,Ql,Qa,Qp,Qk]
  ·simp only[k.aW,k.bW,k.dx,bU,show decide ((3:Int)=1)=false from rfl,decide_true,Qo,Ql,Qa,Qp,Qk]
def Cg{m:af}(h:br m)(hs:fL m):nq m=some true:=by
 have d1:decide (m.al<0)=false:=Qh (by have:=h.n0;omega)
 have d2:decide ((9:Int)<m.al)=false:=Qh (by have:=h.n1;omega)
 have d3:decide (m.aK<1)=false:=Qh (by have:=h.aI;omega)
 have d4:decide ((1000000:Int)<m.aK)=false:=Qh (by have:=h.aI;omega)
 have d5:decide (m.aG<0)=false:=Qh (by have:=h.seq;omega)
 have d6:decide ((1000000:Int)<m.aG)=false:=Qh (by have:=h.seq;omega)
 have d7:decide ((200:Int)<((m.bh.size:Nat):Int))=false:=Qh (by have:=h.sw;omega)
 have hm:cQ (dR m).aa:=by rw[vx];exact h.aO.sm
 unfold nq;simp only[d1,d2,d3,d4,d5,d6,d7,Ql,Qa,etas,eH h.aO,decide_true,Qo];refine M7 h (λi e he hd hx hw hi=> ?_) (λhd=> ?_)
 ·obtain⟨g1,g2,g3,g4⟩:=h.hv e he;simp only[hd,hx,hw,Qk,Qa,aQ,jC g2.sm,g1,Qo,Ql,Qg g3,Qh g4];rcases hi with rfl|⟨hi,x,hx2,hn⟩
  ·rfl
  ·rw[hi,hx2];simp only[Qk,Qa,hn,Ql]
 ·simp only[hd,Ql];congr 1;simp only[dg,xD,tJ,gy,Qa,BW,jC hm]
  cases hz:aM m.ab with
  |true=>
   have h0:P0 m:=by
    rcases h.body with k|k|k|k
    ·exact k
    ·rw[k.aZ.nz]at hz;cases hz
    ·rw[k.aZ.nz]at hz;cases hz
    ·rw[k.aZ.nz]at hz;cases hz
   simp only[h0.aW,hs.zero hz,h0.dx,h0.bW,h0.dX,h0.low,h0.cg,bU,decide_true,Qk,Qa]
  |false=>
   have hv:=Og h hs hz;simp only[hv,Ql,Qo];rcases h.body with k|k|k|k
   ·rw[k.aZ,bU]at hz;cases hz
   ·simp only[k.aW,k.cg,decide_true,Qo,Ql,Qa,Qp,Qk,show decide ((1:Int)=3)=false from rfl,show decide ((1:Int)=2)=false from rfl]
    rcases k.dX with e|⟨hf,hp⟩
    ·rw[e,bU];rfl
    ·rw[hf.nz,hf.valid,Qh (show¬1000<m.aw.ai by have:=hf.2.1;omega),hp];rfl
   ·simp only[k.aW,k.bW,bU,show decide ((2:Int)=1)=false from rfl,show decide ((2:Int)=3)=false from rfl,decide_true,Qo,Ql,Qa,Qp,Qk]
    rcases k.dX with e|⟨hf,hp⟩
    ·rw[e,bU];rfl
    ·rw[hf.nz,hf.valid,Qh (show¬1000<m.aw.ai by have:=hf.2.1;omega),jj.2 hp];rfl
   ·simp only[k.aW,k.bW,k.dx,k.dX,bU,show decide ((3:Int)=1)=false from rfl,show decide ((3:Int)=2)=false from rfl,decide_true,Qo,Ql,Qa,Qp,Qk]
end
section
def Cz(x:af):(dy x).al=x.al/\(dy x).aK=x.aK/\(dy x).aa=x.aa/\(dy x).bh=x.bh/\(dy x).ar=x.ar/\(dy x).ab=x.ab:=by
 unfold dy;split<;>exact⟨rfl,rfl,rfl,rfl,rfl,rfl⟩
def aag{x:af}(hx:br x):(dy x).aG=x.aG\/(x.aG=0/\(dy x).aG=1):=by
 have:=hx.seq;unfold dy;split
 ·show bD x.aG 1=x.aG\/(x.aG=0/\bD x.aG 1=1);unfold bD;split<;>omega
 ·exact .inl rfl
def CA{m m':af}(he:iK m m')(h:¬m'=m):Dz m m'=false:=by
 cases hs:Dz m m' with
 |false=>rfl
 |true=>exact absurd (ZJ he hs) h
def Zo{R:af->Prop}(hR1:∀m,br m->R m->R (c6 m))(hR2:∀m,R m->R (dy m)){m:af}(h:br m)(hs:fL m)(hr:R m):Yd (yS m) (GN R m):=by
 unfold yS;simp only[etas,Cg h hs,Qa,Qo,Ql];refine Yd.down (λs=>br s.1/\R s.1/\iK m s.1/\(aM m.ab=false->aM s.1.ab=false)) (λs=>K1+K2 - jQ s.1) ?_ ⟨h,hr,iK.refl m,id⟩
 rintro⟨x,z,_⟩ ⟨hx,hrx,hex,hzx⟩;simp only at hx hrx hex hzx;simp only[aQ,Wz hx.ev,Qa,aeg]
 have hgo:∀{y:af},y=c6 x->¬y=x->(br y/\R y/\iK m y/\(aM m.ab=false->aM y.ab=false))/\K1+K2 - jQ y<K1+K2 - jQ x:=by
  rintro y rfl hne;have hv:=O4 x;have hup:=(R4 hx).resolve_left hne;have h1:=UZ (Dw hx);exact⟨⟨Dw hx,hR1 _ hx hrx,⟨hv.aD.trans hex.aD,hv.aI.trans hex.aI,hv.seq.trans hex.seq,hv.aO.trans hex.aO,hv.sw.trans hex.sw,hv.heard.trans hex.heard⟩,λhz=>Ky hx (hzx hz)⟩,by omega⟩
 by_cases hP:cW x=x
 ·simp only[hP,ye,Qk,UE hx.ev,Qa]
  by_cases hS:gl x=x
  ·simp only[hS,ye,Qk,UG hx.ev,Qa]
   by_cases hC:fP x=x
   ·simp only[hC,ye,Qk,adn hx.ev,Qa]
    by_cases hF:iL x=x
    ·simp only[hF,ye,Qk,aaQ hx.ev,Qa];have e:c6 x=fK x:=by unfold c6;rw[Qr hP,Qr hS,Qr hC,Qr hF]
     by_cases hK:fK x=x
     ·simp only[hK,ye,Qk,dg,Qa]
      have hnum:(bif !aM x.ab then Option.map Sum.inr (some (⟨x.al,x.aK,bD x.aG (1:Int),x.aa,x.aP,x.ab,x.ao,x.az,x.aw,x.aY,x.bq,x.bh,x.ar⟩:af))else Option.map (Sum.inr (α:=af×af×Unit)) (some x))=some (Sum.inr (dy x)):=by
       unfold dy;cases aM x.ab<;>rfl
      rw[hnum];obtain⟨e1,e2,e3,e4,e5,e6⟩:=Cz x;refine .some ⟨xi hx,I4 λhz=> ?_,⟨e1.trans hex.aD,e2.trans hex.aI,e3.trans hex.aO,e4.trans hex.sw,e5.trans hex.heard⟩,?_,λhz=>by rw[e6];exact hzx hz,hR2 _ hrx,aah hx ⟨hP,hS,hC,hF,hK⟩⟩
      ·rw[hex.seq];refine hs.zero ?_
       cases hzz:aM m.ab with
       |true=>rfl
       |false=>rw[hzx hzz]at hz;cases hz
      ·have:=aag hx;rw[hex.seq]at this;exact this
     ·simp only[CA (Aw x) hK,Ql];exact .some (hgo e.symm hK)
    ·simp only[CA (xK x) hF,Ql];have e:c6 x=iL x:=by unfold c6;rw[Qr hP,Qr hS,Qr hC,Qs hF]
     exact .some (hgo e.symm hF)
   ·simp only[CA (xL x) hC,Ql];have e:c6 x=fP x:=by unfold c6;rw[Qr hP,Qr hS,Qs hC]
    exact .some (hgo e.symm hC)
  ·simp only[CA (xJ x) hS,Ql];have e:c6 x=gl x:=by unfold c6;rw[Qr hP,Qs hS]
   exact .some (hgo e.symm hS)
 ·simp only[CA (Av x) hP,Ql];have e:c6 x=cW x:=by unfold c6;rw[Qs hP]
  exact .some (hgo e.symm hP)
open Classical in
 def sM(m m2:af):af:=if aM m.ab=false/\{dR m with aG:=0}≠{dR m2 with aG:=0}then{m2 with aG:=dJ (m2.aG+1) 1000000}else m2
def Lv(m m2:af):∃s,sM m m2={m2 with aG:=s}/\(s=m2.aG\/s=dJ (m2.aG+1) 1000000):=by
 unfold sM;split
 ·exact⟨_,rfl,.inr rfl⟩
 ·exact⟨m2.aG,rfl,.inl rfl⟩
def UI{m m2:af}(h:br m2):∃s,sM m m2={m2 with aG:=s}/\m2.aG<=s/\0<=s/\s<=1000000:=by
 obtain⟨s,h1,h2⟩:=Lv m m2;have:=h.seq;refine⟨s,h1,?_⟩;rcases h2 with rfl|rfl
 ·omega
 ·unfold dJ;split<;>omega
def aaT{m m2:af}(h:br m2):br (sM m m2):=by
 obtain⟨s,h1,h2⟩:=UI (m:=m) h;rw[h1];exact OA h h2.2
def adI{m m2:af}(h:br m2)(hs:fL m2)(hnz:aM m.ab=false->aM m2.ab=false):fL (sM m m2):=by
 unfold sM;split
 ·rename_i hc;have:=hs.pos (hnz hc.1);refine⟨λhz=> ?_,λ_=> ?_⟩
  ·rw[show({m2 with aG:=dJ (m2.aG+1) 1000000}:af).ab=m2.ab from rfl,hnz hc.1]at hz
   cases hz
  ·show 1<=dJ (m2.aG+1) 1000000;unfold dJ;split<;>omega
 ·exact hs
def NO(R:af->Prop)(m m1:af)(q:af×Int×Unit):Prop:=∃m2,q=(sM m m2,(0:Int),())/\GN R (dy m1) m2
def adN{R:af->Prop}{m1 m2:af}(h1:br m1)(h:GN R m1 m2):GN R (dy m1) m2:=by
 obtain⟨e1,e2,e3,e4,e5,e6⟩:=Cz m1;refine⟨h.inv,h.seq,?_,?_,λhz=>h.nz (by rw[e6]at hz;exact hz),h.rel,h.fix⟩
 ·obtain⟨a1,a2,a3,a4,a5⟩:=h.env;exact⟨a1.trans e1.symm,a2.trans e2.symm,a3.trans e3.symm,a4.trans e4.symm,a5.trans e5.symm⟩
 ·have hn:=h.num;have hq:=h1.seq
  cases hz:aM m1.ab with
  |true=>
   have:dy m1=m1:=Qs (by rw[hz];decide)
   rw[this];exact hn
  |false=>
   have h3:=h.seq.pos (h.nz hz);have:(dy m1).aG=bD m1.aG 1:=by unfold dy;rw[Qr hz]
   rw[this];left;unfold bD;split<;>omega
def adq{m:af}(h:br m):cQ ({dR m with aG:=0}:aj).aa:=by rw[show({dR m with aG:=0}:aj).aa=(dR m).aa from rfl,vx];exact h.aO.sm
def MA{R:af->Prop}(hR1:∀m,br m->R m->R (c6 m))(hR2:∀m,R m->R (dy m)){m m1:af}(h:br m)(h1:br m1)(hz1:aM m1.ab=true->m1.aG=0)(hnz:aM m.ab=false->aM m1.ab=false)(hr:R m1):
  Yd (pa m (dy m1)) λq=>∃m2,q=sM m m2/\GN R (dy m1) m2:=by
 unfold pa;simp only[etas];refine Yd.bind (Zo hR1 hR2 (xi h1) (I4 hz1) (hR2 _ hr)) λm2 ha=> ?_
 have hq:=ha.inv.seq;obtain⟨r,g1,g2⟩:=ahb (a:={dR m with aG:=0}) (b:={dR m2 with aG:=0}) (adq h)
 have hadd:aA .i64 m2.aG 1=m2.aG+1:=bH (by omega) (by omega)
 simp only[dg,Qa,BW,aQ,g1,hadd]
 cases hz2:aM m2.ab with
 |true=>
  have hz:aM m.ab=true:=by
   cases hc:aM m.ab with
   |true=>rfl
   |false=>rw[ha.nz (by rw[(Cz m1).2.2.2.2.2];exact hnz hc)]at hz2;cases hz2
  refine .some ⟨m2,?_,ha⟩;unfold sM;rw[Qs (by rw[hz];rintro⟨e,_⟩;cases e)]
 |false=>
  refine Yd.of_eq (x:=sM m m2) ?_ ⟨m2,rfl,ha⟩;unfold sM
  cases hz:aM m.ab with
  |true=>rw[Qs (by rintro⟨e,_⟩;cases e)];rfl
  |false=>
   cases r with
   |true=>rw[Qs (λe=>e.2 (g2.1 rfl))];rfl
   |false=>rw[Qr ⟨rfl,λe=>by have:=g2.2 e;cases this⟩];rfl
def aef(a b:aj)(h:cQ a.aa)(hn:a.al=b.al)(hs:a.aK=b.aK):∃r,oE a b=some r/\(r=true↔{a with aG:=0}={b with aG:=0}):=by
 obtain⟨r,h1,h2⟩:=eqT (a:=a.aa) (b:=b.aa) h;refine⟨r&&decide (a.bC=b.bC)&&decide (a.ab=b.ab)&&decide (a.ao=b.ao)&&decide (a.az=b.az)&&decide (a.aY=b.aY)&&decide (a.bq=b.bq),?_,?_⟩
 ·unfold oE;simp only[etas,h1,Qa,VK,VC,<-Bool.decide_and,<-ND,Qa]
 ·rw[VD];simp only[Qm,Qi,hn,hs,h2,true_and];simp only[and_assoc]
def Lq{m:af}(h:br m):pk m=some m:=by
 unfold pk;simp only[etas,kF h.aO.sm,Qa];rw[Ud (λe he=>(h.hv e he).2.1.sm) (by have:=h.len;omega)]
 rfl
def Pl{l:List aj}{e:aj}(hv:bc e=true):
  (∃x∈l,x.al=e.al/\e.aG<=x.aG/\rC l e=(l,false,()))\/
  (∃a b,((∃x,l=a++x::b/\x.al=e.al/\x.aG<e.aG)\/(l=a++b/\(∀x∈l,x.al≠e.al)/\(∀x∈a,¬e.al<x.al)/\(∀x,b.head?=some x->e.al<x.al)))/\rC l e=(a++e::b,true,())):=by
 unfold rC;rw[Qr hv]
 cases hf:l.findIdx? (λx=>decide (x.al=e.al))with
 |some i=>
  obtain⟨hi,h2,_⟩:=List.findIdx?_eq_some_iff_getElem.1 hf;have hx:l[i]?=some l[i]:=Qv hi;have h2:=of_decide_eq_true h2;simp only[hx,Q3]
  by_cases hle:e.aG<=l[i].aG
  ·left;rw[Qr hle];exact⟨l[i],Q0 hi,h2,hle,rfl⟩
  ·right;rw[Qs hle];refine⟨l.take i,l.drop (i+1),.inl ⟨l[i],?_,h2,by omega⟩,?_⟩
   ·rw[List.getElem_cons_drop];exact(List.take_append_drop i l).symm
   ·rw[List.set_eq_take_append_cons_drop,Qr hi]
 |none=>
  right
  have hne:∀x∈l,x.al≠e.al:=λx hx he=>by
   have:=List.findIdx?_eq_none_iff.1 hf x hx;rw[he]at this;simp at this
  refine⟨l.take (G0 l e),l.drop (G0 l e),.inr ⟨(List.take_append_drop _ l).symm,hne,?_,?_⟩,by rw[QL];rfl⟩
  ·intro x hx hlt;obtain⟨j,hj,rfl⟩:=List.getElem_of_mem hx;rw[List.getElem_take]at hlt;rw[List.length_take]at hj;unfold G0 at hj
   cases hg:l.findIdx? (λx=>decide (e.al<x.al))with
   |none=>
    have:=List.findIdx?_eq_none_iff.1 hg _ (Q0 (show j<l.length by omega))
    simp[hlt]at this
   |some k=>
    obtain⟨_,_,h3⟩:=List.findIdx?_eq_some_iff_getElem.1 hg;rw[hg,Q3]at hj;have:=h3 j (by omega)
    simp[hlt]at this
  ·intro x hx;rw[List.head?_drop]at hx;unfold G0 at hx
   cases hg:l.findIdx? (λx=>decide (e.al<x.al))with
   |none=>rw[hg,Option.getD_none,Qq72 (QI _)]at hx;cases hx
   |some k=>
    obtain⟨hk,h2,_⟩:=List.findIdx?_eq_some_iff_getElem.1 hg;rw[hg,Q3,Qv hk]at hx;obtain rfl:=Option.some.inj hx;exact of_decide_eq_true h2
def acx{l:List aj}{e:aj}{y:aj}(hy:y∈(rC l e).1):y=e\/y∈l:=by
 by_cases hv:bc e=true
 ·rcases Pl (l:=l) hv with⟨x,_,_,_,h⟩|⟨a,b,h1,h⟩
  ·rw[h]at hy;exact .inr hy
  ·rw[h]at hy;rcases Qz.1 hy with hy|hy
   ·rcases h1 with⟨x,rfl,_⟩|⟨rfl,_⟩
    ·exact .inr (List.mem_append_left _ hy)
    ·exact .inr (List.mem_append_left _ hy)
   ·rcases QA.1 hy with hy|hy
    ·exact .inl hy
    ·rcases h1 with⟨x,rfl,_⟩|⟨rfl,_⟩
     ·exact .inr (List.mem_append_right _ (Qy _ hy))
     ·exact .inr (List.mem_append_right _ hy)
 ·unfold rC at hy;rw[Qs hv]at hy;exact .inr hy
def Ww{l:List aj}{e:aj}(hl:l.Pairwise (λa b=>a.al<b.al)):(rC l e).1.Pairwise (λa b=>a.al<b.al):=by
 by_cases hv:bc e=true
 ·rcases Pl (l:=l) hv with⟨x,_,_,_,h⟩|⟨a,b,h1,h⟩
  ·rw[h];exact hl
  ·rw[h];show(a++e::b).Pairwise _;rcases h1 with⟨x,rfl,hn,_⟩|⟨rfl,hne,ha,hb⟩
   ·rw[Qq69,Q4]at hl ⊢;obtain⟨g1,⟨g2,g3⟩,g4⟩:=hl;refine⟨g1,⟨λy hy=> ?_,g3⟩,λy hy z hz=> ?_⟩
    ·rw[<-hn];exact g2 y hy
    ·rcases QA.1 hz with rfl|hz
     ·rw[<-hn];exact g4 y hy x Qx
     ·exact g4 y hy z (Qy _ hz)
   ·rw[Qq69]at hl;rw[Qq69,Q4];obtain⟨g1,g3,g4⟩:=hl
    have hbe:∀y∈b,e.al<y.al:=by
     intro y hy
     cases b with
     |nil=>cases hy
     |cons z b=>
      have:=hb z rfl;rcases QA.1 hy with rfl|hy
      ·exact this
      ·have:=(Q4.1 g3).1 y hy;omega
    refine⟨g1,⟨hbe,g3⟩,λy hy z hz=> ?_⟩
    rcases QA.1 hz with rfl|hz
    ·have h2:=ha y hy;have h3:=hne y (List.mem_append_left _ hy);omega
    ·exact g4 y hy z hz
 ·unfold rC;rw[Qs hv];exact hl
structure yQ (m:af) (e:aj):Prop where
 valid:bc e=true
 aO:dO e.aa
 aI:e.aK=m.aK
 aD:e.al≠m.al
 def Ah(m:af)(e:aj):af:={m with ar:=(rC m.ar e).1}
def Gg{m:af}(h:br m){e:aj}(he:yQ m e):br (Ah m e):=by
 refine⟨h.n0,h.n1,h.aI,h.seq,h.aO,h.sw,λy hy=> ?_,Ww h.dn,?_⟩
 ·rcases acx hy with rfl|hy
  ·exact⟨he.valid,he.aO,he.aI,he.aD⟩
  ·exact h.hv y hy
 ·rcases h.body with k|k|k|k
  ·exact .inl ⟨k.aW,k.aZ,k.dx,k.bW,k.dX,k.low,k.cg⟩
  ·exact .inr (.inl ⟨k.aW,k.aZ,k.dx,k.bW,k.dX,k.up,k.cg,k.low⟩)
  ·exact .inr (.inr (.inl ⟨k.aW,k.aZ,k.dx,k.bW,k.dX,k.range⟩))
  ·exact .inr (.inr (.inr ⟨k.aW,k.aZ,k.dx,k.bW,k.dX,k.range⟩))
def abT(m:af)(t:ak):af:={m with aa:=t}
def aaC{m:af}(h:br m){t:ak}(ht:dO t):br (abT m t):=by
 refine⟨h.n0,h.n1,h.aI,h.seq,ht,h.sw,h.hv,h.dn,?_⟩;rcases h.body with k|k|k|k
 ·exact .inl ⟨k.aW,k.aZ,k.dx,k.bW,k.dX,k.low,k.cg⟩
 ·exact .inr (.inl ⟨k.aW,k.aZ,k.dx,k.bW,k.dX,k.up,k.cg,k.low⟩)
 ·exact .inr (.inr (.inl ⟨k.aW,k.aZ,k.dx,k.bW,k.dX,k.range⟩))
 ·exact .inr (.inr (.inr ⟨k.aW,k.aZ,k.dx,k.bW,k.dX,k.range⟩))
def gk(m:af)(v:ByteArray):af:=if aM m.ab=true then{m with bh:=v,ab:=⟨1,eI {m with bh:=v}⟩}else{m with bh:=v}
def acb{v:ByteArray}(h:1<=v.size):v≠gC:=by
 rintro rfl;exact absurd h (by decide)
def RW{m:af}(h:P0 m){v:ByteArray}(hv:1<=v.size):eI {m with bh:=v}=v:=by
 unfold eI;rw[Qs (by rw[show({m with bh:=v}:af).aw=m.aw from rfl,h.dX,bU];decide),Qs (by rw[show({m with bh:=v}:af).aP=m.aP from rfl,h.aW];decide),Qr (acb hv)]
def FO{m:af}(h:br m){v:ByteArray}(hv:1<=v.size/\v.size<=200):br (gk m v):=by
 unfold gk;rcases h.body with k|k|k|k
 ·rw[Qr (by rw[k.aZ];exact bU),RW k hv.1]
  refine⟨h.n0,h.n1,h.aI,h.seq,h.aO,hv.2,h.hv,h.dn,.inr (.inl ⟨k.aW,⟨by show(1:Int)<=1;omega,by show(1:Int)<=1000;omega,hv.1,hv.2⟩,.inl k.dx,.inl k.bW,.inl k.dX,?_,k.cg,.inl k.low⟩)⟩
  show bB _ m.aw=false;rw[k.dX]
  cases hl:bB (⟨1,v⟩:ae) bZ with
  |false=>rfl
  |true=>have:=iI hl;exact absurd (show(1:Int)<=0 from this) (by decide)
 ·rw[Qs (by rw[k.aZ.nz];decide)]
  exact⟨h.n0,h.n1,h.aI,h.seq,h.aO,hv.2,h.hv,h.dn,.inr (.inl ⟨k.aW,k.aZ,k.dx,k.bW,k.dX,k.up,k.cg,k.low⟩)⟩
 ·rw[Qs (by rw[k.aZ.nz];decide)]
  exact⟨h.n0,h.n1,h.aI,h.seq,h.aO,hv.2,h.hv,h.dn,.inr (.inr (.inl ⟨k.aW,k.aZ,k.dx,k.bW,k.dX,k.range⟩))⟩
 ·rw[Qs (by rw[k.aZ.nz];decide)]
  exact⟨h.n0,h.n1,h.aI,h.seq,h.aO,hv.2,h.hv,h.dn,.inr (.inr (.inr ⟨k.aW,k.aZ,k.dx,k.bW,k.dX,k.range⟩))⟩
def BD(m:af):af:={m with aY:=if eI m=m.ab.Value then m.aY else 0,ab:=⟨m.ab.ai+1,eI m⟩}
def ZA{m:af}(h:br m)(h3:m.aP≠3)(hv:eI m≠gC):1<=(eI m).size/\(eI m).size<=200:=by
 have h1:m.aP=1->(m.aw=bZ\/c8 m.aw)->1<=(eI m).size/\(eI m).size<=200:=λhp hc=>by
  refine UR h hp hc ?_;refine Classical.byContradiction λhn=>hv ?_
  simp only[not_or,Classical.not_not]at hn;obtain⟨a1,a2,a3⟩:=hn;unfold eI;rw[Qs (by rw[a3,bU];decide),Qs (by rw[hp];decide),Qs (by rw[a2];exact λe=>e rfl),a1]
  rfl
 rcases h.body with k|k|k|k
 ·exact h1 k.aW (.inl k.dX)
 ·exact h1 k.aW (k.dX.imp_right And.left)
 ·unfold eI;rcases k.dX with e|⟨hf,_⟩
  ·rw[Qs (by rw[e,bU];decide),Qr (by rw[k.aW];decide)]
   exact k.aZ.2.2
  ·rw[Qr hf.nz];exact hf.2.2
 ·exact absurd k.aW h3
def afw{m:af}(k:P2 m):eI m=m.ab.Value:=by
 unfold eI;rcases k.dX with e|⟨hf,he⟩
 ·rw[Qs (by rw[e,bU];decide),Qr (by rw[k.aW];decide)]
 ·rw[Qr hf.nz,he]
def ZD{m:af}(h:br m)(h3:m.aP≠3)(hv:eI m≠gC)(hc:m.ab.ai<1000):br (BD m):=by
 have hsz:=ZA h h3 hv;refine⟨h.n0,h.n1,h.aI,h.seq,h.aO,h.sw,h.hv,h.dn,?_⟩;have hfin:0<=m.ab.ai->c8 (BD m).ab:=λh0=>⟨by show 1<=m.ab.ai+1;omega,by show m.ab.ai+1<=1000;omega,hsz⟩
 rcases h.body with k|k|k|k
 ·have h0:m.ab.ai=0:=by rw[k.aZ];rfl
  refine .inr (.inl ⟨k.aW,hfin (by omega),.inl k.dx,.inl k.bW,.inl k.dX,?_,k.cg,.inl ?_⟩)
  ·show bB (⟨m.ab.ai+1,eI m⟩:ae) m.aw=false;rw[k.dX]
   cases hl:bB (⟨m.ab.ai+1,eI m⟩:ae) bZ with
   |false=>rfl
   |true=>have:=iI hl;exact absurd (show m.ab.ai+1<=0 from this) (by omega)
  ·show(if eI m=m.ab.Value then m.aY else 0)=0
   rw[k.low,ite_self]
 ·have hb:=k.aZ;have h0:0<=m.ab.ai:=by have:=hb.1;omega
  refine .inr (.inl ⟨k.aW,hfin h0,k.dx,k.bW,k.dX,?_,k.cg,?_⟩)
  ·show bB (⟨m.ab.ai+1,eI m⟩:ae) m.aw=false
   cases hl:bB (⟨m.ab.ai+1,eI m⟩:ae) m.aw with
   |false=>rfl
   |true=>
    have h1:=iI hl;have h2:=KM k.up;exact absurd (show m.ab.ai+1<=m.aw.ai from h1) (by omega)
  ·show(if eI m=m.ab.Value then m.aY else 0)=0\/_
   by_cases he:eI m=m.ab.Value
   ·have hlow:(BD m).aY=m.aY:=by show(if eI m=m.ab.Value then m.aY else 0)=m.aY;rw[Qr he]
    have hhigh:ft (BD m)=ft m:=by
     show(if(!aM m.aw&&bQ m.aw ⟨m.ab.ai+1,eI m⟩)=true then m.aw.ai else 0)=ft m
     rw[he];rfl
    rw[Qr he,hlow,hhigh];rcases k.low with e|⟨g1,g2,g3⟩
    ·exact .inl e
    ·refine .inr ⟨g1,g2,?_⟩;show nL m.ao m.az (eI m) m.aY=false;rw[he];exact g3
   ·rw[Qs he];exact .inl rfl
 ·have hb:=k.aZ;have h0:0<=m.ab.ai:=by have:=hb.1;omega
  have hv2:=afw k;have hval:(BD m).ab.Value=m.ab.Value:=hv2;have hlow:(BD m).aY=m.aY:=by show(if eI m=m.ab.Value then m.aY else 0)=m.aY;rw[Qr hv2]
  refine .inr (.inr (.inl ⟨k.aW,hfin h0,?_,k.bW,?_,?_⟩))
  ·rw[hval];exact k.dx
  ·rw[hval];exact k.dX
  ·rw[hlow];exact k.range
 ·exact absurd k.aW h3
end
section
def afv:ak:=⟨0,[],[]⟩
def Ry:af:=⟨0,0,0,afv,0,bZ,bZ,bZ,bZ,0,0,gC,[]⟩
def Yu{m m1:af}(hs:fL m)(hb:aM m1.ab=aM m.ab)(hq:m1.aG=m.aG):dy m1=m1:=by
 refine acR ⟨λhz=> ?_,λhz=> ?_⟩
 ·rw[hq];exact hs.zero (by rw[<-hb];exact hz)
 ·rw[hq];exact hs.pos (by rw[<-hb];exact hz)
def mT{m:af}{v:ByteArray}:(aM m.ab=false->aM (gk m v).ab=false)/\(gk m v).aG=m.aG:=by
 unfold gk;split
 ·rename_i hz;refine⟨λe=> ?_,rfl⟩
  rw[hz]at e;cases e
 ·exact⟨λe=>e,rfl⟩
def Z5{m:af}(h:br m){v:ByteArray}(hv:1<=v.size/\v.size<=200):aM (gk m v).ab=false:=by
 rcases h.body with k|k|k|k
 ·unfold gk;rw[Qr (by rw[k.aZ];exact bU),RW k hv.1]
  exact c8.nz ⟨by show(1:Int)<=1;omega,by show(1:Int)<=1000;omega,hv.1,hv.2⟩
 ·exact mT.1 k.aZ.nz
 ·exact mT.1 k.aZ.nz
 ·exact mT.1 k.aZ.nz
def ab8{m:af}(h:br m):aM (BD m).ab=false:=by
 have:0<=m.ab.ai:=by
  rcases h.body with k|k|k|k
  ·rw[k.aZ];decide
  ·have:=k.aZ.1;omega
  ·have:=k.aZ.1;omega
  ·have:=k.aZ.1;omega
 cases hz:aM (BD m).ab with
 |false=>rfl
 |true=>
  have:=xG.1 hz;have h2:m.ab.ai+1=0:=congrArg ae.ai this;omega
section
variable {R : af -> Prop} (hR1 : ∀ m, br m -> R m -> R (c6 m)) (hR2 : ∀ m, R m -> R (dy m)) {m : af} (h : br m) (hs : fL m)
 include hR1 hR2 h hs
theorem KE{v:ByteArray}(hv:1<=v.size/\v.size<=200)(hr:R (gk m v)):Yd (na m v) (NO R m (gk m v)):=by
 have d1:decide (((ByteArray.size v:Nat):Int)<(1:Int))=false:=Qh (by omega)
 have d2:decide ((200:Int)<((ByteArray.size v:Nat):Int))=false:=Qh (by omega)
 have hi:=FO h hv;have hval:td {m with bh:=v}=some (eI {m with bh:=v}):=UQ (m:={m with bh:=v}) ⟨h.ev.n0,h.ev.n1,h.ev.aO,h.ev.len,h.ev.sm,h.ev.valid⟩
 unfold na;simp only[etas,Cg h hs,Qa,Qo,Ql,d1,d2,dg,aQ]
 have key:Yd ((pa m (dy (gk m v))).bind λr5=>some (r5,(0:Int),())) (NO R m (gk m v)):=
  Yd.bind (MA hR1 hR2 h hi (λhz=>by rw[mT.2];exact hs.zero (by cases hc:aM m.ab with|true=>rfl|false=>rw[mT.1 hc]at hz;cases hz)) mT.1 hr) λq hq=>by
   obtain⟨m2,rfl,ha⟩:=hq;exact .some ⟨m2,rfl,ha⟩
 cases hz:aM m.ab with
 |true=>
  have hsq:=hs.zero hz
  have he:dy (gk m v)=⟨m.al,m.aK,1,m.aa,m.aP,⟨1,eI {m with bh:=v}⟩,m.ao,m.az,m.aw,m.aY,m.bq,v,m.ar⟩:=by
   unfold dy;rw[Qr (Z5 h hv),mT.2,hsq];unfold gk;rw[Qr hz];rfl
  rw[he]at key;simp only[Qk];rw[show(⟨m.al,m.aK,m.aG,m.aa,m.aP,m.ab,m.ao,m.az,m.aw,m.aY,m.bq,v,m.ar⟩:af)={m with bh:=v}from rfl,hval]
  exact key
 |false=>
  have he:dy (gk m v)=⟨m.al,m.aK,m.aG,m.aa,m.aP,m.ab,m.ao,m.az,m.aw,m.aY,m.bq,v,m.ar⟩:=by
   rw[Yu hs (by rw[mT.1 hz,hz]) mT.2]
   unfold gk;rw[Qs (by rw[hz];decide)]
  rw[he]at key;exact key
theorem Sj{e:aj}(he:yQ m e)(hr:R (Ah m e)):Yd (lg m e) λq=>(NO R m (Ah m e) q/\(rC m.ar e).2.1=true)\/(q=(Ry,(9:Int),())/\(rC m.ar e).2.1=false):=by
 have hi:=Gg h he;have hlen:=h.len;have hput:=acj (l:=m.ar) (λx hx=>(h.hv x hx).2.1.sm) (by omega) (e:=e) he.aO.sm
 have hid:dy (Ah m e)=Ah m e:=Yu hs rfl rfl;unfold lg;simp only[etas,Cg h hs,Qa,Qo,Ql,jC he.aO.sm,he.valid,Qh he.aD,Qg he.aI,hput]
 cases hp:(rC m.ar e).2.1 with
 |false=>exact .some (.inr ⟨rfl,rfl⟩)
 |true=>
  have:=MA hR1 hR2 h hi hs.zero (λe=>e) hr
  rw[hid]at this;refine Yd.bind this λq hq=> ?_
  obtain⟨m2,rfl,ha⟩:=hq;exact .some (.inl ⟨⟨m2,rfl,by rw[hid];exact ha⟩,rfl⟩)
end
def KN(aD aI:Int)(t:ak):af:=⟨aD,aI,0,t,1,bZ,bZ,bZ,bZ,0,0,gC,[]⟩
def ZV{aD aI:Int}{t:ak}(h0:0<=aD)(h1:aD<10)(h2:1<=aI)(h3:aI<=1000000)(ht:dO t):Ex aD aI t=some (KN aD aI t,(0:Int),()):=by
 unfold Ex;simp only[etas,Qh (show¬aD<0 by omega),Qh (show¬(9:Int)<aD by omega),Qh (show¬aI<1 by omega),Qh (show¬(1000000:Int)<aI by omega),Ql,Qa,eH ht,decide_true,Qo]
 rfl
def ag6{aD aI:Int}{t:ak}(h0:0<=aD)(h1:aD<10)(h2:1<=aI)(h3:aI<=1000000)(ht:dO t):xd aD aI t=some (KN aD aI t,(0:Int),()):=by
 unfold xd;simp only[etas,Qh (show¬aD<0 by omega),Qh (show¬(10:Int)<=aD by omega),Qh (show¬aI<1 by omega),Qh (show¬(1000000:Int)<aI by omega),Ql,Qa,eC ht,decide_true,Qo,kF ht.sm]
 rfl
def Oh{aD aI:Int}{t:ak}(h0:0<=aD)(h1:aD<10)(h2:1<=aI)(h3:aI<=1000000)(ht:dO t):br (KN aD aI t)/\fL (KN aD aI t):=
 ⟨⟨h0,h1,⟨h2,h3⟩,⟨by show(0:Int)<=0;omega,by show(0:Int)<=1000000;omega⟩,ht,(by show gC.size<=200;decide),(λe he=>absurd he QR),List.Pairwise.nil,.inl ⟨rfl,rfl,rfl,rfl,rfl,rfl,rfl⟩⟩,⟨λ_=>rfl,λhz=>absurd (show aM bZ=false from hz) (by rw[bU];decide)⟩⟩
section
variable {R : af -> Prop} (hR1 : ∀ m, br m -> R m -> R (c6 m)) (hR2 : ∀ m, R m -> R (dy m)) {m : af} (h : br m) (hs : fL m)
 include hR1 hR2 h hs
theorem TJ{m1:af}(h1:br m1)(hz1:aM m1.ab=true->m1.aG=0)(hnz:aM m.ab=false->aM m1.ab=false)(hn:m1.al=m.al)(hsl:m1.aK=m.aK)(hr:R m1):
  Yd (Option.bind (gA ⟨m1⟩) λp4=>
   bb (λ(v5:aJ×Unit)=>some (v5.1.ah,(0:Int),())) λj6=>
   bb (λ(v7:Bool×Unit)=>
   bif v7.1 then
   j6 ((aJ.mk (af.mk p4.2.ah.al p4.2.ah.aK (dJ (aA .i64 p4.2.ah.aG (1:Int)) (1000000:Int)) p4.2.ah.aa p4.2.ah.aP p4.2.ah.ab p4.2.ah.ao p4.2.ah.az p4.2.ah.aw p4.2.ah.aY p4.2.ah.bq p4.2.ah.bh p4.2.ah.ar)),())
   else
   j6 (p4.2,())) λj8=>
   Option.bind (bA m.ab) λr9=>
   bif (!r9)then
   Option.bind (eB m) λr10=>
   Option.bind (eB p4.2.ah) λr11=>
   Option.bind (oE r10 r11) λr12=>
   j8 ((!r12),())
   else
   j8 (false,())) (NO R m m1):=by
 refine Yd.bind (Zn hR1 hR2 h1 hz1 hr) λq hq=> ?_
 obtain⟨m2,rfl,ha⟩:=hq;have hq:=ha.inv.seq;have hadd:aA .i64 m2.aG 1=m2.aG+1:=bH (by omega) (by omega)
 obtain⟨r,g1,g2⟩:=aef (dR m) (dR m2) (by rw[vx];exact h.aO.sm) (by rw[xQ,xQ,ha.env.1,hn]) (by rw[DP,DP,ha.env.2.1,hsl])
 simp only[aQ,df,Qa,DG,I5 h,I5 ha.inv,hadd,g1];have hb:=adN h1 ha;refine Yd.of_eq (x:=(sM m m2,(0:Int),())) ?_ ⟨m2,rfl,hb⟩;unfold sM
 cases hz:aM m.ab with
 |true=>rw[Qs (by rintro⟨e,_⟩;cases e)];rfl
 |false=>
  cases r with
  |true=>rw[Qs (λe=>e.2 (g2.1 rfl))];rfl
  |false=>rw[Qr ⟨rfl,λe=>by have:=g2.2 e;cases this⟩];rfl
theorem aac{v:ByteArray}(hv:1<=v.size/\v.size<=200)(hr:R (gk m v)):Yd (nS m v) (NO R m (gk m v)):=by
 have d1:decide (((ByteArray.size v:Nat):Int)<(1:Int))=false:=Qh (by omega)
 have d2:decide ((200:Int)<((ByteArray.size v:Nat):Int))=false:=Qh (by omega)
 have hi:=FO h hv;have hval:ij ⟨{m with bh:=v}⟩=some (eI {m with bh:=v}):=Sr (m:={m with bh:=v}) ⟨h.ev.n0,h.ev.n1,h.ev.aO,h.ev.len,h.ev.sm,h.ev.valid⟩
 have hdo:pD ⟨m⟩ v=some ((0:Int),⟨gk m v⟩):=by
  unfold pD gk;simp only[d1,d2,Ql,Qa,df,aQ]
  cases hz:aM m.ab with
  |true=>
   simp only[Qk,Qt,etas];rw[show(⟨m.al,m.aK,m.aG,m.aa,m.aP,m.ab,m.ao,m.az,m.aw,m.aY,m.bq,v,m.ar⟩:af)={m with bh:=v}from rfl,hval]
   rfl
  |false=>simp only[Ql,Qq,Qu,etas]
 unfold nS sf;simp only[etas,aJ.eta,Fa h hs,Lq h,hdo,Qa,Qo,Ql,decide_true];refine Yd.bind (TJ hR1 hR2 h hs hi (λhz=>by rw[mT.2];exact hs.zero (by cases hc:aM m.ab with|true=>rfl|false=>rw[mT.1 hc]at hz;cases hz)) mT.1 (by unfold gk;split<;>rfl) (by unfold gk;split<;>rfl) hr) λq hq=> ?_
 obtain⟨m2,rfl,ha⟩:=hq;exact .some ⟨m2,rfl,ha⟩
theorem aab{e:aj}(he:yQ m e)(hr:R (Ah m e)):Yd (jy m e) λq=>(NO R m (Ah m e) q/\(rC m.ar e).2.1=true)\/(q=(Ry,(9:Int),())/\(rC m.ar e).2.1=false):=by
 have hi:=Gg h he;have hlen:=h.len;have hput:=afk (l:=m.ar) (λx hx=>(h.hv x hx).2.1.sm) (by omega) (e:=e) he.aO.sm
 have hdo:jO ⟨m⟩ e=some (bif (rC m.ar e).2.1 then((0:Int),⟨Ah m e⟩)else((9:Int),⟨m⟩)):=by
  unfold jO;simp only[etas,aQ,qP he.aO.sm,he.valid,Qa,Qo,Ql,Qh he.aD,Qg he.aI,hput];cases (rC m.ar e).2.1<;>rfl
 unfold jy nh;simp only[etas,aJ.eta,Fa h hs,Lq h,hdo,Qa,Qo,Ql]
 cases hp:(rC m.ar e).2.1 with
 |false=>exact .some (.inr ⟨rfl,rfl⟩)
 |true=>
  simp only[Qk,decide_true,Qo,Ql];refine Yd.bind (TJ hR1 hR2 h hs hi hs.zero (λe=>e) rfl rfl hr) λq hq=> ?_
  obtain⟨m2,rfl,ha⟩:=hq;exact .some (.inl ⟨⟨m2,rfl,ha⟩,trivial⟩)
end
def KJ{m:af}(h:br m)(hs:fL m):nT m=some (bif decide (m.aP=3)then m.ab.Value else gC,decide (m.aP=3),()):=by
 unfold nT;simp only[etas,Fa h hs,Qa];cases decide (m.aP=3)<;>rfl
def acG{m:af}(h:br m)(hs:fL m){e:aj}(ht:cQ e.aa)(hbad:bc e=false\/e.al=m.al\/e.aK≠m.aK):jy m e=some (Ry,(61:Int),()):=by
 have hdo:jO ⟨m⟩ e=some ((61:Int),⟨m⟩):=by
  unfold jO;simp only[etas,aQ,qP ht,Qa]
  cases hv:bc e with
  |false=>rfl
  |true=>
   by_cases hn:e.al=m.al
   ·rw[Qg hn];rfl
   ·have hsl:e.aK≠m.aK:=(hbad.resolve_left (by rw[hv];decide)).resolve_left hn
    rw[Qh hn,Qh hsl];rfl
 unfold jy nh;simp only[etas,aJ.eta,Fa h hs,Lq h,hdo,Qa,Qo,Ql];rfl
end
section
structure GK (n:Nat) (k:Int) (m:af):Prop where
 n10:n<=10
 k1:1<=k
 kn:k<=n
 aO:m.aa=flat n k
 heard:∀e∈m.ar,e.aa=flat n k
section
variable {n : Nat} {k : Int} {m : af} (h : br m) (hf : GK n k m)
 include h
 include hf
end
section
variable {l : List aj} (hv : ∀ e ∈ l, bc e = true) (hsm : ∀ e ∈ l, cQ e.aa) (hlen : l.length <= 1000)
 include hv hsm hlen
end
section
variable {n : Nat} {k : Int} {m : af} (h : br m) (hf : GK n k m)
 include h hf
end
section
variable {n : Nat} {k : Int} {m : af} (h : br m) (hf : GK n k m)
 include h hf
end
def GK.step{n:Nat}{k:Int}{m m':af}(hf:GK n k m)(he:iK m m'):GK n k m':=⟨hf.n10,hf.k1,hf.kn,by rw[he.aO];exact hf.aO,by rw[he.heard];exact hf.heard⟩
structure abY (n:Nat) (k:Int) (m:af):Prop where
 inv:br m
 seq:fL m
 flat:GK n k m
 nz:aM m.ab=false
 aI:m.aK=1
def abY.env{n:Nat}{k:Int}{m:af}(h:abY n k m):bc (dR m)=true/\(dR m).aa=Go.Proofs.YtofedieniojipaaGreat.flat n k/\(dR m).aK=1:=⟨Og h.inv h.seq h.nz,by rw[vx];exact h.flat.aO,by rw[DP];exact h.aI⟩
end
section
section
variable {n : Nat} {k : Int}
end
end
section
section
variable {n : Nat} {k : Int} (hn : n <= 10) (hk1 : 1 <= k) (hkn : k <= n) {i : Int} (hi0 : 0 <= i) (hi9 : i < 10) {v : ByteArray} (hv : 1 <= v.size /\ v.size <= 200)
 include hn hk1 hkn hi0 hi9
 include hv
end
end
section
def IP(m m1:af):Prop:=
 (∃v,(1<=v.size/\v.size<=200)/\m1=gk m v)\/(∃e,yQ m e/\m1=Ah m e)\/(m.aP≠3/\eI m≠gC/\m.ab.ai<1000/\m1=BD m)\/(∃t,dO t/\m1=abT m t)
structure agq (m m1:af):Prop where
 inv:br m1
 aD:m1.al=m.al
 aI:m1.aK=m.aK
 seq:m1.aG=m.aG
 nz:aM m.ab=false->aM m1.ab=false
def aaV{m m1:af}(h:br m)(hb:IP m m1):agq m m1:=by
 rcases hb with⟨v,hv,rfl⟩|⟨e,he,rfl⟩|⟨h3,hv,hc,rfl⟩|⟨t,ht,rfl⟩
 ·exact⟨FO h hv,by unfold gk;split<;>rfl,by unfold gk;split<;>rfl,mT.2,mT.1⟩
 ·exact⟨Gg h he,rfl,rfl,rfl,λe=>e⟩
 ·exact⟨ZD h h3 hv hc,rfl,rfl,rfl,λ_=>ab8 h⟩
 ·exact⟨aaC h ht,rfl,rfl,rfl,λe=>e⟩
structure OkM (m:af):Prop where
 inv:br m
 seq:fL m
 fix:IL m
 aD:m.al=0
 aI:m.aK=1
def U3{m:af}(h:br m)(hs:fL m){e:aj}(ht:cQ e.aa)(hbad:bc e=false\/e.al=m.al\/e.aK≠m.aK):lg m e=some (Ry,(61:Int),()):=by
 unfold lg;simp only[etas,Cg h hs,Qa,Qo,Ql,jC ht]
 cases hv:bc e with
 |false=>rfl
 |true=>
  by_cases hn:e.al=m.al
  ·rw[Qg hn];rfl
  ·have hsl:e.aK≠m.aK:=(hbad.resolve_left (by rw[hv];decide)).resolve_left hn
   rw[Qh hn,Qh hsl];rfl
def Hk{v:ByteArray}(h:NI v):1<=v.size/\v.size<=200:=by
 have:=h.size;omega
end
section
abbrev Lp{σ ρ:Type}(I:σ->Prop)(p:ρ->Prop):σ⊕ρ->Prop
 | .inl s=>I s
 | .inr r=>p r
def Yd.DR{σ ρ:Type}{step:σ->Option (σ⊕ρ)}{p:ρ->Prop}(inv:σ->Prop)(μ:σ->Nat)(h:∀s,inv s->Yd (step s) (Lp (λs'=>inv s'/\μ s'<μ s) p)){s:σ}(hs:inv s):Yd (aB step s) p:=
 Yd.down inv μ (λs hi=>(h s hi).mono λy hy=>by cases y<;>exact hy) hs
def Yd.list{α σ τ ρ:Type}{p:ρ->Prop}{step:τ->Option (τ⊕ρ)}(l:List α)(hl:l.length<=1000000)(mk:Int->σ->τ)(inv:Nat->σ->Prop)
  (h1:∀(i:Nat) (x:α) (s:σ),inv i s->l.drop i=x::l.drop (i+1)->x∈l->i<l.length->decide ((i:Int)<(l.length:Int))=true->idx l (i:Int)=some x->aA .i64 (i:Int) 1=((i+1:Nat):Int)->Yd (step (mk (i:Int) s)) (Lp (λt=>∃s',t=mk ((i+1:Nat):Int) s'/\inv (i+1) s') p))
  (h2:∀s,inv l.length s->decide ((l.length:Int)<(l.length:Int))=false->Yd (step (mk (l.length:Int) s)) (Lp (λ_=>False) p))
  {s:σ} (h0:inv 0 s):Yd (aB step (mk 0 s)) p:=by
 suffices key:∀(k i:Nat) (s:σ),i+k=l.length->inv i s->Yd (aB step (mk (i:Int) s)) p from key l.length 0 s (by omega) h0
 intro k
 induction k with
 |zero=>
  intro i s hi hs;obtain rfl:i=l.length:=by omega
  refine Yd.loop ((h2 s hs (Qh (Qq64 _))).mono λy hy=> ?_)
  cases y with
  |inl t=>exact hy.elim
  |inr r=>exact hy
 |succ k ih=>
  intro i s hi hs;have hi':i<l.length:=by omega
  refine Yd.loop ((h1 i l[i] s hs (QM hi') (Q0 hi') hi' (Qg (by omega)) (by rw[bg];exact Qv hi') (bH (by omega) (by omega))).mono λy hy=> ?_)
  cases y with
  |inl t=>
   grind
  |inr r=>exact hy
def kP(x:ByteArray):Prop:=1<=x.size/\x.size<=200
instance (x:ByteArray):Decidable (kP x):=by unfold kP;infer_instance
def Y3:∀(x:ByteArray) (l:List ByteArray),Decidable (x∈l)
 |_,[]=>isFalse QR
 |x,y::l=>if h:x=y then isTrue (by rw[h];exact Qx)else match Y3 x l with
  |isTrue h2=>isTrue (Qy _ h2)
  |isFalse h2=>isFalse λe=>(QA.1 e).elim h h2
instance (x:ByteArray) (l:List ByteArray):Decidable (x∈l):=Y3 x l
structure VL (l:List ByteArray):Prop where
 qJ:∀x∈l,kP x
 Ff:l.Pairwise (λa b=>bO a b=true)
 len:l.length<=40
def VL.nil:VL []:=⟨λx h=>absurd h QR,List.Pairwise.nil,by simp⟩
def VL.uA{l:List ByteArray}(h:VL l):l.length<=1000000:=QK h.len (by omega)
def DU(a b:ByteArray):Int:=if a=b then 0 else if bO a b=true then -1 else 1
theorem zy(a b:ByteArray):jL a b=some (DU a b):=by
 grind [jL,DU,bO,kO]
theorem DT{a b:ByteArray}:decide (DU a b<0)=bO a b:=by
 unfold DU
 by_cases h:a=b
 ·subst h;rw[Qr rfl,jd.irrefl];rfl
 ·rw[Qs h];cases bO a b<;>rfl
theorem Iz{a b:ByteArray}:decide (0<DU a b)=bO b a:=by
 unfold DU
 by_cases h:a=b
 ·subst h;rw[Qr rfl,jd.irrefl];rfl
 ·rw[Qs h]
  cases h1:bO a b with
  |true=>rw[jd.asymm h1];rfl
  |false=>
   cases h2:bO b a with
   |true=>rfl
   |false=>exact absurd (jd.total _ _ h1 h2) h
def Xm{a b:ByteArray}:decide (0<=DU a b)= !bO a b:=by
 rw[<-DT (a:=a) (b:=b)]
 grind
def Ma(x:ByteArray):w9 x=some (decide (kP x)):=by
 grind [w9,kP]
def HF(l:List ByteArray)(hl:l.length<=1000000)(x:ByteArray):ow l x=some (decide (x∈l)):=by
 unfold ow
 have h:Yd (aB (λ(v1:Int×Unit)=>
   bif (decide (v1.1<((List.length l:Nat):Int)))then
   Option.bind (idx l v1.1) λx2=>
   bif (decide (x=x2))then
   Option.map Sum.inr (some true)
   else
   some (Sum.inl ((aA .i64 v1.1 (1:Int)),()))
   else
   Option.map Sum.inr (some false)) ((0:Int),())) (λb=>b=decide (x∈l)):=by
  refine Yd.list l hl (λi (_:Unit)=>(i,())) (λi _=>x∉l.take i) ?_ ?_ (s:=()) (by simp)
  ·intro i y s hs hd hy hi hdec hx hadd;simp only;rw[hdec,Qk,hx,Qa,hadd]
   by_cases hxy:x=y
   ·rw[Qg hxy,Qk];exact .some (by subst hxy;exact(Qg hy).symm)
   ·rw[Qh hxy,Ql];refine .some ⟨(),rfl,?_⟩
    have hi2:l[i]?=some y:=by
     rw[bg]at hx;exact hx
    rw[List.take_add_one,hi2];simp only[Option.toList_some,Qz,Q5];exact λh=>h.elim hs hxy
  ·intro s hs hdec;simp only;rw[hdec,Ql];rw[Qq62]at hs;exact .some (Qh hs).symm
 obtain⟨b,h1,rfl⟩:=h;exact h1
def SU{α:Type}[DecidableEq α]{lt:α->α->Bool}(x:α):∀(l:List α),x∉l->(dL lt x l).length=l.length+1
 |[],_=>rfl
 |y::l,h=>by
  have h1:y≠x:=λe=>h (by rw[e];exact Qx)
  rw[dL]
  by_cases h2:lt y x=true
  ·rw[Qr h2,QE,SU x l (λe=>h (Qy _ e)),QE]
  ·rw[Qs h2,Qs h1];rfl
def lQ(l:List ByteArray)(x:ByteArray):List ByteArray:=if x∈l\/40<=l.length then l else dL bO x l
def HC{l:List ByteArray}(h:VL l)(x:ByteArray):ou l x=some (lQ l x):=by
 have hl:=h.len;unfold ou lQ;rw[HF l h.uA,Qa]
 by_cases hx:x∈l
 ·grind
 rw[Qh hx];simp only[Ql,Qa]
 by_cases h40:40<=l.length
 ·grind
 rw[Qh (by omega:¬(40:Int)<=(l.length:Int)),Qs (λe=>e.elim hx h40)]
 simp only[Ql,aQ];have hk:∀n,n<=100->bl 16 n=true:=λn hn=>bK ⟨by omega,by omega⟩
 have:=Yd.list (p:=λr=>r=dL bO x l) (step:=λ(v3:Bool×Int×(List ByteArray)×Unit)=>
   bif (decide (v3.2.1<((List.length l:Nat):Int)))then
   Option.bind (idx l v3.2.1) λx4=>
   Option.bind (bif (!v3.1)then
   Option.bind (jL x x4) λr7=>
   some (decide (r7<(0:Int)))
   else some false) λb8=>
   bif b8 then
   bif bl 16 (List.length v3.2.2.1+List.length [x])then
   bif bl 16 (List.length (v3.2.2.1++[x])+List.length [x4])then
   some (Sum.inl (true,(aA .i64 v3.2.1 (1:Int)),((v3.2.2.1++[x])++[x4]),()))
   else none
   else none
   else
   bif bl 16 (List.length v3.2.2.1+List.length [x4])then
   some (Sum.inl (v3.1,(aA .i64 v3.2.1 (1:Int)),(v3.2.2.1++[x4]),()))
   else none
   else
   Option.map Sum.inr (
   bif (!v3.1)then
   bif bl 16 (List.length v3.2.2.1+List.length [x])then
   some (v3.2.2.1++[x])
   else none
   else
   some v3.2.2.1)) l h.uA (λi (s:Bool×List ByteArray)=>(s.1,i,s.2,()))
   (λi s=>s.2.length<=2*i/\(s.1=false->s.2++dL bO x (l.drop i)=dL bO x l)/\(s.1=true->s.2++l.drop i=dL bO x l)) ?_ ?_ (s:=(false,[])) ⟨by simp,λ_=>by simp,λe=>by cases e⟩
 ·obtain⟨r,h1,rfl⟩:=this;exact h1
 ·rintro i y ⟨d,out⟩ ⟨hs1,hs2,hs3⟩ hd hy hi hdec hx' hadd;simp only at hs1 hs2 hs3;simp only;rw[hdec,Qk,hx',Qa,hadd,zy,Qa,DT];have hne:y≠x:=λe=>hx (by rw[<-e];exact hy)
  have k1:bl 16 (out.length+[x].length)=true:=hk _ (by simp only[Q6];omega)
  have k2:bl 16 ((out++[x]).length+[y].length)=true:=hk _ (by simp only[QB,Q6];omega)
  have k3:bl 16 (out.length+[y].length)=true:=hk _ (by simp only[Q6];omega)
  rw[k1,k2,k3]
  cases d with
  |true=>
   simp only[Qo,Ql,Qa,Qk];refine .some ⟨(true,out++[y]),rfl,by simp only[QB,Q6];omega,λe=>(by cases e),λ_=> ?_⟩
   rw[<-hs3 rfl,hd,QL];rfl
  |false=>
   have hs2:=hs2 rfl;rw[hd,dL]at hs2;simp only[Qp,Qk,Qa]
   cases hxy:bO x y with
   |true=>
    simp only[Qk];rw[Qs (by rw[jd.asymm hxy];simp),Qs hne]at hs2
    refine .some ⟨(true,(out++[x])++[y]),rfl,by simp only[QB,Q6];omega,λe=>(by cases e),λ_=> ?_⟩
    grind
   |false=>
    simp only[Ql]
    have hyx:bO y x=true:=by
     cases hh:bO y x with
     |true=>rfl
     |false=>exact absurd (jd.total _ _ hh hxy) hne
    rw[Qr hyx]at hs2;refine .some ⟨(false,out++[y]),rfl,by simp only[QB,Q6];omega,λ_=> ?_,λe=>by cases e⟩
    rw[<-hs2,QL];rfl
 ·rintro⟨d,out⟩ ⟨hs1,hs2,hs3⟩ hdec;simp only at hs1 hs2 hs3;simp only;have k1:bl 16 (out.length+[x].length)=true:=hk _ (by simp only[Q6];omega)
  rw[hdec,Ql,k1]
  cases d with
  |true=>
   have:=hs3 rfl;rw[Qq66,List.append_nil]at this;exact .some this
  |false=>
   have:=hs2 rfl;rw[Qq66]at this;exact .some this
def tl{l:List ByteArray}(h:VL l){x:ByteArray}(hx:kP x):VL (lQ l x)/\(∀y∈l,y∈lQ l x)/\(∀y∈lQ l x,y=x\/y∈l)/\(x∉l->l.length<40->(lQ l x).length=l.length+1):=by
 unfold lQ
 by_cases h1:x∈l\/40<=l.length
 ·grind
 ·rw[Qs h1];have hm:=FX (lt:=bO) x l;have hlen:=uI (lt:=bO) x l;have h2:¬40<=l.length:=λe=>h1 (.inr e)
  refine⟨⟨λy hy=> ?_,jd.dL x h.Ff,by omega⟩,λy hy=>(hm y).2 (.inr hy),λy hy=>(hm y).1 hy,λh3 _=>SU x l h3⟩
  rcases(hm y).1 hy with rfl|hy
  ·exact hx
  ·exact h.qJ y hy
def HD{l:List ByteArray}(h:VL l):nr l=some true:=by
 unfold nr;refine Yd.eq_true (Yd.list l h.uA (λi (_:Unit)=>(i,())) (λ_ _=>True) ?_ ?_ (s:=()) trivial)
 ·intro i y s hs hd hy hi hdec hx hadd;simp only;rw[hdec,Qk,hx,Qa,Ma,Qa,Qg (h.qJ y hy),hadd];simp only[Qo,Ql]
  by_cases h0:i=0
  ·subst h0;rw[Qh (by omega:¬(0:Int)<((0:Nat):Int))]
   exact .some ⟨(),rfl,trivial⟩
  ·rw[Qg (by omega:(0:Int)<(i:Int))]
   simp only[Qk];have hsub:cU .i64 (i:Int) 1=((i - 1:Nat):Int):=by rw[pz (by omega) (by have:=h.len;omega)];omega
   have hi1:i - 1<l.length:=by omega
   rw[hsub,bg,Qv hi1,Qa,zy,Qa,Xm]
   have hyi:y=l[i]:=by
    grind [bg]
   have hlt:bO l[i - 1] y=true:=by
    rw[hyi];exact List.pairwise_iff_getElem.1 h.Ff (i - 1) i hi1 hi (by omega)
   rw[hlt];exact .some ⟨(),rfl,trivial⟩
 ·intro s hs hdec;simp only;rw[hdec,Ql,Qg (by have:=h.len;omega:(l.length:Int)<=(40:Int))]
  exact .some rfl
def Md{s t:List ByteArray}(h:s.length<=1000000):∃b,rV s t=some b/\(b=true↔s=t):=by
 unfold rV
 by_cases hl:s.length=t.length
 ·rw[Qg (by omega:(s.length:Int)=(t.length:Int)),Qo,Ql]
  refine TY hl h (λi hi hi' hd hx hy hw=> ?_) (λhd=> ?_)
  ·simp only;rw[hd,Qk,hx,hy,Qa,Qa,hw]
   by_cases he:s[i]=t[i]
   ·rw[Qg he];exact⟨true,rfl,by simp[he]⟩
   ·rw[Qh he];exact⟨false,rfl,by simp[he]⟩
  ·simp only;rw[hd,Ql];rfl
 ·rw[Qh (by omega:¬(s.length:Int)=(t.length:Int))]
  exact⟨false,rfl,MK hl⟩
def Mb{a b:List ByteArray}{n:Nat}(hn:a.length+b.length<=n)(h:n<=100000):Yd (kc a b) λr=>r.length<=n/\∀x∈r,x∈a\/x∈b:=by
 unfold kc;simp only[aQ];refine Yd.DR (λ(v:Int×Int×List ByteArray×Unit)=>∃i k:Nat,v.1=i/\v.2.1=k/\i<=a.length/\k<=b.length/\v.2.2.1.length<=i+k/\∀x∈v.2.2.1,x∈a\/x∈b) (λv=>a.length+b.length - (v.1.toNat+v.2.1.toNat)) ?_ ⟨0,0,rfl,rfl,by omega,by omega,by simp,λx hx=>absurd hx QR⟩
 rintro⟨i',k',out,u⟩ ⟨i,k,e1,e2,hi,hk,hlen,hmem⟩;simp only at e1 e2 hlen hmem;subst e1 e2;have kk:∀x:ByteArray,bl 16 (out.length+[x].length)=true:=λx=>bK ⟨by simp only[Q6];omega,by simp only[Q6];omega⟩
 have hi1:aA .i64 (i:Int) 1=((i+1:Nat):Int):=bH (by omega) (by omega)
 have hk1:aA .i64 (k:Int) 1=((k+1:Nat):Int):=bH (by omega) (by omega)
 have ga:i<a.length->∃x∈a,idx a (i:Int)=some x:=λh=>⟨a[i],Q0 h,by rw[bg];exact Qv h⟩
 have gb:k<b.length->∃x∈b,idx b (k:Int)=some x:=λh=>⟨b[k],Q0 h,by rw[bg];exact Qv h⟩
 have fin1:∀(x:ByteArray) (j1 j2:Nat),(x∈a\/x∈b)->j1<=a.length->j2<=b.length->i+k<j1+j2->Yd (bif bl 16 (out.length+[x].length)then some (Sum.inl (((j1:Nat):Int),((j2:Nat):Int),(out++[x]),()))else(none:Option ((Int×Int×List ByteArray×Unit)⊕List ByteArray)))
   (Lp (λs'=>(∃i k:Nat,s'.1=i/\s'.2.1=k/\i<=a.length/\k<=b.length/\s'.2.2.1.length<=i+k/\∀x∈s'.2.2.1,x∈a\/x∈b)/\a.length+b.length - (s'.1.toNat+s'.2.1.toNat)<a.length+b.length - ((i:Int).toNat+(k:Int).toNat)) (λr=>r.length<=n/\∀x∈r,x∈a\/x∈b)):=by
  intro x j1 j2 hx h1 h2 h3;rw[kk x,Qk];refine .some ⟨⟨j1,j2,rfl,rfl,h1,h2,?_,?_⟩,?_⟩
  ·simp only[QB,Q6];omega
  ·intro y hy;rcases Qz.1 hy with hy|hy
   ·exact hmem y hy
   ·rw[Q5.1 hy];exact hx
  ·simp only[QV];omega
 simp only
 by_cases c1:i<a.length
 ·obtain⟨x,hx,ex⟩:=ga c1;rw[Qg (by omega:(i:Int)<(a.length:Int))]
  simp only[Qk,Qa]
  grind [zy,DT,Iz,bO]
 ·rw[Qh (by omega:¬(i:Int)<(a.length:Int))]
  simp only[Ql]
  by_cases c2:k<b.length
  ·grind
  ·rw[Qh (by omega:¬(k:Int)<(b.length:Int))]
   simp only[Ql,Qa];exact .some ⟨by omega,hmem⟩
def Wp{l:List ByteArray}(h:l.length<=1000000):Yd (nO l) λr=>r.2.1=true->kP r.1:=by
 unfold nO;simp only[aQ];refine Yd.list l h (λi (s:ByteArray×Bool)=>(s.1,s.2,i,())) (λ_ s=>s.2=true->kP s.1) ?_ ?_ (s:=(_,false)) (λe=>by cases e)
 ·rintro i y ⟨Ev,found⟩ hs hd hy hi hdec hx hadd;simp only at hs;simp only;rw[hdec,Qk,hx,Qa,Ma,Qa,hadd]
  by_cases hv:kP y
  ·rw[Qg hv];simp only[Qk]
   cases found with
   |false=>
    simp only[Qp,Qk,Qa];exact .some ⟨(y,true),rfl,λ_=>hv⟩
   |true=>
    simp only[Qo,Ql,Qa,zy]
    cases decide (0<DU y Ev)with
    |true=>exact .some ⟨(y,true),rfl,λ_=>hv⟩
    |false=>exact .some ⟨(Ev,true),rfl,hs⟩
  ·rw[Qh hv];simp only[Ql,Qa];exact .some ⟨(Ev,found),rfl,hs⟩
 ·rintro⟨Ev,found⟩ hs hdec;simp only;rw[hdec,Ql];exact .some hs
end
section
def abd{rec:(ak×Int×Unit)->Option (eQ×Bool×Unit)}{t:ak}{x:Int}(hm:cQ t)(hr:∀u∈t.aL,Yd (rec (u,x,())) λ_=>True):Yd (kM rec t x) λ_=>True:=by
 unfold kM;simp only[etas];refine Yd.list t.aX hm.nodes (λi (s:eQ)=>(i,s,())) (λ_ _=>True) ?_ ?_ trivial
 ·intro i y s hs hd hy hi hdec hx hadd;simp only;rw[hdec,Qk,hx,Qa,hadd]
  cases decide (y=x)with
  |true=>exact .some trivial
  |false=>exact .some ⟨s,rfl,trivial⟩
 ·intro s hs hdec;simp only;rw[hdec,Ql];refine Yd.map (Yd.list t.aL hm.len (λi (s:eQ)=>(i,s,())) (λ_ _=>True) ?_ ?_ trivial)
  ·intro i y s hs hd hy hi hdec hx hadd;simp only;rw[hdec,Qk,hx,Qa,hadd];refine Yd.bind (hr y hy) λq _=> ?_
   cases q.2.1 with
   |true=>exact .some trivial
   |false=>exact .some ⟨s,rfl,trivial⟩
  ·intro s hs hdec;simp only;rw[hdec,Ql];exact .some trivial
def aa8{x:Int}{n:Nat}:∀{t:ak},SizeOf.sizeOf t<n->cQ t->Yd (rP n (t,x,())) λ_=>True:=by
 induction n with
 |zero=>intro t h;omega
 |succ n ih=>
  intro t hz hm;show Yd (kM (rP n) t x) λ_=>True
  exact abd hm λu hu=>ih (t:=u) (by have:=qM hu;omega) (hm.inner u hu)
def acf{t:ak}(hm:cQ t)(x:Int):Yd (z7 t x) λ_=>True:=aa8 (by omega) hm
structure B3 (t:ak) (v aI round:Int):Prop where
 aO:dO t
 v0:0<=v
 v1:v<10
 s0:0<=aI
 s1:aI<=1000000
 r1:1<=round
 r2:round<=1000
def Wo(a b c d:Int):∃r,pc a b c d=some r:=⟨_,rfl⟩
section
variable {t : ak} {v aI round : Int}
def Mf(h:B3 t v aI round):xc t v aI round=some 0:=by
 have e1:=h.v0;have e2:=h.v1;have e3:=h.s0;have e4:=h.s1;have e5:=h.r1;have e6:=h.r2;unfold xc;simp only[etas,eH h.aO,Qa];rw[Qh (by omega:¬v<0),Qh (by omega:¬(10:Int)<=v),Qh (by omega:¬aI<0),Qh (by omega:¬(1000000:Int)<aI),Qh (by omega:¬round<1),Qh (by omega:¬(1000:Int)<round)]
 rfl
def aem(h:B3 t v aI round)(k:Int):Yd (nP t v aI round k) λ_=>True:=by
 unfold nP;simp only[etas,Mf h,Qa,aQ];have h1:∀b:Bool,Yd (bif b then(some true:Option Bool)else some (decide (k<0))) λ_=>True:=λb=>by cases b<;>exact .some trivial
 refine Yd.bind (h1 _) λb1 _=> ?_
 have h2:∀b:Bool,Yd (bif b then(some true:Option Bool)else some (decide ((10:Int)<=k))) λ_=>True:=λb=>by cases b<;>exact .some trivial
 refine Yd.bind (h2 _) λb2 _=> ?_
 cases b2 with
 |true=>exact .some trivial
 |false=>
  simp only[Ql];refine Yd.bind (acf h.aO.sm k) λq _=> ?_
  obtain⟨hsh,eh⟩:=Wo 1 aI round k;rw[eh];simp only[Qa]
  cases decide (k=v)with
  |true=>exact .some trivial
  |false=>
   cases q.2.1<;>exact .some trivial
def U4(h:B3 t v aI round):Yd (lW t v aI round) λq=>0<=q.1/\q.1<10/\q.2.1=0:=by
 unfold lW;simp only[etas,Mf h,Qa,aQ];simp only[decide_true,Qo,Ql];refine Yd.DR (λ(s:Int×Int×Unit)=>0<=s.1/\s.1<10/\0<=s.2.1/\s.2.1<=10) (λs=>(10 - s.2.1).toNat) ?_ ⟨h.v0,h.v1,Int.le_refl _,by show(0:Int)<=10;omega⟩
 rintro⟨b,k,u⟩ ⟨h1,h2,h3,h4⟩;simp only at h1 h2 h3 h4;simp only
 by_cases hk:k<10
 ·rw[Qg hk];have hadd:aA .i64 k 1=k+1:=bH (by omega) (by omega)
  simp only[Qk];rw[hadd]
  have fin:∀x:Int,0<=x->x<10->Yd (some (Sum.inl (x,k+1,())):Option ((Int×Int×Unit)⊕(Int×Int×Unit))) (Lp (λs'=>(0<=s'.1/\s'.1<10/\0<=s'.2.1/\s'.2.1<=10)/\(10 - s'.2.1).toNat<(10 - k).toNat) (λr=>0<=r.1/\r.1<10/\r.2.1=0)):=
   λx g1 g2=> .some ⟨⟨g1,g2,by show 0<=k+1;omega,by show k+1<=10;omega⟩,by show(10 - (k+1)).toNat<(10 - k).toNat;omega⟩
  refine Yd.bind (aem h k) λr _=> ?_
  cases r with
  |false=>exact fin b h1 h2
  |true=>
   obtain⟨hsh,eh⟩:=Wo 2 aI round k;obtain⟨hsb,eb⟩:=Wo 2 aI round b;rw[eh,eb];simp only[Qo,Ql,Qa];refine Yd.bind (p:=λ_=>True) ?_ λb9 _=> ?_
   ·refine Yd.cond (λ_=> .some trivial) λ_=> ?_
    exact Yd.bind (p:=λ_=>True) (Yd.cond (λ_=> .some trivial) λ_=> .some trivial) λ_ _=> .some trivial
   ·cases b9 with
    |true=>exact fin k h3 hk
    |false=>exact fin b h1 h2
 ·rw[Qh hk];exact .some ⟨h1,h2,rfl⟩
def ZW(h:B3 t v aI round):Yd (qy t v aI round) λq=>∃s:Nat,q.1=s/\s<1024:=by
 have e5:=h.r1;have e6:=h.r2;unfold qy;simp only[etas,aQ];refine Yd.bind (U4 h) λq ⟨_,_,hq⟩=> ?_
 rw[hq];simp only[decide_true,Qo,Ql];refine Yd.DR (λ(s:Int×Int×Unit)=>(∃n:Nat,s.1=n/\n<1024)/\1<=s.2.1/\s.2.1<=round+1) (λs=>(round+1 - s.2.1).toNat) ?_ ⟨⟨0,rfl,by omega⟩,Int.le_refl _,by show(1:Int)<=round+1;omega⟩
 rintro⟨b,k,u⟩ ⟨⟨n,h1,h2⟩,h3,h4⟩;simp only at h1 h3 h4;subst h1;simp only
 by_cases hk:k<=round
 ·rw[Qg hk];have hadd:aA .i64 k 1=k+1:=bH (by omega) (by omega)
  simp only[Qk];rw[hadd];refine Yd.bind (U4 ⟨h.aO,h.v0,h.v1,h.s0,h.s1,h3,by omega⟩) λq ⟨g1,g2,_⟩=> ?_
  rw[lX,Qa]
  have fin:∀x:Nat,x<1024->Yd (some (Sum.inl ((x:Int),k+1,())):Option ((Int×Int×Unit)⊕(Int×Int×Unit))) (Lp (λs'=>((∃n:Nat,s'.1=n/\n<1024)/\1<=s'.2.1/\s'.2.1<=round+1)/\(round+1 - s'.2.1).toNat<(round+1 - k).toNat) (λr=>∃s:Nat,r.1=s/\s<1024)):=
   λx g=> .some ⟨⟨⟨x,rfl,g⟩,by show 1<=k+1;omega,by show k+1<=round+1;omega⟩,by show(round+1 - (k+1)).toNat<(round+1 - k).toNat;omega⟩
  cases wa n q.1 with
  |true=>exact fin n h2
  |false=>
   simp only[Qp,Qk];rw[Qs (by omega),pL h2 g1 g2]
   exact fin _ (Ad h2 g2)
 ·rw[Qh hk];exact .some ⟨n,rfl,h2⟩
end
end
end Go.Proofs.YtofedieniojipaaGreat
end
