/-
  Texts made small by a program (see NOTES). Conditions: those that each theorem names.
-/
import Derived.Test.YtjbfdglebjnelaaGreatSlotWaitsMe
set_option linter.unusedVariables false
set_option linter.unusedSimpArgs false
set_option linter.unusedSectionVars false
set_option maxHeartbeats 2000000
noncomputable section
namespace Go.Proofs.YtjbfdglebjnelaaGreat
open Go.TQ
section
structure tP (m:ab):Prop where
 n0:0<=m.aq
 n1:m.aq<10
 aM:c5 m.ai
 len:m.aw.length<=100
 sm:∀e∈m.aw,c5 e.ai
 valid:∀e∈m.aw,aX e=true
theorem zg{m:ab}{e:aj}(h:e∈bc m):e∈m.aw\/(aI m.aa=false/\e=iO m):=by
 unfold bc at h;split at h
 ·exact .inl h
 ·rename_i hz;rw[(zV _ _).mem_iff,Qz,Q5]at h;rcases h with h|h
  ·exact .inl h
  ·exact .inr ⟨by simpa using hz,h⟩
theorem Za(m:ab):(bc m).length<=m.aw.length+1:=by
 unfold bc;split
 ·omega
 ·rw[(zV _ _).length_eq,QB,Q6];omega
theorem EE(m:ab):(iO m).ai=m.ai:=nM m
theorem tP.lK{m:ab}(h:tP m):oO (bc m)/\(bc m).length<=1000:=by
 have h1:=Za m;have h2:=h.len;refine⟨⟨by omega,fun e he=> ?_⟩,by omega⟩
 rcases zg he with he|⟨_,rfl⟩
 ·exact h.sm e he
 ·rw[EE];exact h.aM
theorem tP.aC{m:ab}(h:tP m):((m.aq.toNat:Nat):Int)=m.aq/\m.aq.toNat<10:=by
 have:=h.n0;have:=h.n1;omega
def dB(b:af):af:=if 1000<b.ae then⟨1000,b.Value⟩else b
theorem aeo(b:af):uA b=some (dB b):=YG b
def cW(p q b:af):af×af:=
 if aI b=true then(p,q)else if aI p=true then(b,q)else if bx p b=true then(if bM p b=true then(b,if bM q b=true then bZ else q)else(b,p))
 else if(bx b p&& !bM b p&&(aI q||bx q b))=true then(p,b)else(p,q)
theorem SS(a b:af):bM a b=bM b a:=decide_eq_decide.2 ⟨Eq.symm,Eq.symm⟩
theorem acO(p q b:af):Cg p q b=some ((cW p q b).1,(cW p q b).2,()):=by
 unfold Cg cW;simp only[cU,jA,gC,Qa,aP];cases aI b<;>cases aI p<;>cases bx p b<;>cases bM p b<;>cases bM q b<;>cases bx b p<;>cases bM b p<;>cases aI q<;>cases bx q b<;>rfl
theorem aau(p q b:af):uD p q b=some ((cW p q b).1,(cW p q b).2,()):=by
 unfold uD cW;simp only[cy,jv,fF,Qa,aP,SS b p];cases aI b<;>cases aI p<;>cases bx p b<;>cases bM p b<;>cases bM q b<;>cases bx b p<;>cases aI q<;>cases bx q b<;>rfl
def Ct(m:ab):ByteArray:=if m.aH=2 then m.aa.Value else fD
 def ep(m:ab):af:=jd m.aq.toNat m.ai (bc m) m.an m.ax (Ct m)
def qy(m:ab)(p q:af):Int:=
 if m.aH=1/\m.aS≠0 then(if fc m<kK m.aa.Value m.aS p q then 0 else kK m.aa.Value m.aS p q)else m.aS
 def cF(m:ab):ab:=
 if m.aH=3\/aI m.aa=true then m else
  {m with an:=(cW m.an m.ax (dB (ep m))).1,ax:=(cW m.an m.ax (dB (ep m))).2,aS:=qy m (cW m.an m.ax (dB (ep m))).1 (cW m.an m.ax (dB (ep m))).2}
theorem acg{m:ab}(h:tP m)(p q:af)(v:ByteArray):tK m.aq m.ai (bc m) p q v=some (jd m.aq.toNat m.ai (bc m) p q v):=by
 have:=aai h.aC.2 h.aM h.lK.1 h.lK.2 p q v
 rwa [h.aC.1]at this
theorem ack{m:ab}(h:tP m)(a:af):pE m.aq m.ai (bc m) a=some (vL m.aq.toNat m.ai (bc m) a):=by
 have:=aak h.aC.2 h.aM h.lK.1 h.lK.2 a
 rwa [h.aC.1]at this
theorem UK{m:ab}(h:tP m):wM m=some (cF m):=by
 have hl:m.aw.length<=1000:=by have:=h.len;omega
 unfold wM cF;simp only[etas,cU,LW hl,acg h,aeo,acO,xQ,PX,Qa,aP]
 by_cases h3:m.aH=3
 ·rw[Qg h3,Qr (.inl h3)];rfl
 ·rw[Qh h3]
  cases hz:aI m.aa with
  |true=>rw[Qr (.inr rfl)];rfl
  |false=>
   rw[Qs (by simp[h3])]
   simp only[Ql,Qa]
   by_cases h2:m.aH=2
   ·have h1:¬m.aH=1:=by omega
    simp only[Qg h2,Qk,qy,Ct,ep,Qr h2,h1,false_and,Qu];rfl
   ·simp only[Qh h2,Ql];have hv:ByteArray.mk #[]=Ct m:=by simp only[Ct,Qs h2];rfl
    rw[hv];have hn:jd m.aq.toNat m.ai (bc m) m.an m.ax (Ct m)=ep m:=rfl;simp only[hn]
    by_cases h1:m.aH=1
    ·have hh:∀p q:af,(bF {m with an:=p,ax:=q}).bn=fc m:=fun p q=>by unfold bF;rw[Qr (show({m with an:=p,ax:=q}:ab).aH=1 from h1)];rfl
     simp only[Qg h1,Qk,Qa]
     by_cases hL:m.aS=0
     ·rw[Qg hL];unfold qy;rw[Qs (fun h=>h.2 hL)]
      rfl
     ·rw[Qh hL];unfold qy;rw[Qr ⟨h1,hL⟩];simp only[Qp,Qk];rw[show(bF (ab.mk m.aq m.bl m.aF m.ai m.aH m.aa (cW m.an m.ax (dB (ep m))).1 (cW m.an m.ax (dB (ep m))).2 m.au m.aS m.bn m.aY m.aw)).bn=fc m from hh _ _]
      by_cases hlt:fc m<kK m.aa.Value m.aS (cW m.an m.ax (dB (ep m))).1 (cW m.an m.ax (dB (ep m))).2
      ·rw[Qg hlt,Qr hlt];rfl
      ·rw[Qh hlt,Qs hlt];rfl
    ·rw[Qh h1];unfold qy;rw[Qs (fun h=>h1 h.1)]
     rfl
 def gd(m:ab):af:=vL m.aq.toNat m.ai (bc m) m.au
def zX(m:ab)(b:af):ab:=
 if bx m.aa b=true then{m with au:=b,aa:=b,aS:=if bM m.aa b=true then m.aS else 0}else{m with au:=b}
def oI(m:ab)(b:af):ab:=
 if m.aS=0/\bM m.aa b=true/\kK b.Value m.aa.ae m.an m.ax<=b.ae then{m with aS:=kK b.Value m.aa.ae m.an m.ax}else m
 def fI(m:ab):ab:=
 if m.aH≠1\/aI m.aa=true\/aI (gd m)=true then m else oI (zX m (gd m)) (gd m)
theorem Mg(m:ab)(b:af){α:Type}(j:ab->Option α):
  ((bif decide (m.aS=(0:Int))then some (bM m.aa b)else some false).bind fun x=>bif x then(bif decide (kK b.Value m.aa.ae m.an m.ax<=b.ae)then j {m with aS:=kK b.Value m.aa.ae m.an m.ax}else j m)else j m)=j (oI m b):=by
 unfold oI
 by_cases hL:m.aS=0
 ·rw[Qg hL]
  cases hc:bM m.aa b with
  |true=>
   by_cases hle:kK b.Value m.aa.ae m.an m.ax<=b.ae
   ·rw[Qr ⟨hL,rfl,hle⟩,Qg hle];rfl
   ·rw[Qs (fun h=>hle h.2.2),Qh hle];rfl
  |false=>
   rw[Qs (fun h=>by cases h.2.1)];rfl
 ·rw[Qh hL,Qs (fun h=>hL h.1)];rfl
theorem SR{m:ab}(h:tP m):uV m=some (fI m):=by
 have hl:m.aw.length<=1000:=by have:=h.len;omega
 unfold uV fI;simp only[etas,cU,LW hl,ack h,PX,Qa,aP,gC,jA];have hb:vL m.aq.toNat m.ai (bc m) m.au=gd m:=rfl;simp only[hb]
 by_cases h1:m.aH=1
 ·rw[Qg h1]
  cases hz:aI m.aa with
  |true=>rw[Qr (.inr (.inl rfl))];rfl
  |false=>
   cases hzb:aI (gd m)with
   |true=>rw[Qr (.inr (.inr rfl))];rfl
   |false=>
    rw[Qs (by simp[h1])]
    simp only[Qo,Ql,Qa];unfold zX
    cases hlt:bx m.aa (gd m)with
    |true=>
     cases hcp:bM m.aa (gd m)with
     |true=>simp only[Qk,Qo,Ql,Qt];exact Mg {m with au:=gd m,aa:=gd m} (gd m) some
     |false=>simp only[Qk,Qp,Qt,Qq,Qu];exact Mg {m with au:=gd m,aa:=gd m,aS:=0} (gd m) some
    |false=>simp only[Ql,Qq,Qu];exact Mg {m with au:=gd m} (gd m) some
 ·rw[Qh h1,Qr (.inl h1)];rfl
section
variable {aC : Nat} (hn : aC < 10) {t : al} (ht : c5 t) {l : List aj} (hl : oO l) (hlen : l.length <= 1000)
 include hn ht hl hlen
theorem Tm(v:ByteArray)(lo hi:Int):kZ aC t l v lo hi=some (lv aC t l v lo hi):=by
 have hin:=mm l;have hsm:=jX (aC:=aC) ht hl;simp only[kZ,etas,Ni hl.aM hlen,wm hn hl,Qa,tZ hsm hn (jE hin) (jE hin)];rfl
theorem Yb(v:ByteArray)(lo hi:Int):oC aC t l v lo hi=some (rF aC t l v lo hi):=by
 have hin:=mm l;have hsm:=jX (aC:=aC) ht hl;simp only[oC,etas,Ni hl.aM hlen,wm hn hl,Qa,sL hsm hn (jE hin)];rfl
theorem X9(p q:af):sd aC t l p q=some (ou (lv aC t l) l p q (gJ (lv aC t l) l p q)):=aam hl hlen (Tm hn ht hl hlen) p q
theorem acn(v:ByteArray)(low bV:Int):qO aC t l v low bV=some ((Dh (br l v) (lv aC t l v) low bV).1,(Dh (br l v) (lv aC t l v) low bV).2,()):=Ya hl hlen (Tm hn ht hl hlen) v low bV
theorem acm(v:ByteArray):se aC t l v=some (vq (br l v) (rF aC t l v)):=aao hl hlen (Yb hn ht hl hlen) v
end
 def gr(m:ab):ByteArray->Int->Int->Bool:=lv m.aq.toNat m.ai (bc m)
 def Ei(m:ab):ByteArray->Int->Int->Bool:=rF m.aq.toNat m.ai (bc m)
 def fl(m:ab):ByteArray×Int×Int×Bool×Unit:=ou (gr m) (bc m) m.an m.ax (gJ (gr m) (bc m) m.an m.ax)
 def ed(m:ab):Int×Int:=Dh (br (bc m) m.aa.Value) (gr m m.aa.Value) m.aS m.bn
 def mr(m:ab):Int×Int×Bool×Unit:=vq (br (bc m) m.aa.Value) (Ei m m.aa.Value)
theorem aan{m:ab}(h:tP m):sd m.aq m.ai (bc m) m.an m.ax=some (fl m):=by
 have:=X9 h.aC.2 h.aM h.lK.1 h.lK.2 m.an m.ax
 rwa [h.aC.1]at this
theorem adP{m:ab}(h:tP m):qO m.aq m.ai (bc m) m.aa.Value m.aS m.bn=some ((ed m).1,(ed m).2,()):=by
 have:=acn h.aC.2 h.aM h.lK.1 h.lK.2 m.aa.Value m.aS m.bn
 rwa [h.aC.1]at this
theorem adO{m:ab}(h:tP m):se m.aq m.ai (bc m) m.aa.Value=some (mr m):=by
 have:=acm h.aC.2 h.aM h.lK.1 h.lK.2 m.aa.Value
 rwa [h.aC.1]at this
def G0(m:ab)(v:ByteArray)(lo hi:Int):ab:=
 {m with aa:=if(!bM m.aa ⟨hi,v⟩||bx m.aa ⟨hi,v⟩)=true then⟨bB m.aa.ae hi,v⟩else m.aa,an:=if jj m.an ⟨hi,v⟩=true then m.an else⟨hi,v⟩,aH:=2,aS:=lo,bn:=hi,au:=⟨hi,v⟩,ax:=bZ}
def yw(m:ab)(lo hi:Int):ab:=
 {m with aa:=⟨bB m.aa.ae hi,m.aa.Value⟩,an:=⟨bB m.an.ae hi,m.an.Value⟩,au:=⟨bB m.au.ae hi,m.aa.Value⟩,aS:=lo,bn:=hi}
 def fo(m:ab):ab:=
 if m.aH=1 then(if(fl m).2.2.2.1=true then G0 m (fl m).1 (fl m).2.1 (fl m).2.2.1 else m)
 else if m.aH=2 then yw m (ed m).1 (ed m).2 else m
theorem SU{m:ab}(h:tP m):uW m=some (fo m):=by
 have hl:m.aw.length<=1000:=by have:=h.len;omega
 unfold uW fo;simp only[etas,LW hl,aan h,adP h,Qa,aP,gC,jA,AI]
 by_cases h1:m.aH=1
 ·rw[Qg h1,Qr h1]
  cases hk:(fl m).2.2.2.1 with
  |false=>simp only[Qk,Qp,Qq,Qu]
  |true=>
   simp only[Qk,Qo,Ql,Qt];unfold G0;cases bM m.aa ⟨(fl m).2.2.1,(fl m).1⟩<;>cases bx m.aa ⟨(fl m).2.2.1,(fl m).1⟩<;>cases jj m.an ⟨(fl m).2.2.1,(fl m).1⟩<;>rfl
 ·rw[Qh h1,Qs h1]
  by_cases h2:m.aH=2
  ·rw[Qg h2,Qr h2];rfl
  ·rw[Qh h2,Qs h2];rfl
def HM(m:ab)(lo hi:Int):ab:={m with aH:=3,aS:=lo,bn:=hi,aa:=⟨hi,m.aa.Value⟩,an:=bZ,ax:=bZ,au:=bZ}
 def ig(m:ab):ab:=if m.aH=2/\(mr m).2.2.1=true then HM m (mr m).1 (mr m).2.1 else m
theorem abk{m:ab}(h:tP m):Av m=some (ig m):=by
 have hl:m.aw.length<=1000:=by have:=h.len;omega
 unfold Av ig;simp only[etas,LW hl,adO h,Qa]
 by_cases h2:m.aH=2
 ·rw[Qg h2]
  cases hk:(mr m).2.2.1 with
  |false=>rw[Qs (fun h=>by cases h.2)];rfl
  |true=>rw[Qr ⟨h2,rfl⟩];rfl
 ·rw[Qh h2,Qs (fun h=>h2 h.1)];rfl
end
section
theorem Aa{α β ρ:Type}(l:List α)(hl:l.length<=1000)(f:α->β){step:Int×List β×Unit->Option ((Int×List β×Unit)⊕ρ)}{fin:List β->Option ρ}
  (h1:∀(i:Nat) (e:α) (s:List β),s.length<=1000->e∈l->decide ((i:Int)<((l.length:Nat):Int))=true->idx l (i:Int)=some e->ay .i64 (i:Int) 1=((i+1:Nat):Int)->step ((i:Int),s,())=some (.inl (((i+1:Nat):Int),s++[f e],())))
  (h2:∀s,decide (((l.length:Nat):Int)<((l.length:Nat):Int))=false->step (((l.length:Nat):Int),s,())=Option.map Sum.inr (fin s)):aA step ((0:Int),[],())=fin (l.map f):=by
 suffices key:∀(k i:Nat) (s:List β),i+k=l.length->s.length=i->aA step ((i:Int),s,())=fin (s++(l.drop i).map f)by
  have:=key l.length 0 [] (by omega) rfl
  simpa using this
 intro k
 induction k with
 |zero=>
  intro i s hi hs;obtain rfl:i=l.length:=by omega
  have hd:decide (((l.length:Nat):Int)<((l.length:Nat):Int))=false:=Qh (Qq64 _);have h:=h2 s hd;rw[Qq66,QO,List.append_nil]
  cases hf:fin s with
  |none=>rw[hf]at h;exact KY h
  |some r=>rw[hf]at h;exact bw h
 |succ k ih=>
  intro i s hi hs;have hlt:i<l.length:=by omega
  rw[bd (h1 i l[i] s (by omega) (Q0 hlt) (Qg (by omega)) (by rw[bh];exact Qv hlt) (bE (by omega) (by omega))),ih (i+1) (s++[f l[i]]) (by omega) (by simp;omega),
   QM hlt,QD,QL]
  rfl
theorem W9{α β ρ:Type}(l:List α)(hl:l.length<=1000)(f:α->β){step:Int×List β×Unit->Option ((Int×List β×Unit)⊕ρ)}{fin:List β->Option ρ}
  (h1:∀(i:Nat) (e:α) (s:List β),s.length=l.length->e∈l->i<l.length->decide ((i:Int)<((l.length:Nat):Int))=true->idx l (i:Int)=some e->ay .i64 (i:Int) 1=((i+1:Nat):Int)->step ((i:Int),s,())=some (.inl (((i+1:Nat):Int),s.set i (f e),())))
  (h2:∀s,decide (((l.length:Nat):Int)<((l.length:Nat):Int))=false->step (((l.length:Nat):Int),s,())=Option.map Sum.inr (fin s)) {s0:List β} (hs0:s0.length=l.length):aA step ((0:Int),s0,())=fin (l.map f):=by
 suffices key:∀(k i:Nat) (s:List β),i+k=l.length->s.length=l.length->aA step ((i:Int),s,())=fin (s.take i++(l.drop i).map f)by
  have:=key l.length 0 s0 (by omega) hs0
  simpa using this
 intro k
 induction k with
 |zero=>
  intro i s hi hs;obtain rfl:i=l.length:=by omega
  have hd:decide (((l.length:Nat):Int)<((l.length:Nat):Int))=false:=Qh (Qq64 _);have h:=h2 s hd;rw[Qq66,QO,List.append_nil,<-hs,Qq62];rw[<-hs]at h
  cases hf:fin s with
  |none=>rw[hf]at h;exact KY h
  |some r=>rw[hf]at h;exact bw h
 |succ k ih=>
  intro i s hi hs;have hlt:i<l.length:=by omega
  rw[bd (h1 i l[i] s hs (Q0 hlt) hlt (Qg (by omega)) (by rw[bh];exact Qv hlt) (bE (by omega) (by omega))),ih (i+1) (s.set i (f l[i])) (by omega) (by simpa using hs),
   QM hlt,QD]
  congr 1;rw[List.take_add_one,List.take_set_of_le (QI i),List.getElem?_set_self (by omega)]
  simp
def GN(z:af):List af->af
 |[]=>z
 |x::l=>l.foldl (fun a y=>if bx a y=true then y else a) x
theorem Lt(l:List af)(hl:l.length<=1000000)(z:af){step:Int×af×Unit->Option ((Int×af×Unit)⊕af)}
  (h1:∀(i:Nat) (x s:af),decide ((i:Int)<((l.length:Nat):Int))=true->idx l (i:Int)=some x->ay .i64 (i:Int) 1=((i+1:Nat):Int)->step ((i:Int),s,())=some (.inl (((i+1:Nat):Int),(if i=0 then x else if bx s x=true then x else s),())))
  (h2:∀s,decide (((l.length:Nat):Int)<((l.length:Nat):Int))=false->step (((l.length:Nat):Int),s,())=some (.inr s)):aA step ((0:Int),z,())=some (GN z l):=by
 have hd:decide (((l.length:Nat):Int)<((l.length:Nat):Int))=false:=Qh (Qq64 _)
 have key:∀(k i:Nat) (s:af),i+k=l.length->1<=i->aA step ((i:Int),s,())=some ((l.drop i).foldl (fun a y=>if bx a y=true then y else a) s):=by
  intro k
  induction k with
  |zero=>
   intro i s hi h1i;obtain rfl:i=l.length:=by omega
   rw[Qq66];exact bw (h2 s hd)
  |succ k ih=>
   intro i s hi h1i;have hlt:i<l.length:=by omega
   rw[bd (h1 i l[i] s (Qg (by omega)) (by rw[bh];exact Qv hlt) (bE (by omega) (by omega))),ih (i+1) _ (by omega) (by omega),QM hlt,QU,Qs (by omega:¬i=0)]
 cases l with
 |nil=>exact bw (h2 z hd)
 |cons x l=>
  have hx:=h1 0 x z (Qg (by simp)) (by rw[bh];rfl) (bE (by omega) (by omega))
  rw[Qr rfl]at hx;exact(bd hx).trans (key l.length 1 x (by simp;omega) (by omega))
theorem aa6(l:List af)(hl:l.length<=1000000):rN l=some (GN bZ l):=by
 unfold rN;refine Lt l hl bZ (fun i x s hd hx hw=> ?_) (fun s hd=> ?_)
 ·simp only[hd,hx,hw,Qk,aP,Qa,jA]
  by_cases hi:i=0
  ·subst hi;rfl
  ·have:decide ((i:Int)=0)=false:=Qh (by omega)
   rw[this,Qs hi];cases bx s x<;>rfl
 ·simp only[hd,Ql,Qe]
theorem Yk(l:List af)(hl:l.length<=1000000):mG l=some (GN bZ l):=by
 unfold mG;refine Lt l hl bZ (fun i x s hd hx hw=> ?_) (fun s hd=> ?_)
 ·simp only[hd,hx,hw,Qk,aP,Qa,jv]
  by_cases hi:i=0
  ·subst hi;rfl
  ·have:decide ((i:Int)=0)=false:=Qh (by omega)
   rw[this,Qs hi];cases bx s x<;>rfl
 ·simp only[hd,Ql,Qe]
def cZ(m:ab):ByteArray:=
 if aI m.au=false then m.au.Value else if m.aH≠1 then m.aa.Value else if m.aY≠fD then m.aY else(GN bZ (m.aw.map (·.aa))).Value
theorem Hk{m:ab}(h:tP m):o0 m=some (cZ m):=by
 have hl:m.aw.length<=1000:=by have:=h.len;omega
 unfold o0 cZ;simp only[cU,Qa]
 cases hz:aI m.au with
 |false=>rfl
 |true=>
  simp only[Qo,Ql,Bool.true_eq_false,Qu]
  by_cases h1:m.aH=1
  ·rw[Qg h1,Qs (fun h=>h h1)]
   simp only[Qo,Ql]
   by_cases hp:m.aY=fD
   ·have hp':decide (m.aY=ByteArray.mk #[])=true:=Qg hp;rw[hp',Qs (fun h=>h hp)]
    simp only[Qo,Ql]
    rw[Aa m.aw hl (·.aa) (fin:=fun s=>Option.bind (rN s) fun r=>some r.Value) (fun i e s hs he hd hx hw=>by
     simp only[hd,hx,hw,Qk,Qa]
     rw[bz (by simp;omega),Qk]) (fun s hd=>by simp only[hd,Ql]),aa6 _ (by simp;omega)]
    rfl
   ·have hp':decide (m.aY=ByteArray.mk #[])=false:=Qh hp;rw[hp',Qr hp];rfl
  ·rw[Qh h1,Qr h1];rfl
theorem yE{e:aj}(h:c5 e.ai)(hv:aX e=true):mU e=some (cd e):=by
 simp only[mU,etas,mn h,Qa,hv,cd]
 by_cases h3:e.bL=3
 ·rw[Qg h3,Qr h3];rfl
 ·rw[Qh h3,Qs h3];rfl
theorem PJ{e:aj}(h:c5 e.ai)(hv:aX e=true):jG e=some (cd e):=by
 rw[Sh (S8 h)];have:kp (Ef e.ai) e=true:=hv;rw[this,Qr rfl]
def B9(m:ab)(n:Int):Nat:=c8 (fun e=>decide (n<cd e)) m.aw
 def iH(m:ab)(n:Int):Bool:=ur (eN m.aq.toNat m.ai (bc m)) m.aq.toNat (B9 m n)
theorem tP.MQ{m:ab}(h:tP m):qK m.aw:=fun e he=>gy (h.valid e he)
theorem Ol{m:ab}(h:tP m)(n:Int):B9 m n<1024:=jE h.MQ
theorem abJ{m:ab}(h:tP m)(n:Int):vU m n=some (iH m n):=by
 have hl:m.aw.length<=1000:=by have:=h.len;omega
 unfold vU
 rw[Aa m.aw hl (fun e=>decide (n<cd e)) (fin:=fun s=>Option.bind (mj m) fun r4=>Option.bind (iS m.aq m.ai r4) fun r5=>Option.bind (fQ m.aw s) fun r6=>Option.bind (qU r5 m.aq r6) fun r7=>some r7)
  (fun i e s hs he hd hx hw=>by
   simp only[hd,hx,hw,Qk,Qa,etas,yE (h.sm e he) (h.valid e he)]
   rw[bz (by simp;omega),Qk])
  (fun s hd=>by simp only[hd,Ql,etas])]
 have hv:=wm h.aC.2 (t:=m.ai) h.lK.1;have hb:=Kw (jX (aC:=m.aq.toNat) h.aM h.lK.1) (v:=m.aq.toNat) (Ol h n);rw[h.aC.1]at hv hb;rw[LW hl,Qa,hv,Qa,wJ m.aw hl _ (fun e he _=>h.MQ e he),Qa,show c8 (fun e=>decide (n<cd e)) m.aw=B9 m n from rfl,hb]
 rfl
 def lU(m:ab)(zd:Int)(e:aj):Int:=
 if m.aa.ae<cd e/\cd e<zd/\iH m (cd e)=false then cd e else zd
 def gO(m:ab):Int:=m.aw.foldl (lU m) 1000000
 def nc(m:ab):ByteArray:=if m.aH=1 then cZ m else m.aa.Value
 def fb(m:ab):ab:=
 if m.aH=3\/iH m m.aa.ae=false then m
 else{m with aS:=if nc m=m.aa.Value then m.aS else 0,aa:=⟨bB m.aa.ae (cm (gO m) 1000),nc m⟩}
open Classical in
theorem RR{m:ab}(h:tP m){ρ:Type}{step:Int×Int×Unit->Option ((Int×Int×Unit)⊕ρ)}{fin:Int->Option ρ}
  (h1:∀(i:Nat) (e:aj) (s:Int),e∈m.aw->decide ((i:Int)<((m.aw.length:Nat):Int))=true->idx m.aw (i:Int)=some e->ay .i64 (i:Int) 1=((i+1:Nat):Int)->step (s,(i:Int),())=some (.inl (lU m s e,((i+1:Nat):Int),())))
  (h2:∀s,decide (((m.aw.length:Nat):Int)<((m.aw.length:Nat):Int))=false->step (s,((m.aw.length:Nat):Int),())=Option.map Sum.inr (fin s)):aA step ((1000000:Int),(0:Int),())=fin (gO m):=by
 have hl:=h.len
 have key:=il m.aw (by omega) (fun i s=>(s,i,())) (fun e s=>if e∈m.aw then some (.inl (lU m s e))else none) fin (step:=step) (fun i x s hd hx hw=>by
  have hm:x∈m.aw:=by rw[bh]at hx;exact Q8 hx
  rw[h1 i x s hm hd hx hw,Qr hm]) (fun s hd=>h2 s hd) 1000000
 refine key.trans ?_;unfold gO
 suffices h3:∀(l:List aj),(∀e∈l,e∈m.aw)->∀s,fq (fun e s=>if e∈m.aw then some (Sum.inl (β:=ρ) (lU m s e))else none) fin l s=fin (l.foldl (lU m) s)from h3 _ (fun e he=>he) _
 intro l
 induction l with
 |nil=>intro _ s;rfl
 |cons x l ih=>
  intro hx s;rw[fq,Qr (hx x Qx),QU];exact ih (fun e he=>hx e (Qy _ he)) _
theorem YZ{m:ab}(h:tP m):zj m=some (fb m):=by
 unfold zj fb;simp only[etas,abJ h,Hk h,Qa]
 by_cases h3:m.aH=3
 ·rw[Qg h3,Qr (.inl h3)];rfl
 ·rw[Qh h3]
  cases ha:iH m m.aa.ae with
  |false=>rw[Qr (.inr rfl)];rfl
  |true=>
   rw[Qs (by simp[h3])]
   simp only[Ql,Qo];refine(RR h (fin:=fun c=>some {m with aS:=if nc m=m.aa.Value then m.aS else 0,aa:=⟨bB m.aa.ae (cm c 1000),nc m⟩}) (fun i e s he hd hx hw=> ?_) (fun s hd=> ?_)).trans rfl
   ·simp only[hd,hx,hw,Qk,aP,Qa,yE (h.sm e he) (h.valid e he)];unfold lU
    by_cases c1:m.aa.ae<cd e
    ·by_cases c2:cd e<s
     ·rw[Qg c1,Qg c2]
      cases c3:iH m (cd e)with
      |true=>rw[Qs (by simp)];rfl
      |false=>rw[Qr ⟨c1,c2,rfl⟩];rfl
     ·rw[Qg c1,Qh c2,Qs (fun h=>c2 h.2.1)];rfl
    ·rw[Qh c1,Qs (fun h=>c1 h.1)];rfl
   ·simp only[hd,Ql,aP];unfold nc
    by_cases h1:m.aH=1
    ·rw[Qg h1,Qr h1]
     by_cases hv:cZ m=m.aa.Value
     ·simp only[Qk,Qg hv,Qo,Ql,Qr hv]
     ·simp only[Qk,Qh hv,Qp,Qs hv]
    ·rw[Qh h1,Qs h1];simp only[Ql,decide_true,Qo,Qt]
end
section
def c7(b:af):Prop:=1<=b.ae/\b.ae<=1000/\1<=b.Value.size/\b.Value.size<=200
theorem c7.valid{b:af}(h:c7 b):c9 b=true:=by
 obtain⟨h1,h2,h3,h4⟩:=h;simp only[c9,Qm,Qn,Qi];exact⟨⟨.inl ⟨h1,h2⟩,h3⟩,h4⟩
theorem c7.finite{b:af}(h:c7 b):finite b=true:=by
 unfold Go.Proofs.YtjbfdglebjnelaaGreat.finite;rw[h.valid,Qg h.2.1];rfl
theorem TL{b:af}(h:c9 b=true)(hc:b.ae<=1000):c7 b:=by
 simp only[c9,Qm,Qn,Qi]at h;obtain⟨⟨h1,h2⟩,h3⟩:=h;exact⟨by omega,hc,h2,h3⟩
theorem c7.nz{b:af}(h:c7 b):aI b=false:=KX h.1
theorem c7.ne{b:af}(h:c7 b):b.Value≠fD:=by
 intro e;have:=h.2.2.1;rw[e]at this;exact absurd this (by decide)
theorem wR{b:af}:aI b=true↔b=bZ:=by
 obtain⟨c,v⟩:=b;simp[aI,bZ]
theorem bQ:aI bZ=true:=wR.2 rfl
structure P1 (m:ab):Prop where
 aT:m.aH=1
 aQ:c7 m.aa
 dv:m.an=bZ\/c7 m.an
 bW:m.ax=bZ\/(c7 m.ax/\c7 m.an/\bx m.ax m.an=true/\bM m.ax m.an=false)
 dM:m.au=bZ\/(c7 m.au/\dK m.an m.ax m.au=true)
 up:bx m.aa m.au=false
 bV:m.bn=0
 low:m.aS=0\/(1<=m.aS/\m.aS<=fc m/\my m.an m.ax m.aa.Value m.aS=false)
structure P2 (m:ab):Prop where
 aT:m.aH=2
 aQ:c7 m.aa
 dv:c7 m.an/\m.an.Value=m.aa.Value
 bW:m.ax=bZ
 dM:m.au=bZ\/(c7 m.au/\m.au.Value=m.aa.Value)
 range:1<=m.aS/\m.aS<=m.bn/\m.bn<=m.an.ae
structure P3 (m:ab):Prop where
 aT:m.aH=3
 aQ:c7 m.aa
 dv:m.an=bZ
 bW:m.ax=bZ
 dM:m.au=bZ
 range:1<=m.aS/\m.aS<=m.bn/\m.bn<=1000
structure P0 (m:ab):Prop where
 aT:m.aH=1
 aQ:m.aa=bZ
 dv:m.an=bZ
 bW:m.ax=bZ
 dM:m.au=bZ
 low:m.aS=0
 bV:m.bn=0
structure bm (m:ab):Prop where
 n0:0<=m.aq
 n1:m.aq<10
 aK:1<=m.bl/\m.bl<=1000000
 seq:0<=m.aF/\m.aF<=1000000
 aM:fe m.ai
 sx:m.aY.size<=200
 hv:∀e∈m.aw,aX e=true/\fe e.ai/\e.bl=m.bl/\e.aq≠m.aq
 ib:m.aw.Pairwise (fun a b=>a.aq<b.aq)
 body:P0 m\/P1 m\/P2 m\/P3 m
theorem Kb:∀(l:List aj) (k:Nat),k<=10->(∀e∈l,(k:Int)<=e.aq/\e.aq<10)->l.Pairwise (fun a b=>a.aq<b.aq)->l.length+k<=10
 |[],k,hk,_,_=>by simpa using hk
 |x::l,k,hk,h,hp=>by
  rw[Q4]at hp;have hx:=h x Qx;have:=Kb l (k+1) (by omega) (fun e he=>⟨by have:=hp.1 e he;omega,(h e (Qy _ he)).2⟩) hp.2
  rw[QE];omega
theorem bm.len{m:ab}(h:bm m):m.aw.length<=10:=by
 have:=Kb m.aw 0 (by omega) (fun e he=>by have:=gy (h.hv e he).1;omega) h.ib
 omega
theorem bm.ev{m:ab}(h:bm m):tP m:=
 ⟨h.n0,h.n1,h.aM.sm,by have:=h.len;omega,fun e he=>(h.hv e he).2.1.sm,fun e he=>(h.hv e he).1⟩
theorem Ll{m:ab}(h:P1 m):0<=fc m/\fc m<=m.aa.ae/\(fc m=0\/(c7 m.au/\m.au.Value=m.aa.Value/\fc m=m.au.ae)):=by
 unfold fc;split
 ·rename_i hc;simp only[Qm,Bool.not_eq_true',bM,Qi]at hc;rcases h.dM with e|⟨hf,_⟩
  ·rw[e,bQ]at hc;cases hc.1
  ·have hup:=h.up;unfold bx at hup;split at hup
   ·rename_i e;exact⟨by have:=hf.1;omega,by omega,.inr ⟨hf,hc.2,rfl⟩⟩
   ·simp only[Qj]at hup;exact⟨by have:=hf.1;omega,by omega,.inr ⟨hf,hc.2,rfl⟩⟩
 ·exact⟨Int.le_refl _,by have:=h.aQ.1;omega,.inl rfl⟩
theorem NJ{m:ab}(h:bm m)(hz:aI m.aa=false):aX (iO m)=true:=by
 have hseq:1<=(iO m).aF/\(iO m).aF<=1000000:=by
  have h1:(iO m).aF=bB m.aF 1:=by show bB (bF m).aF 1=_;rw[Rw]
  have:=h.seq;rw[h1];unfold bB;split<;>omega
 have hnode:(iO m).aq=m.aq:=w4 m;have hslot:(iO m).bl=m.bl:=CO m
 have hhead:DU (iO m)=true:=by
  unfold DU;rw[hnode,hslot];simp only[Qm,Qi];exact⟨⟨⟨⟨⟨h.n0,h.n1⟩,h.aK.1⟩,h.aK.2⟩,hseq.1⟩,hseq.2⟩
 unfold aX;rw[EE,Nc h.aM];unfold kp;rw[hhead];have hkind:(iO m).bL=m.aH:=N4 m;rw[hkind];rcases h.body with h0|h1|h2|h3
 ·rw[h0.aQ,bQ]at hz;cases hz
 ·rw[Qr h1.aT];have hh:=Ll h1;have e:iO m=⟨m.aq,m.bl,bB (bF m).aF 1,m.ai,m.aH,m.aa,m.an,m.ax,m.aS,fc m⟩:=by unfold iO bF;rw[Qr h1.aT]
  have hp:(aI m.an||c9 m.an)=true:=by
   rcases h1.dv with e|hf
   ·rw[e,bQ];rfl
   ·rw[hf.valid,Bool.or_true]
  have hq:(aI m.ax||c9 m.ax)=true:=by
   rcases h1.bW with e|hf
   ·rw[e,bQ];rfl
   ·rw[hf.1.valid,Bool.or_true]
  have hpo:DF (iO m)=true:=by
   rw[e];unfold DF;rcases h1.bW with e|⟨_,hf,hl,hc⟩
   ·simp only[e,bQ,Bool.true_or]
   ·simp only[hf.nz,hl,hc,Qp,Bool.and_self,Bool.or_true]
  have hhp:(decide (fc m=0)||dK m.an m.ax ⟨fc m,m.aa.Value⟩)=true:=by
   rcases hh.2.2 with e|⟨hf,hv,e⟩
   ·rw[Qg e];rfl
   ·rw[e,<-hv];rcases h1.dM with e2|⟨_,hp⟩
    ·have:=hf.nz;rw[e2,bQ]at this;cases this
    ·rw[hp,Bool.or_true]
  have hlow:0<=m.aS/\m.aS<=fc m/\(decide (m.aS=0)||(!ez m.an ⟨m.aS,m.aa.Value⟩&& !ez m.ax ⟨m.aS,m.aa.Value⟩))=true:=by
   rcases h1.low with e|⟨h5,h6,h7⟩
   ·rw[e];exact⟨Int.le_refl _,hh.1,rfl⟩
   ·refine⟨by omega,h6,?_⟩
    unfold my at h7;rw[Qq74]at h7;rw[h7.1,h7.2];simp
  unfold ic;rw[hpo];rw[e];unfold at_
  simp only[h1.aQ.finite,hp,hq,Qg hlow.1,Qg hlow.2.1,Qg hh.2.1,hhp,hlow.2.2,Bool.and_self,decide_true]
 ·rw[Qs (by rw[h2.aT];decide),Qr h2.aT]
  have e:iO m=⟨m.aq,m.bl,bB (bF m).aF 1,m.ai,m.aH,m.aa,m.an,bZ,m.aS,m.bn⟩:=by unfold iO bF;rw[Qs (by rw[h2.aT];decide),Qr h2.aT]
  have hc:m.bn<=1000:=by have:=h2.range.2.2;have:=h2.dv.1.2.1;omega
  unfold vu vf;rw[e];simp only[h2.aQ.finite,h2.dv.1.valid,bM,Qg h2.dv.2,bQ,Qg h2.range.1,Qg h2.range.2.1,Qg h2.range.2.2,Qg hc,Bool.and_self,decide_true]
 ·rw[Qs (by rw[h3.aT];decide),Qs (by rw[h3.aT];decide),Qr h3.aT]
  have e:iO m=⟨m.aq,m.bl,bB (bF m).aF 1,m.ai,m.aH,m.aa,bZ,bZ,m.aS,m.bn⟩:=by unfold iO bF;rw[Qs (by rw[h3.aT];decide),Qs (by rw[h3.aT];decide)]
  unfold A6 vf;rw[e];simp only[h3.aQ.valid,bQ,Qg h3.range.1,Qg h3.range.2.1,Qg h3.range.2.2,Bool.and_self,decide_true]
theorem bm.lx{m:ab}(h:bm m):∀e∈bc m,aX e=true:=by
 intro e he;rcases zg he with he|⟨hz,rfl⟩
 ·exact(h.hv e he).1
 ·exact NJ h hz
theorem bm.aaM{m:ab}(h:bm m){e:aj}(he:e∈bc m)(hn:e.aq.toNat=m.aq.toNat):aI m.aa=false/\e=iO m:=by
 rcases zg he with he|⟨hz,rfl⟩
 ·have h1:=(h.hv e he).2.2.2;have h2:=gy (h.hv e he).1;have:=h.n0;omega
 ·exact⟨hz,rfl⟩
end
section
theorem wX(a b:af):bx a b=true↔a.ae<b.ae\/(a.ae=b.ae/\bH a.Value b.Value=true):=by
 unfold bx;split
 ·rename_i e;rw[e];simp
 ·rename_i e;simp only[Qi];constructor
  ·exact .inl
  ·rintro(h|h)
   ·exact h
   ·exact absurd h.1 e
theorem mf{a b c:af}(h:bx a b=true)(h':bx b c=true):bx a c=true:=zm.trans _ _ _ h h'
theorem WL(a:af):bx a a=false:=zm.irrefl a
theorem Gz{a b:af}(h:bx a b=false)(h':a≠b):bx b a=true:=by
 cases h1:bx b a with
 |true=>rfl
 |false=>exact absurd (zm.total a b h h1) h'
theorem iL{a b:af}(h:bx a b=true):a.ae<=b.ae:=by
 rw[wX]at h;omega
theorem Jj{a b:af}(h:bx a b=false):b.ae<=a.ae:=by
 rcases Int.lt_or_le a.ae b.ae with h1|h1
 ·rw[(wX a b).2 (.inl h1)]at h;cases h
 ·exact h1
theorem WJ(v:ByteArray):bH v v=false:=gX.irrefl v
theorem EO{a b:af}(hv:a.Value=b.Value):bx a b=decide (a.ae<b.ae):=by
 unfold bx;split
 ·rename_i e;rw[hv,WJ,e];simp
 ·rfl
theorem GZ{p x:af}(h:jj p x=true):bx p x=false:=by
 obtain⟨_,h2,h3⟩:=(kV p x).1 h;rw[EO h2,Qj];omega
theorem Ob{p x q:af}(h:jj p x=true)(hq:bx p q=true):bx x q=true:=by
 by_cases e:x=p
 ·rw[e];exact hq
 ·exact mf (Gz (GZ h) (fun h=>e h.symm)) hq
theorem iF{a b:af}:bM a b=true↔a.Value=b.Value:=decide_eq_true_iff
theorem ik{a b:af}:bM a b=false↔a.Value≠b.Value:=Qj
theorem BD(p q x:af):dK p q x=true↔jj p x=true\/jj q x=true\/(aI q=false/\bx x q=true):=by
 unfold dK;simp only[Qn,Qm,Bool.not_eq_true'];exact⟨fun h=>by rcases h with(h|h)|h<;>simp[h],fun h=>by rcases h with h|h|h<;>simp[h]⟩
def rZ(p q:af):Prop:=(p=bZ\/c7 p)/\(q=bZ\/(c7 q/\c7 p/\bx q p=true/\bM q p=false))
theorem P1.ic{m:ab}(h:P1 m):rZ m.an m.ax:=⟨h.dv,h.bW⟩
theorem JG{b:af}(h:c7 b):b≠bZ:=fun e=>by have:=h.nz;rw[e,bQ]at this;cases this
inductive uw (p q b:af):af->af->Prop where
 |same:uw p q b p q
 |first (hp:p=bZ) (hq:q=bZ):uw p q b b bZ
 |up (hp:c7 p) (hl:bx p b=true) (hc:p.Value=b.Value):uw p q b b q
 |An (hp:c7 p) (hl:bx p b=true) (hc:p.Value≠b.Value):uw p q b b p
 |under (hp:c7 p) (hl:bx b p=true) (hc:b.Value≠p.Value) (hq:q=bZ\/bx q b=true):uw p q b p b
theorem aaY{p q b:af}(h:rZ p q)(hb:b=bZ\/c7 b):uw p q b (cW p q b).1 (cW p q b).2:=by
 unfold cW;rcases hb with rfl|hb
 ·rw[Qr bQ];exact .same
 rw[Qs (by rw[hb.nz];decide)]
 rcases h.1 with rfl|hp
 ·have hq:q=bZ:=by
   rcases h.2 with e|⟨_,e,_⟩
   ·exact e
   ·exact absurd rfl (JG e)
  rw[Qr bQ,hq];exact .first rfl rfl
 rw[Qs (by rw[hp.nz];decide)]
 by_cases hl:bx p b=true
 ·rw[Qr hl]
  by_cases hc:bM p b=true
  ·rw[Qr hc]
   have hcq:bM q b=false:=by
    rw[iF]at hc;rw[ik];rcases h.2 with rfl|⟨_,_,_,e⟩
    ·exact fun e=>hb.ne e.symm
    ·rw[ik]at e;rw[<-hc];exact e
   rw[Qs (by rw[hcq];decide)]
   exact .up hp hl (iF.1 hc)
  ·rw[Qs hc];exact .An hp hl (ik.1 (by simpa using hc))
 ·rw[Qs hl];split
  ·rename_i hu;simp only[Qm,Qn,Bool.not_eq_true']at hu;refine .under hp hu.1.1 (ik.1 hu.1.2) ?_;rcases hu.2 with e|e
   ·exact .inl (wR.1 e)
   ·exact .inr e
  ·exact .same
theorem uw.ok{p q b p' q':af}(h:rZ p q)(hb:b=bZ\/c7 b)(hj:uw p q b p' q'):rZ p' q':=by
 have hbf:∀{x:af},bx x b=true\/c7 b\/(c7 x/\bx b x=true)->True:=fun _=>trivial
 cases hj with
 |same=>exact h
 |first hp hq=>exact⟨hb,.inl rfl⟩
 |up hp hl hc=>
  have hb':c7 b:=by
   rcases hb with rfl|hb
   ·have h1:=iL hl;have h2:=hp.1;have:(bZ:af).ae=0:=rfl;omega
   ·exact hb
  refine⟨.inr hb',?_⟩;rcases h.2 with e|⟨h1,h2,h3,h4⟩
  ·exact .inl e
  ·refine .inr ⟨h1,hb',mf h3 hl,?_⟩;rw[ik]at h4 ⊢;rw[<-hc];exact h4
 |An hp hl hc=>
  have hb':c7 b:=by
   rcases hb with rfl|hb
   ·have h1:=iL hl;have h2:=hp.1;have:(bZ:af).ae=0:=rfl;omega
   ·exact hb
  exact⟨.inr hb',.inr ⟨hp,hb',hl,ik.2 hc⟩⟩
 |under hp hl hc hq=>
  refine⟨.inr hp,?_⟩;rcases hb with e|hb
  ·exact .inl e
  ·exact .inr ⟨hb,hp,hl,ik.2 hc⟩
theorem uw.mono{p q b p' q':af}(h:rZ p q)(hj:uw p q b p' q'){x:af}(hx:dK p q x=true):dK p' q' x=true:=by
 rw[BD]at hx ⊢
 have hqp:aI q=false->bx q p=true:=fun hz=>by
  rcases h.2 with e|⟨_,_,e,_⟩
  ·rw[e,bQ]at hz;cases hz
  ·exact e
 have hcq:jj q x=true->aI q=false:=fun hc=>((kV q x).1 hc).1
 cases hj with
 |same=>exact hx
 |first hp hq=>
  subst hp hq;rcases hx with hx|hx|hx
  ·have:=((kV _ _).1 hx).1;rw[bQ]at this;cases this
  ·have:=((kV _ _).1 hx).1;rw[bQ]at this;cases this
  ·rw[bQ]at hx;cases hx.1
 |up hp hl hc=>
  rcases hx with hx|hx|hx
  ·obtain⟨h1,h2,h3⟩:=(kV _ _).1 hx;refine .inl ((kV _ _).2 ⟨?_,hc.symm.trans h2,Int.le_trans h3 (iL hl)⟩);have:=hp.1;have:=iL hl;exact KX (by omega)
  ·exact .inr (.inl hx)
  ·exact .inr (.inr hx)
 |An hp hl hc=>
  rcases hx with hx|hx|hx
  ·exact .inr (.inl hx)
  ·exact .inr (.inr ⟨hp.nz,Ob hx (hqp (hcq hx))⟩)
  ·exact .inr (.inr ⟨hp.nz,mf hx.2 (hqp hx.1)⟩)
 |under hp hl hc hq=>
  have hbz:aI q=false->bx q b=true:=fun hz=>by
   rcases hq with e|e
   ·rw[e,bQ]at hz;cases hz
   ·exact e
  have hbn:aI q=false->aI b=false:=fun hz=>by
   have h1:=iL (hbz hz);rcases h.2 with e|⟨e,_⟩
   ·rw[e,bQ]at hz;cases hz
   ·have:=e.1;exact KX (by omega)
  rcases hx with hx|hx|hx
  ·exact .inl hx
  ·exact .inr (.inr ⟨hbn (hcq hx),Ob hx (hbz (hcq hx))⟩)
  ·exact .inr (.inr ⟨hbn hx.1,mf hx.2 (hbz hx.1)⟩)
theorem XD{p:af}{v:ByteArray}{n k:Int}(h:ez p ⟨n,v⟩=false)(hk:n<=k):ez p ⟨k,v⟩=false:=SY hk h
theorem Pd{v:ByteArray}{n:Int}{x:af}(hx:x=bZ\/c9 x=true):n<=vG v n x/\ez x ⟨vG v n x,v⟩=false:=by
 unfold vG;split
 ·rename_i hc;rw[Qm]at hc;have ha:=hc.2;unfold ez at ha;rw[Qm,Qm]at ha;have hle:n<=x.ae:=iL ha.2;split
  ·refine⟨by omega,?_⟩
   unfold ez;rw[Bool.and_eq_false_iff];right
   cases hl:bx ⟨x.ae+1,v⟩ x with
   |false=>rfl
   |true=>have:=iL hl;simp only at this;omega
  ·rename_i hn;exact⟨hle,by simpa using hn⟩
 ·rename_i hc;refine⟨Int.le_refl _,?_⟩;rcases hx with rfl|hv
  ·unfold ez;rw[bQ];rfl
  ·rw[hv,Bool.true_and]at hc;simpa using hc
theorem TB{v:ByteArray}{n:Int}{p q:af}(hp:p=bZ\/c9 p=true)(hq:q=bZ\/c9 q=true):n<=kK v n p q/\1<=kK v n p q/\my p q v (kK v n p q)=false:=by
 unfold kK;obtain⟨h1,h2⟩:=Pd (v:=v) (n:=bB n 1) hp;obtain⟨h3,h4⟩:=Pd (v:=v) (n:=vG v (bB n 1) p) hq;have hm:n<=bB n 1/\1<=bB n 1:=by unfold bB;split<;>omega
 refine⟨by omega,by omega,?_⟩
 unfold my;rw[h4,Bool.or_false];exact XD h2 h3
theorem J8{v:ByteArray}{n:Int}{x:af}(h:ez x ⟨n,v⟩=false):vG v n x=n:=by
 unfold vG;rw[h,Bool.and_false];rfl
theorem WH{v:ByteArray}{n:Int}{p q:af}(h1:1<=n)(h:my p q v n=false):kK v n p q=n:=by
 unfold my at h;rw[Qq74]at h;have hm:bB n 1=n:=by unfold bB;split<;>omega
 unfold kK;rw[hm,J8 h.1,J8 h.2]
theorem rZ.valid{p q:af}(h:rZ p q):(p=bZ\/c9 p=true)/\(q=bZ\/c9 q=true):=
 ⟨h.1.imp id c7.valid,h.2.imp id fun h=>h.1.valid⟩
theorem Un{e:aj}(hv:aX e=true){x:af}(hx:x∈said e)(hz:aI x=false):c9 x=true:=by
 have hv':=hv;unfold aX kp at hv';unfold said at hx;rw[Qr hv]at hx;rw[Qm,Qm]at hv';have hb:=hv'.2
 by_cases h1:e.bL=1
 ·rw[Qr h1]at hb hx;unfold ic at hb;simp only[Qm,Qn]at hb;obtain⟨⟨⟨⟨⟨⟨⟨⟨hf,hp⟩,hq⟩,_⟩,_⟩,_⟩,_⟩,_⟩,_⟩:=hb;simp only[QA,QR,or_false]at hx;rcases hx with rfl|rfl|rfl
  ·unfold finite at hf;rw[Qm]at hf;exact hf.1
  ·rcases hp with hp|hp
   ·rw[hp]at hz;cases hz
   ·exact hp
  ·rcases hq with hq|hq
   ·rw[hq]at hz;cases hz
   ·exact hq
 ·rw[Qs h1]at hb hx
  have hinf:∀{b:af},c9 b=true->c9 ⟨1000000,b.Value⟩=true:=by
   intro b hb;simp only[c9,Qm,Qn,Qi]at hb ⊢;exact⟨⟨.inr trivial,hb.1.2⟩,hb.2⟩
  by_cases h2:e.bL=2
  ·rw[Qr h2]at hb hx;unfold vu at hb;simp only[Qm]at hb;obtain⟨⟨⟨⟨⟨hf,hp⟩,hc⟩,_⟩,_⟩,_⟩:=hb;simp only[QA,QR,or_false]at hx;rcases hx with rfl|rfl
   ·exact hp
   ·unfold finite at hf;rw[Qm]at hf;exact hinf hf.1
  ·rw[Qs h2]at hb hx;simp only[QA,QR,or_false]at hx;subst hx
   by_cases h3:e.bL=3
   ·rw[Qr h3]at hb;unfold A6 at hb;simp only[Qm]at hb;exact hinf hb.1.1.1
   ·rw[Qs h3]at hb;cases hb
theorem Iq{e:aj}(hv:aX e=true):1<=e.aa.Value.size/\e.aa.Value.size<=200:=by
 have hv':=hv;unfold aX kp at hv';rw[Qm,Qm]at hv';have hb:=hv'.2
 have go:∀{b:af},c9 b=true->1<=b.Value.size/\b.Value.size<=200:=by
  intro b hb;simp only[c9,Qm,Qn,Qi]at hb;exact⟨hb.1.2,hb.2⟩
 have gof:∀{b:af},finite b=true->1<=b.Value.size/\b.Value.size<=200:=by
  intro b hb;unfold finite at hb;rw[Qm]at hb;exact go hb.1
 by_cases h1:e.bL=1
 ·rw[Qr h1]at hb;unfold ic at hb;simp only[Qm]at hb;exact gof hb.1.1.1.1.1.1.1.1
 ·rw[Qs h1]at hb
  by_cases h2:e.bL=2
  ·rw[Qr h2]at hb;unfold vu at hb;simp only[Qm]at hb;exact gof hb.1.1.1.1.1
  ·rw[Qs h2]at hb
   by_cases h3:e.bL=3
   ·rw[Qr h3]at hb;unfold A6 at hb;simp only[Qm]at hb;exact go hb.1.1.1
   ·rw[Qs h3]at hb;cases hb
theorem abE{b:af}(h:c9 b=true):c7 (dB b):=by
 simp only[c9,Qm,Qn,Qi]at h;obtain⟨⟨h1,h2⟩,h3⟩:=h;unfold dB;split
 ·exact⟨(by decide:(1:Int)<=1000),(by decide:(1000:Int)<=1000),h2,h3⟩
 ·exact⟨by omega,by omega,h2,h3⟩
theorem Rs{α:Type}{l:List α}{p:α->Bool}{z:α}:(l.find? p).getD z=z\/((l.find? p).getD z∈l/\p ((l.find? p).getD z)=true):=by
 cases h:l.find? p with
 |none=>exact .inl rfl
 |some x=>exact .inr ⟨List.mem_of_find?_eq_some h,List.find?_some h⟩
theorem FE{m:ab}(h:bm m){x:af}(hx:x∈eI (bc m)):c9 x=true:=by
 obtain⟨e,he,h1,h2⟩:=((mg h.ev.lK.1.aM h.ev.lK.2).2.2.2 x).1 hx;exact Un (h.lx e he) h1 h2
theorem NM{m:ab}(h:bm m):ep m=bZ\/(c9 (ep m)=true/\(Ct m=fD\/(ep m).Value=Ct m)/\dK (qD m.an) (qD m.ax) (ep m)=false/\kO m.aq.toNat m.ai (bc m) (ep m)=true):=by
 unfold ep jd;rcases Rs (l:=eI (bc m)) (p:=vJ (kO m.aq.toNat m.ai (bc m)) m.an m.ax (Ct m)) (z:=yp)with e|⟨h1,h2⟩
 ·exact .inl e
 ·right;unfold vJ at h2;simp only[Qm,Qn,Bool.not_eq_true',Qi]at h2;exact⟨FE h h1,h2.1.1,h2.1.2,h2.2⟩
theorem xS{m:ab}(h:bm m):dB (ep m)=bZ\/c7 (dB (ep m)):=by
 rcases NM h with e|⟨h1,_⟩
 ·left;rw[e];decide
 ·exact .inr (abE h1)
theorem Hz{m:ab}(h:bm m)(h1:rZ m.an m.ax):uw m.an m.ax (dB (ep m)) (cW m.an m.ax (dB (ep m))).1 (cW m.an m.ax (dB (ep m))).2:=aaY h1 (xS h)
theorem P2.ic{m:ab}(h:P2 m):rZ m.an m.ax:=⟨.inr h.dv.1,.inl h.bW⟩
theorem aaw{m:ab}(h:bm m)(h1:P1 m):P1 (cF m):=by
 unfold cF;rw[Qs (by rw[h1.aT,h1.aQ.nz];decide)]
 have hj:=Hz h h1.ic;generalize (cW m.an m.ax (dB (ep m))).1=p at hj;generalize (cW m.an m.ax (dB (ep m))).2=q at hj;have hok:=hj.ok h1.ic (xS h);refine⟨h1.aT,h1.aQ,hok.1,hok.2,?_,h1.up,h1.bV,?_⟩
 ·rcases h1.dM with e|⟨hf,hp⟩
  ·exact .inl e
  ·exact .inr ⟨hf,hj.mono h1.ic hp⟩
 ·show qy m p q=0\/(1<=qy m p q/\qy m p q<=fc m/\my p q m.aa.Value (qy m p q)=false);unfold qy
  by_cases hL:m.aS=0
  ·rw[Qs (fun h=>h.2 hL)];exact .inl hL
  ·rw[Qr ⟨h1.aT,hL⟩];split
   ·exact .inl rfl
   ·rename_i hlt;obtain⟨h2,h3,h4⟩:=TB (v:=m.aa.Value) (n:=m.aS) hok.valid.1 hok.valid.2;exact .inr ⟨h3,by omega,h4⟩
theorem To{m:ab}(h:bm m)(h2:P2 m):P2 (cF m)/\m.an.ae<=(cF m).an.ae/\(cF m).ax=bZ:=by
 unfold cF;rw[Qs (by rw[h2.aT,h2.aQ.nz];decide)]
 have hv:dB (ep m)=bZ\/(dB (ep m)).Value=m.aa.Value:=by
  rcases NM h with e|⟨h3,h4,_⟩
  ·left;rw[e];decide
  ·right;have hc:(dB (ep m)).Value=(ep m).Value:=by unfold dB;split<;>rfl
   have hvo:Ct m=m.aa.Value:=Qr h2.aT;rw[hvo]at h4;rw[hc];exact h4.resolve_left h2.aQ.ne
 have hj:=Hz h h2.ic;have hlow:∀p q,qy m p q=m.aS:=fun p q=>Qs (fun h=>by have:=h.1;rw[h2.aT]at this;cases this)
 simp only[hlow];have hok:=hj.ok h2.ic (xS h);generalize (cW m.an m.ax (dB (ep m))).1=p at hj hok;generalize (cW m.an m.ax (dB (ep m))).2=q at hj hok;generalize hb:dB (ep m)=b at hj hv
 have key:c7 p/\p.Value=m.aa.Value/\m.an.ae<=p.ae/\q=bZ:=by
  cases hj with
  |same=>exact⟨h2.dv.1,h2.dv.2,Int.le_refl _,h2.bW⟩
  |first hp hq=>exact absurd hp (JG h2.dv.1)
  |up hp hl hc=>exact⟨hok.1.resolve_left (fun e=>by have:=iL hl;rw[e]at this;have h9:=h2.dv.1.1;have:(bZ:af).ae=0:=rfl;omega),hc.symm.trans h2.dv.2,iL hl,h2.bW⟩
  |An hp hl hc=>
   exfalso;rcases hv with e|e
   ·have:=iL hl;rw[e]at this;have h9:=h2.dv.1.1;have:(bZ:af).ae=0:=rfl;omega
   ·exact hc (h2.dv.2.trans e.symm)
  |under hp hl hc hq=>
   rcases hv with e|e
   ·exact⟨h2.dv.1,h2.dv.2,Int.le_refl _,e⟩
   ·exact absurd (e.trans h2.dv.2.symm) hc
 exact⟨⟨h2.aT,h2.aQ,⟨key.1,key.2.1⟩,key.2.2.2,h2.dM,⟨h2.range.1,h2.range.2.1,Int.le_trans h2.range.2.2 key.2.2.1⟩⟩,key.2.2.1,key.2.2.2⟩
theorem NB{m:ab}(h:bm m):bm (cF m):=by
 have hid:m.aH=3\/aI m.aa=true->cF m=m:=fun hc=>Qr hc
 have mk:(P0 (cF m)\/P1 (cF m)\/P2 (cF m)\/P3 (cF m))->bm (cF m):=by
  intro hb;unfold cF at hb ⊢;split at hb
  ·rename_i hc;rw[Qr hc];exact h
  ·rename_i hc;rw[Qs hc];exact⟨h.n0,h.n1,h.aK,h.seq,h.aM,h.sx,h.hv,h.ib,hb⟩
 rcases h.body with h0|h1|h2|h3
 ·rw[hid (.inr (by rw[h0.aQ];exact bQ))];exact h
 ·exact mk (.inr (.inl (aaw h h1)))
 ·exact mk (.inr (.inr (.inl (To h h2).1)))
 ·rw[hid (.inl h3.aT)];exact h
end
section
end
section
theorem tD(q:Int->Bool):∀(r:List Int) (lo:Int),cz q r lo<=lo
 |[],lo=>Int.le_refl _
 |e::r,lo=>by
  rw[cz];split
  ·exact tD q r lo
  ·split
   ·exact Int.le_trans (tD q r e) (by omega)
   ·exact Int.le_refl _
theorem BZ(q:Int->Bool):∀(r:List Int) (lo:Int),cz q r lo=lo\/q (cz q r lo)=true/\cz q r lo∈r
 |[],lo=> .inl rfl
 |e::r,lo=>by
  rw[cz];split
  ·exact(BZ q r lo).imp id fun h=>⟨h.1,by simp[h.2]⟩
  ·split
   ·rename_i hq;rcases BZ q r e with h|h
    ·exact .inr ⟨by rw[h];exact hq,by rw[h];simp⟩
    ·exact .inr ⟨h.1,by simp[h.2]⟩
   ·exact .inl rfl
theorem B0(q:Int->Bool)(r:List Int)(lo:Int)(h:∀x∈r,1<=x)(h1:1<=lo):1<=cz q r lo:=by
 rcases BZ q r lo with e|⟨_,e⟩
 ·omega
 ·exact h _ e
section
variable {aC : Nat} {t : al} {l : List aj} (p q : af)
end
end
section
theorem ZW{m:ab}(h:bm m){p:aj->Bool}(hb:(c8 p (bU (bc m))).testBit m.aq.toNat=true):aI m.aa=false/\p (iO m)=true:=by
 rw[wb,List.any_eq_true]at hb;obtain⟨e,he,hp⟩:=hb;rw[Qm,Qi]at hp;obtain⟨h1,h2⟩:=h.aaM ((List.mem_filter.1 he).1) hp.2;rw[<-h2];exact⟨h1,hp.1⟩
theorem RJ{m:ab}(h:bm m){b:af}(hc:jI m.aq.toNat m.ai (bc m) b=true):aI m.aa=false/\df (iO m) b=true:=by
 have hsm:=jX (aC:=m.aq.toNat) h.aM.sm h.ev.lK.1;have hg:=xM hsm (jE (p:=(df · b)) (mm (bc m)));exact ZW h (hg.inside _ hc).1
theorem SI{m:ab}(h1:m.aH=1){b:af}(ha:df (iO m) b=true):aI b=false/\dK m.an m.ax b=true:=by
 have e:iO m=⟨m.aq,m.bl,bB (bF m).aF 1,m.ai,m.aH,m.aa,m.an,m.ax,m.aS,fc m⟩:=by unfold iO bF;rw[Qr h1]
 rw[e]at ha;unfold df at ha;rw[Qm,Qr h1]at ha;simpa using ha
theorem WT{m:ab}(h:bm m)(h1:P1 m):gd m=bZ\/(c7 (gd m)/\bx m.au (gd m)=true/\dK m.an m.ax (gd m)=true):=by
 unfold gd vL;rcases Rs (l:=eI (bc m)) (p:=vK (jI m.aq.toNat m.ai (bc m)) m.au) (z:=yp)with e|⟨h2,h3⟩
 ·exact .inl e
 ·right;unfold vK at h3;simp only[Qm,Qi]at h3;exact⟨TL (FE h h2) h3.1.2,h3.1.1,(SI h1.aT (RJ h h3.2).2).2⟩
theorem aaX{p q b:af}{v:ByteArray}{n:Int}(hok:rZ p q)(hb:dK p q b=true)(hv:b.Value≠v)(ha:my p q v n=false):b.ae<=n:=by
 unfold my at ha;rw[Qq74]at ha
 have key:∀x:af,aI x=false->x.Value≠v->ez x ⟨n,v⟩=false->x.ae<=n:=by
  intro x hz hx h;unfold ez at h;rw[hz,(ik (a:=x) (b:=⟨n,v⟩)).2 hx,Qp,Bool.and_self,Bool.true_and]at h;exact Jj h
 have hqp:aI q=false->c7 q/\c7 p/\bx q p=true/\q.Value≠p.Value:=fun hz=>by
  rcases hok.2 with e|⟨e1,e2,e3,e4⟩
  ·rw[e,bQ]at hz;cases hz
  ·exact⟨e1,e2,e3,ik.1 e4⟩
 rw[BD]at hb;rcases hb with hb|hb|⟨hz,hl⟩
 ·obtain⟨h1,h2,h3⟩:=(kV _ _).1 hb;have:=key p h1 (by rw[h2];exact hv) ha.1
  omega
 ·obtain⟨h1,h2,h3⟩:=(kV _ _).1 hb;have:=key q h1 (by rw[h2];exact hv) ha.2
  omega
 ·obtain⟨e1,e2,e3,e4⟩:=hqp hz;have h5:=iL hl
  by_cases hqv:q.Value=v
  ·have:=key p e2.nz (by rw[<-hqv];exact fun e=>e4 e.symm) ha.1
   have:=iL e3;omega
  ·have:=key q hz hqv ha.2;omega
theorem ad6{m:ab}(h1:P1 m){b:af}(hb:c7 b)(hl:bx m.au b=true)(hp:dK m.an m.ax b=true):P1 (zX m b)/\(zX m b).an=m.an/\(zX m b).ax=m.ax/\(zX m b).au=b/\m.aa.ae<=(zX m b).aa.ae:=by
 unfold zX;have hh:=Ll h1;split
 ·rename_i hlt
  have hhigh:∀L:Int,fc {m with au:=b,aa:=b,aS:=L}=b.ae:=by
   intro L;unfold fc;rw[Qr];rw[hb.nz,iF.2 rfl];rfl
  refine⟨⟨h1.aT,hb,h1.dv,h1.bW,.inr ⟨hb,hp⟩,WL b,h1.bV,?_⟩,rfl,rfl,rfl,iL hlt⟩;show(if bM m.aa b=true then m.aS else 0)=0\/(1<=(if bM m.aa b=true then m.aS else 0)/\(if bM m.aa b=true then m.aS else 0)<=fc {m with au:=b,aa:=b,aS:=if bM m.aa b=true then m.aS else 0}/\my m.an m.ax b.Value (if bM m.aa b=true then m.aS else 0)=false)
  rw[hhigh];split
  ·rename_i hc;rw[iF]at hc;rcases h1.low with e|⟨h2,h3,h4⟩
   ·exact .inl e
   ·refine .inr ⟨h2,?_,by rw[<-hc];exact h4⟩
    have:=iL hlt;omega
  ·exact .inl rfl
 ·rename_i hlt;have hlt:bx m.aa b=false:=by simpa using hlt
  refine⟨⟨h1.aT,h1.aQ,h1.dv,h1.bW,.inr ⟨hb,hp⟩,hlt,h1.bV,?_⟩,rfl,rfl,rfl,Int.le_refl _⟩;rcases h1.low with e|⟨h2,h3,h4⟩
  ·exact .inl e
  ·refine .inr ⟨h2,?_,h4⟩;show m.aS<=fc {m with au:=b}
   have hv:b.Value=m.aa.Value:=by
    refine Classical.byContradiction fun hv=> ?_
    have h5:=aaX h1.ic hp hv h4;have h6:=iL hl;rcases hh.2.2 with e|⟨e1,e2,e3⟩
    ·omega
    ·
     have e4:bx b m.au=false:=zm.asymm hl;have e5:=hl;rw[wX]at e5;have hbc:b.ae=m.au.ae:=by omega
     have hlow:m.aS=m.au.ae:=by omega
     have e6:bx ⟨m.aS,m.aa.Value⟩ b=true:=by
      have:(⟨m.aS,m.aa.Value⟩:af)=m.au:=by rw[hlow,<-e2]
      rw[this];exact hl
     unfold my at h4;rw[Qq74]at h4
     have key:∀x:af,aI x=false->x.Value≠m.aa.Value->ez x ⟨m.aS,m.aa.Value⟩=false->bx ⟨m.aS,m.aa.Value⟩ x=false:=by
      intro x hz hx h;unfold ez at h;rw[hz,(ik (a:=x) (b:=⟨m.aS,m.aa.Value⟩)).2 hx,Qp,Bool.and_self,Bool.true_and]at h;exact h
     rw[BD]at hp;rcases hp with hp|hp|⟨hz,hq⟩
     ·obtain⟨g1,g2,g3⟩:=(kV _ _).1 hp;have g4:=key _ g1 (by rw[g2];exact hv) h4.1
      have g5:bx ⟨m.aS,m.aa.Value⟩ m.an=true:=by
       by_cases e:b=m.an
       ·rw[<-e];exact e6
       ·exact mf e6 (Gz (GZ hp) (fun e'=>e e'.symm))
      rw[g5]at g4;cases g4
     ·obtain⟨g1,g2,g3⟩:=(kV _ _).1 hp;have g4:=key _ g1 (by rw[g2];exact hv) h4.2
      have g5:bx ⟨m.aS,m.aa.Value⟩ m.ax=true:=by
       by_cases e:b=m.ax
       ·rw[<-e];exact e6
       ·exact mf e6 (Gz (GZ hp) (fun e'=>e e'.symm))
      rw[g5]at g4;cases g4
     ·rcases h1.bW with e|⟨f1,f2,f3,f4⟩
      ·rw[e,bQ]at hz;cases hz
      ·by_cases hqv:m.ax.Value=m.aa.Value
       ·have g4:=key _ f2.nz (by rw[<-hqv];exact fun e=>(ik.1 f4) e.symm) h4.1
        rw[mf e6 (mf hq f3)]at g4;cases g4
       ·have g4:=key _ hz hqv h4.2;rw[mf e6 hq]at g4;cases g4
   have hhigh:fc {m with au:=b}=b.ae:=by
    unfold fc;rw[Qr];show(!aI b&&bM b m.aa)=true;rw[hb.nz,iF.2 hv];rfl
   rw[hhigh];rcases hh.2.2 with e|⟨e1,e2,e3⟩
   ·omega
   ·have:=iL hl;omega
theorem ZY{m:ab}(h1:P1 m){b:af}(hb:c7 b)(hc:m.au=b):P1 (oI m b):=by
 unfold oI;split
 ·rename_i hv;obtain⟨hL,hcp,hle⟩:=hv;rw[iF]at hcp;refine⟨h1.aT,h1.aQ,h1.dv,h1.bW,h1.dM,h1.up,h1.bV,?_⟩;obtain⟨h2,h3,h4⟩:=TB (v:=b.Value) (n:=m.aa.ae) h1.ic.valid.1 h1.ic.valid.2;refine .inr ⟨h3,?_,by show my m.an m.ax m.aa.Value _=false;rw[hcp];exact h4⟩
  show kK b.Value m.aa.ae m.an m.ax<=fc {m with aS:=kK b.Value m.aa.ae m.an m.ax}
  have hhigh:fc {m with aS:=kK b.Value m.aa.ae m.an m.ax}=b.ae:=by
   unfold fc;rw[Qr]
   ·show m.au.ae=_;rw[hc]
   ·show(!aI m.au&&bM m.au m.aa)=true;rw[hc,hb.nz,iF.2 hcp.symm];rfl
  rw[hhigh];exact hle
 ·exact h1
theorem Ue(m:ab)(b:af):(oI m b).an=m.an/\(oI m b).ax=m.ax/\(oI m b).au=m.au/\(oI m b).aa=m.aa:=by
 unfold oI;split<;>exact⟨rfl,rfl,rfl,rfl⟩
theorem s5{m:ab}(h:m.aH≠1\/aI m.aa=true\/aI (gd m)=true):fI m=m:=Qr h
theorem CK{m m':ab}(h:bm m)(he:m'.aq=m.aq/\m'.bl=m.bl/\m'.aF=m.aF/\m'.ai=m.ai/\m'.aY=m.aY/\m'.aw=m.aw)(hb:P0 m'\/P1 m'\/P2 m'\/P3 m'):bm m':=by
 obtain⟨e1,e2,e3,e4,e5,e6⟩:=he;exact⟨by rw[e1];exact h.n0,by rw[e1];exact h.n1,by rw[e2];exact h.aK,by rw[e3];exact h.seq,by rw[e4];exact h.aM,by rw[e5];exact h.sx,by rw[e6,e1,e2];exact h.hv,by rw[e6];exact h.ib,hb⟩
structure gW (m m':ab):Prop where
 aC:m'.aq=m.aq
 aK:m'.bl=m.bl
 seq:m'.aF=m.aF
 aM:m'.ai=m.ai
 sx:m'.aY=m.aY
 heard:m'.aw=m.aw
theorem gW.refl(m:ab):gW m m:=⟨rfl,rfl,rfl,rfl,rfl,rfl⟩
theorem gW.all{m m':ab}(h:gW m m'):m'.aq=m.aq/\m'.bl=m.bl/\m'.aF=m.aF/\m'.ai=m.ai/\m'.aY=m.aY/\m'.aw=m.aw:=⟨h.aC,h.aK,h.seq,h.aM,h.sx,h.heard⟩
theorem s6(m:ab):gW m (cF m):=by unfold cF;split<;>exact⟨rfl,rfl,rfl,rfl,rfl,rfl⟩
theorem aa8(m:ab)(b:af):gW m (zX m b):=by unfold zX;split<;>exact⟨rfl,rfl,rfl,rfl,rfl,rfl⟩
theorem VP(m:ab)(b:af):gW m (oI m b):=by unfold oI;split<;>exact⟨rfl,rfl,rfl,rfl,rfl,rfl⟩
theorem ra(m:ab):gW m (fI m):=by
 unfold fI;split
 ·exact .refl m
 ·have h1:=VP (zX m (gd m)) (gd m);have h2:=aa8 m (gd m);exact⟨h1.aC.trans h2.aC,h1.aK.trans h2.aK,h1.seq.trans h2.seq,h1.aM.trans h2.aM,h1.sx.trans h2.sx,h1.heard.trans h2.heard⟩
theorem ri(m:ab):gW m (fo m):=by
 unfold fo G0 yw;split
 ·split<;>exact⟨rfl,rfl,rfl,rfl,rfl,rfl⟩
 ·split<;>exact⟨rfl,rfl,rfl,rfl,rfl,rfl⟩
theorem rh(m:ab):gW m (ig m):=by unfold ig HM;split<;>exact⟨rfl,rfl,rfl,rfl,rfl,rfl⟩
theorem zJ(m:ab):gW m (fb m):=by unfold fb;split<;>exact⟨rfl,rfl,rfl,rfl,rfl,rfl⟩
theorem Ms{m:ab}(h:bm m)(h1:P1 m):P1 (fI m)/\(fI m=m\/((fI m).an=m.an/\(fI m).ax=m.ax/\bx m.au (fI m).au=true/\m.aa.ae<=(fI m).aa.ae)):=by
 unfold fI;split
 ·exact⟨h1,.inl rfl⟩
 ·rename_i hc;rcases WT h h1 with e|⟨hf,hl,hp⟩
  ·exact absurd (.inr (.inr (by rw[e];exact bQ))) hc
  ·obtain⟨g1,g2,g3,g4,g5⟩:=ad6 h1 hf hl hp;obtain⟨v1,v2,v3,v4⟩:=Ue (zX m (gd m)) (gd m);exact⟨ZY g1 hf g4,.inr ⟨v1.trans g2,v2.trans g3,by rw[v3,g4];exact hl,by rw[v4];exact g5⟩⟩
theorem NA{m:ab}(h:bm m):bm (fI m):=by
 rcases h.body with h0|h1|h2|h3
 ·rw[s5 (.inr (.inl (by rw[h0.aQ];exact bQ)))];exact h
 ·exact CK h (ra m).all (.inr (.inl (Ms h h1).1))
 ·rw[s5 (.inl (by rw[h2.aT];decide))];exact h
 ·rw[s5 (.inl (by rw[h3.aT];decide))];exact h
theorem za{m:ab}(h:bm m)(v:ByteArray):∀x∈br (bc m) v,1<=x/\x<=1000:=CR h.ev.lK.1 h.ev.lK.2 v
theorem XO{m:ab}(h:bm m):∀v∈fU (bc m),1<=v.size/\v.size<=200:=by
 intro v hv;obtain⟨e,he,h1,h2⟩:=((rj h.ev.lK.1.aM h.ev.lK.2).2.2.2 v).1 hv;rw[h2];exact Iq h1
theorem Vu{m:ab}(h:bm m){x:ByteArray->Int->Int->Bool}{p q:af}:(gJ x (bc m) p q).1=false\/(c7 (gJ x (bc m) p q).2/\(gJ x (bc m) p q).2.Value∈fU (bc m)/\(gJ x (bc m) p q).2.ae∈br (bc m) (gJ x (bc m) p q).2.Value/\
  my p q (gJ x (bc m) p q).2.Value (gJ x (bc m) p q).2.ae=false/\x (gJ x (bc m) p q).2.Value (gJ x (bc m) p q).2.ae (gJ x (bc m) p q).2.ae=true):=by
 let G:Bool×af->Prop:=fun s=>s.1=false\/(c7 s.2/\s.2.Value∈fU (bc m)/\s.2.ae∈br (bc m) s.2.Value/\my p q s.2.Value s.2.ae=false/\x s.2.Value s.2.ae s.2.ae=true)
 have inner:∀(v:ByteArray),v∈fU (bc m)->∀(b:List Int),(∀n∈b,n∈br (bc m) v)->∀s,G s->G (b.foldl (fJ x p q v) s):=by
  intro v hv b
  induction b with
  |nil=>intro _ s hs;exact hs
  |cons n b ih=>
   intro hb s hs;rw[QU];refine ih (fun k hk=>hb k (Qy _ hk)) _ ?_
   unfold fJ;split
   ·rename_i hc;simp only[Qm,Bool.not_eq_true']at hc;have hn:=hb n Qx;have h1:=za h v n hn;have h2:=XO h v hv;exact .inr ⟨⟨h1.1,h1.2,h2.1,h2.2⟩,hv,hn,hc.1.2,hc.2⟩
   ·exact hs
 have outer:∀(vs:List ByteArray),(∀v∈vs,v∈fU (bc m))->∀s,G s->G (vs.foldl (fun s v=>(br (bc m) v).foldl (fJ x p q v) s) s):=by
  intro vs
  induction vs with
  |nil=>intro _ s hs;exact hs
  |cons v vs ih=>
   intro hv s hs;rw[QU];exact ih (fun u hu=>hv u (Qy _ hu)) _ (inner v (hv v Qx) _ (fun n hn=>hn) s hs)
 exact outer _ (fun v hv=>hv) (false,⟨0,fD⟩) (.inl rfl)
structure aex (m:ab) (v:ByteArray) (lo hi:Int):Prop where
 fin:c7 ⟨hi,v⟩
 lo1:1<=lo
 le:lo<=hi
 val:v∈fU (bc m)
 top:gr m v hi hi=true
 all:gr m v lo hi=true
theorem Lu{m:ab}(h:bm m)(hk:(fl m).2.2.2.1=true):aex m (fl m).1 (fl m).2.1 (fl m).2.2.1:=by
 rcases Vu (x:=gr m) (p:=m.an) (q:=m.ax) h with e|⟨h1,h2,h3,h4,h5⟩
 ·unfold fl ou at hk;rw[e]at hk;cases hk
 ·have hb:(gJ (gr m) (bc m) m.an m.ax).1=true:=by
   unfold fl ou at hk;split at hk
   ·assumption
   ·cases hk
  have e:fl m=((gJ (gr m) (bc m) m.an m.ax).2.Value,cz (fun n=> !my m.an m.ax (gJ (gr m) (bc m) m.an m.ax).2.Value n&&gr m (gJ (gr m) (bc m) m.an m.ax).2.Value n (gJ (gr m) (bc m) m.an m.ax).2.ae) (br (bc m) (gJ (gr m) (bc m) m.an m.ax).2.Value).reverse (gJ (gr m) (bc m) m.an m.ax).2.ae,(gJ (gr m) (bc m) m.an m.ax).2.ae,true,()):=by
   unfold fl ou;rw[Qr hb]
  rw[e];refine⟨h1,B0 _ _ _ (fun x hx=>(za h _ x (List.mem_reverse.1 hx)).1) h1.1,tD _ _ _,h2,h5,?_⟩
  simp only;rcases BZ (fun n=> !my m.an m.ax (gJ (gr m) (bc m) m.an m.ax).2.Value n&&gr m (gJ (gr m) (bc m) m.an m.ax).2.Value n (gJ (gr m) (bc m) m.an m.ax).2.ae) (br (bc m) (gJ (gr m) (bc m) m.an m.ax).2.Value).reverse (gJ (gr m) (bc m) m.an m.ax).2.ae with e|⟨e,_⟩
  ·rw[e];exact h5
  ·rw[Qm]at e;exact e.2
theorem RL{m:ab}(hb0:m.aa=bZ\/c7 m.aa)(hp0:m.an=bZ\/c7 m.an){v:ByteArray}{lo hi:Int}(hf:c7 ⟨hi,v⟩)(hlo:1<=lo)(hle:lo<=hi):P2 (G0 m v lo hi):=by
 unfold G0
 have hmax:c7 ⟨bB m.aa.ae hi,v⟩:=by
  rcases hb0 with e|h2
  ·have:bB m.aa.ae hi=hi:=by
    have h3:=hf.1;simp only at h3;have h4:m.aa.ae=0:=by rw[e];rfl
    unfold bB;split<;>omega
   rw[this];exact hf
  ·have:bB m.aa.ae hi=m.aa.ae\/bB m.aa.ae hi=hi:=by unfold bB;split<;>simp
   rcases this with e|e<;>rw[e]
   ·exact⟨h2.1,h2.2.1,hf.2.2⟩
   ·exact hf
 have hbv:∀b:af,b=(if(!bM m.aa ⟨hi,v⟩||bx m.aa ⟨hi,v⟩)=true then⟨bB m.aa.ae hi,v⟩else m.aa)->c7 b/\b.Value=v:=by
  intro b hb;split at hb
  ·rw[hb];exact⟨hmax,rfl⟩
  ·rename_i hc;rw[hb];simp only[Qn,Bool.not_eq_true',not_or,Bool.not_eq_false]at hc;refine⟨hb0.resolve_left (fun e=> ?_),iF.1 hc.1⟩
   have:=iF.1 hc.1;rw[e]at this;exact hf.ne this.symm
 obtain⟨b1,b2⟩:=hbv _ rfl
 have hpv:∀p:af,p=(if jj m.an ⟨hi,v⟩=true then m.an else⟨hi,v⟩)->c7 p/\p.Value=v/\hi<=p.ae:=by
  intro p hp;split at hp
  ·rename_i hc;rw[hp];obtain⟨g1,g2,g3⟩:=(kV _ _).1 hc;refine⟨?_,g2,g3⟩;rcases hp0 with e|e
   ·rw[e,bQ]at g1;cases g1
   ·exact e
  ·rw[hp];exact⟨hf,rfl,Int.le_refl _⟩
 obtain⟨p1,p2,p3⟩:=hpv _ rfl;exact⟨rfl,b1,⟨p1,p2.trans b2.symm⟩,rfl,.inr ⟨hf,b2.symm⟩,⟨hlo,hle,p3⟩⟩
theorem Ru{m:ab}(h:bm m)(h2:P2 m):1<=(ed m).1/\(ed m).1<=(ed m).2/\(ed m).2<=1000/\(((ed m).2=m.bn/\(ed m).1<=m.aS)\/m.bn<(ed m).2):=by
 have hr:=h2.range;have hH:m.bn<=1000:=by have:=h2.dv.1.2.1;omega
 have hb:∀x∈(br (bc m) m.aa.Value).reverse,1<=x:=fun x hx=>(za h _ x (List.mem_reverse.1 hx)).1
 unfold ed Dh;split
 ·refine⟨B0 _ _ _ hb hr.1,?_,hH,.inl ⟨rfl,tD _ _ _⟩⟩;exact Int.le_trans (tD _ _ _) hr.2.1
 ·rename_i n hn;have hnb:=za h _ n (List.mem_reverse.1 (List.mem_of_find?_eq_some hn));have hnp:=List.find?_some hn;simp only[Qm,Qi]at hnp;have h5:1<=cz (fun x=>gr m m.aa.Value x n) (br (bc m) m.aa.Value).reverse n:=B0 _ _ _ hb hnb.1
  have h6:=tD (fun x=>gr m m.aa.Value x n) (br (bc m) m.aa.Value).reverse n
  simp only;refine⟨B0 _ _ _ hb ?_,?_,hnb.2,.inr hnp.1⟩
  ·split
   ·exact h5
   ·exact hr.1
  ·refine Int.le_trans (tD _ _ _) ?_;split
   ·exact h6
   ·omega
theorem Va{m:ab}(h2:P2 m){lo hi:Int}(hlo:1<=lo)(hle:lo<=hi)(hhi:hi<=1000):P2 (yw m lo hi):=by
 unfold yw;have hb:=h2.aQ;have hp:=h2.dv;have e1:∀c:Int,bB c hi=c\/bB c hi=hi:=fun c=>by unfold bB;split<;>simp
 have e2:∀c:Int,hi<=bB c hi:=fun c=>by unfold bB;split<;>omega
 have mx:∀c:Int,c<=1000->c7 ⟨bB c hi,m.aa.Value⟩:=by
  intro c hc;refine⟨by have:=e2 c;simp only;omega,?_,hb.2.2.1,hb.2.2.2⟩
  rcases e1 c with e|e<;>simp only[e]<;>omega
 refine⟨h2.aT,mx _ hb.2.1,⟨?_,?_⟩,h2.bW,.inr ⟨mx _ ?_,rfl⟩,⟨hlo,hle,e2 _⟩⟩
 ·show c7 ⟨bB m.an.ae hi,m.an.Value⟩;rw[hp.2];exact mx _ hp.1.2.1
 ·exact hp.2
 ·rcases h2.dM with e|e
  ·rw[e];decide
  ·exact e.1.2.1
theorem NF{m:ab}(h:bm m):bm (fo m):=by
 refine CK h (ri m).all ?_;unfold fo;rcases h.body with h0|h1|h2|h3
 ·rw[Qr h0.aT];split
  ·rename_i hk;have hf:=Lu h hk;exact .inr (.inr (.inl (RL (.inl h0.aQ) (.inl h0.dv) hf.fin hf.lo1 hf.le)))
  ·exact .inl h0
 ·rw[Qr h1.aT];split
  ·rename_i hk;have hf:=Lu h hk;exact .inr (.inr (.inl (RL (.inr h1.aQ) h1.dv hf.fin hf.lo1 hf.le)))
  ·exact .inr (.inl h1)
 ·rw[Qs (by rw[h2.aT];decide),Qr h2.aT]
  have:=Ru h h2;exact .inr (.inr (.inl (Va h2 this.1 this.2.1 this.2.2.1)))
 ·rw[Qs (by rw[h3.aT];decide),Qs (by rw[h3.aT];decide)]
  exact .inr (.inr (.inr h3))
theorem ac4{m:ab}(h:bm m)(hk:(mr m).2.2.1=true):1<=(mr m).1/\(mr m).1<=(mr m).2.1/\(mr m).2.1<=1000/\Ei m m.aa.Value (mr m).1 (mr m).2.1=true:=by
 unfold mr vq at hk ⊢;split at hk
 ·rename_i n hn;have hnb:=za h _ n (List.mem_reverse.1 (List.mem_of_find?_eq_some hn));have hs:=List.find?_some hn;simp only;refine⟨B0 _ _ _ (fun x hx=>(za h _ x (List.mem_reverse.1 hx)).1) hnb.1,tD _ _ _,hnb.2,?_⟩
  rcases BZ (fun x=>Ei m m.aa.Value x n) (br (bc m) m.aa.Value).reverse n with e|⟨e,_⟩
  ·rw[e];exact hs
  ·exact e
 ·cases hk
theorem Tq{m:ab}(h:bm m)(h2:P2 m)(hk:(mr m).2.2.1=true):P3 (HM m (mr m).1 (mr m).2.1):=by
 obtain⟨g1,g2,g3,_⟩:=ac4 h hk;unfold HM;exact⟨rfl,⟨by simp only;omega,g3,h2.aQ.2.2.1,h2.aQ.2.2.2⟩,rfl,rfl,rfl,⟨g1,g2,g3⟩⟩
theorem ND{m:ab}(h:bm m):bm (ig m):=by
 refine CK h (rh m).all ?_;unfold ig;split
 ·rename_i hc;rcases h.body with h0|h1|h2|h3
  ·have:=h0.aT;have:=hc.1;omega
  ·have:=h1.aT;have:=hc.1;omega
  ·exact .inr (.inr (.inr (Tq h h2 hc.2)))
  ·have:=h3.aT;have:=hc.1;omega
 ·exact h.body
theorem U1{z:af}:∀{l:List af},l≠[]->GN z l∈l
 |[],h=>absurd rfl h
 |x::l,_=>by
  show l.foldl (fun a y=>if bx a y=true then y else a) x∈x::l
  suffices key:∀(l:List af) (a:af),l.foldl (fun a y=>if bx a y=true then y else a) a=a\/l.foldl (fun a y=>if bx a y=true then y else a) a∈l by
   rcases key l x with e|e
   ·rw[e];exact Qx
   ·exact Qy _ e
  intro l
  induction l with
  |nil=>intro a;exact .inl rfl
  |cons y l ih=>
   intro a;rw[QU];rcases ih (if bx a y=true then y else a)with e|e
   ·rw[e];split
    ·exact .inr Qx
    ·exact .inl rfl
   ·exact .inr (Qy _ e)
theorem Z8{t:al}(h:fe t){s:Nat}(hs:∀k,k<10->s.testBit k=true):kS s t=true:=by
 have hn:∀x:Int,0<=x->x<10->lD s x=true:=by
  intro x h0 h1;unfold lD fj;rw[Qg h0,Qg h1,hs _ (by omega)]
  rfl
 have hc:t.bb.countP (lD s)=t.bb.length:=List.countP_eq_length.2 fun x hx=>hn x (h.nodes x hx).1 (h.nodes x hx).2
 have hi:wh s t.aN=t.aN.length:=by
  rcases h.inner with e|⟨x,h0,h1,e⟩
  ·rw[e];rfl
  ·rw[e]
   have:kS s ⟨1,[x],[]⟩=true:=by
    rw[Hq];simp[hn x h0 h1,wh]
   simp[wh,this]
 rw[Hq,hc,hi,Qi];have:=h.th.2;omega
theorem VA{m:ab}(h:bm m){n:Int}(ha:iH m n=true):∃e∈m.aw,n<cd e:=by
 refine Classical.byContradiction fun hno=> ?_
 have hz:B9 m n=0:=by
  refine Bk fun k=> ?_
  unfold B9;rw[wb,Nat.zero_testBit,List.any_eq_false];intro e he;have:¬n<cd e:=fun hlt=>hno ⟨e,he,hlt⟩
  simp[this]
 unfold iH ur at ha;rw[hz,Qm]at ha
 have hown:lP (eN m.aq.toNat m.ai (bc m)) m.aq.toNat=m.ai:=by
  unfold lP;rw[FT h.ev.aC.2 m.ai (bc m) h.ev.aC.2,Qr rfl];rfl
 rw[hown,Z8 h.aM (fun k hk=>by rw[AR (by omega)];simp[hk])]at ha
 cases ha.2
theorem S7{m:ab}(h:bm m)(h1:m.aH=1)(hc:m.au=bZ\/c7 m.au)(hh:m.aw≠[]\/m.aY≠fD\/m.au≠bZ):1<=(cZ m).size/\(cZ m).size<=200:=by
 unfold cZ;split
 ·rename_i hz;rcases hc with e|e
  ·rw[e,bQ]at hz;cases hz
  ·exact e.2.2
 ·rename_i hz;have hz:aI m.au=true:=by simpa using hz
  rw[Qs (fun h=>h h1)]
  split
  ·rename_i hp;refine⟨?_,h.sx⟩;rcases Nat.eq_zero_or_pos m.aY.size with e|e
   ·exfalso;apply hp;have:m.aY.data=#[]:=Array.eq_empty_of_size_eq_zero e
    cases hm:m.aY with
    |mk d=>rw[hm]at this;simp only at this;rw[this];rfl
   ·exact e
  ·rename_i hp
   have hne:m.aw≠[]:=by
    rcases hh with e|e|e
    ·exact e
    ·exact absurd e hp
    ·exact absurd (wR.1 hz) e
   have hm:=U1 (z:=bZ) (l:=m.aw.map (·.aa)) (by simpa using hne)
   obtain⟨e,he,heq⟩:=QP.1 hm;rw[<-heq];exact Iq (h.hv e he).1
theorem Xi{e:aj}(hv:aX e=true):1<=cd e/\(cd e<=1000\/cd e=1000000):=by
 unfold cd;split
 ·exact⟨by decide,.inr rfl⟩
 ·rename_i h3;have hv':=hv;unfold aX kp at hv';rw[Qm,Qm]at hv';have hb:=hv'.2
  have gof:∀{b:af},finite b=true->1<=b.ae/\b.ae<=1000:=by
   intro b hb;unfold finite at hb;rw[Qm,Qi]at hb;have:=(TL hb.1 hb.2);exact⟨this.1,this.2.1⟩
  by_cases h1:e.bL=1
  ·rw[Qr h1]at hb;unfold ic at hb;simp only[Qm]at hb;have:=gof hb.1.1.1.1.1.1.1.1;exact⟨this.1,.inl this.2⟩
  ·rw[Qs h1]at hb
   by_cases h2:e.bL=2
   ·rw[Qr h2]at hb;unfold vu at hb;simp only[Qm]at hb;have:=gof hb.1.1.1.1.1;exact⟨this.1,.inl this.2⟩
   ·rw[Qs h2,Qs h3]at hb;cases hb
theorem Xq(m:ab):gO m=1000000\/(m.aa.ae<gO m/\gO m<1000000/\iH m (gO m)=false/\∃e∈m.aw,gO m=cd e):=by
 unfold gO
 suffices key:∀(l:List aj),(∀e∈l,e∈m.aw)->∀s,(s=1000000\/(m.aa.ae<s/\s<1000000/\iH m s=false/\∃e∈m.aw,s=cd e))->
   (l.foldl (lU m) s=1000000\/(m.aa.ae<l.foldl (lU m) s/\l.foldl (lU m) s<1000000/\iH m (l.foldl (lU m) s)=false/\∃e∈m.aw,l.foldl (lU m) s=cd e))from key _ (fun e he=>he) _ (.inl rfl)
 intro l
 induction l with
 |nil=>intro _ s hs;exact hs
 |cons x l ih=>
  intro hm s hs;rw[QU];refine ih (fun e he=>hm e (Qy _ he)) _ ?_
  unfold lU;split
  ·rename_i hc;exact .inr ⟨hc.1,by rcases hs with e|e<;>omega,hc.2.2,x,hm x Qx,rfl⟩
  ·exact hs
theorem G2{m:ab}(h:bm m)(hb:0<=m.aa.ae/\m.aa.ae<=1000):m.aa.ae<=bB m.aa.ae (cm (gO m) 1000)/\bB m.aa.ae (cm (gO m) 1000)<=1000/\1<=bB m.aa.ae (cm (gO m) 1000)/\
  (bB m.aa.ae (cm (gO m) 1000)=m.aa.ae->m.aa.ae=1000)/\bB m.aa.ae (cm (gO m) 1000)=cm (gO m) 1000:=by
 have hmin:cm (gO m) 1000<=1000/\1<=cm (gO m) 1000/\(m.aa.ae<cm (gO m) 1000\/cm (gO m) 1000=1000):=by
  rcases Xq m with e|⟨g1,g2,_,x,hx,g4⟩
  ·rw[e];exact⟨by decide,by decide,.inr (by decide)⟩
  ·have hc:=Xi (h.hv x hx).1;rw[<-g4]at hc;have:gO m<=1000:=by omega
   have e:cm (gO m) 1000=gO m:=by unfold cm;split<;>omega
   rw[e];omega
 unfold bB;split<;>omega
theorem Mt{m:ab}(h:bm m)(h1:P0 m\/P1 m)(ha:iH m m.aa.ae=true):P1 (fb m):=by
 have hph:m.aH=1:=by rcases h1 with h|h<;>exact h.aT
 have hbc:0<=m.aa.ae/\m.aa.ae<=1000:=by
  rcases h1 with h|h
  ·rw[h.aQ];decide
  ·have:=h.aQ;exact⟨by have:=this.1;omega,this.2.1⟩
 obtain⟨c1,c2,c3,_⟩:=G2 h hbc;obtain⟨e0,he0,_⟩:=VA h ha
 have hconf:m.au=bZ\/c7 m.au:=by
  rcases h1 with h|h
  ·exact .inl h.dM
  ·exact h.dM.imp id (·.1)
 have hv:=S7 h hph hconf (.inl (List.ne_nil_of_mem he0));unfold fb;rw[Qs (by rw[hph,ha];decide)]
 have hnv:nc m=cZ m:=Qr hph;rw[hnv];generalize hn:bB m.aa.ae (cm (gO m) 1000)=n at c1 c2 c3 ⊢
 have hpo:rZ m.an m.ax:=by
  rcases h1 with h|h
  ·exact⟨.inl h.dv,.inl h.bW⟩
  ·exact h.ic
 refine⟨hph,⟨c3,c2,hv.1,hv.2⟩,hpo.1,hpo.2,?_,?_,?_,?_⟩
 ·rcases h1 with h|h
  ·exact .inl h.dM
  ·exact h.dM
 ·show bx ⟨n,cZ m⟩ m.au=false;rcases hconf with e|e
  ·rw[e]
   cases hl:bx ⟨n,cZ m⟩ bZ with
   |false=>rfl
   |true=>have:=iL hl;have h0:(bZ:af).ae=0:=rfl;simp only at this;omega
  ·have hvc:cZ m=m.au.Value:=by unfold cZ;rw[Qr e.nz]
   rw[EO (show(⟨n,cZ m⟩:af).Value=m.au.Value from hvc),Qj]
   rcases h1 with h|h
   ·exact absurd h.dM (JG e)
   ·have:=Jj h.up;simp only;omega
 ·rcases h1 with h|h<;>exact h.bV
 ·show(if cZ m=m.aa.Value then m.aS else 0)=0\/(1<=(if cZ m=m.aa.Value then m.aS else 0)/\_<=_/\my m.an m.ax (cZ m) (if cZ m=m.aa.Value then m.aS else 0)=false)
  split
  ·rename_i hve;rcases h1 with h|h
   ·exact .inl h.low
   ·rcases h.low with e|⟨g1,g2,g3⟩
    ·exact .inl e
    ·refine .inr ⟨g1,?_,by rw[hve];exact g3⟩
     have:fc {m with aS:=m.aS,aa:=⟨n,cZ m⟩}=fc m:=by
      unfold fc bM;simp only[hve]
     show m.aS<=fc {m with aS:=m.aS,aa:=⟨n,cZ m⟩}
     rw[this];exact g2
  ·exact .inl rfl
theorem Tp{m:ab}(h:bm m)(h2:P2 m):P2 (fb m):=by
 unfold fb;split
 ·exact h2
 ·obtain⟨c1,c2,c3,_⟩:=G2 h ⟨by have:=h2.aQ.1;omega,h2.aQ.2.1⟩
  have hnv:nc m=m.aa.Value:=Qs (by rw[h2.aT];decide)
  rw[hnv,Qr rfl];exact⟨h2.aT,⟨c3,c2,h2.aQ.2.2⟩,h2.dv,h2.bW,h2.dM,h2.range⟩
theorem NC{m:ab}(h:bm m):bm (fb m):=by
 have hid:m.aH=3\/iH m m.aa.ae=false->fb m=m:=fun hc=>Qr hc
 cases ha:iH m m.aa.ae with
 |false=>rw[hid (.inr ha)];exact h
 |true=>
  refine CK h (zJ m).all ?_;rcases h.body with h0|h1|h2|h3
  ·exact .inr (.inl (Mt h (.inl h0) ha))
  ·exact .inr (.inl (Mt h (.inr h1) ha))
  ·exact .inr (.inr (.inl (Tp h h2)))
  ·rw[hid (.inl h3.aT)];exact .inr (.inr (.inr h3))
end
section
theorem lexLt{a a' b b' B:Nat}(hb:b<B)(h:a<a'):a*B+b<a'*B+b':=by
 have h1:(a+1)*B<=a'*B:=Qq63 B h;rw[Qq73]at h1;omega
theorem zt{a a' b b' B:Nat}(h:a=a')(hb:b<b'):a*B+b<a'*B+b':=by rw[h];omega
theorem EN{a b A B:Nat}(ha:a<A)(hb:b<B):a*B+b<A*B:=by
 have h1:(a+1)*B<=A*B:=Qq63 B ha;rw[Qq73]at h1;omega
theorem c7.sm{b:af}(h:c7 b):Sm b:=⟨by have:=h.1;omega,h.2.1,h.2.2.2⟩
theorem WA:Sm bZ:=⟨by decide,by decide,by decide⟩
theorem rn{b:af}(h:b=bZ\/c7 b):Sm b:=by
 rcases h with rfl|h
 ·exact WA
 ·exact h.sm
theorem MX{b:af}(h:c7 b):nN bZ<nN b:=ti WA h.sm ((wX _ _).2 (.inl h.1))
 def t1(m:ab):Nat:=2*m.aa.ae.toNat+(if m.aa.Value=nc m then 1 else 0)
 def pq(m:ab):Nat:=nN m.an*WB+nN m.ax
 def r1(m:ab):Nat:=(pq m*WB+nN m.au)*2002+t1 m
def K1:Nat:=(WB*WB)*WB*2002
 def r2(m:ab):Nat:=(((m.bn.toNat*1001+(1000 - m.aS).toNat)*WB+nN m.an)*WB+nN m.au)*1001+m.aa.ae.toNat
def K2:Nat:=((1001*1001)*WB*WB)*1001
 def jH(m:ab):Nat:=if m.aH=1 then r1 m else if m.aH=2 then K1+r2 m else K1+K2
def zq(m:ab):Prop:=(m.an=bZ\/c7 m.an)/\(m.ax=bZ\/c7 m.ax)/\(m.au=bZ\/c7 m.au)/\(m.aa=bZ\/c7 m.aa)
theorem P0.ok{m:ab}(h:P0 m):zq m:=⟨.inl h.dv,.inl h.bW,.inl h.dM,.inl h.aQ⟩
theorem P1.ok{m:ab}(h:P1 m):zq m:=⟨h.dv,h.bW.imp id (·.1),h.dM.imp id (·.1),.inr h.aQ⟩
theorem P2.ok{m:ab}(h:P2 m):zq m:=⟨.inr h.dv.1,.inl h.bW,h.dM.imp id (·.1),.inr h.aQ⟩
theorem Uk{m:ab}(h:zq m):t1 m<2002:=by
 have:m.aa.ae<=1000:=by
  rcases h.2.2.2 with e|e
  ·rw[e];decide
  ·exact e.2.1
 unfold t1;split<;>omega
theorem adR{m:ab}(h:zq m):pq m<WB*WB:=EN (oW (rn h.1)) (oW (rn h.2.1))
theorem UC{m:ab}(h:zq m):r1 m<K1:=EN (EN (adR h) (oW (rn h.2.2.1))) (Uk h)
theorem P2.bV{m:ab}(h:P2 m):m.bn<=1000:=by have:=h.range.2.2;have:=h.dv.1.2.1;omega
theorem Zz{m:ab}(h:P2 m):r2 m<K2:=by
 have h1:=h.range;have h2:=h.bV;refine EN (EN (EN (EN (A:=1001) ?_ ?_) (oW h.dv.1.sm)) (oW (rn h.ok.2.2.1))) ?_
 ·omega
 ·omega
 ·have:=h.aQ.2.1;omega
theorem xn{m:ab}(h:m.aH=1):jH m=r1 m:=Qr h
theorem xm{m:ab}(h:m.aH=2):jH m=K1+r2 m:=by unfold jH;rw[Qs (by omega),Qr h]
theorem V5{m:ab}(h:m.aH=3):jH m=K1+K2:=by unfold jH;rw[Qs (by omega),Qs (by omega)]
theorem Tf{m:ab}(h:bm m):jH m<=K1+K2:=by
 rcases h.body with h0|h1|h2|h3
 ·rw[xn h0.aT];have:=UC h0.ok;omega
 ·rw[xn h1.aT];have:=UC h1.ok;omega
 ·rw[xm h2.aT];have:=Zz h2;omega
 ·rw[V5 h3.aT];exact QI _
theorem uw.up_{p q b p' q':af}(h:rZ p q)(hb:b=bZ\/c7 b)(hj:uw p q b p' q'):(p'=p/\q'=q)\/nN p*WB+nN q<nN p'*WB+nN q':=by
 have hok:=hj.ok h hb;have hp:=rn h.1;have hq:Sm q:=rn (h.2.imp id (·.1))
 cases hj with
 |same=>exact .inl ⟨rfl,rfl⟩
 |first h1 h2=>
  subst h1 h2;rcases hb with e|e
  ·exact .inl ⟨e,rfl⟩
  ·exact .inr (lexLt (oW hq) (MX e))
 |up h1 hl hc=>exact .inr (lexLt (oW hq) (ti hp (rn hb) hl))
 |An h1 hl hc=>exact .inr (lexLt (oW hq) (ti hp (rn hb) hl))
 |under h1 hl hc hq'=>
  rcases hq' with e|e
  ·subst e;rcases hb with e2|e2
   ·exact .inl ⟨rfl,e2⟩
   ·exact .inr (zt rfl (MX e2))
  ·exact .inr (zt rfl (ti hq (rn hb) e))
theorem yN{m m':ab}(he:gW m m')(h1:m'.aH=m.aH)(h2:m'.aa=m.aa)(h3:m'.an=m.an)(h4:m'.ax=m.ax)(h5:m'.au=m.au)(h6:m'.aS=m.aS)(h7:m'.bn=m.bn):m'=m:=by
 obtain⟨e1,e2,e3,e4,e5,e6⟩:=he;cases m;cases m';simp only at*;subst e1 e2 e3 e4 e5 e6 h1 h2 h3 h4 h5 h6 h7;rfl
theorem Ph{m m':ab}(he:gW m m')(h:zn m m'=true):m'=m:=by
 unfold zn at h;simp only[Qm,Qi,Np]at h;obtain⟨⟨⟨⟨⟨⟨h1,h2⟩,h3⟩,h4⟩,h5⟩,h6⟩,h7⟩:=h;exact yN he h1.symm h2.symm h3.symm h4.symm h5.symm h6.symm h7.symm
theorem tX(m:ab):zn m m=true:=by
 unfold zn;simp only[decide_true,Np.2 rfl,Bool.and_self]
theorem adQ{m m':ab}(h:zq m)(hlt:pq m<pq m'):r1 m<r1 m':=lexLt (Uk h) (lexLt (oW (rn h.2.2.1)) hlt)
theorem afe{m m':ab}(h:zq m)(hpq:pq m=pq m')(hlt:nN m.au<nN m'.au):r1 m<r1 m':=lexLt (Uk h) (zt hpq hlt)
theorem afd{m m':ab}(hpq:pq m=pq m')(hc:m.au=m'.au)(hlt:t1 m<t1 m'):r1 m<r1 m':=zt (by rw[hpq,hc]) hlt
theorem KB{m:ab}(h1:P1 m):qy m m.an m.ax=m.aS:=by
 unfold qy;split
 ·rename_i hc;rcases h1.low with e|⟨g1,g2,g3⟩
  ·exact absurd e hc.2
  ·rw[WH g1 g3,Qs (by omega)]
 ·rfl
theorem ae1{m:ab}(h:bm m):cF m=m\/jH m<jH (cF m):=by
 have hid:m.aH=3\/aI m.aa=true->cF m=m:=fun hc=>Qr hc
 rcases h.body with h0|h1|h2|h3
 ·exact .inl (hid (.inr (by rw[h0.aQ];exact bQ)))
 ·have hj:=(Hz h h1.ic).up_ h1.ic (xS h);have he:cF m={m with an:=(cW m.an m.ax (dB (ep m))).1,ax:=(cW m.an m.ax (dB (ep m))).2,aS:=qy m (cW m.an m.ax (dB (ep m))).1 (cW m.an m.ax (dB (ep m))).2}:=Qs (by rw[h1.aT,h1.aQ.nz];decide)
  rcases hj with⟨e1,e2⟩|hlt
  ·left;rw[he,e1,e2,KB h1]
  ·right;rw[xn h1.aT,xn (by rw[he];exact h1.aT)]
   exact adQ h1.ok (by rw[he];exact hlt)
 ·have hj:=(Hz h h2.ic).up_ h2.ic (xS h);have hk:=To h h2;have he:cF m={m with an:=(cW m.an m.ax (dB (ep m))).1,ax:=(cW m.an m.ax (dB (ep m))).2,aS:=qy m (cW m.an m.ax (dB (ep m))).1 (cW m.an m.ax (dB (ep m))).2}:=Qs (by rw[h2.aT,h2.aQ.nz];decide)
  have hlow:∀p q,qy m p q=m.aS:=fun p q=>Qs (fun h=>by have:=h.1;rw[h2.aT]at this;cases this)
  rcases hj with⟨e1,e2⟩|hlt
  ·left;rw[he,e1,e2,hlow]
  ·right;rw[xm h2.aT,xm (by rw[he];exact h2.aT)]
   have e2:(cW m.an m.ax (dB (ep m))).2=m.ax:=by
    have h3:=hk.2.2;rw[he]at h3;exact h3.trans h2.bW.symm
   have hp:nN m.an<nN (cF m).an:=by
    rw[he];simp only;rw[e2]at hlt;refine Nat.lt_of_not_le fun hle=> ?_
    have:=Qq63 WB hle;omega
   have e3:(cF m).bn=m.bn/\(cF m).aS=m.aS/\(cF m).au=m.au/\(cF m).aa=m.aa:=by rw[he];exact⟨rfl,hlow _ _,rfl,rfl⟩
   have:r2 m<r2 (cF m):=by
    unfold r2;rw[e3.1,e3.2.1,e3.2.2.1,e3.2.2.2];exact lexLt (by have:=h2.aQ.2.1;omega) (lexLt (oW (rn h2.ok.2.2.1)) (zt rfl hp))
   omega
 ·exact .inl (hid (.inl h3.aT))
theorem ae0{m:ab}(h:bm m):fI m=m\/jH m<jH (fI m):=by
 rcases h.body with h0|h1|h2|h3
 ·exact .inl (s5 (.inr (.inl (by rw[h0.aQ];exact bQ))))
 ·obtain⟨g1,g2⟩:=Ms h h1;rcases g2 with e|⟨e1,e2,e3,_⟩
  ·exact .inl e
  ·right;rw[xn h1.aT,xn g1.aT];exact afe h1.ok (by unfold pq;rw[e1,e2]) (ti (rn h1.ok.2.2.1) (rn g1.ok.2.2.1) e3)
 ·exact .inl (s5 (.inl (by rw[h2.aT];decide)))
 ·exact .inl (s5 (.inl (by rw[h3.aT];decide)))
theorem KT(a b:Int):(bB a b=a/\b<=a)\/(bB a b=b/\a<b):=by unfold bB;split<;>omega
theorem nP{a b:af}(h1:a.ae=b.ae)(h2:a.Value=b.Value):a=b:=by cases a;cases b;simp only at h1 h2;rw[h1,h2]
theorem ae4{m:ab}(h:bm m):fo m=m\/jH m<jH (fo m):=by
 have hC:m.aH=1->zq m->fo m=m\/jH m<jH (fo m):=by
  intro hp hok
  by_cases hk:(fl m).2.2.2.1=true
  ·right;have e:fo m=G0 m (fl m).1 (fl m).2.1 (fl m).2.2.1:=by unfold fo;rw[Qr hp,Qr hk]
   rw[xn hp,xm (by rw[e];rfl)]
   have:=UC hok;omega
  ·left;unfold fo;rw[Qr hp,Qs hk]
 rcases h.body with h0|h1|h2|h3
 ·exact hC h0.aT h0.ok
 ·exact hC h1.aT h1.ok
 ·have e:fo m=yw m (ed m).1 (ed m).2:=by unfold fo;rw[Qs (by rw[h2.aT];decide),Qr h2.aT]
  obtain⟨g1,g2,g3,g4⟩:=Ru h h2;have h2':=Va h2 g1 g2 g3;rw[e]
  have hr:m.bn.toNat<=1000/\(1000 - m.aS).toNat<1001/\m.aa.ae.toNat<1001:=by
   have:=h2.bV;have:=h2.range;have:=h2.aQ.2.1;omega
  have hcB:m.au=(yw m (ed m).1 (ed m).2).au\/nN m.au<nN (yw m (ed m).1 (ed m).2).au:=by
   rcases h2.dM with e|⟨hf,hv⟩
   ·right;rw[e]
    exact MX (h2'.dM.resolve_left (fun e=>by
     have h1:=h2'.range;have h3:(yw m (ed m).1 (ed m).2).au.ae=bB m.au.ae (ed m).2:=rfl;rw[e]at h3;have h4:=KT m.au.ae (ed m).2;have h5:(bZ:af).ae=0:=rfl
     omega)).1
   ·rcases KT m.au.ae (ed m).2 with⟨e1,_⟩|⟨e1,e2⟩
    ·exact .inl (nP e1.symm hv)
    ·right;refine ti hf.sm (rn h2'.ok.2.2.1) ((wX _ _).2 (.inl ?_));show m.au.ae<bB m.au.ae (ed m).2;omega
  have hpB:m.an=(yw m (ed m).1 (ed m).2).an\/nN m.an<nN (yw m (ed m).1 (ed m).2).an:=by
   rcases KT m.an.ae (ed m).2 with⟨e1,_⟩|⟨e1,e2⟩
   ·exact .inl (nP e1.symm rfl)
   ·right;refine ti h2.dv.1.sm h2'.dv.1.sm ((wX _ _).2 (.inl ?_));show m.an.ae<bB m.an.ae (ed m).2;omega
  have hbB:m.aa=(yw m (ed m).1 (ed m).2).aa\/m.aa.ae<(yw m (ed m).1 (ed m).2).aa.ae:=by
   rcases KT m.aa.ae (ed m).2 with⟨e1,_⟩|⟨e1,e2⟩
   ·exact .inl (nP e1.symm rfl)
   ·right;show m.aa.ae<bB m.aa.ae (ed m).2;omega
  rw[xm h2.aT,xm h2'.aT];have hPs:=oW h2.dv.1.sm;have hCs:=oW (rn h2.ok.2.2.1);have hHi:(yw m (ed m).1 (ed m).2).bn=(ed m).2:=rfl;have hLo:(yw m (ed m).1 (ed m).2).aS=(ed m).1:=rfl;have fin:r2 m<r2 (yw m (ed m).1 (ed m).2)->K1+r2 m<K1+r2 (yw m (ed m).1 (ed m).2):=fun h=>by omega
  have hrng:=h2.range;rcases g4 with⟨e1,e2⟩|e1
  ·rcases Int.lt_or_eq_of_le e2 with e3|e3
   ·
    refine .inr (fin (lexLt hr.2.2 (lexLt hCs (lexLt hPs (zt ?_ ?_)))))
    ·rw[hHi,e1]
    ·rw[hLo];omega
   ·rcases hpB with hp|hp
    ·rcases hcB with hc|hc
     ·rcases hbB with hb|hb
      ·left;exact yN ⟨rfl,rfl,rfl,rfl,rfl,rfl⟩ rfl hb.symm hp.symm rfl hc.symm e3 e1
      ·refine .inr (fin (zt ?_ (by have:=h2.aQ.1;omega)))
       rw[hHi,hLo,<-hp,<-hc,e1,e3]
     ·refine .inr (fin (lexLt hr.2.2 (zt ?_ hc)));rw[hHi,hLo,<-hp,e1,e3]
    ·refine .inr (fin (lexLt hr.2.2 (lexLt hCs (zt ?_ hp))));rw[hHi,hLo,e1,e3]
  ·refine .inr (fin (lexLt hr.2.2 (lexLt hCs (lexLt hPs (lexLt hr.2.1 ?_)))));rw[hHi];omega
 ·left;unfold fo;rw[Qs (by rw[h3.aT];decide),Qs (by rw[h3.aT];decide)]
theorem ae3{m:ab}(h:bm m):ig m=m\/jH m<jH (ig m):=by
 by_cases hc:m.aH=2/\(mr m).2.2.1=true
 ·right;have e:ig m=HM m (mr m).1 (mr m).2.1:=Qr hc;rw[xm hc.1,V5 (by rw[e];rfl)]
  rcases h.body with h0|h1|h2|h3
  ·have:=h0.aT;have:=hc.1;omega
  ·have:=h1.aT;have:=hc.1;omega
  ·have:=Zz h2;omega
  ·have:=h3.aT;have:=hc.1;omega
 ·exact .inl (Qs hc)
theorem ae2{m:ab}(h:bm m):fb m=m\/jH m<jH (fb m):=by
 have hid:m.aH=3\/iH m m.aa.ae=false->fb m=m:=fun hc=>Qr hc
 cases ha:iH m m.aa.ae with
 |false=>exact .inl (hid (.inr ha))
 |true=>
  have hC:m.aH=1->zq m->0<=m.aa.ae/\m.aa.ae<=1000->fb m=m\/jH m<jH (fb m):=by
   intro hp hok hb;obtain⟨c1,c2,c3,c4,_⟩:=G2 h hb;have e:fb m={m with aS:=if nc m=m.aa.Value then m.aS else 0,aa:=⟨bB m.aa.ae (cm (gO m) 1000),nc m⟩}:=Qs (by rw[hp,ha];decide)
   have hnv:nc (fb m)=nc m:=by
    unfold nc cZ;rw[e];simp only[hp,Qt,not_true_eq_false,Qu,ne_eq]
   by_cases hs:bB m.aa.ae (cm (gO m) 1000)=m.aa.ae/\nc m=m.aa.Value
   ·left;rw[e];refine yN ⟨rfl,rfl,rfl,rfl,rfl,rfl⟩ rfl (nP hs.1 hs.2) rfl rfl rfl ?_ rfl;exact Qr hs.2
   ·right;rw[xn hp,xn (by rw[e];exact hp)]
    refine afd (by rw[e];rfl) (by rw[e]) ?_
    unfold t1;rw[hnv];have hb':(fb m).aa=⟨bB m.aa.ae (cm (gO m) 1000),nc m⟩:=by rw[e]
    rw[hb',Qr rfl];simp only
    by_cases hv:nc m=m.aa.Value
    ·rw[Qr hv.symm];have:bB m.aa.ae (cm (gO m) 1000)≠m.aa.ae:=fun e=>hs ⟨e,hv⟩
     omega
    ·rw[Qs (fun e=>hv e.symm)]
     omega
  rcases h.body with h0|h1|h2|h3
  ·exact hC h0.aT h0.ok (by rw[h0.aQ];decide)
  ·exact hC h1.aT h1.ok ⟨by have:=h1.aQ.1;omega,h1.aQ.2.1⟩
  ·obtain⟨c1,c2,c3,c4,_⟩:=G2 h ⟨by have:=h2.aQ.1;omega,h2.aQ.2.1⟩
   have hnv:nc m=m.aa.Value:=Qs (by rw[h2.aT];decide)
   have e:fb m={m with aa:=⟨bB m.aa.ae (cm (gO m) 1000),m.aa.Value⟩}:=by
    unfold fb;rw[Qs (by rw[h2.aT,ha];decide),hnv,Qr rfl]
   rw[e]
   by_cases hs:bB m.aa.ae (cm (gO m) 1000)=m.aa.ae
   ·left;exact yN ⟨rfl,rfl,rfl,rfl,rfl,rfl⟩ rfl (nP hs rfl) rfl rfl rfl rfl rfl
   ·right;rw[xm h2.aT,xm (show({m with aa:=⟨bB m.aa.ae (cm (gO m) 1000),m.aa.Value⟩}:ab).aH=2 from h2.aT)]
    have:r2 m<r2 {m with aa:=⟨bB m.aa.ae (cm (gO m) 1000),m.aa.Value⟩}:=by
     refine zt rfl ?_;have:=h2.aQ.1;show m.aa.ae.toNat<(bB m.aa.ae (cm (gO m) 1000)).toNat;omega
    omega
  ·exact .inl (hid (.inl h3.aT))
end
section
def aeu(p:aj->Bool):Prop:=∀e s,p {e with aF:=s}=p e
structure Alike (l l':List aj):Prop where
 view:∀aC,aC<10->∀t,eN aC t l=eN aC t l'
 S6:∀p,aeu p->c8 p (bU l)=c8 p (bU l')
 bal:eI l=eI l'
 val:fU l=fU l'
 jk:∀v,br l v=br l' v
section
variable {l l' : List aj} (h : Alike l l')
 include h
theorem Alike.acc{aC:Nat}(hn:aC<10)(t:al):kO aC t l=kO aC t l':=by
 funext b
 unfold kO;rw[h.view aC hn t,h.S6 _ (fun e s=>rfl),h.S6 _ (fun e s=>rfl)]
theorem Alike.dM{aC:Nat}(hn:aC<10)(t:al):jI aC t l=jI aC t l':=by
 funext b
 unfold jI;rw[h.view aC hn t,h.S6 _ (fun e s=>rfl)]
theorem Alike.ready{aC:Nat}(hn:aC<10)(t:al):lv aC t l=lv aC t l':=by
 funext v lo hi
 unfold lv;rw[h.view aC hn t,h.S6 _ (fun e s=>rfl),h.S6 _ (fun e s=>rfl)]
theorem Alike.sure{aC:Nat}(hn:aC<10)(t:al):rF aC t l=rF aC t l':=by
 funext v lo hi
 unfold rF;rw[h.view aC hn t,h.S6 _ (fun e s=>rfl)]
theorem Alike.next{aC:Nat}(hn:aC<10)(t:al)(p q:af)(v:ByteArray):jd aC t l p q v=jd aC t l' p q v:=by
 unfold jd;rw[h.bal,h.acc hn t]
theorem Alike.bV{aC:Nat}(hn:aC<10)(t:al)(a:af):vL aC t l a=vL aC t l' a:=by
 unfold vL;rw[h.bal,h.dM hn t]
theorem Alike.zd(x:ByteArray->Int->Int->Bool)(p q:af):gJ x l p q=gJ x l' p q:=by
 unfold gJ;rw[h.val];congr 1
 funext s v
 rw[h.jk]
theorem Alike.first(x:ByteArray->Int->Int->Bool)(p q:af)(s:Bool×af):ou x l p q s=ou x l' p q s:=by
 unfold ou;rw[h.jk]
end
theorem LX{l l':List aj}(hl:oO l)(hn:l.length<=1000)(hl':oO l')(hn':l'.length<=1000)
  (h1:∀x,(∃e∈l,x∈said e/\aI x=false)↔∃e∈l',x∈said e/\aI x=false) (h2:∀x,(∃e∈l,aX e=true/\x=e.aa.Value)↔∃e∈l',aX e=true/\x=e.aa.Value)
  (h3:∀v x,x∈ends v l↔x∈ends v l'):eI l=eI l'/\fU l=fU l'/\∀v,br l v=br l' v:=by
 obtain⟨_,a2,_,a4⟩:=mg hl.aM hn;obtain⟨_,b2,_,b4⟩:=mg hl'.aM hn';obtain⟨_,c2,_,c4⟩:=rj hl.aM hn;obtain⟨_,d2,_,d4⟩:=rj hl'.aM hn';refine⟨zm.flip.unique a2 b2 fun x=> ?_,gX.unique c2 d2 fun x=> ?_,fun v=> ?_⟩
 ·rw[a4,b4];exact h1 x
 ·rw[c4,d4];exact h2 x
 ·obtain⟨_,e2,_,e4⟩:=iG hl.aM hn v;obtain⟨_,f2,_,f4⟩:=iG hl'.aM hn' v;refine Bf.unique (e2.imp fun h=>Qg h) (f2.imp fun h=>Qg h) fun x=> ?_
  rw[e4,f4];exact h3 v x
theorem Vz{l l':List aj}(hl:oO l)(hn:l.length<=1000)(ha:yl l)(h:l.Perm l'):Alike l l':=by
 have hl':oO l':=⟨by rw[<-h.length_eq];exact hl.len,fun e he=>hl.aM e (h.mem_iff.2 he)⟩
 have hm:∀(P:aj->Prop),(∃e∈l,P e)↔∃e∈l',P e:=fun P=>⟨fun⟨e,he,hp⟩=>⟨e,h.mem_iff.1 he,hp⟩,fun⟨e,he,hp⟩=>⟨e,h.mem_iff.2 he,hp⟩⟩
 obtain⟨a,b,c⟩:=LX hl hn hl' (by rw[<-h.length_eq];exact hn) (fun x=>hm _) (fun x=>hm _) (fun v x=>by rw[yM,yM];exact hm _)
 exact⟨fun aC hn t=>J3 hn t ha h,fun p _=>M8 (Sx h) p,a,b,c⟩
theorem Xz{l:List aj}(hl:oO l)(hn:l.length<=1000)(f:aj->aj)(hf:∀e∈l,f e={e with aF:=(f e).aF}/\aX (f e)=aX e):Alike l (l.map f):=by
 have e1:∀e∈l,(f e).aq=e.aq/\(f e).ai=e.ai/\(f e).aa=e.aa/\(f e).bL=e.bL/\(f e).an=e.an/\(f e).ax=e.ax/\(f e).aS=e.aS/\(f e).bn=e.bn:=fun e he=>by
  have:=(hf e he).1;rw[this];exact⟨rfl,rfl,rfl,rfl,rfl,rfl,rfl,rfl⟩
 have hl':oO (l.map f):=⟨by rw[QC];exact hl.len,fun e he=>by
  obtain⟨x,hx,rfl⟩:=QP.1 he
  rw[(e1 x hx).2.1];exact hl.aM x hx⟩
 have hm:∀(P:aj->Prop),(∀e∈l,P e↔P (f e))->((∃e∈l,P e)↔∃e∈l.map f,P e):=fun P hP=>⟨fun⟨e,he,hp⟩=>⟨f e,QP.2 ⟨e,he,rfl⟩,(hP e he).1 hp⟩,fun⟨e,he,hp⟩=>by
  obtain⟨x,hx,rfl⟩:=QP.1 he
  exact⟨x,hx,(hP x hx).2 hp⟩⟩
 have hsaid:∀e∈l,said (f e)=said e:=fun e he=>by
  obtain⟨g1,g2,g3,g4,g5,g6,g7,g8⟩:=e1 e he;unfold said at_
  rw[(hf e he).2,g4,g3,g5,g6]
 have hbnd:∀v,∀e∈l,iy v (f e)=iy v e:=fun v e he=>by
  obtain⟨g1,g2,g3,g4,g5,g6,g7,g8⟩:=e1 e he;unfold iy;simp only[(hf e he).2,g3,g7]
 obtain⟨a,b,c⟩:=LX hl hn hl' (by rw[QC];exact hn) (fun x=>hm _ fun e he=>by rw[hsaid e he]) (fun x=>hm _ fun e he=>by rw[(hf e he).2,(e1 e he).2.2.1])
  (fun v x=>by rw[yM,yM];exact hm _ fun e he=>by rw[hbnd v e he,(e1 e he).2.2.2.2.2.2.1,(e1 e he).2.2.2.2.2.2.2])
 refine⟨fun aC hn t=> ?_,fun p hp=> ?_,a,b,c⟩
 ·unfold eN;generalize (List.replicate 10 gu).set aC ⟨true,t⟩=ms
  suffices key:∀(k:List aj) (ms:List aR),(∀e∈k,e∈l)->k.foldl dw ms=(k.map f).foldl dw ms from key l ms fun e he=>he
  intro k
  induction k with
  |nil=>intro ms _;rfl
  |cons x k ih=>
   intro ms hk;have hx:=hk x Qx
   have:dw ms (f x)=dw ms x:=by
    unfold dw;rw[(hf x hx).2,(e1 x hx).1,(e1 x hx).2.1]
   rw[QD,QU,QU,this];exact ih _ fun e he=>hk e (Qy _ he)
 ·unfold bU
  suffices key:∀(k:List aj),(∀e∈k,e∈l)->c8 p (k.filter aX)=c8 p ((k.map f).filter aX)from key l fun e he=>he
  intro k
  induction k with
  |nil=>intro _;rfl
  |cons x k ih=>
   intro hk;have hx:=hk x Qx
   have hpx:p (f x)=p x:=by
    rw[(hf x hx).1];exact hp x _
   rw[QD,List.filter_cons,List.filter_cons,(hf x hx).2];split
   ·rw[c8,c8,hpx,(e1 x hx).1,ih fun e he=>hk e (Qy _ he)]
   ·exact ih fun e he=>hk e (Qy _ he)
structure fX (m:ab):Prop where
 zero:aI m.aa=true->m.aF=0
 pos:aI m.aa=false->1<=m.aF
def Gs(m:ab):aj:=⟨m.aq,m.bl,m.aF,m.ai,m.aH,m.aa,m.an,m.ax,m.aS,if m.aH=1 then fc m else m.bn⟩
theorem zL(m:ab):dH m=some (Gs m):=by
 unfold dH Gs fc;simp only[aP,etas,cy,fF,Qa]
 by_cases h1:m.aH=1
 ·rw[Qg h1,Qr h1];cases aI m.au<;>cases bM m.au m.aa<;>rfl
 ·rw[Qh h1,Qs h1];rfl
theorem DH{m:ab}(h:bm m):Gs m=bF m:=by
 unfold Gs bF;rcases h.body with h0|h1|h2|h3
 ·rw[Qr h0.aT,Qr h0.aT]
 ·rw[Qr h1.aT,Qr h1.aT]
 ·rw[Qs (by rw[h2.aT];decide),Qs (by rw[h2.aT];decide),Qr h2.aT,h2.bW]
 ·rw[Qs (by rw[h3.aT];decide),Qs (by rw[h3.aT];decide),Qs (by rw[h3.aT];decide),h3.bW,h3.dv]
theorem Mw{m:ab}(hs:fX m)(hz:aI m.aa=false):iO m=bF m:=by
 unfold iO
 have:bB (bF m).aF 1=(bF m).aF:=by
  have:=hs.pos hz;rw[Rw];unfold bB;split<;>omega
 rw[this]
def uc(m:ab):List aj:=if aI m.aa=true then m.aw else m.aw++[Gs m]
theorem Od{l:List aj}(hl:l.length<=1000):dF l=some l:=by
 unfold dF;have h1:bp 176 (List.length ([]:List aj)+List.length l)=true:=bz (by simp;omega)
 rw[h1]
 cases l with
 |nil=>simp
 |cons x l=>rfl
theorem Gm{m:ab}(h:m.aw.length<=100):di ⟨m⟩=some (uc m,⟨m⟩):=by
 unfold di uc;simp only[etas,cy,zL,Qa,Od (show m.aw.length<=1000 by omega)]
 cases aI m.aa with
 |true=>rfl
 |false=>
  simp only[Ql,Qq,Qu];rw[bz (by simp;omega)]
  rfl
theorem bm.apart{m:ab}(h:bm m):yl (bc m):=by
 have hs:∀a∈m.aw,∀b∈m.aw,a.aq=b.aq->a=b:=by
  have:=h.ib;revert this;generalize m.aw=l;intro hp
  induction l with
  |nil=>intro a ha;cases ha
  |cons x l ih=>
   rw[Q4]at hp;intro a ha b hb e;rcases QA.1 ha with ha'|ha'<;>rcases QA.1 hb with hb'|hb'
   ·rw[ha',hb']
   ·have:=hp.1 b hb';rw[ha']at e;omega
   ·have:=hp.1 a ha';rw[hb']at e;omega
   ·exact ih hp.2 a ha' b hb' e
 intro a ha b hb e;rcases zg ha with ha|⟨_,rfl⟩<;>rcases zg hb with hb|⟨_,rfl⟩
 ·exact hs a ha b hb e
 ·exact absurd (e.trans (w4 m)) (h.hv a ha).2.2.2
 ·exact absurd (e.symm.trans (w4 m)) (h.hv b hb).2.2.2
 ·rfl
theorem NG{m:ab}(h:bm m)(hs:fX m):(bc m).Perm (uc m):=by
 unfold bc uc;split
 ·exact .refl _
 ·rename_i hz;rw[DH h,<-Mw hs (by simpa using hz)]
  exact zV _ _
theorem me{m:ab}(h:bm m)(hs:fX m):Alike (bc m) (uc m):=Vz h.ev.lK.1 h.ev.lK.2 h.apart (NG h hs)
theorem rp{m:ab}(h:bm m)(hs:fX m):oO (uc m)/\(uc m).length<=1000:=by
 have hp:=NG h hs;have:=h.ev.lK;exact⟨⟨by rw[<-hp.length_eq];exact this.1.len,fun e he=>this.1.aM e (hp.mem_iff.2 he)⟩,by rw[<-hp.length_eq];exact this.2⟩
section
variable {m : ab} (h : bm m) (hs : fX m)
 include h hs
theorem acu(p q:af)(v:ByteArray):ob m.aq m.ai (uc m) p q v=some (jd m.aq.toNat m.ai (bc m) p q v):=by
 have:=aaF h.ev.aC.2 h.ev.aM (rp h hs).1 (rp h hs).2 p q v
 rwa [h.ev.aC.1,<-(me h hs).next h.ev.aC.2]at this
theorem acx(a:af):ll m.aq m.ai (uc m) a=some (vL m.aq.toNat m.ai (bc m) a):=by
 have:=aaI h.ev.aC.2 h.ev.aM (rp h hs).1 (rp h hs).2 a
 rwa [h.ev.aC.1,<-(me h hs).bV h.ev.aC.2]at this
theorem aaK:qY m.aq m.ai (uc m) m.an m.ax=some (fl m):=by
 have hl:=rp h hs;have:=adu (Pq h.ev.aC.2 h.ev.aM hl.1) hl.1 hl.2 (look_eq h.ev.aC.2 h.ev.aM hl.1) m.an m.ax;rw[h.ev.aC.1,<-(me h hs).ready h.ev.aC.2,<-(me h hs).zd,<-(me h hs).first]at this
 exact this
theorem adW:pO m.aq m.ai (uc m) m.aa.Value m.aS m.bn=some ((ed m).1,(ed m).2,()):=by
 have hl:=rp h hs;have:=abW (Pq h.ev.aC.2 h.ev.aM hl.1) hl.1 hl.2 (look_eq h.ev.aC.2 h.ev.aM hl.1) m.aa.Value m.aS m.bn;rw[h.ev.aC.1,<-(me h hs).ready h.ev.aC.2,<-(me h hs).jk]at this;exact this
theorem adV:qZ m.aq m.ai (uc m) m.aa.Value=some (mr m):=by
 have hl:=rp h hs;have:=adv (Z5 h.ev.aC.2 h.ev.aM hl.1) hl.1 hl.2 (look_eq h.ev.aC.2 h.ev.aM hl.1) m.aa.Value;rw[h.ev.aC.1,<-(me h hs).sure h.ev.aC.2,<-(me h hs).jk]at this;exact this
end
theorem Ny(v:ByteArray)(n:Int)(p q:af):oH v n p q=some (kK v n p q):=by
 unfold oH kK;generalize bB n 1=k
 have hst:∀(i:Nat) (x:af) (k:Int),i<2->[p,q][i]?=some x->
   (fun(v1:Int×Int×Unit)=>
    bif (decide (v1.2.1<((List.length [p,q]:Nat):Int)))then
    aZ (fun(v2:Int×Unit)=>some (Sum.inl (v2.1,(ay .i64 v1.2.1 (1:Int)),()))) fun j3=>
    Option.bind (idx [p,q] v1.2.1) fun x4=>
    Option.bind (gM x4) fun r5=>
    Option.bind (bif (!r5)then some true else Option.bind (dX x4 (af.mk v1.1 v)) fun r6=>some (!r6)) fun b7=>
    bif b7 then j3 (v1.1,())
    else Option.bind (dX x4 (af.mk x4.ae v)) fun r8=>
     bif r8 then j3 ((ay .i64 x4.ae (1:Int)),())else j3 (x4.ae,())
    else(Option.map Sum.inr (some v1.1):Option ((Int×Int×Unit)⊕Int))) (k,(i:Int),())=some (Sum.inl (vG v k x,((i+1:Nat):Int),())):=by
  intro i x k hi hx;have hd:decide ((i:Int)<((List.length [p,q]:Nat):Int))=true:=Qg (by simp;omega)
  have hw:ay .i64 (i:Int) 1=((i+1:Nat):Int):=bE (by omega) (by omega)
  have hx':idx [p,q] (i:Int)=some x:=by rw[bh];exact hx
  simp only[hd,hw,hx',Qk,aP,Qa,tN,sI];unfold vG
  cases hv:c9 x with
  |false=>simp
  |true=>
   have hc:ay .i64 x.ae 1=x.ae+1:=by
    have:1<=x.ae/\x.ae<=1000000:=by
     simp only[c9,Qm,Qn,Qi]at hv;omega
    exact bE (by omega) (by omega)
   cases h1:ez x ⟨k,v⟩with
   |false=>simp
   |true=>cases h2:ez x ⟨x.ae,v⟩<;>simp[hc]
 refine(bd (hst 0 p k (by omega) rfl)).trans ((bd (hst 1 q _ (by omega) rfl)).trans (bw ?_))
 rfl
theorem Yx(b:af):(⟨cm b.ae 1000,b.Value⟩:af)=dB b:=by
 unfold cm dB;split<;>rfl
section
variable {m : ab} (h : bm m) (hs : fX m)
 include h
theorem UM(hz:aI (ep m)=true):cF m=m:=by
 have hid:m.aH=3\/aI m.aa=true->cF m=m:=fun hc=>Qr hc
 have hj:cW m.an m.ax (dB (ep m))=(m.an,m.ax):=by
  have:dB (ep m)=bZ:=by rw[wR.1 hz];decide
  rw[this];exact Qr bQ
 have he:¬(m.aH=3\/aI m.aa=true)->qy m m.an m.ax=m.aS->cF m=m:=by
  intro hc hl;unfold cF;rw[Qs hc,hj];simp only;rw[hl]
 rcases h.body with h0|h1|h2|h3
 ·exact hid (.inr (by rw[h0.aQ];exact bQ))
 ·exact he (by rw[h1.aT,h1.aQ.nz];decide) (KB h1)
 ·exact he (by rw[h2.aT,h2.aQ.nz];decide) (Qs (fun h=>by have:=h.1;rw[h2.aT]at this;cases this))
 ·exact hid (.inl h3.aT)
 include hs
theorem UJ:kH ⟨m⟩=some ((),⟨cF m⟩):=by
 have hl:m.aw.length<=100:=by have:=h.len;omega
 unfold kH;simp only[etas,cy,Gm hl,acu h hs,aau,Ny,zL,Qa,aP,Yx]
 by_cases h3:m.aH=3\/aI m.aa=true
 ·have e:cF m=m:=Qr h3;rw[e];rcases h3 with h3|h3
  ·rw[Qg h3];cases aI m.aa<;>rfl
  ·rw[h3];rfl
 ·have hz:aI m.aa=false:=by
   cases hz:aI m.aa with
   |true=>exact absurd (.inr hz) h3
   |false=>rfl
  have h3':¬m.aH=3:=fun e=>h3 (.inl e)
  rw[hz,Qh h3'];simp only[Ql,Qa]
  have hmain:∀v:ByteArray,v=Ct m->(bif aI (jd m.aq.toNat m.ai (bc m) m.an m.ax v)then some ((),(⟨m⟩:aE))else
    Option.bind (bif decide (m.aH=1)then some (!decide (m.aS=0))else some false) fun b9=>
    bif b9 then
     bif decide ((Gs ⟨m.aq,m.bl,m.aF,m.ai,m.aH,m.aa,(cW m.an m.ax (dB (jd m.aq.toNat m.ai (bc m) m.an m.ax v))).1,(cW m.an m.ax (dB (jd m.aq.toNat m.ai (bc m) m.an m.ax v))).2,m.au,kK m.aa.Value m.aS (cW m.an m.ax (dB (jd m.aq.toNat m.ai (bc m) m.an m.ax v))).1 (cW m.an m.ax (dB (jd m.aq.toNat m.ai (bc m) m.an m.ax v))).2,m.bn,m.aY,m.aw⟩).bn<kK m.aa.Value m.aS (cW m.an m.ax (dB (jd m.aq.toNat m.ai (bc m) m.an m.ax v))).1 (cW m.an m.ax (dB (jd m.aq.toNat m.ai (bc m) m.an m.ax v))).2)then
      some ((),(⟨⟨m.aq,m.bl,m.aF,m.ai,m.aH,m.aa,(cW m.an m.ax (dB (jd m.aq.toNat m.ai (bc m) m.an m.ax v))).1,(cW m.an m.ax (dB (jd m.aq.toNat m.ai (bc m) m.an m.ax v))).2,m.au,0,m.bn,m.aY,m.aw⟩⟩:aE))
     else some ((),(⟨⟨m.aq,m.bl,m.aF,m.ai,m.aH,m.aa,(cW m.an m.ax (dB (jd m.aq.toNat m.ai (bc m) m.an m.ax v))).1,(cW m.an m.ax (dB (jd m.aq.toNat m.ai (bc m) m.an m.ax v))).2,m.au,kK m.aa.Value m.aS (cW m.an m.ax (dB (jd m.aq.toNat m.ai (bc m) m.an m.ax v))).1 (cW m.an m.ax (dB (jd m.aq.toNat m.ai (bc m) m.an m.ax v))).2,m.bn,m.aY,m.aw⟩⟩:aE))
    else some ((),(⟨⟨m.aq,m.bl,m.aF,m.ai,m.aH,m.aa,(cW m.an m.ax (dB (jd m.aq.toNat m.ai (bc m) m.an m.ax v))).1,(cW m.an m.ax (dB (jd m.aq.toNat m.ai (bc m) m.an m.ax v))).2,m.au,m.aS,m.bn,m.aY,m.aw⟩⟩:aE)))=some ((),(⟨cF m⟩:aE)):=by
   intro v hv;subst hv;rw[show jd m.aq.toNat m.ai (bc m) m.an m.ax (Ct m)=ep m from rfl]
   cases hzn:aI (ep m)with
   |true=>rw[UM h hzn];rfl
   |false=>
    simp only[Ql];have e:cF m={m with an:=(cW m.an m.ax (dB (ep m))).1,ax:=(cW m.an m.ax (dB (ep m))).2,aS:=qy m (cW m.an m.ax (dB (ep m))).1 (cW m.an m.ax (dB (ep m))).2}:=Qs h3
    rw[e];unfold qy
    by_cases hc:m.aH=1/\m.aS≠0
    ·rw[Qg hc.1,Qh hc.2,Qr hc];simp only[Qk,Qa,Qp];have hh:∀(p q:af) (L:Int),(Gs {m with an:=p,ax:=q,aS:=L}).bn=fc m:=fun p q L=>by unfold Gs;exact Qr hc.1
     rw[hh];split
     ·rename_i hlt;rw[Qg hlt];rfl
     ·rename_i hlt;rw[Qh hlt];rfl
    ·rw[Qs hc]
     by_cases h1:m.aH=1
     ·rw[Qg h1,Qg (show m.aS=0 from Classical.byContradiction fun hn=>hc ⟨h1,hn⟩)];rfl
     ·rw[Qh h1];rfl
  by_cases h2:m.aH=2
  ·rw[Qg h2];exact hmain _ (Qr h2).symm
  ·rw[Qh h2];exact hmain _ (Qs h2).symm
end
theorem O9(m:ab)(b:af):gD ⟨m⟩ b=some ((),⟨{m with aS:=bif bM m.aa b then m.aS else 0,aa:=b}⟩):=by
 unfold gD;simp only[etas,fF,Qa,aP];cases bM m.aa b<;>rfl
theorem Jc(m:ab)(b:af){α:Type}(j:ab->Option α):
  (bif decide (m.aS=(0:Int))then(bif bM m.aa b then(bif decide (kK b.Value m.aa.ae m.an m.ax<=b.ae)then j {m with aS:=kK b.Value m.aa.ae m.an m.ax}else j m)else j m)else(bif false then(bif decide (kK b.Value m.aa.ae m.an m.ax<=b.ae)then j {m with aS:=kK b.Value m.aa.ae m.an m.ax}else j m)else j m))=j (oI m b):=by
 unfold oI
 by_cases hL:m.aS=0
 ·rw[Qg hL]
  cases hc:bM m.aa b with
  |true=>
   by_cases hle:kK b.Value m.aa.ae m.an m.ax<=b.ae
   ·rw[Qr ⟨hL,rfl,hle⟩,Qg hle];rfl
   ·rw[Qs (fun h=>hle h.2.2),Qh hle];rfl
  |false=>
   rw[Qs (fun h=>by cases h.2.1)];rfl
 ·rw[Qh hL,Qs (fun h=>hL h.1)];rfl
section
variable {m : ab} (h : bm m) (hs : fX m)
 include h hs
theorem ab1:mW ⟨m⟩=some ((),⟨fI m⟩):=by
 have hl:m.aw.length<=100:=by have:=h.len;omega
 unfold mW;simp only[etas,aE.eta,cy,Gm hl,acx h hs,Ny,O9,fF,jv,Qa,aP];have hb:vL m.aq.toNat m.ai (bc m) m.au=gd m:=rfl;simp only[hb];unfold fI
 cases hz:aI m.aa with
 |true=>rw[Qr (.inr (.inl rfl))];rfl
 |false=>
  by_cases h1:m.aH=1
  ·rw[Qg h1]
   cases hzb:aI (gd m)with
   |true=>rw[Qr (.inr (.inr rfl))];rfl
   |false=>
    rw[Qs (by simp[h1])]
    simp only[Qo,Ql,Qa];unfold zX
    cases hlt:bx m.aa (gd m)with
    |true=>
     simp only[Qk,Qt]
     cases hcp:bM m.aa (gd m)with
     |true=>exact Jc {m with au:=gd m,aa:=gd m} (gd m) (fun x=>some ((),(⟨x⟩:aE)))
     |false=>exact Jc {m with au:=gd m,aa:=gd m,aS:=0} (gd m) (fun x=>some ((),(⟨x⟩:aE)))
    |false=>
     simp only[Ql,Qq,Qu];exact Jc {m with au:=gd m} (gd m) (fun x=>some ((),(⟨x⟩:aE)))
  ·rw[Qh h1,Qr (.inl h1)];rfl
theorem Xl:k8 ⟨m⟩=some ((),⟨fo m⟩):=by
 have hl:m.aw.length<=100:=by have:=h.len;omega
 unfold k8;simp only[etas,aE.eta,Gm hl,aaK h hs,adW h hs,fF,jv,Qa,aP];unfold fo
 by_cases h1:m.aH=1
 ·rw[Qg h1,Qr h1];simp only[Qk]
  cases hk:(fl m).2.2.2.1 with
  |false=>rfl
  |true=>
   have hf:=Lu h hk
   have hcov:jj m.an ⟨(fl m).2.2.1,(fl m).1⟩= !(bx m.an ⟨(fl m).2.2.1,(fl m).1⟩|| !bM m.an ⟨(fl m).2.2.1,(fl m).1⟩):=by
    cases hc:bM m.an ⟨(fl m).2.2.1,(fl m).1⟩with
    |false=>unfold jj;rw[hc];simp
    |true=>
     have hv:=iF.1 hc
     have hnz:aI m.an=false:=by
      cases hz:aI m.an with
      |false=>rfl
      |true=>rw[wR.1 hz]at hv;exact absurd hv.symm hf.fin.ne
     unfold jj;rw[hc,hnz,EO hv,Qo,Bool.or_false,Qp,Bool.and_self,Bool.true_and];rw[QW];simp only[Qi,Bool.not_eq_true',Qj];omega
   simp only[Qo,Ql,Qt];unfold G0;rw[hcov];cases bM m.aa ⟨(fl m).2.2.1,(fl m).1⟩<;>cases bx m.aa ⟨(fl m).2.2.1,(fl m).1⟩<;>cases bx m.an ⟨(fl m).2.2.1,(fl m).1⟩<;>cases bM m.an ⟨(fl m).2.2.1,(fl m).1⟩<;>rfl
 ·rw[Qh h1,Qs h1]
  by_cases h2:m.aH=2
  ·rw[Qg h2,Qr h2];rcases h.body with k|k|k|k
   ·exact absurd k.aT h1
   ·exact absurd k.aT h1
   ·unfold yw;rw[k.dv.2];rfl
   ·have:=k.aT;omega
  ·rw[Qh h2,Qs h2];rfl
theorem YN:lJ ⟨m⟩=some ((),⟨ig m⟩):=by
 have hl:m.aw.length<=100:=by have:=h.len;omega
 unfold lJ ig;simp only[etas,Gm hl,adV h hs,Qa]
 by_cases h2:m.aH=2
 ·rw[Qg h2]
  cases hk:(mr m).2.2.1 with
  |false=>rw[Qs (fun h=>by cases h.2)];rfl
  |true=>rw[Qr ⟨h2,rfl⟩];rfl
 ·rw[Qh h2,Qs (fun h=>h2 h.1)];rfl
end
theorem Ez{m:ab}(h:tP m):eW ⟨m⟩=some (cZ m):=by
 have hl:m.aw.length<=1000:=by have:=h.len;omega
 unfold eW cZ;simp only[cy,Qa]
 cases hz:aI m.au with
 |false=>rfl
 |true=>
  simp only[Qo,Ql,Bool.true_eq_false,Qu]
  by_cases h1:m.aH=1
  ·rw[Qg h1,Qs (fun h=>h h1)]
   simp only[Qo,Ql]
   by_cases hp:m.aY=fD
   ·have hp':decide (m.aY=ByteArray.mk #[])=true:=Qg hp;rw[hp',Qs (fun h=>h hp)]
    simp only[Qo,Ql]
    rw[Aa m.aw hl (·.aa) (fin:=fun s=>Option.bind (mG s) fun r=>some r.Value) (fun i e s hs he hd hx hw=>by
     simp only[hd,hx,hw,Qk,Qa]
     rw[bz (by simp;omega),Qk]) (fun s hd=>by simp only[hd,Ql]),Yk _ (by simp;omega)]
    rfl
   ·have hp':decide (m.aY=ByteArray.mk #[])=false:=Qh hp;rw[hp',Qr hp];rfl
  ·rw[Qh h1,Qr h1];rfl
theorem aaC(l:List aj)(hlen:l.length<=1000)(p:aj->Bool)(hp:∀e∈l,p e=true->0<=e.aq/\e.aq<10):pM l (l.map p)=some ((c8 p l:Nat):Int):=by
 unfold pM
 suffices key:∀(k i s:Nat),i+k=l.length->s<1024->aA _ ((s:Int),(i:Int),())=some ((s|||c8 p (l.drop i):Nat):Int)by
  have:=key l.length 0 0 (by omega) (by omega)
  rw[Nat.zero_or,List.drop_zero]at this;exact this
 intro k
 induction k with
 |zero=>
  intro i s hi hs;obtain rfl:i=l.length:=by omega
  have hd:decide (((l.length:Nat):Int)<((l.length:Nat):Int))=false:=Qh (Qq64 _);rw[bw (r:=(s:Int)) (by simp only[hd,Ql,Qe]),Qq66,c8]
  simp
 |succ k ih=>
  intro i s hi hs;have hlt:i<l.length:=by omega
  have hd:decide ((i:Int)<((l.length:Nat):Int))=true:=Qg (by omega)
  have hd2:decide ((i:Int)<(((l.map p).length:Nat):Int))=true:=Qg (by rw[QC];omega)
  have hw:ay .i64 (i:Int) 1=((i+1:Nat):Int):=bE (by omega) (by omega)
  have hx:idx l (i:Int)=some l[i]:=by rw[bh];exact Qv hlt
  have hx2:idx (l.map p) (i:Int)=some (p l[i]):=by rw[bh,QT,Qv hlt];rfl
  rw[QM hlt,c8]
  cases hpe:p l[i]with
  |false=>
   rw[bd (s':=((s:Int),((i+1:Nat):Int),())) (by simp only[hd,hd2,hx,hx2,hw,hpe,Qk,Ql,aP,Qa]),ih (i+1) s (by omega) hs]
   simp
  |true=>
   obtain⟨h0,h1⟩:=hp _ (Q0 hlt) hpe;have hn0:¬l[i].aq<0:=by omega
   have d1:decide ((0:Int)<=l[i].aq)=true:=Qg h0;have d2:decide (l[i].aq<(10:Int))=true:=Qg (by omega)
   rw[bd (s':=(((s|||2 ^ l[i].aq.toNat:Nat):Int),((i+1:Nat):Int),())) (by
    simp only[hd,hd2,hx,hx2,hw,hpe,Qk,aP,Qa,d1,d2,hn0,Qu]
    rw[mL hs h0 h1]),ih (i+1) _ (by omega) (zp hs h1)]
   simp[Nat.or_assoc]
theorem Ym{m:ab}(h:tP m)(n:Int):ml ⟨m⟩ n=some ((B9 m n:Nat):Int):=by
 have hl:m.aw.length<=1000:=by have:=h.len;omega
 unfold ml;have d1:decide (((m.aw.length:Nat):Int)=((m.aw.length:Nat):Int))=true:=Qg rfl;have d2:decide (0<=((m.aw.length:Nat):Int))=true:=Qg (Int.natCast_nonneg _);have d3:bp 1 m.aw.length=true:=bz (by omega)
 simp only[d2,d3,QV]
 rw[W9 m.aw hl (fun e=>decide (n<cd e)) (fin:=fun s=>Option.bind (pM m.aw s) fun r=>some r)
  (fun i e s hsl he hi hd hx hw=>by
   have h1:idx s (i:Int)=some s[i]:=by rw[bh];exact Qv (by omega)
   have h2:s[i]?=some s[i]:=Qv (by omega)
   simp only[hd,hx,hw,h1,h2,Qk,Qa,etas,PJ (h.sm e he) (h.valid e he),QV])
  (fun s hd=>by simp only[hd,Ql]) (by simp),aaC m.aw hl _ (fun e he _=>h.MQ e he)]
 rfl
section
variable {m : ab} (h : bm m) (hs : fX m)
 include h hs
theorem W0(n:Int):iI n ⟨eN m.aq.toNat m.ai (uc m)⟩ ⟨m⟩=some (iH m n):=by
 unfold iI;simp only[etas,Ym h.ev,Qa];have hb:=Ot (jX (aC:=m.aq.toNat) h.ev.aM (rp h hs).1) (v:=m.aq.toNat) (Ol h.ev n);rw[h.ev.aC.1]at hb;rw[hb,Qa];unfold iH;rw[(me h hs).view _ h.ev.aC.2]
theorem YF:lI ⟨m⟩=some ((),⟨fb m⟩):=by
 have hl:m.aw.length<=100:=by have:=h.len;omega
 have hv:=T8 h.ev.aC.2 h.ev.aM (rp h hs).1;rw[h.ev.aC.1]at hv;unfold lI fb;simp only[etas,aE.eta,cy,Gm hl,hv,W0 h hs,Ez h.ev,O9,Qa,aP]
 by_cases h3:m.aH=3
 ·rw[Qg h3,Qr (.inl h3)];rfl
 ·rw[Qh h3]
  cases ha:iH m m.aa.ae with
  |false=>rw[Qr (.inr rfl)];rfl
  |true=>
   rw[Qs (by simp[h3])]
   simp only[Ql,Qo]
   have hbc:0<=m.aa.ae/\m.aa.ae<=1000:=by
    rcases h.body with k|k|k|k
    ·rw[k.aQ];decide
    ·exact⟨by have:=k.aQ.1;omega,k.aQ.2.1⟩
    ·exact⟨by have:=k.aQ.1;omega,k.aQ.2.1⟩
    ·exact absurd k.aT h3
   have hz1:aI m.aa=true->m.aH=1:=by
    intro hz;rcases h.body with k|k|k|k
    ·exact k.aT
    ·exact k.aT
    ·rw[k.aQ.nz]at hz;cases hz
    ·exact absurd k.aT h3
   refine(RR h.ev (fin:=fun c=>some ((),(⟨{m with aS:=bif bM m.aa ⟨cm c 1000,nc m⟩then m.aS else 0,aa:=⟨cm c 1000,nc m⟩}⟩:aE))) (fun i e s he hd hx hw=> ?_) (fun s hd=> ?_)).trans ?_
   ·simp only[hd,hx,hw,Qk,Qa,PJ (h.ev.sm e he) (h.ev.valid e he)];unfold lU
    by_cases c1:m.aa.ae<cd e
    ·by_cases c2:cd e<s
     ·rw[Qg c1,Qg c2]
      cases c3:iH m (cd e)with
      |true=>rw[Qs (by simp)];rfl
      |false=>rw[Qr ⟨c1,c2,rfl⟩];rfl
     ·rw[Qg c1,Qh c2,Qs (fun h=>c2 h.2.1)];rfl
    ·rw[Qh c1,Qs (fun h=>c1 h.1)];rfl
   ·simp only[hd,Ql,aP];unfold nc
    by_cases h1:m.aH=1
    ·rw[Qg h1,Qr h1];cases aI m.aa<;>rfl
    ·rw[Qh h1,Qs h1]
     cases hz:aI m.aa with
     |true=>exact absurd (hz1 hz) h1
     |false=>rfl
   ·have hm:=(G2 h hbc).2.2.2.2;rw[hm]
    have hcp:(bif bM m.aa ⟨cm (gO m) 1000,nc m⟩then m.aS else 0)=(if nc m=m.aa.Value then m.aS else 0):=by
     by_cases e:nc m=m.aa.Value
     ·rw[Qr e,(iF (a:=m.aa) (b:=⟨cm (gO m) 1000,nc m⟩)).2 e.symm];rfl
     ·rw[Qs e,(ik (a:=m.aa) (b:=⟨cm (gO m) 1000,nc m⟩)).2 (fun hc=>e hc.symm)];rfl
    rw[hcp]
end
end
section
theorem R2{m:ab}(h:bm m)(s:Int):bc {m with aF:=s}=(bc m).map (fun e=>if e.aq=m.aq then{e with aF:=bB s 1}else e):=by
 have hf:∀e∈m.aw,(if e.aq=m.aq then{e with aF:=bB s 1}else e)=e:=fun e he=>Qs (h.hv e he).2.2.2
 have hmap:m.aw.map (fun e=>if e.aq=m.aq then{e with aF:=bB s 1}else e)=m.aw:=by
  rw[Qq71 hf];simp
 have hown:iO {m with aF:=s}={iO m with aF:=bB s 1}:=by
  unfold iO bF fc;split
  ·rfl
  ·split<;>rfl
 unfold bc;split
 ·exact hmap.symm
 ·rw[hown];have hn:(iO m).aq=m.aq:=w4 m
  suffices key:∀l:List aj,(∀e∈l,(if e.aq=m.aq then{e with aF:=bB s 1}else e)=e)->xL {iO m with aF:=bB s 1} l=(xL (iO m) l).map (fun e=>if e.aq=m.aq then{e with aF:=bB s 1}else e)from key _ hf
  intro l
  induction l with
  |nil=>
   intro _;simp only[xL,QD,QO,hn,Qt]
  |cons x l ih=>
   intro hx;unfold xL;simp only;split
   ·rw[QD,QD,hn,Qr rfl,hx x Qx,Qq71 (fun e he=>hx e (Qy _ he))]
    simp
   ·rw[QD,hx x Qx,ih fun e he=>hx e (Qy _ he)]
theorem MM{m:ab}(h:bm m){s:Int}(hs:0<=s/\s<=1000000):bm {m with aF:=s}:=by
 refine⟨h.n0,h.n1,h.aK,hs,h.aM,h.sx,h.hv,h.ib,?_⟩;rcases h.body with k|k|k|k
 ·exact .inl ⟨k.aT,k.aQ,k.dv,k.bW,k.dM,k.low,k.bV⟩
 ·exact .inr (.inl ⟨k.aT,k.aQ,k.dv,k.bW,k.dM,k.up,k.bV,k.low⟩)
 ·exact .inr (.inr (.inl ⟨k.aT,k.aQ,k.dv,k.bW,k.dM,k.range⟩))
 ·exact .inr (.inr (.inr ⟨k.aT,k.aQ,k.dv,k.bW,k.dM,k.range⟩))
theorem pC{m:ab}(h:bm m){s:Int}(hs:0<=s/\s<=1000000):Alike (bc m) (bc {m with aF:=s}):=by
 rw[R2 h s];refine Xz h.ev.lK.1 h.ev.lK.2 _ fun e he=> ?_
 split
 ·rename_i hn;refine⟨rfl,?_⟩;rw[h.lx e he];have hv:=h.lx e he
  have hm:{e with aF:=bB s 1}∈bc {m with aF:=s}:=by
   rw[R2 h s];exact QP.2 ⟨e,he,Qr hn⟩
  exact(MM h hs).lx _ hm
 ·exact⟨rfl,rfl⟩
theorem aa7(m:ab)(s:Int)(b:af):zX {m with aF:=s} b={zX m b with aF:=s}:=by
 unfold zX
 by_cases h:bx m.aa b=true
 ·simp only[Qr h]
 ·simp only[Qs h]
theorem VO(m:ab)(s:Int)(b:af):oI {m with aF:=s} b={oI m b with aF:=s}:=by
 unfold oI
 by_cases h:m.aS=0/\bM m.aa b=true/\kK b.Value m.aa.ae m.an m.ax<=b.ae
 ·simp only[Qr h]
 ·simp only[Qs h]
section
variable {m : ab} (h : bm m) {s : Int} (hs : 0 <= s /\ s <= 1000000)
 include h hs
theorem aaQ:ep {m with aF:=s}=ep m:=((pC h hs).next h.ev.aC.2 m.ai _ _ _).symm
theorem aa4:gd {m with aF:=s}=gd m:=((pC h hs).bV h.ev.aC.2 m.ai _).symm
theorem Nt:gr {m with aF:=s}=gr m:=((pC h hs).ready h.ev.aC.2 m.ai).symm
theorem XT:Ei {m with aF:=s}=Ei m:=((pC h hs).sure h.ev.aC.2 m.ai).symm
theorem abh:fl {m with aF:=s}=fl m:=by
 unfold fl;rw[Nt h hs];simp only;rw[<-(pC h hs).zd,<-(pC h hs).first]
theorem abm:ed {m with aF:=s}=ed m:=by
 unfold ed;rw[Nt h hs];simp only;rw[<-(pC h hs).jk]
theorem abl:mr {m with aF:=s}=mr m:=by
 unfold mr;rw[XT h hs];simp only;rw[<-(pC h hs).jk]
theorem Oj(n:Int):iH {m with aF:=s} n=iH m n:=by
 unfold iH;simp only;rw[<-(pC h hs).view _ h.ev.aC.2];rfl
theorem abD:gO {m with aF:=s}=gO m:=by
 unfold gO;simp only;congr 1
 funext b e
 unfold lU;simp only[Oj h hs]
theorem CD:cF {m with aF:=s}={cF m with aF:=s}:=by
 unfold cF;simp only[aaQ h hs];split<;>rfl
theorem CC:fI {m with aF:=s}={fI m with aF:=s}:=by
 unfold fI;simp only[aa4 h hs];split
 ·rfl
 ·rw[aa7,VO]
theorem CF:fo {m with aF:=s}={fo m with aF:=s}:=by
 unfold fo;simp only[abh h hs,abm h hs];split
 ·split<;>rfl
 ·split<;>rfl
theorem CE:ig {m with aF:=s}={ig m with aF:=s}:=by
 unfold ig;simp only[abl h hs];split<;>rfl
theorem Gl:fb {m with aF:=s}={fb m with aF:=s}:=by
 unfold fb;simp only[Oj h hs,abD h hs];split<;>rfl
end
open Classical in
 def cp(m:ab):ab:=
 if cF m=m then(if fI m=m then(if fo m=m then(if ig m=m then fb m else ig m)else fo m)else fI m)else cF m
structure He (m:ab):Prop where
 p:cF m=m
 s:fI m=m
 c:fo m=m
 f:ig m=m
 k:fb m=m
theorem XU{m:ab}(h:cp m=m):He m:=by
 unfold cp at h;split at h
 ·split at h
  ·split at h
   ·split at h
    ·exact⟨by assumption,by assumption,by assumption,by assumption,h⟩
    ·contradiction
   ·contradiction
  ·contradiction
 ·contradiction
theorem Rr{m:ab}(h:He m):cp m=m:=by
 unfold cp;rw[Qr h.p,Qr h.s,Qr h.c,Qr h.f,h.k]
theorem Ej{m:ab}{Q:ab->Prop}(h1:Q (cF m))(h2:Q (fI m))(h3:Q (fo m))(h4:Q (ig m))(h5:Q (fb m)):Q (cp m):=by
 unfold cp;split
 ·split
  ·split
   ·split
    ·exact h5
    ·exact h4
   ·exact h3
  ·exact h2
 ·exact h1
theorem wW{m:ab}(h:bm m):bm (cp m):=Ej (NB h) (NA h) (NF h) (ND h) (NC h)
theorem zG(m:ab):gW m (cp m):=Ej (s6 m) (ra m) (ri m) (rh m) (zJ m)
theorem Pc{m:ab}(h:bm m):cp m=m\/jH m<jH (cp m):=Ej (Q:=fun x=>x=m\/jH m<jH x) (ae1 h) (ae0 h) (ae4 h) (ae3 h) (ae2 h)
theorem aff(m:ab):(cF m).aa=m.aa:=by unfold cF;split<;>rfl
theorem I4{m:ab}(h:bm m)(hz:aI m.aa=false):aI (cp m).aa=false:=by
 have hb:P1 m\/P2 m\/P3 m:=h.body.resolve_left fun k=>by rw[k.aQ,bQ]at hz;cases hz
 refine Ej (Q:=fun x=>aI x.aa=false) (by rw[aff];exact hz) ?_ ?_ ?_ ?_
 ·rcases hb with k|k|k
  ·exact(Ms h k).1.aQ.nz
  ·rw[s5 (.inl (by rw[k.aT];decide))];exact hz
  ·rw[s5 (.inl (by rw[k.aT];decide))];exact hz
 ·unfold fo;rcases hb with k|k|k
  ·rw[Qr k.aT];split
   ·rename_i hk;have hf:=Lu h hk;exact(RL (.inr k.aQ) k.dv hf.fin hf.lo1 hf.le).aQ.nz
   ·exact hz
  ·rw[Qs (by rw[k.aT];decide),Qr k.aT]
   obtain⟨g1,g2,g3,_⟩:=Ru h k;exact(Va k g1 g2 g3).aQ.nz
  ·rw[Qs (by rw[k.aT];decide),Qs (by rw[k.aT];decide)];exact hz
 ·unfold ig;split
  ·rename_i hc;rcases hb with k|k|k
   ·have:=k.aT;have:=hc.1;omega
   ·exact(Tq h k hc.2).aQ.nz
   ·have:=k.aT;have:=hc.1;omega
  ·exact hz
 ·cases ha:iH m m.aa.ae with
  |false=>
   have:fb m=m:=Qr (.inr ha);rw[this];exact hz
  |true=>
   rcases hb with k|k|k
   ·exact(Mt h (.inr k) ha).aQ.nz
   ·exact(Tp h k).aQ.nz
   ·have:fb m=m:=Qr (.inl k.aT);rw[this];exact hz
def c6(m:ab):ab:=if aI m.aa=false then{m with aF:=bB m.aF 1}else m
theorem Tx{m:ab}(h:bm m):0<=bB m.aF 1/\bB m.aF 1<=1000000:=by
 have:=h.seq;unfold bB;split<;>omega
theorem wq{m:ab}(h:bm m):bm (c6 m):=by
 unfold c6;split
 ·exact MM h (Tx h)
 ·exact h
theorem HB{m:ab}(h:aI m.aa=true->m.aF=0):fX (c6 m):=by
 unfold c6;split
 ·rename_i hz;exact⟨fun e=>(by rw[show({m with aF:=bB m.aF 1}:ab).aa=m.aa from rfl,hz]at e;cases e),fun _=>by show 1<=bB m.aF 1;unfold bB;split<;>omega⟩
 ·rename_i hz;exact⟨h,fun e=>absurd e hz⟩
theorem abj{m:ab}(h:bm m)(hf:He m){s:Int}(hs:0<=s/\s<=1000000):He {m with aF:=s}:=
 ⟨by rw[CD h hs,hf.p],by rw[CC h hs,hf.s],by rw[CF h hs,hf.c],by rw[CE h hs,hf.f],by rw[Gl h hs,hf.k]⟩
theorem Yu{m:ab}(h:bm m)(hf:He m):He (c6 m):=by
 unfold c6;split
 ·exact abj h hf (Tx h)
 ·exact hf
theorem aaR{m:ab}(hs:fX m):c6 m=m:=by
 unfold c6;split
 ·rename_i hz;have:=hs.pos hz;have e:bB m.aF 1=m.aF:=by unfold bB;split<;>omega
  rw[e]
 ·rfl
theorem X5(m:ab):jH (c6 m)=jH m:=by
 unfold c6;split<;>rfl
theorem PO{m:ab}(h:0<=m.aF):dt ⟨m⟩=some ((),⟨c6 m⟩):=by
 unfold dt c6;simp only[etas,cy,Qa]
 cases hz:aI m.aa with
 |true=>rfl
 |false=>
  simp only[Qp,Qk,Qa,Qt]
  by_cases hs:m.aF=0
  ·have e:bB m.aF 1=1:=by unfold bB;split<;>omega
   rw[Qg hs,e];rfl
  ·have e:bB m.aF 1=m.aF:=by unfold bB;split<;>omega
   rw[Qh hs,e];rfl
theorem vh{m m':ab}(he:gW m m'):
  (decide (m'.aH=m.aH)&&(decide (m'.aS=m.aS)&&(decide (m'.bn=m.bn)&&(decide (m'.aa.ae=m.aa.ae)&&(decide (m'.aa.Value=m.aa.Value)&&(decide (m'.an.ae=m.an.ae)&&(decide (m'.an.Value=m.an.Value)&&(decide (m'.ax.ae=m.ax.ae)&&(decide (m'.ax.Value=m.ax.Value)&&(decide (m'.au.ae=m.au.ae)&&(decide (m'.au.Value=m.au.Value)&&true)))))))))))=true↔m'=m:=by
 simp only[Qm,Qi];constructor
 ·rintro⟨h1,h2,h3,h4,h5,h6,h7,h8,h9,h10,h11,_⟩;exact yN he h1 (nP h4 h5) (nP h6 h7) (nP h8 h9) (nP h10 h11) h2 h3
 ·rintro rfl;simp
open Classical in
theorem ab3{m:ab}(h:bm m)(hs:fX m):mX ⟨m⟩=some (if cp m=m then(false,⟨m⟩)else(true,⟨c6 (cp m)⟩)):=by
 have hnum:∀{x:ab},bm x->dt ⟨x⟩=some ((),⟨c6 x⟩):=fun hx=>PO hx.seq.1
 unfold mX;simp only[etas,aE.eta,fM,Qa,UJ h hs]
 by_cases hP:cF m=m
 ·simp only[(vh (s6 m)).2 hP,Ql,show xor true true=false from rfl]
  rw[hP,ab1 h hs];simp only[Qa]
  by_cases hS:fI m=m
  ·simp only[(vh (ra m)).2 hS,Ql,show xor true true=false from rfl]
   rw[hS,Xl h hs];simp only[Qa]
   by_cases hC:fo m=m
   ·simp only[(vh (ri m)).2 hC,Ql,show xor true true=false from rfl]
    rw[hC,YN h hs];simp only[Qa]
    by_cases hF:ig m=m
    ·simp only[(vh (rh m)).2 hF,Ql,show xor true true=false from rfl]
     rw[hF,YF h hs];simp only[Qa];have e:cp m=fb m:=by unfold cp;rw[Qr hP,Qr hS,Qr hC,Qr hF]
     rw[e]
     by_cases hK:fb m=m
     ·simp only[(vh (zJ m)).2 hK,Ql,show xor true true=false from rfl]
      rw[Qr hK,hK]
     ·have hb:=mt (vh (zJ m)).1 hK;rw[QX]at hb;simp only[hb,Qk,show xor true false=true from rfl]
      rw[hnum (NC h),Qs hK];rfl
    ·have e:cp m=ig m:=by unfold cp;rw[Qr hP,Qr hS,Qr hC,Qs hF]
     have hb:=mt (vh (rh m)).1 hF;rw[QX]at hb;simp only[hb,Qk,show xor true false=true from rfl]
     rw[hnum (ND h),e,Qs hF];rfl
   ·have e:cp m=fo m:=by unfold cp;rw[Qr hP,Qr hS,Qs hC]
    have hb:=mt (vh (ri m)).1 hC;rw[QX]at hb;simp only[hb,Qk,show xor true false=true from rfl]
    rw[hnum (NF h),e,Qs hC];rfl
  ·have e:cp m=fI m:=by unfold cp;rw[Qr hP,Qs hS]
   have hb:=mt (vh (ra m)).1 hS;rw[QX]at hb;simp only[hb,Qk,show xor true false=true from rfl]
   rw[hnum (NA h),e,Qs hS];rfl
 ·have e:cp m=cF m:=by unfold cp;rw[Qs hP]
  have hb:=mt (vh (s6 m)).1 hP;rw[QX]at hb;simp only[hb,Qk,show xor true false=true from rfl]
  rw[hnum (NB h),e,Qs hP];rfl
structure Dt (R:ab->Prop) (m m':ab):Prop where
 inv:bm m'
 seq:fX m'
 env:m'.aq=m.aq/\m'.bl=m.bl/\m'.ai=m.ai/\m'.aY=m.aY/\m'.aw=m.aw
 num:m'.aF=m.aF\/(m.aF=0/\m'.aF=1)
 nz:aI m.aa=false->aI m'.aa=false
 rel:R m'
 fix:He m'
theorem XA{R:ab->Prop}(hR1:∀m,bm m->R m->R (cp m))(hR2:∀m,R m->R (c6 m)){m:ab}(h:bm m)(hs:aI m.aa=true->m.aF=0)(hr:R m):Yd (gE ⟨m⟩) fun q=>∃m',q=((),⟨m'⟩)/\Dt R m m':=by
 unfold gE;simp only[etas,aE.eta,PO h.seq.1,Qa]
 have num1:∀{x:ab},bm x->(c6 x).aF=x.aF\/(x.aF=0/\(c6 x).aF=1):=fun{x} hx=>by
  have:=hx.seq;unfold c6;split
  ·show bB x.aF 1=x.aF\/(x.aF=0/\bB x.aF 1=1);unfold bB;split<;>omega
  ·exact .inl rfl
 have env1:∀x:ab,(c6 x).aq=x.aq/\(c6 x).bl=x.bl/\(c6 x).ai=x.ai/\(c6 x).aY=x.aY/\(c6 x).aw=x.aw/\(c6 x).aa=x.aa:=fun x=>by
  unfold c6;split<;>exact⟨rfl,rfl,rfl,rfl,rfl,rfl⟩
 refine Yd.down (fun s=>∃x,s=((⟨x⟩:aE),())/\bm x/\fX x/\R x/\(x.aq=m.aq/\x.bl=m.bl/\x.ai=m.ai/\x.aY=m.aY/\x.aw=m.aw)/\(x.aF=m.aF\/(m.aF=0/\x.aF=1))/\(aI m.aa=false->aI x.aa=false)) (fun s=>K1+K2 - jH s.1.ak) ?_ ⟨c6 m,rfl,wq h,HB hs,hR2 _ hr,⟨(env1 m).1,(env1 m).2.1,(env1 m).2.2.1,(env1 m).2.2.2.1,(env1 m).2.2.2.2.1⟩,num1 h,fun hz=>by rw[(env1 m).2.2.2.2.2];exact hz⟩
 rintro s ⟨x,rfl,hx,hsx,hrx,hex,hnx,hzx⟩;simp only[ab3 hx hsx,Qa]
 by_cases hst:cp x=x
 ·rw[Qr hst];exact .some ⟨x,rfl,⟨hx,hsx,hex,hnx,hzx,hrx,XU hst⟩⟩
 ·rw[Qs hst];have hi:=wW hx;have hv:=zG x;have hup:=(Pc hx).resolve_left hst;refine .some ⟨⟨c6 (cp x),rfl,wq hi,HB ?_,hR2 _ (hR1 _ hx hrx),?_,?_,?_⟩,?_⟩
  ·intro hz;rw[hv.seq];refine hsx.zero ?_
   cases hzz:aI x.aa with
   |true=>rfl
   |false=>rw[I4 hx hzz]at hz;cases hz
  ·obtain⟨e1,e2,e3,e4,e5,_⟩:=env1 (cp x);exact⟨e1.trans (hv.aC.trans hex.1),e2.trans (hv.aK.trans hex.2.1),e3.trans (hv.aM.trans hex.2.2.1),e4.trans (hv.sx.trans hex.2.2.2.1),e5.trans (hv.heard.trans hex.2.2.2.2)⟩
  ·have h1:=num1 hi;rw[hv.seq]at h1;rcases h1 with e|⟨e1,e2⟩
   ·rw[e];exact hnx
   ·right;rcases hnx with e3|⟨_,e3⟩
    ·exact⟨by rw[<-e3];exact e1,e2⟩
    ·omega
  ·intro hz;rw[(env1 (cp x)).2.2.2.2.2];exact I4 hx (hzx hz)
  ·have h1:=Tf hi;show K1+K2 - jH (c6 (cp x))<K1+K2 - jH x;rw[X5];omega
end
section
theorem R3{α:Type}{s t:List α}(hl:s.length=t.length)(hn:s.length<=1000000){step:Int×Unit->Option ((Int×Unit)⊕Bool)}
  (h1:∀(i:Nat) (h:i<s.length) (h':i<t.length),decide ((i:Int)<((s.length:Nat):Int))=true->idx s (i:Int)=some s[i]->idx t (i:Int)=some t[i]->ay .i64 (i:Int) 1=((i+1:Nat):Int)->∃b:Bool,step ((i:Int),())=some (bif b then .inl (((i+1:Nat):Int),())else .inr false)/\(b=true↔s[i]=t[i]))
  (h2:decide (((s.length:Nat):Int)<((s.length:Nat):Int))=false->step (((s.length:Nat):Int),())=some (.inr true)):∃b,aA step (0,())=some b/\(b=true↔s=t):=by
 suffices key:∀(k i:Nat),i+k=s.length->∃b,aA step ((i:Int),())=some b/\(b=true↔s.drop i=t.drop i)from by simpa using key s.length 0 (by omega)
 intro k
 induction k with
 |zero=>
  intro i hi;obtain rfl:i=s.length:=by omega
  refine⟨true,bw (h2 (Qh (Qq64 _))),?_⟩;rw[List.drop_eq_nil_of_le (by omega),List.drop_eq_nil_of_le (by omega)]
  simp
 |succ k ih=>
  intro i hi;have hi':i<s.length:=by omega
  have hi'':i<t.length:=by omega
  obtain⟨b,h3,h4⟩:=h1 i hi' hi'' (Qg (by omega)) (by rw[bh];exact Qv hi') (by rw[bh];exact Qv hi'') (bE (by omega) (by omega))
  rw[QM hi',QM hi'',List.cons.injEq]
  cases b with
  |false=>
   refine⟨false,bw h3,?_⟩;simp only[Qq,false_iff]at h4 ⊢;exact fun h=>h4 h.1
  |true=>
   obtain⟨b,h5,h6⟩:=ih (i+1) (by omega)
   refine⟨b,(bd h3).trans h5,?_⟩;rw[h6];exact⟨fun h=>⟨h4.1 rfl,h⟩,fun h=>h.2⟩
theorem K0{α:Type}{s t:List α}(h:s.length≠t.length):(false=true↔s=t):=by
 simp only[Qq,false_iff];exact fun h1=>h (by rw[h1])
 def ZP(a0:List Int)(a1:List Int):Option Bool:=
 bif (!decide (((List.length a0:Nat):Int)=((List.length a1:Nat):Int)))then
 some false
 else
 aA (fun(v1:Int×Unit)=>
 bif (decide (v1.1<((List.length a0:Nat):Int)))then
 Option.bind (idx a0 v1.1) fun x2=>
 Option.bind (idx a1 v1.1) fun x3=>
 bif (!decide (x2=x3))then
 Option.map Sum.inr (some false)
 else
 some (Sum.inl ((ay .i64 v1.1 (1:Int)),()))
 else
 Option.map Sum.inr (some true)) ((0:Int),())
theorem ZI(s t:List Int)(h:s.length<=1000000):∃b,ZP s t=some b/\(b=true↔s=t):=by
 unfold ZP
 by_cases hl:s.length=t.length
 ·rw[Qg (by omega:((s.length:Nat):Int)=((t.length:Nat):Int)),Qo,Ql]
  refine R3 hl h (fun i hi hi' hd hx hy hw=> ?_) (fun hd=> ?_)
  ·refine⟨decide (s[i]=t[i]),?_,by simp⟩
   simp only[hd,hx,hy,hw,Qk,Qa];cases decide (s[i]=t[i])<;>rfl
  ·simp only[hd,Ql];rfl
 ·rw[Qh (by omega:¬((s.length:Nat):Int)=((t.length:Nat):Int)),Qp,Qk]
  exact⟨false,rfl,K0 hl⟩
theorem acP(s t:List Int)(h:s.length<=1000000):∃b,Hg s t=some b/\(b=true↔s=t):=ZI s t h
theorem ad4(s t:List Int)(h:s.length<=1000000):∃b,qc s t=some b/\(b=true↔s=t):=ZI s t h
theorem Nd(a b:al):a=b↔a.aL=b.aL/\a.bb=b.bb/\a.aN=b.aN:=by
 cases a;cases b;simp
theorem adt{n:Nat}:∀{a b:al},SizeOf.sizeOf a<n->c5 a->∃r,Ce n (a,b,())=some r/\(r=true↔a=b):=by
 induction n with
 |zero=>intro a b h;omega
 |succ n ih=>
  intro a b hs hm;show∃r,Cl (Ce n) a b=some r/\(r=true↔a=b);have hl:=hm.len;have hns:=hm.nodes;obtain⟨r,h1,h2⟩:=acP a.bb b.bb hns;rw[Nd];unfold Cl
  by_cases ht:a.aL=b.aL
  ·rw[Qg ht];simp only[Qo,Ql,h1,Qa]
   cases r with
   |false=>
    simp only[Qp,Qk,Qa];refine⟨false,rfl,?_⟩;simp only[Qq,false_iff]at h2 ⊢;exact fun h=>h2 h.2.1
   |true=>
    simp only[Qo,Ql,Qa]
    by_cases hi:a.aN.length=b.aN.length
    ·rw[Qg (by omega:((a.aN.length:Nat):Int)=((b.aN.length:Nat):Int)),Qo,Ql]
     have key:∀step:Int×Unit->Option ((Int×Unit)⊕Bool),(∃r,aA step (0,())=some r/\(r=true↔a.aN=b.aN))->∃r,aA step (0,())=some r/\(r=true↔a.aL=b.aL/\a.bb=b.bb/\a.aN=b.aN):=by
      rintro step ⟨r,h3,h4⟩;exact⟨r,h3,by rw[h4];exact⟨fun h=>⟨ht,h2.1 rfl,h⟩,fun h=>h.2.2⟩⟩
     refine key _ (R3 hi hl (fun i hi hi' hd hx hy hw=> ?_) (fun hd=> ?_))
     ·have hu:=Q0 hi;obtain⟨r,h3,h4⟩:=ih (a:=a.aN[i]) (b:=b.aN[i]) (by have:=pZ hu;omega) (hm.inner _ hu)
      refine⟨r,?_,h4⟩;simp only[hd,hx,hy,hw,Qk,Qa,etas,h3];cases r<;>rfl
     ·simp only[hd,Ql];rfl
    ·rw[Qh (by omega:¬((a.aN.length:Nat):Int)=((b.aN.length:Nat):Int)),Qp,Qk]
     refine⟨false,rfl,?_⟩;simp only[Qq,false_iff];exact fun h=>hi (by rw[h.2.2])
  ·rw[Qh ht];refine⟨false,rfl,?_⟩;simp only[Qq,false_iff];exact fun h=>ht h.1
theorem Vb{a b:al}(h:c5 a):∃r,tM a b=some r/\(r=true↔a=b):=adt (by omega) h
theorem aew{n:Nat}:∀{a b:al},SizeOf.sizeOf a<n->c5 a->∃r,wK n (a,b,())=some r/\(r=true↔a=b):=by
 induction n with
 |zero=>intro a b h;omega
 |succ n ih=>
  intro a b hs hm;show∃r,rS (wK n) a b=some r/\(r=true↔a=b);have hl:=hm.len;have hns:=hm.nodes;obtain⟨r,h1,h2⟩:=ad4 a.bb b.bb hns;rw[Nd];unfold rS
  by_cases ht:a.aL=b.aL
  ·rw[Qg ht];simp only[Qk,h1,Qa]
   cases r with
   |false=>
    simp only[Ql];refine⟨false,rfl,?_⟩;simp only[Qq,false_iff]at h2 ⊢;exact fun h=>h2 h.2.1
   |true=>
    simp only[Qk]
    have key:∀o:Option Bool,(∃r,o=some r/\(r=true↔a.aN=b.aN))->∃r,(Option.bind (Option.bind o fun r3=>some r3) fun b4=>some b4)=some r/\(r=true↔a.aL=b.aL/\a.bb=b.bb/\a.aN=b.aN):=by
     rintro o ⟨r,rfl,h4⟩;exact⟨r,rfl,by rw[h4];exact⟨fun h=>⟨ht,h2.1 rfl,h⟩,fun h=>h.2.2⟩⟩
    refine key _ ?_;unfold dx
    by_cases hi:a.aN.length=b.aN.length
    ·rw[Qg (by omega:((a.aN.length:Nat):Int)=((b.aN.length:Nat):Int)),Qo,Ql]
     refine R3 hi hl (fun i hi hi' hd hx hy hw=> ?_) (fun hd=> ?_)
     ·have hu:=Q0 hi;obtain⟨r,h3,h4⟩:=ih (a:=a.aN[i]) (b:=b.aN[i]) (by have:=pZ hu;omega) (hm.inner _ hu)
      refine⟨r,?_,h4⟩;simp only[hd,hx,hy,hw,Qk,Qa,etas,h3];cases r<;>rfl
     ·simp only[hd,Ql];rfl
    ·rw[Qh (by omega:¬((a.aN.length:Nat):Int)=((b.aN.length:Nat):Int)),Qp,Qk]
     exact⟨false,rfl,K0 hi⟩
  ·rw[Qh ht];refine⟨false,rfl,?_⟩;simp only[Qq,false_iff];exact fun h=>ht h.1
theorem eqT{a b:al}(h:c5 a):∃r,oy a b=some r/\(r=true↔a=b):=aew (by omega) h
theorem TM(a b:Int)(s t:ByteArray):lu false a b s t=(decide (a=b)&&decide (s=t)):=by
 simp
theorem LS(a b:af):a=b↔a.ae=b.ae/\a.Value=b.Value:=by
 cases a;cases b;simp
theorem TN(a b:aj):a=b↔a.aq=b.aq/\a.bl=b.bl/\a.aF=b.aF/\a.ai=b.ai/\a.bL=b.bL/\a.aa=b.aa/\a.an=b.an/\a.ax=b.ax/\a.aS=b.aS/\a.bn=b.bn:=by
 cases a;cases b;simp
theorem TX(a b:Bool):(bif a then some b else some false)=some (a&&b):=by cases a<;>rfl
theorem afi{a b:aj}(h:c5 a.ai):∃r,Ch a b=some r/\(r=true↔a=b):=by
 obtain⟨r,h1,h2⟩:=Vb (a:=a.ai) (b:=b.ai) h;have hc:∀x:Bool,(bif x then some r else some false)=some (x&&r):=fun x=>by cases x<;>rfl
 refine⟨_,by simp only[Ch,etas,h1,Qa,TX,hc,TM];rfl,?_⟩
 rw[TN];simp only[Qm,Qi,h2,LS];constructor
 ·rintro⟨⟨⟨⟨⟨⟨⟨⟨⟨h1,h2⟩,h3⟩,h4⟩,h5⟩,h6⟩,h7⟩,h8⟩,h9⟩,h10⟩;exact⟨h1,h2,h3,h4,h5,h6,h7,h8,h9,h10⟩
 ·rintro⟨h1,h2,h3,h4,h5,h6,h7,h8,h9,h10⟩;exact⟨⟨⟨⟨⟨⟨⟨⟨⟨h1,h2⟩,h3⟩,h4⟩,h5⟩,h6⟩,h7⟩,h8⟩,h9⟩,h10⟩
end
section
theorem Lm{m:ab}(h:bm m){ρ:Type}{step:Int×Unit->Option ((Int×Unit)⊕ρ)}{fin:Option ρ}
  (h1:∀(i:Nat) (e:aj),e∈m.aw->decide ((i:Int)<((m.aw.length:Nat):Int))=true->idx m.aw (i:Int)=some e->ay .i64 (i:Int) 1=((i+1:Nat):Int)->
   (i=0\/(decide ((0:Int)<(i:Int))=true/\∃x,idx m.aw (dm .i64 (i:Int) 1)=some x/\decide (e.aq<=x.aq)=false))->step ((i:Int),())=some (.inl (((i+1:Nat):Int),())))
  (h2:decide (((m.aw.length:Nat):Int)<((m.aw.length:Nat):Int))=false->step (((m.aw.length:Nat):Int),())=Option.map Sum.inr fin):aA step (0,())=fin:=by
 have hl:=h.len;refine V3 m.aw.length (by omega) (fun i hi hd hw=> ?_) h2
 have hx:idx m.aw (i:Int)=some m.aw[i]:=by rw[bh];exact Qv hi
 refine h1 i m.aw[i] (Q0 hi) hd hx hw ?_
 cases i with
 |zero=>exact .inl rfl
 |succ i=>
  refine .inr ⟨Qg (by omega),m.aw[i],?_,?_⟩
  ·have:dm .i64 ((i+1:Nat):Int) 1=(i:Int):=by rw[rl (by omega) (by omega)];omega
   rw[this,bh];exact Qv (by omega)
  ·have:=List.pairwise_iff_getElem.1 h.ib i (i+1) (by omega) hi (by omega)
   exact Qh (by omega)
theorem aa5{m:ab}(h:bm m):sR m=some true:=by
 unfold sR;refine Lm h (fun i e he hd hx hw hi=> ?_) (fun hd=>by simp only[hd,Ql])
 obtain⟨g1,g2,g3,g4⟩:=h.hv e he;simp only[hd,hx,hw,Qk,Qa,aP,etas,wH g2.sm,g1,Qo,Ql,Qg g3,Qh g4];rcases hi with rfl|⟨hi,x,hx2,hn⟩
 ·rfl
 ·rw[hi,hx2];simp only[Qk,Qa,hn,Ql]
theorem Bg{m:ab}(h:bm m)(hs:fX m)(hz:aI m.aa=false):aX (bF m)=true:=by
 rw[<-Mw hs hz];exact NJ h hz
theorem aaS:lu false bZ.ae (0:Int) bZ.Value (ByteArray.mk #[])=true:=by decide
theorem Bp{m:ab}(h:bm m)(hs:fX m):jC m=some true:=by
 have d1:decide (m.aq<0)=false:=Qh (by have:=h.n0;omega)
 have d2:decide ((10:Int)<=m.aq)=false:=Qh (by have:=h.n1;omega)
 have d3:decide (m.bl<1)=false:=Qh (by have:=h.aK;omega)
 have d4:decide ((1000000:Int)<m.bl)=false:=Qh (by have:=h.aK;omega)
 have d5:decide (m.aF<0)=false:=Qh (by have:=h.seq;omega)
 have d6:decide ((1000000:Int)<m.aF)=false:=Qh (by have:=h.seq;omega)
 have d7:decide ((200:Int)<((m.aY.size:Nat):Int))=false:=Qh (by have:=h.sx;omega)
 have hm:c5 (bF m).ai:=by rw[nM];exact h.aM.sm
 unfold jC;simp only[d1,d2,d3,d4,d5,d6,d7,Ql,Qa,etas,cP h.aM,decide_true,Qo,aa5 h,cy,zL,DH h,wH hm]
 cases hz:aI m.aa with
 |true=>
  have h0:P0 m:=by
   rcases h.body with k|k|k|k
   ·exact k
   ·rw[k.aQ.nz]at hz;cases hz
   ·rw[k.aQ.nz]at hz;cases hz
   ·rw[k.aQ.nz]at hz;cases hz
  unfold yi;simp only[h0.aT,hs.zero hz,h0.dv,h0.bW,h0.dM,h0.low,h0.bV,aaS,decide_true,Qk,Qa]
 |false=>
  have hv:=Bg h hs hz;simp only[hv,Ql,Qk]
  have hconf:oK m=some true:=by
   unfold oK;simp only[cy,tN,q7,fF,Qa]
   have fin:∀(hf:c7 m.au) (hp:(dK m.an m.ax m.au||(!decide (m.aH=1)&&bM m.au m.aa))=true),_:=fun hf hp=>(show(bif aI m.au then some true else
     (bif !c9 m.au then some true else some (decide (1000<m.au.ae))).bind fun b3=>bif b3 then some false else
     (bif dK m.an m.ax m.au then some true else(bif !decide (m.aH=1)then some (bM m.au m.aa)else some false).bind fun b6=>some b6).bind fun b7=>some b7)=some true by
    rw[hf.nz,hf.valid,Qh (show¬1000<m.au.ae by have:=hf.2.1;omega)]
    revert hp
    cases dK m.an m.ax m.au<;>cases decide (m.aH=1)<;>cases bM m.au m.aa<;>simp)
   have nob:m.au=bZ->(bif aI m.au then some true else
     (bif !c9 m.au then some true else some (decide (1000<m.au.ae))).bind fun b3=>bif b3 then some false else
     (bif dK m.an m.ax m.au then some true else(bif !decide (m.aH=1)then some (bM m.au m.aa)else some false).bind fun b6=>some b6).bind fun b7=>some b7)=some true:=fun e=>by rw[e,bQ];rfl
   rcases h.body with k|k|k|k
   ·exact nob k.dM
   ·rcases k.dM with e|⟨hf,hp⟩
    ·exact nob e
    ·exact fin hf (by rw[hp];rfl)
   ·rcases k.dM with e|⟨hf,hp⟩
    ·exact nob e
    ·exact fin hf (by rw[iF.2 hp,Qh (show¬m.aH=1 by have:=k.aT;omega)];simp)
   ·exact nob k.dM
  rw[hconf];simp only[Qa,Qk];rcases h.body with k|k|k|k
  ·rw[k.aQ,bQ]at hz;cases hz
  ·simp only[k.aT,k.bV,decide_true,Qo,Ql,Qa,Qp,Qk,show decide ((1:Int)=3)=false from rfl]
  ·simp only[k.aT,k.bW,bQ,show decide ((2:Int)=1)=false from rfl,show decide ((2:Int)=3)=false from rfl,Qo,Ql,Qa,Qp,Qk]
  ·simp only[k.aT,k.bW,k.dv,bQ,show decide ((3:Int)=1)=false from rfl,decide_true,Qo,Ql,Qa,Qp,Qk]
theorem yX{m:ab}(h:bm m)(hs:fX m):lz m=some true:=by
 have d1:decide (m.aq<0)=false:=Qh (by have:=h.n0;omega)
 have d2:decide ((9:Int)<m.aq)=false:=Qh (by have:=h.n1;omega)
 have d3:decide (m.bl<1)=false:=Qh (by have:=h.aK;omega)
 have d4:decide ((1000000:Int)<m.bl)=false:=Qh (by have:=h.aK;omega)
 have d5:decide (m.aF<0)=false:=Qh (by have:=h.seq;omega)
 have d6:decide ((1000000:Int)<m.aF)=false:=Qh (by have:=h.seq;omega)
 have d7:decide ((200:Int)<((m.aY.size:Nat):Int))=false:=Qh (by have:=h.sx;omega)
 have hm:c5 (bF m).ai:=by rw[nM];exact h.aM.sm
 unfold lz;simp only[d1,d2,d3,d4,d5,d6,d7,Ql,Qa,etas,eV h.aM,decide_true,Qo];refine Lm h (fun i e he hd hx hw hi=> ?_) (fun hd=> ?_)
 ·obtain⟨g1,g2,g3,g4⟩:=h.hv e he;simp only[hd,hx,hw,Qk,Qa,aP,mn g2.sm,g1,Qo,Ql,Qg g3,Qh g4];rcases hi with rfl|⟨hi,x,hx2,hn⟩
  ·rfl
  ·rw[hi,hx2];simp only[Qk,Qa,hn,Ql]
 ·simp only[hd,Ql];congr 1;simp only[cU,Ci,sF,gC,Qa,xQ,mn hm]
  cases hz:aI m.aa with
  |true=>
   have h0:P0 m:=by
    rcases h.body with k|k|k|k
    ·exact k
    ·rw[k.aQ.nz]at hz;cases hz
    ·rw[k.aQ.nz]at hz;cases hz
    ·rw[k.aQ.nz]at hz;cases hz
   simp only[h0.aT,hs.zero hz,h0.dv,h0.bW,h0.dM,h0.low,h0.bV,bQ,decide_true,Qk,Qa]
  |false=>
   have hv:=Bg h hs hz;simp only[hv,Ql,Qo];rcases h.body with k|k|k|k
   ·rw[k.aQ,bQ]at hz;cases hz
   ·simp only[k.aT,k.bV,decide_true,Qo,Ql,Qa,Qp,Qk,show decide ((1:Int)=3)=false from rfl,show decide ((1:Int)=2)=false from rfl]
    rcases k.dM with e|⟨hf,hp⟩
    ·rw[e,bQ];rfl
    ·rw[hf.nz,hf.valid,Qh (show¬1000<m.au.ae by have:=hf.2.1;omega),hp];rfl
   ·simp only[k.aT,k.bW,bQ,show decide ((2:Int)=1)=false from rfl,show decide ((2:Int)=3)=false from rfl,decide_true,Qo,Ql,Qa,Qp,Qk]
    rcases k.dM with e|⟨hf,hp⟩
    ·rw[e,bQ];rfl
    ·rw[hf.nz,hf.valid,Qh (show¬1000<m.au.ae by have:=hf.2.1;omega),iF.2 hp];rfl
   ·simp only[k.aT,k.bW,k.dv,k.dM,bQ,show decide ((3:Int)=1)=false from rfl,show decide ((3:Int)=2)=false from rfl,decide_true,Qo,Ql,Qa,Qp,Qk]
end
section
theorem BH(x:ab):(c6 x).aq=x.aq/\(c6 x).bl=x.bl/\(c6 x).ai=x.ai/\(c6 x).aY=x.aY/\(c6 x).aw=x.aw/\(c6 x).aa=x.aa:=by
 unfold c6;split<;>exact⟨rfl,rfl,rfl,rfl,rfl,rfl⟩
theorem Yt{x:ab}(hx:bm x):(c6 x).aF=x.aF\/(x.aF=0/\(c6 x).aF=1):=by
 have:=hx.seq;unfold c6;split
 ·show bB x.aF 1=x.aF\/(x.aF=0/\bB x.aF 1=1);unfold bB;split<;>omega
 ·exact .inl rfl
theorem yK{m m':ab}(he:gW m m')(h:¬m'=m):zn m m'=false:=by
 cases hs:zn m m' with
 |false=>rfl
 |true=>exact absurd (Ph he hs) h
theorem XB{R:ab->Prop}(hR1:∀m,bm m->R m->R (cp m))(hR2:∀m,R m->R (c6 m)){m:ab}(h:bm m)(hs:fX m)(hr:R m):Yd (xZ m) (Dt R m):=by
 unfold xZ;simp only[etas,yX h hs,Qa,Qo,Ql];refine Yd.down (fun s=>bm s.1/\R s.1/\gW m s.1/\(aI m.aa=false->aI s.1.aa=false)) (fun s=>K1+K2 - jH s.1) ?_ ⟨h,hr,gW.refl m,id⟩
 rintro⟨x,z,_⟩ ⟨hx,hrx,hex,hzx⟩;simp only at hx hrx hex hzx;simp only[aP,UK hx.ev,Qa,aca]
 have hgo:∀{y:ab},y=cp x->¬y=x->(bm y/\R y/\gW m y/\(aI m.aa=false->aI y.aa=false))/\K1+K2 - jH y<K1+K2 - jH x:=by
  rintro y rfl hne;have hv:=zG x;have hup:=(Pc hx).resolve_left hne;have h1:=Tf (wW hx);exact⟨⟨wW hx,hR1 _ hx hrx,⟨hv.aC.trans hex.aC,hv.aK.trans hex.aK,hv.seq.trans hex.seq,hv.aM.trans hex.aM,hv.sx.trans hex.sx,hv.heard.trans hex.heard⟩,fun hz=>I4 hx (hzx hz)⟩,by omega⟩
 by_cases hP:cF x=x
 ·simp only[hP,tX,Qk,SR hx.ev,Qa]
  by_cases hS:fI x=x
  ·simp only[hS,tX,Qk,SU hx.ev,Qa]
   by_cases hC:fo x=x
   ·simp only[hC,tX,Qk,abk hx.ev,Qa]
    by_cases hF:ig x=x
    ·simp only[hF,tX,Qk,YZ hx.ev,Qa];have e:cp x=fb x:=by unfold cp;rw[Qr hP,Qr hS,Qr hC,Qr hF]
     by_cases hK:fb x=x
     ·simp only[hK,tX,Qk,cU,Qa]
      have hnum:(bif !aI x.aa then Option.map Sum.inr (some (⟨x.aq,x.bl,bB x.aF (1:Int),x.ai,x.aH,x.aa,x.an,x.ax,x.au,x.aS,x.bn,x.aY,x.aw⟩:ab))else Option.map (Sum.inr (α:=ab×ab×Unit)) (some x))=some (Sum.inr (c6 x)):=by
       unfold c6;cases aI x.aa<;>rfl
      rw[hnum];obtain⟨e1,e2,e3,e4,e5,e6⟩:=BH x;refine .some ⟨wq hx,HB fun hz=> ?_,⟨e1.trans hex.aC,e2.trans hex.aK,e3.trans hex.aM,e4.trans hex.sx,e5.trans hex.heard⟩,?_,fun hz=>by rw[e6];exact hzx hz,hR2 _ hrx,Yu hx ⟨hP,hS,hC,hF,hK⟩⟩
      ·rw[hex.seq];refine hs.zero ?_
       cases hzz:aI m.aa with
       |true=>rfl
       |false=>rw[hzx hzz]at hz;cases hz
      ·have:=Yt hx;rw[hex.seq]at this;exact this
     ·simp only[yK (zJ x) hK,Ql];exact .some (hgo e.symm hK)
    ·simp only[yK (rh x) hF,Ql];have e:cp x=ig x:=by unfold cp;rw[Qr hP,Qr hS,Qr hC,Qs hF]
     exact .some (hgo e.symm hF)
   ·simp only[yK (ri x) hC,Ql];have e:cp x=fo x:=by unfold cp;rw[Qr hP,Qr hS,Qs hC]
    exact .some (hgo e.symm hC)
  ·simp only[yK (ra x) hS,Ql];have e:cp x=fI x:=by unfold cp;rw[Qr hP,Qs hS]
   exact .some (hgo e.symm hS)
 ·simp only[yK (s6 x) hP,Ql];have e:cp x=cF x:=by unfold cp;rw[Qs hP]
  exact .some (hgo e.symm hP)
open Classical in
 def pA(m m2:ab):ab:=if aI m.aa=false/\{bF m with aF:=0}≠{bF m2 with aF:=0}then{m2 with aF:=cm (m2.aF+1) 1000000}else m2
theorem Fg(m m2:ab):∃s,pA m m2={m2 with aF:=s}/\(s=m2.aF\/s=cm (m2.aF+1) 1000000):=by
 unfold pA;split
 ·exact⟨_,rfl,.inr rfl⟩
 ·exact⟨m2.aF,rfl,.inl rfl⟩
theorem SX{m m2:ab}(h:bm m2):∃s,pA m m2={m2 with aF:=s}/\m2.aF<=s/\0<=s/\s<=1000000:=by
 obtain⟨s,h1,h2⟩:=Fg m m2;have:=h.seq;refine⟨s,h1,?_⟩;rcases h2 with rfl|rfl
 ·omega
 ·unfold cm;split<;>omega
theorem Y2{m m2:ab}(h:bm m2):bm (pA m m2):=by
 obtain⟨s,h1,h2⟩:=SX (m:=m) h;rw[h1];exact MM h h2.2
theorem abF{m m2:ab}(h:bm m2)(hs:fX m2)(hnz:aI m.aa=false->aI m2.aa=false):fX (pA m m2):=by
 unfold pA;split
 ·rename_i hc;have:=hs.pos (hnz hc.1);refine⟨fun hz=> ?_,fun _=> ?_⟩
  ·rw[show({m2 with aF:=cm (m2.aF+1) 1000000}:ab).aa=m2.aa from rfl,hnz hc.1]at hz
   cases hz
  ·show 1<=cm (m2.aF+1) 1000000;unfold cm;split<;>omega
 ·exact hs
def IW(R:ab->Prop)(m m1:ab)(q:ab×Int×Unit):Prop:=∃m2,q=(pA m m2,(0:Int),())/\Dt R (c6 m1) m2
theorem abK{R:ab->Prop}{m1 m2:ab}(h1:bm m1)(h:Dt R m1 m2):Dt R (c6 m1) m2:=by
 obtain⟨e1,e2,e3,e4,e5,e6⟩:=BH m1;refine⟨h.inv,h.seq,?_,?_,fun hz=>h.nz (by rw[e6]at hz;exact hz),h.rel,h.fix⟩
 ·obtain⟨a1,a2,a3,a4,a5⟩:=h.env;exact⟨a1.trans e1.symm,a2.trans e2.symm,a3.trans e3.symm,a4.trans e4.symm,a5.trans e5.symm⟩
 ·have hn:=h.num;have hq:=h1.seq
  cases hz:aI m1.aa with
  |true=>
   have:c6 m1=m1:=Qs (by rw[hz];decide)
   rw[this];exact hn
  |false=>
   have h3:=h.seq.pos (h.nz hz);have:(c6 m1).aF=bB m1.aF 1:=by unfold c6;rw[Qr hz]
   rw[this];left;unfold bB;split<;>omega
theorem abn{m:ab}(h:bm m):c5 ({bF m with aF:=0}:aj).ai:=by rw[show({bF m with aF:=0}:aj).ai=(bF m).ai from rfl,nM];exact h.aM.sm
theorem KP{R:ab->Prop}(hR1:∀m,bm m->R m->R (cp m))(hR2:∀m,R m->R (c6 m)){m m1:ab}(h:bm m)(h1:bm m1)(hz1:aI m1.aa=true->m1.aF=0)(hnz:aI m.aa=false->aI m1.aa=false)(hr:R m1):
  Yd (lW m (c6 m1)) fun q=>∃m2,q=pA m m2/\Dt R (c6 m1) m2:=by
 unfold lW;simp only[etas];refine Yd.bind (XB hR1 hR2 (wq h1) (HB hz1) (hR2 _ hr)) fun m2 ha=> ?_
 have hq:=ha.inv.seq;obtain⟨r,g1,g2⟩:=afi (a:={bF m with aF:=0}) (b:={bF m2 with aF:=0}) (abn h)
 have hadd:ay .i64 m2.aF 1=m2.aF+1:=bE (by omega) (by omega)
 simp only[cU,Qa,xQ,aP,g1,hadd]
 cases hz2:aI m2.aa with
 |true=>
  have hz:aI m.aa=true:=by
   cases hc:aI m.aa with
   |true=>rfl
   |false=>rw[ha.nz (by rw[(BH m1).2.2.2.2.2];exact hnz hc)]at hz2;cases hz2
  refine .some ⟨m2,?_,ha⟩;unfold pA;rw[Qs (by rw[hz];rintro⟨e,_⟩;cases e)]
 |false=>
  refine Yd.of_eq (x:=pA m m2) ?_ ⟨m2,rfl,ha⟩;unfold pA
  cases hz:aI m.aa with
  |true=>rw[Qs (by rintro⟨e,_⟩;cases e)];rfl
  |false=>
   cases r with
   |true=>rw[Qs (fun e=>e.2 (g2.1 rfl))];rfl
   |false=>rw[Qr ⟨rfl,fun e=>by have:=g2.2 e;cases this⟩];rfl
theorem ab9(a b:aj)(h:c5 a.ai)(hn:a.aq=b.aq)(hs:a.bl=b.bl):∃r,oe a b=some r/\(r=true↔{a with aF:=0}={b with aF:=0}):=by
 obtain⟨r,h1,h2⟩:=eqT (a:=a.ai) (b:=b.ai) h;refine⟨r&&decide (a.bL=b.bL)&&decide (a.aa=b.aa)&&decide (a.an=b.an)&&decide (a.ax=b.ax)&&decide (a.aS=b.aS)&&decide (a.bn=b.bn),?_,?_⟩
 ·unfold oe;simp only[etas,h1,Qa,TX,TM,<-Bool.decide_and,<-LS,Qa]
 ·rw[TN];simp only[Qm,Qi,hn,hs,h2,true_and];simp only[and_assoc]
theorem Fe{m:ab}(h:bm m):lZ m=some m:=by
 unfold lZ;simp only[etas,py h.aM.sm,Qa];rw[XJ (fun e he=>(h.hv e he).2.1.sm) (by have:=h.len;omega)]
 rfl
theorem Nw{l:List aj}{e:aj}(hv:aX e=true):
  (∃x∈l,x.aq=e.aq/\e.aF<=x.aF/\Gg l e=(l,false,()))\/
  (∃a b,((∃x,l=a++x::b/\x.aq=e.aq/\x.aF<e.aF)\/(l=a++b/\(∀x∈l,x.aq≠e.aq)/\(∀x∈a,¬e.aq<x.aq)/\(∀x,b.head?=some x->e.aq<x.aq)))/\Gg l e=(a++e::b,true,())):=by
 unfold Gg;rw[Qr hv]
 cases hf:l.findIdx? (fun x=>decide (x.aq=e.aq))with
 |some i=>
  obtain⟨hi,h2,_⟩:=List.findIdx?_eq_some_iff_getElem.1 hf;have hx:l[i]?=some l[i]:=Qv hi;have h2:=of_decide_eq_true h2;simp only[hx,Q3]
  by_cases hle:e.aF<=l[i].aF
  ·left;rw[Qr hle];exact⟨l[i],Q0 hi,h2,hle,rfl⟩
  ·right;rw[Qs hle];refine⟨l.take i,l.drop (i+1),.inl ⟨l[i],?_,h2,by omega⟩,?_⟩
   ·rw[List.getElem_cons_drop];exact(List.take_append_drop i l).symm
   ·rw[List.set_eq_take_append_cons_drop,Qr hi]
 |none=>
  right
  have hne:∀x∈l,x.aq≠e.aq:=fun x hx he=>by
   have:=List.findIdx?_eq_none_iff.1 hf x hx;rw[he]at this;simp at this
  refine⟨l.take (T4 l e),l.drop (T4 l e),.inr ⟨(List.take_append_drop _ l).symm,hne,?_,?_⟩,by rw[QL];rfl⟩
  ·intro x hx hlt;obtain⟨j,hj,rfl⟩:=List.getElem_of_mem hx;rw[List.getElem_take]at hlt;rw[List.length_take]at hj;unfold T4 at hj
   cases hg:l.findIdx? (fun x=>decide (e.aq<x.aq))with
   |none=>
    have:=List.findIdx?_eq_none_iff.1 hg _ (Q0 (show j<l.length by omega))
    simp[hlt]at this
   |some k=>
    obtain⟨_,_,h3⟩:=List.findIdx?_eq_some_iff_getElem.1 hg;rw[hg,Q3]at hj;have:=h3 j (by omega)
    simp[hlt]at this
  ·intro x hx;rw[List.head?_drop]at hx;unfold T4 at hx
   cases hg:l.findIdx? (fun x=>decide (e.aq<x.aq))with
   |none=>rw[hg,Option.getD_none,Qq72 (QI _)]at hx;cases hx
   |some k=>
    obtain⟨hk,h2,_⟩:=List.findIdx?_eq_some_iff_getElem.1 hg;rw[hg,Q3,Qv hk]at hx;obtain rfl:=Option.some.inj hx;exact of_decide_eq_true h2
theorem aas{l:List aj}{e:aj}{y:aj}(hy:y∈(Gg l e).1):y=e\/y∈l:=by
 by_cases hv:aX e=true
 ·rcases Nw (l:=l) hv with⟨x,_,_,_,h⟩|⟨a,b,h1,h⟩
  ·rw[h]at hy;exact .inr hy
  ·rw[h]at hy;rcases Qz.1 hy with hy|hy
   ·rcases h1 with⟨x,rfl,_⟩|⟨rfl,_⟩
    ·exact .inr (List.mem_append_left _ hy)
    ·exact .inr (List.mem_append_left _ hy)
   ·rcases QA.1 hy with hy|hy
    ·exact .inl hy
    ·rcases h1 with⟨x,rfl,_⟩|⟨rfl,_⟩
     ·exact .inr (List.mem_append_right _ (Qy _ hy))
     ·exact .inr (List.mem_append_right _ hy)
 ·unfold Gg at hy;rw[Qs hv]at hy;exact .inr hy
theorem UH{l:List aj}{e:aj}(hl:l.Pairwise (fun a b=>a.aq<b.aq)):(Gg l e).1.Pairwise (fun a b=>a.aq<b.aq):=by
 by_cases hv:aX e=true
 ·rcases Nw (l:=l) hv with⟨x,_,_,_,h⟩|⟨a,b,h1,h⟩
  ·rw[h];exact hl
  ·rw[h];show(a++e::b).Pairwise _;rcases h1 with⟨x,rfl,hn,_⟩|⟨rfl,hne,ha,hb⟩
   ·rw[Qq69,Q4]at hl ⊢;obtain⟨g1,⟨g2,g3⟩,g4⟩:=hl;refine⟨g1,⟨fun y hy=> ?_,g3⟩,fun y hy z hz=> ?_⟩
    ·rw[<-hn];exact g2 y hy
    ·rcases QA.1 hz with rfl|hz
     ·rw[<-hn];exact g4 y hy x Qx
     ·exact g4 y hy z (Qy _ hz)
   ·rw[Qq69]at hl;rw[Qq69,Q4];obtain⟨g1,g3,g4⟩:=hl
    have hbe:∀y∈b,e.aq<y.aq:=by
     intro y hy
     cases b with
     |nil=>cases hy
     |cons z b=>
      have:=hb z rfl;rcases QA.1 hy with rfl|hy
      ·exact this
      ·have:=(Q4.1 g3).1 y hy;omega
    refine⟨g1,⟨hbe,g3⟩,fun y hy z hz=> ?_⟩
    rcases QA.1 hz with rfl|hz
    ·have h2:=ha y hy;have h3:=hne y (List.mem_append_left _ hy);omega
    ·exact g4 y hy z hz
 ·unfold Gg;rw[Qs hv];exact hl
structure XI (m:ab) (e:aj):Prop where
 valid:aX e=true
 aM:fe e.ai
 aK:e.bl=m.bl
 aC:e.aq≠m.aq
 def ZJ(m:ab)(e:aj):ab:={m with aw:=(Gg m.aw e).1}
theorem YC{m:ab}(h:bm m){e:aj}(he:XI m e):bm (ZJ m e):=by
 refine⟨h.n0,h.n1,h.aK,h.seq,h.aM,h.sx,fun y hy=> ?_,UH h.ib,?_⟩
 ·rcases aas hy with rfl|hy
  ·exact⟨he.valid,he.aM,he.aK,he.aC⟩
  ·exact h.hv y hy
 ·rcases h.body with k|k|k|k
  ·exact .inl ⟨k.aT,k.aQ,k.dv,k.bW,k.dM,k.low,k.bV⟩
  ·exact .inr (.inl ⟨k.aT,k.aQ,k.dv,k.bW,k.dM,k.up,k.bV,k.low⟩)
  ·exact .inr (.inr (.inl ⟨k.aT,k.aQ,k.dv,k.bW,k.dM,k.range⟩))
  ·exact .inr (.inr (.inr ⟨k.aT,k.aQ,k.dv,k.bW,k.dM,k.range⟩))
def ZR(m:ab)(t:al):ab:={m with ai:=t}
theorem YM{m:ab}(h:bm m){t:al}(ht:fe t):bm (ZR m t):=by
 refine⟨h.n0,h.n1,h.aK,h.seq,ht,h.sx,h.hv,h.ib,?_⟩;rcases h.body with k|k|k|k
 ·exact .inl ⟨k.aT,k.aQ,k.dv,k.bW,k.dM,k.low,k.bV⟩
 ·exact .inr (.inl ⟨k.aT,k.aQ,k.dv,k.bW,k.dM,k.up,k.bV,k.low⟩)
 ·exact .inr (.inr (.inl ⟨k.aT,k.aQ,k.dv,k.bW,k.dM,k.range⟩))
 ·exact .inr (.inr (.inr ⟨k.aT,k.aQ,k.dv,k.bW,k.dM,k.range⟩))
def dP(m:ab)(v:ByteArray):ab:=if aI m.aa=true then{m with aY:=v,aa:=⟨1,cZ {m with aY:=v}⟩}else{m with aY:=v}
theorem Z7{v:ByteArray}(h:1<=v.size):v≠fD:=by
 rintro rfl;exact absurd h (by decide)
theorem O3{m:ab}(h:P0 m){v:ByteArray}(hv:1<=v.size):cZ {m with aY:=v}=v:=by
 unfold cZ;rw[Qs (by rw[show({m with aY:=v}:ab).au=m.au from rfl,h.dM,bQ];decide),Qs (by rw[show({m with aY:=v}:ab).aH=m.aH from rfl,h.aT];decide),Qr (Z7 hv)]
theorem BC{m:ab}(h:bm m){v:ByteArray}(hv:1<=v.size/\v.size<=200):bm (dP m v):=by
 unfold dP;rcases h.body with k|k|k|k
 ·rw[Qr (by rw[k.aQ];exact bQ),O3 k hv.1]
  refine⟨h.n0,h.n1,h.aK,h.seq,h.aM,hv.2,h.hv,h.ib,.inr (.inl ⟨k.aT,⟨by show(1:Int)<=1;omega,by show(1:Int)<=1000;omega,hv.1,hv.2⟩,.inl k.dv,.inl k.bW,.inl k.dM,?_,k.bV,.inl k.low⟩)⟩
  show bx _ m.au=false;rw[k.dM]
  cases hl:bx (⟨1,v⟩:af) bZ with
  |false=>rfl
  |true=>have:=iL hl;exact absurd (show(1:Int)<=0 from this) (by decide)
 ·rw[Qs (by rw[k.aQ.nz];decide)]
  exact⟨h.n0,h.n1,h.aK,h.seq,h.aM,hv.2,h.hv,h.ib,.inr (.inl ⟨k.aT,k.aQ,k.dv,k.bW,k.dM,k.up,k.bV,k.low⟩)⟩
 ·rw[Qs (by rw[k.aQ.nz];decide)]
  exact⟨h.n0,h.n1,h.aK,h.seq,h.aM,hv.2,h.hv,h.ib,.inr (.inr (.inl ⟨k.aT,k.aQ,k.dv,k.bW,k.dM,k.range⟩))⟩
 ·rw[Qs (by rw[k.aQ.nz];decide)]
  exact⟨h.n0,h.n1,h.aK,h.seq,h.aM,hv.2,h.hv,h.ib,.inr (.inr (.inr ⟨k.aT,k.aQ,k.dv,k.bW,k.dM,k.range⟩))⟩
def lE(m:ab):ab:={m with aS:=if cZ m=m.aa.Value then m.aS else 0,aa:=⟨m.aa.ae+1,cZ m⟩}
theorem XP{m:ab}(h:bm m)(h3:m.aH≠3)(hv:cZ m≠fD):1<=(cZ m).size/\(cZ m).size<=200:=by
 have h1:m.aH=1->(m.au=bZ\/c7 m.au)->1<=(cZ m).size/\(cZ m).size<=200:=fun hp hc=>by
  refine S7 h hp hc ?_;refine Classical.byContradiction fun hn=>hv ?_
  simp only[not_or,Classical.not_not]at hn;obtain⟨a1,a2,a3⟩:=hn;unfold cZ;rw[Qs (by rw[a3,bQ];decide),Qs (by rw[hp];decide),Qs (by rw[a2];exact fun e=>e rfl),a1]
  rfl
 rcases h.body with k|k|k|k
 ·exact h1 k.aT (.inl k.dM)
 ·exact h1 k.aT (k.dM.imp_right And.left)
 ·unfold cZ;rcases k.dM with e|⟨hf,_⟩
  ·rw[Qs (by rw[e,bQ];decide),Qr (by rw[k.aT];decide)]
   exact k.aQ.2.2
  ·rw[Qr hf.nz];exact hf.2.2
 ·exact absurd k.aT h3
theorem adC{m:ab}(k:P2 m):cZ m=m.aa.Value:=by
 unfold cZ;rcases k.dM with e|⟨hf,he⟩
 ·rw[Qs (by rw[e,bQ];decide),Qr (by rw[k.aT];decide)]
 ·rw[Qr hf.nz,he]
theorem Eg{m:ab}(h:bm m)(h3:m.aH≠3)(hv:cZ m≠fD)(hc:m.aa.ae<1000):bm (lE m):=by
 have hsz:=XP h h3 hv;refine⟨h.n0,h.n1,h.aK,h.seq,h.aM,h.sx,h.hv,h.ib,?_⟩;have hfin:0<=m.aa.ae->c7 (lE m).aa:=fun h0=>⟨by show 1<=m.aa.ae+1;omega,by show m.aa.ae+1<=1000;omega,hsz⟩
 rcases h.body with k|k|k|k
 ·have h0:m.aa.ae=0:=by rw[k.aQ];rfl
  refine .inr (.inl ⟨k.aT,hfin (by omega),.inl k.dv,.inl k.bW,.inl k.dM,?_,k.bV,.inl ?_⟩)
  ·show bx (⟨m.aa.ae+1,cZ m⟩:af) m.au=false;rw[k.dM]
   cases hl:bx (⟨m.aa.ae+1,cZ m⟩:af) bZ with
   |false=>rfl
   |true=>have:=iL hl;exact absurd (show m.aa.ae+1<=0 from this) (by omega)
  ·show(if cZ m=m.aa.Value then m.aS else 0)=0
   rw[k.low,ite_self]
 ·have hb:=k.aQ;have h0:0<=m.aa.ae:=by have:=hb.1;omega
  refine .inr (.inl ⟨k.aT,hfin h0,k.dv,k.bW,k.dM,?_,k.bV,?_⟩)
  ·show bx (⟨m.aa.ae+1,cZ m⟩:af) m.au=false
   cases hl:bx (⟨m.aa.ae+1,cZ m⟩:af) m.au with
   |false=>rfl
   |true=>
    have h1:=iL hl;have h2:=Jj k.up;exact absurd (show m.aa.ae+1<=m.au.ae from h1) (by omega)
  ·show(if cZ m=m.aa.Value then m.aS else 0)=0\/_
   by_cases he:cZ m=m.aa.Value
   ·have hlow:(lE m).aS=m.aS:=by show(if cZ m=m.aa.Value then m.aS else 0)=m.aS;rw[Qr he]
    have hhigh:fc (lE m)=fc m:=by
     show(if(!aI m.au&&bM m.au ⟨m.aa.ae+1,cZ m⟩)=true then m.au.ae else 0)=fc m
     rw[he];rfl
    rw[Qr he,hlow,hhigh];rcases k.low with e|⟨g1,g2,g3⟩
    ·exact .inl e
    ·refine .inr ⟨g1,g2,?_⟩;show my m.an m.ax (cZ m) m.aS=false;rw[he];exact g3
   ·rw[Qs he];exact .inl rfl
 ·have hb:=k.aQ;have h0:0<=m.aa.ae:=by have:=hb.1;omega
  have hv2:=adC k;have hval:(lE m).aa.Value=m.aa.Value:=hv2;have hlow:(lE m).aS=m.aS:=by show(if cZ m=m.aa.Value then m.aS else 0)=m.aS;rw[Qr hv2]
  refine .inr (.inr (.inl ⟨k.aT,hfin h0,?_,k.bW,?_,?_⟩))
  ·rw[hval];exact k.dv
  ·rw[hval];exact k.dM
  ·rw[hlow];exact k.range
 ·exact absurd k.aT h3
end
section
def adB:al:=⟨0,[],[]⟩
def OG:ab:=⟨0,0,0,adB,0,bZ,bZ,bZ,bZ,0,0,fD,[]⟩
theorem acJ{m m1:ab}(hs:fX m)(hb:aI m1.aa=aI m.aa)(hq:m1.aF=m.aF):c6 m1=m1:=by
 refine aaR ⟨fun hz=> ?_,fun hz=> ?_⟩
 ·rw[hq];exact hs.zero (by rw[<-hb];exact hz)
 ·rw[hq];exact hs.pos (by rw[<-hb];exact hz)
theorem mJ{m:ab}{v:ByteArray}:(aI m.aa=false->aI (dP m v).aa=false)/\(dP m v).aF=m.aF:=by
 unfold dP;split
 ·rename_i hz;refine⟨fun e=> ?_,rfl⟩
  rw[hz]at e;cases e
 ·exact⟨fun e=>e,rfl⟩
theorem Yj{m:ab}(h:bm m){v:ByteArray}(hv:1<=v.size/\v.size<=200):aI (dP m v).aa=false:=by
 rcases h.body with k|k|k|k
 ·unfold dP;rw[Qr (by rw[k.aQ];exact bQ),O3 k hv.1]
  exact c7.nz ⟨by show(1:Int)<=1;omega,by show(1:Int)<=1000;omega,hv.1,hv.2⟩
 ·exact mJ.1 k.aQ.nz
 ·exact mJ.1 k.aQ.nz
 ·exact mJ.1 k.aQ.nz
theorem Be{m:ab}(h:bm m):aI (lE m).aa=false:=by
 have:0<=m.aa.ae:=by
  rcases h.body with k|k|k|k
  ·rw[k.aQ];decide
  ·have:=k.aQ.1;omega
  ·have:=k.aQ.1;omega
  ·have:=k.aQ.1;omega
 cases hz:aI (lE m).aa with
 |false=>rfl
 |true=>
  have:=wR.1 hz;have h2:m.aa.ae+1=0:=congrArg af.ae this;omega
section
variable {R : ab -> Prop} (hR1 : ∀ m, bm m -> R m -> R (cp m)) (hR2 : ∀ m, R m -> R (c6 m)) {m : ab} (h : bm m) (hs : fX m)
 include hR1 hR2 h hs
theorem Jb{v:ByteArray}(hv:1<=v.size/\v.size<=200)(hr:R (dP m v)):Yd (mT m v) (IW R m (dP m v)):=by
 have d1:decide (((ByteArray.size v:Nat):Int)<(1:Int))=false:=Qh (by omega)
 have d2:decide ((200:Int)<((ByteArray.size v:Nat):Int))=false:=Qh (by omega)
 have hi:=BC h hv;have hval:o0 {m with aY:=v}=some (cZ {m with aY:=v}):=Hk (m:={m with aY:=v}) ⟨h.ev.n0,h.ev.n1,h.ev.aM,h.ev.len,h.ev.sm,h.ev.valid⟩
 unfold mT;simp only[etas,yX h hs,Qa,Qo,Ql,d1,d2,cU,aP]
 have key:Yd ((lW m (c6 (dP m v))).bind fun r5=>some (r5,(0:Int),())) (IW R m (dP m v)):=
  Yd.bind (KP hR1 hR2 h hi (fun hz=>by rw[mJ.2];exact hs.zero (by cases hc:aI m.aa with|true=>rfl|false=>rw[mJ.1 hc]at hz;cases hz)) mJ.1 hr) fun q hq=>by
   obtain⟨m2,rfl,ha⟩:=hq;exact .some ⟨m2,rfl,ha⟩
 cases hz:aI m.aa with
 |true=>
  have hsq:=hs.zero hz
  have he:c6 (dP m v)=⟨m.aq,m.bl,1,m.ai,m.aH,⟨1,cZ {m with aY:=v}⟩,m.an,m.ax,m.au,m.aS,m.bn,v,m.aw⟩:=by
   unfold c6;rw[Qr (Yj h hv),mJ.2,hsq];unfold dP;rw[Qr hz];rfl
  rw[he]at key;simp only[Qk];rw[show(⟨m.aq,m.bl,m.aF,m.ai,m.aH,m.aa,m.an,m.ax,m.au,m.aS,m.bn,v,m.aw⟩:ab)={m with aY:=v}from rfl,hval]
  exact key
 |false=>
  have he:c6 (dP m v)=⟨m.aq,m.bl,m.aF,m.ai,m.aH,m.aa,m.an,m.ax,m.au,m.aS,m.bn,v,m.aw⟩:=by
   rw[acJ hs (by rw[mJ.1 hz,hz]) mJ.2]
   unfold dP;rw[Qs (by rw[hz];decide)]
  rw[he]at key;exact key
theorem Pv(hr:R (lE m)):Yd (kY m) fun q=>(IW R m (lE m) q/\m.aH≠3/\cZ m≠fD/\m.aa.ae<1000)\/(q=(OG,(62:Int),())/\(m.aH=3\/cZ m=fD))\/(q=(OG,(3:Int),())/\1000<=m.aa.ae):=by
 unfold kY;simp only[etas,yX h hs,Qa,Qo,Ql,Hk h.ev,aP]
 by_cases h3:m.aH=3
 ·rw[Qg h3];exact .some (.inr (.inl ⟨rfl,.inl h3⟩))
 ·rw[Qh h3]
  by_cases hv:cZ m=ByteArray.mk #[]
  ·rw[Qg hv];exact .some (.inr (.inl ⟨rfl,.inr hv⟩))
  ·rw[Qh hv]
   by_cases hc:(1000:Int)<=m.aa.ae
   ·rw[Qg hc];exact .some (.inr (.inr ⟨rfl,hc⟩))
   ·rw[Qh hc];have hi:=Eg h h3 hv (by omega)
    have hb0:0<=m.aa.ae:=by
     rcases h.body with k|k|k|k
     ·rw[k.aQ];decide
     ·have:=k.aQ.1;omega
     ·have:=k.aQ.1;omega
     ·have:=k.aQ.1;omega
    have hadd:ay .i64 m.aa.ae 1=m.aa.ae+1:=bE (by omega) (by omega)
    have key:Yd ((lW m (c6 (lE m))).bind fun r5=>some (r5,(0:Int),())) (IW R m (lE m)):=
     Yd.bind (KP hR1 hR2 h hi (fun hz=>by rw[Be h]at hz;cases hz) (fun _=>Be h) hr) fun q hq=>by
      obtain⟨m2,rfl,ha⟩:=hq;exact .some ⟨m2,rfl,ha⟩
    have he:c6 (lE m)=⟨m.aq,m.bl,bB m.aF 1,m.ai,m.aH,⟨m.aa.ae+1,cZ m⟩,m.an,m.ax,m.au,(if cZ m=m.aa.Value then m.aS else 0),m.bn,m.aY,m.aw⟩:=by
     unfold c6;rw[Qr (Be h)];rfl
    rw[he]at key;simp only[hadd,Ql]
    by_cases hev:cZ m=m.aa.Value
    ·simp only[Qg hev,Qo,Ql];rw[Qr hev]at key;exact key.mono fun q hq=> .inl ⟨hq,h3,hv,by omega⟩
    ·simp only[Qh hev,Qp,Qk];rw[Qs hev]at key;exact key.mono fun q hq=> .inl ⟨hq,h3,hv,by omega⟩
end
def BI(aC aK:Int)(t:al):ab:=⟨aC,aK,0,t,1,bZ,bZ,bZ,bZ,0,0,fD,[]⟩
theorem ach{aC aK:Int}{t:al}(h0:0<=aC)(h1:aC<10)(h2:1<=aK)(h3:aK<=1000000)(ht:fe t):Dq aC aK t=some (BI aC aK t,(0:Int),()):=by
 unfold Dq;simp only[etas,Qh (show¬aC<0 by omega),Qh (show¬(9:Int)<aC by omega),Qh (show¬aK<1 by omega),Qh (show¬(1000000:Int)<aK by omega),Ql,Qa,eV ht,decide_true,Qo]
 rfl
theorem acv{aC aK:Int}{t:al}(h0:0<=aC)(h1:aC<10)(h2:1<=aK)(h3:aK<=1000000)(ht:fe t):vZ aC aK t=some (BI aC aK t,(0:Int),()):=by
 unfold vZ;simp only[etas,Qh (show¬aC<0 by omega),Qh (show¬(10:Int)<=aC by omega),Qh (show¬aK<1 by omega),Qh (show¬(1000000:Int)<aK by omega),Ql,Qa,cP ht,decide_true,Qo,py ht.sm]
 rfl
theorem Mz{aC aK:Int}{t:al}(h0:0<=aC)(h1:aC<10)(h2:1<=aK)(h3:aK<=1000000)(ht:fe t):bm (BI aC aK t)/\fX (BI aC aK t):=
 ⟨⟨h0,h1,⟨h2,h3⟩,⟨by show(0:Int)<=0;omega,by show(0:Int)<=1000000;omega⟩,ht,(by show fD.size<=200;decide),(fun e he=>absurd he QR),List.Pairwise.nil,.inl ⟨rfl,rfl,rfl,rfl,rfl,rfl,rfl⟩⟩,⟨fun _=>rfl,fun hz=>absurd (show aI bZ=false from hz) (by rw[bQ];decide)⟩⟩
section
variable {R : ab -> Prop} (hR1 : ∀ m, bm m -> R m -> R (cp m)) (hR2 : ∀ m, R m -> R (c6 m)) {m : ab} (h : bm m) (hs : fX m)
 include hR1 hR2 h hs
theorem RQ{m1:ab}(h1:bm m1)(hz1:aI m1.aa=true->m1.aF=0)(hnz:aI m.aa=false->aI m1.aa=false)(hn:m1.aq=m.aq)(hsl:m1.bl=m.bl)(hr:R m1):
  Yd (Option.bind (gE ⟨m1⟩) fun p4=>
   aZ (fun(v5:aE×Unit)=>some (v5.1.ak,(0:Int),())) fun j6=>
   aZ (fun(v7:Bool×Unit)=>
   bif v7.1 then
   j6 ((aE.mk (ab.mk p4.2.ak.aq p4.2.ak.bl (cm (ay .i64 p4.2.ak.aF (1:Int)) (1000000:Int)) p4.2.ak.ai p4.2.ak.aH p4.2.ak.aa p4.2.ak.an p4.2.ak.ax p4.2.ak.au p4.2.ak.aS p4.2.ak.bn p4.2.ak.aY p4.2.ak.aw)),())
   else
   j6 (p4.2,())) fun j8=>
   Option.bind (bu m.aa) fun r9=>
   bif (!r9)then
   Option.bind (dH m) fun r10=>
   Option.bind (dH p4.2.ak) fun r11=>
   Option.bind (oe r10 r11) fun r12=>
   j8 ((!r12),())
   else
   j8 (false,())) (IW R m m1):=by
 refine Yd.bind (XA hR1 hR2 h1 hz1 hr) fun q hq=> ?_
 obtain⟨m2,rfl,ha⟩:=hq;have hq:=ha.inv.seq;have hadd:ay .i64 m2.aF 1=m2.aF+1:=bE (by omega) (by omega)
 obtain⟨r,g1,g2⟩:=ab9 (bF m) (bF m2) (by rw[nM];exact h.aM.sm) (by rw[w4,w4,ha.env.1,hn]) (by rw[CO,CO,ha.env.2.1,hsl])
 simp only[aP,cy,Qa,zL,DH h,DH ha.inv,hadd,g1];have hb:=abK h1 ha;refine Yd.of_eq (x:=(pA m m2,(0:Int),())) ?_ ⟨m2,rfl,hb⟩;unfold pA
 cases hz:aI m.aa with
 |true=>rw[Qs (by rintro⟨e,_⟩;cases e)];rfl
 |false=>
  cases r with
  |true=>rw[Qs (fun e=>e.2 (g2.1 rfl))];rfl
  |false=>rw[Qr ⟨rfl,fun e=>by have:=g2.2 e;cases this⟩];rfl
theorem PH{v:ByteArray}(hv:1<=v.size/\v.size<=200)(hr:R (dP m v)):Yd (lp m v) (IW R m (dP m v)):=by
 have d1:decide (((ByteArray.size v:Nat):Int)<(1:Int))=false:=Qh (by omega)
 have d2:decide ((200:Int)<((ByteArray.size v:Nat):Int))=false:=Qh (by omega)
 have hi:=BC h hv;have hval:eW ⟨{m with aY:=v}⟩=some (cZ {m with aY:=v}):=Ez (m:={m with aY:=v}) ⟨h.ev.n0,h.ev.n1,h.ev.aM,h.ev.len,h.ev.sm,h.ev.valid⟩
 have hdo:oM ⟨m⟩ v=some ((0:Int),⟨dP m v⟩):=by
  unfold oM dP;simp only[d1,d2,Ql,Qa,cy,aP]
  cases hz:aI m.aa with
  |true=>
   simp only[Qk,Qt,etas];rw[show(⟨m.aq,m.bl,m.aF,m.ai,m.aH,m.aa,m.an,m.ax,m.au,m.aS,m.bn,v,m.aw⟩:ab)={m with aY:=v}from rfl,hval]
   rfl
  |false=>simp only[Ql,Qq,Qu,etas]
 unfold lp qX;simp only[etas,aE.eta,Bp h hs,Fe h,hdo,Qa,Qo,Ql,decide_true];refine Yd.bind (RQ hR1 hR2 h hs hi (fun hz=>by rw[mJ.2];exact hs.zero (by cases hc:aI m.aa with|true=>rfl|false=>rw[mJ.1 hc]at hz;cases hz)) mJ.1 (by unfold dP;split<;>rfl) (by unfold dP;split<;>rfl) hr) fun q hq=> ?_
 obtain⟨m2,rfl,ha⟩:=hq;exact .some ⟨m2,rfl,ha⟩
theorem Yp(hr:R (lE m)):Yd (ju m) fun q=>(IW R m (lE m) q/\m.aH≠3/\cZ m≠fD/\m.aa.ae<1000)\/(q=(OG,(62:Int),())/\(m.aH=3\/cZ m=fD))\/(q=(OG,(3:Int),())/\1000<=m.aa.ae):=by
 unfold ju mY oL;simp only[ab.eta,etas,aj.eta,aE.eta,Bp h hs,Fe h,Qa,Qo,Ql,Ez h.ev]
 by_cases h3:m.aH=3
 ·rw[Qg h3];exact .some (.inr (.inl ⟨rfl,.inl h3⟩))
 ·rw[Qh h3]
  by_cases hv:cZ m=ByteArray.mk #[]
  ·rw[Qg hv];exact .some (.inr (.inl ⟨rfl,.inr hv⟩))
  ·rw[Qh hv]
   by_cases hc:(1000:Int)<=m.aa.ae
   ·rw[Qg hc];exact .some (.inr (.inr ⟨rfl,hc⟩))
   ·rw[Qh hc];have hi:=Eg h h3 hv (by omega)
    have hb0:0<=m.aa.ae:=by
     rcases h.body with k|k|k|k
     ·rw[k.aQ];decide
     ·have:=k.aQ.1;omega
     ·have:=k.aQ.1;omega
     ·have:=k.aQ.1;omega
    have hadd:ay .i64 m.aa.ae 1=m.aa.ae+1:=bE (by omega) (by omega)
    have ht:gD ⟨m⟩ ⟨m.aa.ae+1,cZ m⟩=some ((),⟨lE m⟩):=by
     rw[O9];unfold lE
     by_cases hev:cZ m=m.aa.Value
     ·have:bM m.aa ⟨m.aa.ae+1,cZ m⟩=true:=iF.2 hev.symm;rw[this,Qr hev];rfl
     ·have:bM m.aa ⟨m.aa.ae+1,cZ m⟩=false:=ik.2 (Ne.symm hev);rw[this,Qs hev];rfl
    simp only[hadd,Ql,Qk,Qa,ht,decide_true,Qo,ab.eta,aE.eta];refine Yd.bind (RQ hR1 hR2 h hs hi (fun hz=>by rw[Be h]at hz;cases hz) (fun _=>Be h) rfl rfl hr) fun q hq=> ?_
    obtain⟨m2,rfl,ha⟩:=hq;exact .some (.inl ⟨⟨m2,rfl,ha⟩,h3,hv,by omega⟩)
end
theorem PI{m:ab}(h:bm m)(hs:fX m):∃e,nD m=some (e,!aI m.aa,())/\(aI m.aa=false->e=bF m):=by
 unfold nD;simp only[etas,cy,Bp h hs,Fe h,zL,DH h,Qa]
 cases aI m.aa with
 |true=>exact⟨_,rfl,fun e=>by cases e⟩
 |false=>exact⟨_,rfl,fun _=>rfl⟩
theorem ED{m:ab}(h:bm m)(hs:fX m):nF m=some (bif decide (m.aH=3)then m.aa.Value else fD,decide (m.aH=3),()):=by
 unfold nF;simp only[etas,Bp h hs,Qa];cases decide (m.aH=3)<;>rfl
end
section
def gT(n:Nat)(k:Int)(i s:Nat):Bool:=s.testBit i&&decide (k<=(((sJ n).countP (lD s):Nat):Int))
def bT(n:Nat)(k:Int)(i s:Nat):Bool:= !decide (k<=(((sJ n).countP (lD (yH s i)):Nat):Int))
structure vS (n:Nat) (k:Int) (m:ab):Prop where
 n10:n<=10
 k1:1<=k
 kn:k<=n
 aM:m.ai=flat n k
 heard:∀e∈m.aw,e.ai=flat n k
theorem vS.all{n:Nat}{k:Int}{m:ab}(hf:vS n k m){e:aj}(he:e∈bc m):e.ai=flat n k:=by
 rcases zg he with he|⟨_,rfl⟩
 ·exact hf.heard e he
 ·rw[EE];exact hf.aM
section
variable {n : Nat} {k : Int} {m : ab} (h : bm m) (hf : vS n k m)
 include h
theorem yB:bU (bc m)=bc m:=Kp h.lx
 include hf
theorem Pf{j:Nat}(hj:j<10)(hs:j=m.aq.toNat\/∃e∈bc m,e.aq.toNat=j):nu (eN m.aq.toNat m.ai (bc m)) j=true/\lP (eN m.aq.toNat m.ai (bc m)) j=flat n k:=
 VQ h.ev.aC.2 (fun _=>flat n k) hf.aM.symm (fun e he=>by rw[yB h]at he;exact hf.all he) hj (by rw[yB h];exact hs)
theorem U2{s:Nat}(hs:∀j,s.testBit j=true->∃e∈bc m,e.aq.toNat=j):(gq (eN m.aq.toNat m.ai (bc m)) s).testBit m.aq.toNat=gT n k m.aq.toNat s:=by
 have hs10:∀j,s.testBit j=true->j<10:=fun j hj=>by
  obtain⟨e,he,rfl⟩:=hs j hj;have:=gy (h.lx e he);omega
 have hg:=xM (jX (aC:=m.aq.toNat) h.aM.sm h.ev.lK.1) (DI hs10);have hi:=Pf h hf h.ev.aC.2 (.inl rfl);unfold gT;rw[QW,Qm,Qi];constructor
 ·intro hb;have h1:=hg.inside _ hb;refine⟨h1.1,?_⟩;have h3:=h1.2.2;rw[hi.2,I8]at h3;have h3:=of_decide_eq_true h3;have h2:=Vj (s':=s) (fun j hj=>(hg.inside j hj).1) (sJ n)
  omega
 ·rintro⟨hb,hc⟩;refine hg.max s (fun j hj=> ?_) _ hb
  obtain⟨g1,g2⟩:=Pf h hf (hs10 j hj) (.inr (hs j hj));exact⟨hj,g1,by rw[g2,I8];exact Qg hc⟩
theorem Y3(s:Nat):ur (eN m.aq.toNat m.ai (bc m)) m.aq.toNat s=bT n k m.aq.toNat s:=by
 obtain⟨g1,g2⟩:=Pf h hf h.ev.aC.2 (.inl rfl);unfold ur bT;rw[g1,g2,I8,Bool.true_and]
end
theorem Hi{p:aj->Bool}{l:List aj}{j:Nat}(hb:(c8 p l).testBit j=true):∃e∈l,e.aq.toNat=j:=by
 rw[wb,List.any_eq_true]at hb;obtain⟨e,he,hp⟩:=hb;rw[Qm,Qi]at hp;exact⟨e,he,hp.2⟩
theorem O0{p q:aj->Bool}{l:List aj}{j:Nat}(hb:(c8 p l|||c8 q l).testBit j=true):∃e∈l,e.aq.toNat=j:=by
 rw[Nat.testBit_or,Qn]at hb;rcases hb with hb|hb
 ·exact Hi hb
 ·exact Hi hb
def R4(n:Nat)(k:Int)(i:Nat)(l:List aj)(b:af):Bool:=bT n k i (c8 (df · b) l)||gT n k i (c8 (fun e=>o7 e b||df e b) l|||c8 (df · b) l)
def LG(n:Nat)(k:Int)(i:Nat)(l:List aj)(b:af):Bool:=gT n k i (c8 (df · b) l)
def sY(n:Nat)(k:Int)(i:Nat)(l:List aj)(v:ByteArray)(lo hi:Int):Bool:=bT n k i (c8 (fE · v lo hi) l)||gT n k i (c8 (fun e=>rU e v lo hi||fE e v lo hi) l|||c8 (fE · v lo hi) l)
def J6(n:Nat)(k:Int)(i:Nat)(l:List aj)(v:ByteArray)(lo hi:Int):Bool:=gT n k i (c8 (fE · v lo hi) l)
def Zt(e:aj):List af:=if e.bL=1 then[e.aa,e.an,e.ax]else if e.bL=2 then[e.an,at_ e 1000000]else[at_ e 1000000]
def tH(l:List aj):List af:=((l.flatMap Zt).filter fun b=> !aI b).foldl (fun l x=>dD (fun x y=>bx y x) x l) []
def Mh(l:List aj):List ByteArray:=(l.map (·.aa.Value)).foldl (fun l x=>dD bH x l) []
def OV(v:ByteArray)(e:aj):List Int:=if e.aa.Value=v/\e.aS≠0 then[e.aS,e.bn]else[]
def sq(l:List aj)(v:ByteArray):List Int:=(l.flatMap (OV v)).foldl (fun l x=>dD (fun a b=>decide (a<b)) x l) []
section
variable {l : List aj} (hv : ∀ e ∈ l, aX e = true) (hsm : ∀ e ∈ l, c5 e.ai) (hlen : l.length <= 1000)
 include hv hsm hlen
theorem Og:eI l=tH l:=by
 obtain⟨_,h2,_,h4⟩:=mg hsm hlen;obtain⟨h5,h6⟩:=zW zm.flip ((l.flatMap Zt).filter fun b=> !aI b) [] .nil
 refine zm.flip.unique h2 h5 fun x=> ?_
 unfold tH;rw[h4,h6];simp only[List.mem_filter,QQ,QR,or_false,Bool.not_eq_true'];constructor
 ·rintro⟨e,he,hx,hz⟩;refine⟨⟨e,he,?_⟩,hz⟩;unfold said at hx;rw[hv e he]at hx;exact hx
 ·rintro⟨⟨e,he,hx⟩,hz⟩;refine⟨e,he,?_,hz⟩;unfold said;rw[hv e he];exact hx
theorem XN:fU l=Mh l:=by
 obtain⟨_,h2,_,h4⟩:=rj hsm hlen;obtain⟨h5,h6⟩:=zW gX (l.map (·.aa.Value)) [] .nil;refine gX.unique h2 h5 fun x=> ?_
 unfold Mh;rw[h4,h6];simp only[QP,QR,or_false];constructor
 ·rintro⟨e,he,_,rfl⟩;exact⟨e,he,rfl⟩
 ·rintro⟨e,he,rfl⟩;exact⟨e,he,hv e he,rfl⟩
theorem JV:br l=sq l:=by
 funext v
 obtain⟨_,h2,_,h4⟩:=iG hsm hlen v;obtain⟨h5,h6⟩:=zW Bf (l.flatMap (OV v)) [] .nil;refine Bf.unique (h2.imp fun hab=>Qg hab) h5 fun x=> ?_
 unfold sq;rw[h4,h6,yM];simp only[QQ,QR,or_false];constructor
 ·rintro⟨e,he,hb,hx⟩;refine⟨e,he,?_⟩;simp only[iy,Qm,Qi,Bool.not_eq_true',Qj]at hb;unfold OV;rw[Qr ⟨hb.1.2,hb.2⟩];simpa using hx
 ·rintro⟨e,he,hx⟩;unfold OV at hx;split at hx
  ·rename_i hc;refine⟨e,he,?_,by simpa using hx⟩
   simp only[iy,Qm,Qi,Bool.not_eq_true',Qj];exact⟨⟨hv e he,hc.1⟩,hc.2⟩
  ·cases hx
end
section
variable {n : Nat} {k : Int} {m : ab} (h : bm m) (hf : vS n k m)
 include h hf
theorem aeq:kO m.aq.toNat m.ai (bc m)=R4 n k m.aq.toNat (bc m):=by
 funext b
 unfold kO jT R4;rw[yB h,Y3 h hf,U2 h hf fun j hj=>O0 hj]
theorem adf:jI m.aq.toNat m.ai (bc m)=LG n k m.aq.toNat (bc m):=by
 funext b
 unfold jI LG;rw[yB h,U2 h hf fun j hj=>Hi hj]
theorem Te:gr m=sY n k m.aq.toNat (bc m):=by
 funext v lo hi
 unfold gr lv jT sY;rw[yB h,Y3 h hf,U2 h hf fun j hj=>O0 hj]
theorem ab2:Ei m=J6 n k m.aq.toNat (bc m):=by
 funext v lo hi
 unfold Ei rF J6;rw[yB h,U2 h hf fun j hj=>Hi hj]
end
def Xv(x:ByteArray->Int->Int->Bool)(p q:af)(v:ByteArray)(s:Bool×af)(n:Int):Bool×af:=
 if bx s.2 ⟨n,v⟩&& !my p q v n&&x v n n then(true,⟨n,v⟩)else s
def OY(x:ByteArray->Int->Int->Bool)(l:List aj)(p q:af):Bool×af:=
 (Mh l).foldl (fun s v=>(sq l v).foldl (Xv x p q v) s) (false,⟨0,fD⟩)
def Ly(x:ByteArray->Int->Int->Bool)(l:List aj)(p q:af)(s:Bool×af):ByteArray×Int×Int×Bool×Unit:=
 if s.1 then(s.2.Value,cz (fun n=> !my p q s.2.Value n&&x s.2.Value n s.2.ae) (sq l s.2.Value).reverse s.2.ae,s.2.ae,true,())else(fD,0,0,false,())
def YH(b:List Int)(ready:Int->Int->Bool)(low bV:Int):Int×Int:=
 match b.reverse.find? (fun n=>decide (bV<n)&&ready n n)with
 |none=>(cz (fun x=>ready x bV) b.reverse low,bV)
 |some n=>
  let bottom:=cz (fun x=>ready x n) b.reverse n
  (cz (fun x=>ready x n) b.reverse (if bV<bottom - 1\/bottom<low then bottom else low),n)
def Wk(nx:af)(m:ab):ab:=
 if m.aH=3\/aI m.aa=true then m else
  {m with an:=(cW m.an m.ax (dB nx)).1,ax:=(cW m.an m.ax (dB nx)).2,aS:=qy m (cW m.an m.ax (dB nx)).1 (cW m.an m.ax (dB nx)).2}
def Wj(hg:af)(m:ab):ab:=if m.aH≠1\/aI m.aa=true\/aI hg=true then m else oI (zX m hg) hg
def Wm(fs:ByteArray×Int×Int×Bool×Unit)(ex:Int×Int)(m:ab):ab:=
 if m.aH=1 then(if fs.2.2.2.1=true then G0 m fs.1 fs.2.1 fs.2.2.1 else m)
 else if m.aH=2 then yw m ex.1 ex.2 else m
def Wl(fn:Int×Int×Bool×Unit)(m:ab):ab:=if m.aH=2/\fn.2.2.1=true then HM m fn.1 fn.2.1 else m
def Y0(ah:Int->Bool)(m:ab):Int:=m.aw.foldl (fun zd e=>if m.aa.ae<cd e/\cd e<zd/\ah (cd e)=false then cd e else zd) 1000000
def ZD(m:ab):ByteArray:=if m.aH=1 then cZ m else m.aa.Value
def PF(ah:Int->Bool)(m:ab):ab:=
 if m.aH=3\/ah m.aa.ae=false then m
 else{m with aS:=if ZD m=m.aa.Value then m.aS else 0,aa:=⟨bB m.aa.ae (cm (Y0 ah m) 1000),ZD m⟩}
def LY(n:Nat)(k:Int)(m:ab)(c:Int):Bool:=bT n k m.aq.toNat (B9 m c)
def Hy(m p r:ab):ab:=bif zn m p then r else p
def stepT(n:Nat)(k:Int)(m:ab):ab:=
 Hy m (Wk (((tH (bc m)).find? (vJ (R4 n k m.aq.toNat (bc m)) m.an m.ax (Ct m))).getD yp) m)<|
 Hy m (Wj (((tH (bc m)).find? (vK (LG n k m.aq.toNat (bc m)) m.au)).getD yp) m)<|
 Hy m (Wm (Ly (sY n k m.aq.toNat (bc m)) (bc m) m.an m.ax (OY (sY n k m.aq.toNat (bc m)) (bc m) m.an m.ax)) (YH (sq (bc m) m.aa.Value) (sY n k m.aq.toNat (bc m) m.aa.Value) m.aS m.bn) m)<|
 Hy m (Wl (vq (sq (bc m) m.aa.Value) (J6 n k m.aq.toNat (bc m) m.aa.Value)) m)<|
 PF (LY n k m) m
open Classical in
theorem Hw{m m' r:ab}(he:gW m m'):Hy m m' r=if m'=m then r else m':=by
 unfold Hy
 by_cases h:m'=m
 ·rw[Qr h,h,tX];rfl
 ·rw[Qs h,yK he h];rfl
section
variable {n : Nat} {k : Int} {m : ab} (h : bm m) (hf : vS n k m)
 include h hf
theorem ad1:ep m=((tH (bc m)).find? (vJ (R4 n k m.aq.toNat (bc m)) m.an m.ax (Ct m))).getD yp:=by
 unfold ep jd;rw[aeq h hf,Og h.lx h.ev.lK.1.aM h.ev.lK.2]
theorem ad5:gd m=((tH (bc m)).find? (vK (LG n k m.aq.toNat (bc m)) m.au)).getD yp:=by
 unfold gd vL;rw[adf h hf,Og h.lx h.ev.lK.1.aM h.ev.lK.2]
theorem aeg:fl m=Ly (sY n k m.aq.toNat (bc m)) (bc m) m.an m.ax (OY (sY n k m.aq.toNat (bc m)) (bc m) m.an m.ax):=by
 unfold fl ou gJ Ly OY;rw[Te h hf,JV h.lx h.ev.lK.1.aM h.ev.lK.2,XN h.lx h.ev.lK.1.aM h.ev.lK.2];rfl
theorem aek:ed m=YH (sq (bc m) m.aa.Value) (sY n k m.aq.toNat (bc m) m.aa.Value) m.aS m.bn:=by
 unfold ed;rw[Te h hf,JV h.lx h.ev.lK.1.aM h.ev.lK.2];rfl
theorem aej:mr m=vq (sq (bc m) m.aa.Value) (J6 n k m.aq.toNat (bc m) m.aa.Value):=by
 unfold mr;rw[ab2 h hf,JV h.lx h.ev.lK.1.aM h.ev.lK.2]
theorem T7:iH m=LY n k m:=by
 funext c
 exact Y3 h hf _
theorem aax:fb m=PF (LY n k m) m:=by
 have e:gO m=Y0 (LY n k m) m:=by
  unfold gO Y0 lU;rw[T7 h hf]
 unfold fb PF;rw[T7 h hf,e];rfl
theorem ab4:cp m=stepT n k m:=by
 have eP:Wk (((tH (bc m)).find? (vJ (R4 n k m.aq.toNat (bc m)) m.an m.ax (Ct m))).getD yp) m=cF m:=by rw[<-ad1 h hf];rfl
 have eS:Wj (((tH (bc m)).find? (vK (LG n k m.aq.toNat (bc m)) m.au)).getD yp) m=fI m:=by rw[<-ad5 h hf];rfl
 have eC:Wm (Ly (sY n k m.aq.toNat (bc m)) (bc m) m.an m.ax (OY (sY n k m.aq.toNat (bc m)) (bc m) m.an m.ax)) (YH (sq (bc m) m.aa.Value) (sY n k m.aq.toNat (bc m) m.aa.Value) m.aS m.bn) m=fo m:=by rw[<-aeg h hf,<-aek h hf];rfl
 have eF:Wl (vq (sq (bc m) m.aa.Value) (J6 n k m.aq.toNat (bc m) m.aa.Value)) m=ig m:=by rw[<-aej h hf];rfl
 unfold cp stepT;rw[eP,eS,eC,eF,<-aax h hf,Hw (s6 m),Hw (ra m),Hw (ri m),Hw (rh m)]
end
 def xI:Nat->ab->ab
 |0,m=>m
 |j+1,m=>xI j (cp m)
theorem Jz:∀(j:Nat) (m:ab),xI (j+1) m=cp (xI j m)
 |0,_=>rfl
 |j+1,m=>Jz j (cp m)
theorem MK{m:ab}(h:bm m):∀j,bm (xI j m)
 |0=>h
 |j+1=>by rw[Jz];exact wW (MK h j)
theorem JA{m:ab}(h:cp m=m):∀j,xI j m=m
 |0=>rfl
 |j+1=>by rw[xI,h];exact JA h j
theorem ML:∀(i j:Nat) (m:ab),xI (i+j) m=xI j (xI i m)
 |0,j,m=>by rw[Nat.zero_add];rfl
 |i+1,j,m=>by rw[show i+1+j=(i+j)+1 by omega,xI,ML i j];rfl
theorem aaZ{m:ab}{i j:Nat}(hi:cp (xI i m)=xI i m)(hj:cp (xI j m)=xI j m):xI i m=xI j m:=by
 rcases Nat.le_total i j with hl|hl
 ·have:=ML i (j - i) m;rw[JA hi]at this;rw[<-this,show i+(j - i)=j by omega]
 ·have:=ML j (i - j) m;rw[JA hj]at this;rw[<-this,show j+(i - j)=i by omega]
theorem F1{m m':ab}(he:gW m m')(s:Int):({m' with aF:=s}:ab)={m with aF:=s}↔m'=m:=by
 constructor
 ·intro h;have e1:m'.aH=m.aH:=(congrArg ab.aH h:_);have e2:m'.aa=m.aa:=(congrArg ab.aa h:_);have e3:m'.an=m.an:=(congrArg ab.an h:_);have e4:m'.ax=m.ax:=(congrArg ab.ax h:_);have e5:m'.au=m.au:=(congrArg ab.au h:_);have e6:m'.aS=m.aS:=(congrArg ab.aS h:_);have e7:m'.bn=m.bn:=(congrArg ab.bn h:_);exact yN he e1 e2 e3 e4 e5 e6 e7
 ·rintro rfl;rfl
open Classical in
theorem Nf{m:ab}(h:bm m){s:Int}(hs:0<=s/\s<=1000000):cp {m with aF:=s}={cp m with aF:=s}:=by
 unfold cp;rw[CD h hs,CC h hs,CF h hs,CE h hs,Gl h hs];simp only[F1 (s6 m),F1 (ra m),F1 (ri m),F1 (rh m)]
 by_cases hP:cF m=m
 ·by_cases hS:fI m=m
  ·by_cases hC:fo m=m
   ·by_cases hF:ig m=m
    ·simp only[Qr hP,Qr hS,Qr hC,Qr hF]
    ·simp only[Qr hP,Qr hS,Qr hC,Qs hF]
   ·simp only[Qr hP,Qr hS,Qs hC]
  ·simp only[Qr hP,Qs hS]
 ·simp only[Qs hP]
def Reach(m x:ab):Prop:=∃j s,(0<=s/\s<=1000000)/\x={xI j m with aF:=s}
theorem aaa{m:ab}(h:bm m):∀x,bm x->Reach m x->Reach m (cp x):=by
 rintro x _ ⟨j,s,hs,rfl⟩;exact⟨j+1,s,hs,by rw[Nf (MK h j) hs,Jz]⟩
theorem Z9{m:ab}:∀x,Reach m x->Reach m (c6 x):=by
 rintro x ⟨j,s,hs,rfl⟩;unfold c6;split
 ·exact⟨j,bB s 1,by unfold bB;split<;>omega,rfl⟩
 ·exact⟨j,s,hs,rfl⟩
theorem aab{m:ab}(h:bm m):Reach m m:=⟨0,m.aF,h.seq,rfl⟩
def runT(n:Nat)(k:Int):Nat->ab->Option ab
 |0,_=>none
 |f+1,m=>if zn m (stepT n k m)=true then some m else runT n k f (stepT n k m)
theorem vS.step{n:Nat}{k:Int}{m m':ab}(hf:vS n k m)(he:gW m m'):vS n k m':=⟨hf.n10,hf.k1,hf.kn,by rw[he.aM];exact hf.aM,by rw[he.heard];exact hf.heard⟩
theorem V1{n:Nat}{k:Int}:∀{f:Nat} {m z:ab},bm m->vS n k m->runT n k f m=some z->∃j,xI j m=z/\cp z=z
 |0,m,z,_,_,e=>by cases e
 |f+1,m,z,h,hf,e=>by
  rw[runT,<-ab4 h hf]at e;split at e
  ·rename_i hs;obtain rfl:=Option.some.inj e;exact⟨0,rfl,Ph (zG m) hs⟩
  ·obtain⟨j,h1,h2⟩:=V1 (wW h) (hf.step (zG m)) e;exact⟨j+1,h1,h2⟩
theorem aep{n:Nat}{k:Int}{f:Nat}{m1 z m m2:ab}(h:bm m1)(hf:vS n k m1)(hz:runT n k f m1=some z)(ha:Dt (Reach m1) m m2):m2={z with aF:=m2.aF}:=by
 obtain⟨j,s,hs,e⟩:=ha.rel;obtain⟨i,h1,h2⟩:=V1 h hf hz;have h3:=Rr ha.fix;rw[e,Nf (MK h j) hs]at h3;have h4:=(F1 (zG (xI j m1)) s).1 h3;rw[<-h1]at h2;have h5:=aaZ h2 h4;rw[e,<-h5,h1]
structure ZV (n:Nat) (k:Int) (m:ab):Prop where
 inv:bm m
 seq:fX m
 flat:vS n k m
 nz:aI m.aa=false
 aK:m.bl=1
theorem ZV.env{n:Nat}{k:Int}{m:ab}(h:ZV n k m):aX (bF m)=true/\(bF m).ai=Go.Proofs.YtjbfdglebjnelaaGreat.flat n k/\(bF m).bl=1:=⟨Bg h.inv h.seq h.nz,by rw[nM];exact h.flat.aM,by rw[CO];exact h.aK⟩
end
section
section
variable {n : Nat} {k : Int}
end
end
section
section
variable {n : Nat} {k : Int} (hn : n <= 10) (hk1 : 1 <= k) (hkn : k <= n) {i : Int} (hi0 : 0 <= i) (hi9 : i < 10) {v : ByteArray} (hv : 1 <= v.size /\ v.size <= 200)
 include hn hk1 hkn hi0 hi9
 include hv
end
end
section
def Ag(m m1:ab):Prop:=
 (∃v,(1<=v.size/\v.size<=200)/\m1=dP m v)\/(∃e,XI m e/\m1=ZJ m e)\/(m.aH≠3/\cZ m≠fD/\m.aa.ae<1000/\m1=lE m)\/(∃t,fe t/\m1=ZR m t)
structure aey (m m1:ab):Prop where
 inv:bm m1
 aC:m1.aq=m.aq
 aK:m1.bl=m.bl
 seq:m1.aF=m.aF
 nz:aI m.aa=false->aI m1.aa=false
theorem Y5{m m1:ab}(h:bm m)(hb:Ag m m1):aey m m1:=by
 rcases hb with⟨v,hv,rfl⟩|⟨e,he,rfl⟩|⟨h3,hv,hc,rfl⟩|⟨t,ht,rfl⟩
 ·exact⟨BC h hv,by unfold dP;split<;>rfl,by unfold dP;split<;>rfl,mJ.2,mJ.1⟩
 ·exact⟨YC h he,rfl,rfl,rfl,fun e=>e⟩
 ·exact⟨Eg h h3 hv hc,rfl,rfl,rfl,fun _=>Be h⟩
 ·exact⟨YM h ht,rfl,rfl,rfl,fun e=>e⟩
structure OkM (m:ab):Prop where
 inv:bm m
 seq:fX m
 fix:He m
 aC:m.aq=0
 aK:m.bl=1
theorem VU{v:ByteArray}(h:Om v):1<=v.size/\v.size<=200:=by
 have:=h.size;omega
end
section
abbrev Lp{σ ρ:Type}(I:σ->Prop)(p:ρ->Prop):σ⊕ρ->Prop
 | .inl s=>I s
 | .inr r=>p r
theorem Yd.A7{σ ρ:Type}{step:σ->Option (σ⊕ρ)}{p:ρ->Prop}(inv:σ->Prop)(μ:σ->Nat)(h:∀s,inv s->Yd (step s) (Lp (fun s'=>inv s'/\μ s'<μ s) p)){s:σ}(hs:inv s):Yd (aA step s) p:=
 Yd.down inv μ (fun s hi=>(h s hi).mono fun y hy=>by cases y<;>exact hy) hs
theorem Yd.list{α σ τ ρ:Type}{p:ρ->Prop}{step:τ->Option (τ⊕ρ)}(l:List α)(hl:l.length<=1000000)(mk:Int->σ->τ)(inv:Nat->σ->Prop)
  (h1:∀(i:Nat) (x:α) (s:σ),inv i s->l.drop i=x::l.drop (i+1)->x∈l->i<l.length->decide ((i:Int)<((l.length:Nat):Int))=true->idx l (i:Int)=some x->ay .i64 (i:Int) 1=((i+1:Nat):Int)->Yd (step (mk (i:Int) s)) (Lp (fun t=>∃s',t=mk ((i+1:Nat):Int) s'/\inv (i+1) s') p))
  (h2:∀s,inv l.length s->decide (((l.length:Nat):Int)<((l.length:Nat):Int))=false->Yd (step (mk ((l.length:Nat):Int) s)) (Lp (fun _=>False) p))
  {s:σ} (h0:inv 0 s):Yd (aA step (mk 0 s)) p:=by
 suffices key:∀(k i:Nat) (s:σ),i+k=l.length->inv i s->Yd (aA step (mk (i:Int) s)) p from key l.length 0 s (by omega) h0
 intro k
 induction k with
 |zero=>
  intro i s hi hs;obtain rfl:i=l.length:=by omega
  refine Yd.loop ((h2 s hs (Qh (Qq64 _))).mono fun y hy=> ?_)
  cases y with
  |inl t=>exact hy.elim
  |inr r=>exact hy
 |succ k ih=>
  intro i s hi hs;have hi':i<l.length:=by omega
  refine Yd.loop ((h1 i l[i] s hs (QM hi') (Q0 hi') hi' (Qg (by omega)) (by rw[bh];exact Qv hi') (bE (by omega) (by omega))).mono fun y hy=> ?_)
  cases y with
  |inl t=>
   obtain⟨s',rfl,hs'⟩:=hy;exact ih (i+1) s' (by omega) hs'
  |inr r=>exact hy
def jU(x:ByteArray):Prop:=1<=x.size/\x.size<=200
instance (x:ByteArray):Decidable (jU x):=by unfold jU;infer_instance
def Xe:∀(x:ByteArray) (l:List ByteArray),Decidable (x∈l)
 |_,[]=>isFalse QR
 |x,y::l=>if h:x=y then isTrue (by rw[h];exact Qx)else match Xe x l with
  |isTrue h2=>isTrue (Qy _ h2)
  |isFalse h2=>isFalse fun e=>(QA.1 e).elim h h2
instance (x:ByteArray) (l:List ByteArray):Decidable (x∈l):=Xe x l
structure VL (l:List ByteArray):Prop where
 pQ:∀x∈l,jU x
 D3:l.Pairwise (fun a b=>bH a b=true)
 len:l.length<=40
theorem VL.nil:VL []:=⟨fun x h=>absurd h QR,List.Pairwise.nil,by simp⟩
theorem VL.tf{l:List ByteArray}(h:VL l):l.length<=1000000:=QK h.len (by omega)
def A9(a b:ByteArray):Int:=if a=b then 0 else if bH a b=true then -1 else 1
theorem yF(a b:ByteArray):jB a b=some (A9 a b):=by
 unfold jB A9
 by_cases h:a=b
 ·rw[Qg h,Qr h];rfl
 ·rw[Qh h,Qs h];simp only[Ql,Int.ofNat_inj,Int.ofNat_lt]
  by_cases h1:a.size=b.size
  ·have e:bH a b=jR a b:=by unfold bH;rw[Qr h1]
   have h2:¬a.size<b.size:=by omega
   rw[e,Qg h1,Qh h2];simp only[Ql,Qk,Qa];cases jR a b<;>rfl
  ·have e:bH a b=decide (a.size<b.size):=by unfold bH;rw[Qs h1]
   rw[e,Qh h1]
   by_cases h2:a.size<b.size
   ·rw[Qg h2];rfl
   ·rw[Qh h2];rfl
theorem CP{a b:ByteArray}:decide (A9 a b<0)=bH a b:=by
 unfold A9
 by_cases h:a=b
 ·subst h;rw[Qr rfl,gX.irrefl];rfl
 ·rw[Qs h];cases bH a b<;>rfl
theorem G4{a b:ByteArray}:decide (0<A9 a b)=bH b a:=by
 unfold A9
 by_cases h:a=b
 ·subst h;rw[Qr rfl,gX.irrefl];rfl
 ·rw[Qs h]
  cases h1:bH a b with
  |true=>rw[gX.asymm h1];rfl
  |false=>
   cases h2:bH b a with
   |true=>rfl
   |false=>exact absurd (gX.total _ _ h1 h2) h
theorem Vl{a b:ByteArray}:decide (0<=A9 a b)= !bH a b:=by
 rw[<-CP (a:=a) (b:=b)]
 by_cases h:A9 a b<0
 ·rw[Qg h,Qh (by omega)];rfl
 ·rw[Qh h,Qg (by omega)];rfl
theorem Ks(x:ByteArray):vV x=some (decide (jU x)):=by
 unfold vV;have h1:decide ((1:Int)<=((x.size:Nat):Int))=decide (1<=x.size):=by rw[decide_eq_decide];omega
 have h2:decide (((x.size:Nat):Int)<=(200:Int))=decide (x.size<=200):=by rw[decide_eq_decide];omega
 rw[h1,h2]
 have e:decide (jU x)=(decide (1<=x.size)&&decide (x.size<=200)):=by
  unfold jU;exact Bool.decide_and _ _
 rw[e];cases decide (1<=x.size)<;>rfl
theorem Ge(l:List ByteArray)(hl:l.length<=1000000)(x:ByteArray):nX l x=some (decide (x∈l)):=by
 unfold nX
 have h:Yd (aA (fun(v1:Int×Unit)=>
   bif (decide (v1.1<((List.length l:Nat):Int)))then
   Option.bind (idx l v1.1) fun x2=>
   bif (decide (x=x2))then
   Option.map Sum.inr (some true)
   else
   some (Sum.inl ((ay .i64 v1.1 (1:Int)),()))
   else
   Option.map Sum.inr (some false)) ((0:Int),())) (fun b=>b=decide (x∈l)):=by
  refine Yd.list l hl (fun i (_:Unit)=>(i,())) (fun i _=>x∉l.take i) ?_ ?_ (s:=()) (by simp)
  ·intro i y s hs hd hy hi hdec hx hadd;simp only;rw[hdec,Qk,hx,Qa,hadd]
   by_cases hxy:x=y
   ·rw[Qg hxy,Qk];exact .some (by subst hxy;exact(Qg hy).symm)
   ·rw[Qh hxy,Ql];refine .some ⟨(),rfl,?_⟩
    have hi2:l[i]?=some y:=by
     rw[bh]at hx;exact hx
    rw[List.take_add_one,hi2];simp only[Option.toList_some,Qz,Q5];exact fun h=>h.elim hs hxy
  ·intro s hs hdec;simp only;rw[hdec,Ql];rw[Qq62]at hs;exact .some (Qh hs).symm
 obtain⟨b,h1,rfl⟩:=h;exact h1
theorem Ra{α:Type}[DecidableEq α]{lt:α->α->Bool}(x:α):∀(l:List α),x∉l->(dD lt x l).length=l.length+1
 |[],_=>rfl
 |y::l,h=>by
  have h1:y≠x:=fun e=>h (by rw[e];exact Qx)
  rw[dD]
  by_cases h2:lt y x=true
  ·rw[Qr h2,QE,Ra x l (fun e=>h (Qy _ e)),QE]
  ·rw[Qs h2,Qs h1];rfl
def lQ(l:List ByteArray)(x:ByteArray):List ByteArray:=if x∈l\/40<=l.length then l else dD bH x l
theorem Gb{l:List ByteArray}(h:VL l)(x:ByteArray):nW l x=some (lQ l x):=by
 have hl:=h.len;unfold nW lQ;rw[Ge l h.tf,Qa]
 by_cases hx:x∈l
 ·rw[Qg hx,Qr (.inl hx)];rfl
 rw[Qh hx];simp only[Ql,Qa]
 by_cases h40:40<=l.length
 ·rw[Qg (by omega:(40:Int)<=((l.length:Nat):Int)),Qr (.inr h40)];rfl
 rw[Qh (by omega:¬(40:Int)<=((l.length:Nat):Int)),Qs (fun e=>e.elim hx h40)]
 simp only[Ql,aP];have hk:∀n,n<=100->bp 16 n=true:=fun n hn=>bz ⟨by omega,by omega⟩
 have:=Yd.list (p:=fun r=>r=dD bH x l) (step:=fun(v3:Bool×Int×(List ByteArray)×Unit)=>
   bif (decide (v3.2.1<((List.length l:Nat):Int)))then
   Option.bind (idx l v3.2.1) fun x4=>
   Option.bind (bif (!v3.1)then
   Option.bind (jB x x4) fun r7=>
   some (decide (r7<(0:Int)))
   else some false) fun b8=>
   bif b8 then
   bif bp 16 (List.length v3.2.2.1+List.length [x])then
   bif bp 16 (List.length (v3.2.2.1++[x])+List.length [x4])then
   some (Sum.inl (true,(ay .i64 v3.2.1 (1:Int)),((v3.2.2.1++[x])++[x4]),()))
   else none
   else none
   else
   bif bp 16 (List.length v3.2.2.1+List.length [x4])then
   some (Sum.inl (v3.1,(ay .i64 v3.2.1 (1:Int)),(v3.2.2.1++[x4]),()))
   else none
   else
   Option.map Sum.inr (
   bif (!v3.1)then
   bif bp 16 (List.length v3.2.2.1+List.length [x])then
   some (v3.2.2.1++[x])
   else none
   else
   some v3.2.2.1)) l h.tf (fun i (s:Bool×List ByteArray)=>(s.1,i,s.2,()))
   (fun i s=>s.2.length<=2*i/\(s.1=false->s.2++dD bH x (l.drop i)=dD bH x l)/\(s.1=true->s.2++l.drop i=dD bH x l)) ?_ ?_ (s:=(false,[])) ⟨by simp,fun _=>by simp,fun e=>by cases e⟩
 ·obtain⟨r,h1,rfl⟩:=this;exact h1
 ·rintro i y ⟨d,out⟩ ⟨hs1,hs2,hs3⟩ hd hy hi hdec hx' hadd;simp only at hs1 hs2 hs3;simp only;rw[hdec,Qk,hx',Qa,hadd,yF,Qa,CP];have hne:y≠x:=fun e=>hx (by rw[<-e];exact hy)
  have k1:bp 16 (out.length+[x].length)=true:=hk _ (by simp only[Q6];omega)
  have k2:bp 16 ((out++[x]).length+[y].length)=true:=hk _ (by simp only[QB,Q6];omega)
  have k3:bp 16 (out.length+[y].length)=true:=hk _ (by simp only[Q6];omega)
  rw[k1,k2,k3]
  cases d with
  |true=>
   simp only[Qo,Ql,Qa,Qk];refine .some ⟨(true,out++[y]),rfl,by simp only[QB,Q6];omega,fun e=>(by cases e),fun _=> ?_⟩
   rw[<-hs3 rfl,hd,QL];rfl
  |false=>
   have hs2:=hs2 rfl;rw[hd,dD]at hs2;simp only[Qp,Qk,Qa]
   cases hxy:bH x y with
   |true=>
    simp only[Qk];rw[Qs (by rw[gX.asymm hxy];simp),Qs hne]at hs2
    refine .some ⟨(true,(out++[x])++[y]),rfl,by simp only[QB,Q6];omega,fun e=>(by cases e),fun _=> ?_⟩
    rw[<-hs2,QL,QL];rfl
   |false=>
    simp only[Ql]
    have hyx:bH y x=true:=by
     cases hh:bH y x with
     |true=>rfl
     |false=>exact absurd (gX.total _ _ hh hxy) hne
    rw[Qr hyx]at hs2;refine .some ⟨(false,out++[y]),rfl,by simp only[QB,Q6];omega,fun _=> ?_,fun e=>by cases e⟩
    rw[<-hs2,QL];rfl
 ·rintro⟨d,out⟩ ⟨hs1,hs2,hs3⟩ hdec;simp only at hs1 hs2 hs3;simp only;have k1:bp 16 (out.length+[x].length)=true:=hk _ (by simp only[Q6];omega)
  rw[hdec,Ql,k1]
  cases d with
  |true=>
   have:=hs3 rfl;rw[Qq66,List.append_nil]at this;exact .some this
  |false=>
   have:=hs2 rfl;rw[Qq66]at this;exact .some this
theorem sk{l:List ByteArray}(h:VL l){x:ByteArray}(hx:jU x):VL (lQ l x)/\(∀y∈l,y∈lQ l x)/\(∀y∈lQ l x,y=x\/y∈l)/\(x∉l->l.length<40->(lQ l x).length=l.length+1):=by
 unfold lQ
 by_cases h1:x∈l\/40<=l.length
 ·rw[Qr h1];refine⟨h,fun _ hy=>hy,fun _ hy=> .inr hy,fun h2 h3=> ?_⟩
  rcases h1 with h1|h1
  ·exact absurd h1 h2
  ·omega
 ·rw[Qs h1];have hm:=EM (lt:=bH) x l;have hlen:=tu (lt:=bH) x l;have h2:¬40<=l.length:=fun e=>h1 (.inr e)
  refine⟨⟨fun y hy=> ?_,gX.dD x h.D3,by omega⟩,fun y hy=>(hm y).2 (.inr hy),fun y hy=>(hm y).1 hy,fun h3 _=>Ra x l h3⟩
  rcases(hm y).1 hy with rfl|hy
  ·exact hx
  ·exact h.pQ y hy
theorem Gc{l:List ByteArray}(h:VL l):nj l=some true:=by
 unfold nj;refine Yd.eq_true (Yd.list l h.tf (fun i (_:Unit)=>(i,())) (fun _ _=>True) ?_ ?_ (s:=()) trivial)
 ·intro i y s hs hd hy hi hdec hx hadd;simp only;rw[hdec,Qk,hx,Qa,Ks,Qa,Qg (h.pQ y hy),hadd];simp only[Qo,Ql]
  by_cases h0:i=0
  ·subst h0;rw[Qh (by omega:¬(0:Int)<((0:Nat):Int))]
   exact .some ⟨(),rfl,trivial⟩
  ·rw[Qg (by omega:(0:Int)<(i:Int))]
   simp only[Qk];have hsub:dm .i64 (i:Int) 1=((i - 1:Nat):Int):=by rw[rl (by omega) (by have:=h.len;omega)];omega
   have hi1:i - 1<l.length:=by omega
   rw[hsub,bh,Qv hi1,Qa,yF,Qa,Vl]
   have hyi:y=l[i]:=by
    rw[bh,Qv hi]at hx;exact(Option.some.inj hx).symm
   have hlt:bH l[i - 1] y=true:=by
    rw[hyi];exact List.pairwise_iff_getElem.1 h.D3 (i - 1) i hi1 hi (by omega)
   rw[hlt];exact .some ⟨(),rfl,trivial⟩
 ·intro s hs hdec;simp only;rw[hdec,Ql,Qg (by have:=h.len;omega:((l.length:Nat):Int)<=(40:Int))]
  exact .some rfl
theorem Kv{s t:List ByteArray}(h:s.length<=1000000):∃b,qR s t=some b/\(b=true↔s=t):=by
 unfold qR
 by_cases hl:s.length=t.length
 ·rw[Qg (by omega:((s.length:Nat):Int)=((t.length:Nat):Int)),Qo,Ql]
  refine R3 hl h (fun i hi hi' hd hx hy hw=> ?_) (fun hd=> ?_)
  ·simp only;rw[hd,Qk,hx,hy,Qa,Qa,hw]
   by_cases he:s[i]=t[i]
   ·rw[Qg he];exact⟨true,rfl,by simp[he]⟩
   ·rw[Qh he];exact⟨false,rfl,by simp[he]⟩
  ·simp only;rw[hd,Ql];rfl
 ·rw[Qh (by omega:¬((s.length:Nat):Int)=((t.length:Nat):Int))]
  exact⟨false,rfl,K0 hl⟩
theorem Kt{a b:List ByteArray}{n:Nat}(hn:a.length+b.length<=n)(h:n<=100000):Yd (jW a b) fun r=>r.length<=n/\∀x∈r,x∈a\/x∈b:=by
 unfold jW;simp only[aP];refine Yd.A7 (fun(v:Int×Int×List ByteArray×Unit)=>∃i k:Nat,v.1=i/\v.2.1=k/\i<=a.length/\k<=b.length/\v.2.2.1.length<=i+k/\∀x∈v.2.2.1,x∈a\/x∈b) (fun v=>a.length+b.length - (v.1.toNat+v.2.1.toNat)) ?_ ⟨0,0,rfl,rfl,by omega,by omega,by simp,fun x hx=>absurd hx QR⟩
 rintro⟨i',k',out,u⟩ ⟨i,k,e1,e2,hi,hk,hlen,hmem⟩;simp only at e1 e2 hlen hmem;subst e1 e2;have kk:∀x:ByteArray,bp 16 (out.length+[x].length)=true:=fun x=>bz ⟨by simp only[Q6];omega,by simp only[Q6];omega⟩
 have hi1:ay .i64 (i:Int) 1=((i+1:Nat):Int):=bE (by omega) (by omega)
 have hk1:ay .i64 (k:Int) 1=((k+1:Nat):Int):=bE (by omega) (by omega)
 have ga:i<a.length->∃x∈a,idx a (i:Int)=some x:=fun h=>⟨a[i],Q0 h,by rw[bh];exact Qv h⟩
 have gb:k<b.length->∃x∈b,idx b (k:Int)=some x:=fun h=>⟨b[k],Q0 h,by rw[bh];exact Qv h⟩
 have fin1:∀(x:ByteArray) (j1 j2:Nat),(x∈a\/x∈b)->j1<=a.length->j2<=b.length->i+k<j1+j2->Yd (bif bp 16 (out.length+[x].length)then some (Sum.inl (((j1:Nat):Int),((j2:Nat):Int),(out++[x]),()))else(none:Option ((Int×Int×List ByteArray×Unit)⊕List ByteArray)))
   (Lp (fun s'=>(∃i k:Nat,s'.1=i/\s'.2.1=k/\i<=a.length/\k<=b.length/\s'.2.2.1.length<=i+k/\∀x∈s'.2.2.1,x∈a\/x∈b)/\a.length+b.length - (s'.1.toNat+s'.2.1.toNat)<a.length+b.length - ((i:Int).toNat+(k:Int).toNat)) (fun r=>r.length<=n/\∀x∈r,x∈a\/x∈b)):=by
  intro x j1 j2 hx h1 h2 h3;rw[kk x,Qk];refine .some ⟨⟨j1,j2,rfl,rfl,h1,h2,?_,?_⟩,?_⟩
  ·simp only[QB,Q6];omega
  ·intro y hy;rcases Qz.1 hy with hy|hy
   ·exact hmem y hy
   ·rw[Q5.1 hy];exact hx
  ·simp only[QV];omega
 simp only
 by_cases c1:i<a.length
 ·obtain⟨x,hx,ex⟩:=ga c1;rw[Qg (by omega:(i:Int)<((a.length:Nat):Int))]
  simp only[Qk,Qa]
  by_cases c2:k=b.length
  ·rw[Qg (by omega:(k:Int)=((b.length:Nat):Int)),ex,hi1]
   simp only[Qk,Qa];exact fin1 x (i+1) k (.inl hx) (by omega) hk (by omega)
  ·obtain⟨y,hy,ey⟩:=gb (by omega)
   rw[Qh (by omega:¬(k:Int)=((b.length:Nat):Int)),ex,ey,Qh (by omega:¬(i:Int)=((a.length:Nat):Int))]
   simp only[Ql,Qa,yF,CP,G4,hi1,hk1]
   cases bH x y with
   |true=>exact fin1 x (i+1) k (.inl hx) (by omega) hk (by omega)
   |false=>
    cases bH y x with
    |true=>exact fin1 y i (k+1) (.inr hy) hi (by omega) (by omega)
    |false=>exact fin1 x (i+1) (k+1) (.inl hx) (by omega) (by omega) (by omega)
 ·rw[Qh (by omega:¬(i:Int)<((a.length:Nat):Int))]
  simp only[Ql]
  by_cases c2:k<b.length
  ·obtain⟨y,hy,ey⟩:=gb c2;rw[Qg (by omega:(k:Int)<((b.length:Nat):Int)),Qh (by omega:¬(k:Int)=((b.length:Nat):Int)),ey,Qg (by omega:(i:Int)=((a.length:Nat):Int))]
   simp only[Ql,Qk,Qa,hk1];exact fin1 y i (k+1) (.inr hy) hi (by omega) (by omega)
  ·rw[Qh (by omega:¬(k:Int)<((b.length:Nat):Int))]
   simp only[Ql,Qa];exact .some ⟨by omega,hmem⟩
theorem UB{l:List ByteArray}(h:l.length<=1000000):Yd (ny l) fun r=>r.2.1=true->jU r.1:=by
 unfold ny;simp only[aP];refine Yd.list l h (fun i (s:ByteArray×Bool)=>(s.1,s.2,i,())) (fun _ s=>s.2=true->jU s.1) ?_ ?_ (s:=(_,false)) (fun e=>by cases e)
 ·rintro i y ⟨zd,found⟩ hs hd hy hi hdec hx hadd;simp only at hs;simp only;rw[hdec,Qk,hx,Qa,Ks,Qa,hadd]
  by_cases hv:jU y
  ·rw[Qg hv];simp only[Qk]
   cases found with
   |false=>
    simp only[Qp,Qk,Qa];exact .some ⟨(y,true),rfl,fun _=>hv⟩
   |true=>
    simp only[Qo,Ql,Qa,yF]
    cases decide (0<A9 y zd)with
    |true=>exact .some ⟨(y,true),rfl,fun _=>hv⟩
    |false=>exact .some ⟨(zd,true),rfl,hs⟩
  ·rw[Qh hv];simp only[Ql,Qa];exact .some ⟨(zd,found),rfl,hs⟩
 ·rintro⟨zd,found⟩ hs hdec;simp only;rw[hdec,Ql];exact .some hs
end
section
theorem Zl{rec:(al×Int×Unit)->Option (eA×Bool×Unit)}{t:al}{x:Int}(hm:c5 t)(hr:∀u∈t.aN,Yd (rec (u,x,())) fun _=>True):Yd (kF rec t x) fun _=>True:=by
 unfold kF;simp only[etas];refine Yd.list t.bb hm.nodes (fun i (s:eA)=>(i,s,())) (fun _ _=>True) ?_ ?_ trivial
 ·intro i y s hs hd hy hi hdec hx hadd;simp only;rw[hdec,Qk,hx,Qa,hadd]
  cases decide (y=x)with
  |true=>exact .some trivial
  |false=>exact .some ⟨s,rfl,trivial⟩
 ·intro s hs hdec;simp only;rw[hdec,Ql];refine Yd.map (Yd.list t.aN hm.len (fun i (s:eA)=>(i,s,())) (fun _ _=>True) ?_ ?_ trivial)
  ·intro i y s hs hd hy hi hdec hx hadd;simp only;rw[hdec,Qk,hx,Qa,hadd];refine Yd.bind (hr y hy) fun q _=> ?_
   cases q.2.1 with
   |true=>exact .some trivial
   |false=>exact .some ⟨s,rfl,trivial⟩
  ·intro s hs hdec;simp only;rw[hdec,Ql];exact .some trivial
theorem Zh{x:Int}{n:Nat}:∀{t:al},SizeOf.sizeOf t<n->c5 t->Yd (qL n (t,x,())) fun _=>True:=by
 induction n with
 |zero=>intro t h;omega
 |succ n ih=>
  intro t hz hm;show Yd (kF (qL n) t x) fun _=>True
  exact Zl hm fun u hu=>ih (t:=u) (by have:=pZ hu;omega) (hm.inner u hu)
theorem aac{t:al}(hm:c5 t)(x:Int):Yd (zk t x) fun _=>True:=Zh (by omega) hm
structure Bd (t:al) (v aK round:Int):Prop where
 aM:fe t
 v0:0<=v
 v1:v<10
 s0:0<=aK
 s1:aK<=1000000
 r1:1<=round
 r2:round<=1000
theorem UA(a b c d:Int):∃r,oD a b c d=some r:=⟨_,rfl⟩
section
variable {t : al} {v aK round : Int}
theorem Kx(h:Bd t v aK round):vX t v aK round=some 0:=by
 have e1:=h.v0;have e2:=h.v1;have e3:=h.s0;have e4:=h.s1;have e5:=h.r1;have e6:=h.r2;unfold vX;simp only[etas,eV h.aM,Qa];rw[Qh (by omega:¬v<0),Qh (by omega:¬(10:Int)<=v),Qh (by omega:¬aK<0),Qh (by omega:¬(1000000:Int)<aK),Qh (by omega:¬round<1),Qh (by omega:¬(1000:Int)<round)]
 rfl
theorem aci(h:Bd t v aK round)(k:Int):Yd (nB t v aK round k) fun _=>True:=by
 unfold nB;simp only[etas,Kx h,Qa,aP];have h1:∀b:Bool,Yd (bif b then(some true:Option Bool)else some (decide (k<0))) fun _=>True:=fun b=>by cases b<;>exact .some trivial
 refine Yd.bind (h1 _) fun b1 _=> ?_
 have h2:∀b:Bool,Yd (bif b then(some true:Option Bool)else some (decide ((10:Int)<=k))) fun _=>True:=fun b=>by cases b<;>exact .some trivial
 refine Yd.bind (h2 _) fun b2 _=> ?_
 cases b2 with
 |true=>exact .some trivial
 |false=>
  simp only[Ql];refine Yd.bind (aac h.aM.sm k) fun q _=> ?_
  obtain⟨hsh,eh⟩:=UA 1 aK round k;rw[eh];simp only[Qa]
  cases decide (k=v)with
  |true=>exact .some trivial
  |false=>
   cases q.2.1<;>exact .some trivial
theorem Tl(h:Bd t v aK round):Yd (lX t v aK round) fun q=>0<=q.1/\q.1<10/\q.2.1=0:=by
 unfold lX;simp only[etas,Kx h,Qa,aP];simp only[decide_true,Qo,Ql];refine Yd.A7 (fun(s:Int×Int×Unit)=>0<=s.1/\s.1<10/\0<=s.2.1/\s.2.1<=10) (fun s=>(10 - s.2.1).toNat) ?_ ⟨h.v0,h.v1,Int.le_refl _,by show(0:Int)<=10;omega⟩
 rintro⟨b,k,u⟩ ⟨h1,h2,h3,h4⟩;simp only at h1 h2 h3 h4;simp only
 by_cases hk:k<10
 ·rw[Qg hk];have hadd:ay .i64 k 1=k+1:=bE (by omega) (by omega)
  simp only[Qk];rw[hadd]
  have fin:∀x:Int,0<=x->x<10->Yd (some (Sum.inl (x,k+1,())):Option ((Int×Int×Unit)⊕(Int×Int×Unit))) (Lp (fun s'=>(0<=s'.1/\s'.1<10/\0<=s'.2.1/\s'.2.1<=10)/\(10 - s'.2.1).toNat<(10 - k).toNat) (fun r=>0<=r.1/\r.1<10/\r.2.1=0)):=
   fun x g1 g2=> .some ⟨⟨g1,g2,by show 0<=k+1;omega,by show k+1<=10;omega⟩,by show(10 - (k+1)).toNat<(10 - k).toNat;omega⟩
  refine Yd.bind (aci h k) fun r _=> ?_
  cases r with
  |false=>exact fin b h1 h2
  |true=>
   obtain⟨hsh,eh⟩:=UA 2 aK round k;obtain⟨hsb,eb⟩:=UA 2 aK round b;rw[eh,eb];simp only[Qo,Ql,Qa];refine Yd.bind (p:=fun _=>True) ?_ fun b9 _=> ?_
   ·refine Yd.cond (fun _=> .some trivial) fun _=> ?_
    exact Yd.bind (p:=fun _=>True) (Yd.cond (fun _=> .some trivial) fun _=> .some trivial) fun _ _=> .some trivial
   ·cases b9 with
    |true=>exact fin k h3 hk
    |false=>exact fin b h1 h2
 ·rw[Qh hk];exact .some ⟨h1,h2,rfl⟩
theorem X7(h:Bd t v aK round):Yd (pG t v aK round) fun q=>∃s:Nat,q.1=s/\s<1024:=by
 have e5:=h.r1;have e6:=h.r2;unfold pG;simp only[etas,aP];refine Yd.bind (Tl h) fun q ⟨_,_,hq⟩=> ?_
 rw[hq];simp only[decide_true,Qo,Ql];refine Yd.A7 (fun(s:Int×Int×Unit)=>(∃n:Nat,s.1=n/\n<1024)/\1<=s.2.1/\s.2.1<=round+1) (fun s=>(round+1 - s.2.1).toNat) ?_ ⟨⟨0,rfl,by omega⟩,Int.le_refl _,by show(1:Int)<=round+1;omega⟩
 rintro⟨b,k,u⟩ ⟨⟨n,h1,h2⟩,h3,h4⟩;simp only at h1 h3 h4;subst h1;simp only
 by_cases hk:k<=round
 ·rw[Qg hk];have hadd:ay .i64 k 1=k+1:=bE (by omega) (by omega)
  simp only[Qk];rw[hadd];refine Yd.bind (Tl ⟨h.aM,h.v0,h.v1,h.s0,h.s1,h3,by omega⟩) fun q ⟨g1,g2,_⟩=> ?_
  rw[oa,Qa]
  have fin:∀x:Nat,x<1024->Yd (some (Sum.inl ((x:Int),k+1,())):Option ((Int×Int×Unit)⊕(Int×Int×Unit))) (Lp (fun s'=>((∃n:Nat,s'.1=n/\n<1024)/\1<=s'.2.1/\s'.2.1<=round+1)/\(round+1 - s'.2.1).toNat<(round+1 - k).toNat) (fun r=>∃s:Nat,r.1=s/\s<1024)):=
   fun x g=> .some ⟨⟨⟨x,rfl,g⟩,by show 1<=k+1;omega,by show k+1<=round+1;omega⟩,by show(round+1 - (k+1)).toNat<(round+1 - k).toNat;omega⟩
  cases tw n q.1 with
  |true=>exact fin n h2
  |false=>
   simp only[Qp,Qk];rw[Qs (by omega),mL h2 g1 g2]
   exact fin _ (zp h2 g2)
 ·rw[Qh hk];exact .some ⟨n,rfl,h2⟩
end
end
end Go.Proofs.YtjbfdglebjnelaaGreat
end
