/-
  Texts made small by a program (see NOTES). Conditions: those that each theorem names.
-/
import Derived.Test.YtjbfdglebjnelaaGreatSlotSettlesMf
set_option linter.unusedVariables false
set_option linter.unusedSimpArgs false
set_option linter.unusedSectionVars false
set_option maxHeartbeats 2000000
noncomputable section
namespace Go.Proofs.YtjbfdglebjnelaaGreat
open Go.TQ
section
def wX(m m1:aa):Prop:=
 (∃v,(1<=v.size/\v.size<=200)/\m1=dV m v)\/(∃e,Fx m e/\m1=Gw m e)\/(m.aI≠3/\dI m≠fE/\m.ab.aj<1000/\m1=pz m)\/(∃t,et t/\m1=GD m t)
structure ahh (m m1:aa):Prop where
 inv:bo m1
 aB:m1.al=m.al
 aK:m1.bc=m.bc
 seq:m1.aE=m.aE
 nz:aF m.ab=false->aF m1.ab=false
theorem abP{m m1:aa}(h:bo m)(hb:wX m m1):ahh m m1:=by
 rcases hb with⟨v,hv,rfl⟩|⟨e,he,rfl⟩|⟨h3,hv,hc,rfl⟩|⟨t,ht,rfl⟩
 ·exact⟨CM h hv,by unfold dV;split<;>rfl,by unfold dV;split<;>rfl,nq.2,nq.1⟩
 ·exact⟨Ua h he,rfl,rfl,rfl,fun e=>e⟩
 ·exact⟨SJ h h3 hv hc,rfl,rfl,rfl,fun _=>Jb h⟩
 ·exact⟨Uu h ht,rfl,rfl,rfl,fun e=>e⟩
structure OkM (m:aa):Prop where
 inv:bo m
 seq:fT m
 fix:I5 m
 aB:m.al=0
 aK:m.bc=1
theorem ac8{m:aa}(h:bo m)(hs:fT m){e:ae}(ht:c8 e.ak)(hbad:aW e=false\/e.al=m.al\/e.bc≠m.bc):lz m e=some (Sa,(61:Int),()):=by
 unfold lz;simp only[aa.eta,etas,ae.eta,vI h hs,Qa,Qo,Ql,jN ht]
 cases hv:aW e with
 |false=>rfl
 |true=>
  by_cases hn:e.al=m.al
  ·rw[Qg hn];rfl
  ·have hsl:e.bc≠m.bc:=(hbad.resolve_left (by rw[hv];decide)).resolve_left hn
   rw[Qh hn,Qh hsl];rfl
theorem YF{v:ByteArray}(h:KL v):1<=v.size/\v.size<=200:=by
 have:=h.size;omega
end
section
abbrev Lp{σ ρ:Type}(I:σ->Prop)(p:ρ->Prop):σ⊕ρ->Prop
 | .inl s=>I s
 | .inr r=>p r
theorem Yd.Ci{σ ρ:Type}{step:σ->Option (σ⊕ρ)}{p:ρ->Prop}(inv:σ->Prop)(μ:σ->Nat)(h:∀s,inv s->Yd (step s) (Lp (fun s'=>inv s'/\μ s'<μ s) p)){s:σ}(hs:inv s):Yd (aC step s) p:=
 Yd.down inv μ (fun s hi=>(h s hi).mono fun y hy=>by cases y<;>exact hy) hs
theorem Yd.list{α σ τ ρ:Type}{p:ρ->Prop}{step:τ->Option (τ⊕ρ)}(l:List α)(hl:l.length<=1000000)(mk:Int->σ->τ)(inv:Nat->σ->Prop)
  (h1:∀(i:Nat) (x:α) (s:σ),inv i s->l.drop i=x::l.drop (i+1)->x∈l->i<l.length->decide ((i:Int)<((l.length:Nat):Int))=true->idx l (i:Int)=some x->aA .i64 (i:Int) 1=((i+1:Nat):Int)->Yd (step (mk (i:Int) s)) (Lp (fun t=>∃s',t=mk ((i+1:Nat):Int) s'/\inv (i+1) s') p))
  (h2:∀s,inv l.length s->decide (((l.length:Nat):Int)<((l.length:Nat):Int))=false->Yd (step (mk ((l.length:Nat):Int) s)) (Lp (fun _=>False) p))
  {s:σ} (h0:inv 0 s):Yd (aC step (mk 0 s)) p:=by
 suffices key:∀(k i:Nat) (s:σ),i+k=l.length->inv i s->Yd (aC step (mk (i:Int) s)) p from key l.length 0 s (by omega) h0
 intro k
 induction k with
 |zero=>
  intro i s hi hs;obtain rfl:i=l.length:=by omega
  refine Yd.loop ((h2 s hs (Qh (Qq64 _))).mono fun y hy=> ?_)
  cases y with
  |inl t=>exact hy.elim
  |inr r=>exact hy
 |succ k ih=>
  intro i s hi hs;have hi':i<l.length:=by omega
  refine Yd.loop ((h1 i l[i] s hs (QM hi') (Q0 hi') hi' (Qg (by omega)) (by rw[bg];exact Qv hi') (bE (by omega) (by omega))).mono fun y hy=> ?_)
  cases y with
  |inl t=>
   obtain⟨s',rfl,hs'⟩:=hy;exact ih (i+1) s' (by omega) hs'
  |inr r=>exact hy
def jv(x:ByteArray):Prop:=1<=x.size/\x.size<=200
instance (x:ByteArray):Decidable (jv x):=by unfold jv;infer_instance
def ZQ:∀(x:ByteArray) (l:List ByteArray),Decidable (x∈l)
 |_,[]=>isFalse QR
 |x,y::l=>if h:x=y then isTrue (by rw[h];exact Qx)else match ZQ x l with
  |isTrue h2=>isTrue (Qy _ h2)
  |isFalse h2=>isFalse fun e=>(QA.1 e).elim h h2
instance (x:ByteArray) (l:List ByteArray):Decidable (x∈l):=ZQ x l
structure VL (l:List ByteArray):Prop where
 qL:∀x∈l,jv x
 Fs:l.Pairwise (fun a b=>bJ a b=true)
 len:l.length<=40
theorem VL.nil:VL []:=⟨fun x h=>absurd h QR,List.Pairwise.nil,by simp⟩
theorem VL.uz{l:List ByteArray}(h:VL l):l.length<=1000000:=QK h.len (by omega)
def Ck(a b:ByteArray):Int:=if a=b then 0 else if bJ a b=true then -1 else 1
theorem zW(a b:ByteArray):iS a b=some (Ck a b):=by
 unfold iS Ck
 by_cases h:a=b
 ·rw[Qg h,Qr h];rfl
 ·rw[Qh h,Qs h];simp only[Ql,Int.ofNat_inj,Int.ofNat_lt]
  by_cases h1:a.size=b.size
  ·have e:bJ a b=kl a b:=by unfold bJ;rw[Qr h1]
   have h2:¬a.size<b.size:=by omega
   rw[e,Qg h1,Qh h2];simp only[Ql,Qk,Qa];cases kl a b<;>rfl
  ·have e:bJ a b=decide (a.size<b.size):=by unfold bJ;rw[Qs h1]
   rw[e,Qh h1]
   by_cases h2:a.size<b.size
   ·rw[Qg h2];rfl
   ·rw[Qh h2];rfl
theorem D3{a b:ByteArray}:decide (Ck a b<0)=bJ a b:=by
 unfold Ck
 by_cases h:a=b
 ·subst h;rw[Qr rfl,ic.irrefl];rfl
 ·rw[Qs h];cases bJ a b<;>rfl
theorem IU{a b:ByteArray}:decide (0<Ck a b)=bJ b a:=by
 unfold Ck
 by_cases h:a=b
 ·subst h;rw[Qr rfl,ic.irrefl];rfl
 ·rw[Qs h]
  cases h1:bJ a b with
  |true=>rw[ic.asymm h1];rfl
  |false=>
   cases h2:bJ b a with
   |true=>rfl
   |false=>exact absurd (ic.total _ _ h1 h2) h
theorem X6{a b:ByteArray}:decide (0<=Ck a b)= !bJ a b:=by
 rw[<-D3 (a:=a) (b:=b)]
 by_cases h:Ck a b<0
 ·rw[Qg h,Qh (by omega)];rfl
 ·rw[Qh h,Qg (by omega)];rfl
theorem Mz(x:ByteArray):tn x=some (decide (jv x)):=by
 unfold tn;have h1:decide ((1:Int)<=((x.size:Nat):Int))=decide (1<=x.size):=by rw[decide_eq_decide];omega
 have h2:decide (((x.size:Nat):Int)<=(200:Int))=decide (x.size<=200):=by rw[decide_eq_decide];omega
 rw[h1,h2]
 have e:decide (jv x)=(decide (1<=x.size)&&decide (x.size<=200)):=by
  unfold jv;exact Bool.decide_and _ _
 rw[e];cases decide (1<=x.size)<;>rfl
theorem HX(l:List ByteArray)(hl:l.length<=1000000)(x:ByteArray):mP l x=some (decide (x∈l)):=by
 unfold mP
 have h:Yd (aC (fun(v1:Int×Unit)=>
   bif (decide (v1.1<((List.length l:Nat):Int)))then
   Option.bind (idx l v1.1) fun x2=>
   bif (decide (x=x2))then
   Option.map Sum.inr (some true)
   else
   some (Sum.inl ((aA .i64 v1.1 (1:Int)),()))
   else
   Option.map Sum.inr (some false)) ((0:Int),())) (fun b=>b=decide (x∈l)):=by
  refine Yd.list l hl (fun i (_:Unit)=>(i,())) (fun i _=>x∉l.take i) ?_ ?_ (s:=()) (by simp)
  ·intro i y s hs hd hy hi hdec hx hadd;simp only;rw[hdec,Qk,hx,Qa,hadd]
   by_cases hxy:x=y
   ·rw[Qg hxy,Qk];exact .some (by subst hxy;exact(Qg hy).symm)
   ·rw[Qh hxy,Ql];refine .some ⟨(),rfl,?_⟩
    have hi2:l[i]?=some y:=by
     rw[bg]at hx;exact hx
    rw[List.take_add_one,hi2];simp only[Option.toList_some,Qz,Q5];exact fun h=>h.elim hs hxy
  ·intro s hs hdec;simp only;rw[hdec,Ql];rw[Qq62]at hs;exact .some (Qh hs).symm
 obtain⟨b,h1,rfl⟩:=h;exact h1
theorem T1{α:Type}[DecidableEq α]{lt:α->α->Bool}(x:α):∀(l:List α),x∉l->(dG lt x l).length=l.length+1
 |[],_=>rfl
 |y::l,h=>by
  have h1:y≠x:=fun e=>h (by rw[e];exact Qx)
  rw[dG]
  by_cases h2:lt y x=true
  ·rw[Qr h2,QE,T1 x l (fun e=>h (Qy _ e)),QE]
  ·rw[Qs h2,Qs h1];rfl
def mn(l:List ByteArray)(x:ByteArray):List ByteArray:=if x∈l\/40<=l.length then l else dG bJ x l
theorem HU{l:List ByteArray}(h:VL l)(x:ByteArray):mO l x=some (mn l x):=by
 have hl:=h.len;unfold mO mn;rw[HX l h.uz,Qa]
 by_cases hx:x∈l
 ·rw[Qg hx,Qr (.inl hx)];rfl
 rw[Qh hx];simp only[Ql,Qa]
 by_cases h40:40<=l.length
 ·rw[Qg (by omega:(40:Int)<=((l.length:Nat):Int)),Qr (.inr h40)];rfl
 rw[Qh (by omega:¬(40:Int)<=((l.length:Nat):Int)),Qs (fun e=>e.elim hx h40)]
 simp only[Ql,aP];have hk:∀n,n<=100->bb 16 n=true:=fun n hn=>br ⟨by omega,by omega⟩
 have:=Yd.list (p:=fun r=>r=dG bJ x l) (step:=fun(v3:Bool×Int×(List ByteArray)×Unit)=>
   bif (decide (v3.2.1<((List.length l:Nat):Int)))then
   Option.bind (idx l v3.2.1) fun x4=>
   Option.bind (bif (!v3.1)then
   Option.bind (iS x x4) fun r7=>
   some (decide (r7<(0:Int)))
   else some false) fun b8=>
   bif b8 then
   bif bb 16 (List.length v3.2.2.1+List.length [x])then
   bif bb 16 (List.length (v3.2.2.1++[x])+List.length [x4])then
   some (Sum.inl (true,(aA .i64 v3.2.1 (1:Int)),((v3.2.2.1++[x])++[x4]),()))
   else none
   else none
   else
   bif bb 16 (List.length v3.2.2.1+List.length [x4])then
   some (Sum.inl (v3.1,(aA .i64 v3.2.1 (1:Int)),(v3.2.2.1++[x4]),()))
   else none
   else
   Option.map Sum.inr (
   bif (!v3.1)then
   bif bb 16 (List.length v3.2.2.1+List.length [x])then
   some (v3.2.2.1++[x])
   else none
   else
   some v3.2.2.1)) l h.uz (fun i (s:Bool×List ByteArray)=>(s.1,i,s.2,()))
   (fun i s=>s.2.length<=2*i/\(s.1=false->s.2++dG bJ x (l.drop i)=dG bJ x l)/\(s.1=true->s.2++l.drop i=dG bJ x l)) ?_ ?_ (s:=(false,[])) ⟨by simp,fun _=>by simp,fun e=>by cases e⟩
 ·obtain⟨r,h1,rfl⟩:=this;exact h1
 ·rintro i y ⟨d,out⟩ ⟨hs1,hs2,hs3⟩ hd hy hi hdec hx' hadd;simp only at hs1 hs2 hs3;simp only;rw[hdec,Qk,hx',Qa,hadd,zW,Qa,D3];have hne:y≠x:=fun e=>hx (by rw[<-e];exact hy)
  have k1:bb 16 (out.length+[x].length)=true:=hk _ (by simp only[Q6];omega)
  have k2:bb 16 ((out++[x]).length+[y].length)=true:=hk _ (by simp only[QB,Q6];omega)
  have k3:bb 16 (out.length+[y].length)=true:=hk _ (by simp only[Q6];omega)
  rw[k1,k2,k3]
  cases d with
  |true=>
   simp only[Qo,Ql,Qa,Qk];refine .some ⟨(true,out++[y]),rfl,by simp only[QB,Q6];omega,fun e=>(by cases e),fun _=> ?_⟩
   rw[<-hs3 rfl,hd,QL];rfl
  |false=>
   have hs2:=hs2 rfl;rw[hd,dG]at hs2;simp only[Qp,Qk,Qa]
   cases hxy:bJ x y with
   |true=>
    simp only[Qk];rw[Qs (by rw[ic.asymm hxy];simp),Qs hne]at hs2
    refine .some ⟨(true,(out++[x])++[y]),rfl,by simp only[QB,Q6];omega,fun e=>(by cases e),fun _=> ?_⟩
    rw[<-hs2,QL,QL];rfl
   |false=>
    simp only[Ql]
    have hyx:bJ y x=true:=by
     cases hh:bJ y x with
     |true=>rfl
     |false=>exact absurd (ic.total _ _ hh hxy) hne
    rw[Qr hyx]at hs2;refine .some ⟨(false,out++[y]),rfl,by simp only[QB,Q6];omega,fun _=> ?_,fun e=>by cases e⟩
    rw[<-hs2,QL];rfl
 ·rintro⟨d,out⟩ ⟨hs1,hs2,hs3⟩ hdec;simp only at hs1 hs2 hs3;simp only;have k1:bb 16 (out.length+[x].length)=true:=hk _ (by simp only[Q6];omega)
  rw[hdec,Ql,k1]
  cases d with
  |true=>
   have:=hs3 rfl;rw[Qq66,List.append_nil]at this;exact .some this
  |false=>
   have:=hs2 rfl;rw[Qq66]at this;exact .some this
theorem tw{l:List ByteArray}(h:VL l){x:ByteArray}(hx:jv x):VL (mn l x)/\(∀y∈l,y∈mn l x)/\(∀y∈mn l x,y=x\/y∈l)/\(x∉l->l.length<40->(mn l x).length=l.length+1):=by
 unfold mn
 by_cases h1:x∈l\/40<=l.length
 ·rw[Qr h1];refine⟨h,fun _ hy=>hy,fun _ hy=> .inr hy,fun h2 h3=> ?_⟩
  rcases h1 with h1|h1
  ·exact absurd h1 h2
  ·omega
 ·rw[Qs h1];have hm:=Gc (lt:=bJ) x l;have hlen:=uG (lt:=bJ) x l;have h2:¬40<=l.length:=fun e=>h1 (.inr e)
  refine⟨⟨fun y hy=> ?_,ic.dG x h.Fs,by omega⟩,fun y hy=>(hm y).2 (.inr hy),fun y hy=>(hm y).1 hy,fun h3 _=>T1 x l h3⟩
  rcases(hm y).1 hy with rfl|hy
  ·exact hx
  ·exact h.qL y hy
theorem HV{l:List ByteArray}(h:VL l):lT l=some true:=by
 unfold lT;refine Yd.eq_true (Yd.list l h.uz (fun i (_:Unit)=>(i,())) (fun _ _=>True) ?_ ?_ (s:=()) trivial)
 ·intro i y s hs hd hy hi hdec hx hadd;simp only;rw[hdec,Qk,hx,Qa,Mz,Qa,Qg (h.qL y hy),hadd];simp only[Qo,Ql]
  by_cases h0:i=0
  ·subst h0;rw[Qh (by omega:¬(0:Int)<((0:Nat):Int))]
   exact .some ⟨(),rfl,trivial⟩
  ·rw[Qg (by omega:(0:Int)<(i:Int))]
   simp only[Qk];have hsub:de .i64 (i:Int) 1=((i - 1:Nat):Int):=by rw[qb (by omega) (by have:=h.len;omega)];omega
   have hi1:i - 1<l.length:=by omega
   rw[hsub,bg,Qv hi1,Qa,zW,Qa,X6]
   have hyi:y=l[i]:=by
    rw[bg,Qv hi]at hx;exact(Option.some.inj hx).symm
   have hlt:bJ l[i - 1] y=true:=by
    rw[hyi];exact List.pairwise_iff_getElem.1 h.Fs (i - 1) i hi1 hi (by omega)
   rw[hlt];exact .some ⟨(),rfl,trivial⟩
 ·intro s hs hdec;simp only;rw[hdec,Ql,Qg (by have:=h.len;omega:((l.length:Nat):Int)<=(40:Int))]
  exact .some rfl
theorem MB{s t:List ByteArray}(h:s.length<=1000000):∃b,ph s t=some b/\(b=true↔s=t):=by
 unfold ph
 by_cases hl:s.length=t.length
 ·rw[Qg (by omega:((s.length:Nat):Int)=((t.length:Nat):Int)),Qo,Ql]
  refine UT hl h (fun i hi hi' hd hx hy hw=> ?_) (fun hd=> ?_)
  ·simp only;rw[hd,Qk,hx,hy,Qa,Qa,hw]
   by_cases he:s[i]=t[i]
   ·rw[Qg he];exact⟨true,rfl,by simp[he]⟩
   ·rw[Qh he];exact⟨false,rfl,by simp[he]⟩
  ·simp only;rw[hd,Ql];rfl
 ·rw[Qh (by omega:¬((s.length:Nat):Int)=((t.length:Nat):Int))]
  exact⟨false,rfl,M3 hl⟩
theorem MA{a b:List ByteArray}{n:Nat}(hn:a.length+b.length<=n)(h:n<=100000):Yd (jo a b) fun r=>r.length<=n/\∀x∈r,x∈a\/x∈b:=by
 unfold jo;simp only[aP];refine Yd.Ci (fun(v:Int×Int×List ByteArray×Unit)=>∃i k:Nat,v.1=i/\v.2.1=k/\i<=a.length/\k<=b.length/\v.2.2.1.length<=i+k/\∀x∈v.2.2.1,x∈a\/x∈b) (fun v=>a.length+b.length - (v.1.toNat+v.2.1.toNat)) ?_ ⟨0,0,rfl,rfl,by omega,by omega,by simp,fun x hx=>absurd hx QR⟩
 rintro⟨i',k',out,u⟩ ⟨i,k,e1,e2,hi,hk,hlen,hmem⟩;simp only at e1 e2 hlen hmem;subst e1 e2;have kk:∀x:ByteArray,bb 16 (out.length+[x].length)=true:=fun x=>br ⟨by simp only[Q6];omega,by simp only[Q6];omega⟩
 have hi1:aA .i64 (i:Int) 1=((i+1:Nat):Int):=bE (by omega) (by omega)
 have hk1:aA .i64 (k:Int) 1=((k+1:Nat):Int):=bE (by omega) (by omega)
 have ga:i<a.length->∃x∈a,idx a (i:Int)=some x:=fun h=>⟨a[i],Q0 h,by rw[bg];exact Qv h⟩
 have gb:k<b.length->∃x∈b,idx b (k:Int)=some x:=fun h=>⟨b[k],Q0 h,by rw[bg];exact Qv h⟩
 have fin1:∀(x:ByteArray) (j1 j2:Nat),(x∈a\/x∈b)->j1<=a.length->j2<=b.length->i+k<j1+j2->Yd (bif bb 16 (out.length+[x].length)then some (Sum.inl (((j1:Nat):Int),((j2:Nat):Int),(out++[x]),()))else(none:Option ((Int×Int×List ByteArray×Unit)⊕List ByteArray)))
   (Lp (fun s'=>(∃i k:Nat,s'.1=i/\s'.2.1=k/\i<=a.length/\k<=b.length/\s'.2.2.1.length<=i+k/\∀x∈s'.2.2.1,x∈a\/x∈b)/\a.length+b.length - (s'.1.toNat+s'.2.1.toNat)<a.length+b.length - ((i:Int).toNat+(k:Int).toNat)) (fun r=>r.length<=n/\∀x∈r,x∈a\/x∈b)):=by
  intro x j1 j2 hx h1 h2 h3;rw[kk x,Qk];refine .some ⟨⟨j1,j2,rfl,rfl,h1,h2,?_,?_⟩,?_⟩
  ·simp only[QB,Q6];omega
  ·intro y hy;rcases Qz.1 hy with hy|hy
   ·exact hmem y hy
   ·rw[Q5.1 hy];exact hx
  ·simp only[QV];omega
 simp only
 by_cases c1:i<a.length
 ·obtain⟨x,hx,ex⟩:=ga c1;rw[Qg (by omega:(i:Int)<((a.length:Nat):Int))]
  simp only[Qk,Qa]
  by_cases c2:k=b.length
  ·rw[Qg (by omega:(k:Int)=((b.length:Nat):Int)),ex,hi1]
   simp only[Qk,Qa];exact fin1 x (i+1) k (.inl hx) (by omega) hk (by omega)
  ·obtain⟨y,hy,ey⟩:=gb (by omega)
   rw[Qh (by omega:¬(k:Int)=((b.length:Nat):Int)),ex,ey,Qh (by omega:¬(i:Int)=((a.length:Nat):Int))]
   simp only[Ql,Qa,zW,D3,IU,hi1,hk1]
   cases bJ x y with
   |true=>exact fin1 x (i+1) k (.inl hx) (by omega) hk (by omega)
   |false=>
    cases bJ y x with
    |true=>exact fin1 y i (k+1) (.inr hy) hi (by omega) (by omega)
    |false=>exact fin1 x (i+1) (k+1) (.inl hx) (by omega) (by omega) (by omega)
 ·rw[Qh (by omega:¬(i:Int)<((a.length:Nat):Int))]
  simp only[Ql]
  by_cases c2:k<b.length
  ·obtain⟨y,hy,ey⟩:=gb c2;rw[Qg (by omega:(k:Int)<((b.length:Nat):Int)),Qh (by omega:¬(k:Int)=((b.length:Nat):Int)),ey,Qg (by omega:(i:Int)=((a.length:Nat):Int))]
   simp only[Ql,Qk,Qa,hk1];exact fin1 y i (k+1) (.inr hy) hi (by omega) (by omega)
  ·rw[Qh (by omega:¬(k:Int)<((b.length:Nat):Int))]
   simp only[Ql,Qa];exact .some ⟨by omega,hmem⟩
theorem Xr{l:List ByteArray}(h:l.length<=1000000):Yd (jF l) fun r=>r.2.1=true->jv r.1:=by
 unfold jF;simp only[aP];refine Yd.list l h (fun i (s:ByteArray×Bool)=>(s.1,s.2,i,())) (fun _ s=>s.2=true->jv s.1) ?_ ?_ (s:=(_,false)) (fun e=>by cases e)
 ·rintro i y ⟨Ar,found⟩ hs hd hy hi hdec hx hadd;simp only at hs;simp only;rw[hdec,Qk,hx,Qa,Mz,Qa,hadd]
  by_cases hv:jv y
  ·rw[Qg hv];simp only[Qk]
   cases found with
   |false=>
    simp only[Qp,Qk,Qa];exact .some ⟨(y,true),rfl,fun _=>hv⟩
   |true=>
    simp only[Qo,Ql,Qa,zW]
    cases decide (0<Ck y Ar)with
    |true=>exact .some ⟨(y,true),rfl,fun _=>hv⟩
    |false=>exact .some ⟨(Ar,true),rfl,hs⟩
  ·rw[Qh hv];simp only[Ql,Qa];exact .some ⟨(Ar,found),rfl,hs⟩
 ·rintro⟨Ar,found⟩ hs hdec;simp only;rw[hdec,Ql];exact .some hs
end
section
theorem ab5{rec:(af×Int×Unit)->Option (eJ×Bool×Unit)}{t:af}{x:Int}(hm:c8 t)(hr:∀u∈t.aN,Yd (rec (u,x,())) fun _=>True):Yd (jz rec t x) fun _=>True:=by
 unfold jz;simp only[etas];refine Yd.list t.aX hm.nodes (fun i (s:eJ)=>(i,s,())) (fun _ _=>True) ?_ ?_ trivial
 ·intro i y s hs hd hy hi hdec hx hadd;simp only;rw[hdec,Qk,hx,Qa,hadd]
  cases decide (y=x)with
  |true=>exact .some trivial
  |false=>exact .some ⟨s,rfl,trivial⟩
 ·intro s hs hdec;simp only;rw[hdec,Ql];refine Yd.map (Yd.list t.aN hm.len (fun i (s:eJ)=>(i,s,())) (fun _ _=>True) ?_ ?_ trivial)
  ·intro i y s hs hd hy hi hdec hx hadd;simp only;rw[hdec,Qk,hx,Qa,hadd];refine Yd.bind (hr y hy) fun q _=> ?_
   cases q.2.1 with
   |true=>exact .some trivial
   |false=>exact .some ⟨s,rfl,trivial⟩
  ·intro s hs hdec;simp only;rw[hdec,Ql];exact .some trivial
theorem ab0{x:Int}{n:Nat}:∀{t:af},SizeOf.sizeOf t<n->c8 t->Yd (rP n (t,x,())) fun _=>True:=by
 induction n with
 |zero=>intro t h;omega
 |succ n ih=>
  intro t hz hm;show Yd (jz (rP n) t x) fun _=>True
  exact ab5 hm fun u hu=>ih (t:=u) (by have:=qS hu;omega) (hm.inner u hu)
theorem ac2{t:af}(hm:c8 t)(x:Int):Yd (vT t x) fun _=>True:=ab0 (by omega) hm
structure Cp (t:af) (v aK round:Int):Prop where
 aL:et t
 v0:0<=v
 v1:v<10
 s0:0<=aK
 s1:aK<=1000000
 r1:1<=round
 r2:round<=1000
theorem Xp(a b c d:Int):∃r,mZ a b c d=some r:=⟨_,rfl⟩
section
variable {t : af} {v aK round : Int}
theorem MD(h:Cp t v aK round):tr t v aK round=some 0:=by
 have e1:=h.v0;have e2:=h.v1;have e3:=h.s0;have e4:=h.s1;have e5:=h.r1;have e6:=h.r2;unfold tr;simp only[etas,eD h.aL,Qa];rw[Qh (by omega:¬v<0),Qh (by omega:¬(10:Int)<=v),Qh (by omega:¬aK<0),Qh (by omega:¬(1000000:Int)<aK),Qh (by omega:¬round<1),Qh (by omega:¬(1000:Int)<round)]
 rfl
theorem ae9(h:Cp t v aK round)(k:Int):Yd (lJ t v aK round k) fun _=>True:=by
 unfold lJ;simp only[etas,MD h,Qa,aP];have h1:∀b:Bool,Yd (bif b then(some true:Option Bool)else some (decide (k<0))) fun _=>True:=fun b=>by cases b<;>exact .some trivial
 refine Yd.bind (h1 _) fun b1 _=> ?_
 have h2:∀b:Bool,Yd (bif b then(some true:Option Bool)else some (decide ((10:Int)<=k))) fun _=>True:=fun b=>by cases b<;>exact .some trivial
 refine Yd.bind (h2 _) fun b2 _=> ?_
 cases b2 with
 |true=>exact .some trivial
 |false=>
  simp only[Ql];refine Yd.bind (ac2 h.aL.sm k) fun q _=> ?_
  obtain⟨hsh,eh⟩:=Xp 1 aK round k;rw[eh];simp only[Qa]
  cases decide (k=v)with
  |true=>exact .some trivial
  |false=>
   cases q.2.1<;>exact .some trivial
theorem VZ(h:Cp t v aK round):Yd (kS t v aK round) fun q=>0<=q.1/\q.1<10/\q.2.1=0:=by
 unfold kS;simp only[etas,MD h,Qa,aP];simp only[decide_true,Qo,Ql];refine Yd.Ci (fun(s:Int×Int×Unit)=>0<=s.1/\s.1<10/\0<=s.2.1/\s.2.1<=10) (fun s=>(10 - s.2.1).toNat) ?_ ⟨h.v0,h.v1,Int.le_refl _,by show(0:Int)<=10;omega⟩
 rintro⟨b,k,u⟩ ⟨h1,h2,h3,h4⟩;simp only at h1 h2 h3 h4;simp only
 by_cases hk:k<10
 ·rw[Qg hk];have hadd:aA .i64 k 1=k+1:=bE (by omega) (by omega)
  simp only[Qk];rw[hadd]
  have fin:∀x:Int,0<=x->x<10->Yd (some (Sum.inl (x,k+1,())):Option ((Int×Int×Unit)⊕(Int×Int×Unit))) (Lp (fun s'=>(0<=s'.1/\s'.1<10/\0<=s'.2.1/\s'.2.1<=10)/\(10 - s'.2.1).toNat<(10 - k).toNat) (fun r=>0<=r.1/\r.1<10/\r.2.1=0)):=
   fun x g1 g2=> .some ⟨⟨g1,g2,by show 0<=k+1;omega,by show k+1<=10;omega⟩,by show(10 - (k+1)).toNat<(10 - k).toNat;omega⟩
  refine Yd.bind (ae9 h k) fun r _=> ?_
  cases r with
  |false=>exact fin b h1 h2
  |true=>
   obtain⟨hsh,eh⟩:=Xp 2 aK round k;obtain⟨hsb,eb⟩:=Xp 2 aK round b;rw[eh,eb];simp only[Qo,Ql,Qa];refine Yd.bind (p:=fun _=>True) ?_ fun b9 _=> ?_
   ·refine Yd.cond (fun _=> .some trivial) fun _=> ?_
    exact Yd.bind (p:=fun _=>True) (Yd.cond (fun _=> .some trivial) fun _=> .some trivial) fun _ _=> .some trivial
   ·cases b9 with
    |true=>exact fin k h3 hk
    |false=>exact fin b h1 h2
 ·rw[Qh hk];exact .some ⟨h1,h2,rfl⟩
theorem aaK(h:Cp t v aK round):Yd (nI t v aK round) fun q=>∃s:Nat,q.1=s/\s<1024:=by
 have e5:=h.r1;have e6:=h.r2;unfold nI;simp only[etas,aP];refine Yd.bind (VZ h) fun q ⟨_,_,hq⟩=> ?_
 rw[hq];simp only[decide_true,Qo,Ql];refine Yd.Ci (fun(s:Int×Int×Unit)=>(∃n:Nat,s.1=n/\n<1024)/\1<=s.2.1/\s.2.1<=round+1) (fun s=>(round+1 - s.2.1).toNat) ?_ ⟨⟨0,rfl,by omega⟩,Int.le_refl _,by show(1:Int)<=round+1;omega⟩
 rintro⟨b,k,u⟩ ⟨⟨n,h1,h2⟩,h3,h4⟩;simp only at h1 h3 h4;subst h1;simp only
 by_cases hk:k<=round
 ·rw[Qg hk];have hadd:aA .i64 k 1=k+1:=bE (by omega) (by omega)
  simp only[Qk];rw[hadd];refine Yd.bind (VZ ⟨h.aL,h.v0,h.v1,h.s0,h.s1,h3,by omega⟩) fun q ⟨g1,g2,_⟩=> ?_
  rw[oO,Qa]
  have fin:∀x:Nat,x<1024->Yd (some (Sum.inl ((x:Int),k+1,())):Option ((Int×Int×Unit)⊕(Int×Int×Unit))) (Lp (fun s'=>((∃n:Nat,s'.1=n/\n<1024)/\1<=s'.2.1/\s'.2.1<=round+1)/\(round+1 - s'.2.1).toNat<(round+1 - k).toNat) (fun r=>∃s:Nat,r.1=s/\s<1024)):=
   fun x g=> .some ⟨⟨⟨x,rfl,g⟩,by show 1<=k+1;omega,by show k+1<=round+1;omega⟩,by show(round+1 - (k+1)).toNat<(round+1 - k).toNat;omega⟩
  cases uH n q.1 with
  |true=>exact fin n h2
  |false=>
   simp only[Qp,Qk];rw[Qs (by omega),nu h2 g1 g2]
   exact fin _ (AE h2 g2)
 ·rw[Qh hk];exact .some ⟨n,rfl,h2⟩
end
end
section
structure tK (m:ar):Prop where
 n0:0<=m.al
 n1:m.al<10
 seq:1<=m.aE
 aL:et m.ak
 dg:VL m.bd
 er:VL m.aD
structure cY (n:aq):Prop where
 ask:Cp n.ak n.al n.bc n.Round
 own:n.l9.size<=200
 dg:VL n.bd
 er:VL n.aD
 kq:VL n.aM
 sub:∀x∈n.aM,x∈n.aD
 heard:∀m∈n.au,tK m/\m.al≠n.al
 eV:n.au.Pairwise (fun a b=>a.al<b.al)
theorem Zq:∀(l:List ar) (k:Nat),k<=10->(∀e∈l,(k:Int)<=e.al/\e.al<10)->l.Pairwise (fun a b=>a.al<b.al)->l.length+k<=10
 |[],k,hk,_,_=>by simp;omega
 |e::l,k,hk,h,hp=>by
  rw[Q4]at hp;have h1:=h e Qx;have h2:=Zq l (k+1) (by omega) (fun x hx=>⟨by have:=hp.1 x hx;omega,(h x (Qy _ hx)).2⟩) hp.2
  rw[QE];omega
theorem cY.len{n:aq}(h:cY n):n.au.length<=10:=by
 have:=Zq n.au 0 (by omega) (fun e he=>⟨by have:=(h.heard e he).1.n0;omega,(h.heard e he).1.n1⟩) h.eV
 omega
theorem Mk{n:aq}(h:cY n):∀m∈n.au++[(⟨n.al,n.aE,n.ak,n.bd,n.aD⟩:ar)],0<=m.al/\m.al<10/\VL m.bd/\VL m.aD:=by
 intro m hm;rcases Qz.1 hm with hm|hm
 ·have:=(h.heard m hm).1;exact⟨this.n0,this.n1,this.dg,this.er⟩
 ·rw[Q5.1 hm];exact⟨h.ask.v0,h.ask.v1,h.dg,h.er⟩
theorem O7{α:Type}{l:List α}{i:Nat}{x:α}(h:idx l (i:Int)=some x):l[Int.toNat (i:Int)]?=some x:=by
 rw[bg]at h;exact h
theorem YV{n:aq}(h:cY n)(x:ByteArray):Yd (kv n x) fun q=>∃a b:Nat,q.1=a/\q.2.1=b/\a<1024/\b<1024:=by
 have hlen:=h.len;have hall:=Mk h;unfold kv AU;simp only[etas,Qa,aP];rw[br (by simp;omega),Qk,br (by simp;omega),Qk]
 simp only[List.nil_append];have hl2:(n.au++[(⟨n.al,n.aE,n.ak,n.bd,n.aD⟩:ar)]).length<=1000000:=by simp;omega
 refine Yd.list (n.au++[(⟨n.al,n.aE,n.ak,n.bd,n.aD⟩:ar)]) hl2 (fun i (s:Int×Int)=>(s.1,s.2,i,())) (fun _ s=>∃a b:Nat,s.1=a/\s.2=b/\a<1024/\b<1024) ?_ ?_ (s:=(0,0)) ⟨0,0,rfl,rfl,by omega,by omega⟩
 ·rintro i y ⟨s1,s2⟩ ⟨a,b,e1,e2,ha,hb⟩ hd hy hi hdec hx hadd;simp only at e1 e2;subst e1 e2;obtain⟨g0,g1,gv,ga⟩:=hall y hy;simp only;rw[hdec,Qk,hx,Qa,O7 hx,Qa,hadd,HX _ gv.uz,Qa]
  have fin:∀c:Nat,c<1024->Yd (Option.bind (mP y.aD x) fun r9=>
    bif r9 then
     if y.al<0 then none else
     some (Sum.inl ((c:Int),(pF .i64 (b:Int) (bS .i64 (1:Int) y.al)),((i+1:Nat):Int),()))
    else
     some (Sum.inl ((c:Int),(b:Int),((i+1:Nat):Int),())):Option ((Int×Int×Int×Unit)⊕(Int×Int×Unit))) (Lp (fun t=>∃s':Int×Int,t=(s'.1,s'.2,((i+1:Nat):Int),())/\(∃a b:Nat,s'.1=a/\s'.2=b/\a<1024/\b<1024)) (fun r=>∃a b:Nat,r.1=a/\r.2.1=b/\a<1024/\b<1024)):=by
   intro c hc;rw[HX _ ga.uz,Qa]
   cases decide (x∈y.aD)with
   |false=>exact .some ⟨((c:Int),(b:Int)),rfl,c,b,rfl,rfl,hc,hb⟩
   |true=>
    rw[Qk,Qs (by omega),nu hb g0 g1]
    exact .some ⟨((c:Int),_),rfl,c,_,rfl,rfl,hc,AE hb g1⟩
  cases decide (x∈y.bd)with
  |false=>exact fin a ha
  |true=>
   rw[Qk,Qs (by omega),nu ha g0 g1]
   exact fin _ (AE ha g1)
 ·rintro⟨s1,s2⟩ ⟨a,b,e1,e2,ha,hb⟩ hdec;simp only at e1 e2;simp only;rw[hdec,Ql];exact .some ⟨a,b,e1,e2,ha,hb⟩
theorem UI:Yd (nW []) fun _=>True:=by
 unfold nW;refine Yd.list ([]:List gZ) (by simp) (fun i (_:Unit)=>(i,())) (fun _ _=>True) (fun i x s _ _ hx=>absurd hx QR) (fun s _ hdec=> ?_) (s:=()) trivial
 simp only;rw[hdec,Ql];exact .some trivial
def Yq(m:cr):Prop:=0<=m.al/\m.al<10/\c8 m.ak/\m.bd=[]/\m.aD=[]
theorem ado{m:cr}(h:Yq m):Yd (pX m) fun _=>True:=by
 obtain⟨h0,h1,ht,hv,ha⟩:=h;unfold pX;simp only[etas];refine Yd.bind (p:=fun _=>True) (Yd.cond (fun _=> .some trivial) fun _=> .some trivial) fun b1 _=> ?_
 refine Yd.bind (p:=fun _=>True) (Yd.cond (fun _=> .some trivial) fun _=> .some trivial) fun b2 _=> ?_
 refine Yd.bind (p:=fun _=>True) (Yd.cond (fun _=>by rw[KT ht];exact .some trivial) fun _=> .some trivial) fun b4 _=> ?_
 rw[hv,ha];refine Yd.bind (p:=fun _=>True) (Yd.cond (fun _=>Yd.bind UI fun _ _=> .some trivial) fun _=> .some trivial) fun b6 _=> ?_
 exact Yd.bind (p:=fun _=>True) (Yd.cond (fun _=>Yd.bind UI fun _ _=> .some trivial) fun _=> .some trivial) fun b8 _=> .some trivial
def wF:af:=⟨0,[],[]⟩
theorem H9:c8 wF:= .mk _ (by simp[wF]) (by simp[wF]) (fun u hu=>by cases hu)
structure rN (l:List aR):Prop where
 len:l.length=10
 sm:∀m∈l,c8 m.ak
theorem rN.set{l:List aR}(h:rN l)(k:Nat){m:aR}(hm:c8 m.ak):rN (l.set k m):=
 ⟨by rw[QY];exact h.len,fun x hx=>(List.mem_or_eq_of_mem_set hx).elim (h.sm x) fun e=>by rw[e];exact hm⟩
theorem rN.get{l:List aR}(h:rN l){v:Int}(h0:0<=v)(h1:v<10):∃x,idx l v=some x/\l[v.toNat]?=some x:=by
 have hl:=h.len;have hv:v.toNat<l.length:=by omega
 exact⟨l[v.toNat],by rw[Nv _ h0];exact Qv hv,Qv hv⟩
theorem rN.sc{l:List aR}(h:rN l):zj ⟨l⟩:=⟨by show l.length<=1000000;rw[h.len];omega,h.sm⟩
theorem aeR{v:Int}{t:af}(hv0:0<=v)(hv1:v<10)(ht:c8 t){l:List cr}(hl:l.length<=1000000)(hm:∀m∈l,Yq m):Yd (pj v t l) zj:=by
 unfold pj
 have h1:(decide ((10:Int)=(10:Int))&&decide (0<=(10:Int))&&bb 64 (Int.toNat (10:Int)))=true:=by
  rw[br (by decide)];rfl
 rw[h1,Qk];simp only[etas,aP]
 have h0:rN (List.replicate (Int.toNat (10:Int)) (aR.mk false (af.mk (0:Int) ([]:List Int) ([]:List af)))):=
  ⟨by rw[List.length_replicate];rfl,fun m hm=>by rw[(List.mem_replicate.1 hm).2];exact H9⟩
 refine Yd.list l hl (fun i (s:List aR)=>(i,aU.mk [],s,())) (fun _ s=>rN s) ?_ ?_ h0
 ·intro i y s hs hd hy hi hdec hx hadd;have hmy:=hm y hy;simp only;rw[hdec,Qk,hx,Qa,hadd];simp only[cr.eta];refine Yd.bind (ado hmy) fun r _=> ?_
  cases r with
  |false=>exact .some ⟨s,rfl,hs⟩
  |true=>
   obtain⟨x,g1,g2⟩:=hs.get hmy.1 hmy.2.1;rw[Qk,g1,Qa,g2,Qa];exact .some ⟨_,rfl,hs.set _ hmy.2.2.1⟩
 ·intro s hs hdec;simp only;rw[hdec,Ql,Qg hv0,Qg hv1];simp only[Qk,Qa];obtain⟨x,g1,g2⟩:=hs.get hv0 hv1;have hs2:=hs.set v.toNat (m:=⟨false,⟨0,[],[]⟩⟩) H9;obtain⟨x2,k1,k2⟩:=hs2.get hv0 hv1;rw[g1,g2,KT ht];simp only[Qa]
  cases decide (FG t=0)with
  |false=>exact .some hs2.sc
  |true=>
   simp only[Qk];rw[k1,k2];exact .some (hs2.set _ ht).sc
theorem VX{n:aq}(h:cY n):Yd (lB n) zj:=by
 have hlen:=h.len;unfold lB;simp only[etas];refine Yd.list n.au (by omega) (fun i (s:List cr)=>(i,s,())) (fun i s=>s.length<=i/\∀m∈s,Yq m) ?_ ?_ (s:=[]) ⟨by simp,fun m hm=>absurd hm QR⟩
 ·intro i y s ⟨hs1,hs2⟩ hd hy hi hdec hx hadd;have hmy:=(h.heard y hy).1;simp only;rw[hdec,Qk,hx,Qa,hadd,br ⟨by simp only[Q6];omega,by simp only[Q6];omega⟩,Qk]
  refine .some ⟨_,rfl,by simp only[QB,Q6];omega,fun m hm=> ?_⟩
  rcases Qz.1 hm with hm|hm
  ·exact hs2 m hm
  ·rw[Q5.1 hm];exact⟨hmy.n0,hmy.n1,hmy.aL.sm,rfl,rfl⟩
 ·intro s ⟨hs1,hs2⟩ hdec;simp only;rw[hdec,Ql];exact Yd.map (Yd.bind (aeR h.ask.v0 h.ask.v1 h.ask.aL.sm (by omega) hs2) fun c hc=> .some hc)
theorem Aa{n:aq}(h:cY n):n.al=((n.al.toNat:Nat):Int)/\n.al.toNat<10:=by
 have h0:=h.ask.v0;have h1:=h.ask.v1;omega
theorem ahV{n:aq}(h:cY n)(x:ByteArray):Yd (qX n x) fun b=>b=true->x∉n.aD/\n.aD.length<40:=by
 obtain⟨hn,hn10⟩:=Aa h;unfold qX;simp only[etas,aq.eta,aP];refine Yd.bind (YV h x) fun q ⟨a,b,e1,e2,ha,hb⟩=> ?_
 rw[e1,e2,HX _ h.er.uz,Qa]
 by_cases hx:x∈n.aD
 ·rw[Qg hx];exact .some fun e=>by cases e
 ·rw[Qh hx];simp only[Qp,Qk]
  by_cases hl:n.aD.length<40
  ·rw[Qg (by omega:((n.aD.length:Nat):Int)<40),Qk]
   refine Yd.bind (VX h) fun c hc=> ?_
   rw[hn,vn hc hn10 ha hb];exact .some fun _=>⟨hx,hl⟩
  ·rw[Qh (by omega:¬((n.aD.length:Nat):Int)<40)]
   exact .some fun e=>by cases e
theorem afa{n:aq}(h:cY n):Yd (nV n) fun r=>r.length<=1000/\∀x∈r,jv x:=by
 have hlen:=h.len;have l1:=h.dg.len;have l2:=h.er.len;unfold nV;refine Yd.bind (MA (n:=80) (by omega) (by omega)) fun r1 ⟨k1,k2⟩=> ?_
 refine Yd.list n.au (by omega) (fun i (s:List ByteArray)=>(s,i,())) (fun i s=>s.length<=80+80*i/\∀x∈s,jv x) ?_ ?_ ⟨by omega,fun x hx=>(k2 x hx).elim (h.dg.qL x) (h.er.qL x)⟩
 ·intro i y s ⟨hs1,hs2⟩ hd hy hi hdec hx hadd;have hmy:=(h.heard y hy).1;have l3:=hmy.dg.len;have l4:=hmy.er.len;simp only;rw[hdec,Qk,hx,Qa,hadd];refine Yd.bind (MA (n:=80) (by omega) (by omega)) fun r4 ⟨g1,g2⟩=> ?_
  refine Yd.bind (MA (n:=80+80*(i+1)) (by omega) (by omega)) fun r5 ⟨g3,g4⟩=> ?_
  exact .some ⟨r5,rfl,g3,fun x hx=>(g4 x hx).elim (hs2 x) fun hx=>(g2 x hx).elim (hmy.dg.qL x) (hmy.er.qL x)⟩
 ·intro s ⟨hs1,hs2⟩ hdec;simp only;rw[hdec,Ql];exact .some ⟨by omega,hs2⟩
theorem cY.HI{n:aq}(h:cY n){v:List ByteArray}(hv:VL v):cY {n with bd:=v}:=⟨h.ask,h.own,hv,h.er,h.kq,h.sub,h.heard,h.eV⟩
theorem cY.ae0{n:aq}(h:cY n){a:List ByteArray}(ha:VL a)(hs:∀y∈n.aD,y∈a):cY {n with aD:=a}:=⟨h.ask,h.own,h.dg,ha,h.kq,fun x hx=>hs x (h.sub x hx),h.heard,h.eV⟩
theorem cY.aaw{n:aq}(h:cY n){c:List ByteArray}(hc:VL c)(hs:∀y∈c,y∈n.aD):cY {n with aM:=c}:=⟨h.ask,h.own,h.dg,h.er,hc,hs,h.heard,h.eV⟩
structure q8 (n r:aq):Prop where
 ok:cY r
 aB:r.al=n.al
 aK:r.bc=n.bc
 round:r.Round=n.Round
 seq:r.aE=n.aE
 aL:r.ak=n.ak
 own:r.l9=n.l9
 heard:r.au=n.au
theorem q8.refl{n:aq}(h:cY n):q8 n n:=⟨h,rfl,rfl,rfl,rfl,rfl,rfl,rfl⟩
theorem q8.HI{n r:aq}(h:q8 n r){v:List ByteArray}(hv:VL v):q8 n {r with bd:=v}:=⟨h.ok.HI hv,h.aB,h.aK,h.round,h.seq,h.aL,h.own,h.heard⟩
theorem adg{n:aq}(h:cY n):Yd (oM n) (q8 n):=by
 unfold oM;simp only[etas,aq.eta,aP];refine Yd.bind (aaK h.ask) fun q ⟨s,e1,hs⟩=> ?_
 rw[e1,HW hs,Qa];have hl:=yG s;refine Yd.list (mT s) (by omega) (fun i (r:aq)=>(i,r,())) (fun _ r=>q8 n r) ?_ ?_ (.refl h)
 ·intro i y r hr hd hy hi hdec hx hadd;simp only;rw[hdec,Qk,hx,Qa,hadd];have hlen:=hr.ok.len
  by_cases hyn:y=r.al
  ·rw[Qg hyn,Qk]
   by_cases hown:r.l9=ByteArray.mk #[]
   ·rw[Qg hown];exact .some ⟨r,rfl,hr⟩
   ·rw[Qh hown];simp only[Qp,Qk]
    have hv:jv r.l9:=by
     refine⟨?_,hr.ok.own⟩;rcases Nat.eq_zero_or_pos r.l9.size with h0|h0
     ·exact absurd (ByteArray.ext (Array.eq_empty_of_size_eq_zero h0)) hown
     ·exact h0
    rw[HU hr.ok.dg,Qa];exact .some ⟨_,rfl,hr.HI (tw hr.ok.dg hv).1⟩
  ·rw[Qh hyn,Ql];refine Yd.list r.au (by omega) (fun i (r:aq)=>(i,r,())) (fun _ r=>q8 n r) ?_ ?_ hr
   ·intro j m r2 hr2 hd2 hm hj hdec2 hx2 hadd2;simp only;rw[hdec2,Qk,hx2,Qa,hadd2];have hmy:=(hr.ok.heard m hm).1;have l3:=hmy.dg.len;have l4:=hmy.er.len
    cases decide (m.al=y)with
    |false=>exact .some ⟨r2,rfl,hr2⟩
    |true=>
     simp only[Qo,Ql];refine Yd.bind (MA (n:=80) (by omega) (by omega)) fun u ⟨g1,g2⟩=> ?_
     refine Yd.list u (by omega) (fun i (r:aq)=>(i,r,())) (fun _ r=>q8 n r) ?_ ?_ hr2
     ·intro k x r3 hr3 hd3 hxu hk hdec3 hx3 hadd3;simp only;rw[hdec3,Qk,hx3,Qa,hadd3,HU hr3.ok.dg,Qa];have hv:jv x:=(g2 x hxu).elim (hmy.dg.qL x) (hmy.er.qL x);exact .some ⟨_,rfl,hr3.HI (tw hr3.ok.dg hv).1⟩
     ·intro r3 hr3 hdec3;simp only;rw[hdec3,Ql];exact .some ⟨r3,rfl,hr3⟩
   ·intro r2 hr2 hdec2;simp only;rw[hdec2,Ql];exact .some ⟨r2,rfl,hr2⟩
 ·intro r hr hdec;simp only;rw[hdec,Ql];exact .some hr
structure U2 (b n r:aq):Prop where
 ok:cY r
 aB:r.al=n.al
 aK:r.bc=n.bc
 round:r.Round=n.Round
 aL:r.ak=n.ak
 seq:r.aE=n.aE\/r.aE=b.aE+1
theorem FX{b n:aq}(hb:c8 b.ak/\b.bd.length<=1000000/\b.aD.length<=1000000)(hs:0<=b.aE/\b.aE<=1000000)(h:cY n):Yd (fU b n) (U2 b n):=by
 unfold fU;simp only[etas,aq.eta];refine Yd.join (fun v=>q8 n v.1) (fun v hv=> ?_) (fun j' hj=> ?_)
 ·refine Yd.Ci (fun(s:Bool×aq×Unit)=>q8 n s.2.1) (fun s=>(if s.1=true then 1 else 0)+2*(40 - s.2.1.aD.length)) ?_ hv
  rintro⟨again,r,u⟩ hr;simp only at hr;simp only
  cases again with
  |true=>
   rw[Qk];refine Yd.bind (afa hr.ok) fun l ⟨hl,hvals⟩=> ?_
   refine Yd.list l (by omega) (fun i (s:aq)=>(false,i,s,())) (fun _ s=>s=r) ?_ ?_ rfl
   ·rintro i x s rfl hd hx' hi hdec hx hadd;simp only;rw[hdec,Qk,hx,Qa,hadd];refine Yd.bind (ahV hr.ok x) fun c hc=> ?_
    cases c with
    |false=>exact .some ⟨s,rfl,rfl⟩
    |true=>
     obtain⟨hc1,hc2⟩:=hc rfl;obtain⟨p1,p2,p3,p4⟩:=tw hr.ok.er (hvals x hx');rw[Qk,HU hr.ok.er,Qa];refine .some ⟨⟨hr.ok.ae0 p1 p2,hr.aB,hr.aK,hr.round,hr.seq,hr.aL,hr.own,hr.heard⟩,?_⟩;have:=p4 hc1 hc2;show(if true=true then 1 else 0)+2*(40 - (mn s.aD x).length)<(if true=true then 1 else 0)+2*(40 - s.aD.length)
     rw[this];omega
   ·rintro s rfl hdec;simp only;rw[hdec,Ql];refine .some ⟨hr,?_⟩;show(if false=true then 1 else 0)+2*(40 - s.aD.length)<(if true=true then 1 else 0)+2*(40 - s.aD.length)
    simp
  |false=>
   rw[Ql];refine Yd.map ?_;have hl:=hr.ok.er.len;refine Yd.list r.aD (by omega) (fun i (s:aq)=>(i,s,())) (fun _ s=>q8 n s/\s.aD=r.aD) ?_ ?_ ⟨hr,rfl⟩
   ·rintro i x s ⟨hs',hsa⟩ hd hx' hi hdec hx hadd;obtain⟨hn,hn10⟩:=Aa hs'.ok;simp only[aP];rw[hdec,Qk,hx,Qa,hadd];refine Yd.bind (YV hs'.ok x) fun q ⟨a,c,e1,e2,ha,hc⟩=> ?_
    refine Yd.bind (VX hs'.ok) fun cf hcf=> ?_
    have hfc:=tQ hcf hn10 hc;rw[<-hn]at hfc;rw[e2,hfc,Qa]
    cases (gq cf.bn c).testBit s.al.toNat with
    |false=>exact .some ⟨s,rfl,hs',hsa⟩
    |true=>
     rw[Qk,HU hs'.ok.kq,Qa];obtain⟨p1,p2,p3,p4⟩:=tw hs'.ok.kq (hr.ok.er.qL x hx');refine .some ⟨_,rfl,⟨hs'.ok.aaw p1 (fun y hy=> ?_),hs'.aB,hs'.aK,hs'.round,hs'.seq,hs'.aL,hs'.own,hs'.heard⟩,hsa⟩
     rcases p3 y hy with rfl|hy
     ·rw[hsa];exact hx'
     ·exact hs'.ok.sub y hy
   ·rintro s ⟨hs',hsa⟩ hdec;simp only[aP];rw[hdec,Ql];obtain⟨b1,f1,_⟩:=MB (s:=b.bd) (t:=s.bd) hb.2.1;obtain⟨b2,f2,_⟩:=MB (s:=b.aD) (t:=s.aD) hb.2.2;obtain⟨b3,f3,_⟩:=Un (a:=b.ak) (b:=s.ak) hb.1;rw[f1,f2,f3];simp only[Qa];refine Yd.map (Yd.bind (p:=fun _=>True) (Yd.cond (fun _=> .some trivial) fun _=> .some trivial) fun c1 _=> ?_)
    refine Yd.bind (p:=fun _=>True) (Yd.cond (fun _=> .some trivial) fun _=> .some trivial) fun c2 _=> ?_
    cases c2 with
    |false=>exact .some ⟨hs'.ok,hs'.aB,hs'.aK,hs'.round,hs'.aL,.inl hs'.seq⟩
    |true=>
     have hadd:aA .i64 b.aE 1=b.aE+1:=bE (by omega) (by omega)
     rw[Qk,hadd];exact .some ⟨⟨hs'.ok.ask,hs'.ok.own,hs'.ok.dg,hs'.ok.er,hs'.ok.kq,hs'.ok.sub,hs'.ok.heard,hs'.ok.eV⟩,hs'.aB,hs'.aK,hs'.round,hs'.aL,.inr rfl⟩
 ·cases decide (((List.length n.aM:Nat):Int)=(0:Int))with
  |true=>
   rw[Qk];refine Yd.bind (adg h) fun r hr=> ?_
   exact hj (r,()) hr
  |false=>exact hj (n,()) (.refl h)
end
section
theorem Oy{m:ar}(h:tK m):tq m=some true:=by
 have e1:=h.n0;have e2:=h.n1;have e3:=h.seq;unfold tq;simp only[etas,eD h.aL,HV h.dg,HV h.er];rw[Qg e1,Qg e2,Qg e3];rfl
theorem EW{n:aq}(h:cY n)(hs:1<=n.aE/\n.aE<=1000000):nU n=some true:=by
 have hlen:=h.len;have e1:=h.ask.v0;have e2:=h.ask.v1;have e3:=h.ask.s0;have e4:=h.ask.s1;have e5:=h.ask.r1;have e6:=h.ask.r2;have e7:=h.own;unfold nU;simp only[etas,eD h.ask.aL,HV h.dg,HV h.er,HV h.kq];rw[Qh (by omega:¬n.al<0),Qh (by omega:¬(10:Int)<=n.al),Qh (by omega:¬n.bc<0),Qh (by omega:¬(1000000:Int)<n.bc),Qh (by omega:¬n.Round<1),Qh (by omega:¬(1000:Int)<n.Round),Qh (by omega:¬n.aE<1),Qh (by omega:¬(1000000:Int)<n.aE),Qh (by omega:¬(200:Int)<((n.l9.size:Nat):Int))]
 simp only[Ql,Qa,decide_true,Qo];refine Yd.eq_true ?_;refine Yd.list n.aM h.kq.uz (fun i (_:Unit)=>(i,())) (fun _ _=>True) ?_ ?_ (s:=()) trivial
 ·intro i x s _ hd hx' hi hdec hx hadd;simp only;rw[hdec,Qk,hx,Qa,hadd,HX _ h.er.uz,Qg (h.sub x hx')];exact .some ⟨(),rfl,trivial⟩
 ·intro s _ hdec;simp only;rw[hdec,Ql];refine Yd.map ?_;refine Yd.list n.au (by omega) (fun i (_:Unit)=>(i,())) (fun _ _=>True) ?_ ?_ (s:=()) trivial
  ·intro i m s _ hd hm hi hdec hx hadd;obtain⟨hm1,hm2⟩:=h.heard m hm;simp only[aP];rw[hdec,Qk,hx,Qa,hadd];simp only[ar.eta];rw[Oy hm1,Qa,Qh hm2];simp only[Qo,Ql]
   by_cases h0:i=0
   ·subst h0;rw[Qh (by omega:¬(0:Int)<((0:Nat):Int))]
    exact .some ⟨(),rfl,trivial⟩
   ·rw[Qg (by omega:(0:Int)<(i:Int))]
    simp only[Qk];have hsub:de .i64 (i:Int) 1=((i - 1:Nat):Int):=by rw[qb (by omega) (by omega)];omega
    have hi1:i - 1<n.au.length:=by omega
    rw[hsub,bg,Qv hi1,Qa]
    have hyi:m=n.au[i]:=by
     rw[bg,Qv hi]at hx;exact(Option.some.inj hx).symm
    have hlt:n.au[i - 1].al<m.al:=by
     rw[hyi];exact List.pairwise_iff_getElem.1 h.eV (i - 1) i hi1 hi (by omega)
    rw[Qh (by omega:¬m.al<=n.au[i - 1].al)]
    exact .some ⟨(),rfl,trivial⟩
  ·intro s _ hdec;simp only;rw[hdec,Ql];exact .some rfl
theorem cY.JI{n:aq}(h:cY n):c8 n.ak/\n.bd.length<=1000000/\n.aD.length<=1000000:=⟨h.ask.aL.sm,h.dg.uz,h.er.uz⟩
def DC:aq:=⟨0,0,0,0,⟨0,[],[]⟩,⟨#[]⟩,[],[],[],[]⟩
theorem agx{n:aq}{m:ar}(h:cY n)(hs:1<=n.aE/\n.aE<=1000000)(hm:tK m)(hne:m.al≠n.al):Yd (rY n m) fun q=>(q.2.1=0/\U2 n n q.1)\/q.2.1=9:=by
 have hlen:=h.len;unfold rY;simp only[etas,aq.eta,ar.eta,EW h hs,Oy hm,Qa,Qo,Ql];rw[Qh hne];simp only[Ql,aP];have kk:∀(a:List ar) (x:ar),a.length<=100->bb 120 (a.length+[x].length)=true:=fun a x ha=>br ⟨by simp only[Q6];omega,by simp only[Q6];omega⟩
 have setl:∀l:List ar,(∀y∈l,tK y/\y.al≠n.al)->l.Pairwise (fun a b=>a.al<b.al)->Yd (Option.bind (fU n {n with au:=l}) fun r14=>some (r14,(0:Int),())) fun q=>(q.2.1=0/\U2 n n q.1)\/q.2.1=9:=by
  intro l h1 h2;refine Yd.bind (FX h.JI (by omega) (n:={n with au:=l}) ⟨h.ask,h.own,h.dg,h.er,h.kq,h.sub,h1,h2⟩) fun r hr=> .some (.inl ⟨rfl,hr.ok,hr.aB,hr.aK,hr.round,hr.aL,hr.seq⟩)
 refine Yd.list n.au (by omega) (fun i (s:Bool×List ar)=>(s.1,i,DC,{n with au:=[]},s.2,()))
  (fun i s=>s.2.length<=2*i/\(∀y∈s.2,tK y/\y.al≠n.al)/\s.2.Pairwise (fun a b=>a.al<b.al)/\(∀y∈s.2,∀z∈n.au.drop i,y.al<z.al)/\(s.1=false->∀y∈s.2,y.al<m.al)) ?_ ?_ (s:=(false,[]))
  ⟨by simp,fun y hy=>absurd hy QR,List.Pairwise.nil,fun y hy=>absurd hy QR,fun _ y hy=>absurd hy QR⟩
 ·rintro i x ⟨d,acc⟩ ⟨a1,a2,a3,a4,a5⟩ hd hx' hi hdec hx hadd;simp only at a1 a2 a3 a4 a5;have hxx:=h.heard x hx'
  have hsort:∀z∈n.au.drop (i+1),x.al<z.al:=by
   have:=h.eV.sublist (List.drop_sublist i n.au);rw[hd,Q4]at this;exact this.1
  have a4x:∀y∈acc,y.al<x.al:=fun y hy=>a4 y hy x (by rw[hd];exact Qx)
  have a4r:∀y∈acc,∀z∈n.au.drop (i+1),y.al<z.al:=fun y hy z hz=>a4 y hy z (by rw[hd];exact Qy _ hz)
  simp only;rw[hdec,Qk,hx,Qa,hadd];have k1:=kk acc m (by omega)
  have k2:=kk acc x (by omega)
  have k3:=kk (acc++[m]) x (by simp only[QB,Q6];omega)
  by_cases hn:x.al=m.al
  ·rw[Qg hn,Qk]
   cases decide (m.aE<=x.aE)with
   |true=>exact .some (.inr rfl)
   |false=>exact .some ⟨(d,acc),rfl,by show acc.length<=2*(i+1);omega,a2,a3,a4r,a5⟩
  ·rw[Qh hn,Ql,k1,k2,k3]
   have plain:(d=false->x.al<m.al)->Yd (some (Sum.inl (d,((i+1:Nat):Int),DC,{n with au:=([]:List ar)},(acc++[x]),())):Option ((Bool×Int×aq×aq×(List ar)×Unit)⊕(aq×Int×Unit))) (Lp (fun t=>∃s':Bool×List ar,t=(s'.1,((i+1:Nat):Int),DC,{n with au:=[]},s'.2,())/\(s'.2.length<=2*(i+1)/\(∀y∈s'.2,tK y/\y.al≠n.al)/\s'.2.Pairwise (fun a b=>a.al<b.al)/\(∀y∈s'.2,∀z∈n.au.drop (i+1),y.al<z.al)/\(s'.1=false->∀y∈s'.2,y.al<m.al))) (fun r=>(r.2.1=0/\U2 n n r.1)\/r.2.1=9)):=by
    intro hdm;refine .some ⟨(d,acc++[x]),rfl,by simp only[QB,Q6];omega,fun y hy=> ?_,?_,fun y hy z hz=> ?_,fun e y hy=> ?_⟩
    ·rcases Qz.1 hy with hy|hy
     ·exact a2 y hy
     ·rw[Q5.1 hy];exact hxx
    ·rw[Qq69];exact⟨a3,List.pairwise_singleton _ _,fun y hy z hz=>by rw[Q5.1 hz];exact a4x y hy⟩
    ·rcases Qz.1 hy with hy|hy
     ·exact a4r y hy z hz
     ·rw[Q5.1 hy];exact hsort z hz
    ·rcases Qz.1 hy with hy|hy
     ·exact a5 e y hy
     ·rw[Q5.1 hy];exact hdm e
   by_cases hlt:m.al<x.al
   ·rw[Qg hlt]
    cases d with
    |true=>exact plain fun e=>by cases e
    |false=>
     have a5:=a5 rfl;simp only[Qp,Qk,Qa];refine .some ⟨(true,(acc++[m])++[x]),rfl,by simp only[QB,Q6];omega,fun y hy=> ?_,?_,fun y hy z hz=> ?_,fun e=>by cases e⟩
     ·rcases Qz.1 hy with hy|hy
      ·rcases Qz.1 hy with hy|hy
       ·exact a2 y hy
       ·rw[Q5.1 hy];exact⟨hm,hne⟩
      ·rw[Q5.1 hy];exact hxx
     ·rw[Qq69,Qq69];refine⟨⟨a3,List.pairwise_singleton _ _,fun y hy z hz=>by rw[Q5.1 hz];exact a5 y hy⟩,List.pairwise_singleton _ _,fun y hy z hz=> ?_⟩
      rw[Q5.1 hz];rcases Qz.1 hy with hy|hy
      ·exact a4x y hy
      ·rw[Q5.1 hy];exact hlt
     ·rcases Qz.1 hy with hy|hy
      ·rcases Qz.1 hy with hy|hy
       ·exact a4r y hy z hz
       ·rw[Q5.1 hy];exact Int.lt_trans hlt (hsort z hz)
      ·rw[Q5.1 hy];exact hsort z hz
   ·rw[Qh hlt];exact plain fun _=>by omega
 ·rintro⟨d,acc⟩ ⟨a1,a2,a3,a4,a5⟩ hdec;simp only at a1 a2 a3 a4 a5;simp only;rw[hdec,Ql];refine Yd.map ?_;have k1:=kk acc m (by omega)
  rw[k1]
  cases d with
  |true=>exact setl acc a2 a3
  |false=>
   simp only[Qp,Qk];refine setl (acc++[m]) (fun y hy=> ?_) ?_
   ·rcases Qz.1 hy with hy|hy
    ·exact a2 y hy
    ·rw[Q5.1 hy];exact⟨hm,hne⟩
   ·rw[Qq69];exact⟨a3,List.pairwise_singleton _ _,fun y hy z hz=>by rw[Q5.1 hz];exact a5 rfl y hy⟩
theorem ae7{n:aq}(h:cY n)(hs:1<=n.aE/\n.aE<=1000000):Yd (zr n) fun q=>(q.2.1=0/\cY q.1/\q.1.al=n.al/\q.1.bc=n.bc/\q.1.ak=n.ak/\(q.1.aE=n.aE\/q.1.aE=n.aE+1))\/q.2.1=3:=by
 unfold zr;simp only[etas,aq.eta,EW h hs,Qa,Qo,Ql];have e5:=h.ask.r1;have e6:=h.ask.r2
 by_cases hr:n.Round=1000
 ·rw[Qg hr];exact .some (.inr rfl)
 ·have hadd:aA .i64 n.Round 1=n.Round+1:=bE (by omega) (by omega)
  rw[Qh hr,Ql,hadd];refine Yd.bind (FX h.JI (by omega) (n:={n with Round:=n.Round+1}) ⟨⟨h.ask.aL,h.ask.v0,h.ask.v1,h.ask.s0,h.ask.s1,by show 1<=n.Round+1;omega,by show n.Round+1<=1000;omega⟩,h.own,h.dg,h.er,h.kq,h.sub,h.heard,h.eV⟩) fun r hr=> .some (.inl ⟨rfl,hr.ok,hr.aB,hr.aK,hr.aL,hr.seq⟩)
theorem afe{n:aq}(h:cY n)(hs:1<=n.aE/\n.aE<=1000000){t:af}(ht:et t):Yd (ub n t) fun q=>q.2.1=0/\cY q.1/\q.1.al=n.al/\q.1.bc=n.bc/\q.1.ak=t/\(q.1.aE=n.aE\/q.1.aE=n.aE+1):=by
 unfold ub;simp only[etas,aq.eta,EW h hs,eD ht,Qa,Qo,Ql,decide_true];obtain⟨b,f,hb⟩:=Un (a:=n.ak) (b:=t) h.ask.aL.sm;rw[f,Qa]
 cases b with
 |true=>exact .some ⟨rfl,h,rfl,rfl,hb.1 rfl,.inl rfl⟩
 |false=>
  refine Yd.bind (FX h.JI (by omega) (n:={n with ak:=t}) ⟨⟨ht,h.ask.v0,h.ask.v1,h.ask.s0,h.ask.s1,h.ask.r1,h.ask.r2⟩,h.own,h.dg,h.er,h.kq,h.sub,h.heard,h.eV⟩) fun r hr=> .some ⟨rfl,hr.ok,hr.aB,hr.aK,hr.aL,hr.seq⟩
theorem ac7{t:af}{v aK:Int}{own:ByteArray}(ht:et t)(h0:0<=v)(h1:v<10)(h2:0<=aK)(h3:aK<=1000000)(ho:own.size<=200):Yd (xj v aK t own) fun q=>q.2.1=0/\cY q.1/\q.1.al=v/\q.1.bc=aK/\q.1.ak=t/\q.1.aE=1:=by
 unfold xj;simp only[etas,aq.eta,eD ht];rw[Qh (by omega:¬v<0),Qh (by omega:¬(10:Int)<=v),Qh (by omega:¬aK<0),Qh (by omega:¬(1000000:Int)<aK),Qh (by omega:¬(200:Int)<((own.size:Nat):Int))]
 simp only[Ql,Qa,decide_true,Qo];have hn:cY ⟨v,aK,1,1,t,own,[],[],[],[]⟩:=⟨⟨ht,h0,h1,h2,h3,by show(1:Int)<=1;omega,by show(1:Int)<=1000;omega⟩,ho,.nil,.nil,.nil,fun x hx=>absurd hx QR,fun x hx=>absurd hx QR,List.Pairwise.nil⟩
 refine Yd.bind (FX hn.JI ⟨by show(0:Int)<=1;omega,by show(1:Int)<=1000000;omega⟩ hn) fun r hr=> .some ⟨rfl,⟨hr.ok.ask,hr.ok.own,hr.ok.dg,hr.ok.er,hr.ok.kq,hr.ok.sub,hr.ok.heard,hr.ok.eV⟩,hr.aB,hr.aK,hr.aL,rfl⟩
end
section
theorem aeY{m:aa}(h:m.aI=3):cm m=m:=by
 have h1:cQ m=m:=by unfold cQ;rw[Qr (.inl h)]
 have h2:fR m=m:=by unfold fR;rw[Qr (.inl (by rw[h];decide))]
 have h3:fD m=m:=by unfold fD;rw[Qs (by rw[h];decide),Qs (by rw[h];decide)]
 have h4:ix m=m:=by unfold ix;rw[Qs (by rw[h];rintro⟨e,_⟩;exact absurd e (by decide))]
 have h5:fm m=m:=by unfold fm;rw[Qr (.inl h)]
 unfold cm;rw[Qr h1,Qr h2,Qr h3,Qr h4];exact h5
structure Cm (m:aa) (t:af) (x:aa):Prop where
 inv:bo x
 seq:fT x
 aB:x.al=m.al
 aK:x.bc=m.bc
 aL:x.ak=t
 ext:m.aI=3->x.aI=3/\x.ab.Value=m.ab.Value
theorem Cm.refl{m:aa}(h:bo m)(hs:fT m):Cm m m.ak m:=⟨h,hs,rfl,rfl,rfl,fun e=>⟨e,rfl⟩⟩
def oz(m x:aa):Prop:=m.aI=3->x.aI=3/\x.ab.Value=m.ab.Value
theorem EP{m:aa}:∀x,bo x->oz m x->oz m (cm x):=fun x _ h e=>by
 have h2:=h e;rw[aeY h2.1];exact h2
theorem EO{m:aa}:∀x,oz m x->oz m (c6 x):=fun x h e=>by
 have h2:=h e;unfold c6;split
 ·exact h2
 ·exact h2
theorem zi{m m1:aa}(h:bo m)(hb:wX m m1):oz m m1:=by
 intro e;rcases hb with⟨v,hv,rfl⟩|⟨x,hx,rfl⟩|⟨h3,hv,hc,rfl⟩|⟨t,ht,rfl⟩
 ·have hz:aF m.ab=false:=by
   rcases h.body with k|k|k|k
   ·exact absurd (k.aT.symm.trans e) (by decide)
   ·exact k.aQ.nz
   ·exact k.aQ.nz
   ·exact k.aQ.nz
  unfold dV;rw[Qs (by rw[hz];decide)]
  exact⟨e,rfl⟩
 ·exact⟨e,rfl⟩
 ·exact absurd e h3
 ·exact⟨e,rfl⟩
theorem E2{m m1:aa}(h:bo m)(hb:wX m m1){q:aa×Int×Unit}(hq:I3 (oz m) m m1 q):q.2.1=0/\Cm m m1.ak q.1:=by
 obtain⟨m2,rfl,ha⟩:=hq;have hf:=abP h hb;obtain⟨f1,f2,f3,f4,f5,f6⟩:=CR m1;obtain⟨s,e,_⟩:=GL m m2;refine⟨rfl,abM ha.inv,aex ha.inv ha.seq (fun hz=>ha.nz (by rw[f6];exact hf.nz hz)),?_,?_,?_,?_⟩
 ·rw[e];exact ha.env.1.trans (f1.trans hf.aB)
 ·rw[e];exact ha.env.2.1.trans (f2.trans hf.aK)
 ·rw[e];exact ha.env.2.2.1.trans f3
 ·rw[e];exact ha.rel
section
variable {m : aa} (h : bo m) (hs : fT m)
 include h hs
theorem F8{v:ByteArray}(hv:jv v):Yd (jR m v) fun q=>q.2.1=0/\Cm m m.ak q.1:=by
 have hb:wX m (dV m v):= .inl ⟨v,hv,rfl⟩;refine(K5 (R:=oz m) EP EO h hs hv (zi h hb)).mono fun q hq=> ?_
 have e:(dV m v).ak=m.ak:=by unfold dV;split<;>rfl
 exact e▸E2 h hb hq
theorem aa9{e:ae}(he:Fx m e):Yd (lz m e) fun q=>(q.2.1=0/\Cm m m.ak q.1)\/q.2.1=9:=by
 have hb:wX m (Gw m e):= .inr (.inl ⟨e,he,rfl⟩);refine(aaI (R:=oz m) EP EO h hs he (zi h hb)).mono fun q hq=> ?_
 rcases hq with⟨hq,_⟩|⟨rfl,_⟩
 ·exact .inl (E2 h hb hq)
 ·exact .inr rfl
theorem aba{t:af}(ht:et t):Yd (qB m t) fun q=>q.2.1=0/\Cm m t q.1:=by
 have hb:wX m (GD m t):= .inr (.inr (.inr ⟨t,ht,rfl⟩));refine(aaO (R:=oz m) EP EO h hs ht (zi h hb)).mono fun q hq=> ?_
 exact E2 h hb hq
theorem aa8:Yd (qA m) fun q=>(q.2.1=0/\Cm m m.ak q.1)\/q.2.1≠0:=by
 have hR:∃R:aa->Prop,(∀m,bo m->R m->R (cm m))/\(∀m,R m->R (c6 m))/\R (pz m)/\(wX m (pz m)->∀x,R x->oz m x):=by
  by_cases hi:wX m (pz m)
  ·exact⟨oz m,EP,EO,zi h hi,fun _ x hx=>hx⟩
  ·exact⟨fun _=>True,fun _ _ _=>trivial,fun _ _=>trivial,trivial,fun hi'=>absurd hi' hi⟩
 obtain⟨R,hR1,hR2,hR0,hRR⟩:=hR;refine(aaG hR1 hR2 h hs hR0).mono fun q hq=> ?_
 rcases hq with⟨⟨m2,rfl,ha⟩,h3,hv,hc⟩|⟨rfl,_⟩|⟨rfl,_⟩
 ·have hb:wX m (pz m):= .inr (.inr (.inl ⟨h3,hv,hc,rfl⟩));exact .inl (E2 h hb ⟨m2,rfl,ha.inv,ha.seq,ha.env,ha.num,ha.nz,hRR hb _ ha.rel,ha.fix⟩)
 ·exact .inr (by show(62:Int)≠0;decide)
 ·exact .inr (by show(3:Int)≠0;decide)
theorem zV:qC m=some (bif decide (m.aI=3)then m.ab.Value else fE,decide (m.aI=3),()):=by
 unfold qC;simp only[aa.eta,etas,vI h hs,Qa,Qo,Ql];cases decide (m.aI=3)<;>rfl
theorem aaJ:tZ m=some (bif aF m.ab then(ae.mk (0:Int) (0:Int) (0:Int) (af.mk (0:Int) ([]:List Int) ([]:List af)) (0:Int) zB zB zB (0:Int) (0:Int))else c5 m,!aF m.ab,()):=by
 unfold tZ;simp only[aa.eta,etas,ae.eta,vI h hs,Qa,Qo,Ql,cv,ze];cases aF m.ab<;>rfl
theorem YU:Yd (sY m) fun _=>True:=by
 have hev:=h.ev;have hlen:=h.len;unfold sY;simp only[aa.eta,etas,ae.eta,aaJ h hs,Qa]
 cases hz:aF m.ab with
 |true=>exact .some trivial
 |false=>
  simp only[Qp,Qo,Ql,Qa]
  cases decide (m.aI=3)with
  |true=>exact .some trivial
  |false=>
   simp only[Ql];have ho:=Jp h hs hz;have hm0:c8 (c5 m).ak:=by rw[sL];exact h.aL.sm
   have hall:∀e∈[c5 m]++m.au,aW e=true/\c8 e.ak:=by
    intro e he;rcases Qz.1 he with he|he
    ·rw[Q5.1 he];exact⟨ho,hm0⟩
    ·exact⟨(h.hv e he).1,(h.hv e he).2.1.sm⟩
   have hl1:([c5 m]++m.au).length<=1000:=by simp;omega
   rw[br (by simp;omega),Qk]
   rw[D2 ([c5 m]++m.au) hl1 (fun e=>decide (eA (c5 m)<=eA e)) (fin:=fun s=>Option.bind (jf m.al m.ak ([c5 m]++m.au)) fun r8=>Option.bind (gd ([c5 m]++m.au) s) fun r9=>Option.bind (kF r8 r9) fun r10=>if(bz .u64 m.al)<0 then none else some (decide ((EH .i64 (kZ .i64 r10 (bz .u64 m.al)) (1:Int))=(1:Int))))
    (fun i e s hs' he hd hx hw=>by
     simp only[hd,hx,hw,O7 hx,Qk,Qa,FY (hall e he).2 (hall e he).1,FY hm0 ho]
     rw[br (by simp;omega),Qk])
    (fun s hd=>by simp only[hd,Ql])]
   have hsml:qZ ([c5 m]++m.au):=⟨by omega,fun e he=>(hall e he).2⟩
   have hn:=hev.aB;have hv:=zU hn.2 (t:=m.ak) hsml;rw[hn.1]at hv;have hin:vO ([c5 m]++m.au):=fun e he=>jc (hall e he).1
   rw[hv,Qa,Aw ([c5 m]++m.au) hl1 _ (fun e he _=>hin e he),Qa,CK (ml h.aL.sm hsml) (mj hin),Qa]
   have hc:bz .u64 m.al=m.al:=by
    rw[<-hn.1];exact acH (by omega)
   rw[hc,Qs (by have:=h.n0;omega)]
   exact .some trivial
def yi(t:dv):Prop:=0<=t.aj/\t.aj<=1000000/\ -1<=t.D8/\t.D8<=212
 omit h hs in
theorem Ta{t:dv}(ht:yi t):tk t=some true:=by
  obtain⟨h1,h2,h3,h4⟩:=ht;unfold tk;rw[Qg h1,Qg h2,Qg h3,Qg h4];rfl
 omit h hs in
theorem Xj{c:Int}(hc:0<=c)(hc2:c<=1000000):Yd (rR c) fun w=>1<=w/\w<=12:=by
  unfold rR
  by_cases h:12<=c
  ·rw[Qg h];exact .some ⟨by decide,by decide⟩
  ·have hadd:aA .i64 c 1=c+1:=bE (by omega) (by omega)
   rw[Qh h,Ql,hadd];refine .some ?_;unfold bD;split<;>omega
 omit hs in
theorem Yh:0<=m.ab.aj/\m.ab.aj<=1000:=by
  rcases h.body with k|k|k|k
  ·rw[k.aQ];exact⟨by decide,by decide⟩
  ·exact⟨by have:=k.aQ.1;omega,k.aQ.2.1⟩
  ·exact⟨by have:=k.aQ.1;omega,k.aQ.2.1⟩
  ·exact⟨by have:=k.aQ.1;omega,k.aQ.2.1⟩
theorem ac6{t:dv}(ht:yi t){now:Int}(h0:0<=now)(h1:now<=200):Yd (zn t m now) fun q=>yi q.1:=by
 obtain⟨b0,b1⟩:=Yh h;unfold zn;simp only[aa.eta,etas,Ta ht,Qa,Qo,Ql];rw[Qh (by omega:¬now<0),Qh (by omega:¬(200:Int)<now)]
 simp only[Ql,Qa];refine Yd.bind (YU h hs) fun b _=> ?_
 have off:yi ⟨m.ab.aj, -1⟩:=⟨b0,by show m.ab.aj<=1000000;omega,by show(-1:Int)<= -1;omega,by show(-1:Int)<=212;omega⟩
 cases b with
 |false=>exact .some off
 |true=>
  simp only[Qo,Ql];refine Yd.bind (p:=fun _=>True) (Yd.cond (fun _=> .some trivial) fun _=> .some trivial) fun c _=> ?_
  cases c with
  |true=>
   rw[Qk];refine Yd.bind (Xj b0 (by omega)) fun w ⟨w1,w2⟩=> ?_
   have hadd:aA .i64 now w=now+w:=bE (by omega) (by omega)
   rw[hadd];exact .some ⟨b0,by show m.ab.aj<=1000000;omega,by show -1<=now+w;omega,by show now+w<=212;omega⟩
  |false=>
   rw[Ql]
   cases decide (t.D8<=now)with
   |true=>exact .some off
   |false=>exact .some ht
end
end
section
structure tJ (nd sl:Int) (k:Int) (x:bp):Prop where
 ky:bo x.an
 mo:fT x.an
 aB:x.an.al=nd
 aK:x.an.bc=sl
 oF:cY x.az
 pJ:1<=x.az.aE/\x.az.aE<=1+k
 sC:x.az.al=nd
 w6:x.az.bc=sl
 aL:x.az.ak=x.an.ak
 timer:yi x.Timer
 round:1<=x.Round/\x.Round<=1000
 next:0<=x.Next/\x.Next<=212
structure oA (nd sl:Int) (k:Int) (x:bp):Prop where
 pre:tJ nd sl k x
 done:x.BL=decide (x.an.aI=3)
 value:x.Value=bif decide (x.an.aI=3)then x.an.ab.Value else fE
theorem tJ.le{nd sl k k':Int}{x:bp}(h:tJ nd sl k x)(hk:k<=k'):tJ nd sl k' x:=⟨h.ky,h.mo,h.aB,h.aK,h.oF,⟨h.pJ.1,by have:=h.pJ.2;omega⟩,h.sC,h.w6,h.aL,h.timer,h.round,h.next⟩
theorem oA.le{nd sl k k':Int}{x:bp}(h:oA nd sl k x)(hk:k<=k'):oA nd sl k' x:=⟨h.pre.le hk,h.done,h.value⟩
theorem tJ.W9{nd sl k:Int}{x:bp}(h:tJ nd sl k x){m:aa}(hm:Cm x.an x.an.ak m):tJ nd sl k {x with an:=m}:=⟨hm.inv,hm.seq,hm.aB.trans h.aB,hm.aK.trans h.aK,h.oF,h.pJ,h.sC,h.w6,h.aL.trans hm.aL.symm,h.timer,h.round,h.next⟩
theorem vp{nd sl k:Int}{x:bp}(h:tJ nd sl k x):Yd (eK x) fun y=>oA nd sl k y/\oz x.an y.an:=by
 unfold eK;simp only[bp.eta,aq.eta,aa.eta,etas];refine Yd.join (fun v=>tJ nd sl k v.1/\oz x.an v.1.an) (fun v ⟨hv,hst⟩=> ?_) (fun j' hj=> ?_)
 ·rw[zV hv.ky hv.mo,Qa];exact .some ⟨⟨⟨hv.ky,hv.mo,hv.aB,hv.aK,hv.oF,hv.pJ,hv.sC,hv.w6,hv.aL,hv.timer,hv.round,hv.next⟩,rfl,rfl⟩,hst⟩
 ·have same:tJ nd sl k x/\oz x.an x.an:=⟨h,fun e=>⟨e,rfl⟩⟩
  refine Yd.bind (Xr h.oF.kq.uz) fun c hc=> ?_
  rw[cv];simp only[Qa]
  have go:c.2.1=false\/jv c.1:=by
   cases e:c.2.1 with
   |false=>exact .inl rfl
   |true=>exact .inr (hc e)
  have hcond:∀b1 b2 b3:Bool,Yd (Option.bind (bif b1 then some b2 else some false) fun b5=>Option.bind (bif b5 then some b3 else some false) fun b7=>Option.bind (bif b7 then some (!decide (c.1=x.an.ba))else some false) fun b8=>(some b8:Option Bool)) fun b=>b=true->b1=true:=fun b1 b2 b3=>by
   cases b1 with
   |true=>cases b2<;>cases b3<;>exact .some fun _=>rfl
   |false=>exact .some fun e=>e
  obtain⟨b8,hb8,hb8'⟩:=hcond c.2.1 (decide (x.an.aI=1)) (aF x.an.ax)
  have key:∀K:Bool->Option bp,(Option.bind (bif c.2.1 then some (decide (x.an.aI=1))else some false) fun b5=>Option.bind (bif b5 then some (aF x.an.ax)else some false) fun b7=>Option.bind (bif b7 then some (!decide (c.1=x.an.ba))else some false) K)=K b8:=by
   intro K;revert hb8
   cases c.2.1 with
   |false=>intro e;cases e;rfl
   |true=>
    cases decide (x.an.aI=1)with
    |false=>intro e;cases e;rfl
    |true=>
     cases aF x.an.ax with
     |false=>intro e;cases e;rfl
     |true=>intro e;cases e;rfl
  rw[key]
  cases b8 with
  |false=>exact hj (x,()) same
  |true=>
   rw[Qk];have hv:=hc (hb8' rfl);refine Yd.bind (F8 h.ky h.mo hv) fun q ⟨h0,hn⟩=> ?_
   rw[h0];exact hj (_,()) ⟨h.W9 hn,hn.ext⟩
theorem xv{nd sl k:Int}{x:bp}(h:oA nd sl k x)(hk:k<=999999):lS x=some true:=by
 have p:=h.pre;obtain⟨b,f,hb⟩:=Un (a:=x.az.ak) (b:=x.an.ak) p.oF.ask.aL.sm;have hbt:=hb.2 p.aL;subst hbt;unfold lS;simp only[aq.eta,aa.eta,etas,vI p.ky p.mo,EW p.oF ⟨p.pJ.1,by have:=p.pJ.2;omega⟩,f,Ta p.timer,zV p.ky p.mo,Qa,Qo,Ql]
 rw[Qg (p.sC.trans p.aB.symm),Qg (p.w6.trans p.aK.symm),Qg p.round.1,Qg p.round.2,Qg p.next.1,Qg p.next.2,Qg h.done,Qg h.value]
 rfl
def xT(nd sl:Int)(k:Int)(x y:bp):Prop:=oA nd sl k y/\oz x.an y.an
theorem xT.self{nd sl k k':Int}{x:bp}(h:oA nd sl k x)(hk:k<=k'):xT nd sl k' x x:=⟨h.le hk,fun e=>⟨e,rfl⟩⟩
section
variable {nd sl k : Int} {x : bp} (h : oA nd sl k x) (hk : k <= 999998)
 include h hk
theorem Xo{m:ar}(hm:tK m)(hne:m.al≠nd):Yd (iJ x m) fun q=>(q.2.1=0/\xT nd sl (k+1) x q.1)\/q.2.1≠0:=by
 have p:=h.pre;unfold iJ;simp only[bp.eta,aq.eta,aa.eta,ar.eta,etas,xv h (by omega),Qa,Qo,Ql]
 refine Yd.bind (agx p.oF ⟨p.pJ.1,by have:=p.pJ.2;omega⟩ hm (by rw[p.sC];exact hne)) fun q hq=> ?_
 rcases hq with⟨h0,hq⟩|h9
 ·rw[h0];simp only[decide_true,Qo,Ql];have h1:=p.pJ;refine Yd.bind (vp (k:=k+1) (x:={x with az:=q.1}) ⟨p.ky,p.mo,p.aB,p.aK,hq.ok,?_,hq.aB.trans p.sC,hq.aK.trans p.w6,hq.aL.trans p.aL,p.timer,p.round,p.next⟩) fun y hy=> .some (.inl ⟨rfl,hy⟩)
  show 1<=q.1.aE/\q.1.aE<=1+(k+1);rcases hq.seq with e|e<;>rw[e]<;>omega
 ·rw[h9];exact .some (.inr (by show(9:Int)≠0;decide))
theorem Y0{e:ae}(he:Fx x.an e\/(c8 e.ak/\aW e=false)):Yd (sX x e) fun q=>(q.2.1=0/\xT nd sl k x q.1)\/q.2.1≠0:=by
 have p:=h.pre;unfold sX;simp only[bp.eta,aq.eta,aa.eta,ae.eta,etas,xv h (by omega),Qa,Qo,Ql]
 rcases he with he|⟨ht,hv⟩
 ·refine Yd.bind (aa9 p.ky p.mo he) fun q hq=> ?_
  rcases hq with⟨h0,hq⟩|h9
  ·rw[h0];simp only[decide_true,Qo,Ql];refine Yd.bind (vp (p.W9 hq)) fun y hy=> .some (.inl ⟨rfl,hy.1,fun e=> ?_⟩)
   have e1:=hq.ext e;have e2:=hy.2 e1.1;exact⟨e2.1,e2.2.trans e1.2⟩
  ·rw[h9];exact .some (.inr (by show(9:Int)≠0;decide))
 ·rw[ac8 p.ky p.mo ht (.inl hv)];exact .some (.inr (by show(61:Int)≠0;decide))
theorem YX{v:ByteArray}(hv:jv v):Yd (vR x v) fun q=>(q.2.1=0/\xT nd sl k x q.1)\/q.2.1≠0:=by
 have p:=h.pre;unfold vR;simp only[bp.eta,aq.eta,aa.eta,etas,xv h (by omega),Qa,Qo,Ql]
 refine Yd.bind (F8 p.ky p.mo hv) fun q ⟨h0,hq⟩=> ?_
 rw[h0];simp only[decide_true,Qo,Ql];refine Yd.bind (vp (p.W9 hq)) fun y hy=> .some (.inl ⟨rfl,hy.1,fun e=> ?_⟩)
 have e1:=hq.ext e;have e2:=hy.2 e1.1;exact⟨e2.1,e2.2.trans e1.2⟩
theorem Xq{t:af}(ht:et t):Yd (tY x t) fun q=>(q.2.1=0/\xT nd sl (k+1) x q.1)\/q.2.1≠0:=by
 have p:=h.pre;unfold tY;simp only[bp.eta,aq.eta,aa.eta,etas,xv h (by omega),Qa,Qo,Ql]
 have h1:=p.pJ;refine Yd.bind (afe p.oF ⟨p.pJ.1,by omega⟩ ht) fun q ⟨h0,g1,g2,g3,g4,g5⟩=> ?_
 rw[h0];simp only[decide_true,Qo,Ql];refine Yd.bind (aba p.ky p.mo ht) fun r ⟨r0,hr⟩=> ?_
 rw[r0];simp only[decide_true,Qo,Ql];refine Yd.bind (vp (k:=k+1) (x:={x with az:=q.1,an:=r.1}) ⟨hr.inv,hr.seq,hr.aB.trans p.aB,hr.aK.trans p.aK,g1,?_,g2.trans p.sC,g3.trans p.w6,g4.trans hr.aL.symm,p.timer,p.round,p.next⟩) fun y hy=> .some (.inl ⟨rfl,hy.1,fun e=> ?_⟩)
 ·show 1<=q.1.aE/\q.1.aE<=1+(k+1);rcases g5 with e|e<;>rw[e]<;>omega
 ·have e1:=hr.ext e;have e2:=hy.2 e1.1;exact⟨e2.1,e2.2.trans e1.2⟩
theorem ac5{now:Int}(h0:0<=now)(h1:now<=200):Yd (zm x now) fun q=>(q.2.1=0/\xT nd sl (k+1) x q.1)\/q.2.1≠0:=by
 have p:=h.pre;have hsq:=p.pJ;have hrd:=p.round;unfold zm;simp only[bp.eta,aq.eta,aa.eta,etas,xv h (by omega),Qa,Qo,Ql]
 rw[Qh (by omega:¬now<0),Qh (by omega:¬(200:Int)<now)]
 simp only[Ql,Qa];refine Yd.join (fun v=>xT nd sl (k+1) x v.1) (fun v hv=> ?_) (fun j4 hj4=> ?_)
 ·have pv:=hv.1.pre;refine Yd.bind (ac6 pv.ky pv.mo pv.timer h0 h1) fun t ht=> ?_
  refine Yd.join (fun w=>xT nd sl (k+1) x w.1) (fun w hw=> .some (.inl ⟨rfl,hw⟩)) (fun j7 hj7=> ?_)
  have pt:tJ nd sl (k+1) {v.1 with Timer:=t.1}:=⟨pv.ky,pv.mo,pv.aB,pv.aK,pv.oF,pv.pJ,pv.sC,pv.w6,pv.aL,ht,pv.round,pv.next⟩
  cases t.2.1 with
  |false=>exact hj7 (_,()) ⟨⟨pt,hv.1.done,hv.1.value⟩,hv.2⟩
  |true=>
   rw[Qk];refine Yd.join (fun w=>tJ nd sl (k+1) w.1/\oz v.1.an w.1.an) (fun w ⟨hw,hst⟩=> ?_) (fun j9 hj9=> ?_)
   ·refine Yd.bind (vp hw) fun y hy=>hj7 (y,()) ⟨hy.1,fun e=> ?_⟩
    have e1:=hv.2 e;have e2:=hst e1.1;have e3:=hy.2 e2.1;exact⟨e3.1,e3.2.trans (e2.2.trans e1.2)⟩
   ·refine Yd.bind (aa8 pv.ky pv.mo) fun r hr=> ?_
    rcases hr with⟨r0,hr⟩|hr
    ·rw[r0];exact hj9 (_,()) ⟨pt.W9 hr,hr.ext⟩
    ·rw[Qh hr];exact hj9 (_,()) ⟨pt,fun e=>⟨e,rfl⟩⟩
 ·have skip:=hj4 (x,()) (xT.self h (by omega))
  cases decide (((List.length x.az.aM:Nat):Int)=(0:Int))with
  |false=>exact skip
  |true=>
   simp only[Qk,Qa]
   cases decide (x.Next<=now)with
   |false=>exact skip
   |true=>
    rw[Qk];refine Yd.join (fun v=>tJ nd sl (k+1) v.1/\v.1.an=x.an) (fun v ⟨hv,hm⟩=> ?_) (fun j14 hj14=> ?_)
    ·have hvr:=hv.round;have hadd:aA .i64 v.1.Round 1=v.1.Round+1:=bE (by omega) (by omega)
     have hmin:1<=dF (v.1.Round+1) 1000/\dF (v.1.Round+1) 1000<=1000:=by unfold dF;split<;>omega
     rw[hadd];refine Yd.bind (Xj (by omega) (by omega)) fun w ⟨w1,w2⟩=> ?_
     have hadd2:aA .i64 now w=now+w:=bE (by omega) (by omega)
     rw[hadd2];refine Yd.bind (vp (k:=k+1) (x:=⟨v.1.az,v.1.an,v.1.Timer,dF (v.1.Round+1) 1000,now+w,v.1.BL,v.1.Value⟩) ⟨hv.ky,hv.mo,hv.aB,hv.aK,hv.oF,hv.pJ,hv.sC,hv.w6,hv.aL,hv.timer,hmin,by show 0<=now+w/\now+w<=212;omega⟩) fun y hy=>hj4 (y,()) ⟨hy.1,?_⟩
     have h2:=hy.2;simp only at h2;rw[hm]at h2;exact h2
    ·refine Yd.bind (ae7 p.oF ⟨p.pJ.1,by omega⟩) fun q hq=> ?_
     rcases hq with⟨q0,g1,g2,g3,g4,g5⟩|q3
     ·rw[q0];refine hj14 (_,()) ⟨⟨p.ky,p.mo,p.aB,p.aK,g1,?_,g2.trans p.sC,g3.trans p.w6,g4.trans p.aL,p.timer,p.round,p.next⟩,rfl⟩
      show 1<=q.1.aE/\q.1.aE<=1+(k+1);rcases g5 with e|e<;>rw[e]<;>omega
     ·rw[q3];exact hj14 (x,()) ⟨p.le (by omega),rfl⟩
end
theorem H8{s:dm}(hO:ma s){v:Int}(h0:0<=v)(h1:v<10):Yd (nh s v) fun q=>ma q.2/\tK q.1/\q.1.al=v/\q.1.aE<=30:=by
 unfold nh;refine Yd.bind (nS hO (by omega) (by omega) (by omega)) fun p1 ⟨hO1,hlo,hhi,_⟩=> ?_
 refine Yd.bind (GS hO1 (n:=4) (by omega) (by omega)) fun p2 ⟨hO2,ht,_,_⟩=> ?_
 simp only[etas,aP];have hpw:([(ByteArray.mk #[97]),(ByteArray.mk #[98]),(ByteArray.mk #[99]),(ByteArray.mk #[97,97])]:List ByteArray).Pairwise (fun a b=>bJ a b=true):=by decide+kernel
 have hval:∀x∈([(ByteArray.mk #[97]),(ByteArray.mk #[98]),(ByteArray.mk #[99]),(ByteArray.mk #[97,97])]:List ByteArray),jv x:=by
  intro x hx;have:=KL.size (v:=x) hx;exact⟨this.1,by omega⟩
 have hlen:([(ByteArray.mk #[97]),(ByteArray.mk #[98]),(ByteArray.mk #[99]),(ByteArray.mk #[97,97])]:List ByteArray).length=4:=rfl;revert hpw hval hlen;generalize ([(ByteArray.mk #[97]),(ByteArray.mk #[98]),(ByteArray.mk #[99]),(ByteArray.mk #[97,97])]:List ByteArray)=L;intro hpw hval hlen;have vl:∀l:List ByteArray,l.Sublist L->VL l:=fun l hl=>⟨fun x hx=>hval x (hl.subset hx),hpw.sublist hl,by have:=hl.length_le;omega⟩
 refine Yd.list L (by omega) (fun i (s:dm×List ByteArray×List ByteArray)=>(i,s.1,(ar.mk v p1.1 p2.1 [] []),s.2.1,s.2.2,())) (fun i s=>ma s.1/\s.2.1.Sublist (L.take i)/\s.2.2.Sublist (L.take i)) ?_ ?_ (s:=(p2.2,[],[])) ⟨hO2,List.nil_sublist _,List.nil_sublist _⟩
 ·rintro i x ⟨s,vs,as_⟩ ⟨hs,g1,g2⟩ hd hx' hi hdec hx hadd;simp only at hs g1 g2;have l1:=g1.length_le;have l2:=g2.length_le;rw[List.length_take]at l1 l2
  have e:L.take (i+1)=L.take i++[x]:=by
   have hi2:L[i]?=some x:=by rw[bg]at hx;exact hx
   rw[List.take_add_one,hi2];rfl
  have w1:vs.Sublist (L.take (i+1)):=by rw[e];exact g1.trans (List.sublist_append_left _ _)
  have w2:as_.Sublist (L.take (i+1)):=by rw[e];exact g2.trans (List.sublist_append_left _ _)
  have w3:(vs++[x]).Sublist (L.take (i+1)):=by rw[e];exact g1.append (List.Sublist.refl _)
  have w4:(as_++[x]).Sublist (L.take (i+1)):=by rw[e];exact g2.append (List.Sublist.refl _)
  simp only;rw[hdec,Qk,hx,Qa,hadd,br (by simp;omega),br (by simp;omega)]
  refine Yd.bind (pM hs (by omega)) fun p10 ⟨hO3,_,_,_⟩=> ?_
  have fin:∀vs':List ByteArray,vs'.Sublist (L.take (i+1))->Yd (Option.bind (bR p10.2 (3:Int)) fun p9=>
    bif (decide (p9.1=(2:Int)))then
    bif true then
    some (Sum.inl (((i+1:Nat):Int),p9.2,(ar.mk v p1.1 p2.1 ([]:List ByteArray) ([]:List ByteArray)),vs',(as_++[x]),()))
    else none
    else
    some (Sum.inl (((i+1:Nat):Int),p9.2,(ar.mk v p1.1 p2.1 ([]:List ByteArray) ([]:List ByteArray)),vs',as_,())):Option ((Int×dm×ar×(List ByteArray)×(List ByteArray)×Unit)⊕(ar×dm))) (Lp (fun t=>∃s':dm×List ByteArray×List ByteArray,t=(((i+1:Nat):Int),s'.1,(ar.mk v p1.1 p2.1 [] []),s'.2.1,s'.2.2,())/\(ma s'.1/\s'.2.1.Sublist (L.take (i+1))/\s'.2.2.Sublist (L.take (i+1)))) (fun r=>ma r.2/\tK r.1/\r.1.al=v/\r.1.aE<=30)):=by
   intro vs' hvs;refine Yd.bind (pM hO3 (by omega)) fun p9 ⟨hO4,_,_,_⟩=> ?_
   cases decide (p9.1=2)with
   |true=>exact .some ⟨(p9.2,vs',as_++[x]),rfl,hO4,hvs,w4⟩
   |false=>exact .some ⟨(p9.2,vs',as_),rfl,hO4,hvs,w2⟩
  cases decide (p10.1=1)with
  |true=>exact fin _ w3
  |false=>exact fin _ w1
 ·rintro⟨s,vs,as_⟩ ⟨hs,g1,g2⟩ hdec;simp only at hs g1 g2;rw[Qq62]at g1 g2;simp only;rw[hdec,Ql];exact .some ⟨hs,⟨h0,h1,hlo,ht,vl _ g1,vl _ g2⟩,rfl,hhi (by omega)⟩
theorem aeX{k:Int}{x:bp}(h:oA 0 1 k x)(hk:k<=999998){s:dm}(hO:ma s){now:Int}(h0:0<=now)(h1:now<=190):Yd (zx s x now) fun q=>ma q.2/\xT 0 1 (k+1) x q.1.1/\now<=q.1.2.1/\q.1.2.1<=now+4:=by
 unfold zx;simp only[bp.eta,aq.eta,aa.eta,etas];refine Yd.join (fun v=>ma v.2.2.1/\(v.2.1=0->xT 0 1 (k+1) x v.2.2.2.1)/\now<=v.1/\v.1<=now+4) (fun v ⟨hv1,hv2,hv3,hv4⟩=> ?_) (fun j' hj=> ?_)
 ·by_cases e:v.2.1=0
  ·rw[Qg e];exact .some ⟨hv1,hv2 e,hv3,hv4⟩
  ·rw[Qh e];exact .some ⟨hv1,xT.self h (by omega),hv3,hv4⟩
 ·refine Yd.bind (pM hO (by omega)) fun p3 ⟨hO3,_,_,_⟩=> ?_
  have out:∀{c:Int} {y:bp} {k':Int},k'<=k+1->((c=0/\xT 0 1 k' x y)\/c≠0)->c=0->xT 0 1 (k+1) x y:=fun{c y k'} hk' hq e=>hq.elim (fun g=>⟨g.2.1.le hk',g.2.2⟩) fun g=>absurd e g
  refine Yd.cond (fun _=> ?_) (fun _=>Yd.cond (fun _=> ?_) (fun _=>Yd.cond (fun _=> ?_) (fun _=>Yd.cond (fun _=> ?_) (fun _=> ?_))))
  ·refine Yd.bind (pM hO3 (by omega)) fun p4 ⟨hO4,g0,g1,_⟩=> ?_
   have g1:=g1 (by omega)
   have hadd:aA .i64 now p4.1=now+p4.1:=bE (by omega) (by omega)
   rw[hadd];refine Yd.bind (ac5 h hk (by omega) (by omega)) fun q hq=> ?_
   exact hj _ ⟨hO4,out (by omega) hq,by show now<=now+p4.1;omega,by show now+p4.1<=now+4;omega⟩
  ·refine Yd.bind (GR hO3) fun p6 ⟨hO6,hv⟩=> ?_
   refine Yd.bind (YX h hk (YF hv)) fun q hq=> ?_
   exact hj _ ⟨hO6,out (by omega) hq,Int.le_refl _,by show now<=now+4;omega⟩
  ·refine Yd.bind (GS hO3 (n:=4) (by omega) (by omega)) fun p8 ⟨hO8,ht,_,_⟩=> ?_
   refine Yd.bind (Xq h hk ht) fun q hq=> ?_
   exact hj _ ⟨hO8,out (by omega) hq,Int.le_refl _,by show now<=now+4;omega⟩
  ·refine Yd.bind (nS hO3 (by omega) (by omega) (by omega)) fun p10 ⟨hO10,hlo,hhi,_⟩=> ?_
   have hhi:=hhi (by omega)
   refine Yd.bind (H8 hO10 (by omega) (by omega)) fun p11 ⟨hO11,hm,hmn,_⟩=> ?_
   simp only[ar.eta];refine Yd.bind (Xo h hk hm (by rw[hmn];omega)) fun q hq=> ?_
   exact hj _ ⟨hO11,out (by omega) hq,Int.le_refl _,by show now<=now+4;omega⟩
  ·refine Yd.bind (nS hO3 (by omega) (by omega) (by omega)) fun p13 ⟨hO13,hlo,hhi,_⟩=> ?_
   have hhi:=hhi (by omega)
   refine Yd.bind (VK hO13 (by omega) (by omega) (by omega) (by omega) (n:=4) (by omega) (by omega)) fun p14 ⟨hO14,he⟩=> ?_
   generalize hE:(ae.mk p14.1.al p14.1.bc (aA .i64 p14.1.aE now) p14.1.ak p14.1.bF p14.1.ab p14.1.ao p14.1.ay p14.1.aS p14.1.bf)=E;have hT:et E.ak:=by rw[<-hE];exact he.aL
   have hN:E.al=p13.1:=by rw[<-hE];exact he.aB
   have hS:E.bc=1:=by rw[<-hE];exact he.aK
   have hh:Fx x.an E\/(c8 E.ak/\aW E=false):=by
    cases hv:aW E with
    |false=>exact .inr ⟨hT.sm,rfl⟩
    |true=>exact .inl ⟨hv,hT,by rw[hS,h.pre.aK],by rw[hN,h.pre.aB];omega⟩
   refine Yd.bind (Y0 h hk hh) fun q hq=> ?_
   exact hj _ ⟨hO14,out (by omega) hq,Int.le_refl _,by show now<=now+4;omega⟩
theorem agL{nd sl:Int}(hv0:0<=nd)(hv1:nd<10)(hs0:1<=sl)(hs1:sl<=1000000){t:af}{own:ByteArray}{now:Int}(ht:et t)(ho:own.size<=200)(h0:0<=now)(h1:now<=200):Yd (AR nd sl t own now) fun q=>q.2.1=0/\oA nd sl 0 q.1:=by
 unfold AR;simp only[bp.eta,aq.eta,aa.eta,etas];rw[Qh (by omega:¬now<0),Qh (by omega:¬(200:Int)<now)]
 simp only[Ql,Qa];rw[ahU hv0 hv1 hs0 hs1 ht];simp only[Qa,decide_true,Qo,Ql];refine Yd.bind (ac7 ht hv0 hv1 (by omega) hs1 ho) fun q ⟨q0,g1,g2,g3,g4,g5⟩=> ?_
 rw[q0];simp only[decide_true,Qo,Ql];refine Yd.bind (Xj (by omega) (by omega)) fun w ⟨w1,w2⟩=> ?_
 have hadd2:aA .i64 now w=now+w:=bE (by omega) (by omega)
 rw[hadd2];obtain⟨m1,m2⟩:=We (aB:=nd) (aK:=sl) hv0 hv1 hs0 hs1 ht;have ht0:yi ⟨0, -1⟩:=⟨by decide,by decide,by decide,by decide⟩
 refine Yd.bind (vp (k:=0) (x:=⟨q.1,Ei nd sl t,⟨0, -1⟩,1,now+w,false,ByteArray.mk #[]⟩) ⟨m1,m2,rfl,rfl,g1,by show 1<=q.1.aE/\q.1.aE<=1+0;rw[g5];decide,g2,g3,g4,ht0,⟨(by decide:(1:Int)<=1),(by decide:(1:Int)<=1000)⟩,by show 0<=now+w/\now+w<=212;omega⟩) fun y hy=> .some ⟨rfl,hy.1⟩
end
section
theorem xw(a b:ByteArray):eu a b=some (uP a b):=by
 simp[eu,uP]
theorem ZY{a b:ByteArray}:decide (0<=uP a b)= !bJ a b:=by
 rw[<-sR]
 by_cases h:uP a b<0
 ·rw[Qg h,Qh (by omega)];rfl
 ·rw[Qh h,Qg (by omega)];rfl
theorem Tl(x:ByteArray):qE x=some (decide (jv x)):=Mz x
theorem MJ{l:List ByteArray}(h:VL l):iK l=some true:=by
 unfold iK;refine Yd.eq_true (Yd.list l h.uz (fun i (_:Unit)=>(i,())) (fun _ _=>True) ?_ ?_ (s:=()) trivial)
 ·intro i y s hs hd hy hi hdec hx hadd;simp only;rw[hdec,Qk,hx,Qa,Tl,Qa,Qg (h.qL y hy),hadd];simp only[Qo,Ql]
  by_cases h0:i=0
  ·subst h0;rw[Qh (by omega:¬(0:Int)<((0:Nat):Int))]
   exact .some ⟨(),rfl,trivial⟩
  ·rw[Qg (by omega:(0:Int)<(i:Int))]
   simp only[Qk];have hsub:de .i64 (i:Int) 1=((i - 1:Nat):Int):=by rw[qb (by omega) (by have:=h.len;omega)];omega
   have hi1:i - 1<l.length:=by omega
   rw[hsub,bg,Qv hi1,Qa,xw,Qa,ZY]
   have hyi:y=l[i]:=by
    rw[bg,Qv hi]at hx;exact(Option.some.inj hx).symm
   have hlt:bJ l[i - 1] y=true:=by
    rw[hyi];exact List.pairwise_iff_getElem.1 h.Fs (i - 1) i hi1 hi (by omega)
   rw[hlt];exact .some ⟨(),rfl,trivial⟩
 ·intro s hs hdec;simp only;rw[hdec,Ql,Qg (by have:=h.len;omega:((l.length:Nat):Int)<=(40:Int))]
  exact .some rfl
theorem afl(l:List ByteArray)(hl:l.length<=1000000)(x:ByteArray):Yd (jx l x) fun r=>decide (0<=r)=decide (x∈l):=by
 unfold jx;refine Yd.list l hl (fun i (_:Unit)=>(i,())) (fun i _=>x∉l.take i) ?_ ?_ (s:=()) (by simp)
 ·intro i y s hs hd hy hi hdec hx hadd;simp only;rw[hdec,Qk,hx,Qa,hadd]
  by_cases hxy:x=y
  ·rw[Qg hxy,Qk];refine .some ?_;show decide ((0:Int)<=(i:Int))=decide (x∈l);rw[Qg (by omega:(0:Int)<=(i:Int))]
   exact(Qg (by rw[hxy];exact hy)).symm
  ·rw[Qh hxy,Ql];refine .some ⟨(),rfl,?_⟩
   have hi2:l[i]?=some y:=by
    rw[bg]at hx;exact hx
   rw[List.take_add_one,hi2];simp only[Option.toList_some,Qz,Q5];exact fun h=>h.elim hs hxy
 ·intro s hs hdec;simp only;rw[hdec,Ql];rw[Qq62]at hs;refine .some ?_;show decide ((0:Int)<= -1)=decide (x∈l);rw[Qh hs];rfl
theorem H6(l:List ByteArray)(hl:l.length<=1000000)(x:ByteArray):kK l x=some (decide (x∈l)):=by
 obtain⟨r,h1,h2⟩:=afl l hl x;unfold kK lh;rw[h1,Qa,Qa,h2]
theorem Sd{v:Int}(h0:0<=v)(h1:v<10):lL v=some true:=by
 unfold lL;rw[Qg h0,Qg h1];rfl
theorem V8{m:ar}(h:tK m):ng m=some true:=by
 unfold ng;simp only[etas,Sd h.n0 h.n1,dn h.aL,MJ h.dg,MJ h.er];rw[Qg h.seq];rfl
theorem Zi{n:aq}(h:cY n):fp n.aM n=some false:=by
 unfold fp je;simp only[etas,aq.eta]
 have:=Yd.list (p:=fun r:Int=>r= -1) (step:=fun(v1:Int×Unit)=>
   bif (decide (v1.1<((List.length n.aM:Nat):Int)))then
   Option.bind (idx n.aM v1.1) fun x2=>
   Option.bind (oC x2 n) fun r3=>
   bif r3 then
   Option.map Sum.inr (some v1.1)
   else
   some (Sum.inl ((aA .i64 v1.1 (1:Int)),()))
   else
   Option.map Sum.inr (some (-1:Int))) n.aM h.kq.uz (fun i (_:Unit)=>(i,())) (fun _ _=>True) ?_ ?_ (s:=()) trivial
 ·obtain⟨r,h1,rfl⟩:=this;rw[h1];rfl
 ·intro i x s _ hd hx' hi hdec hx hadd;simp only;unfold oC;rw[hdec,Qk,hx,Qa,hadd,H6 _ h.er.uz,Qg (h.sub x hx')];exact .some ⟨(),rfl,trivial⟩
 ·intro s _ hdec;simp only;rw[hdec,Ql];exact .some rfl
theorem V6{n:aq}(h:cY n)(hs:1<=n.aE/\n.aE<=1000000):nc n=some true:=by
 have hlen:=h.len;unfold nc s5;simp only[etas,aq.eta,Sd h.ask.v0 h.ask.v1,dn h.ask.aL,MJ h.dg,MJ h.er,MJ h.kq,Zi h];rw[Qg h.ask.s0,Qg h.ask.s1,Qg h.ask.r1,Qg h.ask.r2,Qg hs.1,Qg hs.2,Qh (by have:=h.own;omega:¬(200:Int)<((n.l9.size:Nat):Int))]
 simp only[Ql,Qk,Qa,decide_true,Qo];refine Yd.eq_true ?_;refine Yd.list n.au (by omega) (fun i (_:Unit)=>(i,())) (fun _ _=>True) ?_ ?_ (s:=()) trivial
 ·intro i m s _ hd hm hi hdec hx hadd;obtain⟨hm1,hm2⟩:=h.heard m hm;simp only[aP];rw[hdec,Qk,hx,Qa,hadd];simp only[ar.eta];rw[V8 hm1,Qa,Qh hm2];simp only[Qo,Ql]
  by_cases h0:i=0
  ·subst h0;rw[Qh (by omega:¬(0:Int)<((0:Nat):Int))]
   exact .some ⟨(),rfl,trivial⟩
  ·rw[Qg (by omega:(0:Int)<(i:Int))]
   simp only[Qk];have hsub:de .i64 (i:Int) 1=((i - 1:Nat):Int):=by rw[qb (by omega) (by omega)];omega
   have hi1:i - 1<n.au.length:=by omega
   rw[hsub,bg,Qv hi1,Qa]
   have hyi:m=n.au[i]:=by
    rw[bg,Qv hi]at hx;exact(Option.some.inj hx).symm
   have hlt:n.au[i - 1].al<m.al:=by
    rw[hyi];exact List.pairwise_iff_getElem.1 h.eV (i - 1) i hi1 hi (by omega)
   rw[Qh (by omega:¬m.al<=n.au[i - 1].al)]
   exact .some ⟨(),rfl,trivial⟩
 ·intro s _ hdec;simp only;rw[hdec,Ql];exact .some rfl
theorem afj{t:dv}(ht:yi t):Ay t=some true:=Ta ht
theorem Lc{nd sl k:Int}{x:bp}(h:oA nd sl k x)(hk:k<=999999):rQ x=some true:=by
 have p:=h.pre;obtain⟨b,f,hb⟩:=eqT (a:=x.az.ak) (b:=x.an.ak) p.oF.ask.aL.sm;have hbt:=hb.2 p.aL;subst hbt;unfold rQ;simp only[aq.eta,aa.eta,etas,JE p.ky p.mo,V6 p.oF ⟨p.pJ.1,by have:=p.pJ.2;omega⟩,f,afj p.timer,F2 p.ky p.mo,Qa,Qk]
 rw[Qg (p.sC.trans p.aB.symm),Qg (p.w6.trans p.aK.symm),Qg p.round.1,Qg p.round.2,Qg p.next.1,Qg p.next.2,Qg h.done,Qg h.value]
 rfl
theorem rM(l:List ByteArray)(h:l.length<=1000):bK l=some l:=by
 unfold bK;have hk:bb 16 (([]:List ByteArray).length+l.length)=true:=br ⟨by simp;omega,by simp;omega⟩
 rw[hk]
 cases l with
 |nil=>simp
 |cons x l=>simp
theorem OC{t:af}(h:c8 t):na t=some t:=(show na t=gJ t from rfl).trans (qt h)
theorem PZ{m:ar}(ht:c8 m.ak)(hv:m.bd.length<=1000)(ha:m.aD.length<=1000):lC m=some m:=by
 unfold lC;simp only[etas,OC ht,rM _ hv,rM _ ha,Qa]
theorem To{m:ar}(ht:c8 m.ak)(hv:m.bd.length<=1000)(ha:m.aD.length<=1000):mi m=some m:=by
 unfold mi;simp only[etas,qt ht,rM _ hv,rM _ ha,Qa]
theorem Su{m:aa}(h:bo m):aF m.ab=decide (m.ab.aj=0):=by
 rcases h.body with k|k|k|k
 ·rw[k.aQ];rfl
 all_goals
  rw[k.aQ.nz,Qh (by have:=k.aQ.1;omega)]
theorem aa3{nd sl k:Int}{x:bp}(h:oA nd sl k x)(hk:k<=999999):Yd (vQ x) fun l=>l.length=(bif x.BL then 0 else 1)+(bif decide (x.an.ab.aj=0)then 0 else 1):=by
 have p:=h.pre;obtain⟨e,he,_⟩:=aa2 p.ky p.mo;have l1:=p.oF.dg.len;have l2:=p.oF.er.len;unfold vQ xR gf;simp only[bp.eta,aq.eta,aa.eta,ar.eta,ae.eta,etas,Lc h hk,Qa,Qo,Ql,he,aP];rw[PZ p.oF.ask.aL.sm (by show x.az.bd.length<=1000;omega) (by show x.az.aD.length<=1000;omega)]
 simp only[Qa];rw[To p.oF.ask.aL.sm (by show x.az.bd.length<=1000;omega) (by show x.az.aD.length<=1000;omega)]
 rw[<-Su p.ky];simp only[Qa,List.nil_append];rw[br (by simp),br (by simp),br (by simp)]
 cases x.BL<;>cases aF x.an.ab<;>exact .some rfl
end
section
def tA:af:=⟨1,vW 1,[]⟩
def vA:ByteArray:=ByteArray.mk #[97]
theorem vj:et tA:=by
 refine⟨fun x hx=> ?_,?_,?_,.inl rfl,?_⟩
 ·obtain⟨k,hk,rfl⟩:=OE.1 hx;omega
 ·decide
 ·decide
 ·decide
theorem Ja:jv vA:=by decide
theorem vlA:VL [vA]:=⟨fun x hx=>by rw[Q5.1 hx];exact Ja,List.pairwise_singleton _ _,by decide⟩
theorem adA(l:List Int)(hl:l.length<=1000000)(x:Int):Yd (kb l x) fun r=>decide (0<=r)=true->x∈l:=by
 unfold kb;refine Yd.list l hl (fun i (_:Unit)=>(i,())) (fun _ _=>True) ?_ ?_ (s:=()) trivial
 ·intro i y s hs hd hy hi hdec hx hadd;simp only;rw[hdec,Qk,hx,Qa,hadd]
  by_cases hxy:x=y
  ·rw[Qg hxy,Qk];exact .some fun _=>by rw[hxy];exact hy
  ·rw[Qh hxy,Ql];exact .some ⟨(),rfl,trivial⟩
 ·intro s hs hdec;simp only;rw[hdec,Ql];exact .some fun e=>by cases e
theorem agD(a b c d:Int):∃r,mG a b c d=some r:=⟨_,rfl⟩
theorem adz{k:Int}(h:k≠0):gu tA 0 1 1 k=some false:=by
 unfold gu;rw[Qh h];simp only[etas,Ql,aP]
 have hw:Yd (s6 tA k) fun q=>q.2.1=false:=by
  show Yd (jl (sV (SizeOf.sizeOf tA+SizeOf.sizeOf k)) tA k) fun q=>q.2.1=false
  unfold jl
  have hc:gn tA.aX k=some false:=by
   obtain⟨r,h1,h2⟩:=adA tA.aX (by decide) k
   unfold gn;rw[h1,Qa]
   cases e:decide (0<=r)with
   |false=>rfl
   |true=>
    obtain⟨j,hj,rfl⟩:=OE.1 (h2 e);exact absurd (by omega) h
  rw[hc,Qa,Ql];refine Yd.list tA.aN (by decide) (fun i (s:eJ)=>(i,s,())) (fun _ _=>True) (fun i x s _ _ hx=>absurd hx QR) (fun s _ hdec=> ?_) trivial
  simp only;rw[hdec,Ql];exact .some rfl
 obtain⟨q,h1,h2⟩:=hw;rw[h1,Qa,h2];rfl
theorem aa5:iq tA 0 1 1=some 0:=by
 have:Yd (iq tA 0 1 1) fun r=>r=0:=by
  unfold iq;simp only[etas,aP];refine Yd.Ci (fun(s:Int×Int×Int×Unit)=>s.1=0/\0<=s.2.2.1/\s.2.2.1<=10) (fun s=>(10 - s.2.2.1).toNat) ?_ ⟨rfl,Int.le_refl _,by show(0:Int)<=10;omega⟩
  rintro⟨b,hsh,k,u⟩ ⟨h1,h2,h3⟩;simp only at h1 h2 h3;subst h1;simp only
  by_cases hk:k<10
  ·rw[Qg hk];have hadd:aA .i64 k 1=k+1:=bE (by omega) (by omega)
   simp only[Qk];rw[hadd]
   have fin:∀x:Int,Yd (some (Sum.inl ((0:Int),x,k+1,())):Option ((Int×Int×Int×Unit)⊕Int)) (Lp (fun s'=>(s'.1=0/\0<=s'.2.2.1/\s'.2.2.1<=10)/\(10 - s'.2.2.1).toNat<(10 - k).toNat) (fun r=>r=0)):=
    fun x=> .some ⟨⟨rfl,by show 0<=k+1;omega,by show k+1<=10;omega⟩,by show(10 - (k+1)).toNat<(10 - k).toNat;omega⟩
   by_cases h0:k=0
   ·subst h0
    have hn:gu tA 0 1 1 0=some true:=by
     unfold gu;rfl
    rw[hn,Qa];obtain⟨hsv,eh⟩:=agD 2 1 1 0;rw[eh];simp only[Qo,Ql,Qa];refine Yd.cond (fun _=> ?_) fun _=> ?_
    ·exact fin _
    ·exact fin _
   ·rw[adz h0,Qa];exact fin _
  ·rw[Qh hk];exact .some rfl
 obtain⟨r,h1,rfl⟩:=this;exact h1
theorem Zg:lN tA 0 1 1=some (((1:Nat):Int),0,()):=by
 unfold lN ue;simp only[etas,dn vj,Qa,decide_true,Qo,Ql];rw[Qh (by omega:¬(0:Int)<0),Qh (by omega:¬(10:Int)<=0),Qh (by omega:¬(1:Int)<0),Qh (by omega:¬(1000000:Int)<1),Qh (by omega:¬(1:Int)<1),Qh (by omega:¬(1000:Int)<1)]
 simp only[Ql,Qa,decide_true,Qo];rw[bj (s':=(((1:Nat):Int),1,())) ?_,bw ?_]
 ·rfl
 ·simp only;rw[Qg (by omega:(0:Int)<1),show aA .i64 0 1=1 from rfl,aa5,Qa,Qk,Qs (by omega)]
  have:=nu (s:=0) (x:=0) (by omega) (by omega) (by omega)
  rw[show pF .i64 (0:Int) (bS .i64 1 0)=((0|||2 ^ (0:Int).toNat:Nat):Int)from this]
  rfl
theorem af1:bK []=some []:=rM [] (by decide)
theorem WE:bL []=some []:=by
 unfold bL;rw[br (by decide)]
 simp
theorem XC:fC [] vA=some [vA]:=by
 unfold fC cy;rw[bw (r:=((0:Int),false,())) (by rfl),Qa]
 simp only[Ql,Qa];rw[Qh (by decide),Ql,af1,Qa]
 unfold gp Gt;rw[br (by decide)]
 rfl
theorem adu{n:aq}(hT:n.ak=tA)(hN:n.al=0)(hS:n.bc=1)(hR:n.Round=1)(hO:n.l9=vA)(hV:n.bd=[]):kT n=some [vA]:=by
 unfold kT;simp only[etas,aP];rw[hT,hN,hS,hR,hO,hV,Zg,Qa,LZ (by omega),Qa,show mT 1=[0]from by decide]
 rw[bj (s':=([vA],1,())) ?_,bw (r:=[vA]) ?_]
 ·rfl
 ·simp only;rw[Qg (by decide:(0:Int)<((List.length [(0:Int)]:Nat):Int)),show idx [(0:Int)] 0=some 0 from rfl]
  simp only[Qk,Qa,decide_true];rw[Qh (by decide:¬vA=ByteArray.mk #[])]
  simp only[Qp,Qk];rw[XC];rfl
theorem agh{rec:(af×Unit)->Option af}{t:af}(hm:c8 t)(hr:∀u∈t.aN,rec (u,())=some u):np rec t=some t:=by
 have hn:=hm.nodes;have hi:=hm.len;unfold np;rw[br ⟨by omega,by omega⟩,Qk]
 simp only[etas]
 have:=Yd.list (p:=fun r=>r=t) (step:=fun(v1:Int×af×(List Int)×(List af)×Unit)=>
   bif (decide (v1.1<((List.length t.aN:Nat):Int)))then
   Option.bind (idx t.aN v1.1) fun x2=>
   Option.bind (rec (x2,())) fun r3=>
   bif bb 56 (List.length v1.2.2.2.1+List.length [r3])then
   some (Sum.inl ((aA .i64 v1.1 (1:Int)),(af.mk v1.2.1.aG ([]:List Int) ([]:List af)),v1.2.2.1,(v1.2.2.2.1++[r3]),()))
   else none
   else
   Option.map Sum.inr (some (af.mk v1.2.1.aG v1.2.2.1 v1.2.2.2.1))) t.aN hi (fun i (s:List af)=>(i,(af.mk t.aG [] []),t.aX,s,())) (fun i s=>s=t.aN.take i) ?_ ?_ (s:=[]) (by simp)
 ·obtain⟨r,h1,rfl⟩:=this;exact h1
 ·rintro i x s rfl hd hx' hi' hdec hx hadd;have hi2:t.aN[i]?=some x:=by rw[bg]at hx;exact hx
  simp only;rw[hdec,Qk,hx,Qa,hr x hx',Qa,hadd,br ⟨by simp;omega,by simp;omega⟩,Qk]
  refine .some ⟨_,rfl,?_⟩;rw[List.take_add_one,hi2];rfl
 ·rintro s rfl hdec;simp only;rw[hdec,Ql,Qq62];exact .some (af.eta t)
theorem agb{n:Nat}:∀{t:af},SizeOf.sizeOf t<n->c8 t->uV n (t,())=some t:=by
 induction n with
 |zero=>intro t h;omega
 |succ n ih=>
  intro t hz hm;show np (uV n) t=some t;exact agh hm fun u hu=>ih (t:=u) (by have:=qS hu;omega) (hm.inner u hu)
theorem Lb{t:af}(h:c8 t):qG t=some t:=agb (by omega) h
def cA:List aR:=(List.replicate 10 ⟨false,⟨0,[],[]⟩⟩).set 0 ⟨true,tA⟩
theorem afi{n:aq}(hT:n.ak=tA)(hN:n.al=0)(hH:n.au=[]):jK n=some ⟨cA⟩:=by
 unfold jK;simp only[etas];rw[hT,hN,hH]
 have hv:kL 0 tA []=some ⟨cA⟩:=by
  unfold kL
  have h1:(decide ((10:Int)=(10:Int))&&decide (0<=(10:Int))&&bb 64 (Int.toNat (10:Int)))=true:=by
   rw[br (by decide)];rfl
  rw[h1,Qk];refine bw ?_;simp only[etas,aP,QZ];rw[Qh (by decide:¬(0:Int)<((0:Nat):Int)),Ql]
  have hcp:=Lb vj.sm;rw[show mH 0=some true from Sd (v:=0) (by omega) (by omega),dn vj,hcp]
  rfl
 refine bw ?_;simp only[QZ];rw[Qh (by decide:¬(0:Int)<((0:Nat):Int)),Ql,hv]
 rfl
theorem Ye:zj ⟨cA⟩:=⟨by decide,fun m hm=>by
 rcases List.mem_or_eq_of_mem_set hm with hm|rfl
 ·rw[(List.mem_replicate.1 hm).2];exact H9
 ·exact vj.sm⟩
theorem gqA:(gq cA 1).testBit 0=true:=by
 refine(Cg Ye (s:=1) (by omega)).max 1 (fun k hk=> ?_) 0 (by decide)
 have h0:k=0:=by
  rcases Nat.eq_zero_or_pos k with h|h
  ·exact h
  ·rw[Nat.testBit_one_eq_true_iff_self_eq_zero]at hk;exact hk
 subst h0;exact⟨by decide,by decide,by decide⟩
theorem La{a:List ByteArray}(ha:a=[]\/a=[vA]):eN [(⟨0,1,tA,[vA],a⟩:ar)] vA=some (((1:Nat):Int),((if a=[]then 0 else 1:Nat):Int),()):=by
 unfold eN;simp only[aP];have hb:pF .i64 (0:Int) (bS .i64 1 0)=((1:Nat):Int):=nu (s:=0) (x:=0) (by omega) (by omega) (by omega)
 rw[bj (s':=(((1:Nat):Int),((if a=[]then 0 else 1:Nat):Int),1,())) ?_,bw ?_]
 ·rfl
 ·simp only;rw[Qg (show(0:Int)<((List.length [(⟨0,1,tA,[vA],a⟩:ar)]:Nat):Int)from(by decide:(0:Int)<1)),show idx [(⟨0,1,tA,[vA],a⟩:ar)] 0=some ⟨0,1,tA,[vA],a⟩from rfl]
  simp only[Qk,Qa];rw[H6 _ (by decide),H6 _ (by rcases ha with rfl|rfl<;>decide),Qa,Qg (Q5.2 rfl),Qk,Qs (by omega),hb,Qa]
  rcases ha with rfl|rfl
  ·rw[Qh QR];rfl
  ·rw[Qg (Q5.2 rfl),Qk,Qs (by omega)]
   rfl
theorem agI{a:List ByteArray}(ha:a=[]\/a=[vA]):ji [(⟨0,1,tA,[vA],a⟩:ar)]=some [vA]:=by
 unfold ji;have hal:a.length<=1:=by rcases ha with rfl|rfl<;>decide
 rw[bj (s':=(1,[vA]++a,())) ?_]
 ·refine bw ?_;simp only;rw[Qh (show¬(1:Int)<((List.length [(⟨0,1,tA,[vA],a⟩:ar)]:Nat):Int)from(by decide:¬(1:Int)<1)),Ql]
  obtain⟨t,h1,h2,h3,h4⟩:=ic.SN (cmp:=fun x y=>eu x y) xw (fun x y=>sR x y) ([vA]++a) (by simp only[QB,Q6];omega)
  have hs:eB ([vA]++a)=some ((),t):=h1;have hc:dK t=some (dd t):=zf (eq:=fun a b=>decide (a=b)) (ne:=fun a b=> !decide (a=b)) (z:=ByteArray.mk #[]) (fun _ _=>rfl) (fun _ _=>rfl) t (by rw[h2];simp only[QB,Q6];omega)
  rw[hs,Qa,hc]
  have he:dd t=[vA]:=by
   refine ic.unique h3 (List.pairwise_singleton _ _) fun x=> ?_
   rw[h4];rcases ha with rfl|rfl<;>simp
  rw[he];rfl
 ·simp only;rw[Qg (show(0:Int)<((List.length [(⟨0,1,tA,[vA],a⟩:ar)]:Nat):Int)from(by decide:(0:Int)<1)),show idx [(⟨0,1,tA,[vA],a⟩:ar)] 0=some ⟨0,1,tA,[vA],a⟩from rfl]
  simp only[Qk,Qa];rw[br (by simp),br (by simp;omega)]
  rfl
theorem Ze{n:aq}{a:List ByteArray}(ha:a=[]\/a=[vA])(hT:n.ak=tA)(hN:n.al=0)(hH:n.au=[])(hQ:n.aE=1)(hV:n.bd=[vA])(hA:n.aD=a):gB n ⟨cA⟩=some (if a=[]then(vA,true,())else(ByteArray.mk #[],false,())):=by
 unfold gB gf;simp only[etas,Qa];rw[hT,hN,hH,hQ,hV,hA,WE,Qa,br (by show(0+1)*120<=140737488355328/\0+1<=1000000;decide),Qk]
 simp only[List.nil_append];rw[agI ha,Qa];have hl:a.length<=1:=by rcases ha with rfl|rfl<;>decide
 rcases ha with rfl|rfl
 ·refine bw ?_;simp only;rw[Qg (by decide:(0:Int)<((List.length [vA]:Nat):Int)),show idx [vA] 0=some vA from rfl]
  simp only[Qk,Qa];rw[La (.inl rfl),Qa,H6 _ (by decide),Qa,Qh QR]
  have:=xc Ye (v:=0) (dg:=1) (accepts:=0) (by omega) (by omega) (by omega)
  have hacc:kp cA 0 1 0=true:=by
   unfold kp;rw[show(1|||0:Nat)=1 from rfl,gqA,Bool.or_true]
  rw[hacc]at this;simp only[Qp,Qk,Qa,Qt];rw[Qg (by decide:((List.length ([]:List ByteArray):Nat):Int)<40),Qk]
  rw[show gw ⟨cA⟩ 0 ((1:Nat):Int) ((0:Nat):Int)=some true from this]
  rfl
 ·rw[bj (s':=(1,())) ?_,bw (r:=(ByteArray.mk #[],false,())) ?_]
  ·rw[Qs (by decide)]
  ·rfl
  ·simp only;rw[Qg (by decide:(0:Int)<((List.length [vA]:Nat):Int)),show idx [vA] 0=some vA from rfl]
   simp only[Qk,Qa];rw[La (.inr rfl),Qa,H6 _ (by decide),Qa,Qg (Q5.2 rfl)]
   rfl
def nA:aq:=⟨0,1,1,1,tA,vA,[vA],[vA],[vA],[]⟩
theorem Zc:im ⟨0,1,1,1,tA,vA,[],[],[],[]⟩=some nA:=by
 unfold im gf;simp only[etas,aP,QZ];rw[Qg (by decide:((0:Nat):Int)=0),Qk,adu rfl rfl rfl rfl rfl rfl,Qa,afi rfl rfl rfl,Qa,Ze (.inl rfl) rfl rfl rfl rfl rfl rfl,Qa,Qr rfl]
 rw[bj (s':=(ByteArray.mk #[],false,⟨0,1,1,1,tA,vA,[vA],[vA],[],[]⟩,())) ?_]
 ·refine bw ?_;simp only[Ql];rw[WE];simp only[Qa];rw[br (by decide),Qk]
  rw[bj (s':=(1,nA,())) ?_,bw (r:=nA) ?_]
  ·rfl
  ·rfl
  ·simp only;rw[Qg (by decide:(0:Int)<((List.length [vA]:Nat):Int)),show idx [vA] 0=some vA from rfl]
   simp only[Qk,Qa,List.nil_append];rw[La (.inr rfl),Qa];have:=vD Ye (v:=0) (accepts:=1) (by omega) (by omega)
   rw[gqA]at this;simp only;rw[Qs (by decide),show ew ⟨cA⟩ 0 ((1:Nat):Int)=some true from this,Qa,Qk,XC]
   rfl
 ·simp only[Qk];rw[XC,Qa,Ze (.inr rfl) rfl rfl rfl rfl rfl rfl,Qa,Qs (by decide)]
theorem ah0:cY nA:=⟨⟨vj,by decide,by decide,by decide,by decide,by decide,by decide⟩,by decide,vlA,vlA,vlA,fun x hx=>hx,fun m hm=>absurd hm QR,List.Pairwise.nil⟩
theorem adC:jh nA=some nA:=by
 unfold jh;simp only[etas];rw[show nA.ak=tA from rfl,OC vj.sm,Qa,show nA.bd=[vA]from rfl,show nA.aD=[vA]from rfl,show nA.aM=[vA]from rfl,rM _ (by decide)]
 simp only[Qa];exact bw rfl
theorem adv:nf 0 1 tA vA=some (nA,0,()):=by
 unfold nf;simp only[etas,aq.eta,Sd (v:=0) (by omega) (by omega),dn vj,Qa,Qo,Ql,decide_true]
 rw[Qh (by omega:¬(1:Int)<0),Qh (by omega:¬(1000000:Int)<1),Qh (by decide:¬(200:Int)<((vA.size:Nat):Int)),Zc]
 simp only[Ql,Qa];rw[adC];rfl
theorem Vp:gg [vA]=some (vA,true,()):=by
 unfold gg;simp only[aP];rw[bj (s':=(vA,1,())) ?_,bw (r:=(vA,true,())) ?_]
 ·rfl
 ·simp only;rw[Qg (by decide:(0:Int)<((List.length [vA]:Nat):Int)),show idx [vA] 0=some vA from rfl]
  simp only[Qk,Qa];rw[Tl,Qg Ja,Qa,Qk,xw,Qa];rw[Qg (by decide:(0:Int)<uP vA (ByteArray.mk #[]))]
  rfl
def mA:aa:=Ei 0 1 tA
def zA:aa:=(runT 1 1 20 (dV mA vA)).getD mA
theorem ahT:runT 1 1 20 (dV mA vA)=some zA/\zA.aI=3/\zA.ab.Value=vA:=by
 refine⟨?_,by decide+kernel,by decide+kernel⟩
 have h:(runT 1 1 20 (dV mA vA)).isSome=true:=by decide+kernel
 unfold zA
 cases e:runT 1 1 20 (dV mA vA)with
 |none=>rw[e]at h;cases h
 |some z=>rfl
theorem ae1:u9=some true:=by
 obtain⟨m1,m2⟩:=We (aB:=0) (aK:=1) (by omega) (by omega) (by omega) (by omega) vj
 have hp:=CM m1 (v:=vA) Ja
 have hflat:xh 1 1 (dV mA vA):=⟨by omega,by omega,by omega,by unfold dV;split<;>rfl,fun e he=>by
  have:(dV mA vA).au=[]:=by unfold dV;split<;>rfl
  rw[this]at he
  exact absurd he QR⟩
 obtain⟨r1,r2,r3⟩:=ahT;obtain⟨q,e1,x2,hq,ha⟩:=Tm (R:=fun x=>Reach (dV mA vA) x/\oz mA x) (fun x h1 h2=>⟨ac0 hp x h1 h2.1,EP x h1 h2.2⟩) (fun x h=>⟨acZ x h.1,EO x h.2⟩) m1 m2 Ja ⟨ac1 hp,zi m1 (.inl ⟨vA,Ja,rfl⟩)⟩
 have hb:wX mA (dV mA vA):= .inl ⟨vA,Ja,rfl⟩;have hop:=E2 m1 hb (q:=q) ⟨x2,hq,ha.inv,ha.seq,ha.env,ha.num,ha.nz,ha.rel.2,ha.fix⟩;have hx2:x2={zA with aE:=x2.aE}:=ag8 hp hflat r1 ⟨ha.inv,ha.seq,ha.env,ha.num,ha.nz,ha.rel.1,ha.fix⟩
 have hph:q.1.aI=3/\q.1.ab=zA.ab:=by
  obtain⟨s,e,_⟩:=GL mA x2;rw[hq];show(qw mA x2).aI=3/\(qw mA x2).ab=zA.ab;rw[e,hx2];exact⟨r2,rfl⟩
 have hn:=hop.2;have ht1:(dV mA vA).ak=tA:=by unfold dV;split<;>rfl
 unfold u9;simp only[bp.eta,aq.eta,aa.eta,etas];rw[show wV 1 1=some tA from aeN 1 (by omega) 1,Qa]
 let y:bp:=⟨nA,q.1,⟨0, -1⟩,1,2,true,vA⟩
 have hval:q.1.ab.Value=vA:=by rw[hph.2];exact r3
 have ht0:yi ⟨0, -1⟩:=⟨by decide,by decide,by decide,by decide⟩
 have hy:oA 0 1 0 y:=⟨⟨hn.inv,hn.seq,hn.aB,hn.aK,ah0,⟨(by decide:(1:Int)<=1),(by decide:(1:Int)<=1+0)⟩,rfl,rfl,(hn.aL.trans ht1).symm,ht0,⟨(by decide:(1:Int)<=1),(by decide:(1:Int)<=1000)⟩,⟨(by decide:(0:Int)<=2),(by decide:(2:Int)<=212)⟩⟩,(Qg hph.1).symm,by
  show vA=bif decide (q.1.aI=3)then q.1.ab.Value else fE
  rw[Qg hph.1,hval];rfl⟩
 have hnew:Cn 0 1 tA (ByteArray.mk #[97]) 0=some (y,0,()):=by
  unfold Cn BI BH;simp only[bp.eta,aq.eta,aa.eta,etas];rw[Qg (by omega:(0:Int)<=0),Qg (by omega:(0:Int)<=200),ahY (by omega) (by omega) (by omega) (by omega) vj]
  simp only[Qk,Ql,Qa,Qo,decide_true];rw[show nf 0 1 tA (ByteArray.mk #[97])=some (nA,0,())from adv]
  simp only[Qa,decide_true,Qo,Ql];rw[show aA .i64 0 (aA .i64 (bD (dF 1 11) 0) 1)=2 from by decide]
  unfold pT;simp only[bp.eta,aq.eta,aa.eta,etas,aP,cD];rw[Qg (show(Ei 0 1 tA).aI=1 from rfl),show aF (Ei 0 1 tA).ax=true from by decide]
  simp only[Qk,Qa];rw[Qg (show(0:Int)<((List.length nA.aM:Nat):Int)from by decide),Qk,show gg nA.aM=some (vA,true,())from Vp]
  simp only[Qk,Qa];rw[Qh (show¬vA=(Ei 0 1 tA).ba from by decide)]
  simp only[Qp,Qk];rw[show lM (Ei 0 1 tA) vA=some q from e1,Qa,hop.1]
  simp only[decide_true,Qk];rw[F2 hn.inv hn.seq,Qa,Qg hph.1];simp only[Qk,hval];rfl
 rw[hnew];simp only[Qa,decide_true,Qk];obtain⟨l,hl,hlen⟩:=aa3 hy (by omega)
 rw[Lc hy (by omega),hl]
 simp only[Qa,Qk]
 have hc:aF q.1.ab=false:=by
  rcases hn.inv.body with k|k|k|k
  ·exact absurd (k.aT.symm.trans hph.1) (by decide)
  ·exact k.aQ.nz
  ·exact k.aQ.nz
  ·exact k.aQ.nz
 rw[Su hn.inv]at hc
 have:l.length=1:=by
  rw[hlen];show(bif true then 0 else 1)+(bif decide (q.1.ab.aj=0)then 0 else 1)=1
  rw[hc];rfl
 rw[this];rfl
end
section
theorem ag6{n:Nat}(h:n<4611686018427387904):bz .u64 (n:Int)=n:=by
 unfold bz IntKind.wrap;simp[IntKind.signed,IntKind.bits];omega
theorem afA{i j:Nat}(hi:i<=1000000)(hj:j<=1000000):bz .i64 (kZ .u64 (bz .u64 (aA .i64 (i:Int) (j:Int))) (1:Int))=(((i+j) / 2:Nat):Int):=by
 have h1:aA .i64 (i:Int) (j:Int)=((i+j:Nat):Int):=bE (by omega) (by omega)
 have h4:kZ .u64 (((i+j:Nat)):Int) (1:Int)=(((i+j) / 2:Nat):Int):=by
  show(((i+j:Nat)):Int).fdiv 2=_;rw[Int.fdiv_eq_ediv_of_nonneg _ (by decide)]
  exact(Int.natCast_ediv (i+j) 2).symm
 rw[h1,ag6 (by omega),h4]
 exact CB _ (by omega)
theorem NZ{α ρ:Type}(l:List α)(hl:l.length<=1000000)(P:α->Bool)(hp:l.Pairwise fun a b=>P b=true->P a=true){step:Int×Int×Unit->Option ((Int×Int×Unit)⊕ρ)}{fin:Nat->Option ρ}
  (h1:∀(i j m:Nat) (x:α),decide ((i:Int)<(j:Int))=true->j<=l.length->bz .i64 (kZ .u64 (bz .u64 (aA .i64 (i:Int) (j:Int))) (1:Int))=(m:Int)->aA .i64 (m:Int) 1=((m+1:Nat):Int)->idx l (m:Int)=some x->step ((i:Int),(j:Int),())=some (.inl (bif P x then(((m+1:Nat):Int),(j:Int),())else((i:Int),(m:Int),()))))
  (h2:∀i:Nat,decide ((i:Int)<(i:Int))=false->i<=l.length->step ((i:Int),(i:Int),())=Option.map Sum.inr (fin i)):
  aC step ((0:Int),((l.length:Nat):Int),())=fin (l.takeWhile P).length:=by
 have htw:∀(l:List α),(l.Pairwise fun a b=>P b=true->P a=true)->∀i x,l[i]?=some x->(P x=true↔i<(l.takeWhile P).length):=by
  intro l
  induction l with
  |nil=>intro _ i x h;simp at h
  |cons y l ih=>
   intro hp i x h;rw[Q4]at hp
   cases hy:P y with
   |false=>
    rw[List.takeWhile_cons,hy];simp only[Qq,Qu,QZ,Nat.not_lt_zero,iff_false]
    cases i with
    |zero=>simp only[List.getElem?_cons_zero,Qf]at h;rw[<-h,hy];simp
    |succ i=>
     intro hx;have:=hp.1 x (Q8 (by simpa using h)) hx
     rw[hy]at this;cases this
   |true=>
    rw[List.takeWhile_cons,hy];simp only[Qt,QE]
    cases i with
    |zero=>simp only[List.getElem?_cons_zero,Qf]at h;rw[<-h,hy];simp
    |succ i=>
     rw[ih hp.2 i x (by simpa using h)]
     omega
 have hk:(l.takeWhile P).length<=l.length:=(List.takeWhile_sublist P).length_le
 suffices key:∀(d i j:Nat),j=i+d->j<=l.length->i<=(l.takeWhile P).length->(l.takeWhile P).length<=j->aC step ((i:Int),(j:Int),())=fin (l.takeWhile P).length from key l.length 0 l.length (by omega) (QI _) (by omega) hk
 intro d
 induction d using Nat.strongRecOn with
 |_ d ih=>
  intro i j hij hjl hi hj
  by_cases h0:d=0
  ·obtain rfl:j=i:=by omega
   obtain rfl:(l.takeWhile P).length=j:=by omega
   rw[fb,h2 _ (Qh (Qq64 _)) hjl];cases fin (l.takeWhile P).length<;>rfl
  ·have hm:(i+j) / 2<l.length:=by omega
   have hs:=h1 i j ((i+j) / 2) l[(i+j) / 2] (Qg (by omega)) hjl (afA (by omega) (by omega)) (bE (by omega) (by omega)) (by rw[bg];exact Qv hm)
   have ht:=htw l hp _ _ (Qv hm)
   cases hP:P l[(i+j) / 2]with
   |true=>
    rw[hP]at hs;have:=ht.1 hP;exact(bj hs).trans (ih (j - ((i+j) / 2+1)) (by omega) _ _ (by omega) hjl (by omega) hj)
   |false=>
    rw[hP]at hs;have:¬(i+j) / 2<(l.takeWhile P).length:=fun e=>by rw[ht.2 e]at hP;cases hP
    exact(bj hs).trans (ih ((i+j) / 2 - i) (by omega) _ _ (by omega) (by omega) hi (by omega))
theorem IT{a b:ByteArray}:decide (uP a b=0)=decide (a=b):=by
 rw[decide_eq_decide];constructor
 ·intro h;have h1:bJ a b=false:=by rw[<-sR,h];rfl
  refine ic.total a b h1 ?_;unfold uP at h;unfold bJ
  by_cases hs:a.size=b.size
  ·rw[Qr ((qu _ _).2 (by rw[hs]))]at h
   rw[Qr hs.symm];unfold LU at h;split at h
   ·cases h
   ·split at h
    ·rename_i h2 h3;simp only[Qn,Qi]at h3;rcases h3 with h3|rfl
     ·exact absurd h3 h2
     ·exact CF _
    ·cases h
  ·rw[Qs (fun e=>hs (by have:=(qu _ _).1 e;omega))]at h
   exact absurd ((qu _ _).1 h) (by omega)
 ·rintro rfl;unfold uP;rw[Qr ((qu _ _).2 rfl)];unfold LU;rw[Qs (by rw[CF];simp)]
  simp
theorem ZC{l:List ByteArray}{a:Nat}(ha:a<=l.length)(h:l.length<=1000)(x:ByteArray):gp l (a:Int) [x]=some (l.take a++[x]++l.drop a):=by
 unfold gp Gt;rw[Qg (by omega:(0:Int)<=(a:Int)),Qg (by omega:(a:Int)<=((l.length:Nat):Int)),mq (by omega) (by simp;omega)]
 rfl
theorem Hy{α:Type}(P:α->Bool):∀(l:List α),(∀j,j<(l.takeWhile P).length->∃y,l[j]?=some y/\P y=true)/\(∀y,l[(l.takeWhile P).length]?=some y->P y=false)
 |[]=>⟨fun j h=>by simp at h,fun y h=>by simp at h⟩
 |x::l=>by
  obtain⟨h1,h2⟩:=Hy P l
  cases hx:P x with
  |false=>
   rw[List.takeWhile_cons,hx];simp only[Qq,Qu,QZ];exact⟨fun j h=>by omega,fun y h=>by simp only[List.getElem?_cons_zero,Qf]at h;rw[<-h];exact hx⟩
  |true=>
   rw[List.takeWhile_cons,hx];simp only[Qt,QE];refine⟨fun j h=> ?_,fun y h=>h2 y (by simpa using h)⟩
   cases j with
   |zero=>exact⟨x,rfl,hx⟩
   |succ j=>obtain⟨y,g1,g2⟩:=h1 j (by omega);exact⟨y,by simpa using g1,g2⟩
theorem Sw{α:Type}(P:α->Bool)(l:List α):(l.takeWhile P).length<=l.length:=(List.takeWhile_sublist P).length_le
theorem agE{l:List ByteArray}(h:VL l)(x:ByteArray):cy l x=some ((((l.takeWhile fun y=>bJ y x).length:Nat):Int),decide (x∈l),()):=by
 have hl:=h.len;unfold cy;refine(NZ l h.uz (fun y=>bJ y x) (h.Fs.imp fun{a b} hab hb=>ic.trans _ _ _ hab hb) (fin:=fun k=>some (((k:Nat):Int),decide (l[k]?=some x),())) (fun i j m y hd hj hm hadd hx=> ?_) (fun i hd hi=> ?_)).trans ?_
 ·simp only[hd,hm,hadd,hx,xw,sR,Qa,Qk];cases bJ y x<;>rfl
 ·simp only[hd,Ql]
  by_cases hi2:i<l.length
  ·rw[Qg (by omega:(i:Int)<((l.length:Nat):Int))]
   simp only[Qk,bg,Qv hi2,Qa,xw,IT,Qe,Qf]
  ·rw[Qh (by omega:¬(i:Int)<((l.length:Nat):Int)),Qq72 (by omega)]
   rfl
 ·obtain⟨h1,h2⟩:=Hy (fun y=>bJ y x) l
  congr 3;rw[decide_eq_decide];constructor
  ·exact Q8
  ·intro hm;obtain⟨i,hi⟩:=List.getElem?_of_mem hm;have hi':i<l.length:=(Qw.1 hi).1
   have hk:(l.takeWhile fun y=>bJ y x).length=i:=by
    rcases Nat.lt_trichotomy (l.takeWhile fun y=>bJ y x).length i with g|g|g
    ·have hk:(l.takeWhile fun y=>bJ y x).length<l.length:=by omega
     have:=h2 _ (Qv hk);have h3:=List.pairwise_iff_getElem.1 h.Fs _ i hk hi' g;rw[(Qw.1 hi).2,this]at h3;cases h3
    ·exact g
    ·obtain⟨y,g1,g2⟩:=h1 i g;rw[hi]at g1;cases g1;rw[ic.irrefl]at g2;cases g2
   rw[hk];exact hi
theorem XD{l:List ByteArray}(h:VL l)(x:ByteArray):fC l x=some (mn l x):=by
 have hl:=h.len;unfold fC mn;rw[agE h x,Qa]
 by_cases hx:x∈l
 ·rw[Qg hx,Qr (.inl hx)];rfl
 by_cases h40:40<=l.length
 ·rw[Qh hx,Qg (by omega:(40:Int)<=((l.length:Nat):Int)),Qr (.inr h40)];rfl
 rw[Qh hx,Qh (by omega:¬(40:Int)<=((l.length:Nat):Int)),Qs (fun e=>e.elim hx h40)]
 simp only[Ql,Qa,rM l (by omega)]
 rw[ZC (Sw _ _) (by omega),Qa]
 obtain⟨h1,h2⟩:=Hy (fun y=>bJ y x) l
 rw[O5 x l _ h1 h2,Qs (fun e=>hx (Q8 e))]
 simp
def WX(a b:List ByteArray):List ByteArray:=b.foldl (fun l x=>dG bJ x l) a
theorem acT{a:List ByteArray}(ha:a.Pairwise (fun x y=>bJ x y=true))(b:List ByteArray):(WX a b).Pairwise (fun x y=>bJ x y=true)/\∀x,x∈WX a b↔x∈b\/x∈a:=Bk ic b a ha
theorem aas(a b:List ByteArray):(WX a b).length<=a.length+b.length:=Nt b a
def Eb(m:ar):List ByteArray:=m.bd++m.aD
def qa(L:List ar):List ByteArray:=WX [] (L.flatMap Eb)
theorem FC(L:List ar):(qa L).Pairwise (fun x y=>bJ x y=true)/\∀x,x∈qa L↔∃m∈L,x∈m.bd\/x∈m.aD:=by
 obtain⟨h1,h2⟩:=acT (a:=[]) List.Pairwise.nil (L.flatMap Eb);refine⟨h1,fun x=> ?_⟩
 rw[qa,h2];simp[Eb]
theorem KQ{l:List ByteArray}(L:List ar)(h1:l.Pairwise (fun x y=>bJ x y=true))(h2:∀x,x∈l↔∃m∈L,x∈m.bd\/x∈m.aD):l=qa L:=
 ic.unique h1 (FC L).1 fun x=>by rw[h2,(FC L).2]
theorem Pe{L:List ar}(h:∀m∈L,VL m.bd/\VL m.aD):(L.flatMap Eb).length<=80*L.length:=by
 induction L with
 |nil=>simp
 |cons m L ih=>
  have h1:=ih fun x hx=>h x (Qy _ hx)
  have h2:=(h m Qx).1.len;have h3:=(h m Qx).2.len;simp only[List.flatMap_cons,QB,Eb,QE]at h1 ⊢;omega
theorem Pu{L:List ar}(h:∀m∈L,VL m.bd/\VL m.aD):(qa L).length<=80*L.length:=by
 have h1:=aas [] (L.flatMap Eb);have h2:=Pe h;rw[qa];simp only[QZ]at h1;omega
theorem aft{L:List ar}(h:∀m∈L,VL m.bd/\VL m.aD)(hl:L.length<=100):ji L=some (qa L):=by
 have hf:=Pe h
 have hsort:∀s:List ByteArray,s.length<1000000->(∀x,x∈s↔∃m∈L,x∈m.bd\/x∈m.aD)->(Option.bind (eB s) fun p3=>Option.bind (dK p3.2) fun r4=>some r4)=some (qa L):=by
  intro s hs hmem;obtain⟨t,h1,h2,h3,h4⟩:=ic.SN (cmp:=fun x y=>eu x y) xw (fun x y=>sR x y) s (by omega)
  have hc:=zf (eq:=fun x y:ByteArray=>decide (x=y)) (ne:=fun x y=> !decide (x=y)) (z:=ByteArray.mk #[]) (fun _ _=>rfl) (fun _ _=>rfl) t (by omega)
  have h1':eB s=some ((),t):=h1;have hc':dK t=some (dd t):=hc;rw[h1',Qa,hc',Qa,KQ L h3 (fun x=>by rw[h4,hmem])]
 unfold ji
 suffices key:Yd (aC _ ((0:Int),([]:List ByteArray),())) fun r=>r=qa L by
  obtain⟨r,h1,rfl⟩:=key;exact h1
 refine Yd.list L (by omega) (fun i (s:List ByteArray)=>(i,s,())) (fun i s=>s=(L.take i).flatMap Eb) ?_ ?_ (s:=[]) (by simp)
 ·rintro i m s rfl hd hm hi hdec hx hadd;have hi2:L[i]?=some m:=by rw[bg]at hx;exact hx
  have e:L.take (i+1)=L.take i++[m]:=by rw[List.take_add_one,hi2];rfl
  have hlen:((L.take i).flatMap Eb).length<=80*100:=QK (Pe fun x hx=>h x (Q1 hx)) (Nat.mul_le_mul_left _ (by rw[List.length_take];omega))
  have l1:=(h m hm).1.len;have l2:=(h m hm).2.len;simp only;rw[hdec,Qk,hx,Qa,hadd,mq (by omega) (by omega),Qk,mq (by omega) (by rw[QB];omega),Qk]
  refine .some ⟨_,rfl,?_⟩;rw[e,List.flatMap_append];simp[Eb]
 ·rintro s rfl hdec;rw[Qq62];simp only;rw[hdec,Ql,hsort _ (by omega) (fun x=>by simp[Eb])]
  exact .some rfl
theorem Jl{a b:List ByteArray}(ha:a.Pairwise (fun x y=>bJ x y=true))(hb:b.Pairwise (fun x y=>bJ x y=true))(h:a.length+b.length<=100000):
  Yd (jo a b) fun r=>r.Pairwise (fun x y=>bJ x y=true)/\(∀x,x∈r↔x∈a\/x∈b)/\r.length<=a.length+b.length:=by
 unfold jo;simp only[aP];refine Yd.Ci (fun(v:Int×Int×List ByteArray×Unit)=>∃i k:Nat,v.1=i/\v.2.1=k/\i<=a.length/\k<=b.length/\v.2.2.1.length<=i+k/\v.2.2.1.Pairwise (fun x y=>bJ x y=true)/\(∀x,x∈v.2.2.1↔x∈a.take i\/x∈b.take k)/\(∀x∈v.2.2.1,(∀y∈a.drop i,bJ x y=true)/\∀y∈b.drop k,bJ x y=true)) (fun v=>a.length+b.length - (v.1.toNat+v.2.1.toNat)) ?_ ⟨0,0,rfl,rfl,by omega,by omega,by simp,List.Pairwise.nil,by simp,fun x hx=>absurd hx QR⟩
 rintro⟨i',k',out,u⟩ ⟨i,k,e1,e2,hi,hk,hlen,hpw,hmem,hlt⟩;simp only at e1 e2 hlen hpw hmem hlt;subst e1 e2;have kk:∀x:ByteArray,bb 16 (out.length+[x].length)=true:=fun x=>br ⟨by simp only[Q6];omega,by simp only[Q6];omega⟩
 have hi1:aA .i64 (i:Int) 1=((i+1:Nat):Int):=bE (by omega) (by omega)
 have hk1:aA .i64 (k:Int) 1=((k+1:Nat):Int):=bE (by omega) (by omega)
 have ga:∀h:i<a.length,idx a (i:Int)=some a[i]:=fun h=>by rw[bg];exact Qv h
 have gb:∀h:k<b.length,idx b (k:Int)=some b[k]:=fun h=>by rw[bg];exact Qv h
 have tail:∀{l:List ByteArray} (hp:l.Pairwise (fun x y=>bJ x y=true)) {j:Nat} (hj:j<l.length),∀y∈l.drop (j+1),bJ l[j] y=true:=by
  intro l hp j hj;have:=hp.sublist (List.drop_sublist j l);rw[QM hj,Q4]at this;exact this.1
 have fin1:∀(x:ByteArray) (j1 j2:Nat),j1<=a.length->j2<=b.length->i<=j1->k<=j2->i+k<j1+j2->(∀y,(y∈a.take j1\/y∈b.take j2)↔y=x\/y∈a.take i\/y∈b.take k)->(x∈a.drop i\/x∈b.drop k)->(∀y∈a.drop j1,bJ x y=true)->(∀y∈b.drop j2,bJ x y=true)->Yd (bif bb 16 (out.length+[x].length)then some (Sum.inl (((j1:Nat):Int),((j2:Nat):Int),(out++[x]),()))else(none:Option ((Int×Int×List ByteArray×Unit)⊕List ByteArray)))
   (Lp (fun s'=>(∃i k:Nat,s'.1=i/\s'.2.1=k/\i<=a.length/\k<=b.length/\s'.2.2.1.length<=i+k/\s'.2.2.1.Pairwise (fun x y=>bJ x y=true)/\(∀x,x∈s'.2.2.1↔x∈a.take i\/x∈b.take k)/\(∀x∈s'.2.2.1,(∀y∈a.drop i,bJ x y=true)/\∀y∈b.drop k,bJ x y=true))/\a.length+b.length - (s'.1.toNat+s'.2.1.toNat)<a.length+b.length - ((i:Int).toNat+(k:Int).toNat)) (fun r=>r.Pairwise (fun x y=>bJ x y=true)/\(∀x,x∈r↔x∈a\/x∈b)/\r.length<=a.length+b.length)):=by
  intro x j1 j2 h1 h2 h3 h4 h5 hm hxi hx1 hx2;rw[kk x,Qk];refine .some ⟨⟨j1,j2,rfl,rfl,h1,h2,?_,?_,fun y=> ?_,fun y hy=> ?_⟩,?_⟩
  ·simp only[QB,Q6];omega
  ·rw[Qq69];refine⟨hpw,List.pairwise_singleton _ _,fun y hy z hz=> ?_⟩
   rw[Q5.1 hz];exact hxi.elim ((hlt y hy).1 x) ((hlt y hy).2 x)
  ·rw[Qz,Q5,hmem,hm];exact or_comm
  ·rcases Qz.1 hy with hy|hy
   ·refine⟨fun z hz=>(hlt y hy).1 z ?_,fun z hz=>(hlt y hy).2 z ?_⟩
    ·rw[show j1=i+(j1 - i)by omega,<-List.drop_drop]at hz
     exact Q2 hz
    ·rw[show j2=k+(j2 - k)by omega,<-List.drop_drop]at hz
     exact Q2 hz
   ·rw[Q5.1 hy];exact⟨hx1,hx2⟩
  ·simp only[QV];omega
 have ta:∀(h:i<a.length) (y:ByteArray),y∈a.take (i+1)↔y=a[i]\/y∈a.take i:=fun h y=>by
  rw[Q7 h,Qz,Q5];exact or_comm
 have tb:∀(h:k<b.length) (y:ByteArray),y∈b.take (k+1)↔y=b[k]\/y∈b.take k:=fun h y=>by
  rw[Q7 h,Qz,Q5];exact or_comm
 have da:∀h:i<a.length,a[i]∈a.drop i:=fun h=>by rw[QM h];exact Qx
 have db:∀h:k<b.length,b[k]∈b.drop k:=fun h=>by rw[QM h];exact Qx
 simp only
 by_cases c1:i<a.length
 ·rw[Qg (by omega:(i:Int)<((a.length:Nat):Int))]
  simp only[Qk,Qa]
  by_cases c2:k=b.length
  ·rw[Qg (by omega:(k:Int)=((b.length:Nat):Int)),ga c1,hi1]
   simp only[Qk,Qa];refine fin1 a[i] (i+1) k (by omega) hk (by omega) (by omega) (by omega) (fun y=>by rw[ta c1,or_assoc]) (.inl (da c1)) (tail ha c1) ?_
   rw[c2,Qq66];exact fun y hy=>absurd hy QR
  ·have c3:k<b.length:=by omega
   rw[Qh (by omega:¬(k:Int)=((b.length:Nat):Int)),ga c1,gb c3,Qh (by omega:¬(i:Int)=((a.length:Nat):Int))]
   simp only[Ql,Qa,zW,D3,IU,hi1,hk1]
   cases hxy:bJ a[i] b[k]with
   |true=>
    refine fin1 a[i] (i+1) k (by omega) hk (by omega) (by omega) (by omega) (fun y=>by rw[ta c1,or_assoc]) (.inl (da c1)) (tail ha c1) fun y hy=> ?_
    rw[QM c3]at hy;rcases QA.1 hy with rfl|hy
    ·exact hxy
    ·exact ic.trans _ _ _ hxy (tail hb c3 y hy)
   |false=>
    cases hyx:bJ b[k] a[i]with
    |true=>
     refine fin1 b[k] i (k+1) hi (by omega) (by omega) (by omega) (by omega) (fun y=>by rw[tb c3,or_left_comm]) (.inr (db c3)) (fun y hy=> ?_) (tail hb c3)
     rw[QM c1]at hy;rcases QA.1 hy with rfl|hy
     ·exact hyx
     ·exact ic.trans _ _ _ hyx (tail ha c1 y hy)
    |false=>
     have he:a[i]=b[k]:=ic.total _ _ hxy hyx;refine fin1 a[i] (i+1) (k+1) (by omega) (by omega) (by omega) (by omega) (by omega) (fun y=> ?_) (.inl (da c1)) (tail ha c1) (by rw[he];exact tail hb c3)
     rw[ta c1,tb c3,<-he];constructor
     ·rintro((h|h)|(h|h))
      ·exact .inl h
      ·exact .inr (.inl h)
      ·exact .inl h
      ·exact .inr (.inr h)
     ·rintro(h|h|h)
      ·exact .inl (.inl h)
      ·exact .inl (.inr h)
      ·exact .inr (.inr h)
 ·rw[Qh (by omega:¬(i:Int)<((a.length:Nat):Int))]
  simp only[Ql];have ci:i=a.length:=by omega
  by_cases c2:k<b.length
  ·rw[Qg (by omega:(k:Int)<((b.length:Nat):Int)),Qh (by omega:¬(k:Int)=((b.length:Nat):Int)),gb c2,Qg (by omega:(i:Int)=((a.length:Nat):Int))]
   simp only[Ql,Qk,Qa,hk1];refine fin1 b[k] i (k+1) hi (by omega) (by omega) (by omega) (by omega) (fun y=>by rw[tb c2,or_left_comm]) (.inr (db c2)) (fun y hy=> ?_) (tail hb c2)
   rw[ci,Qq66]at hy;exact absurd hy QR
  ·rw[Qh (by omega:¬(k:Int)<((b.length:Nat):Int))]
   simp only[Ql,Qa];refine .some ⟨hpw,fun x=> ?_,by omega⟩
   rw[hmem,ci,Qq62,show k=b.length by omega,Qq62]
theorem ac4{m:ar}(h:VL m.bd/\VL m.aD):jo m.bd m.aD=some (qa [m]):=by
 have l1:=h.1.len;have l2:=h.2.len;obtain⟨r,h1,h2,h3,_⟩:=Jl h.1.Fs h.2.Fs (by omega)
 rw[h1,KQ [m] h2 (fun x=>by rw[h3];simp)]
end
section
def xq(n:aq):ar:=⟨n.al,n.aE,n.ak,n.bd,n.aD⟩
def Wa(b:Bool)(s:Nat)(k:Int):Nat:=if b then s|||2 ^ k.toNat else s
theorem Zj{b:Bool}{s:Nat}{k:Int}(h:s<1024)(hk:k<10):Wa b s k<1024:=by
 unfold Wa;split
 ·exact AE h hk
 ·exact h
def FM(x:ByteArray)(s:Nat×Nat)(m:ar):Nat×Nat:=(Wa (decide (x∈m.bd)) s.1 m.al,Wa (decide (x∈m.aD)) s.2 m.al)
def kO(L:List ar)(x:ByteArray):Nat×Nat:=L.foldl (FM x) (0,0)
def Oe(L:List ar):Prop:=L.length<=100/\∀m∈L,0<=m.al/\m.al<10/\VL m.bd/\VL m.aD
theorem PA{x:ByteArray}:∀{L:List ar} (h:∀m∈L,0<=m.al/\m.al<10/\VL m.bd/\VL m.aD) {s:Nat×Nat},s.1<1024->s.2<1024->(L.foldl (FM x) s).1<1024/\(L.foldl (FM x) s).2<1024
 |[],_,s,h1,h2=>⟨h1,h2⟩
 |m::L,h,s,h1,h2=>by
  obtain⟨_,g,_⟩:=h m Qx;exact PA (L:=L) (fun y hy=>h y (Qy _ hy)) (Zj h1 g) (Zj h2 g)
theorem AX{L:List ar}(h:Oe L)(x:ByteArray):(kO L x).1<1024/\(kO L x).2<1024:=PA h.2 (by decide) (by decide)
theorem Mi{L:List ar}(h:Oe L)(x:ByteArray){step:Int×Int×Int×Unit->Option ((Int×Int×Int×Unit)⊕(Int×Int×Unit))}
  (h1:∀(i a b:Nat) (m:ar),decide ((i:Int)<((L.length:Nat):Int))=true->idx L (i:Int)=some m->L[Int.toNat (i:Int)]?=some m->aA .i64 (i:Int) 1=((i+1:Nat):Int)->0<=m.al->m.al<10->VL m.bd->VL m.aD->a<1024->b<1024->step ((a:Int),(b:Int),(i:Int),())=some (.inl (((FM x (a,b) m).1:Int),((FM x (a,b) m).2:Int),((i+1:Nat):Int),())))
  (h2:∀a b:Nat,decide (((L.length:Nat):Int)<((L.length:Nat):Int))=false->step ((a:Int),(b:Int),((L.length:Nat):Int),())=Option.map Sum.inr (some ((a:Int),(b:Int),()))):
  aC step ((0:Int),(0:Int),(0:Int),())=some (((kO L x).1:Int),((kO L x).2:Int),()):=by
 suffices key:Yd (aC step ((0:Int),(0:Int),(0:Int),())) fun r=>r=(((kO L x).1:Int),((kO L x).2:Int),())by
  obtain⟨r,g,rfl⟩:=key;exact g
 refine Yd.list L (by have:=h.1;omega) (fun i (s:Int×Int)=>(s.1,s.2,i,())) (fun i s=>s=(((kO (L.take i) x).1:Int),((kO (L.take i) x).2:Int))) ?_ ?_ (s:=(0,0)) rfl
 ·rintro i m s rfl hd hm hi hdec hx hadd;obtain⟨g0,g1,gv,ga⟩:=h.2 m hm;have hlt:=AX (L:=L.take i) ⟨by rw[List.length_take];have:=h.1;omega,fun y hy=>h.2 y (Q1 hy)⟩ x
  have e:L.take (i+1)=L.take i++[m]:=by rw[List.take_add_one,show L[i]?=some m by rw[bg]at hx;exact hx];rfl
  refine .of_eq (h1 i _ _ m hdec hx (O7 hx) hadd g0 g1 gv ga hlt.1 hlt.2) ⟨(_,_),rfl,?_⟩;rw[e];simp only[kO,List.foldl_append,QU,List.foldl_nil]
 ·rintro s rfl hdec;rw[Qq62];exact .of_eq (h2 _ _ hdec) rfl
theorem NX{b:Bool}{s:Nat}{k:Int}(h:s<1024)(h0:0<=k)(h1:k<10):(if b then pF .i64 (s:Int) (bS .i64 (1:Int) k)else(s:Int))=((Wa b s k:Nat):Int):=by
 cases b with
 |true=>simp only[Qt,Wa];exact nu h h0 h1
 |false=>rfl
theorem V7{L:List ar}(h:Oe L)(x:ByteArray):eN L x=some (((kO L x).1:Int),((kO L x).2:Int),()):=by
 unfold eN;refine Mi h x (fun i a b m hd hx hx2 hadd g0 g1 gv ga ha hb=> ?_) (fun a b hd=> ?_)
 ·have e1:=NX (b:=decide (x∈m.bd)) ha g0 g1;have e2:=NX (b:=decide (x∈m.aD)) hb g0 g1;simp only[hd,hx,hadd,Qk,Qa,aP,H6 _ gv.uz,H6 _ ga.uz,FM,<-e1,<-e2,Qs (show¬m.al<0 by omega)]
  cases decide (x∈m.bd)<;>cases decide (x∈m.aD)<;>rfl
 ·simp only[hd,Ql]
theorem cY.said{n:aq}(h:cY n):Oe (n.au++[xq n]):=⟨by have:=h.len;simp;omega,Mk h⟩
theorem VY{n:aq}(h:cY n)(x:ByteArray):kv n x=some (((kO (n.au++[xq n]) x).1:Int),((kO (n.au++[xq n]) x).2:Int),()):=by
 have hlen:=h.len;unfold kv AU;simp only[etas,Qa,aP];rw[mq (by omega) (by simp;omega),Qk,mq (by omega) (by simp;omega),Qk]
 simp only[List.nil_append];refine Mi h.said x (fun i a b m hd hx hx2 hadd g0 g1 gv ga ha hb=> ?_) (fun a b hd=> ?_)
 ·have e1:=NX (b:=decide (x∈m.bd)) ha g0 g1;have e2:=NX (b:=decide (x∈m.aD)) hb g0 g1;show(fun _=>_) _=_
  unfold xq at hd hx hx2;simp only[hd,hx,hx2,hadd,Qk,Qa,HX _ gv.uz,HX _ ga.uz,FM,<-e1,<-e2,Qs (show¬m.al<0 by omega)]
  cases decide (x∈m.bd)<;>cases decide (x∈m.aD)<;>rfl
 ·unfold xq at hd ⊢;simp only[hd,Ql]
def F9(m:ar):cr:=⟨m.al,m.aE,m.ak,[],[]⟩
def FO(l:List aR)(m:cr):List aR:=l.set m.al.toNat ⟨true,m.ak⟩
def nZ(n:aq):List aR:=((n.au.map F9).foldl FO (List.replicate 10 ⟨false,wF⟩)).set n.al.toNat ⟨true,n.ak⟩
structure Bv (m:cr):Prop where
 n0:0<=m.al
 n1:m.al<10
 seq:1<=m.aE
 aL:et m.ak
 dg:m.bd=[]
 er:m.aD=[]
theorem tK.msg{m:ar}(h:tK m):Bv (F9 m):=⟨h.n0,h.n1,h.seq,h.aL,rfl,rfl⟩
theorem ada{m:cr}(h:Bv m):pX m=some true:=by
 have hc:nW []=some true:=by
  unfold nW;exact bw rfl
 unfold pX;simp only[etas,h.dg,h.er,hc,eD h.aL];rw[Qg h.n0,Qg h.n1,Qg h.seq];rfl
theorem adx{m:cr}(h:Bv m):rl m=some true:=by
 have hc:sk []=some true:=by
  unfold sk;exact bw rfl
 unfold rl mH;simp only[etas,h.dg,h.er,hc,dn h.aL];rw[Qg h.n0,Qg h.n1,Qg h.seq];rfl
theorem FN:∀{l:List cr} (h:∀m∈l,Bv m) {r:List aR},rN r->rN (l.foldl FO r)
 |[],_,r,hr=>hr
 |m::l,h,r,hr=>FN (l:=l) (fun y hy=>h y (Qy _ hy)) (hr.set _ (h m Qx).aL.sm)
theorem Xd:rN (List.replicate 10 ⟨false,wF⟩):=⟨by rw[List.length_replicate],fun m hm=>by rw[(List.mem_replicate.1 hm).2];exact H9⟩
theorem SP{l:List cr}(h:∀m∈l,Bv m)(hl:l.length<=1000){fin:List aR->Option aU}{step:Int×aU×List aR×Unit->Option ((Int×aU×List aR×Unit)⊕aU)}
  (h1:∀(i:Nat) (m:cr) (s:List aR) (y:aR),decide ((i:Int)<((l.length:Nat):Int))=true->idx l (i:Int)=some m->aA .i64 (i:Int) 1=((i+1:Nat):Int)->m∈l->Bv m->idx s m.al=some y->s[m.al.toNat]?=some y->step ((i:Int),aU.mk [],s,())=some (.inl (((i+1:Nat):Int),aU.mk [],FO s m,())))
  (h2:∀s,decide (((l.length:Nat):Int)<((l.length:Nat):Int))=false->rN s->step (((l.length:Nat):Int),aU.mk [],s,())=Option.map Sum.inr (fin s)):
  aC step ((0:Int),aU.mk [],List.replicate 10 ⟨false,wF⟩,())=fin (l.foldl FO (List.replicate 10 ⟨false,wF⟩)):=by
 suffices key:∀(k i:Nat),i+k=l.length->aC step ((i:Int),aU.mk [],(l.take i).foldl FO (List.replicate 10 ⟨false,wF⟩),())=fin (l.foldl FO (List.replicate 10 ⟨false,wF⟩))from key l.length 0 (by omega)
 intro k
 induction k with
 |zero=>
  intro i hi;obtain rfl:i=l.length:=by omega
  rw[Qq62,fb,h2 _ (Qh (Qq64 _)) (FN h Xd)];cases fin (l.foldl FO (List.replicate 10 ⟨false,wF⟩))<;>rfl
 |succ k ih=>
  intro i hi;have hlt:i<l.length:=by omega
  have hm:=h l[i] (Q0 hlt);obtain⟨y,g1,g2⟩:=(FN (l:=l.take i) (fun z hz=>h z (Q1 hz)) Xd).get hm.n0 hm.n1
  have hs:=h1 i l[i] _ y (Qg (by omega)) (by rw[bg];exact Qv hlt) (bE (by omega) (by omega)) (Q0 hlt) hm g1 g2
  refine(bj hs).trans ?_;have:=ih (i+1) (by omega)
  rw[Q7 hlt,List.foldl_append]at this;exact this
theorem Sx:(decide ((10:Int)=(10:Int))&&decide (0<=(10:Int))&&bb 64 (Int.toNat (10:Int)))=true:=by
 rw[br (by decide)];rfl
section
variable {v : Int} {t : af} (h0 : 0 <= v) (h1 : v < 10) (ht : et t) {l : List cr} (hl : l.length <= 1000) (h : ∀ m ∈ l, Bv m)
 include h0 h1 ht hl h
theorem aaF:pj v t l=some ⟨(l.foldl FO (List.replicate 10 ⟨false,wF⟩)).set v.toNat ⟨true,t⟩⟩:=by
 unfold pj;rw[Sx,Qk];simp only[etas,aP];refine(SP h hl (fin:=fun s=>some ⟨s.set v.toNat ⟨true,t⟩⟩) (fun i m s y hd hx hadd hm hmo g1 g2=> ?_) (fun s hd hr=> ?_)).trans rfl
 ·simp only[hd,hx,hadd,Qk,Qa,cr.eta,ada hmo,g1,g2];rfl
 ·obtain⟨x,g1,g2⟩:=hr.get h0 h1;have hr2:=hr.set v.toNat (m:=⟨false,⟨0,[],[]⟩⟩) H9;obtain⟨x2,k1,k2⟩:=hr2.get h0 h1;simp only[hd,Ql,Qg h0,Qg h1,Qk,Qa,g1,g2,eD ht,decide_true,k1,k2,List.set_set]
theorem aa0(hne:∀m∈l,m.al≠v):kL v t l=some ⟨(l.foldl FO (List.replicate 10 ⟨false,wF⟩)).set v.toNat ⟨true,t⟩⟩:=by
 unfold kL mH;rw[Sx,Qk];simp only[etas,aP];refine(SP h hl (fin:=fun s=>some ⟨s.set v.toNat ⟨true,t⟩⟩) (fun i m s y hd hx hadd hm hmo g1 g2=> ?_) (fun s hd hr=> ?_)).trans rfl
 ·simp only[hd,hx,hadd,Qk,Qa,cr.eta,Qh (hne m hm),Qp,adx hmo,Lb hmo.aL.sm,g1,g2];rfl
 ·obtain⟨x,g1,g2⟩:=hr.get h0 h1;simp only[hd,Ql,Qg h0,Qg h1,Qk,Qa,g1,g2,dn ht,decide_true,Lb ht.sm]
end
theorem P8{L:List ar}(hl:L.length<=100){fin:List cr->Option aU}{step:Int×List cr×Unit->Option ((Int×List cr×Unit)⊕aU)}
  (h1:∀(i:Nat) (m:ar) (s:List cr),decide ((i:Int)<((L.length:Nat):Int))=true->idx L (i:Int)=some m->aA .i64 (i:Int) 1=((i+1:Nat):Int)->s.length=i->step ((i:Int),s,())=some (.inl (((i+1:Nat):Int),s++[F9 m],())))
  (h2:∀s,decide (((L.length:Nat):Int)<((L.length:Nat):Int))=false->step (((L.length:Nat):Int),s,())=Option.map Sum.inr (fin s)):
  aC step ((0:Int),[],())=fin (L.map F9):=by
 suffices key:∀(k i:Nat),i+k=L.length->aC step ((i:Int),(L.take i).map F9,())=fin (L.map F9)from key L.length 0 (by omega)
 intro k
 induction k with
 |zero=>
  intro i hi;obtain rfl:i=L.length:=by omega
  rw[Qq62,fb,h2 _ (Qh (Qq64 _))];cases fin (L.map F9)<;>rfl
 |succ k ih=>
  intro i hi;have hlt:i<L.length:=by omega
  have hs:=h1 i L[i] ((L.take i).map F9) (Qg (by omega)) (by rw[bg];exact Qv hlt) (bE (by omega) (by omega)) (by simp;omega)
  refine(bj hs).trans ?_;have:=ih (i+1) (by omega)
  rw[Q7 hlt,List.map_append]at this;exact this
section
variable {n : aq} (h : cY n)
 include h
theorem cY.abb:∀m∈n.au.map F9,Bv m:=fun m hm=>by
 obtain⟨x,hx,rfl⟩:=QP.1 hm;exact(h.heard x hx).1.msg
theorem B1:zj ⟨nZ n⟩:=((FN h.abb Xd).set n.al.toNat (m:=⟨true,n.ak⟩) h.ask.aL.sm).sc
theorem YT:lB n=some ⟨nZ n⟩:=by
 have hlen:=h.len;unfold lB;simp only[etas];refine(P8 (L:=n.au) (by omega) (fin:=fun s=>Option.bind (pj n.al n.ak s) fun r3=>some r3) (fun i m s hd hx hadd hs=> ?_) (fun s hd=> ?_)).trans ?_
 ·simp only[hd,hx,hadd,Qk,Qa];rw[mq (by omega) (by simp only[Q6];have:=of_decide_eq_true hd;omega)]
  rfl
 ·simp only[hd,Ql]
 ·rw[aaF h.ask.v0 h.ask.v1 h.ask.aL (by simp;omega) h.abb]
  rfl
theorem afh:jK n=some ⟨nZ n⟩:=by
 have hlen:=h.len;unfold jK;simp only[etas];refine(P8 (L:=n.au) (by omega) (fin:=fun s=>Option.bind (kL n.al n.ak s) fun r3=>some r3) (fun i m s hd hx hadd hs=> ?_) (fun s hd=> ?_)).trans ?_
 ·simp only[hd,hx,hadd,Qk,Qa];rw[mq (by omega) (by simp only[Q6];have:=of_decide_eq_true hd;omega)]
  rfl
 ·simp only[hd,Ql]
 ·rw[aa0 h.ask.v0 h.ask.v1 h.ask.aL (by simp;omega) h.abb (fun m hm=>by
   obtain⟨x,hx,rfl⟩:=QP.1 hm
   exact(h.heard x hx).2)]
  rfl
end
 def qU(n:aq)(x:ByteArray):Bool:= !decide (x∈n.aD)&&decide (n.aD.length<40)&&kp (nZ n) n.al.toNat (kO (n.au++[xq n]) x).1 (kO (n.au++[xq n]) x).2
 def Jc(n:aq)(x:ByteArray):Bool:=(gq (nZ n) (kO (n.au++[xq n]) x).2).testBit n.al.toNat
def ff(n:aq):List ByteArray:=qa (n.au++[xq n])
section
variable {n : aq} (h : cY n)
 include h
theorem acn(x:ByteArray):qX n x=some (qU n x):=by
 obtain⟨hn,hn10⟩:=Aa h;obtain⟨l1,l2⟩:=AX h.said x;have hf:=vn (B1 h) hn10 l1 l2;rw[<-hn]at hf;unfold qX qU;simp only[etas,aq.eta,aP,VY h,HX _ h.er.uz,YT h,hf,Qa];have hd:decide (((n.aD.length:Nat):Int)<40)=decide (n.aD.length<40):=by rw[decide_eq_decide];omega
 rw[hd];cases decide (x∈n.aD)<;>cases decide (n.aD.length<40)<;>rfl
theorem Gu:∀m∈n.au++[xq n],VL m.bd/\VL m.aD:=fun m hm=>⟨(Mk h m hm).2.2.1,(Mk h m hm).2.2.2⟩
theorem Rc:(ff n).length<=880:=by
 have h1:=Pu (Gu h);have:=h.len;rw[QB,Q6]at h1;unfold ff;omega
theorem Zz{x:ByteArray}(hx:x∈ff n):jv x:=by
 obtain⟨m,hm,g⟩:=((FC _).2 x).1 hx;exact g.elim ((Gu h m hm).1.qL x) ((Gu h m hm).2.qL x)
theorem ade:nV n=some (ff n):=by
 have hlen:=h.len;have l1:=h.dg.len;have l2:=h.er.len;unfold nV;obtain⟨r,k0,k1,k2,k3⟩:=Jl h.dg.Fs h.er.Fs (by omega)
 rw[k0,Qa]
 suffices key:Yd (aC _ (r,(0:Int),())) fun q=>q=ff n by
  obtain⟨q,g,rfl⟩:=key;exact g
 refine Yd.list n.au (by omega) (fun i (s:List ByteArray)=>(s,i,())) (fun i s=>s.Pairwise (fun x y=>bJ x y=true)/\s.length<=80+80*i/\∀x,x∈s↔(x∈n.bd\/x∈n.aD)\/∃m∈n.au.take i,x∈m.bd\/x∈m.aD) ?_ ?_ ⟨k1,by omega,fun x=>by rw[k2];simp⟩
 ·rintro i m s ⟨s1,s2,s3⟩ hd hm hi hdec hx hadd;have hmy:=(h.heard m hm).1;have l3:=hmy.dg.len;have l4:=hmy.er.len;obtain⟨r4,g0,g1,g2,g3⟩:=Jl hmy.dg.Fs hmy.er.Fs (by omega)
  obtain⟨r5,e0,e1,e2,e3⟩:=Jl s1 g1 (by omega)
  simp only;rw[hdec,Qk,hx,Qa,hadd,g0,Qa,e0];refine .some ⟨r5,rfl,e1,by omega,fun x=> ?_⟩
  have e:n.au.take (i+1)=n.au.take i++[m]:=by rw[List.take_add_one,show n.au[i]?=some m by rw[bg]at hx;exact hx];rfl
  rw[e2,s3,g2,e];simp only[Qz,Q5,or_assoc];constructor
  ·rintro(a|a|⟨m',a,b⟩|a)
   ·exact .inl a
   ·exact .inr (.inl a)
   ·exact .inr (.inr ⟨m',.inl a,b⟩)
   ·exact .inr (.inr ⟨m,.inr rfl,a⟩)
  ·rintro(a|a|⟨m',a|rfl,b⟩)
   ·exact .inl a
   ·exact .inr (.inl a)
   ·exact .inr (.inr (.inl ⟨m',a,b⟩))
   ·exact .inr (.inr (.inr b))
 ·rintro s ⟨s1,s2,s3⟩ hdec;rw[Qq62]at s3;simp only;rw[hdec,Ql];refine .some (KQ _ s1 fun x=> ?_)
  rw[s3];simp only[Qz,Q5];constructor
  ·rintro(a|⟨m',a,b⟩)
   ·exact⟨xq n,.inr rfl,a⟩
   ·exact⟨m',.inl a,b⟩
  ·rintro⟨m',a|rfl,b⟩
   ·exact .inr ⟨m',a,b⟩
   ·exact .inl b
theorem UH:bL n.au=some n.au:=by
 have hlen:=h.len;unfold bL;have hk:bb 120 (([]:List ar).length+n.au.length)=true:=mq (by omega) (by simp;omega)
 rw[hk]
 cases n.au with
 |nil=>simp
 |cons x l=>simp
theorem Zd:gB n ⟨nZ n⟩=some (match(ff n).find? (qU n)with|some x=>(x,true,())|none=>(⟨#[]⟩,false,())):=by
 have hlen:=h.len;obtain⟨hn,hn10⟩:=Aa h;have hkl:=Rc h;unfold gB gf;simp only[etas,UH h,Qa];rw[mq (by omega) (by simp;omega),Qk]
 have hall:ji (n.au++[(⟨n.al,n.aE,n.ak,n.bd,n.aD⟩:ar)])=some (ff n):=aft (Gu h) h.said.1;rw[hall,Qa];refine(F1 (ff n) (by omega) (qU n) (f:=fun _ x=>some (x,true,())) (fin:=some (⟨#[]⟩,false,())) (fun i x hi hx0 hd hx hadd=> ?_) (fun _ hd=> ?_)).trans ?_
 ·obtain⟨l1,l2⟩:=AX h.said x;have hf:=xc (B1 h) hn10 l1 l2;rw[<-hn]at hf;have hsay:eN (n.au++[(⟨n.al,n.aE,n.ak,n.bd,n.aD⟩:ar)]) x=_:=V7 h.said x;have hd4:decide (((n.aD.length:Nat):Int)<40)=decide (n.aD.length<40):=by rw[decide_eq_decide];omega
  simp only[hd,hx,hadd,Qk,Qa,hsay,H6 _ h.er.uz,hf,hd4,qU];cases decide (x∈n.aD)<;>cases decide (n.aD.length<40)<;>cases kp (nZ n) n.al.toNat (kO (n.au++[xq n]) x).1 (kO (n.au++[xq n]) x).2<;>rfl
 ·simp only[hd,Ql]
 ·cases hf:(ff n).findIdx? (qU n)with
  |none=>
   have:(ff n).find? (qU n)=none:=List.find?_eq_none.2 fun x hx=>by rw[List.findIdx?_eq_none_iff.1 hf x hx];simp
   rw[this]
  |some i=>
   obtain⟨hi,hp,hpre⟩:=List.findIdx?_eq_some_iff_getElem.1 hf;have:(ff n).find? (qU n)=some (ff n)[i]:=List.find?_eq_some_iff_getElem.2 ⟨hp,i,hi,rfl,fun j hj=>by simpa using hpre j hj⟩
   rw[this];simp only[Qv hi,Qa]
end
end
section
def O9(x:Int):List af->Bool
 |[]=>false
 |u::_=>decide (x∈u.aX)
def T6(t:af)(x:Int):Bool:=decide (x∈t.aX)||O9 x t.aN
def sN(t:af):Int:=((t.aX.length+t.aN.length:Nat):Int)
def GZ(t:af)(x:Int):eJ×Bool×Unit:=if T6 t x then(⟨t.aG,sN t⟩,true,())else(⟨0,0⟩,false,())
theorem den_add(t:af)(h:t.aX.length+t.aN.length<=1000):aA .i64 ((t.aX.length:Nat):Int) ((t.aN.length:Nat):Int)=sN t:=by
 rw[bE (by omega) (by omega)]
 unfold sN;omega
theorem acu{a b:Int}(h0:0<=a*b)(h:a*b<=9223372036854775807):oU .i64 a b=a*b:=wrap64 (by omega) h
theorem afr(l:List Int)(hl:l.length<=1000000)(x:Int):gn l x=some (decide (x∈l)):=by
 unfold gn kb
 have:=Yd.list (p:=fun r=>decide (0<=r)=decide (x∈l)) (step:=fun(v1:Int×Unit)=>
   bif (decide (v1.1<((List.length l:Nat):Int)))then
   Option.bind (idx l v1.1) fun x2=>
   bif (decide (x=x2))then
   Option.map Sum.inr (some v1.1)
   else
   some (Sum.inl ((aA .i64 v1.1 (1:Int)),()))
   else
   Option.map Sum.inr (some (-1:Int))) l hl (fun i (_:Unit)=>(i,())) (fun i _=>x∉l.take i) ?_ ?_ (s:=()) (by simp)
 ·obtain⟨r,h1,h2⟩:=this;rw[h1,Qa,h2]
 ·intro i y s hs hd hy hi hdec hx hadd;simp only;rw[hdec,Qk,hx,Qa,hadd]
  by_cases hxy:x=y
  ·rw[Qg hxy,Qk];refine .some ?_;show decide ((0:Int)<=(i:Int))=decide (x∈l);rw[Qg (by omega:(0:Int)<=(i:Int))]
   exact(Qg (by rw[hxy];exact hy)).symm
  ·rw[Qh hxy,Ql];refine .some ⟨(),rfl,?_⟩;rw[List.take_add_one,show l[i]?=some y by rw[bg]at hx;exact hx]
   simp only[Option.toList_some,Qz,Q5];exact fun h=>h.elim hs hxy
 ·intro s hs hdec;simp only;rw[hdec,Ql];rw[Qq62]at hs;refine .some ?_;show decide ((0:Int)<= -1)=decide (x∈l);rw[Qh hs];rfl
theorem Zo{ρ:Type}(l:List Int)(hl:l.length<=1000000)(x:Int)(z:eJ){hit:Option ρ}{fin:Option ρ}{step:Int×eJ×Unit->Option ((Int×eJ×Unit)⊕ρ)}
  (h1:∀(i:Nat) (y:Int),decide ((i:Int)<((l.length:Nat):Int))=true->idx l (i:Int)=some y->aA .i64 (i:Int) 1=((i+1:Nat):Int)->step ((i:Int),z,())=bif decide (y=x)then Option.map Sum.inr hit else some (.inl (((i+1:Nat):Int),z,())))
  (h2:decide (((l.length:Nat):Int)<((l.length:Nat):Int))=false->step (((l.length:Nat):Int),z,())=Option.map Sum.inr fin):
  aC step ((0:Int),z,())=if x∈l then hit else fin:=by
 suffices key:∀(k i:Nat),i+k=l.length->aC step ((i:Int),z,())=if x∈l.drop i then hit else fin from by
  have:=key l.length 0 (by omega)
  rw[List.drop_zero]at this;exact this
 intro k
 induction k with
 |zero=>
  intro i hi;obtain rfl:i=l.length:=by omega
  rw[fb,h2 (Qh (Qq64 _)),Qq66,Qs QR];cases fin<;>rfl
 |succ k ih=>
  intro i hi;have hlt:i<l.length:=by omega
  have hs:=h1 i l[i] (Qg (by omega)) (by rw[bg];exact Qv hlt) (bE (by omega) (by omega))
  rw[QM hlt]
  by_cases hy:l[i]=x
  ·rw[Qg hy,Qk]at hs;rw[fb,hs,Qr (by rw[<-hy];exact Qx)]
   cases hit<;>rfl
  ·rw[Qh hy,Ql]at hs;rw[bj hs,ih (i+1) (by omega)]
   by_cases hm:x∈l.drop (i+1)
   ·rw[Qr hm,Qr (Qy _ hm)]
   ·rw[Qs hm,Qs (fun e=>(QA.1 e).elim (fun e=>hy e.symm) hm)]
theorem Nu{l:List af}(hl:l=[]\/∃y,l=[⟨1,[y],[]⟩]){x:Int}{th n:Int}(hth:1<=th/\th<=1000)(hn:1<=n/\n<=1000)(z:eJ){rec:af->Option (eJ×Bool×Unit)}
  (hr:∀y,l=[⟨1,[y],[]⟩]->rec ⟨1,[y],[]⟩=some (GZ ⟨1,[y],[]⟩ x)) {step:Int×eJ×Unit->Option ((Int×eJ×Unit)⊕(eJ×Bool×Unit))}
  (h1:∀(i:Nat) (u:af),decide ((i:Int)<((l.length:Nat):Int))=true->idx l (i:Int)=some u->aA .i64 (i:Int) 1=((i+1:Nat):Int)->step ((i:Int),z,())=Option.bind (rec u) fun r=>bif r.2.1 then Option.map Sum.inr (some (⟨oU .i64 th r.1.RG,oU .i64 n r.1.RH⟩,true,()))else some (.inl (((i+1:Nat):Int),z,())))
  (h2:decide (((l.length:Nat):Int)<((l.length:Nat):Int))=false->step (((l.length:Nat):Int),z,())=Option.map Sum.inr (some (⟨0,0⟩,false,()))):
  aC step ((0:Int),z,())=some (if O9 x l then(⟨th,n⟩,true,())else(⟨0,0⟩,false,())):=by
 rcases hl with rfl|⟨y,rfl⟩
 ·exact bw (h2 (by decide))
 ·have g:=h1 0 _ (by simp) rfl rfl
  rw[hr y rfl]at g;simp only[Qa,GZ,T6,O9,Bool.or_false,sN,Q6,QZ]at g
  by_cases hx:x∈[y]
  ·simp only[Qg hx,Qt,Qk]at g;rw[acu (by omega) (by omega),acu (by simp;omega) (by simp;omega)]at g
   refine bw (g.trans ?_);simp only[O9,Qg hx,Qt,Int.mul_one];simp
  ·simp only[Qh hx,Qq,Qu,Ql]at g;refine(bj g).trans ((bw (h2 (by simp))).trans ?_)
   simp only[O9,Qh hx,Qq,Qu]
theorem et.ZD{t:af}(h:et t):t.aN=[]\/∃y,t.aN=[⟨1,[y],[]⟩]:=h.inner.elim .inl fun⟨x,_,_,e⟩=> .inr ⟨x,e⟩
theorem et.total{t:af}(h:et t):t.aX.length+t.aN.length<=11/\1<=t.aX.length+t.aN.length:=by
 have h1:=h.len;have h2:=h.th;rcases h.inner with e|⟨_,_,_,e⟩<;>rw[e]at h2 ⊢<;>simp only[QZ,Q6]at h2 ⊢<;>omega
theorem V5{rec:(af×Int×Unit)->Option (eJ×Bool×Unit)}{t:af}{x:Int}(h1:t.aN=[]\/∃y,t.aN=[⟨1,[y],[]⟩])(hn:t.aX.length<=100)(hth:1<=t.aG/\t.aG<=1000)(hd:1<=t.aX.length+t.aN.length)
  (hr:∀y,t.aN=[⟨1,[y],[]⟩]->rec (⟨1,[y],[]⟩,x,())=some (GZ ⟨1,[y],[]⟩ x)):jl rec t x=some (GZ t x):=by
 have hl:t.aN.length<=1:=by rcases h1 with e|⟨_,e⟩<;>rw[e]<;>simp
 unfold jl;simp only[afr t.aX (by omega),den_add t (by omega),Qa]
 unfold GZ T6
 cases decide (x∈t.aX)with
 |true=>rfl
 |false=>
  simp only[Ql,Bool.false_or];rcases h1 with e|⟨y,e⟩
  ·rw[e];exact bw rfl
  ·refine(Nu (l:=t.aN) (.inr ⟨y,e⟩) (th:=t.aG) (n:=sN t) hth (by unfold sN;omega) ⟨0,0⟩ (rec:=fun u=>rec (u,x,())) hr (fun i u hdc hx hadd=> ?_) (fun hdc=> ?_)).trans rfl
   ·simp only[hdc,hx,hadd,Qk,Qa,etas]
   ·simp only[hdc,Ql]
theorem VW{rec:(af×Int×Unit)->Option (eJ×Bool×Unit)}{t:af}{x:Int}(h1:t.aN=[]\/∃y,t.aN=[⟨1,[y],[]⟩])(hn:t.aX.length<=100)(hth:1<=t.aG/\t.aG<=1000)(hd:1<=t.aX.length+t.aN.length)
  (hr:∀y,t.aN=[⟨1,[y],[]⟩]->rec (⟨1,[y],[]⟩,x,())=some (GZ ⟨1,[y],[]⟩ x)):jz rec t x=some (GZ t x):=by
 have hl:t.aN.length<=1:=by rcases h1 with e|⟨_,e⟩<;>rw[e]<;>simp
 unfold jz;refine(Zo t.aX (by omega) x ⟨0,0⟩ (hit:=some (⟨t.aG,sN t⟩,true,())) (fin:=some (if O9 x t.aN then(⟨t.aG,sN t⟩,true,())else(⟨0,0⟩,false,()))) (fun i y hdc hx hadd=> ?_) (fun hdc=> ?_)).trans ?_
 ·simp only[hdc,hx,hadd,Qk,Qa,den_add t (by omega)]
 ·simp only[hdc,Ql,den_add t (by omega)]
  congr 1;rcases h1 with e|⟨y,e⟩
  ·rw[e];exact bw rfl
  ·refine(Nu (l:=t.aN) (.inr ⟨y,e⟩) (th:=t.aG) (n:=sN t) hth (by unfold sN;omega) ⟨0,0⟩ (rec:=fun u=>rec (u,x,())) hr (fun i u hdc hx hadd=> ?_) (fun hdc=> ?_)).trans rfl
   ·simp only[hdc,hx,hadd,Qk,Qa,etas]
   ·simp only[hdc,Ql]
 ·unfold GZ T6
  by_cases hx:x∈t.aX
  ·rw[Qr hx,Qg hx];rfl
  ·rw[Qs hx,Qh hx,Bool.false_or]
theorem pW{t:af}(h:et t)(x:Int):s6 t x=some (GZ t x):=by
 have h1:=h.total;have h2:=h.th;have h3:=h.len;show jl (sV (SizeOf.sizeOf t+SizeOf.sizeOf x)) t x=_;refine V5 h.ZD (by omega) (by omega) h1.2 fun y e=> ?_
 obtain⟨n,hn⟩:∃n,SizeOf.sizeOf t+SizeOf.sizeOf x=n+1:=by
  obtain⟨n,hn⟩:=EN t;exact⟨n+SizeOf.sizeOf x,by omega⟩
 rw[hn];show jl (sV n) ⟨1,[y],[]⟩ x=_;exact V5 (.inl rfl) (by simp) (by simp) (by simp) fun y e=>by cases e
theorem rW{t:af}(h:et t)(x:Int):vT t x=some (GZ t x):=by
 have h1:=h.total;have h2:=h.th;have h3:=h.len;show jz (rP (SizeOf.sizeOf t+SizeOf.sizeOf x)) t x=_;refine VW h.ZD (by omega) (by omega) h1.2 fun y e=> ?_
 obtain⟨n,hn⟩:∃n,SizeOf.sizeOf t+SizeOf.sizeOf x=n+1:=by
  obtain⟨n,hn⟩:=EN t;exact⟨n+SizeOf.sizeOf x,by omega⟩
 rw[hn];show jz (rP n) ⟨1,[y],[]⟩ x=_;exact VW (.inl rfl) (by simp) (by simp) (by simp) fun y e=>by cases e
theorem Jw(a b c d:Int):∃r,mZ a b c d=some r/\mG a b c d=some r/\0<=r/\r<4294967296:=by
 have key:∀n:Int,0<=bz .u32 n/\bz .u32 n<4294967296:=fun n=>by
  unfold bz IntKind.wrap;simp[IntKind.signed,IntKind.bits];omega
 unfold mZ mG;exact⟨_,rfl,rfl,key _⟩
 def nv(a b c d:Int):Int:=Classical.choose (Jw a b c d)
theorem Tb(a b c d:Int):mZ a b c d=some (nv a b c d):=(Classical.choose_spec (Jw a b c d)).1
theorem Zh(a b c d:Int):mG a b c d=some (nv a b c d):=(Classical.choose_spec (Jw a b c d)).2.1
theorem Ub(a b c d:Int):0<=nv a b c d/\nv a b c d<4294967296:=(Classical.choose_spec (Jw a b c d)).2.2
 def wG(t:af)(v aK round k:Int):Bool:=decide (k=v)||(T6 t k&&decide (nv 1 aK round k*sN t<t.aG*4294967296))
section
variable {t : af} {v aK round : Int} (h : Cp t v aK round)
 include h
theorem Wf(k:Int):oU .u64 (bz .u64 (nv 1 aK round k)) (bz .u64 (sN t))=nv 1 aK round k*sN t/\bS .u64 (bz .u64 t.aG) (32:Int)=t.aG*4294967296/\oU .i64 (bz .i64 (nv 1 aK round k)) (sN t)=nv 1 aK round k*sN t/\bS .i64 t.aG (32:Int)=t.aG*4294967296:=by
 obtain⟨h1,h2⟩:=Ub 1 aK round k;have h3:=h.aL.total;have h4:=h.aL.th;generalize nv 1 aK round k=a at h1 h2;have hd:1<=sN t/\sN t<=11:=by unfold sN;omega
 generalize sN t=d at hd;have ht:1<=t.aG/\t.aG<=11:=by omega
 generalize t.aG=th at ht;have hm:0<=a*d/\a*d<=4294967296*11:=⟨Int.mul_nonneg h1 (by omega),Int.mul_le_mul (by omega) hd.2 (by omega) (by omega)⟩
 have u64:∀n:Int,0<=n->n<9223372036854775808->IntKind.u64.wrap n=n:=fun n a b=>by
  unfold IntKind.wrap;simp[IntKind.signed,IntKind.bits];omega
 have c1:bz .u64 a=a:=u64 a h1 (by omega)
 have c2:bz .u64 d=d:=u64 d (by omega) (by omega)
 have c3:bz .u64 th=th:=u64 th (by omega) (by omega)
 have c4:bz .i64 a=a:=wrap64 (by omega) (by omega)
 rw[c1,c2,c3,c4];refine⟨u64 _ hm.1 (by omega),?_,wrap64 (by omega) (by omega),?_⟩
 ·exact u64 (th*2 ^ 32) (by omega) (by omega)
 ·exact wrap64 (n:=th*2 ^ 32) (by omega) (by omega)
theorem pNb(k:Int):gu t v aK round k=some (wG t v aK round k):=by
 obtain⟨c1,c2,_,_⟩:=Wf h k;unfold gu wG;simp only[etas,pW h.aL,Zh,Qa,aP]
 cases decide (k=v)with
 |true=>rfl
 |false=>
  unfold GZ
  cases T6 t k with
  |true=>
   simp only[Qt,Qk,Ql,c1,c2];rfl
  |false=>rfl
theorem rNb(k:Int)(h0:0<=k)(h1:k<10):lJ t v aK round k=some (wG t v aK round k):=by
 obtain⟨_,_,c1,c2⟩:=Wf h k;unfold lJ wG;simp only[etas,MD h,rW h.aL,Tb,Qa,aP,decide_true,Qo,Ql];rw[Qh (by omega:¬k<0),Qh (by omega:¬(10:Int)<=k)]
 simp only[Ql,Qa]
 cases decide (k=v)with
 |true=>rfl
 |false=>
  unfold GZ
  cases T6 t k with
  |true=>
   simp only[Qt,Qk,Ql,c1,c2];rfl
  |false=>rfl
def xg(aK round j b:Int):Prop:=nv 2 aK round j<nv 2 aK round b\/nv 2 aK round j=nv 2 aK round b/\j<=b
structure Bw (t:af) (v aK round b:Int):Prop where
 b0:0<=b
 b1:b<10
 nb:wG t v aK round b=true
 top:∀j,0<=j->j<10->wG t v aK round j=true->xg aK round j b
 omit h in
theorem Bw.unique{a b:Int}(ha:Bw t v aK round a)(hb:Bw t v aK round b):a=b:=by
  have h1:=ha.top b hb.b0 hb.b1 hb.nb;have h2:=hb.top a ha.b0 ha.b1 ha.nb;unfold xg at h1 h2;omega
theorem aa4:Yd (iq t v aK round) (Bw t v aK round):=by
 have hv0:=h.v0;have hv1:=h.v1;unfold iq;simp only[etas,aP];refine Yd.Ci (fun(s:Int×Int×Int×Unit)=>0<=s.2.2.1/\s.2.2.1<=10/\((s.2.1=0/\(∀j,0<=j->j<s.2.2.1->wG t v aK round j=false))\/(0<=s.1/\s.1<s.2.2.1/\wG t v aK round s.1=true/\s.2.1=nv 2 aK round s.1/\∀j,0<=j->j<s.2.2.1->wG t v aK round j=true->xg aK round j s.1))) (fun s=>(10 - s.2.2.1).toNat) ?_ ⟨Int.le_refl _,by show(0:Int)<=10;omega,.inl ⟨rfl,fun j h0 h1=>by simp only at h1;omega⟩⟩
 rintro⟨b,m,k,u⟩ ⟨h1,h2,h3⟩;simp only at h1 h2 h3;simp only
 by_cases hk:k<10
 ·rw[Qg hk];have hadd:aA .i64 k 1=k+1:=bE (by omega) (by omega)
  simp only[Qk];rw[hadd,pNb h,Qa];have hm:(10 - (k+1)).toNat<(10 - k).toNat:=by omega
  have split1:∀j,j<k+1->j<k\/j=k:=fun j hj=>by omega
  cases hn:wG t v aK round k with
  |false=>
   refine .some ⟨⟨by show 0<=k+1;omega,by show k+1<=10;omega,?_⟩,hm⟩
   rcases h3 with⟨h4,h5⟩|⟨h4,h5,h6,h7,h8⟩
   ·refine .inl ⟨h4,fun j j0 j1=> ?_⟩
    rcases split1 j j1 with j1|rfl
    ·exact h5 j j0 j1
    ·exact hn
   ·refine .inr ⟨h4,by show b<k+1;omega,h6,h7,fun j j0 j1 hj=> ?_⟩
    rcases split1 j j1 with j1|rfl
    ·exact h8 j j0 j1 hj
    ·rw[hn]at hj;cases hj
  |true=>
   rw[Zh];simp only[Qo,Ql,Qa]
   by_cases hle:m<=nv 2 aK round k
   ·rw[Qg hle,Qk];refine .some ⟨⟨by show 0<=k+1;omega,by show k+1<=10;omega,.inr ⟨h1,by show k<k+1;omega,hn,rfl,fun j j0 j1 hj=> ?_⟩⟩,hm⟩
    show xg aK round j k;rcases split1 j j1 with j1|rfl
    ·rcases h3 with⟨h4,h5⟩|⟨h4,h5,h6,h7,h8⟩
     ·have:=h5 j j0 j1;rw[this]at hj;cases hj
     ·have:=h8 j j0 j1 hj;unfold xg at this ⊢;omega
    ·exact .inr ⟨rfl,Int.le_refl _⟩
   ·rw[Qh hle,Ql];refine .some ⟨⟨by show 0<=k+1;omega,by show k+1<=10;omega,?_⟩,hm⟩
    have hr:=Ub 2 aK round k;rcases h3 with⟨h4,h5⟩|⟨h4,h5,h6,h7,h8⟩
    ·omega
    ·refine .inr ⟨h4,by show b<k+1;omega,h6,h7,fun j j0 j1 hj=> ?_⟩
     rcases split1 j j1 with j1|rfl
     ·exact h8 j j0 j1 hj
     ·show xg aK round j b;unfold xg;omega
 ·rw[Qh hk];have hself:wG t v aK round v=true:=by unfold wG;simp
  rcases h3 with⟨h4,h5⟩|⟨h4,h5,h6,h7,h8⟩
  ·have:=h5 v hv0 (by omega)
   rw[hself]at this;cases this
  ·exact .some ⟨h4,by omega,h6,fun j j0 j1 hj=>h8 j j0 (by omega) hj⟩
theorem aaQ:Yd (kS t v aK round) fun q=>Bw t v aK round q.1/\q.2.1=0:=by
 have hv0:=h.v0;have hv1:=h.v1;have hself:wG t v aK round v=true:=by unfold wG;simp
 unfold kS;simp only[etas,MD h,Qa,aP];simp only[decide_true,Qo,Ql];refine Yd.Ci (fun(s:Int×Int×Unit)=>0<=s.2.1/\s.2.1<=10/\0<=s.1/\s.1<10/\wG t v aK round s.1=true/\∀j,0<=j->j<s.2.1->wG t v aK round j=true->xg aK round j s.1) (fun s=>(10 - s.2.1).toNat) ?_ ⟨Int.le_refl _,by show(0:Int)<=10;omega,hv0,hv1,hself,fun j h0 h1=>by simp only at h1;omega⟩
 rintro⟨b,k,u⟩ ⟨h1,h2,h3,h4,h5,h6⟩;simp only at h1 h2 h3 h4 h5 h6;simp only
 by_cases hk:k<10
 ·rw[Qg hk];have hadd:aA .i64 k 1=k+1:=bE (by omega) (by omega)
  simp only[Qk];rw[hadd,rNb h k h1 hk,Qa];have hm:(10 - (k+1)).toNat<(10 - k).toNat:=by omega
  have split1:∀j,j<k+1->j<k\/j=k:=fun j hj=>by omega
  have fin:∀x:Int,0<=x->x<10->wG t v aK round x=true->(∀j,0<=j->j<k+1->wG t v aK round j=true->xg aK round j x)->Yd (some (Sum.inl (x,k+1,())):Option ((Int×Int×Unit)⊕(Int×Int×Unit))) (Lp (fun s'=>(0<=s'.2.1/\s'.2.1<=10/\0<=s'.1/\s'.1<10/\wG t v aK round s'.1=true/\∀j,0<=j->j<s'.2.1->wG t v aK round j=true->xg aK round j s'.1)/\(10 - s'.2.1).toNat<(10 - k).toNat) (fun q=>Bw t v aK round q.1/\q.2.1=0)):=
   fun x g1 g2 g3 g4=> .some ⟨⟨by show 0<=k+1;omega,by show k+1<=10;omega,g1,g2,g3,g4⟩,hm⟩
  cases hn:wG t v aK round k with
  |false=>
   refine fin b h3 h4 h5 fun j j0 j1 hj=> ?_
   rcases split1 j j1 with j1|rfl
   ·exact h6 j j0 j1 hj
   ·rw[hn]at hj;cases hj
  |true=>
   rw[Tb,Tb];simp only[Qo,Ql,Qa]
   by_cases hlt:nv 2 aK round b<nv 2 aK round k
   ·rw[Qg hlt];refine fin k h1 hk hn fun j j0 j1 hj=> ?_
    rcases split1 j j1 with j1|rfl
    ·have:=h6 j j0 j1 hj;unfold xg at this ⊢;omega
    ·exact .inr ⟨rfl,Int.le_refl _⟩
   ·rw[Qh hlt];simp only[Ql,Qa]
    by_cases heq:nv 2 aK round k=nv 2 aK round b
    ·rw[Qg heq];simp only[Qk,Qa]
     by_cases hbk:b<k
     ·rw[Qg hbk];refine fin k h1 hk hn fun j j0 j1 hj=> ?_
      rcases split1 j j1 with j1|rfl
      ·have:=h6 j j0 j1 hj;unfold xg at this ⊢;omega
      ·exact .inr ⟨rfl,Int.le_refl _⟩
     ·rw[Qh hbk];refine fin b h3 h4 h5 fun j j0 j1 hj=> ?_
      rcases split1 j j1 with j1|rfl
      ·exact h6 j j0 j1 hj
      ·exact .inr ⟨heq,by omega⟩
    ·rw[Qh heq];refine fin b h3 h4 h5 fun j j0 j1 hj=> ?_
     rcases split1 j j1 with j1|rfl
     ·exact h6 j j0 j1 hj
     ·exact .inl (by omega)
 ·rw[Qh hk];exact .some ⟨⟨h3,h4,h5,fun j j0 j1 hj=>h6 j j0 (by omega) hj⟩,rfl⟩
end
 def vx(t:af)(v aK round:Int):Int:=(iq t v aK round).getD 0
 def jO(t:af)(v aK:Int):Nat->Nat
 |0=>0
 |k+1=>jO t v aK k|||2 ^ (vx t v aK ((k+1:Nat):Int)).toNat
section
variable {t : af} {v aK round : Int} (h : Cp t v aK round)
 include h
theorem Cp.at{r:Int}(h1:1<=r)(h2:r<=round):Cp t v aK r:=⟨h.aL,h.v0,h.v1,h.s0,h.s1,h1,by have:=h.r2;omega⟩
theorem Se:iq t v aK round=some (vx t v aK round)/\Bw t v aK round (vx t v aK round):=by
 obtain⟨b,h1,h2⟩:=aa4 h;unfold vx;rw[h1];exact⟨rfl,h2⟩
theorem ack:kS t v aK round=some (vx t v aK round,0,()):=by
 obtain⟨⟨b,e,u⟩,h1,h2,h3⟩:=aaQ h;simp only at h3;subst h3;have h4:Bw t v aK round b:=h2;rw[h1,h4.unique (Se h).2]
theorem Gg:∀k:Nat,(k:Int)<=round->jO t v aK k<1024
 |0,_=>by unfold jO;omega
 |k+1,hk=>by
  have h1:=Gg k (by omega)
  have h2:=(Se (h.at (r:=((k+1:Nat):Int)) (by omega) hk)).2
  unfold jO;exact AE h1 h2.b1
theorem Zf:lN t v aK round=some (((jO t v aK round.toNat:Nat):Int),0,()):=by
 have e1:=h.v0;have e2:=h.v1;have e3:=h.s0;have e4:=h.s1;have e5:=h.r1;have e6:=h.r2;unfold lN ue;simp only[etas,dn h.aL,Qa,decide_true,Qo,Ql];rw[Qh (by omega:¬v<0),Qh (by omega:¬(10:Int)<=v),Qh (by omega:¬aK<0),Qh (by omega:¬(1000000:Int)<aK),Qh (by omega:¬round<1),Qh (by omega:¬(1000:Int)<round)]
 simp only[Ql,Qa,decide_true,Qo]
 suffices key:∀(d k:Nat),k+d=round.toNat->aC _ (((jO t v aK k:Nat):Int),(k:Int),())=some (((jO t v aK round.toNat:Nat):Int),(0:Int),())from key round.toNat 0 (by omega)
 intro d
 induction d with
 |zero=>
  intro k hk;obtain rfl:k=round.toNat:=by omega
  refine bw ?_;rw[Qh (by omega:¬((round.toNat:Nat):Int)<round)]
  rfl
 |succ d ih=>
  intro k hk;have hadd:aA .i64 (k:Int) 1=((k+1:Nat):Int):=bE (by omega) (by omega)
  obtain⟨g1,g2⟩:=Se (h.at (r:=((k+1:Nat):Int)) (by omega) (by omega))
  refine(bj ?_).trans (ih (k+1) (by omega))
  rw[Qg (by omega:(k:Int)<round)]
  simp only[hadd,g1,Qk,Qa];rw[Qs (by have:=g2.b0;omega),nu (Gg h k (by omega)) g2.b0 g2.b1]
  rfl
theorem YY:nI t v aK round=some (((jO t v aK round.toNat:Nat):Int),0,()):=by
 have e5:=h.r1;have e6:=h.r2;unfold nI;simp only[etas,aP,ack h,Qa,decide_true,Qo,Ql]
 suffices key:∀(d k:Nat),k+d=round.toNat->aC _ (((jO t v aK k:Nat):Int),((k+1:Nat):Int),())=some (((jO t v aK round.toNat:Nat):Int),(0:Int),())from key round.toNat 0 (by omega)
 intro d
 induction d with
 |zero=>
  intro k hk;obtain rfl:k=round.toNat:=by omega
  refine bw ?_;rw[Qh (by omega:¬((round.toNat+1:Nat):Int)<=round)]
  rfl
 |succ d ih=>
  intro k hk;have hadd:aA .i64 ((k+1:Nat):Int) 1=((k+1+1:Nat):Int):=bE (by omega) (by omega)
  have ha:=h.at (r:=((k+1:Nat):Int)) (by omega) (by omega)
  have g1:=ack ha;have g2:=(Se ha).2;have hlt:=Gg h k (by omega)
  refine(bj ?_).trans (ih (k+1) (by omega))
  rw[Qg (by omega:((k+1:Nat):Int)<=round)]
  have hh:kg ((jO t v aK k:Nat):Int) (vx t v aK ((k+1:Nat):Int))=some (uH ((jO t v aK k:Nat):Int) (vx t v aK ((k+1:Nat):Int))):=oO _ _
  have hs:uH ((jO t v aK k:Nat):Int) (vx t v aK ((k+1:Nat):Int))=(jO t v aK k).testBit (vx t v aK ((k+1:Nat):Int)).toNat:=by
   unfold uH eH;rw[Qg (by omega:(0:Int)<=((jO t v aK k:Nat):Int)),Qg (by omega:((jO t v aK k:Nat):Int)<1024),Qg g2.b0,Qg g2.b1]
   simp
  simp only[hadd,g1,hh,hs,Qk,Qa];show _=some (Sum.inl (((jO t v aK k|||2 ^ (vx t v aK ((k+1:Nat):Int)).toNat:Nat):Int),((k+1+1:Nat):Int),()))
  cases hb:(jO t v aK k).testBit (vx t v aK ((k+1:Nat):Int)).toNat with
  |true=>
   have:jO t v aK k|||2 ^ (vx t v aK ((k+1:Nat):Int)).toNat=jO t v aK k:=by
    refine Nat.eq_of_testBit_eq fun i=> ?_
    rw[Nat.testBit_or,Nat.testBit_two_pow]
    by_cases hi:(vx t v aK ((k+1:Nat):Int)).toNat=i
    ·rw[<-hi,hb];rfl
    ·rw[Qh hi,Bool.or_false]
   rw[this];rfl
  |false=>
   simp only[Qp,Qk];rw[Qs (by have:=g2.b0;omega),nu hlt g2.b0 g2.b1]
theorem M5:jO t v aK round.toNat<1024:=Gg h round.toNat (by have:=h.r1;omega)
end
end
section
theorem fold_eq{α σ τ ρ:Type}(l:List α)(hl:l.length<=1000000)(f:σ->α->σ)(mk:Int->σ->τ)(Inv:σ->Prop)(hI:∀s x,x∈l->Inv s->Inv (f s x)){step:τ->Option (τ⊕ρ)}{fin:σ->Option ρ}
  (h1:∀(i:Nat) (x:α) (s:σ),Inv s->x∈l->decide ((i:Int)<((l.length:Nat):Int))=true->idx l (i:Int)=some x->aA .i64 (i:Int) 1=((i+1:Nat):Int)->step (mk (i:Int) s)=some (.inl (mk ((i+1:Nat):Int) (f s x))))
  (h2:∀s,Inv s->decide (((l.length:Nat):Int)<((l.length:Nat):Int))=false->step (mk ((l.length:Nat):Int) s)=Option.map Sum.inr (fin s))
  {s:σ} (h0:Inv s):aC step (mk 0 s)=fin (l.foldl f s):=by
 suffices key:∀(k i:Nat) (s:σ),i+k=l.length->Inv s->aC step (mk (i:Int) s)=fin ((l.drop i).foldl f s)from key l.length 0 s (by omega) h0
 intro k
 induction k with
 |zero=>
  intro i s hi hs;obtain rfl:i=l.length:=by omega
  rw[fb,h2 s hs (Qh (Qq64 _)),Qq66,List.foldl_nil];cases fin s<;>rfl
 |succ k ih=>
  intro i s hi hs;have hlt:i<l.length:=by omega
  have hx:=Q0 hlt;refine(bj (h1 i l[i] s hs hx (Qg (by omega)) (by rw[bg];exact Qv hlt) (bE (by omega) (by omega)))).trans ((ih (i+1) _ (by omega) (hI s _ hx hs)).trans ?_)
  rw[QM hlt,QU]
theorem C8{α σ:Type}{f:σ->α->σ}{Inv:σ->Prop}:∀(l:List α) (hI:∀s x,x∈l->Inv s->Inv (f s x)) {s:σ},Inv s->Inv (l.foldl f s)
 |[],_,_,h=>h
 |x::l,hI,s,h=>C8 l (fun s y hy=>hI s y (Qy _ hy)) (hI s x Qx h)
def Tq(n:aq)(l:List ByteArray):List ByteArray:=if n.l9=ByteArray.mk #[]then l else mn l n.l9
def Gv(u:Int)(l:List ByteArray)(m:ar):List ByteArray:=if m.al=u then(qa [m]).foldl mn l else l
def FB(n:aq)(l:List ByteArray)(u:Int):List ByteArray:=if u=n.al then Tq n l else n.au.foldl (Gv u) l
 def yq(n:aq):List ByteArray:=(mT (jO n.ak n.al n.bc n.Round.toNat)).foldl (FB n) n.bd
theorem afv{x:ByteArray}(h:x.size<=200)(hx:x≠ByteArray.mk #[]):jv x:=by
 refine⟨?_,h⟩;rcases Nat.eq_zero_or_pos x.size with h0|h0
 ·exact absurd (ByteArray.ext (Array.eq_empty_of_size_eq_zero h0)) hx
 ·exact h0
theorem WU{m:ar}(h:VL m.bd/\VL m.aD):(qa [m]).length<=80/\∀x∈qa [m],jv x:=by
 refine⟨Pu (L:=[m]) (fun y hy=>by rw[Q5.1 hy];exact h),fun x hx=> ?_⟩
 obtain⟨y,hy,hxy⟩:=((FC _).2 x).1 hx;rw[Q5.1 hy]at hxy;exact hxy.elim (h.1.qL x) (h.2.qL x)
section
variable {n : aq} (h : cY n)
 include h
theorem adG{l:List ByteArray}(hl:VL l):VL (Tq n l):=by
 unfold Tq;split
 ·exact hl
 ·rename_i hx;exact(tw hl (afv h.own hx)).1
theorem IB{m:ar}(hm:m∈n.au):VL m.bd/\VL m.aD:=⟨(h.heard m hm).1.dg,(h.heard m hm).1.er⟩
theorem LD{u:Int}{l:List ByteArray}(hl:VL l){m:ar}(hm:m∈n.au):VL (Gv u l m):=by
 unfold Gv;split
 ·exact C8 (Inv:=VL) (qa [m]) (fun s x hx hs=>(tw hs ((WU (IB h hm)).2 x hx)).1) hl
 ·exact hl
theorem KP{u:Int}{l:List ByteArray}(hl:VL l):VL (FB n l u):=by
 unfold FB;split
 ·exact adG h hl
 ·exact C8 (Inv:=VL) n.au (fun s m hm hs=>LD h hs hm) hl
theorem DD:VL (yq n):=C8 (Inv:=VL) _ (fun s u _ hs=>KP h hs) h.dg
theorem adt:kT n=some (yq n):=by
 have hlen:=h.len;have hlt:=M5 h.ask;have hnl:=yG (jO n.ak n.al n.bc n.Round.toNat);unfold kT;simp only[etas,Zf h.ask,LZ hlt,Qa,aP];refine fold_eq (mT (jO n.ak n.al n.bc n.Round.toNat)) (by omega) (FB n) (fun i s=>(s,i,())) VL (fun s u _ hs=>KP h hs) (fun i u s hs hu hd hx hadd=> ?_) (fun s hs hd=> ?_) h.dg
 ·simp only[hd,hx,hadd,Qk,Qa];unfold FB
  by_cases hun:u=n.al
  ·rw[Qr hun,Qg hun];unfold Tq
   by_cases ho:n.l9=ByteArray.mk #[]
   ·rw[Qr ho,Qg ho];rfl
   ·rw[Qs ho,Qh ho];simp only[Qk,Qp,XD hs,Qa]
  ·rw[Qs hun,Qh hun,Ql];refine fold_eq n.au (by omega) (Gv u) (fun i s=>(s,i,())) VL (fun s m hm hs=>LD h hs hm) (fin:=fun s=>some (Sum.inl (s,((i+1:Nat):Int),()))) (fun j m s2 hs2 hm hd2 hx2 hadd2=> ?_) (fun s2 hs2 hd2=> ?_) hs
   ·simp only[hd2,hx2,hadd2,Qk,Qa,ar.eta];unfold Gv
    by_cases hmu:m.al=u
    ·obtain⟨v1,v2⟩:=WU (IB h hm);rw[Qr hmu,Qg hmu];simp only[Qo,Ql,aft (L:=[m]) (fun y hy=>by rw[Q5.1 hy];exact IB h hm) (by simp),Qa]
     refine fold_eq (qa [m]) (by omega) mn (fun i s=>(s,i,())) VL (fun s x hx hs=>(tw hs (v2 x hx)).1) (fin:=fun s=>some (Sum.inl (s,((j+1:Nat):Int),()))) (fun k x s3 hs3 hxm hd3 hx3 hadd3=> ?_) (fun s3 hs3 hd3=> ?_) hs2
     ·simp only[hd3,hx3,hadd3,Qk,Qa,XD hs3]
     ·simp only[hd3,Ql]
    ·rw[Qs hmu,Qh hmu];rfl
   ·simp only[hd2,Ql]
 ·simp only[hd,Ql]
theorem aaL:oM n=some {n with bd:=yq n}:=by
 have hlen:=h.len;have hlt:=M5 h.ask;have hnl:=yG (jO n.ak n.al n.bc n.Round.toNat);unfold oM;simp only[etas,aq.eta,YY h.ask,HW hlt,Qa,aP];refine(fold_eq (mT (jO n.ak n.al n.bc n.Round.toNat)) (by omega) (FB n) (fun i s=>(i,{n with bd:=s},())) VL (fun s u _ hs=>KP h hs) (fin:=fun s=>some {n with bd:=s}) (fun i u s hs hu hd hx hadd=> ?_) (fun s hs hd=> ?_) h.dg).trans rfl
 ·simp only[hd,hx,hadd,Qk,Qa];unfold FB
  by_cases hun:u=n.al
  ·rw[Qr hun,Qg hun];unfold Tq
   by_cases ho:n.l9=ByteArray.mk #[]
   ·rw[Qr ho,Qg ho];rfl
   ·rw[Qs ho,Qh ho];simp only[Qk,Qp,HU hs,Qa]
  ·rw[Qs hun,Qh hun,Ql];refine fold_eq n.au (by omega) (Gv u) (fun i s=>(i,{n with bd:=s},())) VL (fun s m hm hs=>LD h hs hm) (fin:=fun s=>some (Sum.inl (((i+1:Nat):Int),{n with bd:=s},()))) (fun j m s2 hs2 hm hd2 hx2 hadd2=> ?_) (fun s2 hs2 hd2=> ?_) hs
   ·simp only[hd2,hx2,hadd2,Qk,Qa];unfold Gv
    by_cases hmu:m.al=u
    ·obtain⟨v1,v2⟩:=WU (IB h hm);rw[Qr hmu,Qg hmu];simp only[Qo,Ql,ac4 (IB h hm),Qa];refine fold_eq (qa [m]) (by omega) mn (fun i s=>(i,{n with bd:=s},())) VL (fun s x hx hs=>(tw hs (v2 x hx)).1) (fin:=fun s=>some (Sum.inl (((j+1:Nat):Int),{n with bd:=s},()))) (fun k x s3 hs3 hxm hd3 hx3 hadd3=> ?_) (fun s3 hs3 hd3=> ?_) hs2
     ·simp only[hd3,hx3,hadd3,Qk,Qa,HU hs3]
     ·simp only[hd3,Ql]
    ·rw[Qs hmu,Qh hmu];rfl
   ·simp only[hd2,Ql]
 ·simp only[hd,Ql]
end
 def ot:Nat->aq->aq
 |0,n=>n
 |k+1,n=>match(ff n).find? (qU n)with
  |none=>n
  |some x=>ot k {n with aD:=mn n.aD x}
theorem LW{n:aq}(h:cY n){x:ByteArray}(hf:(ff n).find? (qU n)=some x):cY {n with aD:=mn n.aD x}/\(mn n.aD x).length=n.aD.length+1:=by
 have hc:=List.find?_some hf;have hm:=List.mem_of_find?_eq_some hf;unfold qU at hc;simp only[Qm,Bool.not_eq_true',Qj,Qi]at hc;obtain⟨p1,p2,p3,p4⟩:=tw h.er (Zz h hm);exact⟨h.ae0 p1 p2,p4 hc.1.1 hc.1.2⟩
theorem NF:∀(k:Nat) {n:aq},cY n->q8 n (ot k n)/\(ot k n).bd=n.bd/\(ot k n).aM=n.aM
 |0,n,h=>⟨.refl h,rfl,rfl⟩
 |k+1,n,h=>by
  unfold ot
  cases hf:(ff n).find? (qU n)with
  |none=>exact⟨.refl h,rfl,rfl⟩
  |some x=>
   obtain⟨h1,h2,h3⟩:=NF k (LW h hf).1;exact⟨⟨h1.ok,h1.aB,h1.aK,h1.round,h1.seq,h1.aL,h1.own,h1.heard⟩,h2,h3⟩
theorem acm{fin:aq->Option aq}{step:Bool×aq×Unit->Option ((Bool×aq×Unit)⊕aq)}
  (h1:∀n,cY n->step (true,n,())=some (.inl (match(ff n).find? (qU n)with|some x=>(true,{n with aD:=mn n.aD x},())|none=>(false,n,()))))
  (h2:∀n,cY n->step (false,n,())=Option.map Sum.inr (fin n)):∀(k:Nat) {n:aq},cY n->41<=k+n.aD.length->aC step (true,n,())=fin (ot k n)
 |0,n,h,hk=>by have:=h.er.len;omega
 |k+1,n,h,hk=>by
  have g:=h1 n h;unfold ot
  cases hf:(ff n).find? (qU n)with
  |none=>
   rw[hf]at g;rw[bj g,fb,h2 n h];cases fin n<;>rfl
  |some x=>
   rw[hf]at g;obtain⟨g1,g2⟩:=LW h hf;exact(bj g).trans (acm h1 h2 k g1 (by show 41<=k+(mn n.aD x).length;omega))
 def P7(n:aq):ByteArray×Bool×Unit:=match(ff n).find? (qU n)with|some x=>(x,true,())|none=>(⟨#[]⟩,false,())
theorem acp{fin:aq->Option aq}{step:ByteArray×Bool×aq×Unit->Option ((ByteArray×Bool×aq×Unit)⊕aq)}{c:List aR}
  (h1:∀n x,cY n->nZ n=c->cY {n with aD:=mn n.aD x}->step (x,true,n,())=some (.inl ((P7 {n with aD:=mn n.aD x}).1,(P7 {n with aD:=mn n.aD x}).2.1,{n with aD:=mn n.aD x},())))
  (h2:∀n x,cY n->nZ n=c->step (x,false,n,())=Option.map Sum.inr (fin n)):∀(k:Nat) {n:aq},cY n->nZ n=c->41<=k+n.aD.length->aC step ((P7 n).1,(P7 n).2.1,n,())=fin (ot k n)
 |0,n,h,_,hk=>by have:=h.er.len;omega
 |k+1,n,h,hv,hk=>by
  unfold ot
  cases hf:(ff n).find? (qU n)with
  |none=>
   have e:P7 n=(⟨#[]⟩,false,()):=by unfold P7;rw[hf]
   rw[e,fb,h2 n _ h hv];cases fin n<;>rfl
  |some x=>
   have e:P7 n=(x,true,()):=by unfold P7;rw[hf]
   obtain⟨g1,g2⟩:=LW h hf;rw[e];exact(bj (h1 n x h hv g1)).trans (acp h1 h2 k g1 hv (by show 41<=k+(mn n.aD x).length;omega))
 def FH(n:aq)(c:List ByteArray)(x:ByteArray):List ByteArray:=if Jc n x then mn c x else c
 def AO(n:aq):List ByteArray:=n.aD.foldl (FH n) n.aM
 def xp(n:aq):aq:={ot 41 (if n.aM.length=0 then{n with bd:=yq n}else n)with aM:=AO (ot 41 (if n.aM.length=0 then{n with bd:=yq n}else n))}
structure Dv (n:aq) (c:List ByteArray):Prop where
 vl:VL c
 sub:∀x∈c,x∈n.aD
theorem KW{n:aq}(h:cY n){c:List ByteArray}(hc:Dv n c){x:ByteArray}(hx:x∈n.aD):Dv n (FH n c x):=by
 unfold FH;split
 ·obtain⟨p1,_,p3,_⟩:=tw hc.vl (h.er.qL x hx);exact⟨p1,fun y hy=>(p3 y hy).elim (fun e=>by rw[e];exact hx) (hc.sub y)⟩
 ·exact hc
theorem cY.abL{n:aq}(h:cY n):Dv n n.aM:=⟨h.kq,h.sub⟩
theorem abA{n:aq}(h:cY n):Dv n (AO n):=C8 (Inv:=Dv n) n.aD (fun s x hx hs=>KW h hs hx) h.abL
theorem agC{n:aq}(h:cY n)(x:ByteArray):ew ⟨nZ n⟩ n.al (((kO (n.au++[xq n]) x).2:Nat):Int)=some (Jc n x):=by
 obtain⟨hn,hn10⟩:=Aa h;have hf:=vD (B1 h) hn10 (AX h.said x).2;rw[<-hn]at hf;exact hf
theorem agw{n:aq}(h:cY n)(x:ByteArray):ik ⟨nZ n⟩ n.al (((kO (n.au++[xq n]) x).2:Nat):Int)=some (Jc n x):=by
 obtain⟨hn,hn10⟩:=Aa h;have hf:=tQ (B1 h) hn10 (AX h.said x).2;rw[<-hn]at hf;exact hf
section
variable {n : aq} (h : cY n)
 include h
theorem aez:cY (if n.aM.length=0 then{n with bd:=yq n}else n)/\q8 n (if n.aM.length=0 then{n with bd:=yq n}else n):=by
 split
 ·exact⟨h.HI (DD h),(q8.refl h).HI (DD h)⟩
 ·exact⟨h,.refl h⟩
theorem HJ:q8 n (xp n):=by
 obtain⟨h1,h2⟩:=aez h;obtain⟨g,_,_⟩:=NF 41 h1;obtain⟨c1,c2⟩:=abA g.ok;exact⟨g.ok.aaw c1 c2,g.aB.trans h2.aB,g.aK.trans h2.aK,g.round.trans h2.round,g.seq.trans h2.seq,g.aL.trans h2.aL,g.own.trans h2.own,g.heard.trans h2.heard⟩
theorem Zb:im n=some (xp n):=by
 have body:∀n:aq,cY n->(Option.bind (jK n) fun r3=>
   Option.bind (gB n r3) fun r4=>
   aC (fun(v5:ByteArray×Bool×aq×Unit)=>
   bif v5.2.1 then
   Option.bind (fC v5.2.2.1.aD v5.1) fun r6=>
   Option.bind (gB {v5.2.2.1 with ak:=(aw v5.2.2.1.ak),aD:=r6} r3) fun r7=>
   some (Sum.inl (r7.1,r7.2.1,{v5.2.2.1 with ak:=(aw v5.2.2.1.ak),aD:=r6},()))
   else
   Option.map Sum.inr (Option.bind (bL v5.2.2.1.au) fun r8=>
   Option.bind (gf (eT0 v5.2.2.1)) fun r9=>
   bif bb 120 (List.length r8+List.length [{r9 with ak:=(aw r9.ak)}])then
   aC (fun(v10:Int×aq×Unit)=>
   bif (decide (v10.1<((List.length v5.2.2.1.aD:Nat):Int)))then
   aY (fun(v11:aq×Unit)=>
   some (Sum.inl ((aA .i64 v10.1 (1:Int)),(eT0 v11.1),()))) fun j12=>
   Option.bind (idx v5.2.2.1.aD v10.1) fun x13=>
   Option.bind (eN (r8++[{r9 with ak:=(aw r9.ak)}]) x13) fun r14=>
   Option.bind (ew r3 v10.2.1.al r14.2.1) fun r15=>
   bif r15 then
   Option.bind (fC v10.2.1.aM x13) fun r16=>
   j12 ({v10.2.1 with ak:=(aw v10.2.1.ak),aM:=r16},())
   else
   j12 ((eT0 v10.2.1),())
   else
   Option.map Sum.inr (some (eT0 v10.2.1))) ((0:Int),(eT0 v5.2.2.1),())
   else none)) (r4.1,r4.2.1,n,()))=some {ot 41 n with aM:=AO (ot 41 n)}:=by
  intro n h;rw[afh h,Qa,Zd h,Qa];refine acp (c:=nZ n) (fin:=fun n2=>some {n2 with aM:=AO n2}) (fun m x hm hv hm2=> ?_) (fun m x hm hv=> ?_) 41 h rfl (by omega)
  ·have hx:=Zd hm2;have hv2:nZ {m with aD:=mn m.aD x}=nZ n:=hv
   rw[hv2]at hx;simp only[Qk,etas,XD hm.er,Qa,hx];rfl
  ·have hlen:=hm.len;have hal:=hm.er.len;simp only[Ql,etas,aq.eta,UH hm,gf,Qa,aP];rw[mq (by omega) (by simp;omega),Qk]
   congr 1;refine(fold_eq m.aD (by omega) (FH m) (fun i c=>(i,{m with aM:=c},())) (Dv m) (fun s x hx hs=>KW hm hs hx) (fin:=fun c=>some {m with aM:=c}) (fun i y s hs hy hd hx hadd=> ?_) (fun s hs hd=> ?_) hm.abL).trans rfl
   ·have hsay:eN (m.au++[(⟨m.al,m.aE,m.ak,m.bd,m.aD⟩:ar)]) y=_:=V7 hm.said y;simp only[hd,hx,hadd,Qk,Qa,hsay,<-hv,agC hm y];unfold FH
    cases Jc m y with
    |true=>simp only[Qk,XD hs.vl,Qa,Qt]
    |false=>rfl
   ·simp only[hd,Ql]
 unfold im;simp only[etas,aq.eta,aP,adt h,Qa];unfold xp
 by_cases h0:n.aM.length=0
 ·rw[Qg (by omega:((n.aM.length:Nat):Int)=0),Qk,Qr h0]
  have:=body {n with bd:=yq n} (h.HI (DD h))
  simp only[etas,aq.eta,aP]at this;exact this
 ·rw[Qh (by omega:¬((n.aM.length:Nat):Int)=0),Ql,Qs h0]
  have:=body n h;simp only[etas,aq.eta,aP]at this;exact this
end
end
section
open Classical in
 def FP(b r:aq):Bool:=decide (b.bd=r.bd/\b.aD=r.aD/\b.ak=r.ak)
open Classical in
theorem DG{b r:aq}:FP b r=true↔b.bd=r.bd/\b.aD=r.aD/\b.ak=r.ak:=by
 unfold FP;rw[Qi]
 def lp(b n:aq):aq:=if FP b (xp n)=true then xp n else{xp n with aE:=b.aE+1}
theorem KU{b n:aq}(h:cY n):U2 b n (lp b n):=by
 have k:=HJ h;unfold lp;split
 ·exact⟨k.ok,k.aB,k.aK,k.round,k.aL,.inl k.seq⟩
 ·exact⟨⟨k.ok.ask,k.ok.own,k.ok.dg,k.ok.er,k.ok.kq,k.ok.sub,k.ok.heard,k.ok.eV⟩,k.aB,k.aK,k.round,k.aL,.inr rfl⟩
theorem Va{b n:aq}(h:cY n):(lp b n).au=n.au/\(lp b n).l9=n.l9:=by
 have k:=HJ h;unfold lp;split<;>exact⟨k.heard,k.own⟩
theorem afp{s t:List ByteArray}(h:s.length<=1000000):∃b,gG s t=some b/\(b=true↔s=t):=by
 unfold gG
 by_cases hl:s.length=t.length
 ·rw[Qg (by omega:((s.length:Nat):Int)=((t.length:Nat):Int)),Qo,Ql]
  refine UT hl h (fun i hi hi' hd hx hy hw=> ?_) (fun hd=> ?_)
  ·simp only;rw[hd,Qk,hx,hy,Qa,Qa,hw]
   by_cases he:s[i]=t[i]
   ·rw[Qg he];exact⟨true,rfl,by simp[he]⟩
   ·rw[Qh he];exact⟨false,rfl,by simp[he]⟩
  ·simp only;rw[hd,Ql];rfl
 ·rw[Qh (by omega:¬((s.length:Nat):Int)=((t.length:Nat):Int))]
  exact⟨false,rfl,M3 hl⟩
theorem YW{b n:aq}(hb:c8 b.ak/\b.bd.length<=1000000/\b.aD.length<=1000000)(hs:0<=b.aE/\b.aE<=1000000)(h:cY n):fU b n=some (lp b n):=by
 have body:∀n:aq,cY n->aC (fun(v3:Bool×aq×Unit)=>
   bif v3.1 then
   Option.bind (nV (eT0 v3.2.1)) fun r4=>
   aC (fun(v5:Bool×Int×aq×Unit)=>
   bif (decide (v5.2.1<((List.length r4:Nat):Int)))then
   Option.bind (idx r4 v5.2.1) fun x6=>
   Option.bind (qX (eT0 v5.2.2.1) x6) fun r7=>
   bif r7 then
   Option.bind (mO v5.2.2.1.aD x6) fun r8=>
   Option.map Sum.inr (some (Sum.inl (true,{v5.2.2.1 with ak:=(aw v5.2.2.1.ak),aD:=r8},())))
   else
   some (Sum.inl (v5.1,(aA .i64 v5.2.1 (1:Int)),(eT0 v5.2.2.1),()))
   else
   Option.map Sum.inr (some (Sum.inl (v5.1,(eT0 v5.2.2.1),())))) (false,(0:Int),(eT0 v3.2.1),())
   else
   Option.map Sum.inr (aC (fun(v9:Int×aq×Unit)=>
   bif (decide (v9.1<((List.length v3.2.1.aD:Nat):Int)))then
   aY (fun(v10:aq×Unit)=>
   some (Sum.inl ((aA .i64 v9.1 (1:Int)),(eT0 v10.1),()))) fun j11=>
   Option.bind (idx v3.2.1.aD v9.1) fun x12=>
   Option.bind (kv (eT0 v9.2.1) x12) fun r13=>
   Option.bind (lB (eT0 v9.2.1)) fun r14=>
   Option.bind (ik r14 v9.2.1.al r13.2.1) fun r15=>
   bif r15 then
   Option.bind (mO v9.2.1.aM x12) fun r16=>
   j11 ({v9.2.1 with ak:=(aw v9.2.1.ak),aM:=r16},())
   else
   j11 ((eT0 v9.2.1),())
   else
   Option.map Sum.inr (aY (fun(v17:aq×Unit)=>
   some (eT0 v17.1)) fun j18=>
   Option.bind (ph b.bd v9.2.1.bd) fun r19=>
   Option.bind (bif (!r19)then some true
   else
   Option.bind (ph b.aD v9.2.1.aD) fun r20=>
   some (!r20)) fun b21=>
   Option.bind (bif b21 then some true
   else
   Option.bind (pk (aw b.ak) (aw v9.2.1.ak)) fun r22=>
   some (!r22)) fun b23=>
   bif b23 then
   j18 ({v9.2.1 with aE:=(aA .i64 b.aE (1:Int)),ak:=(aw v9.2.1.ak)},())
   else
   j18 ((eT0 v9.2.1),()))) ((0:Int),(eT0 v3.2.1),()))) (true,n,())=
   some (if FP b {ot 41 n with aM:=AO (ot 41 n)}=true then{ot 41 n with aM:=AO (ot 41 n)}else{ot 41 n with aM:=AO (ot 41 n),aE:=b.aE+1}):=by
  intro n h;refine acm (fin:=fun m=>some (if FP b {m with aM:=AO m}=true then{m with aM:=AO m}else{m with aM:=AO m,aE:=b.aE+1})) (fun m hm=> ?_) (fun m hm=> ?_) 41 h (by omega)
  ·have hkl:=Rc hm;simp only[Qk,etas,aq.eta,ade hm,Qa]
   suffices key:∀(k i:Nat),i+k=(ff m).length->(∀x∈(ff m).take i,qU m x=false)->aC _ (false,(i:Int),m,())=some (Sum.inl (match(ff m).find? (qU m)with|some x=>(true,{m with aD:=mn m.aD x},())|none=>(false,m,())))from key (ff m).length 0 (by omega) (by simp)
   intro k
   induction k with
   |zero=>
    intro i hi hpre;obtain rfl:i=(ff m).length:=by omega
    rw[Qq62]at hpre;have hf:(ff m).find? (qU m)=none:=List.find?_eq_none.2 fun x hx=>by rw[hpre x hx];simp
    rw[hf];exact bw (by simp only[Qh (Qq64 _),Ql,Qe])
   |succ k ih=>
    intro i hi hpre;have hlt:i<(ff m).length:=by omega
    have hx:idx (ff m) (i:Int)=some (ff m)[i]:=by rw[bg];exact Qv hlt
    have hadd:aA .i64 (i:Int) 1=((i+1:Nat):Int):=bE (by omega) (by omega)
    have hd:decide ((i:Int)<(((ff m).length:Nat):Int))=true:=Qg (by omega)
    cases hc:qU m (ff m)[i]with
    |true=>
     have hf:(ff m).find? (qU m)=some (ff m)[i]:=by
      rw[List.find?_eq_some_iff_getElem];refine⟨hc,i,hlt,rfl,fun j hj=> ?_⟩
      rw[hpre _ (List.mem_take_iff_getElem.2 ⟨j,by omega,rfl⟩)]
      rfl
     rw[hf];refine bw ?_;simp only[hd,hx,Qk,Qa,etas,aq.eta,acn hm,hc,HU hm.er,Qe]
    |false=>
     refine(bj ?_).trans (ih (i+1) (by omega) fun x hx2=> ?_)
     ·simp only[hd,hx,hadd,Qk,Ql,Qa,etas,aq.eta,acn hm,hc]
     ·rw[Q7 hlt,Qz,Q5]at hx2;rcases hx2 with hx2|rfl
      ·exact hpre x hx2
      ·exact hc
  ·have hal:=hm.er.len;simp only[Ql,etas,aq.eta,aP];congr 1;refine(fold_eq m.aD (by omega) (FH m) (fun i c=>(i,{m with aM:=c},())) (Dv m) (fun s x hx hs=>KW hm hs hx) (fin:=fun c=>some (if FP b {m with aM:=c}=true then{m with aM:=c}else{m with aM:=c,aE:=b.aE+1})) (fun i y s hs hy hd hx hadd=> ?_) (fun s hs hd=> ?_) hm.abL).trans rfl
   ·have hms:=hm.aaw hs.vl hs.sub;have hsd:kv {m with aM:=s} y=_:=VY hms y
    have hvw:lB {m with aM:=s}=_:=YT hms
    have hsu:ik ⟨nZ {m with aM:=s}⟩ m.al _=some (Jc m y):=agw hms y
    simp only[hd,hx,hadd,Qk,Qa,hsd,hvw,hsu];unfold FH
    cases Jc m y with
    |true=>simp only[Qk,HU hs.vl,Qa,Qt]
    |false=>rfl
   ·obtain⟨b1,f1,g1⟩:=MB (s:=b.bd) (t:=m.bd) hb.2.1;obtain⟨b2,f2,g2⟩:=MB (s:=b.aD) (t:=m.aD) hb.2.2;obtain⟨b3,f3,g3⟩:=Un (a:=b.ak) (b:=m.ak) hb.1;have hadd:aA .i64 b.aE 1=b.aE+1:=bE (by omega) (by omega)
    simp only[hd,Ql,f1,f2,f3,Qa,hadd]
    by_cases e:b.bd=m.bd/\b.aD=m.aD/\b.ak=m.ak
    ·rw[Qr ((DG (b:=b) (r:={m with aM:=s})).2 e),g1.2 e.1,g2.2 e.2.1,g3.2 e.2.2]
     rfl
    ·rw[Qs (fun e'=>e ((DG (b:=b) (r:={m with aM:=s})).1 e'))]
     cases b1 with
     |false=>rfl
     |true=>
      cases b2 with
      |false=>rfl
      |true=>
       cases b3 with
       |false=>rfl
       |true=>exact absurd ⟨g1.1 rfl,g2.1 rfl,g3.1 rfl⟩ e
 unfold fU;simp only[etas,aq.eta,aP,aaL h,Qa];unfold lp xp
 by_cases h0:n.aM.length=0
 ·rw[Qg (by omega:((n.aM.length:Nat):Int)=0),Qk]
  simp only[Qr h0];have:=body {n with bd:=yq n} (h.HI (DD h))
  simp only[etas,aq.eta,aP]at this;exact this
 ·rw[Qh (by omega:¬((n.aM.length:Nat):Int)=0),Ql]
  simp only[Qs h0];have:=body n h;simp only[etas,aq.eta,aP]at this;exact this
theorem MK{n:aq}(h:cY n):jh n=some n:=by
 have hlen:=h.len;have hv:=h.dg.len;have ha:=h.er.len;have hc:=h.kq.len;unfold jh;simp only[etas,aq.eta,OC h.ask.aL.sm,rM _ (QK hv (by omega)),rM _ (QK ha (by omega)),rM _ (QK hc (by omega)),Qa]
 suffices key:∀(k i:Nat),i+k=n.au.length->aC _ ((i:Int),{n with bd:=[],aD:=[],aM:=[],au:=[]},n.bd,n.aD,n.aM,n.au.take i,())=some n from key n.au.length 0 (by omega)
 intro k
 induction k with
 |zero=>
  intro i hi;obtain rfl:i=n.au.length:=by omega
  refine bw ?_;simp only[Qh (Qq64 _),Ql,Qq62,Qe]
 |succ k ih=>
  intro i hi;have hlt:i<n.au.length:=by omega
  have hx:idx n.au (i:Int)=some n.au[i]:=by rw[bg];exact Qv hlt
  have hm:=(h.heard _ (Q0 hlt)).1;have hvl:=hm.dg.len;have hal:=hm.er.len;refine(bj ?_).trans (ih (i+1) (by omega))
  simp only[Qg (by omega:(i:Int)<((n.au.length:Nat):Int)),hx,Qk,Qa,ar.eta,PZ hm.aL.sm (QK hvl (by omega)) (QK hal (by omega))]
  rw[mq (by omega) (by simp;omega),bE (by omega) (by omega),Q7 hlt]
  rfl
theorem aa1{b n:aq}(hb:c8 b.ak/\b.bd.length<=1000000/\b.aD.length<=1000000)(hs:0<=b.aE/\b.aE<=1000000)(hq:n.aE=b.aE)(h:cY n):mg b n=some (lp b n):=by
 have k:=HJ h;have hok:=(KU (b:=b) h).ok;have hadd:aA .i64 (xp n).aE 1=b.aE+1:=by rw[k.seq,hq];exact bE (by omega) (by omega)
 obtain⟨b1,f1,g1⟩:=afp (s:=b.bd) (t:=(xp n).bd) hb.2.1;obtain⟨b2,f2,g2⟩:=afp (s:=b.aD) (t:=(xp n).aD) hb.2.2;obtain⟨b3,f3,g3⟩:=eqT (a:=b.ak) (b:=(xp n).ak) hb.1;unfold mg;simp only[etas,aq.eta,aP,Zb h,f1,f2,f3,Qa,hadd];unfold lp at hok ⊢
 by_cases e':FP b (xp n)=true
 ·have e:=DG.1 e';rw[Qr e']at hok ⊢;rw[g1.2 e.1,g2.2 e.2.1,g3.2 e.2.2];simp only[Qo,Ql,Qa,MK hok]
 ·have e:¬(b.bd=(xp n).bd/\b.aD=(xp n).aD/\b.ak=(xp n).ak):=fun e=>e' (DG.2 e)
  rw[Qs e']at hok ⊢
  cases b3 with
  |false=>simp only[Qp,Qk,Qa,MK hok]
  |true=>
   cases b1 with
   |false=>simp only[Qp,Qo,Qk,Ql,Qa,MK hok]
   |true=>
    cases b2 with
    |false=>simp only[Qp,Qo,Qk,Ql,Qa,MK hok]
    |true=>exact absurd ⟨g1.1 rfl,g2.1 rfl,g3.1 rfl⟩ e
end
section
def iy(l:List ar)(m:ar):List ar:=l.filter (fun x=>decide (x.al<m.al))++m::l.filter (fun x=>decide (m.al<x.al))
def tE(l:List ar)(m:ar):Bool:=l.any fun x=>decide (x.al=m.al)&&decide (m.aE<=x.aE)
theorem Rh{l:List ar}{m x:ar}:x∈iy l m↔x=m\/(x∈l/\x.al≠m.al):=by
 unfold iy;simp only[Qz,QA,List.mem_filter,Qi];constructor
 ·rintro(⟨h1,h2⟩|h|⟨h1,h2⟩)
  ·exact .inr ⟨h1,by omega⟩
  ·exact .inl h
  ·exact .inr ⟨h1,by omega⟩
 ·rintro(h|⟨h1,h2⟩)
  ·exact .inr (.inl h)
  ·rcases Int.lt_or_gt_of_ne h2 with h3|h3
   ·exact .inl ⟨h1,h3⟩
   ·exact .inr (.inr ⟨h1,h3⟩)
theorem Gx{n:aq}(h:cY n){m:ar}(hm:tK m)(hne:m.al≠n.al):cY {n with au:=iy n.au m}:=by
 refine⟨h.ask,h.own,h.dg,h.er,h.kq,h.sub,fun x hx=> ?_,?_⟩
 ·rcases Rh.1 hx with rfl|⟨hx,_⟩
  ·exact⟨hm,hne⟩
  ·exact h.heard x hx
 ·show(iy n.au m).Pairwise _;unfold iy;rw[Qq69,Q4];refine⟨h.eV.filter _,⟨fun x hx=>of_decide_eq_true (List.mem_filter.1 hx).2,h.eV.filter _⟩,fun x hx y hy=> ?_⟩
  have h1:=of_decide_eq_true (List.mem_filter.1 hx).2;rcases QA.1 hy with rfl|hy
  ·exact h1
  ·have h2:=of_decide_eq_true (List.mem_filter.1 hy).2;omega
theorem Mg{a:Int}:∀{l:List ar},l.Pairwise (fun x y=>x.al<y.al)->l.filter (fun x=>decide (x.al<a))=l.takeWhile (fun x=>decide (x.al<a))/\∀x∈l.drop (l.takeWhile fun x=>decide (x.al<a)).length,a<=x.al
 |[],_=>⟨rfl,fun x hx=>by simp at hx⟩
 |y::l,hp=>by
  rw[Q4]at hp
  by_cases hy:y.al<a
  ·obtain⟨h1,h2⟩:=Mg (a:=a) hp.2;rw[List.filter_cons,List.takeWhile_cons,Qg hy];simp only[Qt,QE,List.drop_succ_cons];exact⟨by rw[h1],h2⟩
  ·rw[List.filter_cons,List.takeWhile_cons,Qh hy];simp only[Qq,Qu,QZ,List.drop_zero];refine⟨List.filter_eq_nil_iff.2 fun x hx=> ?_,fun x hx=> ?_⟩
   ·have:=hp.1 x hx;rw[Qi];omega
   ·rcases QA.1 hx with rfl|hx
    ·omega
    ·have:=hp.1 x hx;omega
theorem Py{a:Int}:∀{l:List ar},l.Pairwise (fun x y=>x.al<y.al)->l.filter (fun x=>decide (a<x.al))=match l.drop (l.takeWhile fun x=>decide (x.al<a)).length with|[]=>[]|y::r=>if y.al=a then r else y::r
 |[],_=>rfl
 |y::l,hp=>by
  rw[Q4]at hp
  by_cases hy:y.al<a
  ·have h1:=Py (a:=a) hp.2;rw[List.filter_cons,List.takeWhile_cons,Qg hy,Qh (by omega:¬a<y.al)]
   simp only[Qt,Qq,Qu,QE,List.drop_succ_cons];exact h1
  ·have hall:∀x∈l,a<x.al:=fun x hx=>by have:=hp.1 x hx;omega
   rw[List.filter_cons,List.takeWhile_cons,Qh hy];simp only[Qq,Qu,QZ,List.drop_zero];rw[List.filter_eq_self.2 fun x hx=>Qg (hall x hx)]
   by_cases he:y.al=a
   ·rw[Qr he,Qh (by omega:¬a<y.al)];rfl
   ·rw[Qs he,Qg (by omega:a<y.al)];rfl
theorem acz(x:ar)(a:Int):mh x a=some (xL x.al a):=by
 unfold mh;simp
section
variable {n : aq} (h : cY n)
 include h
theorem afo(a:Int):ct n.au a=some ((((n.au.takeWhile fun x=>decide (x.al<a)).length:Nat):Int),(match n.au.drop (n.au.takeWhile fun x=>decide (x.al<a)).length with|[]=>false|y::_=>decide (y.al=a)),()):=by
 have hlen:=h.len;unfold ct;refine(NZ n.au (by omega) (fun y=>decide (y.al<a)) (h.eV.imp fun{x y} hxy hy=>by simp only[Qi]at hy ⊢;omega) (fin:=fun k=>some (((k:Nat):Int),(match n.au.drop k with|[]=>false|y::_=>decide (y.al=a)),())) (fun i j m y hd hj hm hadd hx=> ?_) (fun i hd hi=> ?_)).trans rfl
 ·have hc:decide (xL y.al a<0)=decide (y.al<a):=by rw[decide_eq_decide];exact GK _ _
  simp only[hd,hm,hadd,hx,ar.eta,etas,acz,hc,Qa,Qk];cases decide (y.al<a)<;>rfl
 ·simp only[hd,Ql]
  by_cases hi2:i<n.au.length
  ·have hc:decide (xL n.au[i].al a=0)=decide (n.au[i].al=a):=by rw[decide_eq_decide];exact qu _ _
   rw[Qg (by omega:(i:Int)<((n.au.length:Nat):Int)),QM hi2]
   simp only[Qk,bg,Qv hi2,Qa,ar.eta,etas,acz,hc,Qe]
  ·rw[Qh (by omega:¬(i:Int)<((n.au.length:Nat):Int)),List.drop_eq_nil_of_le (by omega)]
   rfl
theorem afn(hs:1<=n.aE/\n.aE<=1000000){m:ar}(hm:tK m)(hne:m.al≠n.al):ri n m=some (if tE n.au m then(DC,9,())else(lp n {n with au:=iy n.au m},0,())):=by
 have hlen:=h.len;have hno:=Gx h hm hne;have hk:=Sw (fun x:ar=>decide (x.al<m.al)) n.au
 obtain⟨s1,s2⟩:=Mg (a:=m.al) h.eV;have s3:=Py (a:=m.al) h.eV
 have htake:n.au.take (n.au.takeWhile fun x=>decide (x.al<m.al)).length=n.au.takeWhile fun x=>decide (x.al<m.al):=by
  conv=>lhs;arg 2;rw[<-List.takeWhile_append_dropWhile (p:=fun x=>decide (x.al<m.al)) (l:=n.au)]
  exact List.take_left
 have hturn:mg n {n with au:=iy n.au m}=some (lp n {n with au:=iy n.au m}):=aa1 h.JI ⟨by omega,hs.2⟩ rfl hno
 unfold ri;simp only[etas,aq.eta,ar.eta,V6 h hs,V8 hm,afo h,UH h,Qa,Qo,Ql,Qh hne,aP]
 have hold:tE n.au m=match n.au.drop (n.au.takeWhile fun x=>decide (x.al<m.al)).length with|[]=>false|y::_=>decide (y.al=m.al)&&decide (m.aE<=y.aE):=by
  have hsplit:n.au=(n.au.takeWhile fun x=>decide (x.al<m.al))++n.au.drop (n.au.takeWhile fun x=>decide (x.al<m.al)).length:=by
   conv=>lhs;rw[<-List.take_append_drop (n.au.takeWhile fun x=>decide (x.al<m.al)).length n.au]
   rw[htake]
  have hpre:∀x∈n.au.takeWhile fun x=>decide (x.al<m.al),x.al<m.al:=fun x hx=>by
   rw[<-s1]at hx;exact of_decide_eq_true (List.mem_filter.1 hx).2
  have hsd:=h.eV;unfold tE;rw[hsplit]at hsd
  conv=>lhs;rw[hsplit]
  rw[List.any_append,List.any_eq_false.2 fun x hx=>by have:=hpre x hx;rw[Qh (by omega:¬x.al=m.al)];simp,Bool.false_or]
  cases hd:n.au.drop (n.au.takeWhile fun x=>decide (x.al<m.al)).length with
  |nil=>rfl
  |cons y r=>
   rw[hd,Qq69,Q4]at hsd;have hy:m.al<=y.al:=s2 y (by rw[hd];exact Qx)
   rw[List.any_cons,List.any_eq_false.2 fun x hx=>by have:=hsd.2.1.1 x hx;rw[Qh (by omega:¬x.al=m.al)];simp,Bool.or_false]
 have hl:iy n.au m=(n.au.takeWhile fun x=>decide (x.al<m.al))++m::(match n.au.drop (n.au.takeWhile fun x=>decide (x.al<m.al)).length with|[]=>[]|y::r=>if y.al=m.al then r else y::r):=by
  unfold iy;rw[s1,s3]
 rw[hold];generalize hkk:(n.au.takeWhile fun x=>decide (x.al<m.al)).length=k at*
 cases hd:n.au.drop k with
 |nil=>
  rw[hd]at hl
  have hkl:k=n.au.length:=by
   have:=congrArg List.length hd;simp only[List.length_drop,QZ]at this;omega
  have hins:cu n.au (k:Int) [m]=some (iy n.au m):=by
   unfold cu Gt;rw[Qg (by omega:(0:Int)<=(k:Int)),Qg (by omega:(k:Int)<=((n.au.length:Nat):Int)),mq (by omega) (by simp;omega),hl]
   simp only[QV,htake,hd];simp
  simp only[Ql,hins,hturn,Qa,Qq,Qu]
 |cons y r=>
  rw[hd]at hl
  have hk1:k<n.au.length:=by
   have:=congrArg List.length hd;simp only[List.length_drop,QE]at this;omega
  have hyk:n.au[k]=y:=by
   rw[QM hk1]at hd;exact(List.cons.inj hd).1
  have hr:n.au.drop (k+1)=r:=by
   rw[QM hk1]at hd;exact(List.cons.inj hd).2
  have hx:idx n.au (k:Int)=some y:=by rw[bg,Qv hk1,hyk]
  have hx2:n.au[k]?=some y:=by rw[Qv hk1,hyk]
  by_cases hyn:y.al=m.al
  ·simp only[Qr hyn]at hl;simp only[Qg hyn,Qk,hx,Qa,Bool.true_and,QV,hx2]
   cases decide (m.aE<=y.aE)with
   |true=>rfl
   |false=>
    have hset:n.au.set k m=iy n.au m:=by
     rw[hl,List.set_eq_take_append_cons_drop,Qr hk1,htake,hr]
    simp only[Ql,hset,hturn,Qa,Qq,Qu]
  ·simp only[Qs hyn]at hl
   have hins:cu n.au (k:Int) [m]=some (iy n.au m):=by
    unfold cu Gt;rw[Qg (by omega:(0:Int)<=(k:Int)),Qg (by omega:(k:Int)<=((n.au.length:Nat):Int)),mq (by omega) (by simp;omega),hl]
    simp only[QV,htake,hd];simp
   simp only[Qh hyn,Ql,hins,hturn,Qa,Bool.false_and,Qq,Qu]
theorem YZ(hs:1<=n.aE/\n.aE<=1000000){m:ar}(hm:tK m)(hne:m.al≠n.al):rY n m=some (if tE n.au m then(DC,9,())else(lp n {n with au:=iy n.au m},0,())):=by
 have hlen:=h.len;have hset:fU n {n with au:=iy n.au m}=some (lp n {n with au:=iy n.au m}):=YW h.JI ⟨by omega,hs.2⟩ (Gx h hm hne)
 have kk:∀(a:List ar) (x:ar),a.length<=100->bb 120 (a.length+[x].length)=true:=fun a x ha=>br ⟨by simp only[Q6];omega,by simp only[Q6];omega⟩
 unfold rY;simp only[etas,aq.eta,ar.eta,EW h hs,Oy hm,Qa,Qo,Ql];rw[Qh hne];simp only[Ql,aP]
 suffices key:Yd (aC _ (false,(0:Int),DC,{n with au:=[]},[],())) fun r=>r=if tE n.au m then(DC,(9:Int),())else(lp n {n with au:=iy n.au m},(0:Int),())by
  obtain⟨r,g,rfl⟩:=key;exact g
 refine Yd.list n.au (by omega) (fun i (s:Bool×List ar)=>(s.1,i,DC,{n with au:=[]},s.2,()))
  (fun i s=>s.2.length<=i+1/\tE (n.au.take i) m=false/\s.1=(n.au.take i).any (fun x=>decide (m.al<x.al))/\s.2=(n.au.take i).filter (fun x=>decide (x.al<m.al))++(if s.1 then[m]else[])++(n.au.take i).filter (fun x=>decide (m.al<x.al))) ?_ ?_ (s:=(false,[])) ⟨by simp,rfl,rfl,rfl⟩
 ·rintro i x ⟨d,acc⟩ ⟨a1,a2,a3,a4⟩ hd hx' hi hdec hx hadd;simp only at a1 a2 a3 a4;have e:n.au.take (i+1)=n.au.take i++[x]:=by rw[List.take_add_one,show n.au[i]?=some x by rw[bg]at hx;exact hx];rfl
  have hlt:∀y∈n.au.take i,y.al<x.al:=by
   have:=h.eV.sublist (List.take_sublist (i+1) n.au);rw[e,Qq69]at this;exact fun y hy=>this.2.2 y hy x (by simp)
  have k1:=kk acc m (by omega)
  have k2:=kk acc x (by omega)
  have k3:=kk (acc++[m]) x (by simp only[QB,Q6];omega)
  simp only;rw[hdec,Qk,hx,Qa,hadd]
  by_cases hn:x.al=m.al
  ·rw[Qg hn,Qk]
   by_cases hq:m.aE<=x.aE
   ·rw[Qg hq];refine .some ?_;have:tE n.au m=true:=List.any_eq_true.2 ⟨x,hx',by rw[Qg hn,Qg hq];rfl⟩
    show _=_;rw[Qr this];rfl
   ·rw[Qh hq];refine .some ⟨(d,acc),rfl,by show acc.length<=i+1+1;omega,?_,?_,?_⟩
    ·rw[e];unfold tE at a2 ⊢;rw[List.any_append,a2];simp[hq]
    ·rw[e,List.any_append];simp only;rw[<-a3];simp[hn]
    ·rw[e];simp only[List.filter_append,List.filter_cons,List.filter_nil,Qh (by omega:¬x.al<m.al),Qh (by omega:¬m.al<x.al),Qq,Qu,List.append_nil]
     exact a4
  ·rw[Qh hn,Ql,k1,k2,k3]
   have holdx:tE (n.au.take (i+1)) m=false:=by
    rw[e];unfold tE at a2 ⊢;rw[List.any_append,a2];simp[hn]
   by_cases hlx:m.al<x.al
   ·rw[Qg hlx]
    have hany:(n.au.take (i+1)).any (fun x=>decide (m.al<x.al))=true:=by
     rw[e,List.any_append];simp[hlx]
    have hfl:(n.au.take (i+1)).filter (fun x=>decide (x.al<m.al))=(n.au.take i).filter (fun x=>decide (x.al<m.al)):=by
     rw[e,List.filter_append,List.filter_cons,Qh (by omega:¬x.al<m.al)]
     simp
    have hfg:(n.au.take (i+1)).filter (fun x=>decide (m.al<x.al))=(n.au.take i).filter (fun x=>decide (m.al<x.al))++[x]:=by
     rw[e,List.filter_append,List.filter_cons,Qg hlx];rfl
    cases d with
    |true=>
     simp only[Qo,Ql,Qk,Qa];refine .some ⟨(true,acc++[x]),rfl,by simp only[QB,Q6];omega,holdx,hany.symm,?_⟩
     simp only;rw[hfl,hfg,a4];simp
    |false=>
     simp only[Qp,Qk,Qa]
     have hnil:(n.au.take i).filter (fun x=>decide (m.al<x.al))=[]:=by
      refine List.filter_eq_nil_iff.2 fun y hy=> ?_
      have:=List.any_eq_false.1 a3.symm y hy;exact this
     rw[hnil]at a4;refine .some ⟨(true,acc++[m]++[x]),rfl,?_,holdx,hany.symm,?_⟩
     ·have hb:acc.length<=i:=by
       rw[a4];simp only[Qq,Qu,List.append_nil];refine QK (List.length_filter_le _ _) ?_;rw[List.length_take];omega
      simp only[QB,Q6];omega
     ·simp only;rw[hfl,hfg,hnil,a4];simp
   ·have hxm:x.al<m.al:=by omega
    rw[Qh hlx];have hnone:∀y∈n.au.take i,¬m.al<y.al:=fun y hy=>by have:=hlt y hy;omega
    have hd0:d=false:=by
     rw[a3];exact List.any_eq_false.2 fun y hy=>by rw[Qh (hnone y hy)];simp
    have hnil:(n.au.take i).filter (fun x=>decide (m.al<x.al))=[]:=List.filter_eq_nil_iff.2 fun y hy=>by rw[Qh (hnone y hy)];simp
    subst hd0;rw[hnil]at a4;simp only[Qp,Qk,Ql,Qa];refine .some ⟨(false,acc++[x]),rfl,by simp only[QB,Q6];omega,holdx,?_,?_⟩
    ·rw[e,List.any_append];simp only;rw[<-a3];simp[hlx]
    ·simp only;rw[e,List.filter_append,List.filter_append,hnil,a4];simp[hxm,hlx]
 ·rintro⟨d,acc⟩ ⟨a1,a2,a3,a4⟩ hdec;rw[Qq62]at a2 a3 a4;simp only at a1 a2 a3 a4;simp only;rw[hdec,Ql];have k1:=kk acc m (by omega)
  have hold:tE n.au m=false:=a2;rw[k1,hold]
  cases d with
  |true=>
   have:acc=iy n.au m:=by rw[a4];simp[iy]
   rw[this];simp only[Qo,Ql,hset,Qa,Qe];exact .some rfl
  |false=>
   have hnil:n.au.filter (fun x=>decide (m.al<x.al))=[]:=List.filter_eq_nil_iff.2 fun y hy=>List.any_eq_false.1 a3.symm y hy
   have:acc++[m]=iy n.au m:=by
    rw[hnil]at a4;unfold iy;rw[hnil,a4];simp
   simp only[Qp,Qk,this,hset,Qa,Qe];exact .some rfl
end
end
section
theorem EV{a b:aa}(hq:a.aE=b.aE){s:Int}:({a with aE:=s}:aa)={b with aE:=s}↔a=b:=by
 constructor
 ·intro h;cases a;cases b;simp only[aa.mk.injEq]at h hq ⊢;obtain⟨h1,h2,_,h3⟩:=h;exact⟨h1,h2,hq,h3⟩
 ·rintro rfl;rfl
theorem step_seq{m:aa}(h:bo m){s:Int}(hs:0<=s/\s<=1000000):cm {m with aE:=s}={cm m with aE:=s}:=by
 have e1:cQ {m with aE:=s}={m with aE:=s}↔cQ m=m:=by rw[DM h hs];exact EV (uq m).seq
 have e2:fR {m with aE:=s}={m with aE:=s}↔fR m=m:=by rw[DL h hs];exact EV (ss m).seq
 have e3:fD {m with aE:=s}={m with aE:=s}↔fD m=m:=by rw[DO h hs];exact EV (sv m).seq
 have e4:ix {m with aE:=s}={m with aE:=s}↔ix m=m:=by rw[DN h hs];exact EV (su m).seq
 unfold cm
 by_cases hP:cQ m=m
 ·rw[Qr (e1.2 hP),Qr hP]
  by_cases hS:fR m=m
  ·rw[Qr (e2.2 hS),Qr hS]
   by_cases hC:fD m=m
   ·rw[Qr (e3.2 hC),Qr hC]
    by_cases hF:ix m=m
    ·rw[Qr (e4.2 hF),Qr hF,H4 h hs]
    ·rw[Qs (mt e4.1 hF),Qs hF,DN h hs]
   ·rw[Qs (mt e3.1 hC),Qs hC,DO h hs]
  ·rw[Qs (mt e2.1 hS),Qs hS,DL h hs]
 ·rw[Qs (mt e1.1 hP),Qs hP,DM h hs]
 def Kv:Nat->aa->aa
 |0,m=>m
 |k+1,m=>cm (Kv k m)
theorem O0{m:aa}(h:cm m=m):∀k,Kv k m=m
 |0=>rfl
 |k+1=>by rw[Kv,O0 h k,h]
theorem O1(m:aa)(k:Nat):∀j,Kv (j+k) m=Kv j (Kv k m)
 |0=>by rw[Nat.zero_add];rfl
 |j+1=>by rw[Nat.add_right_comm,Kv,Kv,O1 m k j]
def Fv(m1 x:aa):Prop:=bo x/\∃k,({x with aE:=0}:aa)=Kv k {m1 with aE:=0}
theorem Fv.self{m1:aa}(h:bo m1):Fv m1 m1:=⟨h,0,rfl⟩
theorem aci{m1:aa}:∀m,bo m->Fv m1 m->Fv m1 (cm m):=fun m h ⟨_,k,e⟩=>⟨ya h,k+1,by rw[Kv,<-e,step_seq (s:=0) h ⟨by decide,by decide⟩]⟩
theorem ach{m1:aa}:∀m,Fv m1 m->Fv m1 (c6 m):=fun m ⟨h,k,e⟩=>⟨z7 h,k,by
 rw[<-e];unfold c6
 split<;>rfl⟩
theorem Yo{m0 m1 a b:aa}(ha:EK (Fv m1) m0 a)(hb:EK (Fv m1) m0 b)(hq:0<=m0.aE):a=b:=by
 have fixed:∀{x:aa},EK (Fv m1) m0 x->cm {x with aE:=0}={x with aE:=0}:=fun{x} hx=>by rw[step_seq (s:=0) hx.inv ⟨by decide,by decide⟩,Uj hx.fix]
 obtain⟨_,k,ea⟩:=ha.rel;obtain⟨_,j,eb⟩:=hb.rel
 have core:({a with aE:=0}:aa)={b with aE:=0}:=by
  rcases Nat.le_total k j with h|h
  ·have e2:=O1 {m1 with aE:=0} k (j - k)
   rw[show j - k+k=j by omega,<-eb,<-ea,O0 (fixed ha)]at e2
   exact e2.symm
  ·have e2:=O1 {m1 with aE:=0} j (k - j)
   rw[show k - j+j=k by omega,<-eb,<-ea,O0 (fixed hb)]at e2
   exact e2
 have hz:a.ab=b.ab:=by
  have:=congrArg aa.ab core;exact this
 have hs:a.aE=b.aE:=by
  have n1:=ha.num;have n2:=hb.num
  cases hc:aF a.ab with
  |true=>
   rw[ha.seq.zero hc,hb.seq.zero (by rw[<-hz];exact hc)]
  |false=>
   have p1:=ha.seq.pos hc;have p2:=hb.seq.pos (by rw[<-hz];exact hc)
   omega
 exact(EV hs).1 core
theorem Zk{m m1:aa}{q q':aa×Int×Unit}(h1:0<=(c6 m1).aE)(h:I3 (Fv m1) m m1 q)(h':I3 (Fv m1) m m1 q'):q=q':=by
 obtain⟨a,rfl,ha⟩:=h;obtain⟨b,rfl,hb⟩:=h';rw[Yo ha hb h1]
section
variable {m : aa} (h : bo m) (hs : fT m)
 include h hs
theorem ZN{v:ByteArray}(hv:1<=v.size/\v.size<=200):lM m v=jR m v:=by
 have hi:=CM h hv;obtain⟨q,e1,h1⟩:=Tm aci ach h hs hv (Fv.self hi);obtain⟨q',e2,h2⟩:=K5 aci ach h hs hv (Fv.self hi);rw[e1,e2,Zk (z7 hi).seq.1 h1 h2]
end
end
section
theorem abE{a b:ByteArray}:decide (0<uP a b)=bJ b a:=by
 cases h:bJ b a with
 |true=>
  have h1:¬uP a b<0:=fun e=>by
   have:=sR a b;rw[Qg e,ic.asymm h]at this;cases this
  have h2:¬uP a b=0:=fun e=>by
   have h3:=IT (a:=a) (b:=b);rw[Qg e]at h3;rw[of_decide_eq_true h3.symm,ic.irrefl]at h;cases h
  exact Qg (by omega)
 |false=>
  refine Qh fun e=> ?_
  have h1:bJ a b=false:=by rw[<-sR];exact Qh (by omega)
  have h2:=ic.total _ _ h1 h;have h3:=IT (a:=a) (b:=b);rw[Qg h2]at h3;have:=of_decide_eq_true h3;omega
def mK(l:List ByteArray):ByteArray:=l.getLast?.getD (ByteArray.mk #[])
theorem Il{l:List ByteArray}(h:l≠[]):mK l∈l:=by
 unfold mK
 cases hl:l.getLast? with
 |none=>exact absurd (List.getLast?_eq_none_iff.1 hl) h
 |some a=>exact List.mem_of_getLast? hl
theorem abe{x:ByteArray}(h:jv x):bJ (ByteArray.mk #[]) x=true:=by
 have:=h.1;have h0:(ByteArray.mk #[]).size=0:=rfl;unfold bJ;rw[Qs (by rw[h0];omega),h0]
 exact Qg (by omega)
theorem Gi{l:List ByteArray}{i:Nat}{x:ByteArray}(hx:l[i]?=some x):mK (l.take (i+1))=x:=by
 unfold mK;rw[List.take_add_one,hx];simp
theorem Ra{l:List ByteArray}(h:VL l){i:Nat}{x:ByteArray}(hx:l[i]?=some x):bJ (mK (l.take i)) x=true:=by
 have hi:i<l.length:=(Qw.1 hx).1;have hxe:l[i]=x:=(Qw.1 hx).2
 by_cases h0:i=0
 ·subst h0;exact abe (h.qL x (Q8 hx))
 ·have e:=Gi (l:=l) (i:=i - 1) (Qv (by omega))
  rw[show i - 1+1=i by omega]at e
  rw[e,<-hxe];exact List.pairwise_iff_getElem.1 h.Fs (i - 1) i (by omega) hi (by omega)
theorem Tc{l:List ByteArray}(h:VL l):jF l=some (mK l,decide (l≠[]),()):=by
 unfold jF;simp only[aP]
 suffices key:Yd (aC _ (ByteArray.mk #[],false,(0:Int),())) fun r=>r=(mK l,decide (l≠[]),())by
  obtain⟨r,g,rfl⟩:=key;exact g
 refine Yd.list l h.uz (fun i (s:ByteArray×Bool)=>(s.1,s.2,i,())) (fun i s=>s=(mK (l.take i),decide (i≠0))) ?_ ?_ (s:=(_,false)) rfl
 ·rintro i x s rfl hd hx' hi hdec hx hadd;have hx2:l[i]?=some x:=by rw[bg]at hx;exact hx
  have hl:=Ra h hx2;simp only;rw[hdec,Qk,hx,Qa,Mz,Qa,hadd,Qg (h.qL x hx'),zW];simp only[Qk,Qa,IU,hl];have g:∃s':ByteArray×Bool,((x,true,((i+1:Nat):Int),()):ByteArray×Bool×Int×Unit)=(s'.1,s'.2,((i+1:Nat):Int),())/\s'=(mK (l.take (i+1)),decide (i+1≠0)):=⟨(x,true),rfl,by rw[Gi hx2];rfl⟩
  cases decide (i≠0)<;>exact .some g
 ·rintro s rfl hdec;simp only;rw[hdec,Ql,Qq62];refine .some ?_;show _=_;congr 2;rw[decide_eq_decide];cases l<;>simp
theorem afs{l:List ByteArray}(h:VL l):gg l=some (mK l,decide (l≠[]),()):=by
 unfold gg;simp only[aP]
 suffices key:Yd (aC _ (ByteArray.mk #[],(0:Int),())) fun r=>r=(mK l,decide (l≠[]),())by
  obtain⟨r,g,rfl⟩:=key;exact g
 refine Yd.list l h.uz (fun i (s:ByteArray)=>(s,i,())) (fun i s=>s=mK (l.take i)) ?_ ?_ rfl
 ·rintro i x s rfl hd hx' hi hdec hx hadd;have hx2:l[i]?=some x:=by rw[bg]at hx;exact hx
  have hl:=Ra h hx2;simp only;rw[hdec,Qk,hx,Qa,Tl,Qa,hadd,Qg (h.qL x hx'),xw];simp only[Qk,Qa,abE,hl];exact .some ⟨x,rfl,by rw[Gi hx2]⟩
 ·rintro s rfl hdec;simp only;rw[hdec,Ql,Qq62];refine .some ?_;show _=_;congr 2
  cases hl:l with
  |nil=>rfl
  |cons y r=>
   have hm:mK l∈l:=Il (by rw[hl];simp)
   have hv:=h.qL _ hm;rw[<-hl]
   have hne:mK l≠ByteArray.mk #[]:=fun e=>by
    rw[e]at hv;exact absurd hv.1 (by decide)
   rw[Qh hne,Qg (by rw[hl];simp)]
   rfl
theorem agH{l:List ar}(hlen:l.length<=100)(h:∀m∈l,c8 m.ak/\m.bd.length<=1000/\m.aD.length<=1000):fK l=some l:=by
 unfold fK
 suffices key:∀(k i:Nat),i+k=l.length->aC _ ((i:Int),l.take i,())=some l from key l.length 0 (by omega)
 intro k
 induction k with
 |zero=>
  intro i hi;obtain rfl:i=l.length:=by omega
  refine bw ?_;simp only[Qh (Qq64 _),Ql,Qq62,Qe]
 |succ k ih=>
  intro i hi;have hlt:i<l.length:=by omega
  have hx:idx l (i:Int)=some l[i]:=by rw[bg];exact Qv hlt
  obtain⟨h1,h2,h3⟩:=h _ (Q0 hlt);refine(bj ?_).trans (ih (i+1) (by omega))
  simp only[Qg (by omega:(i:Int)<((l.length:Nat):Int)),hx,Qk,Qa,etas,ar.eta,To h1 h2 h3]
  rw[mq (by omega) (by simp;omega),bE (by omega) (by omega),Q7 hlt]
  rfl
section
variable {nd sl k : Int} {x : bp}
theorem afq(h:tJ nd sl k x):xl x=some x:=by
 have n:=h.oF;have l1:=n.dg.len;have l2:=n.er.len;have l3:=n.kq.len;have l4:=n.len;have l5:=h.ky.len;have hN:fK x.az.au=some x.az.au:=agH (by omega) fun m hm=>⟨(n.heard m hm).1.aL.sm,QK (n.heard m hm).1.dg.len (by omega),QK (n.heard m hm).1.er.len (by omega)⟩
 have hE:eL x.an.au=some x.an.au:=aal (fun e he=>(h.ky.hv e he).2.1.sm) (by omega)
 unfold xl;simp only[bp.eta,aq.eta,aa.eta,etas,qt n.ask.aL.sm,qt h.ky.aL.sm,rM _ (QK l1 (by omega)),rM _ (QK l2 (by omega)),rM _ (QK l3 (by omega)),hN,hE,Qa]
theorem abp(h:tJ nd sl k x):pT x=eK x:=by
 unfold pT eK;simp only[bp.eta,aq.eta,aa.eta,etas,aP,afs h.oF.kq,Tc h.oF.kq,cD,cv,Qa,F2 h.ky h.mo,zV h.ky h.mo]
 by_cases hc:x.az.aM=[]
 ·have e1:decide ((0:Int)<((x.az.aM.length:Nat):Int))=false:=by rw[hc];rfl
  rw[e1,hc];cases decide (x.an.aI=1)<;>cases aF x.an.ax<;>rfl
 ·have hpos:0<x.az.aM.length:=List.length_pos_iff.2 hc;have hlv:jv (mK x.az.aM):=h.oF.kq.qL _ (Il hc);rw[Qg (by omega:(0:Int)<((x.az.aM.length:Nat):Int)),Qg hc,ZN h.ky h.mo hlv]
  obtain⟨q,e,q0,hn⟩:=F8 h.ky h.mo hlv;rw[e];simp only[Qa,q0,decide_true,Qk,F2 hn.inv hn.seq,zV hn.inv hn.seq];cases decide (x.an.aI=1)<;>cases aF x.an.ax<;>cases decide (mK x.az.aM=x.an.ba)<;>rfl
theorem Zs{m:aa}(h:bo m)(hs:fT m){v:ByteArray}(hv:jv v):Yd (jR m v) fun q=>q.2.1=0/\Cm m m.ak q.1/\q.1.ba=v/\q.1.au=m.au:=by
 obtain⟨q,e,h1,h2⟩:=F8 h hs hv;obtain⟨q',e',m2,rfl,ha⟩:=K5 (R:=fun _=>True) (fun _ _ _=>trivial) (fun _ _=>trivial) h hs hv trivial
 rw[e]at e';obtain rfl:=Option.some.inj e';obtain⟨_,_,_,e4,e5,_⟩:=CR (dV m v);obtain⟨s,es,_⟩:=GL m m2;have g1:(dV m v).ba=v:=by unfold dV;split<;>rfl
 have g2:(dV m v).au=m.au:=by unfold dV;split<;>rfl
 refine⟨_,e,h1,h2,?_,?_⟩
 ·show(qw m m2).ba=v;rw[es];exact ha.env.2.2.2.1.trans (e4.trans g1)
 ·show(qw m m2).au=m.au;rw[es];exact ha.env.2.2.2.2.trans (e5.trans g2)
structure WN (x y:bp):Prop where
 oF:y.az=x.az
 round:y.Round=x.Round
 next:y.Next=x.Next
 timer:y.Timer=x.Timer
 heard:y.an.au=x.an.au
 sz:x.az.aM≠[]->y.an.aI=1->aF y.an.ax=true->y.an.ba=mK x.az.aM
theorem aaH(h:tJ nd sl k x):Yd (eK x) fun y=>oA nd sl k y/\oz x.an y.an/\WN x y:=by
 obtain⟨y,e,h1,h2⟩:=vp h;refine⟨y,e,h1,h2,?_⟩;unfold eK at e;simp only[bp.eta,aq.eta,aa.eta,etas,aP,Tc h.oF.kq,cv,Qa,zV h.ky h.mo]at e
 have same:(x.az.aM≠[]->x.an.aI=1->aF x.an.ax=true->x.an.ba=mK x.az.aM)->∀{a:Bool} {b:ByteArray},y=⟨x.az,x.an,x.Timer,x.Round,x.Next,a,b⟩->WN x y:=fun hp a b ey=>by
  subst ey;exact⟨rfl,rfl,rfl,rfl,rfl,hp⟩
 by_cases hc:x.az.aM=[]
 ·rw[hc]at e;exact same (fun hn=>absurd hc hn) (Option.some.inj e).symm
 ·have hlv:jv (mK x.az.aM):=h.oF.kq.qL _ (Il hc);rw[Qg hc]at e
  by_cases h3:x.an.aI=1
  ·rw[Qg h3]at e
   cases hz:aF x.an.ax with
   |false=>
    rw[hz]at e;exact same (fun _ _ e2=>by rw[hz]at e2;cases e2) (Option.some.inj e).symm
   |true=>
    rw[hz]at e
    by_cases hp:mK x.az.aM=x.an.ba
    ·rw[Qg hp]at e;exact same (fun _ _ _=>hp.symm) (Option.some.inj e).symm
    ·rw[Qh hp]at e;obtain⟨q,eq,q0,hn,qp,qh⟩:=Zs h.ky h.mo hlv;rw[eq]at e;simp only[Qk,Qp,Qa,q0,decide_true,zV hn.inv hn.seq]at e;obtain rfl:=Option.some.inj e;exact⟨rfl,rfl,rfl,rfl,qh,fun _ _ _=>qp⟩
  ·rw[Qh h3]at e;exact same (fun _ e2=>absurd e2 h3) (Option.some.inj e).symm
end
end
section
section
variable {m : aa} (h : bo m) (hs : fT m)
 include h hs
end
section
variable {nd sl k : Int} {x : bp} (h : oA nd sl k x) (hk : k <= 999998)
 include h hk
theorem KA{m:ar}(hm:tK m)(hne:m.al≠nd):pb x m=iJ x m:=by
 have p:=h.pre;have hsq:1<=x.az.aE/\x.az.aE<=1000000:=⟨p.pJ.1,by have:=p.pJ.2;omega⟩
 have hne2:m.al≠x.az.al:=by rw[p.sC];exact hne
 unfold pb wu uW zl iJ;simp only[bp.eta,aq.eta,aa.eta,ar.eta,etas,aP,xv h (by omega),Lc h (by omega),afq p,afn p.oF hsq hm hne2,YZ p.oF hsq hm hne2,Qa,Qo,Ql]
 have hs:=KU (b:=x.az) (Gx p.oF hm hne2)
 cases tE x.az.au m with
 |true=>rfl
 |false=>
  have h1:=p.pJ;have hp:tJ nd sl (k+1) {x with az:=lp x.az {x.az with au:=iy x.az.au m}}:=⟨p.ky,p.mo,p.aB,p.aK,hs.ok,by show 1<=(lp x.az {x.az with au:=iy x.az.au m}).aE/\(lp x.az {x.az with au:=iy x.az.au m}).aE<=1+(k+1);rcases hs.seq with e|e<;>rw[e]<;>(try show 1<=x.az.aE/\x.az.aE<=1+(k+1))<;>omega,hs.aB.trans p.sC,hs.aK.trans p.w6,hs.aL.trans p.aL,p.timer,p.round,p.next⟩
  simp only[Qq,Qu,decide_true,Qo,Ql,Qk,Qa,abp hp];obtain⟨y,ey,_⟩:=vp hp;rw[ey];rfl
end
end
section
theorem afC{s:dm}(hO:ma s):Yd (zy s) fun q=>ma q.2/\oA 0 1 12 q.1:=by
 unfold zy;refine Yd.bind (GS hO (n:=4) (by omega) (by omega)) fun p1 ⟨hO1,ht,_,_⟩=> ?_
 refine Yd.bind (GR hO1) fun p2 ⟨hO2,hv⟩=> ?_
 refine Yd.bind (pM hO2 (by omega)) fun p3 ⟨hO3,h0,h1,_⟩=> ?_
 have h1:=h1 (by omega)
 simp only[etas];refine Yd.bind (agL (nd:=0) (sl:=1) (by omega) (by omega) (by omega) (by omega) ht (YF hv).2 h0 (by omega)) fun r4 ⟨_,hx⟩=> ?_
 refine Yd.bind (pM hO3 (by omega)) fun p5 ⟨hO5,g0,g1,_⟩=> ?_
 have g1:=g1 (by omega)
 try simp only[bp.eta,aq.eta,aa.eta,etas]
 refine Yd.Ci (fun(v:Int×Int×dm×bp×Unit)=>0<=v.2.1/\v.2.1<=11/\5<=v.1/\v.1<=5+4*(11 - v.2.1)/\ma v.2.2.1/\oA 0 1 (11 - v.2.1) v.2.2.2.1) (fun v=>v.2.1.toNat) ?_ ⟨g0,by show p5.1<=11;omega,Int.le_refl _,by show(5:Int)<=5+4*(11 - p5.1);omega,hO5,hx.le (by show(0:Int)<=11 - p5.1;omega)⟩
 rintro⟨now,k,s',x,u⟩ ⟨a1,a2,a3,a4,a5,a6⟩;simp only at a1 a2 a3 a4 a5 a6;simp only
 by_cases hk:0<k
 ·rw[Qg hk,Qk];have hsub:de .i64 k 1=k - 1:=qb (by omega) (by omega)
  rw[hsub];refine Yd.bind (aeX a6 (by omega) a5 (by omega) (by omega)) fun q ⟨hOq,hd,hn1,hn2⟩=> ?_
  refine .some ⟨⟨by show 0<=k - 1;omega,by show k - 1<=11;omega,by show 5<=q.1.2.1;omega,by show q.1.2.1<=5+4*(11 - (k - 1));omega,hOq,?_⟩,by show(k - 1).toNat<k.toNat;omega⟩
  exact hd.1.le (by show 11 - k+1<=11 - (k - 1);omega)
 ·rw[Qh hk,Ql];exact .some ⟨a5,a6.le (by omega)⟩
section
variable {nd sl k : Int} {x : bp} (h : oA nd sl k x) (hk : k <= 999998)
 include h hk
theorem acj{m:ar}(hm:tK m)(hne:m.al≠nd):Yd (iJ x m) fun q=>(tE x.az.au m=false/\q.2.1=0/\oA nd sl (k+1) q.1/\oz x.an q.1.an/\tE q.1.az.au m=true/\(q.1.az.aM≠[]->q.1.an.aI=1->aF q.1.an.ax=true->q.1.an.ba=mK q.1.az.aM))\/(tE x.az.au m=true/\q.2.1=9):=by
 have p:=h.pre;have h1:=p.pJ;have hsq:1<=x.az.aE/\x.az.aE<=1000000:=⟨p.pJ.1,by omega⟩
 have hne2:m.al≠x.az.al:=by rw[p.sC];exact hne
 have hno:=Gx p.oF hm hne2;have hs:=KU (b:=x.az) hno;have hh:=(Va (b:=x.az) hno).1;unfold iJ;simp only[bp.eta,aq.eta,aa.eta,ar.eta,etas,xv h (by omega),YZ p.oF hsq hm hne2,Qa,Qo,Ql]
 cases ho:tE x.az.au m with
 |true=>exact .some (.inr ⟨by trivial,rfl⟩)
 |false=>
  have hq:(lp x.az {x.az with au:=iy x.az.au m}).aE=x.az.aE\/(lp x.az {x.az with au:=iy x.az.au m}).aE=x.az.aE+1:=hs.seq
  have hp:tJ nd sl (k+1) {x with az:=lp x.az {x.az with au:=iy x.az.au m}}:=⟨p.ky,p.mo,p.aB,p.aK,hs.ok,by show 1<=(lp x.az {x.az with au:=iy x.az.au m}).aE/\(lp x.az {x.az with au:=iy x.az.au m}).aE<=1+(k+1);omega,hs.aB.trans p.sC,hs.aK.trans p.w6,hs.aL.trans p.aL,p.timer,p.round,p.next⟩
  simp only[Qq,Qu,decide_true,Qo,Ql,Qa];refine Yd.bind (aaH hp) fun y ⟨hy,hst,hq⟩=> .some (.inl ⟨by trivial,rfl,hy,hst,?_,fun h1 h2 h3=> ?_⟩)
  ·show tE y.az.au m=true;rw[hq.oF];show tE (lp x.az {x.az with au:=iy x.az.au m}).au m=true
   rw[hh];exact List.any_eq_true.2 ⟨m,Rh.2 (.inl rfl),by simp⟩
  ·have e:=hq.oF;simp only at h1 h2 h3 ⊢;rw[e]at h1 ⊢;exact hq.sz h1 h2 h3
end
end
section
theorem AA(l:List Int):tM l=some true:=by
 unfold tM;refine Yd.eq_true ?_;refine Yd.bind (af9 l) fun s hO=> ?_
 refine Yd.bind (afC hO) fun p2 ⟨hO2,hx⟩=> ?_
 refine Yd.bind (nS hO2 (by omega) (by omega) (by omega)) fun p3 ⟨hO3,hlo,hhi,_⟩=> ?_
 have hhi:=hhi (by omega)
 refine Yd.bind (H8 hO3 (by omega) (by omega)) fun p4 ⟨hO4,hm,hmn,hmq⟩=> ?_
 have hadd:aA .i64 p4.1.aE 100=p4.1.aE+100:=bE (by have:=hm.seq;omega) (by omega)
 have hm2:tK {p4.1 with aE:=p4.1.aE+100}:=⟨hm.n0,hm.n1,by show 1<=p4.1.aE+100;have:=hm.seq;omega,hm.aL,hm.dg,hm.er⟩
 have hne:({p4.1 with aE:=p4.1.aE+100}:ar).al≠0:=by show p4.1.al≠0;rw[hmn];omega
 simp only[bp.eta,aq.eta,aa.eta,ar.eta,etas,hadd,ae1];rw[KA hx (by omega) hm2 hne]
 refine Yd.bind (acj hx (by omega) hm2 hne) fun q hq=> ?_
 rcases hq with⟨_,q0,hy,_,hold,hprop⟩|⟨_,q9⟩
 ·rw[q0];simp only[decide_true,Qo,Ql];rw[KA hy (by omega) hm2 hne]
  refine Yd.bind (acj hy (by omega) hm2 hne) fun r hr=> ?_
  rcases hr with⟨hf,_⟩|⟨_,r9⟩
  ·rw[hold]at hf;cases hf
  ·rw[Tc hy.pre.oF.kq,r9];simp only[Qa,cv,decide_true,Qk]
   by_cases hc:q.1.az.aM=[]
   ·rw[Qh (by simp[hc])]
    exact .some rfl
   ·rw[Qg hc]
    by_cases h3:q.1.an.aI=1
    ·rw[Qg h3]
     cases hz:aF q.1.an.ax with
     |false=>exact .some rfl
     |true=>
      rw[Qg (hprop hc h3 hz)];exact .some rfl
    ·rw[Qh h3];exact .some rfl
 ·rw[q9];exact .some rfl
end
end Go.Proofs.YtjbfdglebjnelaaGreat
end
noncomputable section
namespace Go.TQ
open Go.RowKit
theorem rep_ints{w:World}{M:Nat->Prop}{G:Gh}{a:Option Addr}{len cap:Nat}{zs:List Int}(hM:∀b,¬M b)
  (h:(a=none/\len=0/\cap=0/\zs=[])\/∃x,a=some x/\len<=cap/\cap<=maxLen/\zs.length=cap/\(∀i,i<zs.length->w.cell? (x.add i)=some (.int .i64 (zs.getD i 0)))/\∀n∈zs,(Lit.int .i64 n).wf=true):
  bm w M G (.sl ((zs.take len).map fun n=>[.int .i64 n])) (.slice a len cap):=by
 rcases h with⟨rfl,rfl,rfl,rfl⟩|⟨x,rfl,h1,h2,h3,h4,_⟩
 ·exact .slnil
 ·have hfl:∀l:List Int,(l.map fun n=>[PV.int .i64 n]).flatten=l.map fun n=> .int .i64 n:=by
   intro l
   induction l with
   |nil=>rfl
   |cons n l ih=>simp only[QD,List.flatten_cons,ih];rfl
  have hlen:((zs.take len).map fun n=>[PV.int .i64 n]).length=len:=by simp;omega
  have:=bm.sl (w:=w) (M:=M) (G:=G) ((zs.take len).map fun n=>[.int .i64 n]) x cap 1 ((zs.take len).map fun n=> .int .i64 n) (fun e he=>by obtain⟨n,_,rfl⟩:=QP.1 he;rfl) (by rw[hfl];simp)
   (fun i v hv=> ?_) (fun i y v hy hv=> ?_) (by rw[hlen];exact h1) h2
  ·rw[hlen]at this;exact this
  ·refine⟨?_,hM _⟩;rw[QT,Qb]at hv;obtain⟨n,hn,rfl⟩:=hv;rw[Qq68]at hn;split at hn
   ·have hi:i<zs.length:=(Qw.1 hn).1;rw[h4 i hi,List.getD_eq_getElem?_getD,hn];rfl
   ·cases hn
  ·rw[hfl]at hy;rw[QT]at hy hv;rw[Qb]at hy hv;obtain⟨n,hn,rfl⟩:=hy;obtain⟨n',hn',rfl⟩:=hv;rw[hn]at hn';injection hn' with e
   subst e;exact .int _ _
theorem law_calls{P:Program}{f:FuncId}{args:List PV}{vs:List Value}{w:World}(h:Con P f false [] args (.bool true) [])(hr:bl w (fun _=>False) dw args vs):
  Calls P f vs.toArray w fun e w'=>e= .returned (.bool true)/\Below w.heap.size w w':=by
 refine(h w (fun _=>False) (fun _ hb=>hb.elim) 0 0 [] vs (fun hq=>by cases hq) ?_).mono ?_
 ·exact⟨hr.1,fun i x v hx hv=>(hr.2 i x v hx hv).mono (dM.of fun _ _=>fun hq=>by rcases hq with⟨hq,_⟩|hq;cases hq;exact hq) (Gh.le.refl _)⟩
 ·rintro e w' ⟨v,_,rfl,hv,_,hF⟩;refine⟨by rw[hv.nQ],hF.os,hF.tape,hF.output,hF.size,fun k hk=>hF.block k hk (by simp)⟩
end Go.TQ
end
