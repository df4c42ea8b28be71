/-
  Texts made small by a program (see NOTES). Conditions: those that each theorem names.
-/
import Derived.Test.YtnhgcpiljggmmaaGreatDoorLaboratorySameMe
import Derived.Lib.ItoaLen
import Derived.Test.YtnhgcpiljggmmaaGreatDoorCards
import Derived.Handed
import Derived.HandedShaped
import Derived.ChangeSame
import Derived.ChangeVars
import Derived.JoinedOf
import Derived.RowKit
import Derived.RowKitTokens
import Derived.LaidLaws
import Derived.Stop.LaidErr
set_option linter.unusedVariables false
set_option linter.unusedSimpArgs false
set_option linter.unusedSectionVars false
set_option maxHeartbeats 2000000
noncomputable section
namespace Go.Proofs.YtnhgcpiljggmmaaGreatDoor
section
open Go.TQ
theorem oO{α ρ:Type}(l:List α)(hl:l.length<=1000000){fin:Option ρ}{step:Int×Unit->Option ((Int×Unit)⊕ρ)}
  (h1:∀(i:Nat) (x:α),x∈l->decide ((i:Int)<((l.length:Nat):Int))=true->idx l (i:Int)=some x->aB .i64 (i:Int) 1=((i+1:Nat):Int)->step ((i:Int),())=some (.inl (((i+1:Nat):Int),())))
  (h2:decide (((l.length:Nat):Int)<((l.length:Nat):Int))=false->step ((l.length:Int),())=Option.map Sum.inr fin):aD step (0,())=fin:=
 w5 l.length hl (fun i hi hd hw=>h1 i l[i] (QZ hi) hd (by rw[bA];exact Qv hi) hw) h2
theorem Dc(l:List ByteArray)(hl:l.length<=1000000):fV l l=some true:=by
 unfold fV;simp only[decide_true,Qo,Ql];exact oO l hl (fun i x _ hd hx hw=>by simp only[hd,hx,hw,Qk,Qa,decide_true,Qo,Ql]) (fun hd=>by simp only[hd,Ql])
theorem Uu(l:List ByteArray)(hl:l.length<=1000000):lU l l=some true:=by
 unfold lU;simp only[decide_true,Qo,Ql];exact oO l hl (fun i x _ hd hx hw=>by simp only[hd,hx,hw,Qk,Qa,decide_true,Qo,Ql]) (fun hd=>by simp only[hd,Ql])
theorem RI(l:List Int)(hl:l.length<=1000000):mu l l=some true:=by
 unfold mu;simp only[decide_true,Qo,Ql];exact oO l hl (fun i x _ hd hx hw=>by simp only[hd,hx,hw,Qk,Qa,decide_true,Qo,Ql]) (fun hd=>by simp only[hd,Ql])
theorem adm{m:ax}(ht:de m.aa)(hv:m.cx.length<=1000000)(ha:m.bo.length<=1000000):kx m m=some true:=by
 simp only[kx,ab.eta,yq ht,Dc _ hv,Dc _ ha,decide_true,Qk,Qa]
theorem adl{m:ax}(ht:de m.aa)(hv:m.cx.length<=1000000)(ha:m.bo.length<=1000000):jg m m=some true:=by
 simp only[jg,ab.eta,yq ht,Uu _ hv,Uu _ ha,decide_true,Qk,Qa]
theorem Xx{l:aQ}(h:acM l):jY l l=some true:=by
 simp only[jY,rV,ax.eta,ak.eta,aQ.eta,ab.eta,US h.t2,adl h.t1 h.v h.a,decide_true,Qk,Qa]
theorem abI{n:aA}(h:gV n):vn n n=some true:=by
 have hlen:=h.len;unfold vn;simp only[ax.eta,ab.eta,yq h.ask.aN.sm,Dc _ h.gy.vC,Dc _ h.jw.vC,Dc _ h.rQ.vC,decide_true,Qo,Qk,Ql,Qa];refine oO n.aF (by omega) (fun i x hx hd hi hw=> ?_) (fun hd=>by simp only[hd,Ql])
 have hg:=(h.heard x hx).1;simp only[hd,hi,hw,Qk,Qa,adm hg.aN.sm hg.gy.vC hg.jw.vC,Qo,Ql]
theorem abL{m:ah}(h:bK m):vj m m=some true:=by
 have hlen:=h.len;simp only[vj,iR,ah.eta,ab.eta,yq h.aN.sm,aco (l:=m.aF) (by omega) (fun e he=>(h.hv e he).2.1.sm),CS,decide_true,Qk,Qa]
theorem abe{nd sl k:Int}{x:bw}(h:uT nd sl k x):vg x x=some true:=by
 simp only[vg,aA.eta,ah.eta,ab.eta,abI h.pre.vB,abL h.pre.nG,decide_true,Bool.and_true,Bool.false_xor,Qk,Qa]
theorem abA{nd k:Int}{p:ay}(h:mo nd k p):ve p p=some true:=by
 have hlen:=h.len;unfold ve;simp only[bw.eta,aA.eta,ah.eta,ab.eta,yq h.aN.sm,decide_true,Qo,Bool.true_xor,Qk,Ql,Qa];exact oO p.bE (by omega) (fun i x hx hd hi hw=>by simp only[hd,hi,hw,Qk,Qa,abe (h.bj x hx).2.2,Qo,Ql]) (fun hd=>by simp only[hd,Ql])
theorem YB{w:aY}(h:tG w):u9 w w=some true:=by
 have hlen:=h.len
 have hP:qe w.bh w.bh=some true:=by
  unfold qe;simp only[ax.eta,ak.eta,aQ.eta,ab.eta,decide_true,Qo,Ql];exact oO w.bh (by omega) (fun i x hx hd hi hw=>by simp only[hd,hi,hw,Qk,Qa,Xx (h.Nc x hx).l.2,decide_true,Qo,Ql]) (fun hd=>by simp only[hd,Ql])
 simp only[u9,hP,RI _ h.parts,RI _ (show w.eO.length<=1000000 by rcases h.Bi with e|e<;>omega),decide_true,Qk,Qa]
theorem Y0{k:Int}{w:aZ}(h:ik k w):oA w w=some true:=by
 have hn:=h.n1;have htl:=h.tl;unfold oA;simp only[ab.eta,ay.eta,YB h.F9,decide_true,Qo,Ql,Qa];refine w5 w.aH.length (by omega) (fun i hi hd hw=> ?_) (fun hd=> ?_)
 ·have hx:w.aH[i]?=some w.aH[i]:=Qv hi;simp only[hd,hw,bA,hx,Qk,Qa,abA (h.nodes i _ hx),Qo,Ql]
 ·simp only[hd,Ql];congr 1;refine oO w.cM (by omega) (fun i x hx hd hi hw=> ?_) (fun hd=>by simp only[hd,Ql])
  obtain⟨g1,g2⟩:=h.tr x hx;simp only[hd,hi,hw,Qk,Qa,decide_true,Qo,Ql];exact oO x (by omega) (fun j t ht hd' hj hw'=>by simp only[hd',hj,hw',Qk,Qa,yq (g2 t ht),Qo,Ql]) (fun hd'=>by simp only[hd',Ql])
theorem abK{w:aZ}(h:YW w):oA w w=some true:=by
 rcases h with rfl|⟨s,_,_,h⟩
 ·unfold oA;simp only[YB (w:=⟨[],0,[],[]⟩) ⟨QS _,(fun q hq=>by cases hq),QS _,.inl rfl⟩,decide_true,Qo,Ql,Qa]
  refine w5 0 (by omega) (fun i hi=>absurd hi (Nat.not_lt_zero i)) (fun hd=> ?_)
  exact congrArg (Option.map Sum.inr) (w5 0 (by omega) (fun i hi=>absurd hi (Nat.not_lt_zero i)) (fun hd=>rfl))
 ·exact Y0 h
end
section
open Go.TQ Go.Proofs
abbrev bu:=List UInt8
def bs(l:bu):ByteArray:=⟨l.toArray⟩
@[simp] theorem yi (l:bu):(bs l).data.toList=l:=rfl
@[simp] theorem dI (l:bu):(bs l).size=l.length:=rfl
theorem pZ(s:ByteArray):bs s.data.toList=s:=by cases s;rfl
theorem zh{a b:bu}:bs a=bs b↔a=b:=⟨fun h=>by rw[<-yi a,h,yi],fun h=>by rw[h]⟩
theorem size_data(s:ByteArray):s.size=s.data.toList.length:=rfl
def eE(c:UInt8):bu->List bu
 |[]=>[[]]
 |b::l=>if b=c then[]::eE c l else match eE c l with
  |[]=>[[b]]
  |x::r=>(b::x)::r
theorem R4(c:UInt8)(l:bu):∃x r,eE c l=x::r:=by
 cases l with
 |nil=>exact⟨_,_,rfl⟩
 |cons b l=>
  unfold eE;split
  ·exact⟨_,_,rfl⟩
  ·split<;>exact⟨_,_,rfl⟩
theorem Ep{c:UInt8}:∀{x:bu},c∉x->eE c x=[x]
 |[],_=>rfl
 |b::x,h=>by
  simp only[QA,not_or]at h;rw[eE,Qs (fun e=>h.1 e.symm),Ep h.2]
theorem za{c:UInt8}:∀{x:bu} (l:bu),c∉x->eE c (x++c::l)=x::eE c l
 |[],l,_=>by simp[eE]
 |b::x,l,h=>by
  simp only[QA,not_or]at h;rw[List.cons_append,eE,Qs (fun e=>h.1 e.symm),za l h.2]
theorem oQ{c:UInt8}:∀(x:bu) (r:List bu),(∀w∈x::r,c∉w)->eE c (Lib.join (x::r) [c])=x::r
 |x,[],h=>by rw[Lib.join_one];exact Ep (h x (by simp))
 |x,y::r,h=>by
  have e:Lib.join (x::y::r) [c]=x++c::Lib.join (y::r) [c]:=by
   rw[Lib.join_cons,Lib.join_cons,Lib.joinTail];simp[Lib.joinTail]
  rw[e,za _ (h x (by simp)),oQ y r fun w hw=>h w (by simp[hw])]
theorem Zz(c b:UInt8)(l:bu):([c]:bu).isPrefixOf (b::l)=(c==b):=by simp[List.isPrefixOf]
theorem D8{c:UInt8}:∀{x:bu} (l:bu),c∉x->Lib.index (x++c::l) [c]=x.length
 |[],l,_=>by simp[Lib.index,List.isPrefixOf]
 |b::x,l,h=>by
  simp only[QA,not_or]at h;rw[List.cons_append,Lib.index,Zz,Qs (by simp[h.1]),D8 l h.2]
  have:((x.length:Int)== -1)=false:=by simp
  rw[this];simp
theorem KU{c:UInt8}:∀{l:bu},c∈l->∃x r,l=x++c::r/\c∉x
 |b::l,h=>by
  by_cases e:b=c
  ·exact⟨[],l,by rw[e];rfl,by simp⟩
  ·have hc:c∈l:=by
    rcases QA.1 h with h|h
    ·exact absurd h.symm e
    ·exact h
   obtain⟨x,r,h1,h2⟩:=KU hc;exact⟨b::x,r,by rw[h1];rfl,by simp only[QA,not_or];exact⟨fun h=>e h.symm,h2⟩⟩
theorem HA(c:UInt8):∀(k:Nat) (l:bu),l.count c=k->Lib.splitK [c] 0 k l=eE c l
 |0,l,h=>by
  rw[Lib.splitK,Ep (fun hc=>by have:=List.count_pos_iff.2 hc;omega)]
 |k+1,l,h=>by
  obtain⟨x,r,rfl,hx⟩:=KU (List.count_pos_iff.1 (show 0<l.count c by omega))
  have hi:=D8 r hx;rw[Lib.splitK,hi,Qs (by simp),za r hx]
  have hc:r.count c=k:=by
   rw[List.count_append,List.count_cons_self,List.count_eq_zero_of_not_mem hx]at h;omega
  have e1:(x++c::r).take ((x.length:Int).toNat+0)=x:=by simp
  have e2:(x++c::r).drop ((x.length:Int).toNat+([c]:bu).length)=r:=by simp
  rw[e1,e2,HA c k r hc]
theorem UL(c:UInt8)(s:ByteArray):(Lib.splitB (bs [c]) 0 (Lib.countB s (bs [c])) s).map (·.data.toList)=eE c s.data.toList:=by
 rw[Lib.splitB_data];exact HA c _ _ (Lib.count_one c s.data.toList).symm
theorem UN(s:ByteArray)(h:s.size<4294967281):AR s (bs [32])=some ((eE 32 s.data.toList).map bs):=by
 unfold AR;rw[Qr ⟨h,by simp⟩,<-UL,List.map_map]
 congr 1;rw[show(bs∘fun x:ByteArray=>x.data.toList)=id from funext pZ]
 simp
def yZ(n:Nat):UInt8:=UInt8.ofNat (48+n)
def df(u:Nat):bu:=if u<10 then[yZ u]else if u<100 then[yZ (u / 10),yZ (u % 10)]else if u<1000 then[yZ (u / 100),yZ (u / 10 % 10),yZ (u % 10)]else[yZ (u / 1000),yZ (u / 100 % 10),yZ (u / 10 % 10),yZ (u % 10)]
theorem K4{u:Nat}(h:u<10000):Lib.itoa u=df u:=by
 rw[Lib.itoa_nonneg];unfold df;split
 ·rename_i h1;rw[Lib.decDigits_one h1];rfl
 ·rename_i h1;split
  ·rename_i h2;rw[Lib.decDigits_two h1 h2];rfl
  ·rename_i h2;split
   ·rename_i h3;rw[Lib.decDigits,dif_neg h1,Lib.decDigits_two (by omega) (by omega),Nat.div_div_eq_div_mul]
    rfl
   ·rename_i h3;rw[Lib.decDigits,dif_neg h1,Lib.decDigits,dif_neg (by omega),Lib.decDigits_two (by omega) (by omega)]
    simp only[Nat.div_div_eq_div_mul,Nat.reduceMul,yZ,List.cons_append,List.nil_append]
def mY(b:UInt8):Bool:=decide (48<=b.toNat)&&decide (b.toNat<=57)
def S6(n:Nat):Bool:=decide (Lib.atoiAll (df n)= .ok (n:Int))&&(df n).all mY&&decide (1<=(df n).length)&&decide ((df n).length<=4)&&(decide ((df n).length=1)||decide ((df n).head?≠some 48))
theorem Vt:(List.range 1024).all S6=true:=by decide+kernel
theorem Xm{n:Nat}(h:n<1024):S6 n=true:=QH.1 Vt n (List.mem_range.2 h)
structure adY (n:Nat) (l:bu):Prop where
 itoa:Lib.itoa n=l
 back:Lib.atoiAll l= .ok (n:Int)
 yZ:∀b∈l,mY b=true
 len:1<=l.length/\l.length<=4
 head:l.length=1\/l.head?≠some 48
theorem yD{n:Nat}(h:n<1024):adY n (df n):=by
 have:=Xm h;simp only[S6,Qm,Qn,Qi,QH]at this;obtain⟨⟨⟨⟨h1,h2⟩,h3⟩,h4⟩,h5⟩:=this;exact⟨K4 (by omega),h1,h2,⟨h3,h4⟩,h5⟩
theorem Ez{n:Nat}(h:n<1024):qa (bs (df n))=some ((n:Int),true,()):=by
 have:=yD h;unfold qa;rw[Qr (by have:=this.len.2;simp;omega)]
 simp only[yi,this.back]
theorem sO(s:ByteArray)(h:s.size<=281474976710656):∃n b,qa s=some (n,b,())/\ -9223372036854775808<=n/\n<=9223372036854775807:=by
 unfold qa;rw[Qr h];split
 ·rename_i v hv;have:=Lib.atoiAll_bounds hv;exact⟨_,_,rfl,by omega,by omega⟩
 ·exact⟨_,_,rfl,by omega,by omega⟩
 ·have:=Lib.atoiSat_bounds s.data.toList;exact⟨_,_,rfl,by omega,by omega⟩
theorem D9{c:UInt8}:∀{x:bu} (l:bu),c∉x->Lib.indexByte (x++c::l) c=x.length
 |[],l,_=>by simp[Lib.indexByte]
 |b::x,l,h=>by
  simp only[QA,not_or]at h;rw[List.cons_append,Lib.indexByte,Qs (by simp;exact fun e=>h.1 e.symm),D9 l h.2]
  have:((x.length:Int)== -1)=false:=by simp
  rw[this];simp
def fR(ls:List bu):bu:=(ls.map (·++[10])).flatten
theorem sB(x:bu)(ls:List bu):fR (x::ls)=x++10::fR ls:=by simp[fR]
theorem xQ(l:bu)(i j:Nat):(bs l).extract i j=bs ((l.drop i).take (j - i)):=by
 rw[<-pZ ((bs l).extract i j)];congr 1;rw[<-Lib.toList_data,Lib.extract_toList];rfl
theorem DO:∀(ls:List bu) (f:Nat),(∀x∈ls,(10:UInt8)∉x)->(fR ls).length<=f->eB f (bs (fR ls))=ls.map fun x=>bs (x++[10])
 |[],0,_,_=>rfl
 |[],f+1,_,_=>by rw[eB,Qr (by simp[fR])];rfl
 |x::ls,0,_,h=>by rw[sB]at h;simp at h
 |x::ls,f+1,hx,h=>by
  rw[sB]at h ⊢;have h10:=hx x (by simp)
  have hE:jT (bs (x++10::fR ls))=x.length:=D9 _ h10;rw[eB,Qs (by simp),hE,Qr (by omega)]
  have e1:(bs (x++10::fR ls)).extract 0 ((x.length:Int).toNat+1)=bs (x++[10]):=by
   rw[xQ];congr 1;simp[List.take_append,List.take_of_length_le]
  have e2:(bs (x++10::fR ls)).extract ((x.length:Int).toNat+1) (bs (x++10::fR ls)).size=bs (fR ls):=by
   rw[xQ];congr 1;rw[show x++10::fR ls=(x++[10])++fR ls by simp,List.drop_left' (by simp)]
   rw[List.take_of_length_le (by simp;omega)]
  rw[e1,e2,DO ls f (fun y hy=>hx y (by simp[hy])) (by simp at h;omega)]
  rfl
end
section
open Go.TQ Go.Proofs
theorem acA(l:bu)(i:Nat):(bs l)[i]?=l[i]?:=by
 by_cases h:i<l.length
 ·rw[Qv h];exact(getElem?_pos (bs l) i (by simpa using h)).trans rfl
 ·rw[Qq71 (by omega)]
  exact getElem?_neg (bs l) i (by simpa using h)
theorem AT(l:bu)(i:Nat):dY (bs l) (i:Int)=(l[i]?).map fun b=>(b.toNat:Int):=by
 unfold dY;rw[Qr (by omega),QV,acA]
theorem Re(l:bu)(i j:Nat)(h1:i<=j)(h2:j<=l.length):ir (bs l) (i:Int) (j:Int)=some (bs ((l.drop i).take (j - i))):=by
 unfold ir;rw[Qr ⟨by omega,by omega,by simp;omega⟩,QV,QV,xQ]
theorem AU(a b:bu)(h:a.length+b.length<=9223372036854775807):cy (bs a) (bs b)=some (bs (a++b)):=by
 unfold cy;rw[Qr (by simpa using h)]
 rw[<-pZ (bs a++bs b)];congr 2
def isSp(b:UInt8):Bool:=decide (b=32)
def yY(r:bu):Nat:=(r.takeWhile mY).length
def kB(r:bu):Nat:=if[111,102]<+:r then 2 else match r with
 |[]=>0
 |b::_=>if b=40\/b=41\/b=44 then 1 else yY r
def dp(r:bu):bu:=r.dropWhile isSp
def tok(r:bu):bu:=r.take (kB r)
def cW(r:bu):bu:=dp (r.drop (kB r))
theorem aaq(r:bu):yY r<=r.length:=(List.takeWhile_sublist _).length_le
theorem zA(r:bu):kB r<=r.length:=by
 unfold kB;split
 ·rename_i h;exact h.length_le
 ·split
  ·exact QI _
  ·split
   ·simp
   ·exact aaq _
theorem BK(r:bu):(dp r).length<=r.length:=(List.dropWhile_sublist _).length_le
structure RS (s:aK) (r:bu):Prop where
 token:s.token=bs (tok r)
 text:∃pre:bu,s.text=bs (pre++r)/\s.at_=pre.length/\(pre++r).length<=10000
theorem OE(b:UInt8):cI (b.toNat:Int)=some (mY b):=by
 unfold cI mY;have h1:decide ((48:Int)<=(b.toNat:Int))=decide (48<=b.toNat):=decide_eq_decide.2 (by omega)
 have h2:decide ((b.toNat:Int)<=57)=decide (b.toNat<=57):=decide_eq_decide.2 (by omega)
 rw[h1,h2];cases decide (48<=b.toNat)<;>rfl
theorem Ek{ρ:Type}(r:bu)(hr:r.length<=10000)(k:Int->Option ρ):∀(m i:Nat),m=r.length - i->i<=r.length->
  aD (fun(v:Int×Unit)=>Option.bind (bif (decide (v.1<(((bs r).size:Nat):Int)))then Option.bind (dY (bs r) v.1) fun x=>Option.bind (cI x) fun y=>some y else some false) fun b=>
   bif b then some (Sum.inl ((aB .i64 v.1 (1:Int)),()))else Option.map Sum.inr (k v.1)) ((i:Int),())=k ((i+yY (r.drop i):Nat):Int)
 |0,i,hm,hi=>by
  obtain rfl:i=r.length:=by omega
  have hb:(bif (decide ((r.length:Int)<(((bs r).size:Nat):Int)))then Option.bind (dY (bs r) (r.length:Int)) fun x=>Option.bind (cI x) fun y=>some y else some false)=some false:=by
   rw[Qh (by simp)]
   rfl
  have h0:yY (r.drop r.length)=0:=by simp[yY]
  rw[h0,Nat.add_zero]
  cases hk:k (r.length:Int)with
  |none=>
   refine ur ?_;show Option.bind (bif (decide ((r.length:Int)<(((bs r).size:Nat):Int)))then Option.bind (dY (bs r) (r.length:Int)) fun x=>Option.bind (cI x) fun y=>some y else some false) _=_
   rw[hb];show Option.map Sum.inr (k (r.length:Int))=_;rw[hk];rfl
  |some v=>
   refine cd ?_;show Option.bind (bif (decide ((r.length:Int)<(((bs r).size:Nat):Int)))then Option.bind (dY (bs r) (r.length:Int)) fun x=>Option.bind (cI x) fun y=>some y else some false) _=_
   rw[hb];show Option.map Sum.inr (k (r.length:Int))=_;rw[hk];rfl
 |m+1,i,hm,hi=>by
  have hlt:i<r.length:=by omega
  have hb:(bif (decide ((i:Int)<(((bs r).size:Nat):Int)))then Option.bind (dY (bs r) (i:Int)) fun x=>Option.bind (cI x) fun y=>some y else some false)=some (mY r[i]):=by
   rw[Qg (by simpa using hlt),Qk,AT,Qv hlt,Qe,Qa,OE]
   rfl
  have hds:yY (r.drop i)=if mY r[i]then yY (r.drop (i+1))+1 else 0:=by
   rw[QM hlt];unfold yY;rw[List.takeWhile_cons];split<;>rfl
  rw[hds]
  cases hd:mY r[i]with
  |true=>
   have e:aB .i64 (i:Int) 1=((i+1:Nat):Int):=by rw[bY (by omega) (by omega)];omega
   refine(cm (s':=(((i+1:Nat):Int),())) ?_).trans ?_
   ·show Option.bind (bif (decide ((i:Int)<(((bs r).size:Nat):Int)))then Option.bind (dY (bs r) (i:Int)) fun x=>Option.bind (cI x) fun y=>some y else some false) _=_
    rw[hb,hd,Qa,Qk];show some (Sum.inl ((aB .i64 (i:Int) (1:Int)),()))=_;rw[e]
   ·rw[Ek r hr k m (i+1) (by omega) (by omega),Qr rfl]
    congr 2;omega
  |false=>
   rw[Qs (by simp),Nat.add_zero]
   cases hk:k (i:Int)with
   |none=>
    refine ur ?_;show Option.bind (bif (decide ((i:Int)<(((bs r).size:Nat):Int)))then Option.bind (dY (bs r) (i:Int)) fun x=>Option.bind (cI x) fun y=>some y else some false) _=_
    rw[hb,hd];show Option.map Sum.inr (k (i:Int))=_;rw[hk];rfl
   |some v=>
    refine cd ?_;show Option.bind (bif (decide ((i:Int)<(((bs r).size:Nat):Int)))then Option.bind (dY (bs r) (i:Int)) fun x=>Option.bind (cI x) fun y=>some y else some false) _=_
    rw[hb,hd];show Option.map Sum.inr (k (i:Int))=_;rw[hk];rfl
theorem Y6{ρ:Type}(r:bu)(hr:r.length<=10000)(k:Int×Unit->Option ρ):
  (Option.bind (jP (bs r) (ByteArray.mk #[111,102])) fun r8=>
   bif r8 then k ((2:Int),())else
   Option.bind (bif (!decide (bs r=(ByteArray.mk #[])))then
    Option.bind (dY (bs r) (0:Int)) fun x9=>Option.bind (iF (ByteArray.mk #[40,41,44]) x9) fun r10=>some (decide ((0:Int)<=r10))else some false) fun b11=>
   bif b11 then k ((1:Int),())else
   aD (fun(v12:Int×Unit)=>Option.bind (bif (decide (v12.1<((ByteArray.size (bs r):Nat):Int)))then Option.bind (dY (bs r) v12.1) fun x13=>Option.bind (cI x13) fun r14=>some r14 else some false) fun b15=>
    bif b15 then some (Sum.inl ((aB .i64 v12.1 (1:Int)),()))else Option.map Sum.inr (k (v12.1,()))) ((0:Int),()))=k ((kB r:Int),()):=by
 have h1:jP (bs r) (ByteArray.mk #[111,102])=some (List.isPrefixOf [111,102] r):=rfl;rw[h1,Qa];unfold kB
 by_cases hp:[111,102]<+:r
 ·rw[Qr hp,List.isPrefixOf_iff_prefix.2 hp];rfl
 ·rw[Qs hp,show List.isPrefixOf [111,102] r=false by rw[Bool.eq_false_iff];exact fun h=>hp (List.isPrefixOf_iff_prefix.1 h),Ql]
  cases r with
  |nil=>
   have hb:(bif (!decide (bs []=(ByteArray.mk #[])))then
    Option.bind (dY (bs []) (0:Int)) fun x9=>Option.bind (iF (ByteArray.mk #[40,41,44]) x9) fun r10=>some (decide ((0:Int)<=r10))else some false)=some false:=by
    rw[Qg (show bs []=ByteArray.mk #[]from rfl)]
    rfl
   rw[hb,Qa,Ql];exact Ek [] (by simp) (fun n=>k (n,())) 0 0 rfl (QI _)
  |cons b l=>
   have hb:(bif (!decide (bs (b::l)=(ByteArray.mk #[])))then
    Option.bind (dY (bs (b::l)) (0:Int)) fun x9=>Option.bind (iF (ByteArray.mk #[40,41,44]) x9) fun r10=>some (decide ((0:Int)<=r10))else some false)=some (decide (b=40\/b=41\/b=44)):=by
    rw[Qh (fun h=>by have:=zh.1 (h.trans (show ByteArray.mk #[]=bs []from rfl));cases this)]
    rw[Qp,Qk,show(0:Int)=((0:Nat):Int)from rfl,AT]
    simp only[List.getElem?_cons_zero,Qe,Qa];show Option.bind (uE (bs [40,41,44]) (b.toNat:Int)) _=_;unfold uE;rw[Qa,QV,show b.toNat.toUInt8=b from UInt8.ofNat_toNat,yi]
    congr 1;simp only[Lib.indexByte]
    by_cases e1:b=40
    ·subst e1;rfl
    ·by_cases e2:b=41
     ·subst e2;rfl
     ·by_cases e3:b=44
      ·subst e3;rfl
      ·have f1:(40==b)=false:=by simp;exact fun h=>e1 h.symm
       have f2:(41==b)=false:=by simp;exact fun h=>e2 h.symm
       have f3:(44==b)=false:=by simp;exact fun h=>e3 h.symm
       simp[e1,e2,e3,f1,f2,f3]
   rw[hb,Qa];show _=k (((if b=40\/b=41\/b=44 then 1 else yY (b::l):Nat):Int),())
   by_cases hd:b=40\/b=41\/b=44
   ·rw[Qg hd,Qr hd];rfl
   ·rw[Qh hd,Qs hd,Ql];have:=Ek (b::l) hr (fun n=>k (n,())) (b::l).length 0 rfl (QS _)
    rw[Nat.zero_add,List.drop_zero]at this;exact this
 def JG(v:aK):Option (Unit×aK):=
 Option.bind (ir v.text v.at_ (ByteArray.size v.text)) fun x4=>
  bm (fun(v5:Int×Unit)=>Option.bind (ir x4 0 v5.1) fun x7=>some ((()),(aK.mk v.text x7 v.at_))) fun j6=>
  Option.bind (jP x4 (ByteArray.mk #[111,102])) fun r8=>
  bif r8 then j6 ((2:Int),())else
  Option.bind (bif (!decide (x4=(ByteArray.mk #[])))then
   Option.bind (dY x4 (0:Int)) fun x9=>Option.bind (iF (ByteArray.mk #[40,41,44]) x9) fun r10=>some (decide ((0:Int)<=r10))else some false) fun b11=>
  bif b11 then j6 ((1:Int),())else
  aD (fun(v12:Int×Unit)=>Option.bind (bif (decide (v12.1<((ByteArray.size x4:Nat):Int)))then Option.bind (dY x4 v12.1) fun x13=>Option.bind (cI x13) fun r14=>some r14 else some false) fun b15=>
   bif b15 then some (Sum.inl ((aB .i64 v12.1 (1:Int)),()))else Option.map Sum.inr (j6 (v12.1,()))) ((0:Int),())
 def vO(v1:aK×Unit):Option ((aK×Unit)⊕(Unit×aK)):=
 bm (fun(v2:Bool×Unit)=>
  bif v2.1 then some (Sum.inl ((aK.mk v1.1.text v1.1.token (aB .i64 v1.1.at_ (1:Int))),()))
  else Option.map Sum.inr (JG v1.1)) fun j3=>
 bif (decide (v1.1.at_<((ByteArray.size v1.1.text:Nat):Int)))then
  Option.bind (dY v1.1.text v1.1.at_) fun x16=>j3 ((decide (x16=(32:Int))),())
 else j3 (false,())
theorem Vx(s:aK):ew s=aD vO ((aK.mk s.text s.token (aB .i64 s.at_ ((ByteArray.size s.token:Nat):Int))),()):=rfl
theorem Tb(p q:bu)(w:ByteArray)(hl:(p++q).length<=10000):JG ⟨bs (p++q),w,p.length⟩=some ((),⟨bs (p++q),bs (tok q),p.length⟩):=by
 unfold JG;have hpq:p.length<=(p++q).length:=by simp
 have h1:ir (bs (p++q)) (p.length:Int) ((bs (p++q)).size:Nat)=some (bs q):=by
  rw[dI,Re (p++q) p.length (p++q).length hpq (QI _)];congr 2;rw[List.drop_left,List.take_of_length_le (by simp)]
 rw[h1,Qa,bz];refine(Y6 q (by simp at hl;omega) (fun(v5:Int×Unit)=>Option.bind (ir (bs q) 0 v5.1) fun x7=>some ((()),(aK.mk (bs (p++q)) x7 p.length)))).trans ?_
 show Option.bind (ir (bs q) ((0:Nat):Int) (kB q:Int)) _=_;rw[Re q 0 (kB q) (QS _) (zA q),Qa];rfl
theorem Px(p q:bu)(w:ByteArray)(hl:(p++32::q).length<=10000):vO (⟨bs (p++32::q),w,p.length⟩,())=some (Sum.inl (⟨bs (p++32::q),w,(p++[32]).length⟩,())):=by
 have hlt:p.length<(p++32::q).length:=by simp
 unfold vO;rw[bz];simp only[];rw[Qg (show((p.length:Int)<(((bs (p++32::q)).size:Nat):Int))by rw[dI];omega),Qk,AT]
 have hg:(p++32::q)[p.length]?=some 32:=by simp
 rw[hg,Qe,Qa];rw[show aB .i64 (p.length:Int) 1=((p++[32]).length:Int)by rw[bY (by omega) (by omega)];simp]
 rfl
theorem DJ(p q:bu)(w:ByteArray)(hl:(p++q).length<=10000)(hq:∀b r,q=b::r->b≠32):vO (⟨bs (p++q),w,p.length⟩,())=some (Sum.inr ((),⟨bs (p++q),bs (tok q),p.length⟩)):=by
 unfold vO;rw[bz];simp only[];rw[Tb p q w hl]
 cases q with
 |nil=>
  rw[Qh (show¬((p.length:Int)<(((bs (p++[])).size:Nat):Int))by rw[dI];simp),Ql]
  rfl
 |cons b r=>
  rw[Qg (show((p.length:Int)<(((bs (p++b::r)).size:Nat):Int))by rw[dI];simp;omega),Qk,AT]
  have hg:(p++b::r)[p.length]?=some b:=by simp
  rw[hg,Qe,Qa,Qh (fun h=>hq b r rfl (by
   have:b.toNat=32:=by omega
   exact UInt8.toNat_inj.1 this))]
  rfl
theorem KR:∀(q p:bu) (w:ByteArray),(p++q).length<=10000->
  ∃s':aK,aD vO (⟨bs (p++q),w,p.length⟩,())=some ((),s')/\s'.text=bs (p++q)/\RS s' (dp q)
 |[],p,w,hl=>⟨_,cd (DJ p [] w hl (fun b r h=>by cases h)),rfl,rfl,p,rfl,rfl,hl⟩
 |b::q,p,w,hl=>by
  by_cases hb:b=32
  ·subst hb;obtain⟨s',h1,h2,h3⟩:=KR q (p++[32]) w (by simpa using hl)
   rw[QL]at h1 h2;refine⟨s',(cm (Px p q w hl)).trans h1,h2,?_⟩;have:dp (32::q)=dp q:=by simp[dp,isSp]
   rw[this];exact h3
  ·have:dp (b::q)=b::q:=by simp[dp,isSp,hb]
   rw[this];exact⟨_,cd (DJ p (b::q) w hl (fun c r h=>by injection h with h1 _;rw[<-h1];exact hb)),rfl,rfl,p,rfl,rfl,hl⟩
theorem KT(pre r:bu)(k:ByteArray)(hl:(pre++r).length<=10000)(hk:k.size<=r.length):
  ∃s':aK,ew ⟨bs (pre++r),k,pre.length⟩=some ((),s')/\s'.text=bs (pre++r)/\RS s' (dp (r.drop k.size)):=by
 rw[Vx];have e1:pre++r=(pre++r.take k.size)++r.drop k.size:=by rw[QL,List.take_append_drop]
 have e2:aB .i64 (pre.length:Int) ((k.size:Nat):Int)=((pre++r.take k.size).length:Int):=by
  have:(pre++r).length=pre.length+r.length:=by simp
  rw[bY (by omega) (by omega),QB,List.length_take,Nat.min_eq_left hk]
  omega
 obtain⟨s',h1,h2,h3⟩:=KR (r.drop k.size) (pre++r.take k.size) k (by rw[<-e1];exact hl)
 rw[<-e1]at h1 h2;refine⟨s',?_,h2,h3⟩;simp only[];rw[e2];exact h1
theorem BG(r:bu):(tok r).length=kB r:=by
 have:=zA r;simp[tok];omega
theorem Rz{s:aK}{r:bu}(h:RS s r):∃s',ew s=some ((),s')/\s'.text=s.text/\RS s' (cW r):=by
 obtain⟨text,token,at_⟩:=s
 obtain⟨h1,pre,h2,h3,h4⟩:=h;simp only at h1 h2 h3;subst h1 h2 h3;obtain⟨s',k1,k2,k3⟩:=KT pre r (bs (tok r)) h4 (by rw[dI,BG];exact zA r)
 rw[dI,BG]at k3;exact⟨s',k1,k2,k3⟩
theorem Ta(l:bu)(hl:l.length<=10000):∃s',ew ⟨bs l,ByteArray.mk #[],0⟩=some ((),s')/\s'.text=bs l/\RS s' (dp l):=KT [] l (ByteArray.mk #[]) hl (QS _)
end
section
open Go.TQ Go.Proofs
theorem qB(r:bu):(cW r).length+kB r<=r.length:=by
 have h1:=BK (r.drop (kB r));have h2:=zA r;rw[List.length_drop]at h1;unfold cW;omega
theorem EM{s:aK}{r:bu}(h:RS s r)(w:bu):∃s',bH s (bs w)=some (decide (tok r=w),s')/\s'.text=s.text/\RS s' (if tok r=w then cW r else r):=by
 unfold bH;rw[h.token]
 by_cases e:tok r=w
 ·rw[Qg (zh.2 e),Qg e,Qr e];obtain⟨s',h1,h2,h3⟩:=Rz h;refine⟨s',?_,h2,h3⟩;rw[Qo,Ql,h1];rfl
 ·rw[Qh (fun h=>e (zh.1 h)),Qh e,Qs e]
  exact⟨s,rfl,rfl,h⟩
def kD:bu->Bool
 |[]=>false
 |b::l=>mY b&&decide ((b::l).length<=4)&& !(decide (1<(b::l).length)&&decide (b=48))
 def eJ(t:bu):Int:=match qa (bs t)with
 |some (n,_,_)=>n
 |none=>0
theorem rG{t:bu}(h:kD t=true):1<=t.length/\t.length<=4:=by
 cases t with
 |nil=>cases h
 |cons b l=>
  simp only[kD,Qm,Qi]at h;exact⟨by simp,h.1.2⟩
theorem JF{t:bu}(h:t.length<=4):∃b,qa (bs t)=some (eJ t,b,())/\ -9223372036854775808<=eJ t/\eJ t<=9223372036854775807:=by
 obtain⟨n,b,h1,h2,h3⟩:=sO (bs t) (by rw[dI];omega)
 unfold eJ;rw[h1];exact⟨b,rfl,h2,h3⟩
theorem Rw{s:aK}{r:bu}(h:RS s r):∃s',fA s=some (((if kD (tok r)then eJ (tok r)else 0),kD (tok r),()),s')/\s'.text=s.text/\RS s' (if kD (tok r)then cW r else r):=by
 unfold fA;rw[h.token]
 have hb:(Option.bind (Option.bind (bif (decide (bs (tok r)=(ByteArray.mk #[])))then some true else Option.bind (dY (bs (tok r)) (0:Int)) fun x1=>Option.bind (cI x1) fun r2=>some (!r2)) fun b3=>
   Option.bind (bif b3 then some true else some (decide ((4:Int)<((ByteArray.size (bs (tok r)):Nat):Int)))) fun b4=>
   Option.bind (bif b4 then some true else Option.bind (bif (decide ((1:Int)<((ByteArray.size (bs (tok r)):Nat):Int)))then Option.bind (dY (bs (tok r)) (0:Int)) fun x5=>some (decide (x5=(48:Int)))else some false) fun b6=>some b6) fun b7=>some b7) fun x=>some x)=some (!kD (tok r)):=by
  cases ht:tok r with
  |nil=>rfl
  |cons b l=>
   have e0:dY (bs (b::l)) (0:Int)=some (b.toNat:Int):=AT (b::l) 0;rw[Qh (show¬(bs (b::l)=ByteArray.mk #[])from fun h=>by have:=zh.1 (h.trans (show ByteArray.mk #[]=bs []from rfl));cases this),Ql,e0,Qa,OE,Qa,Qa,Qa]
   have e1:decide ((4:Int)<(((bs (b::l)).size:Nat):Int))=decide (4<(b::l).length):=decide_eq_decide.2 (by rw[dI];omega)
   have e2:decide ((1:Int)<(((bs (b::l)).size:Nat):Int))=decide (1<(b::l).length):=decide_eq_decide.2 (by rw[dI];omega)
   have e3:decide ((b.toNat:Int)=48)=decide (b=48):=decide_eq_decide.2 ⟨fun h=>UInt8.toNat_inj.1 (by show b.toNat=48;omega),fun h=>by rw[h];rfl⟩
   rw[e1,e2,e3]
   have e4:decide ((b::l).length<=4)= !decide (4<(b::l).length):=by
    by_cases h4:4<(b::l).length
    ·rw[Qg h4,Qh (show¬(b::l).length<=4 by omega)];rfl
    ·rw[Qh h4,Qg (show(b::l).length<=4 by omega)];rfl
   show _=some (!(mY b&&decide ((b::l).length<=4)&& !(decide (1<(b::l).length)&&decide (b=48))));rw[e4];generalize decide (4<(b::l).length)=d1;generalize decide (1<(b::l).length)=d2;generalize decide (b=48)=d3;generalize mY b=d4;cases d1<;>cases d2<;>cases d3<;>cases d4<;>rfl
 have key:∀{β:Type} (f:Bool->Option β),(Option.bind (bif (decide (bs (tok r)=(ByteArray.mk #[])))then some true else Option.bind (dY (bs (tok r)) (0:Int)) fun x1=>Option.bind (cI x1) fun r2=>some (!r2)) fun b3=>
   Option.bind (bif b3 then some true else some (decide ((4:Int)<((ByteArray.size (bs (tok r)):Nat):Int)))) fun b4=>
   Option.bind (bif b4 then some true else Option.bind (bif (decide ((1:Int)<((ByteArray.size (bs (tok r)):Nat):Int)))then Option.bind (dY (bs (tok r)) (0:Int)) fun x5=>some (decide (x5=(48:Int)))else some false) fun b6=>some b6) f)=f (!kD (tok r)):=by
  intro β f;rw[Option.bind_fun_some]at hb;have h2:=congrArg (fun o=>Option.bind o f) hb
  simp only[Option.bind_assoc,Qa]at h2
  try simp only[Option.bind_assoc,Qa]
  exact h2
 rw[key]
 cases ht:kD (tok r)with
 |false=>
  exact⟨s,rfl,rfl,by simpa using h⟩
 |true=>
  obtain⟨b,h1,_,_⟩:=JF (rG ht).2;obtain⟨s',k1,k2,k3⟩:=Rz h;refine⟨s',?_,k2,by simpa using k3⟩
  rw[Qo,Ql];show Option.bind (qa (bs (tok r))) _=_;rw[h1,Qa,k1];rfl
structure PR where
 t:ab
 ok:Bool
 r:bu
 def fX(rec:Int->bu->PR)(th:Int):Nat->List Int->List ab->bu->PR
 |0,ns,is,r=>⟨⟨th,ns,is⟩,false,r⟩
 |g+1,ns,is,r=>if kD (tok r)then
   let item:=fun(ns':List Int) (is':List ab) (r':bu)=>
    if tok r'=[41]then PR.mk ⟨th,ns',is'⟩ true (cW r')else if tok r'=[44]then fX rec th g ns' is' (cW r')else PR.mk ⟨th,ns',is'⟩ false r'
   if tok (cW r)=[111,102]then
    if(rec (eJ (tok r)) (cW r)).ok then item ns (is++[(rec (eJ (tok r)) (cW r)).t]) (rec (eJ (tok r)) (cW r)).r
    else⟨⟨th,ns,is⟩,false,(rec (eJ (tok r)) (cW r)).r⟩
   else item (ns++[eJ (tok r)]) is (cW r)
  else⟨⟨th,ns,is⟩,false,r⟩
 def mU:Nat->Int->bu->PR
 |0,th,r=>⟨⟨th,[],[]⟩,false,r⟩
 |f+1,th,r=>if tok r=[111,102]then
   if tok (cW r)=[40]then fX (mU f) th ((cW (cW r)).length+1) [] [] (cW (cW r))else⟨⟨th,[],[]⟩,false,cW r⟩
  else⟨⟨th,[],[]⟩,false,r⟩
def YU(L:Nat)(rec:aK->(Int×Unit)->Option ((ab×Bool×Unit)×aK))(p:Int->bu->PR):Prop:=
 ∀s r k,RS s r->r.length<L->∃s',rec s (k,())=some (((p k r).t,(p k r).ok,()),s')/\s'.text=s.text/\RS s' (p k r).r/\(p k r).r.length<=r.length
abbrev YZ:=aK×ab×ab×(List ab)×(List Int)×Unit
 def Fe(v5:YZ):Option (YZ⊕((ab×Bool×Unit)×aK)):=
 Option.bind (bH v5.1 (ByteArray.mk #[41])) fun p7=>
 bif p7.1 then Option.map Sum.inr (some (((ab.mk v5.2.2.1.aM v5.2.2.2.2.1 v5.2.2.2.1),true,()),p7.2))
 else Option.bind (bH p7.2 (ByteArray.mk #[44])) fun p8=>
  bif (!p8.1)then Option.map Sum.inr (some (((ab.mk v5.2.2.1.aM v5.2.2.2.2.1 v5.2.2.2.1),false,()),p8.2))
  else some (Sum.inl (p8.2,(ae v5.2.1),(ab.mk v5.2.2.1.aM ([]:List Int) ([]:List ab)),v5.2.2.2.1,v5.2.2.2.2.1,()))
 def oW(rec:aK->(Int×Unit)->Option ((ab×Bool×Unit)×aK))(v3:YZ):Option (YZ⊕((ab×Bool×Unit)×aK)):=
 Option.bind (fA v3.1) fun p4=>
 bif (!p4.1.2.1)then Option.map Sum.inr (some (((ab.mk v3.2.2.1.aM v3.2.2.2.2.1 v3.2.2.2.1),false,()),p4.2))
 else bm Fe fun j6=>
 bif (decide (p4.2.token=(ByteArray.mk #[111,102])))then
  Option.bind (rec p4.2 (p4.1.1,())) fun p9=>
  bif (!p9.1.2.1)then Option.map Sum.inr (some (((ab.mk v3.2.2.1.aM v3.2.2.2.2.1 v3.2.2.2.1),false,()),p9.2))
  else bif aT 56 (List.length v3.2.2.2.1+List.length [(ae p9.1.1)])then
   j6 (p9.2,(ae v3.2.1),(ab.mk v3.2.2.1.aM ([]:List Int) ([]:List ab)),(v3.2.2.2.1++[(ae p9.1.1)]),v3.2.2.2.2.1,())
  else none
 else bif aT 8 (List.length v3.2.2.2.2.1+List.length [p4.1.1])then
  j6 (p4.2,(ae v3.2.1),(ab.mk v3.2.2.1.aM ([]:List Int) ([]:List ab)),v3.2.2.2.1,(v3.2.2.2.2.1++[p4.1.1]),())
 else none
theorem UT(rec:aK->(Int×Unit)->Option ((ab×Bool×Unit)×aK))(s:aK)(a0:Int):kA rec s a0=
  bm (fun(v1:Bool×aK×Unit)=>
   bif v1.1 then some (((ab.mk a0 ([]:List Int) ([]:List ab)),false,()),v1.2.1)
   else aD (oW rec) (v1.2.1,(ab.mk (0:Int) ([]:List Int) ([]:List ab)),(ab.mk a0 ([]:List Int) ([]:List ab)),([]:List ab),([]:List Int),())) fun j2=>
  Option.bind (bH s (ByteArray.mk #[111,102])) fun p10=>
  bif (!p10.1)then j2 (true,p10.2,())
  else Option.bind (bH p10.2 (ByteArray.mk #[40])) fun p11=>j2 ((!p11.1),p11.2,()):=rfl
theorem et(x:ab):ae x=x:=ab.eta x
theorem vP{b n:Nat}(h1:n*b<=140737488355328)(h2:n<=140737488355328):aT b n=true:=by
 unfold aT;rw[Qg h1,Qg (show n<=maxLen by unfold maxLen;omega)]
 rfl
theorem xZ{r:bu}{t:bu}(h:tok r=t)(ht:1<=t.length):(cW r).length<r.length:=by
 have h1:=BG r;have h2:=qB r;rw[h]at h1;omega
theorem RC{L:Nat}{rec:aK->(Int×Unit)->Option ((ab×Bool×Unit)×aK)}{p:Int->bu->PR}(hr:YU L rec p)(th:Int):
  ∀(g:Nat) (ns:List Int) (is:List ab) (r:bu) (s:aK) (x:ab),r.length<g->r.length<=L->RS s r->ns.length+r.length<=10000->is.length+r.length<=10000->
   ∃s',aD (oW rec) (s,x,⟨th,[],[]⟩,is,ns,())=some (((fX p th g ns is r).t,(fX p th g ns is r).ok,()),s')/\s'.text=s.text/\RS s' (fX p th g ns is r).r/\(fX p th g ns is r).r.length<=r.length
 |0,ns,is,r,s,x,hg,_,_,_,_=>by omega
 |g+1,ns,is,r,s,x,hg,hL,hs,hn,hi=>by
  obtain⟨s1,e1,x1,k1⟩:=Rw hs;rw[fX]
  cases ht:kD (tok r)with
  |false=>
   rw[ht]at e1 k1;refine⟨s1,cd ?_,x1,by simpa using k1,by simp⟩
   show oW rec (s,x,⟨th,[],[]⟩,is,ns,())=_;unfold oW;rw[e1];rfl
  |true=>
   rw[ht]at e1 k1;simp only[Qt]at e1 k1;have hl1:=xZ (t:=tok r) rfl (rG ht).1;simp only[Qt]
   have item:∀(ns':List Int) (is':List ab) (r':bu) (s2:aK),r'.length<r.length->RS s2 r'->s2.text=s.text->ns'.length+r'.length<=10000->is'.length+r'.length<=10000->
     oW rec (s,x,⟨th,[],[]⟩,is,ns,())=Fe (s2,x,⟨th,[],[]⟩,is',ns',())->
     ∃s',aD (oW rec) (s,x,⟨th,[],[]⟩,is,ns,())=some (((if tok r'=[41]then PR.mk ⟨th,ns',is'⟩ true (cW r')else if tok r'=[44]then fX p th g ns' is' (cW r')else PR.mk ⟨th,ns',is'⟩ false r').t,(if tok r'=[41]then PR.mk ⟨th,ns',is'⟩ true (cW r')else if tok r'=[44]then fX p th g ns' is' (cW r')else PR.mk ⟨th,ns',is'⟩ false r').ok,()),s')/\s'.text=s.text/\
      RS s' (if tok r'=[41]then PR.mk ⟨th,ns',is'⟩ true (cW r')else if tok r'=[44]then fX p th g ns' is' (cW r')else PR.mk ⟨th,ns',is'⟩ false r').r/\(if tok r'=[41]then PR.mk ⟨th,ns',is'⟩ true (cW r')else if tok r'=[44]then fX p th g ns' is' (cW r')else PR.mk ⟨th,ns',is'⟩ false r').r.length<=r.length:=by
    intro ns' is' r' s2 hlt h2 hx hn' hi' hstep;have hnl:=qB r';obtain⟨s3,e3,x3,k3⟩:=EM h2 [41]
    by_cases h41:tok r'=[41]
    ·rw[Qr h41];rw[Qr h41]at k3;refine⟨s3,cd (hstep.trans ?_),x3.trans hx,k3,by show(cW r').length<=r.length;omega⟩
     unfold Fe;show Option.bind (bH s2 (bs [41])) _=_;rw[e3,Qg h41];rfl
    ·rw[Qs h41];rw[Qs h41]at k3;obtain⟨s4,e4,x4,k4⟩:=EM k3 [44]
     by_cases h44:tok r'=[44]
     ·rw[Qr h44];rw[Qr h44]at k4;have hl4:=xZ h44 (by simp)
      obtain⟨s5,e5,x5,k5,l5⟩:=RC hr th g ns' is' (cW r') s4 x (by omega) (by omega) k4 (by omega) (by omega)
      refine⟨s5,(cm (hstep.trans ?_)).trans e5,x5.trans (x4.trans (x3.trans hx)),k5,by omega⟩
      unfold Fe;show Option.bind (bH s2 (bs [41])) _=_;rw[e3,Qh h41,Qa,Ql];show Option.bind (bH s3 (bs [44])) _=_;rw[e4,Qg h44];rw[Qa];show some (Sum.inl (s4,ae x,ab.mk th ([]:List Int) ([]:List ab),is',ns',()))=_;rw[et]
     ·rw[Qs h44];rw[Qs h44]at k4;refine⟨s4,cd (hstep.trans ?_),x4.trans (x3.trans hx),k4,by show r'.length<=r.length;omega⟩
      unfold Fe;show Option.bind (bH s2 (bs [41])) _=_;rw[e3,Qh h41,Qa,Ql];show Option.bind (bH s3 (bs [44])) _=_;rw[e4,Qh h44];rfl
   by_cases hof:tok (cW r)=[111,102]
   ·rw[Qr hof];obtain⟨s2,e2,x2,k2,l2⟩:=hr s1 (cW r) (eJ (tok r)) k1 (by omega)
    generalize hq:p (eJ (tok r)) (cW r)=q at*
    have hstep:∀(c:Bool),q.ok=c->oW rec (s,x,⟨th,[],[]⟩,is,ns,())=bif c then Fe (s2,x,⟨th,[],[]⟩,is++[q.t],ns,())else some (Sum.inr ((⟨th,ns,is⟩,false,()),s2)):=by
     intro c hc;unfold oW;simp only[];rw[e1];simp only[Qa,Qo,Ql,bz];rw[k1.token,show decide (bs (tok (cW r))=ByteArray.mk #[111,102])=true from Qg (by rw[hof];rfl),Qk,e2,hc]
     cases c
     ·rfl
     ·simp only[Qa,Qo,Ql,Qk];rw[vP (by simp;omega) (by simp;omega)]
      rw[Qk,et,et]
    cases hok:q.ok with
    |true=>
     simp only[Qt];exact item ns (is++[q.t]) q.r s2 (by omega) k2 (x2.trans x1) (by omega) (by simp;omega) (hstep true hok)
    |false=>
     simp only[Qq,Qu];exact⟨s2,cd (hstep false hok),x2.trans x1,k2,by show q.r.length<=r.length;omega⟩
   ·rw[Qs hof];refine item (ns++[eJ (tok r)]) is (cW r) s1 hl1 k1 x1 (by simp;omega) (by omega) ?_
    unfold oW;simp only[];rw[e1];simp only[Qa,Qo,Ql,bz];rw[k1.token,show decide (bs (tok (cW r))=ByteArray.mk #[111,102])=false from Qh (fun h=>hof (zh.1 h)),Ql]
    rw[vP (by simp;omega) (by simp;omega),Qk,et]
end
section
open Go.TQ Go.Proofs
theorem Ri:∀f:Nat,f<=10000->YU f (nO f) (mU f)
 |0,_=>fun s r k hs hl=>by omega
 |f+1,hf=>fun s r k hs hl=>by
  show∃s',kA (nO f) s k=_/\_;rw[UT,bz,mU];obtain⟨s1,e1,x1,k1⟩:=EM hs [111,102]
  by_cases h1:tok r=[111,102]
  ·rw[Qr h1];rw[Qr h1]at k1;have l1:=xZ h1 (by simp)
   obtain⟨s2,e2,x2,k2⟩:=EM k1 [40]
   by_cases h2:tok (cW r)=[40]
   ·rw[Qr h2];rw[Qr h2]at k2;have l2:=xZ h2 (by simp)
    obtain⟨s3,e3,x3,k3,l3⟩:=RC (Ri f (by omega)) k ((cW (cW r)).length+1) [] [] (cW (cW r)) s2 ⟨0,[],[]⟩ (by omega) (by omega) k2 (by simp;omega) (by simp;omega)
    refine⟨s3,?_,x3.trans (x2.trans x1),k3,by omega⟩
    show Option.bind (bH s (bs [111,102])) _=_;rw[e1,Qg h1,Qa];show Option.bind (bH s1 (bs [40])) _=_;rw[e2,Qg h2,Qa];exact e3
   ·rw[Qs h2];rw[Qs h2]at k2;refine⟨s2,?_,x2.trans x1,k2,by show(cW r).length<=r.length;omega⟩
    show Option.bind (bH s (bs [111,102])) _=_;rw[e1,Qg h1,Qa];show Option.bind (bH s1 (bs [40])) _=_;rw[e2,Qh h2,Qa];rfl
  ·rw[Qs h1];rw[Qs h1]at k1;refine⟨s1,?_,x1,k1,QI _⟩;show Option.bind (bH s (bs [111,102])) _=_;rw[e1,Qh h1,Qa];rfl
def im(n:Int):Prop:= -9223372036854775808<=n/\n<=9223372036854775807
inductive dM:ab->Prop where
 |mk (t:ab) (h0:im t.aM) (h1:t.aH.length<=10000) (h2:∀x∈t.aH,im x) (h3:t.aL.length<=10000) (h4:∀u∈t.aL,dM u):dM t
theorem dM.of{th:Int}{ns:List Int}{is:List ab}(h0:im th)(h1:ns.length<=10000)(h2:∀x∈ns,im x)(h3:is.length<=10000)(h4:∀u∈is,dM u):dM ⟨th,ns,is⟩:= .mk ⟨th,ns,is⟩ h0 h1 h2 h3 h4
theorem dM.nil{th:Int}(h0:im th):dM ⟨th,[],[]⟩:= .of h0 (QS _) (fun x hx=>by cases hx) (QS _) (fun x hx=>by cases hx)
theorem dM.sm:∀{t:ab},dM t->de t
 |t,.mk _ _ h1 _ h3 h4=> .mk t (by omega) (by omega) fun u hu=>(h4 u hu).sm
def YV(p:Int->bu->PR):Prop:=∀k r,im k->r.length<=10000->dM (p k r).t/\(p k r).r.length<=r.length
theorem Ny{p:Int->bu->PR}(hp:YV p)(th:Int)(hth:im th):∀(g:Nat) (ns:List Int) (is:List ab) (r:bu),ns.length+r.length<=10000->is.length+r.length<=10000->(∀x∈ns,im x)->(∀u∈is,dM u)->
  dM (fX p th g ns is r).t/\(fX p th g ns is r).r.length<=r.length
 |0,ns,is,r,h1,h2,h3,h4=>⟨dM.of hth (by omega) h3 (by omega) h4,QI _⟩
 |g+1,ns,is,r,h1,h2,h3,h4=>by
  have item:∀(ns':List Int) (is':List ab) (r':bu),r'.length<=r.length->ns'.length+r'.length<=10000->is'.length+r'.length<=10000->(∀x∈ns',im x)->(∀u∈is',dM u)->
    dM (if tok r'=[41]then PR.mk ⟨th,ns',is'⟩ true (cW r')else if tok r'=[44]then fX p th g ns' is' (cW r')else PR.mk ⟨th,ns',is'⟩ false r').t/\
     (if tok r'=[41]then PR.mk ⟨th,ns',is'⟩ true (cW r')else if tok r'=[44]then fX p th g ns' is' (cW r')else PR.mk ⟨th,ns',is'⟩ false r').r.length<=r.length:=by
   intro ns' is' r' hl k1 k2 k3 k4;have hn:=qB r';have hB:dM ⟨th,ns',is'⟩:= .of hth (by omega) k3 (by omega) k4
   split
   ·exact⟨hB,by show(cW r').length<=r.length;omega⟩
   ·split
    ·have:=Ny hp th hth g ns' is' (cW r') (by omega) (by omega) k3 k4
     exact⟨this.1,by omega⟩
    ·exact⟨hB,hl⟩
  have hB:dM ⟨th,ns,is⟩:= .of hth (by omega) h3 (by omega) h4
  rw[fX]
  cases ht:kD (tok r)with
  |false=>exact⟨hB,QI _⟩
  |true=>
   simp only[Qt];have hl1:=xZ (t:=tok r) rfl (rG ht).1;obtain⟨b,_,v1,v2⟩:=JF (rG ht).2;split
   ·have hq:=hp (eJ (tok r)) (cW r) ⟨v1,v2⟩ (by omega)
    split
    ·exact item ns (is++[(p (eJ (tok r)) (cW r)).t]) (p (eJ (tok r)) (cW r)).r (by omega) (by omega) (by simp;omega) h3 fun u hu=>by
      rcases Qz.1 hu with hu|hu
      ·exact h4 u hu
      ·obtain rfl:=Q4.1 hu;exact hq.1
    ·exact⟨hB,by show(p (eJ (tok r)) (cW r)).r.length<=r.length;omega⟩
   ·exact item (ns++[eJ (tok r)]) is (cW r) (by omega) (by simp;omega) (by omega) (fun x hx=>by
     rcases Qz.1 hx with hx|hx
     ·exact h3 x hx
     ·obtain rfl:=Q4.1 hx
      exact⟨v1,v2⟩) h4
theorem MS:∀f:Nat,YV (mU f)
 |0=>fun k r hk _=>⟨dM.nil hk,QI _⟩
 |f+1=>fun k r hk hr=>by
  have h1:=qB r;have h2:=qB (cW r);have hB:dM ⟨k,[],[]⟩:= .nil hk;rw[mU];split
  ·split
   ·have:=Ny (MS f) k hk ((cW (cW r)).length+1) [] [] (cW (cW r)) (by simp;omega) (by simp;omega) (by simp) (by simp)
    exact⟨this.1,by omega⟩
   ·exact⟨hB,by show(cW r).length<=r.length;omega⟩
  ·exact⟨hB,QI _⟩
def T0:ab:=⟨0,[],[]⟩
 def e8(l:bu):PR:=if kD (tok (dp l))then mU (l.length+2) (eJ (tok (dp l))) (cW (dp l))else⟨T0,false,dp l⟩
 def mW(l:bu):ab×Int:=if 6000<l.length then(T0,3)else
 if(e8 l).ok=true/\(e8 l).r=[]then(if mH (e8 l).t=0 then((e8 l).t,0)else(T0,mH (e8 l).t))else(T0,2)
theorem Ot(l:bu)(hl:l.length<=6000):dM (e8 l).t:=by
 unfold e8;have h1:=BK l;have h2:=qB (dp l)
 cases ht:kD (tok (dp l))with
 |false=>exact dM.nil ⟨by omega,by omega⟩
 |true=>
  obtain⟨b,_,v⟩:=JF (rG ht).2;exact(MS _ _ _ v (by omega)).1
theorem RS.adU{s:aK}{r l:bu}(h:RS s r)(ht:s.text=bs l):decide (s.at_<(((bs l).size:Nat):Int))=decide (r≠[]):=by
 obtain⟨_,pre,h2,h3,_⟩:=h;have e:pre++r=l:=zh.1 (h2.symm.trans ht);rw[h3,<-e,dI,QB];refine decide_eq_decide.2 ?_
 cases r with
 |nil=>simp
 |cons b r=>simp;omega
theorem Xl(l:bu):∃at_,pd (bs l)=some ((mW l).1,at_,(mW l).2,()):=by
 unfold pd mW
 by_cases hl:6000<l.length
 ·rw[Qr hl,Qg (show(6000:Int)<(((bs l).size:Nat):Int)by rw[dI];omega)]
  exact⟨_,rfl⟩
 ·rw[Qs hl,Qh (show¬(6000:Int)<(((bs l).size:Nat):Int)by rw[dI];omega),Ql]
  obtain⟨s1,e1,x1,k1⟩:=Ta l (by omega)
  rw[e1,Qa];obtain⟨s2,e2,x2,k2⟩:=Rw k1;simp only[];rw[e2,Qa,bz];have hbd:=Ot l (by omega)
  have fin:∀(s:aK) (x:ab),x=(e8 l).t->s.text=bs l->RS s (e8 l).r->∃at_,(Option.bind (bif (!(e8 l).ok)then some true else some (decide (s.at_<((ByteArray.size (bs l):Nat):Int)))) fun b5=>
    bif b5 then some (T0,s.at_,(2:Int),())else
    Option.bind (dr (ae x)) fun r6=>bif (!decide (r6=(0:Int)))then some (T0,(0:Int),r6,())else some ((ae x),(0:Int),(0:Int),()))=
    some ((if(e8 l).ok=true/\(e8 l).r=[]then(if mH (e8 l).t=0 then((e8 l).t,(0:Int))else(T0,mH (e8 l).t))else(T0,(2:Int))).1,at_,(if(e8 l).ok=true/\(e8 l).r=[]then(if mH (e8 l).t=0 then((e8 l).t,(0:Int))else(T0,mH (e8 l).t))else(T0,(2:Int))).2,()):=by
   intro s x hx ht hr;subst hx;rw[hr.adU ht,et,Jo hbd.sm]
   cases hok:(e8 l).ok with
   |false=>
    rw[Qs (by simp)]
    exact⟨_,rfl⟩
   |true=>
    cases hq:(e8 l).r with
    |cons b r=>
     rw[Qs (by simp)]
     exact⟨_,rfl⟩
    |nil=>
     rw[Qr ⟨rfl,rfl⟩]
     by_cases h0:mH (e8 l).t=0
     ·rw[Qr h0,h0];exact⟨_,rfl⟩
     ·rw[Qs h0];refine⟨0,?_⟩;simp only[Qo,Ql,ne_eq,not_true,decide_false,Qa];rw[Qh h0];rfl
  cases ht:kD (tok (dp l))with
  |false=>
   rw[ht]at k2;have hf:e8 l=⟨T0,false,dp l⟩:=by unfold e8;rw[ht];rfl
   rw[hf]at fin;simp only[Qq,Qu]at k2;rw[hf];exact fin s2 T0 rfl (x2.trans x1) k2
  |true=>
   rw[ht]at k2;simp only[Qt]at k2;have hf:e8 l=mU (l.length+2) (eJ (tok (dp l))) (cW (dp l)):=by unfold e8;rw[ht];rfl
   have h1:=BK l;have h2:=qB (dp l);obtain⟨s3,e3,x3,k3,l3⟩:=Ri (l.length+2) (by omega) s2 (cW (dp l)) (eJ (tok (dp l))) k2 (by omega)
   rw[<-hf]at e3 k3;simp only[Qk,Qt]
   have e4:ky s2 (eJ (tok (dp l)))=some (((e8 l).t,(e8 l).ok,()),s3):=by
    unfold ky;rw[x2,x1,dI];exact e3
   rw[e4,Qa];simp only[et];have:=fin s3 (e8 l).t rfl (x3.trans (x2.trans x1)) k3;simp only[et]at this;exact this
end
section
open Go.TQ Go.Proofs
mutual
def wT:ab->Nat
 |⟨_,ns,is⟩=>1+ns.length+wL is
def wL:List ab->Nat
 |[]=>0
 |t::l=>wT t+wL l
end
theorem Un:∀(a b:List ab),wL (a++b)=wL a+wL b
 |[],b=>by simp[wL]
 |t::a,b=>by simp[wL,Un a b,Nat.add_assoc]
def acK(p:Int->bu->PR):Prop:=∀k r,wT (p k r).t+(p k r).r.length<=r.length+1
theorem RD{p:Int->bu->PR}(hp:acK p)(th:Int):∀(g:Nat) (ns:List Int) (is:List ab) (r:bu),
  wT (fX p th g ns is r).t+(fX p th g ns is r).r.length<=1+ns.length+wL is+r.length
 |0,ns,is,r=>QI _
 |g+1,ns,is,r=>by
  have item:∀(ns':List Int) (is':List ab) (r':bu),ns'.length+wL is'+r'.length<=ns.length+wL is+r.length->
    wT (if tok r'=[41]then PR.mk ⟨th,ns',is'⟩ true (cW r')else if tok r'=[44]then fX p th g ns' is' (cW r')else PR.mk ⟨th,ns',is'⟩ false r').t+
     (if tok r'=[41]then PR.mk ⟨th,ns',is'⟩ true (cW r')else if tok r'=[44]then fX p th g ns' is' (cW r')else PR.mk ⟨th,ns',is'⟩ false r').r.length<=1+ns.length+wL is+r.length:=by
   intro ns' is' r' hl;have hn:=qB r';split
   ·show 1+ns'.length+wL is'+(cW r').length<=_;omega
   ·split
    ·have:=RD hp th g ns' is' (cW r');omega
    ·show 1+ns'.length+wL is'+r'.length<=_;omega
  rw[fX]
  cases ht:kD (tok r)with
  |false=>exact QI _
  |true=>
   simp only[Qt];have hl1:=xZ (t:=tok r) rfl (rG ht).1;split
   ·have hq:=hp (eJ (tok r)) (cW r);split
    ·exact item ns (is++[(p (eJ (tok r)) (cW r)).t]) (p (eJ (tok r)) (cW r)).r (by rw[Un];simp only[wL];omega)
    ·show 1+ns.length+wL is+(p (eJ (tok r)) (cW r)).r.length<=_;have:1<=wT (p (eJ (tok r)) (cW r)).t:=by cases (p (eJ (tok r)) (cW r)).t;simp only[wT];omega
     omega
   ·exact item (ns++[eJ (tok r)]) is (cW r) (by simp;omega)
theorem Rj:∀f:Nat,acK (mU f)
 |0=>fun k r=>by show 1+0+0+r.length<=r.length+1;omega
 |f+1=>fun k r=>by
  have h1:=qB r;have h2:=qB (cW r);rw[mU];split
  ·split
   ·have:=RD (Rj f) k ((cW (cW r)).length+1) [] [] (cW (cW r));simp only[wL,QY]at this;omega
   ·show 1+0+0+(cW r).length<=_;omega
  ·show 1+0+0+r.length<=_;omega
theorem aag(l:bu):wT (e8 l).t<=l.length+1:=by
 unfold e8;have h1:=BK l;have h2:=qB (dp l);split
 ·have:=Rj (l.length+2) (eJ (tok (dp l))) (cW (dp l));omega
 ·show 1+0+0<=_;omega
mutual
def fg:ab->bu
 |⟨th,ns,is⟩=>Lib.itoa th++[32,111,102,32,40]++Lib.join (ns.map Lib.itoa++gI is) [44,32]++[41]
def gI:List ab->List bu
 |[]=>[]
 |t::l=>fg t::gI l
end
theorem By:∀l:List ab,gI l=l.map fg
 |[]=>rfl
 |t::l=>by rw[gI,By l];rfl
theorem Xy(a b:List bu):Lib.lens (a++b)=Lib.lens a+Lib.lens b:=by simp[Lib.lens]
theorem join_le(sep:bu)(l:List bu):(Lib.join l sep).length<=sep.length*l.length+Lib.lens l:=by
 cases l with
 |nil=>exact QS _
 |cons x r=>
  rw[Lib.join_length,QE,Nat.mul_succ];omega
theorem DS:∀(ns:List Int),(∀x∈ns,im x)->Lib.lens (ns.map Lib.itoa)<=21*ns.length
 |[],_=>QS _
 |x::ns,h=>by
  have h1:=DS ns fun y hy=>h y (by simp[hy])
  have h2:=Lib.itoa_length_le x (h x (by simp)).1 (h x (by simp)).2
  simp only[Lib.lens,QD,List.sum_cons,QE]at h1 ⊢;omega
mutual
theorem wY:∀t:ab,dM t->(fg t).length+2<=40*wT t
 |⟨th,ns,is⟩,h=>by
  have h0:im th/\(∀x∈ns,im x)/\∀u∈is,dM u:=by cases h with|mk _ h0 _ h2 _ h4=>exact⟨h0,h2,h4⟩
  have h1:=Lib.itoa_length_le th h0.1.1 h0.1.2;have h2:=DS ns h0.2.1;have h3:=Ko is h0.2.2;have h4:=join_le [44,32] (ns.map Lib.itoa++gI is);rw[Xy,QB,QC]at h4;simp only[fg,wT,QB,QE,QY]at h4 ⊢;omega
theorem Ko:∀l:List ab,(∀u∈l,dM u)->Lib.lens (gI l)+2*(gI l).length<=40*wL l
 |[],_=>QS _
 |t::l,h=>by
  have h1:=wY t (h t (by simp))
  have h2:=Ko l fun u hu=>h u (by simp[hu])
  have h3:1<=wT t:=by cases t;simp only[wT];omega
  simp only[gI,wL,Lib.lens,QD,List.sum_cons,QE]at h2 ⊢;omega
end
theorem G4(l:List bu)(sep:bu)(h1:l.length<=1000000)(h2:(Lib.join l sep).length<=100000000000000):zS (l.map bs) (bs sep)=some (bs (Lib.join l sep)):=by
 have e:Go.TQ.ff (l.map bs) (bs sep)=Lib.join l sep:=by
  unfold Go.TQ.ff;rw[List.map_map,show((fun x:ByteArray=>x.data.toList)∘bs)=id from rfl,List.map_id]
  rfl
 unfold zS;rw[e,Qr ⟨by rw[QC];omega,by omega⟩]
 rfl
theorem MC:∀(l:List ab),l.length<=wL l
 |[]=>QI _
 |t::l=>by
  have h1:1<=wT t:=by cases t;simp only[wT];omega
  have:=MC l;simp only[wL,QE];omega
theorem MB:∀{l:List ab} {u:ab},u∈l->wT u<=wL l
 |t::l,u,h=>by
  simp only[wL];rcases QA.1 h with rfl|h
  ·omega
  ·have:=MB h;omega
theorem B9{n:Int}(h:im n):zU n=some (bs (Lib.itoa n)):=by
 unfold zU;rw[Qr (show -9223372036854775808<=n/\n<=9223372036854775807 from h)]
 rfl
theorem Lr{α ρ:Type}(f:α->Option ByteArray)(fv:α->bu)(fin:List ByteArray->Option ρ):∀(l:List α) (acc:List bu),(∀x∈l,f x=some (bs (fv x)))->acc.length+l.length<=1000000->
  dQ (fun x s=>Option.bind (f x) fun r=>bif aT 16 (List.length s+List.length [r])then some (Sum.inl (s++[r]))else none) fin l (acc.map bs)=fin ((acc++l.map fv).map bs)
 |[],acc,_,_=>by simp[dQ]
 |x::l,acc,hf,hl=>by
  rw[dQ,hf x (by simp),Qa,vP (by simp at hl ⊢;omega) (by simp at hl ⊢;omega),Qk]
  have:=Lr f fv fin l (acc++[fv x]) (fun y hy=>hf y (by simp[hy])) (by simp at hl ⊢;omega)
  rw[List.map_append]at this;simp only[]at this ⊢;refine this.trans ?_;simp
theorem Kc{α ρ:Type}(l:List α)(f:α->Option ByteArray)(fv:α->bu)(hf:∀x∈l,f x=some (bs (fv x)))(fin:List ByteArray->Option ρ)(acc:List bu)(hl:acc.length+l.length<=1000000):
  aD (fun(v:Int×(List ByteArray)×Unit)=>
   bif (decide (v.1<((List.length l:Nat):Int)))then
    Option.bind (idx l v.1) fun x=>Option.bind (f x) fun r=>
    bif aT 16 (List.length v.2.1+List.length [r])then some (Sum.inl ((aB .i64 v.1 (1:Int)),(v.2.1++[r]),()))else none
   else Option.map Sum.inr (fin v.2.1)) ((0:Int),acc.map bs,())=fin ((acc++l.map fv).map bs):=by
 refine(gf l (by omega) (fun i (s:List ByteArray)=>(i,s,())) (fun x s=>Option.bind (f x) fun r=>bif aT 16 (List.length s+List.length [r])then some (Sum.inl (s++[r]))else none) fin ?_ ?_ (acc.map bs)).trans ?_
 ·intro i x s h1 h2 h3;simp only[];rw[h1,Qk,h2,Qa]
  cases f x with
  |none=>rfl
  |some r=>
   simp only[Qa];cases aT 16 (List.length s+List.length [r])
   ·rfl
   ·simp only[Qk];rw[h3]
 ·intro s h1;simp only[];rw[h1,Ql]
 ·exact Lr f fv fin l acc hf hl
theorem aa0{rec:(ab×Unit)->Option ByteArray}{t:ab}(hb:dM t)(hw:wT t<=100000)(hr:∀u∈t.aL,rec (u,())=some (bs (fg u))):ph rec t=some (bs (fg t)):=by
 obtain⟨th,ns,is⟩:=t;have h0:im th/\(∀x∈ns,im x)/\∀u∈is,dM u:=by cases hb with|mk _ h0 _ h2 _ h4=>exact⟨h0,h2,h4⟩
 have hwl:=wY _ hb;simp only[wT]at hw hwl;have hil:=MC is;have hlen:(fg ⟨th,ns,is⟩).length<=4000000:=by omega
 have hjoin:(Lib.join (ns.map Lib.itoa++gI is) [44,32]).length<=4000000:=by
  simp only[fg,QB]at hlen;omega
 have hith:=Lib.itoa_length_le th h0.1.1 h0.1.2
 have fin:(Option.bind (eW th) fun r7=>Option.bind (cy r7 (ByteArray.mk #[32,111,102,32,40])) fun x8=>Option.bind (gk ((ns.map Lib.itoa++gI is).map bs) (ByteArray.mk #[44,32])) fun r9=>
   Option.bind (cy x8 r9) fun x10=>Option.bind (cy x10 (ByteArray.mk #[41])) fun x11=>some x11)=some (bs (fg ⟨th,ns,is⟩)):=by
  show Option.bind (zU th) _=_;rw[B9 h0.1,Qa];show Option.bind (cy (bs (Lib.itoa th)) (bs [32,111,102,32,40])) _=_;rw[AU _ _ (by simp;omega),Qa]
  show Option.bind (zS ((ns.map Lib.itoa++gI is).map bs) (bs [44,32])) _=_;rw[G4 _ _ (by rw[QB,QC,By,QC];omega) (by omega),Qa]
  rw[AU _ _ (by simp only[QB,QE,QY];omega),Qa]
  show Option.bind (cy (bs _) (bs [41])) _=_;rw[AU _ _ (by simp only[QB,QE,QY];omega)]
  rfl
 have hlen2:ns.length+is.length<=200000:=by omega
 have inner:=Kc is (fun x=>rec ((ae x),())) fg (fun u hu=>by rw[et];exact hr u hu)
  (fun words=>Option.bind (eW th) fun r7=>Option.bind (cy r7 (ByteArray.mk #[32,111,102,32,40])) fun x8=>Option.bind (gk words (ByteArray.mk #[44,32])) fun r9=>
   Option.bind (cy x8 r9) fun x10=>Option.bind (cy x10 (ByteArray.mk #[41])) fun x11=>some x11) (ns.map Lib.itoa) (by rw[QC];omega)
 rw[<-By]at inner
 have outer:=Kc ns (fun x=>eW x) Lib.itoa (fun x hx=>B9 (h0.2.1 x hx))
  (fun words=>aD (fun(v4:Int×(List ByteArray)×Unit)=>
   bif (decide (v4.1<((List.length is:Nat):Int)))then
    Option.bind (idx is v4.1) fun x5=>Option.bind (rec ((ae x5),())) fun r6=>
    bif aT 16 (List.length v4.2.1+List.length [r6])then some (Sum.inl ((aB .i64 v4.1 (1:Int)),(v4.2.1++[r6]),()))else none
   else Option.map Sum.inr (Option.bind (eW th) fun r7=>Option.bind (cy r7 (ByteArray.mk #[32,111,102,32,40])) fun x8=>Option.bind (gk v4.2.1 (ByteArray.mk #[44,32])) fun r9=>
    Option.bind (cy x8 r9) fun x10=>Option.bind (cy x10 (ByteArray.mk #[41])) fun x11=>some x11)) ((0:Int),words,())) [] (by simp;omega)
 rw[List.nil_append]at outer;exact outer.trans (inner.trans fin)
theorem aaW{n:Nat}:∀{t:ab},SizeOf.sizeOf t<n->dM t->wT t<=100000->tH n (t,())=some (bs (fg t)):=by
 induction n with
 |zero=>intro t h;omega
 |succ n ih=>
  intro t h hb hw;show ph (tH n) t=_;refine aa0 hb hw fun u hu=>ih (by have:=jt hu;omega) ?_ ?_
  ·cases hb with|mk _ _ _ _ _ h4=>exact h4 u hu
  ·obtain⟨th,ns,is⟩:=t;have:=MB hu;simp only[wT]at hw this;omega
theorem Ww{t:ab}(hb:dM t)(hw:wT t<=100000):tL t=some (bs (fg t)):=aaW (by omega) hb hw
 def rA(t:ab):bu:=if mH t=0 then fg t else[63]
theorem Y8{t:ab}(hb:dM t)(hw:wT t<=100000):qm t=some (bs (rA t)):=by
 unfold qm rA;rw[et,Jo hb.sm,Qa]
 by_cases h:mH t=0
 ·rw[Qg h,Qr h,Qo,Ql,Ww hb hw];rfl
 ·rw[Qh h,Qs h];rfl
theorem qt{t:ab}(hb:dM t)(hw:wT t<=100000):(rA t).length<=4000000:=by
 unfold rA;have:=wY t hb;split
 ·omega
 ·simp
end
section
open Go.TQ Go.Proofs
def Jg(r:bu):Prop:=∀b l,r=b::l->mY b=false
theorem DH{n:Nat}(h:n<1024):∃b l,df n=b::l/\mY b=true:=by
 have:=yD h
 cases hn:df n with
 |nil=>have:=this.len.1;rw[hn]at this;simp at this
 |cons b l=>exact⟨b,l,rfl,this.yZ b (by rw[hn];simp)⟩
theorem XR{n:Nat}(h:n<1024){r:bu}(hr:Jg r):yY (df n++r)=(df n).length:=by
 have hd:=(yD h).yZ;unfold yY;rw[List.takeWhile_append_of_pos hd]
 cases r with
 |nil=>simp
 |cons b l=>simp[List.takeWhile_cons,hr b l rfl]
theorem AQ{n:Nat}(h:n<1024){r:bu}(hr:Jg r):tok (df n++r)=df n/\cW (df n++r)=dp r:=by
 obtain⟨b,l,hbl,hb⟩:=DH h;have hb1:48<=b.toNat/\b.toNat<=57:=by simpa[mY]using hb
 have hlen:kB (df n++r)=(df n).length:=by
  unfold kB;rw[Qs,XR h hr]
  ·rw[hbl];show(if b=40\/b=41\/b=44 then 1 else _)=_
   rw[Qs];rintro(rfl|rfl|rfl)<;>simp at hb1
  ·rw[hbl];rintro⟨t,ht⟩;injection ht with h1 _
   rw[<-h1]at hb1;simp at hb1
 unfold tok cW;rw[hlen];simp
theorem UG(r:bu):tok (111::102::r)=[111,102]/\cW (111::102::r)=dp r:=by
 have hlen:kB (111::102::r)=2:=by
  unfold kB;rw[Qr ⟨r,rfl⟩]
 unfold tok cW;rw[hlen];exact⟨rfl,rfl⟩
theorem ya{b:UInt8}(hb:b=40\/b=41\/b=44)(r:bu):tok (b::r)=[b]/\cW (b::r)=dp r:=by
 have hlen:kB (b::r)=1:=by
  unfold kB;rw[Qs]
  ·show(if b=40\/b=41\/b=44 then 1 else _)=_
   rw[Qr hb]
  ·rintro⟨t,ht⟩;injection ht with h1 _
   rw[<-h1]at hb;simp at hb
 unfold tok cW;rw[hlen];exact⟨rfl,rfl⟩
theorem ti{n:Nat}(h:n<1024)(r:bu):dp (df n++r)=df n++r:=by
 obtain⟨b,l,hbl,hb⟩:=DH h;rw[hbl];unfold dp;rw[List.cons_append,List.dropWhile_cons,Qs];intro e;simp only[isSp,Qi]at e;subst e;simp[mY]at hb
theorem iU{n:Nat}(h:n<1024):kD (df n)=true/\eJ (df n)=(n:Int):=by
 have hk:=yD h;obtain⟨b,l,hbl,hb⟩:=DH h;refine⟨?_,by unfold eJ;rw[Ez h]⟩
 have h1:=hk.len.2;have h2:=hk.head;rw[hbl]at h1 h2 ⊢;simp only[kD,hb,Bool.true_and,Qm,Qi,Bool.not_eq_true',Bool.and_eq_false_iff,Qj];refine⟨h1,?_⟩;rcases h2 with h2|h2
 ·exact .inl (by omega)
 ·exact .inr fun e=>h2 (by rw[e];rfl)
def er:List Nat->bu->bu
 |[],e=>e
 |n::ms,e=>df n++(match ms with
  |[]=>e
  |_::_=>44::32::er ms e)
theorem Xp(l:bu):Jg (41::l):=fun b r h=>by injection h with h1 _;rw[<-h1];rfl
theorem Nj(l:bu):Jg (44::l):=fun b r h=>by injection h with h1 _;rw[<-h1];rfl
theorem Nk(l:bu):Jg (32::l):=fun b r h=>by injection h with h1 _;rw[<-h1];rfl
theorem DN(p:Int->bu->PR)(th:Int):∀(ms:List Nat) (g:Nat) (ns:List Int) (is:List ab) (e:bu),ms≠[]->(∀n∈ms,n<1024)->ms.length<=g->
  fX p th g ns is (er ms (41::e))=⟨⟨th,ns++ms.map Int.ofNat,is⟩,true,dp e⟩
 |[n],g+1,ns,is,e,_,hm,_=>by
  have hn:=hm n (by simp)
  have ht:=AQ hn (Xp e);have h41:=ya (b:=41) (by simp) e
  have hs:dp (41::e)=41::e:=rfl;rw[hs]at ht;show fX p th (g+1) ns is (df n++41::e)=_;rw[fX,ht.1,(iU hn).1,ht.2,(iU hn).2];simp only[Qt];rw[h41.1,Qs (by simp),Qr rfl,h41.2]
  rfl
 |n::m::ms,g+1,ns,is,e,_,hm,hg=>by
  have hn:=hm n (by simp)
  have hmm:=hm m (by simp)
  have hit:er (n::m::ms) (41::e)=df n++44::32::er (m::ms) (41::e):=rfl;have ht:=AQ hn (Nj (32::er (m::ms) (41::e)));have h44:=ya (b:=44) (by simp) (32::er (m::ms) (41::e))
  have hs:dp (44::32::er (m::ms) (41::e))=44::32::er (m::ms) (41::e):=rfl
  have hs2:dp (32::er (m::ms) (41::e))=er (m::ms) (41::e):=by
   show dp (er (m::ms) (41::e))=_;exact ti hmm _
  rw[hs]at ht;rw[hs2]at h44;rw[hit,fX,ht.1,(iU hn).1,ht.2,(iU hn).2];simp only[Qt];rw[h44.1,Qs (by simp),Qs (by simp),Qr rfl,h44.2,DN p th (m::ms) g (ns++[(n:Int)]) is e (by simp) (fun k hk=>hm k (by simp[hk])) (by simp at hg ⊢;omega)]
  simp
theorem Ie(f:Nat)(th:Int)(x:Nat)(hx:x<1024):∀(ms:List Nat) (g:Nat) (ns:List Int) (e:bu),(∀n∈ms,n<1024)->ms.length+1<=g->
  fX (mU (f+1)) th g ns [] (er (ms++[1]) ([32,111,102,32,40]++df x++41::41::e))=⟨⟨th,ns++ms.map Int.ofNat,[⟨1,[(x:Int)],[]⟩]⟩,true,dp e⟩
 |[],g+1,ns,e,_,_=>by
  have hn:1<1024:=by omega
  have ht:=AQ hn (Nk (111::102::32::40::(df x++41::41::e)));have hs:dp (32::111::102::32::40::(df x++41::41::e))=111::102::32::40::(df x++41::41::e):=rfl;rw[hs]at ht;have hof:=UG (32::40::(df x++41::41::e));have hs2:dp (32::40::(df x++41::41::e))=40::(df x++41::41::e):=rfl;rw[hs2]at hof;have h40:=ya (b:=40) (by simp) (df x++41::41::e)
  rw[ti hx]at h40;have h41:=ya (b:=41) (by simp) e
  have hrec:mU (f+1) 1 (111::102::32::40::(df x++41::41::e))=⟨⟨1,[(x:Int)],[]⟩,true,41::e⟩:=by
   rw[mU,hof.1,Qr rfl,hof.2,h40.1,Qr rfl,h40.2];exact DN (mU f) 1 [x] _ [] [] (41::e) (by simp) (by simpa using hx) (by simp)
  show fX (mU (f+1)) th (g+1) ns [] (df 1++32::111::102::32::40::(df x++41::41::e))=_;rw[fX,ht.1,(iU hn).1,ht.2,(iU hn).2];simp only[Qt];rw[hof.1,Qr rfl,show((1:Nat):Int)=1 from rfl,hrec]
  simp only[Qt];rw[h41.1,Qr rfl,h41.2];simp
 |n::ms,g+1,ns,e,hm,hg=>by
  have hn:=hm n (by simp)
  obtain⟨m',ms',hms⟩:∃m' ms',ms++[1]=m'::ms':=by
   cases ms with
   |nil=>exact⟨_,_,rfl⟩
   |cons a b=>exact⟨_,_,rfl⟩
  have hm':m'<1024:=by
   cases ms with
   |nil=>injection hms with h1 _;omega
   |cons a b=>injection hms with h1 _;rw[<-h1];exact hm a (by simp)
  generalize hE:[32,111,102,32,40]++df x++41::41::e=E
  have hit:er ((n::ms)++[1]) E=df n++44::32::er (ms++[1]) E:=by
   rw[List.cons_append,hms];rfl
  have ht:=AQ hn (Nj (32::er (ms++[1]) E));have h44:=ya (b:=44) (by simp) (32::er (ms++[1]) E)
  have hs:dp (44::32::er (ms++[1]) E)=44::32::er (ms++[1]) E:=rfl
  have hs2:dp (32::er (ms++[1]) E)=er (ms++[1]) E:=by
   show dp (er (ms++[1]) E)=_;rw[hms];exact ti hm' _
  rw[hs]at ht;rw[hs2]at h44;rw[hit,fX,ht.1,(iU hn).1,ht.2,(iU hn).2];simp only[Qt];rw[h44.1,Qs (by simp),Qs (by simp),Qr rfl,h44.2,<-hE,Ie f th x hx ms g (ns++[(n:Int)]) e (fun k hk=>hm k (by simp[hk])) (by simp at hg ⊢;omega)]
  simp
theorem vV(x y:bu)(r:List bu)(sep:bu):Lib.join (x::y::r) sep=x++sep++Lib.join (y::r) sep:=by
 rw[Lib.join_cons,Lib.join_cons,Lib.joinTail];simp[Lib.joinTail]
theorem B8:∀(ms:List Nat) (n:Nat) (tl e:bu),Lib.join (ms.map df++[df n++tl]) [44,32]++e=er (ms++[n]) (tl++e)
 |[],n,tl,e=>by
  show Lib.join [df n++tl] [44,32]++e=df n++(tl++e);rw[Lib.join_one,QL]
 |m::ms,n,tl,e=>by
  obtain⟨y,r,hr⟩:∃y r,ms.map df++[df n++tl]=y::r:=by
   cases ms with
   |nil=>exact⟨_,_,rfl⟩
   |cons a b=>exact⟨_,_,rfl⟩
  obtain⟨m',ms',hms⟩:∃m' ms',ms++[n]=m'::ms':=by
   cases ms with
   |nil=>exact⟨_,_,rfl⟩
   |cons a b=>exact⟨_,_,rfl⟩
  have ih:=B8 ms n tl e;rw[QD,List.cons_append,hr,vV,<-hr,QL,QL,ih,List.cons_append (a:=m),hms];rfl
theorem A8{x:Int}(h:0<=x):((x.toNat:Nat):Int)=x:=by omega
theorem nJ{x:Int}(h0:0<=x)(h1:x<1024):Lib.itoa x=df x.toNat:=by
 have h:=K4 (u:=x.toNat) (by omega)
 rw[A8 h0]at h;exact h
theorem JI:∀{l:List Int},(∀x∈l,0<=x)->(l.map Int.toNat).map Int.ofNat=l
 |[],_=>rfl
 |x::l,h=>by
  have:=JI (l:=l) fun y hy=>h y (by simp[hy])
  simp only[QD,this];congr 1;exact A8 (h x (by simp))
theorem Nw:∀{l:List Int},(∀x∈l,0<=x/\x<1024)->l.map Lib.itoa=(l.map Int.toNat).map df
 |[],_=>rfl
 |x::l,h=>by
  have:=Nw (l:=l) fun y hy=>h y (by simp[hy])
  simp only[QD,this];congr 1;exact nJ (h x (by simp)).1 (h x (by simp)).2
theorem MP:dp []=[]:=rfl
theorem VU{t:ab}(h:cG t):e8 (fg t)=⟨t,true,[]⟩:=by
 obtain⟨th,ns,is⟩:=t;obtain⟨h1,h2,h3,h4,h5⟩:=h;simp only at h1 h2 h3 h4 h5;have hil:is.length<=1:=by rcases h4 with e|⟨x,_,_,e⟩<;>rw[e]<;>simp
 have hth:th.toNat<1024:=by omega
 have hns:∀x∈ns,0<=x/\x<1024:=fun x hx=>by have:=h1 x hx;omega
 have hms:∀n∈ns.map Int.toNat,n<1024:=fun n hn=>by
  obtain⟨x,hx,rfl⟩:=QP.1 hn;have:=h1 x hx;omega
 obtain⟨body,hw,hbody⟩:∃body:bu,fg ⟨th,ns,is⟩=df th.toNat++32::111::102::32::40::body/\
   ∀f,dp body=body/\fX (mU (f+1)) th (body.length+1) [] [] body=⟨⟨th,ns,is⟩,true,[]⟩:=by
  have hw:fg ⟨th,ns,is⟩=df th.toNat++32::111::102::32::40::(Lib.join (ns.map Lib.itoa++gI is) [44,32]++[41]):=by
   rw[fg,nJ (by omega) (by omega)]
   simp
  refine⟨_,hw,?_⟩;rw[Nw hns];rcases h4 with rfl|⟨x,hx0,hx1,rfl⟩
  ·have hne:ns.map Int.toNat≠[]:=fun e=>by
    rw[List.map_eq_nil_iff]at e;subst e;simp at h5;omega
   obtain⟨ini,n,hin⟩:∃ini n,ns.map Int.toNat=ini++[n]:=⟨_,_,(List.dropLast_concat_getLast hne).symm⟩
   have hj:Lib.join ((ns.map Int.toNat).map df++gI []) [44,32]++[41]=er (ns.map Int.toNat) [41]:=by
    have:=B8 ini n [] [41];rw[List.append_nil]at this;rw[gI,List.append_nil,hin,List.map_append];exact this
   rw[hj];intro f
   have hl:(ns.map Int.toNat).length<=(er (ns.map Int.toNat) [41]).length+1:=by
    have:∀(ms:List Nat) (e:bu),(∀n∈ms,n<1024)->ms.length<=(er ms e).length:=by
     intro ms
     induction ms with
     |nil=>intro e _;exact QS _
     |cons m ms ih=>
      intro e hm;have hm1:=(yD (hm m (by simp))).len.1
      have hi:=ih e fun k hk=>hm k (by simp[hk])
      cases ms with
      |nil=>simp only[er,QB,QE,QY];omega
      |cons a b=>simp only[er,QB,QE]at hi ⊢;omega
    have:=this (ns.map Int.toNat) [41] hms;omega
   constructor
   ·cases hq:ns.map Int.toNat with
    |nil=>exact absurd hq hne
    |cons a b=>exact ti (hms a (by rw[hq];simp)) _
   ·rw[DN (mU (f+1)) th (ns.map Int.toNat) _ [] [] [] hne hms hl,List.nil_append,JI fun x hx=>(hns x hx).1,MP]
  ·have hj:Lib.join ((ns.map Int.toNat).map df++gI [⟨1,[x],[]⟩]) [44,32]++[41]=er (ns.map Int.toNat++[1]) ([32,111,102,32,40]++df x.toNat++41::41::[]):=by
    have:=B8 (ns.map Int.toNat) 1 ([32,111,102,32,40]++df x.toNat++[41]) [41]
    rw[show gI [⟨1,[x],[]⟩]=[df 1++([32,111,102,32,40]++df x.toNat++[41])]by
     rw[gI,gI,fg,gI,nJ (by omega) (by omega)]
     simp only[QD,QO,List.append_nil,Lib.join_one];rw[nJ hx0 (by omega)]
     simp]
    rw[this];congr 1;simp
   rw[hj];intro f;generalize hT:er (ns.map Int.toNat++[1]) ([32,111,102,32,40]++df x.toNat++41::41::[])=T
   have hl:(ns.map Int.toNat).length+1<=T.length+1:=by
    have:∀(ms:List Nat) (e:bu),(∀n∈ms,n<1024)->ms.length<=(er ms e).length:=by
     intro ms
     induction ms with
     |nil=>intro e _;exact QS _
     |cons m ms ih=>
      intro e hm;have hm1:=(yD (hm m (by simp))).len.1
      have hi:=ih e fun k hk=>hm k (by simp[hk])
      cases ms with
      |nil=>simp only[er,QB,QE,QY];omega
      |cons a b=>simp only[er,QB,QE]at hi ⊢;omega
    have:=this (ns.map Int.toNat++[1]) ([32,111,102,32,40]++df x.toNat++41::41::[]) (fun n hn=>by
     rcases Qz.1 hn with hn|hn
     ·exact hms n hn
     ·have:=Q4.1 hn
      omega)
    rw[hT]at this;simp at this ⊢;omega
   constructor
   ·rw[<-hT]
    cases hq:ns.map Int.toNat with
    |nil=>exact ti (by omega) _
    |cons a b=>exact ti (hms a (by rw[hq];simp)) _
   ·rw[<-hT];rw[<-hT]at hl;rw[Ie f th x.toNat (by omega) (ns.map Int.toNat) _ [] [] hms hl,List.nil_append,JI fun x hx=>(hns x hx).1,MP,A8 hx0]
 rw[hw];unfold e8;have ht:=AQ hth (Nk (111::102::32::40::body));have hs:dp (32::111::102::32::40::body)=111::102::32::40::body:=rfl;rw[hs]at ht;have hof:=UG (32::40::body);have hs2:dp (32::40::body)=40::body:=rfl;rw[hs2]at hof;have h40:=ya (b:=40) (by simp) body
 rw[ti hth,ht.1,(iU hth).1,Qr rfl,ht.2,(iU hth).2,mU,hof.1,Qr rfl,hof.2,h40.1,Qr rfl,h40.2,A8 (by omega)]
 obtain⟨f,hf⟩:∃f,(df th.toNat++32::111::102::32::40::body).length+1=f+1:=⟨_,rfl⟩;rw[hf,(hbody f).1];exact(hbody f).2
end
section
open Go.TQ Go.Proofs
def vD{α:Type}(f:α->α->Option Bool):List α->List α->Option Bool
 |x::a,y::b=>(f x y).bind fun r=>bif r then vD f a b else some false
 |_,_=>some true
theorem Bh{α:Type}(f:α->α->Option Bool)(a b:List α)(hl:a.length=b.length)(hn:a.length<=1000000000):
  aD (fun(v1:Int×Unit)=>bif (decide (v1.1<((List.length a:Nat):Int)))then Option.bind (idx a v1.1) fun x2=>Option.bind (idx b v1.1) fun x3=>Option.bind (f x2 x3) fun r=>bif (!r)then Option.map Sum.inr (some false)else some (Sum.inl ((aB .i64 v1.1 (1:Int)),()))
   else Option.map Sum.inr (some true)) ((0:Int),())=vD f a b:=by
 suffices h:∀(k i:Nat),i+k=a.length->aD (fun(v1:Int×Unit)=>bif (decide (v1.1<((List.length a:Nat):Int)))then Option.bind (idx a v1.1) fun x2=>Option.bind (idx b v1.1) fun x3=>Option.bind (f x2 x3) fun r=>bif (!r)then Option.map Sum.inr (some false)else some (Sum.inl ((aB .i64 v1.1 (1:Int)),()))
   else Option.map Sum.inr (some true)) ((i:Int),())=vD f (a.drop i) (b.drop i)by
  have:=h a.length 0 (by omega)
  simpa using this
 intro k
 induction k with
 |zero=>
  intro i hi;obtain rfl:i=a.length:=by omega
  rw[Qq65,vD.eq_2 f [] _ (by simp)]
  refine cd ?_;simp only[];rw[Qh (by omega),Ql]
  rfl
 |succ k ih=>
  intro i hi;have h1:i<a.length:=by omega
  have h2:i<b.length:=by omega
  rw[QM h1,QM h2,vD]
  have hs:∀(v1:Int×Unit),v1=((i:Int),())->(bif (decide (v1.1<((List.length a:Nat):Int)))then Option.bind (idx a v1.1) fun x2=>Option.bind (idx b v1.1) fun x3=>Option.bind (f x2 x3) fun r=>bif (!r)then Option.map Sum.inr (some false)else some (Sum.inl ((aB .i64 v1.1 (1:Int)),()))
   else Option.map Sum.inr (some true):Option ((Int×Unit)⊕Bool))=Option.bind (f a[i] b[i]) fun r=>bif (!r)then some (Sum.inr false)else some (Sum.inl (((i+1:Nat):Int),())):=by
   rintro v1 rfl;simp only[];rw[Qg (by omega),Qk,bA,bA,Qv h1,Qv h2,Qa,Qa,bY (by omega) (by omega)]
   rfl
  cases hf:f a[i] b[i]with
  |none=>exact ur ((hs _ rfl).trans (by rw[hf];rfl))
  |some r=>
   cases r with
   |false=>exact cd ((hs _ rfl).trans (by rw[hf];rfl))
   |true=>exact(cm ((hs _ rfl).trans (by rw[hf];rfl))).trans (ih (i+1) (by omega))
theorem Fi{α:Type}[DecidableEq α]:∀(a b:List α),a.length=b.length->vD (fun x y=>some (decide (x=y))) a b=some (decide (a=b))
 |[],[],_=>rfl
 |x::a,y::b,h=>by
  rw[vD,Qa,Fi a b (by simpa using h)]
  by_cases e:x=y
  ·subst e
   by_cases e2:a=b
   ·subst e2;simp
   ·simp[e2]
  ·simp[e]
theorem tU(a b:List Int)(h:a.length<=1000000000):iP a b=some (decide (a=b)):=by
 unfold iP
 by_cases hl:a.length=b.length
 ·rw[Qg (by omega),Qo,Ql]
  exact(Bh (fun x y=>some (decide (x=y))) a b hl h).trans (Fi a b hl)
 ·rw[Qh (by omega),Qh (fun e=>hl (by rw[e]))]
  rfl
theorem xa(a b:List ByteArray)(h:a.length<=1000000000):fq a b=some (decide (a=b)):=by
 unfold fq
 by_cases hl:a.length=b.length
 ·rw[Qg (by omega),Qo,Ql]
  exact(Bh (fun x y=>some (decide (x=y))) a b hl h).trans (Fi a b hl)
 ·rw[Qh (by omega),Qh (fun e=>hl (by rw[e]))]
  rfl
theorem Lg{α:Type}{f:α->α->Option Bool}:∀(a b:List α),(∀x∈a,∀y∈b,∃r,f x y=some r)->∃r,vD f a b=some r
 |[],_,_=>⟨true,by rw[vD.eq_2 f [] _ (by simp)]⟩
 |x::a,[],_=>⟨true,rfl⟩
 |x::a,y::b,h=>by
  obtain⟨r,hr⟩:=h x (by simp) y (by simp)
  obtain⟨q,hq⟩:=Lg a b fun u hu v hv=>h u (by simp[hu]) v (by simp[hv])
  rw[vD,hr,Qa];cases r
  ·exact⟨false,rfl⟩
  ·exact⟨q,hq⟩
theorem Oz{α:Type}{f:α->α->Option Bool}:∀(a:List α),(∀x∈a,f x x=some true)->vD f a a=some true
 |[],_=>rfl
 |x::a,h=>by
  rw[vD,h x (by simp),Qa,Qk]
  exact Oz a fun y hy=>h y (by simp[hy])
def Ci(d:cN):bu:=if d.xB then d.s.data.toList else Lib.itoa d.n
def Ji(d:cN):Prop:=d.xB=false->im d.n
theorem Wx(l:List cN)(hd:∀d∈l,Ji d)(hn:l.length<=100000)(hj:(Lib.join (l.map Ci) [32]).length<=100000000000000):dv l=some (bs (Lib.join (l.map Ci) [32])):=by
 unfold dv
 have h:=Kc l (fun x=>if x.xB then some x.s else zU x.n) Ci (fun x hx=>by
  unfold Ci
  cases hs:x.xB with
  |true=>simp only[Qt];rw[pZ]
  |false=>simp only[Qq,Qu];exact B9 (hd x hx hs)) (fun words=>Option.bind (gk words (ByteArray.mk #[32])) fun r6=>some r6) [] (by simp;omega)
 rw[List.nil_append]at h
 have hfin:(Option.bind (gk ((l.map Ci).map bs) (ByteArray.mk #[32])) fun r6=>some r6)=some (bs (Lib.join (l.map Ci) [32])):=by
  show Option.bind (zS ((l.map Ci).map bs) (bs [32])) _=_;rw[G4 _ _ (by rw[QC];omega) hj]
  rfl
 rw[hfin]at h;rw[<-h];show aD _ _=aD _ _;congr 1
 funext v
 cases decide (v.1<((List.length l:Nat):Int))with
 |false=>rfl
 |true=>
  simp only[Qk,bz];congr 1
  funext x
  cases hs:x.xB with
  |true=>rfl
  |false=>rfl
end
section
open Go.TQ Go.Proofs
def ct(n:Int):Bool:=decide (0<=n)&&decide (n<10)
def cB(n:Int):Bool:=decide (1<=n)&&decide (n<=1000)
def lG(n:Int):Bool:=decide (1<=n)&&decide (n<1024)
theorem vN(n:Int):eL n=some (ct n):=by
 unfold eL ct;cases decide (0<=n)<;>rfl
theorem count_eq(n:Int):hD n=some (cB n):=by
 unfold hD cB;cases decide (1<=n)<;>rfl
theorem Nz(n:Int):jQ n=some (!lG n):=by
 unfold jQ tM lG;cases decide (1<=n)<;>rfl
theorem OL(l:List Int)(hl:l.length<=9223372036854775807):eu l=some (l.any fun x=> !lG x):=by
 have key:∀(i:Nat) (k:Nat),i+k=l.length->Yd (aD (fun(v1:Int×Unit)=>bif (decide (v1.1<((List.length l:Nat):Int)))then Option.bind (idx l v1.1) fun x2=>Option.bind (jQ x2) fun r3=>bif r3 then Option.map Sum.inr (some v1.1)else some (Sum.inl ((aB .i64 v1.1 (1:Int)),()))else Option.map Sum.inr (some (-1:Int))) ((i:Int),())) fun r=>decide (0<=r)=(l.drop i).any fun x=> !lG x:=by
  intro i k
  induction k generalizing i with
  |zero=>
   intro hi;refine⟨-1,cd ?_,?_⟩
   ·grind
   ·rw[List.drop_eq_nil_of_le (by omega)];rfl
  |succ k ih=>
   intro hi;have hlt:i<l.length:=by omega
   have hd:decide ((i:Int)<((l.length:Nat):Int))=true:=Qg (Int.ofNat_lt.2 hlt);have hx:idx l (i:Int)=some l[i]:=by rw[bA];exact Qv hlt
   have hw:aB .i64 (i:Int) 1=((i+1:Nat):Int):=bY (by omega) (by omega)
   rw[QM hlt,List.any_cons]
   cases h:lG l[i]with
   |true=>
    rw[cm (s':=(((i+1:Nat):Int),())) (by simp only[hd,hx,hw,Qk,Qa,Nz,h];rfl)]
    exact(ih (i+1) (by omega)).mono fun r hr=>by simpa using hr
   |false=>
    refine⟨i,cd (by simp only[hd,hx,Qk,Qa,Nz,h];rfl),?_⟩
    simp
 obtain⟨r,h1,h2⟩:=key 0 l.length (by omega)
 unfold eu jx;simp only[Int.natCast_zero]at h1;rw[h1];simpa using h2
theorem Sv{n:Nat}:∀{a b:ab},SizeOf.sizeOf a<n->dM a->dM b->∃r,e9 n (a,b,())=some r:=by
 induction n with
 |zero=>intro a b h;omega
 |succ n ih=>
  intro a b h ha hb;show∃r,kh (e9 n) a b=some r;have h1:a.aH.length<=10000/\a.aL.length<=10000/\∀u∈a.aL,dM u:=by cases ha with|mk _ _ h1 _ h3 h4=>exact⟨h1,h3,h4⟩
  have h2:∀u∈b.aL,dM u:=by cases hb with|mk _ _ _ _ _ h4=>exact h4
  have hi:∃r,bR (e9 n) a.aL b.aL=some r:=by
   unfold bR
   by_cases hl:a.aL.length=b.aL.length
   ·rw[Qg (by omega),Qo,Ql]
    obtain⟨r,hr⟩:=Lg (f:=fun x y=>e9 n (ae x,ae y,())) a.aL b.aL fun x hx y hy=>by
     rw[et,et];exact ih (by have:=jt hx;omega) (h1.2.2 x hx) (h2 y hy)
    exact⟨r,(Bh (fun x y=>e9 n (ae x,ae y,())) a.aL b.aL hl (by omega)).trans hr⟩
   ·rw[Qh (by omega)]
    exact⟨_,rfl⟩
  obtain⟨r,hr⟩:=hi;unfold kh;rw[tU _ _ (by omega),hr]
  cases decide (a.aM=b.aM)with
  |false=>exact⟨_,rfl⟩
  |true=>
   cases decide (a.aH=b.aH)with
   |false=>exact⟨_,rfl⟩
   |true=>exact⟨_,rfl⟩
theorem UR{n:Nat}:∀{a:ab},SizeOf.sizeOf a<n->dM a->e9 n (a,a,())=some true:=by
 induction n with
 |zero=>intro a h;omega
 |succ n ih=>
  intro a h ha;show kh (e9 n) a a=some true;have h1:a.aH.length<=10000/\a.aL.length<=10000/\∀u∈a.aL,dM u:=by cases ha with|mk _ _ h1 _ h3 h4=>exact⟨h1,h3,h4⟩
  have hi:bR (e9 n) a.aL a.aL=some true:=by
   unfold bR;rw[Qg rfl,Qo,Ql]
   exact(Bh (fun x y=>e9 n (ae x,ae y,())) a.aL a.aL rfl (by omega)).trans (Oz a.aL fun x hx=>by
    rw[et]
    exact ih (by have:=jt hx;omega) (h1.2.2 x hx))
  unfold kh;rw[tU _ _ (by omega),hi,Qg rfl,Qg rfl]
  rfl
theorem Ak{a b:ab}(ha:dM a)(hb:dM b):∃r,fN a b=some r:=Sv (by omega) ha hb
theorem BE{a:ab}(ha:dM a):fN a a=some true:=UR (by omega) ha
structure Pc (l:aQ):Prop where
 nt:dM l.al.aa
 et:dM l.ai.aa
 v:l.al.cx.length<=1000000
 a:l.al.bo.length<=1000000
theorem Ja{b:Bool}{o:Option Bool}(h:∃r,o=some r):∃r,(bif b then o else some false)=some r:=by
 obtain⟨r,rfl⟩:=h;cases b<;>exact⟨_,rfl⟩
theorem Gx{α β:Type}{o:Option α}{f:α->Option β}(h:∃r,o=some r)(k:∀x,∃r,f x=some r):∃r,Option.bind o f=some r:=by
 obtain⟨r,rfl⟩:=h;exact k r
theorem R7{o:Option Bool}:(Option.bind o fun r=>some r)=o:=by cases o<;>rfl
theorem NB{a b:aQ}(ha:Pc a)(hb:Pc b):∃r,iG a b=some r:=by
 unfold iG;have t1:=Ak ha.nt hb.nt;have t2:=Ak ha.et hb.et;simp only[Go.Proofs.YtnhgcpiljggmmaaGreatDoor.et,R7,xa _ _ (show a.al.cx.length<=1000000000 by have:=ha.v;omega),xa _ _ (show a.al.bo.length<=1000000000 by have:=ha.a;omega)]
 repeat' first
  |exact t1
  |exact t2
  |exact⟨_,rfl⟩
  |(apply Gx)
  |(apply Ja)
  |intro _
theorem PC{a:aQ}(ha:Pc a):iG a a=some true:=by
 unfold iG;have h1:fN (ae a.al.aa) (ae a.al.aa)=some true:=by rw[Go.Proofs.YtnhgcpiljggmmaaGreatDoor.et];exact BE ha.nt
 have h2:fN (ae a.ai.aa) (ae a.ai.aa)=some true:=by rw[Go.Proofs.YtnhgcpiljggmmaaGreatDoor.et];exact BE ha.et
 rw[h1,h2,xa _ _ (by have:=ha.v;omega),xa _ _ (by have:=ha.a;omega)]
 simp[ml]
structure mG (x:aI):Prop where
 aG:im x.aq
 to:im x.To
 bj:im x.aE
 count:im x.Count
 mX:im x.af.aE
 value:x.Value.size<=1000000
 sM:x.af.ai.aj.Value.size<=1000000
 aN:dM x.aa
 pj:wT x.aa<=100000
 letter:Pc x.af
 parts:x.bx.length<=30000
 part:∀n∈x.bx,im n
def L0:aQ:=⟨0,0,⟨0,0,T0,[],[]⟩,⟨0,0,0,T0,0,⟨0,ByteArray.mk #[]⟩,⟨0,ByteArray.mk #[]⟩,⟨0,ByteArray.mk #[]⟩,0,0⟩⟩
theorem cY:im 0:=⟨by omega,by omega⟩
theorem TR:Pc L0:=⟨dM.nil cY,dM.nil cY,by simp[L0],by simp[L0]⟩
theorem Pn{a b:aI}(ha:mG a)(hb:mG b):∃r,iw a b=some r:=by
 unfold iw;have t1:=Ak ha.aN hb.aN;have t2:=NB ha.letter hb.letter;simp only[Go.Proofs.YtnhgcpiljggmmaaGreatDoor.et,R7,tU _ _ (show a.bx.length<=1000000000 by have:=ha.parts;omega)]
 repeat' first
  |exact t1
  |exact t2
  |exact⟨_,rfl⟩
  |(apply Gx)
  |(apply Ja)
  |intro _
theorem Sw{a:aI}(ha:mG a):iw a a=some true:=by
 unfold iw;have h1:fN (ae a.aa) (ae a.aa)=some true:=by rw[Go.Proofs.YtnhgcpiljggmmaaGreatDoor.et];exact BE ha.aN
 rw[h1,tU _ _ (by have:=ha.parts;omega)]
 simp only[Go.Proofs.YtnhgcpiljggmmaaGreatDoor.et];have h2:=PC ha.letter;simp[h2]
end
section
open Go.TQ Go.Proofs
def fm:bu:=[112,114,111,112,111,115,101]
def fZ:bu:=[112,114,101,102,101,114]
def kO:bu:=[116,105,99,107]
def kP:bu:=[115,116,111,112]
def je:bu:=[100,101,108,97,121]
def jK:bu:=[112,97,114,116]
def eQ:bu:=[100,101,99,108,97,114,101]
def om:bu:=[108,105,101]
def E0:ByteArray:=ByteArray.mk #[]
def Z0:aI:=⟨0,0,0,0,0,E0,T0,L0,[]⟩
def mg(a b c:Int)(v:ByteArray):aI:=⟨5,a,b,0,0,E0,T0,⟨2,c,⟨0,0,T0,[],[]⟩,⟨a,c,1,⟨1,[a],[]⟩,3,⟨1,v⟩,⟨0,E0⟩,⟨0,E0⟩,1,1⟩⟩,[]⟩
 def bN(x:aI):List bu:=
 if x.az=1 then[fm,Lib.itoa x.aq,Lib.itoa x.aE,x.Value.data.toList]else
 if x.az=8 then[fZ,Lib.itoa x.aq,Lib.itoa x.aE,x.Value.data.toList]else
 if x.az=2 then[kO,Lib.itoa x.Count]else
 if x.az=4 then[kP,Lib.itoa x.aq]else
 if x.az=7 then[je,Lib.itoa x.aq,Lib.itoa x.To,Lib.itoa x.Count]else
 if x.az=6 then jK::x.bx.map Lib.itoa else
 if x.az=3 then[eQ,Lib.itoa x.aq,rA x.aa]else
 if x.az=5 then[om,Lib.itoa x.aq,Lib.itoa x.To,Lib.itoa x.af.aE,x.af.ai.aj.Value.data.toList]else[]
def bP(x:aI):aI:=
 if x.az=1\/x.az=8 then{Z0 with az:=x.az,aq:=x.aq,aE:=x.aE,Value:=x.Value}else
 if x.az=2 then{Z0 with az:=x.az,Count:=x.Count}else
 if x.az=4 then{Z0 with az:=x.az,aq:=x.aq}else
 if x.az=7 then{Z0 with az:=x.az,aq:=x.aq,To:=x.To,Count:=x.Count}else
 if x.az=6 then{Z0 with az:=x.az,bx:=x.bx}else
 if x.az=3 then{Z0 with az:=x.az,aq:=x.aq,aa:=x.aa}else
 if x.az=5 then mg x.aq x.To x.af.aE x.af.ai.aj.Value else Z0
 def cK(x:aI):Bool:=
 if x.az=1\/x.az=8 then ct x.aq&&(cB x.aE&&dE x.Value)else
 if x.az=2 then cB x.Count else
 if x.az=4 then ct x.aq else
 if x.az=7 then ct x.aq&&(ct x.To&&cB x.Count)else
 if x.az=6 then decide (0<x.bx.length)&& !(x.bx.any fun n=> !lG n)else
 if x.az=3 then ct x.aq&&decide (mH x.aa=0)else
 if x.az=5 then ct x.aq&&(ct x.To&&(cB x.af.aE&&dE x.af.ai.aj.Value))else false
theorem ch{n:Int}(h:im n):(Lib.itoa n).length<=21:=Lib.itoa_length_le n h.1 h.2
theorem qo(l:List cN)(ws:List bu)(hl:l.map Ci=ws)(hd:∀d∈l,Ji d)(hn:l.length<=100000)(hw:∀w∈ws,w.length<=4000000):dv l=some (bs (Lib.join ws [32])):=by
 subst hl;refine Wx l hd hn ?_;have h1:=join_le [32] (l.map Ci)
 have h2:∀ws:List bu,(∀w∈ws,w.length<=4000000)->Lib.lens ws<=4000000*ws.length:=by
  intro ws
  induction ws with
  |nil=>intro _;exact QI _
  |cons w ws ih=>
   intro h;have:=ih fun y hy=>h y (by simp[hy])
   have:=h w (by simp)
   simp only[Lib.lens,QD,List.sum_cons,QE]at*;omega
 have h3:=h2 _ hw;rw[QC]at h1 h3;simp only[QE,QY]at h1;omega
theorem z8(s:bu):Ji (cN.mk true (0:Int) (bs s)):=fun h=>by cases h
theorem yV(s:ByteArray):Ji (cN.mk true (0:Int) s):=fun h=>by cases h
theorem eP{n:Int}(h:im n):Ji (cN.mk false n (ByteArray.mk #[])):=fun _=>h
set_option maxHeartbeats 1000000 in
theorem abU{x:aI}(h:mG x)(hk:x.az=1):cb x=some (bs (Lib.join (bN x) [32]),bP x,cK x,()):=by
 have w:=qo [(cN.mk true (0:Int) (bs fm)),(cN.mk false x.aq (ByteArray.mk #[])),(cN.mk false x.aE (ByteArray.mk #[])),(cN.mk true (0:Int) x.Value)] [fm,Lib.itoa x.aq,Lib.itoa x.aE,x.Value.data.toList] rfl
  (by intro d hd;simp only[QA,QR,or_false]at hd;rcases hd with rfl|rfl|rfl|rfl<;>first|exact z8 _|exact eP h.aG|exact eP h.bj|exact eP h.count|exact eP h.to|exact eP h.mX|exact yV _) (by simp)
  (by intro u hu;simp only[QA,QR,or_false]at hu;have:=ch h.aG;have:=ch h.bj;have:=ch h.count;have:=ch h.to;have:=ch h.mX;have:=h.value;have:=h.sM;have:=qt h.aN h.pj;rcases hu with rfl|rfl|rfl|rfl<;>first|(simp[fm];done)|(rw[<-size_data];omega)|omega)
 have e1:bN x=[fm,Lib.itoa x.aq,Lib.itoa x.aE,x.Value.data.toList]:=by simp[bN,hk]
 have e2:bP x={Z0 with az:=1,aq:=x.aq,aE:=x.aE,Value:=x.Value}:=by simp[bP,hk]
 have e3:cK x=(ct x.aq&&(cB x.aE&&dE x.Value)):=by simp[cK,hk]
 rw[e1,e2,e3];unfold cb;rw[show(ByteArray.mk #[112,114,111,112,111,115,101])=bs fm from rfl]
 simp only[hk,bz,di,vN,count_eq,Qa,decide_true,Qk,Qh (show¬(1:Int)=8 by omega),Ql,Go.Proofs.YtnhgcpiljggmmaaGreatDoor.et,w]
 rw[show gr x.Value=some (dE x.Value)from rfl]
 cases ct x.aq<;>cases cB x.aE<;>rfl
set_option maxHeartbeats 1000000 in
theorem abN{x:aI}(h:mG x)(hk:x.az=8):cb x=some (bs (Lib.join (bN x) [32]),bP x,cK x,()):=by
 have w:=qo [(cN.mk true (0:Int) (bs fZ)),(cN.mk false x.aq (ByteArray.mk #[])),(cN.mk false x.aE (ByteArray.mk #[])),(cN.mk true (0:Int) x.Value)] [fZ,Lib.itoa x.aq,Lib.itoa x.aE,x.Value.data.toList] rfl
  (by intro d hd;simp only[QA,QR,or_false]at hd;rcases hd with rfl|rfl|rfl|rfl<;>first|exact z8 _|exact eP h.aG|exact eP h.bj|exact eP h.count|exact eP h.to|exact eP h.mX|exact yV _) (by simp)
  (by intro u hu;simp only[QA,QR,or_false]at hu;have:=ch h.aG;have:=ch h.bj;have:=ch h.count;have:=ch h.to;have:=ch h.mX;have:=h.value;have:=h.sM;have:=qt h.aN h.pj;rcases hu with rfl|rfl|rfl|rfl<;>first|(simp[fZ];done)|(rw[<-size_data];omega)|omega)
 have e1:bN x=[fZ,Lib.itoa x.aq,Lib.itoa x.aE,x.Value.data.toList]:=by simp[bN,hk]
 have e2:bP x={Z0 with az:=8,aq:=x.aq,aE:=x.aE,Value:=x.Value}:=by simp[bP,hk]
 have e3:cK x=(ct x.aq&&(cB x.aE&&dE x.Value)):=by simp[cK,hk]
 rw[e1,e2,e3];unfold cb;rw[show(ByteArray.mk #[112,114,101,102,101,114])=bs fZ from rfl]
 simp only[hk,bz,di,vN,count_eq,Qa,decide_true,Qk,Qh (show¬(8:Int)=1 by omega),Ql,Go.Proofs.YtnhgcpiljggmmaaGreatDoor.et,w]
 rw[show gr x.Value=some (dE x.Value)from rfl]
 cases ct x.aq<;>cases cB x.aE<;>rfl
set_option maxHeartbeats 1000000 in
theorem abT{x:aI}(h:mG x)(hk:x.az=2):cb x=some (bs (Lib.join (bN x) [32]),bP x,cK x,()):=by
 have w:=qo [(cN.mk true (0:Int) (bs kO)),(cN.mk false x.Count (ByteArray.mk #[]))] [kO,Lib.itoa x.Count] rfl
  (by intro d hd;simp only[QA,QR,or_false]at hd;rcases hd with rfl|rfl<;>first|exact z8 _|exact eP h.aG|exact eP h.bj|exact eP h.count|exact eP h.to|exact eP h.mX|exact yV _) (by simp)
  (by intro u hu;simp only[QA,QR,or_false]at hu;have:=ch h.aG;have:=ch h.bj;have:=ch h.count;have:=ch h.to;have:=ch h.mX;have:=h.value;have:=h.sM;have:=qt h.aN h.pj;rcases hu with rfl|rfl<;>first|(simp[kO];done)|(rw[<-size_data];omega)|omega)
 have e1:bN x=[kO,Lib.itoa x.Count]:=by simp[bN,hk]
 have e2:bP x={Z0 with az:=2,Count:=x.Count}:=by simp[bP,hk]
 have e3:cK x=(cB x.Count):=by simp[cK,hk]
 rw[e1,e2,e3];unfold cb;rw[show(ByteArray.mk #[116,105,99,107])=bs kO from rfl]
 simp only[hk,bz,di,vN,count_eq,Qa,decide_true,Qk,Qh (show¬(2:Int)=1 by omega),Qh (show¬(2:Int)=8 by omega),Ql,Go.Proofs.YtnhgcpiljggmmaaGreatDoor.et,w]
 rfl
set_option maxHeartbeats 1000000 in
theorem abR{x:aI}(h:mG x)(hk:x.az=4):cb x=some (bs (Lib.join (bN x) [32]),bP x,cK x,()):=by
 have w:=qo [(cN.mk true (0:Int) (bs kP)),(cN.mk false x.aq (ByteArray.mk #[]))] [kP,Lib.itoa x.aq] rfl
  (by intro d hd;simp only[QA,QR,or_false]at hd;rcases hd with rfl|rfl<;>first|exact z8 _|exact eP h.aG|exact eP h.bj|exact eP h.count|exact eP h.to|exact eP h.mX|exact yV _) (by simp)
  (by intro u hu;simp only[QA,QR,or_false]at hu;have:=ch h.aG;have:=ch h.bj;have:=ch h.count;have:=ch h.to;have:=ch h.mX;have:=h.value;have:=h.sM;have:=qt h.aN h.pj;rcases hu with rfl|rfl<;>first|(simp[kP];done)|(rw[<-size_data];omega)|omega)
 have e1:bN x=[kP,Lib.itoa x.aq]:=by simp[bN,hk]
 have e2:bP x={Z0 with az:=4,aq:=x.aq}:=by simp[bP,hk]
 have e3:cK x=(ct x.aq):=by simp[cK,hk]
 rw[e1,e2,e3];unfold cb;rw[show(ByteArray.mk #[115,116,111,112])=bs kP from rfl]
 simp only[hk,bz,di,vN,count_eq,Qa,decide_true,Qk,Qh (show¬(4:Int)=1 by omega),Qh (show¬(4:Int)=8 by omega),Qh (show¬(4:Int)=2 by omega),Ql,Go.Proofs.YtnhgcpiljggmmaaGreatDoor.et,w]
 rfl
set_option maxHeartbeats 1000000 in
theorem abO{x:aI}(h:mG x)(hk:x.az=7):cb x=some (bs (Lib.join (bN x) [32]),bP x,cK x,()):=by
 have w:=qo [(cN.mk true (0:Int) (bs je)),(cN.mk false x.aq (ByteArray.mk #[])),(cN.mk false x.To (ByteArray.mk #[])),(cN.mk false x.Count (ByteArray.mk #[]))] [je,Lib.itoa x.aq,Lib.itoa x.To,Lib.itoa x.Count] rfl
  (by intro d hd;simp only[QA,QR,or_false]at hd;rcases hd with rfl|rfl|rfl|rfl<;>first|exact z8 _|exact eP h.aG|exact eP h.bj|exact eP h.count|exact eP h.to|exact eP h.mX|exact yV _) (by simp)
  (by intro u hu;simp only[QA,QR,or_false]at hu;have:=ch h.aG;have:=ch h.bj;have:=ch h.count;have:=ch h.to;have:=ch h.mX;have:=h.value;have:=h.sM;have:=qt h.aN h.pj;rcases hu with rfl|rfl|rfl|rfl<;>first|(simp[je];done)|(rw[<-size_data];omega)|omega)
 have e1:bN x=[je,Lib.itoa x.aq,Lib.itoa x.To,Lib.itoa x.Count]:=by simp[bN,hk]
 have e2:bP x={Z0 with az:=7,aq:=x.aq,To:=x.To,Count:=x.Count}:=by simp[bP,hk]
 have e3:cK x=(ct x.aq&&(ct x.To&&cB x.Count)):=by simp[cK,hk]
 rw[e1,e2,e3];unfold cb;rw[show(ByteArray.mk #[100,101,108,97,121])=bs je from rfl]
 simp only[hk,bz,di,vN,count_eq,Qa,decide_true,Qk,Qh (show¬(7:Int)=1 by omega),Qh (show¬(7:Int)=8 by omega),Qh (show¬(7:Int)=2 by omega),Qh (show¬(7:Int)=4 by omega),Ql,Go.Proofs.YtnhgcpiljggmmaaGreatDoor.et,w]
 cases ct x.aq<;>cases ct x.To<;>rfl
set_option maxHeartbeats 1000000 in
theorem abS{x:aI}(h:mG x)(hk:x.az=3):cb x=some (bs (Lib.join (bN x) [32]),bP x,cK x,()):=by
 have w:=qo [(cN.mk true (0:Int) (bs eQ)),(cN.mk false x.aq (ByteArray.mk #[])),(cN.mk true (0:Int) (bs (rA x.aa)))] [eQ,Lib.itoa x.aq,rA x.aa] rfl
  (by intro d hd;simp only[QA,QR,or_false]at hd;rcases hd with rfl|rfl|rfl<;>first|exact z8 _|exact eP h.aG|exact eP h.bj|exact eP h.count|exact eP h.to|exact eP h.mX|exact yV _) (by simp)
  (by intro u hu;simp only[QA,QR,or_false]at hu;have:=ch h.aG;have:=ch h.bj;have:=ch h.count;have:=ch h.to;have:=ch h.mX;have:=h.value;have:=h.sM;have:=qt h.aN h.pj;rcases hu with rfl|rfl|rfl<;>first|(simp[eQ];done)|(rw[<-size_data];omega)|omega)
 have e1:bN x=[eQ,Lib.itoa x.aq,rA x.aa]:=by simp[bN,hk]
 have e2:bP x={Z0 with az:=3,aq:=x.aq,aa:=x.aa}:=by simp[bP,hk]
 have e3:cK x=(ct x.aq&&decide (mH x.aa=0)):=by simp[cK,hk]
 rw[e1,e2,e3];unfold cb;rw[show(ByteArray.mk #[100,101,99,108,97,114,101])=bs eQ from rfl]
 simp only[hk,bz,di,vN,count_eq,Qa,decide_true,Qk,Qh (show¬(3:Int)=1 by omega),Qh (show¬(3:Int)=8 by omega),Qh (show¬(3:Int)=2 by omega),Qh (show¬(3:Int)=4 by omega),Qh (show¬(3:Int)=7 by omega),Qh (show¬(3:Int)=6 by omega),Ql,Go.Proofs.YtnhgcpiljggmmaaGreatDoor.et,w,Y8 h.aN h.pj,Jo h.aN.sm]
 cases ct x.aq<;>rfl
set_option maxHeartbeats 1000000 in
theorem abQ{x:aI}(h:mG x)(hk:x.az=5):cb x=some (bs (Lib.join (bN x) [32]),bP x,cK x,()):=by
 have w:=qo [(cN.mk true (0:Int) (bs om)),(cN.mk false x.aq (ByteArray.mk #[])),(cN.mk false x.To (ByteArray.mk #[])),(cN.mk false x.af.aE (ByteArray.mk #[])),(cN.mk true (0:Int) x.af.ai.aj.Value)] [om,Lib.itoa x.aq,Lib.itoa x.To,Lib.itoa x.af.aE,x.af.ai.aj.Value.data.toList] rfl
  (by intro d hd;simp only[QA,QR,or_false]at hd;rcases hd with rfl|rfl|rfl|rfl|rfl<;>first|exact z8 _|exact eP h.aG|exact eP h.bj|exact eP h.count|exact eP h.to|exact eP h.mX|exact yV _) (by simp)
  (by intro u hu;simp only[QA,QR,or_false]at hu;have:=ch h.aG;have:=ch h.bj;have:=ch h.count;have:=ch h.to;have:=ch h.mX;have:=h.value;have:=h.sM;have:=qt h.aN h.pj;rcases hu with rfl|rfl|rfl|rfl|rfl<;>first|(simp[om];done)|(rw[<-size_data];omega)|omega)
 have e1:bN x=[om,Lib.itoa x.aq,Lib.itoa x.To,Lib.itoa x.af.aE,x.af.ai.aj.Value.data.toList]:=by simp[bN,hk]
 have e2:bP x=mg x.aq x.To x.af.aE x.af.ai.aj.Value:=by simp[bP,hk]
 have e3:cK x=(ct x.aq&&(ct x.To&&(cB x.af.aE&&dE x.af.ai.aj.Value))):=by simp[cK,hk]
 rw[e1,e2,e3];unfold cb;rw[show(ByteArray.mk #[108,105,101])=bs om from rfl]
 simp only[hk,bz,di,vN,count_eq,Qa,decide_true,Qk,Qh (show¬(5:Int)=1 by omega),Qh (show¬(5:Int)=8 by omega),Qh (show¬(5:Int)=2 by omega),Qh (show¬(5:Int)=4 by omega),Qh (show¬(5:Int)=7 by omega),Qh (show¬(5:Int)=6 by omega),Qh (show¬(5:Int)=3 by omega),Ql,Go.Proofs.YtnhgcpiljggmmaaGreatDoor.et,w,pf,wo]
 rw[show gr x.af.ai.aj.Value=some (dE x.af.ai.aj.Value)from rfl]
 cases ct x.aq<;>cases ct x.To<;>cases cB x.af.aE<;>rfl
theorem CT{α β ρ:Type}(b:Nat)(hb:b<=1000)(f:α->β)(fin:List β->Option ρ):∀(l:List α) (acc:List β),acc.length+l.length<=1000000->
  dQ (fun x s=>bif aT b (List.length s+List.length [f x])then some (Sum.inl (s++[f x]))else none) fin l acc=fin (acc++l.map f)
 |[],acc,_=>by simp[dQ]
 |x::l,acc,hl=>by
  have h1:(acc.length+1)*b<=1000001*1000:=Nat.mul_le_mul (by simp at hl;omega) hb
  rw[dQ,vP (by show(acc.length+1)*b<=_;omega) (by simp at hl ⊢;omega),Qk]
  have:=CT b hb f fin l (acc++[f x]) (by simp at hl ⊢;omega)
  simp only[]at this ⊢;refine this.trans ?_;simp
theorem X0{α β ρ:Type}(b:Nat)(hb:b<=1000)(l:List α)(f:α->β)(fin:List β->Option ρ)(acc:List β)(hl:acc.length+l.length<=1000000):
  aD (fun(v:Int×(List β)×Unit)=>bif (decide (v.1<((List.length l:Nat):Int)))then Option.bind (idx l v.1) fun x=>bif aT b (List.length v.2.1+List.length [f x])then some (Sum.inl ((aB .i64 v.1 (1:Int)),(v.2.1++[f x]),()))else none
   else Option.map Sum.inr (fin v.2.1)) ((0:Int),acc,())=fin (acc++l.map f):=by
 refine(gf l (by omega) (fun i (s:List β)=>(i,s,())) (fun x s=>bif aT b (List.length s+List.length [f x])then some (Sum.inl (s++[f x]))else none) fin ?_ ?_ acc).trans (CT b hb f fin l acc hl)
 ·intro i x s h1 h2 h3;simp only[];rw[h1,Qk,h2,Qa];cases aT b (List.length s+List.length [f x])
  ·rfl
  ·simp only[Qk];rw[h3]
 ·intro s h1;simp only[];rw[h1,Ql]
theorem abP{x:aI}(h:mG x)(hk:x.az=6):cb x=some (bs (Lib.join (bN x) [32]),bP x,cK x,()):=by
 have hp:=h.parts
 have w:=qo ((cN.mk true (0:Int) (bs jK))::x.bx.map fun n=>(cN.mk false n (ByteArray.mk #[]))) (jK::x.bx.map Lib.itoa) (by
   rw[QD,List.map_map]
   rfl)
  (by
   intro d hd;rcases QA.1 hd with rfl|hd
   ·exact z8 _
   ·obtain⟨n,hn,rfl⟩:=QP.1 hd
    exact eP (h.part n hn)) (by rw[QE,QC];omega)
  (by
   intro u hu;rcases QA.1 hu with rfl|hu
   ·simp[jK]
   ·obtain⟨n,hn,rfl⟩:=QP.1 hu;have:=ch (h.part n hn)
    omega)
 have e1:bN x=jK::x.bx.map Lib.itoa:=by simp[bN,hk]
 have e2:bP x={Z0 with az:=6,bx:=x.bx}:=by simp[bP,hk]
 have e3:cK x=(decide (0<x.bx.length)&& !(x.bx.any fun n=> !lG n)):=by simp[cK,hk]
 rw[e1,e2,e3];unfold cb;rw[show(ByteArray.mk #[112,97,114,116])=bs jK from rfl]
 simp only[hk,bz,Qh (show¬(6:Int)=1 by omega),Qh (show¬(6:Int)=8 by omega),Qh (show¬(6:Int)=2 by omega),Qh (show¬(6:Int)=4 by omega),Qh (show¬(6:Int)=7 by omega),decide_true,Qk,Ql,Go.Proofs.YtnhgcpiljggmmaaGreatDoor.et]
 refine(X0 16 (by omega) x.bx (fun n=>(cN.mk false n (ByteArray.mk #[]))) (fun words=>Option.bind (dv words) fun r28=>bif (decide ((0:Int)<((List.length x.bx:Nat):Int)))then Option.bind (eu x.bx) fun r29=>some (r28,{Z0 with az:=6,bx:=x.bx},(!r29),())else some (r28,{Z0 with az:=6,bx:=x.bx},false,())) [(cN.mk true (0:Int) (bs jK))] (by simp;omega)).trans ?_
 simp only[List.singleton_append];rw[w,Qa,OL _ (by omega),Qa]
 by_cases h0:0<x.bx.length
 ·rw[Qg (show(0:Int)<(x.bx.length:Int)by omega),Qg h0]
  rfl
 ·rw[Qh (show¬(0:Int)<(x.bx.length:Int)by omega),Qh h0]
  rfl
theorem abV{x:aI}(h:x.az≠1/\x.az≠8/\x.az≠2/\x.az≠4/\x.az≠7/\x.az≠6/\x.az≠3/\x.az≠5):cb x=some (bs (Lib.join (bN x) [32]),bP x,cK x,()):=by
 obtain⟨h1,h8,h2,h4,h7,h6,h3,h5⟩:=h;have e1:bN x=[]:=by simp[bN, *]
 have e2:bP x=Z0:=by simp[bP, *]
 have e3:cK x=false:=by simp[cK, *]
 rw[e1,e2,e3];unfold cb;simp only[bz,Qh h1,Qh h8,Qh h2,Qh h4,Qh h7,Qh h6,Qh h3,Qh h5,Ql];rfl
theorem RF{x:aI}(h:mG x):cb x=some (bs (Lib.join (bN x) [32]),bP x,cK x,()):=by
 by_cases h1:x.az=1
 ·exact abU h h1
 by_cases h8:x.az=8
 ·exact abN h h8
 by_cases h2:x.az=2
 ·exact abT h h2
 by_cases h4:x.az=4
 ·exact abR h h4
 by_cases h7:x.az=7
 ·exact abO h h7
 by_cases h6:x.az=6
 ·exact abP h h6
 by_cases h3:x.az=3
 ·exact abS h h3
 by_cases h5:x.az=5
 ·exact abQ h h5
 exact abV ⟨h1,h8,h2,h4,h7,h6,h3,h5⟩
theorem nV:mG Z0:=⟨cY,cY,cY,cY,cY,QS _,QS _,dM.nil cY,by simp[Z0,T0,wT,wL],TR,by simp[Z0],by simp[Z0]⟩
theorem Ki{a:Int}(h:im a):dM ⟨1,[a],[]⟩:=dM.of ⟨by omega,by omega⟩ (by simp) (by simpa using h) (by simp) (by simp)
theorem M9{x:aI}(h:mG x):mG (bP x):=by
 unfold bP;split
 ·exact{nV with aG:=h.aG,bj:=h.bj,value:=h.value}
 split
 ·exact{nV with count:=h.count}
 split
 ·exact{nV with aG:=h.aG}
 split
 ·exact{nV with aG:=h.aG,to:=h.to,count:=h.count}
 split
 ·exact{nV with parts:=h.parts,part:=h.part}
 split
 ·exact{nV with aG:=h.aG,aN:=h.aN,pj:=h.pj}
 split
 ·exact⟨h.aG,h.to,cY,cY,h.mX,QS _,h.sM,dM.nil cY,by simp[mg,T0,wT,wL],⟨dM.nil cY,Ki h.aG,by simp[mg],by simp[mg]⟩,by simp[mg],by simp[mg]⟩
 ·exact nV
 def fe(x:aI):bu:=Lib.join (bN x) [32]
theorem MM(x:aI):({x with aa:=(ae x.aa),af:={x.af with al:={x.af.al with aa:=(ae x.af.al.aa)},ai:={x.af.ai with aa:=(ae x.af.ai.aa)}}}:aI)=x:=by simp only[Go.Proofs.YtnhgcpiljggmmaaGreatDoor.et]
theorem Hy{x:aI}(h:mG x):∃(y:bu) (b:Bool),db x=some (bs y,b,())/\(b=true->y=fe x/\cK x=true/\iw x (bP x)=some true):=by
 unfold db;simp only[Go.Proofs.YtnhgcpiljggmmaaGreatDoor.et];rw[RF h,Qa];simp only[]
 cases hok:cK x with
 |false=>exact⟨[],false,rfl,fun e=>by cases e⟩
 |true=>
  obtain⟨r,hr⟩:=Pn h (M9 h);rw[Qo,Ql,hr]
  cases r with
  |false=>exact⟨[],false,rfl,fun e=>by cases e⟩
  |true=>exact⟨_,true,rfl,fun _=>⟨rfl,rfl,rfl⟩⟩
theorem Jr{x:aI}(h:mG x)(hp:bP x=x)(hok:cK x=true):db x=some (bs (fe x),true,()):=by
 unfold db;simp only[Go.Proofs.YtnhgcpiljggmmaaGreatDoor.et];rw[RF h,Qa];simp only[];rw[hok,hp,Qo,Ql,Sw h];rfl
end
section
open Go.TQ Go.Proofs
abbrev Rd:=List bu×Bool
def kQ(s:Rd):bl:=⟨s.1.map bs,s.2⟩
def jc:Rd->bu×Rd
 |([],_)=>([],([],true))
 |(w::r,b)=>(w,(r,b))
 def okW(w:bu):Bool:=match qa (bs w)with
 |some (_,b,_)=>b
 |none=>false
 def da(s:Rd):Int×Rd:=(eJ (jc s).1,((jc s).2.1,(jc s).2.2|| !okW (jc s).1))
def Je(s:Rd):Prop:=(∀w∈s.1,w.length<=100000)/\s.1.length<=100001
theorem AL{s:Rd}(h:Je s):(jc s).1.length<=100000/\Je (jc s).2:=by
 obtain⟨ws,b⟩:=s
 cases ws with
 |nil=>exact⟨QS _,⟨fun w hw=>(by cases hw),QS _⟩⟩
 |cons w r=>
  refine⟨h.1 w (by simp),⟨fun u hu=>h.1 u (by simp[jc]at hu;simp[hu]),?_⟩⟩
  have:=h.2;simp[jc]at this ⊢;omega
theorem yF{s:Rd}(h:Je s):im (da s).1/\Je (da s).2:=by
 have h1:=AL h;refine⟨?_,h1.2⟩;obtain⟨n,b,e,h2,h3⟩:=sO (bs (jc s).1) (by rw[dI];omega)
 unfold da eJ;rw[e];exact⟨h2,h3⟩
theorem AK(s:Rd):dL (kQ s)=some (bs (jc s).1,kQ (jc s).2):=by
 obtain⟨ws,b⟩:=s;unfold dL
 cases ws with
 |nil=>rfl
 |cons w r=>
  have e1:decide (((List.length (kQ (w::r,b)).l:Nat):Int)=(0:Int))=false:=by
   refine Qh ?_;simp only[kQ,QD,QE];omega
  have e2:dN (1:Int) ((kQ (w::r,b)).l.length:Int) (List.length (kQ (w::r,b)).l)=true:=by
   unfold dN;simp only[kQ,QD,QE,QC,Qm,Qi];omega
  have e3:idx (kQ (w::r,b)).l (0:Int)=some (bs w):=rfl;rw[e1,Ql,e3,Qa,e2,Qk];congr 2;simp only[kQ,jc,QD,QE];congr 1;rw[List.take_of_length_le (by simp)]
  rfl
theorem qC{s:Rd}(h:Je s):bC (kQ s)=some ((da s).1,kQ (da s).2):=by
 have h1:=AL h;obtain⟨n,b,e,_,_⟩:=sO (bs (jc s).1) (by rw[dI];omega)
 unfold bC;rw[AK,Qa];show Option.bind (qa (bs (jc s).1)) _=_;have e1:eJ (jc s).1=n:=by unfold eJ;rw[e]
 have e2:okW (jc s).1=b:=by unfold okW;rw[e]
 rw[e,Qa];unfold da;rw[e1,e2];show Option.bind (bif (jc s).2.2 then some true else some (xor true b)) _=_
 cases (jc s).2.2<;>cases b<;>rfl
 def xm(s:Rd)(t:aI):Rd×aI:=((jc (da (da s).2).2).2,{t with aq:=(da s).1,aE:=(da (da s).2).1,Value:=bs (jc (da (da s).2).2).1})
theorem Kt{s:Rd}(h:Je s)(t:aI):iX (kQ s) t=some (kQ (xm s t).1,(xm s t).2):=by
 show xY (fun s=>bC s) (fun s=>dL s) (kQ s) t=_
 unfold xY;show Option.bind (bC (kQ s)) _=_;rw[qC h,Qa];simp only[];rw[qC (yF h).2,Qa];simp only[];rw[AK,Qa];rfl
 def jM:List bu->Bool->List Int×Bool
 |[],b=>([],b)
 |w::r,b=>(eJ w::(jM r (b|| !okW w)).1,(jM r (b|| !okW w)).2)
 def ow(s:Rd)(x:aI):aI×Bool:=(x,!s.2&&decide (s.1=[]))
 def fW(ws:List bu):aI×Bool:=
 let w:=(jc (ws,false)).1
 let s:=(jc (ws,false)).2
 if w=fm then ow (xm s {Z0 with az:=1}).1 (xm s {Z0 with az:=1}).2 else
 if w=fZ then ow (xm s {Z0 with az:=8}).1 (xm s {Z0 with az:=8}).2 else
 if w=kO then ow (da s).2 {Z0 with az:=2,Count:=(da s).1}else
 if w=kP then ow (da s).2 {Z0 with az:=4,aq:=(da s).1}else
 if w=je then ow (da (da (da s).2).2).2 {Z0 with az:=7,aq:=(da s).1,To:=(da (da s).2).1,Count:=(da (da (da s).2).2).1}else
 if w=jK then ow ([],(jM s.1 s.2).2) {Z0 with az:=6,bx:=(jM s.1 s.2).1}else
 if w=eQ then ow ([],(da s).2.2|| !decide ((mW (Lib.join (da s).2.1 [32])).2=0)) {Z0 with az:=3,aq:=(da s).1,aa:=(mW (Lib.join (da s).2.1 [32])).1}else
 if w=om then ow (jc (da (da (da s).2).2).2).2 (mg (da s).1 (da (da s).2).1 (da (da (da s).2).2).1 (bs (jc (da (da (da s).2).2).2).1))else
 ow s Z0
theorem uG(s:Rd)(x:aI):(bif (!(kQ s).bad)then some (x,(decide (((List.length (kQ s).l:Nat):Int)=(0:Int))),())else some (x,false,()))=some ((ow s x).1,(ow s x).2,()):=by
 obtain⟨ws,b⟩:=s;unfold ow
 have e:decide (((List.length (kQ (ws,b)).l:Nat):Int)=(0:Int))=decide (ws=[]):=decide_eq_decide.2 (by
  simp only[kQ,QC];rw[<-List.length_eq_zero_iff]
  omega)
 rw[e];cases b<;>rfl
theorem OW(w v:bu):decide (bs w=bs v)=decide (w=v):=decide_eq_decide.2 zh
theorem HT{ρ:Type}(k:bl->aI->List Int->Option ρ):∀(ws:List bu) (b:Bool) (acc:List Int),(∀w∈ws,w.length<=100000)->acc.length+ws.length<=200000->
  aD (fun(v14:bl×aI×(List Int)×Unit)=>
   bif (decide ((0:Int)<((List.length v14.1.l:Nat):Int)))then
    Option.bind (bC v14.1) fun p15=>
    bif aT 8 (List.length v14.2.2.1+List.length [p15.1])then
     some (Sum.inl (p15.2,{v14.2.1 with bx:=([]:List Int)},(v14.2.2.1++[p15.1]),()))
    else none
   else Option.map Sum.inr (k v14.1 v14.2.1 v14.2.2.1)) (kQ (ws,b),{Z0 with az:=6},acc,())=k (kQ ([],(jM ws b).2)) {Z0 with az:=6} (acc++(jM ws b).1)
 |[],b,acc,_,_=>by
  have hs:∀y,(k (kQ ([],b)) {Z0 with az:=6} acc)=y->(k (kQ ([],(jM [] b).2)) {Z0 with az:=6} (acc++(jM [] b).1))=y:=by
   intro y hy;simp only[jM,List.append_nil];exact hy
  cases hk:k (kQ ([],b)) {Z0 with az:=6} acc with
  |none=>
   rw[hs _ hk];refine ur ?_;show Option.map Sum.inr (k (kQ ([],b)) {Z0 with az:=6} acc)=_
   rw[hk];rfl
  |some v=>
   rw[hs _ hk];refine cd ?_;show Option.map Sum.inr (k (kQ ([],b)) {Z0 with az:=6} acc)=_
   rw[hk];rfl
 |w::r,b,acc,hw,hl=>by
  have hW:Je ([w],b):=⟨fun u hu=>by rw[Q4.1 hu];exact hw w (by simp),by simp⟩
  have hn:bC (kQ (w::r,b))=some (eJ w,kQ (r,b|| !okW w)):=by
   obtain⟨n,c,e,_,_⟩:=sO (bs w) (by have:=hw w (by simp);rw[dI];omega)
   unfold bC;rw[AK,Qa];show Option.bind (qa (bs w)) _=_;have e1:eJ w=n:=by unfold eJ;rw[e]
   have e2:okW w=c:=by unfold okW;rw[e]
   rw[e,Qa,e1,e2];show Option.bind (bif b then some true else some (xor true c)) _=_
   cases b<;>cases c<;>rfl
  refine(cm (s':=(kQ (r,b|| !okW w),{Z0 with az:=6},acc++[eJ w],())) ?_).trans ?_
  ·have e0:decide ((0:Int)<((List.length (kQ (w::r,b)).l:Nat):Int))=true:=by
    refine Qg ?_;simp only[kQ,QD,QE];omega
   simp only[];rw[e0,Qk,hn,Qa,vP (by simp at hl ⊢;omega) (by simp at hl ⊢;omega),Qk]
   rfl
  ·rw[HT k r (b|| !okW w) (acc++[eJ w]) (fun u hu=>hw u (by simp[hu])) (by simp at hl ⊢;omega)]
   simp only[jM,QL,List.singleton_append]
theorem KL:∀(ws:List bu) (b:Bool),(jM ws b).1.length=ws.length
 |[],_=>rfl
 |w::r,b=>by simp[jM,KL r]
theorem Hj(c:UInt8):∀l:bu,(eE c l).length<=l.length+1/\∀w∈eE c l,w.length<=l.length
 |[]=>⟨QI _,fun w hw=>by simp[eE]at hw;simp[hw]⟩
 |b::l=>by
  obtain⟨h1,h2⟩:=Hj c l;unfold eE;split
  ·refine⟨by simp;omega,fun w hw=> ?_⟩
   rcases QA.1 hw with rfl|hw
   ·simp
   ·have:=h2 w hw;simp;omega
  ·obtain⟨x,r,hx⟩:=R4 c l;rw[hx]at h1 h2 ⊢;simp only[]at h1 h2 ⊢;refine⟨by simp at h1 ⊢;omega,fun w hw=> ?_⟩
   rcases QA.1 hw with rfl|hw
   ·have:=h2 x (by simp);simp;omega
   ·have:=h2 w (by simp[hw]);simp;omega
theorem P4(l:bu)(h:l.length<=100000):Je (eE 32 l,false):=by
 obtain⟨h1,h2⟩:=Hj 32 l;exact⟨fun w hw=>by have:=h2 w hw;omega,by show(eE 32 l).length<=100001;omega⟩
theorem XC(ws:List bu)(h:∀w∈ws,w.length<=100000):(Lib.join ws [32]).length<=100001*ws.length:=by
 have h1:=join_le [32] ws
 have h2:∀ws:List bu,(∀w∈ws,w.length<=100000)->Lib.lens ws<=100000*ws.length:=by
  intro ws
  induction ws with
  |nil=>intro _;exact QI _
  |cons w ws ih=>
   intro h;have:=ih fun y hy=>h y (by simp[hy])
   have:=h w (by simp)
   simp only[Lib.lens,QD,List.sum_cons,QE]at*;omega
 have h3:=h2 ws h;simp only[QE,QY]at h1;omega
set_option maxHeartbeats 2000000 in
theorem Zf(l:bu)(hl:l.length<=100000):lE (bs l)=some ((fW (eE 32 l)).1,(fW (eE 32 l)).2,()):=by
 have hW:=P4 l hl;have hw:=AL hW;unfold lE;rw[show uW (bs l) (ByteArray.mk #[32])=some ((eE 32 l).map bs)from UN (bs l) (by rw[dI];omega),Qa]
 simp only[bz,Go.Proofs.YtnhgcpiljggmmaaGreatDoor.et];rw[show(bl.mk ((eE 32 l).map bs) false)=kQ (eE 32 l,false)from rfl,AK,Qa]
 unfold fW;generalize (jc (eE 32 l,false)).1=w at*;generalize (jc (eE 32 l,false)).2=s at*;obtain⟨hwl,hs⟩:=hw;simp only[]
 rw[show(ByteArray.mk #[112,114,111,112,111,115,101])=bs fm from rfl,show(ByteArray.mk #[112,114,101,102,101,114])=bs fZ from rfl,show(ByteArray.mk #[116,105,99,107])=bs kO from rfl,
  show(ByteArray.mk #[115,116,111,112])=bs kP from rfl,show(ByteArray.mk #[100,101,108,97,121])=bs je from rfl,show(ByteArray.mk #[112,97,114,116])=bs jK from rfl,show(ByteArray.mk #[100,101,99,108,97,114,101])=bs eQ from rfl,show(ByteArray.mk #[108,105,101])=bs om from rfl]
 simp only[OW];have hn1:=yF hs;have hn2:=yF hn1.2;have hn3:=yF hn2.2
 by_cases h1:w=fm
 ·rw[Qg h1,Qk,Qr h1,Kt hs,Qa];exact uG (xm s {Z0 with az:=1}).1 (xm s {Z0 with az:=1}).2
 rw[Qh h1,Ql,Qs h1]
 by_cases h2:w=fZ
 ·rw[Qg h2,Qk,Qr h2,Kt hs,Qa];exact uG (xm s {Z0 with az:=8}).1 (xm s {Z0 with az:=8}).2
 rw[Qh h2,Ql,Qs h2]
 by_cases h3:w=kO
 ·rw[Qg h3,Qk,Qr h3,qC hs,Qa];exact uG (da s).2 {Z0 with az:=2,Count:=(da s).1}
 rw[Qh h3,Ql,Qs h3]
 by_cases h4:w=kP
 ·rw[Qg h4,Qk,Qr h4,qC hs,Qa];exact uG (da s).2 {Z0 with az:=4,aq:=(da s).1}
 rw[Qh h4,Ql,Qs h4]
 by_cases h5:w=je
 ·rw[Qg h5,Qk,Qr h5,qC hs,Qa];simp only[];rw[qC hn1.2,Qa];simp only[];rw[qC hn2.2,Qa];exact uG (da (da (da s).2).2).2 {Z0 with az:=7,aq:=(da s).1,To:=(da (da s).2).1,Count:=(da (da (da s).2).2).1}
 rw[Qh h5,Ql,Qs h5]
 by_cases h6:w=jK
 ·rw[Qg h6,Qk,Qr h6];obtain⟨ws,b⟩:=s;refine(HT (fun rd st ps=>(bif (!rd.bad)then some ({st with bx:=ps},(decide (((List.length rd.l:Nat):Int)=(0:Int))),())else some ({st with bx:=ps},false,()))) ws b [] (fun u hu=>hs.1 u hu) (by have:=hs.2;simp at this ⊢;omega)).trans ?_
  rw[List.nil_append];exact uG ([],(jM ws b).2) {Z0 with az:=6,bx:=(jM ws b).1}
 rw[Qh h6,Ql,Qs h6]
 by_cases h7:w=eQ
 ·rw[Qg h7,Qk,Qr h7,qC hs,Qa];simp only[];have hj:=XC (da s).2.1 hn1.2.1;have hl2:=hn1.2.2;have hm:100001*(da s).2.1.length<=100001*100001:=Nat.mul_le_mul_left _ hl2;rw[show gk (kQ (da s).2).l (ByteArray.mk #[32])=some (bs (Lib.join (da s).2.1 [32]))from G4 (da s).2.1 [32] (by omega) (by omega),Qa]
  obtain⟨at_,hp⟩:=Xl (Lib.join (da s).2.1 [32])
  rw[hp,Qa];simp only[]
  have hb:(bif (kQ (da s).2).bad then some true else some (!decide ((mW (Lib.join (da s).2.1 [32])).2=(0:Int))))=some ((da s).2.2|| !decide ((mW (Lib.join (da s).2.1 [32])).2=0)):=by
   show(bif (da s).2.2 then some true else _)=_
   cases (da s).2.2<;>rfl
  rw[hb,Qa];exact uG ([],(da s).2.2|| !decide ((mW (Lib.join (da s).2.1 [32])).2=0)) {Z0 with az:=3,aq:=(da s).1,aa:=(mW (Lib.join (da s).2.1 [32])).1}
 rw[Qh h7,Ql,Qs h7]
 by_cases h8:w=om
 ·rw[Qg h8,Qk,Qr h8,qC hs,Qa];simp only[];rw[qC hn1.2,Qa];simp only[];rw[qC hn2.2,Qa];simp only[];rw[AK,Qa];exact uG (jc (da (da (da s).2).2).2).2 (mg (da s).1 (da (da s).2).1 (da (da (da s).2).2).1 (bs (jc (da (da (da s).2).2).2).1))
 rw[Qh h8,Ql,Qs h8];exact uG s Z0
end
section
open Go.TQ Go.Proofs
theorem Nb(l:bu):dM (mW l).1/\wT (mW l).1<=6001:=by
 have h0:dM T0/\wT T0<=6001:=⟨dM.nil cY,by simp[T0,wT,wL]⟩
 unfold mW;split
 ·exact h0
 ·rename_i hl;split
  ·split
   ·exact⟨Ot l (by omega),by have:=aag l;show wT (e8 l).t<=6001;omega⟩
   ·exact h0
  ·exact h0
theorem Na:∀(ws:List bu) (b:Bool),(∀w∈ws,w.length<=100000)->∀n∈(jM ws b).1,im n
 |[],b,_,n,h=>by cases h
 |w::r,b,hw,n,h=>by
  rcases QA.1 h with rfl|h
  ·obtain⟨m,c,e,h2,h3⟩:=sO (bs w) (by have:=hw w (by simp);rw[dI];omega)
   have e1:eJ w=m:=by unfold eJ;rw[e]
   rw[e1];exact⟨h2,h3⟩
  ·exact Na r _ (fun u hu=>hw u (by simp[hu])) n h
theorem VD{a b c:Int}{v:ByteArray}(ha:im a)(hb:im b)(hc:im c)(hv:v.size<=1000000):mG (mg a b c v):=
 ⟨ha,hb,cY,cY,hc,QS _,hv,dM.nil cY,by simp[mg,T0,wT,wL],⟨dM.nil cY,Ki ha,by simp[mg],by simp[mg]⟩,by simp[mg],by simp[mg]⟩
theorem Zg(ws:List bu)(hW:Je (ws,false))(hn:ws.length<=30000):mG (fW ws).1:=by
 have hw:=AL hW
 have hlen:(jc (ws,false)).2.1.length<=30000:=by
  cases ws with
  |nil=>simp[jc]
  |cons w r=>simp[jc]at hn ⊢;omega
 unfold fW;generalize (jc (ws,false)).1=w at*;generalize (jc (ws,false)).2=s at*;obtain⟨hwl,hs⟩:=hw;have hn1:=yF hs;have hn2:=yF hn1.2;have hn3:=yF hn2.2;have hv:=(AL hn2.2).1;have hv3:=(AL hn3.2).1;simp only[];split
 ·exact{nV with aG:=hn1.1,bj:=hn2.1,value:=by show(bs _).size<=_;rw[dI];omega}
 split
 ·exact{nV with aG:=hn1.1,bj:=hn2.1,value:=by show(bs _).size<=_;rw[dI];omega}
 split
 ·exact{nV with count:=hn1.1}
 split
 ·exact{nV with aG:=hn1.1}
 split
 ·exact{nV with aG:=hn1.1,to:=hn2.1,count:=hn3.1}
 split
 ·exact{nV with parts:=by show(jM s.1 s.2).1.length<=30000;rw[KL];exact hlen,part:=Na s.1 s.2 hs.1}
 split
 ·exact{nV with aG:=hn1.1,aN:=(Nb _).1,pj:=QK (Nb _).2 (by omega)}
 split
 ·exact VD hn1.1 hn2.1 hn3.1 (by rw[dI];omega)
 ·exact nV
theorem lQ{n:Int}(h0:0<=n)(h1:n<1024)(r:List bu)(b:Bool):da (Lib.itoa n::r,b)=(n,(r,b)):=by
 rw[nJ h0 h1];have hk:=iU (n:=n.toNat) (by omega)
 have ho:okW (df n.toNat)=true:=by unfold okW;rw[Ez (by omega)]
 show(eJ (df n.toNat),(r,b|| !okW (df n.toNat)))=_
 rw[hk.2,ho,A8 h0];simp
theorem cF{n:Int}(h0:0<=n)(h1:n<1024):(32:UInt8)∉Lib.itoa n/\(10:UInt8)∉Lib.itoa n:=by
 rw[nJ h0 h1];have hd:=(yD (n:=n.toNat) (by omega)).yZ
 constructor
 ·intro h;have:=hd _ h;simp[mY]at this
 ·intro h;have:=hd _ h;simp[mY]at this
theorem tO{v:ByteArray}(h:dE v=true):(32:UInt8)∉v.data.toList/\(10:UInt8)∉v.data.toList:=by
 simp only[dE,Qm,QH]at h;constructor
 ·intro hm;have:=h.1.1 _ hm;simp[rZ]at this
 ·intro hm;have:=h.1.1 _ hm;simp[rZ]at this
theorem ea{n:Int}(h:ct n=true):0<=n/\n<1024:=by
 simp only[ct,Qm,Qi]at h;omega
theorem gR{n:Int}(h:cB n=true):0<=n/\n<1024:=by
 simp only[cB,Qm,Qi]at h;omega
theorem ES{n:Int}(h:lG n=true):0<=n/\n<1024:=by
 simp only[lG,Qm,Qi]at h;omega
theorem Od:∀(l:bu),Lib.join (eE 32 l) [32]=l
 |[]=>rfl
 |b::l=>by
  have ih:=Od l;obtain⟨x,r,hx⟩:=R4 32 l;unfold eE;rw[hx]at ih ⊢;split
  ·rename_i hb;subst hb;rw[vV,ih];rfl
  ·simp only[]
   cases r with
   |nil=>rw[Lib.join_one]at ih ⊢;rw[ih]
   |cons y r=>
    rw[vV]at ih ⊢;rw[List.cons_append,List.cons_append,ih]
theorem HU:∀(l:List Int) (b:Bool),(∀n∈l,lG n=true)->jM (l.map Lib.itoa) b=(l,b)
 |[],b,_=>rfl
 |n::l,b,h=>by
  have hn:=ES (h n (by simp))
  have hk:=iU (n:=n.toNat) (by omega)
  have ho:okW (Lib.itoa n)=true:=by unfold okW;rw[nJ hn.1 hn.2,Ez (by omega)]
  have hv:eJ (Lib.itoa n)=n:=by rw[nJ hn.1 hn.2,hk.2,A8 hn.1]
  simp only[QD,jM];rw[ho,hv,Qo,Bool.or_false,HU l b fun m hm=>h m (by simp[hm])]
theorem Oi{t:ab}(h:cG t):wT t<=13:=by
 obtain⟨th,ns,is⟩:=t;obtain⟨_,_,h3,h4,_⟩:=h;simp only at h3 h4;rcases h4 with rfl|⟨x,_,_,rfl⟩
 ·simp only[wT,wL];omega
 ·simp only[wT,wL,QE,QY];omega
structure uQ (x:aI):Prop where
 bd:mG x
 plain:bP x=x
 ok:cK x=true
 fp:x.az=3->cG x.aa
theorem UU{x:aI}(h:uQ x):fW (eE 32 (fe x))=(x,true):=by
 have hp:=h.plain;have hok:=h.ok
 by_cases h1:x.az=1
 ·have e1:bN x=[fm,Lib.itoa x.aq,Lib.itoa x.aE,x.Value.data.toList]:=by simp[bN,h1]
  have e2:bP x={Z0 with az:=1,aq:=x.aq,aE:=x.aE,Value:=x.Value}:=by simp[bP,h1]
  have e3:cK x=(ct x.aq&&(cB x.aE&&dE x.Value)):=by simp[cK,h1]
  rw[e3,Qm,Qm]at hok;obtain⟨k1,k2,k3⟩:=hok;have n1:=ea k1;have n2:=gR k2;unfold fe
  rw[e1,oQ _ _ (by
   intro w hw;simp only[QA,QR,or_false]at hw;rcases hw with rfl|rfl|rfl|rfl
   ·decide
   ·exact(cF n1.1 n1.2).1
   ·exact(cF n2.1 n2.2).1
   ·exact(tO k3).1)]
  have s1:=lQ n1.1 n1.2 [Lib.itoa x.aE,x.Value.data.toList] false;have s2:=lQ n2.1 n2.2 [x.Value.data.toList] false;unfold fW xm;simp only[jc,s1,s2,Qt,Qu,ow,pZ,Qp,decide_true,Bool.and_true];rw[<-hp,e2]
 by_cases h8:x.az=8
 ·have e1:bN x=[fZ,Lib.itoa x.aq,Lib.itoa x.aE,x.Value.data.toList]:=by simp[bN,h8]
  have e2:bP x={Z0 with az:=8,aq:=x.aq,aE:=x.aE,Value:=x.Value}:=by simp[bP,h8]
  have e3:cK x=(ct x.aq&&(cB x.aE&&dE x.Value)):=by simp[cK,h8]
  rw[e3,Qm,Qm]at hok;obtain⟨k1,k2,k3⟩:=hok;have n1:=ea k1;have n2:=gR k2;unfold fe
  rw[e1,oQ _ _ (by
   intro w hw;simp only[QA,QR,or_false]at hw;rcases hw with rfl|rfl|rfl|rfl
   ·decide
   ·exact(cF n1.1 n1.2).1
   ·exact(cF n2.1 n2.2).1
   ·exact(tO k3).1)]
  have s1:=lQ n1.1 n1.2 [Lib.itoa x.aE,x.Value.data.toList] false;have s2:=lQ n2.1 n2.2 [x.Value.data.toList] false;unfold fW xm;simp only[jc,s1,s2,show(fZ=fm)=False from eq_false (by decide),Qt,Qu,ow,pZ,Qp,decide_true,Bool.and_true]
  rw[<-hp,e2]
 by_cases h2:x.az=2
 ·have e1:bN x=[kO,Lib.itoa x.Count]:=by simp[bN,h2]
  have e2:bP x={Z0 with az:=2,Count:=x.Count}:=by simp[bP,h2]
  have e3:cK x=(cB x.Count):=by simp[cK,h2]
  rw[e3]at hok;have n1:=gR hok;unfold fe
  rw[e1,oQ _ _ (by
   intro w hw;simp only[QA,QR,or_false]at hw;rcases hw with rfl|rfl
   ·decide
   ·exact(cF n1.1 n1.2).1)]
  have s1:=lQ n1.1 n1.2 [] false;unfold fW;simp only[jc,s1,show(kO=fm)=False from eq_false (by decide),show(kO=fZ)=False from eq_false (by decide),Qt,Qu,ow,pZ,Qp,decide_true,Bool.and_true]
  rw[<-hp,e2]
 by_cases h4:x.az=4
 ·have e1:bN x=[kP,Lib.itoa x.aq]:=by simp[bN,h4]
  have e2:bP x={Z0 with az:=4,aq:=x.aq}:=by simp[bP,h4]
  have e3:cK x=(ct x.aq):=by simp[cK,h4]
  rw[e3]at hok;have n1:=ea hok;unfold fe
  rw[e1,oQ _ _ (by
   intro w hw;simp only[QA,QR,or_false]at hw;rcases hw with rfl|rfl
   ·decide
   ·exact(cF n1.1 n1.2).1)]
  have s1:=lQ n1.1 n1.2 [] false;unfold fW;simp only[jc,s1,show(kP=fm)=False from eq_false (by decide),show(kP=fZ)=False from eq_false (by decide),show(kP=kO)=False from eq_false (by decide),Qt,Qu,ow,pZ,Qp,decide_true,Bool.and_true]
  rw[<-hp,e2]
 by_cases h7:x.az=7
 ·have e1:bN x=[je,Lib.itoa x.aq,Lib.itoa x.To,Lib.itoa x.Count]:=by simp[bN,h7]
  have e2:bP x={Z0 with az:=7,aq:=x.aq,To:=x.To,Count:=x.Count}:=by simp[bP,h7]
  have e3:cK x=(ct x.aq&&(ct x.To&&cB x.Count)):=by simp[cK,h7]
  rw[e3,Qm,Qm]at hok;obtain⟨k1,k2,k3⟩:=hok;have n1:=ea k1;have n2:=ea k2;have n3:=gR k3;unfold fe
  rw[e1,oQ _ _ (by
   intro w hw;simp only[QA,QR,or_false]at hw;rcases hw with rfl|rfl|rfl|rfl
   ·decide
   ·exact(cF n1.1 n1.2).1
   ·exact(cF n2.1 n2.2).1
   ·exact(cF n3.1 n3.2).1)]
  have s1:=lQ n1.1 n1.2 [Lib.itoa x.To,Lib.itoa x.Count] false;have s2:=lQ n2.1 n2.2 [Lib.itoa x.Count] false;have s3:=lQ n3.1 n3.2 [] false;unfold fW;simp only[jc,s1,s2,s3,show(je=fm)=False from eq_false (by decide),show(je=fZ)=False from eq_false (by decide),show(je=kO)=False from eq_false (by decide),show(je=kP)=False from eq_false (by decide),Qt,Qu,ow,pZ,Qp,decide_true,Bool.and_true]
  rw[<-hp,e2]
 by_cases h5:x.az=5
 ·have e1:bN x=[om,Lib.itoa x.aq,Lib.itoa x.To,Lib.itoa x.af.aE,x.af.ai.aj.Value.data.toList]:=by simp[bN,h5]
  have e2:bP x=mg x.aq x.To x.af.aE x.af.ai.aj.Value:=by simp[bP,h5]
  have e3:cK x=(ct x.aq&&(ct x.To&&(cB x.af.aE&&dE x.af.ai.aj.Value))):=by simp[cK,h5]
  rw[e3,Qm,Qm,Qm]at hok;obtain⟨k1,k2,k3,k4⟩:=hok;have n1:=ea k1;have n2:=ea k2;have n3:=gR k3;unfold fe
  rw[e1,oQ _ _ (by
   intro w hw;simp only[QA,QR,or_false]at hw;rcases hw with rfl|rfl|rfl|rfl|rfl
   ·decide
   ·exact(cF n1.1 n1.2).1
   ·exact(cF n2.1 n2.2).1
   ·exact(cF n3.1 n3.2).1
   ·exact(tO k4).1)]
  have s1:=lQ n1.1 n1.2 [Lib.itoa x.To,Lib.itoa x.af.aE,x.af.ai.aj.Value.data.toList] false;have s2:=lQ n2.1 n2.2 [Lib.itoa x.af.aE,x.af.ai.aj.Value.data.toList] false;have s3:=lQ n3.1 n3.2 [x.af.ai.aj.Value.data.toList] false;unfold fW;simp only[jc,s1,s2,s3,show(om=fm)=False from eq_false (by decide),show(om=fZ)=False from eq_false (by decide),show(om=kO)=False from eq_false (by decide),show(om=kP)=False from eq_false (by decide),show(om=je)=False from eq_false (by decide),show(om=jK)=False from eq_false (by decide),show(om=eQ)=False from eq_false (by decide),Qt,Qu,ow,pZ,Qp,decide_true,Bool.and_true]
  rw[<-e2,hp]
 by_cases h6:x.az=6
 ·have e1:bN x=jK::x.bx.map Lib.itoa:=by simp[bN,h6]
  have e2:bP x={Z0 with az:=6,bx:=x.bx}:=by simp[bP,h6]
  have e3:cK x=(decide (0<x.bx.length)&& !(x.bx.any fun n=> !lG n)):=by simp[cK,h6]
  rw[e3,Qm]at hok;have hall:∀n∈x.bx,lG n=true:=by simpa using hok.2
  unfold fe
  rw[e1,oQ _ _ (by
   intro w hw;rcases QA.1 hw with rfl|hw
   ·decide
   ·obtain⟨n,hn,rfl⟩:=QP.1 hw;have:=ES (hall n hn)
    exact(cF this.1 this.2).1)]
  have s1:=HU x.bx false hall;unfold fW;simp only[jc,s1,show(jK=fm)=False from eq_false (by decide),show(jK=fZ)=False from eq_false (by decide),show(jK=kO)=False from eq_false (by decide),show(jK=kP)=False from eq_false (by decide),show(jK=je)=False from eq_false (by decide),Qt,Qu,ow,Qp,decide_true,Bool.and_true]
  rw[<-hp,e2]
 by_cases h3:x.az=3
 ·have e1:bN x=[eQ,Lib.itoa x.aq,rA x.aa]:=by simp[bN,h3]
  have e2:bP x={Z0 with az:=3,aq:=x.aq,aa:=x.aa}:=by simp[bP,h3]
  have e3:cK x=(ct x.aq&&decide (mH x.aa=0)):=by simp[cK,h3]
  rw[e3,Qm,Qi]at hok;have n1:=ea hok.1;have hg:=h.fp h3;have hT:rA x.aa=fg x.aa:=by unfold rA;rw[Qr hok.2]
  have hwl:=wY x.aa h.bd.aN;have hww:=Oi hg
  have hpar:mW (fg x.aa)=(x.aa,0):=by
   unfold mW;rw[Qs (by omega),VU hg,Qr ⟨rfl,rfl⟩,Qr hok.2]
  unfold fe;rw[e1,hT,vV,vV,Lib.join_one];rw[show eQ++[32]++(Lib.itoa x.aq++[32]++fg x.aa)=eQ++32::(Lib.itoa x.aq++32::fg x.aa)by simp,za _ (by decide),za _ (cF n1.1 n1.2).1]
  have s1:=lQ n1.1 n1.2 (eE 32 (fg x.aa)) false;unfold fW;simp only[jc,s1,show(eQ=fm)=False from eq_false (by decide),show(eQ=fZ)=False from eq_false (by decide),show(eQ=kO)=False from eq_false (by decide),show(eQ=kP)=False from eq_false (by decide),show(eQ=je)=False from eq_false (by decide),show(eQ=jK)=False from eq_false (by decide),Qt,Qu,ow,Od,hpar,Qp,decide_true,Qo,Bool.or_false,Bool.and_true]
  rw[<-hp,e2]
 exfalso;simp[cK,h1,h8,h2,h4,h7,h6,h3,h5]at hok
end
section
open Go.TQ Go.Proofs
 def mT(x:aI):bu×Bool:=match db x with
 |some (y,b,_)=>(y.data.toList,b)
 |none=>([],false)
theorem WJ{x:aI}(h:mG x):db x=some (bs (mT x).1,(mT x).2,()):=by
 obtain⟨y,b,e,_⟩:=Hy h;unfold mT;rw[e];rfl
theorem WI{x:aI}(h:uQ x):mT x=(fe x,true):=by
 unfold mT;rw[Jr h.bd h.plain h.ok];rfl
theorem UJ{x:aI}(h:mG x):(mT x).2=true->(mT x).1=fe x:=by
 obtain⟨y,b,e,k⟩:=Hy h;unfold mT;rw[e];intro hb;exact(k hb).1
def jJ(y:bu):bu:=Lib.trimSuffix y [10]
theorem Sk(y:bu):jJ (y++[10])=y:=by
 unfold jJ Lib.trimSuffix
 have:Lib.hasSuffix (y++[10]) [10]=true:=by
  unfold Lib.hasSuffix;rw[List.isSuffixOf_iff_suffix];exact⟨y,rfl⟩
 rw[Qr this];simp
theorem WD(y:bu):(jJ y).length<=y.length:=by
 unfold jJ Lib.trimSuffix;split
 ·rw[List.length_take];omega
 ·exact QI _
 def IV:Nat->List bu->List aI->List aI×Int×Int
 |_,[],acc=>(acc,0,0)
 |i,y::ys,acc=>
  if(fW (eE 32 (jJ y))).2=true/\(mT (fW (eE 32 (jJ y))).1).2=true/\(mT (fW (eE 32 (jJ y))).1).1++[10]=y
  then IV (i+1) ys (acc++[(fW (eE 32 (jJ y))).1])else([],(i+1:Nat),2)
theorem Ui{x:aI}(h:mG x):(∀w∈bN x,w.length<=4000000)/\(bN x).length<=30001:=by
 have a1:=ch h.aG;have a2:=ch h.bj;have a3:=ch h.count;have a4:=ch h.to;have a5:=ch h.mX;have a6:x.Value.data.toList.length<=1000000:=h.value;have a7:x.af.ai.aj.Value.data.toList.length<=1000000:=h.sM;have a8:=qt h.aN h.pj;have a9:=h.parts;have c1:fm.length=7:=rfl;have c2:fZ.length=6:=rfl;have c3:kO.length=4:=rfl;have c4:kP.length=4:=rfl;have c5:je.length=5:=rfl;have c6:jK.length=4:=rfl;have c7:eQ.length=7:=rfl;have c8:om.length=3:=rfl
 have hp:∀w∈x.bx.map Lib.itoa,w.length<=4000000:=fun w hw=>by
  obtain⟨n,hn,rfl⟩:=QP.1 hw;have:=ch (h.part n hn);omega
 unfold bN
 repeat' split
 all_goals simp only[QA,QR,or_false,forall_eq_or_imp,forall_eq,QE,QY,QC,false_imp_iff,implies_true,true_and]
 all_goals first
  |omega
  |exact⟨⟨by omega,hp⟩,by omega⟩
theorem Xv{x:aI}(h:mG x):(fe x).length<=1000000000000:=by
 obtain⟨h1,h2⟩:=Ui h;have h3:=join_le [32] (bN x)
 have h4:∀ws:List bu,(∀w∈ws,w.length<=4000000)->Lib.lens ws<=4000000*ws.length:=by
  intro ws
  induction ws with
  |nil=>intro _;exact QI _
  |cons w ws ih=>
   intro h;have:=ih fun y hy=>h y (by simp[hy])
   have:=h w (by simp)
   simp only[Lib.lens,QD,List.sum_cons,QE]at*;omega
 have h5:=h4 _ h1;unfold fe;simp only[QE,QY]at h3;omega
 def yb(r3:List ByteArray)(v4:Int×(List aI)×Unit):Option ((Int×(List aI)×Unit)⊕((List aI)×Int×Int×Unit)):=
 bif (decide (v4.1<((List.length r3:Nat):Int)))then
  Option.bind (idx r3 v4.1) fun x5=>
  Option.bind (r3[(Int.toNat v4.1)]?) fun x6=>
  Option.bind (lL x6 (ByteArray.mk #[10])) fun r7=>
  Option.bind (lE r7) fun r8=>
  Option.bind (db r8.1) fun r9=>
  Option.bind (bif (!r8.2.1)then some true else some (!r9.2.1)) fun b10=>
  Option.bind (bif b10 then some true else Option.bind (cy r9.1 (ByteArray.mk #[10])) fun x11=>some (!decide (x11=x6))) fun b12=>
  bif b12 then Option.map Sum.inr (some (([]:List aI),(aB .i64 v4.1 (1:Int)),(2:Int),()))
  else bif aT 448 (List.length v4.2.1+List.length [r8.1])then some (Sum.inl ((aB .i64 v4.1 (1:Int)),(v4.2.1++[r8.1]),()))else none
 else Option.map Sum.inr (some (v4.2.1,(0:Int),(0:Int),()))
theorem S3(s:ByteArray):jh s=
  Option.bind (bif (decide ((20000:Int)<((ByteArray.size s:Nat):Int)))then some true else Option.bind (qc s (ByteArray.mk #[10])) fun r1=>some (decide ((300:Int)<r1))) fun b2=>
  bif b2 then some (([]:List aI),(0:Int),(3:Int),())
  else Option.bind (Fx s) fun r3=>aD (yb r3) ((0:Int),([]:List aI),()):=by
 unfold jh yb;simp only[Go.Proofs.YtnhgcpiljggmmaaGreatDoor.et]
theorem acv(y:bu)(h:y.length<=20001):mG (fW (eE 32 y)).1:=by
 refine Zg _ (P4 y (by omega)) ?_
 have:=(Hj 32 y).1;omega
theorem Vo(r3:List bu)(hr:∀y∈r3,y.length<=20001)(hn:r3.length<=20001):∀(ys pre:List bu) (acc:List aI),r3=pre++ys->acc.length<=pre.length->
  aD (yb (r3.map bs)) ((pre.length:Int),acc,())=some ((IV pre.length ys acc).1,(IV pre.length ys acc).2.1,(IV pre.length ys acc).2.2,())
 |[],pre,acc,he,ha=>by
  refine cd ?_;unfold yb;simp only[];rw[Qh (by rw[QC,he];simp),Ql]
  rfl
 |y::ys,pre,acc,he,ha=>by
  have hlen:r3.length=pre.length+ys.length+1:=by rw[he];simp;omega
  have hy:=hr y (by rw[he];simp)
  have hx:(r3.map bs)[pre.length]?=some (bs y):=by rw[he];simp
  have ht:=WD y;have hb:=acv (jJ y) (by omega)
  have e1:lL (bs y) (ByteArray.mk #[10])=some (bs (jJ y)):=by
   show EK (bs y) (bs [10])=_;unfold EK;rw[Qr (by rw[dI];omega)]
   rfl
  have hadd:aB .i64 (pre.length:Int) 1=((pre.length+1:Nat):Int):=by rw[bY (by omega) (by omega)];omega
  have hstep:yb (r3.map bs) ((pre.length:Int),acc,())=
    if(fW (eE 32 (jJ y))).2=true/\(mT (fW (eE 32 (jJ y))).1).2=true/\(mT (fW (eE 32 (jJ y))).1).1++[10]=y
    then some (Sum.inl (((pre.length+1:Nat):Int),acc++[(fW (eE 32 (jJ y))).1],()))else some (Sum.inr ([],((pre.length+1:Nat):Int),2,())):=by
   unfold yb;simp only[];rw[Qg (by rw[QC];omega),Qk,bA,hx,Qa,QV,hx,Qa,e1,Qa,Zf (jJ y) (by omega),Qa]
   simp only[];rw[WJ hb,Qa];simp only[]
   have hsl:(mT (fW (eE 32 (jJ y))).1).2=true->(mT (fW (eE 32 (jJ y))).1).1.length<=1000000000000:=fun h=>by
    rw[UJ hb h];exact Xv hb
   generalize fW (eE 32 (jJ y))=q at*;generalize mT q.1=p at*;obtain⟨px,pb⟩:=p;obtain⟨qx,qb⟩:=q;simp only at*
   cases qb with
   |false=>
    rw[Qs (by simp)]
    simp only[Qp,Qk,Qa];rw[hadd];rfl
   |true=>
    cases pb with
    |false=>
     rw[Qs (by simp)]
     simp only[Qo,Ql,Qp,Qk,Qa];rw[hadd];rfl
    |true=>
     simp only[Qo,Ql,Qa,true_and];have hl:=hsl rfl;rw[show cy (bs px) (ByteArray.mk #[10])=some (bs (px++[10]))from AU px [10] (by simp;omega),Qa]
     simp only[Qa];rw[OW]
     by_cases hp:px++[10]=y
     ·rw[Qr hp,Qg hp,Qo,Ql,vP (by simp;omega) (by simp;omega),Qk,hadd]
     ·rw[Qs hp,Qh hp,Qp,Qk,hadd];rfl
  rw[IV]
  by_cases hc:(fW (eE 32 (jJ y))).2=true/\(mT (fW (eE 32 (jJ y))).1).2=true/\(mT (fW (eE 32 (jJ y))).1).1++[10]=y
  ·rw[Qr hc]at hstep ⊢;refine(cm hstep).trans ?_;have:=Vo r3 hr hn ys (pre++[y]) (acc++[(fW (eE 32 (jJ y))).1]) (by rw[he];simp) (by simp;omega)
   rw[show(pre++[y]).length=pre.length+1 by simp]at this
   exact this
  ·rw[Qs hc]at hstep ⊢;exact cd hstep
end
section
open Go.TQ Go.Proofs
 def uu(l:bu):List bu:=(eB l.length (bs l)).map (·.data.toList)
theorem Ig:∀(f:Nat) (s:ByteArray),s.size<=f->((eB f s).map (·.data.toList)).flatten=s.data.toList/\∀y∈(eB f s).map (·.data.toList),1<=y.length
 |0,s,h=>by
  have:s.data.toList=[]:=Qq66 (by rw[<-size_data];omega)
  rw[this];exact⟨rfl,fun y hy=>by cases hy⟩
 |f+1,s,h=>by
  rw[eB];split
  ·rename_i h0;have:s.data.toList=[]:=Qq66 (by rw[<-size_data];omega)
   rw[this];exact⟨rfl,fun y hy=>by cases hy⟩
  ·rename_i h0;split
   ·rename_i hE;have hlt:=Ih s hE;generalize (jT s).toNat=k at*;obtain⟨i1,i2⟩:=Ig f (s.extract (k+1) s.size) (by rw[ByteArray.size_extract];omega)
    have e:∀i j,(s.extract i j).data.toList=(s.data.toList.drop i).take (j - i):=fun i j=>by
     have:=xQ s.data.toList i j;rw[pZ]at this;rw[this,yi]
    rw[QD,List.flatten_cons,i1,e,e];have hs:s.data.toList.length=s.size:=rfl;constructor
    ·rw[List.drop_zero,Nat.sub_zero,List.take_of_length_le (l:=List.drop (k+1) s.data.toList) (by rw[List.length_drop];omega),List.take_append_drop]
    ·intro y hy;rcases QA.1 hy with rfl|hy
     ·rw[List.length_take,List.length_drop];omega
     ·exact i2 y hy
   ·refine⟨by simp,fun y hy=> ?_⟩
    rw[QD,QO,Q4]at hy;rw[hy,<-size_data];omega
theorem Ov:∀{ys:List bu} {y:bu},y∈ys->y.length<=ys.flatten.length
 |x::ys,y,h=>by
  rw[List.flatten_cons,QB];rcases QA.1 h with rfl|h
  ·omega
  ·have:=Ov h;omega
theorem Le:∀{ys:List bu},(∀y∈ys,1<=y.length)->ys.length<=ys.flatten.length
 |[],_=>QI _
 |x::ys,h=>by
  have h1:=h x (by simp)
  have h2:=Le (ys:=ys) fun y hy=>h y (by simp[hy])
  rw[List.flatten_cons,QB,QE];omega
theorem PA(l:bu):(uu l).flatten=l/\∀y∈uu l,1<=y.length:=Ig l.length (bs l) (QI _)
theorem Ge(ls:List bu)(h:∀x∈ls,(10:UInt8)∉x):uu (fR ls)=ls.map (·++[10]):=by
 unfold uu;rw[DO ls _ h (QI _),List.map_map];rfl
 def w7(l:bu):List aI×Int×Int:=if 20000<l.length\/300<l.count 10 then([],0,3)else IV 0 (uu l) []
theorem KN(l:bu)(h0:l.length<=1000000):jh (bs l)=some ((w7 l).1,(w7 l).2.1,(w7 l).2.2,()):=by
 rw[S3];unfold w7
 have hc:qc (bs l) (ByteArray.mk #[10])=some ((l.count 10:Nat):Int):=by
  show Bj (bs l) (bs [10])=_;unfold Bj;rw[Qr ⟨by rw[dI];omega,by simp⟩]
  congr 2;exact Lib.count_one 10 l
 by_cases h1:20000<l.length
 ·rw[Qr (.inl h1),Qg (show(20000:Int)<(((bs l).size:Nat):Int)by rw[dI];omega)]
  rfl
 ·rw[Qh (show¬(20000:Int)<(((bs l).size:Nat):Int)by rw[dI];omega),Ql,hc,Qa,Qa]
  by_cases h2:300<l.count 10
  ·rw[Qr (.inr h2),Qg (by omega)]
   rfl
  ·rw[Qs (by omega),Qh (by omega),Ql]
   have hl:Fx (bs l)=some ((uu l).map bs):=by
    show A9 (bs l)=_;unfold A9;rw[Qr (by rw[dI];omega),dI]
    unfold uu;rw[List.map_map,show(bs∘fun x:ByteArray=>x.data.toList)=id from funext pZ,List.map_id]
   rw[hl,Qa];obtain⟨f1,f2⟩:=PA l;exact Vo (uu l) (fun y hy=>by have:=Ov hy;rw[f1]at this;omega) (by have:=Le f2;rw[f1]at this;omega) (uu l) [] [] rfl (QI _)
theorem Tt:∀(xs:List aI) (i:Nat) (ys:List bu) (acc:List aI),(∀x∈xs,uQ x)->IV i (xs.map (fun x=>fe x++[10])++ys) acc=IV (i+xs.length) ys (acc++xs)
 |[],i,ys,acc,_=>by simp
 |x::xs,i,ys,acc,h=>by
  have hx:=h x (by simp)
  rw[QD,List.cons_append,IV,Sk,UU hx];simp only[];rw[WI hx,Qr (by simp),Tt xs (i+1) ys (acc++[x]) fun y hy=>h y (by simp[hy])]
  simp only[QE,QL,List.singleton_append];congr 1;omega
theorem VW:∀(xs:List aI) (a:bu),(∀x∈xs,uQ x)->a.length+(fR (xs.map fe)).length<=1000000000->zZ (fun b0=>db b0) xs a=some (a++fR (xs.map fe),true)
 |[],a,_,_=>by simp[zZ,fR]
 |x::xs,a,h,ha=>by
  have hx:=h x (by simp)
  rw[QD,sB]at ha ⊢;rw[QB,QE]at ha;rw[zZ,Jr hx.bd hx.plain hx.ok,Qa];show(if a.length+(bs (fe x)).size+1<=140737488355328 then zZ (fun b0=>db b0) xs (a++((bs (fe x)).data.toList++[10]))else none)=_
  rw[Qr (by rw[dI];omega),yi,VW xs _ (fun y hy=>h y (by simp[hy])) (by simp only[QB,QE,QY];omega)]
  simp
theorem VT(xs:List aI)(h:∀x∈xs,uQ x)(hn:xs.length<=300)(hl:(fR (xs.map fe)).length<=1000000000):mF xs=some (bs (fR (xs.map fe)),0,()):=by
 show yg (fun b0=>db b0) xs=_
 unfold yg;rw[Qs (by omega),VW xs [] h (by simpa using hl)]
 rfl
theorem I3:∀(ls:List bu),(∀x∈ls,(10:UInt8)∉x)->(fR ls).count 10=ls.length
 |[],_=>rfl
 |x::ls,h=>by
  rw[sB,List.count_append,List.count_cons_self,List.count_eq_zero_of_not_mem (h x (by simp)),I3 ls fun y hy=>h y (by simp[hy]),QE]
  omega
structure O8 (xs:List aI):Prop where
 ok:∀x∈xs,uQ x
 VY:xs.length<=100
 nl:∀x∈xs,(10:UInt8)∉fe x
 short:(fR (xs.map fe)).length<=9000
theorem UQ{xs:List aI}(h:O8 xs):w7 (fR (xs.map fe))=(xs,0,0):=by
 have hnl:∀y∈xs.map fe,(10:UInt8)∉y:=fun y hy=>by
  obtain⟨x,hx,rfl⟩:=QP.1 hy;exact h.nl x hx
 unfold w7;have h1:=h.short;have h2:=h.VY;rw[Qs (by rw[I3 _ hnl,QC];omega),Ge _ hnl,List.map_map]
 have:=Tt xs 0 [] [] h.ok;rw[List.append_nil]at this;exact this
theorem Su{xs:List aI}(h:O8 xs):mF xs=some (bs (fR (xs.map fe)),0,()):=
 VT xs h.ok (by have:=h.VY;omega) (by have:=h.short;omega)
end
section
open Go.TQ Go.Proofs
def jf:aI:={Z0 with az:=8,aE:=1,Value:=bs [97]}
theorem Mt:uQ jf:=by
 refine⟨{nV with bj:=⟨by show(-9223372036854775808:Int)<=1;omega,by show(1:Int)<=9223372036854775807;omega⟩,value:=by show(1:Nat)<=1000000;omega},by simp[bP,jf,Z0],?_,fun h=> ?_⟩
 ·have:cK jf=(ct jf.aq&&(cB jf.aE&&dE jf.Value)):=by simp[cK,jf]
  rw[this]
  decide
 ·have:jf.az=8:=rfl;rw[this]at h;omega
theorem J7:fe jf=[112,114,101,102,101,114,32,48,32,49,32,97]:=by
 unfold fe;have:bN jf=[fZ,Lib.itoa jf.aq,Lib.itoa jf.aE,jf.Value.data.toList]:=by simp[bN,jf]
 rw[this];have h0:Lib.itoa jf.aq=[48]:=by show Lib.itoa 0=_;rw[nJ (by omega) (by omega)];rfl
 have h1:Lib.itoa jf.aE=[49]:=by show Lib.itoa 1=_;rw[nJ (by omega) (by omega)];rfl
 rw[h0,h1];rfl
theorem abj:vw=some true:=by
 unfold vw;have hp:=KN [112,114,101,102,101,114,32,48,32,49,32,97,10] (by decide)
 have hl:w7 [112,114,101,102,101,114,32,48,32,49,32,97,10]=([jf],0,0):=by
  unfold w7;rw[Qs (by decide)]
  have ht:([112,114,101,102,101,114,32,48,32,49,32,97,10]:bu)=fR [fe jf]:=by rw[J7];rfl
  rw[ht,Ge _ (by rw[J7];decide)]
  have:=Tt [jf] 0 [] [] (by intro x hx;rw[Q4.1 hx];exact Mt)
  rw[List.append_nil]at this;exact this
 rw[hl]at hp;rw[show(ByteArray.mk #[112,114,101,102,101,114,32,48,32,49,32,97,10])=bs [112,114,101,102,101,114,32,48,32,49,32,97,10]from rfl,hp,Qa]
 have hs:=Jr Mt.bd Mt.plain Mt.ok;rw[J7]at hs;rw[show(aI.mk (8:Int) (0:Int) (0:Int) (1:Int) (0:Int) (ByteArray.mk #[97]) (ab.mk (0:Int) ([]:List Int) ([]:List ab)) (aQ.mk (0:Int) (0:Int) (ax.mk (0:Int) (0:Int) (ab.mk (0:Int) ([]:List Int) ([]:List ab)) ([]:List ByteArray) ([]:List ByteArray)) (ak.mk (0:Int) (0:Int) (0:Int) (ab.mk (0:Int) ([]:List Int) ([]:List ab)) (0:Int) zB zB zB (0:Int) (0:Int))) ([]:List Int))=jf from rfl,hs]
 rfl
structure ae8:Prop where
 qK:∀s,fh s->∀n:Int,1<=n->n<=4->Yd (oK s n) fun p=>fh p.2/\0<=p.1/\p.1<1024
 lines:∀s,fh s->∀n qK:Int,1<=n->n<=4->0<=qK->qK<1024->Yd (pO s n qK) fun p=>fh p.2/\O8 p.1
 refl:∀xs,O8 xs->Mg xs xs=some true
end
section
open Go.TQ Go.Proofs
 instance:DecidableEq ab:=fun a b=>Classical.propDecidable (a=b)
theorem Lh{α:Type}{f g:α->α->Option Bool}:∀(a b:List α),(∀x∈a,∀y∈b,f x y=g x y)->vD f a b=vD g a b
 |[],b,_=>by rw[vD.eq_2 f [] b (by simp),vD.eq_2 g [] b (by simp)]
 |x::a,[],_=>rfl
 |x::a,y::b,h=>by
  rw[vD,vD,h x (by simp) y (by simp),Lh a b fun u hu v hv=>h u (by simp[hu]) v (by simp[hv])]
theorem ab3(a b:List Int)(h:a.length<=1000000000):mu a b=some (decide (a=b)):=tU a b h
theorem ab4(a b:List Int)(h:a.length<=1000000000):oH a b=some (decide (a=b)):=tU a b h
theorem Uw(a b:List ByteArray)(h:a.length<=1000000000):lU a b=some (decide (a=b)):=xa a b h
theorem Sx{n:Nat}:∀{a b:ab},SizeOf.sizeOf a<n->dM a->dM b->kK n (a,b,())=some (decide (a=b)):=by
 induction n with
 |zero=>intro a b h;omega
 |succ n ih=>
  intro a b h ha hb;show kM (kK n) a b=_;have h1:a.aH.length<=10000/\a.aL.length<=10000/\∀u∈a.aL,dM u:=by cases ha with|mk _ _ h1 _ h3 h4=>exact⟨h1,h3,h4⟩
  have h2:∀u∈b.aL,dM u:=by cases hb with|mk _ _ _ _ _ h4=>exact h4
  have hin:=fun(hl:a.aL.length=b.aL.length)=>(Bh (fun x y=>kK n (ae x,ae y,())) a.aL b.aL hl (by omega)).trans ((Lh a.aL b.aL fun x hx y hy=>by
   rw[et,et]
   exact ih (by have:=jt hx;omega) (h1.2.2 x hx) (h2 y hy)).trans (Fi a.aL b.aL hl))
  have key:decide (a=b)=(decide (a.aM=b.aM)&&(decide (a.aH=b.aH)&&decide (a.aL=b.aL))):=by
   rw[QW];simp only[Qi,Qm];cases a;cases b;simp
  rw[key];unfold kM;rw[ab4 _ _ (by omega)]
  cases decide (a.aM=b.aM)with
  |false=>rfl
  |true=>
   cases decide (a.aH=b.aH)with
   |false=>rfl
   |true=>
    by_cases hl:a.aL.length=b.aL.length
    ·rw[show decide (((List.length a.aL:Nat):Int)=((List.length b.aL:Nat):Int))=true from Qg (by omega)]
     exact hin hl
    ·rw[show decide (((List.length a.aL:Nat):Int)=((List.length b.aL:Nat):Int))=false from Qh (by omega),Qh (fun e=>hl (by rw[e]))]
     rfl
theorem Jp{a b:ab}(ha:dM a)(hb:dM b):dy a b=some (decide (a=b)):=Sx (by omega) ha hb
 instance:DecidableEq aI:=fun a b=>Classical.propDecidable (a=b)
 instance:DecidableEq aQ:=fun a b=>Classical.propDecidable (a=b)
 instance:DecidableEq ak:=fun a b=>Classical.propDecidable (a=b)
 instance:DecidableEq ax:=fun a b=>Classical.propDecidable (a=b)
theorem Cp(a b:Bool):(bif a then some b else some false)=some (a&&b):=by cases a<;>rfl
theorem V1{a b:ak}(ha:dM a.aa)(hb:dM b.aa):iS a b=some (decide (a=b)):=by
 unfold iS;simp only[Go.Proofs.YtnhgcpiljggmmaaGreatDoor.et,Jp ha hb,Qa,Cp,z7];congr 1;rw[QW];cases a;cases b;rename_i x _ _ _ _ _ _ y _ _ _ _;simp only[Qm,Qi,ak.mk.injEq];constructor
 ·rintro⟨⟨⟨⟨⟨⟨⟨⟨⟨h1,h2⟩,h3⟩,h4⟩,h5⟩,h6⟩,h7⟩,h8⟩,h9⟩,h10⟩;refine⟨h1,h2,h3,h4,h5,?_,?_,?_,h9,h10⟩
  ·exact ao.mk.injEq ..▸h6
  ·exact ao.mk.injEq ..▸h7
  ·exact ao.mk.injEq ..▸h8
 ·rintro⟨rfl,rfl,rfl,rfl,rfl,rfl,rfl,rfl,rfl,rfl⟩;simp
theorem Vu{a b:ax}(ha:dM a.aa)(hb:dM b.aa)(hv:a.cx.length<=1000000)(hc:a.bo.length<=1000000):jg a b=some (decide (a=b)):=by
 unfold jg;simp only[Go.Proofs.YtnhgcpiljggmmaaGreatDoor.et,Jp ha hb,Qa,Cp,Uw a.cx b.cx (by omega),Uw a.bo b.bo (by omega)]
 congr 1;rw[QW];cases a;cases b;simp only[Qm,Qi,ax.mk.injEq];constructor
 ·rintro⟨⟨⟨⟨h1,h2⟩,h3⟩,h4⟩,h5⟩;exact⟨h1,h2,h3,h4,h5⟩
 ·rintro⟨h1,h2,h3,h4,h5⟩;exact⟨⟨⟨⟨h1,h2⟩,h3⟩,h4⟩,h5⟩
theorem VG{a b:aQ}(ha:Pc a)(hb:Pc b):jY a b=some (decide (a=b)):=by
 unfold jY rV;simp only[Go.Proofs.YtnhgcpiljggmmaaGreatDoor.et];rw[V1 ha.et hb.et,Vu ha.nt hb.nt ha.v ha.a];simp only[Qa,Cp];congr 1;rw[QW];cases a;cases b;simp only[Qm,Qi,aQ.mk.injEq];constructor
 ·rintro⟨⟨⟨h1,h2⟩,h3⟩,h4⟩;exact⟨h1,h2,h4,h3⟩
 ·rintro⟨h1,h2,h3,h4⟩;exact⟨⟨⟨h1,h2⟩,h4⟩,h3⟩
theorem aam{a b:aI}(ha:mG a)(hb:mG b):lq a b=some (decide (a=b)):=by
 unfold lq;simp only[Go.Proofs.YtnhgcpiljggmmaaGreatDoor.et];rw[Jp ha.aN hb.aN,VG ha.letter hb.letter,ab3 _ _ (by have:=ha.parts;omega)]
 simp only[Qa,Cp];congr 1;rw[QW];cases a;cases b;simp only[Qm,Qi,aI.mk.injEq];constructor
 ·rintro⟨⟨⟨⟨⟨⟨⟨⟨h1,h2⟩,h3⟩,h4⟩,h5⟩,h6⟩,h7⟩,h8⟩,h9⟩;exact⟨h1,h2,h3,h4,h5,h6,h7,h8,h9⟩
 ·rintro⟨h1,h2,h3,h4,h5,h6,h7,h8,h9⟩;exact⟨⟨⟨⟨⟨⟨⟨⟨h1,h2⟩,h3⟩,h4⟩,h5⟩,h6⟩,h7⟩,h8⟩,h9⟩
end
section
open Go.TQ Go.Proofs
theorem wrap_u64{n:Int}(h1:0<=n)(h2:n<18446744073709551616):IntKind.u64.wrap n=n:=by
 unfold IntKind.wrap;simp[IntKind.bits,IntKind.signed];omega
theorem wrap_u8{n:Int}(h1:0<=n)(h2:n<256):IntKind.u8.wrap n=n:=by
 unfold IntKind.wrap;simp[IntKind.bits,IntKind.signed];omega
theorem Kf{n:Int}(h1:0<=n)(h2:n<256):∃b,Bo [n]=some [b]:=by
 refine⟨UInt8.ofNat n.toNat,?_⟩;have:TQ.byteOf n=some (UInt8.ofNat n.toNat):=by unfold TQ.byteOf;rw[Qr ⟨h1,h2⟩]
 unfold Bo zg zg;rw[this]
def Sh(n:Nat)(o:Option ByteArray):Prop:=Yd o fun r=>r.size<=n
theorem cO{a b:ByteArray}{n m:Nat}(ha:a.size<=n)(hb:b.size<=m)(hn:n+m<=1000000):Sh (n+m) (cy a b):=by
 have:=AU a.data.toList b.data.toList (by rw[<-size_data,<-size_data];omega)
 rw[pZ,pZ]at this;refine⟨_,this,?_⟩;show(bs _).size<=_;rw[dI,QB,<-size_data,<-size_data];omega
theorem Pf:∀(m:Nat) (v:Int) (acc:ByteArray),v.toNat<=m->0<=v->v<10000->acc.size+m<=20000->
  Sh (acc.size+m+1) (aD (fun(v1:Int×ByteArray×Unit)=>
   bif (decide ((9:Int)<v1.1))then
    Option.bind (Bo [(bI .u8 (aB .u64 (48:Int) (Du .u64 v1.1 (10:Int))))]) fun x2=>Option.bind (cy (ByteArray.mk (List.toArray x2)) v1.2.1) fun x3=>some (Sum.inl ((yw .u64 v1.1 (10:Int)),x3,()))
   else Option.map Sum.inr (Option.bind (Bo [(bI .u8 (aB .u64 (48:Int) v1.1))]) fun x4=>Option.bind (cy (ByteArray.mk (List.toArray x4)) v1.2.1) fun x5=>some x5)) (v,acc,())):=by
 intro m
 induction m with
 |zero=>
  intro v acc hm h0 h1 ha;refine Yd.loop ?_;simp only[];rw[Qh (by omega),Ql]
  have e:bI .u8 (aB .u64 (48:Int) v)=48+v:=by unfold bI aB;rw[wrap_u64 (by omega) (by omega),wrap_u8 (by omega) (by omega)]
  obtain⟨b,hb⟩:=Kf (n:=48+v) (by omega) (by omega)
  rw[e,hb,Qa];obtain⟨r,hr,hrs⟩:=cO (a:=ByteArray.mk (List.toArray [b])) (b:=acc) (n:=1) (m:=acc.size) (QI _) (QI _) (by omega)
  rw[hr];exact⟨_,rfl,by show r.size<=acc.size+0+1;omega⟩
 |succ m ih=>
  intro v acc hm h0 h1 ha;refine Yd.loop ?_;simp only[]
  by_cases h9:9<v
  ·rw[Qg h9,Qk];have hr0:0<=v.tmod 10:=Int.tmod_nonneg _ h0;have hr1:v.tmod 10<10:=Int.tmod_lt_of_pos _ (by omega)
   have e:bI .u8 (aB .u64 (48:Int) (Du .u64 v 10))=48+v.tmod 10:=by unfold bI aB Du;rw[wrap_u64 (by omega) (by omega),wrap_u8 (by omega) (by omega)]
   obtain⟨b,hb⟩:=Kf (n:=48+v.tmod 10) (by omega) (by omega)
   rw[e,hb,Qa];obtain⟨r,hr,hrs⟩:=cO (a:=ByteArray.mk (List.toArray [b])) (b:=acc) (n:=1) (m:=acc.size) (QI _) (QI _) (by omega)
   have hq:v.tdiv 10=v / 10:=Int.tdiv_eq_ediv_of_nonneg h0;have e2:yw .u64 v 10=v / 10:=by unfold yw;rw[hq,wrap_u64 (by omega) (by omega)]
   rw[hr,Qa,e2];have:=ih (v / 10) r (by omega) (by omega) (by omega) (by omega)
   exact⟨_,rfl,this.mono fun x hx=>by omega⟩
  ·rw[Qh h9,Ql];have e:bI .u8 (aB .u64 (48:Int) v)=48+v:=by unfold bI aB;rw[wrap_u64 (by omega) (by omega),wrap_u8 (by omega) (by omega)]
   obtain⟨b,hb⟩:=Kf (n:=48+v) (by omega) (by omega)
   rw[e,hb,Qa];obtain⟨r,hr,hrs⟩:=cO (a:=ByteArray.mk (List.toArray [b])) (b:=acc) (n:=1) (m:=acc.size) (QI _) (QI _) (by omega)
   rw[hr];exact⟨_,rfl,by show r.size<=acc.size+(m+1)+1;omega⟩
theorem gC{n:Int}(h0:0<=n)(h1:n<10000):Sh 10001 (cL n):=by
 unfold cL;rw[Qh (by omega),Ql]
 have e:bI .u64 n=n:=by unfold bI;exact wrap_u64 h0 (by omega)
 rw[e];have:=Pf 10000 n (ByteArray.mk #[]) (by omega) h0 h1 (by show 0+10000<=20000;omega)
 refine Yd.bind (p:=fun r=>r.size<=10001) (this.mono fun r hr=> ?_) fun r hr=>⟨r,rfl,hr⟩
 have:(ByteArray.mk #[]).size=0:=rfl;omega
theorem Sh.bind{β:Type}{o:Option ByteArray}{n:Nat}{f:ByteArray->Option β}{p:β->Prop}(h:Sh n o)(k:∀r,r.size<=n->Yd (f r) p):Yd (o.bind f) p:=Yd.bind h k
theorem RG{n:Int}(h:im n):Sh 21 (eW n):=⟨_,B9 h,by show(bs _).size<=21;rw[dI];exact ch h⟩
def Sz(n:Nat)(o:Option ByteArray):Prop:=Yd o fun r=>r.size+2<=n
theorem UH{n:Nat}:∀{t:ab},SizeOf.sizeOf t<n->dM t->wT t<=1000->Yd (qS n (t,())) fun r=>r.size+2<=60*wT t:=by
 induction n with
 |zero=>intro t h;omega
 |succ n ih=>
  intro t h hb hw;show Yd (vA (qS n) t) _;obtain⟨th,ns,is⟩:=t;have h0:im th/\(∀x∈ns,im x)/\∀u∈is,dM u:=by cases hb with|mk _ h0 _ h2 _ h4=>exact⟨h0,h2,h4⟩
  simp only[wT]at hw ⊢;have hil:=MC is;unfold vA;refine(RG h0.1).bind fun r1 q1=> ?_
  refine(cO (b:=ByteArray.mk #[32,111,102,32,40]) q1 (show(ByteArray.mk #[32,111,102,32,40]).size<=5 from QI _) (by omega)).bind fun x2 q2=> ?_
  have inner:∀(l:List ab) (pre:List ab) (x y:ByteArray),is=pre++l->x.size+60*wL l<=30+25*ns.length+60*wL is->y.size<=2->Sz (60*(1+ns.length+wL is)) (aD (fun(v8:ByteArray×ByteArray×Int×Unit)=>
    bif (decide (v8.2.2.1<((List.length is:Nat):Int)))then
     Option.bind (idx is v8.2.2.1) fun x9=>Option.bind (cy v8.1 v8.2.1) fun x10=>Option.bind (qS n ((ae x9),())) fun r11=>Option.bind (cy x10 r11) fun x12=>some (Sum.inl (x12,(ByteArray.mk #[44,32]),(aB .i64 v8.2.2.1 (1:Int)),()))
    else Option.map Sum.inr (Option.bind (cy v8.1 (ByteArray.mk #[41])) fun x13=>some x13)) (x,y,(pre.length:Int),())):=by
   intro l
   induction l with
   |nil=>
    intro pre x y he hx hy;refine Yd.loop ?_;simp only[];rw[Qh (by rw[he];simp),Ql]
    refine Yd.inr ?_;refine(cO (n:=x.size) (m:=1) (b:=ByteArray.mk #[41]) (QI _) (QI _) (by omega)).bind fun z hz=> ?_
    exact⟨z,rfl,by simp only[wL]at hx;omega⟩
   |cons u l ihl=>
    intro pre x y he hx hy;have hlen:is.length=pre.length+l.length+1:=by rw[he];simp;omega
    have hu:u∈is:=by rw[he];simp
    have hwu:=MB hu;have h1u:1<=wT u:=by cases u;simp only[wT];omega
    refine Yd.loop ?_;simp only[];rw[Qg (by omega),Qk,bA,show is[pre.length]?=some u by rw[he];simp,Qa]
    refine(cO (n:=x.size) (m:=2) (QI _) hy (by omega)).bind fun x10 q10=> ?_
    rw[et];refine(ih (t:=u) (by have:=jt (t:=⟨th,ns,is⟩) hu;omega) (h0.2.2 u hu) (by omega)).bind fun r11 q11=> ?_
    refine(cO (n:=x.size+2) (m:=r11.size) q10 (QI _) (by omega)).bind fun x12 q12=> ?_
    rw[bY (by omega) (by omega)]
    have:=ihl (pre++[u]) x12 (ByteArray.mk #[44,32]) (by rw[he];simp) (by simp only[wL]at hx;omega) (QI _)
    rw[show(((pre++[u]).length:Nat):Int)=(pre.length:Int)+1 by simp]at this
    exact⟨_,rfl,this⟩
  have outer:∀(l:List Int) (pre:List Int) (x y:ByteArray),ns=pre++l->x.size+25*l.length<=30+25*ns.length->y.size<=2->Sz (60*(1+ns.length+wL is)) (aD (fun(v3:ByteArray×ByteArray×Int×Unit)=>
    bif (decide (v3.2.2.1<((List.length ns:Nat):Int)))then
     Option.bind (idx ns v3.2.2.1) fun x4=>Option.bind (cy v3.1 v3.2.1) fun x5=>Option.bind (eW x4) fun r6=>Option.bind (cy x5 r6) fun x7=>some (Sum.inl (x7,(ByteArray.mk #[44,32]),(aB .i64 v3.2.2.1 (1:Int)),()))
    else Option.map Sum.inr (aD (fun(v8:ByteArray×ByteArray×Int×Unit)=>
     bif (decide (v8.2.2.1<((List.length is:Nat):Int)))then
      Option.bind (idx is v8.2.2.1) fun x9=>Option.bind (cy v8.1 v8.2.1) fun x10=>Option.bind (qS n ((ae x9),())) fun r11=>Option.bind (cy x10 r11) fun x12=>some (Sum.inl (x12,(ByteArray.mk #[44,32]),(aB .i64 v8.2.2.1 (1:Int)),()))
     else Option.map Sum.inr (Option.bind (cy v8.1 (ByteArray.mk #[41])) fun x13=>some x13)) (v3.1,v3.2.1,(0:Int),()))) (x,y,(pre.length:Int),())):=by
   intro l
   induction l with
   |nil=>
    intro pre x y he hx hy;refine Yd.loop ?_;simp only[];rw[Qh (by rw[he];simp),Ql]
    refine Yd.inr ?_;exact inner is [] x y rfl (by simp at hx;omega) hy
   |cons u l ihl=>
    intro pre x y he hx hy;have hlen:ns.length=pre.length+l.length+1:=by rw[he];simp;omega
    have hu:u∈ns:=by rw[he];simp
    refine Yd.loop ?_;simp only[];rw[Qg (by omega),Qk,bA,show ns[pre.length]?=some u by rw[he];simp,Qa]
    refine(cO (n:=x.size) (m:=2) (QI _) hy (by omega)).bind fun x10 q10=> ?_
    refine(RG (h0.2.1 u hu)).bind fun r11 q11=> ?_
    refine(cO q10 q11 (by omega)).bind fun x12 q12=> ?_
    rw[bY (by omega) (by omega)]
    have:=ihl (pre++[u]) x12 (ByteArray.mk #[44,32]) (by rw[he];simp) (by simp at hx;omega) (QI _)
    rw[show(((pre++[u]).length:Nat):Int)=(pre.length:Int)+1 by simp]at this
    exact⟨_,rfl,this⟩
  exact outer ns [] x2 (ByteArray.mk #[]) rfl (by omega) (QS _)
theorem aa7{t:ab}(hb:dM t)(hw:wT t<=1000):Sh 60000 (vq t):=by
 unfold vq;rw[et,lZ hb.sm,Qa];refine Yd.cond (fun _=>⟨_,rfl,by show 1<=60000;omega⟩) fun _=> ?_
 refine Yd.bind (p:=fun r:ByteArray=>r.size<=60000) ((UH (n:=SizeOf.sizeOf t+1) (by omega) hb hw).mono fun r hr=>by omega) fun r hr=>⟨r,rfl,hr⟩
end
section
open Go.TQ Go.Proofs
theorem Rf{s:ByteArray}{i:Nat}(h:i<s.size):dY s (i:Int)=some (((s[i]'h).toNat:Nat):Int):=by
 unfold dY;rw[Qr (by omega),QV,getElem?_pos s i h]
 rfl
theorem Um{s:ByteArray}(hs:s.size<=100000000):uY s=some (dE s):=by
 have key:∀(k i:Nat),s.size=i+k->(∀(j:Nat) (hj:j<s.size),j<i->rZ (s[j]'hj).toNat=true)->aD (fun(v1:Int×Unit)=>
   bif (decide (v1.1<((ByteArray.size s:Nat):Int)))then
    Option.bind (dY s v1.1) fun x2=>Option.bind (bif (decide ((97:Int)<=x2))then Option.bind (dY s v1.1) fun x3=>some (decide (x3<=(122:Int)))else some false) fun b4=>
    Option.bind (bif b4 then some true else Option.bind (dY s v1.1) fun x5=>Option.bind (bif (decide ((48:Int)<=x5))then Option.bind (dY s v1.1) fun x6=>some (decide (x6<=(57:Int)))else some false) fun b7=>some b7) fun b8=>
    bif (!b8)then Option.map Sum.inr (some false)else some (Sum.inl ((aB .i64 v1.1 (1:Int)),()))
   else Option.map Sum.inr (Option.bind (bif (decide ((1:Int)<=((ByteArray.size s:Nat):Int)))then some (decide (((ByteArray.size s:Nat):Int)<=(20:Int)))else some false) fun b9=>some b9)) ((i:Int),())=some (dE s):=by
  intro k
  induction k with
  |zero=>
   intro i hi hj;refine cd ?_;simp only[];rw[Qh (by omega),Ql,Kq fun j hj'=>hj j hj' (by omega)]
   by_cases h1:1<=s.size
   ·rw[Qg (show(1:Int)<=((s.size:Nat):Int)by omega),Qg h1,Qk,Qa,Bool.true_and,show decide (((s.size:Nat):Int)<=20)=decide (s.size<=20)from decide_eq_decide.mpr (by omega)]
    rfl
   ·rw[Qh (show¬(1:Int)<=((s.size:Nat):Int)by omega),Qh h1]
    rfl
  |succ k ih=>
   intro i hi hj;have hlt:i<s.size:=by omega
   have e:rZ (s[i]'hlt).toNat=((decide ((97:Int)<=(((s[i]'hlt).toNat:Nat):Int))&&decide ((((s[i]'hlt).toNat:Nat):Int)<=122))||(decide ((48:Int)<=(((s[i]'hlt).toNat:Nat):Int))&&decide ((((s[i]'hlt).toNat:Nat):Int)<=57))):=by
    unfold rZ;rw[decide_eq_decide.mpr (show 97<=(s[i]'hlt).toNat↔(97:Int)<=(((s[i]'hlt).toNat:Nat):Int)by omega),decide_eq_decide.mpr (show(s[i]'hlt).toNat<=122↔(((s[i]'hlt).toNat:Nat):Int)<=122 by omega),decide_eq_decide.mpr (show 48<=(s[i]'hlt).toNat↔(48:Int)<=(((s[i]'hlt).toNat:Nat):Int)by omega),decide_eq_decide.mpr (show(s[i]'hlt).toNat<=57↔(((s[i]'hlt).toNat:Nat):Int)<=57 by omega)]
   cases hw:rZ (s[i]'hlt).toNat with
   |false=>
    rw[Hq hlt hw];refine cd ?_;simp only[];rw[Qg (by omega),Qk,Rf hlt]
    simp only[Qa];rw[hw]at e;revert e;cases decide ((97:Int)<=(((s[i]'hlt).toNat:Nat):Int))<;>cases decide ((((s[i]'hlt).toNat:Nat):Int)<=122)<;>cases decide ((48:Int)<=(((s[i]'hlt).toNat:Nat):Int))<;>cases decide ((((s[i]'hlt).toNat:Nat):Int)<=57)<;>intro e<;>first|rfl|cases e
   |true=>
    have hn:=ih (i+1) (by omega) fun j hj' hji=>by
     by_cases hh:j<i
     ·exact hj j hj' hh
     ·have:j=i:=by omega
      subst this;exact hw
    rw[<-hn];refine cm ?_;simp only[];rw[Qg (by omega),Qk,Rf hlt]
    simp only[Qa];rw[bY (by omega) (by omega),show(((i+1:Nat)):Int)=(i:Int)+1 by simp]
    rw[hw]at e;revert e;cases decide ((97:Int)<=(((s[i]'hlt).toNat:Nat):Int))<;>cases decide ((((s[i]'hlt).toNat:Nat):Int)<=122)<;>cases decide ((48:Int)<=(((s[i]'hlt).toNat:Nat):Int))<;>cases decide ((((s[i]'hlt).toNat:Nat):Int)<=57)<;>intro e<;>first|rfl|cases e
 exact key s.size 0 (by omega) fun j hj h=>by omega
theorem RL(n:Int):fO n 0 9=some (ct n):=by
 unfold fO ct;rw[show decide (n<=9)=decide (n<10)from decide_eq_decide.mpr (by omega)]
 cases decide (0<=n)<;>rfl
theorem XI(n:Int):fO n 1 1000=some (cB n):=by
 unfold fO cB;cases decide (1<=n)<;>rfl
theorem ab5(n:Int):fO n 1 1023=some (lG n):=by
 unfold fO lG;rw[show decide (n<=1023)=decide (n<1024)from decide_eq_decide.mpr (by omega)]
 cases decide (1<=n)<;>rfl
theorem adr(a b c:Int)(v:ByteArray):wN a b c v=some (mg a b c v):=by
 unfold wN wO;simp only[Qa,Go.Proofs.YtnhgcpiljggmmaaGreatDoor.et];rfl
theorem jB{n:Int}(h:ct n=true):0<=n/\n<10000:=by
 simp only[ct,Qm,Qi]at h;omega
theorem nK{n:Int}(h:cB n=true):0<=n/\n<10000:=by
 simp only[cB,Qm,Qi]at h;omega
theorem UO{n:Int}(h:lG n=true):0<=n/\n<10000:=by
 simp only[lG,Qm,Qi]at h;omega
theorem GA{s:ByteArray}(h:dE s=true):s.size<=20:=by
 simp only[dE,Qm,Qi]at h;omega
def YT{α:Type}(o:Option α):Prop:=Yd o fun _=>True
set_option maxRecDepth 200000 in
theorem abW{x:aI}(hx:mG x)(hw:wT x.aa<=1000)(hp:x.bx.length<=30)(hok:cK x=true):YT (uX x):=by
 unfold uX YT;simp only[Go.Proofs.YtnhgcpiljggmmaaGreatDoor.et];unfold cK at hok
 by_cases h1:x.az=1
 ·rw[Qr (Or.inl h1)]at hok;simp only[Qm]at hok;rw[Qg h1,Qk];refine(gC (jB hok.1).1 (jB hok.1).2).bind fun r1 q1=> ?_
  refine(cO (n:=20) (by decide) q1 (by omega)).bind fun x2 q2=> ?_
  refine(cO (m:=20) q2 (by decide) (by omega)).bind fun x3 q3=> ?_
  refine(gC (nK hok.2.1).1 (nK hok.2.1).2).bind fun r4 q4=> ?_
  refine(cO q3 q4 (by omega)).bind fun x5 q5=> ?_
  refine(cO (m:=20) q5 (by decide) (by omega)).bind fun x6 q6=> ?_
  refine(cO q6 (GA hok.2.2) (by omega)).bind fun x7 q7=> ?_
  exact⟨_,rfl,trivial⟩
 by_cases h8:x.az=8
 ·rw[Qr (Or.inr h8)]at hok;simp only[Qm]at hok;rw[Qh h1,Ql,Qg h8,Qk];refine(gC (jB hok.1).1 (jB hok.1).2).bind fun r1 q1=> ?_
  refine(cO (n:=20) (by decide) q1 (by omega)).bind fun x2 q2=> ?_
  refine(cO (m:=20) q2 (by decide) (by omega)).bind fun x3 q3=> ?_
  refine(gC (nK hok.2.1).1 (nK hok.2.1).2).bind fun r4 q4=> ?_
  refine(cO q3 q4 (by omega)).bind fun x5 q5=> ?_
  refine(cO (m:=20) q5 (by decide) (by omega)).bind fun x6 q6=> ?_
  refine(cO q6 (GA hok.2.2) (by omega)).bind fun x7 q7=> ?_
  exact⟨_,rfl,trivial⟩
 rw[Qs (by omega)]at hok
 rw[Qh h1,Ql,Qh h8,Ql]
 by_cases h2:x.az=2
 ·rw[Qr h2]at hok;rw[Qg h2,Qk];refine(gC (nK hok).1 (nK hok).2).bind fun r1 q1=> ?_
  refine(cO (n:=20) (by decide) q1 (by omega)).bind fun x2 q2=> ?_
  exact⟨_,rfl,trivial⟩
 rw[Qs h2]at hok;rw[Qh h2,Ql]
 by_cases h4:x.az=4
 ·rw[Qr h4]at hok;rw[Qg h4,Qk];refine(gC (jB hok).1 (jB hok).2).bind fun r1 q1=> ?_
  refine(cO (n:=20) (by decide) q1 (by omega)).bind fun x2 q2=> ?_
  exact⟨_,rfl,trivial⟩
 rw[Qs h4]at hok;rw[Qh h4,Ql]
 by_cases h7:x.az=7
 ·rw[Qr h7]at hok;simp only[Qm]at hok;rw[Qg h7,Qk];refine(gC (jB hok.1).1 (jB hok.1).2).bind fun r1 q1=> ?_
  refine(cO (n:=20) (by decide) q1 (by omega)).bind fun x2 q2=> ?_
  refine(cO (m:=20) q2 (by decide) (by omega)).bind fun x3 q3=> ?_
  refine(gC (jB hok.2.1).1 (jB hok.2.1).2).bind fun r4 q4=> ?_
  refine(cO q3 q4 (by omega)).bind fun x5 q5=> ?_
  refine(cO (m:=20) q5 (by decide) (by omega)).bind fun x6 q6=> ?_
  refine(gC (nK hok.2.2).1 (nK hok.2.2).2).bind fun r7 q7=> ?_
  refine(cO q6 q7 (by omega)).bind fun x7 q8=> ?_
  exact⟨_,rfl,trivial⟩
 rw[Qs h7]at hok;rw[Qh h7,Ql]
 by_cases h3:x.az=3
 ·rw[Qs (by omega),Qr h3]at hok
  simp only[Qm]at hok;rw[Qg h3,Qk];refine(gC (jB hok.1).1 (jB hok.1).2).bind fun r1 q1=> ?_
  refine(cO (n:=20) (by decide) q1 (by omega)).bind fun x2 q2=> ?_
  refine(cO (m:=20) q2 (by decide) (by omega)).bind fun x3 q3=> ?_
  refine(aa7 hx.aN hw).bind fun r4 q4=> ?_
  refine(cO q3 q4 (by omega)).bind fun x5 q5=> ?_
  exact⟨_,rfl,trivial⟩
 rw[Qh h3,Ql]
 by_cases h5:x.az=5
 ·rw[Qs (by omega),Qs h3,Qr h5]at hok
  simp only[Qm]at hok;rw[Qg h5,Qk];refine(gC (jB hok.1).1 (jB hok.1).2).bind fun r1 q1=> ?_
  refine(cO (n:=20) (by decide) q1 (by omega)).bind fun x2 q2=> ?_
  refine(cO (m:=20) q2 (by decide) (by omega)).bind fun x3 q3=> ?_
  refine(gC (jB hok.2.1).1 (jB hok.2.1).2).bind fun r4 q4=> ?_
  refine(cO q3 q4 (by omega)).bind fun x5 q5=> ?_
  refine(cO (m:=20) q5 (by decide) (by omega)).bind fun x6 q6=> ?_
  refine(gC (nK hok.2.2.1).1 (nK hok.2.2.1).2).bind fun r7 q7=> ?_
  refine(cO q6 q7 (by omega)).bind fun x7 q8=> ?_
  refine(cO (m:=20) q8 (by decide) (by omega)).bind fun x8 q9=> ?_
  refine(cO q9 (GA hok.2.2.2) (by omega)).bind fun x9 q10=> ?_
  exact⟨_,rfl,trivial⟩
 rw[Qh h5,Ql]
 by_cases h6:x.az=6
 ·rw[Qr h6]at hok;simp only[Qm,Bool.not_eq_true',List.any_eq_false]at hok;rw[Qg h6,Qk]
  have key:∀(l pre:List Int) (y:ByteArray),x.bx=pre++l->y.size+10100*l.length<=400000->Yd (aD (fun(v42:ByteArray×Int×Unit)=>
    bif (decide (v42.2.1<((List.length x.bx:Nat):Int)))then
     Option.bind (idx x.bx v42.2.1) fun x43=>Option.bind (cL x43) fun r44=>Option.bind (cy (ByteArray.mk #[32]) r44) fun x45=>Option.bind (cy v42.1 x45) fun x46=>some (Sum.inl (x46,(aB .i64 v42.2.1 (1:Int)),()))
    else Option.map Sum.inr (some v42.1)) (y,(pre.length:Int),())) fun _=>True:=by
   intro l
   induction l with
   |nil=>
    intro pre y he hy;refine Yd.loop ?_;simp only[];rw[Qh (by rw[he];simp),Ql]
    exact⟨_,rfl,trivial⟩
   |cons u l ihl=>
    intro pre y he hy;have hlen:x.bx.length=pre.length+l.length+1:=by rw[he];simp;omega
    have hu:u∈x.bx:=by rw[he];simp
    have hs:lG u=true:=by have:=hok.2 u hu;simpa using this
    rw[QE]at hy;refine Yd.loop ?_;simp only[];rw[Qg (by omega),Qk,bA,show x.bx[pre.length]?=some u by rw[he];simp,Qa]
    refine(gC (UO hs).1 (UO hs).2).bind fun r44 q44=> ?_
    refine(cO (n:=20) (by decide) q44 (by omega)).bind fun x45 q45=> ?_
    refine(cO (n:=y.size) (m:=10021) (QI _) q45 (by omega)).bind fun x46 q46=> ?_
    rw[bY (by omega) (by omega)]
    have:=ihl (pre++[u]) x46 (by rw[he];simp) (by omega)
    rw[show(((pre++[u]).length:Nat):Int)=(pre.length:Int)+1 by simp]at this
    exact⟨_,rfl,this⟩
  exact key x.bx [] _ rfl (show 4+10100*x.bx.length<=400000 by omega)
 rw[Qh h6,Ql];exact⟨_,rfl,trivial⟩
set_option maxHeartbeats 1000000 in
theorem abc{x:aI}(hx:mG x)(hw:wT x.aa<=1000)(hp:x.bx.length<=30):Yd (qT x) fun r=>r.2.1=true->bP x=x/\cK x=true:=by
 unfold qT;rw[RL,Qa];refine Yd.join (inv:=fun v:Bool×aI×Unit=>cK x=v.1/\({v.2.1 with az:=x.az}:aI)=bP x) ?_ fun j3 hj=> ?_
 ·intro v hv;obtain⟨b,want,u⟩:=v;have h1:cK x=b:=hv.1;have h2:({want with az:=x.az}:aI)=bP x:=hv.2
  simp only[Go.Proofs.YtnhgcpiljggmmaaGreatDoor.et]
  cases b with
  |false=>exact⟨_,rfl,fun h=>by cases h⟩
  |true=>
   have e:=aam hx (M9 hx);rw[<-h2]at e
   by_cases hh:x=bP x
   ·have e':lq x {want with az:=x.az}=some true:=by rw[e,h2,Qg hh]
    obtain⟨l,hl, -⟩:=abW hx hw hp h1;refine Yd.bind (p:=fun b5=>b5=false) ?_ fun b5 hb5=> ?_
    ·rw[Qo,Ql];exact⟨false,by rw[e'];rfl,rfl⟩
    ·subst hb5;rw[Ql];exact⟨(l,true,()),by rw[hl];rfl,fun _=>⟨hh.symm,h1⟩⟩
   ·have e':lq x {want with az:=x.az}=some false:=by rw[e,h2,Qh hh]
    refine Yd.bind (p:=fun b5=>b5=true) ?_ fun b5 hb5=> ?_
    ·rw[Qo,Ql];exact⟨true,by rw[e'];rfl,rfl⟩
    ·subst hb5;rw[Qk];exact⟨_,rfl,fun h=>by cases h⟩
 have hv:dE x.Value=dE x.Value:=rfl;have w1:=Um (s:=x.Value) (by have:=hx.value;omega)
 have w2:=Um (s:=x.af.ai.aj.Value) (by have:=hx.sM;omega)
 rw[bz];simp only[RL,XI,w1,w2,adr,lZ hx.aN.sm,Go.Proofs.YtnhgcpiljggmmaaGreatDoor.et,Qa]
 by_cases h1:x.az=1
 ·rw[Qg h1,Qk,Qk];have e:cK x=(ct x.aq&&(cB x.aE&&dE x.Value)):=by simp[cK,h1]
  have e2:bP x={Z0 with az:=x.az,aq:=x.aq,aE:=x.aE,Value:=x.Value}:=by simp[bP,h1]
  cases hn:ct x.aq<;>cases hc:cB x.aE<;>simp only[Qk,Ql,Qa]<;>exact hj _ ⟨by rw[e,hn,hc];first|rfl|simp,by rw[e2];rfl⟩
 rw[Qh h1,Ql]
 by_cases h8:x.az=8
 ·rw[Qg h8,Qk];have e:cK x=(ct x.aq&&(cB x.aE&&dE x.Value)):=by simp[cK,h8]
  have e2:bP x={Z0 with az:=x.az,aq:=x.aq,aE:=x.aE,Value:=x.Value}:=by simp[bP,h8]
  cases hn:ct x.aq<;>cases hc:cB x.aE<;>simp only[Qk,Ql,Qa]<;>exact hj _ ⟨by rw[e,hn,hc];first|rfl|simp,by rw[e2];rfl⟩
 rw[Qh h8,Ql]
 by_cases h2:x.az=2
 ·rw[Qg h2,Qk];have e:cK x=cB x.Count:=by simp[cK,h2]
  have e2:bP x={Z0 with az:=x.az,Count:=x.Count}:=by simp[bP,h2]
  exact hj _ ⟨e,by rw[e2];rfl⟩
 rw[Qh h2,Ql]
 by_cases h4:x.az=4
 ·rw[Qg h4,Qk];have e:cK x=ct x.aq:=by simp[cK,h4]
  have e2:bP x={Z0 with az:=x.az,aq:=x.aq}:=by simp[bP,h4]
  exact hj _ ⟨e,by rw[e2];rfl⟩
 rw[Qh h4,Ql]
 by_cases h7:x.az=7
 ·rw[Qg h7,Qk];have e:cK x=(ct x.aq&&(ct x.To&&cB x.Count)):=by simp[cK,h7]
  have e2:bP x={Z0 with az:=x.az,aq:=x.aq,To:=x.To,Count:=x.Count}:=by simp[bP,h7]
  cases hn:ct x.aq<;>cases hc:ct x.To<;>simp only[Qk,Ql,Qa]<;>exact hj _ ⟨by rw[e,hn,hc];first|rfl|simp,by rw[e2];rfl⟩
 rw[Qh h7,Ql]
 by_cases h3:x.az=3
 ·rw[Qg h3,Qk];have e:cK x=(ct x.aq&&decide (mH x.aa=0)):=by simp[cK,h3]
  have e2:bP x={Z0 with az:=x.az,aq:=x.aq,aa:=x.aa}:=by simp[bP,h3]
  cases hn:ct x.aq<;>simp only[Qk,Ql,Qa]<;>exact hj _ ⟨by rw[e,hn];first|rfl|simp,by rw[e2];rfl⟩
 rw[Qh h3,Ql]
 by_cases h5:x.az=5
 ·rw[Qg h5,Qk];have e:cK x=(ct x.aq&&(ct x.To&&(cB x.af.aE&&dE x.af.ai.aj.Value))):=by simp[cK,h5]
  have e2:bP x=mg x.aq x.To x.af.aE x.af.ai.aj.Value:=by simp[bP,h5]
  cases hn:ct x.aq<;>cases hm:ct x.To<;>cases hc:cB x.af.aE<;>simp only[Qk,Ql,Qa]<;>exact hj _ ⟨by rw[e,hn,hm,hc];first|rfl|simp,by rw[e2,h5];rfl⟩
 rw[Qh h5,Ql]
 by_cases h6:x.az=6
 ·rw[Qg h6,Qk];have e:cK x=(decide (0<x.bx.length)&& !(x.bx.any fun n=> !lG n)):=by simp[cK,h6]
  have e2:bP x={Z0 with az:=x.az,bx:=x.bx}:=by simp[bP,h6]
  have key:∀(step:(Bool×Int×Unit)->Option ((Bool×Int×Unit)⊕(ByteArray×Bool×Unit))) (q:(ByteArray×Bool×Unit)->Prop),
    (∀(b:Bool) (i:Nat) u,x.bx[i]?=some u->step (b,(i:Int),())=some (.inl (b&&lG u,(i:Int)+1,())))->
    (∀b,cK x=b->Yd (aD step (b,(x.bx.length:Int),())) q)->
    ∀(l pre:List Int) (b:Bool),x.bx=pre++l->cK x=(b&& !(l.any fun n=> !lG n))->Yd (aD step (b,(pre.length:Int),())) q:=by
   intro step q k1 k2 l
   induction l with
   |nil=>
    intro pre b he hb;rw[List.append_nil]at he;rw[<-he];exact k2 b (by rw[hb];simp)
   |cons u l ihl=>
    intro pre b he hb;rw[cm (k1 b pre.length u (by rw[he];simp))]
    have:=ihl (pre++[u]) (b&&lG u) (by rw[he];simp) (by rw[hb];cases b<;>cases hs:lG u<;>simp[hs])
    rw[show(((pre++[u]).length:Nat):Int)=(pre.length:Int)+1 by simp]at this
    exact this
  refine key _ _ (fun b i u hu=> ?_) (fun b hb=> ?_) x.bx [] _ rfl ?_
  ·have hi:i<x.bx.length:=(List.getElem?_eq_some_iff.mp hu).1;have:=hx.parts;simp only[];rw[Qg (by omega),Qk,bA,hu,Qa,bY (by omega) (by omega),ab5]
   cases b<;>rfl
  ·refine Yd.loop ?_;simp only[];rw[Qh (by omega),Ql]
   exact Yd.inr (hj _ ⟨hb,by rw[e2];rfl⟩)
  ·rw[e,show decide ((0:Int)<((x.bx.length:Nat):Int))=decide (0<x.bx.length)from decide_eq_decide.mpr (by omega)]
 rw[Qh h6,Ql];exact⟨_,rfl,fun h=>by cases h⟩
end
section
open Go.TQ Go.Proofs
theorem cG.bd{t:ab}(h:cG t):dM t:=by
 have h1:=h.len;have h2:=h.th;have hi:=h.inner;have hn:=h.nodes;have hl:t.aL.length<=1:=by rcases hi with e|⟨x,_,_,e⟩<;>rw[e]<;>simp
 refine .mk t ⟨by omega,by omega⟩ (by omega) (fun x hx=> ?_) (by omega) fun u hu=> ?_
 ·have:=hn x hx;exact⟨by omega,by omega⟩
 ·rcases hi with e|⟨x,hx1,hx2,e⟩
  ·rw[e]at hu;cases hu
  ·rw[e]at hu;simp only[Q4]at hu;subst hu;exact Ki ⟨by omega,by omega⟩
structure Kl (aG:Int) (e:ak):Prop where
 aG:e.aq=aG
 aN:cG e.aa
 val:e.aj.Value.size<=2
theorem Am{e:ak}(h:cG e.aa):Yd (cJ e) fun _=>True:=
 ⟨_,zq (lZ (cG.bd h).sm),trivial⟩
theorem Ub{s:cr}(h:fh s){aG bj:Int}{n:Nat}(hn2:1<=n)(hn:n<=10):
  Yd (mE s aG bj n) fun p=>fh p.2/\Kl aG p.1:=by
 unfold mE;refine(ln h (by omega) (by omega) (by omega)).bind fun p1 ⟨a1,a2,a3,_⟩=> ?_
 refine(Hp a1 hn2 hn).bind fun p2 ⟨b1,b2,b3,b4⟩=> ?_
 refine(zm b1).bind fun p3 ⟨c1,c2⟩=> ?_
 have c3:=c2.size;simp only[ab.eta,ak.eta];have z0:gH.size<=2:=by decide
 refine Yd.join (fun v=>fh v.1/\Kl aG v.2.1) (fun v hv=>Yd.some hv) fun j5 hj5=> ?_
 refine(iO c1 (by omega)).bind fun p6 ⟨d1,_⟩=> ?_
 refine Yd.join (fun v=>fh v.1/\v.2.1.aq=aG/\v.2.1.aa=p2.1) (fun v ⟨hv1,hv2,hv3⟩=> ?_) fun j8 hj8=> ?_
 ·refine Yd.join (fun v=>fh v.1/\Kl aG v.2.1) (fun v hv=>hj5 _ hv) fun j10 hj10=> ?_
  refine(ln hv1 (by omega) (by omega) (by omega)).bind fun p11 ⟨e1,e2,e3,_⟩=> ?_
  have e4:=e3 (by omega)
  refine Yd.join (fun v=>fh v.1/\Kl aG v.2.1/\v.2.1.aj.an=p11.1) (fun v ⟨f0,f1,f6⟩=> ?_) fun j13 hj13=> ?_
  ·rw[f6];have g1:aB .i64 p11.1 1=p11.1+1:=bY (by omega) (by omega)
   rw[g1];refine(iO f0 (by omega)).bind fun p14 ⟨i1,i2,i3,i4⟩=> ?_
   have i5:=i3 (by omega)
   have g2:aB .i64 p14.1 1=p14.1+1:=bY (by omega) (by omega)
   rw[g2];refine(iO i1 (by omega)).bind fun p15 ⟨k1,k2,_⟩=> ?_
   refine Yd.join (fun v=>Kl aG v.1) (fun v hv=> ?_) fun j17 hj17=> ?_
   ·refine Yd.join (fun v=>Kl aG v.1) (fun v hv=> ?_) fun j19 hj19=> ?_
    ·refine(Am hv.aN).bind fun r20 _=> ?_
     refine Yd.cond (fun _=> ?_) fun _=> ?_
     ·exact hj10 _ ⟨k1,⟨hv.aG,hv.aN,hv.val⟩⟩
     ·exact hj10 _ ⟨k1,hv⟩
    ·refine(Am hv.aN).bind fun r20 _=> ?_
     refine Yd.cond (fun _=> ?_) fun _=> ?_
     ·exact hj19 _ ⟨hv.aG,hv.aN,hv.val⟩
     ·exact hj19 _ hv
   ·refine(Am (e:={v.2.1 with bf:=p15.1,bM:=p14.1}) f1.aN).bind fun r20 _=> ?_
    refine Yd.cond (fun _=> ?_) fun _=> ?_
    ·exact hj17 _ ⟨f1.aG,f1.aN,f1.val⟩
    ·exact hj17 _ ⟨f1.aG,f1.aN,f1.val⟩
  ·have ht:cG v.2.1.aa:=by rw[hv3];exact b2
   refine(iO e1 (by omega)).bind fun p23 ⟨l1,_⟩=> ?_
   refine Yd.cond (fun _=> ?_) fun _=> ?_
   ·refine(Wt l1).bind fun p24 ⟨m1,_⟩=> ?_
    refine(iO m1 (by omega)).bind fun p25 ⟨o1,_⟩=> ?_
    refine Yd.cond (fun _=> ?_) fun _=> ?_
    ·refine(Wt o1).bind fun p26 ⟨q1,_⟩=> ?_
     exact hj13 _ ⟨q1,⟨hv2,ht,c3.2⟩,rfl⟩
    ·exact hj13 _ ⟨o1,⟨hv2,ht,c3.2⟩,rfl⟩
   ·exact hj13 _ ⟨l1,⟨hv2,ht,c3.2⟩,rfl⟩
 ·refine Yd.cond (fun _=> ?_) fun _=> ?_
  ·refine(ln d1 (by omega) (by omega) (by omega)).bind fun p27 ⟨e1,_⟩=> ?_
   refine(ln e1 (by omega) (by omega) (by omega)).bind fun p28 ⟨e2,_⟩=> ?_
   refine(iO e2 (by omega)).bind fun p29 ⟨e3,_⟩=> ?_
   refine(iO e3 (by omega)).bind fun p30 ⟨e4,_⟩=> ?_
   exact hj5 _ ⟨e4,⟨rfl,b2,c3.2⟩⟩
  refine Yd.cond (fun _=> ?_) fun _=> ?_
  ·refine(iO d1 (by omega)).bind fun p31 ⟨e1,_⟩=> ?_
   refine Yd.cond (fun _=> ?_) fun _=> ?_
   ·refine(ln e1 (by omega) (by omega) (by omega)).bind fun p32 ⟨e2,_⟩=> ?_
    refine(ln e2 (by omega) (by omega) (by omega)).bind fun p33 ⟨e3,_⟩=> ?_
    refine(iO e3 (by omega)).bind fun p34 ⟨e4,_⟩=> ?_
    exact hj5 _ ⟨e4,⟨rfl,b2,c3.2⟩⟩
   ·exact hj8 _ ⟨e1,rfl,rfl⟩
  ·exact hj8 _ ⟨d1,rfl,rfl⟩
structure xv (x:aI):Prop where
 bd:mG x
 w:wT x.aa<=1000
 parts:x.bx.length<=30
 aN:x.az=3->cG x.aa
 val:x.Value.size<=2
 acz:x.af.ai.aj.Value.size<=2
theorem H8{k n t s c:Int}{v:ByteArray}{ps:List Int}(hn:im n)(ht:im t)(hs:im s)(hc:im c)(hv:v.size<=2)(hp:ps.length<=30)(hi:∀m∈ps,im m)(hk:k≠3):xv ⟨k,n,t,s,c,v,T0,L0,ps⟩:=
 ⟨⟨hn,ht,hs,hc,cY,by show v.size<=_;omega,QS _,dM.nil cY,by simp[T0,wT,wL],TR,by show ps.length<=_;omega,hi⟩,by simp[T0,wT,wL],hp,fun h=>absurd h hk,hv,QS _⟩
theorem Es{n:Int}(h0:0<=n)(h1:n<=1000):bI .u64 n=n:=by unfold bI;exact wrap_u64 h0 (by omega)
theorem uF{n:Int}(h0: -1000000<=n)(h1:n<=1000000):im n:=⟨by omega,by omega⟩
theorem Z3(a b:Int)(h0:0<=a)(h1:a<=1000)(h2:0<=b)(h3:b<=1000):im (aB .i64 a b):=by rw[bY (by omega) (by omega)];exact⟨by omega,by omega⟩
theorem aa4{n:Nat}(h1:1<=n)(h2:n<=4):1<=ez .i64 (cP .i64 (1:Int) (n:Int)) 1/\ez .i64 (cP .i64 (1:Int) (n:Int)) 1<=15:=by
 have:n=1\/n=2\/n=3\/n=4:=by omega
 rcases this with rfl|rfl|rfl|rfl<;>decide
set_option maxHeartbeats 2000000 in
theorem acI{s:cr}(h:fh s){n:Nat}{qK:Int}(hn1:1<=n)(hn:n<=4):Yd (nB s n qK) fun p=>fh p.2/\xv p.1:=by
 unfold nB;simp only[ab.eta];refine(iO h (by omega)).bind fun p1 ⟨a1,a2,a3,_⟩=> ?_
 have a4:=a3 (by omega)
 have in1:im p1.1:=uF (by omega) (by omega)
 have i1:im 1:=uF (by omega) (by omega)
 have hc:bI .u64 p1.1=p1.1:=Es a2 (by omega)
 have hcn:bI .u64 (n:Int)=(n:Int):=Es (by omega) (by omega)
 refine Yd.join (fun v=>fh v.1) (fun v hv=> ?_) fun j3 hj3=> ?_
 ·refine(ln hv (by omega) (by omega) (by omega)).bind fun p4 ⟨b1,b2,b3,_⟩=> ?_
  have b4:=b3 (by omega)
  exact⟨_,rfl,b1,H8 cY cY cY (uF (by omega) (by omega)) (QS _) (QS _) (fun m hm=>by cases hm) (by omega)⟩
 refine(iO a1 (by omega)).bind fun p5 ⟨c1,c2,c3,_⟩=> ?_
 refine Yd.cond (fun _=> ?_) fun _=> ?_
 ·refine(ln c1 (by omega) (by omega) (by omega)).bind fun p6 ⟨b1,b2,b3,_⟩=> ?_
  have b4:=b3 (by omega)
  refine(zm b1).bind fun p7 ⟨d1,d2⟩=> ?_
  exact⟨_,rfl,d1,H8 in1 cY (uF (by omega) (by omega)) cY d2.size.2 (QS _) (fun m hm=>by cases hm) (by omega)⟩
 refine Yd.join (fun _=>True) (fun v _=> ?_) fun j9 hj9=> ?_
 ·refine Yd.cond (fun _=> ?_) fun _=> ?_
  ·refine(zm c1).bind fun p10 ⟨d1,d2⟩=> ?_
   exact⟨_,rfl,d1,H8 in1 cY i1 cY d2.size.2 (QS _) (fun m hm=>by cases hm) (by omega)⟩
  refine Yd.cond (fun _=> ?_) fun _=> ?_
  ·refine(iO c1 (by omega)).bind fun p11 ⟨d1,d2,d3,_⟩=> ?_
   refine Yd.cond (fun _=> ?_) fun _=> ?_
   ·rw[hcn,Qs (by omega)]
    have ht:=aa4 hn1 hn;refine(iO d1 (by omega)).bind fun p12 ⟨e1,e2,e3,_⟩=> ?_
    have e4:=e3 ht.1;exact⟨_,rfl,e1,H8 cY cY cY cY (QS _) (by simp) (fun m hm=>by rw[Q4]at hm;rw[hm];exact Z3 _ _ (by omega) (by omega) e2 (by omega)) (by omega)⟩
   ·exact⟨_,rfl,d1,H8 cY cY cY cY (QS _) (QS _) (fun m hm=>by cases hm) (by omega)⟩
  refine Yd.cond (fun _=> ?_) fun _=> ?_
  ·refine(iO c1 (by omega)).bind fun p13 ⟨d1,d2,d3,_⟩=> ?_
   have d4:=d3 (by omega)
   refine(iO d1 (by omega)).bind fun p14 ⟨e1,e2,e3,_⟩=> ?_
   have e4:=e3 (by omega)
   exact⟨_,rfl,e1,H8 in1 (uF (by omega) (by omega)) cY (uF (by omega) (by omega)) (QS _) (QS _) (fun m hm=>by cases hm) (by omega)⟩
  refine Yd.cond (fun _=> ?_) fun _=> ?_
  ·refine(iO c1 (by omega)).bind fun p15 ⟨d1,d2,d3,_⟩=> ?_
   refine Yd.cond (fun _=> ?_) fun _=> ?_
   ·exact⟨_,rfl,d1,H8 in1 cY cY cY (QS _) (QS _) (fun m hm=>by cases hm) (by omega)⟩
   ·refine(ln d1 (by omega) (by omega) (by omega)).bind fun p16 ⟨b1,b2,b3,_⟩=> ?_
    have b4:=b3 (by omega)
    exact⟨_,rfl,b1,H8 cY cY cY (uF (by omega) (by omega)) (QS _) (QS _) (fun m hm=>by cases hm) (by omega)⟩
  refine Yd.cond (fun _=> ?_) fun _=> ?_
  ·rw[hc,Qs (by omega)]
   refine Yd.cond (fun _=> ?_) fun _=> ?_
   ·refine(Ub c1 hn1 (by omega)).bind fun p17 ⟨d1,d2⟩=> ?_
    refine(iO d1 (by omega)).bind fun p18 ⟨e1,e2,e3,_⟩=> ?_
    refine(iO e1 (by omega)).bind fun p19 ⟨f1,f2,f3,_⟩=> ?_
    have f4:=f3 (by omega)
    have hv:=d2.val;have it:im p19.1:=uF (by omega) (by omega)
    refine⟨_,rfl,f1,⟨⟨in1,it,cY,cY,i1,QS _,QK hv (by omega),dM.nil cY,by simp[wT,wL],⟨dM.nil cY,d2.aN.bd,by simp,by simp⟩,by simp,by simp⟩,by simp[wT,wL],by simp,fun h=> ?_,QS _,hv⟩⟩
    exact absurd (show(5:Int)=3 from h) (by omega)
   ·refine(iO c1 (by omega)).bind fun p20 ⟨d1,_⟩=> ?_
    refine Yd.cond (fun _=> ?_) fun _=> ?_
    ·refine(Hp d1 hn1 (by omega)).bind fun p21 ⟨e1,e2,_⟩=> ?_
     have hw:=Oi e2;exact⟨_,rfl,e1,⟨⟨in1,cY,cY,cY,cY,QS _,QS _,e2.bd,by show wT p21.1<=_;omega,TR,by simp,by simp⟩,by show wT p21.1<=_;omega,by simp,fun _=>e2,QS _,QS _⟩⟩
    ·exact hj3 _ d1
  refine Yd.cond (fun _=> ?_) fun _=> ?_
  ·rw[hc,Qs (by omega)]
   refine Yd.cond (fun _=> ?_) fun _=> ?_
   ·refine(iO c1 (by omega)).bind fun p22 ⟨d1,d2,d3,_⟩=> ?_
    have d4:=d3 (by omega)
    have it:im p22.1:=uF (by omega) (by omega)
    refine(zm d1).bind fun p23 ⟨e1,e2⟩=> ?_
    have e3:=e2.size.2;refine Yd.bind (p:=fun r=>r=mg p1.1 p22.1 1 p23.1) ⟨_,rfl,rfl⟩ fun r24 hr=> ?_
    subst hr;exact⟨_,rfl,e1,⟨VD in1 it i1 (QK e3 (by omega)),by simp[mg,T0,wT,wL],by simp[mg],fun h=>absurd (show(5:Int)=3 from h) (by omega),QS _,e3⟩⟩
   ·exact hj3 _ c1
  ·exact hj3 _ c1
 ·refine Yd.cond (fun _=>hj9 _ trivial) fun _=>hj9 _ trivial
end
section
open Go.TQ Go.Proofs
theorem abD:∀(a:Fin 16) (i:Fin 4) (b:Fin 2),0<=qy .i64 ((a.val:Nat):Int) (cP .i64 ((b.val:Nat):Int) ((i.val:Nat):Int))/\qy .i64 ((a.val:Nat):Int) (cP .i64 ((b.val:Nat):Int) ((i.val:Nat):Int))<16:=by decide
theorem adj{a b i:Int}(a0:0<=a)(a1:a<16)(b0:0<=b)(b1:b<2)(i0:0<=i)(i1:i<4):0<=qy .i64 a (cP .i64 b i)/\qy .i64 a (cP .i64 b i)<16:=by
 obtain⟨x,rfl⟩:=Int.eq_ofNat_of_zero_le a0;obtain⟨y,rfl⟩:=Int.eq_ofNat_of_zero_le b0;obtain⟨z,rfl⟩:=Int.eq_ofNat_of_zero_le i0;exact abD ⟨x,by omega⟩ ⟨z,by omega⟩ ⟨y,by omega⟩
theorem Zb:∀i:Fin 4,0<=cP .i64 1 ((i.val:Nat):Int)/\cP .i64 1 ((i.val:Nat):Int)<1024:=by decide
theorem abg{i:Int}(i0:0<=i)(i1:i<4):0<=cP .i64 1 i/\cP .i64 1 i<1024:=by
 obtain⟨z,rfl⟩:=Int.eq_ofNat_of_zero_le i0;exact Zb ⟨z,by omega⟩
theorem acJ{s:cr}(h:fh s){n:Int}(hn:n<=4):Yd (ql s n) fun p=>fh p.2/\0<=p.1/\p.1<16:=by
 unfold ql
 have key:∀(k:Nat) (m i:Int) (s:cr),fh s->0<=m->m<16->0<=i->n<=i+k->Yd (aD (fun(v1:Int×Int×cr×Unit)=>
   bif (decide (v1.2.1<n))then
    Option.bind (bF v1.2.2.1 (2:Int)) fun p2=>
    if(bI .u64 v1.2.1)<0 then none else some (Sum.inl ((qy .i64 v1.1 (cP .i64 p2.1 (bI .u64 v1.2.1))),(aB .i64 v1.2.1 (1:Int)),p2.2,()))
   else Option.map Sum.inr (some (v1.1,v1.2.2.1))) (m,i,s,())) fun p=>fh p.2/\0<=p.1/\p.1<16:=by
  intro k
  induction k with
  |zero=>
   intro m i s h h0 h1 h2 h3;refine Yd.loop ?_;simp only[];rw[Qh (by omega),Ql]
   exact⟨_,rfl,h,h0,h1⟩
  |succ k ih=>
   intro m i s h h0 h1 h2 h3;refine Yd.loop ?_;simp only[]
   by_cases hi:i<n
   ·rw[Qg hi,Qk];refine(iO h (by omega)).bind fun p2 ⟨b1,b2,b3,_⟩=> ?_
    have b4:=b3 (by omega)
    rw[Es h2 (by omega),Qs (by omega),bY (by omega) (by omega)]
    have:=adj h0 h1 b2 b4 h2 (by omega)
    exact⟨_,rfl,ih _ (i+1) p2.2 b1 this.1 this.2 (by omega) (by omega)⟩
   ·rw[Qh hi,Ql];exact⟨_,rfl,h,h0,h1⟩
 exact key 4 0 0 s h (by omega) (by omega) (by omega) (by omega)
theorem ad1(s:cr)(h:fh s)(n:Int)(hn1:1<=n)(hn:n<=4):Yd (oK s n) fun p=>fh p.2/\0<=p.1/\p.1<1024:=by
 unfold oK;refine(iO h (by omega)).bind fun p1 ⟨a1,_⟩=> ?_
 refine Yd.join (fun _=>True) (fun v _=> ?_) fun j3 hj3=> ?_
 ·refine Yd.cond (fun _=> ?_) fun _=> ?_
  ·exact⟨_,rfl,a1,by show(0:Int)<=0;omega,by show(0:Int)<1024;omega⟩
  refine Yd.cond (fun _=> ?_) fun _=> ?_
  ·refine(iO a1 (by omega)).bind fun p4 ⟨b1,b2,b3,_⟩=> ?_
   have b4:=b3 (by omega)
   rw[Es b2 (by omega),Qs (by omega)]
   have:=abg b2 (by omega)
   exact⟨_,rfl,b1,this.1,this.2⟩
  ·refine(acJ a1 hn).bind fun p5 ⟨b1,b2,b3⟩=> ?_
   exact⟨_,rfl,b1,b2,by show p5.1<1024;omega⟩
 ·refine Yd.cond (fun _=>hj3 _ trivial) fun _=>hj3 _ trivial
theorem aaU{s:cr}(h:fh s){n:Nat}{qK m:Int}(hn1:1<=n)(hn:n<=4)(hm0:0<=m)(hm:m<=1000):Yd (kg s n qK m) fun p=>fh p.2/\(p.1.length:Int)<=m/\∀x∈p.1,xv x:=by
 unfold kg;simp only[MM];rw[bY (by omega) (by omega)]
 refine(iO h (by omega)).bind fun p1 ⟨a1,a2,a3,_⟩=> ?_
 have a4:=a3 (by omega)
 have key:∀(k:Nat) (i:Int) (acc:List aI) (s:cr),fh s->0<=i->i<=k->(acc.length:Int)+i<=m->(∀x∈acc,xv x)->Yd (aD (fun(v2:Int×(List aI)×cr×Unit)=>
   bif (decide ((0:Int)<v2.1))then
    Option.bind (nB v2.2.2.1 n qK) fun p3=>
    bif aT 448 (List.length v2.2.1+List.length [p3.1])then some (Sum.inl ((ez .i64 v2.1 (1:Int)),(v2.2.1++[p3.1]),p3.2,()))else none
   else Option.map Sum.inr (some (v2.2.1,v2.2.2.1))) (i,acc,s,())) fun p=>fh p.2/\(p.1.length:Int)<=m/\∀x∈p.1,xv x:=by
  intro k
  induction k with
  |zero=>
   intro i acc s h h0 h1 h2 h3;refine Yd.loop ?_;simp only[];rw[Qh (by omega),Ql]
   exact⟨_,rfl,h,by show(acc.length:Int)<=m;omega,h3⟩
  |succ k ih=>
   intro i acc s h h0 h1 h2 h3;refine Yd.loop ?_;simp only[]
   by_cases hi:0<i
   ·rw[Qg hi,Qk];refine(acI h hn1 hn).bind fun p3 ⟨b1,b2⟩=> ?_
    rw[br (by simp;omega),Qk,nS (by omega) (by omega)]
    refine⟨_,rfl,ih (i - 1) (acc++[p3.1]) p3.2 b1 (by omega) (by omega) (by rw[QB,Q5];omega) fun x hx=> ?_⟩
    rcases Qz.1 hx with hx|hx
    ·exact h3 x hx
    ·rw[Q4]at hx;rw[hx];exact b2
   ·rw[Qh hi,Ql];exact⟨_,rfl,h,by show(acc.length:Int)<=m;omega,h3⟩
 exact key 1000 p1.1 [] p1.2 a1 a2 (by omega) (by show((0:Nat):Int)+p1.1<=m;omega) fun x hx=>by cases hx
theorem aaZ{s:cr}(h:fh s){n:Nat}{qK:Int}(hn1:1<=n)(hn:n<=4):Yd (pc s n qK 7) fun p=>fh p.2/\p.1.length<=11/\∀x∈p.1,xv x:=by
 unfold pc
 have key:∀(k:Nat) (i:Int) (acc:List aI) (s:cr),fh s->0<=i->(n:Int)<=i+k->i<=n->(acc.length:Int)<=i->(∀x∈acc,xv x)->Yd (aD (fun(v1:Int×(List aI)×cr×Unit)=>
   bif (decide (v1.1<(n:Int)))then
    bm (fun(v2:(List aI)×cr×Unit)=>some (Sum.inl ((aB .i64 v1.1 (1:Int)),v2.1,v2.2.1,()))) fun j3=>
    if(bI .u64 v1.1)<0 then none else
    bif (decide ((qQ .i64 (oi .i64 qK (bI .u64 v1.1)) (1:Int))=(0:Int)))then
     Option.bind (la v1.2.2.1 [(ByteArray.mk #[97]),(ByteArray.mk #[98])]) fun p4=>
     bif aT 448 (List.length v1.2.1+List.length [(aI.mk (8:Int) v1.1 (0:Int) (1:Int) (0:Int) p4.1 T0 L0 ([]:List Int))])then
      j3 ((v1.2.1++[(aI.mk (8:Int) v1.1 (0:Int) (1:Int) (0:Int) p4.1 T0 L0 ([]:List Int))]),p4.2,())
     else none
    else j3 (v1.2.1,v1.2.2.1,())
   else
    Option.map Sum.inr (Option.bind (kg v1.2.2.1 n qK 7) fun p5=>
     bif aT 448 (List.length v1.2.1+List.length p5.1)then some ((v1.2.1++p5.1),p5.2)else none)) (i,acc,s,())) fun p=>fh p.2/\p.1.length<=11/\∀x∈p.1,xv x:=by
  intro k
  have fin:∀(i:Int) (acc:List aI) (s:cr),fh s->(acc.length:Int)<=4->(∀x∈acc,xv x)->Yd (Option.bind (kg s n qK 7) fun p5=>
     bif aT 448 (List.length acc+List.length p5.1)then some ((acc++p5.1),p5.2)else none) fun p=>fh p.2/\p.1.length<=11/\∀x∈p.1,xv x:=by
   intro i acc s h h1 h2;refine(aaU h hn1 hn (by omega) (by omega)).bind fun p5 ⟨b1,b2,b3⟩=> ?_
   rw[br (by omega),Qk]
   refine⟨_,rfl,b1,?_,fun x hx=> ?_⟩
   ·show(acc++p5.1).length<=11;rw[QB];omega
   ·rcases Qz.1 hx with hx|hx
    ·exact h2 x hx
    ·exact b3 x hx
  induction k with
  |zero=>
   intro i acc s h h0 h1 h2 h3 h4;refine Yd.loop ?_;simp only[];rw[Qh (by omega),Ql]
   exact Yd.inr (fin i acc s h (by omega) h4)
  |succ k ih=>
   intro i acc s h h0 h1 h2 h3 h4;refine Yd.loop ?_;simp only[]
   by_cases hi:i<n
   ·rw[Qg hi,Qk,bz,Es h0 (by omega),Qs (by omega),bY (by omega) (by omega)]
    refine Yd.cond (fun _=> ?_) fun _=> ?_
    ·refine(Sc h (by simp) (by simp)).bind fun p4 ⟨b1,b2⟩=> ?_
     have hv:p4.1.size<=2:=by
      simp only[QA,QR,or_false]at b2;rcases b2 with e|e<;>rw[e]<;>decide
     rw[br (by simp;omega),Qk]
     refine⟨_,rfl,ih (i+1) _ p4.2 b1 (by omega) (by omega) (by omega) (by rw[QB,Q5];omega) fun x hx=> ?_⟩
     rcases Qz.1 hx with hx|hx
     ·exact h4 x hx
     ·rw[Q4]at hx;rw[hx];exact H8 (uF (by omega) (by omega)) cY (uF (by omega) (by omega)) cY hv (QS _) (fun m hm=>by cases hm) (by omega)
    ·exact⟨_,rfl,ih (i+1) acc s h (by omega) (by omega) (by omega) (by omega) h4⟩
   ·rw[Qh hi,Ql];exact Yd.inr (fin i acc s h (by omega) h4)
 exact key n 0 [] s h (by omega) (by omega) (by omega) (by show((0:Nat):Int)<=0;omega) fun x hx=>by cases hx
end
section
open Go.TQ Go.Proofs
theorem J2{c:UInt8}{sep:bu}(hs:c∉sep):∀(ws:List bu),(∀w∈ws,c∉w)->c∉Lib.join ws sep
 |[],_=>by show c∉([]:bu);simp
 |[x],h=>by rw[Lib.join_one];exact h x (by simp)
 |x::y::r,h=>by
  rw[vV];have h1:=J2 hs (y::r) fun w hw=>h w (by simp at hw ⊢;exact Or.inr hw)
  have h2:=h x (by simp)
  simp only[Qz,not_or];exact⟨⟨h2,hs⟩,h1⟩
theorem Uh{t:ab}(h:cG t):(10:UInt8)∉fg t:=by
 obtain⟨th,ns,is⟩:=t;obtain⟨h1,_,h3,h4,h5⟩:=h;simp only at h1 h3 h4 h5;have hl:is.length<=1:=by rcases h4 with rfl|⟨x,_,_,rfl⟩<;>simp
 have hth:=(cF (n:=th) (by omega) (by omega)).2
 have key:∀(t:Int) (ws:List bu),(10:UInt8)∉Lib.itoa t->(∀w∈ws,(10:UInt8)∉w)->(10:UInt8)∉Lib.itoa t++[32,111,102,32,40]++Lib.join ws [44,32]++[41]:=by
  intro t ws ht hw;have:=J2 (c:=10) (sep:=[44,32]) (by decide) ws hw
  simp only[Qz,not_or];exact⟨⟨⟨ht,by decide⟩,this⟩,by decide⟩
 have hns:∀w∈ns.map Lib.itoa,(10:UInt8)∉w:=by
  intro w hw;obtain⟨m,hm,rfl⟩:=QP.1 hw;have:=h1 m hm;exact(cF (by omega) (by omega)).2
 rw[fg];refine key th _ hth fun w hw=> ?_
 rcases Qz.1 hw with hw|hw
 ·exact hns w hw
 ·rcases h4 with rfl|⟨x,hx0,hx1,rfl⟩
  ·rw[gI]at hw;cases hw
  ·rw[gI,gI,Q4]at hw;rw[hw,fg];refine key 1 _ (cF (by omega) (by omega)).2 fun w hw=> ?_
   rw[gI,List.append_nil,QD,QO,Q4]at hw;rw[hw];exact(cF (by omega) (by omega)).2
theorem Sl{t:ab}(h:cG t):rA t=fg t:=by unfold rA;rw[Qr (wZ h)]
structure Fs (x:aI):Prop where
 src:xv x
 ok:uQ x
theorem Ul{x:aI}(h:Fs x):(∀w∈bN x,(10:UInt8)∉w)/\(bN x).length<=40/\Lib.lens (bN x)<=700:=by
 have hb:=h.ok.bd;have hok:=h.ok.ok;have l1:=ch hb.aG;have l2:=ch hb.bj;have l3:=ch hb.count;have l4:=ch hb.to;have l5:=ch hb.mX;have l6:x.Value.data.toList.length<=2:=by rw[<-size_data];exact h.src.val
 have l8:=h.src.val;have l9:=h.src.acz;have l7:x.af.ai.aj.Value.data.toList.length<=2:=by rw[<-size_data];exact h.src.acz
 by_cases h1:x.az=1
 ·have e1:bN x=[fm,Lib.itoa x.aq,Lib.itoa x.aE,x.Value.data.toList]:=by simp[bN,h1]
  have e3:cK x=(ct x.aq&&(cB x.aE&&dE x.Value)):=by simp[cK,h1]
  rw[e3,Qm,Qm]at hok;obtain⟨k1,k2,k3⟩:=hok;rw[e1];refine⟨fun w hw=> ?_,by simp,by simp[Lib.lens,fm];omega⟩
  simp only[QA,QR,or_false]at hw;rcases hw with rfl|rfl|rfl|rfl
  ·decide
  ·exact(cF (ea k1).1 (ea k1).2).2
  ·exact(cF (gR k2).1 (gR k2).2).2
  ·exact(tO k3).2
 by_cases h8:x.az=8
 ·have e1:bN x=[fZ,Lib.itoa x.aq,Lib.itoa x.aE,x.Value.data.toList]:=by simp[bN,h8]
  have e3:cK x=(ct x.aq&&(cB x.aE&&dE x.Value)):=by simp[cK,h8]
  rw[e3,Qm,Qm]at hok;obtain⟨k1,k2,k3⟩:=hok;rw[e1];refine⟨fun w hw=> ?_,by simp,by simp[Lib.lens,fZ];omega⟩
  simp only[QA,QR,or_false]at hw;rcases hw with rfl|rfl|rfl|rfl
  ·decide
  ·exact(cF (ea k1).1 (ea k1).2).2
  ·exact(cF (gR k2).1 (gR k2).2).2
  ·exact(tO k3).2
 by_cases h2:x.az=2
 ·have e1:bN x=[kO,Lib.itoa x.Count]:=by simp[bN,h2]
  have e3:cK x=cB x.Count:=by simp[cK,h2]
  rw[e3]at hok;rw[e1];refine⟨fun w hw=> ?_,by simp,by simp[Lib.lens,kO];omega⟩
  simp only[QA,QR,or_false]at hw;rcases hw with rfl|rfl
  ·decide
  ·exact(cF (gR hok).1 (gR hok).2).2
 by_cases h4:x.az=4
 ·have e1:bN x=[kP,Lib.itoa x.aq]:=by simp[bN,h4]
  have e3:cK x=ct x.aq:=by simp[cK,h4]
  rw[e3]at hok;rw[e1];refine⟨fun w hw=> ?_,by simp,by simp[Lib.lens,kP];omega⟩
  simp only[QA,QR,or_false]at hw;rcases hw with rfl|rfl
  ·decide
  ·exact(cF (ea hok).1 (ea hok).2).2
 by_cases h7:x.az=7
 ·have e1:bN x=[je,Lib.itoa x.aq,Lib.itoa x.To,Lib.itoa x.Count]:=by simp[bN,h7]
  have e3:cK x=(ct x.aq&&(ct x.To&&cB x.Count)):=by simp[cK,h7]
  rw[e3,Qm,Qm]at hok;obtain⟨k1,k2,k3⟩:=hok;rw[e1];refine⟨fun w hw=> ?_,by simp,by simp[Lib.lens,je];omega⟩
  simp only[QA,QR,or_false]at hw;rcases hw with rfl|rfl|rfl|rfl
  ·decide
  ·exact(cF (ea k1).1 (ea k1).2).2
  ·exact(cF (ea k2).1 (ea k2).2).2
  ·exact(cF (gR k3).1 (gR k3).2).2
 by_cases h6:x.az=6
 ·have e1:bN x=jK::x.bx.map Lib.itoa:=by simp[bN,h6]
  have e3:cK x=(decide (0<x.bx.length)&& !(x.bx.any fun n=> !lG n)):=by simp[cK,h6]
  rw[e3]at hok;simp only[Qm,Bool.not_eq_true',List.any_eq_false]at hok;have hp:=h.src.parts;have hl:=DS x.bx hb.part;rw[e1];refine⟨fun w hw=> ?_,by simp;omega,?_⟩
  ·simp only[QA,QP]at hw;rcases hw with rfl|⟨m,hm,rfl⟩
   ·decide
   ·have hs:lG m=true:=by have:=hok.2 m hm;simpa using this
    exact(cF (ES hs).1 (ES hs).2).2
  ·have:Lib.lens (jK::x.bx.map Lib.itoa)=4+Lib.lens (x.bx.map Lib.itoa):=by simp[Lib.lens,jK]
   omega
 by_cases h3:x.az=3
 ·have hg:=h.ok.fp h3;have hwr:=wY x.aa hb.aN;have hw13:=Oi hg;have e1:bN x=[eQ,Lib.itoa x.aq,fg x.aa]:=by rw[<-Sl hg];simp[bN,h3]
  have e3:cK x=(ct x.aq&&decide (mH x.aa=0)):=by simp[cK,h3]
  rw[e3,Qm]at hok;obtain⟨k1,k2⟩:=hok;rw[e1];refine⟨fun w hw=> ?_,by simp,by simp[Lib.lens,eQ];omega⟩
  simp only[QA,QR,or_false]at hw;rcases hw with rfl|rfl|rfl
  ·decide
  ·exact(cF (ea k1).1 (ea k1).2).2
  ·exact Uh hg
 by_cases h5:x.az=5
 ·have e1:bN x=[om,Lib.itoa x.aq,Lib.itoa x.To,Lib.itoa x.af.aE,x.af.ai.aj.Value.data.toList]:=by simp[bN,h5]
  have e3:cK x=(ct x.aq&&(ct x.To&&(cB x.af.aE&&dE x.af.ai.aj.Value))):=by simp[cK,h5]
  rw[e3,Qm,Qm,Qm]at hok;obtain⟨k1,k2,k3,k4⟩:=hok;rw[e1];refine⟨fun w hw=> ?_,by simp,by simp[Lib.lens,om];omega⟩
  simp only[QA,QR,or_false]at hw;rcases hw with rfl|rfl|rfl|rfl|rfl
  ·decide
  ·exact(cF (ea k1).1 (ea k1).2).2
  ·exact(cF (ea k2).1 (ea k2).2).2
  ·exact(cF (gR k3).1 (gR k3).2).2
  ·exact(tO k4).2
 have e1:bN x=[]:=by simp[bN,h1,h8,h2,h4,h7,h6,h3,h5]
 rw[e1];exact⟨(fun w hw=>nomatch hw),QS _,QS _⟩
theorem KY{x:aI}(h:Fs x):(10:UInt8)∉fe x/\(fe x).length<=740:=by
 have hw:=Ul h;refine⟨J2 (by decide) _ hw.1,?_⟩
 have:=join_le [32] (bN x);simp only[QE,QY]at this;unfold fe;omega
theorem MK:∀(xs:List aI),(∀x∈xs,Fs x)->(fR (xs.map fe)).length<=741*xs.length
 |[],_=>QS _
 |x::xs,h=>by
  have h1:=MK xs fun y hy=>h y (by simp[hy])
  have h2:=(KY (h x (by simp))).2
  rw[QD,sB,QB,QE,QE];omega
theorem Zc{xs:List aI}(h:∀x∈xs,Fs x)(hn:xs.length<=12):O8 xs:=
 ⟨fun x hx=>(h x hx).ok,by omega,fun x hx=>(KY (h x hx)).1,by have:=MK xs h;omega⟩
theorem ZO(s:cr)(h:fh s)(n qK:Int)(hn1:1<=n)(hn:n<=4):Yd (pO s n qK) fun p=>fh p.2/\O8 p.1:=by
 obtain⟨n,rfl⟩:=Int.eq_ofNat_of_zero_le (show 0<=n by omega)
 unfold pO;refine(aaZ h (by omega) (by omega)).bind fun p1 ⟨a1,a2,a3⟩=> ?_
 obtain⟨xs,s1⟩:=p1;simp only at a1 a2 a3;simp only[MM,bz]
 have key:∀(l pre acc:List aI),xs=pre++l->acc.length<=pre.length->(∀x∈acc,Fs x)->Yd (aD (fun(v2:Int×(List aI)×Unit)=>
   bif (decide (v2.1<((List.length xs:Nat):Int)))then
    Option.bind (idx xs v2.1) fun x5=>
    Option.bind (qT x5) fun r6=>
    bif r6.2.1 then
     bif aT 448 (List.length v2.2.1+List.length [x5])then some (Sum.inl ((aB .i64 v2.1 (1:Int)),(v2.2.1++[x5]),()))else none
    else some (Sum.inl ((aB .i64 v2.1 (1:Int)),v2.2.1,()))
   else Option.map Sum.inr (some (v2.2.1,s1))) ((pre.length:Int),acc,())) fun p=>fh p.2/\O8 p.1:=by
  intro l
  induction l with
  |nil=>
   intro pre acc he hl hacc;rw[List.append_nil]at he;subst he;refine Yd.loop ?_;simp only[];rw[Qh (by omega),Ql]
   exact⟨_,rfl,a1,Zc hacc (by show acc.length<=12;omega)⟩
  |cons u l ihl=>
   intro pre acc he hl hacc;have hlen:xs.length=pre.length+l.length+1:=by rw[he];simp;omega
   have hu:xv u:=a3 u (by rw[he];simp)
   refine Yd.loop ?_;simp only[];rw[Qg (by omega),Qk,bA,show xs[pre.length]?=some u by rw[he];simp,Qa]
   refine(abc hu.bd hu.w hu.parts).bind fun r6 hr6=> ?_
   rw[bY (by omega) (by omega)]
   have go:∀acc':List aI,acc'.length<=pre.length+1->(∀x∈acc',Fs x)->_:=fun acc' h1 h2=>ihl (pre++[u]) acc' (by rw[he];simp) (by rw[QB,Q5];exact h1) h2
   rw[show(((pre++[u]).length:Nat):Int)=(pre.length:Int)+1 by simp]at go
   refine Yd.cond (fun hb=> ?_) fun _=> ?_
   ·have:=hr6 hb;rw[br (by simp;omega),Qk]
    refine⟨_,rfl,go (acc++[u]) (by rw[QB,Q5];omega) fun x hx=> ?_⟩
    rcases Qz.1 hx with hx|hx
    ·exact hacc x hx
    ·rw[Q4]at hx;rw[hx];exact⟨hu,⟨hu.bd,this.1,this.2,hu.aN⟩⟩
   ·exact⟨_,rfl,go acc (by omega) hacc⟩
 exact key xs [] [] rfl (QS _) fun x hx=>by cases hx
end
section
open Go.TQ Go.Proofs
theorem gO{a:Int}(h0:0<=a)(h1:a<10):cG ⟨1,[a],[]⟩:=⟨fun x hx=>by rw[Q4.1 hx];exact⟨h0,h1⟩,by simp,by simp,.inl rfl,by simp⟩
theorem abb{x:aI}(h:uQ x):T6 x:=by
 have hok:=h.ok
 have word:∀k,x.az=k->(k=1\/k=8)->1<=x.aE/\x.aE<=1000000/\1<=x.Value.size/\x.Value.size<=200:=fun k hk hk'=>by
  have e3:cK x=(ct x.aq&&(cB x.aE&&dE x.Value)):=by
   rcases hk' with rfl|rfl<;>simp[cK,hk]
  rw[e3,Qm,Qm]at hok;obtain⟨_,k2,k3⟩:=hok;simp only[cB,Qm,Qi]at k2;simp only[dE,Qm,Qi]at k3;omega
 refine⟨fun h1=> ?_,fun h8=> ?_,h.fp,fun h5=> ?_,by have:=h.bd.parts;omega⟩
 ·have:=word 1 h1 (.inl rfl);exact⟨this.1,this.2.1,this.2.2.2⟩
 ·have:=word 8 h8 (.inr rfl);exact⟨this.1,this.2.1,this.2.2.1,this.2.2.2⟩
 ·have e3:cK x=(ct x.aq&&(ct x.To&&(cB x.af.aE&&dE x.af.ai.aj.Value))):=by simp[cK,h5]
  rw[e3,Qm,Qm,Qm]at hok;obtain⟨k1,_,k3,_⟩:=hok;simp only[cB,Qm,Qi]at k3;simp only[ct,Qm,Qi]at k1;have e2:bP x=mg x.aq x.To x.af.aE x.af.ai.aj.Value:=by simp[bP,h5]
  have hL:x.af=(mg x.aq x.To x.af.aE x.af.ai.aj.Value).af:=by rw[<-e2,h.plain]
  have hg:=gO k1.1 k1.2;have hz:de T0:=H6;rw[hL];exact⟨⟨fun e=>absurd (show(2:Int)=1 from e) (by decide),fun _=>⟨hg.sm,fun _=>⟨hg,rfl⟩⟩,k3.1,by show x.af.aE<=1000000;omega⟩,hz,hg.sm,QS _,QS _⟩
theorem Yl{s:cr}(h:fh s){n:Nat}(h1:1<=n)(h4:n<=4):Yd (oe s (n:Int)) fun p=>fh p.2/\∀m∈p.1.bq,cG m.aa:=by
 unfold oe;simp only[ab.eta];refine(iO h (n:=3) (by omega)).bind fun p1 hp1=> ?_
 have hs1:fh p1.2:=hp1.1
 have hq:aB .i64 (yw .i64 (n:Int) 2) 1=((n / 2+1:Nat):Int):=by
  have:n=1\/n=2\/n=3\/n=4:=by omega
  rcases this with rfl|rfl|rfl|rfl<;>rfl
 have hflat:cG ⟨((n / 2+1:Nat):Int),sA n,[]⟩:=Ld n (by omega) _ (by omega) (by omega)
 refine Yd.Aa (fun u=>∃(i:Nat) (r:cr) (c:bQ) (ms:List aU),u=((i:Int),r,c,ms,())/\i<=n/\fh r/\ms.length<=i/\∀m∈ms,cG m.aa) (fun u=>n - u.1.toNat) (fun u hu=> ?_) ⟨0,p1.2,_,[],rfl,QS _,hs1,QI _,fun m hm=>by cases hm⟩
 obtain⟨i,r,c,ms,rfl,hi,hr,hl,hm⟩:=hu;refine Yd.cond (fun hc=> ?_) (fun _=> .some ⟨hr,hm⟩)
 have hc:(i:Int)<(n:Int):=of_decide_eq_true hc;rw[hq,aaX n (by omega),Qa]
 refine Yd.join (fun v=>fh v.1/\cG v.2.1) (fun v ⟨g1,g2⟩=> ?_) (fun j' hj=>Yd.cond (fun _=> ?_) (fun _=>hj _ ⟨hr,hflat⟩))
 ·rw[br (by simp;omega),Qk]
  refine .some ⟨⟨i+1,v.1,⟨[]⟩,ms++[⟨true,v.2.1⟩],?_,by omega,g1,by simp;omega,fun m hm'=> ?_⟩,?_⟩
  ·show(aB .i64 (i:Int) 1,v.1,(⟨[]⟩:bQ),ms++[⟨true,v.2.1⟩],())=_;rw[bY (by omega) (by omega)]
   rfl
  ·rcases Qz.1 hm' with hm'|hm'
   ·exact hm m hm'
   ·rw[Q4.1 hm'];exact g2
  ·show n - (aB .i64 (i:Int) 1).toNat<n - ((i:Int)).toNat;rw[bY (by omega) (by omega)]
   omega
 ·refine(Hp hr h1 (by omega)).bind fun q hq=>hj _ ⟨hq.1,hq.2.1⟩
theorem abk(l:List Int):nR l=some true:=by
 refine Yd.eq_true ?_;unfold nR;refine(acL l).bind fun r1 h1=> ?_
 refine(ln h1 (a:=1) (b:=4) (by omega) (by omega) (by omega)).bind fun p2 ⟨h2,a1,a2,_⟩=> ?_
 have a2:=a2 (by omega)
 obtain⟨n,hn⟩:=Int.eq_ofNat_of_zero_le (show 0<=p2.1 by omega)
 rw[hn];refine(Yl h2 (n:=n) (by omega) (by omega)).bind fun p3 ⟨h3,hc⟩=> ?_
 refine(ad1 p3.2 h3 (n:Int) (by omega) (by omega)).bind fun p4 ⟨h4,b1,b2⟩=> ?_
 refine(ZO p4.2 h4 (n:Int) p4.1 (by omega) (by omega)).bind fun p5 ⟨h5,hS⟩=> ?_
 obtain⟨xs,s'⟩:=p5;simp only at h5 hS ⊢;have hsh:=hS.short;have hfew:=hS.VY;rw[Su hS,Qa];simp only[];rw[KN _ (by omega),UQ hS,Qa]
 simp only[decide_true,Qo,Ql,Qa];refine(show Yd _ fun b=>b=true from ?_)
 obtain⟨q,hq,hM⟩:=ac9 hc p4.1 (l:=xs) (by omega) fun x hx=>abb (hS.ok x hx)
 rw[hq];simp only[Qa];rw[abK hM,abj];simp only[Qa,decide_true,Qk];exact⟨true,rfl,rfl⟩
end
end Go.Proofs.YtnhgcpiljggmmaaGreatDoor
end
noncomputable section
namespace Go.TQ
open Go.RowKit
theorem WY{w:World}{M:Nat->Prop}{G:Gh}{a:Option Addr}{len cap:Nat}{zs:List Int}(hM:∀b,¬M b)
  (h:(a=none/\len=0/\cap=0/\zs=[])\/∃x,a=some x/\len<=cap/\cap<=maxLen/\zs.length=cap/\(∀i,i<zs.length->w.cell? (x.add i)=some (.int .i64 (zs.getD i 0)))/\∀n∈zs,(Lit.int .i64 n).wf=true):
  aW w M G (.sl ((zs.take len).map fun n=>[.int .i64 n])) (.slice a len cap):=by
 rcases h with⟨rfl,rfl,rfl,rfl⟩|⟨x,rfl,h1,h2,h3,h4,_⟩
 ·exact .slnil
 ·have hfl:∀l:List Int,(l.map fun n=>[PV.int .i64 n]).flatten=l.map fun n=> .int .i64 n:=by
   intro l
   induction l with
   |nil=>rfl
   |cons n l ih=>simp only[QD,List.flatten_cons,ih];rfl
  have hlen:((zs.take len).map fun n=>[PV.int .i64 n]).length=len:=by simp;omega
  have:=aW.sl (w:=w) (M:=M) (G:=G) ((zs.take len).map fun n=>[.int .i64 n]) x cap 1 ((zs.take len).map fun n=> .int .i64 n) (fun e he=>by obtain⟨n,_,rfl⟩:=QP.1 he;rfl) (by rw[hfl];simp)
   (fun i v hv=> ?_) (fun i y v hy hv=> ?_) (by rw[hlen];exact h1) h2
  ·rw[hlen]at this;exact this
  ·refine⟨?_,hM _⟩;rw[QT,Qb]at hv;obtain⟨n,hn,rfl⟩:=hv;rw[Qq67]at hn;split at hn
   ·have hi:i<zs.length:=(Qw.1 hn).1;rw[h4 i hi,List.getD_eq_getElem?_getD,hn];rfl
   ·cases hn
  ·rw[hfl]at hy;rw[QT]at hy hv;rw[Qb]at hy hv;obtain⟨n,hn,rfl⟩:=hy;obtain⟨n',hn',rfl⟩:=hv;rw[hn]at hn';injection hn' with e
   subst e;exact .int _ _
theorem VM{P:Program}{f:FuncId}{args:List PV}{vs:List Value}{w:World}(hG:GI w)(h:Bw P f false [] args (.bool true) [])(hr:aR w (fun _=>False) dm args vs):
  Calls P f vs.toArray w fun e w'=>e= .returned (.bool true)/\Below w.heap.size w w':=by
 refine(h w (fun _=>False) (.nil hG) 0 0 [] vs (fun hq=>by cases hq) ?_).mono ?_
 ·exact⟨hr.1,fun i x v hx hv=>(hr.2 i x v hx hv).mono (dj.of fun _ _=>fun hq=>by rcases hq with⟨hq,_⟩|hq;cases hq;exact hq) (Gh.le.refl _)⟩
 ·rintro e w' ⟨v,_,rfl,hv,_,hF⟩;refine⟨by rw[hv.nL],hF.os,hF.tape,hF.output,hF.size,fun k hk=>hF.block k hk (by simp)⟩
end Go.TQ
end
noncomputable section
namespace Go.Proofs.YtnhgcpiljggmmaaGreatDoor.Gi
open Go Go.ChangeShapes Go.WideShapes Go.RowKit
section
theorem wrap{H:Type}{fD:TypeId×Value->H}{a:Assume}{C:Checked}{os:Os}{f:FuncId}{fn:Func}{s:ChangeSpec}{conds:List PathCond}{apart fresh handsOn again:Bool}{X:World->Array Value->Prop}
  (hX:∀(w w':World) (args:Array Value),w.heap=w'.heap->X w args->X w' args)
  (own:ownKnob C.prog.godebug=none) (started:os.Started) (noInit:C.prog.inits.idxOf? f=none) (hfn:C.prog.funcs[f]?=some fn)
  (witness:∃(w:World) (tape:Tape) (i:Input),w.os=os/\(w.forCall tape i).Shaped C.prog/\i.vars=[]/\Input.okWide C.prog (w.forCall tape i) .any w.heap.size f i/\
   ((s.pre fD C.prog fn conds apart (w.forCall tape i).memory i.args/\X (w.forCall tape i).memory i.args)/\sizedMet fD C.prog fn (OpenSpec.ofChange s) apart (w.forCall tape i).memory i.args)/\a.holds C.prog (lone (Frame.enter C.prog f i.args .normal) [] (w.forCall tape i)))
  (contract:∀(W:World) (base:Nat) (args:Array Value) (ds gs:List (DataW H)) (before:List MemPlace),
   (∀(j:Nat) t v,fn.params[j]?=some t->args[j]?=some v->Value.okWide C.prog W .any base t v)->
   DataW.Whole fD C.prog fn.params.toList s.vars apart W args.toList ds gs before->
   X W args->W.ShapedOpen C.prog->
   Calls C.prog f args W fun e W'=>∃v,e= .returned v/\s.post fD C.prog fn apart fresh handsOn again W args v W'):
  ReturnsInHanded a C os f .any (fun w args=>(s.pre fD C.prog fn conds apart w args/\X w args)/\sizedMet fD C.prog fn (OpenSpec.ofChange s) apart w args) (s.post fD C.prog fn apart fresh handsOn again):=by
 refine returnsInHanded_of_calls own started noInit witness ?_;intro w tape i _ hsh _ hok hpre hholds;obtain⟨_,_,_,fn',hfn',_,_,_,_,hval⟩:=hok;have e:fn'=fn:=Option.some.inj (hfn'.symm.trans hfn);subst e;obtain⟨⟨⟨ds,gs,before,hw,hc⟩,hx⟩,hz⟩:=hpre;have hw':=DataW.Whole.of_heap (w':=w.forCall tape i) (by rfl) hw
 refine(contract (w.forCall tape i) w.heap.size i.args ds gs before hval hw' (hX _ _ _ (by rfl) hx) hsh).mono fun e W' ⟨v,he,hp⟩=> ?_
 subst he;exact ChangeSpec.post_blind hp
set_option maxRecDepth 100000 in
theorem VB{W:World}(h:W.ShapedOpen Tryz.prog):∃m T fr,W.heap[0]?=some (.cells #[.int .i64 m] T fr):=by
 obtain⟨cs,h1,h2,h3⟩:=h.1 0 #[.int .i64 0] 3 (of_decide_eq_true (by kernel_rfl)) (by kernel_rfl)
 obtain⟨l⟩:=cs;have hl:l.length=1:=h2
 obtain⟨v,rfl⟩:∃v,l=[v]:=by
  match l,hl with
  |[v],_=>exact⟨v,rfl⟩
 obtain⟨ts,h4,_,h5⟩:=h3 (by kernel_rfl)
 have e:Tryz.prog.cellTypes Tryz.prog.depth 3=some [3]:=by kernel_rfl
 obtain rfl:=Option.some.inj (e.symm.trans h4);obtain⟨u,h6,h7⟩:=h5 0 v rfl;obtain rfl:3=u:=Option.some.inj h6;unfold Cell.ok at h7;rw[Tryz.underlying3]at h7
 cases v with
 |int k m=>
  have h8:k= .i64/\_:=h7;obtain⟨rfl,_⟩:=h8;exact⟨m,_,_,h1⟩
 |_=>exact h7.elim
theorem ac8:Tryz.prog.globalNamed "strconv.ErrSyntax"=some 1:=by kernel_rfl
theorem adb:Tryz.prog.globalNamed "strconv.ErrRange"=some 2:=by kernel_rfl
theorem Yv:Tryz.prog.globalNamed "internal/strconv.uint64pow10"=some 5:=by kernel_rfl
theorem ac7:(Tryz.prog.globals[1]?).map (·.type)=some 78:=by kernel_rfl
theorem ada:(Tryz.prog.globals[2]?).map (·.type)=some 78:=by kernel_rfl
theorem ac5:(Tryz.prog.globals[5]?).map (·.type)=some 290:=by kernel_rfl
theorem star: "*"++ "errors.errorString"= "*errors.errorString":=by decide
theorem P5{W:World}{P:Program}{n:String}{g:Nat}{cs:Array Value}(hg:P.globalNamed n=some g)(h:W.var? P n=some cs):∃T fr,W.heap[g]?=some (.cells cs T fr):=by
 unfold World.var? at h;simp only[hg,Qa]at h;split at h
 ·rename_i cs' T fr e;obtain rfl:=Option.some.inj h;exact⟨T,fr,e⟩
 ·cases h
theorem abn(u:TypeId)(h:Tryz.prog.typeName? 3 u=some "*errors.errorString"):u=286:=
 typeName_ptr_named (nm:= "errors.errorString") (by rw[star];kernel_rfl) (by kernel_rfl) (by decide) u (by rw[star];exact h)
theorem X3:Tryz.prog.cellsOf 288=1:=by kernel_rfl
theorem acy:Tryz.prog.cellsOf 9=1:=by kernel_rfl
theorem Rg{W:World}{n:String}{g:Nat}{text:List UInt8}{r:List (String×DataW Unit)}(h:laidMet Tryz.prog ((n,.iface "*errors.errorString" (.ptr (.agg [.lit (.string text)])))::r) W)
  (hg:Tryz.prog.globalNamed n=some g) (ht:(Tryz.prog.globals[g]?).map (·.type)=some 78):∃tp p T fr,W.heap[g]?=some (.cells #[.iface tp p] T fr):=by
 obtain⟨a,s,hv,_⟩:=laid_sentinel h hg ht Tryz.underlying78 abn Tryz.underlying286 Tryz.underlying288 rfl rfl Tryz.underlying9 X3 acy;obtain⟨T,fr,h1⟩:=P5 hg hv;exact⟨_,_,T,fr,h1⟩
theorem dw{H:Type}{fD:TypeId×Value->H}{P:Program}{w:World}{base:Nat}{sp:Nat->Bool}{held:Bool}{fuel:Nat}{t:TypeId}{k:IntKind}{c:Value}{y:DataW H×List MemPlace}
  (ht:P.underlying t=some (.int k)) (h:DataW.trod fD P w base sp held fuel t [c]=some y):∃n,c= .int k n/\y=(.lit (.int k n),[]):=by
 cases fuel with
 |zero=>simp[DataW.trod]at h
 |succ fuel=>
  cases c<;>simp[DataW.trod,ht]at h
  rename_i k' n;obtain⟨⟨rfl,_⟩,rfl⟩:=h;exact⟨n,rfl,rfl⟩
theorem X2:Tryz.prog.cellsOf 290=20:=by kernel_rfl
theorem X4:Tryz.prog.cellsOf 198=1:=by kernel_rfl
set_option maxHeartbeats 4000000 in
set_option maxRecDepth 100000 in
theorem aa8{W:World}{r:List (String×DataW Unit)}(h:laidMet Tryz.prog (("internal/strconv.uint64pow10",Rows.laid_internal_strconv_uint64pow10)::r) W):
  W.var? Tryz.prog "internal/strconv.uint64pow10"=some (((List.range 20).map fun i=>Value.int .u64 ((10 ^ i:Nat):Int)).toArray):=by
 obtain⟨ps,⟨g,t,cs,fuel,p,q,hg,ht,hvar,hd,_,_⟩,_⟩:=h;obtain rfl:=Option.some.inj (Yv.symm.trans hg);obtain rfl:=Option.some.inj (ac5.symm.trans ht);rw[hvar];congr 1;obtain⟨l⟩:=cs
 cases fuel with
 |zero=>simp[DataW.trod]at hd
 |succ fuel=>
  simp only[DataW.trod,Tryz.underlying290,X2,X4]at hd;split at hd
  ·rename_i hl
   obtain⟨c0,c1,c2,c3,c4,c5,c6,c7,c8,c9,c10,c11,c12,c13,c14,c15,c16,c17,c18,c19,rfl⟩:∃c0 c1 c2 c3 c4 c5 c6 c7 c8 c9 c10 c11 c12 c13 c14 c15 c16 c17 c18 c19,l=[c0,c1,c2,c3,c4,c5,c6,c7,c8,c9,c10,c11,c12,c13,c14,c15,c16,c17,c18,c19]:=by
    match l,hl with
    |[c0,c1,c2,c3,c4,c5,c6,c7,c8,c9,c10,c11,c12,c13,c14,c15,c16,c17,c18,c19],_=>exact⟨c0,c1,c2,c3,c4,c5,c6,c7,c8,c9,c10,c11,c12,c13,c14,c15,c16,c17,c18,c19,rfl⟩
   have e:List.range 20=[0,1,2,3,4,5,6,7,8,9,10,11,12,13,14,15,16,17,18,19]:=rfl;rw[e]at hd;simp only[Qb,Qq74,List.mapM_nil,Qd,Qc,Option.pure_def,Qf]at hd;obtain⟨xs,⟨y0,h0,_,⟨y1,h1,_,⟨y2,h2,_,⟨y3,h3,_,⟨y4,h4,_,⟨y5,h5,_,⟨y6,h6,_,⟨y7,h7,_,⟨y8,h8,_,⟨y9,h9,_,⟨y10,h10,_,⟨y11,h11,_,⟨y12,h12,_,⟨y13,h13,_,⟨y14,h14,_,⟨y15,h15,_,⟨y16,h16,_,⟨y17,h17,_,⟨y18,h18,_,⟨y19,h19,_,rfl,rfl⟩,rfl⟩,rfl⟩,rfl⟩,rfl⟩,rfl⟩,rfl⟩,rfl⟩,rfl⟩,rfl⟩,rfl⟩,rfl⟩,rfl⟩,rfl⟩,rfl⟩,rfl⟩,rfl⟩,rfl⟩,rfl⟩,rfl⟩,hx⟩:=hd;obtain⟨n0,rfl,rfl⟩:=dw Tryz.underlying198 h0;obtain⟨n1,rfl,rfl⟩:=dw Tryz.underlying198 h1;obtain⟨n2,rfl,rfl⟩:=dw Tryz.underlying198 h2;obtain⟨n3,rfl,rfl⟩:=dw Tryz.underlying198 h3;obtain⟨n4,rfl,rfl⟩:=dw Tryz.underlying198 h4;obtain⟨n5,rfl,rfl⟩:=dw Tryz.underlying198 h5;obtain⟨n6,rfl,rfl⟩:=dw Tryz.underlying198 h6;obtain⟨n7,rfl,rfl⟩:=dw Tryz.underlying198 h7;obtain⟨n8,rfl,rfl⟩:=dw Tryz.underlying198 h8;obtain⟨n9,rfl,rfl⟩:=dw Tryz.underlying198 h9;obtain⟨n10,rfl,rfl⟩:=dw Tryz.underlying198 h10;obtain⟨n11,rfl,rfl⟩:=dw Tryz.underlying198 h11;obtain⟨n12,rfl,rfl⟩:=dw Tryz.underlying198 h12;obtain⟨n13,rfl,rfl⟩:=dw Tryz.underlying198 h13;obtain⟨n14,rfl,rfl⟩:=dw Tryz.underlying198 h14;obtain⟨n15,rfl,rfl⟩:=dw Tryz.underlying198 h15;obtain⟨n16,rfl,rfl⟩:=dw Tryz.underlying198 h16;obtain⟨n17,rfl,rfl⟩:=dw Tryz.underlying198 h17;obtain⟨n18,rfl,rfl⟩:=dw Tryz.underlying198 h18;obtain⟨n19,rfl,rfl⟩:=dw Tryz.underlying198 h19;simp[Rows.laid_internal_strconv_uint64pow10]at hx;obtain⟨⟨rfl,rfl,rfl,rfl,rfl,rfl,rfl,rfl,rfl,rfl,rfl,rfl,rfl,rfl,rfl,rfl,rfl,rfl,rfl,rfl⟩,_⟩:=hx;rfl
  ·cases hd
end
section
def LL:List (String×DataW Unit):=[("math/bits.deBruijn32tab",Rows.laid_math_bits_deBruijn32tab),("math/bits.deBruijn64tab",Rows.laid_math_bits_deBruijn64tab),("internal/strconv.uint64pow10",Rows.laid_internal_strconv_uint64pow10),("unicode/utf8.acceptRanges",Rows.laid_unicode_utf8_acceptRanges),("strconv.ErrRange",Rows.laid_strconv_ErrRange),("strconv.ErrSyntax",Rows.laid_strconv_ErrSyntax),("unicode/utf8.first",Rows.laid_unicode_utf8_first)]
theorem adC{W:World}(h:laidMet Tryz.prog LL W)(hs:W.ShapedOpen Tryz.prog):TQ.GI W:=by
 have h2:laidMet Tryz.prog (("internal/strconv.uint64pow10",Rows.laid_internal_strconv_uint64pow10)::_) W:=h.tail.tail;have h4:=h2.tail.tail;have h5:=h4.tail;obtain⟨T5,fr5,e5⟩:=P5 Yv (aa8 h2);obtain⟨tp2,p2,T2,fr2,e2⟩:=Rg h4 adb ada;obtain⟨tp1,p1,T1,fr1,e1⟩:=Rg h5 ac8 ac7;obtain⟨m,T0,fr0,e0⟩:=VB hs;intro q hq;unfold TQ.xO at hq;simp only[QA,QR,or_false]at hq;rcases hq with rfl|rfl|rfl|rfl
 ·exact⟨_,e0,_,T0,fr0,rfl,m,rfl⟩
 ·exact⟨_,e1,_,T1,fr1,rfl,tp1,p1,rfl⟩
 ·exact⟨_,e2,_,T2,fr2,rfl,tp2,p2,rfl⟩
 ·exact⟨_,e5,T5,fr5,rfl⟩
def Fg:Nat->DataW Unit->List Value
 |k+1,.agg l=>l.flatMap (Fg k)
 |_,.lit (.int k n)=>[.int k n]
 |_,_=>[]
abbrev aeI:ByteArray:={data:=#[118,97,108,117,101,32,111,117,116,32,111,102,32,114,97,110,103,101]}
abbrev aeB:ByteArray:={data:=#[105,110,118,97,108,105,100,32,115,121,110,116,97,120]}
 def low:Nat:=(World.holding Tryz.prog default ⟨#[],#[],[]⟩).heap.size
def lay(cs:List Value):Obj->Obj
 | .cells _ t frozen=> .cells cs.toArray t frozen
 |o=>o
 def KZ(os:Os):World:=
 let w0:=World.holding Tryz.prog os ⟨#[.cells #[.string aeI] 288,.cells #[.string aeB] 288],#[],[]⟩
 {w0 with heap:=((((((w0.heap.modify 2 (lay [.iface 286 (.pointer (some ⟨low,0,none⟩))])).modify 1 (lay [.iface 286 (.pointer (some ⟨low+1,0,none⟩))])).modify 3 (lay (Fg 3 Rows.laid_unicode_utf8_first))).modify 4 (lay (Fg 3 Rows.laid_unicode_utf8_acceptRanges))).modify 5 (lay (Fg 3 Rows.laid_internal_strconv_uint64pow10))).modify 6 (lay (Fg 3 Rows.laid_math_bits_deBruijn32tab))).modify 7 (lay (Fg 3 Rows.laid_math_bits_deBruijn64tab))}
set_option maxRecDepth 100000 in
theorem LM(os:Os)(args:Array Value):laidMet Tryz.prog LL ((KZ os).forCall (fun _ _=>0) ⟨#[],args,[]⟩).memory:=
 laidMet_of_run' 8 (by kernel_rfl) (by kernel_rfl)
end
end Go.Proofs.YtnhgcpiljggmmaaGreatDoor.Gi
end
