/-
  Texts made small by a program (see NOTES). Conditions: those that each theorem names.
-/
import Derived.Test.YtppbofaglpdghaaGreatScenarioAgreeMb
import Derived.KernelRfl
import Derived.Laws.CopyRow
import Derived.Laws.Externs
import Derived.Lib.Overlaps
import Derived.Lib.AppendZerosOnto
import Derived.Laws.NewBlocks
import Derived.Test.YtppbofaglpdghaaGreatProg
import Derived.Shelf.Spec.SlicesInsert
import Derived.Shelf.SlSortCmp.NoneTotal
set_option linter.unusedVariables false
set_option linter.defProp false
set_option linter.unusedSimpArgs false
set_option linter.unusedSectionVars false
set_option maxHeartbeats 2000000
open Int (toNat)
open Sum (inl inr)
open List (replicate)
noncomputable section
namespace Go.TQ
section
open Go.RowKit
def PV.lA(p:Nat->Nat->Bool):PV->Bool
 | .own id v| .ptr id v _| .ct id v _ _ _| .view id v _ _ _=>p id v
 | .agg _| .bP _| .aQ _ _| .ff _ _=>false
 |_=>true
def PV.jD(p:Nat->Nat->Bool):PV->Bool
 | .agg cs| .bP cs| .aQ _ cs| .ff _ cs=>cs.all (PV.lA p)
 |x=>x.lA p
section
variable{w:Wo}
def aJ.lA{p:Nat->Nat->Bool}{M M':Nat->Prop}{G G':Gh}{x:PV}{v:Va}(q:x.lA p=true)(t:∀b,M' b->M b)(j:∀id v,p id v=true->id<G'.N/\((G'.V id=G.V id/\G'.L id=G.L id)\/G.V id<G'.V id\/v<G'.V id))(h:aJ w M G x v):aJ w M' G' x v:=by
 have s:bO w w M M':=(bO.of λ_ y=>λo=>y (t _ o))
 cases h with
 |any=>exact .any _
 |undef=>exact .undef
 |int=>exact .int _ _
 |bool=>exact .bool _
 |dP=>exact .dP _
 |str=>exact .str _
 |fD=>exact .fD
 |cz=>exact .cz
 |aQ|ff|agg|bP=>simp[PV.lA]at q
 |ptr id ab off a B m h=>let⟨h1,g⟩:=j id ab q;exact .ptr _ _ _ _ h1 O (λe=>by rcases g with g|g;rw[g.2];exact h O;omega)
 |ref cs ad vs z d h=>exact .ref cs ad vs z (λi u l=>⟨(d i u l).1,λo=>(d i u l).2 (t _ o)⟩) (λi p u j l=>(h i p u j l).mono s (Gh.le.refl _))
 |sl es ad c k vs hk z d h H y=>exact .sl es ad c k vs hk z (λi u l=>⟨(d i u l).1,λo=>(d i u l).2 (t _ o)⟩) (λi p u j l=>(h i p u j l).mono s (Gh.le.refl _)) H y
 |slnil=>exact .slnil
 |own id ab a n c B m h=>let⟨h1,g⟩:=j id ab q;exact .own _ _ _ _ _ h1 O (λe=>by rcases g with g|g;rw[g.2];exact h O;omega)
 |ct id ab k i off a B m h=>let⟨h1,g⟩:=j id ab q;exact .ct _ _ _ _ _ _ h1 O (λe=>by rcases g with g|g;rw[g.2];exact h O;omega)
 |view id ab k lo n a c B m h=>let⟨h1,g⟩:=j id ab q;exact .view _ _ _ _ _ _ _ h1 O (λe=>by rcases g with g|g;rw[g.2];exact h O;omega)
 |qq=>exact .qq
 |rW T v=>exact .rW T v
 |fF T x v j h=>exact .fF T x v j (h.plain j)
 |gl ks us b es J I D hk F g1 g2=>exact .gl ks us b es J I (λo=>D (t _ o)) hk F (λi p e j A=>(g1 i p e j A).mono s (Gh.le.refl _)) (λi p e j A=>(g2 i p e j A).mono s (Gh.le.refl _))
def aJ.jD{p:Nat->Nat->Bool}{M M':Nat->Prop}{G G':Gh}{x:PV}{v:Va}(d:x.jD p=true)(l:∀b,M' b->M b)(j:∀id v,p id v=true->id<G'.N/\((G'.V id=G.V id/\G'.L id=G.L id)\/G.V id<G'.V id\/v<G'.V id))(h:aJ w M G x v):aJ w M' G' x v:=by
 have go:∀{cs:Z PV} {vs:Z Va},cs.all (PV.lA p)=true->aK w M G cs vs->aK w M' G' cs vs:=λn h=>⟨h.1,λi y v g m=>(h.2 i y v g m).lA (Qe.1 n y (QG g)) l j⟩
 cases x with
 |agg cs=>obtain⟨vs,rfl,c⟩:=h.lU;have:=go (by simpa[PV.jD]using d) c;exact .agg _ _ this.1 this.2
 |bP cs=>obtain⟨vs,rfl,c⟩:=h.zI;have:=go (by simpa[PV.jD]using d) c;exact .bP _ _ this.1 this.2
 |aQ f cs=>obtain⟨vs,rfl,c⟩:=h.oX;have:=go (by simpa[PV.jD]using d) c;exact .aQ _ _ _ this.1 this.2
 |ff f cs=>obtain⟨vs,rfl,c⟩:=h.HO;have:=go (by simpa[PV.jD]using d) c;exact .ff _ _ _ this.1 this.2
 |_=>exact h.lA (by simpa[PV.jD]using d) l j
end
section
variable{U:TU}
def KV.lA(p:Nat->Nat->Bool):KV U->Bool
 | .own id v| .ptr id v _| .ct id v _ _ _| .view id v _ _ _=>p id v
 | .agg _| .bP _| .aQ _ _| .ff _ _=>false
 |_=>true
def KV.jD(p:Nat->Nat->Bool):KV U->Bool
 | .agg cs| .bP cs| .aQ _ cs| .ff _ cs=>cs.all (KV.lA p)
 |x=>x.lA p
def SU(p:Nat->Nat->Bool)(x:KV U):x.pv.lA p=x.lA p:=by cases x<;>simp[KV.pv,PV.lA,KV.lA]
def MQ(p:Nat->Nat->Bool)(l:Z (KV U)):(l.map KV.pv).all (PV.lA p)=l.all (KV.lA p):=by
 induction l with
 |nil=>rfl
 |cons x l b=>simp[Qj,QA,SU,b]
def F9(p:Nat->Nat->Bool)(x:KV U):x.pv.jD p=x.jD p:=by
 cases x with
 |agg cs|bP cs|aQ f cs|ff f cs=>simp only[KV.pv,PV.jD,KV.jD,KV.bT];exact MQ p cs
 |_=>simp[KV.pv,PV.jD,KV.jD,PV.lA,KV.lA]
def cp.jD(p:Nat->Nat->Bool):cp U->Bool
 | .dead=>true
 | .box cs=>cs.all (KV.jD p)
 | .row _ _ _ _=>true
 | .raw _ _ es=>es.all λc=>c.all (KV.jD p)
inductive It (U:TU) where
 |val (t:Nat) (T:U.Ty)
 |own (t id ab:Nat) (s:Bool) (e k:Nat) (T:U.Ty)
 |box (id ab:Nat) (T:U.Ty) (m:List (Nat×Nat×Nat))
 |bQ (id ab:Nat) (s:Bool) (e k:Nat) (T:U.Ty)
@[reducible] def It.den:It U->Type
 | .val _ T=>U.den T
 | .own _ _ _ _ _ _ T=>Z (U.den T)
 | .box _ _ T _=>U.den T
 | .bQ _ _ _ _ _ T=>Z (U.den T)
@[reducible] def mK:Z (It U)->Type
 |[]=>Unit
 |i::l=>i.den×mK l
def xa:Z (Nat×Nat×Nat)->Z (KV U)->Z (KV U)
 |[],cs=>cs
 |(off,_,_)::m,cs=>xa m (cs.set off .cz)
def xf:Z (Nat×Nat×Nat)->Z (KV U)->Z (KV U)
 |[],cs=>cs
 |(off,id,ab)::m,cs=>(xf m cs).set off (.own id ab)
def Cr(S:aw U)(cs:Z (KV U)):Z (Nat×Nat×Nat)->Bool
 |[]=>true
 |(off,id,_)::m=>(match cs[off]? with|some (.own i v)=>Nat.beq i id&&Nat.beq v (S.H id).ab|_=>false)&&Cr S cs m
def FU(cs:Z (KV U)):∀(m:Z (Nat×Nat×Nat)),(xf m cs).length=cs.length
 |[]=>rfl
 |(off,id,ab)::m=>by rw[xf,qa5,FU cs m]
def AE:∀(m:Z (Nat×Nat×Nat)) (cs:Z (KV U)),(xa m cs).length=cs.length
 |[],_=>rfl
 |(off,id,ab)::m,cs=>by rw[xa,AE m,qa5]
def FV(cs:Z (KV U)){i:Nat}{y:KV U}:∀(m:Z (Nat×Nat×Nat)),(xf m cs)[i]?=some y->(∃id ab,(i,id,ab)∈m/\y= .own id ab)\/((∀q∈m,q.1≠i)/\cs[i]?=some y)
 |[],h=> .inr ⟨t_,h⟩
 |(off,id,ab)::m,h=>by
  rw[xf,List.getElem?_set]at h;split at h
  .rename_i e;subst e;split at h
   .injection h with h
    exact .inl ⟨id,ab,Qy,h.symm⟩
   .cases h
  .rename_i e;rcases FV cs m h with⟨a,b,h1,d⟩|⟨h1,d⟩
   .exact .inl ⟨a,b,QC _ h1,d⟩
   .refine .inr ⟨λq c=> ?_,d⟩
    rcases Qk.1 c with rfl|c
    .exact e
    .exact h1 q c
def FF{i:Nat}:∀(m:Z (Nat×Nat×Nat)) (cs:Z (KV U)),(∀q∈m,q.1≠i)->(xa m cs)[i]?=cs[i]?
 |[],_,_=>rfl
 |(off,id,ab)::m,cs,h=>by rw[xa,FF m _ λq b=>h q (QC _ b),List.getElem?_set,Qf (h _ Qy)]
def Gc{S:aw U}{cs:Z (KV U)}{b id ab:Nat}:∀{m:Z (Nat×Nat×Nat)},Cr S cs m=true->(b,id,ab)∈m->cs[b]?=some (.own id (S.H id).ab)
 |[],_,h=>by cases h
 |(o,i,v)::m,hm,h=>by
  rw[Cr,Qa]at hm;rcases Qk.1 h with e|h
  .injection e with l d
   injection d with d j
   subst l d j;have c:=hm.1;split at c
   .rename_i n v' g;rw[Qa]at c;rw[g,Qg c.1,Qg c.2]
   .cases c
  .exact Gc hm.2 h
variable(K:TK U)
def K7(S:aw U):(i:It U)->Y i.den
 | .val t T=>ym K lN T (S.env t)
 | .own t id ab s e k T=>(match S.env t with
  | .own b v=>(match Nat.beq b id with
   |true=>(match S.row? b v with
    |some r=>(match Nat.beq r.e e&&Nat.beq r.k k&&(bif s then Nat.beq v ab else Nat.blt 0 ab)with|true=>uo r.T T r.xs|false=>none)
    |none=>none)
   |false=>none)
  |_=>none)
 | .box id ab T m=>(match S.nn id ab with
  |some cs=>(match Cr S cs m with|true=>K.dec T lN (xa m cs)|false=>none)
  |none=>none)
 | .bQ id ab s e k T=>(match(S.H id).c with
  | .row d c g xs=>(match Nat.beq d e&&Nat.beq c k&&(bif s then Nat.beq (S.H id).ab ab else Nat.blt 0 ab)with|true=>uo g T xs|false=>none)
  |_=>none)
def pack(S:aw U):(l:Z (It U))->Y (mK l)
 |[]=>some ()
 |i::l=>(match K7 K S i with
  |some v=>(match pack S l with|some vs=>some (v,vs)|none=>none)
  |none=>none)
def zd(S:aw U):(i:It U)->i.den->aw U
 | .val t T,v=>{env:=c8 S.env t (tu K T v),H:=S.H,N:=S.N}
 | .own t id ab s e k T,xs=>{env:=c8 S.env t (.own id ab),H:=c8 S.H id ⟨ab,.row e k T xs⟩,N:=S.N}
 | .box id ab T m,v=>{env:=S.env,H:=c8 S.H id ⟨ab,.box (xf m (K.dI T v))⟩,N:=S.N}
 | .bQ id ab s e k T,xs=>{env:=S.env,H:=c8 S.H id ⟨ab,.row e k T xs⟩,N:=S.N}
def oS(S:aw U):(l:Z (It U))->mK l->aw U
 |[],_=>S
 |i::l,v=>zd K (oS S l v.2) i v.1
structure JS (U:TU) where
 items:List (It U)
 bY:List Nat
def aw.base(S:aw U)(bY:Z Nat):aw U:=
 {env:=λt=>(match cZ t bY with|true=>S.env t|false=> .any),H:=λid=>(match Nat.blt id S.N with|true=>S.H id|false=>⟨0,.dead⟩),N:=S.N}
def unpack(S:aw U)(J:JS U)(v:mK J.items):aw U:=oS K (S.base J.bY) J.items v
def It.AG:It U->Y Nat
 | .val t _| .own t _ _ _ _ _ _=>some t
 | .box _ _ _ _| .bQ _ _ _ _ _ _=>none
def It.id:It U->Y Nat
 | .val _ _=>none
 | .own _ id _ _ _ _ _| .box id _ _ _| .bQ id _ _ _ _ _=>some id
def Xu(S:aw U):It U->Bool
 | .own _ id ab s _ _ _| .bQ id ab s _ _ _=>s||Nat.blt (S.H id).ab ab
 |_=>true
def It.row:It U->Y Nat
 | .own _ id _ s _ _ _| .bQ id _ s _ _ _=>(match s with|true=>none|false=>some id)
 |_=>none
def It.isRow(id ab:Nat):It U->Bool
 | .bQ c b _ _ _ _| .own _ c b _ _ _ _=>Nat.beq c id&&Nat.beq b ab
 |_=>false
def GC(id ab:Nat):Z (It U)->Bool
 |[]=>false
 |i::l=>i.isRow id ab||GC id ab l
def It.Xs(l:Z (It U)):It U->Bool
 | .box _ _ _ m=>m.all λq=>GC q.2.1 q.2.2 l
 |_=>true
def GB{id ab:Nat}:∀{l:Z (It U)},GC id ab l=true->(∃s e k T,(It.bQ id ab s e k T)∈l)\/∃t s e k T,(It.own t id ab s e k T)∈l
 |[],h=>by cases h
 |i::l,h=>by
  rw[GC,Qx]at h;rcases h with h|h
  .cases i with
   |bQ c b s e k T=>simp only[It.isRow,Qa]at h;rw[Qg h.1,Qg h.2];exact .inl ⟨s,e,k,T,Qy⟩
   |own t c b s e k T=>simp only[It.isRow,Qa]at h;rw[Qg h.1,Qg h.2];exact .inr ⟨t,s,e,k,T,Qy⟩
   |_=>cases h
  .rcases GB h with⟨s,e,k,T,h⟩|⟨t,s,e,k,T,h⟩
   .exact .inl ⟨s,e,k,T,QC _ h⟩
   .exact .inr ⟨t,s,e,k,T,QC _ h⟩
def c5:Z (It U)->Z Nat
 |[]=>[]
 |i::l=>(match i.id with|some id=>id::c5 l|none=>c5 l)
def rowsOf:Z (It U)->Z Nat
 |[]=>[]
 |i::l=>(match i.row with|some id=>id::rowsOf l|none=>rowsOf l)
def slotsOf:Z (It U)->Z Nat
 |[]=>[]
 |i::l=>(match i.AG with|some id=>id::slotsOf l|none=>slotsOf l)
def rV:Z Nat->Bool
 |[]=>true
 |x::l=> !cZ x l&&rV l
def sA:Nat->(Nat->Bool)->Bool
 |0,_=>true
 |n+1,p=>sA n p&&p n
def sz{p:Nat->Bool}:∀{n:Nat},sA n p=true->∀i,i<n->p i=true
 |0,_,i,hi=>absurd hi (qaU _)
 |n+1,h,i,hi=>by
  simp[sA,Qa]at h
  by_cases e:i=n
  .rw[e];exact h.2
  .exact sz h.1 i O
def nk(S:aw U)(J:JS U)(F:Z Nat)(W:WS):Bool:=
 let b:=c5 J.items
 let c:=rowsOf J.items
 let p:=λid v=>Nat.blt id S.N&&(!cZ id c||Nat.ble v (S.H id).ab)
 rV b&&b.all (λid=>Nat.blt id S.N&&okW W id)&&(J.items.all (Xu S)&&J.items.all (It.Xs J.items))&&J.bY.all (λt=>(S.env t).jD p&& !cZ t (slotsOf J.items))&&sA S.N (λid=>cZ id b||(S.H id).c.jD p)
  &&F.all (λt=>cZ t J.bY)&&(match W with|some (n,_)=>Nat.ble n S.N|none=>false)
def rR:(l:Z (It U))->mK l->Z (Sigma (It.den (U:=U)))
 |[],_=>[]
 |i::l,v=>⟨i,v.1⟩::rR l v.2
variable{K}
def F0{S:aw U}:∀{l:Z (It U)} {v:mK l},pack K S l=some v->∀p∈rR l v,K7 K S p.1=some p.2
 |[],v,h,p,b=>by cases b
 |i::l,v,h,p,b=>by
  rw[pack]at h;split at h
  .rename_i g d;split at h
   .rename_i vs c;injection h with h
    subst h;rcases Qk.1 b with rfl|b
    .exact d
    .exact F0 c p b
   .cases h
  .cases h
def PC:(i:It U)->i.den->KV U
 | .val _ T,v=>tu K T v
 | .own _ id ab _ _ _ _,_=> .own id ab
 | .box _ _ _ _,_| .bQ _ _ _ _ _ _,_=> .any
def zh:(i:It U)->i.den->bx U
 | .val _ _,_=>⟨0,.dead⟩
 | .own _ _ ab s e k T,xs=>⟨ab,.row e k T xs⟩
 | .box _ ab T m,v=>⟨ab,.box (xf m (K.dI T v))⟩
 | .bQ _ ab s e k T,xs=>⟨ab,.row e k T xs⟩
def Ox(S:aw U)(i:It U)(v:i.den)(t:Nat):(i.AG=some t/\(zd K S i v).env t=PC (K:=K) i v)\/(i.AG≠some t/\(zd K S i v).env t=S.env t):=by
 cases i with
 |val b T|own b id ab s c k T=>
  by_cases e:b=t
  .subst e;left;exact⟨rfl,by simp only[zd,bU];exact bf _ _ _⟩
  .right;exact⟨by simpa[It.AG]using e,by simp only[zd,bU];exact bo _ _ (λh=>e h.symm)⟩
 |box id ab T m|bQ id ab s e k T=>right;exact⟨by simp[It.AG],rfl⟩
def Jn(S:aw U)(i:It U)(v:i.den)(id:Nat):(i.id=some id/\(zd K S i v).H id=zh (K:=K) i v)\/(i.id≠some id/\(zd K S i v).H id=S.H id):=by
 cases i with
 |val c T=>right;exact⟨by simp[It.id],rfl⟩
 |own c b ab s d k T|box b ab T m|bQ b ab s d k T=>
  by_cases e:b=id
  .subst e;left;exact⟨rfl,by simp only[zd,bU];exact bf _ _ _⟩
  .right;exact⟨by simpa[It.id]using e,by simp only[zd,bU];exact bo _ _ (λh=>e h.symm)⟩
def SM(S:aw U)(i:It U)(v:i.den):(zd K S i v).N=S.N:=by cases i<;>rfl
def zL(S:aw U):∀(l:Z (It U)) (v:mK l),(oS K S l v).N=S.N
 |[],_=>rfl
 |i::l,v=>by rw[oS,SM,zL S l]
def mX{id:Nat}:∀{l:Z (It U)} {i:It U},i∈l->i.id=some id->id∈c5 l
 |j::l,i,hi,h=>by
  simp[c5];rcases Qk.1 hi with rfl|hi
  .rw[h];exact Qy
  .have:=mX hi h;split
   .exact QC _ this
   .exact this
def ES{id:Nat}:∀{l:Z (It U)} {i:It U},i∈l->i.row=some id->id∈rowsOf l
 |j::l,i,hi,h=>by
  simp[rowsOf];rcases Qk.1 hi with rfl|hi
  .rw[h];exact Qy
  .have:=ES hi h;split
   .exact QC _ this
   .exact this
def yt{id:Nat}:∀{l:Z (It U)} {i:It U},i∈l->i.AG=some id->id∈slotsOf l
 |j::l,i,hi,h=>by
  simp[slotsOf];rcases Qk.1 hi with rfl|hi
  .rw[h];exact Qy
  .have:=yt hi h;split
   .exact QC _ this
   .exact this
def eU:∀{l:Z (It U)} {v:mK l} {p:Sigma (It.den (U:=U))},p∈rR l v->p.1∈l
 |i::l,v,p,b=>by
  rcases Qk.1 b with rfl|b
  .exact Qy
  .exact QC _ (eU b)
def ET:∀{l:Z (It U)} {v:mK l} {i:It U},i∈l->∃d,(⟨i,d⟩:Sigma (It.den (U:=U)))∈rR l v
 |j::l,v,i,hi=>by
  rcases Qk.1 hi with rfl|hi
  .exact⟨v.1,Qy⟩
  .let⟨d,b⟩:=ET (v:=v.2) hi
   exact⟨d,QC _ b⟩
def uw(S:aw U):∀(l:Z (It U)) (v:mK l) (t:Nat),(∃p∈rR l v,p.1.AG=some t/\(oS K S l v).env t=PC (K:=K) p.1 p.2)\/(t∉slotsOf l/\(oS K S l v).env t=S.env t)
 |[],v,t=> .inr ⟨by simp[slotsOf],rfl⟩
 |i::l,v,t=>by
  rcases Ox (K:=K) (oS K S l v.2) i v.1 t with⟨h1,c⟩|⟨h1,c⟩
  .exact .inl ⟨⟨i,v.1⟩,Qy,h1,c⟩
  .rcases uw S l v.2 t with⟨p,h,b,d⟩|⟨b,d⟩
   .exact .inl ⟨p,QC _ h,b,c.trans d⟩
   .refine .inr ⟨?_,c.trans d⟩;simp[slotsOf];split
    .rename_i s g;simp[Qk,Q3];exact⟨λe=>h1 (by rw[g,e]),b⟩
    .exact b
def zM(S:aw U):∀(l:Z (It U)) (v:mK l) (id:Nat),rV (c5 l)=true->(∃p∈rR l v,p.1.id=some id/\(oS K S l v).H id=zh (K:=K) p.1 p.2)\/(id∉c5 l/\(oS K S l v).H id=S.H id)
 |[],v,t,_=> .inr ⟨by simp[c5],rfl⟩
 |i::l,v,id,b=>by
  have g:rV (c5 l)=true:=by
   simp[c5]at b;split at b
   .simp[rV,Qa]at b;exact b.2
   .exact b
  rcases Jn (K:=K) (oS K S l v.2) i v.1 id with⟨h1,d⟩|⟨h1,d⟩
  .exact .inl ⟨⟨i,v.1⟩,Qy,h1,d⟩
  .rcases zM S l v.2 id g with⟨p,m,c,h⟩|⟨c,h⟩
   .exact .inl ⟨p,QC _ m,c,d.trans h⟩
   .refine .inr ⟨?_,d.trans h⟩;simp[c5];split
    .rename_i s j;simp[Qk,Q3];exact⟨λe=>h1 (by rw[j,e]),c⟩
    .exact c
def yq(S:aw U):∀(l:Z (It U)) (v:mK l),rV (c5 l)=true->∀p∈rR l v,∀id,p.1.id=some id->(oS K S l v).H id=zh (K:=K) p.1 p.2
 |[],v,_,p,d=>by cases d
 |i::l,v,b,p,d=>by
  intro id c
  have h:rV (c5 l)=true:=by
   simp[c5]at b;split at b
   .simp[rV,Qa]at b;exact b.2
   .exact b
  rcases Qk.1 d with rfl|d
  .rcases Jn (K:=K) (oS K S l v.2) i v.1 id with⟨h1,g⟩|⟨h1,g⟩
   .exact g
   .exact absurd c h1
  .rcases Jn (K:=K) (oS K S l v.2) i v.1 id with⟨h1,g⟩|⟨h1,g⟩
   .exfalso;simp[c5,h1,rV,Qa,QR]at b;exact lh b.1 (mX (eU d) c)
   .exact g.trans (yq S l v.2 h p d id c)
def GY(S:aw U)(bY:Z Nat):(S.base bY).N=S.N:=rfl
def Br{S:aw U}{bY:Z Nat}{t:Nat}:(S.base bY).env t=if t∈bY then S.env t else .any:=by grind [aw.base,cJ,lh]
def GZ{S:aw U}{bY:Z Nat}{id:Nat}:(S.base bY).H id=if id<S.N then S.H id else⟨0,.dead⟩:=by
 simp[aw.base];split
 .rename_i h;rw[Qc (show id<S.N from Qm h)]
 .rename_i h;rw[Qf];intro b;have:Nat.blt id S.N=true:=qao b;rw[this]at h;cases h
def eH.H5{w:Wo}{M:Nat->Prop}{G:Gh}{xs:Z (KV U)}{b:Z PV}(h:eH lN xs b):∀{vs:Z Va},aK w M G (xs.map KV.pv) vs->aK w M G b vs:=by
 induction h with
 |nil=>intro vs h;exact h
 |cons i _ d=>
  intro vs h;obtain⟨v,c,rfl,h1,j⟩:=aK.cons_inv h;refine aK.cons ?_ (d j)
  cases i with
  |cz=>rw[KV.pv]at h1;rw[h1.mA];exact .slnil
  |own _ _ _ _ g=>cases g
  |_=>simpa[KV.pv]using h1
def gJ.H5{w:Wo}{M:Nat->Prop}{G:Gh}{x:KV U}{y:PV}(d:gJ lN x y){v:Va}(b:aJ w M G x.pv v):aJ w M G y v:=by
 cases d with
 |cz=>rw[KV.pv]at b;rw[b.mA];exact .slnil
 |own _ _ _ _ c=>cases c
 |_=>simpa[KV.pv]using b
def eH.len{lk:Lk U}{xs:Z (KV U)}{b:Z PV}(h:eH lk xs b):xs.length=b.length:=by
 induction h with
 |nil=>rfl
 |cons _ _ c=>rw[QV,QV,c]
def eH.get{lk:Lk U}{xs:Z (KV U)}{d:Z PV}(h:eH lk xs d):∀{i:Nat} {x:KV U} {y:PV},xs[i]?=some x->d[i]?=some y->gJ lk x y:=by
 induction h with
 |nil=>intro i x y h;simp at h
 |cons j _ g=>
  intro i x y c b
  cases i with
  |zero=>simp[List.getElem?_cons_zero,Qb]at c b;subst c b;exact j
  |succ i=>exact g (by simpa using c) (by simpa using b)
def MZ{w:Wo}{M:Nat->Prop}{G:Gh}{T:U.Ty}{x:KV U}{d:U.den T}{v:Va}(h:ym K lN T x=some d)(r:aJ w M G x.pv v):aJ w M G (cY T d) v:=by
 unfold ym at h;unfold cY;split at h
 .split at h
  .rename_i cs;rw[KV.pv,KV.bT]at r;obtain⟨vs,rfl,g⟩:=r.lU;have:=(K.iP _ _ _ _ h).H5 g;exact .agg _ _ this.1 this.2
  .cases h
 .rename_i n;have j:=K.iP _ _ _ _ h;have m:aK w M G ([x].map KV.pv) [v]:= .cons r .nil;have b:=j.H5 m;generalize U.pv T d=c at b
  let⟨i,b⟩:=b
  cases c with
  |nil=>simp at i
  |cons y l=>exact b 0 y v rfl rfl
def Rel.meet{S0 S1:aw U}{J:JS U}{F:Z Nat}{W:WS}(hchk:nk S0 J F W=true){v:mK J.items}(hp:pack K S1 J.items=some v)
  (hk:∀t∈J.bY,S1.env t=S0.env t) (hH:∀id,id<S0.N->id∉c5 J.items->S1.H id=S0.H id) (hN:S0.N<=S1.N)
  {E:En} (hA:qm E S0.st) {a:Act} {w:Wo} {L:Nat->Va} (h:Rel E S1.st a w L):Rel E (unpack K S0 J v).st a w L:=by
 simp only[nk,Qa,Qe]at hchk;obtain⟨⟨⟨⟨⟨⟨hnd,hids⟩,hokv,hokm⟩,hkeep⟩,hobj⟩,hF⟩,hW⟩:=hchk;have hpk:=F0 hp;have M:(unpack K S0 J v).N=S0.N:=by rw[unpack,zL,GY]
 have hlt:∀id∈c5 J.items,id<S0.N:=λid A=>Qm (hids id A).1
 have hHc:∀id,(∃p∈rR J.items v,p.1.id=some id/\(unpack K S0 J v).H id=zh (K:=K) p.1 p.2)\/(id∉c5 J.items/\(unpack K S0 J v).H id=if id<S0.N then S0.H id else⟨0,.dead⟩):=by
  intro id;rcases zM (K:=K) (S0.base J.bY) J.items v id hnd with h1|⟨h1,D⟩
  .exact .inl h1
  .exact .inr ⟨h1,D.trans GZ⟩
 have N:∀t id ab s e k T (xs:Z (U.den T)),(⟨.own t id ab s e k T,xs⟩:Sigma (It.den (U:=U)))∈rR J.items v->S1.env t= .own id (S1.H id).ab/\(S1.H id).c= .row e k T xs/\(bif s then(S1.H id).ab=ab else 0<ab):=by
  intro t id ab s e k T xs o;have:=hpk _ o;simp only[K7]at this;split at this
  .rename_i B v' he;split at this
   .rename_i A;have A:=Qg A;subst A;split at this
    .rename_i r hr;obtain⟨h1,D⟩:=yn hr;split at this
     .rename_i H;rw[Qa,Qa]at H;obtain⟨re,rk,rT,rxs⟩:=r;obtain⟨eT,hxs⟩:=ji this;simp only at eT hxs D H;subst eT;refine⟨by rw[he,h1],by rw[D,hxs,Qg H.1.1,Qg H.1.2],?_⟩
      cases s with
      |true=>exact h1.symm▸Qg H.2
      |false=>exact Qm H.2
     .cases this
    .cases this
   .cases this
  .cases this
 have hbox:∀id ab T m (d:U.den T),(⟨.box id ab T m,d⟩:Sigma (It.den (U:=U)))∈rR J.items v->(S1.H id).ab=ab/\∃cs,(S1.H id).c= .box cs/\Cr S1 cs m=true/\eH lN (xa m cs) (U.pv T d):=by
  intro id ab T m d o;have:=hpk _ o;simp only[K7]at this;split at this
  .rename_i cs hcs;obtain⟨h1,D⟩:=uR hcs;split at this
   .rename_i hmk;exact⟨h1,cs,D,hmk,K.iP _ _ _ _ this⟩
   .cases this
  .cases this
 have I:∀id ab s e k T (xs:Z (U.den T)),(⟨.bQ id ab s e k T,xs⟩:Sigma (It.den (U:=U)))∈rR J.items v->(S1.H id).c= .row e k T xs/\(bif s then(S1.H id).ab=ab else 0<ab):=by
  intro id ab s e k T xs o;have:=hpk _ o;simp only[K7]at this;split at this
  .rename_i e' k' T' ys hc;split at this
   .rename_i H;rw[Qa,Qa]at H;obtain⟨eT,hxs⟩:=ji this;subst eT;refine⟨by rw[hc,hxs,Qg H.1.1,Qg H.1.2],?_⟩
    cases s with
    |true=>exact Qg H.2
    |false=>exact Qm H.2
   .cases this
  .cases this
 have G:∀id,id<S0.N->((unpack K S0 J v).st.H id).c.live=true->(S1.st.H id).c.live=true:=by
  intro id A hl;rcases hHc id with⟨⟨i,d⟩,o,h1,D⟩|⟨h1,D⟩
  .cases i with
   |val t T=>cases h1
   |own t B ab s e k T=>simp only[It.id,Qb]at h1;subst h1;have:=(N _ _ _ _ _ _ _ _ o).2.1;simp only[aw.st,bx.pv,this,cp.pv];rfl
   |box B ab T m=>simp[It.id,Qb]at h1;subst h1;obtain⟨_,cs,h3,_,_⟩:=hbox _ _ _ _ _ o;simp only[aw.st,bx.pv,h3,cp.pv];rfl
   |bQ B ab s e k T=>simp[It.id,Qb]at h1;subst h1;have:=(I _ _ _ _ _ _ _ o).1;simp only[aw.st,bx.pv,this,cp.pv];rfl
  .grind [aw.st]
 have hM:∀b,aH E (unpack K S0 J v).st L b->aH E S1.st L b:=by
  rintro b (⟨id,A,hl,hb⟩|hb)
  .have q:id<S0.N:=by simpa only[aw.st,M]using A
   exact .inl ⟨id,QH q hN,G id q hl,hb⟩
  .exact .inr hb
 have hpok:∀id u,(Nat.blt id S0.N&&(!cZ id (rowsOf J.items)||Nat.ble u (S0.H id).ab))=true->id<((unpack K S0 J v).st.gh L).N/\((((unpack K S0 J v).st.gh L).V id=(S1.st.gh L).V id/\((unpack K S0 J v).st.gh L).L id=(S1.st.gh L).L id)\/(S1.st.gh L).V id<((unpack K S0 J v).st.gh L).V id\/u<((unpack K S0 J v).st.gh L).V id):=by
  intro id u A;rw[Qa,Qx,QR]at A;have hid1:id<S0.N:=Qm A.1;refine⟨by simpa only[St.gh,aw.st,M]using hid1,?_⟩
  suffices hs:((unpack K S0 J v).H id).ab=(S1.H id).ab\/(id∈rowsOf J.items/\(S0.H id).ab<((unpack K S0 J v).H id).ab)by
   simp only[St.gh,aw.st,bx.pv];rcases hs with hs|⟨hs1,hs2⟩
   .exact .inl ⟨hs,trivial⟩
   .refine .inr (.inr (Nat.lt_of_le_of_lt (Qm (A.2.resolve_left λe=>lh e hs1)) hs2))
  rcases hHc id with⟨⟨i,d⟩,o,h1,D⟩|⟨h1,D⟩
  .cases i with
   |val t T=>cases h1
   |own t B ab s e k T=>
    simp only[It.id,Qb]at h1;subst h1
    cases s with
    |true=>rw[D];exact .inl (N _ _ _ _ _ _ _ _ o).2.2.symm
    |false=>refine .inr ⟨ES (eU o) rfl,?_⟩;rw[D];exact Qm (hokv _ (eU o))
   |box B ab T m=>simp only[It.id,Qb]at h1;subst h1;rw[D];exact .inl (hbox _ _ _ _ _ o).1.symm
   |bQ B ab s e k T=>
    simp only[It.id,Qb]at h1;subst h1
    cases s with
    |true=>rw[D];exact .inl (I _ _ _ _ _ _ _ o).2.symm
    |false=>refine .inr ⟨ES (eU o) rfl,?_⟩;rw[D];exact Qm (hokv _ (eU o))
  .rw[D,Qc hid1];exact .inl (QJ bx.ab (hH id hid1 h1)).symm
 have hanc:∀id n u,E.gn id=some (n,u)->id<(unpack K S0 J v).st.N/\n<=((unpack K S0 J v).st.H id).ab/\(((unpack K S0 J v).st.H id).ab=n->L id=u):=by
  intro id n u hi
  let⟨q1,q2⟩:=hA id n u hi
  let⟨_,p2,p3⟩:=h.gn id n u hi
  have q1:id<S0.N:=q1;refine⟨by simpa only[aw.st,M]using q1,?_⟩
  have q2:n<=(S0.H id).ab:=q2;have p2:n<=(S1.H id).ab:=p2
  have row1:∀{ab:Nat} {s:Bool},(bif s then(S1.H id).ab=ab else 0<ab)->(s||Nat.blt (S0.H id).ab ab)=true->n<=ab/\(ab=n->L id=u):=by
   intro ab s g2 g3
   cases s with
   |true=>have g2:(S1.H id).ab=ab:=g2;exact⟨O,λe=>p3 (g2.trans e)⟩
   |false=>rw[qbd]at g3;have:=Qm g3;exact⟨O,λe=>O⟩
  rcases hHc id with⟨⟨i,d⟩,o,h1,D⟩|⟨h1,D⟩
  .have hj:=hokv _ (eU o)
   cases i with
   |val t T=>cases h1
   |own t B ab s e k T=>simp only[It.id,Qb]at h1;subst h1;simp only[aw.st,bx.pv,D,zh];exact row1 (N _ _ _ _ _ _ _ _ o).2.2 hj
   |box B ab T m=>
    simp only[It.id,Qb]at h1;subst h1
    let⟨g1,_⟩:=hbox _ _ _ _ _ o
    simp only[aw.st,bx.pv,D,zh];exact⟨O,λe=>p3 (g1.trans e)⟩
   |bQ B ab s e k T=>simp only[It.id,Qb]at h1;subst h1;simp only[aw.st,bx.pv,D,zh];exact row1 (I _ _ _ _ _ _ _ o).2 hj
  .have e:(unpack K S0 J v).H id=S1.H id:=by rw[D,Qc q1];exact(hH id q1 h1).symm
   have e':(unpack K S0 J v).st.H id=S1.st.H id:=by simp only[aw.st,e]
   rw[e'];exact⟨p2,p3⟩
 refine⟨h.defers,h.size,λt=> ?_,λid A=> ?_,λi j b hi hj hli hlj hbi hbj=> ?_,λid A=> ?_,h.fr,λhb hlv V=> ?_,λid n u hi=>hanc id n u hi,h.an.1.trans (.of λb hn hm=>hn (hM b hm)),λid b A hl hb hr=>(have q:id<S0.N:=(by simpa only[aw.st,M]using A);h.an.2.1 id b (QH q hN) (G id q hl) hb hr),λb hH=>⟨(h.an.2.2 b hH).1,(h.an.2.2 b hH).2.1,λid A hl=>(have q:id<S0.N:=(by simpa only[aw.st,M]using A);(h.an.2.2 b hH).2.2 id (QH q hN) (G id q hl))⟩⟩
 .show aJ _ _ _ (((unpack K S0 J v).env t).pv) _;rcases uw (K:=K) (S0.base J.bY) J.items v t with⟨⟨i,d⟩,o,h1,D⟩|⟨_,D⟩
  .rw[show(unpack K S0 J v).env t=_ from D]
   cases i with
   |val t' T=>
    simp only[It.AG,Qb]at h1;subst h1;simp only[PC,wT];have h3:=hpk _ o;simp only[K7]at h3;have h4:=MZ h3 (h.env t')
    have hg:(cY T d).jD (λ_ _=>false)=true:=by
     have:=vl K d;have h5:=BC K d
     cases hv:cY T d with
     |agg cs=>
      simp only[PV.jD];refine Qe.2 λy hy=> ?_
      cases ha:U.agg T with
      |true=>
       rw[qN d ha]at hv;injection hv with hv
       rw[<-hv]at hy;have:=K.ep T d y hy;cases y<;>first|rfl|cases this
      |false=>obtain⟨y0,h6,X⟩:=oM K d ha;have h8:=K.ep T d y0 X;rw[<-h6,hv]at h8;cases h8
     |bP cs=>exact absurd hv (h5 cs)
     |aQ f cs=>
      exfalso
      cases ha:U.agg T with
      |true=>rw[qN d ha]at hv;cases hv
      |false=>obtain⟨y,h6,X⟩:=oM K d ha;have h8:=K.ep T d y X;rw[<-h6,hv]at h8;cases h8
     |_=>rw[hv]at this;first|rfl|cases this
    exact h4.jD hg hM (λid _ A=>by cases A)
   |own t' id ab s e k T=>
    simp[It.AG,Qb]at h1;subst h1
    let⟨h3,h4,_⟩:=N _ _ _ _ _ _ _ _ o
    have h5:=h.env t';have h6:S1.st.env t'= .own id (S1.st.H id).ab:=by simp[aw.st,h3,KV.pv,bx.pv]
    rw[h6]at h5
    let⟨X,h8⟩:=h5.iA (show(S1.st.gh L).V id=_ from rfl)
    have hidlt:=hlt id (mX (eU o) rfl);have h9:=yq (K:=K) (S0.base J.bY) J.items v hnd _ o id rfl;simp only[PC,KV.pv]
    have hsl:∃ad n c,a.tmps.getD t' undef= .slice ad n c:=by
     generalize a.tmps.getD t' undef=vv at h5
     cases h5 with
     |own _ _ ad n c _ _ _=>exact⟨ad,n,c,rfl⟩
    obtain⟨ad,n,c,hv⟩:=hsl;rw[hv]at h8 ⊢;refine .own _ _ _ _ _ (by simpa only[St.gh,aw.st,M]using hidlt) ?_ (λ_=>h8)
    simp only[St.gh,aw.st,bx.pv,show(unpack K S0 J v).H id=_ from h9,zh]
    exact Ql _
   |box id ab T m|bQ id ab s e k T=>cases h1
  .rw[show(unpack K S0 J v).env t=_ from D,Br]
   split
   .rename_i ht;have h3:=(hkeep t ht).1;rw[<-F9]at h3;refine aJ.jD h3 hM hpok ?_;have:=h.env t
    grind [aw.st]
   .exact .any _
 .have q:id<S0.N:=by simpa only[aw.st,M]using A
  show iE _ _ _ _ _ (((unpack K S0 J v).H id).c.pv);rcases hHc id with⟨⟨i,d⟩,o,h1,D⟩|⟨h1,D⟩
  .rw[D]
   cases i with
   |val t T=>cases h1
   |own t B ab s e k T=>
    simp[It.id,Qb]at h1;subst h1;have h3:=(N _ _ _ _ _ _ _ _ o).2.1;have h4:(S1.st.H B).c= .row e k (d.map (U.pv T)):=by simp[aw.st,bx.pv,h3,cp.pv]
    let⟨vs,h5,h6,X⟩:=h.fZ (QH q hN) h4
    refine⟨vs,h5,h6,aK.closed ?_ hM X⟩;refine Qe.2 λy hy=> ?_
    let⟨u,hu,hyu⟩:=List.mem_flatten.1 hy
    obtain⟨x,_,rfl⟩:=Qs.1 hu;exact ei (K.ep T x y hyu)
   |box B ab T m=>
    simp only[It.id,Qb]at h1;subst h1
    let⟨_,cs,h3,hmk,hcs⟩:=hbox _ _ _ _ _ o
    have h4:(S1.st.H B).c= .box (cs.map KV.pv):=by simp[aw.st,bx.pv,h3,cp.pv]
    let⟨b,cur,T',h5,h6,X,h8⟩:=h.mT (QH q hN) h4
    refine⟨b,cur,T',h5,h6,h8,?_,λi y u hy hu=> ?_⟩
    .have e1:=QJ List.length (K.lT T d);rw[Qw]at e1;rw[Qw,FU,e1,<-hcs.len,AE,X.1,Qw]
    .rw[Qt,Qi]at hy;obtain⟨z,hz,rfl⟩:=hy;rcases FV _ m hz with⟨Q,rver,hmm,rfl⟩|⟨hnm,hz⟩
     .have hci:=Gc hmk hmm;have h9:=X.2 i _ u (by rw[Qt,hci];rfl) hu
      rw[KV.pv]at h9
      let⟨h10,h11⟩:=h9.iA (show(S1.st.gh L).V Q=_ from rfl)
      have hmi:(It.box B ab T m)∈J.items:=eU o
      obtain⟨hridlt,hrver⟩:Q<S0.N/\((unpack K S0 J v).H Q).ab=rver:=by
       rcases GB (Qe.1 (hokm _ hmi) _ hmm)with⟨s2,e,k,T2,hrm⟩|⟨t2,s2,e,k,T2,hrm⟩
       .let⟨d2,hd2⟩:=ET (v:=v) hrm
        have h12:=yq (K:=K) (S0.base J.bY) J.items v hnd _ hd2 Q rfl;exact⟨hlt Q (mX hrm rfl),by rw[show(unpack K S0 J v).H Q=_ from h12];rfl⟩
       .let⟨d2,hd2⟩:=ET (v:=v) hrm
        have h12:=yq (K:=K) (S0.base J.bY) J.items v hnd _ hd2 Q rfl;exact⟨hlt Q (mX hrm rfl),by rw[show(unpack K S0 J v).H Q=_ from h12];rfl⟩
      have hsl:∃ad n c,u= .slice ad n c:=by
       cases h9 with
       |own _ _ ad n c _ _ _=>exact⟨ad,n,c,rfl⟩
      let⟨ad,n,c,hv⟩:=hsl
      rw[hv]at h11 ⊢;rw[KV.pv];refine .own _ _ _ _ _ (by simpa only[St.gh,aw.st,M]using hridlt) ?_ (λ_=>h11)
      simp only[St.gh,aw.st,bx.pv,hrver];exact Ql _
     .have hzp:(U.pv T d)[i]?=some z.pv:=by rw[<-K.lT,Qt,hz];rfl
      have hil:i<cs.length:=by have:=(QL.1 hzp).1;rw[<-hcs.len,AE]at this;exact this
      have hci:cs[i]?=some cs[i]:=Qv hil;have hck:=hcs.get (by rw[FF m cs hnm];exact hci) hzp
      have h9:=X.2 i _ u (by rw[Qt,hci];rfl) hu
      exact(hck.H5 h9).closed (ei (K.ep T d _ (QG hzp))) hM
   |bQ B ab s e k T=>
    simp[It.id,Qb]at h1;subst h1;have h3:=(I _ _ _ _ _ _ _ o).1;have h4:(S1.st.H B).c= .row e k (d.map (U.pv T)):=by simp[aw.st,bx.pv,h3,cp.pv]
    let⟨vs,h5,h6,X⟩:=h.fZ (QH q hN) h4
    refine⟨vs,h5,h6,aK.closed ?_ hM X⟩;refine Qe.2 λy hy=> ?_
    let⟨u,hu,hyu⟩:=List.mem_flatten.1 hy
    obtain⟨x,_,rfl⟩:=Qs.1 hu;exact ei (K.ep T x y hyu)
  .rw[D,Qc q,<-hH id q h1];have ho:=h.obj id (QH q hN);have hc:=sz hobj id q;rw[Qx]at hc;have hc:=hc.resolve_left (λe=>h1 (cJ.1 e))
   rw[<-hH id q h1]at hc
   change iE _ _ _ _ _ ((S1.H id).c.pv)at ho
   cases hcc:(S1.H id).c with
   |dead=>trivial
   |box cs=>
    rw[hcc]at ho hc
    let⟨b,cur,T',h5,h6,X,h8⟩:=ho
    refine⟨b,cur,T',h5,h6,X,h8.1,λi y u hy hu=> ?_⟩
    simp[cp.jD,Qe]at hc;rw[Qt,Qi]at hy;obtain⟨z,hz,rfl⟩:=hy;refine aJ.jD (by rw[F9];exact hc z (QG hz)) hM hpok (h8.2 i z.pv u (by rw[Qt,hz];rfl) hu)
   |raw e k es=>
    rw[hcc]at ho hc
    let⟨vs,h5,h6,X⟩:=ho
    refine⟨vs,h5,h6,X.1,λi y u hy hu=> ?_⟩
    simp[cp.jD,Qe]at hc
    let⟨l,hl,hyl⟩:=List.mem_flatten.1 (QG hy)
    obtain⟨c,hcm,rfl⟩:=Qs.1 hl;obtain⟨z,hz,rfl⟩:=Qs.1 hyl;exact aJ.jD (by rw[F9];exact hc c hcm z hz) hM hpok (X.2 i _ u hy hu)
   |row e k T xs=>
    rw[hcc]at ho
    let⟨vs,h5,h6,X⟩:=ho
    refine⟨vs,h5,h6,aK.closed ?_ hM X⟩;refine Qe.2 λy hy=> ?_
    let⟨u,hu,hyu⟩:=List.mem_flatten.1 hy
    obtain⟨x,_,rfl⟩:=Qs.1 hu;exact ei (K.ep T x y hyu)
 .have hi':i<S0.N:=by simpa only[aw.st,M]using hi
  have hj':j<S0.N:=by simpa only[aw.st,M]using hj
  exact h.apart i j b (QH hi' hN) (QH hj' hN) (G i hi' hli) (G j hj' hlj) hbi hbj
 .have q:S0.N<=id:=by simpa only[aw.st,M]using A
  rcases hHc id with⟨⟨i,d⟩,o,h1,D⟩|⟨h1,D⟩
  .have:=hlt id (mX (eU o) h1);omega
  .grind [aw.st,bx.pv,cp.pv]
 .by_cases h0:0<S0.N
  .refine h.sV hb (G 0 h0 hlv) ?_;simp[aw.st,bx.pv]at V ⊢;rcases hHc 0 with⟨⟨i,d⟩,o,h1,D⟩|⟨h1,D⟩
   .rw[D]at V
    cases i with
    |val t T=>cases h1
    |own t B ab s e k T=>
     simp[It.id,Qb]at h1;subst h1;have g:=(N _ _ _ _ _ _ _ _ o).2.2;simp only[zh]at V
     cases s with
     |true=>exact g.trans V
     |false=>exact absurd V (qby g)
    |box B ab T m=>simp[It.id,Qb]at h1;subst h1;rw[(hbox _ _ _ _ _ o).1];exact V
    |bQ B ab s e k T=>
     simp only[It.id,Qb]at h1;subst h1;have g:=(I _ _ _ _ _ _ _ o).2;simp only[zh]at V
     cases s with
     |true=>exact g.trans V
     |false=>exact absurd V (qby g)
   .grind
  .rcases hHc 0 with⟨⟨i,d⟩,o,h1,D⟩|⟨h1,D⟩
   .exact absurd (hlt 0 (mX (eU o) h1)) h0
   .rw[Qf h0]at D;simp[aw.st,bx.pv,D,cp.pv]at hlv;cases hlv
end
section
variable{U:TU}
def LC(S:aw U):RV->Y (KV U)
 | .tmp t=>some (S.env t)
 | .cell t n=>(match S.env t with
  | .ptr id ab off=>(match S.nn id ab with|some cs=>Ct n (cs.drop off)|none=>none)
  |_=>none)
def IS(S:aw U):Z RV->Y (Z (KV U))
 |[]=>some []
 |r::rs=>(match LC S r with
  |some x=>(match IS S rs with|some xs=>some (x::xs)|none=>none)
  |none=>none)
def R7:Z (KV U)->KV U
 |[x]=>x
 |xs=> .bP xs
def pf(S:aw U)(rs:Z RV):Y (KV U):=
 match IS S rs with
 |some xs=>some (R7 xs)
 |none=>none
def N2{S:aw U}{r:RV}{x:KV U}(h:LC S r=some x):xe S.st r=some x.pv:=by
 cases r with
 |tmp t=>cases h;rfl
 |cell t n=>
  simp[LC]at h;split at h
  .rename_i id ab off b;split at h
   .rename_i cs c
    let⟨h1,g⟩:=pN c
    have d:S.st.env t= .ptr id ab off:=by simp[aw.st,b,KV.pv]
    simp only[xe,d];rw[Qc h1,g];have:=w7 h;rw[List.map_drop]at this;exact this
   .cases h
  .cases h
def Je{S:aw U}:∀{rs:Z RV} {xs:Z (KV U)},IS S rs=some xs->qo S.st rs=some (xs.map KV.pv)
 |[],xs,h=>by injection h with h;subst h;rfl
 |r::rs,xs,h=>by
  simp only[IS]at h;split at h
  .rename_i x c;split at h
   .rename_i d b;injection h with h
    subst h;simp only[qo,N2 c,Je b,Qj]
   .cases h
  .cases h
def wW{S:aw U}{rs:Z RV}{x:KV U}(h:pf S rs=some x):nF S.st rs=some x.pv:=by
 unfold pf at h;split at h
 .rename_i xs b;injection h with h
  subst h;have:=Je b;unfold nF;rw[this]
  match xs with
  |[]|[x]=>rfl
  |x::y::l=>simp[Qj,R7,KV.pv,KV.bT]
 .cases h
end
section
variable{U:TU}{α β:Type}
def uL(n:Nat)(k:Nat->α):α:=match n with|0=>k 0|m+1=>k (Nat.succ m)
def yF(n:Nat)(k:Nat->α):uL n k=k n:=by cases n<;>rfl
def Dz:Z Nat->(Z Nat->α)->α
 |[],k=>k []
 |x::l,k=>uL x λx=>Dz l λl=>k (x::l)
def GH:∀(l:Z Nat) (k:Z Nat->α),Dz l k=k l
 |[],_=>rfl
 |x::l,k=>by rw[Dz,yF,GH l]
def JU(x:KV U)(k:KV U->α):α:=match x with
 | .ptr i v o=>uL i λi=>uL v λv=>k (.ptr i v o)
 | .own i v=>uL i λi=>uL v λv=>k (.own i v)
 | .any=>k .any
 | .undef=>k .undef
 | .int a b=>k (.int a b)
 | .bool b=>k (.bool b)
 | .dP=>k .dP
 | .str b=>k (.str b)
 | .fD=>k .fD
 | .cz=>k .cz
 | .aQ f cs=>k (.aQ f cs)
 | .ff f cs=>k (.ff f cs)
 | .agg cs=>k (.agg cs)
 | .bP cs=>k (.bP cs)
 | .ref cs=>k (.ref cs)
 | .sl T xs=>k (.sl T xs)
 | .ct a b c d e=>k (.ct a b c d e)
 | .view a b c d e=>k (.view a b c d e)
 | .gl A B xs=>k (.gl A B xs)
 |x=>k x
def Ny(x:KV U)(k:KV U->α):JU x k=k x:=by cases x<;>simp only[JU,yF]
def Dy:Z (KV U)->(Z (KV U)->α)->α
 |[],k=>k []
 |x::l,k=>JU x λx=>Dy l λl=>k (x::l)
def GG:∀(l:Z (KV U)) (k:Z (KV U)->α),Dy l k=k l
 |[],_=>rfl
 |x::l,k=>by rw[Dy,Ny,GG l]
def JV(o:bx U)(k:bx U->α):α:=match o with
 |⟨v,c⟩=>uL v λv=>match c with
  | .dead=>k ⟨v,.dead⟩
  | .box cs=>Dy cs λcs=>k ⟨v,.box cs⟩
  | .row e n T xs=>k ⟨v,.row e n T xs⟩
  | .raw e n es=>k ⟨v,.raw e n es⟩
def Nz(o:bx U)(k:bx U->α):JV o k=k o:=by obtain⟨v,c⟩:=o;rw[JV,yF];cases c<;>first|rfl|exact GG _ _
def np(d:β):Z (Nat×β)->Nat->β
 |[],_=>d
 |p::l,n=>match Nat.beq n p.1 with|true=>p.2|false=>np d l n
def MJ{a b:Nat}(h:a≠b):Nat.beq a b=false:=by
 cases e:Nat.beq a b with
 |false=>rfl
 |true=>exact absurd (Qg e) h
def mo(d:β)(p:Nat×β)(l:Z (Nat×β))(n:Nat):np d (p::l) n=if n=p.1 then p.2 else np d l n:=by
 rw[np]
 by_cases h:n=p.1
 .rw[Qc h,h,qbe]
 .rw[Qf h,MJ h]
def NB:Z (Nat×β)->Z (Nat×β)
 |[]=>[]
 |p::l=>match Nat.beq (Nat.mod p.1 2) 0 with|true=>(Nat.div p.1 2,p.2)::NB l|false=>NB l
def Nj:Z (Nat×β)->Z (Nat×β)
 |[]=>[]
 |p::l=>match Nat.beq (Nat.mod p.1 2) 0 with|true=>Nj l|false=>(Nat.div p.1 2,p.2)::Nj l
def OA(n:Nat):Nat.beq (Nat.mod n 2) 0=decide (n % 2=0):=by
 show Nat.beq (n % 2) 0=_
 by_cases h:n % 2=0
 .rw[h];rfl
 .rw[MJ h,qai h]
def HR(d:β){n:Nat}(b:n % 2=0):∀(l:Z (Nat×β)),np d (NB l) (n / 2)=np d l n
 |[]=>rfl
 |p::l=>by
  rw[NB,OA,mo]
  by_cases h:p.1 % 2=0
  .rw[qah h];simp only;rw[mo,HR d b l];show(if n / 2=p.1 / 2 then _ else _)=_
   by_cases e:n=p.1
   .rw[Qc e,Qc O]
   .rw[Qf e,Qf O]
  .rw[qai h,Qf O];exact HR d b l
def HQ(d:β){n:Nat}(b:n % 2≠0):∀(l:Z (Nat×β)),np d (Nj l) (n / 2)=np d l n
 |[]=>rfl
 |p::l=>by
  rw[Nj,OA,mo]
  by_cases h:p.1 % 2=0
  .rw[qah h,Qf O];exact HQ d b l
  .rw[qai h];simp only;rw[mo,HQ d b l];show(if n / 2=p.1 / 2 then _ else _)=_
   by_cases e:n=p.1
   .rw[Qc e,Qc O]
   .rw[Qf e,Qf O]
inductive BT (β:Type) where
 |R8 (l:List (Nat×β))
 |SX (a b:BT β)
 def BT.get(d:β)(t:BT β):Nat->β:=
 BT.rec (motive:=λ_=>Nat->β) (λl n=>np d l n) (λ_ _ f g n=>Bool.rec (g (Nat.div n 2)) (f (Nat.div n 2)) (Nat.beq (Nat.mod n 2) 0)) t
def BT.OO(d:β)(a b:BT β)(n:Nat):(BT.SX a b).get d n=match Nat.beq (Nat.mod n 2) 0 with|true=>a.get d (Nat.div n 2)|false=>b.get d (Nat.div n 2):=by show(Bool.rec (b.get d (Nat.div n 2)) (a.get d (Nat.div n 2)) (Nat.beq (Nat.mod n 2) 0):β)=_;cases Nat.beq (Nat.mod n 2) 0<;>rfl
def BT.of:Nat->Z (Nat×β)->BT β
 |0,l=> .R8 l
 |m+1,l=>match l with
  |[]=> .R8 []
  |[p]=> .R8 [p]
  |p::q::l=> .SX (BT.of m (NB (p::q::l))) (BT.of m (Nj (p::q::l)))
def BT.GF(d:β):∀(m:Nat) (l:Z (Nat×β)) (n:Nat),(BT.of m l).get d n=np d l n
 |0,_,_|m+1,[],_|m+1,[p],_=>rfl
 |m+1,p::q::l,n=>by
  rw[BT.of,BT.OO,OA]
  by_cases h:n % 2=0
  .rw[qah h];exact(BT.GF d m _ _).trans (HR d h _)
  .rw[qai h];exact(BT.GF d m _ _).trans (HQ d h _)
def EI(f:Nat->bx U):Nat->Z (Nat×bx U)->(Z (Nat×bx U)->α)->α
 |0,l,k=>k l
 |n+1,l,k=>JV (f n) λo=>match o.c with
  | .dead=>(match o.ab with|0=>EI f n l k|_+1=>EI f n ((n,o)::l) k)
  |_=>EI f n ((n,o)::l) k
def Hd(f:Nat->bx U):∀(n:Nat) (l:Z (Nat×bx U)) (k:Z (Nat×bx U)->α),(∀id,id<n->np ⟨0,.dead⟩ l id=⟨0,.dead⟩)->
  ∃b,EI f n l k=k b/\∀id,np ⟨0,.dead⟩ b id=if id<n then f id else np ⟨0,.dead⟩ l id
 |0,l,k,_=>⟨l,rfl,λid=>by rw[Qf (qaU _)]⟩
 |n+1,l,k,h=>by
  have put:∃b,EI f n ((n,f n)::l) k=k b/\∀id,np ⟨0,.dead⟩ b id=if id<n+1 then f id else np ⟨0,.dead⟩ l id:=by
   obtain⟨b,h1,o⟩:=Hd f n ((n,f n)::l) k λid j=>by rw[mo,Qf (by show¬id=n;omega)];exact h id O
   refine⟨b,h1,λid=> ?_⟩
   rw[o,mo]
   by_cases g:id<n
   .rw[Qc g,Qc O]
   .rw[Qf g]
    by_cases d:id=n
    .rw[Qc (show id=(n,f n).1 from d),Qc O,d]
    .rw[Qf (show¬id=(n,f n).1 from d),Qf O]
  rw[EI,Nz];split
  .rename_i m;split
   .rename_i i;obtain⟨b,h1,o⟩:=Hd f n l k λid j=>h id O
    refine⟨b,h1,λid=> ?_⟩
    rw[o]
    by_cases g:id<n
    .rw[Qc g,Qc O]
    .rw[Qf g]
     by_cases d:id<n+1
     .have q:id=n:=O;rw[Qc d,h id d,q]
      cases p:f n with
      |mk v c=>rw[p]at m i;simp only at m i;rw[m,i]
     .rw[Qf d]
   .exact put
  .exact put
 def H6(S:aw U)(k:aw U->α):α:=
 uL S.N λn=>EI S.H n [] λl=>k {env:=S.env,H:=λid=>(match Nat.blt id n with|true=>(BT.of 9 l).get ⟨0,.dead⟩ id|false=>S.H id),N:=n}
def Jg(S:aw U)(k:aw U->α):H6 S k=k S:=by
 rw[H6,yF];obtain⟨l,h1,b⟩:=Hd S.H S.N [] (λl=>k {env:=S.env,H:=λid=>(match Nat.blt id S.N with|true=>(BT.of 9 l).get ⟨0,.dead⟩ id|false=>S.H id),N:=S.N}) (λ_ _=>rfl)
 rw[h1];congr 1;obtain⟨e,H,N⟩:=S;simp only[aw.mk.injEq,qaM,qaa]
 funext id
 split
 .rename_i h;exact(BT.GF _ _ _ _).trans ((b id).trans (Qc (Qm h)))
 .rfl
def B7(f:Nat->Bool):Nat->Z (Nat×Bool)->(Z (Nat×Bool)->α)->α
 |0,l,k=>k l
 |n+1,l,k=>match f n with|true=>B7 f n ((n,true)::l) k|false=>B7 f n l k
def B6(f:Nat->Bool):∀(n:Nat) (l:Z (Nat×Bool)) (k:Z (Nat×Bool)->α),(∀id,id<n->np false l id=false)->
  ∃c,B7 f n l k=k c/\∀id,np false c id=if id<n then f id else np false l id
 |0,l,k,_=>⟨l,rfl,λid=>by rw[Qf (qaU _)]⟩
 |n+1,l,k,h=>by
  rw[B7]
  cases j:f n with
  |true=>
   obtain⟨c,h1,i⟩:=B6 f n ((n,true)::l) k λid g=>by rw[mo,Qf (by show¬id=n;omega)];exact h id O
   refine⟨c,h1,λid=> ?_⟩
   rw[i,mo]
   by_cases d:id<n
   .rw[Qc d,Qc O]
   .rw[Qf d]
    by_cases b:id=n
    .rw[Qc (show id=(n,true).1 from b),Qc O,b,j]
    .rw[Qf (show¬id=(n,true).1 from b),Qf O]
  |false=>
   obtain⟨c,h1,i⟩:=B6 f n l k λid g=>h id O
   refine⟨c,h1,λid=> ?_⟩
   rw[i]
   by_cases d:id<n
   .rw[Qc d,Qc O]
   .rw[Qf d]
    by_cases b:id<n+1
    .rw[Qc b,h id b,show id=n by omega,j]
    .rw[Qf b]
 def He(f:Nat->Bool)(n:Nat)(k:(Nat->Bool)->α):α:=B7 f n [] λl=>k λid=>(BT.of 9 l).get false id
def KT{f:Nat->Bool}{n:Nat}(h:∀i,f i=true->i<n)(k:(Nat->Bool)->α):He f n k=k f:=by
 rw[He];obtain⟨l,h1,d⟩:=B6 f n [] (λl=>k λid=>(BT.of 9 l).get false id) (λ_ _=>rfl)
 rw[h1];congr 1
 funext id
 rw[BT.GF,d];split
 .rfl
 .rename_i b
  cases c:f id with
  |false=>rfl
  |true=>exact absurd (h id c) b
end
end
section
open Go.RowKit
def SC.BG:SC->Bool
 | .seq x y| .cond _ x y=>x.BG&&y.BG
 | .block _ x| .loop x=>x.BG
 | .rM ..=>false
 |_=>true
def xq{P:Pr}{nt:Nat}{m:Z Nat}:∀(c:Code) (d:SC),ax P nt m c=some d->d.BG=true->n9 c=true
 | .seq x y,d,h,b=>by
  simp[ax]at h;split at h
  .rename_i i j;injection h with h
   subst h;simp[SC.BG,Qa]at b;simp[n9,xq x _ i b.1,xq y _ j b.2,QU]
  .cases h
 | .cond c x y,d,h,b=>by
  simp[ax]at h;split at h
  .rename_i _ i j;injection h with h
   subst h;simp[SC.BG,Qa]at b;simp[n9,xq x _ i b.1,xq y _ j b.2,QU]
  .cases h
 | .block _ x,d,h,b=>by simp[ax,Qi]at h;obtain⟨l,i,rfl⟩:=h;exact xq x _ i b
 | .loop x,d,h,b=>by simp[ax,Qi]at h;obtain⟨l,i,rfl⟩:=h;exact xq x _ i b
 | .rangeFunc g ps x y,d,h,b=>by
  simp[ax]at h;split at h
  .split at h
   .cases h;cases b
   .cases h
  .cases h
 | .skip,_,_,_| .exit _,_,_,_| .ret,_,_,_| .region ..,_,_,_| .goto _,_,_,_| .scope _,_,_,_| .label _,_,_,_| .refuse _,_,_,_=>rfl
section
variable{P:Pr}{E:En}{S:St}{a:Act}{w:Wo}{L:Nat->Va}
def iE.env{E d:En}(n:d.w0=E.w0)(m:d.rb=E.rb)(p:d.rk=E.rk){M:Nat->Prop}{G:Gh}{v:Va}{c:jl}(h:iE E w M G v c):iE d w M G v c:=by
 cases c with
 |dead=>trivial
 |box cs=>
  let⟨b,j,T,l,i,g,o⟩:=h
  exact⟨b,j,T,l,i,by rw[n,m];exact g,o⟩
 |row e k es=>
  let⟨vs,l,i,g⟩:=h
  refine⟨vs,?_,i,g⟩
  grind [dW]
def jl.shut:jl->Bool
 | .dead=>false
 | .box cs=>cs.all PV.closed
 | .row _ _ es=>es.flatten.all PV.closed
def jl.M6{c:jl}(h:c.shut=true):c.live=true:=by cases c<;>first|rfl|cases h
def iE.put{w':Wo}{M M':Nat->Prop}{G G':Gh}{v:Va}{c:jl}(l:c.shut=true)(z:bO w w' M M')(s:∀b,br v=some b->w'.heap[b]?=w.heap[b]?)(h:iE E w M G v c):iE E w' M' G' v c:=by
 have p:∀{cs:Z PV} {vs:Z Va},cs.all PV.closed=true->aK w M G cs vs->aK w' M' G' cs vs:=λD t=>⟨t.1,λi y u o x=>((t.2 i y u o x).HL (Qe.1 D y (QG o))).mono z (Gh.le.refl _)⟩
 cases c with
 |dead=>cases l
 |box cs=>obtain⟨b,d,T,rfl,j,B,n⟩:=h;exact⟨b,d,T,rfl,(s b rfl).trans j,B,p l n⟩
 |row e k es=>
  let⟨vs,q,hk,n⟩:=h
  refine⟨vs,⟨q.1,?_⟩,hk,p l n⟩;rcases q.2 with A|⟨g,cap,d,rfl,m,j,rest⟩
  .exact .inl A
  .exact .inr ⟨g,cap,d,rfl,m,(s g rfl).trans j,rest⟩
def St.fG(S:St)(D:Nat->Bool):St:={S with H:=λid=>if D id=true then⟨(S.H id).ab,.dead⟩else S.H id}
def St.shown(A S:St)(D:Nat->Bool):St:={A with H:=λid=>if D id=true then S.H id else A.H id}
def St.kill(S:St)(D:Nat->Bool)(V:Nat->Nat):St:={S with H:=λid=>if D id=true then⟨V id,.dead⟩else S.H id}
def Rel.PD(h:Rel E S a w L)(D:Nat->Bool)(V:Nat->Nat)(J:∀id,D id=true->(S.H id).ab<=V id/\(S.N<=id->V id=0)):Rel E (S.kill D V) a w L:=by
 have u:∀id,(D id=true/\(S.kill D V).H id=⟨V id,.dead⟩)\/(D id=false/\(S.kill D V).H id=S.H id):=by grind [St.kill]
 have d:∀id,((S.kill D V).H id).c.live=true->(S.H id).c.live=true/\(S.kill D V).H id=S.H id:=by
  intro id l;rcases u id with⟨_,e⟩|⟨_,e⟩
  .rw[e]at l;cases l
  .exact⟨by rw[<-e];exact l,e⟩
 have g:∀id,(S.H id).ab<=((S.kill D V).H id).ab:=λid=>by
  rcases u id with⟨G,e⟩|⟨_,e⟩
  .rw[e];exact(J id G).1
  .rw[e];exact Ql _
 have q:(S.gh L).le ((S.kill D V).gh L):=⟨Ql _,λid _=>(qa0 (g id)).elim .inr λe=> .inl ⟨e,rfl⟩⟩
 have p:∀b,aH E (S.kill D V) L b->aH E S L b:=by
  rintro b (⟨id,x,W,Q⟩|M)
  .exact .inl ⟨id,x,(d id W).1,Q⟩
  .exact .inr M
 have o:bO w w (aH E S L) (aH E (S.kill D V) L):=bO.of λb A m=>A (p b m)
 refine⟨h.defers,h.size,λt=>(h.env t).mono o q,λid c=> ?_,λi j b hi N F B I H=>h.apart i j b hi N (d i F).1 (d j B).1 I H,λid c=> ?_,h.fr,λz l y=> ?_,λid n v hi=> ?_,h.an.1.trans (.of λb A m=>A (p b m)),λid b c l s z=>h.an.2.1 id b c (d id l).1 s z,λb s=>⟨(h.an.2.2 b s).1,(h.an.2.2 b s).2.1,λid c l=>(h.an.2.2 b s).2.2 id c (d id l).1⟩⟩
 .rcases u id with⟨_,e⟩|⟨_,e⟩
  .rw[e];trivial
  .rw[e];exact(h.obj id c).mono o q λ_ _ _=>rfl
 .rcases u id with⟨G,e⟩|⟨_,e⟩
  .rw[e,(J id G).2 c]
  .rw[e];exact h.fresh id c
 .have x:=d 0 l;exact h.sV z x.1 (by rw[<-x.2];exact y)
 .let⟨q1,q2,q3⟩:=h.gn id n v hi
  refine⟨q1,QS q2 (g id),λe'=> ?_⟩
  have X:=g id;exact q3 O
def St.raise(S:St)(d id b:Nat):St:={S with env:=bd S.env d (.ptr id ((S.H id).ab+1) b),H:=bd S.H id ⟨(S.H id).ab+1,(S.H id).c⟩}
def Rel.raise(h:Rel E S a w L){id d c:Nat}(p:id<S.N)(G:S.env d= .ptr id (S.H id).ab c):Rel E (S.raise d id c) a w L:=by
 have l:∀i,((S.raise d id c).H i).c=(S.H i).c:=λi=>by
  simp only[St.raise,bd];split
  .rename_i e;rw[e]
  .rfl
 have u:∀i,(S.H i).ab<=((S.raise d id c).H i).ab/\(((S.raise d id c).H i).ab=(S.H i).ab->(S.raise d id c).H i=S.H i):=λi=>by
  simp only[St.raise,bd];split
  .rename_i e;rw[e];exact⟨qas _,λe=>by simp only at e;omega⟩
  .exact⟨Ql _,λ_=>rfl⟩
 have q:(S.gh L).le ((S.raise d id c).gh L):=⟨Ql _,λi _=>(qa0 (u i).1).elim .inr λe=> .inl ⟨e,rfl⟩⟩
 have g:aH E (S.raise d id c) L=aH E S L:=funext λb=>by simp only[aH,l];rfl
 have m:bO w w (aH E S L) (aH E S L):=bO.of λ_ h=>h
 refine⟨h.defers,h.size,λt=> ?_,λi hi=> ?_,λi j b hi F z y=>h.apart i j b hi F (by rw[<-l];exact z) (by rw[<-l];exact y),λi hi=> ?_,h.fr,λx o D=> ?_,λi n v hi=> ?_,by rw[g];exact h.an.1,λi b hi o s x=>h.an.2.1 i b hi (by rw[<-l];exact o) s x,λb s=>⟨(h.an.2.2 b s).1,(h.an.2.2 b s).2.1,λi hi o=>(h.an.2.2 b s).2.2 i hi (by rw[<-l];exact o)⟩⟩
 .rw[g]
  by_cases A:t=d
  .have B:=h.env d;rw[G]at B
   let⟨J,I⟩:=B.lL (show(S.gh L).V id=_ from rfl)
   rw[A,I];show aJ w _ _ (bd S.env d _ d) _;rw[bf];exact .ptr _ _ _ _ p (by simp[St.gh,St.raise,bf]) λ_=>rfl
  .show aJ w _ _ (bd S.env d _ t) _;rw[bo _ _ A];exact(h.env t).mono m q
 .rw[g,l];exact(h.obj i hi).mono m q λ_ _ _=>rfl
 .have:i≠id:=λe=>by rw[e]at hi;exact absurd p (qaV.2 hi)
  show bd S.H id _ i=_;rw[bo _ _ this];exact h.fresh i hi
 .have H:=u 0;exact h.sV x (by rw[<-l];exact o) O
 .let⟨q1,q2,q3⟩:=h.gn i n v hi
  have H:=u i;exact⟨q1,O,λe=>q3 O⟩
def NJ{f:FI}{nt:Nat}{sc:SC}{rs:Z RV}(hf:dL P f nt sc rs)(hn:sc.BG=true){xs:Z PV}{vs:Z Va}(h:Rel E S a w L)(hv:aK w (aH E S L) (S.gh L) xs vs)(hlen:xs.length<=nt)(hp:∀t,t<xs.length->t∉sc.gq)
  (D:Nat->Bool) (J:∀id,D id=true->id<S.N/\id≠0/\(S.H id).c.shut=true)
  {p:Nat->Nat->Bool} (hpn:∀id v,p id v=true->id<S.N) {Q:PV->St->Prop} (hV:VS P nt sc (λen A=>(en= .ret\/en= .normal)/\∃r,nF A rs=some r/\Q r A/\S.N<=A.N/\∀id,D id=true->(A.H id).c.live=false/\(A.H id).ab=(S.H id).ab) {S.fG D with env:=λt=>(xs[t]?).getD .undef}):
  Calls P f vs.toArray w λen w'=>∃v r A L',en= .returned v/\Q r A/\aJ w' (aH E (A.shown S D) L') ((A.shown S D).gh L') r v/\
   ∀env':Nat->PV,(∀t,env' t= .any\/(env' t=S.env t/\(S.env t).jD p=true))->Rel E {A.shown S D with env:=env'} a w' L':=by
 obtain⟨fn,hs,h1,rfl,h3,h4,_⟩:=hf
 cases B:fn.body with
 |none=>rw[B]at h3;cases h3
 |some c=>
 rw[B,QK]at h3;have hvl:vs.length=xs.length:=hv.1;have l:∀id,D id=true->(S.H id).c.live=true:=λid g=>jl.M6 (J id g).2.2
 let HB:Nat->Prop:=λb=>∃id,D id=true/\br (L id)=some b
 have hHB:∀b,HB b->aH E S L b:=λb ⟨id,h5,G⟩=> .inl ⟨id,(J id h5).1,l id h5,G⟩
 let E':En:={E with nt:=fn.ntmps,rd:=none,nd:=true,kt:=λt=>vs[t]?,wk:=w,wm:=w,M0:=aH E S L,gn:=λid=>if id<S.N then some ((S.H id).ab,L id)else none,X:=λb=>E.X b\/HB b,H0:=λb=>E.H0 b\/HB b,hX:=⟨λb B=>E.hX.lt b ⟨B.1.resolve_right λh=>B.2 (.inr h),λh=>B.2 (.inl h)⟩,λb B=>E.hX.ng b ⟨B.1.resolve_right λh=>B.2 (.inr h),λh=>B.2 (.inl h)⟩,E.hX.gi⟩,Gy:=λhk b hr hx=>hx.elim (E.Gy hk b hr) λ⟨id,h5,G⟩=>(J id h5).2.1 (h.an.2.1 id b (J id h5).1 (l id h5) G hr)}
 have N:∀id,((S.fG D).H id).c.live=true->D id=false/\(S.H id).c.live=true:=by
  intro id q;simp[St.fG]at q;split at q
  .cases q
  .grind
 have hnD:∀id,D id=false->(S.fG D).H id=S.H id:=λid g=>by simp only[St.fG,g];rfl
 have hgh:(S.fG D).gh L=S.gh L:=by grind [St.gh,St.fG]
 have hmu:∀b,aH E' (S.fG D) L b↔aH E S L b:=by
  intro b;constructor
  .rintro(⟨id,h5,G,h7⟩|hx|hx)
   .exact .inl ⟨id,h5,(N id G).2,h7⟩
   .exact .inr hx
   .exact hHB b hx
  .rintro(⟨id,h5,G,h7⟩|hx)
   .cases hd:D id with
    |true=>exact .inr (.inr ⟨id,hd,h7⟩)
    |false=>exact .inl ⟨id,h5,by rw[hnD id hd];exact G,h7⟩
   .exact .inr (.inl hx)
 have hst0:bO w w (aH E S L) (aH E' (S.fG D) L):=bO.of λb hm M=>hm ((hmu b).1 M)
 have hrel:Rel E' {S.fG D with env:=λt=>(xs[t]?).getD .undef} {tmps:=vs.toArray++Array.replicate (fn.ntmps - vs.toArray.size) undef,defers:=[]} w L:=by
  have hget:∀t,(vs.toArray++Array.replicate (fn.ntmps - vs.toArray.size) undef).getD t undef=(vs[t]?).getD undef:=by
   intro t;rw[Qq,qaw]
   grind
  refine⟨Marks.nil rfl,⟨by simp[E',hvl];omega,λt v ht=>by rw[hget];show(vs[t]?).getD undef=v;rw[show vs[t]?=some v from ht];rfl⟩,λt=> ?_,λid g=> ?_,λi j b hi hj hli hlj=>h.apart i j b hi hj (N i hli).2 (N j hlj).2,λid g=> ?_,⟨h.fr.toFr,s8.refl _⟩,λhr q hv0=> ?_,λid n v hi=> ?_,Kept.of λb hm M=>hm ((hmu b).1 M),λid b g q B hr=>h.an.2.1 id b g (N id q).2 B hr,λb hH=> ?_⟩
  .show aJ w (aH E' (S.fG D) L) ((S.fG D).gh L) ((xs[t]?).getD .undef) _;rw[hget,hgh]
   cases hx:xs[t]? with
   |none=>
    have:vs[t]?=none:=by grind
    rw[this];exact .undef
   |some x=>
    let⟨v,hv1,hr⟩:=hv.get hx
    rw[hv1];exact hr.mono hst0 (Gh.le.refl _)
  .show iE E' w (aH E' (S.fG D) L) ((S.fG D).gh L) (L id) ((S.fG D).H id).c;rw[hgh]
   cases hd:D id with
   |true=>simp[St.fG,hd,Qp];trivial
   |false=>
    rw[hnD id hd]
    cases q:(S.H id).c.live with
    |false=>cases hcc:(S.H id).c with
     |dead=>trivial
     |box cs|row e k es=>rw[hcc]at q;cases q
    |true=>exact((h.obj id g).mono hst0 (Gh.le.refl _) λ_ _ _=>rfl).env rfl rfl rfl
  .show(S.fG D).H id=_
   cases hd:D id with
   |true=>exact absurd (J id hd).1 (qaV.2 (show S.N<=id from g))
   |false=>rw[hnD id hd];exact h.fresh id g
  .have h5:=N 0 q;refine h.sV hr h5.2 ?_;rw[<-hnD 0 h5.1];exact hv0
  .have e:((S.fG D).H id).ab=(S.H id).ab:=by
    cases hd:D id with
    |true=>simp[St.fG,hd]
    |false=>rw[hnD id hd]
   show id<S.N/\n<=((S.fG D).H id).ab/\(((S.fG D).H id).ab=n->L id=v);rw[e];simp only[E']at hi;split at hi
   .rename_i hc;injection hi with hi
    injection hi with e1 e2
    subst e1 e2;exact⟨hc,Ql _,λ_=>rfl⟩
   .cases hi
  .rcases hH with hH|⟨id,h5,G⟩
   .let⟨q1,⟨o,_,q3,q4⟩,q5⟩:=h.an.2.2 b hH
    exact⟨q1,⟨o,q4,q3,q4⟩,λid g q=>q5 id g (N id q).2⟩
   .let⟨o,e2,e3⟩:=(h.obj id (J id h5).1).cells (l id h5) G
    refine⟨zO h (hHB b ⟨id,h5,G⟩),⟨o,e2,La e3,e2⟩,λj hj q H=> ?_⟩
    have h7:=N j q;have:=h.apart j id b hj (J id h5).1 h7.2 (l id h5) H G;rw[this,h5]at h7;cases h7.1
 have hcs:=jG c sc h3
 have h0:=hV c hs h3 E' rfl ⟨λt ht=>by
  show vs[t]?=none;refine qaT ?_;rw[hcs]at ht;rcases qat t xs.length with hlt|hge
  .exact absurd ht (hp t hlt)
  .omega,.inr (xq c sc h3 hn)⟩ _ w L hrel
 refine wO.1 (callsIn_of_wp_marks (F:=WF none) (n:=0) h1 B trivial (Q2 h0 ?_));rintro e a' w' ⟨A,L',m,he,r,hres,hq,hAN,V⟩;have hd:a'.defers=[]:=m.defers.none rfl
 let⟨v,hv1,hrep⟩:=uf m h4 hres
 let L2:Nat->Va:=λid=>if D id=true then L id else L' id
 have z:∀id,D id=true->L2 id=L id:=λid g=>Qc g
 have u:∀id,D id=false->L2 id=L' id:=λid g=>Qf (by rw[g];simp)
 have hA1:∀id,D id=true->(A.shown S D).H id=S.H id:=λid g=>Qc g
 have s:∀id,D id=false->(A.shown S D).H id=A.H id:=λid g=>Qf (by rw[g];simp)
 have W:∀id,id<S.N->(S.H id).ab<=(A.H id).ab/\((A.H id).ab=(S.H id).ab->L' id=L id):=λid g=>(m.gn id _ _ (Qc g)).2
 have hle:(A.gh L').le ((A.shown S D).gh L2):=by
  refine⟨Ql _,λid _=> .inl ?_⟩
  simp only[St.gh]
  cases d:D id with
  |true=>rw[hA1 id d,z id d];exact⟨(V id d).2,(W id (J id d).1).2 (V id d).2⟩
  |false=>rw[s id d,u id d];exact⟨rfl,rfl⟩
 have hmu2:∀b,aH E (A.shown S D) L2 b↔aH E' A L' b:=by
  intro b;constructor
  .rintro(⟨id,h5,G,h7⟩|hx)
   .cases d:D id with
    |true=>rw[z id d]at h7;exact .inr (.inr ⟨id,d,h7⟩)
    |false=>rw[s id d]at G;rw[u id d]at h7;exact .inl ⟨id,h5,G,h7⟩
   .exact .inr (.inl hx)
  .rintro(⟨id,h5,G,h7⟩|hx|⟨id,h5,G⟩)
   .cases d:D id with
    |true=>rw[(V id d).1]at G;cases G
    |false=>exact .inl ⟨id,h5,by rw[s id d];exact G,by rw[u id d];exact h7⟩
   .exact .inr hx
   .exact .inl ⟨id,QH (J id h5).1 hAN,by rw[hA1 id h5];exact l id h5,by rw[z id h5];exact G⟩
 have hst2:bO w' w' (aH E' A L') (aH E (A.shown S D) L2):=bO.of λb hm M=>hm ((hmu2 b).1 M)
 have hst1:bO w w' (aH E S L) (aH E (A.shown S D) L2):=m.an.1.stays.trans hst2
 have fin:LeavesInM (WF none) 0 P fn a'.tmps (λen w'=>∃v r A L',en= .returned v/\Q r A/\aJ w' (aH E (A.shown S D) L') ((A.shown S D).gh L') r v/\
   ∀env':Nat->PV,(∀t,env' t= .any\/(env' t=S.env t/\(S.env t).jD p=true))->Rel E {A.shown S D with env:=env'} a w' L') a'.defers .returning w':=by
  rw[hd];refine⟨v,hv1,v,r,A,L2,rfl,hq,hrep.mono hst2 hle,λenv' he'=> ?_⟩
  refine⟨(h.defers.SQ m.fr.ko),h.size,λt=> ?_,λid g=> ?_,λi j b hi hj hli hlj hbi H=> ?_,λid g=> ?_,⟨m.fr.toFr,h.fr.ko.trans m.fr.ko⟩,λhr q hv0=> ?_,λid n v hi=> ?_,(h.an.1.trans m.an.1).trans (.of λb hm M=>hm ((hmu2 b).1 M)),λid b g q B hr=> ?_,λb hH=> ?_⟩
  .show aJ w' (aH E (A.shown S D) L2) ((A.shown S D).gh L2) (env' t) _;rcases he' t with e1|⟨e1,e2⟩
   .rw[e1];exact .any _
   .rw[e1];refine((h.env t).jD (M':=aH E S L) (G':=(A.shown S D).gh L2) e2 (λ_ B=>B) (λid _ g=> ?_)).mono hst1 (Gh.le.refl _)
    have k0:=hpn id _ g;refine⟨QH k0 hAN,?_⟩;simp only[St.gh]
    cases d:D id with
    |true=>rw[hA1 id d,z id d];exact .inl ⟨rfl,rfl⟩
    |false=>
     let⟨k2,k3⟩:=W id k0
     rw[s id d,u id d];rcases qat (S.H id).ab (A.H id).ab with k4|k4
     .exact .inr (.inl k4)
     .exact .inl ⟨O,k3 O⟩
  .show iE E w' (aH E (A.shown S D) L2) ((A.shown S D).gh L2) (L2 id) ((A.shown S D).H id).c
   cases d:D id with
   |true=>
    rw[z id d,hA1 id d];refine(h.obj id (J id d).1).put (J id d).2.2 hst1 λb B=> ?_
    let⟨_,⟨o,k1,_,k3⟩,_⟩:=m.an.2.2 b (.inr ⟨id,d,B⟩)
    exact k3.trans k1.symm
   |false=>
    rw[u id d,s id d]
    cases q:(A.H id).c.live with
    |false=>cases hcc:(A.H id).c with
     |dead=>trivial
     |box cs|row e k es=>rw[hcc]at q;cases q
    |true=>exact((m.obj id g).mono hst2 hle λ_ _ _=>rfl).env rfl rfl rfl
  .have key:∀i j,i<A.N->j<A.N->D i=true->D j=false->(A.H j).c.live=true->br (L i)=some b->br (L' j)=some b->i=j:=λi j _ hj I _ q h5 G=>absurd G ((m.an.2.2 b (.inr ⟨i,I,h5⟩)).2.2 j hj q)
   cases I:D i with
   |true=>
    rw[z i I]at hbi
    cases y:D j with
    |true=>rw[z j y]at H;exact h.apart i j b (J i I).1 (J j y).1 (l i I) (l j y) hbi H
    |false=>rw[u j y]at H;rw[s j y]at hlj;exact key i j hi hj I y hlj hbi H
   |false=>
    rw[u i I]at hbi;rw[s i I]at hli
    cases y:D j with
    |true=>rw[z j y]at H;exact(key j i hj hi y I hli H hbi).symm
    |false=>rw[u j y]at H;rw[s j y]at hlj;exact m.apart i j b hi hj hli hlj hbi H
  .have hid':A.N<=id:=g
   cases d:D id with
   |true=>have:=(J id d).1;omega
   |false=>show(A.shown S D).H id=_;rw[s id d];exact m.fresh id hid'
  .have h0D:D 0=false:=by
    cases d:D 0 with
    |true=>exact absurd rfl (J 0 d).2.1
    |false=>rfl
   rw[s 0 h0D]at q hv0;rw[u 0 h0D];exact m.sV hr q hv0
  .let⟨q1,q2,q3⟩:=h.gn id n v hi
   refine⟨QH q1 hAN,?_⟩;show n<=((A.shown S D).H id).ab/\(((A.shown S D).H id).ab=n->L2 id=v)
   cases d:D id with
   |true=>rw[hA1 id d,z id d];exact⟨q2,q3⟩
   |false=>
    rw[s id d,u id d]
    let⟨k1,k2⟩:=W id q1
    exact⟨O,λe=>(k2 O).trans (q3 O)⟩
  .cases d:D id with
   |true=>rw[z id d]at B;exact h.an.2.1 id b (J id d).1 (l id d) B hr
   |false=>rw[u id d]at B;rw[s id d]at q;exact m.an.2.1 id b g q B hr
  .let⟨q1,⟨o,q2,q3,q4⟩,q5⟩:=h.an.2.2 b hH
   let⟨_,⟨o',k1,_,k3⟩,k4⟩:=m.an.2.2 b (.inl hH)
   have k1:w.heap[b]?=some o':=k1;rw[q4]at k1;injection k1 with k1
   refine⟨q1,⟨o,q2,q3,by rw[k1];exact k3⟩,λid g q hbb=> ?_⟩
   cases d:D id with
   |true=>rw[z id d]at hbb;exact q5 id (J id d).1 (l id d) hbb
   |false=>rw[u id d]at hbb;rw[s id d]at q;exact k4 id g q hbb
 rcases he with rfl|rfl<;>exact fin
end
end
section
open Go.RowKit
def jP{b ρ:Type}(step:b->Y (b⊕ρ)):Nat->b->Y ρ
 |0,_=>none
 |n+1,s=>match step s with
  |none=>none
  |some (.inr r)=>some r
  |some (.inl s')=>jP step n s'
def Bf{b ρ:Type}{step:b->Y (b⊕ρ)}{r:ρ}:∀{n m:Nat} {s:b},n<=m->jP step n s=some r->jP step m s=some r
 |0,_,_,_,h=>by cases h
 |n+1,0,_,c,_=>O
 |n+1,m+1,s,c,h=>by
  simp[jP]at h ⊢;split at h
  .cases h
  .exact h
  .exact Bf O h
def Ip{b ρ:Type}{step:b->Y (b⊕ρ)}{r r':ρ}{n m:Nat}{s:b}(h:jP step n s=some r)(g:jP step m s=some r'):r=r':=by
 have d:=Bf (Nat.le_max_left n m) h;have c:=Bf (Nat.le_max_right n m) g;rw[d]at c;injection c
 def Ms{b ρ:Type}(step:b->Y (b⊕ρ))(n:Nat):b->Y ρ:=
 Nat.rec (motive:=λ_=>b->Y ρ) (λ_=>none) (λ_ c s=>Option.rec none (λx=>Sum.rec (λs'=>c s') (λr=>some r) x) (step s)) n
def Ff{b ρ:Type}(step:b->Y (b⊕ρ)):∀(n:Nat) (s:b),Ms step n s=jP step n s
 |0,_=>rfl
 |n+1,s=>by
  show(Option.rec none (λx=>Sum.rec (λs'=>Ms step n s') (λr=>some r) x) (step s):Y ρ)=_
  rw[jP]
  cases step s with
  |none=>rfl
  |some x=>cases x with
   |inl s'=>exact Ff step n s'
   |inr r=>rfl
open Classical in
 def aE{b ρ:Type}(step:b->Y (b⊕ρ))(s:b):Y ρ:=
 match Ms step 18446744073709551616 s with
 |some r=>some r
 |none=>if h:∃r,∃n,jP step n s=some r then some (Classical.choose h)else none
def wy{b ρ:Type}{step:b->Y (b⊕ρ)}{s:b}{r:ρ}(h:aE step s=some r):∃n,jP step n s=some r:=by
 unfold aE at h;split at h
 .rename_i g;injection h with h
  subst h;exact⟨_,(Ff _ _ _).symm.trans g⟩
 .split at h
  .rename_i c;injection h with h
   let⟨n,d⟩:=qbF c
   exact⟨n,by rw[d,h]⟩
  .cases h
def EV{b ρ:Type}{step:b->Y (b⊕ρ)}{s:b}{r:ρ}{n:Nat}(h:jP step n s=some r):aE step s=some r:=by
 unfold aE;split
 .rename_i d;rw[Ip ((Ff _ _ _).symm.trans d) h]
 .have c:∃r,∃n,jP step n s=some r:=⟨r,n,h⟩;rw[dif_pos c]
  let⟨m,hm⟩:=qbF c
  rw[Ip hm h]
def AW{d ρ:Type}(step:d->Y (d⊕ρ))(s:d):aE step s=match step s with|none=>none|some (.inr r)=>some r|some (.inl s')=>aE step s':=by
 cases c:step s with
 |none=>
  cases h:aE step s with
  |none=>rfl
  |some r=>
   let⟨n,b⟩:=wy h
   cases n with
   |zero=>cases b
   |succ n=>simp[jP,c]at b
 |some x=>
  cases x with
  |inr r=>exact EV (n:=1) (by simp[jP,c])
  |inl s'=>
   simp only
   cases g:aE step s' with
   |some r=>
    let⟨n,b⟩:=wy g
    exact EV (n:=n+1) (by simp[jP,c];exact b)
   |none=>
    cases h:aE step s with
    |none=>rfl
    |some r=>
     let⟨n,b⟩:=wy h
     cases n with
     |zero=>cases b
     |succ n=>simp[jP,c]at b;rw[EV b]at g;cases g
open Classical in
 def both{ρ:Type}(x y:Y ρ):Y ρ:=if x=y then x else none
def NK{ρ:Type}{x y:Y ρ}{r:ρ}(h:both x y=some r):x=some r/\y=some r:=by
 unfold both at h;split at h
 .rename_i e;exact⟨h,e▸h⟩
 .cases h
@[simp] def uT {ρ:Type} (x:Y ρ):both x x=x:=Qc rfl
def aX{b ρ:Type}(j:b->Y ρ)(f:(b->Y ρ)->Y ρ):Y ρ:=f j
def Ho{d ρ:Type}(step:Int->d->Y (d⊕ρ))(c:d->Y ρ)(g:Int->Y (Int×Bool×Unit)):Nat->Int->Bool->d->Y ρ
 |0,_,b,v=>bif b then none else c v
 |n+1,s,b,v=>bif b then(match step s v with
   |none=>none
   |some (.inr r)=>some r
   |some (.inl v')=>(g s).bind λq=>Ho step c g n q.1 q.2.1 v')
  else c v
def oY{α c ρ:Type}(step:Nat->α->c->Y (c⊕ρ))(b:c->Y ρ):Z α->c->Y ρ
 |[],s=>b s
 |a::l,s=>match step l.length a s with
  |none=>none
  |some (.inr r)=>some r
  |some (.inl s')=>oY step b l s'
section
variable{U:TU}
inductive SA (U:TU) where
 |skip
 |jq (rs:RS U)
 |jr (un:List (Nat×Nat)) (rs:RS U)
 |seq (x y:SA U)
 |join (J:JS U) (x y:SA U)
 |cond (c:aM) (x y:SA U)
 |block (id:Nat) (x:SA U)
 |loop (J:JS U) (x:SA U)
 |Ej (n:Nat) (x:SA U)
 |ord (J:JS U) (f p0:Nat) (x y:SA U)
 |back (J:JS U) (f k:Nat) (nE:Option Nat) (T:U.Ty) (tg p0 p1:Nat) (x y:SA U)
 |exit (id:Nat)
 |ret
 |ps (p:Ps U) (x:SA U)
 |xl (p:Ps U) (x:SA U)
 |inl (dr:Option (List (Nat×Nat)×Option Nat)) (r1:RS U) (d:Option Nat) (f:FuncId) (c:Option aM) (xs:List aM) (nt:Nat) (rvs:List RV) (x:SA U) (r2:RS U)
def jQ(f:FI)(c:Y aM)(xs:Z aM):bV:=
 match c with
 |none=> .call f xs
 |some b=> .jS b xs
def SA.erase:SA U->SC
 | .skip=> .skip
 | .jq rs=> .jq rs.flat
 | .jr un rs=> .jr un rs.flat
 | .seq x y=> .seq x.erase y.erase
 | .join _ x y=> .seq x.erase y.erase
 | .cond c x y=> .cond c x.erase y.erase
 | .block id x=> .block id x.erase
 | .loop _ x=> .loop x.erase
 | .Ej _ x=> .loop x.erase
 | .ord _ f b x y=> .rM (.ik (.aQ f [])) [b] x.erase y.erase
 | .back _ _ _ _ _ i b p1 x y=> .rM (.tmp i) [b,p1] x.erase y.erase
 | .exit id=> .exit id
 | .ret=> .ret
 | .ps _ x| .xl _ x=>x.erase
 | .inl j h d f c xs _ _ _ g=>(match j with|none=> .jq (h.flat++⟨d,none,jQ f c xs⟩::g.flat)|some q=> .jr q.1 (h.flat++⟨d,none,jQ f c xs⟩::g.flat))
def SA.bJ:SA U->Bool
 | .jq rs| .jr _ rs=>rs.bJ
 | .seq x y| .join _ x y=>x.bJ&&y.bJ
 | .cond c x y=>c.bJ&&x.bJ&&y.bJ
 | .block _ x| .loop _ x| .Ej _ x=>x.bJ
 | .ord _ _ _ x y| .back _ _ _ _ _ _ _ _ x y=>x.bJ&&y.bJ
 | .ps _ x| .xl _ x=>x.bJ
 | .inl ..=>false
 |_=>true
def SA.nG(P:Pr):SA U->Prop
 | .jq rs| .jr _ rs=>rs.bJ=true
 | .seq x y| .join _ x y=>x.nG P/\y.nG P
 | .cond c x y=>(c.bJ=true/\x.nG P)/\y.nG P
 | .block _ x| .loop _ x| .Ej _ x=>x.nG P
 | .ord _ _ _ x y| .back _ _ _ _ _ _ _ _ x y=>x.nG P/\y.nG P
 | .ps _ x| .xl _ x=>x.nG P
 | .inl _ g _ f c xs nt b x d=>(g.bJ=true/\d.bJ=true/\xs.all aM.bJ=true/\c.all aM.bJ=true)/\x.erase.BG=true/\dL P f nt x.erase b/\x.nG P
 |_=>True
def gd{P:Pr}:∀{sa:SA U},sa.bJ=true->sa.nG P
 | .jq _,h| .jr _ _,h=>h
 | .seq x y,h| .join _ x y,h=>by simp[SA.bJ,Qa]at h;exact⟨gd h.1,gd h.2⟩
 | .cond c x y,h=>by simp[SA.bJ,Qa]at h;exact⟨⟨h.1.1,gd h.1.2⟩,gd h.2⟩
 | .block _ x,h| .loop _ x,h| .Ej _ x,h| .ps _ x,h| .xl _ x,h=>gd (sa:=x) h
 | .ord _ _ _ x y,h=>by simp only[SA.bJ,Qa]at h;exact⟨gd h.1,gd h.2⟩
 | .back _ _ _ _ _ _ _ _ x y,h=>by simp[SA.bJ,Qa]at h;exact⟨gd h.1,gd h.2⟩
 | .inl ..,h=>by cases h
 | .skip,_| .exit _,_| .ret,_=>trivial
def SA.rU:SA U->Bool
 | .jq rs| .jr _ rs=>rs.bJ
 | .seq x y| .join _ x y=>x.rU&&y.rU
 | .cond c x y=>c.bJ&&x.rU&&y.rU
 | .block _ x| .loop _ x| .Ej _ x=>x.rU
 | .ord _ _ _ x y| .back _ _ _ _ _ _ _ _ x y=>x.bJ&&y.bJ
 | .ps _ x| .xl _ x=>x.rU
 | .inl _ d _ _ c xs _ _ x b=>d.bJ&&b.bJ&&xs.all aM.bJ&&c.all aM.bJ&&x.erase.BG&&x.rU
 |_=>true
def SA.HE:SA U->Z (FI×Nat×SC×Z RV)
 | .seq x y| .join _ x y| .cond _ x y=>x.HE++y.HE
 | .block _ x| .loop _ x| .Ej _ x| .ps _ x| .xl _ x=>x.HE
 | .inl _ _ _ f _ _ nt b x _=>(f,nt,x.erase,b)::x.HE
 |_=>[]
def o2(P:Pr):Z (FI×Nat×SC×Z RV)->Prop
 |[]=>True
 |q::l=>dL P q.1 q.2.1 q.2.2.1 q.2.2.2/\o2 P l
def o2.bm{P:Pr}:∀{a b:Z (FI×Nat×SC×Z RV)},o2 P (a++b)->o2 P a/\o2 P b
 |[],_,h=>⟨trivial,h⟩
 |_::a,_,h=>⟨⟨h.1,(o2.bm (a:=a) h.2).1⟩,(o2.bm (a:=a) h.2).2⟩
def tB{P:Pr}:∀{sa:SA U},sa.rU=true->o2 P sa.HE->sa.nG P
 | .jq _,h,_| .jr _ _,h,_=>h
 | .seq x y,h,k| .join _ x y,h,k=>by simp[SA.rU,Qa]at h;exact⟨tB h.1 (o2.bm k).1,tB h.2 (o2.bm k).2⟩
 | .cond c x y,h,k=>by simp[SA.rU,Qa]at h;exact⟨⟨h.1.1,tB h.1.2 (o2.bm k).1⟩,tB h.2 (o2.bm k).2⟩
 | .block _ x,h,k| .loop _ x,h,k| .Ej _ x,h,k| .ps _ x,h,k| .xl _ x,h,k=>tB (sa:=x) h k
 | .ord _ _ _ x y,h,_=>by simp only[SA.rU,Qa]at h;exact⟨gd h.1,gd h.2⟩
 | .back _ _ _ _ _ _ _ _ x y,h,_=>by simp[SA.rU,Qa]at h;exact⟨gd h.1,gd h.2⟩
 | .inl _ i d f c xs nt b x g,h,k=>by simp only[SA.rU,Qa]at h;exact⟨⟨h.1.1.1.1.1,h.1.1.1.1.2,h.1.1.1.2,h.1.1.2⟩,h.1.2,k.1,tB h.2 k.2⟩
 | .skip,_,_| .exit _,_,_| .ret,_,_=>trivial
variable(K:TK U)
def qf(H:Nat->bx U):Nat->PV->Z Nat
 |0,_=>[]
 |n+1,.own id _=>id::(match(H id).c with| .raw _ _ es=>es.flatMap (λe=>(e.map KV.pv).flatMap (qf H n))|_=>[])
 |n+1,.ptr id _ _=>id::(match(H id).c with| .box cs=>(cs.map KV.pv).flatMap (qf H n)|_=>[])
 |n+1,.agg cs|n+1,.bP cs|n+1,.aQ _ cs|n+1,.ff _ cs=>cs.flatMap (qf H n)
 |_+1,_=>[]
def M8{H:Nat->dq}{y:PV}(h:y.ep=true):∀n,dD H n y=[]
 |0=>by cases y<;>rfl
 |n+1=>by cases y<;>first|rfl|cases h
def Jd(K:TK U)(S:aw U):∀(n:Nat) (x:PV),qf S.H n x=dD S.st.H n x
 |0,x=>by cases x<;>rfl
 |n+1,x=>by
  have b:qf S.H n=dD S.st.H n:=funext λy=>Jd K S n y
  cases x with
  |own id ab=>
   simp only[qf,dD,aw.st,bx.pv,b];congr 1
   cases g:(S.H id).c with
   |dead|box cs=>rfl
   |raw e k es=>simp only[cp.pv,List.flatMap_map]
   |row e k T xs=>
    simp only[cp.pv];refine(List.flatMap_eq_nil_iff.2 λe d=>List.flatMap_eq_nil_iff.2 λy c=> ?_).symm
    obtain⟨z,_,rfl⟩:=Qs.1 d;exact M8 (K.ep T z y c) n
  |ptr id ab off=>simp only[qf,dD,aw.st,bx.pv,b];congr 1;cases g:(S.H id).c<;>rfl
  |agg cs|bP cs|aQ f cs|ff f cs=>simp only[qf,dD,b]
  |_=>rfl
def JM(nid:Nat)(S:aw U)(g:SG):Z Nat:=
 match g.wanted S.st with
 |some true=>(match g.op with
  | .call _ xs=>nid::(xs.map (·.val S.st)).flatMap (qf S.H 9)
  | .jS f xs=>nid::(qf S.H 10 (f.val S.st)++(xs.map (·.val S.st)).flatMap (qf S.H 9))
  |op=>eK nid S.st op)
 |_=>[]
def Aj(K:TK U)(nid:Nat)(S:aw U)(g:SG):JM nid S g=Ak nid S.st g:=by
 have b:∀n,qf S.H n=dD S.st.H n:=λn=>funext λy=>Jd K S n y
 unfold JM Ak;split
 .split<;>simp only[eK,b, *]
 .rename_i h;split
  .rename_i c;exact absurd c h
  .rfl
def oP(Γ:Z (bS U)){ρ:Type}(W:WS)(base:Nat):RS U->(i:Nat)->(S:aw U)->(k:aw U->Z ea->Y ρ)->Y ρ
 | .nil,_,S,k=>k S []
 | .op o r,i,S,k=>HI K Γ W (base+i) S o λx wr=>oP Γ W base r (i+1) (S.bm o.d x wr) λS' fs=>k S' (⟨o.d,o.bw,JM (base+i) S o,wr.map (·.1)⟩::fs)
 | .nD t r,i,S,k=>(match S.env t with
  | .bool b=>bif b then oP Γ W base r i (S.bm (some t) (.bool true) none) k else oP Γ W base r i (S.bm (some t) (.bool false) none) k
  | .undef=>oP Γ W base r i S k
  |_=>none)
 |_,_,_,_=>none
def n5(F:Z Nat)(b:Z Nat):Bool:=b.all λt=> !cZ t F
def aw.more(S:aw U)(n:Nat):aw U:={env:=S.env,H:=S.H,N:=S.N+n}
def aw.bK(S:aw U)(D:Z Nat):aw U:={env:=λt=>(match cZ t D with|true=> .any|false=>S.env t),H:=S.H,N:=S.N}
def Mn(U:TU)(T:U.Ty):Y Nat->Bool
 |none=> !U.agg T
 |some n=>U.agg T&&Nat.beq n (U.size T)
def tL(S:aw U)(f:FI)(c:Y aM)(xs:Z aM):Y (Z (KV U)):=
 match c with
 |none=>some (xs.map (·.bR S))
 |some d=>(match d.bR S with
  | .aQ g b=>(match Nat.beq g f with|true=>some (xs.map (·.bR S)++b)|false=>none)
  |_=>none)
def N6(id:Nat):KV U->Bool
 | .ptr i _ _=>Nat.beq i id
 | .aQ _ cs| .ff _ cs=>cs.any (λx=>match x with| .ptr i _ _=>Nat.beq i id|_=>false)
 |_=>false
def EM(id:Nat):KV U->Bool
 | .own i _| .ct i _ _ _ _| .view i _ _ _ _=>Nat.beq i id
 | .agg cs| .bP cs| .aQ _ cs| .ff _ cs=>cs.any (λx=>match x with| .own i _| .ct i _ _ _ _| .view i _ _ _ _=>Nat.beq i id|_=>false)
 |_=>false
def gm(S:aw U)(A_s:Z (KV U))(id:Nat):Bool:=
 Nat.blt id S.N&& !Nat.beq id 0&&(match(S.H id).c with
  | .box cs=>cs.all KV.closed&& !A_s.any (N6 id)
  | .row ..=> !A_s.any (EM id)&&sA S.N (λq=>(match(S.H q).c with| .box cs=> !cs.any (EM id)|_=>true))
  |_=>false)
def Mq(S:aw U)(t:Nat):Bool:=(S.env t).jD (λid _=>Nat.blt id S.N)
def jR(S:aw U)(A_s:Z (KV U)):aw U:={env:=S.env,H:=λid=>(match gm S A_s id with|true=>⟨(S.H id).ab,.dead⟩|false=>S.H id),N:=S.N}
def K9:cp U->Bool
 | .dead=>true
 |_=>false
def Bq(S S':aw U)(A_s:Z (KV U)):Bool:=sA S.N (λid=> !gm S A_s id||(K9 (S'.H id).c&&Nat.beq (S'.H id).ab (S.H id).ab))
def sq(S:aw U)(A_s:Z (KV U)):aw U:={env:=λt=>(A_s[t]?).getD .undef,H:=S.H,N:=S.N}
def wP(S:aw U)(t:Nat):KV U:=match Mq S t with|true=>S.env t|false=> .any
def aw.put(S:aw U)(d:Y Nat)(x:KV U):aw U:={env:=match d with|some d=>c8 S.env d x|none=>S.env,H:=S.H,N:=S.N}
def aw.Jm(S:aw U)(d:Y Nat)(x:KV U):S.put d x=S.bm d x none:=by cases d<;>rfl
def eS(S S':aw U)(A_s:Z (KV U))(d:Y Nat)(r:KV U):aw U:=
 ({env:=wP S,H:=λid=>(match gm S A_s id with|true=>S.H id|false=>S'.H id),N:=S'.N}:aw U).put d r
def fC(S S':aw U)(r:KV U)(id:Nat):Bool:=Nat.ble S.N id&&(match(S'.H id).c with| .box _=>true|_=>false)&& !N6 id r&&Nat.blt id S'.N
def aw.hZ(S:aw U)(q:Nat->Bool):aw U:={env:=S.env,H:=λid=>(match q id with|true=>⟨(S.H id).ab,.dead⟩|false=>S.H id),N:=S.N}
def uK(S:aw U)(F:Z Nat)(W:WS)(A_s:Z (KV U))(nt:Nat)(b:Z Nat):Bool:=
 (match W with|some (n,_)=>Nat.ble n S.N|none=>false)&&Nat.ble A_s.length nt&&b.all (λt=>Nat.ble A_s.length t)&&F.all (Mq S)
def EN:KV U->Z Nat
 | .own i _| .ct i _ _ _ _| .view i _ _ _ _=>[i]
 | .agg cs| .bP cs| .aQ _ cs| .ff _ cs=>cs.flatMap (λx=>match x with| .own i _| .ct i _ _ _ _| .view i _ _ _ _=>[i]|_=>[])
 |_=>[]
def zN(S:aw U):Nat->Z Nat
 |0=>[]
 |n+1=>(match(S.H n).c with| .box cs=>cs.flatMap EN++zN S n|_=>zN S n)
def ON(S:aw U)(A_s:Z (KV U))(b:Z Nat)(id:Nat):Bool:=
 Nat.blt id S.N&& !Nat.beq id 0&&(match(S.H id).c with
  | .box cs=>cs.all KV.closed&& !A_s.any (N6 id)
  | .row ..=> !cZ id b
  |_=>false)
def AU(t:Nat):∀(l m:Z Nat),cZ t (l++m)=(cZ t l||cZ t m)
 |[],_=>rfl
 |x::l,m=>by rw[List.cons_append,cZ,cZ,AU t l m];cases Nat.beq t x<;>rfl
def Xo(a b:Nat):Nat.beq a b=Nat.beq b a:=by
 by_cases h:a=b
 .rw[h]
 .rw[MJ h,MJ (Ne.symm h)]
def Jw(t x:Nat):cZ t [x]=Nat.beq x t:=by rw[cZ,cZ,Xo];cases Nat.beq x t<;>rfl
def yu(t:Nat){β:Type}(g:β->Z Nat)(p:β->Bool)(h:∀x,cZ t (g x)=p x):∀(l:Z β),cZ t (l.flatMap g)=l.any p
 |[]=>rfl
 |x::l=>by rw[List.flatMap_cons,AU,h,yu t g p h l,List.any_cons]
def KX(t:Nat)(x:KV U):cZ t (EN x)=EM t x:=by
 cases x<;>first|rfl|exact Jw t _|skip
 all_goals
  simp only[EN,EM];refine yu t _ _ (λx=> ?_) _
  cases x<;>first|rfl|exact Jw t _
def Ij(S:aw U)(id:Nat):∀(n:Nat),(!cZ id (zN S n))=sA n (λq=>(match(S.H q).c with| .box cs=> !cs.any (EM id)|_=>true))
 |0=>rfl
 |n+1=>by
  rw[zN,sA,<-Ij S id n];cases b:(S.H n).c<;>simp only[AU,yu id EN (EM id) (KX id),Bool.not_or,QU]
  rw[Bool.and_comm]
def Rp(S:aw U)(A_s:Z (KV U)):ON S A_s (A_s.flatMap EN++zN S S.N)=gm S A_s:=funext λid=>by
 rw[ON,gm];congr 1;cases (S.H id).c<;>first|rfl|skip
 simp only[AU,yu id EN (EM id) (KX id),Bool.not_or,Ij]
def Ro{α:Type}(S:aw U)(A_s:Z (KV U))(k:(Nat->Bool)->α):He (gm S A_s) S.N k=k (gm S A_s):=KT (λi h=>by
 simp only[gm,Qa]at h
 exact Qm h.1.1) k
def Re{α:Type}(S S':aw U)(r:KV U)(k:(Nat->Bool)->α):He (fC S S' r) S'.N k=k (fC S S' r):=KT (λi h=>by
 simp only[fC,Qa]at h
 exact Qm h.2) k
def UP(S:aw U)(h:Nat->Bool):aw U:={env:=S.env,H:=λid=>(match h id with|true=>⟨(S.H id).ab,.dead⟩|false=>S.H id),N:=S.N}
def U8(S S':aw U)(h:Nat->Bool):Bool:=sA S.N (λid=> !h id||(K9 (S'.H id).c&&Nat.beq (S'.H id).ab (S.H id).ab))
def U9(S S':aw U)(h:Nat->Bool)(d:Y Nat)(r:KV U):aw U:=
 ({env:=wP S,H:=λid=>(match h id with|true=>S.H id|false=>S'.H id),N:=S'.N}:aw U).put d r
def K8(fr:Y Nat)(i:Nat):Bool:=match fr with|some f=>Nat.beq i f|none=>false
def SR(un:Z (Nat×Nat))(fr:Y Nat)(m:Nat):Bool:=
 !K8 fr m&&(match fr with|some f=>(List.range (f - m)).all λj=>un.any λp=>Nat.beq p.1 (m+j)&&Nat.beq p.2 f|none=>true)&&un.all λp=>(!Nat.beq p.1 m||K8 fr p.2)&&(!Nat.beq p.2 m||K8 fr p.1)
def Pj(un:Z (Nat×Nat))(g:Nat->Y ea):Bool:=un.all λp=>match g p.1,g p.2 with|some a,some b=>Ai a b|_,_=>true
def Pp:KV U->KV U->Bool
 | .ptr i v o,.ptr c v' b=>Nat.beq i c&&Nat.beq v v'&&Nat.beq o b
 |_,_=>false
def lM:SG:=⟨none,none,.dU (.ik (.bool true))⟩
def RS.hole:Nat->RS U->RS U
 |0,.op _ r=> .op lM r
 |n+1,.op o r=> .op o (r.hole n)
 |n,.nD t r=> .nD t (r.hole n)
 |_,r=>r
def Ex(b:Y (Nat×ea))(i:Nat):Y ea:=match b with|some z=>(match Nat.beq i z.1 with|true=>some z.2|false=>none)|none=>none
def PB(Γ:Z (bS U)){ρ:Type}(F:Z Nat)(W:WS)(base m:Nat)(fr:Y Nat)(l:Z SG)(S1:aw U)(k:aw U->Y (Nat×ea)->Y ρ):Y ρ:=
 match fr with
 |none=>k S1 none
 |some f=>(match Nat.ble m f with
  |true=>(match l[f]? with
   |some o=>(match o.op.bJ&&n5 F o.d.toList with
    |true=>HI K Γ W (base+f) S1 o λx wr=>k (S1.bm o.d x wr) (some (f,⟨o.d,o.bw,JM (base+f) S1 o,wr.map (·.1)⟩))
    |false=>none)
   |none=>none)
  |false=>k S1 none)
def Jo(Γ:Z (bS U)){ρ:Type}(F:Z Nat)(W:WS)(g:Y (Z (Nat×Nat)×Y Nat))(b c:RS U)(S:aw U)(k:aw U->Y ρ):Y ρ:=
 match g with
 |none=>jB K Γ b W S.N (S.more b.len) k
 |some q=>(match SR q.1 q.2 b.len with
  |true=>oP K Γ W S.N b 0 (S.more (b.len+1+c.len)) λS1 fs=>PB K Γ F W S.N b.len q.2 (b.flat++lM::c.flat) S1 λS1 d=>(match Pj q.1 (λi=>match fs[i]? with|some x=>some x|none=>Ex d i)with|true=>k S1|false=>none)
  |false=>none)
def aw.raise(S:aw U)(d i v b:Nat):aw U:={env:=c8 S.env d (.ptr i (Nat.succ v) b),H:=c8 S.H i ⟨Nat.succ v,(S.H i).c⟩,N:=S.N}
def Tj(Γ:Z (bS U)){ρ:Type}(F:Z Nat)(W:WS)(base:Nat)(fr:Y Nat)(l:Z SG)(b:aw U)(k:aw U->Y (Nat×ea)->Y ρ):Y ρ:=
 match fr with
 |none=>k b none
 |some f=>(match l[f]? with
  |some o=>(match o.d,o.g,o.op.bJ with
   |some d,none,true=>(match o.op with
    | .alloc _=>(match b.env d with
     | .ptr i v off=>(match Nat.beq i (base+f)&&Nat.beq v (b.H i).ab&&Nat.blt i b.N&&n5 F [d]&&okW W i with
      |true=>k (b.raise d i v off) (some (f,⟨o.d,o.bw,[base+f],some (base+f)⟩))
      |false=>none)
     |_=>none)
    |_=>HI K Γ W (base+f) b o λx wr=>(match wr with
     |none=>(match !cZ d o.bw&&Pp x (b.env d)with|true=>k b (some (f,⟨o.d,o.bw,JM (base+f) b o,none⟩))|false=>none)
     |some _=>none))
   |_,_,_=>none)
  |none=>none)
def PN(base:Nat)(b:Y (Z (Nat×Nat)×Y Nat))(l:Z SG)(S1:aw U)(h:Nat->Bool):Bool:=
 match b with
 |none|some (_,none)=>true
 |some (_,some f)=>(match l[f]? with
  |some o=>(match o.g,o.op with
   |none,.alloc _=>h (base+f)
   |none,.load ..|none,.sw ..=>true
   |_,_=>false)
  |none=>false)
def wJ(fr:Y Nat)(m:Nat)(r:RS U):RS U:=match fr with|some f=>(match Nat.ble (m+1) f with|true=>r.hole (f - (m+1))|false=>r)|none=>r
def AQ(Γ:Z (bS U)){ρ:Type}(F:Z Nat)(W:WS)(h:Y (Z (Nat×Nat)×Y Nat))(b c:RS U)(S l d:aw U)(k:aw U->Y ρ):Y ρ:=
 match h with
 |none=>jB K Γ c W l.N (d.more c.len) k
 |some q=>(match n5 F (wJ q.2 b.len c).dG with
  |true=>Tj K Γ F W S.N q.2 (b.flat++lM::c.flat) d λd g=>oP K Γ W S.N (wJ q.2 b.len c) (b.len+1) d λj fs=>
   (match Pj q.1 (λi=>match Ex g i with|some x=>some x|none=>(match Nat.ble (b.len+1) i with|true=>fs[i - (b.len+1)]?|false=>none))with
   |true=>k j
   |false=>none)
  |false=>none)
def I5{ρ:Type}(f:(aw U->Y ρ)->aw U->Y ρ):Nat->aw U->Y ρ
 |0,_=>none
 |n+1,S=>f (I5 f n) S
 def gZ(Γ:Z (bS U)):SA U->{ρ:Type}->(F:Z Nat)->(W:WS)->(k:Exit->aw U->Y ρ)->(S:aw U)->Y ρ
 | .skip,_,_,_,k,S=>k .normal S
 | .jq rs,_,F,W,k,S=>(match n5 F rs.dG with
  |true=>jB K Γ rs W S.N (S.more rs.len) λS'=>k .normal S'
  |false=>none)
 | .jr un rs,_,F,W,k,S=>(match n5 F rs.dG with
  |true=>oP K Γ W S.N rs 0 (S.more rs.len) λS' fs=>(match un.all (λp=>match fs[p.1]?,fs[p.2]? with|some a,some b=>Ai a b|_,_=>false)with
   |true=>k .normal S'
   |false=>none)
  |false=>none)
 | .seq x y,_,F,W,k,S=>gZ Γ x F W (λe S'=>match e with
  | .normal=>gZ Γ y F W k S'
  |e=>k e S') S
 | .join J x y,_,F,W,k,S=>H6 S λS=>(match nk S J F W with
  |true=>aX (λv=>gZ Γ y F W k (unpack K S J v)) λj=>gZ Γ x J.bY (some (S.N,c5 J.items)) (λe S'=>match e with
   | .normal=>(match pack K S' J.items with|some v=>j v|none=>none)
   |e=>k e S') S
  |false=>none)
 | .cond c x y,_,F,W,k,S=>(match c.bR S with
  | .bool b=>bif b then gZ Γ x F W k S else gZ Γ y F W k S
  | .dP=>both (gZ Γ x F W k S) (gZ Γ y F W k S)
  |_=>none)
 | .block id x,_,F,W,k,S=>gZ Γ x F W (λe S'=>match e with
  | .exit i=>(match Nat.beq i id with|true=>k .normal S'|false=>k (.exit i) S')
  |e=>k e S') S
 | .loop J x,_,F,W,k,S=>H6 S λS=>(match nk S J F W with
  |true=>(match pack K S J.items with
   |some v0=>aE (λv=>gZ Γ x J.bY (some (S.N,c5 J.items)) (λe S'=>match e with
    | .normal=>(match pack K S' J.items with|some v=>some (inl v)|none=>none)
    |e=>(k e S').map inr) (unpack K S J v)) v0
   |none=>none)
  |false=>none)
 | .Ej n x,_,F,W,k,S=>I5 (λM S=>gZ Γ x F W (λe S'=>match e with| .normal=>M S'|e=>k e S') S) n S
 | .ord J f l x y,_,F,W,k,S=>
  let D:=SC.gq (.rM (.ik (.aQ f [])) [l] x.erase y.erase)
  (match CT f Γ with
  |some H=>(match n5 J.bY D&&n5 F D&&nk (S.bK D) J F W with
   |true=>(match pack K (S.bK D) J.items with
    |some v0=>Ho (λm v=>gZ Γ x J.bY (some (S.N,c5 J.items)) (λe S1=>match e with
     | .normal=>gZ Γ y J.bY (some (S.N,c5 J.items)) (λe S'=>match e with
      | .normal=>(match pack K (S'.bK D) J.items with|some v=>some (inl v)|none=>none)
      | .ret=>(k .ret (S'.bK D)).map inr
      | .exit i=>(k (.exit i) (S'.bK D)).map inr
      |_=>none) S1
     |_=>none) {(unpack K (S.bK D) J v)with env:=c8 (unpack K (S.bK D) J v).env l (.int .i64 m)}) (λv=>k .normal (unpack K (S.bK D) J v)) H 12000 0 true v0
    |none=>none)
   |false=>none)
  |none=>none)
 | .back J f B A T t l p1 x y,_,F,W,k,S=>
  let D:=SC.gq (.rM (.tmp t) [l,p1] x.erase y.erase)
  (match GD f B A Γ&&Nat.beq (U.size T) B&&Mn U T A&&cZ t J.bY&&n5 J.bY D&&n5 F D&&nk (S.bK D) J F W with
  |true=>(match S.env t with
   | .aQ N [.ref [.sl V s]]=>(match Nat.beq N f with
    |true=>(match uo V T s with
     |some xs=>(match pack K (S.bK D) J.items with
      |some v0=>oY (λm a v=>gZ Γ x J.bY (some (S.N,c5 J.items)) (λe S1=>match e with
       | .normal=>gZ Γ y J.bY (some (S.N,c5 J.items)) (λe S'=>match e with
        | .normal=>(match pack K (S'.bK D) J.items with|some v=>some (inl v)|none=>none)
        | .ret=>(k .ret (S'.bK D)).map inr
        | .exit i=>(k (.exit i) (S'.bK D)).map inr
        |_=>none) S1
       |_=>none) {(unpack K (S.bK D) J v)with env:=c8 (c8 (unpack K (S.bK D) J v).env l (.int .i64 m)) p1 (tu K T a)}) (λv=>k .normal (unpack K (S.bK D) J v)) xs.reverse v0
      |none=>none)
     |none=>none)
    |false=>none)
   |_=>none)
  |false=>none)
 | .inl z q d f c xs nt u x o,_,F,W,k,S=>(match n5 F (q.dG++d.toList++o.dG)with
  |true=>Jo K Γ F W z q o S λS1=>H6 S1 λS1=>(match tL S1 f c xs with
   |some A_s=>Dz (A_s.flatMap EN++zN S1 S1.N) λI=>He (ON S1 A_s I) S1.N λh=>(match uK S1 F W A_s nt x.erase.gq&&PN S.N z (q.flat++lM::o.flat) S1 h with
    |true=>H6 (sq (UP S1 h) A_s) λX=>gZ Γ x [] W (λe g=>match e with
     | .ret| .normal=>(match pf g u with
      |some v=>H6 g λg=>(match U8 S1 g h with|true=>He (fC S1 g v) g.N λG=>H6 ((U9 S1 g h d v).hZ G) λQ=>AQ K Γ F W z q o S g Q λS3=>k .normal S3|false=>none)
      |none=>none)
     |_=>none) X
    |false=>none)
   |none=>none)
  |false=>none)
 | .exit id,_,_,_,k,S=>k (.exit id) S
 | .ret,_,_,_,k,S=>k .ret S
 | .ps p x,_,F,W,k,S=>(match(p.AT S).all (okW W)&&n5 F p.tmps with
  |true=>(match p.run S with|some S'=>gZ Γ x F W k S'|none=>none)
  |false=>none)
 | .xl p x,_,F,W,k,S=>gZ Γ x F W (λe S'=>match e with
  | .normal=>(match(p.AT S').all (okW W)&&n5 F p.tmps with
   |true=>(match p.run S' with|some S1=>k .normal S1|none=>none)
   |false=>none)
  |e=>k e S') S
structure cW (F:List Nat) (W:WS) (S S':aw U):Prop where
 env:∀t∈F,S'.env t=S.env t
 H:∀id,okW W id=false->S'.H id=S.H id
 N:S.N<=S'.N
def cW.refl(F:Z Nat)(W:WS)(S:aw U):cW F W S S:=⟨λ_ _=>rfl,λ_ _=>rfl,Ql _⟩
def cW.trans{F:Z Nat}{W:WS}{S S' S'':aw U}(h:cW F W S S')(c:cW F W S' S''):cW F W S S'':=
 ⟨λt d=>(c.env t d).trans (h.env t d),λid b=>(c.H id b).trans (h.H id b),QS h.N c.N⟩
def mq.toC{D F:Z Nat}{W:WS}{S S':aw U}(h:mq D W S S')(d:n5 F D=true):cW F W S S':=
 ⟨λt c=>h.env t (λg=>by have b:=Qe.1 d t g;rw[cJ.2 c]at b;cases b),h.H,h.N⟩
def cW.more{F:Z Nat}{W:WS}{S S':aw U}{n:Nat}(h:cW F W (S.more n) S'):cW F W S S':=
 ⟨h.env,h.H,QS (qa6 _ _) h.N⟩
variable{K}
variable{P:Pr}{nt:Nat}
def Lp{d:SC}{Q:Exit->St->Prop}{S S':St}(g:∀(E:En) (a:Act) (w:Wo) (L:Nat->Va),Rel E S a w L->∃b,Rel E S' a w b)(h:VS P nt d Q S'):VS P nt d Q S:=
 λc i m E n l a w L j=>by
  let⟨b,o⟩:=g E a w L j
  exact h c i m E n l a w b o
def RW{x y:SC}{Q m:Exit->St->Prop}{S:St}(A:VS P nt x m S)(B:∀S1,m .normal S1->∃S',(∀(E:En),qm E S->∀(a:Act) (w:Wo) (L:Nat->Va),Rel E S1 a w L->∃n,Rel E S' a w n)/\VS P nt y Q S')(D:∀e S1,e≠ .normal->m e S1->Q e S1):VS P nt (.seq x y) Q S:=by
 intro c o b
 cases c with
 |seq p q=>
  simp[ax]at b;split at b
  .rename_i H G l z;injection b with b
   injection b with h1 i
   subst h1 i;intro E u t a w L s;refine Q8 (Q2 (A p o l E u t.Sf a w L s) ?_);rintro e a' w' ⟨S1,v,h1,i⟩
   cases e with
   |normal=>
    let⟨S',hw,j⟩:=B S1 i
    let⟨n,F⟩:=hw E s.MP a' w' v h1
    exact j q o z E u t.Se a' w' n F
   |_=>exact⟨S1,v,h1,D _ _ (by intro h;cases h) i⟩
  .cases b
 |region id ops d=>cases d<;>simp[ax]at b<;>(try split at b)<;>(try split at b)<;>(try split at b)<;>cases b
 |cond c x y=>simp[ax]at b;split at b<;>cases b
 |block id c|loop c=>simp only[ax,Qi]at b;obtain⟨_,_,b⟩:=b;cases b
 |rangeFunc g ps x y=>simp[ax]at b;(try split at b)<;>(try split at b)<;>cases b
 |_=>simp[ax]at b<;>cases b
def RY{g:SC}{Q Q':Exit->St->Prop}{S:St}(h:VS P nt g Q' S)(m:∀e A,Q' e A->∃b,Q e b/\∀(E:En) (a:Act) (w:Wo) (L:Nat->Va),Rel E A a w L->∃i,Rel E b a w i):VS P nt g Q S:=
 λc j o E p n a w L l=>Q2 (h c j o E p n a w L l) λ_ _ _ ⟨S',i,h1,u⟩=>by
  let⟨b,t,s⟩:=m _ _ u
  let⟨d,q⟩:=s _ _ _ _ h1
  exact⟨b,d,q,t⟩
def RX{Γ:Z (bS U)}(j:jo P Γ){rs:RS U}{W:WS}{ρ:Type}{k:aw U->Y ρ}{r:ρ}{S:aw U}(l:rs.bJ=true)(p:jB K Γ rs W S.N (S.more rs.len) k=some r){Q:Exit->St->Prop}
  (h:∀S',mq rs.dG W (S.more rs.len) S'->k S'=some r->Q .normal S'.st):VS P nt (.jq rs.flat) Q S.st:=by
 intro c B b
 cases c with
 |region id ops d=>
  cases d with
  |true=>simp[ax]at b;(try split at b)<;>(try split at b)<;>(try split at b)<;>cases b
  |false=>
   simp only[ax]at b;split at b
   .rename_i A n;split at b
    .rename_i t;injection b with b
     injection b with b
     subst b;intro E u q a w L i;refine qaQ ?_;have v:Rel E (S.more rs.len).st a w L:=i.room rs.len;have:=hY (K:=K) (E:=E) j (ops:=ops) (Q:=λe a' w'=>∃S' o,Rel E S' a' w' o/\Q e S') rs W S.N (S.more rs.len) k r ops.toList [] a w L l n v (Ql _) (GU u q (C1 t)) p (λS' a' w' o s z m=>⟨S'.st,o,z,h S' s m⟩)
     simpa using this
    .cases b
   .cases b
 |seq x y|cond c x y=>simp[ax]at b;split at b<;>cases b
 |block id c|loop c=>simp only[ax,Qi]at b;obtain⟨_,_,b⟩:=b;cases b
 |rangeFunc g ps x y=>simp[ax]at b;(try split at b)<;>(try split at b)<;>cases b
 |_=>simp[ax]at b<;>cases b
def wu{Γs Γs':Nat->gL}{base:Nat}:∀(l:Z (Nat×SG)) (S:St),(∀p∈l,Γs p.1=Γs' p.1)->dS Γs base l S=dS Γs' base l S
 |[],_,_=>rfl
 |(i,g)::l,S,h=>by
  simp[dS,h (i,g) t_];split
  .rfl
  .rename_i p c;rw[wu l _ λq b=>h q (QC _ b)]
def lf{Γ:Z (bS U)}(g:jo P Γ){W:WS}{base:Nat}{ρ:Type}{r:ρ}:∀(rs:RS U) (i:Nat) (S:aw U) (k:aw U->Z ea->Y ρ),rs.bJ=true->oP K Γ W base rs i S k=some r->
  ∃(Γs:Nat->gL) (S':aw U) (fs:Z ea),(∀j,fe P (Γs j))/\dS Γs base ((rs.flat.zipIdx i).map λp=>(p.2,p.1)) S.st=some (S'.st,fs)/\mq rs.dG W S S'/\k S' fs=some r
 | .nil,i,S,k,_,h=>⟨λ_ _=>none,S,[],λ_=>IX,rfl,mq.refl _ _ _,h⟩
 | .op o rs,i,S,k,c,h=>by
  simp[RS.bJ,Qa]at c;simp[oP,Aj K]at h
  let⟨m,x,wr,h1,G,F,D⟩:=sy g c.1 h
  let⟨Γs,S',fs,B,A,z,y⟩:=lf g rs (i+1) _ _ c.2 D
  refine⟨λj=>if j=i then m else Γs j,S',_,λj=> ?_,?_,?_,y⟩
  .simp only;split
   .exact h1
   .exact B j
  .simp only[RS.flat,List.zipIdx_cons,Qj,dS,Qp,G]
   have:dS (λj=>if j=i then m else Γs j) base ((rs.flat.zipIdx (i+1)).map λp=>(p.2,p.1)) (S.st.bm o.d x.pv (wr.map eZ))=some (S'.st,fs):=by
    rw[<-xb,<-A];refine wu _ _ λp v=> ?_
    obtain⟨q,u,rfl⟩:=Qs.1 v;have:=List.mem_zipIdx u;simp only;rw[Qf O]
   rw[this];simp[py]
   cases wr with
   |none|some p=>rfl
  .refine(HS S W o.d x wr F).trans z λt l=> ?_
   simp[RS.dG]at l
   cases n:o.d with
   |none=>rw[n]at l;exact⟨t_,l⟩
   |some d=>rw[n]at l;simp[Qk,Q3]at l;exact⟨by simpa using λe=>l.1 e,l.2⟩
 | .nD t rs,i,S,k,c,h=>by
  simp[oP]at h;split at h
  .rename_i b s
   cases b with
   |true=>rw[qap,xJ s]at h;exact lf g rs i S k c h
   |false=>rw[QO,xJ s]at h;exact lf g rs i S k c h
  .exact lf g rs i S k c h
  .cases h
 | .ps _ _,_,_,_,_,h| .ite _ _ _ _ _ _ _ _,_,_,_,_,h=>by cases h
def RR{c:Code}{Q:Exit->St->Prop}{S:St}(I:Nat->St->Prop)(q:Nat){S0:St}(j:∀(E:En),qm E S->∀(a:Act) (w:Wo) (L:Nat->Va),Rel E S a w L->∃g,Rel E S0 a w g)(z:I q S0)
  (u:∀m S1,I m S1->V P nt c (λe S'=>match e with| .normal=>∃h,h<m/\∃d,(∀(E:En),qm E S->∀(a:Act) (w:Wo) (L:Nat->Va),Rel E S' a w L->∃g,Rel E d a w g)/\I h d|e=>Q e S') S1):V P nt (.loop c) Q S:=λE x v a w L b=>by
 refine qbw (λm a w=>∃S L,I m S/\Rel E S a w L) q ?_ ?_
 .let⟨g,A⟩:=j E b.MP a w L b
  exact⟨S0,g,z,A⟩
 rintro m a w ⟨S1,B,hI,h1⟩;refine Q2 (u m S1 hI E x v a w B h1) ?_;rintro e a' w' ⟨S',g,t,s⟩
 cases e with
 |normal=>
  let⟨h,n,d,hw,o⟩:=s
  let⟨p,y⟩:=hw E b.MP a' w' g t
  exact⟨h,n,d,p,o,y⟩
 |exit i|goto l|ret|panic c|outgrown=>exact⟨S',g,t,s⟩
def Kn{x:SC}{Q:Exit->St->Prop}{S:St}(I:Nat->St->Prop)(l:Nat){S0:St}(i:∀(E:En),qm E S->∀(a:Act) (w:Wo) (L:Nat->Va),Rel E S a w L->∃j,Rel E S0 a w j)(t:I l S0)
  (s:∀m S1,I m S1->VS P nt x (λe S'=>match e with| .normal=>∃n,n<m/\∃h,(∀(E:En),qm E S->∀(a:Act) (w:Wo) (L:Nat->Va),Rel E S' a w L->∃j,Rel E h a w j)/\I n h|e=>Q e S') S1):VS P nt (.loop x) Q S:=by
 intro c q b
 cases c with
 |loop p=>
  simp only[ax,Qi]at b;obtain⟨u,o,b⟩:=b;injection b with h1
  subst h1;exact RR I l i t (λm S hI=>s m S hI p q o)
 |region id ops d=>cases d<;>simp[ax]at b<;>(try split at b)<;>(try split at b)<;>(try split at b)<;>cases b
 |seq x y|cond c x y=>simp[ax]at b;split at b<;>cases b
 |block id c=>simp only[ax,Qi]at b;obtain⟨_,_,b⟩:=b;cases b
 |rangeFunc g ps x y=>simp[ax]at b;(try split at b)<;>(try split at b)<;>cases b
 |_=>simp[ax]at b<;>cases b
def EU{S:aw U}{J:JS U}{F:Z Nat}{W:WS}(g:nk S J F W=true)(v:mK J.items):cW F W S (unpack K S J v):=by
 simp[nk,Qa,Qe]at g;obtain⟨⟨⟨⟨⟨⟨s,m⟩,z⟩,h⟩,A⟩,hF⟩,y⟩:=g;refine⟨λt D=> ?_,λid c=> ?_,?_⟩
 .have B:=cJ.1 (hF t D);have p:cZ t (slotsOf J.items)=false:=by simpa using(h t B).2
  rcases uw (K:=K) (S.base J.bY) J.items v t with⟨⟨i,d⟩,b,o,j⟩|⟨_,j⟩
  .exact absurd (yt (eU b) o) (lh p)
  .rw[show(unpack K S J v).env t=_ from j,Br,Qc B]
 .have u:id<S.N:=by
   cases W with
   |none=>cases y
   |some q=>
    let⟨n,l⟩:=q
    simp only at y;simp[okW,Q5]at c;have o:=Qm y;have j:¬n<=id:=λx=>by rw[qao x]at c;cases c.1
    omega
  rcases zM (K:=K) (S.base J.bY) J.items v id s with⟨⟨i,d⟩,b,o,j⟩|⟨_,j⟩
  .have:=(m id (mX (eU b) o)).2;rw[c]at this;cases this
  .rw[show(unpack K S J v).H id=_ from j,GZ,Qc u]
 .rw[unpack,zL,GY];exact Ql _
def yv{S S1:aw U}{J:JS U}{F:Z Nat}{W:WS}(b:nk S J F W=true){v:mK J.items}(i:pack K S1 J.items=some v)(d:cW J.bY (some (S.N,c5 J.items)) S S1):
  ∀(E:En),qm E S.st->∀(a:Act) (w:Wo) (L:Nat->Va),Rel E S1.st a w L->∃L',Rel E (unpack K S J v).st a w L':=by
 intro E l a w L h;refine⟨L,Rel.meet b i d.env (λid j c=>d.H id ?_) d.N l h⟩
 simp[okW,Q5];refine⟨?_,?_⟩
 .cases g:Nat.ble S.N id with
  |false=>rfl
  |true=>have:=Qm g;omega
 .cases g:cZ id (c5 J.items)with
  |false=>rfl
  |true=>exact absurd (cJ.1 g) c
def tv(S:aw U)(D:Z Nat):(S.bK D).st=S.st.jh D:=by
 unfold aw.bK aw.st St.jh;congr 1
 funext t
 simp only
 by_cases h:t∈D
 .rw[Qc h,cJ.2 h];rfl
 .rw[Qf h]
  cases b:cZ t D with
  |true=>exact absurd (cJ.1 b) h
  |false=>rfl
def qB{F D:Z Nat}(h:n5 F D=true)(W:WS)(S:aw U):cW F W S (S.bK D):=
 ⟨λt b=>by
  have c:cZ t D=false:=by
   cases d:cZ t D with
   |false=>rfl
   |true=>have:=Qe.1 h t (cJ.1 d);rw[cJ.2 b]at this;cases this
  simp[aw.bK,c],λ_ _=>rfl,Ql _⟩
def AV{S:aw U}{J:JS U}{F:Z Nat}{W:WS}(b:nk S J F W=true)(v:mK J.items){S':aw U}(h:cW J.bY (some (S.N,c5 J.items)) (unpack K S J v) S'):cW F W S S':=by
 have u:=EU (K:=K) b v;refine u.trans ?_;simp[nk,Qa,Qe]at b;obtain⟨⟨⟨⟨⟨⟨s,d⟩,m⟩,g⟩,o⟩,hF⟩,j⟩:=b;refine⟨λt p=>h.env t (cJ.1 (hF t p)),λid c=>h.H id ?_,h.N⟩
 simp[okW,Q5];refine⟨?_,?_⟩
 .cases W with
  |none=>cases j
  |some q=>
   let⟨n,l⟩:=q
   simp only at j;simp[okW,Q5]at c;have x:=Qm j
   cases i:Nat.ble S.N id with
   |false=>rfl
   |true=>have:=Qm i;rw[qao (QS x this)]at c;cases c.1
 .cases i:cZ id (c5 J.items)with
  |false=>rfl
  |true=>have:=(d id (cJ.1 i)).2;rw[c]at this;cases this
def Io{S:aw U}{J:JS U}{F:Z Nat}{W:WS}(b:nk S J F W=true)(v:mK J.items){t:Nat}(j:t∈J.bY):(unpack K S J v).env t=S.env t:=by
 simp[nk,Qa,Qe]at b;obtain⟨⟨⟨⟨⟨⟨p,n⟩,l⟩,c⟩,m⟩,hF⟩,q⟩:=b;have h:cZ t (slotsOf J.items)=false:=by simpa using(c t j).2
 rcases uw (K:=K) (S.base J.bY) J.items v t with⟨⟨i,d⟩,g,h1,o⟩|⟨_,o⟩
 .exact absurd (yt (eU g) h1) (lh h)
 .rw[show(unpack K S J v).env t=_ from o,Br,Qc j]
def Im{S:aw U}{J:JS U}{F:Z Nat}{W:WS}(b:nk S J F W=true)(v:mK J.items){S':aw U}(q:cW J.bY (some (S.N,c5 J.items)) (unpack K S J v) S'){v':mK J.items}(l:pack K S' J.items=some v'):
  ∀(E:En),qm E S.st->∀(a:Act) (w:Wo) (L:Nat->Va),Rel E S'.st a w L->∃L',Rel E (unpack K S J v').st a w L':=by
 intro E B a w L c;have n:=λ{t} j=>Io (K:=K) b v (t:=t) j
 have z:=b;simp[nk,Qa,Qe]at z;obtain⟨⟨⟨⟨⟨⟨m,y⟩,u⟩,o⟩,x⟩,hF⟩,D⟩:=z;refine⟨L,Rel.meet b l (λt j=>(q.env t j).trans (n j)) (λid p g=>(q.H id ?_).trans ?_) (by have:=q.N;rw[unpack,zL,GY]at this;exact this) B c⟩
 .simp[okW,Q5];refine⟨?_,?_⟩
  .cases s:Nat.ble S.N id with
   |false=>rfl
   |true=>have:=Qm s;omega
  .cases s:cZ id (c5 J.items)with
   |false=>rfl
   |true=>exact absurd (cJ.1 s) g
 .rcases zM (K:=K) (S.base J.bY) J.items v id m with⟨⟨i,d⟩,h,h1,A⟩|⟨_,A⟩
  .exact absurd (mX (eU h) h1) g
  .rw[show(unpack K S J v).H id=_ from A,GZ,Qc p]
def O0{T:U.Ty}{k:Nat}{d:Y Nat}(m:U.size T=k)(b:Mn U T d=true)(xs:Z (U.den T)):Dj k d (xs.map (U.pv T))/\∀a:U.den T,uM d (U.pv T a)=(tu K T a).pv:=by
 have g:∀a:U.den T,nH d (U.pv T a)=some (cY T a):=by
  intro a;unfold cY
  cases d with
  |none=>
   simp[Mn,QR]at b;have j:=K.len T a;rw[K.one T b]at j;rw[b]
   match i:U.pv T a with
   |[]=>rw[i]at j;cases j
   |x::l=>rfl
  |some n=>simp only[Mn,Qa]at b;have j:=Qg b.2;subst j;rw[b.1,nH,Qc (by rw[K.len];exact Ql _),<-K.len T a,qbl]
 have c:∀a:U.den T,uM d (U.pv T a)=cY T a:=λa=>by simp only[uM,g,qbk]
 refine⟨⟨λe h=> ?_,λe h=> ?_,λe h=> ?_⟩,λa=>by rw[c,wT]⟩
 .obtain⟨a,_,rfl⟩:=Qs.1 h;rw[K.len,m]
 .obtain⟨a,_,rfl⟩:=Qs.1 h;rw[c,g]
 .obtain⟨a,_,rfl⟩:=Qs.1 h;rw[c];unfold cY;split
  .exact Qe.2 λy p=>ei (K.ep T a y p)
  .cases i:U.pv T a with
   |nil=>have:=K.len T a;rename_i o;rw[K.one T o,i]at this;cases this
   |cons x l=>
    have s:=ei (K.ep T a x (by rw[i];exact Qy))
    have q:=K.ep T a x (by rw[i];exact Qy)
    cases x<;>first|exact s|(cases q)
def SZ(S:aw U)(A_s:Z (KV U)):(sq S A_s).st={S.st with env:=λt=>((A_s.map KV.pv)[t]?).getD .undef}:=by
 unfold sq aw.st;congr 1
 funext t
 simp[Qt];cases A_s[t]?<;>rfl
def OM(S:aw U)(A_s:Z (KV U)):(jR S A_s).st=S.st.fG (gm S A_s):=by
 unfold jR aw.st St.fG;congr 1
 funext id
 simp only;cases gm S A_s id<;>rfl
def yD(K:TK U){S:aw U}{A_s:Z (KV U)}{id:Nat}(h:gm S A_s id=true):id<S.N/\id≠0/\(S.st.H id).c.shut=true:=by
 simp only[gm,Qa,QR]at h;obtain⟨⟨h1,g⟩,b⟩:=h;refine⟨Qm h1,λe=>(by rw[e]at g;cases g),?_⟩
 split at b
 .rename_i cs d;rw[Qa]at b;simp only[aw.st,bx.pv,d,cp.pv,jl.shut];rw[kE];exact b.1
 .rename_i e k T xs d;simp only[aw.st,bx.pv,d,cp.pv,jl.shut];refine Qe.2 λy i=> ?_
  obtain⟨l,j,c⟩:=List.mem_flatten.1 i;obtain⟨x,_,rfl⟩:=Qs.1 j;exact CP (K.ep T x y c)
 .cases b
def OZ(S S':aw U)(A_s:Z (KV U))(d:Y Nat)(r:KV U):(eS S S' A_s d r).st=St.bm {S'.st.shown S.st (gm S A_s)with env:=λt=>(wP S t).pv} d r.pv none:=by
 unfold eS;rw[aw.Jm,xb];congr 1;unfold aw.st St.shown;congr 1
 funext id
 simp only;cases gm S A_s id<;>rfl
def OH(S:aw U)(q:Nat->Bool):(S.hZ q).st=S.st.kill q λid=>(S.H id).ab:=by
 unfold aw.hZ aw.st St.kill;congr 1
 funext id
 simp only;cases q id<;>rfl
def Mt{S:aw U}{S0:St}{f:FI}{c:Y aM}{xs:Z aM}{A_s:Z (KV U)}(b:tL S f c xs=some A_s)(F:xs.all aM.bJ=true)(I:c.all aM.bJ=true){E:En}{a:Act}{w:Wo}{L:Nat->Va}(h:Rel E S0 a w L)(z:∀t∈(jQ f c xs).bw,S0.env t=S.st.env t){G:Z Nat}{o:Oper}(l:uQ P G o=some (jQ f c xs))(m:Enters P f):
  ∃vs:Z Va,(execOp a.eval o).run P w= .ok (.enter f vs.toArray) w/\aK w (aH E S0 L) (S0.gh L) (A_s.map KV.pv) vs:=by
 have i:(∀t∈xs.flatMap aM.bw,S0.env t=S.st.env t)->xs.map (·.val S0)=(xs.map (·.bR S)).map KV.pv:=by intro q;rw[my q,List.map_map];exact QW λx n=>mY (Qe.1 F x n)
 cases c with
 |none=>
  injection b with b
  subst b
  let⟨args,A,d,j⟩:=J9 l
  exact⟨_,ND d m,by rw[<-i z];exact h.cy j⟩
 |some J=>
  simp[tL]at b;split at b
  .rename_i g D H;split at b
   .rename_i v;have v:=Qg v;subst v;injection b with b
    subst b
    let⟨M,args,A,d,u,j⟩:=C4 l
    have B:=h.dK u;have y:J.bJ=true:=by simpa using I
    rw[aM.val_congr λt p=>z t (List.mem_append_left _ p),mY y,H,KV.pv,KV.bT]at B
    let⟨us,hu,s⟩:=B.oX
    have b:args.map a.eval=(args.toList.map a.eval).toArray:=by rw[<-qaJ,QX]
    refine⟨args.toList.map a.eval++us,?_,by rw[List.map_append,<-i λt p=>z t (List.mem_append_right _ p)];exact(h.cy j).append s⟩
    simp[execOp,d,resolve,hu,Deferred.ofValue,Qu,QP,QI,invoke,b];simp[gr m]
   .cases b
  .cases b
def St.HW(T:St)(fd fi:Y Nat)(V:Nat->Nat):St:={env:=λt=>if fd=some t then .any else T.env t,H:=λid=>if fi=some id then⟨V id,.dead⟩else T.H id,N:=T.N}
def St.I7(T:St)(V:Nat->Nat):T.HW none none V=T:=by simp[St.HW]
def Bh(K:TK U){S1:aw U}{S0:St}{fd fi d:Y Nat}{f:FI}{c:Y aM}{xs:Z aM}{A_s:Z (KV U)}{n:Nat}{F:Z RV}{sc:SC}{W:WS}{X:aw U->KV U->Prop}
  (N:dL P f n sc F) (hnr:sc.BG=true) (okx:xs.all aM.bJ=true) (okv:c.all aM.bJ=true) (has:tL S1 f c xs=some A_s) (M:A_s.length<=n) (s:∀t∈sc.gq,A_s.length<=t)
  (hN:S0.N=S1.N) (hE0:∀t,fd≠some t->S0.env t=(S1.env t).pv) (hfd:∀t,fd=some t->t∉(jQ f c xs).bw/\d≠some t)
  (hH0:∀id,S0.H id=if fi=some id then⟨(S1.H id).ab,.dead⟩else(S1.H id).pv) (V:∀id,fi=some id->gm S1 A_s id=true)
  (G:VS P n sc (λe A=>∃b,A=b.st/\cW [] W (sq (jR S1 A_s) A_s) b/\(e= .ret\/e= .normal)/\∃v,pf b F=some v/\Bq S1 b A_s=true/\X b v) (sq (jR S1 A_s) A_s).st)
  {E:En} {a:Act} {w:Wo} {L:Nat->Va} (h1:Rel E S0 a w L) {hs:Z Nat} {o:Oper} (m:uQ P hs o=some (jQ f c xs)) (hds:d=o.dst) (hcan:∀t,o.dst=some t->E.can t) {KK:Act->Wo->Prop} {Q:Exit->Act->Wo->Prop}
  (hKK:∀b v a' w' L',cW [] W (sq (jR S1 A_s) A_s) b->X b v->Rel E (((eS S1 b A_s d v).hZ (fC S1 b v)).st.HW fd fi λid=>(b.H id).ab) a' w' L'->KK a' w'):
  o.wpIn (WF E.rd) 0 P a w KK Q:=by
 obtain⟨vs,H,I⟩:=Mt has okx okv h1 (λt i=>hE0 t λe=>(hfd t e).1 i) m N.enters
 let D:Nat->Bool:=λid=>gm S1 A_s id&& !decide (fi=some id)
 have hDn:∀id,fi≠some id->D id=gm S1 A_s id:=λid h=>by simp[D,h]
 have hD:∀id,D id=true->gm S1 A_s id=true/\fi≠some id:=λid h=>by simpa[D,Qa]using h
 have j:∀id,fi≠some id->S0.H id=(S1.H id).pv:=λid h=>by rw[hH0,Qf h]
 have hst:({S0.fG D with env:=λt=>((A_s.map KV.pv)[t]?).getD .undef}:St)=(sq (jR S1 A_s) A_s).st:=by
  rw[SZ,OM];simp only[St.fG,St.mk.injEq,qaM];refine⟨?_,hN⟩
  funext id
  by_cases hi:fi=some id
  .simp[D,hi,hH0,V id hi];rfl
  .rw[hDn id hi,j id hi];rfl
 rw[<-hst]at G
 have y:=NJ N hnr h1 I (by simpa using M) (λt i hm=>by have:=s t hm;rw[Qw]at i;omega) D (λid g=>by
   let⟨g1,g2⟩:=hD id g
   rw[hN,j id g2]
   exact yD K g1) (p:=λid _=>Nat.blt id S1.N) (λid _ g=>by rw[hN];exact Qm g) (Q:=λv A=>∃b x,v=x.pv/\A=b.st/\cW [] W (sq (jR S1 A_s) A_s) b/\Bq S1 b A_s=true/\X b x)
  (G.mono λe A ⟨b,B,e2,e3,x,e4,e6,e5⟩=>⟨e3,x.pv,by rw[B];exact wW e4,⟨b,x,rfl,B,e2,e6,e5⟩,by rw[B,hN];exact e2.N,λid g=>by
   let⟨g1,g2⟩:=hD id g
   have:=sz e6 id (yD K g1).1;rw[g1,qaH,qbd,Qa]at this;rw[B];refine⟨?_,by rw[j id g2];exact Qg this.2⟩
   simp only[aw.st,bx.pv]
   cases hc:(b.H id).c with
   |dead=>rfl
   |_=>rw[hc]at this;cases this.1⟩)
 unfold Oper.wpIn;rw[qaA _ _ _ (mZ m),H];refine⟨λ_ _=>trivial,(λh=>by cases h),wO.2 (Calls.mono y ?_)⟩
 rintro e w' ⟨v,_,_,L',rfl,⟨b,x,rfl,rfl,hfr,hdk,hX⟩,hrv,z⟩
 have h2:=z (λt=>if fd=some t then .any else(wP S1 t).pv) λt=>by
  by_cases i:fd=some t
  .exact .inl (Qc i)
  .rw[Qf i,hE0 t i];simp only[wP]
   cases hkt:Mq S1 t with
   |false=>exact .inl rfl
   |true=>exact .inr ⟨rfl,by rw[F9];exact hkt⟩
 have h3:=(h2.Mj (d:=o.dst) hcan hrv).PD (fC S1 b x) (λid=>((eS S1 b A_s d x).H id).ab) ?_
 .refine hKK b x _ _ L' hfr hX ?_;refine cast (QJ (λZ0_=>Rel E Z0_ _ _ _) ?_) h3
  rw[OH,OZ,hds];simp only[St.HW,St.kill,St.bm,St.shown,St.mk.injEq];refine⟨?_,?_,?_⟩
  .funext t
   cases hod:o.dst with
   |none=>rfl
   |some q=>
    simp only[bd]
    by_cases i:fd=some t
    .have:t≠q:=λe=>(hfd t i).2 (by rw[hds,hod,e])
     rw[Qc i,Qf this,Qc i]
    .rw[Qf i,Qf i]
  .funext id
   by_cases hi:fi=some id
   .have hh:=V id hi;have hlt:id<S1.N:=(yD K hh).1
    have hno:fC S1 b x id=false:=by
     unfold fC
     have:Nat.ble S1.N id=false:=by
      cases hb:Nat.ble S1.N id with
      |false=>rfl
      |true=>have:=Qm hb;omega
     rw[this];rfl
    have l:D id=false:=by simp[D,hi]
    have u:=sz hdk id hlt;rw[hh,qaH,qbd,Qa]at u;rw[hno,Qc hi,l];simp only[QQ,QF];show((b.H id).pv:dq)=_;simp only[bx.pv]
    cases hc:(b.H id).c with
    |dead=>rfl
    |_=>rw[hc]at u;cases u.1
   .rw[Qf hi,hDn id hi,j id hi];rfl
  .trivial
 .intro id g;simp only[fC,Qa]at g;have hge:=Qm g.1.1.1
  have J:gm S1 A_s id=false:=by
   cases hq:gm S1 A_s id with
   |false=>rfl
   |true=>have:=(yD K hq).1;omega
  have l:D id=false:=by simp[D,J]
  have B:((eS S1 b A_s d x).H id).ab=(b.H id).ab:=by
   show(match gm S1 A_s id with|true=>_|false=>b.H id).ab=_
   rw[J]
  have e2:(({(b.st.shown S0 D)with env:=λt=>if fd=some t then .any else(wP S1 t).pv}:St).bm o.dst x.pv none).H id=(b.H id).pv:=by
   show(if D id=true then _ else b.st.H id)=_
   rw[l];rfl
  rw[B,e2];refine⟨Ql _,λhN2=> ?_⟩
  have:=(h2.fresh id hN2)
  have e3:(b.H id).pv=⟨0,.dead⟩:=by
   rw[<-this];show _=(if D id=true then _ else b.st.H id)
   rw[l];rfl
  exact QJ dq.ab e3
def Rq{S:aw U}{A_s:Z (KV U)}{id:Nat}(h:gm S A_s id=true):id<S.N:=by simp only[gm,Qa]at h;exact Qm h.1.1
def xn{F ds:Z Nat}(h:n5 F ds=true){t:Nat}(b:t∈F):t∉ds:=λc=>by have:=Qe.1 h t c;rw[cJ.2 b]at this;cases this
def Lb{y v:Z Nat}{d:Y Nat}{F:Z Nat}{W:WS}{A_s:Z (KV U)}{n k1 k2:Nat}{z:Z Nat}{S S1 b S3:aw U}{x:KV U}(m:∀t∈F,t∉y/\d≠some t/\t∉v)(g:uK S1 F W A_s n z=true)(c:mq y W (S.more k1) S1)
  (o:cW [] W (sq (jR S1 A_s) A_s) b) (i:mq v W (((eS S1 b A_s d x).hZ (fC S1 b x)).more k2) S3):cW F W S S3:=by
 simp only[uK,Qa]at g;obtain⟨⟨⟨j,_⟩,_⟩,h⟩:=g;refine⟨λt u=> ?_,λq l=> ?_,?_⟩
 .let⟨D,B,A⟩:=m t u
  rw[i.env t A];show(eS S1 b A_s d x).env t=_;unfold eS;rw[aw.Jm,fc _ _ _ _ B];simp[wP,Qe.1 h t u];exact c.env t D
 .rw[i.H q l]
  have p:fC S1 b x q=false:=by
   cases W with
   |none=>cases j
   |some W=>
    simp[okW,Q5]at l;have G:¬W.1<=q:=λe=>by have:=qao e;rw[l.1]at this;cases this
    have j:=Qm j
    have:Nat.ble S1.N q=false:=by
     cases H:Nat.ble S1.N q with
     |false=>rfl
     |true=>have:=Qm H;omega
    unfold fC;rw[this];rfl
  show(match fC S1 b x q with|true=>_|false=>(eS S1 b A_s d x).H q)=_
  rw[p];show(match gm S1 A_s q with|true=>S1.H q|false=>b.H q)=_
  cases s:gm S1 A_s q with
  |true=>exact c.H q l
  |false=>
   show b.H q=_;rw[o.H q l];show(match gm S1 A_s q with|true=>_|false=>S1.H q)=_
   rw[s];exact c.H q l
 .have M:=c.N;have J:=o.N;have I:=i.N;have:(S.more k1).N=S.N+k1:=rfl;have:(((eS S1 b A_s d x).hZ (fC S1 b x)).more k2).N=b.N+k2:=rfl;have:(sq (jR S1 A_s) A_s).N=S1.N:=rfl;omega
def RZ{Γ:Z (bS U)}(z:jo P Γ){m l:RS U}{d:Y Nat}{f:FI}{c:Y aM}{xs:Z aM}{n:Nat}{y:Z RV}{I:SC}{F:Z Nat}{W:WS}{ρ:Type}{k:Exit->aw U->Y ρ}{r:ρ}{S:aw U}
  (hfn:dL P f n I y) (hnr:I.BG=true) (D:n5 F (m.dG++d.toList++l.dG)=true) (lA:m.bJ=true) (V:l.bJ=true) (M:xs.all aM.bJ=true) (N:c.all aM.bJ=true) {kk:aw U->Y ρ} (h:jB K Γ m W S.N (S.more m.len) kk=some r)
  (hk:∀S1,kk S1=some r->∃A_s,tL S1 f c xs=some A_s/\uK S1 F W A_s n I.gq=true/\VS P n I (λe A=>∃j,A=j.st/\cW [] W (sq (jR S1 A_s) A_s) j/\(e= .ret\/e= .normal)/\∃v,pf j y=some v/\Bq S1 j A_s=true/\jB K Γ l W j.N (((eS S1 j A_s d v).hZ (fC S1 j v)).more l.len) (λu=>k .normal u)=some r) (sq (jR S1 A_s) A_s).st):
  VS P nt (.jq (m.flat++⟨d,none,jQ f c xs⟩::l.flat)) (λe A=>∃S',A=S'.st/\cW F W S S'/\k e S'=some r) S.st:=by
 intro c0 hs hc;obtain⟨id,ops,rfl,hgs,hd⟩:=OW hc;intro E hE hkE a w L B;refine qaQ ?_;obtain⟨l1,l2',el,m1,m2⟩:=sb hgs
 cases l2' with
 |nil=>simp at m2
 |cons o J=>
 simp only[QE,Qh,Qd,QN,Qb,List.cons.injEq]at m2;obtain⟨g,hg,gs2,G,rfl,rfl⟩:=m2;have i:=GU hE hkE hd;rw[el]at i ⊢;refine hY (K:=K) (E:=E) z (ops:=ops) (Q:=λe a' w'=>∃S' L',Rel E S' a' w' L'/\_) m W S.N (S.more m.len) kk r l1 (o::J) a w L lA m1 (B.room m.len) (Ql _) (λX s=>i X (List.mem_append_left _ s)) h (λS1 a1 w1 L1 hf1 h1 hk1=> ?_)
 obtain⟨A_s,has,p,hvs⟩:=hk S1 hk1;have b:=p;simp only[uK,Qa]at b
 have q:∀t∈F,t∉m.dG/\d≠some t/\t∉l.dG:=λt ht=>by have:=xn D ht;simp only[Qr,Q3]at this;exact⟨this.1.1,λe=>this.1.2 (by rw[e];exact qae.2 rfl),this.2⟩
 obtain⟨hgu,hds,H⟩:=Kb hg;refine qaN λKK hKK=> ?_
 rw[Eh hgu,Qc rfl];refine Bh K (fd:=none) (fi:=none) hfn hnr M N has (Qm b.1.1.2) (λt ht=>Qm (Qe.1 b.1.2 t ht)) rfl (λ_ _=>rfl) (λ_ e=>by cases e) (λ_=>rfl) (λ_ e=>by cases e) (hvs.mono λe A ⟨j,e1,e2,e3,x,e4,e5,e6⟩=>⟨j,e1,e2,e3,x,e4,e5,e6⟩) h1 H hds.symm (i o (List.mem_append_right _ Qy)) λj x a' w' L' hfr hr2 h4=>hKK _ _ ?_
 rw[St.I7]at h4;have hl2:J=J++[]:=by rw[List.append_nil]
 rw[hl2];exact hY (K:=K) (E:=E) z (ops:=ops) l W j.N (((eS S1 j A_s d x).hZ (fC S1 j x)).more l.len) (λu=>k .normal u) r J [] _ w' L' V G (h4.room l.len) (Ql _) (λX s=>i X (List.mem_append_right _ (QC _ s))) hr2 (λu a3 w3 L3 hf3 h5 hk3=>⟨u.st,L3,h5,u,rfl,Lb q p hf1 hfr hf3,hk3⟩)
def P5(P:Pr)(n:Nat)(b i:aw U)(o:SG)(h:ea):Prop:=
 ∃d,o.d=some d/\o.g=none/\(((∃z,o.op= .alloc z)/\h=⟨o.d,o.bw,[n],some n⟩/\∃v g,b.env d= .ptr n v g/\v=(b.H n).ab/\i=b.raise d n v g)\/((∀z,o.op≠ .alloc z)/\d∉o.bw/\i=b/\∃c,fe P c/\oy c n b.st o=some ((b.env d).pv,none)/\h=py n b.st o ((b.env d).pv,none)))
def Jj(S:aw U)(d i off:Nat):(S.raise d i (S.H i).ab off).st=S.st.raise d i off:=by
 unfold aw.raise aw.st St.raise;congr 1
 .funext t
  simp only[bU,bd];split<;>rfl
 .funext t
  simp only[bU,bd];split<;>rfl
def RA{Γ:Z (bS U)}(s:jo P Γ){ρ:Type}{F:Z Nat}{W:WS}{base:Nat}{fr:Y Nat}{l:Z SG}{b:aw U}{k:aw U->Y (Nat×ea)->Y ρ}{r:ρ}(h:Tj K Γ F W base fr l b k=some r):
  ∃I m D,k m I=some r/\(fr=none->I=none)/\(m.N=b.N/\∀(E:En) (a:Act) (w:Wo) (L:Nat->Va),Rel E b.st a w L->Rel E m.st a w L)/\(∀t∈F,t∉D)/\mq D W b m/\∀q,fr=some q->∃o ft,l[q]?=some o/\I=some (q,ft)/\P5 P (base+q) b m o ft:=by
 unfold Tj at h;simp only[Aj K]at h;split at h
 .exact⟨none,b,[],h,λ_=>rfl,⟨rfl,λ_ _ _ _ h=>h⟩,λ_ _ h=>(by cases h),mq.refl _ _ _,λq e=>by cases e⟩
 .rename_i q;split at h
  .rename_i o J;split at h
   .rename_i d N M H;split at h
    .rename_i z A;split at h
     .rename_i i v p g;split at h
      .rename_i Q;simp only[Qa]at Q;obtain⟨⟨⟨⟨b1,j⟩,b3⟩,b4⟩,b5⟩:=Q;have b1:=Qg b1;have j:=Qg j;have b3:=Qm b3;refine⟨_,_,[d],h,λe=>(by cases e),⟨rfl,λE a w L hr=> ?_⟩,λt B=>xn b4 B,⟨λt B=> ?_,λid c=> ?_,Ql _,λ_=>rfl⟩,λV e=>by injection e with e;subst e;exact⟨o,_,J,rfl,d,N,M,.inl ⟨⟨z,A⟩,rfl,v,p,by rw[g,b1],by rw[<-b1];exact j,by rw[b1]⟩⟩⟩
       .rw[j,Jj];refine hr.raise b3 ?_;show(b.env d).pv=_;rw[g,j];rfl
       .show c8 b.env d _ t=_;rw[bU,bo _ _ (λe=>B (by rw[e];exact qae.2 rfl))]
       .show c8 b.H i _ id=_;rw[bU,bo _ _ (λe=>by rw[e,b5]at c;cases c)]
      .cases h
     .cases h
    .rename_i A;obtain⟨n,x,wr,g1,g2,g3,g4⟩:=sy s H h;split at g4
     .split at g4
      .rename_i G;rw[Qa,QR]at G
       have X:x=b.env d:=by
        have:=G.2;revert this;generalize b.env d=y;cases x<;>cases y<;>simp only[Pp,QQ,false_implies,Qa]
        rintro⟨⟨e1,e2⟩,e3⟩;rw[Qg e1,Qg e2,Qg e3]
       subst X;exact⟨_,b,[],g4,λe=>(by cases e),⟨rfl,λ_ _ _ _ h=>h⟩,λ_ _ h=>(by cases h),mq.refl _ _ _,λV e=>by injection e with e;subst e;exact⟨o,_,J,rfl,d,N,M,.inr ⟨λz u=>A z u,lh G.1,rfl,n,g1,g2,rfl⟩⟩⟩
      .cases g4
     .cases g4
   .cases h
  .cases h
def H4{Γs:Nat->gL}{base i:Nat}{g:SG}:∀{l:Z (Nat×SG)} {S S1:St} {fs:Z ea},dS Γs base l S=some (S1,fs)->∀{p:PV×Y (Nat×dq)},oy (Γs i) (base+i) S1 g=some p->dS Γs base (l++[(i,g)]) S=some (S1.bm g.d p.1 p.2,fs++[py (base+i) S1 g p])
 |[],S,S1,fs,h,p,b=>by simp only[dS,Qb,QY]at h;rw[<-h.1]at b ⊢;rw[<-h.2];simp only[List.nil_append,dS,b]
 |(j,q)::l,S,S1,fs,h,p,b=>by
  simp only[dS]at h;split at h
  .cases h
  .rename_i n c;split at h
   .cases h
   .rename_i o m d;simp only[Qb,QY]at h;rw[h.1]at d;simp only[List.cons_append,dS,c,H4 d b,<-h.2]
def Ja{Γs:Nat->gL}{base i:Nat}:∀{c b:Z (Nat×SG)} {S S':St} {fs:Z ea},dS Γs base (c++(i,lM)::b) S=some (S',fs)->dS Γs base (c++b) S=some (S',fs.eraseIdx c.length)
 |[],b,S,S',fs,h=>by
  simp only[List.nil_append,dS]at h;split at h
  .cases h
  .rename_i p d
   have:p=(.bool true,none):=by simp only[oy,SG.wanted,lM,exec,aM.val,Qb]at d;exact d.symm
   subst this;split at h
   .cases h
   .rename_i m l g;simp only[Qb,QY]at h;rw[<-h.1,<-h.2];exact g
 |(j,q)::c,b,S,S',fs,h=>by
  simp only[List.cons_append,dS]at h;split at h
  .cases h
  .rename_i p d;split at h
   .cases h
   .rename_i m l g;simp only[Qb,QY]at h;rw[h.1]at g;simp only[List.cons_append,dS,d,Ja g,<-h.2,QV,List.eraseIdx_cons_succ]
def yC{Γ:Z (bS U)}(c:jo P Γ){W:WS}{base:Nat}{ρ:Type}{r:ρ}:∀{rs:RS U} {n i:Nat} {S:aw U} {k:aw U->Z ea->Y ρ},rs.bJ=true->oP K Γ W base (rs.hole n) i S k=some r->(rs.hole n).flat=rs.flat.set n lM
 | .nil,n,i,S,k,_,h=>by cases n<;>rfl
 | .op o q,0,i,S,k,_,h=>rfl
 | .op o q,n+1,i,S,k,ok,h=>by simp only[RS.bJ,Qa]at ok;simp only[RS.hole,oP,Aj K]at h;obtain⟨_,x,wr,_,_,_,h⟩:=sy c ok.1 h;simp only[RS.hole,RS.flat,List.set_cons_succ,yC c ok.2 h]
 | .nD t q,n,i,S,k,ok,h=>by
  have e:(RS.nD t q).hole n= .nD t (q.hole n):=by cases n<;>rfl
  rw[e]at h ⊢;simp only[oP,Aj K]at h;split at h
  .rename_i b _;cases b<;>exact yC c (rs:=q) ok h
  .exact yC c (rs:=q) ok h
  .cases h
 | .ps _ _,n,i,S,k,_,h| .ite _ _ _ _ _ _ _ _,n,i,S,k,_,h=>by cases n<;>cases h
def Fh:∀{rs:RS U} {n:Nat},rs.bJ=true->(rs.hole n).bJ=true
 | .op o q,0,h=>by simp only[RS.bJ,Qa]at h;simp only[RS.hole,RS.bJ,h.2,QU];rfl
 | .op o q,n+1,h=>by simp only[RS.bJ,Qa]at h;simp only[RS.hole,RS.bJ,h.1,Fh h.2,QU]
 | .nD t q,n,h=>by
  have e:(RS.nD t q).hole n= .nD t (q.hole n):=by cases n<;>rfl
  rw[e];exact Fh (rs:=q) h
 | .nil,n,h| .ps _ _,n,h| .ite _ _ _ _ _ _ _ _,n,h=>by cases n<;>exact h
def wS{l:Z SG}{k z:Nat}{q:Nat×SG}(h:((l.zipIdx k).map λp=>(p.2,p.1))[z]?=some q):q.1=k+z/\l[z]?=some q.2:=by simp only[Qt,Qi,qba,List.getElem?_zipIdx,QY]at h;obtain⟨u,v,⟨c,b,rfl,rfl⟩,rfl⟩:=h;exact⟨rfl,b⟩
def Dk{l:Z SG}{k:Nat}{q:Nat×SG}:(q∈(l.zipIdx k).map λp=>(p.2,p.1))↔k<=q.1/\l[q.1 - k]?=some q.2:=by
 constructor
 .intro h;obtain⟨z,c⟩:=List.getElem?_of_mem h
  let⟨h1,b⟩:=wS c
  exact⟨O,by rw[show q.1 - k=z by omega];exact b⟩
 .rintro⟨h1,b⟩;refine Qs.2 ⟨(q.2,q.1),?_,rfl⟩;rw[List.mem_zipIdx_iff_le_and_getElem?_sub];exact⟨h1,b⟩
def rJ(l:Z SG)(k:Nat):((l.zipIdx k).map λp=>(p.2,p.1)).Pairwise λp q=>p.1<q.1:=by rw[List.pairwise_iff_getElem];intro i j hi b c;have g:=wS (Qv hi);have d:=wS (Qv b);omega
def HC{fr:Y Nat}{i:Nat}:K8 fr i=true↔fr=some i:=by
 cases fr with
 |none=>simp[K8]
 |some f=>simp only[K8,Qb];exact⟨λh=>(Qg h).symm,λh=>by rw[h];exact qbe i⟩
def BB.symm{p q:ea}(h:BB p q):BB q p:=⟨h.d2,h.d1,λt a b=>h.dd t b a,h.w2,h.w1,λi a b=>h.ww i b a⟩
def Fu{ops:Z Oper}{u:Z SG}{un:Z (Nat×Nat)}(h:un=wU ops)(m:∀p∈un,∀g q,u[p.1]?=some g->u[p.2]?=some q->lR g q=true){l:Z (Nat×SG)}{fs:Z ea}{g:Nat->Y ea}(B:l.Pairwise λp q=>p.1<q.1)
  (y:∀(k:Nat) (p:Nat×SG) (f:ea),l[k]?=some p->fs[k]?=some f->u[p.1]?=some p.2/\(f.d=p.2.d/\f.us=p.2.bw)/\g p.1=some f/\p.1<ops.length) (i:Pj un g=true):Hb ops l fs:=by
 intro a b p q f e o x v n D d;obtain⟨p1,A,z,_⟩:=y a p f x n;obtain⟨q1,q2,q3,q4⟩:=y b q e v D
 have j:p.1<q.1:=by have t:=(QL.1 x);have s:=(QL.1 v);obtain⟨t,rfl⟩:=t;obtain⟨s,rfl⟩:=s;exact List.pairwise_iff_getElem.1 B a b t s o
 have c:(p.1,q.1)∈un:=by rw[h];exact uh q4 j d
 refine Bi A q2 (m _ c _ _ p1 q1) ?_;have:=Qe.1 i _ c;simpa only[z,q3]using this
def Oz{Γ:Z (bS U)}(hΓ:jo P Γ){ops:Z Oper}{un:Z (Nat×Nat)}{fr:Y Nat}{b u:RS U}{gc:SG}{F:Z Nat}{W:WS}{ρ:Type}{kk:aw U->Y ρ}{r:ρ}{S:aw U}(hl:ops.length=b.flat.length+1+u.flat.length)
  (hun:un=wU ops) (hfa:∀p∈un,∀g q,(b.flat++gc::u.flat)[p.1]?=some g->(b.flat++gc::u.flat)[p.2]?=some q->lR g q=true) (lA:b.bJ=true) (X:∀t∈F,t∉b.dG) (h:Jo K Γ F W (some (un,fr)) b u S kk=some r):
  ((∀p∈un,(p.1=b.flat.length->fr=some p.2)/\(p.2=b.flat.length->fr=some p.1))/\fr≠some b.flat.length/\∀f j,fr=some f->b.flat.length<=j->j<f->(j,f)∈un)/\∃(Γs:Nat->gL) (S1:aw U) (D:Z Nat) (l:Z (Nat×SG)) (fs:Z ea),(∀j,fe P (Γs j))/\dS Γs S.N l (S.more (b.len+1+u.len)).st=some (S1.st,fs)/\
   (∀p:Nat×SG,p∈l↔(b.flat++gc::u.flat)[p.1]?=some p.2/\(decide (p.1<b.flat.length)||decide (fr=some p.1))=true)/\(l.Pairwise λp q=>p.1<q.1)/\Hb ops l fs/\(∀t∈F,t∉D)/\mq D W (S.more (b.len+1+u.len)) S1/\kk S1=some r:=by
 have hl1:=RS.mB b;simp only[Jo]at h;split at h
 case h_2=>cases h
 rename_i n;simp only[SR,Qa,QR,Qe,Qx]at n;obtain⟨⟨I,hlate⟩,n⟩:=n;have I:fr≠some b.flat.length:=λe=>by rw[hl1,<-HC]at e;rw[e]at I;cases I
 refine⟨⟨λp c=>⟨λe=> ?_,λe=> ?_⟩,I,λf j hf s d=> ?_⟩,?_⟩
 .rcases(n p c).1 with N|N
  .exact absurd (e.trans hl1) (qaE N)
  .exact HC.1 N
 .rcases(n p c).2 with N|N
  .exact absurd (e.trans hl1) (qaE N)
  .exact HC.1 N
 .subst hf;have:=Qe.1 hlate (j - b.len) o_;obtain⟨p,c,hpp⟩:=List.any_eq_true.1 this;rw[Qa]at hpp;have e1:=Qg hpp.1;have e2:=Qg hpp.2;have:p=(j,f):=Prod.ext (by simp only;omega) e2
  rw[<-this];exact c
 obtain⟨Γs,S1,m,V,v,hf1,h⟩:=lf hΓ b 0 _ _ lA h;have J:=wV _ _ _ _ v;have A:∀{z:Nat},z<b.flat.length->(b.flat++gc::u.flat)[z]?=b.flat[z]?:=λh=>List.getElem?_append_left h
 have y:∀p:Nat×SG,(p∈(b.flat.zipIdx 0).map λp=>(p.2,p.1))↔(b.flat++gc::u.flat)[p.1]?=some p.2/\p.1<b.flat.length:=λp=>by
  rw[Dk];refine⟨λ⟨_,d⟩=> ?_,λ⟨s,d⟩=>⟨Q9 _,?_⟩⟩
  .have:=(QL.1 d).1;exact⟨by rw[A O];exact d,O⟩
  .rw[A d]at s;exact s
 have M:∀(g:Nat->Y ea),(∀i x,m[i]?=some x->g i=some x)->∀(k:Nat) (p:Nat×SG) (f:ea),((b.flat.zipIdx 0).map λp=>(p.2,p.1))[k]?=some p->m[k]?=some f->(b.flat++gc::u.flat)[p.1]?=some p.2/\(f.d=p.2.d/\f.us=p.2.bw)/\g p.1=some f/\p.1<ops.length:=λg hg k p f c hf=>by
  let⟨s,d⟩:=wS c
  have hlt:=(QL.1 d).1;rw[qam]at s;exact⟨by rw[s,A hlt];exact d,J.2 k p.1 p.2 f c hf,by rw[s];exact hg k f hf,O⟩
 have B:(∀j,fr=some j->j<b.flat.length)->(match Pj un (λi=>match m[i]? with|some x=>some x|none=>Ex none i)with|true=>kk S1|false=>none)=some r->∃(Γs:Nat->gL) (S1:aw U) (D:Z Nat) (l:Z (Nat×SG)) (fs:Z ea),(∀j,fe P (Γs j))/\dS Γs S.N l (S.more (b.len+1+u.len)).st=some (S1.st,fs)/\
   (∀p:Nat×SG,p∈l↔(b.flat++gc::u.flat)[p.1]?=some p.2/\(decide (p.1<b.flat.length)||decide (fr=some p.1))=true)/\(l.Pairwise λp q=>p.1<q.1)/\Hb ops l fs/\(∀t∈F,t∉D)/\mq D W (S.more (b.len+1+u.len)) S1/\kk S1=some r:=λhf h=>by
  split at h
  case h_2=>cases h
  rename_i hub;refine⟨Γs,S1,_,_,m,V,v,λp=> ?_,rJ _ _,Fu hun hfa (rJ _ _) (M _ λi x hx=>by simp only[hx]) hub,X,hf1,h⟩
  rw[y,Qx,QB,QB];exact⟨λ⟨s,d⟩=>⟨s,.inl d⟩,λ⟨s,d⟩=>⟨s,d.elim id (hf _)⟩⟩
 cases fr with
 |none=>exact B (λj e=>by cases e) h
 |some f=>
  simp only[PB,Aj K]at h;split at h
  .rename_i G;have G:=Qm G;have G:b.flat.length<f:=Nat.lt_of_le_of_ne O λe=>I (by rw[e])
   split at h
   .rename_i o ho;split at h
    .rename_i hok;rw[Qa]at hok;obtain⟨Γ',x,wr,g1,g2,g3,h⟩:=sy hΓ hok.1 h;split at h
     case h_2=>cases h
     rename_i hub
     have Q:(b.flat++gc::u.flat)[f]?=some o:=by
      rw[List.getElem?_append_right O,show f - b.flat.length=(f - b.flat.length - 1)+1 by omega,List.getElem?_cons_succ]at ho ⊢
      exact ho
     have hflt:f<ops.length:=by have:=(QL.1 Q).1;simp at this;omega
     have hfr:=HS S1 W o.d x wr g3;have hlt1:∀p∈(b.flat.zipIdx 0).map λp=>(p.2,p.1),p.1<b.flat.length:=λp c=>((y p).1 c).2
     have H:(((b.flat.zipIdx 0).map λp=>(p.2,p.1))++[(f,o)]).Pairwise λp q=>p.1<q.1:=qaz.2 ⟨rJ _ _,List.pairwise_singleton _ _,λp c q hq=>by
      rw[qae.1 hq];have:=hlt1 p c
      simp only;omega⟩
     have hl1':((b.flat.zipIdx 0).map λp=>(p.2,p.1)).length=m.length:=J.1.symm
     refine⟨λj=>if j=f then Γ' else Γs j,S1.bm o.d x wr,b.dG++o.d.toList,_,_,λj=>by simp only;split;exact g1;exact V j,?_,λp=> ?_,H,Fu (fs:=m++[py (S.N+f) S1.st o (x.pv,wr.map eZ)]) hun hfa H (λk p e c he=> ?_) hub,λt ht=> ?_,hf1.trans hfr λt ht=> ?_,h⟩
     .have:=H4 (Γs:=λj=>if j=f then Γ' else Γs j) (base:=S.N) (i:=f) (g:=o) (l:=(b.flat.zipIdx 0).map λp=>(p.2,p.1)) (S:=(S.more (b.len+1+u.len)).st) (S1:=S1.st) (fs:=m) (by
       rw[wu (Γs':=Γs)]
       .exact v
       .intro p c;have:=hlt1 p c
        rw[Qf O]) (p:=(x.pv,wr.map eZ)) (by simp only[Qp];exact g2)
      rw[xb];exact this
     .rw[Qr,y,qae,Qx,QB,QB];refine⟨λh=> ?_,λ⟨s,d⟩=> ?_⟩
      .rcases h with h|rfl
       .exact⟨h.1,.inl h.2⟩
       .exact⟨Q,.inr rfl⟩
      .rcases d with d|d
       .exact .inl ⟨s,d⟩
       .injection d with d
        rw[<-d,Q]at s;injection s with s
        exact .inr (Prod.ext d.symm s.symm)
     .rcases qat k ((b.flat.zipIdx 0).map λp=>(p.2,p.1)).length with hk|hk
      .rw[List.getElem?_append_left hk]at c;rw[List.getElem?_append_left O]at he;exact M (λi=>match m[i]? with|some x=>some x|none=>Ex (some (f,_)) i) (λi x hx=>by simp only[hx]) k p e c he
      .rw[List.getElem?_append_right hk]at c;rw[List.getElem?_append_right O]at he
       have hk0:k - ((b.flat.zipIdx 0).map λp=>(p.2,p.1)).length=0:=by have:=(QL.1 c).1;simp at this ⊢;omega
       rw[hk0]at c;rw[show k - m.length=0 by omega]at he
       simp only[List.getElem?_cons_zero,Qb]at c he;subst c he;refine⟨Q,⟨rfl,rfl⟩,?_,hflt⟩;have:m[f]?=none:=qaT (by rw[J.1];simp;omega)
       simp only[this,Ex,qbe];cases wr<;>rfl
     .rw[Qr,Q3];exact⟨X t ht,xn hok.2 ht⟩
     .rw[Qr,Q3]at ht;exact ht
    .cases h
   .cases h
  .rename_i G;refine B (λj e=> ?_) h
   injection e with e
   subst e;rcases qat f b.len with N|N
   .omega
   .rw[qao N]at G;cases G
def Nf{Γ:Z (bS U)}(hΓ:jo P Γ){ops:Z Oper}{un:Z (Nat×Nat)}{fr:Y Nat}{b r2:RS U}{V:SG}{F:Z Nat}{W:WS}{ρ:Type}{kk:aw U->Y ρ}{r:ρ}{S S2 T2:aw U}(hl:ops.length=b.flat.length+1+r2.flat.length)
  (hun:un=wU ops) (hfa:∀p∈un,∀g q,(b.flat++V::r2.flat)[p.1]?=some g->(b.flat++V::r2.flat)[p.2]?=some q->lR g q=true) (hnm:fr≠some b.flat.length) (hlate:∀f j,fr=some f->b.flat.length<=j->j<f->(j,f)∈un) (X:r2.bJ=true) (h:AQ K Γ F W (some (un,fr)) b r2 S S2 T2 kk=some r):
  ∃(Γs:Nat->gL) (T3 S3:aw U) (D:Z Nat) (l:Z (Nat×SG)) (fs:Z ea),(∀j,fe P (Γs j))/\(T3.N=T2.N/\∀(E:En) (a:Act) (w:Wo) (L:Nat->Va),Rel E T2.st a w L->Rel E T3.st a w L)/\dS Γs S.N l T3.st=some (S3.st,fs)/\
   (∀p:Nat×SG,p∈l↔(b.flat++V::r2.flat)[p.1]?=some p.2/\b.flat.length<p.1/\fr≠some p.1)/\(l.Pairwise λp q=>p.1<q.1)/\Hb ops l fs/\(∀t∈F,t∉D)/\mq D W T2 S3/\kk S3=some r/\
   ∀q,fr=some q->∃o ft,(b.flat++V::r2.flat)[q]?=some o/\P5 P (S.N+q) T2 T3 o ft/\(ft.d=o.d/\ft.us=o.bw)/\∀(z:Nat) (p:Nat×SG) (e:ea),l[z]?=some p->fs[z]?=some e->gn ops p.1 q=false->BB ft e:=by
 have hl1:=RS.mB b;simp only[AQ]at h;split at h
 case h_2=>cases h
 rename_i hoffB;obtain⟨fo,T3,D0,h,hfn,hrel3,hD0,hfr0,hfo⟩:=RA hΓ h
 have hokh:(wJ fr b.len r2).bJ=true:=by
  unfold wJ;split
  .split
   .exact Fh X
   .exact X
  .exact X
 have A:=h;obtain⟨Γs,S3,fs,hΓs,m,hf3,h⟩:=lf hΓ _ _ _ _ hokh h;split at h
 case h_2=>cases h
 rename_i hub
 have hfull:∀q o,q≠b.flat.length->(b.flat++lM::r2.flat)[q]?=some o->(b.flat++V::r2.flat)[q]?=some o:=λq o N h=>by
  rcases qbz N with v|v
  .rw[List.getElem?_append_left v]at h ⊢;exact h
  .rw[List.getElem?_append_right O,show q - b.flat.length=(q - b.flat.length - 1)+1 by omega,List.getElem?_cons_succ]at h ⊢;exact h
 have I:∀q,fr=some q->∃o ft,(b.flat++V::r2.flat)[q]?=some o/\fo=some (q,ft)/\P5 P (S.N+q) T2 T3 o ft/\(ft.d=o.d/\ft.us=o.bw):=λq N=>by
  obtain⟨o,ft,s,J,h3⟩:=hfo q N;refine⟨o,ft,hfull q o (λe=>hnm (by rw[N,e])) s,J,h3,?_⟩
  obtain⟨d,_,_,Q⟩:=h3;rcases Q with⟨_,rfl,_⟩|⟨_,_,_,_,_,_,rfl⟩
  .exact⟨rfl,rfl⟩
  .exact⟨rfl,rfl⟩
 have hgs:∀{z:Nat},(b.flat++V::r2.flat)[b.flat.length+1+z]?=r2.flat[z]?:=λ{z}=>by rw[List.getElem?_append_right O,show b.flat.length+1+z - b.flat.length=z+1 by omega,List.getElem?_cons_succ]
 have hfoN:∀i,fr≠some i->Ex fo i=none:=λi hi=>by
  cases H:fr with
  |none=>rw[hfn H];rfl
  |some q=>
   obtain⟨o,ft,_,J,_⟩:=I q H;rw[J,Ex]
   cases hb:Nat.beq i q with
   |true=>exact absurd (by rw[H,Qg hb]) hi
   |false=>rfl
 have key:∃(l:Z (Nat×SG)) (M:Z ea),dS Γs S.N l T3.st=some (S3.st,M)/\(∀p:Nat×SG,p∈l↔(b.flat++V::r2.flat)[p.1]?=some p.2/\b.flat.length<p.1/\fr≠some p.1)/\(l.Pairwise λp q=>p.1<q.1)/\
   ∀(k:Nat) (p:Nat×SG) (e:ea),l[k]?=some p->M[k]?=some e->fs[p.1 - (b.len+1)]?=some e/\(e.d=p.2.d/\e.us=p.2.bw):=by
  by_cases G:∃f,fr=some f/\b.flat.length<f
  .obtain⟨f,hf,G⟩:=G;have e:wJ fr b.len r2=r2.hole (f - (b.len+1)):=by rw[hf];simp only[wJ,qao (show b.len+1<=f by omega)]
   obtain⟨o,ft,s,_⟩:=I f hf;have hflt:=(QL.1 s).1;simp only[QZ,QV]at hflt;rw[e]at m A;rw[yC hΓ X A]at m;have u:(f,lM)∈((r2.flat.set (f - (b.len+1)) lM).zipIdx (b.len+1)).map λp=>(p.2,p.1):=Dk.2 ⟨by simp only;omega,List.getElem?_set_self O⟩
   obtain⟨l1,l2,hsp⟩:=List.append_of_mem u;have hs:=rJ (r2.flat.set (f - (b.len+1)) lM) (b.len+1);have n:∀p:Nat×SG,p∈l1++(f,lM)::l2↔b.len+1<=p.1/\(r2.flat.set (f - (b.len+1)) lM)[p.1 - (b.len+1)]?=some p.2:=λp=>by rw[<-hsp];exact Dk
   have hget:∀{z:Nat} {p:Nat×SG},(l1++(f,lM)::l2)[z]?=some p->p.1=b.len+1+z:=λ{z p} h=>(wS (by rw[hsp];exact h)).1
   rw[hsp]at hs m;have B:=Ja m;have hs':=hs;rw[qaz,qad]at hs;obtain⟨s1,⟨s2,s3⟩,s4⟩:=hs;refine⟨l1++l2,_,B,λp=> ?_,qaz.2 ⟨s1,s3,λp c q N=>s4 p c q (QC _ N)⟩,λk p e c he=>⟨?_,(wV _ _ _ _ B).2 k p.1 p.2 e c he⟩⟩
   .have hne:p∈l1++l2->p.1≠f:=λc=>by
     rcases Qr.1 c with c|c
     .exact qan (s4 p c (f,lM) Qy)
     .exact(qan (s2 p c)).symm
    have hgs':∀{q:Nat×SG},b.len+1<=q.1->q.1≠f->(r2.flat.set (f - (b.len+1)) lM)[q.1 - (b.len+1)]?=(b.flat++V::r2.flat)[q.1]?:=λ{q} s J=>by rw[List.getElem?_set_ne O,<-hgs];congr 1;omega
    refine⟨λc=> ?_,λ⟨s,J,h3⟩=> ?_⟩
    .have v:=(n p).1 (by rcases Qr.1 c with c|c<;>simp[c])
     exact⟨by rw[<-hgs' v.1 (hne c)];exact v.2,O,λe=>hne c (by rw[hf]at e;injection e with e;exact e.symm)⟩
    .have Q:p.1≠f:=λe=>h3 (by rw[hf,e])
     have v:=(n p).2 ⟨O,by rw[hgs' O Q];exact s⟩
     rcases Qr.1 v with h|h
     .exact List.mem_append_left _ h
     .rcases Qk.1 h with h|h
      .exact absurd (QJ Prod.fst h) Q
      .exact List.mem_append_right _ h
   .have v:(l1++(f,lM)::l2)[if k<l1.length then k else k+1]?=some p:=by
     split
     .rename_i hk;rw[List.getElem?_append_left hk]at c ⊢;exact c
     .rename_i hk;rw[List.getElem?_append_right O]at c ⊢;rw[show k+1 - l1.length=(k - l1.length)+1 by omega,List.getElem?_cons_succ]
      exact c
    rw[hget v,qa9,<-he,List.getElem?_eraseIdx];split<;>rfl
  .have hno:∀f,fr=some f->¬b.flat.length<f:=λf hf h=>G ⟨f,hf,h⟩
   have e:wJ fr b.len r2=r2:=by
    cases H:fr with
    |none=>rfl
    |some f=>
     simp only[wJ]
     cases hb:Nat.ble (b.len+1) f with
     |false=>rfl
     |true=>have:=Qm hb;exact absurd O (hno f H)
   rw[e]at m;refine⟨_,fs,m,λp=> ?_,rJ _ _,λk p e c he=> ?_⟩
   .rw[Dk];refine⟨λ⟨s,J⟩=>⟨by rw[<-J,<-hgs];congr 1;omega,O,λe=>hno p.1 e O⟩,λ⟨s,J,_⟩=>⟨O,?_⟩⟩
    rw[<-s,<-hgs];congr 1;omega
   .have s:=(wS c).1;exact⟨by rw[s,qa9];exact he,(wV _ _ _ _ m).2 k p.1 p.2 e c he⟩
 obtain⟨l,M,hrun',n,y,hpos⟩:=key
 have hall:∀(k:Nat) (p:Nat×SG) (e:ea),l[k]?=some p->M[k]?=some e->(b.flat++V::r2.flat)[p.1]?=some p.2/\(e.d=p.2.d/\e.us=p.2.bw)/\(match Ex fo p.1 with|some x=>some x|none=>(match Nat.ble (b.len+1) p.1 with|true=>fs[p.1 - (b.len+1)]?|false=>none))=some e/\p.1<ops.length:=λk p e c he=>by
  obtain⟨s,J,h3⟩:=(n p).1 (QG c);obtain⟨Q,v⟩:=hpos k p e c he;refine⟨s,v,?_,by have:=(QL.1 s).1;simp at this;omega⟩
  rw[hfoN _ h3];simp only[qao (show b.len+1<=p.1 by omega),Q]
 refine⟨Γs,T3,S3,D0++(wJ fr b.len r2).dG,l,M,hΓs,hrel3,hrun',n,y,Fu hun hfa y hall hub,λt ht=>by rw[Qr,Q3];exact⟨hD0 t ht,xn hoffB ht⟩,hfr0.trans hf3 λt ht=>by rw[Qr,Q3]at ht;exact ht,h,λq N=> ?_⟩
 obtain⟨o,ft,s,J,h3,Q⟩:=I q N;refine⟨o,ft,s,h3,Q,λz p e c he hanc=> ?_⟩
 obtain⟨p1,p2,p3,p4⟩:=hall z p e c he;obtain⟨_,v,h6⟩:=(n p).1 (QG c)
 have hgq:(match Ex fo q with|some x=>some x|none=>(match Nat.ble (b.len+1) q with|true=>fs[q - (b.len+1)]?|false=>none))=some ft:=by rw[J];simp only[Ex,qbe]
 rcases Nat.lt_trichotomy q p.1 with G|heq|hgt
 .have u:(q,p.1)∈un:=by rw[hun];exact uh p4 G hanc
  refine Bi Q p2 (hfa _ u _ _ s p1) ?_;have:=Qe.1 hub _ u;simpa only[hgq,p3]using this
 .exact absurd (by rw[N,heq]) h6
 .have u:=hlate q p.1 N (Nat.le_of_lt v) hgt;refine(Bi p2 Q (hfa _ u _ _ p1 s) ?_).symm;have:=Qe.1 hub _ u;simpa only[hgq,p3]using this
def R0{Γ:Z (bS U)}(hΓ:jo P Γ){s Q:RS U}{un:Z (Nat×Nat)}{fr d:Y Nat}{f:FI}{c:Y aM}{xs:Z aM}{n:Nat}{rvs:Z RV}{sc:SC}{F:Z Nat}{W:WS}{ρ:Type}{k:Exit->aw U->Y ρ}{r:ρ}{S:aw U}
  (hfn:dL P f n sc rvs) (hnr:sc.BG=true) (hoff:n5 F (s.dG++d.toList++Q.dG)=true) (lA:s.bJ=true) (ok2:Q.bJ=true) (okx:xs.all aM.bJ=true) (okv:c.all aM.bJ=true) {kk:aw U->Y ρ} (h:Jo K Γ F W (some (un,fr)) s Q S kk=some r)
  (hk:∀S1,kk S1=some r->∃A_s,tL S1 f c xs=some A_s/\uK S1 F W A_s n sc.gq=true/\PN S.N (some (un,fr)) (s.flat++lM::Q.flat) S1 (gm S1 A_s)=true/\VS P n sc (λe A=>∃b,A=b.st/\cW [] W (sq (jR S1 A_s) A_s) b/\(e= .ret\/e= .normal)/\∃v,pf b rvs=some v/\Bq S1 b A_s=true/\AQ K Γ F W (some (un,fr)) s Q S b ((eS S1 b A_s d v).hZ (fC S1 b v)) (λS3=>k .normal S3)=some r) (sq (jR S1 A_s) A_s).st):
  VS P nt (.jr un (s.flat++⟨d,none,jQ f c xs⟩::Q.flat)) (λe A=>∃S',A=S'.st/\cW F W S S'/\k e S'=some r) S.st:=by
 intro c0 hs hc;obtain⟨id,ops,rfl,hgs,hd,hm,hu⟩:=NI hc;intro E hE hkE a w L hrel;obtain⟨hun,hfa,J⟩:=IB hu;have hcan:=GU hE hkE hd;have hgl:s.flat.length+1+Q.flat.length=ops.size:=by have:=lj hgs;simp at this;omega
 have hl1:=RS.mB s;have hl2:=RS.mB Q;have hops:ops.toList.length=s.flat.length+1+Q.flat.length:=o_
 have hoff':∀t∈F,t∉s.dG/\d≠some t:=λt B=>by have:=xn hoff B;simp only[Qr,Q3]at this;exact⟨this.1.1,λe=>this.1.2 (by rw[e];exact qae.2 rfl)⟩
 obtain⟨⟨hord,hnm,hlate⟩,Γs,S1,D1,l0,fs0,hΓs,hrun1,hl0,hs0,hap0,hD1,hf1,h⟩:=Oz hΓ hops hun hfa lA (λt B=>(hoff' t B).1) h
 obtain⟨A_s,has,hchk,u,hvs⟩:=hk S1 h;have hchk':=hchk;simp only[uK,Qa]at hchk';have hlen:=Qm hchk'.1.1.2;have hsets:∀t∈sc.gq,A_s.length<=t:=λt B=>Qm (Qe.1 hchk'.1.2 t B)
 have hgm:(s.flat++⟨d,none,jQ f c xs⟩::Q.flat)[s.flat.length]?=some ⟨d,none,jQ f c xs⟩:=t_;have hmem:∀{i j:Nat},j<ops.size->i<j->gn ops.toList j i=false->(i,j)∈un:=λhj hij h=>by rw[hun];exact uh (by simpa using hj) hij h
 have hN1:S.N+ops.size<=S1.N:=by have:=hf1.N;have e:(S.more (s.len+1+Q.len)).N=S.N+(s.len+1+Q.len):=rfl;omega
 refine wpIn_region_any hm ?_;refine Bn (E:=E) (base:=S.N) (S':=S1.st) hΓs hgs hcan J (λi=>decide (i<s.flat.length)||decide (fr=some i)) (λhall=> ?_) ?_ ops.size (Array.replicate ops.size false) (S.more (s.len+1+Q.len)).st a _ L l0 fs0 (zi _) ((hrel.room _).drew _) (by show _<=S.N+_;omega) ⟨λp=> ?_,hs0.imp λh=>qan h⟩ hrun1 hap0 (by rw[Jr _ _ o_];simp;omega)
 .have:=hall s.flat.length O;rw[Qx,QB,QB]at this;exact absurd this (λh=>h.elim (qaI _) hnm)
 .intro i fuel listed S0 a0 w0 L0 pre fs1 hl hi hTi h0 hN0 hpre D hfu;rw[Q5,qaG,qaG]at hTi;obtain⟨hTi,hTf⟩:=hTi;have hTi:=Nat.le_of_not_lt hTi;obtain⟨hil,hli,_,hanc⟩:=Ck hl J hi;have hlm:∀j,s.flat.length<=j->fr≠some j->j<ops.size->listed.getD j true=false:=λj h1 h3 M=>hl.t j M (by rw[Q5,qaG,qaG];exact⟨qaV.2 h1,h3⟩)
  have him:i=s.flat.length:=by
   rcases qa0 hTi with hlt|he
   .exfalso
    cases hb:gn ops.toList i s.flat.length with
    |true=>have:=hanc _ hb;rw[hlm _ (Ql _) hnm O]at this;cases this
    |false=>exact hTf ((hord _ (hmem hil hlt hb)).1 rfl)
   .exact he.symm
  subst him
  have hpm:∀q∈pre,fr=some q.1/\(s.flat++⟨d,none,jQ f c xs⟩::Q.flat)[q.1]?=some q.2/\((q.1,s.flat.length)∈un\/s.flat.length<q.1):=λq hq=>by
   obtain⟨g1,g2,g3⟩:=(hpre.mem q).1 hq;rw[Qx,QB,QB]at g3;rcases qat q.1 s.flat.length with g5|g5
   .have g4:(q.1,s.flat.length)∈un:=hmem hil g5 (by
     cases hb:gn ops.toList s.flat.length q.1 with
     |true=>have:=hanc _ hb;rw[g2]at this;cases this
     |false=>rfl)
    exact⟨(hord _ g4).2 rfl,g1,.inl g4⟩
   .have g6:=g3.resolve_left (qaV.2 g5);exact⟨g6,g1,.inr (Nat.lt_of_le_of_ne g5 λe=>hnm (by rw[g6,e]))⟩
  have ho:ops[s.flat.length]?=some ops[s.flat.length]:=qab hil;obtain⟨hgu,hds,hcop⟩:=Kb (Li _ _ hgs s.flat.length ops[s.flat.length] _ (by simp) hgm)
  have hcano:=hcan ops[s.flat.length] t_;have hsz:=hl.size
  have tail:∀(b:aw U) (x:KV U) (T':St) (a':Act) (w':Wo) (L':Nat->Va),cW [] W (sq (jR S1 A_s) A_s) b->
    AQ K Γ F W (some (un,fr)) s Q S b ((eS S1 b A_s d x).hZ (fC S1 b x)) (λS3=>k .normal S3)=some r->Rel E T' a' w' L'->T'.N=b.N->
    (pre=[]/\T'=((eS S1 b A_s d x).hZ (fC S1 b x)).st\/∃q g,pre=[(q,g)]/\∀ft T3,P5 P (S.N+q) ((eS S1 b A_s d x).hZ (fC S1 b x)) T3 g ft->∃Γ' p,fe P Γ'/\oy Γ' (S.N+q) T' g=some p/\T'.bm g.d p.1 p.2=T3.st/\ft=py (S.N+q) T' g p)->
    wpAnyIn (WF E.rd) 0 P .any ops (λe a' w'=>∃S' L',Rel E S' a' w' L'/\∃S'',S'=S''.st/\cW F W S S''/\k e S''=some r) fuel (listed.setIfInBounds s.flat.length true) a' w':=by
   intro b x T' a' w' L' hfr X h' hN' hfree;have hS2:=hfr.N;have:(sq (jR S1 A_s) A_s).N=S1.N:=rfl;obtain⟨Γ2,T3,S3,D2,l2,fs2,hΓ2,hrel3,hrun2,hm2,hs2,hap2,hD2,hf3,X,hfo⟩:=Nf hΓ hops hun hfa hnm hlate ok2 X;have fin:∀a' w' L',Rel E S3.st a' w' L'->∃S' L',Rel E S' a' w' L'/\∃S'',S'=S''.st/\cW F W S S''/\k .normal S''=some r:=λa3 w3 L3 h5=>⟨S3.st,L3,h5,S3,rfl,Lb (λt B=>⟨hD1 t B,(hoff' t B).2,hD2 t B⟩) hchk hf1 hfr (k2:=0) hf3,X⟩
   have hset:sD ops (λ_=>true) (listed.setIfInBounds s.flat.length true):=hl.set J hi λj _ B=>by cases B
   have hfu':(ic (s.flat++⟨d,none,jQ f c xs⟩::Q.flat) (listed.setIfInBounds s.flat.length true)).length<=fuel:=by have hin:(s.flat.length,(⟨d,none,jQ f c xs⟩:SG))∈ic (s.flat++⟨d,none,jQ f c xs⟩::Q.flat) listed:=oa.2 ⟨hgm,hli⟩;obtain⟨k1,k2,hk12⟩:=List.append_of_mem hin;rw[Jq O hk12];rw[hk12]at hfu;simp at hfu ⊢;omega
   have hpl:uV (λ_=>true) (s.flat++⟨d,none,jQ f c xs⟩::Q.flat) (listed.setIfInBounds s.flat.length true) (pre++l2):=by
    refine⟨λp=> ?_,qaz.2 ⟨hpre.nd,hs2.imp λh=>qan h,λp hp q hq e=>((hm2 q).1 hq).2.2 (by rw[<-e];exact(hpm p hp).1)⟩⟩
    rw[Qr,hm2,hpre.mem];refine⟨λh=> ?_,λ⟨h1,M,_⟩=> ?_⟩
    .rcases h with⟨h1,M,h3⟩|⟨h1,M,h3⟩
     .have:p.1≠s.flat.length:=λe=>by
       rw[e,Qx,QB,QB]at h3;exact h3.elim (qaI _) hnm
      exact⟨h1,by rw[xF this];exact M,rfl⟩
     .have:p.1<ops.size:=by have:=(QL.1 h1).1;simp at this;omega
      exact⟨h1,by rw[xF O];exact hlm p.1 O h3 this,rfl⟩
    .have hne:p.1≠s.flat.length:=λe=>by rw[e,Is O]at M;cases M
     rw[xF hne]at M;rcases qbz hne with h5|h5
     .exact .inl ⟨h1,M,by simp[h5]⟩
     .by_cases h6:fr=some p.1
      .exact .inl ⟨h1,M,by simp[h6]⟩
      .exact .inr ⟨h1,h5,h6⟩
   rcases hfree with⟨hp0,rfl⟩|⟨q,g,hp1,hst⟩
   .rw[hp0,List.nil_append]at hpl;exact Bn (E:=E) (base:=S.N) (S':=S3.st) hΓ2 hgs hcan J (λ_=>true) (λ_=>fin) (λi fuel listed S a w L l fs _ _ B=>by cases B) fuel _ _ a' w' L' l2 fs2 hset (hrel3.2 _ _ _ _ h') (by have:=hrel3.1;have:T3.st.N=T3.N:=rfl;have:((eS S1 b A_s d x).hZ (fC S1 b x)).N=b.N:=rfl;omega) hpl hrun2 hap2 hfu'
   .obtain⟨hq1,I,hq3⟩:=hpm (q,g) (by rw[hp1];exact Qy)
    simp only at hq1 I hq3;obtain⟨o,ft,ho1,hI,hft,hind⟩:=hfo q hq1;rw[I]at ho1;injection ho1 with ho1
    subst ho1;obtain⟨Γ',p,hΓ',m,happ,rfl⟩:=hst ft T3 hI;rw[hp1,List.singleton_append]at hpl;refine Bn (E:=E) (base:=S.N) (S':=S3.st) (Γs:=λj=>if j=q then Γ' else Γ2 j) (λj=>by show fe P (if j=q then Γ' else Γ2 j);split;exact hΓ';exact hΓ2 j) hgs hcan J (λ_=>true) (λ_=>fin) (λi fuel listed S a w L l fs _ _ B=>by cases B) fuel _ T' a' w' L' ((q,g)::l2) (py (S.N+q) T' g p::fs2) hset h' (by rw[hN'];omega) hpl ?_ ?_ hfu'
    .simp only[dS,Qp,m,happ];rw[wu (Γs':=Γ2),hrun2];intro p' hp';rw[Qf (λe=>((hm2 p').1 hp').2.2 (by rw[e];exact hq1))]
    .intro y z p' q' g' e hyz hp' hq' hg' he hanc'
     cases y with
     |zero=>
      cases z with
      |zero=>omega
      |succ z=>simp only[List.getElem?_cons_zero,List.getElem?_cons_succ,Qb]at hp' hq' hg' he;subst hp' hg';exact hind z q' e hq' he hanc'
     |succ y=>
      cases z with
      |zero=>omega
      |succ z=>exact hap2 y z p' q' g' e O (by simpa using hp') (by simpa using hq') (by simpa using hg') (by simpa using he) hanc'
  unfold wpOpIn;rw[ho];simp only;rw[Eh hgu,Qc rfl];have hvs':=hvs.mono (Q':=λe A=>∃b,A=b.st/\cW [] W (sq (jR S1 A_s) A_s) b/\(e= .ret\/e= .normal)/\∃v,pf b rvs=some v/\Bq S1 b A_s=true/\(λb v=>Bq S1 b A_s=true/\AQ K Γ F W (some (un,fr)) s Q S b ((eS S1 b A_s d v).hZ (fC S1 b v)) (λS3=>k .normal S3)=some r) b v) λe A ⟨b,e1,e2,e3,v,e4,e5,e6⟩=>⟨b,e1,e2,e3,v,e4,e5,e5,e6⟩
  rcases pre with _|⟨⟨q,g⟩,pre'⟩
  .simp[dS,Qb,QY]at D;rw[D.1]at h0;refine Bh K (fd:=none) (fi:=none) hfn hnr okx okv has hlen hsets rfl (λ_ _=>rfl) (λ_ e=>by cases e) (λ_=>rfl) (λ_ e=>by cases e) hvs' h0 hcop hds.symm hcano λb x a' w' L' hfr ⟨hdk,X⟩ h4=> ?_
   rw[St.I7]at h4;exact tail b x _ a' w' L' hfr X h4 rfl (.inl ⟨rfl,rfl⟩)
  .have hp':pre'=[]:=by
    rcases pre' with _|⟨q',pre'⟩
    .rfl
    .have h1:=hpm (q,g) t_;have M:=hpm q' t_;have hnd:=hpre.nd;rw[qad]at hnd;have:=hnd.1 q' t_;rw[h1.1]at M;injection M.1 with M
     exact absurd M this
   subst hp';obtain⟨hq1,I,hq3⟩:=hpm (q,g) Qy;simp only at hq1 I hq3;have hqlt:q<ops.size:=by have:=(QL.1 I).1;simp at this;omega
   simp only[dS]at D;split at D
   .cases D
   rename_i p m;simp only[Qb,QY]at D;have hS1:=D.1
   have hfd:∀t,g.d=some t->t∉(jQ f c xs).bw/\d≠some t:=λt B=>by
    have V:lR g ⟨d,none,jQ f c xs⟩=true\/lR ⟨d,none,jQ f c xs⟩ g=true:=by
     rcases hq3 with h5|h5
     .exact .inl (hfa _ h5 _ _ I hgm)
     .exact .inr (hfa _ (hlate q _ hq1 (Ql _) h5) _ _ hgm I)
    rcases V with V|V
    .simp only[lR,B,SG.bw,Qa,QR,bne_iff_ne,ne_eq,List.nil_append]at V;exact⟨λhm=>(by have h6:=V.1.1;rw[List.contains_iff_mem.2 hm]at h6;cases h6),V.1.2⟩
    .simp only[lR,B,SG.bw,Qa,QR,List.nil_append]at V;refine⟨λhm=>(by have h6:=V.2;rw[List.contains_iff_mem.2 hm]at h6;cases h6),λe=> ?_⟩
     have h6:=V.1;rw[e]at h6;simp at h6
   have hE0:∀t,g.d≠some t->S0.env t=(S1.env t).pv:=λt B=>by rw[<-St.fc g.d p.1 p.2 B,hS1];rfl
   have hN01:S0.N=S1.N:=QJ St.N hS1
   have hfl:(s.flat++lM::Q.flat)[q]?=some g:=by
    rcases qbz (λe:q=s.flat.length=>hnm (by rw[hq1,e]))with h5|h5
    .rw[List.getElem?_append_left h5]at I ⊢;exact I
    .rw[List.getElem?_append_right O,show q - s.flat.length=(q - s.flat.length - 1)+1 by omega,List.getElem?_cons_succ]at I ⊢;exact I
   simp only[PN,hq1,hfl]at u
   by_cases hna:∀z,g.op≠ .alloc z
   .have hp2:p.2=none:=by
     clear tail;simp only[oy,SG.wanted]at m;split at u
     .rename_i G;exact absurd G (hna _)
     .rename_i hgg G;simp only[hgg,G,exec]at m
      repeat' split at m
      all_goals first|cases m|(simp only[Qi]at m;obtain⟨_,_,rfl⟩:=m;rfl)
     .rename_i hgg G;simp only[hgg,G,exec]at m
      repeat' split at m
      all_goals first|(injection m with m;rw[<-m];done)|cases m
     .cases u
    have hHn:∀id,S0.H id=(S1.H id).pv:=λid=>by
     have:=QJ (λN:St=>N.H id) hS1
     rw[hp2]at this;exact this
    refine Bh K (fd:=g.d) (fi:=none) hfn hnr okx okv has hlen hsets hN01 hE0 hfd hHn (λ_ e=>by cases e) hvs' h0 hcop hds.symm hcano λb x a' w' L' hfr ⟨hdk,X⟩ h4=>tail b x _ a' w' L' hfr X h4 rfl (.inr ⟨q,g,rfl,?_⟩)
    rintro ft T3 ⟨dd,hdd,_,hI⟩;rcases hI with⟨⟨z,hz⟩,_⟩|⟨_,hnu,rfl,Γ',hΓ',he,rfl⟩
    .exact absurd hz (hna z)
    .have hev:∀t∈g.bw,(((eS S1 b A_s d x).hZ (fC S1 b x)).st.HW g.d none λid=>(b.H id).ab).env t=((eS S1 b A_s d x).hZ (fC S1 b x)).st.env t:=λt B=>Qf λe=>by rw[hdd]at e;injection e with e;exact hnu (by rw[e];exact B)
     refine⟨Γ',_,hΓ',(C0 hev λ_ _=>rfl).trans he,?_,?_⟩
     .simp only[St.bm,St.HW,hdd,aw.st,St.mk.injEq];refine⟨?_,?_,trivial⟩
      .funext t
       by_cases B:t=dd
       .subst B;rw[bf]
       .rw[bo _ _ B,Qf (λe=>B (by injection e with e;exact e.symm))]
      .funext id
       simp
     .simp only[py,CO hev λ_ _=>rfl]
   .obtain⟨z,G⟩:=Classical.not_forall.1 hna;have G:=qbs.1 G
    have⟨hgg,u⟩:g.g=none/\gm S1 A_s (S.N+q)=true:=by
     rw[G]at u
     cases hgg:g.g with
     |none=>rw[hgg]at u;exact⟨rfl,u⟩
     |some _=>rw[hgg]at u;cases u
    unfold oy at m;have hw:g.wanted S0=some true:=by simp[SG.wanted,hgg]
    rw[hw,G]at m;simp only[exec,Qb]at m;subst m;have hlt0:S.N+q<S0.N:=O
    have h0':=h0.PD (λid=>decide (id=S.N+q)) (λ_=>(S0.H (S.N+q)).ab+1) λid H=>by have:=qa1 H;subst this;exact⟨qas _,λe=>O⟩
    have hHq:(S1.H (S.N+q)).pv=⟨(S0.H (S.N+q)).ab+1,.box z⟩:=by
     have:=QJ (λN:St=>N.H (S.N+q)) hS1
     simp only[St.bm,bf]at this;exact this.symm
    have hvq:(S1.H (S.N+q)).ab=(S0.H (S.N+q)).ab+1:=QJ dq.ab hHq
    have hHn:∀id,id≠S.N+q->S0.H id=(S1.H id).pv:=λid H=>by
     have:=QJ (λN:St=>N.H id) hS1
     simp only[St.bm,bo _ _ H]at this;exact this
    refine Bh K (S0:=S0.kill (λid=>decide (id=S.N+q)) λ_=>(S0.H (S.N+q)).ab+1) (fd:=g.d) (fi:=some (S.N+q)) hfn hnr okx okv has hlen hsets hN01 hE0 hfd (λid=> ?_) (λid e=>by injection e with e;rw[<-e];exact u) hvs' h0' hcop hds.symm hcano λb x a' w' L' hfr ⟨hdk,X⟩ h4=> ?_
    .show(if decide (id=S.N+q)=true then _ else S0.H id)=_
     by_cases H:id=S.N+q
     .subst H;rw[Qc rfl,Qc t_,hvq]
     .rw[Qf (by simpa using H),Qf (λe=>H (by injection e with e;exact e.symm)),hHn id H]
    .refine tail b x _ a' w' L' hfr X h4 rfl (.inr ⟨q,g,rfl,?_⟩);rintro ft T3 ⟨dd,hdd,_,hI⟩;rcases hI with⟨_,rfl,v,off,het,hv,rfl⟩|⟨hno,_⟩
     .have hw':∀N:St,g.wanted N=some true:=λN=>by simp[SG.wanted,hgg]
      have hno:fC S1 b x (S.N+q)=false:=by
       unfold fC
       have:Nat.ble S1.N (S.N+q)=false:=by
        cases hb:Nat.ble S1.N (S.N+q)with
        |false=>rfl
        |true=>have:=Qm hb;omega
       rw[this];rfl
      have hT2:((eS S1 b A_s d x).hZ (fC S1 b x)).H (S.N+q)=S1.H (S.N+q):=by
       show(match fC S1 b x (S.N+q)with|true=>_|false=>(eS S1 b A_s d x).H (S.N+q))=_
       rw[hno];show(match gm S1 A_s (S.N+q)with|true=>S1.H (S.N+q)|false=>b.H (S.N+q))=_
       rw[u]
      have hv2:(b.H (S.N+q)).ab=(S1.H (S.N+q)).ab:=by have:=sz hdk (S.N+q) (Rq u);rw[u,qaH,qbd,Qa]at this;exact Qg this.2
      have hd0:d≠some dd:=(hfd dd hdd).2
      have henv:S1.env dd= .ptr (S.N+q) (S1.H (S.N+q)).ab 0:=by
       have:=QJ (λN:St=>N.env dd) hS1
       simp only[St.bm,hdd,bf]at this;rw[hvq];have h9:(S1.env dd).pv= .ptr (S.N+q) ((S0.H (S.N+q)).ab+1) 0:=this.symm;revert h9
       cases S1.env dd<;>simp only[KV.pv]<;>intro h9<;>first|(injection h9 with h1 M h3;rw[h1,M,h3])|cases h9
      have hoff0:off=0:=by
       have h9:((eS S1 b A_s d x).hZ (fC S1 b x)).env dd=wP S1 dd:=by show(eS S1 b A_s d x).env dd=_;unfold eS;rw[aw.Jm,fc _ _ _ _ hd0]
       rw[h9,wP,henv]at het;split at het
       .injection het with _ _ h3;exact h3.symm
       .cases het
      subst hoff0;refine⟨λ_=>none,(.ptr (S.N+q) ((b.H (S.N+q)).ab+1) 0,some (S.N+q,⟨(b.H (S.N+q)).ab+1,.box z⟩)),IX,?_,?_,?_⟩
      .unfold oy;rw[hw',G];simp only[exec,St.HW,Qc]
      .rw[hv,Jj]
       have hc2:(((eS S1 b A_s d x).hZ (fC S1 b x)).st.H (S.N+q))=⟨(b.H (S.N+q)).ab,.box z⟩:=by show(((eS S1 b A_s d x).hZ (fC S1 b x)).H (S.N+q)).pv=_;rw[hT2,hHq,hv2,hvq]
       simp only[St.bm,St.HW,hdd,St.raise,hc2,St.mk.injEq];refine⟨?_,?_,trivial⟩
       .funext t
        by_cases B:t=dd
        .subst B;rw[bf,bf]
        .rw[bo _ _ B,bo _ _ B,Qf (λe=>B (by injection e with e;exact e.symm))]
       .funext id
        by_cases H:id=S.N+q
        .subst H;rw[bf,bf]
        .rw[bo _ _ H,bo _ _ H,Qf (λe=>H (by injection e with e;exact e.symm))]
      .simp only[py,Ak,hw',G,eK,Qn]
     .exact absurd G (hno z)
 .rw[hl0];refine⟨λ⟨h1,M⟩=>⟨h1,(zi (ops:=ops) λ_=>false).t p.1 (by have:=(QL.1 h1).1;simp at this;omega) rfl,M⟩,λ⟨h1,_,M⟩=>⟨h1,M⟩⟩
def cD{Γ:Z (bS U)}(B:jo P Γ):∀(sa:SA U) {nt:Nat} {ρ:Type} (F:Z Nat) (W:WS) (k:Exit->aw U->Y ρ) (S:aw U) (r:ρ),sa.nG P->gZ K Γ sa F W k S=some r->
  VS P nt sa.erase (λe A=>∃S',A=S'.st/\cW F W S S'/\k e S'=some r) S.st
 | .skip,nt,ρ,F,W,k,S,r,j,h=>RU ⟨S,rfl,cW.refl _ _ _,h⟩
 | .exit id,nt,ρ,F,W,k,S,r,j,h=>R1 ⟨S,rfl,cW.refl _ _ _,h⟩
 | .ret,nt,ρ,F,W,k,S,r,j,h=>Uj ⟨S,rfl,cW.refl _ _ _,h⟩
 | .jq rs,nt,ρ,F,W,k,S,r,j,h=>by
  simp[gZ]at h;split at h
  .rename_i ho;exact RX B j h λS' I H=>⟨S',rfl,(I.toC ho).more,H⟩
  .cases h
 | .jr un rs,nt,ρ,F,W,k,S,r,j,h=>by
  simp only[gZ]at h;split at h
  .rename_i ho;obtain⟨Γs,S',fs,h1,h2,h3,h4⟩:=lf B rs 0 _ _ j h;split at h4
   .rename_i hun;refine Ul h1 (S':=S'.st) ?_ ⟨S',rfl,(h3.toC ho).more,h4⟩;rw[RS.mB];have e:({S.st with N:=S.st.N+rs.len}:St)=(S.more rs.len).st:=rfl
    rw[e,Hg];rw[show S.st.N=S.N from rfl,h2]
    exact Qc hun
   .cases h4
  .cases h
 | .seq x y,nt,ρ,F,W,k,S,r,j,h=>by
  simp[SA.nG]at j;refine Ui ((cD B x F W _ S r j.1 h).mono ?_);rintro e A ⟨S',rfl,I,H⟩
  cases e with
  |normal=>exact(cD B y F W k S' r j.2 H).mono λe A ⟨S'',h1,h2,h3⟩=>⟨S'',h1,I.trans h2,h3⟩
  |exit i|goto l|ret|panic c|outgrown=>exact⟨S',rfl,I,H⟩
 | .join J x y,nt,ρ,F,W,k,S,r,j,h=>by
  simp[SA.nG]at j;simp only[gZ,Jg]at h;split at h
  .rename_i o;unfold aX at h
   have hsub:∀S',cW J.bY (some (S.N,c5 J.items)) S S'->cW F W S S':=by
    intro S' I;simp[nk,Qa,Qe]at o;obtain⟨⟨⟨⟨⟨⟨hnd,hids⟩,hokv⟩,hkeep⟩,hobj⟩,hF⟩,hW⟩:=o;refine⟨λt ht=>I.env t (cJ.1 (hF t ht)),λid Q=>I.H id ?_,I.N⟩
    simp[okW,Q5];refine⟨?_,?_⟩
    .cases W with
     |none=>cases hW
     |some q=>
      let⟨n,l⟩:=q
      simp only at hW;simp[okW,Q5]at Q;have h1:=Qm hW
      cases hb:Nat.ble S.N id with
      |false=>rfl
      |true=>have:=Qm hb;rw[qao (QS h1 this)]at Q;cases Q.1
    .cases hb:cZ id (c5 J.items)with
     |false=>rfl
     |true=>have:=(hids id (cJ.1 hb)).2;rw[Q]at this;cases this
   refine RW (cD B x J.bY _ _ S r j.1 h) ?_ ?_
   .rintro A ⟨S',rfl,I,H⟩;simp only at H;split at H
    .rename_i v hv;exact⟨_,yv o hv I,(cD B y F W k _ r j.2 H).mono λe A ⟨S'',h1,h2,h3⟩=>⟨S'',h1,(EU o v).trans h2,h3⟩⟩
    .cases H
   .rintro e A hne ⟨S',rfl,I,H⟩
    cases e with
    |normal=>exact absurd rfl hne
    |_=>exact⟨S',rfl,hsub S' I,H⟩
  .cases h
 | .cond c x y,nt,ρ,F,W,k,S,r,j,h=>by
  simp[SA.nG]at j;simp[gZ]at h;split at h
  .rename_i b hb;have hv:c.val S.st= .bool b:=by rw[mY j.1.1,hb];rfl
   refine R2 hv ?_
   cases b with
   |true=>exact cD B x F W k S r j.1.2 h
   |false=>exact cD B y F W k S r j.2 h
  .rename_i hb;have hv:c.val S.st= .dP:=by rw[mY j.1.1,hb];rfl
   let⟨h1,h2⟩:=NK h
   exact O7 hv (cD B x F W k S r j.1.2 h1) (cD B y F W k S r j.2 h2)
  .cases h
 | .block id x,nt,ρ,F,W,k,S,r,j,h=>by
  refine O8 ((cD B x F W _ S r j h).mono ?_);rintro e A ⟨S',rfl,I,H⟩
  cases e with
  |exit i=>
   simp only at H;simp[Ap];split at H
   .rename_i hi;rw[Qc (Qg hi)];exact⟨S',rfl,I,H⟩
   .rename_i hi;rw[Qf (qaE hi)];exact⟨S',rfl,I,H⟩
  |normal|goto l|ret|panic c|outgrown=>exact⟨S',rfl,I,H⟩
 | .loop J x,nt,ρ,F,W,k,S,r,j,h=>by
  simp[gZ,Jg]at h;split at h
  .rename_i o;split at h
   .rename_i v0 hv0
    have hsub:∀v S',cW J.bY (some (S.N,c5 J.items)) (unpack K S J v) S'->cW F W S S':=by
     intro v S' I;have G:=EU (K:=K) o v;refine G.trans ?_;simp[nk,Qa,Qe]at o;obtain⟨⟨⟨⟨⟨⟨hnd,hids⟩,hokv⟩,hkeep⟩,hobj⟩,hF⟩,hW⟩:=o;refine⟨λt ht=>I.env t (cJ.1 (hF t ht)),λid Q=>I.H id ?_,I.N⟩
     simp[okW,Q5];refine⟨?_,?_⟩
     .cases W with
      |none=>cases hW
      |some q=>
       let⟨n,l⟩:=q
       simp only at hW;simp[okW,Q5]at Q;have h1:=Qm hW
       cases hb:Nat.ble S.N id with
       |false=>rfl
       |true=>have:=Qm hb;rw[qao (QS h1 this)]at Q;cases Q.1
     .cases hb:cZ id (c5 J.items)with
      |false=>rfl
      |true=>have:=(hids id (cJ.1 hb)).2;rw[Q]at this;cases this
    have hself:∀v S',cW J.bY (some (S.N,c5 J.items)) (unpack K S J v) S'->∀v',pack K S' J.items=some v'->∀(E:En),qm E S.st->∀(a:Act) (w:Wo) (L:Nat->Va),Rel E S'.st a w L->∃L',Rel E (unpack K S J v').st a w L':=by
     intro v S' I v' hv' E hA a w L hrel;have hc:=o;simp[nk,Qa,Qe]at hc;obtain⟨⟨⟨⟨⟨⟨hnd,hids⟩,hokv⟩,hkeep⟩,hobj⟩,hF⟩,hW⟩:=hc;refine⟨L,Rel.meet o hv' (λt ht=>(I.env t ht).trans ?_) (λid Q hni=>(I.H id ?_).trans ?_) (by have:=I.N;rw[unpack,zL,GY]at this;exact this) hA hrel⟩
     .have hns:cZ t (slotsOf J.items)=false:=by simpa using(hkeep t ht).2
      rcases uw (K:=K) (S.base J.bY) J.items v t with⟨⟨i,d⟩,hmem,h1,h2⟩|⟨_,h2⟩
      .exact absurd (yt (eU hmem) h1) (lh hns)
      .rw[show(unpack K S J v).env t=_ from h2,Br,Qc ht]
     .simp[okW,Q5];refine⟨?_,?_⟩
      .cases hb:Nat.ble S.N id with
       |false=>rfl
       |true=>have:=Qm hb;omega
      .cases hb:cZ id (c5 J.items)with
       |false=>rfl
       |true=>exact absurd (cJ.1 hb) hni
     .rcases zM (K:=K) (S.base J.bY) J.items v id hnd with⟨⟨i,d⟩,hmem,h1,h2⟩|⟨_,h2⟩
      .exact absurd (mX (eU hmem) h1) hni
      .rw[show(unpack K S J v).H id=_ from h2,GZ,Qc Q]
    let⟨n,hn⟩:=wy h
    refine Kn (λm A=>∃v,A=(unpack K S J v).st/\jP (λv=>gZ K Γ x J.bY (some (S.N,c5 J.items)) (λe S'=>match e with
     | .normal=>(match pack K S' J.items with|some v=>some (inl v)|none=>none)
     |e=>(k e S').map inr) (unpack K S J v)) m v=some r) n (yv o hv0 (cW.refl _ _ _)) ⟨v0,rfl,hn⟩ ?_
    rintro m A ⟨v,rfl,G⟩
    cases m with
    |zero=>cases G
    |succ m=>
     simp[jP]at G;split at G
     .cases G
     .rename_i r' hs;injection G with G
      subst G;refine(cD B x J.bY _ _ _ _ j hs).mono ?_;rintro e A ⟨S',rfl,I,H⟩
      cases e with
      |normal=>simp only at H;split at H<;>cases H
      |exit i|goto l|ret|panic c|outgrown=>simp only[Qi]at H;obtain⟨q,hq,e⟩:=H;injection e with e;subst e;exact⟨S',rfl,hsub v S' I,hq⟩
     .rename_i v' hs;refine(cD B x J.bY _ _ _ _ j hs).mono ?_;rintro e A ⟨S',rfl,I,H⟩
      cases e with
      |normal=>
       simp only at H;split at H
       .rename_i v1 hv1;injection H with H
        injection H with H
        subst H;exact⟨m,Q7 m,_,hself v S' I v1 hv1,v1,rfl,G⟩
       .cases H
      |exit i|goto l|ret|panic c|outgrown=>simp only[Qi]at H;obtain⟨q,hq,e⟩:=H;cases e
   .cases h
  .cases h
 | .Ej n x,nt,ρ,F,W,k,S,r,j,h=>by
  simp[gZ]at h;have⟨g,hg,h⟩:=(⟨_,rfl,h⟩:∃g,g=_/\I5 g n S=some r);refine Kn (λm A=>∃S1:aw U,A=S1.st/\cW F W S S1/\I5 g m S1=some r) n (λE _ a w L h=>⟨L,h⟩) ⟨S,rfl,cW.refl _ _ _,h⟩ ?_
  rintro m A ⟨S1,rfl,hf1,G⟩
  cases m with
  |zero=>cases G
  |succ m=>
   simp[I5]at G;rw[hg]at G;simp only at G;rw[<-hg]at G;refine(cD B x F W _ S1 r j G).mono ?_;rintro e A ⟨S',rfl,I,H⟩
   cases e with
   |normal=>exact⟨m,Q7 m,S'.st,λE _ a w L h=>⟨L,h⟩,S',rfl,hf1.trans I,H⟩
   |exit i|goto l|ret|panic c|outgrown=>exact⟨S',rfl,hf1.trans I,H⟩
 | .ord J f p0 x y,nt,ρ,F,W,k,S,r,j,h=>by
  simp only[SA.nG]at j;simp[gZ]at h;obtain⟨D,hD⟩:∃D,SC.gq (.rM (.ik (.aQ f [])) [p0] x.erase y.erase)=D:=⟨_,rfl⟩;rw[hD]at h;split at h
  .rename_i nx hit;obtain⟨fN,c,I,hen,hn⟩:=CS B hit;split at h
   .rename_i V;simp only[Qa]at V;obtain⟨⟨hkD,hFD⟩,o⟩:=V
    have hp:cZ p0 J.bY=false:=by
     have hqD:p0∈D:=by rw[<-hD];simp[SC.gq]
     simpa using Qe.1 hkD p0 hqD
    split at h
    .rename_i v0 hv0;have⟨step,hstep,h⟩:=(⟨_,rfl,h⟩:∃step,step=_/\Ho step (λv=>k .normal (unpack K (S.bK D) J v)) nx 12000 0 true v0=some r)
     have hN:(S.bK D).N=S.N:=rfl;refine Uk I hen hn (λi s b A=>∃v,A=(unpack K (S.bK D) J v).st/\Ho step (λv=>k .normal (unpack K (S.bK D) J v)) nx i s b v=some r) 12000 ?_ ?_ ?_ ?_
     .rw[hD,<-tv];exact⟨_,λE hz=>yv o hv0 (cW.refl _ _ _) E (.none hz),v0,rfl,h⟩
     .rintro s A ⟨v,rfl,G⟩;cases G
     .rintro m s A ⟨v,rfl,G⟩;simp only[Ho,qap]at G
      obtain⟨z,hz,X⟩:∃z,step s v=some z/\(match z with| .inr r'=>r'=r| .inl s'=>∃q,nx s=some q/\Ho step (λv=>k .normal (unpack K (S.bK D) J v)) nx m q.1 q.2.1 s'=some r):=by
       split at G
       .cases G
       .rename_i r' hs;injection G with G
        exact⟨_,hs,G⟩
       .rename_i s' hs;simp only[Qd]at G;exact⟨_,hs,G⟩
      clear G;rw[hstep]at hz;simp only at hz
      have hst:({(unpack K (S.bK D) J v).st with env:=bd (unpack K (S.bK D) J v).st.env p0 (.int .i64 s)}:St)=aw.st {(unpack K (S.bK D) J v)with env:=c8 (unpack K (S.bK D) J v).env p0 (.int .i64 s)}:=by
       have henv:bd (unpack K (S.bK D) J v).st.env p0 (.int .i64 s)=λt=>((c8 (unpack K (S.bK D) J v).env p0 (.int .i64 s)) t).pv:=by
        funext t
        simp only[bU];unfold bd;split
        .rfl
        .rfl
       exact QJ (λe=>({(unpack K (S.bK D) J v).st with env:=e}:St)) henv
      rw[hst]
      have hf0:cW J.bY (some (S.N,c5 J.items)) (unpack K (S.bK D) J v) {(unpack K (S.bK D) J v)with env:=c8 (unpack K (S.bK D) J v).env p0 (.int .i64 s)}:=by
       refine⟨λt ht=> ?_,λ_ _=>rfl,Ql _⟩
       simp only[bU];rw[bo _ _ (λe=>by have:=hp;rw[<-e,cJ.2 ht]at this;cases this)]
      refine(cD B x J.bY _ _ _ _ j.1 hz).mono ?_;rintro e A ⟨S1,rfl,hf1,M⟩
      cases e with
      |normal=>
       simp only at M;refine(cD B y J.bY _ _ _ _ j.2 M).mono ?_;rintro e A ⟨S2,rfl,hf2,u⟩;have hf3:cW J.bY (some (S.N,c5 J.items)) (unpack K (S.bK D) J v) (S2.bK D):=((hf0.trans hf1).trans hf2).trans (qB hkD _ _);have hf4:cW F W S (S2.bK D):=(qB hFD W S).trans (AV o v hf3);rw[hD]
       cases e with
       |normal=>
        simp only at u;split at u
        .rename_i v' hv';injection u with u
         subst u;obtain⟨q,hq,X⟩:=X;refine⟨_,?_,q,hq,v',rfl,X⟩;rw[<-tv];exact λE hz=>Im o v hf3 hv' E (.none hz)
        .cases u
       |ret|exit i=>simp only[Qi]at u;obtain⟨q,hq,rfl⟩:=u;simp only at X;subst X;exact⟨S2.bK D,(tv _ _).symm,hf4,hq⟩
       |goto i|panic ch|outgrown=>cases u
      |ret|exit i|goto i|panic ch|outgrown=>cases M
     .rintro m s A ⟨v,rfl,G⟩
      have G:k .normal (unpack K (S.bK D) J v)=some r:=by cases m<;>exact G
      exact⟨_,rfl,(qB hFD W S).trans (AV o v (cW.refl _ _ _)),G⟩
    .cases h
   .cases h
  .cases h
 | .back J f kk nE T tg p0 p1 x y,nt,ρ,F,W,k,S,r,j,h=>by
  simp[SA.nG]at j;simp[gZ]at h;obtain⟨D,hD⟩:∃D,SC.gq (.rM (.tmp tg) [p0,p1] x.erase y.erase)=D:=⟨_,rfl⟩;rw[hD]at h;split at h
  .rename_i V;simp only[Qa]at V;obtain⟨⟨⟨⟨⟨⟨hbk,hsz⟩,hnE⟩,htk⟩,hkD⟩,hFD⟩,o⟩:=V;have hsz:=Qg hsz;have htk:=cJ.1 htk
   have htD:tg∉D:=λG=>by have:=Qe.1 hkD tg G;rw[cJ.2 htk]at this;cases this
   have hp:∀q,q=p0\/q=p1->cZ q J.bY=false:=by
    intro q hq;have hqD:q∈D:=by rw[<-hD];rcases hq with rfl|rfl<;>simp[SC.gq]
    simpa using Qe.1 hkD q hqD
   split at h
   .rename_i f' T' xs' hclo;split at h
    .rename_i hff;have hff:=Qg hff;subst hff;split at h
     .rename_i xs hcast
      let⟨eT,hxs⟩:=ji hcast
      subst eT;simp only at hxs;subst hxs;split at h
      .rename_i v0 hv0
       let⟨hin,hev⟩:=O0 (K:=K) hsz hnE xs
       have⟨step,hstep,h⟩:=(⟨_,rfl,h⟩:∃step,step=_/\oY step (λv=>k .normal (unpack K (S.bK D) J v)) xs.reverse v0=some r)
       have hN:(S.bK D).N=S.N:=rfl;refine R3 (Fj B hbk) hin (by rw[hD];exact htD) (λi A=>∃v,A=(unpack K (S.bK D) J v).st/\oY step (λv=>k .normal (unpack K (S.bK D) J v)) (xs.take i).reverse v=some r) ?_ ?_ ?_ ?_
       .rw[hD,<-tv];refine⟨_,λE hz=>yv o hv0 (cW.refl _ _ _) E (.none hz),v0,rfl,?_⟩
        rw[Qw,qbl];exact h
       .rintro i A ⟨v,rfl,_⟩;show((unpack K (S.bK D) J v).env tg).pv=_;rw[Io o v htk];have:(S.bK D).env tg=S.env tg:=(qB hkD none S).env tg htk;rw[this,hclo];rfl
       .rintro m A e ⟨v,rfl,G⟩ he;rw[Qt,Qi]at he;obtain⟨a,ha,rfl⟩:=he;have hml:m<xs.length:=(QL.1 ha).1;rw[List.take_add_one,ha,Option.toList_some,List.reverse_append]at G;simp only[List.reverse_cons,List.reverse_nil,List.nil_append,List.singleton_append,oY]at G;rw[List.length_reverse,List.length_take,qaB (Nat.le_of_lt hml)]at G
        obtain⟨z,hz,X⟩:∃z,step m a v=some z/\(match z with| .inr r'=>r'=r| .inl s'=>oY step (λv=>k .normal (unpack K (S.bK D) J v)) (xs.take m).reverse s'=some r):=by
         split at G
         .cases G
         .rename_i r' hs;injection G with G
          exact⟨_,hs,G⟩
         .rename_i s' hs;exact⟨_,hs,G⟩
        clear G;rw[hstep]at hz;simp only at hz
        have hst:({(unpack K (S.bK D) J v).st with env:=bd (bd (unpack K (S.bK D) J v).st.env p0 (.int .i64 m)) p1 (uM nE (U.pv _ a))}:St)=aw.st {(unpack K (S.bK D) J v)with env:=c8 (c8 (unpack K (S.bK D) J v).env p0 (.int .i64 m)) p1 (tu K _ a)}:=by
         have henv:bd (bd (unpack K (S.bK D) J v).st.env p0 (.int .i64 m)) p1 (uM nE (U.pv _ a))=λt=>((c8 (c8 (unpack K (S.bK D) J v).env p0 (.int .i64 m)) p1 (tu K _ a)) t).pv:=by
          funext t
          simp only[bU,hev];unfold bd;split
          .rfl
          .split
           .rfl
           .rfl
         exact QJ (λe=>({(unpack K (S.bK D) J v).st with env:=e}:St)) henv
        rw[hst]
        have hf0:cW J.bY (some (S.N,c5 J.items)) (unpack K (S.bK D) J v) {(unpack K (S.bK D) J v)with env:=c8 (c8 (unpack K (S.bK D) J v).env p0 (.int .i64 m)) p1 (tu K _ a)}:=by
         refine⟨λt ht=> ?_,λ_ _=>rfl,Ql _⟩
         simp only[bU];rw[bo _ _ (λe=>by have:=hp t (.inr e);rw[cJ.2 ht]at this;cases this),bo _ _ (λe=>by have:=hp t (.inl e);rw[cJ.2 ht]at this;cases this)]
        refine(cD B x J.bY _ _ _ _ j.1 hz).mono ?_;rintro e A ⟨S1,rfl,hf1,M⟩
        cases e with
        |normal=>
         simp only at M;refine(cD B y J.bY _ _ _ _ j.2 M).mono ?_;rintro e A ⟨S2,rfl,hf2,u⟩;have hf3:cW J.bY (some (S.N,c5 J.items)) (unpack K (S.bK D) J v) (S2.bK D):=((hf0.trans hf1).trans hf2).trans (qB hkD _ _);have hf4:cW F W S (S2.bK D):=(qB hFD W S).trans (AV o v hf3);rw[hD]
         cases e with
         |normal=>
          simp only at u;split at u
          .rename_i v' hv';injection u with u
           subst u;refine⟨_,?_,v',rfl,X⟩;rw[<-tv];exact λE hz=>Im o v hf3 hv' E (.none hz)
          .cases u
         |ret|exit i=>simp[Qi]at u;obtain⟨q,hq,rfl⟩:=u;simp only at X;subst X;exact⟨S2.bK D,(tv _ _).symm,hf4,hq⟩
         |goto i|panic ch|outgrown=>cases u
        |ret|exit i|goto i|panic ch|outgrown=>cases M
       .rintro A ⟨v,rfl,G⟩;simp[List.take_zero,List.reverse_nil,oY]at G;exact⟨_,rfl,(qB hFD W S).trans (AV o v (cW.refl _ _ _)),G⟩
      .cases h
     .cases h
    .cases h
   .cases h
  .cases h
 | .inl dr r1 d f c xs n rvs x r2,nt,ρ,F,W,k,S,r,j,h=>by
  simp only[SA.nG]at j;obtain⟨⟨lA,ok2,okx,okv⟩,hnr,hfn,hokx⟩:=j;simp only[gZ]at h;split at h
  .rename_i hoff;obtain⟨kk,hkk,h⟩:∃kk,kk=_/\Jo K Γ F W dr r1 r2 S kk=some r:=⟨_,rfl,h⟩
   have key:∀S1,kk S1=some r->∃A_s,tL S1 f c xs=some A_s/\uK S1 F W A_s n x.erase.gq=true/\PN S.N dr (r1.flat++lM::r2.flat) S1 (gm S1 A_s)=true/\VS P n x.erase (λe A=>∃S2,A=S2.st/\cW [] W (sq (jR S1 A_s) A_s) S2/\(e= .ret\/e= .normal)/\∃v,pf S2 rvs=some v/\Bq S1 S2 A_s=true/\AQ K Γ F W dr r1 r2 S S2 ((eS S1 S2 A_s d v).hZ (fC S1 S2 v)) (λS3=>k .normal S3)=some r) (sq (jR S1 A_s) A_s).st:=by
    intro S1 M;rw[hkk]at M;simp only[Jg]at M;split at M
    .rename_i A_s has;simp only[GH,Rp,Ro]at M;split at M
     .rename_i o;rw[Qa]at o;refine⟨A_s,has,o.1,o.2,(cD B x _ W _ _ r hokx M).mono ?_⟩;rintro e A ⟨S2,rfl,I,u⟩;have he:e= .ret\/e= .normal:=by cases e<;>first|exact .inl rfl|exact .inr rfl|cases u
      rcases he with rfl|rfl
      all_goals
       simp only at u;split at u
       .rename_i v hv;split at u
        .rename_i hdk;simp only[Re]at u;exact⟨S2,rfl,I,by first|exact .inl rfl|exact .inr rfl,v,hv,hdk,u⟩
        .cases u
       .cases u
     .cases M
    .cases M
   cases dr with
   |none=>exact RZ B hfn hnr hoff lA ok2 okx okv h λS1 M=>let⟨A_s,h1,h2,_,h4⟩:=key S1 M;⟨A_s,h1,h2,h4⟩
   |some q=>exact R0 B (un:=q.1) (fr:=q.2) hfn hnr hoff lA ok2 okx okv h key
  .cases h
 | .ps p x,nt,ρ,F,W,k,S,r,j,h=>by
  simp[gZ]at h;split at h
  .rename_i hW;simp only[Qa]at hW;split at h
   .rename_i S1 hp;refine Lp (λE a w L hr=>Ps.sound K hp hr) ((cD B x F W k S1 r j h).mono λe A ⟨S'',h1,h2,h3⟩=>⟨S'',h1,cW.trans ?_ h2,h3⟩)
    exact(Ps.Tf hp hW.1).toC hW.2
   .cases h
  .cases h
 | .xl p x,nt,ρ,F,W,k,S,r,j,h=>by
  refine RY (cD B x F W _ S r j h) ?_;rintro e A ⟨S',rfl,I,H⟩
  cases e with
  |normal=>
   simp only at H;split at H
   .rename_i hW;simp only[Qa]at hW;split at H
    .rename_i S1 hp;exact⟨S1.st,⟨S1,rfl,I.trans ((Ps.Tf hp hW.1).toC hW.2),H⟩,λE a w L hr=>Ps.sound K hp hr⟩
    .cases H
   .cases H
  |exit i|goto l|ret|panic c|outgrown=>exact⟨_,⟨S',rfl,I,H⟩,λE a w L hr=>⟨L,hr⟩⟩
end
end
section
open Go.RowKit
section
variable{P:Pr}{E:En}{S:St}{a:Act}{w:Wo}{L:Nat->Va}{nt:Nat}
def VS.post{i:SC}{Q Q':Exit->St->Prop}{S:St}(h:VS P nt i Q S)(m:∀e A,Q e A->∃b,(∀(E:En) (a:Act) (w:Wo) (L:Nat->Va),Rel E A a w L->∃g,Rel E b a w g)/\Q' e b):VS P nt i Q' S:=
 λc j o E p n a w L l=>Q2 (h c j o E p n a w L l) λe a' w' ⟨S',g,h1,u⟩=>by
  let⟨b,t,s⟩:=m e S' u
  let⟨d,q⟩:=t E a' w' g h1
  exact⟨b,d,q,s⟩
def Rel.UM(h:Rel E S a w L){id:Nat}{cs:Z PV}(c:id<S.N)(d:(S.H id).c= .box cs):Rel E {S with H:=bd S.H id ⟨(S.H id).ab,.box (cs.map nz)⟩} a w L:=by
 have:=(h.nW (w':=w) c ⟨(S.H id).ab,.box (cs.map nz)⟩ (L id) (.inl ⟨rfl,rfl,by rw[d];rfl⟩) rfl rfl rfl (Ql _) (λ_ _ _=>rfl) (λb _ l=> .inl ⟨by rw[d];rfl,l⟩) (λi j=>by
  let⟨b,g,T,h1,o,n,m⟩:=h.mT c d
  exact⟨b,g,T,h1,o,m,(n.mono i j).nz⟩)).1
 rwa [AD]at this
end
section
variable{U:TU}
variable(K:TK U)
def J5(S:aw U)(ex:Y Nat):(r:jt U)->KV U->Y r.den
 | .one T,x=>ym K S.lk T x
 | .many b,x=>(match x with| .bP xs=>I1 K S.lk b xs|_=>none)
 | .fn a,x=>(match Nat.ble a.depth 9 with|true=>Fq K S ex a x|false=>none)
variable{K}
theorem HJ{S:aw U}{ex:Y Nat}(b:∀id,ex=some id->∀e k T xs,(S.H id).c≠ .row e k T xs){r:jt U}{x:KV U}{v:r.den}(h:J5 K S ex r x=some v):fz S.st.H ex 9 x.pv=nX r v:=by
 cases r with
 |one T=>exact EE b 7 h
 |many d=>
  simp[J5]at h
  grind [KV.pv,KV.bT,fz,nX,J4]
 |fn a=>
  simp[J5]at h;split at h
  .rename_i c;exact Lh b a 9 x v (Qm c) h
  .cases h
variable(K)
def Fw(A_s:Z (KV U)):aw U:=
 {env:=λt=>(A_s[t]?).getD .undef,H:=λ_=>⟨0,.dead⟩,N:=0}
def Pc(pos:Nat)(cs A_s:Z (KV U)):aw U:=
 {env:=λt=>((gP pos [KV.ptr 0 0 0] A_s)[t]?).getD .undef,H:=λid=>(match Nat.beq id 0 with|true=>⟨0,.box cs⟩|false=>⟨0,.dead⟩),N:=1}
def JY{ρ:Type}(ex:Y Nat)(rs:Z RV)(r:jt U)(k:aw U->r.den->Y ρ)(e:Exit)(S:aw U):Y ρ:=
 match e with
 | .ret| .normal=>(match pf S rs with
  |some x=>(match J5 K S ex r x with|some v=>k S v|none=>none)
  |none=>none)
 |_=>none
def wZ(S:aw U):Z RV->Bool
 |[]=>true
 | .tmp _::l=>wZ S l
 | .cell t _::l=>(match S.env t with| .ptr id _ _=> !Nat.beq id 0|_=>false)&&wZ S l
 def JW(Γ:Z (bS U))(sa:SA U)(rs:Z RV)(A_s:Z (cm U))(r:jt U)(a:cI A_s):Y r.den:=
 gZ K Γ sa [] (some (0,[])) (JY K none rs r λ_ v=>some v) (Fw (pP K A_s a))
 def Sj(Γ:Z (bS U))(sa:SA U)(rs:Z RV)(pos:Nat)(R:U.Ty)(A_s:Z (cm U))(r:jt U)(s:U.den R)(a:cI A_s):Y (r.den×U.den R):=
 gZ K Γ sa [] (some (0,[])) (JY K (some 0) rs r λS v=>(match wZ S rs with
  |true=>(match S.nn 0 0 with
   |some cs=>(match K.dec R lN cs with|some s'=>some (v,s')|none=>none)
   |none=>none)
  |false=>none)) (Pc pos (K.dI R s) (pP K A_s a))
 def V8(Γ:Z (bS U))(sa:SA U)(rs:Z RV)(A_s:Z (cm U))(R:U.Ty)(a:cI A_s):Y (U.den R):=
 gZ K Γ sa [] (some (0,[])) (λe S=>(match e with
  | .ret=>(match pf S rs with
   |some (.ptr id ab 0)=>(match S.nn id ab with|some cs=>K.dec R lN cs|none=>none)
   |_=>none)
  |_=>none)) (Fw (pP K A_s a))
variable{K}
variable{P:Pr}{nt:Nat}
def qD:∀(A_s:Z (cm U)) (a:cI A_s),(er A_s a).length=A_s.length
 |[],_=>by rw[er];rfl
 |_::l,a=>by rw[er,QV,qD l a.2,QV]
def DG(A_s:Z (cm U))(a:cI A_s):(Fw (pP K A_s a)).st=cv 0 false [] (er A_s a):=by
 unfold Fw aw.st cv;congr 1
 .funext t
  rw[<-uU K];simp[QQ,QF,Iq,Qt];cases (pP K A_s a)[t]?<;>rfl
def R6(pos:Nat)(R:U.Ty)(s:U.den R)(A_s:Z (cm U))(a:cI A_s):(Pc pos (K.dI R s) (pP K A_s a)).st=cv pos true (U.pv R s) (er A_s a):=by
 unfold Pc aw.st cv;congr 1
 .grind [uU,gP,pP,KV.pv]
 .funext id
  cases id with
  |zero=>simp[qax,Qp,bx.pv,cp.pv,K.lT]
  |succ id=>simp[Nat.beq,bx.pv,cp.pv]
def CZ{ρ:Type}{ex:Y Nat}{rs:Z RV}{r:jt U}{k:aw U->r.den->Y ρ}{e:Exit}{S:aw U}{z:ρ}(h:JY K ex rs r k e S=some z):(e= .ret\/e= .normal)/\∃x v,pf S rs=some x/\J5 K S ex r x=some v/\k S v=some z:=by
 unfold JY at h
 grind
def CR{f:FI}{Γ:Z (bS U)}{sa:SA U}{rs:Z RV}{A_s:Z (cm U)}{r:jt U}(l:dL P f nt sa.erase rs)(h:sa.nG P)(c:A_s.length<=nt)(g:jo P Γ){F:cI A_s->Y r.den}(hF:∀a,JW K Γ sa rs A_s r a=F a):bS.Sound P (.fn f A_s r F):=by
 refine⟨l.enters,λa v j=> ?_⟩
 rw[<-hF a]at j;refine l.GP (by simpa[qD]using c) ?_
 rw[<-DG (K:=K)];refine(cD g sa [] _ _ _ _ h j).mono ?_;rintro e A ⟨S',rfl,_,hk⟩
 let⟨he,x,v',h1,n,i⟩:=CZ hk
 injection i with i
 subst i
 have b:ue rs false (λm d=>m=nX r v'/\(false=true->d=[])) S'.st:=by
  unfold ue;rw[wW h1]
  grind [HJ]
 rcases he with rfl|rfl<;>exact b
 def Tk(K:TK U)(Γ:Z (bS U))(sa:SA U)(rs:Z RV)(A_s:Z (cm U))(r:jt U)(a:cI A_s):Y r.den:=
 gZ K Γ sa [] (some (0,[])) (JY K none rs r λ_ v=>some v) ((Fw (pP K A_s a)).more 1)
def Mx{f:FI}{Γ:Z (bS U)}{sa:SA U}{rs:Z RV}{A_s:Z (cm U)}{r:jt U}(m:dL P f nt sa.erase rs)(i:sa.nG P)(c:A_s.length<=nt)(g:jo P Γ){F:cI A_s->Y r.den}(hF:∀a,Tk K Γ sa rs A_s r a=F a):bS.Sound P (.fn f A_s r F):=by
 refine⟨m.enters,λa v l=> ?_⟩
 rw[<-hF a]at l;refine m.GP (by simpa[qD]using c) ?_
 rw[<-DG (K:=K)];refine(Lp (S':=((Fw (pP K A_s a)).more 1).st) (λE a w L h=>⟨L,h.room 1⟩) (cD g sa [] _ _ _ _ i l)).mono ?_
 rintro e A ⟨S',rfl,_,hk⟩
 let⟨he,x,v',h1,o,j⟩:=CZ hk
 injection j with j
 subst j
 have b:ue rs false (λn d=>n=nX r v'/\(false=true->d=[])) S'.st:=by
  unfold ue;rw[wW h1]
  grind [HJ]
 rcases he with rfl|rfl<;>exact b
def Nl{S:aw U}{id ab:Nat}{cs:Z (KV U)}(c:S.nn id ab=some cs){R:U.Ty}{s:U.den R}(b:K.dec R lN cs=some s)(d:id<S.N):(∀(E:En) (a:Act) (w:Wo) (L:Nat->Va),Rel E S.st a w L->∃i,Rel E {S.st with H:=bd S.st.H id ⟨ab,.box (U.pv R s)⟩} a w i):=by
 intro E a w L h
 let⟨h1,g⟩:=pN c
 have:=h.UM d g;rw[h1,(oz (K.iP _ _ _ _ b)).1]at this;exact⟨L,this⟩
def JP(K:TK U)(R:U.Ty)(s:U.den R):(U.pv R s).all PV.closed=true:=Qe.2 λy b=>ei (K.ep R s y b)
def M9{f:FI}{Γ:Z (bS U)}{sa:SA U}{rs:Z RV}{pos:Nat}{R:U.Ty}{A_s:Z (cm U)}{r:jt U}(J:dL P f nt sa.erase rs)(p:sa.nG P)(i:1+A_s.length<=nt)(o:jo P Γ)
  {F:U.den R->cI A_s->Y (r.den×U.den R)} (hF:∀s a,Sj K Γ sa rs pos R A_s r s a=F s a):bS.Sound P (.rc f pos R A_s r F):=by
 refine⟨J.enters,λs a v s' D=> ?_⟩
 rw[<-hF s a]at D;refine J.GP (by simpa[qD]using i) ?_
 rw[<-R6 (K:=K)];refine(cD o sa [] _ _ _ _ p D).post ?_;rintro e A ⟨S',rfl,u,hk⟩;obtain⟨he,x,v',h1,h2,g⟩:=CZ hk;split at g
 case h_2=>cases g
 rename_i W;split at g
 .rename_i cs M;split at g
  .rename_i b hd;injection g with g
   injection g with h4 h5
   subst h4 h5;have hN:0<S'.N:=QH (show 0<1 from Nat.one_pos) u.N
   refine⟨_,Nl M hd hN,?_⟩;have h6:=wW h1
   have G:∀rs:Z RV,wZ S' rs=true->qo {S'.st with H:=bd S'.st.H 0 ⟨0,.box (U.pv R b)⟩} rs=qo S'.st rs:=by
    intro rs d
    induction rs with
    |nil=>rfl
    |cons q rs m=>
     cases q with
     |tmp t=>simp only[wZ]at d;simp only[qo,xe,m d]
     |cell t n=>
      simp only[wZ,Qa]at d;have B:=d.1;split at B
      .rename_i id ab l ht;have V:id≠0:=by intro e;subst e;simp at B
       grind [aw.st,KV.pv,qo,xe,bo]
      .cases B
   have h:ue rs true (λN j=>N=nX r v'/\(true=true->j=U.pv R b)) {S'.st with H:=bd S'.st.H 0 ⟨0,.box (U.pv R b)⟩}:=by
    unfold ue
    have h7:nF {S'.st with H:=bd S'.st.H 0 ⟨0,.box (U.pv R b)⟩} rs=some x.pv:=by grind [nF]
    rw[h7];simp only[bf];refine⟨JP K R b,?_,t_⟩;have z:=(uR M).2;rw[<-HJ (K:=K) (S:=S') (ex:=some 0) (λid c=>by injection c with c;subst c;intro e k T xs I;rw[z]at I;cases I) h2]
    have Q:∀(n:Nat) (y:PV),fz (bd S'.st.H 0 ⟨0,.box (U.pv R b)⟩) (some 0) n y=fz S'.st.H (some 0) n y:=by
     intro n
     induction n with
     |zero=>intro y;simp only[fz]
     |succ n m=>
      intro y;have hu:∀id,¬(some id=some 0)->bd S'.st.H 0 ⟨0,.box (U.pv R b)⟩ id=S'.st.H id:=λid c=>bo _ _ (λe=>c (by rw[e]))
      have X:fz (bd S'.st.H 0 ⟨0,.box (U.pv R b)⟩) (some 0) n=fz S'.st.H (some 0) n:=funext m
      cases y with
      |own id ab|ptr id ab l=>grind [fz]
      |agg cs|bP cs|aQ f cs=>simp only[fz,X]
      |_=>simp only[fz]
    exact Q 9 x.pv
   rcases he with rfl|rfl<;>exact h
  .cases g
 .cases g
def No{f:FI}{Γ:Z (bS U)}{sa:SA U}{t:Nat}{A_s:Z (cm U)}{R:U.Ty}(m:dL P f nt sa.erase [.tmp t])(i:sa.nG P)(g:A_s.length<=nt)(h:jo P Γ){F:cI A_s->Y (U.den R)}(hF:∀a,V8 K Γ sa [.tmp t] A_s R a=F a):bS.Sound P (.nw f A_s R F):=by
 refine⟨m.enters,λa s l=> ?_⟩
 rw[<-hF a]at l;refine m.Xk (by simpa[qD]using g) ?_
 rw[<-DG (K:=K)];intro c q v E y j a' w L u;refine Q2 (cD h sa [] _ _ _ _ i l c q v E y j a' w L u) ?_;rintro e a2 w2 ⟨A,o,b,S',rfl,_,hk⟩;split at hk
 .split at hk
  .rename_i id ab p;split at hk
   .rename_i cs n
    have d:S'.st.env t= .ptr id ab 0:=by have:=wW p;simpa[nF,qo,xe,KV.pv]using this
    have x:id<S'.N:=by have:=b.env t;rw[d]at this;exact(this.lL (show(S'.st.gh o).V id=ab from(pN n).1)).1
    let⟨D,B⟩:=Nl n hk x E a2 w2 o b
    refine⟨_,D,B,?_⟩
    have z:nF {S'.st with H:=bd S'.st.H id ⟨ab,.box (U.pv R s)⟩} [.tmp t]=some (.ptr id ab 0):=by simp[nF,qo,xe];rw[d]
    simp only[Jv];rw[z];simp only[bf,Qp];exact⟨JP K R s,trivial⟩
   .cases hk
  .cases hk
 .cases hk
def Pb(e k:Nat)(T:U.Ty)(xs:Z (U.den T))(A_s:Z (KV U)):aw U:=
 {env:=λt=>(((KV.own 0 0)::A_s)[t]?).getD .undef,H:=λid=>(match Nat.beq id 0 with|true=>⟨0,.row e k T xs⟩|false=>⟨0,.dead⟩),N:=1}
def R5(e k:Nat)(T:U.Ty)(xs:Z (U.den T))(A_s:Z (cm U))(a:cI A_s):(Pb e k T xs (pP K A_s a)).st=nr e k (xs.map (U.pv T)) (er A_s a):=by
 unfold Pb aw.st nr;congr 1
 .funext t
  rw[<-uU K]
  cases t with
  |zero=>rfl
  |succ t=>simp[List.getElem?_cons_succ,Qt];cases (pP K A_s a)[t]?<;>rfl
 .funext id
  cases id with
  |zero=>simp[bx.pv,cp.pv]
  |succ id=>simp[Nat.beq,bx.pv,cp.pv]
variable(K)
def rowAt(S:aw U)(id ab e k:Nat)(T:U.Ty):Y (Z (U.den T)):=
 match S.row? id ab with
 |some r=>(match Nat.beq r.e e&&Nat.beq r.k k with|true=>uo r.T T r.xs|false=>none)
 |none=>none
def LA{S:aw U}{id ab e k:Nat}{T:U.Ty}{xs:Z (U.den T)}(h:rowAt S id ab e k T=some xs):(S.H id).ab=ab/\(S.H id).c= .row e k T xs:=by
 unfold rowAt at h;split at h
 .rename_i r i
  let⟨h1,c⟩:=yn i
  split at h
  .rename_i b;rw[Qa]at b;obtain⟨d,rfl⟩:=ji h
   let⟨j,rk,l,g⟩:=r
   simp only at d c b;subst d;exact⟨h1,by rw[c,Qg b.1,Qg b.2]⟩
  .cases h
 .cases h
def ME{ρ:Type}(rs:Z RV)(e k:Nat)(T:U.Ty)(j:Z (U.den T)->Y ρ)(c:Exit)(S:aw U):Y ρ:=
 match c with
 | .ret| .normal=>(match pf S rs with
  |some (.own id ab)=>(match rowAt S id ab e k T with|some b=>j b|none=>none)
  |_=>none)
 |_=>none
 def Wc(Γ:Z (bS U))(sa:SA U)(rs:Z RV)(e k:Nat)(T:U.Ty)(A_s:Z (cm U))(xs:Z (U.den T))(a:cI A_s):Y (Z (U.den T)):=
 gZ K Γ sa [] (some (0,[])) (ME rs e k T λb=>some b) (Pb e k T xs (pP K A_s a))
 def Wa(Γ:Z (bS U))(sa:SA U)(rs:Z RV)(A_s:Z (cm U))(e k:Nat)(T:U.Ty)(a:cI A_s):Y (Z (U.den T)):=
 gZ K Γ sa [] (some (0,[])) (ME rs e k T λb=>some b) (Fw (pP K A_s a))
variable{K}
def Iy{ρ:Type}{rs:Z RV}{e k:Nat}{T:U.Ty}{j:Z (U.den T)->Y ρ}{g:Exit}{S:aw U}{z:ρ}(h:ME rs e k T j g S=some z):
  (g= .ret\/g= .normal)/\∃id ab b,pf S rs=some (.own id ab)/\(S.H id).ab=ab/\(S.H id).c= .row e k T b/\j b=some z:=by
 have go:(match pf S rs with
  |some (.own id ab)=>(match rowAt S id ab e k T with|some b=>j b|none=>none)
  |_=>none)=some z->∃id ab b,pf S rs=some (.own id ab)/\(S.H id).ab=ab/\(S.H id).c= .row e k T b/\j b=some z:=by
  intro c;split at c
  .rename_i id ab i;split at c
   .rename_i b d
    let⟨h1,l⟩:=LA d
    exact⟨id,ab,b,i,h1,l,c⟩
   .cases c
  .cases c
 unfold ME at h
 grind
def JZ{rs:Z RV}{e k:Nat}{T:U.Ty}{S':aw U}{id ab:Nat}{c:Z (U.den T)}(h:pf S' rs=some (.own id ab))(g:(S'.H id).ab=ab)(d:(S'.H id).c= .row e k T c)(K:TK U):zb rs e k (λb=>b=c.map (U.pv T)) .ret S'.st:=by
 simp only[zb];rw[wW h];simp[KV.pv];refine⟨g,?_⟩;have:(S'.st.H id).c= .row e k (c.map (U.pv T)):=by simp[aw.st,bx.pv,d,cp.pv]
 rw[this];exact⟨rfl,rfl,tC K T c,rfl⟩
def NF{f:FI}{Γ:Z (bS U)}{sa:SA U}{rs:Z RV}{e k:Nat}{T:U.Ty}{A_s:Z (cm U)}(j:dL P f nt sa.erase rs)(g:sa.nG P)(c:1+A_s.length<=nt)(d:jo P Γ)
  {F:Z (U.den T)->cI A_s->Y (Z (U.den T))} (hF:∀xs a,Wc K Γ sa rs e k T A_s xs a=F xs a):bS.Sound P (.cw f e k T A_s F):=by
 refine⟨j.enters,λxs a o i=> ?_⟩
 rw[<-hF xs a]at i;refine j.Xm (by simpa[qD]using c) ?_
 rw[<-R5 (K:=K)];refine(cD d sa [] _ _ _ _ g i).mono ?_;rintro p A ⟨S',rfl,_,hk⟩
 let⟨he,id,ab,l,h1,n,m,h⟩:=Iy hk
 injection h with h
 subst h;have b:=JZ h1 n m K;rcases he with rfl|rfl<;>exact b
def Nx{f:FI}{Γ:Z (bS U)}{sa:SA U}{rs:Z RV}{e k:Nat}{T:U.Ty}{A_s:Z (cm U)}(j:dL P f nt sa.erase rs)(g:sa.nG P)(c:A_s.length<=nt)(d:jo P Γ)
  {F:cI A_s->Y (Z (U.den T))} (hF:∀a,Wa K Γ sa rs A_s e k T a=F a):bS.Sound P (.fw f A_s e k T F):=by
 refine⟨j.enters,λa o i=> ?_⟩
 rw[<-hF a]at i;refine j.Xl (by simpa[qD]using c) ?_
 rw[<-DG (K:=K)];refine(cD d sa [] _ _ _ _ g i).mono ?_;rintro p A ⟨S',rfl,_,hk⟩
 let⟨he,id,ab,l,h1,n,m,h⟩:=Iy hk
 injection h with h
 subst h;have b:=JZ h1 n m K;rcases he with rfl|rfl<;>exact b
end
end
section
def op{U:TU}(d:Nat)(x:bV)(r:RS U):RS U:= .op ⟨some d,none,x⟩ r
def ops{U:TU}(x:bV)(r:RS U):RS U:= .op ⟨none,none,x⟩ r
def tm(t:Nat):aM:= .tmp t
def ld{U:TU}(d t:Nat)(r:RS U):RS U:=op d (.load none (tm t)) r
def cl{U:TU}(d f:Nat)(l:Z Nat)(r:RS U):RS U:=op d (.call f (l.map tm)) r
def aC(k:IntKind)(a b:Int):Int:=k.wrap (a+b)
def iH(k:IntKind)(a b:Int):Int:=k.wrap (a - b)
def xr(k:IntKind)(a b:Int):Int:=k.wrap (a*b)
def Xc(k:IntKind)(a b:Int):Int:=k.wrap (a.tdiv b)
def LD(_:IntKind)(a b:Int):Int:=a.tmod b
def MO(k:IntKind)(a b:Int):Int:=k.wrap ((BitVec.ofInt k.bits a&&&BitVec.ofInt k.bits b).toNat)
def vB(k:IntKind)(a b:Int):Int:=k.wrap ((BitVec.ofInt k.bits a|||BitVec.ofInt k.bits b).toNat)
def fS(k:IntKind)(a b:Int):Int:=k.wrap ((BitVec.ofInt k.bits a^^^BitVec.ofInt k.bits b).toNat)
def Ln(k:IntKind)(a b:Int):Int:=k.wrap ((BitVec.ofInt k.bits a&&& ~~~ BitVec.ofInt k.bits b).toNat)
def dJ(k:IntKind)(a b:Int):Int:=k.wrap (a*2 ^ (min b.toNat k.bits))
def iI(k:IntKind)(a b:Int):Int:=a.fdiv (2 ^ (min b.toNat k.bits))
def bB(k:IntKind)(n:Int):Int:=k.wrap n
def rY(a b:Int):Int:=if b<a then b else a
def Cq(a b:Int):Int:=if b>a then b else a
def ox(neg:Bool)(a b:Int)(s t:C):Bool:=xor neg (decide (a=b)&&decide (s=t))
def gO{A R:Type}(B:(A->Y R)->A->Y R):Nat->A->Y R
 |0,_=>none
 |n+1,a=>B (gO B n) a
section
variable{U:TU}
inductive RN (U:TU) where
 |ps (p:Ps U)
 |nD (t:Nat)
def NY(t:Nat):Z SG->Y (Z SG×SG×Z SG)
 |[]=>none
 |o::r=>(match o.op with
  | .pick (.tmp d) _ _=>(match Nat.beq t d with
   |true=>some ([],o,r)
   |false=>(match NY t r with|some (b,q,c)=>some (o::b,q,c)|none=>none))
  |_=>(match NY t r with|some (b,q,c)=>some (o::b,q,c)|none=>none))
def before(n:Nat):Z (Nat×RN U)->Z (Nat×RN U)
 |[]=>[]
 |(j,x)::l=>(match Nat.ble n j with|true=>[]|false=>(j,x)::before n l)
def after(n:Nat):Z (Nat×RN U)->Z (Nat×RN U)
 |[]=>[]
 |(j,x)::l=>(match Nat.ble n j with|true=>(j,x)::l|false=>after n l)
def qp(jr:Bool):Nat->Z Nat->Nat->Z SG->Z (Nat×RN U)->RS U
 |0,_,_,_,_=> .nil
 |f+1,d,i,[],g=>(match g with
  |(_,.ps p)::c=> .ps p (qp jr f d i [] c)
  |(_,.nD t)::c=> .nD t (qp jr f (t::d) i [] c)
  |_=> .nil)
 |f+1,d,i,o::r,g=>(match(match g with|(j,_)::_=>Nat.beq j i|[]=>false)with
  |true=>(match g with
   |(_,.ps p)::c=> .ps p (qp jr f d i (o::r) c)
   |(_,.nD t)::c=> .nD t (qp jr f (t::d) i (o::r) c)
   |[]=> .nil)
  |false=>(match o.g with
   |none=> .op o (qp jr f d (Nat.succ i) r g)
   |some (t,w)=>(match cZ t d with
    |true=> .op o (qp jr f d (Nat.succ i) r g)
    |false=>(match jr with
     |true=> .nD t (qp jr f (t::d) i (o::r) g)
     |false=>(match NY t (o::r)with
      |some (b,q,h)=>(match q.op with
       | .pick _ x y=> .ite t w (qp jr f (t::d) i b (before (Nat.add i b.length) g)) (q.d.getD 0) q.g x y (qp jr f d (Nat.succ (Nat.add i b.length)) h (after (Nat.add i b.length) g))
       |_=> .nil)
      |none=> .nil)))))
inductive NT (U:TU) where
 |e
 |l (x:NT U)
 |r (x:NT U)
 |b (x y:NT U)
 |ps (p:Ps U) (x:NT U)
 |xl (p:Ps U) (x:NT U)
 |j (J:JS U) (x:NT U)
 |u (n:Nat) (x:NT U)
 |k (J:JS U) (f k:Nat) (nE:Option Nat) (T:U.Ty) (x:NT U)
 |o (J:JS U) (f:Nat) (x:NT U)
 |i (n:Nat) (f:FuncId) (nt:Nat) (rvs:List RV) (x:SA U) (ns ms:List (Nat×RN U))
 |g (ns:List (Nat×RN U))
def NT.lt:NT U->NT U
 | .l x| .b x _=>x
 | .j _ x| .k _ _ _ _ _ x| .o _ _ x| .ps _ x| .xl _ x=>x.lt
 |_=> .e
def NT.rt:NT U->NT U
 | .r x| .b _ x=>x
 | .j _ x| .k _ _ _ _ _ x| .o _ _ x| .ps _ x| .xl _ x=>x.rt
 |_=> .e
def NT.wrap:NT U->SA U->SA U
 | .ps p x,s=> .ps p (x.wrap s)
 | .xl p x,s=> .xl p (x.wrap s)
 |_,s=>s
def NT.core:NT U->NT U
 | .ps _ x| .xl _ x=>x.core
 |x=>x
def SY(un:Y (Z (Nat×Nat)))(ops:Z SG)(t:NT U):SA U:=
 let go:=λb=>(match un with|none=>SA.jq (qp false 4000 [] 0 ops b)|some u=> .jr u (qp true 4000 [] 0 ops b))
 match t with
 | .g b=>go b
 | .i n f nt c x b d=>
  let g:=un.map λu=>(u,(u.find? λp=>Nat.beq p.1 n||Nat.beq p.2 n).map λp=>bif Nat.beq p.1 n then p.2 else p.1)
  (match ops.drop n with
  |o::r=>(match o.op with
   | .call _ xs=> .inl g (qp un.isSome 4000 [] 0 (ops.take n) b) o.d f none xs nt c x (qp un.isSome 4000 [] 0 r d)
   | .jS h xs=> .inl g (qp un.isSome 4000 [] 0 (ops.take n) b) o.d f (some h) xs nt c x (qp un.isSome 4000 [] 0 r d)
   |_=> .skip)
  |[]=> .skip)
 |_=>go []
def bc:SC->NT U->SA U
 | .skip,t=>t.wrap .skip
 | .jq ops,t=>t.wrap (SY none ops t.core)
 | .jr un ops,t=>t.wrap (SY (some un) ops t.core)
 | .seq x y,t=>t.wrap (match t.core with
  | .j J u=> .join J (bc x u.lt) (bc y u.rt)
  |u=> .seq (bc x u.lt) (bc y u.rt))
 | .cond c x y,t=>t.wrap (.cond c (bc x t.lt) (bc y t.rt))
 | .block id x,t=>t.wrap (.block id (bc x t.lt))
 | .loop x,t=>t.wrap (match t.core with
  | .j J u=> .loop J (bc x u.lt)
  | .u n t=> .Ej n (bc x t.lt)
  |_=> .loop ⟨[],[]⟩ (bc x t.lt))
 | .rM g ps x y,t=>t.wrap (match t.core with
  | .k J f k d T u=>(match g with
   | .tmp b=> .back J f k d T b (ps.headD 0) (ps.tail.headD 0) (bc x u.lt) (bc y u.rt)
   |_=> .skip)
  | .o J f u=> .ord J f (ps.headD 0) (bc x u.lt) (bc y u.rt)
  |_=> .skip)
 | .exit id,t=>t.wrap (.exit id)
 | .ret,t=>t.wrap .ret
def aT(P:Pr)(nt:Nat)(b:Z Nat)(fn:Func):SC:=(fn.body.bind (ax P nt b)).getD .skip
end
section
variable{U:TU}{P:Pr}
structure KS (U:TU) (P:Program) where
 k:bS U
 s:k.Sound P
def KS.ks:Z (KS U P)->Z (bS U)
 |[]=>[]
 |x::l=>x.k::KS.ks l
def KS.all:∀l:Z (KS U P),jo P (KS.ks l)
 |[]=>trivial
 |x::l=>⟨x.s,KS.all l⟩
variable{K:TK U}{f:FI}{A_s:Z (cm U)}{r:jt U}{e k:Nat}{T R:U.Ty}
def fk{f nt:Nat}{c:SC}{rs:Z RV}(fn:Func)(b:Z Nat)(d:P.funcs[f]?=some fn)(j:fn.ntmps=nt:=by rfl)(i:(fn.body.bind (ax P nt b))=some c:=by kernel_rfl)(h:gN P fn.results.toList=some rs:=by kernel_rfl)(g:(fn.name== "runtime.NumGoroutine")=false:=by kernel_rfl):dL P f nt c rs:=⟨fn,b,d,j,i,h,g⟩
def NA(sa:SA U)(nt:Nat)(rs:Z RV)(G:Z (KS U P))(d:dL P f nt sa.erase rs)(c:sa.bJ=true:=by kernel_rfl)(b:A_s.length<=nt:=by decide){F:cI A_s->Y r.den}(hF:JW K (KS.ks G) sa rs A_s r=F:=by kernel_rfl):bS.Sound P (.fn f A_s r F):=
 CR d (gd c) b (KS.all G) λa=>Q6 hF a
def Fk(sa:SA U)(nt:Nat)(rs:Z RV)(G:Z (KS U P))(l:Z (FI×Nat×SC×Z RV))(hi:o2 P l)(g:dL P f nt sa.erase rs)(c:sa.rU=true:=by kernel_rfl)(d:sa.HE=l:=by kernel_rfl)(b:A_s.length<=nt:=by decide){F:cI A_s->Y r.den}(hF:Tk K (KS.ks G) sa rs A_s r=F:=by kernel_rfl):bS.Sound P (.fn f A_s r F):=
 Mx g (tB c (by rw[d];exact hi)) b (KS.all G) λa=>Q6 hF a
def Xr{pos:Nat}(sa:SA U)(nt:Nat)(rs:Z RV)(G:Z (KS U P))(d:dL P f nt sa.erase rs)(c:sa.bJ=true:=by kernel_rfl)(b:1+A_s.length<=nt:=by decide){F:U.den R->cI A_s->Y (r.den×U.den R)}(hF:Sj K (KS.ks G) sa rs pos R A_s r=F:=by kernel_rfl):bS.Sound P (.rc f pos R A_s r F):=
 M9 d (gd c) b (KS.all G) λs a=>Q6 (Q6 hF s) a
def Xq{pos:Nat}{F:U.den R->cI A_s->Y (r.den×U.den R)}(h:bS.Sound P (.rc f pos R A_s r F))(c:∀s a q,F s a=some q->q.2=s):bS.Sound P (.ro f pos R A_s r F):=
 ⟨h.1,λs a v s' b=>⟨c s a _ b,h.2 s a v s' b⟩⟩
def Xt(sa:SA U)(nt t:Nat)(G:Z (KS U P))(d:dL P f nt sa.erase [.tmp t])(c:sa.bJ=true:=by kernel_rfl)(b:A_s.length<=nt:=by decide){F:cI A_s->Y (U.den R)}(hF:V8 K (KS.ks G) sa [.tmp t] A_s R=F:=by kernel_rfl):bS.Sound P (.nw f A_s R F):=
 No d (gd c) b (KS.all G) λa=>Q6 hF a
def J8(sa:SA U)(nt:Nat)(rs:Z RV)(G:Z (KS U P))(d:dL P f nt sa.erase rs)(c:sa.bJ=true:=by kernel_rfl)(b:1+A_s.length<=nt:=by decide){F:Z (U.den T)->cI A_s->Y (Z (U.den T))}(hF:Wc K (KS.ks G) sa rs e k T A_s=F:=by kernel_rfl):bS.Sound P (.cw f e k T A_s F):=
 NF d (gd c) b (KS.all G) λs a=>Q6 (Q6 hF s) a
def CQ(sa:SA U)(nt:Nat)(rs:Z RV)(G:Z (KS U P))(d:dL P f nt sa.erase rs)(c:sa.bJ=true:=by kernel_rfl)(b:A_s.length<=nt:=by decide){F:cI A_s->Y (Z (U.den T))}(hF:Wa K (KS.ks G) sa rs A_s e k T=F:=by kernel_rfl):bS.Sound P (.fw f A_s e k T F):=
 Nx d (gd c) b (KS.all G) λa=>Q6 hF a
def Wb(sa:SA U)(nt:Nat)(rs:Z RV)(G:Z (KS U P))(d:dL P f nt sa.erase rs)(c:sa.bJ=true:=by kernel_rfl)(b:A_s.length<=nt:=by decide){B:(cI A_s->Y r.den)->cI A_s->Y r.den}(i:(λg=>JW K (.fn f A_s r g::KS.ks G) sa rs A_s r)=B):∀n,bS.Sound P (.fn f A_s r (gO B n))
 |0=>⟨d.enters,λa r h=>by cases h⟩
 |n+1=>CR (K:=K) (Γ:= .fn f A_s r (gO B n)::KS.ks G) (F:=gO B (n+1)) d (gd c) b ⟨Wb sa nt rs G d c b i n,KS.all G⟩ λa=>Q6 (Q6 i (gO B n)) a
def Bk(sa:SA U)(nt:Nat)(rs:Z RV)(G:Z (KS U P))(d:dL P f nt sa.erase rs)(c:sa.bJ=true:=by kernel_rfl)(b:A_s.length<=nt:=by decide){B:(cI A_s->Y r.den)->cI A_s->Y r.den}(j:(λg=>JW K (.fn f A_s r g::KS.ks G) sa rs A_s r)=B:=by kernel_rfl){F:cI A_s->Y r.den}(hF:∀a,∃n,F a=gO B n a):bS.Sound P (.fn f A_s r F):=
 ⟨d.enters,λa r h=>by
  let⟨n,i⟩:=hF a
  rw[i]at h
  exact(Wb sa nt rs G d c b j n).2 a r h⟩
def Mw(sa:SA U)(nt:Nat)(rs:Z RV)(G:(g:cI A_s->Y r.den)->bS.Sound P (.fn f A_s r g)->Z (KS U P))(d:dL P f nt sa.erase rs)(c:sa.bJ=true:=by kernel_rfl)(b:A_s.length<=nt:=by decide){B:(cI A_s->Y r.den)->cI A_s->Y r.den}(i:(λg h=>JW K (.fn f A_s r g::KS.ks (G g h)) sa rs A_s r)=λg _=>B g):∀n,bS.Sound P (.fn f A_s r (gO B n))
 |0=>⟨d.enters,λa r h=>by cases h⟩
 |n+1=>CR (K:=K) (Γ:= .fn f A_s r (gO B n)::KS.ks (G (gO B n) (Mw sa nt rs G d c b i n))) (F:=gO B (n+1)) d (gd c) b ⟨Mw sa nt rs G d c b i n,KS.all _⟩ λa=>Q6 (Q6 (Q6 i (gO B n)) (Mw sa nt rs G d c b i n)) a
def U6(sa:SA U)(nt:Nat)(rs:Z RV)(G:(g:cI A_s->Y r.den)->bS.Sound P (.fn f A_s r g)->Z (KS U P))(d:dL P f nt sa.erase rs)(c:sa.bJ=true:=by kernel_rfl)(b:A_s.length<=nt:=by decide){B:(cI A_s->Y r.den)->cI A_s->Y r.den}(j:(λg h=>JW K (.fn f A_s r g::KS.ks (G g h)) sa rs A_s r)=(λg _=>B g):=by kernel_rfl){F:cI A_s->Y r.den}(hF:∀a,∃n,F a=gO B n a):bS.Sound P (.fn f A_s r F):=
 ⟨d.enters,λa r h=>by
  let⟨n,i⟩:=hF a
  rw[i]at h
  exact(Mw sa nt rs G d c b j n).2 a r h⟩
end
 def FM{α:Type}(x:α):α:=(Classical.choice (⟨⟨x,rfl⟩⟩:Nonempty {y:α // y=x})).1
def EJ{α:Type}(x:α):FM x=x:=(Classical.choice (⟨⟨x,rfl⟩⟩:Nonempty {y:α // y=x})).2
def Po{U:TU}{P:Pr}{f:FI}{b:Z (cm U)}{r:jt U}{x:Y (jt.den r)}(h:bS.Sound P (.fn f b r λ_=>x)):bS.Sound P (.fn f b r λ_=>FM x):=by
 rw[show(λ_:cI b=>FM x)=λ_=>x from funext λ_=>EJ x]
 exact h
end
section
open Go.RowKit
def N3{w:Wo}{M:Nat->Prop}{G:Gh}{a:Y Addr}{len cap:Nat}{c:Z Int}(t:∀b,¬M b)
  (h:(a=none/\len=0/\cap=0/\c=[])\/∃x,a=some x/\len<=cap/\cap<=maxLen/\c.length=cap/\(∀i,i<c.length->w.cell? (x.add i)=some (.int .i64 (c.getD i 0)))/\∀n∈c,(Lit.int .i64 n).wf=true):
  aJ w M G (.sl ((c.take len).map λn=>[.int .i64 n])) (.slice a len cap):=by
 rcases h with⟨rfl,rfl,rfl,rfl⟩|⟨x,rfl,h1,z,B,u,_⟩
 .exact .slnil
 .have o:∀l:Z Int,(l.map λn=>[PV.int .i64 n]).flatten=l.map λn=> .int .i64 n:=by
   intro l
   induction l with
   |nil=>rfl
   |cons n l q=>simp only[Qj,List.flatten_cons,q];rfl
  have d:((c.take len).map λn=>[PV.int .i64 n]).length=len:=o_
  have:=aJ.sl (w:=w) (M:=M) (G:=G) ((c.take len).map λn=>[.int .i64 n]) x cap 1 ((c.take len).map λn=> .int .i64 n) (λe s=>by obtain⟨n,_,rfl⟩:=Qs.1 s;rfl) (by rw[o];simp)
   (λi v j=> ?_) (λi y v p j=> ?_) (by rw[d];exact h1) z
  .rw[d]at this;exact this
  .refine⟨?_,t _⟩;rw[Qt,Qi]at j;obtain⟨n,g,rfl⟩:=j;rw[qay]at g;split at g
   .have hi:i<c.length:=(QL.1 g).1;rw[u i hi,qaS,g];rfl
   .cases g
  .rw[o]at p;rw[Qt]at p j;rw[Qi]at p j;obtain⟨n,g,rfl⟩:=p;obtain⟨A,m,rfl⟩:=j;rw[g]at m;injection m with e
   subst e;exact .int _ _
def Nt{P:Pr}{f:FI}{b:Z PV}{vs:Z Va}{w:Wo}(m:GI w)(h:ED P f false [] b (.bool true) [])(g:aK w (λ_=>False) cr b vs):
  Calls P f vs.toArray w λe w'=>e= .returned (.bool true)/\Below w.heap.size w w':=by
 refine(h w (λ_=>False) (.nil m) 0 0 [] vs (λc=>by cases c) ?_).mono ?_
 .exact⟨g.1,λi x v j d=>(g.2 i x v j d).mono (bO.of λ_ _=>λc=>by rcases c with⟨c,_⟩|c;cases c;exact c) (Gh.le.refl _)⟩
 .rintro e w' ⟨v,_,rfl,d,_,hF⟩;refine⟨by rw[d.fp],hF.os,hF.tape,hF.output,hF.size,λk l=>hF.block k l t_⟩
end
section
structure ar where
 aV:Int
 aY:(List Int)
 bC:(List ar)
def ar.eta(x:ar):ar.mk x.aV x.aY x.bC=x:=by cases x;rfl
@[reducible] def af (x:ar):ar:=ar.mk x.aV x.aY x.bC
structure aA where
 aF:Int
 c6:Int
 ae:ar
 du:(List ByteArray)
 bL:(List ByteArray)
@[simp] def aA.eta (x:aA):aA.mk x.aF x.c6 x.ae x.du x.bL=x:=rfl
structure aD where
 aF:Int
 bt:Int
 Round:Int
 c6:Int
 ae:ar
 sC:ByteArray
 du:(List ByteArray)
 bL:(List ByteArray)
 dm:(List ByteArray)
 bn:(List aA)
@[simp] def aD.eta (x:aD):aD.mk x.aF x.bt x.Round x.c6 x.ae x.sC x.du x.bL x.dm x.bn=x:=rfl
structure aj where
 al:Int
 Value:ByteArray
@[simp] def aj.eta (x:aj):aj.mk x.al x.Value=x:=rfl
instance:DecidableEq aj:=λa b=>decidable_of_iff (a.al=b.al/\a.Value=b.Value) (by cases a;cases b;simp)
structure ao where
 aF:Int
 bt:Int
 c6:Int
 ae:ar
 cQ:Int
 aG:aj
 aR:aj
 bD:aj
 eX:Int
 dZ:Int
@[simp] def ao.eta (x:ao):ao.mk x.aF x.bt x.c6 x.ae x.cQ x.aG x.aR x.bD x.eX x.dZ=x:=rfl
structure aW where
 aF:Int
 bt:Int
 c6:Int
 ae:ar
 eo:Int
 aG:aj
 aR:aj
 bD:aj
 bN:aj
 eX:Int
 dZ:Int
 fX:ByteArray
 bn:(List ao)
@[simp] def aW.eta (x:aW):aW.mk x.aF x.bt x.c6 x.ae x.eo x.aG x.aR x.bD x.bN x.eX x.dZ x.fX x.bn=x:=rfl
structure gB where
 al:Int
 tq:Int
@[simp] def gB.eta (x:gB):gB.mk x.al x.tq=x:=rfl
structure ba where
 aP:aD
 aa:aW
 Timer:gB
 Round:Int
 Next:Int
 FC:Bool
 Value:ByteArray
@[simp] def ba.eta (x:ba):ba.mk x.aP x.aa x.Timer x.Round x.Next x.FC x.Value=x:=rfl
structure ay where
 aF:Int
 lW:Bool
 ae:ar
 b0:(List ba)
@[simp] def ay.eta (x:ay):ay.mk x.aF x.lW x.ae x.b0=x:=rfl
structure aN where
 cQ:Int
 bt:Int
 ai:aA
 ah:ao
@[simp] def aN.eta (x:aN):aN.mk x.cQ x.bt x.ai x.ah=x:=rfl
structure bA where
 tq:Int
 Df:Int
 To:Int
 Number:Int
 ak:aN
@[simp] def bA.eta (x:bA):bA.mk x.tq x.Df x.To x.Number x.ak=x:=rfl
structure bI where
 cO:(List bA)
 Next:Int
 gk:(List Int)
 gI:(List Int)
@[simp] def bI.eta (x:bI):bI.mk x.cO x.Next x.gk x.gI=x:=rfl
structure aI where
 Time:Int
 aY:(List ay)
 fP:Int
 Net:bI
 fg:(List (List ar))
@[simp] def aI.eta (x:aI):aI.mk x.Time x.aY x.fP x.Net x.fg=x:=rfl
structure bW where
 qM:Bool
 ae:ar
@[simp] def bW.eta (x:bW):bW.mk x.qM x.ae=x:=rfl
structure bq where
 dY:(List bW)
@[simp] def bq.eta (x:bq):bq.mk x.dY=x:=rfl
structure eF where
 cQ:Int
 aF:Int
 To:Int
 bt:Int
 Count:Int
 Value:ByteArray
 ae:ar
 ak:aN
 gk:(List Int)
@[simp] def eF.eta (x:eF):eF.mk x.cQ x.aF x.To x.bt x.Count x.Value x.ae x.ak x.gk=x:=rfl
structure fW where
 aF:Int
 bt:Int
 Value:ByteArray
@[simp] def fW.eta (x:fW):fW.mk x.aF x.bt x.Value=x:=rfl
structure lv where
 c0:bq
 c1:bq
@[simp] def lv.eta (x:lv):lv.mk x.c0 x.c1=x:=rfl
structure mJ where
 c0:(List eF)
 c1:(List eF)
@[simp] def mJ.eta (x:mJ):mJ.mk x.c0 x.c1=x:=rfl
structure mI where
 c0:aI
 c1:aI
@[simp] def mI.eta (x:mI):mI.mk x.c0 x.c1=x:=rfl
structure jH where
 L:(List Int)
 At:Int
@[simp] def jH.eta (x:jH):jH.mk x.L x.At=x:=rfl
structure cq where
 World:aI
@[simp] def cq.eta (x:cq):cq.mk x.World=x:=rfl
structure av where
 aa:aW
@[simp] def av.eta (x:av):av.mk x.aa=x:=rfl
structure cg where
 ah:ao
@[simp] def cg.eta (x:cg):cg.mk x.ah=x:=rfl
structure eM where
 aF:Int
 View:bq
 bn:(List cg)
@[simp] def eM.eta (x:eM):eM.mk x.aF x.View x.bn=x:=rfl
structure lV where
 Bx:Int
 Value:Int
@[simp] def lV.eta (x:lV):lV.mk x.Bx x.Value=x:=rfl
structure iL where
 aF:Int
 c6:Int
 ae:ar
 du:(List lV)
 bL:(List lV)
@[simp] def iL.eta (x:iL):iL.mk x.aF x.c6 x.ae x.du x.bL=x:=rfl
structure By where
 oT:Int
 low:Int
 tM:Int
 eC:aj
 c9:aj
 fM:aj
 cE:aj
@[simp] def By.eta (x:By):By.mk x.oT x.low x.tM x.eC x.c9 x.fM x.cE=x:=rfl
structure lx where
 c0:aj
 c1:aj
@[simp] def lx.eta (x:lx):lx.mk x.c0 x.c1=x:=rfl
structure qE where
 c0:Int
 c1:Int
@[simp] def qE.eta (x:qE):qE.mk x.c0 x.c1=x:=rfl
structure lG where
 NP:Int
 NR:Int
@[simp] def lG.eta (x:lG):lG.mk x.NP x.NR=x:=rfl
attribute [simp] ar.eta
inductive iD where
 |ae
 |ai
 |aP
 |aG
 |ah
 |aa
 |Timer
 |bt
 |dF
 |ak
 |il
 |na
 |World
 |im
 |Config
 |Step
 |Outcome
 |jm
 |k9
 |k8
 |Src
 |pQ
 |qd
 |o0
 |Seen
 |Claim
 |Message
 |sC
 |jn
 |nb
 |tW
 deriving DecidableEq
inductive Ty where
 |i (k:IntKind)
 |bool
 |str
 |sl (t:Ty)
 |st (n:iD)
def iD.den:iD->Type
 | .ae=>ar
 | .ai=>aA
 | .aP=>aD
 | .aG=>aj
 | .ah=>ao
 | .aa=>aW
 | .Timer=>gB
 | .bt=>ba
 | .dF=>ay
 | .ak=>aN
 | .il=>bA
 | .na=>bI
 | .World=>aI
 | .im=>bW
 | .Config=>bq
 | .Step=>eF
 | .Outcome=>fW
 | .jm=>lv
 | .k9=>mJ
 | .k8=>mI
 | .Src=>jH
 | .pQ=>cq
 | .qd=>av
 | .o0=>cg
 | .Seen=>eM
 | .Claim=>lV
 | .Message=>iL
 | .sC=>By
 | .jn=>lx
 | .nb=>qE
 | .tW=>lG
def Ty.den:Ty->Type
 | .i _=>Int
 | .bool=>Bool
 | .str=>C
 | .sl t=>Z t.den
 | .st n=>n.den
def Ty.beq:Ty->Ty->Bool
 | .i k,.i d=>decide (k=d)
 | .bool,.bool| .str,.str=>true
 | .sl t,.sl b=>Ty.beq t b
 | .st n,.st c=>decide (n=c)
 |_,_=>false
def Ty.eq_of_beq:∀{a b:Ty},Ty.beq a b=true->a=b
 | .i k,.i g,h=>by rw[qa1 h]
 | .bool,.bool,_| .str,.str,_=>rfl
 | .sl t,.sl c,h=>by rw[Ty.eq_of_beq (a:=t) (b:=c) h]
 | .st n,.st d,h=>by rw[qa1 h]
 | .i _,.bool,h| .i _,.str,h| .i _,.sl _,h| .i _,.st _,h| .bool,.i _,h| .bool,.str,h| .bool,.sl _,h| .bool,.st _,h| .str,.i _,h| .str,.bool,h| .str,.sl _,h| .str,.st _,h| .sl _,.i _,h| .sl _,.bool,h| .sl _,.str,h| .sl _,.st _,h| .st _,.i _,h| .st _,.bool,h| .st _,.str,h| .st _,.sl _,h=>by cases h
def Ty.Kf:∀(a:Ty),Ty.beq a a=true
 | .i k=>qah rfl
 | .bool| .str=>rfl
 | .sl t=>Ty.Kf t
 | .st n=>qah rfl
def Ty.PO(a b:Ty):Decidable (a=b):=
 match h:Ty.beq a b with
 |true=>isTrue (Ty.eq_of_beq h)
 |false=>isFalse λe=>by rw[e,Ty.Kf]at h;cases h
@[reducible] def xM:Z Ty->Type
 |[]=>Unit
 |t::l=>t.den×xM l
def iD.leaves:iD->Z Ty
 | .ae=>[(Ty.i .i64),(Ty.sl (Ty.i .i64)),(Ty.sl (Ty.st .ae))]
 | .ai=>[(Ty.i .i64),(Ty.i .i64),(Ty.i .i64),(Ty.sl (Ty.i .i64)),(Ty.sl (Ty.st .ae)),(Ty.sl Ty.str),(Ty.sl Ty.str)]
 | .aP=>[(Ty.i .i64),(Ty.i .i64),(Ty.i .i64),(Ty.i .i64),(Ty.i .i64),(Ty.sl (Ty.i .i64)),(Ty.sl (Ty.st .ae)),Ty.str,(Ty.sl Ty.str),(Ty.sl Ty.str),(Ty.sl Ty.str),(Ty.sl (Ty.st .ai))]
 | .aG=>[(Ty.i .i64),Ty.str]
 | .ah=>[(Ty.i .i64),(Ty.i .i64),(Ty.i .i64),(Ty.i .i64),(Ty.sl (Ty.i .i64)),(Ty.sl (Ty.st .ae)),(Ty.i .i64),(Ty.i .i64),Ty.str,(Ty.i .i64),Ty.str,(Ty.i .i64),Ty.str,(Ty.i .i64),(Ty.i .i64)]
 | .aa=>[(Ty.i .i64),(Ty.i .i64),(Ty.i .i64),(Ty.i .i64),(Ty.sl (Ty.i .i64)),(Ty.sl (Ty.st .ae)),(Ty.i .i64),(Ty.i .i64),Ty.str,(Ty.i .i64),Ty.str,(Ty.i .i64),Ty.str,(Ty.i .i64),Ty.str,(Ty.i .i64),(Ty.i .i64),Ty.str,(Ty.sl (Ty.st .ah))]
 | .Timer=>[(Ty.i .i64),(Ty.i .i64)]
 | .bt=>[(Ty.i .i64),(Ty.i .i64),(Ty.i .i64),(Ty.i .i64),(Ty.i .i64),(Ty.sl (Ty.i .i64)),(Ty.sl (Ty.st .ae)),Ty.str,(Ty.sl Ty.str),(Ty.sl Ty.str),(Ty.sl Ty.str),(Ty.sl (Ty.st .ai)),(Ty.i .i64),(Ty.i .i64),(Ty.i .i64),(Ty.i .i64),(Ty.sl (Ty.i .i64)),(Ty.sl (Ty.st .ae)),(Ty.i .i64),(Ty.i .i64),Ty.str,(Ty.i .i64),Ty.str,(Ty.i .i64),Ty.str,(Ty.i .i64),Ty.str,(Ty.i .i64),(Ty.i .i64),Ty.str,(Ty.sl (Ty.st .ah)),(Ty.i .i64),(Ty.i .i64),(Ty.i .i64),(Ty.i .i64),Ty.bool,Ty.str]
 | .dF=>[(Ty.i .i64),Ty.bool,(Ty.i .i64),(Ty.sl (Ty.i .i64)),(Ty.sl (Ty.st .ae)),(Ty.sl (Ty.st .bt))]
 | .ak=>[(Ty.i .i64),(Ty.i .i64),(Ty.i .i64),(Ty.i .i64),(Ty.i .i64),(Ty.sl (Ty.i .i64)),(Ty.sl (Ty.st .ae)),(Ty.sl Ty.str),(Ty.sl Ty.str),(Ty.i .i64),(Ty.i .i64),(Ty.i .i64),(Ty.i .i64),(Ty.sl (Ty.i .i64)),(Ty.sl (Ty.st .ae)),(Ty.i .i64),(Ty.i .i64),Ty.str,(Ty.i .i64),Ty.str,(Ty.i .i64),Ty.str,(Ty.i .i64),(Ty.i .i64)]
 | .il=>[(Ty.i .i64),(Ty.i .i64),(Ty.i .i64),(Ty.i .i64),(Ty.i .i64),(Ty.i .i64),(Ty.i .i64),(Ty.i .i64),(Ty.i .i64),(Ty.sl (Ty.i .i64)),(Ty.sl (Ty.st .ae)),(Ty.sl Ty.str),(Ty.sl Ty.str),(Ty.i .i64),(Ty.i .i64),(Ty.i .i64),(Ty.i .i64),(Ty.sl (Ty.i .i64)),(Ty.sl (Ty.st .ae)),(Ty.i .i64),(Ty.i .i64),Ty.str,(Ty.i .i64),Ty.str,(Ty.i .i64),Ty.str,(Ty.i .i64),(Ty.i .i64)]
 | .na=>[(Ty.sl (Ty.st .il)),(Ty.i .i64),(Ty.sl (Ty.i .i64)),(Ty.sl (Ty.i .i64))]
 | .World=>[(Ty.i .i64),(Ty.sl (Ty.st .dF)),(Ty.i .i64),(Ty.sl (Ty.st .il)),(Ty.i .i64),(Ty.sl (Ty.i .i64)),(Ty.sl (Ty.i .i64)),(Ty.sl (Ty.sl (Ty.st .ae)))]
 | .im=>[Ty.bool,(Ty.i .i64),(Ty.sl (Ty.i .i64)),(Ty.sl (Ty.st .ae))]
 | .Config=>[(Ty.sl (Ty.st .im))]
 | .Step=>[(Ty.i .i64),(Ty.i .i64),(Ty.i .i64),(Ty.i .i64),(Ty.i .i64),Ty.str,(Ty.i .i64),(Ty.sl (Ty.i .i64)),(Ty.sl (Ty.st .ae)),(Ty.i .i64),(Ty.i .i64),(Ty.i .i64),(Ty.i .i64),(Ty.i .i64),(Ty.sl (Ty.i .i64)),(Ty.sl (Ty.st .ae)),(Ty.sl Ty.str),(Ty.sl Ty.str),(Ty.i .i64),(Ty.i .i64),(Ty.i .i64),(Ty.i .i64),(Ty.sl (Ty.i .i64)),(Ty.sl (Ty.st .ae)),(Ty.i .i64),(Ty.i .i64),Ty.str,(Ty.i .i64),Ty.str,(Ty.i .i64),Ty.str,(Ty.i .i64),(Ty.i .i64),(Ty.sl (Ty.i .i64))]
 | .Outcome=>[(Ty.i .i64),(Ty.i .i64),Ty.str]
 | .jm=>[(Ty.sl (Ty.st .im)),(Ty.sl (Ty.st .im))]
 | .k9=>[(Ty.sl (Ty.st .Step)),(Ty.sl (Ty.st .Step))]
 | .k8=>[(Ty.i .i64),(Ty.sl (Ty.st .dF)),(Ty.i .i64),(Ty.sl (Ty.st .il)),(Ty.i .i64),(Ty.sl (Ty.i .i64)),(Ty.sl (Ty.i .i64)),(Ty.sl (Ty.sl (Ty.st .ae))),(Ty.i .i64),(Ty.sl (Ty.st .dF)),(Ty.i .i64),(Ty.sl (Ty.st .il)),(Ty.i .i64),(Ty.sl (Ty.i .i64)),(Ty.sl (Ty.i .i64)),(Ty.sl (Ty.sl (Ty.st .ae)))]
 | .Src=>[(Ty.sl (Ty.i .i64)),(Ty.i .i64)]
 | .pQ=>[(Ty.i .i64),(Ty.sl (Ty.st .dF)),(Ty.i .i64),(Ty.sl (Ty.st .il)),(Ty.i .i64),(Ty.sl (Ty.i .i64)),(Ty.sl (Ty.i .i64)),(Ty.sl (Ty.sl (Ty.st .ae)))]
 | .qd=>[(Ty.i .i64),(Ty.i .i64),(Ty.i .i64),(Ty.i .i64),(Ty.sl (Ty.i .i64)),(Ty.sl (Ty.st .ae)),(Ty.i .i64),(Ty.i .i64),Ty.str,(Ty.i .i64),Ty.str,(Ty.i .i64),Ty.str,(Ty.i .i64),Ty.str,(Ty.i .i64),(Ty.i .i64),Ty.str,(Ty.sl (Ty.st .ah))]
 | .o0=>[(Ty.i .i64),(Ty.i .i64),(Ty.i .i64),(Ty.i .i64),(Ty.sl (Ty.i .i64)),(Ty.sl (Ty.st .ae)),(Ty.i .i64),(Ty.i .i64),Ty.str,(Ty.i .i64),Ty.str,(Ty.i .i64),Ty.str,(Ty.i .i64),(Ty.i .i64)]
 | .Seen=>[(Ty.i .i64),(Ty.sl (Ty.st .im)),(Ty.sl (Ty.st .o0))]
 | .Claim=>[(Ty.i .i64),(Ty.i .i64)]
 | .Message=>[(Ty.i .i64),(Ty.i .i64),(Ty.i .i64),(Ty.sl (Ty.i .i64)),(Ty.sl (Ty.st .ae)),(Ty.sl (Ty.st .Claim)),(Ty.sl (Ty.st .Claim))]
 | .sC=>[(Ty.i .i64),(Ty.i .i64),(Ty.i .i64),(Ty.i .i64),Ty.str,(Ty.i .i64),Ty.str,(Ty.i .i64),Ty.str,(Ty.i .i64),Ty.str]
 | .jn=>[(Ty.i .i64),Ty.str,(Ty.i .i64),Ty.str]
 | .nb| .tW=>[(Ty.i .i64),(Ty.i .i64)]
def iD.toL:(n:iD)->n.den->xM n.leaves
 | .ae,(v:ar)=>(v.aV,v.aY,v.bC,())
 | .ai,(v:aA)=>(v.aF,v.c6,v.ae.aV,v.ae.aY,v.ae.bC,v.du,v.bL,())
 | .aP,(v:aD)=>(v.aF,v.bt,v.Round,v.c6,v.ae.aV,v.ae.aY,v.ae.bC,v.sC,v.du,v.bL,v.dm,v.bn,())
 | .aG,(v:aj)=>(v.al,v.Value,())
 | .ah,(v:ao)=>(v.aF,v.bt,v.c6,v.ae.aV,v.ae.aY,v.ae.bC,v.cQ,v.aG.al,v.aG.Value,v.aR.al,v.aR.Value,v.bD.al,v.bD.Value,v.eX,v.dZ,())
 | .aa,(v:aW)=>(v.aF,v.bt,v.c6,v.ae.aV,v.ae.aY,v.ae.bC,v.eo,v.aG.al,v.aG.Value,v.aR.al,v.aR.Value,v.bD.al,v.bD.Value,v.bN.al,v.bN.Value,v.eX,v.dZ,v.fX,v.bn,())
 | .Timer,(v:gB)=>(v.al,v.tq,())
 | .bt,(v:ba)=>(v.aP.aF,v.aP.bt,v.aP.Round,v.aP.c6,v.aP.ae.aV,v.aP.ae.aY,v.aP.ae.bC,v.aP.sC,v.aP.du,v.aP.bL,v.aP.dm,v.aP.bn,v.aa.aF,v.aa.bt,v.aa.c6,v.aa.ae.aV,v.aa.ae.aY,v.aa.ae.bC,v.aa.eo,v.aa.aG.al,v.aa.aG.Value,v.aa.aR.al,v.aa.aR.Value,v.aa.bD.al,v.aa.bD.Value,v.aa.bN.al,v.aa.bN.Value,v.aa.eX,v.aa.dZ,v.aa.fX,v.aa.bn,v.Timer.al,v.Timer.tq,v.Round,v.Next,v.FC,v.Value,())
 | .dF,(v:ay)=>(v.aF,v.lW,v.ae.aV,v.ae.aY,v.ae.bC,v.b0,())
 | .ak,(v:aN)=>(v.cQ,v.bt,v.ai.aF,v.ai.c6,v.ai.ae.aV,v.ai.ae.aY,v.ai.ae.bC,v.ai.du,v.ai.bL,v.ah.aF,v.ah.bt,v.ah.c6,v.ah.ae.aV,v.ah.ae.aY,v.ah.ae.bC,v.ah.cQ,v.ah.aG.al,v.ah.aG.Value,v.ah.aR.al,v.ah.aR.Value,v.ah.bD.al,v.ah.bD.Value,v.ah.eX,v.ah.dZ,())
 | .il,(v:bA)=>(v.tq,v.Df,v.To,v.Number,v.ak.cQ,v.ak.bt,v.ak.ai.aF,v.ak.ai.c6,v.ak.ai.ae.aV,v.ak.ai.ae.aY,v.ak.ai.ae.bC,v.ak.ai.du,v.ak.ai.bL,v.ak.ah.aF,v.ak.ah.bt,v.ak.ah.c6,v.ak.ah.ae.aV,v.ak.ah.ae.aY,v.ak.ah.ae.bC,v.ak.ah.cQ,v.ak.ah.aG.al,v.ak.ah.aG.Value,v.ak.ah.aR.al,v.ak.ah.aR.Value,v.ak.ah.bD.al,v.ak.ah.bD.Value,v.ak.ah.eX,v.ak.ah.dZ,())
 | .na,(v:bI)=>(v.cO,v.Next,v.gk,v.gI,())
 | .World,(v:aI)=>(v.Time,v.aY,v.fP,v.Net.cO,v.Net.Next,v.Net.gk,v.Net.gI,v.fg,())
 | .im,(v:bW)=>(v.qM,v.ae.aV,v.ae.aY,v.ae.bC,())
 | .Config,(v:bq)=>(v.dY,())
 | .Step,(v:eF)=>(v.cQ,v.aF,v.To,v.bt,v.Count,v.Value,v.ae.aV,v.ae.aY,v.ae.bC,v.ak.cQ,v.ak.bt,v.ak.ai.aF,v.ak.ai.c6,v.ak.ai.ae.aV,v.ak.ai.ae.aY,v.ak.ai.ae.bC,v.ak.ai.du,v.ak.ai.bL,v.ak.ah.aF,v.ak.ah.bt,v.ak.ah.c6,v.ak.ah.ae.aV,v.ak.ah.ae.aY,v.ak.ah.ae.bC,v.ak.ah.cQ,v.ak.ah.aG.al,v.ak.ah.aG.Value,v.ak.ah.aR.al,v.ak.ah.aR.Value,v.ak.ah.bD.al,v.ak.ah.bD.Value,v.ak.ah.eX,v.ak.ah.dZ,v.gk,())
 | .Outcome,(v:fW)=>(v.aF,v.bt,v.Value,())
 | .jm,(v:lv)=>(v.c0.dY,v.c1.dY,())
 | .k9,(v:mJ)=>(v.c0,v.c1,())
 | .k8,(v:mI)=>(v.c0.Time,v.c0.aY,v.c0.fP,v.c0.Net.cO,v.c0.Net.Next,v.c0.Net.gk,v.c0.Net.gI,v.c0.fg,v.c1.Time,v.c1.aY,v.c1.fP,v.c1.Net.cO,v.c1.Net.Next,v.c1.Net.gk,v.c1.Net.gI,v.c1.fg,())
 | .Src,(v:jH)=>(v.L,v.At,())
 | .pQ,(v:cq)=>(v.World.Time,v.World.aY,v.World.fP,v.World.Net.cO,v.World.Net.Next,v.World.Net.gk,v.World.Net.gI,v.World.fg,())
 | .qd,(v:av)=>(v.aa.aF,v.aa.bt,v.aa.c6,v.aa.ae.aV,v.aa.ae.aY,v.aa.ae.bC,v.aa.eo,v.aa.aG.al,v.aa.aG.Value,v.aa.aR.al,v.aa.aR.Value,v.aa.bD.al,v.aa.bD.Value,v.aa.bN.al,v.aa.bN.Value,v.aa.eX,v.aa.dZ,v.aa.fX,v.aa.bn,())
 | .o0,(v:cg)=>(v.ah.aF,v.ah.bt,v.ah.c6,v.ah.ae.aV,v.ah.ae.aY,v.ah.ae.bC,v.ah.cQ,v.ah.aG.al,v.ah.aG.Value,v.ah.aR.al,v.ah.aR.Value,v.ah.bD.al,v.ah.bD.Value,v.ah.eX,v.ah.dZ,())
 | .Seen,(v:eM)=>(v.aF,v.View.dY,v.bn,())
 | .Claim,(v:lV)=>(v.Bx,v.Value,())
 | .Message,(v:iL)=>(v.aF,v.c6,v.ae.aV,v.ae.aY,v.ae.bC,v.du,v.bL,())
 | .sC,(v:By)=>(v.oT,v.low,v.tM,v.eC.al,v.eC.Value,v.c9.al,v.c9.Value,v.fM.al,v.fM.Value,v.cE.al,v.cE.Value,())
 | .jn,(v:lx)=>(v.c0.al,v.c0.Value,v.c1.al,v.c1.Value,())
 | .nb,(v:qE)=>(v.c0,v.c1,())
 | .tW,(v:lG)=>(v.NP,v.NR,())
def iD.Pz:(n:iD)->xM n.leaves->n.den
 | .ae,v=>(ar.mk v.1 v.2.1 v.2.2.1)
 | .ai,v=>let w1:=v.2.2.2.2.2.2;(aA.mk v.1 v.2.1 (ar.mk v.2.2.1 v.2.2.2.1 v.2.2.2.2.1) v.2.2.2.2.2.1 w1.1)
 | .aP,v=>let w1:=v.2.2.2.2.2.2;(aD.mk v.1 v.2.1 v.2.2.1 v.2.2.2.1 (ar.mk v.2.2.2.2.1 v.2.2.2.2.2.1 w1.1) w1.2.1 w1.2.2.1 w1.2.2.2.1 w1.2.2.2.2.1 w1.2.2.2.2.2.1)
 | .aG,v=>(aj.mk v.1 v.2.1)
 | .ah,v=>let w1:=v.2.2.2.2.2.2;let w2:=w1.2.2.2.2.2.2;(ao.mk v.1 v.2.1 v.2.2.1 (ar.mk v.2.2.2.1 v.2.2.2.2.1 v.2.2.2.2.2.1) w1.1 (aj.mk w1.2.1 w1.2.2.1) (aj.mk w1.2.2.2.1 w1.2.2.2.2.1) (aj.mk w1.2.2.2.2.2.1 w2.1) w2.2.1 w2.2.2.1)
 | .aa,v=>let w1:=v.2.2.2.2.2.2;let w2:=w1.2.2.2.2.2.2;let b:=w2.2.2.2.2.2.2;(aW.mk v.1 v.2.1 v.2.2.1 (ar.mk v.2.2.2.1 v.2.2.2.2.1 v.2.2.2.2.2.1) w1.1 (aj.mk w1.2.1 w1.2.2.1) (aj.mk w1.2.2.2.1 w1.2.2.2.2.1) (aj.mk w1.2.2.2.2.2.1 w2.1) (aj.mk w2.2.1 w2.2.2.1) w2.2.2.2.1 w2.2.2.2.2.1 w2.2.2.2.2.2.1 b.1)
 | .Timer,v=>(gB.mk v.1 v.2.1)
 | .bt,v=>let w1:=v.2.2.2.2.2.2;let w2:=w1.2.2.2.2.2.2;let b:=w2.2.2.2.2.2.2;let c:=b.2.2.2.2.2.2;let d:=c.2.2.2.2.2.2;let g:=d.2.2.2.2.2.2;(ba.mk (aD.mk v.1 v.2.1 v.2.2.1 v.2.2.2.1 (ar.mk v.2.2.2.2.1 v.2.2.2.2.2.1 w1.1) w1.2.1 w1.2.2.1 w1.2.2.2.1 w1.2.2.2.2.1 w1.2.2.2.2.2.1) (aW.mk w2.1 w2.2.1 w2.2.2.1 (ar.mk w2.2.2.2.1 w2.2.2.2.2.1 w2.2.2.2.2.2.1) b.1 (aj.mk b.2.1 b.2.2.1) (aj.mk b.2.2.2.1 b.2.2.2.2.1) (aj.mk b.2.2.2.2.2.1 c.1) (aj.mk c.2.1 c.2.2.1) c.2.2.2.1 c.2.2.2.2.1 c.2.2.2.2.2.1 d.1) (gB.mk d.2.1 d.2.2.1) d.2.2.2.1 d.2.2.2.2.1 d.2.2.2.2.2.1 g.1)
 | .dF,v=>(ay.mk v.1 v.2.1 (ar.mk v.2.2.1 v.2.2.2.1 v.2.2.2.2.1) v.2.2.2.2.2.1)
 | .ak,v=>let w1:=v.2.2.2.2.2.2;let w2:=w1.2.2.2.2.2.2;let b:=w2.2.2.2.2.2.2;(aN.mk v.1 v.2.1 (aA.mk v.2.2.1 v.2.2.2.1 (ar.mk v.2.2.2.2.1 v.2.2.2.2.2.1 w1.1) w1.2.1 w1.2.2.1) (ao.mk w1.2.2.2.1 w1.2.2.2.2.1 w1.2.2.2.2.2.1 (ar.mk w2.1 w2.2.1 w2.2.2.1) w2.2.2.2.1 (aj.mk w2.2.2.2.2.1 w2.2.2.2.2.2.1) (aj.mk b.1 b.2.1) (aj.mk b.2.2.1 b.2.2.2.1) b.2.2.2.2.1 b.2.2.2.2.2.1))
 | .il,v=>let w1:=v.2.2.2.2.2.2;let w2:=w1.2.2.2.2.2.2;let b:=w2.2.2.2.2.2.2;let c:=b.2.2.2.2.2.2;(bA.mk v.1 v.2.1 v.2.2.1 v.2.2.2.1 (aN.mk v.2.2.2.2.1 v.2.2.2.2.2.1 (aA.mk w1.1 w1.2.1 (ar.mk w1.2.2.1 w1.2.2.2.1 w1.2.2.2.2.1) w1.2.2.2.2.2.1 w2.1) (ao.mk w2.2.1 w2.2.2.1 w2.2.2.2.1 (ar.mk w2.2.2.2.2.1 w2.2.2.2.2.2.1 b.1) b.2.1 (aj.mk b.2.2.1 b.2.2.2.1) (aj.mk b.2.2.2.2.1 b.2.2.2.2.2.1) (aj.mk c.1 c.2.1) c.2.2.1 c.2.2.2.1)))
 | .na,v=>(bI.mk v.1 v.2.1 v.2.2.1 v.2.2.2.1)
 | .World,v=>let w1:=v.2.2.2.2.2.2;(aI.mk v.1 v.2.1 v.2.2.1 (bI.mk v.2.2.2.1 v.2.2.2.2.1 v.2.2.2.2.2.1 w1.1) w1.2.1)
 | .im,v=>(bW.mk v.1 (ar.mk v.2.1 v.2.2.1 v.2.2.2.1))
 | .Config,v=>(bq.mk v.1)
 | .Step,v=>let w1:=v.2.2.2.2.2.2;let w2:=w1.2.2.2.2.2.2;let b:=w2.2.2.2.2.2.2;let c:=b.2.2.2.2.2.2;let d:=c.2.2.2.2.2.2;(eF.mk v.1 v.2.1 v.2.2.1 v.2.2.2.1 v.2.2.2.2.1 v.2.2.2.2.2.1 (ar.mk w1.1 w1.2.1 w1.2.2.1) (aN.mk w1.2.2.2.1 w1.2.2.2.2.1 (aA.mk w1.2.2.2.2.2.1 w2.1 (ar.mk w2.2.1 w2.2.2.1 w2.2.2.2.1) w2.2.2.2.2.1 w2.2.2.2.2.2.1) (ao.mk b.1 b.2.1 b.2.2.1 (ar.mk b.2.2.2.1 b.2.2.2.2.1 b.2.2.2.2.2.1) c.1 (aj.mk c.2.1 c.2.2.1) (aj.mk c.2.2.2.1 c.2.2.2.2.1) (aj.mk c.2.2.2.2.2.1 d.1) d.2.1 d.2.2.1)) d.2.2.2.1)
 | .Outcome,v=>(fW.mk v.1 v.2.1 v.2.2.1)
 | .jm,v=>(lv.mk (bq.mk v.1) (bq.mk v.2.1))
 | .k9,v=>(mJ.mk v.1 v.2.1)
 | .k8,v=>let w1:=v.2.2.2.2.2.2;let w2:=w1.2.2.2.2.2.2;(mI.mk (aI.mk v.1 v.2.1 v.2.2.1 (bI.mk v.2.2.2.1 v.2.2.2.2.1 v.2.2.2.2.2.1 w1.1) w1.2.1) (aI.mk w1.2.2.1 w1.2.2.2.1 w1.2.2.2.2.1 (bI.mk w1.2.2.2.2.2.1 w2.1 w2.2.1 w2.2.2.1) w2.2.2.2.1))
 | .Src,v=>(jH.mk v.1 v.2.1)
 | .pQ,v=>let w1:=v.2.2.2.2.2.2;(cq.mk (aI.mk v.1 v.2.1 v.2.2.1 (bI.mk v.2.2.2.1 v.2.2.2.2.1 v.2.2.2.2.2.1 w1.1) w1.2.1))
 | .qd,v=>let w1:=v.2.2.2.2.2.2;let w2:=w1.2.2.2.2.2.2;let b:=w2.2.2.2.2.2.2;(av.mk (aW.mk v.1 v.2.1 v.2.2.1 (ar.mk v.2.2.2.1 v.2.2.2.2.1 v.2.2.2.2.2.1) w1.1 (aj.mk w1.2.1 w1.2.2.1) (aj.mk w1.2.2.2.1 w1.2.2.2.2.1) (aj.mk w1.2.2.2.2.2.1 w2.1) (aj.mk w2.2.1 w2.2.2.1) w2.2.2.2.1 w2.2.2.2.2.1 w2.2.2.2.2.2.1 b.1))
 | .o0,v=>let w1:=v.2.2.2.2.2.2;let w2:=w1.2.2.2.2.2.2;(cg.mk (ao.mk v.1 v.2.1 v.2.2.1 (ar.mk v.2.2.2.1 v.2.2.2.2.1 v.2.2.2.2.2.1) w1.1 (aj.mk w1.2.1 w1.2.2.1) (aj.mk w1.2.2.2.1 w1.2.2.2.2.1) (aj.mk w1.2.2.2.2.2.1 w2.1) w2.2.1 w2.2.2.1))
 | .Seen,v=>(eM.mk v.1 (bq.mk v.2.1) v.2.2.1)
 | .Claim,v=>(lV.mk v.1 v.2.1)
 | .Message,v=>let w1:=v.2.2.2.2.2.2;(iL.mk v.1 v.2.1 (ar.mk v.2.2.1 v.2.2.2.1 v.2.2.2.2.1) v.2.2.2.2.2.1 w1.1)
 | .sC,v=>let w1:=v.2.2.2.2.2.2;(By.mk v.1 v.2.1 v.2.2.1 (aj.mk v.2.2.2.1 v.2.2.2.2.1) (aj.mk v.2.2.2.2.2.1 w1.1) (aj.mk w1.2.1 w1.2.2.1) (aj.mk w1.2.2.2.1 w1.2.2.2.2.1))
 | .jn,v=>(lx.mk (aj.mk v.1 v.2.1) (aj.mk v.2.2.1 v.2.2.2.1))
 | .nb,v=>(qE.mk v.1 v.2.1)
 | .tW,v=>(lG.mk v.1 v.2.1)
mutual
def cu:ar->Z PV
 |⟨a0,b,a2⟩=>[.int .i64 a0,.sl (b.map (λx=>[.int .i64 x])),.sl (rN a2)]
def rN:Z ar->Z (Z PV)
 |[]=>[]
 |x::l=>cu x::rN l
end
def zK:∀(l:Z ar),rN l=l.map cu
 |[]=>by rw[rN];rfl
 |x::l=>by rw[rN,zK l];rfl
def tz(v:aA):Z PV:=[.int .i64 v.aF,.int .i64 v.c6,.int .i64 v.ae.aV,.sl (v.ae.aY.map (λx=>[.int .i64 x])),.sl (v.ae.bC.map cu),.sl (v.du.map (λx=>[.str x])),.sl (v.bL.map (λx=>[.str x]))]
def II(v:aD):Z PV:=[.int .i64 v.aF,.int .i64 v.bt,.int .i64 v.Round,.int .i64 v.c6,.int .i64 v.ae.aV,.sl (v.ae.aY.map (λx=>[.int .i64 x])),.sl (v.ae.bC.map cu),.str v.sC,.sl (v.du.map (λx=>[.str x])),.sl (v.bL.map (λx=>[.str x])),.sl (v.dm.map (λx=>[.str x])),.sl (v.bn.map tz)]
def Mi(v:aj):Z PV:=[.int .i64 v.al,.str v.Value]
def rP(v:ao):Z PV:=[.int .i64 v.aF,.int .i64 v.bt,.int .i64 v.c6,.int .i64 v.ae.aV,.sl (v.ae.aY.map (λx=>[.int .i64 x])),.sl (v.ae.bC.map cu),.int .i64 v.cQ,.int .i64 v.aG.al,.str v.aG.Value,.int .i64 v.aR.al,.str v.aR.Value,.int .i64 v.bD.al,.str v.bD.Value,.int .i64 v.eX,.int .i64 v.dZ]
def KC(v:aW):Z PV:=[.int .i64 v.aF,.int .i64 v.bt,.int .i64 v.c6,.int .i64 v.ae.aV,.sl (v.ae.aY.map (λx=>[.int .i64 x])),.sl (v.ae.bC.map cu),.int .i64 v.eo,.int .i64 v.aG.al,.str v.aG.Value,.int .i64 v.aR.al,.str v.aR.Value,.int .i64 v.bD.al,.str v.bD.Value,.int .i64 v.bN.al,.str v.bN.Value,.int .i64 v.eX,.int .i64 v.dZ,.str v.fX,.sl (v.bn.map rP)]
def Nc(v:gB):Z PV:=[.int .i64 v.al,.int .i64 v.tq]
def Jk(v:ba):Z PV:=[.int .i64 v.aP.aF,.int .i64 v.aP.bt,.int .i64 v.aP.Round,.int .i64 v.aP.c6,.int .i64 v.aP.ae.aV,.sl (v.aP.ae.aY.map (λx=>[.int .i64 x])),.sl (v.aP.ae.bC.map cu),.str v.aP.sC,.sl (v.aP.du.map (λx=>[.str x])),.sl (v.aP.bL.map (λx=>[.str x])),.sl (v.aP.dm.map (λx=>[.str x])),.sl (v.aP.bn.map tz),.int .i64 v.aa.aF,.int .i64 v.aa.bt,.int .i64 v.aa.c6,.int .i64 v.aa.ae.aV,.sl (v.aa.ae.aY.map (λx=>[.int .i64 x])),.sl (v.aa.ae.bC.map cu),.int .i64 v.aa.eo,.int .i64 v.aa.aG.al,.str v.aa.aG.Value,.int .i64 v.aa.aR.al,.str v.aa.aR.Value,.int .i64 v.aa.bD.al,.str v.aa.bD.Value,.int .i64 v.aa.bN.al,.str v.aa.bN.Value,.int .i64 v.aa.eX,.int .i64 v.aa.dZ,.str v.aa.fX,.sl (v.aa.bn.map rP),.int .i64 v.Timer.al,.int .i64 v.Timer.tq,.int .i64 v.Round,.int .i64 v.Next,.bool v.FC,.str v.Value]
def kH(v:ay):Z PV:=[.int .i64 v.aF,.bool v.lW,.int .i64 v.ae.aV,.sl (v.ae.aY.map (λx=>[.int .i64 x])),.sl (v.ae.bC.map cu),.sl (v.b0.map Jk)]
def Mf(v:aN):Z PV:=[.int .i64 v.cQ,.int .i64 v.bt,.int .i64 v.ai.aF,.int .i64 v.ai.c6,.int .i64 v.ai.ae.aV,.sl (v.ai.ae.aY.map (λx=>[.int .i64 x])),.sl (v.ai.ae.bC.map cu),.sl (v.ai.du.map (λx=>[.str x])),.sl (v.ai.bL.map (λx=>[.str x])),.int .i64 v.ah.aF,.int .i64 v.ah.bt,.int .i64 v.ah.c6,.int .i64 v.ah.ae.aV,.sl (v.ah.ae.aY.map (λx=>[.int .i64 x])),.sl (v.ah.ae.bC.map cu),.int .i64 v.ah.cQ,.int .i64 v.ah.aG.al,.str v.ah.aG.Value,.int .i64 v.ah.aR.al,.str v.ah.aR.Value,.int .i64 v.ah.bD.al,.str v.ah.bD.Value,.int .i64 v.ah.eX,.int .i64 v.ah.dZ]
def oQ(v:bA):Z PV:=[.int .i64 v.tq,.int .i64 v.Df,.int .i64 v.To,.int .i64 v.Number,.int .i64 v.ak.cQ,.int .i64 v.ak.bt,.int .i64 v.ak.ai.aF,.int .i64 v.ak.ai.c6,.int .i64 v.ak.ai.ae.aV,.sl (v.ak.ai.ae.aY.map (λx=>[.int .i64 x])),.sl (v.ak.ai.ae.bC.map cu),.sl (v.ak.ai.du.map (λx=>[.str x])),.sl (v.ak.ai.bL.map (λx=>[.str x])),.int .i64 v.ak.ah.aF,.int .i64 v.ak.ah.bt,.int .i64 v.ak.ah.c6,.int .i64 v.ak.ah.ae.aV,.sl (v.ak.ah.ae.aY.map (λx=>[.int .i64 x])),.sl (v.ak.ah.ae.bC.map cu),.int .i64 v.ak.ah.cQ,.int .i64 v.ak.ah.aG.al,.str v.ak.ah.aG.Value,.int .i64 v.ak.ah.aR.al,.str v.ak.ah.aR.Value,.int .i64 v.ak.ah.bD.al,.str v.ak.ah.bD.Value,.int .i64 v.ak.ah.eX,.int .i64 v.ak.ah.dZ]
def KA(v:bI):Z PV:=[.sl (v.cO.map oQ),.int .i64 v.Next,.sl (v.gk.map (λx=>[.int .i64 x])),.sl (v.gI.map (λx=>[.int .i64 x]))]
def Nb(v:aI):Z PV:=[.int .i64 v.Time,.sl (v.aY.map kH),.int .i64 v.fP,.sl (v.Net.cO.map oQ),.int .i64 v.Net.Next,.sl (v.Net.gk.map (λx=>[.int .i64 x])),.sl (v.Net.gI.map (λx=>[.int .i64 x])),.sl (v.fg.map (λx=>[.sl (x.map cu)]))]
def rO(v:bW):Z PV:=[.bool v.qM,.int .i64 v.ae.aV,.sl (v.ae.aY.map (λx=>[.int .i64 x])),.sl (v.ae.bC.map cu)]
def Mh(v:bq):Z PV:=[.sl (v.dY.map rO)]
def EP(v:eF):Z PV:=[.int .i64 v.cQ,.int .i64 v.aF,.int .i64 v.To,.int .i64 v.bt,.int .i64 v.Count,.str v.Value,.int .i64 v.ae.aV,.sl (v.ae.aY.map (λx=>[.int .i64 x])),.sl (v.ae.bC.map cu),.int .i64 v.ak.cQ,.int .i64 v.ak.bt,.int .i64 v.ak.ai.aF,.int .i64 v.ak.ai.c6,.int .i64 v.ak.ai.ae.aV,.sl (v.ak.ai.ae.aY.map (λx=>[.int .i64 x])),.sl (v.ak.ai.ae.bC.map cu),.sl (v.ak.ai.du.map (λx=>[.str x])),.sl (v.ak.ai.bL.map (λx=>[.str x])),.int .i64 v.ak.ah.aF,.int .i64 v.ak.ah.bt,.int .i64 v.ak.ah.c6,.int .i64 v.ak.ah.ae.aV,.sl (v.ak.ah.ae.aY.map (λx=>[.int .i64 x])),.sl (v.ak.ah.ae.bC.map cu),.int .i64 v.ak.ah.cQ,.int .i64 v.ak.ah.aG.al,.str v.ak.ah.aG.Value,.int .i64 v.ak.ah.aR.al,.str v.ak.ah.aR.Value,.int .i64 v.ak.ah.bD.al,.str v.ak.ah.bD.Value,.int .i64 v.ak.ah.eX,.int .i64 v.ak.ah.dZ,.sl (v.gk.map (λx=>[.int .i64 x]))]
def Kz(v:fW):Z PV:=[.int .i64 v.aF,.int .i64 v.bt,.str v.Value]
def Hm(v:lv):Z PV:=[.sl (v.c0.dY.map rO),.sl (v.c1.dY.map rO)]
def IK(v:mJ):Z PV:=[.sl (v.c0.map EP),.sl (v.c1.map EP)]
def IJ(v:mI):Z PV:=[.int .i64 v.c0.Time,.sl (v.c0.aY.map kH),.int .i64 v.c0.fP,.sl (v.c0.Net.cO.map oQ),.int .i64 v.c0.Net.Next,.sl (v.c0.Net.gk.map (λx=>[.int .i64 x])),.sl (v.c0.Net.gI.map (λx=>[.int .i64 x])),.sl (v.c0.fg.map (λx=>[.sl (x.map cu)])),.int .i64 v.c1.Time,.sl (v.c1.aY.map kH),.int .i64 v.c1.fP,.sl (v.c1.Net.cO.map oQ),.int .i64 v.c1.Net.Next,.sl (v.c1.Net.gk.map (λx=>[.int .i64 x])),.sl (v.c1.Net.gI.map (λx=>[.int .i64 x])),.sl (v.c1.fg.map (λx=>[.sl (x.map cu)]))]
def P9(v:jH):Z PV:=[.sl (v.L.map (λx=>[.int .i64 x])),.int .i64 v.At]
def Me(v:cq):Z PV:=[.int .i64 v.World.Time,.sl (v.World.aY.map kH),.int .i64 v.World.fP,.sl (v.World.Net.cO.map oQ),.int .i64 v.World.Net.Next,.sl (v.World.Net.gk.map (λx=>[.int .i64 x])),.sl (v.World.Net.gI.map (λx=>[.int .i64 x])),.sl (v.World.fg.map (λx=>[.sl (x.map cu)]))]
def Mg(v:av):Z PV:=[.int .i64 v.aa.aF,.int .i64 v.aa.bt,.int .i64 v.aa.c6,.int .i64 v.aa.ae.aV,.sl (v.aa.ae.aY.map (λx=>[.int .i64 x])),.sl (v.aa.ae.bC.map cu),.int .i64 v.aa.eo,.int .i64 v.aa.aG.al,.str v.aa.aG.Value,.int .i64 v.aa.aR.al,.str v.aa.aR.Value,.int .i64 v.aa.bD.al,.str v.aa.bD.Value,.int .i64 v.aa.bN.al,.str v.aa.bN.Value,.int .i64 v.aa.eX,.int .i64 v.aa.dZ,.str v.aa.fX,.sl (v.aa.bn.map rP)]
def Ib(v:cg):Z PV:=[.int .i64 v.ah.aF,.int .i64 v.ah.bt,.int .i64 v.ah.c6,.int .i64 v.ah.ae.aV,.sl (v.ah.ae.aY.map (λx=>[.int .i64 x])),.sl (v.ah.ae.bC.map cu),.int .i64 v.ah.cQ,.int .i64 v.ah.aG.al,.str v.ah.aG.Value,.int .i64 v.ah.aR.al,.str v.ah.aR.Value,.int .i64 v.ah.bD.al,.str v.ah.bD.Value,.int .i64 v.ah.eX,.int .i64 v.ah.dZ]
def Ov(v:eM):Z PV:=[.int .i64 v.aF,.sl (v.View.dY.map rO),.sl (v.bn.map Ib)]
def Cm(v:lV):Z PV:=[.int .i64 v.Bx,.int .i64 v.Value]
def KB(v:iL):Z PV:=[.int .i64 v.aF,.int .i64 v.c6,.int .i64 v.ae.aV,.sl (v.ae.aY.map (λx=>[.int .i64 x])),.sl (v.ae.bC.map cu),.sl (v.du.map Cm),.sl (v.bL.map Cm)]
def Ra(v:By):Z PV:=[.int .i64 v.oT,.int .i64 v.low,.int .i64 v.tM,.int .i64 v.eC.al,.str v.eC.Value,.int .i64 v.c9.al,.str v.c9.Value,.int .i64 v.fM.al,.str v.fM.Value,.int .i64 v.cE.al,.str v.cE.Value]
def Hn(v:lx):Z PV:=[.int .i64 v.c0.al,.str v.c0.Value,.int .i64 v.c1.al,.str v.c1.Value]
def KD(v:qE):Z PV:=[.int .i64 v.c0,.int .i64 v.c1]
def Ow(v:lG):Z PV:=[.int .i64 v.NP,.int .i64 v.NR]
def iD.pv:(n:iD)->n.den->Z PV
 | .ae,v=>cu v
 | .ai,v=>tz v
 | .aP,v=>II v
 | .aG,v=>Mi v
 | .ah,v=>rP v
 | .aa,v=>KC v
 | .Timer,v=>Nc v
 | .bt,v=>Jk v
 | .dF,v=>kH v
 | .ak,v=>Mf v
 | .il,v=>oQ v
 | .na,v=>KA v
 | .World,v=>Nb v
 | .im,v=>rO v
 | .Config,v=>Mh v
 | .Step,v=>EP v
 | .Outcome,v=>Kz v
 | .jm,v=>Hm v
 | .k9,v=>IK v
 | .k8,v=>IJ v
 | .Src,v=>P9 v
 | .pQ,v=>Me v
 | .qd,v=>Mg v
 | .o0,v=>Ib v
 | .Seen,v=>Ov v
 | .Claim,v=>Cm v
 | .Message,v=>KB v
 | .sC,v=>Ra v
 | .jn,v=>Hn v
 | .nb,v=>KD v
 | .tW,v=>Ow v
def Ty.isAgg:Ty->Bool
 | .st _=>true
 |_=>false
def Ty.pv:(t:Ty)->t.den->Z PV
 | .i k,n=>[.int k n]
 | .bool,b=>[.bool b]
 | .str,s=>[.str s]
 | .sl t,(xs:Z t.den)=>[.sl (xs.map (Ty.pv t))]
 | .st n,v=>n.pv v
def sd:(b:Z Ty)->xM b->Z PV
 |[],_=>[]
 |t::l,v=>t.pv v.1++sd l v.2
def iD.FX:∀(n:iD) (v:n.den),n.pv v=sd n.leaves (n.toL v)
 | .ae,v=>by cases v;simp only[iD.pv,cu,zK];rfl
 | .ai,v| .aP,v| .aG,v| .ah,v| .aa,v| .Timer,v| .bt,v| .dF,v| .ak,v| .il,v| .na,v| .World,v| .im,v| .Config,v| .Step,v| .Outcome,v| .jm,v| .k9,v| .k8,v| .Src,v| .pQ,v| .qd,v| .o0,v| .Seen,v| .Claim,v| .Message,v| .sC,v| .jn,v| .nb,v| .tW,v=>rfl
def Ty.leaf:Ty->Bool
 | .st _=>false
 |_=>true
def iD.Dw:∀(n:iD),n.leaves.all Ty.leaf=true
 | .ae| .ai| .aP| .aG| .ah| .aa| .Timer| .bt| .dF| .ak| .il| .na| .World| .im| .Config| .Step| .Outcome| .jm| .k9| .k8| .Src| .pQ| .qd| .o0| .Seen| .Claim| .Message| .sC| .jn| .nb| .tW=>rfl
def iD.Uz:∀(n:iD) (v:xM n.leaves),n.toL (n.Pz v)=v
 | .ae,v| .ai,v| .aP,v| .aG,v| .ah,v| .aa,v| .Timer,v| .bt,v| .dF,v| .ak,v| .il,v| .na,v| .World,v| .im,v| .Config,v| .Step,v| .Outcome,v| .jm,v| .k9,v| .k8,v| .Src,v| .pQ,v| .qd,v| .o0,v| .Seen,v| .Claim,v| .Message,v| .sC,v| .jn,v| .nb,v| .tW,v=>rfl
def Ty.Mm:Ty->Bool
 | .sl _=>false
 |_=>true
@[reducible] def U:TU where
 Ty:=Ty
 PO:=Ty.PO
 den:=Ty.den
 pv:=Ty.pv
 size:=λt=>match t with| .st n=>n.leaves.length|_=>1
 agg:=Ty.isAgg
 plain:=λt=>match t with| .st n=>n.leaves.all Ty.Mm|t=>t.Mm
def Dx:(t:Ty)->t.den->KV U
 | .i k,n=> .int k n
 | .bool,b=> .bool b
 | .str,s=> .str s
 | .sl t,(xs:Z t.den)=> .sl t xs
 | .st _,_=> .any
def Dv:(b:Z Ty)->xM b->Z (KV U)
 |[],_=>[]
 |t::l,v=>Dx t v.1::Dv l v.2
def Tm:(t:Ty)->t.den->Z (KV U)
 | .st n,v=>Dv n.leaves (n.toL v)
 | .i k,v=>[Dx (.i k) v]
 | .bool,v=>[Dx .bool v]
 | .str,v=>[Dx .str v]
 | .sl t,v=>[Dx (.sl t) v]
def w8(lk:Lk U):(t:Ty)->KV U->Y t.den
 | .i k,x=>OR k x
 | .bool,x=>C3 x
 | .str,x=>OQ x
 | .sl t,x=>J6 (U:=U) lk t x
 | .st _,_=>none
def uN(lk:Lk U):(b:Z Ty)->Z (KV U)->Y (xM b)
 |[],cs=>match cs with|[]=>some ()|_=>none
 |t::l,cs=>match cs with
  |c::cs=>(match w8 lk t c with
   |some v=>(match uN lk l cs with|some vs=>some (v,vs)|none=>none)
   |none=>none)
  |[]=>none
def HK{α:Type}(f:KV U->Y α):Z (KV U)->Y α
 |[x]=>f x
 |_=>none
def Xi:(t:Ty)->Lk U->Z (KV U)->Y t.den
 | .st n,lk,cs=>(match uN lk n.leaves cs with|some v=>some (n.Pz v)|none=>none)
 | .i k,lk,cs=>HK (w8 lk (.i k)) cs
 | .bool,lk,cs=>HK (w8 lk .bool) cs
 | .str,lk,cs=>HK (w8 lk .str) cs
 | .sl t,lk,cs=>HK (w8 lk (.sl t)) cs
def OG:∀(t:Ty) (v:t.den),t.leaf=true->[(Dx t v).pv]=t.pv v
 | .i k,v,_| .bool,v,_| .str,v,_| .sl t,v,_=>rfl
 | .st _,_,h=>by cases h
def Gf:∀(b:Z Ty) (v:xM b),b.all Ty.leaf=true->(Dv b v).map KV.pv=sd b v
 |[],_,_=>rfl
 |t::l,v,h=>by rw[QA,Qa]at h;rw[Dv,sd,Qj,Gf l v.2 h.2,<-OG t v.1 h.1];rfl
def GM{lk:Lk U}:∀{t:Ty} {x:KV U} {v:t.den},w8 lk t x=some v->eH lk [x] (t.pv v)
 | .i k,x,v,h=> .cons (RE h) .nil
 | .bool,x,v,h=> .cons (RG h) .nil
 | .str,x,v,h=> .cons (RC h) .nil
 | .sl t,x,v,h=> .cons (RD (U:=U) h) .nil
 | .st _,_,_,h=>by cases h
def eH.bm{lk:Lk U}{x:KV U}{c:Z PV}{xs:Z (KV U)}{b:Z PV}(h:eH lk [x] c)(k:eH lk xs b):eH lk (x::xs) (c++b):=by
 cases h with
 |cons h1 d=>cases d with|nil=>exact .cons h1 k
def C2{lk:Lk U}:∀{b:Z Ty} {cs:Z (KV U)} {v:xM b},uN lk b cs=some v->eH lk cs (sd b v)
 |[],[],_,_=> .nil
 |[],_::_,_,h=>by cases h
 |_::_,[],_,h=>by cases h
 |t::l,c::cs,v,h=>by
  rw[uN]at h;split at h
  .rename_i i g;split at h
   .rename_i vs d;injection h with h
    subst h;exact(GM g).bm (C2 d)
   .cases h
  .cases h
def RH{α:Type}{f:KV U->Y α}{cs:Z (KV U)}{v:α}(h:HK f cs=some v):∃x,cs=[x]/\f x=some v:=by
 unfold HK at h;split at h
 .exact⟨_,rfl,h⟩
 .cases h
def Na:∀(b:Z Ty) (v:xM b),b.all Ty.leaf=true->(sd b v).length=b.length
 |[],_,_=>rfl
 |t::l,v,h=>by
  rw[QA,Qa]at h
  have:(t.pv v.1).length=1:=by
   cases t with
   |st n=>cases h.1
   |_=>rfl
  rw[sd,QZ,Na l v.2 h.2,this,QV,qav]
def mn:∀(t:Ty) (v:t.den),t.leaf=true->∀y∈t.pv v,y.ep=true/\(t.Mm=true->y.plain=true)
 | .i k,v,_,y,h| .bool,v,_,y,h| .str,v,_,y,h=>by simp only[Ty.pv,qae]at h;subst h;exact⟨rfl,λ_=>rfl⟩
 | .sl t,v,_,y,h=>by simp only[Ty.pv,qae]at h;subst h;exact⟨rfl,λh=>by cases h⟩
 | .st _,_,h,_,_=>by cases h
def zj:∀(d:Z Ty) (v:xM d),d.all Ty.leaf=true->∀y∈sd d v,y.ep=true/\(d.all Ty.Mm=true->y.plain=true)
 |[],_,_,y,h=>by cases h
 |t::l,v,h,y,b=>by
  rw[QA,Qa]at h;rw[sd,Qr]at b;rcases b with b|b
  .obtain⟨h1,g⟩:=mn t v.1 h.1 y b;exact⟨h1,λc=>by rw[QA,Qa]at c;exact g c.1⟩
  .obtain⟨h1,g⟩:=zj l v.2 h.2 y b;exact⟨h1,λc=>by rw[QA,Qa]at c;exact g c.2⟩
def Jy:iD->Y (IntKind×IntKind)
 | .Timer| .Claim| .nb| .tW=>some (.i64,.i64)
 |_=>none
def Hp:∀(n:iD) (k l:IntKind),Jy n=some (k,l)->∀v,∃a b,Tm (.st n) v=[.int k a,.int l b]
 | .Timer,_,_,h| .Claim,_,_,h| .nb,_,_,h| .tW,_,_,h=>by injection h with h;injection h with h1 c;subst h1 c;exact λv=>⟨_,_,rfl⟩
 | .ae,_,_,h| .ai,_,_,h| .aP,_,_,h| .aG,_,_,h| .ah,_,_,h| .aa,_,_,h| .bt,_,_,h| .dF,_,_,h| .ak,_,_,h| .il,_,_,h| .na,_,_,h| .World,_,_,h| .im,_,_,h| .Config,_,_,h| .Step,_,_,h| .Outcome,_,_,h| .jm,_,_,h| .k9,_,_,h| .k8,_,_,h| .Src,_,_,h| .pQ,_,_,h| .qd,_,_,h| .o0,_,_,h| .Seen,_,_,h| .Message,_,_,h| .sC,_,_,h| .jn,_,_,h=>by cases h
def Uy:Z (Nat×Ty):=[(3,(Ty.i .i64)),(4,Ty.bool),(9,Ty.str),(34,(Ty.st .World)),(40,(Ty.st .Config)),(42,(Ty.sl (Ty.st .ae))),(44,(Ty.st .ae)),(46,(Ty.st .aG)),(48,(Ty.st .ah)),(52,(Ty.st .ai)),(54,(Ty.st .ak)),(57,(Ty.st .Step)),(60,(Ty.st .dF)),(65,(Ty.st .im)),(66,(Ty.sl (Ty.st .Step))),(73,(Ty.st .Outcome)),(117,(Ty.st .bt)),(158,(Ty.st .il)),(313,(Ty.st .o0)),(343,(Ty.st .Message)),(411,(Ty.st .Claim))]
def M3(n:Nat):Z (Nat×Ty)->Y Ty
 |[]=>none
 |(k,t)::l=>(match Nat.beq k n with|true=>some t|false=>M3 n l)
@[reducible] def K:TK U where
 dI:=Tm
 dec:=Xi
 I8:=λn=>M3 n Uy
 lT:=λt v=>by
  cases t with
  |st n=>exact(Gf _ _ n.Dw).trans (n.FX v).symm
  |_=>rfl
 iP:=λt lk cs v h=>by
  cases t with
  |st n=>
   change (match uN lk n.leaves cs with|some v=>some (n.Pz v)|none=>none)=some v at h
   split at h
   .rename_i u d;injection h with h
    subst h;have:=C2 d
    change eH lk cs (n.pv (n.Pz u))
    rw[n.FX,n.Uz];exact this
   .cases h
  |i k|bool|str|sl t=>obtain⟨x,rfl,c⟩:=RH h;exact GM c
 len:=λt v=>by
  cases t with
  |st n=>exact(QJ List.length (n.FX v)).trans (Na _ _ n.Dw)
  |_=>rfl
 ep:=λt v y b=>by
  cases t with
  |st n=>exact(zj _ (n.toL v) n.Dw y (Eq.mp (QJ (y∈·) (n.FX v)) b)).1
  |i k=>exact(mn (.i k) v rfl y b).1
  |bool=>exact(mn .bool v rfl y b).1
  |str=>exact(mn .str v rfl y b).1
  |sl t=>exact(mn (.sl t) v rfl y b).1
 one:=λt h=>by
  cases t with
  |st n=>cases h
  |_=>rfl
 plain:=λt h v y b=>by
  cases t with
  |st n=>exact(zj _ (n.toL v) n.Dw y (Eq.mp (QJ (y∈·) (n.FX v)) b)).2 h
  |i k=>exact(mn (.i k) v rfl y b).2 rfl
  |bool=>exact(mn .bool v rfl y b).2 rfl
  |str=>exact(mn .str v rfl y b).2 rfl
  |sl t=>cases h
 Jy:=λt=>match t with| .st n=>Jy n|_=>none
 Hp:=λt k l h=>by
  cases t with
  |st n=>exact⟨rfl,Hp n k l h⟩
  |_=>cases h
end
section
open Go.RowKit
def KL{w:Wo}{a:Addr}{v:Va}(h:w.cell? a=some v):∃t n,w.shape? a.block=some (t,n+1):=by
 unfold World.cell? at h;unfold World.shape?;split at h
 .rename_i c t fr d;split at h
  .cases h
  .have b:=(Qz.1 h).1;exact⟨t,c.size - 1,by simp only[Qb,QY,qaM];omega⟩
 .cases h
def EK{P:Pr}(w:Wo)(d D e:TI)(B:P.underlying d=some (.slice e))(size:Nat)(A:∀w,(Go.sizeOf e).run P w= .ok size w)
  (a b:Addr) (m I l H:Nat) (h:a.block≠b.block) {v:Va} (G:w.cell? a=some v) {c:Array Va} {t:TI} (x:w.heap[b.block]?=some (.cells c t (0,0))) (y:c.size≠0):
  (Extern.SlicesOverlaps.overlaps #[d,d] #[D] #[.slice (some a) m I,.slice (some b) l H]).run P w= .ok (.bool false) w:=by
 obtain⟨J,F,n⟩:=KL G;have g:w.shape? b.block=some (t,c.size):=by simp[World.shape?,x]
 have s:w.frozen? b=false:=by simp[World.frozen?,x]
 have j:w.frozen? {block:=b.block,off:=c.size}=false:=by simp[World.frozen?,x]
 have o:(a.block !=b.block)=true:=by simpa using h
 have i:(a.block==b.block)=false:=by simpa using h
 obtain⟨z,p⟩:∃z,c.size=z+1:=⟨c.size - 1,O⟩;rw[p]at g j
 change Sem.run P (α:=Va) (do
  let some t:=(#[d,d]:Array TI)[0]?|stuck "slices.overlaps: no parameter types"
  let .slice elem <-underlying t|stuck "slices.overlaps: slice type expected"
  let size <-sizeOf elem
  match(some a:Y Addr),(some b:Y Addr)with
  |some a,some b=>
   if m=0\/l=0\/size=0 then pure (Value.bool false)
   else if a.block !=b.block&&(<-frozen a)&&(<-frozen b)then unsupported .addressObserved
   else do
    if a.block !=b.block then do
     noView a;noView b
     if<-mayBeOne a b then return Value.bool ((<-choose (.extern "sameAddr.stringBytes" 2))==1)
    pure (Value.bool (a.block==b.block&&a.off<b.off+l*size&&b.off<a.off+m*size))
  |_,_=>pure (Value.bool false)) w=_
 by_cases y:m=0\/l=0\/size=0
 .simp[Qo B,A,y]
 .cases u:w.frozen? a<;>cases q:w.frozen? {block:=a.block,off:=F+1}<;>
   simp[Qo B,A,y,o,i,frozen,noView,viewAt,mayBeOne,stringish,shape,Sem.run,n,g,u,q,s,j]
def NM(a:Addr):a.add 0=a:=by
 cases a with
 |mk b o s=>unfold Addr.add;split<;>simp_all
def Bu(a:Addr)(n:Nat):(a.add n).block=a.block:=by unfold Addr.add;split<;>rfl
def lK{α:Type}(l:Z α)(o:Nat)(c:Z α):Z α:=l.take o++c++l.drop (o+c.length)
def AP{α:Type}{l:Z α}{o:Nat}{c:Z α}(h:o+c.length<=l.length):(lK l o c).length=l.length:=by simp[lK];omega
def Mk{α:Type}{l us b:Z α}{a:Nat}(h:a+us.length+b.length<=l.length):lK (lK l a us) (a+us.length) b=l.take a++us++b++l.drop (a+us.length+b.length):=by
 have c:(l.take a++us).length=a+us.length:=o_
 have g:(lK l a us).take (a+us.length)=l.take a++us:=by rw[lK,List.take_append_of_le_length O,List.take_of_length_le O]
 have d:(lK l a us).drop (a+us.length+b.length)=l.drop (a+us.length+b.length):=by rw[lK,<-List.drop_drop,<-c,List.drop_left,List.drop_drop,c]
 rw[lK,g,d]
def KE{α:Type}{l us b:Z α}{a:Nat}(h:a+us.length+b.length<=l.length):lK (lK l (a+us.length) b) a us=l.take a++us++b++l.drop (a+us.length+b.length):=by
 have g:(l.take (a+us.length)).length=a+us.length:=o_
 have d:(lK l (a+us.length) b).take a=l.take a:=by rw[lK,qaj,List.take_append_of_le_length O,List.take_take,qaB O]
 have c:(lK l (a+us.length) b).drop (a+us.length)=b++l.drop (a+us.length+b.length):=by
  conv=>lhs;rw[lK,qaj]
  exact List.drop_left' g
 rw[lK,d,c,qaj,qaj,qaj]
def pG(w:Wo)(g:Nat)(cs:Array Va){b:Nat}(h:b≠g):(w.setRow g cs).heap[b]?=w.heap[b]?:=by simp only[World.setRow,qbA];rw[Qf (λe=>h e.symm)]
def H2(w:Wo)(g:Nat)(cs:Array Va):Fr (some g) w (w.setRow g cs):=⟨rfl,rfl,rfl,by simp[World.setRow],λb _ c=>pG w g cs (λe=>c (by rw[e])),DL.refl _⟩
def Fr.U7(w:Wo)(rb:Y Nat):Fr rb w w.drew:=⟨rfl,rfl,rfl,Ql _,λ_ _ _=>rfl,DL.of (qas _)⟩
def Fr.trans'{rb:Y Nat}{a b c:Wo}(h:Fr rb a b)(k:Fr rb b c):Fr rb a c:=⟨k.os.trans h.os,k.tape.trans h.tape,k.output.trans h.output,QS h.size k.size,λi hi d=>(k.block i (QH hi h.size) d).trans (h.block i hi d),h.drawn.trans k.drawn⟩
def EF{w w':Wo}{v u:Va}{X:Nat->Prop}(n:Fr (br v) w w')(m:∀b,br u=some b->br v=some b\/w.heap.size<=b):bO w w' (Mv v X) (Mv u X):=by
 have g:∀b,b<w.heap.size->¬Mv v X b->w'.heap[b]?=w.heap[b]?/\¬Mv u X b:=λb c d=>⟨n.block b c λh=>d (.inl h),by
  rintro(h|h)
  .rcases m _ h with h|h
   .exact d (.inl h)
   .omega
  .exact d (.inr h)⟩
 refine⟨λa x j d=> ?_,λb es o l d=> ?_⟩
 .have c:a.block<w.heap.size:=by
   by_cases h:a.block<w.heap.size
   .exact h
   .have:w.heap[a.block]?=none:=by rw[qbG];omega
    simp[World.cell?,this]at j
  obtain⟨h1,i⟩:=g _ c d;exact⟨(World.cell?_of_block h1).trans j,i⟩
 .obtain⟨h1,i⟩:=g b (Qz.1 l).1 d;exact⟨h1.trans l,i⟩
def Jc{w:Wo}{M:Nat->Prop}{es:Z (Z PV)}{xs:Z Va}(h:aK w M cr es.flatten xs)(j:∀u∈es,u.all PV.one=true):∀x∈xs,x.oneCell'=true:=by
 intro x i;obtain⟨q,d,rfl⟩:=List.mem_iff_getElem.1 i;have g:q<es.flatten.length:=by rw[<-h.1];exact d
 obtain⟨el,c,b⟩:=List.mem_flatten.1 (qar g);exact((h.2 q _ _ (Qv g) (Qv d)).one (Qe.1 (j el c) _ b)).1
structure MS (n c i m:Nat):Prop where
 z1:¬((m:Int)=0)
 z2:¬((i:Int)=(n:Int))
 w1:IntKind.i64.wrap ((i:Int)+(m:Int))=(i:Int)+(m:Int)
 b1:(0:Int)<=(i:Int)+(m:Int)
 tn:((i:Int)+(m:Int)).toNat=i+m
 b3:(i:Int)<=(n:Int)+(m:Int)
 b4:¬(c=i)
 b5:(i:Int)<=(n:Int)
def MS.of{n c i m:Nat}(hi:i<n)(g:n<=c)(b:c<=9223372036854775807)(d:0<m)(h:n+m<=9223372036854775807):MS n c i m:=
 ⟨O,O,by rw[qbv];omega,O,O,O,O,O⟩
structure Fx (P:Program) (f S E I B ov k bytes:Nat):Prop where
 Xd:0<k
 hS:P.underlying S=some (.slice E)
 hI:P.underlying I=some (.int .i64)
 Xe:∃(i:TypeInfo) (z:Value),P.info? E=some i/\i.zero=some z/\z.cells.size=k/\i.size=k/\i.bytes=bytes
 OB:∀(x:Array Value) (w:World),(Extern.SlicesOverlaps.overlaps #[S,S] #[B] x).run P w= .ok (.bool false) w->(callFunc ov x).run P w= .ok (.value (.bool false)) w
 Np:∀(g n c i:Nat),i<=n->n<=c->c<=9223372036854775807->∀(u:Option Addr) (vc:Nat) (w:World),
  Calls P f #[.slice (some ⟨g,0,none⟩) n c,.int .i64 i,.slice u 0 vc] w λe w'=>e= .returned (.slice (some ⟨g,0,none⟩) n c)/\w'=w
 OC:∀(u:Option Addr) (vc:Nat) (w:World),Calls P f #[.slice none 0 0,.int .i64 0,.slice u 0 vc] w λe w'=>e= .returned (.slice none 0 0)/\w'=w
 Tu:∀(g n c:Nat),n<=c->c<=9223372036854775807->∀(ad:Addr) (m vc:Nat),0<m->∀(w w1:World) (v1:Value),
  (∀ty,(Builtin.append_ #[S,S] ty #[.slice (some ⟨g,0,none⟩) n c,.slice (some ad) m vc]).run P w= .ok v1 w1)->
  Calls P f #[.slice (some ⟨g,0,none⟩) n c,.int .i64 n,.slice (some ad) m vc] w λe w'=>e= .returned v1/\w'=w1
 MM:∀(ad:Addr) (m vc:Nat),0<m->∀(w w1:World) (v1:Value),
  (∀ty,(Builtin.append_ #[S,S] ty #[.slice none 0 0,.slice (some ad) m vc]).run P w= .ok v1 w1)->
  Calls P f #[.slice none 0 0,.int .i64 0,.slice (some ad) m vc] w λe w'=>e= .returned v1/\w'=w1
 shift:∀(g n c i:Nat),i<n->c<=9223372036854775807->∀(ad:Addr) (m vc:Nat),0<m->n+m<=c->MS n c i m->¬(c=i+m)->∀(w w1 w2:World),
  (∀lb cb,(callFunc ov #[.slice (some ad) m vc,.slice (some ⟨g,(i+m)*k,none⟩) lb cb]).run P w= .ok (.value (.bool false)) w)->
  (∀ty dc sc,(Builtin.copy_ #[S,S] ty #[.slice (some ⟨g,(i+m)*k,none⟩) (n+m - (i+m)) dc,.slice (some ⟨g,i*k,none⟩) (n+m - i) sc]).run P w.drew= .ok (goInt (n - i:Nat)) w1)->
  (∀ty dc,(Builtin.copy_ #[S,S] ty #[.slice (some ⟨g,i*k,none⟩) (n+m - i) dc,.slice (some ad) m vc]).run P w1= .ok (goInt m) w2)->
  Calls P f #[.slice (some ⟨g,0,none⟩) n c,.int .i64 i,.slice (some ad) m vc] w λe w'=>e= .returned (.slice (some ⟨g,0,none⟩) (n+m) c)/\w'=w2
 grow:∀(g n c i:Nat),i<n->n<=c->c<=9223372036854775807->∀(ad:Addr) (m vc:Nat),0<m->c<n+m->∀(N G:Nat),n+m<=G->G<=9223372036854775807->MS n c i m->(c:Int)<(n:Int)+(m:Int)->¬(G=i)->¬(G=i+m)->∀(w w1 w2 w3:World),
  (∀ty,(Builtin.append_ #[S,I] ty #[.slice (some ⟨g,0,none⟩) i c,.int .i64 ((n:Int)+(m:Int) - (i:Int))]).run P w= .ok (.slice (some ⟨N,0,none⟩) (n+m) G) w1)->
  (∀ty dc,(Builtin.copy_ #[S,S] ty #[.slice (some ⟨N,i*k,none⟩) (n+m - i) dc,.slice (some ad) m vc]).run P w1= .ok (goInt m) w2)->
  (∀ty dc sc,(Builtin.copy_ #[S,S] ty #[.slice (some ⟨N,(i+m)*k,none⟩) (n+m - (i+m)) dc,.slice (some ⟨g,i*k,none⟩) (n - i) sc]).run P w2.drew= .ok (goInt (n - i:Nat)) w3)->
  Calls P f #[.slice (some ⟨g,0,none⟩) n c,.int .i64 i,.slice (some ad) m vc] w λe w'=>e= .returned (.slice (some ⟨N,0,none⟩) (n+m) G)/\w'=w3
def Ah{P:Pr}{E k bytes:Nat}(h:(P.info? E).map (λi=>(i.zero.map (·.cells.size),i.size,i.bytes))=some (some k,k,bytes)):∃(i:TypeInfo) (z:Va),P.info? E=some i/\i.zero=some z/\z.cells.size=k/\i.size=k/\i.bytes=bytes:=by
 rw[Qi]at h;obtain⟨i,h1,b⟩:=h;injection b with b c
 injection c with c j
 rw[Qi]at b;obtain⟨z,g,d⟩:=b;exact⟨i,z,h1,g,d,c,j⟩
def Rm{P:Pr}{f S E I B ov k o:Nat}(H:Fx P f S E I B ov k o){es vs:Z (Z PV)}{i:Nat}(hi:i<=es.length)(h1e:∀u∈es,u.all PV.one=true)(hvs:∀u∈vs,u.length=k/\u.all PV.one=true)
  (F:es.length+vs.length<=maxLen) (hby:(es.length+vs.length)*o<=140737488355328):FD P f E k es [.int .i64 i,.sl vs] (es.take i++vs++es.drop i):=by
 have hk0:=H.Xd;intro w X hX v args hvX ⟨xs,q,hke,hr⟩ x;obtain⟨a1,args,rfl,ha1,x⟩:=x.cons_inv;obtain⟨a2,args,rfl,ha2,x⟩:=x.cons_inv;obtain rfl:=x.lO;obtain rfl:=ha1.c4;obtain⟨inf,z,hi1,hi2,hi3,hi4,hi5⟩:=H.Xe;have hsz:(P.info? E).map (·.size)=some k:=by rw[hi1];simp[hi4]
 have hmem:∀u∈es.take i++vs++es.drop i,u.length=k:=by
  intro u hu;rw[Qr,Qr]at hu;rcases hu with(hu|hu)|hu
  .exact hke u (qbi hu)
  .exact(hvs u hu).1
  .exact hke u (qbj hu)
 have same:vs=[]->es.take i++vs++es.drop i=es:=λh=>by rw[h];simp
 by_cases hm0:vs=[]
 .rw[same hm0]
  have hz:∃u vc,a2= .slice u 0 vc:=by
   subst hm0;rcases ha2.xd with⟨h,_⟩|⟨ad,c,_,_,h,_⟩
   .exact⟨_,_,h⟩
   .exact⟨_,_,h⟩
  obtain⟨u,vc,rfl⟩:=hz
  have post:∀(e:Ending) (w':Wo),e= .returned v/\w'=w->∃u,e= .returned u/\sB w' (Mv u X) E k u es/\(∀b,br u=some b->br v=some b\/w.heap.size<=b)/\Fr (br v) w w':=by rintro e w' ⟨rfl,rfl⟩;exact⟨v,rfl,⟨xs,q,hke,hr⟩,λb t=> .inl t,Fr.refl _ _⟩
  rcases q.2 with⟨rfl,h0⟩|⟨g,cap,A,rfl,_,hg,hnc,hcm,hcs,htk⟩
  .obtain rfl:i=0:=O;exact(H.OC u vc w).mono λe w' h=>post e w' h
  .exact(H.Np g es.length cap i hi hnc (by simp only[maxLen]at hcm;omega) u vc w).mono λe w' h=>post e w' h
 .
  have hm:0<vs.length:=List.length_pos_iff.2 hm0;rcases ha2.xd with⟨_,h⟩|⟨ad,vc,k',us,rfl,hk',hru,hcu,_,_⟩
  .exact absurd h hm0
  have M:us.length=vs.length*k:=by rw[hru.1,ib vs k λu hu=>(hvs u hu).1]
  have D:=Jc hru λu hu=>(hvs u hu).2
  have hpos:0<us.length:=by rw[M];exact Nat.mul_pos hm hk0
  obtain⟨c0,hc0⟩:∃c0,us[0]?=some c0:=⟨_,Qv hpos⟩;obtain⟨had,hadM⟩:=hcu 0 c0 hc0;have had:w.cell? ad=some c0:=by rw[NM]at had;exact had
  have p:∀(j:Nat) (u:Va),us[j]?=some u->w.cell? (ad.add j)=some u:=λj u J=>(hcu j u J).1
  have hadlt:ad.block<w.heap.size:=by
   by_cases h:ad.block<w.heap.size
   .exact h
   .have:w.heap[ad.block]?=none:=by rw[qbG];omega
    simp[World.cell?,this]at had
  have fin:∀(v1:Va) (w1:Wo),w1.ownsRow 0 E k v1 (es.length+vs.length) (xs++us)->w.grownBy w1 v.ownBlock->(v1.ownBlock=v.ownBlock\/v1.ownBlock=some w.heap.size)->(∃a n c,v= .slice a n c)->i=es.length->w.drawn<=w1.drawn->
    ∀(e:Ending) (w':Wo),e= .returned v1/\w'=w1->∃u,e= .returned u/\sB w' (Mv u X) E k u (es.take i++vs++es.drop i)/\(∀b,br u=some b->br v=some b\/w.heap.size<=b)/\Fr (br v) w w':=by
   rintro v1 w1 ho hgr hat ⟨a0,n0,c0,hv0⟩ hie hdr e w' ⟨rfl,rfl⟩;have hb0:v.ownBlock=br v:=ig hv0
   have hb1:v1.ownBlock=br v1:=by
    rcases ho.2 with⟨h,_⟩|⟨_,_,_,h,_⟩
    .exact ig h
    .exact ig h
   have N:Fr (br v) w w':=⟨hgr.os,hgr.tape,hgr.output,hgr.size,λb t hne=>hgr.block b t (λh=>hne (by rw[<-hb0,<-h])),DL.of hdr⟩
   have hub:∀b,br v1=some b->br v=some b\/w.heap.size<=b:=λb t=>by
    rw[<-hb1]at t;rcases hat with h|h
    .exact .inl (by rw[<-hb0,<-h];exact t)
    .rw[h]at t;injection t with t;exact .inr O
   have he:es.take i++vs++es.drop i=es++vs:=by subst hie;simp
   rw[he]at hmem ⊢;refine⟨v1,rfl,⟨xs++us,by rw[QZ];exact ho,hmem,?_⟩,hub,N⟩
   rw[List.flatten_append];exact(hr.append hru).mono (EF N hub) (cr.le _)
  rcases q.2 with⟨rfl,h0⟩|⟨g,cap,A,rfl,hb0,hg,hnc,hcm,hcs,htk⟩
  .obtain rfl:i=0:=O;obtain⟨v1,w1,r1,r2,r3,_,r5⟩:=qbr (P:=P) w 0 S 0 E inf z k o H.hS hi1 hi2 hi4 hi5 hi3 hk0 (.slice none 0 0) es.length xs q ad vs.length vc us M p D F hby (Q9 _);exact(H.MM ad vs.length vc hm w w1 v1 λty=>r1).mono λe w' h=>fin v1 w1 r2 r3 r5 ⟨_,_,_,rfl⟩ h0.symm (xI (P:=P) w 0 S 0 E inf z k o H.hS hi1 hi2 hi4 hi5 hk0 (.slice none 0 0) es.length xs q ad vs.length vc us M p D F hby r1) e w' h
  .have Q:cap<=9223372036854775807:=by simp only[maxLen]at hcm;omega
   by_cases hie:i=es.length
   .obtain⟨v1,w1,r1,r2,r3,_,r5⟩:=qbr (P:=P) w 0 S 0 E inf z k o H.hS hi1 hi2 hi4 hi5 hi3 hk0 _ es.length xs q ad vs.length vc us M p D F hby (Q9 _);have:=H.Tu g es.length cap hnc Q ad vs.length vc hm w w1 v1 λty=>r1
    rw[<-hie]at this ⊢;exact this.mono λe w' h=>fin v1 w1 r2 r3 r5 ⟨_,_,_,rfl⟩ hie (xI (P:=P) w 0 S 0 E inf z k o H.hS hi1 hi2 hi4 hi5 hk0 _ es.length xs q ad vs.length vc us M p D F hby r1) e w' h
   .have hin:i<es.length:=O;have hM:∀b,Mv (.slice (some ⟨g,0,none⟩) es.length cap) X b->True:=λ_ _=>trivial
    have hne:ad.block≠g:=λh=>hadM (.inl (by rw[h];rfl))
    have hglt:g<w.heap.size:=(Qz.1 hg).1;have hxl:xs.length=es.length*k:=q.1;have hcl:es.length*k<=A.toList.length:=by simpa[hcs]using QT k hnc
    have hx1:=Jc hr h1e;obtain⟨V,hys⟩:∃V,V=xs.drop (i*k):=⟨_,rfl⟩;have hyl:V.length=(es.length - i)*k:=by rw[hys,List.length_drop,hxl,Nat.sub_mul]
    have hy1:∀y∈V,y.oneCell'=true:=λy hy=>hx1 y (qbj (hys▸hy))
    have hcx:∀(j:Nat) (u:Va),xs[j]?=some u->w.cell? ⟨g,j,none⟩=some u:=λj u J=>by
     refine kS hg ?_;rw[<-htk,qay]at J;split at J
     .exact J
     .cases J
    have hcy:∀(j:Nat) (u:Va),V[j]?=some u->w.cell? ((⟨g,i*k,none⟩:Addr).add j)=some u:=λj u J=>by rw[add_mid];rw[hys,List.getElem?_drop]at J;exact hcx _ u J
    have hik:i*k+us.length=(i+vs.length)*k:=by rw[M,QM]
    have htot:i*k+us.length+V.length=(es.length+vs.length)*k:=by rw[M,hyl,<-QM,<-QM];congr 1;omega
    have hres:aK w (Mv (.slice (some ⟨g,0,none⟩) es.length cap) X) cr (es.take i++vs++es.drop i).flatten (xs.take (i*k)++us++V):=by rw[List.flatten_append,List.flatten_append,ou k i es hke,su k i es hke,hys];exact((hr.take _).append hru).append (hr.drop _)
    have s:(es.take i++vs++es.drop i).length=es.length+vs.length:=o_
    have htl:(xs.take (i*k)++us++V).length=(es.length+vs.length)*k:=by rw[QZ,QZ,List.length_take,hxl,qaB (QT k hi)];exact htot
    by_cases W:es.length+vs.length<=cap
    .
     have hfit:(es.length+vs.length)*k<=A.toList.length:=by simpa[hcs]using QT k W
     have r1:=qe (P:=P) w.drew S S 0 E g ((i+vs.length)*k) (es.length+vs.length - (i+vs.length)) 0 ⟨g,i*k,none⟩ (es.length+vs.length - i) 0 A E V k (es.length - i) H.hS hsz hg
      (by simp only[qbf];split<;>omega) hyl hcy (by simp only[Q0]at hfit;omega) hy1
     obtain⟨d,m⟩:∃d:Array Va,d=(lK A.toList ((i+vs.length)*k) V).toArray:=⟨_,rfl⟩;have hg1:(w.drew.setRow g d).heap[g]?=some (.cells d E (0,0)):=qaC w.drew g A _ E _ hg
     have hl1:d.size=cap*k:=by rw[m,List.size_toArray,AP (by rw[<-hik];omega),Q0,hcs]
     have r2:=qe (P:=P) (w.drew.setRow g d) S S 0 E g (i*k) (es.length+vs.length - i) 0 ad vs.length vc d E us k vs.length H.hS hsz hg1
      (by simp only[qbf];split<;>omega) M (λj u J=>by rw[World.cell?_of_block (w:=w) (pG w.drew g d (by rw[Bu];exact hne))];exact p j u J)
      (by rw[hl1,<-hcs,<-Q0];omega) D
     obtain⟨cur2,l⟩:∃cur2:Array Va,cur2=(lK d.toList (i*k) us).toArray:=⟨_,rfl⟩;have hg2:((w.drew.setRow g d).setRow g cur2).heap[g]?=some (.cells cur2 E (0,0)):=qaC _ g d _ E _ hg1
     have hc2:cur2.toList=xs.take (i*k)++us++V++A.toList.drop ((es.length+vs.length)*k):=by rw[l,m,<-hik,KE O,htot,<-htk,List.take_take,qaB (QT k hi)]
     have hC:A.toList.length=cap*k:=(Q0 (xs:=A)).trans hcs;have hL1:d.toList.length=cap*k:=(Q0 (xs:=d)).trans hl1;have N:Fr (some g) w ((w.drew.setRow g d).setRow g cur2):=(Fr.U7 w _).trans' ((H2 _ g _).trans' (H2 _ g _))
     have hcap0:A.size≠0:=by have:0<cap:=O;rw[hcs];exact qby (Nat.mul_pos this hk0)
     refine(H.shift g es.length cap i hin Q ad vs.length vc hm W (.of hin O Q hm O) O w (w.drew.setRow g d) ((w.drew.setRow g d).setRow g cur2) (λlb cb=> ?_) (λty dc sc=> ?_) (λty dc=> ?_)).mono ?_
     .exact H.OB _ w (EK w S B E H.hS k (λw'=>by simp[Go.sizeOf,typeInfo,hi1,hi4]) ad ⟨g,(i+vs.length)*k,none⟩ vs.length vc lb cb hne had hg hcap0)
     .rw[m];exact r1
     .rw[l];exact r2
     .rintro e w' ⟨rfl,rfl⟩;refine⟨_,rfl,⟨xs.take (i*k)++us++V,⟨?_,.inr ⟨g,cap,cur2,by rw[s],hb0,hg2,by rw[s];exact W,hcm,?_,?_⟩⟩,hmem,hres.mono (@EF w _ (.slice (some ⟨g,0,none⟩) es.length cap) (.slice (some ⟨g,0,none⟩) (es.length+vs.length) cap) X N λb t=> .inl t) (cr.le _)⟩,λb t=> .inl t,N⟩
      .rw[htl,s]
      .rw[l,List.size_toArray,AP (by rw[hL1];omega),hL1]
      .rw[s,hc2,<-htl,List.take_left' rfl]
    .
     have hik2:i+(es.length+vs.length - i)=es.length+vs.length:=O
     have hold:(Builtin.firstCells inf.size i (.slice (some ⟨g,0,none⟩) i cap)).run P w.drew= .ok (xs.take (i*k)).toArray w.drew:=by
      rw[hi4];refine run_firstCells_some w.drew k i ⟨g,0,none⟩ i cap (xs.take (i*k)) (by rw[List.length_take,hxl];exact qaB (QT k hi)) λj u J=> ?_
      rw[add_mid,qam];rw[qay]at J;split at J
      .exact hcx j u J
      .cases J
     have hmax':es.length+vs.length<=9223372036854775807:=by simp only[maxLen]at F;omega
     have r0:=λty=>Lib.run_append_grow_zeros (P:=P) w S I ty E inf z .i64 .i64 H.hS H.hI hi1 hi2 (some ⟨g,0,none⟩) i cap (xs.take (i*k)) hold (es.length+vs.length - i) O O O O
      (by rw[hi5];have:=QT o (show es.length+vs.length - i<=es.length+vs.length by omega);omega) (by rw[hi5,hik2];exact growslice_fits O hby)
     rw[hik2]at r0;obtain⟨G,hG⟩:∃G,G=grownCap w (es.length+vs.length) cap E:=⟨_,rfl⟩;have hGn:es.length+vs.length<=G:=by rw[hG];exact grownCap_ge w _ _ _
     have hGm:G<=maxLen:=by rw[hG];exact grownCap_le_maxLen w _ _ _ F
     have hG63:G<=9223372036854775807:=by simp only[maxLen]at hGm;omega
     rw[<-hG]at r0;obtain⟨row,hrow⟩:∃row:Array Va,row=(xs.take (i*k)).toArray++Builtin.zeroCells z.cells (es.length+vs.length - i)++Builtin.zeroCells z.cells (G - (es.length+vs.length)):=⟨_,rfl⟩;rw[<-hrow]at r0;have hrt:(xs.take (i*k)).length=i*k:=by rw[List.length_take,hxl];exact qaB (QT k hi)
     have hrl:row.size=G*k:=by rw[hrow,qbB,qbB,List.size_toArray,hrt,size_zeroCells,size_zeroCells,hi3,<-QM,<-QM];congr 1;omega
     have hrtake:row.toList.take (i*k)=xs.take (i*k):=by rw[hrow,Array.toList_append,Array.toList_append,qaj];exact List.take_left' hrt
     have hN:(w.drew.alloc (.cells row E)).heap[w.heap.size]?=some (.cells row E (0,0)):=by show(w.heap.push (.cells row E))[w.heap.size]?=_;simp
     have hkeep:∀b,b<w.heap.size->(w.drew.alloc (.cells row E)).heap[b]?=w.heap[b]?:=λb t=>Below.heap_alloc w.drew _ b t
     have hfit:(es.length+vs.length)*k<=row.size:=by rw[hrl];exact QT k hGn
     have r1:=qe (P:=P) (w.drew.alloc (.cells row E)) S S 0 E w.heap.size (i*k) (es.length+vs.length - i) 0 ad vs.length vc row E us k vs.length H.hS hsz hN
      (by simp only[qbf];split<;>omega) M (λj u J=>by rw[World.cell?_of_block (w:=w) (hkeep _ (by rw[Bu];exact hadlt))];exact p j u J) O D
     have hR:row.toList.length=G*k:=(Q0 (xs:=row)).trans hrl;obtain⟨d,m⟩:∃d:Array Va,d=(lK row.toList (i*k) us).toArray:=⟨_,rfl⟩;have hl1:d.size=G*k:=by rw[m,List.size_toArray,AP (by rw[hR];omega),hR]
     have hL1:d.toList.length=G*k:=(Q0 (xs:=d)).trans hl1;have hg1:((w.drew.alloc (.cells row E)).setRow w.heap.size d).drew.heap[w.heap.size]?=some (.cells d E (0,0)):=qaC _ _ row _ E _ hN
     have r2:=qe (P:=P) ((w.drew.alloc (.cells row E)).setRow w.heap.size d).drew S S 0 E w.heap.size ((i+vs.length)*k) (es.length+vs.length - (i+vs.length)) 0 ⟨g,i*k,none⟩ (es.length - i) 0 d E V k (es.length - i) H.hS hsz hg1
      (by simp only[qbf];split<;>omega) hyl (λj u J=>by
       rw[World.cell?_of_block (w:=w) (w':=((w.drew.alloc (.cells row E)).setRow w.heap.size d).drew) (((pG _ w.heap.size d (by rw[Bu];exact qan hglt)).trans (hkeep _ (by rw[Bu];exact hglt))))]
       exact hcy j u J) (by rw[hl1,<-hrl,<-hik];omega) hy1
     obtain⟨cur2,l⟩:∃cur2:Array Va,cur2=(lK d.toList ((i+vs.length)*k) V).toArray:=⟨_,rfl⟩;obtain⟨w3,hw3⟩:∃w3,w3=((w.drew.alloc (.cells row E)).setRow w.heap.size d).drew.setRow w.heap.size cur2:=⟨_,rfl⟩;have hg2:w3.heap[w.heap.size]?=some (.cells cur2 E (0,0)):=by rw[hw3];exact qaC _ _ d _ E _ hg1
     have hc2:cur2.toList=xs.take (i*k)++us++V++row.toList.drop ((es.length+vs.length)*k):=by rw[l,m,<-hik,Mk (by rw[hR];omega),htot,hrtake]
     have N:Fr (some g) w w3:=by
      rw[hw3];refine⟨rfl,rfl,rfl,by simp[World.setRow],λb t _=> ?_,DL.of (by show w.drawn<=w.drawn+1+1;omega)⟩
      rw[pG _ _ _ (qan t)];exact(pG _ w.heap.size d (qan t)).trans (hkeep b t)
     refine(H.grow g es.length cap i hin hnc Q ad vs.length vc hm O w.heap.size G hGn hG63 (.of hin hnc Q hm O) O O O w (w.drew.alloc (.cells row E)) ((w.drew.alloc (.cells row E)).setRow w.heap.size d) w3 (λty=> ?_) (λty dc=> ?_) (λty dc sc=> ?_)).mono ?_
     .have:=r0 ty;rw[show((es.length+vs.length - i:Nat):Int)=(es.length:Int)+(vs.length:Int) - (i:Int)by omega]at this
      exact this
     .rw[m];exact r1
     .rw[hw3,l];exact r2
     .rintro e w' ⟨rfl,rfl⟩
      have hub:∀b,br (.slice (some ⟨w.heap.size,0,none⟩) (es.length+vs.length) G)=some b->br (.slice (some ⟨g,0,none⟩) es.length cap)=some b\/w.heap.size<=b:=λb t=>by
       injection t with t
       exact .inr (qau t)
      refine⟨_,rfl,⟨xs.take (i*k)++us++V,⟨?_,.inr ⟨w.heap.size,G,cur2,by rw[s],Q9 _,hg2,by rw[s];exact hGn,hGm,?_,?_⟩⟩,hmem,hres.mono (@EF w _ (.slice (some ⟨g,0,none⟩) es.length cap) (.slice (some ⟨w.heap.size,0,none⟩) (es.length+vs.length) G) X N hub) (cr.le _)⟩,hub,N⟩
      .rw[htl,s]
      .rw[l,List.size_toArray,AP (by rw[hL1,<-hik];omega),hL1]
      .rw[s,hc2,<-htl,List.take_left' rfl]
end
end Go.TQ
end
noncomputable section
namespace Go.Proofs.YtppbofaglpdghaaGreat
open Go.RowKit Go.TQ Go.Lib
namespace JJ
set_option maxHeartbeats 8000000 in
set_option maxRecDepth 100000 in
def ways:Fx Tryz.prog 235 58 117 3 4 312 37 496:=by
 have zE:∀w:Wo,(Go.sizeOf 117).run Tryz.prog w= .ok 37 w:=λ_=>d_
 have uS:=Qo Tryz.underlying58;have p:Tryz.prog.follows .mixedOrders=true:=d_;refine⟨s_,Tryz.underlying58,Tryz.underlying3,Ah d_,λx w h=> ?_,λg n c i hi F b u j w=> ?_,λu j w=> ?_,λg n c F b ad m j y w w1 J D=> ?_,λad m j y w w1 J D=> ?_,λg n c i hi b ad m j y d ⟨l,q,s,A,t,o,W,z⟩ X w w1 w2 v h1 B=> ?_,λg n c i hi F b ad m j y d N G hGn I ⟨l,q,s,A,t,_,V,o⟩ M hGi H w w1 w2 w3 Q h1 B=> ?_⟩
 .rw[qa2 Tryz.func312 d_ d_ d_ (e:=Extern.SlicesOverlaps.overlaps #[58,58] #[4]) d_,h];rfl
 rotate_left 4
 .go_enter Tryz.func235,Tryz.ntmps235
  go_wp2_with (simp only[v])
  go_region_law_o (refine step_copy_runI rfl _ _ 58 58 rfl _ _ (by simp[Act.eval,Act.put]) (by simp[Act.eval,Act.put]) (h1 _ _ _) ?_)
  go_wp2_with (at_builtin;refine wpList_copy_runI _ rfl _ _ 58 58 rfl _ _ rfl rfl (B _ _) ?_)
  go_ret
  exact⟨rfl,rfl⟩
 .have z:=o
  go_enter Tryz.func235,Tryz.ntmps235
  go_wp2_with (first
   |(at_builtin;refine Lib.wpList_append_run _ rfl _ _ _ _ rfl _ _ rfl rfl _ _ (Q _) ?_)
   |(at_builtin;refine wpList_copy_runI _ rfl _ _ 58 58 rfl _ _ rfl rfl (h1 _ _) ?_))
  go_region_law_o (refine step_copy_runI rfl _ _ 58 58 rfl (.slice (some ⟨N,(i+m)*37,none⟩) (n+m - (i+m)) (G - (i+m))) (.slice (some ⟨g,i*37,none⟩) (n - i) (c - i)) (by simp[Act.eval,Act.put]) (by simp[Act.eval,Act.put]) (B 3 (G - (i+m)) (c - i)) ?_)
  go_wp2
  go_ret
  exact⟨rfl,rfl⟩
 all_goals
  try have l:¬((m:Int)=0):=O
  go_enter Tryz.func235,Tryz.ntmps235
  go_wp2_with (at_builtin;refine Lib.wpList_append_run _ rfl _ _ _ _ rfl _ _ rfl rfl _ _ (D _) ?_)
  all_goals go_ret
  all_goals exact⟨rfl,rfl⟩
def enters:Go.TQ.Enters Tryz.prog 235:=⟨Tryz.f235,Tryz.func235,d_,d_⟩
end JJ
end Go.Proofs.YtppbofaglpdghaaGreat
end
noncomputable section
namespace Go.TQ
def CM{α:Type}(b:Nat)(s:Z α)(i:Int)(v:Z α):Y (Z α):=bif decide (0<=i)&&decide (i<=((s.length:Nat):Int))&&bp b (s.length+v.length)then some (s.take i.toNat++v++s.drop i.toNat)else none
def JD{P:Pr}{f S E I B n k b:Nat}(H:Fx P f S E I B n k b)(g:Enters P f){T:Ty}(p:∀x:T.den,(T.pv x).length=k):
  bS.Sound P (U:=U) (.cw f E k T [.ty (Ty.i .i64),.ty (Ty.sl T)] λs a=>CM b s a.1 a.2.1):=by
 refine⟨g,λxs a d h=> ?_⟩
 suffices l:∀(i:Int) (v:Z T.den) (d:Z T.den),CM b xs i v=some d->FD P f E k (xs.map T.pv) [.int .i64 i,.sl (v.map T.pv)] (d.map T.pv)from l a.1 a.2.1 d h
 clear h;intro i v d h;unfold CM at h
 cases j:(decide (0<=i)&&decide (i<=((xs.length:Nat):Int))&&bp b (xs.length+v.length))with
 |false=>rw[j]at h;cases h
 |true=>
  rw[j]at h;injection h with h
  subst h;simp only[Qa,QB]at j;obtain⟨⟨A,h1⟩,z⟩:=j;obtain⟨t,q⟩:=wz z;have c:∀x:T.den,(T.pv x).all PV.one=true:=λx=>Qe.2 λy o=>JN (K.ep T x y o)
  have:=Rm H (es:=xs.map T.pv) (vs:=v.map T.pv) (i:=i.toNat) (by rw[Qw];omega)
   (λu m=>by obtain⟨x,_,rfl⟩:=Qs.1 m;exact c x) (λu m=>by obtain⟨x,_,rfl⟩:=Qs.1 m;exact⟨p x,c x⟩)
   (by rw[Qw,Qw];exact q) (by rw[Qw,Qw];exact t)
  rw[<-List.map_take,<-List.map_drop,<-List.map_append,<-List.map_append,show((i.toNat:Nat):Int)=i by omega]at this
  exact this
end Go.TQ
end
noncomputable section
namespace Go.Proofs.YtppbofaglpdghaaGreat
open Go.RowKit Go.TQ Go.Lib
namespace JI
set_option maxHeartbeats 8000000 in
set_option maxRecDepth 100000 in
def ways:Fx Tryz.prog 285 29 158 3 4 350 28 344:=by
 have zE:∀w:Wo,(Go.sizeOf 158).run Tryz.prog w= .ok 28 w:=λ_=>d_
 have uS:=Qo Tryz.underlying29;have p:Tryz.prog.follows .mixedOrders=true:=d_;refine⟨s_,Tryz.underlying29,Tryz.underlying3,Ah d_,λx w h=> ?_,λg n c i hi F b u j w=> ?_,λu j w=> ?_,λg n c F b ad m j y w w1 J D=> ?_,λad m j y w w1 J D=> ?_,λg n c i hi b ad m j y d ⟨l,q,s,A,t,o,W,z⟩ X w w1 w2 v h1 B=> ?_,λg n c i hi F b ad m j y d N G hGn I ⟨l,q,s,A,t,_,V,o⟩ M hGi H w w1 w2 w3 Q h1 B=> ?_⟩
 .rw[qa2 Tryz.func350 d_ d_ d_ (e:=Extern.SlicesOverlaps.overlaps #[29,29] #[4]) d_,h];rfl
 rotate_left 4
 .go_enter Tryz.func285,Tryz.ntmps285
  go_wp2_with (simp only[v])
  go_region_law_o (refine step_copy_runI rfl _ _ 29 29 rfl _ _ (by simp[Act.eval,Act.put]) (by simp[Act.eval,Act.put]) (h1 _ _ _) ?_)
  go_wp2_with (at_builtin;refine wpList_copy_runI _ rfl _ _ 29 29 rfl _ _ rfl rfl (B _ _) ?_)
  go_ret
  exact⟨rfl,rfl⟩
 .have z:=o
  go_enter Tryz.func285,Tryz.ntmps285
  go_wp2_with (first
   |(at_builtin;refine Lib.wpList_append_run _ rfl _ _ _ _ rfl _ _ rfl rfl _ _ (Q _) ?_)
   |(at_builtin;refine wpList_copy_runI _ rfl _ _ 29 29 rfl _ _ rfl rfl (h1 _ _) ?_))
  go_region_law_o (refine step_copy_runI rfl _ _ 29 29 rfl (.slice (some ⟨N,(i+m)*28,none⟩) (n+m - (i+m)) (G - (i+m))) (.slice (some ⟨g,i*28,none⟩) (n - i) (c - i)) (by simp[Act.eval,Act.put]) (by simp[Act.eval,Act.put]) (B 3 (G - (i+m)) (c - i)) ?_)
  go_wp2
  go_ret
  exact⟨rfl,rfl⟩
 all_goals
  try have l:¬((m:Int)=0):=O
  go_enter Tryz.func285,Tryz.ntmps285
  go_wp2_with (at_builtin;refine Lib.wpList_append_run _ rfl _ _ _ _ rfl _ _ rfl rfl _ _ (D _) ?_)
  all_goals go_ret
  all_goals exact⟨rfl,rfl⟩
def enters:Go.TQ.Enters Tryz.prog 285:=⟨Tryz.f285,Tryz.func285,d_,d_⟩
end JI
end Go.Proofs.YtppbofaglpdghaaGreat
namespace Go.Proofs.YtppbofaglpdghaaGreat
open Go.RowKit Go.TQ Go.Lib
namespace JH
set_option maxHeartbeats 8000000 in
set_option maxRecDepth 100000 in
def ways:Fx Tryz.prog 338 108 52 3 4 372 7 120:=by
 have zE:∀w:Wo,(Go.sizeOf 52).run Tryz.prog w= .ok 7 w:=λ_=>d_
 have uS:=Qo Tryz.underlying108;have p:Tryz.prog.follows .mixedOrders=true:=d_;refine⟨s_,Tryz.underlying108,Tryz.underlying3,Ah d_,λx w h=> ?_,λg n c i hi F b u j w=> ?_,λu j w=> ?_,λg n c F b ad m j y w w1 J D=> ?_,λad m j y w w1 J D=> ?_,λg n c i hi b ad m j y d ⟨l,q,s,A,t,o,W,z⟩ X w w1 w2 v h1 B=> ?_,λg n c i hi F b ad m j y d N G hGn I ⟨l,q,s,A,t,_,V,o⟩ M hGi H w w1 w2 w3 Q h1 B=> ?_⟩
 .rw[qa2 Tryz.func372 d_ d_ d_ (e:=Extern.SlicesOverlaps.overlaps #[108,108] #[4]) d_,h];rfl
 rotate_left 4
 .go_enter Tryz.func338,Tryz.ntmps338
  go_wp2_with (simp only[v])
  go_region_law_o (refine step_copy_runI rfl _ _ 108 108 rfl _ _ (by simp[Act.eval,Act.put]) (by simp[Act.eval,Act.put]) (h1 _ _ _) ?_)
  go_wp2_with (at_builtin;refine wpList_copy_runI _ rfl _ _ 108 108 rfl _ _ rfl rfl (B _ _) ?_)
  go_ret
  exact⟨rfl,rfl⟩
 .have z:=o
  go_enter Tryz.func338,Tryz.ntmps338
  go_wp2_with (first
   |(at_builtin;refine Lib.wpList_append_run _ rfl _ _ _ _ rfl _ _ rfl rfl _ _ (Q _) ?_)
   |(at_builtin;refine wpList_copy_runI _ rfl _ _ 108 108 rfl _ _ rfl rfl (h1 _ _) ?_))
  go_region_law_o (refine step_copy_runI rfl _ _ 108 108 rfl (.slice (some ⟨N,(i+m)*7,none⟩) (n+m - (i+m)) (G - (i+m))) (.slice (some ⟨g,i*7,none⟩) (n - i) (c - i)) (by simp[Act.eval,Act.put]) (by simp[Act.eval,Act.put]) (B 3 (G - (i+m)) (c - i)) ?_)
  go_wp2
  go_ret
  exact⟨rfl,rfl⟩
 all_goals
  try have l:¬((m:Int)=0):=O
  go_enter Tryz.func338,Tryz.ntmps338
  go_wp2_with (at_builtin;refine Lib.wpList_append_run _ rfl _ _ _ _ rfl _ _ rfl rfl _ _ (D _) ?_)
  all_goals go_ret
  all_goals exact⟨rfl,rfl⟩
def enters:Go.TQ.Enters Tryz.prog 338:=⟨Tryz.f338,Tryz.func338,d_,d_⟩
end JH
end Go.Proofs.YtppbofaglpdghaaGreat
namespace Go.Proofs.YtppbofaglpdghaaGreat
open Go.RowKit Go.TQ Go.Lib
namespace JG
set_option maxHeartbeats 8000000 in
set_option maxRecDepth 100000 in
def ways:Fx Tryz.prog 378 111 48 3 4 415 15 176:=by
 have zE:∀w:Wo,(Go.sizeOf 48).run Tryz.prog w= .ok 15 w:=λ_=>d_
 have uS:=Qo Tryz.underlying111;have p:Tryz.prog.follows .mixedOrders=true:=d_;refine⟨s_,Tryz.underlying111,Tryz.underlying3,Ah d_,λx w h=> ?_,λg n c i hi F b u j w=> ?_,λu j w=> ?_,λg n c F b ad m j y w w1 J D=> ?_,λad m j y w w1 J D=> ?_,λg n c i hi b ad m j y d ⟨l,q,s,A,t,o,W,z⟩ X w w1 w2 v h1 B=> ?_,λg n c i hi F b ad m j y d N G hGn I ⟨l,q,s,A,t,_,V,o⟩ M hGi H w w1 w2 w3 Q h1 B=> ?_⟩
 .rw[qa2 Tryz.func415 d_ d_ d_ (e:=Extern.SlicesOverlaps.overlaps #[111,111] #[4]) d_,h];rfl
 rotate_left 4
 .go_enter Tryz.func378,Tryz.ntmps378
  go_wp2_with (simp only[v])
  go_region_law_o (refine step_copy_runI rfl _ _ 111 111 rfl _ _ (by simp[Act.eval,Act.put]) (by simp[Act.eval,Act.put]) (h1 _ _ _) ?_)
  go_wp2_with (at_builtin;refine wpList_copy_runI _ rfl _ _ 111 111 rfl _ _ rfl rfl (B _ _) ?_)
  go_ret
  exact⟨rfl,rfl⟩
 .have z:=o
  go_enter Tryz.func378,Tryz.ntmps378
  go_wp2_with (first
   |(at_builtin;refine Lib.wpList_append_run _ rfl _ _ _ _ rfl _ _ rfl rfl _ _ (Q _) ?_)
   |(at_builtin;refine wpList_copy_runI _ rfl _ _ 111 111 rfl _ _ rfl rfl (h1 _ _) ?_))
  go_region_law_o (refine step_copy_runI rfl _ _ 111 111 rfl (.slice (some ⟨N,(i+m)*15,none⟩) (n+m - (i+m)) (G - (i+m))) (.slice (some ⟨g,i*15,none⟩) (n - i) (c - i)) (by simp[Act.eval,Act.put]) (by simp[Act.eval,Act.put]) (B 3 (G - (i+m)) (c - i)) ?_)
  go_wp2
  go_ret
  exact⟨rfl,rfl⟩
 all_goals
  try have l:¬((m:Int)=0):=O
  go_enter Tryz.func378,Tryz.ntmps378
  go_wp2_with (at_builtin;refine Lib.wpList_append_run _ rfl _ _ _ _ rfl _ _ rfl rfl _ _ (D _) ?_)
  all_goals go_ret
  all_goals exact⟨rfl,rfl⟩
def enters:Go.TQ.Enters Tryz.prog 378:=⟨Tryz.f378,Tryz.func378,d_,d_⟩
end JG
end Go.Proofs.YtppbofaglpdghaaGreat
namespace Go.Proofs.YtppbofaglpdghaaGreat
open Go.RowKit Go.TQ Go.Lib
namespace JF
set_option maxHeartbeats 8000000 in
set_option maxRecDepth 100000 in
def ways:Fx Tryz.prog 444 50 9 3 4 478 1 16:=by
 have zE:∀w:Wo,(Go.sizeOf 9).run Tryz.prog w= .ok 1 w:=λ_=>d_
 have uS:=Qo Tryz.underlying50;have s:Tryz.prog.follows .mixedOrders=true:=d_;refine⟨s_,Tryz.underlying50,Tryz.underlying3,Ah d_,λx w h=> ?_,λg n c i hi F b u j w=> ?_,λu j w=> ?_,λg n c F b ad m j z w w1 J D=> ?_,λad m j z w w1 J D=> ?_,λg n c i hi b ad m j z d ⟨l,t,v,B,y,p,W,A⟩ X w w1 w2 o h1 q=> ?_,λg n c i hi F b ad m j z d N G hGn I ⟨l,t,v,B,y,_,V,p⟩ M hGi H w w1 w2 w3 Q h1 q=> ?_⟩
 .rw[qa2 Tryz.func478 d_ d_ d_ (e:=Extern.SlicesOverlaps.overlaps #[50,50] #[4]) d_,h];rfl
 rotate_left 4
 simp only[qbg]at o h1 q
 .go_enter Tryz.func444,Tryz.ntmps444
  go_wp2_with (simp only[o])
  go_region_law_o (refine step_copy_runI rfl _ _ 50 50 rfl _ _ (by simp[Act.eval,Act.put]) (by simp[Act.eval,Act.put]) (h1 _ _ _) ?_)
  go_wp2_with (at_builtin;refine wpList_copy_runI _ rfl _ _ 50 50 rfl _ _ rfl rfl (q _ _) ?_)
  go_ret
  exact⟨rfl,rfl⟩
 simp only[qbg]at h1 q
 .have A:=p
  go_enter Tryz.func444,Tryz.ntmps444
  go_wp2_with (first
   |(at_builtin;refine Lib.wpList_append_run _ rfl _ _ _ _ rfl _ _ rfl rfl _ _ (Q _) ?_)
   |(at_builtin;refine wpList_copy_runI _ rfl _ _ 50 50 rfl _ _ rfl rfl (h1 _ _) ?_))
  go_region_law_o (refine step_copy_runI rfl _ _ 50 50 rfl (.slice (some ⟨N,i+m,none⟩) (n+m - (i+m)) (G - (i+m))) (.slice (some ⟨g,i,none⟩) (n - i) (c - i)) (by simp[Act.eval,Act.put]) (by simp[Act.eval,Act.put]) (q 3 (G - (i+m)) (c - i)) ?_)
  go_wp2
  go_ret
  exact⟨rfl,rfl⟩
 all_goals
  try have l:¬((m:Int)=0):=O
  go_enter Tryz.func444,Tryz.ntmps444
  go_wp2_with (at_builtin;refine Lib.wpList_append_run _ rfl _ _ _ _ rfl _ _ rfl rfl _ _ (D _) ?_)
  all_goals go_ret
  all_goals exact⟨rfl,rfl⟩
def enters:Go.TQ.Enters Tryz.prog 444:=⟨Tryz.f444,Tryz.func444,d_,d_⟩
end JF
end Go.Proofs.YtppbofaglpdghaaGreat
end
noncomputable section
namespace Go.TQ
open Go.Proofs Go.Sort Go.RowKit Go.Lib
def rQ:PV->Bool
 | .int _ _| .str _| .bool _=>true
 |_=>false
def kI:PV->Va
 | .int k n=> .int k n
 | .str s=> .string s
 | .bool b=> .bool b
 |_=>undef
def Cn{w:Wo}{M:Nat->Prop}{G:Gh}{x:PV}(h:rQ x=true):aJ w M G x (kI x):=by cases x<;>first|exact .int _ _|exact .str _|exact .bool _|exact absurd h (by simp[rQ])
def Nh{w:Wo}{M:Nat->Prop}{G:Gh}{x:PV}{v:Va}(h:rQ x=true)(b:aJ w M G x v):v=kI x:=by cases x<;>first|(cases b;rfl)|exact absurd h (by simp[rQ])
def Ih{x:PV}(h:rQ x=true):(kI x).oneCell'=true:=by cases x<;>first|rfl|exact absurd h (by simp[rQ])
def FZ{w:Wo}{M:Nat->Prop}{G:Gh}:∀{xs:Z PV} {vs:Z Va},xs.all rQ=true->aK w M G xs vs->vs=xs.map kI
 |[],vs,_,b=>b.lO
 |x::xs,vs,h,b=>by obtain⟨v,c,rfl,g,d⟩:=b.cons_inv;rw[QA,Qa]at h;rw[Qj,<-Nh h.1 g,<-FZ h.2 d]
def FY{w:Wo}{M:Nat->Prop}{G:Gh}:∀{xs:Z PV},xs.all rQ=true->aK w M G xs (xs.map kI)
 |[],_=> .nil
 |x::xs,h=>by rw[QA,Qa]at h;exact .cons (Cn h.1) (FY h.2)
def Rz{w w':Wo}(h:Fr none w w'):∃q os,w'=grow (w.drewN q) os:=by
 refine⟨w'.drawn - w.drawn,w'.heap.extract w.heap.size w'.heap.size,?_⟩;have u:=h.size
 have g:w'.heap=w.heap++w'.heap.extract w.heap.size w'.heap.size:=by
  apply Array.ext_getElem?;intro k;rw[qaw];split
  .rename_i d;exact h.block k d t_
  .rename_i d;rw[Array.getElem?_extract];split
   .rw[show w.heap.size+(k - w.heap.size)=k by omega]
   .exact Array.getElem?_eq_none O
 have l:=h.os;have j:=h.tape;have i:=h.output;have s:=h.drawn rfl
 cases w' with|mk v t m os out=>
 cases w with|mk p n b o c=>
 simp only at l j i s g;subst l j i;unfold grow World.drewN;simp only;rw[<-g,show b+(m - b)=m by omega]
def Jl{w:Wo}{b n:Nat}{F:Array Va}{os:Array Obj}{c:Array Va}{e:TI}{fr:Nat×Nat}(g:w.heap[b]?=some (.cells c e fr)):
  (grow (putRow id (Sort.ahead w n) b 0 F) os).heap[b]?=some (.cells (putCells id 0 F c) e fr):=by
 have d:b<w.heap.size:=(Qz.1 g).1;unfold grow putRow mapBlock Sort.ahead;simp only;rw[qbH (by simp;exact d),qbA,Qc rfl,g]
 rfl
def Nd{w:Wo}{b n:Nat}{F:Array Va}{os:Array Obj}:Fr (some b) w (grow (putRow id (Sort.ahead w n) b 0 F) os):=by
 refine⟨rfl,rfl,rfl,?_,λq g d=> ?_,DL.of (qa6 _ _)⟩
 .unfold grow putRow mapBlock Sort.ahead;simp only[qbB,Array.size_modify];omega
 .have c:¬b=q:=λe=>d (by rw[e])
  unfold grow putRow mapBlock Sort.ahead;simp only;rw[qbH (by simp;exact g),qbA,Qf c]
def Ic{F b:Array Va}(h:F.size<=b.size):(putCells id 0 F b).toList=F.toList++b.toList.drop F.size:=by
 apply List.ext_getElem?;intro i;rw[qa3];unfold putCells;rw[qbI,List.getElem?_append];simp only[Q0,Q9,qaM,qam,Nat.sub_zero,id]
 by_cases hi:i<F.size
 .rw[Qc hi,qa3,qab (show i<b.size by omega),qab hi,Qn,Qc hi,qaF F i hi]
 .rw[Qf hi,List.getElem?_drop,qa3,show F.size+(i - F.size)=i by omega]
  cases b[i]? with
  |none=>rfl
  |some y=>rw[Qn,Qf hi]
def Kp(P:Pr)(f k:Nat):Prop:=∀(α:Type) [Inhabited α] (dI:α->Z Va) (_:∀x,(dI x).length=k) (_:∀x,∀v∈dI x,v.oneCell'=true) (cf:α->α->Int) (_:Go.Sort.SWO (ltOf cf)) (g:Nat) (h:Array Va) (br b cap:Nat) (d:Array α) (w:Wo)
  (_:∀c w,(callFunc g c).run P w= .ok (.enter g c) w) (_:CmpLays P g h dI k cf br b d.size w) (_:HoldsK dI k w br b d) (_:br<w.heap.size) (_:d.size<4611686018427387904) (_:∀x y,(ltOf cf) x y=false->(ltOf cf) y x=false->x=y),
  Calls P f #[.slice (some ⟨br,b,none⟩) d.size cap,.func (.func g) #[] h] w λe w'=>e= .returned (.tuple #[])/\∃n os,w'=sortWorldK dI k w br b n (d.toList.mergeSort λx y=> !(ltOf cf) y x).toArray os
def G8(P:Pr)(f:Nat):Prop:=∀(α:Type) [Inhabited α] (dI:α->Va) (_:OneCell dI) (cf:α->α->Int) (_:Go.Sort.SWO (ltOf cf)) (g:Nat) (h:Array Va) (br b cap:Nat) (d:Array α) (w:Wo)
  (_:∀c w,(callFunc g c).run P w= .ok (.enter g c) w) (_:CmpLays1 P g h dI cf br b d.size w) (_:Holds dI w br b d) (_:br<w.heap.size) (_:d.size<4611686018427387904) (_:∀x y,(ltOf cf) x y=false->(ltOf cf) y x=false->x=y),
  Calls P f #[.slice (some ⟨br,b,none⟩) d.size cap,.func (.func g) #[] h] w λe w'=>e= .returned (.tuple #[])/\∃n os,w'=sortWorld dI w br b n (d.toList.mergeSort λx y=> !(ltOf cf) y x).toArray os
def Dc(P:Pr)(f:Nat):Prop:=∀(p:Y Addr) (cap:Nat) (b:Va) (w:Wo),Calls P f #[.slice p 0 cap,b] w λe w'=>e= .returned (.tuple #[])/\w'=w
section
variable{P:Pr}{α:Type}{pv:α->Z PV}{k:Nat}
def km(pv:α->Z PV)(x:α):Z Va:=(pv x).map kI
def Ko(P:Pr)(f g e k:Nat)(pv:α->Z PV)(le:α->α->Bool):Prop:=
 ∀(w:Wo) (b cap:Nat) (xs:Z α) (d:Array Va),w.heap[b]?=some (.cells d e (0,0))->xs.length<4611686018427387904->xs.length<=cap->cap<=maxLen->d.size=cap*k->d.toList.take (xs.length*k)=xs.flatMap (km pv)->
  Calls P f #[.slice (some ⟨b,0,none⟩) xs.length cap,.func (.func g) #[] #[]] w λh w'=>h= .returned (.tuple #[])/\
   ∃c:Array Va,w'.heap[b]?=some (.cells c e (0,0))/\c.size=d.size/\c.toList.take (xs.length*k)=(xs.mergeSort le).flatMap (km pv)/\Fr (some b) w w'
def Iv(b:∀x,(pv x).length=k):∀xs:Z α,(xs.flatMap (km pv)).length=xs.length*k
 |[]=>t_
 |x::xs=>by rw[List.flatMap_cons,QZ,Iv b xs,km,Qw,b,QV,QM,qaD,qav]
def KP{f g e:Nat}{le:α->α->Bool}(xs:Z α)(h0:Dc P f)(hs:xs≠[]->Ko P f g e k pv le)(hk0:0<k)(hk:∀x,(pv x).length=k)(hp:∀x,(pv x).all rQ=true)(N:xs.length<4611686018427387904):
  MV P f e k (xs.map pv) [.aQ g []] (.bP []) ((xs.mergeSort le).map pv):=by
 intro w X hX v vs hvX ⟨us,m,hke,hr⟩ d;obtain⟨a1,args,rfl,V,d⟩:=d.cons_inv;obtain rfl:=d.lO;obtain⟨cs,rfl,Q⟩:=V.oX;obtain rfl:=Q.lO
 have n:∀l:Z α,(l.map pv).flatten.map kI=l.flatMap (km pv):=λl=>by
  induction l with
  |nil=>rfl
  |cons x l I=>rw[Qj,List.flatten_cons,List.map_append,I,List.flatMap_cons];rfl
 have j:∀l:Z α,(l.map pv).flatten.all rQ=true:=λl=>by
  induction l with
  |nil=>rfl
  |cons x l I=>rw[Qj,List.flatten_cons,List.all_append,I,hp x];rfl
 have y:us=xs.flatMap (km pv):=by rw[FZ (j xs) hr,n]
 have A:(xs.mergeSort le).length=xs.length:=List.length_mergeSort xs
 have D:∀l:Z α,∀u∈l.map pv,u.length=k:=λl u hu=>by obtain⟨x,_,rfl⟩:=Qs.1 hu;exact hk x
 have B:(xs.map pv).length=xs.length:=Qw ..;have c:((xs.mergeSort le).map pv).length=xs.length:=by rw[Qw,A]
 rw[B]at m
 have o:∀w':Wo,aK w' (Mv v X) cr ((xs.mergeSort le).map pv).flatten ((xs.mergeSort le).flatMap (km pv)):=λw'=>by rw[<-n];exact FY (j _)
 by_cases J:xs=[]
 .
  subst J
  have M:∃p cap,v= .slice p 0 cap:=by
   rcases m.2 with⟨h1,_⟩|⟨b,cap,H,h1,_⟩
   .exact⟨none,0,h1⟩
   .exact⟨_,cap,h1⟩
  obtain⟨p,cap,M⟩:=M;have:=h0 p cap (.func (.func g) #[] [].toArray) w;rw[<-M]at this;refine this.mono λen w' ⟨h1,F⟩=> ?_
  subst F;refine⟨_,h1,.bP _ [] rfl (λi x v h=>by simp at h),⟨us,?_,D _,?_⟩,Fr.refl _ _⟩
  .rw[c];exact m
  .rw[y];have:=o w';rw[show([]:Z α).mergeSort le=[]from t_]at this ⊢
   exact this
 .rcases m.2 with⟨_,F⟩|⟨b,cap,H,rfl,t,hb,W,q,z,s⟩
  .exact absurd (qak F) J
  .refine(hs J w b cap xs H hb N W q z (by rw[s,y])).mono λen w' ⟨h1,G,F,h3,h4,h5⟩=> ?_
   refine⟨_,h1,.bP _ [] rfl (λi x v h=>by simp at h),⟨(xs.mergeSort le).flatMap (km pv),⟨?_,.inr ⟨b,cap,G,by rw[c],t,F,by rw[c];exact W,q,by rw[h3];exact z,?_⟩⟩,D _,o w'⟩,h5⟩
   .rw[Iv hk,A,c]
   .rw[c];exact h4
variable[Inhabited α]
def Ey{dI:α->Z Va}(c:∀x,(dI x).length=k)(b:0<k):∀(l:Z α) (t:Nat),t<l.length*k->(l.flatMap dI)[t]?=(dI l[t / k]!)[t % k]?
 |[],t,h=>by simp at h
 |x::l,t,h=>by
  rw[List.flatMap_cons]
  by_cases d:t<k
  .rw[List.getElem?_append_left (by rw[c];exact d),Nat.div_eq_of_lt d,Nat.mod_eq_of_lt d]
   rfl
  .rw[List.getElem?_append_right (by rw[c];omega),c]
   have g:t - k<l.length*k:=by rw[QV,QM,qaD]at h;omega
   rw[Ey c b l (t - k) g,Nat.mod_eq_sub_mod (O:t>=k),show t / k=(t - k) / k+1 from Nat.div_eq_sub_div b O]
   simp
def My{dI:α->Z Va}(c:∀x,(dI x).length=k)(b:0<k)(l:Z α):(flatK dI k l.toArray).toList=l.flatMap dI:=by
 have h:(l.flatMap dI).length=l.length*k:=by
  induction l with
  |nil=>simp
  |cons x l i=>rw[List.flatMap_cons,QZ,i,c,QV,QM,qaD,qav]
 apply List.ext_getElem?;intro t
 by_cases d:t<l.length*k
 .rw[Ey c b l t d];have g:t % k<(dI l[t / k]!).length:=by rw[c];exact Nat.mod_lt _ b
  rw[Qv g];unfold flatK;simp only[qaJ,Array.toList_range,Qt,List.size_toArray];rw[List.getElem?_range d];simp only[Qn];congr 1;rw[show(l.toArray)[t / k]! =l[t / k]! by simp]
  exact qaF (dI l[t / k]!) (t % k) g
 .rw[qaT (by rw[Q0,size_flatK,List.size_toArray];omega),qaT O]
def Pf(P:Pr)(g:Nat)(val:α->Va)(cf:α->α->Int):Prop:=∀(x y:α) (w:Wo),Calls P g #[val x,val y] w λe w'=>e= .returned (.int .i64 (cf x y))/\∃q os,w'=grow (w.drewN q) os
def Gz{w:Wo}{b e cap:Nat}{xs:Z α}{c:Array Va}{F:Array Va}(g:w.heap[b]?=some (.cells c e (0,0)))(hF:F.toList=c.toList.take F.size):Holds id w b 0 F:=by
 intro j d
 have i:c[j]?=some F[j]:=by
  have h:F.toList[j]?=some F[j]:=by rw[qa3];exact qab d
  rw[hF,qay,Qc d,qa3]at h;exact h
 rw[qaF F j d];refine⟨?_,?_⟩
 .unfold World.cell?;simp only[qam,g];simpa using i
 .unfold World.frozen?;simp only[g];simp
def W0{f g e:Nat}{cf:α->α->Int}(hS:Kp P f k)(t:0<k)(J:∀x,(pv x).length=k)(H:∀x,(pv x).all rQ=true)(Q:Go.Sort.SWO (ltOf cf))(N:∀x y,(ltOf cf) x y=false->(ltOf cf) y x=false->x=y)
  (X:∀d w,(callFunc g d).run P w= .ok (.enter g d) w) (M:Pf P g (λx=> .agg (km pv x).toArray) cf):Ko P f g e k pv λx y=> !(ltOf cf) y x:=by
 intro w b cap xs B z p I D o h;have s:b<w.heap.size:=(Qz.1 z).1;have i:∀x,(km pv x).length=k:=λx=>by rw[km,Qw,J]
 have c:∀l:Z α,(flatK (km pv) k l.toArray).toList=l.flatMap (km pv):=My i t;have u:CmpLays P g #[] (km pv) k cf b 0 xs.toArray.size w:=λm os dk _ x y=>M x y _
 have V:HoldsK (km pv) k w b 0 xs.toArray:=Gz (xs:=xs) (cap:=cap) z (by rw[c,size_flatK,List.size_toArray];exact h.symm)
 have:=hS α (km pv) i (λx v G=>by obtain⟨y,F,rfl⟩:=Qs.1 G;exact Ih (Qe.1 (H x) y F)) cf Q g #[] b 0 cap xs.toArray w X u V s (by rw[List.size_toArray];exact p) N
 refine this.mono λen w' ⟨h1,n,os,W⟩=>⟨h1,?_⟩
 have q:(xs.mergeSort λx y=> !(ltOf cf) y x).length=xs.length:=List.length_mergeSort xs
 have j:(flatK (km pv) k (xs.mergeSort λx y=> !(ltOf cf) y x).toArray).size=xs.length*k:=by rw[size_flatK,List.size_toArray,q]
 have A:(flatK (km pv) k (xs.mergeSort λx y=> !(ltOf cf) y x).toArray).size<=B.size:=by rw[j,o];exact QT k I
 subst W;refine⟨_,Jl z,by unfold putCells;rw[Array.size_mapIdx],?_,Nd⟩
 rw[Ic A,<-j,<-Q0,List.take_left,c]
def W8{f g e:Nat}{cf:α->α->Int}{p1:α->PV}(hS:G8 P f)(Q:∀x,rQ (p1 x)=true)(hO:Go.Sort.SWO (ltOf cf))(hT:∀x y,(ltOf cf) x y=false->(ltOf cf) y x=false->x=y)
  (eg:∀o w,(callFunc g o).run P w= .ok (.enter g o) w) (X:Pf P g (λx=>kI (p1 x)) cf):Ko P f g e 1 (λx=>[p1 x]) λx y=> !(ltOf cf) y x:=by
 intro w b cap xs J G v V M u p;have A:b<w.heap.size:=(Qz.1 G).1
 have h:∀l:Z α,(l.toArray.map λx=>kI (p1 x)).toList=l.flatMap (km λx=>[p1 x]):=λl=>by
  induction l with
  |nil=>simp
  |cons x l N=>rw[List.flatMap_cons,<-N];simp[km]
 have D:CmpLays1 P g #[] (λx=>kI (p1 x)) cf b 0 xs.toArray.size w:=λm os dk _ x y=>X x y _
 have hF:=Gz (xs:=xs) (cap:=cap) (F:=xs.toArray.map λx=>kI (p1 x)) G (by rw[h,qaR,List.size_toArray,<-qbg xs.length];exact p.symm)
 have hH:Holds (λx=>kI (p1 x)) w b 0 xs.toArray:=by
  intro j B;have t:=hF j (by rw[qaR];exact B)
  rw[qaF _ j (by rw[qaR];exact B),Array.getElem_map]at t
  rw[qaF _ j B];exact t
 have:=hS α (λx=>kI (p1 x)) (λx=>Ih (Q x)) cf hO g #[] b 0 cap xs.toArray w eg D hH A (by rw[List.size_toArray];exact v) hT
 refine this.mono λen w' ⟨t,n,os,I⟩=>⟨t,?_⟩
 have z:(xs.mergeSort λx y=> !(ltOf cf) y x).length=xs.length:=List.length_mergeSort xs
 have q:∀(W:Wo) (d:Array α),putRow (λx=>kI (p1 x)) W b 0 d=putRow id W b 0 (d.map λx=>kI (p1 x)):=λW d=>by
  unfold putRow;congr 1
  funext c
  unfold putCells;apply Array.ext_getElem?;intro i;simp only[qbI,qaR,Q9,qaM,qam,Nat.sub_zero,id]
  cases c[i]? with
  |none=>rfl
  |some y=>
   simp only[Qn]
   by_cases hi:i<d.size
   .rw[Qc hi,Qc hi,qaF d i hi,qaF _ i (by rw[qaR];exact hi),Array.getElem_map]
   .rw[Qf hi,Qf hi]
 unfold sortWorld at I;rw[q]at I;have s:((xs.mergeSort λx y=> !(ltOf cf) y x).toArray.map λx=>kI (p1 x)).size=xs.length*1:=by rw[qaR,List.size_toArray,z,qbg]
 have H:((xs.mergeSort λx y=> !(ltOf cf) y x).toArray.map λx=>kI (p1 x)).size<=J.size:=by rw[s,u];exact QT 1 V
 subst I;refine⟨_,Jl G,by unfold putCells;rw[Array.size_mapIdx],?_,Nd⟩
 rw[Ic H,<-s,<-Q0,List.take_left,h]
end
def Lj{P:Pr}{g:Nat}{α:Type}{va:α->PV}{val:α->Va}{cf:α->α->Int}(b:∀(x:α) (w:Wo) (M:Nat->Prop),aJ w M cr (va x) (val x))(h:∀x y,ED P g false [] [va x,va y] (.int .i64 (cf x y)) [])(i:Mu=[]:=by rfl):Pf P g val cf:=by
 intro x y w;have j:GI w:=λq c=>by rw[i]at c;cases c
 have:=h x y w (λ_=>False) (.nil j) 0 0 [] [val x,val y] (λe=>by cases e) (.cons (b x w _) (.cons (b y w _) .nil))
 refine this.mono λn w' ⟨v,d,h1,m,_,l⟩=> ?_
 rw[m.c4]at h1;exact⟨h1,Rz l⟩
end Go.TQ
end
