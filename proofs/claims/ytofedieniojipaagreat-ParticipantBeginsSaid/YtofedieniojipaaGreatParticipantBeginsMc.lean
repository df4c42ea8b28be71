/-
  Texts made small by a program (see NOTES). Conditions: those that each theorem names.
-/
import Derived.Test.YtofedieniojipaaGreatParticipantBeginsMb
import Derived.KernelRfl
import Derived.Laws.CopyRow
import Derived.Laws.Externs
import Derived.Lib.Overlaps
import Derived.Lib.AppendZerosOnto
import Derived.Laws.NewBlocks
import Derived.Test.YtofedieniojipaaGreatProg
import Derived.Shelf.Spec.SlicesInsert
import Derived.Shelf.SlSortCmp.NoneTotal
set_option linter.unusedVariables false
set_option linter.defProp false
set_option linter.unusedSimpArgs false
set_option linter.unusedSectionVars false
set_option maxHeartbeats 2000000
noncomputable section
namespace Go.TQ
section
open Go.RowKit
def q7{σ ρ:Type}(step:σ->Option (σ⊕ρ)):Nat->σ->Option ρ
 |0,_=>none
 |n+1,s=>match step s with
  |none=>none
  |some (.inr r)=>some r
  |some (.inl s')=>q7 step n s'
def Gc{σ ρ:Type}{step:σ->Option (σ⊕ρ)}{r:ρ}:∀{n m:Nat} {s:σ},n<=m->q7 step n s=some r->q7 step m s=some r
 |0,_,_,_,h=>by cases h
 |n+1,0,_,hnm,_=>by omega
 |n+1,m+1,s,hnm,h=>by
  simp only[q7]at h ⊢;split at h
  ·cases h
  ·exact h
  ·exact Gc (by omega) h
def YK{σ ρ:Type}{step:σ->Option (σ⊕ρ)}{r r':ρ}{n m:Nat}{s:σ}(h:q7 step n s=some r)(h':q7 step m s=some r'):r=r':=by
 have h1:=Gc (Nat.le_max_left n m) h;have h2:=Gc (Nat.le_max_right n m) h';rw[h1]at h2;injection h2
open Classical in
 def aB{σ ρ:Type}(step:σ->Option (σ⊕ρ))(s:σ):Option ρ:=
 if h:∃r,∃n,q7 step n s=some r then some (Classical.choose h)else none
def BO{σ ρ:Type}{step:σ->Option (σ⊕ρ)}{s:σ}{r:ρ}(h:aB step s=some r):∃n,q7 step n s=some r:=by
 unfold aB at h;split at h
 ·rename_i hx;injection h with h
  obtain⟨n,hn⟩:=Classical.choose_spec hx;exact⟨n,by rw[hn,h]⟩
 ·cases h
def KT{σ ρ:Type}{step:σ->Option (σ⊕ρ)}{s:σ}{r:ρ}{n:Nat}(h:q7 step n s=some r):aB step s=some r:=by
 unfold aB;have hx:∃r,∃n,q7 step n s=some r:=⟨r,n,h⟩;rw[dif_pos hx];obtain⟨m,hm⟩:=Classical.choose_spec hx;rw[YK hm h]
def fb{σ ρ:Type}(step:σ->Option (σ⊕ρ))(s:σ):aB step s=match step s with|none=>none|some (.inr r)=>some r|some (.inl s')=>aB step s':=by
 cases hs:step s with
 |none=>
  cases h:aB step s with
  |none=>rfl
  |some r=>
   obtain⟨n,hn⟩:=BO h
   cases n with
   |zero=>cases hn
   |succ n=>simp[q7,hs]at hn
 |some x=>
  cases x with
  |inr r=>exact KT (n:=1) (by simp[q7,hs])
  |inl s'=>
   simp only
   cases h':aB step s' with
   |some r=>
    obtain⟨n,hn⟩:=BO h';exact KT (n:=n+1) (by simp only[q7,hs];exact hn)
   |none=>
    cases h:aB step s with
    |none=>rfl
    |some r=>
     obtain⟨n,hn⟩:=BO h
     cases n with
     |zero=>cases hn
     |succ n=>simp only[q7,hs]at hn;rw[KT hn]at h';cases h'
open Classical in
 def both{ρ:Type}(x y:Option ρ):Option ρ:=if x=y then x else none
def Zg{ρ:Type}{x y:Option ρ}{r:ρ}(h:both x y=some r):x=some r/\y=some r:=by
 unfold both at h;split at h
 ·rename_i e;exact⟨h,e▸h⟩
 ·cases h
@[simp] def agO {ρ:Type} (x:Option ρ):both x x=x:=Qr rfl
def bb{σ ρ:Type}(j:σ->Option ρ)(f:(σ->Option ρ)->Option ρ):Option ρ:=f j
def mX{α σ ρ:Type}(step:Nat->α->σ->Option (σ⊕ρ))(fin:σ->Option ρ):List α->σ->Option ρ
 |[],s=>fin s
 |a::l,s=>match step l.length a s with
  |none=>none
  |some (.inr r)=>some r
  |some (.inl s')=>mX step fin l s'
section
variable {U : TU}
inductive SA (U:TU) where
 |skip
 |su (rs:RS U)
 |qm (un:List (Nat×Nat)) (rs:RS U)
 |seq (x y:SA U)
 |join (J:JS U) (x y:SA U)
 |cond (c:bz) (x y:SA U)
 |block (id:Nat) (x:SA U)
 |loop (J:JS U) (x:SA U)
 |JX (n:Nat) (x:SA U)
 |back (J:JS U) (f k:Nat) (nE:Option Nat) (T:U.Ty) (tg p0 p1:Nat) (x y:SA U)
 |exit (id:Nat)
 |ret
 |ps (p:Ps U) (x:SA U)
 |Cu (p:Ps U) (x:SA U)
 |inl (r1:RS U) (d:Option Nat) (f:FuncId) (c:Option bz) (xs:List bz) (nt:Nat) (rvs:List RV) (x:SA U) (r2:RS U)
def WQ(f:FuncId)(c:Option bz)(xs:List bz):cr:=
 match c with
 |none=> .call f xs
 |some fv=> .sL fv xs
def SA.erase:SA U->SC
 | .skip=> .skip
 | .su rs=> .su rs.flat
 | .qm un rs=> .qm un rs.flat
 | .seq x y=> .seq x.erase y.erase
 | .join _ x y=> .seq x.erase y.erase
 | .cond c x y=> .cond c x.erase y.erase
 | .block id x=> .block id x.erase
 | .loop _ x=> .loop x.erase
 | .JX _ x=> .loop x.erase
 | .back _ _ _ _ _ tg p0 p1 x y=> .EM (.tmp tg) [p0,p1] x.erase y.erase
 | .exit id=> .exit id
 | .ret=> .ret
 | .ps _ x| .Cu _ x=>x.erase
 | .inl r1 d f c xs _ _ _ r2=> .su (r1.flat++⟨d,none,WQ f c xs⟩::r2.flat)
def SA.dp:SA U->Bool
 | .su rs| .qm _ rs=>rs.dp
 | .seq x y| .join _ x y=>x.dp&&y.dp
 | .cond c x y=>c.dp&&x.dp&&y.dp
 | .block _ x| .loop _ x| .JX _ x=>x.dp
 | .back _ _ _ _ _ _ _ _ x y=>x.dp&&y.dp
 | .ps _ x| .Cu _ x=>x.dp
 | .inl ..=>false
 |_=>true
def SA.uw(P:Program):SA U->Prop
 | .su rs| .qm _ rs=>rs.dp=true
 | .seq x y| .join _ x y=>x.uw P/\y.uw P
 | .cond c x y=>(c.dp=true/\x.uw P)/\y.uw P
 | .block _ x| .loop _ x| .JX _ x=>x.uw P
 | .back _ _ _ _ _ _ _ _ x y=>x.uw P/\y.uw P
 | .ps _ x| .Cu _ x=>x.uw P
 | .inl r1 _ f c xs nt rvs x r2=>(r1.dp=true/\r2.dp=true/\xs.all bz.dp=true/\c.all bz.dp=true)/\x.erase.J8=true/\iy P f nt x.erase rvs/\x.uw P
 |_=>True
def nF{P:Program}:∀{sa:SA U},sa.dp=true->sa.uw P
 | .su _,h| .qm _ _,h=>h
 | .seq x y,h| .join _ x y,h=>by simp only[SA.dp,Qm]at h;exact⟨nF h.1,nF h.2⟩
 | .cond c x y,h=>by simp only[SA.dp,Qm]at h;exact⟨⟨h.1.1,nF h.1.2⟩,nF h.2⟩
 | .block _ x,h| .loop _ x,h| .JX _ x,h| .ps _ x,h| .Cu _ x,h=>nF (sa:=x) h
 | .back _ _ _ _ _ _ _ _ x y,h=>by simp only[SA.dp,Qm]at h;exact⟨nF h.1,nF h.2⟩
 | .inl ..,h=>by cases h
 | .skip,_| .exit _,_| .ret,_=>trivial
def SA.zF:SA U->Bool
 | .su rs| .qm _ rs=>rs.dp
 | .seq x y| .join _ x y=>x.zF&&y.zF
 | .cond c x y=>c.dp&&x.zF&&y.zF
 | .block _ x| .loop _ x| .JX _ x=>x.zF
 | .back _ _ _ _ _ _ _ _ x y=>x.dp&&y.dp
 | .ps _ x| .Cu _ x=>x.zF
 | .inl r1 _ _ c xs _ _ x r2=>r1.dp&&r2.dp&&xs.all bz.dp&&c.all bz.dp&&x.erase.J8&&x.zF
 |_=>true
def SA.OC:SA U->List (FuncId×Nat×SC×List RV)
 | .seq x y| .join _ x y| .cond _ x y=>x.OC++y.OC
 | .block _ x| .loop _ x| .JX _ x| .ps _ x| .Cu _ x=>x.OC
 | .inl _ _ f _ _ nt rvs x _=>(f,nt,x.erase,rvs)::x.OC
 |_=>[]
def vG(P:Program):List (FuncId×Nat×SC×List RV)->Prop
 |[]=>True
 |q::l=>iy P q.1 q.2.1 q.2.2.1 q.2.2.2/\vG P l
def vG.cv{P:Program}:∀{a b:List (FuncId×Nat×SC×List RV)},vG P (a++b)->vG P a/\vG P b
 |[],_,h=>⟨trivial,h⟩
 |_::a,_,h=>⟨⟨h.1,(vG.cv (a:=a) h.2).1⟩,(vG.cv (a:=a) h.2).2⟩
def zD{P:Program}:∀{sa:SA U},sa.zF=true->vG P sa.OC->sa.uw P
 | .su _,h,_| .qm _ _,h,_=>h
 | .seq x y,h,k| .join _ x y,h,k=>by simp only[SA.zF,Qm]at h;exact⟨zD h.1 (vG.cv k).1,zD h.2 (vG.cv k).2⟩
 | .cond c x y,h,k=>by simp only[SA.zF,Qm]at h;exact⟨⟨h.1.1,zD h.1.2 (vG.cv k).1⟩,zD h.2 (vG.cv k).2⟩
 | .block _ x,h,k| .loop _ x,h,k| .JX _ x,h,k| .ps _ x,h,k| .Cu _ x,h,k=>zD (sa:=x) h k
 | .back _ _ _ _ _ _ _ _ x y,h,_=>by simp only[SA.zF,Qm]at h;exact⟨nF h.1,nF h.2⟩
 | .inl r1 d f c xs nt rvs x r2,h,k=>by simp only[SA.zF,Qm]at h;exact⟨⟨h.1.1.1.1.1,h.1.1.1.1.2,h.1.1.1.2,h.1.1.2⟩,h.1.2,k.1,zD h.2 k.2⟩
 | .skip,_,_| .exit _,_,_| .ret,_,_=>trivial
variable (K : TK U)
def DB(Γ:List (dK U)){ρ:Type}(W:WS)(base:Nat):RS U->(i:Nat)->(S:aT U)->(k:aT U->List we->Option ρ)->Option ρ
 | .nil,_,S,k=>k S []
 | .op o r,i,S,k=>Xi K Γ W (base+i) S o λx wr=>DB Γ W base r (i+1) (S.cv o.d x wr) λS' fs=>k S' (⟨o.d,o.cF,E5 (base+i) S.st o,wr.map (·.1)⟩::fs)
 | .Bn t r,i,S,k=>(match S.env t with
  | .bool b=>bif b then DB Γ W base r i (S.cv (some t) (.bool true) none) k else DB Γ W base r i (S.cv (some t) (.bool false) none) k
  | .undef=>DB Γ W base r i S k
  |_=>none)
 |_,_,_,_=>none
def D7(F:List Nat)(ds:List Nat):Bool:=ds.all λt=> !iv t F
def aT.more(S:aT U)(n:Nat):aT U:={env:=S.env,H:=S.H,N:=S.N+n}
def aT.gn(S:aT U)(D:List Nat):aT U:={env:=λt=>(match iv t D with|true=> .any|false=>S.env t),H:=S.H,N:=S.N}
def WK(U:TU)(T:U.Ty):Option Nat->Bool
 |none=> !U.agg T
 |some n=>U.agg T&&Nat.beq n (U.size T)
def Jb(S:aT U)(f:FuncId)(c:Option bz)(xs:List bz):Option (List (KV U)):=
 match c with
 |none=>some (xs.map (·.cY S))
 |some fv=>(match fv.cY S with
  | .bG g caps=>(match Nat.beq g f with|true=>some (xs.map (·.cY S)++caps)|false=>none)
  |_=>none)
def abm(S:aT U):KV U->KV U->Bool
 | .ptr i v o,.ptr i' v' o'=>Nat.beq i i'&&Nat.beq v v'&&Nat.beq o o'&&Nat.beq (S.H i).au v
 |_,_=>false
def RJ(S:aT U)(A_s:List (KV U))(t:Nat):Bool:=(S.env t).oM (λ_=>false)||A_s.any (abm S (S.env t))
def aej(id:Nat):KV U->Bool
 | .ptr i _ _=>Nat.beq i id
 | .bG _ cs| .jc _ cs=>cs.any (λx=>match x with| .ptr i _ _=>Nat.beq i id|_=>false)
 |_=>false
def vZ(S:aT U)(A_s:List (KV U))(id:Nat):Bool:=
 Nat.blt id S.N&& !Nat.beq id 0&&(match(S.H id).c with| .box cs=>cs.all KV.closed|_=>false)&& !A_s.any (aej id)
def Ge(S:aT U)(A_s:List (KV U)):aT U:={env:=S.env,H:=λid=>(match vZ S A_s id with|true=>⟨(S.H id).au,.dead⟩|false=>S.H id),N:=S.N}
def ac1:dM U->Bool
 | .dead=>true
 |_=>false
def abU(S S':aT U)(A_s:List (KV U)):Bool:=Fg S.N (λid=> !vZ S A_s id||ac1 (S'.H id).c)
def S9(S:aT U)(A_s:List (KV U)):aT U:={env:=λt=>(A_s[t]?).getD .undef,H:=S.H,N:=S.N}
def NF(S S':aT U)(A_s:List (KV U))(t:Nat):KV U:=
 match RJ S A_s t with
 |true=>S.env t
 |false=>(match S.env t with
  | .ptr id v o=>(match vZ S A_s id&&Nat.beq (S.H id).au v with|true=> .ptr id (Nat.succ (S'.H id).au) o|false=> .any)
  |_=> .any)
def yN(S S':aT U)(A_s:List (KV U))(d:Option Nat)(r:KV U):aT U:=
 ({env:=NF S S' A_s,H:=λid=>(match vZ S A_s id with|true=>⟨Nat.succ (S'.H id).au,(S.H id).c⟩|false=>S'.H id),N:=S'.N}:aT U).cv d r none
def FP(S S':aT U)(r:KV U)(id:Nat):Bool:=Nat.ble S.N id&&(match(S'.H id).c with| .box _=>true|_=>false)&& !aej id r
def aT.DI(S:aT U)(q:Nat->Bool):aT U:={env:=S.env,H:=λid=>(match q id with|true=>⟨(S.H id).au,.dead⟩|false=>S.H id),N:=S.N}
def S7(S:aT U)(F:List Nat)(W:WS)(A_s:List (KV U))(nt:Nat)(ts:List Nat):Bool:=
 (match W with|some (n,_)=>Nat.ble n S.N|none=>false)&&Nat.ble A_s.length nt&&ts.all (λt=>Nat.ble A_s.length t)&&F.all (RJ S A_s)&&Fg S.N (λid=> !vZ S A_s id||okW W id)
def RZ{ρ:Type}(f:(aT U->Option ρ)->aT U->Option ρ):Nat->aT U->Option ρ
 |0,_=>none
 |n+1,S=>f (RZ f n) S
 def nJ(Γ:List (dK U)):SA U->{ρ:Type}->(F:List Nat)->(W:WS)->(k:Exit->aT U->Option ρ)->(S:aT U)->Option ρ
 | .skip,_,_,_,k,S=>k .normal S
 | .su rs,_,F,W,k,S=>(match D7 F rs.hU with
  |true=>iO K Γ rs W S.N (S.more rs.len) λS'=>k .normal S'
  |false=>none)
 | .qm un rs,_,F,W,k,S=>(match D7 F rs.hU with
  |true=>DB K Γ W S.N rs 0 (S.more rs.len) λS' fs=>(match un.all (λp=>match fs[p.1]?,fs[p.2]? with|some a,some b=>CU a b|_,_=>false)with
   |true=>k .normal S'
   |false=>none)
  |false=>none)
 | .seq x y,_,F,W,k,S=>nJ Γ x F W (λe S'=>match e with
  | .normal=>nJ Γ y F W k S'
  |e=>k e S') S
 | .join J x y,_,F,W,k,S=>(match uU S J F W with
  |true=>bb (λv=>nJ Γ y F W k (unpack K S J v)) λj=>nJ Γ x J.eE (some (S.N,fC J.items)) (λe S'=>match e with
   | .normal=>(match pack K S' J.items with|some v=>j v|none=>none)
   |e=>k e S') S
  |false=>none)
 | .cond c x y,_,F,W,k,S=>(match c.cY S with
  | .bool b=>bif b then nJ Γ x F W k S else nJ Γ y F W k S
  | .gB=>both (nJ Γ x F W k S) (nJ Γ y F W k S)
  |_=>none)
 | .block id x,_,F,W,k,S=>nJ Γ x F W (λe S'=>match e with
  | .exit i=>(match Nat.beq i id with|true=>k .normal S'|false=>k (.exit i) S')
  |e=>k e S') S
 | .loop J x,_,F,W,k,S=>(match uU S J F W with
  |true=>(match pack K S J.items with
   |some v0=>aB (λv=>nJ Γ x J.eE (some (S.N,fC J.items)) (λe S'=>match e with
    | .normal=>(match pack K S' J.items with|some v=>some (Sum.inl v)|none=>none)
    |e=>(k e S').map Sum.inr) (unpack K S J v)) v0
   |none=>none)
  |false=>none)
 | .JX n x,_,F,W,k,S=>RZ (λih S=>nJ Γ x F W (λe S'=>match e with| .normal=>ih S'|e=>k e S') S) n S
 | .back J f kk nE T tg p0 p1 x y,_,F,W,k,S=>
  let D:=SC.rB (.EM (.tmp tg) [p0,p1] x.erase y.erase)
  (match Nb f kk nE Γ&&Nat.beq (U.size T) kk&&WK U T nE&&iv tg J.eE&&D7 J.eE D&&D7 F D&&uU (S.gn D) J F W with
  |true=>(match S.env tg with
   | .bG f' [.ref [.sl T' xs']]=>(match Nat.beq f' f with
    |true=>(match w5 T' T xs' with
     |some xs=>(match pack K (S.gn D) J.items with
      |some v0=>mX (λm a v=>nJ Γ x J.eE (some (S.N,fC J.items)) (λe S1=>match e with
       | .normal=>nJ Γ y J.eE (some (S.N,fC J.items)) (λe S'=>match e with
        | .normal=>(match pack K (S'.gn D) J.items with|some v=>some (Sum.inl v)|none=>none)
        | .ret=>(k .ret (S'.gn D)).map Sum.inr
        | .exit i=>(k (.exit i) (S'.gn D)).map Sum.inr
        |_=>none) S1
       |_=>none) {(unpack K (S.gn D) J v)with env:=gQ (gQ (unpack K (S.gn D) J v).env p0 (.int .i64 m)) p1 (zr K T a)}) (λv=>k .normal (unpack K (S.gn D) J v)) xs.reverse v0
      |none=>none)
     |none=>none)
    |false=>none)
   |_=>none)
  |false=>none)
 | .inl r1 d f c xs nt rvs x r2,_,F,W,k,S=>(match D7 F (r1.hU++d.toList++r2.hU)with
  |true=>iO K Γ r1 W S.N (S.more r1.len) λS1=>(match Jb S1 f c xs with
   |some A_s=>(match S7 S1 F W A_s nt x.erase.rB with
    |true=>nJ Γ x (List.range A_s.length) W (λe S2=>match e with
     | .ret| .normal=>(match yg S2 rvs with
      |some v=>(match abU S1 S2 A_s with|true=>iO K Γ r2 W S2.N (((yN S1 S2 A_s d v).DI (FP S1 S2 v)).more r2.len) λS3=>k .normal S3|false=>none)
      |none=>none)
     |_=>none) (S9 (Ge S1 A_s) A_s)
    |false=>none)
   |none=>none)
  |false=>none)
 | .exit id,_,_,_,k,S=>k (.exit id) S
 | .ret,_,_,_,k,S=>k .ret S
 | .ps p x,_,F,W,k,S=>(match(p.FV S).all (okW W)&&D7 F p.tmps with
  |true=>(match p.run S with|some S'=>nJ Γ x F W k S'|none=>none)
  |false=>none)
 | .Cu p x,_,F,W,k,S=>nJ Γ x F W (λe S'=>match e with
  | .normal=>(match(p.FV S').all (okW W)&&D7 F p.tmps with
   |true=>(match p.run S' with|some S1=>k .normal S1|none=>none)
   |false=>none)
  |e=>k e S') S
structure ix (F:List Nat) (W:WS) (S S':aT U):Prop where
 env:∀t∈F,S'.env t=S.env t
 H:∀id,okW W id=false->S'.H id=S.H id
 N:S.N<=S'.N
def ix.refl(F:List Nat)(W:WS)(S:aT U):ix F W S S:=⟨λ_ _=>rfl,λ_ _=>rfl,QI _⟩
def ix.trans{F:List Nat}{W:WS}{S S' S'':aT U}(h:ix F W S S')(h':ix F W S' S''):ix F W S S'':=
 ⟨λt ht=>(h'.env t ht).trans (h.env t ht),λid hid=>(h'.H id hid).trans (h.H id hid),QK h.N h'.N⟩
def Bx.toC{D F:List Nat}{W:WS}{S S':aT U}(h:Bx D W S S')(ho:D7 F D=true):ix F W S S':=
 ⟨λt ht=>h.env t (λhd=>by have h1:=QH.1 ho t hd;rw[dW.2 ht]at h1;cases h1),h.H,h.N⟩
def ix.more{F:List Nat}{W:WS}{S S':aT U}{n:Nat}(h:ix F W (S.more n) S'):ix F W S S':=
 ⟨h.env,h.H,QK (Nat.le_add_right _ _) h.N⟩
variable {K}
variable {P : Program} {nt : Nat}
def OT{sc:SC}{Q:Exit->St->Prop}{S S':St}(hw:∀(E:En) (a:Act) (w:World) (L:Nat->Value),Rel E S a w L->∃L',Rel E S' a w L')(h:VS P nt sc Q S'):VS P nt sc Q S:=
 λc hs hc E hE hk a w L hr=>by
  obtain⟨L',h'⟩:=hw E a w L hr;exact h c hs hc E hE hk a w L' h'
def adS{sc:SC}{Q Q':Exit->St->Prop}{S:St}(h:VS P nt sc Q' S)(hq:∀e A,Q' e A->∃A',Q e A'/\∀(E:En) (a:Act) (w:World) (L:Nat->Value),Rel E A a w L->∃L',Rel E A' a w L'):VS P nt sc Q S:=
 λc hs hc E hE hk a w L hr=>wpIn_mono (h c hs hc E hE hk a w L hr) λ_ _ _ ⟨S',L',h1,h2⟩=>by
  obtain⟨A',h3,h4⟩:=hq _ _ h2;obtain⟨L'',h5⟩:=h4 _ _ _ _ h1;exact⟨A',L'',h5,h3⟩
def adR{Γ:List (dK U)}(hΓ:tN P Γ){rs:RS U}{W:WS}{ρ:Type}{k:aT U->Option ρ}{r:ρ}{S:aT U}(hok:rs.dp=true)(hr:iO K Γ rs W S.N (S.more rs.len) k=some r){Q:Exit->St->Prop}
  (h:∀S',Bx rs.hU W (S.more rs.len) S'->k S'=some r->Q .normal S'.st):VS P nt (.su rs.flat) Q S.st:=by
 intro c hs hc
 cases c with
 |region id ops d=>
  cases d with
  |true=>simp only[aU]at hc;(try split at hc)<;>(try split at hc)<;>(try split at hc)<;>cases hc
  |false=>
   simp only[aU]at hc;split at hc
   ·rename_i gs' hgs;split at hc
    ·rename_i hd;injection hc with hc
     injection hc with hc
     subst hc;intro E hE hk a w L hrel;refine wpIn_region_list ?_;have h0:Rel E (S.more rs.len).st a w L:=hrel.room rs.len;have:=mf (K:=K) (E:=E) hΓ (ops:=ops) (Q:=λe a' w'=>∃S' L',Rel E S' a' w' L'/\Q e S') rs W S.N (S.more rs.len) k r ops.toList [] a w L hok hgs h0 (QI _) (TM hE hk (Nl hd)) hr (λS' a' w' L' hf h' hk'=>⟨S'.st,L',h',h S' hf hk'⟩)
     simpa using this
    ·cases hc
   ·cases hc
 |seq x y|cond c x y=>simp only[aU]at hc;split at hc<;>cases hc
 |block id c|loop c=>simp only[aU,Qb]at hc;obtain⟨_,_,hc⟩:=hc;cases hc
 |rangeFunc g ps x y=>simp only[aU]at hc;(try split at hc)<;>(try split at hc)<;>cases hc
 |_=>simp only[aU]at hc<;>cases hc
def LY{Γs Γs':Nat->oT}{base:Nat}:∀(l:List (Nat×SG)) (S:St),(∀p∈l,Γs p.1=Γs' p.1)->oK Γs base l S=oK Γs' base l S
 |[],_,_=>rfl
 |(i,g)::l,S,h=>by
  simp only[oK,h (i,g) (by simp)]
  split
  ·rfl
  ·rename_i p hp;rw[LY l _ λq hq=>h q (Qy _ hq)]
def wE{Γ:List (dK U)}(hΓ:tN P Γ){W:WS}{base:Nat}{ρ:Type}{r:ρ}:∀(rs:RS U) (i:Nat) (S:aT U) (k:aT U->List we->Option ρ),rs.dp=true->DB K Γ W base rs i S k=some r->
  ∃(Γs:Nat->oT) (S':aT U) (fs:List we),(∀j,oa P (Γs j))/\oK Γs base ((rs.flat.zipIdx i).map λp=>(p.2,p.1)) S.st=some (S'.st,fs)/\Bx rs.hU W S S'/\k S' fs=some r
 | .nil,i,S,k,_,h=>⟨λ_ _=>none,S,[],λ_=>WI,rfl,Bx.refl _ _ _,h⟩
 | .op o rs,i,S,k,hok,h=>by
  simp only[RS.dp,Qm]at hok;simp only[DB]at h;obtain⟨Γ',x,wr,h1,h2,h3,h4⟩:=Nk hΓ hok.1 h;obtain⟨Γs,S',fs,h5,h6,h7,h8⟩:=wE hΓ rs (i+1) _ _ hok.2 h4;refine⟨λj=>if j=i then Γ' else Γs j,S',_,λj=> ?_,?_,?_,h8⟩
  ·simp only;split
   ·exact h1
   ·exact h5 j
  ·simp only[RS.flat,List.zipIdx_cons,QD,oK,Qt,h2]
   have:oK (λj=>if j=i then Γ' else Γs j) base ((rs.flat.zipIdx (i+1)).map λp=>(p.2,p.1)) (S.st.cv o.d x.pv (wr.map ka))=some (S'.st,fs):=by
    rw[<-EG,<-h6];refine LY _ _ λp hp=> ?_
    obtain⟨q,hq,rfl⟩:=QP.1 hp;have:=List.mem_zipIdx hq;simp only;rw[Qs (by omega)]
   rw[this];simp only[El]
   cases wr with
   |none|some p=>rfl
  ·refine(VP S W o.d x wr h3).trans h7 λt ht=> ?_
   simp only[RS.hU]at ht
   cases hdd:o.d with
   |none=>rw[hdd]at ht;exact⟨by simp,ht⟩
   |some d=>rw[hdd]at ht;simp only[QA,not_or]at ht;exact⟨by simpa using λe=>ht.1 e,ht.2⟩
 | .Bn t rs,i,S,k,hok,h=>by
  simp only[DB]at h;split at h
  ·rename_i b hb
   cases b with
   |true=>rw[Qk,C5 hb]at h;exact wE hΓ rs i S k hok h
   |false=>rw[Ql,C5 hb]at h;exact wE hΓ rs i S k hok h
  ·exact wE hΓ rs i S k hok h
  ·cases h
 | .ps _ _,_,_,_,_,h| .ite _ _ _ _ _ _ _ _,_,_,_,_,h=>by cases h
def adO{c:Code}{Q:Exit->St->Prop}{S:St}(I:Nat->St->Prop)(m0:Nat){S0:St}(hw0:∀(E:En) (a:Act) (w:World) (L:Nat->Value),Rel E S a w L->∃L',Rel E S0 a w L')(h0:I m0 S0)
  (hr:∀m S,I m S->V P nt c (λe S'=>match e with| .normal=>∃m',m'<m/\∃S'',(∀(E:En) (a:Act) (w:World) (L:Nat->Value),Rel E S' a w L->∃L',Rel E S'' a w L')/\I m' S''|e=>Q e S') S):V P nt (.loop c) Q S:=λE hE hk a w L hrel=>by
 refine wpIn_loop_ghost (λm a w=>∃S L,I m S/\Rel E S a w L) m0 ?_ ?_
 ·obtain⟨L',h'⟩:=hw0 E a w L hrel;exact⟨S0,L',h0,h'⟩
 rintro m a w ⟨S1,L1,hI,h1⟩;refine wpIn_mono (hr m S1 hI E hE hk a w L1 h1) ?_;rintro e a' w' ⟨S',L',h2,h3⟩
 cases e with
 |normal=>
  obtain⟨m',hlt,S'',hw,hI'⟩:=h3;obtain⟨L'',h4⟩:=hw E a' w' L' h2;exact⟨m',hlt,S'',L'',hI',h4⟩
 |exit i|goto l|ret|panic c|outgrown=>exact⟨S',L',h2,h3⟩
def T3{x:SC}{Q:Exit->St->Prop}{S:St}(I:Nat->St->Prop)(m0:Nat){S0:St}(hw0:∀(E:En) (a:Act) (w:World) (L:Nat->Value),Rel E S a w L->∃L',Rel E S0 a w L')(h0:I m0 S0)
  (hr:∀m S,I m S->VS P nt x (λe S'=>match e with| .normal=>∃m',m'<m/\∃S'',(∀(E:En) (a:Act) (w:World) (L:Nat->Value),Rel E S' a w L->∃L',Rel E S'' a w L')/\I m' S''|e=>Q e S') S):VS P nt (.loop x) Q S:=by
 intro c hs hc
 cases c with
 |loop p=>
  simp only[aU,Qb]at hc;obtain⟨x',hx,hc⟩:=hc;injection hc with h1
  subst h1;exact adO I m0 hw0 h0 (λm S hI=>hr m S hI p hs hx)
 |region id ops d=>cases d<;>simp only[aU]at hc<;>(try split at hc)<;>(try split at hc)<;>(try split at hc)<;>cases hc
 |seq x y|cond c x y=>simp only[aU]at hc;split at hc<;>cases hc
 |block id c=>simp only[aU,Qb]at hc;obtain⟨_,_,hc⟩:=hc;cases hc
 |rangeFunc g ps x y=>simp only[aU]at hc;(try split at hc)<;>(try split at hc)<;>cases hc
 |_=>simp only[aU]at hc<;>cases hc
def KR{S:aT U}{J:JS U}{F:List Nat}{W:WS}(hchk:uU S J F W=true)(v:sP J.items):ix F W S (unpack K S J v):=by
 simp only[uU,Qm,QH]at hchk;obtain⟨⟨⟨⟨⟨⟨hnd,hids⟩,hokv⟩,hkeep⟩,hobj⟩,hF⟩,hW⟩:=hchk;refine⟨λt ht=> ?_,λid hid=> ?_,?_⟩
 ·have hk:=dW.1 (hF t ht);have hns:iv t (slotsOf J.items)=false:=by simpa using(hkeep t hk).2
  rcases Au (K:=K) (S.base J.eE) J.items v t with⟨⟨i,d⟩,hmem,h1,h2⟩|⟨_,h2⟩
  ·exact absurd (DH (kX hmem) h1) (qK hns)
  ·rw[show(unpack K S J v).env t=_ from h2,Gy,Qr hk]
 ·have hlt:id<S.N:=by
   cases W with
   |none=>cases hW
   |some q=>
    obtain⟨n,l⟩:=q;simp only at hW;simp only[okW,Qq74]at hid;have h1:=QG hW;have h2:¬n<=id:=λhle=>by rw[Nat.ble_eq_true_of_le hle]at hid;cases hid.1
    omega
  rcases EP (K:=K) (S.base J.eE) J.items v id hnd with⟨⟨i,d⟩,hmem,h1,h2⟩|⟨_,h2⟩
  ·have:=(hids id (tq (kX hmem) h1)).2;rw[hid]at this;cases this
  ·rw[show(unpack K S J v).H id=_ from h2,NC,Qr hlt]
 ·rw[unpack,EO,NB];exact QI _
def HT{S S1:aT U}{J:JS U}{F:List Nat}{W:WS}(hchk:uU S J F W=true){v:sP J.items}(hp:pack K S1 J.items=some v)(hf:ix J.eE (some (S.N,fC J.items)) S S1):
  ∀(E:En) (a:Act) (w:World) (L:Nat->Value),Rel E S1.st a w L->∃L',Rel E (unpack K S J v).st a w L':=by
 intro E a w L h;refine⟨L,Rel.meet hchk hp hf.env (λid hid hni=>hf.H id ?_) hf.N h⟩
 simp only[okW,Qq74];refine⟨?_,?_⟩
 ·cases hb:Nat.ble S.N id with
  |false=>rfl
  |true=>have:=QG hb;omega
 ·cases hb:iv id (fC J.items)with
  |false=>rfl
  |true=>exact absurd (dW.1 hb) hni
def KA(S:aT U)(D:List Nat):(S.gn D).st=S.st.vy D:=by
 unfold aT.gn aT.st St.vy;congr 1
 funext t
 simp only
 by_cases h:t∈D
 ·rw[Qr h,dW.2 h];rfl
 ·rw[Qs h]
  cases hb:iv t D with
  |true=>exact absurd (dW.1 hb) h
  |false=>rfl
def Gn{F D:List Nat}(h:D7 F D=true)(W:WS)(S:aT U):ix F W S (S.gn D):=
 ⟨λt ht=>by
  have hn:iv t D=false:=by
   cases hb:iv t D with
   |false=>rfl
   |true=>
    have:=QH.1 h t (dW.1 hb);rw[dW.2 ht]at this;cases this
  simp only[aT.gn,hn],λ_ _=>rfl,QI _⟩
def SN{S:aT U}{J:JS U}{F:List Nat}{W:WS}(hchk:uU S J F W=true)(v:sP J.items){S':aT U}(hf:ix J.eE (some (S.N,fC J.items)) (unpack K S J v) S'):ix F W S S':=by
 have hm:=KR (K:=K) hchk v;refine hm.trans ?_;simp only[uU,Qm,QH]at hchk;obtain⟨⟨⟨⟨⟨⟨hnd,hids⟩,hokv⟩,hkeep⟩,hobj⟩,hF⟩,hW⟩:=hchk;refine⟨λt ht=>hf.env t (dW.1 (hF t ht)),λid hid=>hf.H id ?_,hf.N⟩
 simp only[okW,Qq74];refine⟨?_,?_⟩
 ·cases W with
  |none=>cases hW
  |some q=>
   obtain⟨n,l⟩:=q;simp only at hW;simp only[okW,Qq74]at hid;have h1:=QG hW
   cases hb:Nat.ble S.N id with
   |false=>rfl
   |true=>have:=QG hb;rw[Nat.ble_eq_true_of_le (QK h1 this)]at hid;cases hid.1
 ·cases hb:iv id (fC J.items)with
  |false=>rfl
  |true=>have:=(hids id (dW.1 hb)).2;rw[hid]at this;cases this
def PE{S:aT U}{J:JS U}{F:List Nat}{W:WS}(hchk:uU S J F W=true)(v:sP J.items){t:Nat}(ht:t∈J.eE):(unpack K S J v).env t=S.env t:=by
 simp only[uU,Qm,QH]at hchk;obtain⟨⟨⟨⟨⟨⟨hnd,hids⟩,hokv⟩,hkeep⟩,hobj⟩,hF⟩,hW⟩:=hchk;have hns:iv t (slotsOf J.items)=false:=by simpa using(hkeep t ht).2
 rcases Au (K:=K) (S.base J.eE) J.items v t with⟨⟨i,d⟩,hmem,h1,h2⟩|⟨_,h2⟩
 ·exact absurd (DH (kX hmem) h1) (qK hns)
 ·rw[show(unpack K S J v).env t=_ from h2,Gy,Qr ht]
def YD{S:aT U}{J:JS U}{F:List Nat}{W:WS}(hchk:uU S J F W=true)(v:sP J.items){S':aT U}(hf:ix J.eE (some (S.N,fC J.items)) (unpack K S J v) S'){v':sP J.items}(hv':pack K S' J.items=some v'):
  ∀(E:En) (a:Act) (w:World) (L:Nat->Value),Rel E S'.st a w L->∃L',Rel E (unpack K S J v').st a w L':=by
 intro E a w L hrel;have hkp:=λ{t} ht=>PE (K:=K) hchk v (t:=t) ht
 have hc:=hchk;simp only[uU,Qm,QH]at hc;obtain⟨⟨⟨⟨⟨⟨hnd,hids⟩,hokv⟩,hkeep⟩,hobj⟩,hF⟩,hW⟩:=hc;refine⟨L,Rel.meet hchk hv' (λt ht=>(hf.env t ht).trans (hkp ht)) (λid hid hni=>(hf.H id ?_).trans ?_) (by have:=hf.N;rw[unpack,EO,NB]at this;exact this) hrel⟩
 ·simp only[okW,Qq74];refine⟨?_,?_⟩
  ·cases hb:Nat.ble S.N id with
   |false=>rfl
   |true=>have:=QG hb;omega
  ·cases hb:iv id (fC J.items)with
   |false=>rfl
   |true=>exact absurd (dW.1 hb) hni
 ·rcases EP (K:=K) (S.base J.eE) J.items v id hnd with⟨⟨i,d⟩,hmem,h1,h2⟩|⟨_,h2⟩
  ·exact absurd (tq (kX hmem) h1) hni
  ·rw[show(unpack K S J v).H id=_ from h2,NC,Qr hid]
def aaX{T:U.Ty}{k:Nat}{nE:Option Nat}(hsz:U.size T=k)(hnE:WK U T nE=true)(xs:List (U.den T)):IQ k nE (xs.map (U.pv T))/\∀a:U.den T,AN nE (U.pv T a)=(zr K T a).pv:=by
 have key:∀a:U.den T,tW nE (U.pv T a)=some (fq T a):=by
  intro a;unfold fq
  cases nE with
  |none=>
   simp only[WK,Bool.not_eq_true']at hnE;have h1:=K.len T a;rw[K.one T hnE]at h1;rw[hnE]
   match h2:U.pv T a with
   |[]=>rw[h2]at h1;cases h1
   |x::l=>rfl
  |some n=>
   simp only[WK,Qm]at hnE;have h1:=QF hnE.2;subst h1;rw[hnE.1,tW,Qr (by rw[K.len];exact QI _),<-K.len T a,Qq62]
 have hev:∀a:U.den T,AN nE (U.pv T a)=fq T a:=λa=>by simp only[AN,key,Q3]
 refine⟨⟨λe he=> ?_,λe he=> ?_,λe he=> ?_⟩,λa=>by rw[hev,B4]⟩
 ·obtain⟨a,_,rfl⟩:=QP.1 he;rw[K.len,hsz]
 ·obtain⟨a,_,rfl⟩:=QP.1 he;rw[hev,key]
 ·obtain⟨a,_,rfl⟩:=QP.1 he;rw[hev];unfold fq;split
  ·exact QH.2 λy hy=>gD (K.gR T a y hy)
  ·cases h2:U.pv T a with
   |nil=>have:=K.len T a;rename_i hag;rw[K.one T hag,h2]at this;cases this
   |cons x l=>
    have h3:=gD (K.gR T a x (by rw[h2];exact Qx))
    have h4:=K.gR T a x (by rw[h2];exact Qx)
    cases x<;>first|exact h3|(cases h4)
def aeS(S:aT U)(A_s:List (KV U)):(S9 S A_s).st={S.st with env:=λt=>((A_s.map KV.pv)[t]?).getD .undef}:=by
 unfold S9 aT.st;congr 1
 funext t
 simp only[QT];cases A_s[t]?<;>rfl
def aat(S:aT U)(A_s:List (KV U)):(Ge S A_s).st=S.st.mB (vZ S A_s):=by
 unfold Ge aT.st St.mB;congr 1
 funext id
 simp only;cases vZ S A_s id<;>rfl
def Ig{S:aT U}{A_s:List (KV U)}{id:Nat}(h:vZ S A_s id=true):id<S.N/\id≠0/\∃cs,(S.st.H id).c= .box cs/\cs.all PV.closed=true:=by
 simp only[vZ,Qm,Bool.not_eq_true']at h;obtain⟨⟨⟨h1,h2⟩,h3⟩,_⟩:=h;refine⟨QG h1,λe=>(by rw[e]at h2;cases h2),?_⟩
 split at h3
 ·rename_i cs hc;exact⟨cs.map KV.pv,by simp only[aT.st,c9.pv,hc,dM.pv],by rw[pQ];exact h3⟩
 ·cases h3
def aaW(S S':aT U)(A_s:List (KV U))(d:Option Nat)(r:KV U):(yN S S' A_s d r).st=St.cv {S'.st.shown S.st (vZ S A_s)with env:=λt=>(NF S S' A_s t).pv} d r.pv none:=by
 unfold yN;rw[EG];congr 1;unfold aT.st St.shown;congr 1
 funext id
 simp only;cases vZ S A_s id<;>rfl
def aar(S:aT U)(q:Nat->Bool):(S.DI q).st=S.st.kill q:=by
 unfold aT.DI aT.st St.kill;congr 1
 funext id
 simp only;cases q id<;>rfl
def WR{S:aT U}{f:FuncId}{c:Option bz}{xs:List bz}{A_s:List (KV U)}(ha:Jb S f c xs=some A_s)(hx:xs.all bz.dp=true)(hc:c.all bz.dp=true){E:En}{a:Act}{w:World}{L:Nat->Value}(h:Rel E S.st a w L){hs:List Nat}{o:Oper}(hop:DS P hs o=some (WQ f c xs))(hen:Enters P f):
  ∃vs:List Value,(execOp a.eval o).run P w= .ok (.enter f vs.toArray) w/\bo w (bj E S.st L) (S.st.gh L) (A_s.map KV.pv) vs:=by
 have hmap:xs.map (·.val S.st)=(xs.map (·.cY S)).map KV.pv:=by
  rw[List.map_map];exact Qq71 λx hxm=>tr (QH.1 hx x hxm)
 cases c with
 |none=>
  injection ha with ha
  subst ha;obtain⟨args,ats,hop',hxs⟩:=TC hop;exact⟨_,Y0 hop' hen,by rw[<-hmap];exact h.dI hxs⟩
 |some fv=>
  simp only[Jb]at ha;split at ha
  ·rename_i g caps hf;split at ha
   ·rename_i hg;have hg:=QF hg;subst hg;injection ha with ha
    subst ha;obtain⟨gv,args,ats,hop',hgv,hxs⟩:=P6 hop;have hr:=h.jn hgv;have hfo:fv.dp=true:=by simpa using hc
    rw[tr hfo,hf,KV.pv,KV.cP]at hr;obtain⟨us,hu,hru⟩:=hr.vB;have ha:args.map a.eval=(args.toList.map a.eval).toArray:=by rw[<-Array.toList_map,Array.toArray_toList]
    refine⟨args.toList.map a.eval++us,?_,by rw[List.map_append,<-hmap];exact(h.dI hxs).append hru⟩
    simp only[execOp,hop',resolve,hu,Deferred.ofValue,Sem.run_bind,Sem.run_pure,Result.andThen_ok,invoke,ha];simp[mr hen]
   ·cases ha
  ·cases ha
def adT{Γ:List (dK U)}(hΓ:tN P Γ){r1 r2:RS U}{d:Option Nat}{f:FuncId}{c:Option bz}{xs:List bz}{n:Nat}{rvs:List RV}{sc:SC}{F:List Nat}{W:WS}{ρ:Type}{k:Exit->aT U->Option ρ}{r:ρ}{S:aT U}
  (hfn:iy P f n sc rvs) (hnr:sc.J8=true) (hoff:D7 F (r1.hU++d.toList++r2.hU)=true) (ux:r1.dp=true) (ok2:r2.dp=true) (okx:xs.all bz.dp=true) (Yq:c.all bz.dp=true) {kk:aT U->Option ρ} (h:iO K Γ r1 W S.N (S.more r1.len) kk=some r)
  (hk:∀S1,kk S1=some r->∃A_s,Jb S1 f c xs=some A_s/\S7 S1 F W A_s n sc.rB=true/\VS P n sc (λe A=>∃S2,A=S2.st/\ix (List.range A_s.length) W (S9 (Ge S1 A_s) A_s) S2/\(e= .ret\/e= .normal)/\∃v,yg S2 rvs=some v/\abU S1 S2 A_s=true/\iO K Γ r2 W S2.N (((yN S1 S2 A_s d v).DI (FP S1 S2 v)).more r2.len) (λS3=>k .normal S3)=some r) (S9 (Ge S1 A_s) A_s).st):
  VS P nt (.su (r1.flat++⟨d,none,WQ f c xs⟩::r2.flat)) (λe A=>∃S',A=S'.st/\ix F W S S'/\k e S'=some r) S.st:=by
 intro c0 hs hc
 cases c0 with
 |region id ops d0=>
  cases d0 with
  |true=>simp only[aU]at hc;(try split at hc)<;>(try split at hc)<;>(try split at hc)<;>cases hc
  |false=>
   simp only[aU]at hc;split at hc
   ·rename_i gs' hgs;split at hc
    ·rename_i hd;injection hc with hc
     injection hc with hc
     subst hc;intro E hE hkE a w L hrel;refine wpIn_region_list ?_;obtain⟨l1,l2',el,m1,m2⟩:=yu hgs
     cases l2' with
     |nil=>simp at m2
     |cons o l2=>
     simp only[Qq75,Qd,Qc,Option.pure_def,Qf,List.cons.injEq]at m2;obtain⟨g,hg,gs2,hgs2,rfl,rfl⟩:=m2;have hcan:=TM hE hkE (Nl hd);rw[el]at hcan ⊢;refine mf (K:=K) (E:=E) hΓ (ops:=ops) (Q:=λe a' w'=>∃S' L',Rel E S' a' w' L'/\_) r1 W S.N (S.more r1.len) kk r l1 (o::l2) a w L ux m1 (hrel.room r1.len) (QI _) (λo' ho'=>hcan o' (List.mem_append_left _ ho')) h (λS1 a1 w1 L1 hf1 h1 hk1=> ?_)
     obtain⟨A_s,has,hchk,hvs⟩:=hk S1 hk1;simp only[S7,Qm]at hchk;obtain⟨⟨⟨⟨hWn,hlen⟩,hsets⟩,hkeep⟩,hokW⟩:=hchk;have hlen:=QG hlen;obtain⟨hgu,hds,hcop⟩:=aaK hg;obtain⟨vs,hrun,hrep⟩:=WR has okx Yq h1 hcop hfn.enters;rw[aeS,aat]at hvs
     have hcall:=Zf hfn hnr h1 hrep (by simpa using hlen) (λt ht hm=>by
      have:=QG (QH.1 hsets t hm);rw[QC]at ht
      omega) (vZ S1 A_s) (λid hid=>Ig hid) (Q:=λv A=>∃S2 x,v=x.pv/\A=S2.st/\ix (List.range A_s.length) W (S9 (Ge S1 A_s) A_s) S2/\iO K Γ r2 W S2.N (((yN S1 S2 A_s d x).DI (FP S1 S2 x)).more r2.len) (λS3=>k .normal S3)=some r)
      (hvs.mono λe A ⟨S2,e1,e2,e3,x,e4,e6,e5⟩=>⟨e3,x.pv,by rw[e1];exact B5 e4,⟨S2,x,rfl,e1,e2,e5⟩,by rw[e1];exact e2.N,λid hid=>by
       have:=B0 e6 id (Ig hid).1;rw[hid,Qo,Bool.false_or]at this;rw[e1];simp only[aT.st,c9.pv]
       cases hc:(S2.H id).c with
       |dead=>rfl
       |_=>rw[hc]at this;cases this⟩)
     refine wpListIn_step λKK hKK=> ?_
     rw[Uf hgu,Qr rfl];unfold Oper.wpIn;rw[Oper.semAt_eq _ _ _ (Am hcop),hrun];refine⟨λ_ _=>trivial,(λh=>by cases h),BZ.2 (Calls.mono hcall ?_)⟩
     rintro e w' ⟨v,_,_,L',rfl,⟨S2,x,rfl,rfl,hfr,hr2⟩,hrv,hback⟩;refine hKK _ _ ?_
     have h2:=hback (λt=>(NF S1 S2 A_s t).pv) λt=>by
      simp only[NF]
      cases hkt:RJ S1 A_s t with
      |false=>
       simp only;split
       ·rename_i id vv o het;split
        ·rename_i hh;rw[Qm]at hh;refine .inr (.inr (.inr ⟨id,o,hh.1,?_,rfl⟩));show(S1.env t).pv= .ptr id (S1.H id).au o;rw[het,QF hh.2];rfl
        ·exact .inl rfl
       ·exact .inl rfl
      |true=>
       simp only[RJ,Qn]at hkt;simp only;rcases hkt with hkt|hkt
       ·exact .inr (.inl ⟨rfl,by rw[<-My]at hkt;exact hkt⟩)
       ·obtain⟨y,hy,hyt⟩:=List.any_eq_true.1 hkt;obtain⟨i,hi,rfl⟩:=List.mem_iff_getElem.1 hy;have hai:A_s[i]?=some A_s[i]:=Qv hi;obtain⟨v',hv',hr'⟩:=hrep.get (i:=i) (x:=A_s[i].pv) (by rw[QT,hai];rfl)
        have hfe:=hfr.env i (List.mem_range.2 hi)
        have hs2:S2.env i=A_s[i]:=by
         rw[hfe];show(A_s[i]?).getD .undef=_;rw[hai];rfl
        have hrt:=h1.env t;rw[show S1.st.env t=(S1.env t).pv from rfl]at hrt
        have hq:(S1.env t).pv=A_s[i].pv/\vs[i]?=some (a1.tmps.getD t undef):=by
         generalize A_s[i]=y at hyt hr';generalize S1.env t=x at hyt hrt
         cases x with
         |ptr id au off=>
          cases y with
          |ptr id' ver' off'=>
           simp only[abm,Qm]at hyt;obtain⟨⟨⟨e1,e2⟩,e3⟩,e4⟩:=hyt;obtain rfl:=QF e1;obtain rfl:=QF e2;obtain rfl:=QF e3;have e4:(S1.st.gh L1).V id=au:=QF e4;obtain⟨_,g1⟩:=hrt.oz e4;obtain⟨_,g2⟩:=hr'.oz e4;exact⟨rfl,by rw[hv',g1,g2]⟩
          |_=>cases hyt
         |_=>cases hyt
        exact .inr (.inr (.inl ⟨i,hq.2,(show(S1.env t).pv=(S2.env i).pv by rw[hs2];exact hq.1)⟩))
     have h3:=h2.Wv (d:=o.dst) (hcan o (List.mem_append_right _ Qx)) hrv
     have h4:Rel E ((yN S1 S2 A_s d x).DI (FP S1 S2 x)).st (a1.put o.dst v) w' L':=by
      rw[aar,aaW,<-hds];exact h3.afY _
     have hl2:l2=l2++[]:=by rw[List.append_nil]
     rw[hl2];refine mf (K:=K) (E:=E) hΓ (ops:=ops) r2 W S2.N (((yN S1 S2 A_s d x).DI (FP S1 S2 x)).more r2.len) (λS3=>k .normal S3) r l2 [] _ w' L' ok2 hgs2 (h4.room r2.len) (QI _) (λo' ho'=>hcan o' (List.mem_append_right _ (Qy _ ho'))) hr2 (λS3 a3 w3 L3 hf3 h5 hk3=> ?_)
     have hoff':∀t∈F,t∉r1.hU/\d≠some t/\t∉r2.hU:=by
      intro t ht;have:=λq hq=>QH.1 hoff q hq
      refine⟨λhm=> ?_,λhm=> ?_,λhm=> ?_⟩
      ·have:=this t (List.mem_append_left _ (List.mem_append_left _ hm));rw[dW.2 ht]at this;cases this
      ·have:=this t (List.mem_append_left _ (List.mem_append_right _ (by rw[hm];exact Q5.2 rfl)));rw[dW.2 ht]at this;cases this
      ·have:=this t (List.mem_append_right _ hm);rw[dW.2 ht]at this;cases this
     refine⟨S3.st,L3,h5,S3,rfl,⟨λt ht=> ?_,λq hq=> ?_,?_⟩,hk3⟩
     ·obtain⟨n1,n2,n3⟩:=hoff' t ht;rw[hf3.env t n3];show(yN S1 S2 A_s d x).env t=_;unfold yN;rw[k9 _ _ _ _ n2];simp only[NF,QH.1 hkeep t ht];exact hf1.env t n1
     ·rw[hf3.H q hq]
      have hnh:vZ S1 A_s q=false:=by
       cases hqq:vZ S1 A_s q with
       |false=>rfl
       |true=>
        have:=B0 hokW q (Ig hqq).1;rw[hqq,hq]at this;cases this
      have hno:FP S1 S2 x q=false:=by
       cases W with
       |none=>cases hWn
       |some W=>
        simp only[okW,Qq74]at hq;have hlt:¬W.1<=q:=λe=>by have:=Nat.ble_eq_true_of_le e;rw[hq.1]at this;cases this
        have hWn:=QG hWn
        have:Nat.ble S1.N q=false:=by
         cases hb:Nat.ble S1.N q with
         |false=>rfl
         |true=>have:=QG hb;omega
        unfold FP;rw[this];rfl
      show(match FP S1 S2 x q with|true=>_|false=>(yN S1 S2 A_s d x).H q)=_
      rw[hno];show(match vZ S1 A_s q with|true=>_|false=>S2.H q)=_
      rw[hnh];show S2.H q=_;rw[hfr.H q hq];show(match vZ S1 A_s q with|true=>_|false=>S1.H q)=_
      rw[hnh];exact hf1.H q hq
     ·have e1:=hf1.N;have e2:=hfr.N;have e3:=hf3.N;have:(S.more r1.len).N=S.N+r1.len:=rfl;have:(((yN S1 S2 A_s d x).DI (FP S1 S2 x)).more r2.len).N=S2.N+r2.len:=rfl;have:(S9 (Ge S1 A_s) A_s).N=S1.N:=rfl;omega
    ·cases hc
   ·cases hc
 |seq x y|cond c x y=>simp only[aU]at hc;split at hc<;>cases hc
 |block id c|loop c=>simp only[aU,Qb]at hc;obtain⟨_,_,hc⟩:=hc;cases hc
 |rangeFunc g ps x y=>simp only[aU]at hc;(try split at hc)<;>(try split at hc)<;>cases hc
 |_=>simp only[aU]at hc<;>cases hc
def eF{Γ:List (dK U)}(hΓ:tN P Γ):∀(sa:SA U) {nt:Nat} {ρ:Type} (F:List Nat) (W:WS) (k:Exit->aT U->Option ρ) (S:aT U) (r:ρ),sa.uw P->nJ K Γ sa F W k S=some r->
  VS P nt sa.erase (λe A=>∃S',A=S'.st/\ix F W S S'/\k e S'=some r) S.st
 | .skip,nt,ρ,F,W,k,S,r,hok,h=>adQ ⟨S,rfl,ix.refl _ _ _,h⟩
 | .exit id,nt,ρ,F,W,k,S,r,hok,h=>adU ⟨S,rfl,ix.refl _ _ _,h⟩
 | .ret,nt,ρ,F,W,k,S,r,hok,h=>afi ⟨S,rfl,ix.refl _ _ _,h⟩
 | .su rs,nt,ρ,F,W,k,S,r,hok,h=>by
  simp only[nJ]at h;split at h
  ·rename_i ho;exact adR hΓ hok h λS' hf hk=>⟨S',rfl,(hf.toC ho).more,hk⟩
  ·cases h
 | .qm un rs,nt,ρ,F,W,k,S,r,hok,h=>by
  simp only[nJ]at h;split at h
  ·rename_i ho;obtain⟨Γs,S',fs,h1,h2,h3,h4⟩:=wE hΓ rs 0 _ _ hok h;split at h4
   ·rename_i hun;refine afj h1 (S':=S'.st) ?_ ⟨S',rfl,(h3.toC ho).more,h4⟩;rw[RS.CF];have e:({S.st with N:=S.st.N+rs.len}:St)=(S.more rs.len).st:=rfl
    rw[e,N5];rw[show S.st.N=S.N from rfl,h2]
    exact Qr hun
   ·cases h4
  ·cases h
 | .seq x y,nt,ρ,F,W,k,S,r,hok,h=>by
  simp only[SA.uw]at hok;refine Zs ((eF hΓ x F W _ S r hok.1 h).mono ?_);rintro e A ⟨S',rfl,hf,hk⟩
  cases e with
  |normal=>exact(eF hΓ y F W k S' r hok.2 hk).mono λe A ⟨S'',h1,h2,h3⟩=>⟨S'',h1,hf.trans h2,h3⟩
  |exit i|goto l|ret|panic c|outgrown=>exact⟨S',rfl,hf,hk⟩
 | .join J x y,nt,ρ,F,W,k,S,r,hok,h=>by
  simp only[SA.uw]at hok;simp only[nJ]at h;split at h
  ·rename_i hchk;unfold bb at h
   have hsub:∀S',ix J.eE (some (S.N,fC J.items)) S S'->ix F W S S':=by
    intro S' hf;simp only[uU,Qm,QH]at hchk;obtain⟨⟨⟨⟨⟨⟨hnd,hids⟩,hokv⟩,hkeep⟩,hobj⟩,hF⟩,hW⟩:=hchk;refine⟨λt ht=>hf.env t (dW.1 (hF t ht)),λid hid=>hf.H id ?_,hf.N⟩
    simp only[okW,Qq74];refine⟨?_,?_⟩
    ·cases W with
     |none=>cases hW
     |some q=>
      obtain⟨n,l⟩:=q;simp only at hW;simp only[okW,Qq74]at hid;have h1:=QG hW
      cases hb:Nat.ble S.N id with
      |false=>rfl
      |true=>have:=QG hb;rw[Nat.ble_eq_true_of_le (QK h1 this)]at hid;cases hid.1
    ·cases hb:iv id (fC J.items)with
     |false=>rfl
     |true=>have:=(hids id (dW.1 hb)).2;rw[hid]at this;cases this
   refine Zs ((eF hΓ x J.eE _ _ S r hok.1 h).mono ?_);rintro e A ⟨S',rfl,hf,hk⟩
   cases e with
   |normal=>
    simp only at hk;split at hk
    ·rename_i v hv;refine OT (HT hchk hv hf) ?_;exact(eF hΓ y F W k _ r hok.2 hk).mono λe A ⟨S'',h1,h2,h3⟩=>⟨S'',h1,(KR hchk v).trans h2,h3⟩
    ·cases hk
   |exit i|goto l|ret|panic c|outgrown=>exact⟨S',rfl,hsub S' hf,hk⟩
  ·cases h
 | .cond c x y,nt,ρ,F,W,k,S,r,hok,h=>by
  simp only[SA.uw]at hok;simp only[nJ]at h;split at h
  ·rename_i b hb;have hv:c.val S.st= .bool b:=by rw[tr hok.1.1,hb];rfl
   refine adV hv ?_
   cases b with
   |true=>exact eF hΓ x F W k S r hok.1.2 h
   |false=>exact eF hΓ y F W k S r hok.2 h
  ·rename_i hb;have hv:c.val S.st= .gB:=by rw[tr hok.1.1,hb];rfl
   obtain⟨h1,h2⟩:=Zg h;exact aa3 hv (eF hΓ x F W k S r hok.1.2 h1) (eF hΓ y F W k S r hok.2 h2)
  ·cases h
 | .block id x,nt,ρ,F,W,k,S,r,hok,h=>by
  refine aa4 ((eF hΓ x F W _ S r hok h).mono ?_);rintro e A ⟨S',rfl,hf,hk⟩
  cases e with
  |exit i=>
   simp only at hk;simp only[Fc];split at hk
   ·rename_i hi;rw[Qr (QF hi)];exact⟨S',rfl,hf,hk⟩
   ·rename_i hi;rw[Qs (Nat.ne_of_beq_eq_false hi)];exact⟨S',rfl,hf,hk⟩
  |normal|goto l|ret|panic c|outgrown=>exact⟨S',rfl,hf,hk⟩
 | .loop J x,nt,ρ,F,W,k,S,r,hok,h=>by
  simp only[nJ]at h;split at h
  ·rename_i hchk;split at h
   ·rename_i v0 hv0
    have hsub:∀v S',ix J.eE (some (S.N,fC J.items)) (unpack K S J v) S'->ix F W S S':=by
     intro v S' hf;have hm:=KR (K:=K) hchk v;refine hm.trans ?_;simp only[uU,Qm,QH]at hchk;obtain⟨⟨⟨⟨⟨⟨hnd,hids⟩,hokv⟩,hkeep⟩,hobj⟩,hF⟩,hW⟩:=hchk;refine⟨λt ht=>hf.env t (dW.1 (hF t ht)),λid hid=>hf.H id ?_,hf.N⟩
     simp only[okW,Qq74];refine⟨?_,?_⟩
     ·cases W with
      |none=>cases hW
      |some q=>
       obtain⟨n,l⟩:=q;simp only at hW;simp only[okW,Qq74]at hid;have h1:=QG hW
       cases hb:Nat.ble S.N id with
       |false=>rfl
       |true=>have:=QG hb;rw[Nat.ble_eq_true_of_le (QK h1 this)]at hid;cases hid.1
     ·cases hb:iv id (fC J.items)with
      |false=>rfl
      |true=>have:=(hids id (dW.1 hb)).2;rw[hid]at this;cases this
    have hself:∀v S',ix J.eE (some (S.N,fC J.items)) (unpack K S J v) S'->∀v',pack K S' J.items=some v'->∀(E:En) (a:Act) (w:World) (L:Nat->Value),Rel E S'.st a w L->∃L',Rel E (unpack K S J v').st a w L':=by
     intro v S' hf v' hv' E a w L hrel;have hc:=hchk;simp only[uU,Qm,QH]at hc;obtain⟨⟨⟨⟨⟨⟨hnd,hids⟩,hokv⟩,hkeep⟩,hobj⟩,hF⟩,hW⟩:=hc;refine⟨L,Rel.meet hchk hv' (λt ht=>(hf.env t ht).trans ?_) (λid hid hni=>(hf.H id ?_).trans ?_) (by have:=hf.N;rw[unpack,EO,NB]at this;exact this) hrel⟩
     ·have hns:iv t (slotsOf J.items)=false:=by simpa using(hkeep t ht).2
      rcases Au (K:=K) (S.base J.eE) J.items v t with⟨⟨i,d⟩,hmem,h1,h2⟩|⟨_,h2⟩
      ·exact absurd (DH (kX hmem) h1) (qK hns)
      ·rw[show(unpack K S J v).env t=_ from h2,Gy,Qr ht]
     ·simp only[okW,Qq74];refine⟨?_,?_⟩
      ·cases hb:Nat.ble S.N id with
       |false=>rfl
       |true=>have:=QG hb;omega
      ·cases hb:iv id (fC J.items)with
       |false=>rfl
       |true=>exact absurd (dW.1 hb) hni
     ·rcases EP (K:=K) (S.base J.eE) J.items v id hnd with⟨⟨i,d⟩,hmem,h1,h2⟩|⟨_,h2⟩
      ·exact absurd (tq (kX hmem) h1) hni
      ·rw[show(unpack K S J v).H id=_ from h2,NC,Qr hid]
    obtain⟨n,hn⟩:=BO h
    refine T3 (λm A=>∃v,A=(unpack K S J v).st/\q7 (λv=>nJ K Γ x J.eE (some (S.N,fC J.items)) (λe S'=>match e with
     | .normal=>(match pack K S' J.items with|some v=>some (Sum.inl v)|none=>none)
     |e=>(k e S').map Sum.inr) (unpack K S J v)) m v=some r) n (HT hchk hv0 (ix.refl _ _ _)) ⟨v0,rfl,hn⟩ ?_
    rintro m A ⟨v,rfl,hm⟩
    cases m with
    |zero=>cases hm
    |succ m=>
     simp only[q7]at hm;split at hm
     ·cases hm
     ·rename_i r' hs;injection hm with hm
      subst hm;refine(eF hΓ x J.eE _ _ _ _ hok hs).mono ?_;rintro e A ⟨S',rfl,hf,hk⟩
      cases e with
      |normal=>
       simp only at hk;split at hk<;>cases hk
      |exit i|goto l|ret|panic c|outgrown=>simp only[Qb]at hk;obtain⟨q,hq,e⟩:=hk;injection e with e;subst e;exact⟨S',rfl,hsub v S' hf,hq⟩
     ·rename_i v' hs;refine(eF hΓ x J.eE _ _ _ _ hok hs).mono ?_;rintro e A ⟨S',rfl,hf,hk⟩
      cases e with
      |normal=>
       simp only at hk;split at hk
       ·rename_i v1 hv1;injection hk with hk
        injection hk with hk
        subst hk;exact⟨m,Nat.lt_succ_self m,_,hself v S' hf v1 hv1,v1,rfl,hm⟩
       ·cases hk
      |exit i|goto l|ret|panic c|outgrown=>simp only[Qb]at hk;obtain⟨q,hq,e⟩:=hk;cases e
   ·cases h
  ·cases h
 | .JX n x,nt,ρ,F,W,k,S,r,hok,h=>by
  simp only[nJ]at h;have⟨g,hg,h⟩:=(⟨_,rfl,h⟩:∃g,g=_/\RZ g n S=some r);refine T3 (λm A=>∃S1:aT U,A=S1.st/\ix F W S S1/\RZ g m S1=some r) n (λE a w L h=>⟨L,h⟩) ⟨S,rfl,ix.refl _ _ _,h⟩ ?_
  rintro m A ⟨S1,rfl,hf1,hm⟩
  cases m with
  |zero=>cases hm
  |succ m=>
   simp only[RZ]at hm;rw[hg]at hm;simp only at hm;rw[<-hg]at hm;refine(eF hΓ x F W _ S1 r hok hm).mono ?_;rintro e A ⟨S',rfl,hf,hk⟩
   cases e with
   |normal=>exact⟨m,Nat.lt_succ_self m,S'.st,λE a w L h=>⟨L,h⟩,S',rfl,hf1.trans hf,hk⟩
   |exit i|goto l|ret|panic c|outgrown=>exact⟨S',rfl,hf1.trans hf,hk⟩
 | .back J f kk nE T tg p0 p1 x y,nt,ρ,F,W,k,S,r,hok,h=>by
  simp only[SA.uw]at hok;simp only[nJ]at h;obtain⟨D,hD⟩:∃D,SC.rB (.EM (.tmp tg) [p0,p1] x.erase y.erase)=D:=⟨_,rfl⟩;rw[hD]at h;split at h
  ·rename_i hcond;simp only[Qm]at hcond;obtain⟨⟨⟨⟨⟨⟨hbk,hsz⟩,hnE⟩,htk⟩,hkD⟩,hFD⟩,hchk⟩:=hcond;have hsz:=QF hsz;have htk:=dW.1 htk
   have htD:tg∉D:=λhm=>by
    have:=QH.1 hkD tg hm;rw[dW.2 htk]at this;cases this
   have hp:∀q,q=p0\/q=p1->iv q J.eE=false:=by
    intro q hq;have hqD:q∈D:=by rw[<-hD];rcases hq with rfl|rfl<;>simp[SC.rB]
    simpa using QH.1 hkD q hqD
   split at h
   ·rename_i f' T' xs' hclo;split at h
    ·rename_i hff;have hff:=QF hff;subst hff;split at h
     ·rename_i xs hcast;obtain⟨eT,hxs⟩:=ml hcast;subst eT;simp only at hxs;subst hxs;split at h
      ·rename_i v0 hv0;obtain⟨hin,hev⟩:=aaX (K:=K) hsz hnE xs;have⟨step,hstep,h⟩:=(⟨_,rfl,h⟩:∃step,step=_/\mX step (λv=>k .normal (unpack K (S.gn D) J v)) xs.reverse v0=some r)
       have hN:(S.gn D).N=S.N:=rfl;refine adW (La hΓ hbk) hin (by rw[hD];exact htD) (λi A=>∃v,A=(unpack K (S.gn D) J v).st/\mX step (λv=>k .normal (unpack K (S.gn D) J v)) (xs.take i).reverse v=some r) ?_ ?_ ?_ ?_
       ·rw[hD,<-KA];refine⟨_,HT hchk hv0 (ix.refl _ _ _),v0,rfl,?_⟩;rw[QC,Qq62];exact h
       ·rintro i A ⟨v,rfl,_⟩;show((unpack K (S.gn D) J v).env tg).pv=_;rw[PE hchk v htk];have:(S.gn D).env tg=S.env tg:=(Gn hkD none S).env tg htk;rw[this,hclo];rfl
       ·rintro m A e ⟨v,rfl,hm⟩ he;rw[QT,Qb]at he;obtain⟨a,ha,rfl⟩:=he;have hml:m<xs.length:=(Qw.1 ha).1;rw[List.take_add_one,ha,Option.toList_some,List.reverse_append]at hm;simp only[List.reverse_cons,List.reverse_nil,List.nil_append,List.singleton_append,mX]at hm;rw[List.length_reverse,List.length_take,Nat.min_eq_left (Nat.le_of_lt hml)]at hm
        obtain⟨z,hz,hzr⟩:∃z,step m a v=some z/\(match z with| .inr r'=>r'=r| .inl s'=>mX step (λv=>k .normal (unpack K (S.gn D) J v)) (xs.take m).reverse s'=some r):=by
         split at hm
         ·cases hm
         ·rename_i r' hs;injection hm with hm
          exact⟨_,hs,hm⟩
         ·rename_i s' hs;exact⟨_,hs,hm⟩
        clear hm;rw[hstep]at hz;simp only at hz
        have hst:({(unpack K (S.gn D) J v).st with env:=bR (bR (unpack K (S.gn D) J v).st.env p0 (.int .i64 m)) p1 (AN nE (U.pv _ a))}:St)=aT.st {(unpack K (S.gn D) J v)with env:=gQ (gQ (unpack K (S.gn D) J v).env p0 (.int .i64 m)) p1 (zr K _ a)}:=by
         have henv:bR (bR (unpack K (S.gn D) J v).st.env p0 (.int .i64 m)) p1 (AN nE (U.pv _ a))=λt=>((gQ (gQ (unpack K (S.gn D) J v).env p0 (.int .i64 m)) p1 (zr K _ a)) t).pv:=by
          funext t
          simp only[dB,hev];unfold bR;split
          ·rfl
          ·split
           ·rfl
           ·rfl
         exact congrArg (λe=>({(unpack K (S.gn D) J v).st with env:=e}:St)) henv
        rw[hst]
        have hf0:ix J.eE (some (S.N,fC J.items)) (unpack K (S.gn D) J v) {(unpack K (S.gn D) J v)with env:=gQ (gQ (unpack K (S.gn D) J v).env p0 (.int .i64 m)) p1 (zr K _ a)}:=by
         refine⟨λt ht=> ?_,λ_ _=>rfl,QI _⟩
         simp only[dB];rw[cJ _ _ (λe=>by have:=hp t (.inr e);rw[dW.2 ht]at this;cases this),cJ _ _ (λe=>by have:=hp t (.inl e);rw[dW.2 ht]at this;cases this)]
        refine(eF hΓ x J.eE _ _ _ _ hok.1 hz).mono ?_;rintro e A ⟨S1,rfl,hf1,hk1⟩
        cases e with
        |normal=>
         simp only at hk1;refine(eF hΓ y J.eE _ _ _ _ hok.2 hk1).mono ?_;rintro e A ⟨S2,rfl,hf2,hk2⟩;have hf3:ix J.eE (some (S.N,fC J.items)) (unpack K (S.gn D) J v) (S2.gn D):=((hf0.trans hf1).trans hf2).trans (Gn hkD _ _);have hf4:ix F W S (S2.gn D):=(Gn hFD W S).trans (SN hchk v hf3);rw[hD]
         cases e with
         |normal=>
          simp only at hk2;split at hk2
          ·rename_i v' hv';injection hk2 with hk2
           subst hk2;refine⟨_,?_,v',rfl,hzr⟩;rw[<-KA];exact YD hchk v hf3 hv'
          ·cases hk2
         |ret|exit i=>
          simp only[Qb]at hk2;obtain⟨q,hq,rfl⟩:=hk2;simp only at hzr;subst hzr;exact⟨S2.gn D,(KA _ _).symm,hf4,hq⟩
         |goto i|panic ch|outgrown=>cases hk2
        |ret|exit i|goto i|panic ch|outgrown=>cases hk1
       ·rintro A ⟨v,rfl,hm⟩;simp only[List.take_zero,List.reverse_nil,mX]at hm;exact⟨_,rfl,(Gn hFD W S).trans (SN hchk v (ix.refl _ _ _)),hm⟩
      ·cases h
     ·cases h
    ·cases h
   ·cases h
  ·cases h
 | .inl r1 d f c xs n rvs x r2,nt,ρ,F,W,k,S,r,hok,h=>by
  simp only[SA.uw]at hok;obtain⟨⟨ux,ok2,okx,Yq⟩,hnr,hfn,hokx⟩:=hok;simp only[nJ]at h;split at h
  ·rename_i hoff;refine adT hΓ hfn hnr hoff ux ok2 okx Yq h λS1 hk1=> ?_
   split at hk1
   ·rename_i A_s has;split at hk1
    ·rename_i hchk;refine⟨A_s,has,hchk,(eF hΓ x _ W _ _ r hokx hk1).mono ?_⟩;rintro e A ⟨S2,rfl,hf,hk2⟩
     cases e with
     |ret=>
      simp only at hk2;split at hk2
      ·rename_i v hv;split at hk2
       ·rename_i hdk;exact⟨S2,rfl,hf,.inl rfl,v,hv,hdk,hk2⟩
       ·cases hk2
      ·cases hk2
     |normal=>
      simp only at hk2;split at hk2
      ·rename_i v hv;split at hk2
       ·rename_i hdk;exact⟨S2,rfl,hf,.inr rfl,v,hv,hdk,hk2⟩
       ·cases hk2
      ·cases hk2
     |exit i|goto l|panic c|outgrown=>cases hk2
    ·cases hk1
   ·cases hk1
  ·cases h
 | .ps p x,nt,ρ,F,W,k,S,r,hok,h=>by
  simp only[nJ]at h;split at h
  ·rename_i hW;simp only[Qm]at hW;split at h
   ·rename_i S1 hp;refine OT (λE a w L hr=>Ps.sound K hp hr) ((eF hΓ x F W k S1 r hok h).mono λe A ⟨S'',h1,h2,h3⟩=>⟨S'',h1,ix.trans ?_ h2,h3⟩)
    exact(Ps.frm hp hW.1).toC hW.2
   ·cases h
  ·cases h
 | .Cu p x,nt,ρ,F,W,k,S,r,hok,h=>by
  refine adS (eF hΓ x F W _ S r hok h) ?_;rintro e A ⟨S',rfl,hf,hk⟩
  cases e with
  |normal=>
   simp only at hk;split at hk
   ·rename_i hW;simp only[Qm]at hW;split at hk
    ·rename_i S1 hp;exact⟨S1.st,⟨S1,rfl,hf.trans ((Ps.frm hp hW.1).toC hW.2),hk⟩,λE a w L hr=>Ps.sound K hp hr⟩
    ·cases hk
   ·cases hk
  |exit i|goto l|ret|panic c|outgrown=>exact⟨_,⟨S',rfl,hf,hk⟩,λE a w L hr=>⟨L,hr⟩⟩
end
end
section
open Go.RowKit
section
variable {P : Program} {E : En} {S : St} {a : Act} {w : World} {L : Nat -> Value} {nt : Nat}
def VS.post{sc:SC}{Q Q':Exit->St->Prop}{S:St}(h:VS P nt sc Q S)(hq:∀e A,Q e A->∃A',(∀(E:En) (a:Act) (w:World) (L:Nat->Value),Rel E A a w L->∃L',Rel E A' a w L')/\Q' e A'):VS P nt sc Q' S:=
 λc hs hc E hE hk a w L hr=>wpIn_mono (h c hs hc E hE hk a w L hr) λe a' w' ⟨S',L',h1,h2⟩=>by
  obtain⟨A',h3,h4⟩:=hq e S' h2;obtain⟨L'',h5⟩:=h3 E a' w' L' h1;exact⟨A',L'',h5,h4⟩
def Rel.afU(h:Rel E S a w L){id:Nat}{cs:List PV}(hid:id<S.N)(hc:(S.H id).c= .box cs):Rel E {S with H:=bR S.H id ⟨(S.H id).au,.box (cs.map nz)⟩} a w L:=by
 have:=(h.uj (w':=w) hid ⟨(S.H id).au,.box (cs.map nz)⟩ (L id) (.inl ⟨rfl,rfl,by rw[hc];rfl⟩) rfl rfl rfl (QI _) (λ_ _ _=>rfl) (λb _ hb=> .inl ⟨by rw[hc];rfl,hb⟩) (λhs hg=>by
  obtain⟨b,cur,T,h1,h2,h3,h4⟩:=h.qo hid hc
  exact⟨b,cur,T,h1,h2,h4,(h3.mono hs hg).nz⟩)).1
 rwa [Fv]at this
end
section
variable {U : TU}
variable (K : TK U)
def Lj(S:aT U)(ex:Option Nat):(r:pH U)->KV U->Option r.den
 | .one T,x=>Dt K S.lk T x
 | .many Ts,x=>(match x with| .eD xs=>RQ K S.lk Ts xs|_=>none)
 | .fn a,x=>(match Nat.ble a.depth 9 with|true=>Lm K S ex a x|false=>none)
variable {K}
def ON{S:aT U}{ex:Option Nat}(hex:∀id,ex=some id->∀e k T xs,(S.H id).c≠ .row e k T xs){r:pH U}{x:KV U}{v:r.den}(h:Lj K S ex r x=some v):fz S.st.H ex 9 x.pv=um r v:=by
 cases r with
 |one T=>exact Kv hex 7 h
 |many Ts=>
  simp only[Lj]at h;split at h
  ·rename_i xs;rw[KV.pv,KV.cP,fz,um,Tu hex 6 Ts _ v h]
  ·cases h
 |fn a=>
  simp only[Lj]at h;split at h
  ·rename_i hd;exact VH hex a 9 x v (QG hd) h
  ·cases h
variable (K)
def LA(A_s:List (KV U)):aT U:=
 {env:=λt=>(A_s[t]?).getD .undef,H:=λ_=>⟨0,.dead⟩,N:=0}
def aa6(pos:Nat)(cs A_s:List (KV U)):aT U:=
 {env:=λt=>((ji pos [KV.ptr 0 0 0] A_s)[t]?).getD .undef,H:=λid=>(match Nat.beq id 0 with|true=>⟨0,.box cs⟩|false=>⟨0,.dead⟩),N:=1}
def To{ρ:Type}(ex:Option Nat)(rs:List RV)(r:pH U)(k:aT U->r.den->Option ρ)(e:Exit)(S:aT U):Option ρ:=
 match e with
 | .ret| .normal=>(match yg S rs with
  |some x=>(match Lj K S ex r x with|some v=>k S v|none=>none)
  |none=>none)
 |_=>none
def Cb(S:aT U):List RV->Bool
 |[]=>true
 | .tmp _::l=>Cb S l
 | .cell t _::l=>(match S.env t with| .ptr id _ _=> !Nat.beq id 0|_=>false)&&Cb S l
 def Tj(Γ:List (dK U))(sa:SA U)(rs:List RV)(A_s:List (du U))(r:pH U)(a:eA A_s):Option r.den:=
 nJ K Γ sa [] (some (0,[])) (To K none rs r λ_ v=>some v) (LA (uX K A_s a))
 def rcK(Γ:List (dK U))(sa:SA U)(rs:List RV)(pos:Nat)(R:U.Ty)(A_s:List (du U))(r:pH U)(s:U.den R)(a:eA A_s):Option (r.den×U.den R):=
 nJ K Γ sa [] (some (0,[])) (To K (some 0) rs r λS v=>(match Cb S rs with
  |true=>(match S.uW 0 0 with
   |some cs=>(match K.dec R rE cs with|some s'=>some (v,s')|none=>none)
   |none=>none)
  |false=>none)) (aa6 pos (K.fY R s) (uX K A_s a))
 def nwK(Γ:List (dK U))(sa:SA U)(rs:List RV)(A_s:List (du U))(R:U.Ty)(a:eA A_s):Option (U.den R):=
 nJ K Γ sa [] (some (0,[])) (λe S=>(match e with
  | .ret=>(match yg S rs with
   |some (.ptr id au 0)=>(match S.uW id au with|some cs=>K.dec R rE cs|none=>none)
   |_=>none)
  |_=>none)) (LA (uX K A_s a))
variable {K}
variable {P : Program} {nt : Nat}
def xy:∀(A_s:List (du U)) (a:eA A_s),(gJ A_s a).length=A_s.length
 |[],_=>by rw[gJ];rfl
 |_::l,a=>by rw[gJ,QE,xy l a.2,QE]
def Jo(A_s:List (du U))(a:eA A_s):(LA (uX K A_s a)).st=dz 0 false [] (gJ A_s a):=by
 unfold LA aT.st dz;congr 1
 ·funext t
  rw[<-AV K];simp only[Qq,Qu,PJ,QT];cases (uX K A_s a)[t]?<;>rfl
def adZ(pos:Nat)(R:U.Ty)(s:U.den R)(A_s:List (du U))(a:eA A_s):(aa6 pos (K.fY R s) (uX K A_s a)).st=dz pos true (U.pv R s) (gJ A_s a):=by
 unfold aa6 aT.st dz;congr 1
 ·funext t
  rw[<-AV K];simp only[Qt];have:(ji pos [PV.ptr 0 0 0] ((uX K A_s a).map KV.pv))=(ji pos [KV.ptr 0 0 0] (uX K A_s a)).map KV.pv:=by simp[ji,KV.pv]
  rw[this,QT];cases (ji pos [KV.ptr 0 0 0] (uX K A_s a))[t]?<;>rfl
 ·funext id
  cases id with
  |zero=>simp only[and_self,Qt,c9.pv,dM.pv,K.s8]
  |succ id=>simp[Nat.beq,c9.pv,dM.pv]
def Iq{ρ:Type}{ex:Option Nat}{rs:List RV}{r:pH U}{k:aT U->r.den->Option ρ}{e:Exit}{S:aT U}{z:ρ}(h:To K ex rs r k e S=some z):(e= .ret\/e= .normal)/\∃x v,yg S rs=some x/\Lj K S ex r x=some v/\k S v=some z:=by
 unfold To at h
 have go:∀{o:Option ρ},o=some z->o=(match yg S rs with
  |some x=>(match Lj K S ex r x with|some v=>k S v|none=>none)
  |none=>none)->∃x v,yg S rs=some x/\Lj K S ex r x=some v/\k S v=some z:=by
  intro o ho he;rw[ho]at he;replace he:=he.symm;split at he
  ·rename_i x hx;split at he
   ·rename_i v hv;exact⟨x,v,hx,hv,he⟩
   ·cases he
  ·cases he
 split at h
 ·exact⟨.inl rfl,go h rfl⟩
 ·exact⟨.inr rfl,go h rfl⟩
 ·cases h
def Ij{f:FuncId}{Γ:List (dK U)}{sa:SA U}{rs:List RV}{A_s:List (du U)}{r:pH U}(hf:iy P f nt sa.erase rs)(hok:sa.uw P)(hlen:A_s.length<=nt)(hΓ:tN P Γ){F:eA A_s->Option r.den}(hF:∀a,Tj K Γ sa rs A_s r a=F a):dK.Sound P (.fn f A_s r F):=by
 refine⟨hf.enters,λa v hv=> ?_⟩
 rw[<-hF a]at hv;refine hf.Ns (by simpa[xy]using hlen) ?_
 rw[<-Jo (K:=K)];refine(eF hΓ sa [] _ _ _ _ hok hv).mono ?_;rintro e A ⟨S',rfl,_,hk⟩;obtain⟨he,x,v',h1,h2,h3⟩:=Iq hk;injection h3 with h3
 subst h3
 have hret:Ab rs false (λr' cs''=>r'=um r v'/\(false=true->cs''=[])) S'.st:=by
  unfold Ab;rw[B5 h1];exact⟨ON (λid hid=>by cases hid) h2,λh=>by cases h⟩
 rcases he with rfl|rfl<;>exact hret
 def ae5(K:TK U)(Γ:List (dK U))(sa:SA U)(rs:List RV)(A_s:List (du U))(r:pH U)(a:eA A_s):Option r.den:=
 nJ K Γ sa [] (some (0,[])) (To K none rs r λ_ v=>some v) ((LA (uX K A_s a)).more 1)
def WZ{f:FuncId}{Γ:List (dK U)}{sa:SA U}{rs:List RV}{A_s:List (du U)}{r:pH U}(hf:iy P f nt sa.erase rs)(hok:sa.uw P)(hlen:A_s.length<=nt)(hΓ:tN P Γ){F:eA A_s->Option r.den}(hF:∀a,ae5 K Γ sa rs A_s r a=F a):dK.Sound P (.fn f A_s r F):=by
 refine⟨hf.enters,λa v hv=> ?_⟩
 rw[<-hF a]at hv;refine hf.Ns (by simpa[xy]using hlen) ?_
 rw[<-Jo (K:=K)];refine(OT (S':=((LA (uX K A_s a)).more 1).st) (λE a w L h=>⟨L,h.room 1⟩) (eF hΓ sa [] _ _ _ _ hok hv)).mono ?_
 rintro e A ⟨S',rfl,_,hk⟩;obtain⟨he,x,v',h1,h2,h3⟩:=Iq hk;injection h3 with h3
 subst h3
 have hret:Ab rs false (λr' cs''=>r'=um r v'/\(false=true->cs''=[])) S'.st:=by
  unfold Ab;rw[B5 h1];exact⟨ON (λid hid=>by cases hid) h2,λh=>by cases h⟩
 rcases he with rfl|rfl<;>exact hret
def Ys{S:aT U}{id au:Nat}{cs:List (KV U)}(hb:S.uW id au=some cs){R:U.Ty}{s:U.den R}(hd:K.dec R rE cs=some s)(hN:id<S.N):(∀(E:En) (a:Act) (w:World) (L:Nat->Value),Rel E S.st a w L->∃L',Rel E {S.st with H:=bR S.st.H id ⟨au,.box (U.pv R s)⟩} a w L'):=by
 intro E a w L h;obtain⟨h1,h2⟩:=yM hb;have:=h.afU hN h2;rw[h1,(uV (K.nK _ _ _ _ hd)).1]at this;exact⟨L,this⟩
def Tg(K:TK U)(R:U.Ty)(s:U.den R):(U.pv R s).all PV.closed=true:=QH.2 λy hy=>gD (K.gR R s y hy)
def X1{f:FuncId}{Γ:List (dK U)}{sa:SA U}{rs:List RV}{pos:Nat}{R:U.Ty}{A_s:List (du U)}{r:pH U}(hf:iy P f nt sa.erase rs)(hok:sa.uw P)(hlen:1+A_s.length<=nt)(hΓ:tN P Γ)
  {F:U.den R->eA A_s->Option (r.den×U.den R)} (hF:∀s a,rcK K Γ sa rs pos R A_s r s a=F s a):dK.Sound P (.rc f pos R A_s r F):=by
 refine⟨hf.enters,λs a v s' hv=> ?_⟩
 rw[<-hF s a]at hv;refine hf.Ns (by simpa[xy]using hlen) ?_
 rw[<-adZ (K:=K)];refine(eF hΓ sa [] _ _ _ _ hok hv).post ?_;rintro e A ⟨S',rfl,hfr,hk⟩;obtain⟨he,x,v',h1,h2,h3⟩:=Iq hk;split at h3
 case h_2=>cases h3
 rename_i hnc;split at h3
 ·rename_i cs hb;split at h3
  ·rename_i s'' hd;injection h3 with h3
   injection h3 with h4 h5
   subst h4 h5;have hN:0<S'.N:=QJ (show 0<1 from Nat.one_pos) hfr.N
   refine⟨_,Ys hb hd hN,?_⟩;have h6:=B5 h1
   have hres:∀rs:List RV,Cb S' rs=true->xg {S'.st with H:=bR S'.st.H 0 ⟨0,.box (U.pv R s'')⟩} rs=xg S'.st rs:=by
    intro rs hrs
    induction rs with
    |nil=>rfl
    |cons q rs ih=>
     cases q with
     |tmp t=>simp only[Cb]at hrs;simp only[xg,Co,ih hrs]
     |cell t n=>
      simp only[Cb,Qm]at hrs;have h9:=hrs.1;split at h9
      ·rename_i id au off ht;have hne:id≠0:=by intro e;subst e;simp at h9
       have h10:S'.st.env t= .ptr id au off:=by simp only[aT.st,ht,KV.pv]
       simp only[xg,Co,h10,cJ _ _ hne,ih hrs.2]
      ·cases h9
   have hret:Ab rs true (λr' cs''=>r'=um r v'/\(true=true->cs''=U.pv R s'')) {S'.st with H:=bR S'.st.H 0 ⟨0,.box (U.pv R s'')⟩}:=by
    unfold Ab
    have h7:tU {S'.st with H:=bR S'.st.H 0 ⟨0,.box (U.pv R s'')⟩} rs=some x.pv:=by
     rw[<-h6];unfold tU;have h8:=hres rs hnc;simp only[h8]
    rw[h7];simp only[cp];refine⟨Tg K R s'',?_,by simp⟩
    have hbx:=(AU hb).2;rw[<-ON (K:=K) (S:=S') (ex:=some 0) (λid hid=>by injection hid with hid;subst hid;intro e k T xs hq;rw[hbx]at hq;cases hq) h2]
    have hz:∀(n:Nat) (y:PV),fz (bR S'.st.H 0 ⟨0,.box (U.pv R s'')⟩) (some 0) n y=fz S'.st.H (some 0) n y:=by
     intro n
     induction n with
     |zero=>intro y;simp only[fz]
     |succ n ih=>
      intro y;have hu:∀id,¬(some id=some 0)->bR S'.st.H 0 ⟨0,.box (U.pv R s'')⟩ id=S'.st.H id:=λid hid=>cJ _ _ (λe=>hid (by rw[e]))
      have hm:fz (bR S'.st.H 0 ⟨0,.box (U.pv R s'')⟩) (some 0) n=fz S'.st.H (some 0) n:=funext ih
      cases y with
      |own id au|ptr id au off=>
       simp only[fz,hm]
       by_cases h0:some id=some 0
       ·rw[Qr (.inl h0),Qr (.inl h0)]
       ·rw[hu id h0]
      |agg cs|eD cs|bG f cs=>simp only[fz,hm]
      |_=>simp only[fz]
    exact hz 9 x.pv
   rcases he with rfl|rfl<;>exact hret
  ·cases h3
 ·cases h3
def Yt{f:FuncId}{Γ:List (dK U)}{sa:SA U}{t:Nat}{A_s:List (du U)}{R:U.Ty}(hf:iy P f nt sa.erase [.tmp t])(hok:sa.uw P)(hlen:A_s.length<=nt)(hΓ:tN P Γ){F:eA A_s->Option (U.den R)}(hF:∀a,nwK K Γ sa [.tmp t] A_s R a=F a):dK.Sound P (.nw f A_s R F):=by
 refine⟨hf.enters,λa s hv=> ?_⟩
 rw[<-hF a]at hv;refine hf.ahf (by simpa[xy]using hlen) ?_
 rw[<-Jo (K:=K)];intro c hs hc E hE hkt a' w L hr;refine wpIn_mono (eF hΓ sa [] _ _ _ _ hok hv c hs hc E hE hkt a' w L hr) ?_;rintro e a2 w2 ⟨A,L2,hrel,S',rfl,_,hk⟩;split at hk
 ·split at hk
  ·rename_i id au hx;split at hk
   ·rename_i cs hb
    have hre:S'.st.env t= .ptr id au 0:=by
     have:=B5 hx;simpa[tU,xg,Co,KV.pv]using this
    have hN:id<S'.N:=by
     have:=hrel.env t;rw[hre]at this;exact(this.oz (show(S'.st.gh L2).V id=au from(yM hb).1)).1
    obtain⟨L3,h3⟩:=Ys hb hk hN E a2 w2 L2 hrel;refine⟨_,L3,h3,?_⟩
    have h7:tU {S'.st with H:=bR S'.st.H id ⟨au,.box (U.pv R s)⟩} [.tmp t]=some (.ptr id au 0):=by
     simp only[tU,xg,Co];rw[hre]
    simp only[SK];rw[h7];simp only[cp,Qt];exact⟨Tg K R s,trivial⟩
   ·cases hk
  ·cases hk
 ·cases hk
def aa5(e k:Nat)(T:U.Ty)(xs:List (U.den T))(A_s:List (KV U)):aT U:=
 {env:=λt=>(((KV.own 0 0)::A_s)[t]?).getD .undef,H:=λid=>(match Nat.beq id 0 with|true=>⟨0,.row e k T xs⟩|false=>⟨0,.dead⟩),N:=1}
def adY(e k:Nat)(T:U.Ty)(xs:List (U.den T))(A_s:List (du U))(a:eA A_s):(aa5 e k T xs (uX K A_s a)).st=tG e k (xs.map (U.pv T)) (gJ A_s a):=by
 unfold aa5 aT.st tG;congr 1
 ·funext t
  rw[<-AV K]
  cases t with
  |zero=>rfl
  |succ t=>
   simp only[List.getElem?_cons_succ,QT];cases (uX K A_s a)[t]?<;>rfl
 ·funext id
  cases id with
  |zero=>simp[c9.pv,dM.pv]
  |succ id=>simp[Nat.beq,c9.pv,dM.pv]
variable (K)
def rowAt(S:aT U)(id au e k:Nat)(T:U.Ty):Option (List (U.den T)):=
 match S.row? id au with
 |some r=>(match Nat.beq r.e e&&Nat.beq r.k k with|true=>w5 r.T T r.xs|false=>none)
 |none=>none
def Wb{S:aT U}{id au e k:Nat}{T:U.Ty}{xs:List (U.den T)}(h:rowAt S id au e k T=some xs):(S.H id).au=au/\(S.H id).c= .row e k T xs:=by
 unfold rowAt at h;split at h
 ·rename_i r hr;obtain⟨h1,h2⟩:=DC hr;split at h
  ·rename_i hek;rw[Qm]at hek;obtain⟨eT,rfl⟩:=ml h;obtain⟨re,rk,rT,rxs⟩:=r;simp only at eT h2 hek;subst eT;exact⟨h1,by rw[h2,QF hek.1,QF hek.2]⟩
  ·cases h
 ·cases h
def Xh{ρ:Type}(rs:List RV)(e k:Nat)(T:U.Ty)(j:List (U.den T)->Option ρ)(en:Exit)(S:aT U):Option ρ:=
 match en with
 | .ret| .normal=>(match yg S rs with
  |some (.own id au)=>(match rowAt S id au e k T with|some ys=>j ys|none=>none)
  |_=>none)
 |_=>none
 def cwK(Γ:List (dK U))(sa:SA U)(rs:List RV)(e k:Nat)(T:U.Ty)(A_s:List (du U))(xs:List (U.den T))(a:eA A_s):Option (List (U.den T)):=
 nJ K Γ sa [] (some (0,[])) (Xh rs e k T λys=>some ys) (aa5 e k T xs (uX K A_s a))
 def fwK(Γ:List (dK U))(sa:SA U)(rs:List RV)(A_s:List (du U))(e k:Nat)(T:U.Ty)(a:eA A_s):Option (List (U.den T)):=
 nJ K Γ sa [] (some (0,[])) (Xh rs e k T λys=>some ys) (LA (uX K A_s a))
variable {K}
def PU{ρ:Type}{rs:List RV}{e k:Nat}{T:U.Ty}{j:List (U.den T)->Option ρ}{en:Exit}{S:aT U}{z:ρ}(h:Xh rs e k T j en S=some z):
  (en= .ret\/en= .normal)/\∃id au ys,yg S rs=some (.own id au)/\(S.H id).au=au/\(S.H id).c= .row e k T ys/\j ys=some z:=by
 have go:(match yg S rs with
  |some (.own id au)=>(match rowAt S id au e k T with|some ys=>j ys|none=>none)
  |_=>none)=some z->∃id au ys,yg S rs=some (.own id au)/\(S.H id).au=au/\(S.H id).c= .row e k T ys/\j ys=some z:=by
  intro he;split at he
  ·rename_i id au hx;split at he
   ·rename_i ys hys;obtain⟨h1,h2⟩:=Wb hys;exact⟨id,au,ys,hx,h1,h2,he⟩
   ·cases he
  ·cases he
 unfold Xh at h;split at h
 ·exact⟨.inl rfl,go h⟩
 ·exact⟨.inr rfl,go h⟩
 ·cases h
def Tp{rs:List RV}{e k:Nat}{T:U.Ty}{S':aT U}{id au:Nat}{ys:List (U.den T)}(h1:yg S' rs=some (.own id au))(h2:(S'.H id).au=au)(h3:(S'.H id).c= .row e k T ys)(K:TK U):D3 rs e k (λes''=>es''=ys.map (U.pv T)) .ret S'.st:=by
 simp only[D3];rw[B5 h1];simp only[KV.pv];refine⟨h2,?_⟩;have:(S'.st.H id).c= .row e k (ys.map (U.pv T)):=by simp only[aT.st,c9.pv,h3,dM.pv]
 rw[this];exact⟨rfl,rfl,zG K T ys,rfl⟩
def Y5{f:FuncId}{Γ:List (dK U)}{sa:SA U}{rs:List RV}{e k:Nat}{T:U.Ty}{A_s:List (du U)}(hf:iy P f nt sa.erase rs)(hok:sa.uw P)(hlen:1+A_s.length<=nt)(hΓ:tN P Γ)
  {F:List (U.den T)->eA A_s->Option (List (U.den T))} (hF:∀xs a,cwK K Γ sa rs e k T A_s xs a=F xs a):dK.Sound P (.cw f e k T A_s F):=by
 refine⟨hf.enters,λxs a ys hv=> ?_⟩
 rw[<-hF xs a]at hv;refine hf.ahh (by simpa[xy]using hlen) ?_
 rw[<-adY (K:=K)];refine(eF hΓ sa [] _ _ _ _ hok hv).mono ?_;rintro en A ⟨S',rfl,_,hk⟩;obtain⟨he,id,au,ys',h1,h2,h3,h5⟩:=PU hk;injection h5 with h5
 subst h5;have hret:=Tp h1 h2 h3 K;rcases he with rfl|rfl<;>exact hret
def YS{f:FuncId}{Γ:List (dK U)}{sa:SA U}{rs:List RV}{e k:Nat}{T:U.Ty}{A_s:List (du U)}(hf:iy P f nt sa.erase rs)(hok:sa.uw P)(hlen:A_s.length<=nt)(hΓ:tN P Γ)
  {F:eA A_s->Option (List (U.den T))} (hF:∀a,fwK K Γ sa rs A_s e k T a=F a):dK.Sound P (.fw f A_s e k T F):=by
 refine⟨hf.enters,λa ys hv=> ?_⟩
 rw[<-hF a]at hv;refine hf.ahg (by simpa[xy]using hlen) ?_
 rw[<-Jo (K:=K)];refine(eF hΓ sa [] _ _ _ _ hok hv).mono ?_;rintro en A ⟨S',rfl,_,hk⟩;obtain⟨he,id,au,ys',h1,h2,h3,h5⟩:=PU hk;injection h5 with h5
 subst h5;have hret:=Tp h1 h2 h3 K;rcases he with rfl|rfl<;>exact hret
end
end
section
def op{U:TU}(d:Nat)(x:cr)(r:RS U):RS U:= .op ⟨some d,none,x⟩ r
def ops{U:TU}(x:cr)(r:RS U):RS U:= .op ⟨none,none,x⟩ r
def tm(t:Nat):bz:= .tmp t
def ci(n:Int):bz:= .xR (.int .i64 n)
def ld{U:TU}(d t:Nat)(r:RS U):RS U:=op d (.load none (tm t)) r
def cl{U:TU}(d f:Nat)(l:List Nat)(r:RS U):RS U:=op d (.call f (l.map tm)) r
def aA(k:IntKind)(a b:Int):Int:=k.wrap (a+b)
def cU(k:IntKind)(a b:Int):Int:=k.wrap (a - b)
def oO(k:IntKind)(a b:Int):Int:=k.wrap (a*b)
def Sq(k:IntKind)(a b:Int):Int:=k.wrap (a.tdiv b)
def We(_:IntKind)(a b:Int):Int:=a.tmod b
def IF(k:IntKind)(a b:Int):Int:=k.wrap ((BitVec.ofInt k.bits a&&&BitVec.ofInt k.bits b).toNat)
def qY(k:IntKind)(a b:Int):Int:=k.wrap ((BitVec.ofInt k.bits a|||BitVec.ofInt k.bits b).toNat)
def dw(k:IntKind)(a b:Int):Int:=k.wrap ((BitVec.ofInt k.bits a^^^BitVec.ofInt k.bits b).toNat)
def zX(k:IntKind)(a b:Int):Int:=k.wrap ((BitVec.ofInt k.bits a&&& ~~~ BitVec.ofInt k.bits b).toNat)
def bV(k:IntKind)(a b:Int):Int:=k.wrap (a*2 ^ (min b.toNat k.bits))
def kg(k:IntKind)(a b:Int):Int:=a.fdiv (2 ^ (min b.toNat k.bits))
def bx(k:IntKind)(n:Int):Int:=k.wrap n
def dJ(a b:Int):Int:=if b<a then b else a
def bD(a b:Int):Int:=if b>a then b else a
def lC(neg:Bool)(a b:Int)(s t:ByteArray):Bool:=xor neg (decide (a=b)&&decide (s=t))
def jg{A R:Type}(B:(A->Option R)->A->Option R):Nat->A->Option R
 |0,_=>none
 |n+1,a=>B (jg B n) a
section
variable {U : TU}
inductive RN (U:TU) where
 |ps (p:Ps U)
 |Bn (t:Nat)
def ZB(t:Nat):List SG->Option (List SG×SG×List SG)
 |[]=>none
 |o::r=>(match o.op with
  | .pick (.tmp t') _ _=>(match Nat.beq t t' with
   |true=>some ([],o,r)
   |false=>(match ZB t r with|some (b,q,r')=>some (o::b,q,r')|none=>none))
  |_=>(match ZB t r with|some (b,q,r')=>some (o::b,q,r')|none=>none))
def before(n:Nat):List (Nat×RN U)->List (Nat×RN U)
 |[]=>[]
 |(j,x)::l=>(match Nat.ble n j with|true=>[]|false=>(j,x)::before n l)
def after(n:Nat):List (Nat×RN U)->List (Nat×RN U)
 |[]=>[]
 |(j,x)::l=>(match Nat.ble n j with|true=>(j,x)::l|false=>after n l)
def uo(qm:Bool):Nat->List Nat->Nat->List SG->List (Nat×RN U)->RS U
 |0,_,_,_,_=> .nil
 |f+1,kn,i,[],ns=>(match ns with
  |(_,.ps p)::ns'=> .ps p (uo qm f kn i [] ns')
  |(_,.Bn t)::ns'=> .Bn t (uo qm f (t::kn) i [] ns')
  |_=> .nil)
 |f+1,kn,i,o::r,ns=>(match(match ns with|(j,_)::_=>Nat.beq j i|[]=>false)with
  |true=>(match ns with
   |(_,.ps p)::ns'=> .ps p (uo qm f kn i (o::r) ns')
   |(_,.Bn t)::ns'=> .Bn t (uo qm f (t::kn) i (o::r) ns')
   |[]=> .nil)
  |false=>(match o.g with
   |none=> .op o (uo qm f kn (Nat.succ i) r ns)
   |some (t,w)=>(match iv t kn with
    |true=> .op o (uo qm f kn (Nat.succ i) r ns)
    |false=>(match qm with
     |true=> .Bn t (uo qm f (t::kn) i (o::r) ns)
     |false=>(match ZB t (o::r)with
      |some (b,q,r')=>(match q.op with
       | .pick _ x y=> .ite t w (uo qm f (t::kn) i b (before (Nat.add i b.length) ns)) (q.d.getD 0) q.g x y (uo qm f kn (Nat.succ (Nat.add i b.length)) r' (after (Nat.add i b.length) ns))
       |_=> .nil)
      |none=> .nil)))))
inductive NT (U:TU) where
 |e
 |l (x:NT U)
 |r (x:NT U)
 |b (x y:NT U)
 |ps (p:Ps U) (x:NT U)
 |Cu (p:Ps U) (x:NT U)
 |j (J:JS U) (x:NT U)
 |u (n:Nat) (x:NT U)
 |k (J:JS U) (f k:Nat) (nE:Option Nat) (T:U.Ty) (x:NT U)
 |o (J:JS U) (f:Nat) (x:NT U)
 |i (n:Nat) (f:FuncId) (nt:Nat) (rvs:List RV) (x:SA U) (ns ms:List (Nat×RN U))
 |g (ns:List (Nat×RN U))
def NT.lt:NT U->NT U
 | .l x| .b x _=>x
 | .j _ x| .k _ _ _ _ _ x| .o _ _ x| .ps _ x| .Cu _ x=>x.lt
 |_=> .e
def NT.rt:NT U->NT U
 | .r x| .b _ x=>x
 | .j _ x| .k _ _ _ _ _ x| .o _ _ x| .ps _ x| .Cu _ x=>x.rt
 |_=> .e
def NT.wrap:NT U->SA U->SA U
 | .ps p x,s=> .ps p (x.wrap s)
 | .Cu p x,s=> .Cu p (x.wrap s)
 |_,s=>s
def NT.core:NT U->NT U
 | .ps _ x| .Cu _ x=>x.core
 |x=>x
def dY:SC->NT U->SA U
 | .skip,t=>t.wrap .skip
 | .su ops,t=>t.wrap (match t.core with
  | .g ns=> .su (uo false 4000 [] 0 ops ns)
  | .i n f nt rvs x ns ms=>(match ops.drop n with
   |o::r=>(match o.op with
    | .call _ xs=> .inl (uo false 4000 [] 0 (ops.take n) ns) o.d f none xs nt rvs x (uo false 4000 [] 0 r ms)
    | .sL fv xs=> .inl (uo false 4000 [] 0 (ops.take n) ns) o.d f (some fv) xs nt rvs x (uo false 4000 [] 0 r ms)
    |_=> .skip)
   |[]=> .skip)
  |_=> .su (uo false 4000 [] 0 ops []))
 | .qm un ops,t=>t.wrap (.qm un (match t.core with| .g ns=>uo true 4000 [] 0 ops ns|_=>uo true 4000 [] 0 ops []))
 | .seq x y,t=>t.wrap (match t.core with
  | .j J u=> .join J (dY x u.lt) (dY y u.rt)
  |u=> .seq (dY x u.lt) (dY y u.rt))
 | .cond c x y,t=>t.wrap (.cond c (dY x t.lt) (dY y t.rt))
 | .block id x,t=>t.wrap (.block id (dY x t.lt))
 | .loop x,t=>t.wrap (match t.core with
  | .j J u=> .loop J (dY x u.lt)
  | .u n t=> .JX n (dY x t.lt)
  |_=> .loop ⟨[],[]⟩ (dY x t.lt))
 | .EM g ps x y,t=>t.wrap (match t.core with
  | .k J f k nE T u=>(match g with
   | .tmp tg=> .back J f k nE T tg (ps.headD 0) (ps.tail.headD 0) (dY x u.lt) (dY y u.rt)
   |_=> .skip)
  |_=> .skip)
 | .exit id,t=>t.wrap (.exit id)
 | .ret,t=>t.wrap .ret
def ep(P:Program)(nt:Nat)(hs:List Nat)(fn:Func):SC:=(fn.body.bind (aU P nt hs)).getD .skip
end
section
variable {U : TU} {P : Program}
structure KS (U:TU) (P:Program) where
 k:dK U
 s:k.Sound P
def KS.ks:List (KS U P)->List (dK U)
 |[]=>[]
 |x::l=>x.k::KS.ks l
def KS.all:∀l:List (KS U P),tN P (KS.ks l)
 |[]=>trivial
 |x::l=>⟨x.s,KS.all l⟩
variable {K : TK U} {f : FuncId} {A_s : List (du U)} {r : pH U} {e k : Nat} {T R : U.Ty}
def fk{f nt:Nat}{c:SC}{rs:List RV}(fn:Func)(hs:List Nat)(hf:P.funcs[f]?=some fn)(h0:fn.ntmps=nt:=by rfl)(h1:(fn.body.bind (aU P nt hs))=some c:=by kernel_rfl)(h2:lS P fn.results.toList=some rs:=by kernel_rfl)(h3:(fn.name== "runtime.NumGoroutine")=false:=by kernel_rfl):iy P f nt c rs:=⟨fn,hs,hf,h0,h1,h2,h3⟩
def fnS(sa:SA U)(nt:Nat)(rs:List RV)(G:List (KS U P))(hf:iy P f nt sa.erase rs)(hok:sa.dp=true:=by kernel_rfl)(hlen:A_s.length<=nt:=by decide){F:eA A_s->Option r.den}(hF:Tj K (KS.ks G) sa rs A_s r=F:=by kernel_rfl):dK.Sound P (.fn f A_s r F):=
 Ij hf (nF hok) hlen (KS.all G) λa=>congrFun hF a
def ae4(sa:SA U)(nt:Nat)(rs:List RV)(G:List (KS U P))(l:List (FuncId×Nat×SC×List RV))(hi:vG P l)(hf:iy P f nt sa.erase rs)(hok:sa.zF=true:=by kernel_rfl)(hl:sa.OC=l:=by kernel_rfl)(hlen:A_s.length<=nt:=by decide){F:eA A_s->Option r.den}(hF:ae5 K (KS.ks G) sa rs A_s r=F:=by kernel_rfl):dK.Sound P (.fn f A_s r F):=
 WZ hf (zD hok (by rw[hl];exact hi)) hlen (KS.all G) λa=>congrFun hF a
def rcS{pos:Nat}(sa:SA U)(nt:Nat)(rs:List RV)(G:List (KS U P))(hf:iy P f nt sa.erase rs)(hok:sa.dp=true:=by kernel_rfl)(hlen:1+A_s.length<=nt:=by decide){F:U.den R->eA A_s->Option (r.den×U.den R)}(hF:rcK K (KS.ks G) sa rs pos R A_s r=F:=by kernel_rfl):dK.Sound P (.rc f pos R A_s r F):=
 X1 hf (nF hok) hlen (KS.all G) λs a=>congrFun (congrFun hF s) a
def roS{pos:Nat}{F:U.den R->eA A_s->Option (r.den×U.den R)}(h:dK.Sound P (.rc f pos R A_s r F))(hs:∀s a q,F s a=some q->q.2=s):dK.Sound P (.ro f pos R A_s r F):=
 ⟨h.1,λs a v s' hv=>⟨hs s a _ hv,h.2 s a v s' hv⟩⟩
def nwS(sa:SA U)(nt t:Nat)(G:List (KS U P))(hf:iy P f nt sa.erase [.tmp t])(hok:sa.dp=true:=by kernel_rfl)(hlen:A_s.length<=nt:=by decide){F:eA A_s->Option (U.den R)}(hF:nwK K (KS.ks G) sa [.tmp t] A_s R=F:=by kernel_rfl):dK.Sound P (.nw f A_s R F):=
 Yt hf (nF hok) hlen (KS.all G) λa=>congrFun hF a
def Tz(sa:SA U)(nt:Nat)(rs:List RV)(G:List (KS U P))(hf:iy P f nt sa.erase rs)(hok:sa.dp=true:=by kernel_rfl)(hlen:1+A_s.length<=nt:=by decide){F:List (U.den T)->eA A_s->Option (List (U.den T))}(hF:cwK K (KS.ks G) sa rs e k T A_s=F:=by kernel_rfl):dK.Sound P (.cw f e k T A_s F):=
 Y5 hf (nF hok) hlen (KS.all G) λs a=>congrFun (congrFun hF s) a
def Vx(sa:SA U)(nt:Nat)(rs:List RV)(G:List (KS U P))(hf:iy P f nt sa.erase rs)(hok:sa.dp=true:=by kernel_rfl)(hlen:A_s.length<=nt:=by decide){F:eA A_s->Option (List (U.den T))}(hF:fwK K (KS.ks G) sa rs A_s e k T=F:=by kernel_rfl):dK.Sound P (.fw f A_s e k T F):=
 YS hf (nF hok) hlen (KS.all G) λa=>congrFun hF a
def fnR(sa:SA U)(nt:Nat)(rs:List RV)(G:List (KS U P))(hf:iy P f nt sa.erase rs)(hok:sa.dp=true:=by kernel_rfl)(hlen:A_s.length<=nt:=by decide){B:(eA A_s->Option r.den)->eA A_s->Option r.den}(hB:(λg=>Tj K (.fn f A_s r g::KS.ks G) sa rs A_s r)=B):∀n,dK.Sound P (.fn f A_s r (jg B n))
 |0=>⟨hf.enters,λa r h=>by cases h⟩
 |n+1=>Ij (K:=K) (Γ:= .fn f A_s r (jg B n)::KS.ks G) (F:=jg B (n+1)) hf (nF hok) hlen ⟨fnR sa nt rs G hf hok hlen hB n,KS.all G⟩ λa=>congrFun (congrFun hB (jg B n)) a
def CW(sa:SA U)(nt:Nat)(rs:List RV)(G:List (KS U P))(hf:iy P f nt sa.erase rs)(hok:sa.dp=true:=by kernel_rfl)(hlen:A_s.length<=nt:=by decide){B:(eA A_s->Option r.den)->eA A_s->Option r.den}(hB:(λg=>Tj K (.fn f A_s r g::KS.ks G) sa rs A_s r)=B:=by kernel_rfl){F:eA A_s->Option r.den}(hF:∀a,∃n,F a=jg B n a):dK.Sound P (.fn f A_s r F):=
 ⟨hf.enters,λa r h=>by
  obtain⟨n,hn⟩:=hF a;rw[hn]at h
  exact(fnR sa nt rs G hf hok hlen hB n).2 a r h⟩
def WY(sa:SA U)(nt:Nat)(rs:List RV)(G:(g:eA A_s->Option r.den)->dK.Sound P (.fn f A_s r g)->List (KS U P))(hf:iy P f nt sa.erase rs)(hok:sa.dp=true:=by kernel_rfl)(hlen:A_s.length<=nt:=by decide){B:(eA A_s->Option r.den)->eA A_s->Option r.den}(hB:(λg h=>Tj K (.fn f A_s r g::KS.ks (G g h)) sa rs A_s r)=λg _=>B g):∀n,dK.Sound P (.fn f A_s r (jg B n))
 |0=>⟨hf.enters,λa r h=>by cases h⟩
 |n+1=>Ij (K:=K) (Γ:= .fn f A_s r (jg B n)::KS.ks (G (jg B n) (WY sa nt rs G hf hok hlen hB n))) (F:=jg B (n+1)) hf (nF hok) hlen ⟨WY sa nt rs G hf hok hlen hB n,KS.all _⟩ λa=>congrFun (congrFun (congrFun hB (jg B n)) (WY sa nt rs G hf hok hlen hB n)) a
def agb(sa:SA U)(nt:Nat)(rs:List RV)(G:(g:eA A_s->Option r.den)->dK.Sound P (.fn f A_s r g)->List (KS U P))(hf:iy P f nt sa.erase rs)(hok:sa.dp=true:=by kernel_rfl)(hlen:A_s.length<=nt:=by decide){B:(eA A_s->Option r.den)->eA A_s->Option r.den}(hB:(λg h=>Tj K (.fn f A_s r g::KS.ks (G g h)) sa rs A_s r)=(λg _=>B g):=by kernel_rfl){F:eA A_s->Option r.den}(hF:∀a,∃n,F a=jg B n a):dK.Sound P (.fn f A_s r F):=
 ⟨hf.enters,λa r h=>by
  obtain⟨n,hn⟩:=hF a;rw[hn]at h
  exact(WY sa nt rs G hf hok hlen hB n).2 a r h⟩
end
end
section
structure ak where
 aH:Int
 aX:(List Int)
 aL:(List ak)
theorem ak.eta(x:ak):ak.mk x.aH x.aX x.aL=x:=by cases x;rfl
@[reducible] def aq (x:ak):ak:=ak.mk x.aH x.aX x.aL
structure ay where
 al:Int
 aG:Int
 aa:ak
 bm:(List ByteArray)
 aE:(List ByteArray)
@[simp] def ay.eta (x:ay):ay.mk x.al x.aG x.aa x.bm x.aE=x:=rfl
structure av where
 al:Int
 aK:Int
 Round:Int
 aG:Int
 aa:ak
 me:ByteArray
 bm:(List ByteArray)
 aE:(List ByteArray)
 aR:(List ByteArray)
 ar:(List ay)
@[simp] def av.eta (x:av):av.mk x.al x.aK x.Round x.aG x.aa x.me x.bm x.aE x.aR x.ar=x:=rfl
structure ae where
 ai:Int
 Value:ByteArray
@[simp] def ae.eta (x:ae):ae.mk x.ai x.Value=x:=rfl
structure aj where
 al:Int
 aK:Int
 aG:Int
 aa:ak
 bC:Int
 ab:ae
 ao:ae
 az:ae
 aY:Int
 bq:Int
@[simp] def aj.eta (x:aj):aj.mk x.al x.aK x.aG x.aa x.bC x.ab x.ao x.az x.aY x.bq=x:=rfl
structure af where
 al:Int
 aK:Int
 aG:Int
 aa:ak
 aP:Int
 ab:ae
 ao:ae
 az:ae
 aw:ae
 aY:Int
 bq:Int
 bh:ByteArray
 ar:(List aj)
@[simp] def af.eta (x:af):af.mk x.al x.aK x.aG x.aa x.aP x.ab x.ao x.az x.aw x.aY x.bq x.bh x.ar=x:=rfl
structure fJ where
 ai:Int
 IN:Int
@[simp] def fJ.eta (x:fJ):fJ.mk x.ai x.IN=x:=rfl
structure aS where
 aC:av
 ah:af
 Timer:fJ
 Round:Int
 Next:Int
 OX:Bool
 Value:ByteArray
@[simp] def aS.eta (x:aS):aS.mk x.aC x.ah x.Timer x.Round x.Next x.OX x.Value=x:=rfl
structure aF where
 al:Int
 dF:Bool
 aa:ak
 aN:(List aS)
@[simp] def aF.eta (x:aF):aF.mk x.al x.dF x.aa x.aN=x:=rfl
structure eY where
 bC:Int
 aK:Int
 ba:ay
 ax:aj
@[simp] def eY.eta (x:eY):eY.mk x.bC x.aK x.ba x.ax=x:=rfl
structure ki where
 c0:aF
 c1:aF
 c2:aF
 c3:aF
@[simp] def ki.eta (x:ki):ki.mk x.c0 x.c1 x.c2 x.c3=x:=rfl
structure oU where
 c0:Int
 c1:Int
@[simp] def oU.eta (x:oU):oU.mk x.c0 x.c1=x:=rfl
structure oV where
 c0:oU
 c1:oU
@[simp] def oV.eta (x:oV):oV.mk x.c0 x.c1=x:=rfl
structure qQ where
 c0:eY
 c1:eY
@[simp] def qQ.eta (x:qQ):qQ.mk x.c0 x.c1=x:=rfl
structure eG where
 L:(List Int)
 At:Int
@[simp] def eG.eta (x:eG):eG.mk x.L x.At=x:=rfl
structure aJ where
 ah:af
@[simp] def aJ.eta (x:aJ):aJ.mk x.ah=x:=rfl
structure bf where
 fm:Bool
 aa:ak
@[simp] def bf.eta (x:bf):bf.mk x.fm x.aa=x:=rfl
structure bd where
 bn:(List bf)
@[simp] def bd.eta (x:bd):bd.mk x.bn=x:=rfl
structure bJ where
 ax:aj
@[simp] def bJ.eta (x:bJ):bJ.mk x.ax=x:=rfl
structure gE where
 al:Int
 View:bd
 ar:(List bJ)
@[simp] def gE.eta (x:gE):gE.mk x.al x.View x.ar=x:=rfl
structure lK where
 sN:Int
 Value:Int
@[simp] def lK.eta (x:lK):lK.mk x.sN x.Value=x:=rfl
structure cy where
 al:Int
 aG:Int
 aa:ak
 bm:(List lK)
 aE:(List lK)
@[simp] def cy.eta (x:cy):cy.mk x.al x.aG x.aa x.bm x.aE=x:=rfl
structure GF where
 aW:Int
 low:Int
 cg:Int
 aZ:ae
 eN:ae
 bW:ae
 dV:ae
@[simp] def GF.eta (x:GF):GF.mk x.aW x.low x.cg x.aZ x.eN x.bW x.dV=x:=rfl
structure qR where
 c0:ae
 c1:ae
@[simp] def qR.eta (x:qR):qR.mk x.c0 x.c1=x:=rfl
structure eQ where
 Rf:Int
 Rg:Int
@[simp] def eQ.eta (x:eQ):eQ.mk x.Rf x.Rg=x:=rfl
attribute [simp] ak.eta
inductive mZ where
 |aa
 |ba
 |aC
 |ab
 |ax
 |ah
 |Timer
 |aK
 |jR
 |uZ
 |iG
 |so
 |mq
 |oi
 |Src
 |wU
 |rO
 |Config
 |vD
 |Seen
 |Claim
 |Message
 |me
 |om
 |zY
 deriving DecidableEq
inductive Ty where
 |i (k:IntKind)
 |bool
 |str
 |sl (t:Ty)
 |mp (a b:Ty)
 |st (n:mZ)
def mZ.den:mZ->Type
 | .aa=>ak
 | .ba=>ay
 | .aC=>av
 | .ab=>ae
 | .ax=>aj
 | .ah=>af
 | .Timer=>fJ
 | .aK=>aS
 | .jR=>aF
 | .uZ=>eY
 | .iG=>ki
 | .so=>oU
 | .mq=>oV
 | .oi=>qQ
 | .Src=>eG
 | .wU=>aJ
 | .rO=>bf
 | .Config=>bd
 | .vD=>bJ
 | .Seen=>gE
 | .Claim=>lK
 | .Message=>cy
 | .me=>GF
 | .om=>qR
 | .zY=>eQ
def Ty.den:Ty->Type
 | .i _=>Int
 | .bool=>Bool
 | .str=>ByteArray
 | .sl t=>List t.den
 | .mp a b=>List (a.den×b.den)
 | .st n=>n.den
def Ty.beq:Ty->Ty->Bool
 | .i k,.i k'=>decide (k=k')
 | .bool,.bool| .str,.str=>true
 | .sl t,.sl t'=>Ty.beq t t'
 | .mp a b,.mp a' b'=>Ty.beq a a'&&Ty.beq b b'
 | .st n,.st n'=>decide (n=n')
 |_,_=>false
def Ty.eq_of_beq:∀{a b:Ty},Ty.beq a b=true->a=b
 | .i k,.i k',h=>by rw[of_decide_eq_true h]
 | .bool,.bool,_| .str,.str,_=>rfl
 | .sl t,.sl t',h=>by rw[Ty.eq_of_beq (a:=t) (b:=t') h]
 | .mp a b,.mp a' b',h=>by
  rw[Ty.beq,Qm]at h;rw[Ty.eq_of_beq (a:=a) (b:=a') h.1,Ty.eq_of_beq (a:=b) (b:=b') h.2]
 | .st n,.st n',h=>by rw[of_decide_eq_true h]
 | .i _,.bool,h| .i _,.str,h| .i _,.sl _,h| .i _,.st _,h| .bool,.i _,h| .bool,.str,h| .bool,.sl _,h| .bool,.st _,h| .str,.i _,h| .str,.bool,h| .str,.sl _,h| .str,.st _,h| .sl _,.i _,h| .sl _,.bool,h| .sl _,.str,h| .sl _,.st _,h| .st _,.i _,h| .st _,.bool,h| .st _,.str,h| .st _,.sl _,h| .mp _ _,.i _,h| .i _,.mp _ _,h| .mp _ _,.bool,h| .bool,.mp _ _,h| .mp _ _,.str,h| .str,.mp _ _,h| .mp _ _,.sl _,h| .sl _,.mp _ _,h| .mp _ _,.st _,h| .st _,.mp _ _,h=>by cases h
def Ty.Gx:∀(a:Ty),Ty.beq a a=true
 | .i k=>Qg rfl
 | .bool| .str=>rfl
 | .sl t=>Ty.Gx t
 | .mp a b=>by rw[Ty.beq,Ty.Gx a,Ty.Gx b];rfl
 | .st n=>Qg rfl
def Ty.VF(a b:Ty):Decidable (a=b):=
 match h:Ty.beq a b with
 |true=>isTrue (Ty.eq_of_beq h)
 |false=>isFalse λe=>by rw[e,Ty.Gx]at h;cases h
@[reducible] def Dc:List Ty->Type
 |[]=>Unit
 |t::l=>t.den×Dc l
def mZ.leaves:mZ->List Ty
 | .aa=>[(Ty.i .i64),(Ty.sl (Ty.i .i64)),(Ty.sl (Ty.st .aa))]
 | .ba=>[(Ty.i .i64),(Ty.i .i64),(Ty.i .i64),(Ty.sl (Ty.i .i64)),(Ty.sl (Ty.st .aa)),(Ty.sl Ty.str),(Ty.sl Ty.str)]
 | .aC=>[(Ty.i .i64),(Ty.i .i64),(Ty.i .i64),(Ty.i .i64),(Ty.i .i64),(Ty.sl (Ty.i .i64)),(Ty.sl (Ty.st .aa)),Ty.str,(Ty.sl Ty.str),(Ty.sl Ty.str),(Ty.sl Ty.str),(Ty.sl (Ty.st .ba))]
 | .ab=>[(Ty.i .i64),Ty.str]
 | .ax=>[(Ty.i .i64),(Ty.i .i64),(Ty.i .i64),(Ty.i .i64),(Ty.sl (Ty.i .i64)),(Ty.sl (Ty.st .aa)),(Ty.i .i64),(Ty.i .i64),Ty.str,(Ty.i .i64),Ty.str,(Ty.i .i64),Ty.str,(Ty.i .i64),(Ty.i .i64)]
 | .ah=>[(Ty.i .i64),(Ty.i .i64),(Ty.i .i64),(Ty.i .i64),(Ty.sl (Ty.i .i64)),(Ty.sl (Ty.st .aa)),(Ty.i .i64),(Ty.i .i64),Ty.str,(Ty.i .i64),Ty.str,(Ty.i .i64),Ty.str,(Ty.i .i64),Ty.str,(Ty.i .i64),(Ty.i .i64),Ty.str,(Ty.sl (Ty.st .ax))]
 | .Timer=>[(Ty.i .i64),(Ty.i .i64)]
 | .aK=>[(Ty.i .i64),(Ty.i .i64),(Ty.i .i64),(Ty.i .i64),(Ty.i .i64),(Ty.sl (Ty.i .i64)),(Ty.sl (Ty.st .aa)),Ty.str,(Ty.sl Ty.str),(Ty.sl Ty.str),(Ty.sl Ty.str),(Ty.sl (Ty.st .ba)),(Ty.i .i64),(Ty.i .i64),(Ty.i .i64),(Ty.i .i64),(Ty.sl (Ty.i .i64)),(Ty.sl (Ty.st .aa)),(Ty.i .i64),(Ty.i .i64),Ty.str,(Ty.i .i64),Ty.str,(Ty.i .i64),Ty.str,(Ty.i .i64),Ty.str,(Ty.i .i64),(Ty.i .i64),Ty.str,(Ty.sl (Ty.st .ax)),(Ty.i .i64),(Ty.i .i64),(Ty.i .i64),(Ty.i .i64),Ty.bool,Ty.str]
 | .jR=>[(Ty.i .i64),Ty.bool,(Ty.i .i64),(Ty.sl (Ty.i .i64)),(Ty.sl (Ty.st .aa)),(Ty.sl (Ty.st .aK))]
 | .uZ=>[(Ty.i .i64),(Ty.i .i64),(Ty.i .i64),(Ty.i .i64),(Ty.i .i64),(Ty.sl (Ty.i .i64)),(Ty.sl (Ty.st .aa)),(Ty.sl Ty.str),(Ty.sl Ty.str),(Ty.i .i64),(Ty.i .i64),(Ty.i .i64),(Ty.i .i64),(Ty.sl (Ty.i .i64)),(Ty.sl (Ty.st .aa)),(Ty.i .i64),(Ty.i .i64),Ty.str,(Ty.i .i64),Ty.str,(Ty.i .i64),Ty.str,(Ty.i .i64),(Ty.i .i64)]
 | .iG=>[(Ty.i .i64),Ty.bool,(Ty.i .i64),(Ty.sl (Ty.i .i64)),(Ty.sl (Ty.st .aa)),(Ty.sl (Ty.st .aK)),(Ty.i .i64),Ty.bool,(Ty.i .i64),(Ty.sl (Ty.i .i64)),(Ty.sl (Ty.st .aa)),(Ty.sl (Ty.st .aK)),(Ty.i .i64),Ty.bool,(Ty.i .i64),(Ty.sl (Ty.i .i64)),(Ty.sl (Ty.st .aa)),(Ty.sl (Ty.st .aK)),(Ty.i .i64),Ty.bool,(Ty.i .i64),(Ty.sl (Ty.i .i64)),(Ty.sl (Ty.st .aa)),(Ty.sl (Ty.st .aK))]
 | .so=>[(Ty.i .i64),(Ty.i .i64)]
 | .mq=>[(Ty.i .i64),(Ty.i .i64),(Ty.i .i64),(Ty.i .i64)]
 | .oi=>[(Ty.i .i64),(Ty.i .i64),(Ty.i .i64),(Ty.i .i64),(Ty.i .i64),(Ty.sl (Ty.i .i64)),(Ty.sl (Ty.st .aa)),(Ty.sl Ty.str),(Ty.sl Ty.str),(Ty.i .i64),(Ty.i .i64),(Ty.i .i64),(Ty.i .i64),(Ty.sl (Ty.i .i64)),(Ty.sl (Ty.st .aa)),(Ty.i .i64),(Ty.i .i64),Ty.str,(Ty.i .i64),Ty.str,(Ty.i .i64),Ty.str,(Ty.i .i64),(Ty.i .i64),(Ty.i .i64),(Ty.i .i64),(Ty.i .i64),(Ty.i .i64),(Ty.i .i64),(Ty.sl (Ty.i .i64)),(Ty.sl (Ty.st .aa)),(Ty.sl Ty.str),(Ty.sl Ty.str),(Ty.i .i64),(Ty.i .i64),(Ty.i .i64),(Ty.i .i64),(Ty.sl (Ty.i .i64)),(Ty.sl (Ty.st .aa)),(Ty.i .i64),(Ty.i .i64),Ty.str,(Ty.i .i64),Ty.str,(Ty.i .i64),Ty.str,(Ty.i .i64),(Ty.i .i64)]
 | .Src=>[(Ty.sl (Ty.i .i64)),(Ty.i .i64)]
 | .wU=>[(Ty.i .i64),(Ty.i .i64),(Ty.i .i64),(Ty.i .i64),(Ty.sl (Ty.i .i64)),(Ty.sl (Ty.st .aa)),(Ty.i .i64),(Ty.i .i64),Ty.str,(Ty.i .i64),Ty.str,(Ty.i .i64),Ty.str,(Ty.i .i64),Ty.str,(Ty.i .i64),(Ty.i .i64),Ty.str,(Ty.sl (Ty.st .ax))]
 | .rO=>[Ty.bool,(Ty.i .i64),(Ty.sl (Ty.i .i64)),(Ty.sl (Ty.st .aa))]
 | .Config=>[(Ty.sl (Ty.st .rO))]
 | .vD=>[(Ty.i .i64),(Ty.i .i64),(Ty.i .i64),(Ty.i .i64),(Ty.sl (Ty.i .i64)),(Ty.sl (Ty.st .aa)),(Ty.i .i64),(Ty.i .i64),Ty.str,(Ty.i .i64),Ty.str,(Ty.i .i64),Ty.str,(Ty.i .i64),(Ty.i .i64)]
 | .Seen=>[(Ty.i .i64),(Ty.sl (Ty.st .rO)),(Ty.sl (Ty.st .vD))]
 | .Claim=>[(Ty.i .i64),(Ty.i .i64)]
 | .Message=>[(Ty.i .i64),(Ty.i .i64),(Ty.i .i64),(Ty.sl (Ty.i .i64)),(Ty.sl (Ty.st .aa)),(Ty.sl (Ty.st .Claim)),(Ty.sl (Ty.st .Claim))]
 | .me=>[(Ty.i .i64),(Ty.i .i64),(Ty.i .i64),(Ty.i .i64),Ty.str,(Ty.i .i64),Ty.str,(Ty.i .i64),Ty.str,(Ty.i .i64),Ty.str]
 | .om=>[(Ty.i .i64),Ty.str,(Ty.i .i64),Ty.str]
 | .zY=>[(Ty.i .i64),(Ty.i .i64)]
def mZ.toL:(n:mZ)->n.den->Dc n.leaves
 | .aa,(v:ak)=>(v.aH,v.aX,v.aL,())
 | .ba,(v:ay)=>(v.al,v.aG,v.aa.aH,v.aa.aX,v.aa.aL,v.bm,v.aE,())
 | .aC,(v:av)=>(v.al,v.aK,v.Round,v.aG,v.aa.aH,v.aa.aX,v.aa.aL,v.me,v.bm,v.aE,v.aR,v.ar,())
 | .ab,(v:ae)=>(v.ai,v.Value,())
 | .ax,(v:aj)=>(v.al,v.aK,v.aG,v.aa.aH,v.aa.aX,v.aa.aL,v.bC,v.ab.ai,v.ab.Value,v.ao.ai,v.ao.Value,v.az.ai,v.az.Value,v.aY,v.bq,())
 | .ah,(v:af)=>(v.al,v.aK,v.aG,v.aa.aH,v.aa.aX,v.aa.aL,v.aP,v.ab.ai,v.ab.Value,v.ao.ai,v.ao.Value,v.az.ai,v.az.Value,v.aw.ai,v.aw.Value,v.aY,v.bq,v.bh,v.ar,())
 | .Timer,(v:fJ)=>(v.ai,v.IN,())
 | .aK,(v:aS)=>(v.aC.al,v.aC.aK,v.aC.Round,v.aC.aG,v.aC.aa.aH,v.aC.aa.aX,v.aC.aa.aL,v.aC.me,v.aC.bm,v.aC.aE,v.aC.aR,v.aC.ar,v.ah.al,v.ah.aK,v.ah.aG,v.ah.aa.aH,v.ah.aa.aX,v.ah.aa.aL,v.ah.aP,v.ah.ab.ai,v.ah.ab.Value,v.ah.ao.ai,v.ah.ao.Value,v.ah.az.ai,v.ah.az.Value,v.ah.aw.ai,v.ah.aw.Value,v.ah.aY,v.ah.bq,v.ah.bh,v.ah.ar,v.Timer.ai,v.Timer.IN,v.Round,v.Next,v.OX,v.Value,())
 | .jR,(v:aF)=>(v.al,v.dF,v.aa.aH,v.aa.aX,v.aa.aL,v.aN,())
 | .uZ,(v:eY)=>(v.bC,v.aK,v.ba.al,v.ba.aG,v.ba.aa.aH,v.ba.aa.aX,v.ba.aa.aL,v.ba.bm,v.ba.aE,v.ax.al,v.ax.aK,v.ax.aG,v.ax.aa.aH,v.ax.aa.aX,v.ax.aa.aL,v.ax.bC,v.ax.ab.ai,v.ax.ab.Value,v.ax.ao.ai,v.ax.ao.Value,v.ax.az.ai,v.ax.az.Value,v.ax.aY,v.ax.bq,())
 | .iG,(v:ki)=>(v.c0.al,v.c0.dF,v.c0.aa.aH,v.c0.aa.aX,v.c0.aa.aL,v.c0.aN,v.c1.al,v.c1.dF,v.c1.aa.aH,v.c1.aa.aX,v.c1.aa.aL,v.c1.aN,v.c2.al,v.c2.dF,v.c2.aa.aH,v.c2.aa.aX,v.c2.aa.aL,v.c2.aN,v.c3.al,v.c3.dF,v.c3.aa.aH,v.c3.aa.aX,v.c3.aa.aL,v.c3.aN,())
 | .so,(v:oU)=>(v.c0,v.c1,())
 | .mq,(v:oV)=>(v.c0.c0,v.c0.c1,v.c1.c0,v.c1.c1,())
 | .oi,(v:qQ)=>(v.c0.bC,v.c0.aK,v.c0.ba.al,v.c0.ba.aG,v.c0.ba.aa.aH,v.c0.ba.aa.aX,v.c0.ba.aa.aL,v.c0.ba.bm,v.c0.ba.aE,v.c0.ax.al,v.c0.ax.aK,v.c0.ax.aG,v.c0.ax.aa.aH,v.c0.ax.aa.aX,v.c0.ax.aa.aL,v.c0.ax.bC,v.c0.ax.ab.ai,v.c0.ax.ab.Value,v.c0.ax.ao.ai,v.c0.ax.ao.Value,v.c0.ax.az.ai,v.c0.ax.az.Value,v.c0.ax.aY,v.c0.ax.bq,v.c1.bC,v.c1.aK,v.c1.ba.al,v.c1.ba.aG,v.c1.ba.aa.aH,v.c1.ba.aa.aX,v.c1.ba.aa.aL,v.c1.ba.bm,v.c1.ba.aE,v.c1.ax.al,v.c1.ax.aK,v.c1.ax.aG,v.c1.ax.aa.aH,v.c1.ax.aa.aX,v.c1.ax.aa.aL,v.c1.ax.bC,v.c1.ax.ab.ai,v.c1.ax.ab.Value,v.c1.ax.ao.ai,v.c1.ax.ao.Value,v.c1.ax.az.ai,v.c1.ax.az.Value,v.c1.ax.aY,v.c1.ax.bq,())
 | .Src,(v:eG)=>(v.L,v.At,())
 | .wU,(v:aJ)=>(v.ah.al,v.ah.aK,v.ah.aG,v.ah.aa.aH,v.ah.aa.aX,v.ah.aa.aL,v.ah.aP,v.ah.ab.ai,v.ah.ab.Value,v.ah.ao.ai,v.ah.ao.Value,v.ah.az.ai,v.ah.az.Value,v.ah.aw.ai,v.ah.aw.Value,v.ah.aY,v.ah.bq,v.ah.bh,v.ah.ar,())
 | .rO,(v:bf)=>(v.fm,v.aa.aH,v.aa.aX,v.aa.aL,())
 | .Config,(v:bd)=>(v.bn,())
 | .vD,(v:bJ)=>(v.ax.al,v.ax.aK,v.ax.aG,v.ax.aa.aH,v.ax.aa.aX,v.ax.aa.aL,v.ax.bC,v.ax.ab.ai,v.ax.ab.Value,v.ax.ao.ai,v.ax.ao.Value,v.ax.az.ai,v.ax.az.Value,v.ax.aY,v.ax.bq,())
 | .Seen,(v:gE)=>(v.al,v.View.bn,v.ar,())
 | .Claim,(v:lK)=>(v.sN,v.Value,())
 | .Message,(v:cy)=>(v.al,v.aG,v.aa.aH,v.aa.aX,v.aa.aL,v.bm,v.aE,())
 | .me,(v:GF)=>(v.aW,v.low,v.cg,v.aZ.ai,v.aZ.Value,v.eN.ai,v.eN.Value,v.bW.ai,v.bW.Value,v.dV.ai,v.dV.Value,())
 | .om,(v:qR)=>(v.c0.ai,v.c0.Value,v.c1.ai,v.c1.Value,())
 | .zY,(v:eQ)=>(v.Rf,v.Rg,())
def mZ.ofL:(n:mZ)->Dc n.leaves->n.den
 | .aa,v=>(ak.mk v.1 v.2.1 v.2.2.1)
 | .ba,v=>(ay.mk v.1 v.2.1 (ak.mk v.2.2.1 v.2.2.2.1 v.2.2.2.2.1) v.2.2.2.2.2.1 v.2.2.2.2.2.2.1)
 | .aC,v=>(av.mk v.1 v.2.1 v.2.2.1 v.2.2.2.1 (ak.mk v.2.2.2.2.1 v.2.2.2.2.2.1 v.2.2.2.2.2.2.1) v.2.2.2.2.2.2.2.1 v.2.2.2.2.2.2.2.2.1 v.2.2.2.2.2.2.2.2.2.1 v.2.2.2.2.2.2.2.2.2.2.1 v.2.2.2.2.2.2.2.2.2.2.2.1)
 | .ab,v=>(ae.mk v.1 v.2.1)
 | .ax,v=>(aj.mk v.1 v.2.1 v.2.2.1 (ak.mk v.2.2.2.1 v.2.2.2.2.1 v.2.2.2.2.2.1) v.2.2.2.2.2.2.1 (ae.mk v.2.2.2.2.2.2.2.1 v.2.2.2.2.2.2.2.2.1) (ae.mk v.2.2.2.2.2.2.2.2.2.1 v.2.2.2.2.2.2.2.2.2.2.1) (ae.mk v.2.2.2.2.2.2.2.2.2.2.2.1 v.2.2.2.2.2.2.2.2.2.2.2.2.1) v.2.2.2.2.2.2.2.2.2.2.2.2.2.1 v.2.2.2.2.2.2.2.2.2.2.2.2.2.2.1)
 | .ah,v=>(af.mk v.1 v.2.1 v.2.2.1 (ak.mk v.2.2.2.1 v.2.2.2.2.1 v.2.2.2.2.2.1) v.2.2.2.2.2.2.1 (ae.mk v.2.2.2.2.2.2.2.1 v.2.2.2.2.2.2.2.2.1) (ae.mk v.2.2.2.2.2.2.2.2.2.1 v.2.2.2.2.2.2.2.2.2.2.1) (ae.mk v.2.2.2.2.2.2.2.2.2.2.2.1 v.2.2.2.2.2.2.2.2.2.2.2.2.1) (ae.mk v.2.2.2.2.2.2.2.2.2.2.2.2.2.1 v.2.2.2.2.2.2.2.2.2.2.2.2.2.2.1) v.2.2.2.2.2.2.2.2.2.2.2.2.2.2.2.1 v.2.2.2.2.2.2.2.2.2.2.2.2.2.2.2.2.1 v.2.2.2.2.2.2.2.2.2.2.2.2.2.2.2.2.2.1 v.2.2.2.2.2.2.2.2.2.2.2.2.2.2.2.2.2.2.1)
 | .Timer,v=>(fJ.mk v.1 v.2.1)
 | .aK,v=>(aS.mk (av.mk v.1 v.2.1 v.2.2.1 v.2.2.2.1 (ak.mk v.2.2.2.2.1 v.2.2.2.2.2.1 v.2.2.2.2.2.2.1) v.2.2.2.2.2.2.2.1 v.2.2.2.2.2.2.2.2.1 v.2.2.2.2.2.2.2.2.2.1 v.2.2.2.2.2.2.2.2.2.2.1 v.2.2.2.2.2.2.2.2.2.2.2.1) (af.mk v.2.2.2.2.2.2.2.2.2.2.2.2.1 v.2.2.2.2.2.2.2.2.2.2.2.2.2.1 v.2.2.2.2.2.2.2.2.2.2.2.2.2.2.1 (ak.mk v.2.2.2.2.2.2.2.2.2.2.2.2.2.2.2.1 v.2.2.2.2.2.2.2.2.2.2.2.2.2.2.2.2.1 v.2.2.2.2.2.2.2.2.2.2.2.2.2.2.2.2.2.1) v.2.2.2.2.2.2.2.2.2.2.2.2.2.2.2.2.2.2.1 (ae.mk v.2.2.2.2.2.2.2.2.2.2.2.2.2.2.2.2.2.2.2.1 v.2.2.2.2.2.2.2.2.2.2.2.2.2.2.2.2.2.2.2.2.1) (ae.mk v.2.2.2.2.2.2.2.2.2.2.2.2.2.2.2.2.2.2.2.2.2.1 v.2.2.2.2.2.2.2.2.2.2.2.2.2.2.2.2.2.2.2.2.2.2.1) (ae.mk v.2.2.2.2.2.2.2.2.2.2.2.2.2.2.2.2.2.2.2.2.2.2.2.1 v.2.2.2.2.2.2.2.2.2.2.2.2.2.2.2.2.2.2.2.2.2.2.2.2.1) (ae.mk v.2.2.2.2.2.2.2.2.2.2.2.2.2.2.2.2.2.2.2.2.2.2.2.2.2.1 v.2.2.2.2.2.2.2.2.2.2.2.2.2.2.2.2.2.2.2.2.2.2.2.2.2.2.1) v.2.2.2.2.2.2.2.2.2.2.2.2.2.2.2.2.2.2.2.2.2.2.2.2.2.2.2.1 v.2.2.2.2.2.2.2.2.2.2.2.2.2.2.2.2.2.2.2.2.2.2.2.2.2.2.2.2.1 v.2.2.2.2.2.2.2.2.2.2.2.2.2.2.2.2.2.2.2.2.2.2.2.2.2.2.2.2.2.1 v.2.2.2.2.2.2.2.2.2.2.2.2.2.2.2.2.2.2.2.2.2.2.2.2.2.2.2.2.2.2.1) (fJ.mk v.2.2.2.2.2.2.2.2.2.2.2.2.2.2.2.2.2.2.2.2.2.2.2.2.2.2.2.2.2.2.2.1 v.2.2.2.2.2.2.2.2.2.2.2.2.2.2.2.2.2.2.2.2.2.2.2.2.2.2.2.2.2.2.2.2.1) v.2.2.2.2.2.2.2.2.2.2.2.2.2.2.2.2.2.2.2.2.2.2.2.2.2.2.2.2.2.2.2.2.2.1 v.2.2.2.2.2.2.2.2.2.2.2.2.2.2.2.2.2.2.2.2.2.2.2.2.2.2.2.2.2.2.2.2.2.2.1 v.2.2.2.2.2.2.2.2.2.2.2.2.2.2.2.2.2.2.2.2.2.2.2.2.2.2.2.2.2.2.2.2.2.2.2.1 v.2.2.2.2.2.2.2.2.2.2.2.2.2.2.2.2.2.2.2.2.2.2.2.2.2.2.2.2.2.2.2.2.2.2.2.2.1)
 | .jR,v=>(aF.mk v.1 v.2.1 (ak.mk v.2.2.1 v.2.2.2.1 v.2.2.2.2.1) v.2.2.2.2.2.1)
 | .uZ,v=>(eY.mk v.1 v.2.1 (ay.mk v.2.2.1 v.2.2.2.1 (ak.mk v.2.2.2.2.1 v.2.2.2.2.2.1 v.2.2.2.2.2.2.1) v.2.2.2.2.2.2.2.1 v.2.2.2.2.2.2.2.2.1) (aj.mk v.2.2.2.2.2.2.2.2.2.1 v.2.2.2.2.2.2.2.2.2.2.1 v.2.2.2.2.2.2.2.2.2.2.2.1 (ak.mk v.2.2.2.2.2.2.2.2.2.2.2.2.1 v.2.2.2.2.2.2.2.2.2.2.2.2.2.1 v.2.2.2.2.2.2.2.2.2.2.2.2.2.2.1) v.2.2.2.2.2.2.2.2.2.2.2.2.2.2.2.1 (ae.mk v.2.2.2.2.2.2.2.2.2.2.2.2.2.2.2.2.1 v.2.2.2.2.2.2.2.2.2.2.2.2.2.2.2.2.2.1) (ae.mk v.2.2.2.2.2.2.2.2.2.2.2.2.2.2.2.2.2.2.1 v.2.2.2.2.2.2.2.2.2.2.2.2.2.2.2.2.2.2.2.1) (ae.mk v.2.2.2.2.2.2.2.2.2.2.2.2.2.2.2.2.2.2.2.2.1 v.2.2.2.2.2.2.2.2.2.2.2.2.2.2.2.2.2.2.2.2.2.1) v.2.2.2.2.2.2.2.2.2.2.2.2.2.2.2.2.2.2.2.2.2.2.1 v.2.2.2.2.2.2.2.2.2.2.2.2.2.2.2.2.2.2.2.2.2.2.2.1))
 | .iG,v=>(ki.mk (aF.mk v.1 v.2.1 (ak.mk v.2.2.1 v.2.2.2.1 v.2.2.2.2.1) v.2.2.2.2.2.1) (aF.mk v.2.2.2.2.2.2.1 v.2.2.2.2.2.2.2.1 (ak.mk v.2.2.2.2.2.2.2.2.1 v.2.2.2.2.2.2.2.2.2.1 v.2.2.2.2.2.2.2.2.2.2.1) v.2.2.2.2.2.2.2.2.2.2.2.1) (aF.mk v.2.2.2.2.2.2.2.2.2.2.2.2.1 v.2.2.2.2.2.2.2.2.2.2.2.2.2.1 (ak.mk v.2.2.2.2.2.2.2.2.2.2.2.2.2.2.1 v.2.2.2.2.2.2.2.2.2.2.2.2.2.2.2.1 v.2.2.2.2.2.2.2.2.2.2.2.2.2.2.2.2.1) v.2.2.2.2.2.2.2.2.2.2.2.2.2.2.2.2.2.1) (aF.mk v.2.2.2.2.2.2.2.2.2.2.2.2.2.2.2.2.2.2.1 v.2.2.2.2.2.2.2.2.2.2.2.2.2.2.2.2.2.2.2.1 (ak.mk v.2.2.2.2.2.2.2.2.2.2.2.2.2.2.2.2.2.2.2.2.1 v.2.2.2.2.2.2.2.2.2.2.2.2.2.2.2.2.2.2.2.2.2.1 v.2.2.2.2.2.2.2.2.2.2.2.2.2.2.2.2.2.2.2.2.2.2.1) v.2.2.2.2.2.2.2.2.2.2.2.2.2.2.2.2.2.2.2.2.2.2.2.1))
 | .so,v=>(oU.mk v.1 v.2.1)
 | .mq,v=>(oV.mk (oU.mk v.1 v.2.1) (oU.mk v.2.2.1 v.2.2.2.1))
 | .oi,v=>(qQ.mk (eY.mk v.1 v.2.1 (ay.mk v.2.2.1 v.2.2.2.1 (ak.mk v.2.2.2.2.1 v.2.2.2.2.2.1 v.2.2.2.2.2.2.1) v.2.2.2.2.2.2.2.1 v.2.2.2.2.2.2.2.2.1) (aj.mk v.2.2.2.2.2.2.2.2.2.1 v.2.2.2.2.2.2.2.2.2.2.1 v.2.2.2.2.2.2.2.2.2.2.2.1 (ak.mk v.2.2.2.2.2.2.2.2.2.2.2.2.1 v.2.2.2.2.2.2.2.2.2.2.2.2.2.1 v.2.2.2.2.2.2.2.2.2.2.2.2.2.2.1) v.2.2.2.2.2.2.2.2.2.2.2.2.2.2.2.1 (ae.mk v.2.2.2.2.2.2.2.2.2.2.2.2.2.2.2.2.1 v.2.2.2.2.2.2.2.2.2.2.2.2.2.2.2.2.2.1) (ae.mk v.2.2.2.2.2.2.2.2.2.2.2.2.2.2.2.2.2.2.1 v.2.2.2.2.2.2.2.2.2.2.2.2.2.2.2.2.2.2.2.1) (ae.mk v.2.2.2.2.2.2.2.2.2.2.2.2.2.2.2.2.2.2.2.2.1 v.2.2.2.2.2.2.2.2.2.2.2.2.2.2.2.2.2.2.2.2.2.1) v.2.2.2.2.2.2.2.2.2.2.2.2.2.2.2.2.2.2.2.2.2.2.1 v.2.2.2.2.2.2.2.2.2.2.2.2.2.2.2.2.2.2.2.2.2.2.2.1)) (eY.mk v.2.2.2.2.2.2.2.2.2.2.2.2.2.2.2.2.2.2.2.2.2.2.2.2.1 v.2.2.2.2.2.2.2.2.2.2.2.2.2.2.2.2.2.2.2.2.2.2.2.2.2.1 (ay.mk v.2.2.2.2.2.2.2.2.2.2.2.2.2.2.2.2.2.2.2.2.2.2.2.2.2.2.1 v.2.2.2.2.2.2.2.2.2.2.2.2.2.2.2.2.2.2.2.2.2.2.2.2.2.2.2.1 (ak.mk v.2.2.2.2.2.2.2.2.2.2.2.2.2.2.2.2.2.2.2.2.2.2.2.2.2.2.2.2.1 v.2.2.2.2.2.2.2.2.2.2.2.2.2.2.2.2.2.2.2.2.2.2.2.2.2.2.2.2.2.1 v.2.2.2.2.2.2.2.2.2.2.2.2.2.2.2.2.2.2.2.2.2.2.2.2.2.2.2.2.2.2.1) v.2.2.2.2.2.2.2.2.2.2.2.2.2.2.2.2.2.2.2.2.2.2.2.2.2.2.2.2.2.2.2.1 v.2.2.2.2.2.2.2.2.2.2.2.2.2.2.2.2.2.2.2.2.2.2.2.2.2.2.2.2.2.2.2.2.1) (aj.mk v.2.2.2.2.2.2.2.2.2.2.2.2.2.2.2.2.2.2.2.2.2.2.2.2.2.2.2.2.2.2.2.2.2.1 v.2.2.2.2.2.2.2.2.2.2.2.2.2.2.2.2.2.2.2.2.2.2.2.2.2.2.2.2.2.2.2.2.2.2.1 v.2.2.2.2.2.2.2.2.2.2.2.2.2.2.2.2.2.2.2.2.2.2.2.2.2.2.2.2.2.2.2.2.2.2.2.1 (ak.mk v.2.2.2.2.2.2.2.2.2.2.2.2.2.2.2.2.2.2.2.2.2.2.2.2.2.2.2.2.2.2.2.2.2.2.2.2.1 v.2.2.2.2.2.2.2.2.2.2.2.2.2.2.2.2.2.2.2.2.2.2.2.2.2.2.2.2.2.2.2.2.2.2.2.2.2.1 v.2.2.2.2.2.2.2.2.2.2.2.2.2.2.2.2.2.2.2.2.2.2.2.2.2.2.2.2.2.2.2.2.2.2.2.2.2.2.1) v.2.2.2.2.2.2.2.2.2.2.2.2.2.2.2.2.2.2.2.2.2.2.2.2.2.2.2.2.2.2.2.2.2.2.2.2.2.2.2.1 (ae.mk v.2.2.2.2.2.2.2.2.2.2.2.2.2.2.2.2.2.2.2.2.2.2.2.2.2.2.2.2.2.2.2.2.2.2.2.2.2.2.2.2.1 v.2.2.2.2.2.2.2.2.2.2.2.2.2.2.2.2.2.2.2.2.2.2.2.2.2.2.2.2.2.2.2.2.2.2.2.2.2.2.2.2.2.1) (ae.mk v.2.2.2.2.2.2.2.2.2.2.2.2.2.2.2.2.2.2.2.2.2.2.2.2.2.2.2.2.2.2.2.2.2.2.2.2.2.2.2.2.2.2.1 v.2.2.2.2.2.2.2.2.2.2.2.2.2.2.2.2.2.2.2.2.2.2.2.2.2.2.2.2.2.2.2.2.2.2.2.2.2.2.2.2.2.2.2.1) (ae.mk v.2.2.2.2.2.2.2.2.2.2.2.2.2.2.2.2.2.2.2.2.2.2.2.2.2.2.2.2.2.2.2.2.2.2.2.2.2.2.2.2.2.2.2.2.1 v.2.2.2.2.2.2.2.2.2.2.2.2.2.2.2.2.2.2.2.2.2.2.2.2.2.2.2.2.2.2.2.2.2.2.2.2.2.2.2.2.2.2.2.2.2.1) v.2.2.2.2.2.2.2.2.2.2.2.2.2.2.2.2.2.2.2.2.2.2.2.2.2.2.2.2.2.2.2.2.2.2.2.2.2.2.2.2.2.2.2.2.2.2.1 v.2.2.2.2.2.2.2.2.2.2.2.2.2.2.2.2.2.2.2.2.2.2.2.2.2.2.2.2.2.2.2.2.2.2.2.2.2.2.2.2.2.2.2.2.2.2.2.1)))
 | .Src,v=>(eG.mk v.1 v.2.1)
 | .wU,v=>(aJ.mk (af.mk v.1 v.2.1 v.2.2.1 (ak.mk v.2.2.2.1 v.2.2.2.2.1 v.2.2.2.2.2.1) v.2.2.2.2.2.2.1 (ae.mk v.2.2.2.2.2.2.2.1 v.2.2.2.2.2.2.2.2.1) (ae.mk v.2.2.2.2.2.2.2.2.2.1 v.2.2.2.2.2.2.2.2.2.2.1) (ae.mk v.2.2.2.2.2.2.2.2.2.2.2.1 v.2.2.2.2.2.2.2.2.2.2.2.2.1) (ae.mk v.2.2.2.2.2.2.2.2.2.2.2.2.2.1 v.2.2.2.2.2.2.2.2.2.2.2.2.2.2.1) v.2.2.2.2.2.2.2.2.2.2.2.2.2.2.2.1 v.2.2.2.2.2.2.2.2.2.2.2.2.2.2.2.2.1 v.2.2.2.2.2.2.2.2.2.2.2.2.2.2.2.2.2.1 v.2.2.2.2.2.2.2.2.2.2.2.2.2.2.2.2.2.2.1))
 | .rO,v=>(bf.mk v.1 (ak.mk v.2.1 v.2.2.1 v.2.2.2.1))
 | .Config,v=>(bd.mk v.1)
 | .vD,v=>(bJ.mk (aj.mk v.1 v.2.1 v.2.2.1 (ak.mk v.2.2.2.1 v.2.2.2.2.1 v.2.2.2.2.2.1) v.2.2.2.2.2.2.1 (ae.mk v.2.2.2.2.2.2.2.1 v.2.2.2.2.2.2.2.2.1) (ae.mk v.2.2.2.2.2.2.2.2.2.1 v.2.2.2.2.2.2.2.2.2.2.1) (ae.mk v.2.2.2.2.2.2.2.2.2.2.2.1 v.2.2.2.2.2.2.2.2.2.2.2.2.1) v.2.2.2.2.2.2.2.2.2.2.2.2.2.1 v.2.2.2.2.2.2.2.2.2.2.2.2.2.2.1))
 | .Seen,v=>(gE.mk v.1 (bd.mk v.2.1) v.2.2.1)
 | .Claim,v=>(lK.mk v.1 v.2.1)
 | .Message,v=>(cy.mk v.1 v.2.1 (ak.mk v.2.2.1 v.2.2.2.1 v.2.2.2.2.1) v.2.2.2.2.2.1 v.2.2.2.2.2.2.1)
 | .me,v=>(GF.mk v.1 v.2.1 v.2.2.1 (ae.mk v.2.2.2.1 v.2.2.2.2.1) (ae.mk v.2.2.2.2.2.1 v.2.2.2.2.2.2.1) (ae.mk v.2.2.2.2.2.2.2.1 v.2.2.2.2.2.2.2.2.1) (ae.mk v.2.2.2.2.2.2.2.2.2.1 v.2.2.2.2.2.2.2.2.2.2.1))
 | .om,v=>(qR.mk (ae.mk v.1 v.2.1) (ae.mk v.2.2.1 v.2.2.2.1))
 | .zY,v=>(eQ.mk v.1 v.2.1)
mutual
def dS:ak->List PV
 |⟨a0,a1,a2⟩=>[.int .i64 a0,.sl (a1.map (λx=>[.int .i64 x])),.sl (yk a2)]
def yk:List ak->List (List PV)
 |[]=>[]
 |x::l=>dS x::yk l
end
def EN:∀(l:List ak),yk l=l.map dS
 |[]=>by rw[yk];rfl
 |x::l=>by rw[yk,EN l];rfl
def zC(v:ay):List PV:=[.int .i64 v.al,.int .i64 v.aG,.int .i64 v.aa.aH,.sl (v.aa.aX.map (λx=>[.int .i64 x])),.sl (v.aa.aL.map dS),.sl (v.bm.map (λx=>[.str x])),.sl (v.aE.map (λx=>[.str x]))]
def Rk(v:av):List PV:=[.int .i64 v.al,.int .i64 v.aK,.int .i64 v.Round,.int .i64 v.aG,.int .i64 v.aa.aH,.sl (v.aa.aX.map (λx=>[.int .i64 x])),.sl (v.aa.aL.map dS),.str v.me,.sl (v.bm.map (λx=>[.str x])),.sl (v.aE.map (λx=>[.str x])),.sl (v.aR.map (λx=>[.str x])),.sl (v.ar.map zC)]
def Wu(v:ae):List PV:=[.int .i64 v.ai,.str v.Value]
def yl(v:aj):List PV:=[.int .i64 v.al,.int .i64 v.aK,.int .i64 v.aG,.int .i64 v.aa.aH,.sl (v.aa.aX.map (λx=>[.int .i64 x])),.sl (v.aa.aL.map dS),.int .i64 v.bC,.int .i64 v.ab.ai,.str v.ab.Value,.int .i64 v.ao.ai,.str v.ao.Value,.int .i64 v.az.ai,.str v.az.Value,.int .i64 v.aY,.int .i64 v.bq]
def Up(v:af):List PV:=[.int .i64 v.al,.int .i64 v.aK,.int .i64 v.aG,.int .i64 v.aa.aH,.sl (v.aa.aX.map (λx=>[.int .i64 x])),.sl (v.aa.aL.map dS),.int .i64 v.aP,.int .i64 v.ab.ai,.str v.ab.Value,.int .i64 v.ao.ai,.str v.ao.Value,.int .i64 v.az.ai,.str v.az.Value,.int .i64 v.aw.ai,.str v.aw.Value,.int .i64 v.aY,.int .i64 v.bq,.str v.bh,.sl (v.ar.map yl)]
def Yc(v:fJ):List PV:=[.int .i64 v.ai,.int .i64 v.IN]
def zz(v:aS):List PV:=[.int .i64 v.aC.al,.int .i64 v.aC.aK,.int .i64 v.aC.Round,.int .i64 v.aC.aG,.int .i64 v.aC.aa.aH,.sl (v.aC.aa.aX.map (λx=>[.int .i64 x])),.sl (v.aC.aa.aL.map dS),.str v.aC.me,.sl (v.aC.bm.map (λx=>[.str x])),.sl (v.aC.aE.map (λx=>[.str x])),.sl (v.aC.aR.map (λx=>[.str x])),.sl (v.aC.ar.map zC),.int .i64 v.ah.al,.int .i64 v.ah.aK,.int .i64 v.ah.aG,.int .i64 v.ah.aa.aH,.sl (v.ah.aa.aX.map (λx=>[.int .i64 x])),.sl (v.ah.aa.aL.map dS),.int .i64 v.ah.aP,.int .i64 v.ah.ab.ai,.str v.ah.ab.Value,.int .i64 v.ah.ao.ai,.str v.ah.ao.Value,.int .i64 v.ah.az.ai,.str v.ah.az.Value,.int .i64 v.ah.aw.ai,.str v.ah.aw.Value,.int .i64 v.ah.aY,.int .i64 v.ah.bq,.str v.ah.bh,.sl (v.ah.ar.map yl),.int .i64 v.Timer.ai,.int .i64 v.Timer.IN,.int .i64 v.Round,.int .i64 v.Next,.bool v.OX,.str v.Value]
def Mh(v:aF):List PV:=[.int .i64 v.al,.bool v.dF,.int .i64 v.aa.aH,.sl (v.aa.aX.map (λx=>[.int .i64 x])),.sl (v.aa.aL.map dS),.sl (v.aN.map zz)]
def Wr(v:eY):List PV:=[.int .i64 v.bC,.int .i64 v.aK,.int .i64 v.ba.al,.int .i64 v.ba.aG,.int .i64 v.ba.aa.aH,.sl (v.ba.aa.aX.map (λx=>[.int .i64 x])),.sl (v.ba.aa.aL.map dS),.sl (v.ba.bm.map (λx=>[.str x])),.sl (v.ba.aE.map (λx=>[.str x])),.int .i64 v.ax.al,.int .i64 v.ax.aK,.int .i64 v.ax.aG,.int .i64 v.ax.aa.aH,.sl (v.ax.aa.aX.map (λx=>[.int .i64 x])),.sl (v.ax.aa.aL.map dS),.int .i64 v.ax.bC,.int .i64 v.ax.ab.ai,.str v.ax.ab.Value,.int .i64 v.ax.ao.ai,.str v.ax.ao.Value,.int .i64 v.ax.az.ai,.str v.ax.az.Value,.int .i64 v.ax.aY,.int .i64 v.ax.bq]
def G4(v:ki):List PV:=[.int .i64 v.c0.al,.bool v.c0.dF,.int .i64 v.c0.aa.aH,.sl (v.c0.aa.aX.map (λx=>[.int .i64 x])),.sl (v.c0.aa.aL.map dS),.sl (v.c0.aN.map zz),.int .i64 v.c1.al,.bool v.c1.dF,.int .i64 v.c1.aa.aH,.sl (v.c1.aa.aX.map (λx=>[.int .i64 x])),.sl (v.c1.aa.aL.map dS),.sl (v.c1.aN.map zz),.int .i64 v.c2.al,.bool v.c2.dF,.int .i64 v.c2.aa.aH,.sl (v.c2.aa.aX.map (λx=>[.int .i64 x])),.sl (v.c2.aa.aL.map dS),.sl (v.c2.aN.map zz),.int .i64 v.c3.al,.bool v.c3.dF,.int .i64 v.c3.aa.aH,.sl (v.c3.aa.aX.map (λx=>[.int .i64 x])),.sl (v.c3.aa.aL.map dS),.sl (v.c3.aN.map zz)]
def Uq(v:oU):List PV:=[.int .i64 v.c0,.int .i64 v.c1]
def Mi(v:oV):List PV:=[.int .i64 v.c0.c0,.int .i64 v.c0.c1,.int .i64 v.c1.c0,.int .i64 v.c1.c1]
def Ob(v:qQ):List PV:=[.int .i64 v.c0.bC,.int .i64 v.c0.aK,.int .i64 v.c0.ba.al,.int .i64 v.c0.ba.aG,.int .i64 v.c0.ba.aa.aH,.sl (v.c0.ba.aa.aX.map (λx=>[.int .i64 x])),.sl (v.c0.ba.aa.aL.map dS),.sl (v.c0.ba.bm.map (λx=>[.str x])),.sl (v.c0.ba.aE.map (λx=>[.str x])),.int .i64 v.c0.ax.al,.int .i64 v.c0.ax.aK,.int .i64 v.c0.ax.aG,.int .i64 v.c0.ax.aa.aH,.sl (v.c0.ax.aa.aX.map (λx=>[.int .i64 x])),.sl (v.c0.ax.aa.aL.map dS),.int .i64 v.c0.ax.bC,.int .i64 v.c0.ax.ab.ai,.str v.c0.ax.ab.Value,.int .i64 v.c0.ax.ao.ai,.str v.c0.ax.ao.Value,.int .i64 v.c0.ax.az.ai,.str v.c0.ax.az.Value,.int .i64 v.c0.ax.aY,.int .i64 v.c0.ax.bq,.int .i64 v.c1.bC,.int .i64 v.c1.aK,.int .i64 v.c1.ba.al,.int .i64 v.c1.ba.aG,.int .i64 v.c1.ba.aa.aH,.sl (v.c1.ba.aa.aX.map (λx=>[.int .i64 x])),.sl (v.c1.ba.aa.aL.map dS),.sl (v.c1.ba.bm.map (λx=>[.str x])),.sl (v.c1.ba.aE.map (λx=>[.str x])),.int .i64 v.c1.ax.al,.int .i64 v.c1.ax.aK,.int .i64 v.c1.ax.aG,.int .i64 v.c1.ax.aa.aH,.sl (v.c1.ax.aa.aX.map (λx=>[.int .i64 x])),.sl (v.c1.ax.aa.aL.map dS),.int .i64 v.c1.ax.bC,.int .i64 v.c1.ax.ab.ai,.str v.c1.ax.ab.Value,.int .i64 v.c1.ax.ao.ai,.str v.c1.ax.ao.Value,.int .i64 v.c1.ax.az.ai,.str v.c1.ax.az.Value,.int .i64 v.c1.ax.aY,.int .i64 v.c1.ax.bq]
def acv(v:eG):List PV:=[.sl (v.L.map (λx=>[.int .i64 x])),.int .i64 v.At]
def Ws(v:aJ):List PV:=[.int .i64 v.ah.al,.int .i64 v.ah.aK,.int .i64 v.ah.aG,.int .i64 v.ah.aa.aH,.sl (v.ah.aa.aX.map (λx=>[.int .i64 x])),.sl (v.ah.aa.aL.map dS),.int .i64 v.ah.aP,.int .i64 v.ah.ab.ai,.str v.ah.ab.Value,.int .i64 v.ah.ao.ai,.str v.ah.ao.Value,.int .i64 v.ah.az.ai,.str v.ah.az.Value,.int .i64 v.ah.aw.ai,.str v.ah.aw.Value,.int .i64 v.ah.aY,.int .i64 v.ah.bq,.str v.ah.bh,.sl (v.ah.ar.map yl)]
def FM(v:bf):List PV:=[.bool v.fm,.int .i64 v.aa.aH,.sl (v.aa.aX.map (λx=>[.int .i64 x])),.sl (v.aa.aL.map dS)]
def Wt(v:bd):List PV:=[.sl (v.bn.map FM)]
def Pj(v:bJ):List PV:=[.int .i64 v.ax.al,.int .i64 v.ax.aK,.int .i64 v.ax.aG,.int .i64 v.ax.aa.aH,.sl (v.ax.aa.aX.map (λx=>[.int .i64 x])),.sl (v.ax.aa.aL.map dS),.int .i64 v.ax.bC,.int .i64 v.ax.ab.ai,.str v.ax.ab.Value,.int .i64 v.ax.ao.ai,.str v.ax.ao.Value,.int .i64 v.ax.az.ai,.str v.ax.az.Value,.int .i64 v.ax.aY,.int .i64 v.ax.bq]
def Z2(v:gE):List PV:=[.int .i64 v.al,.sl (v.View.bn.map FM),.sl (v.ar.map Pj)]
def HH(v:lK):List PV:=[.int .i64 v.sN,.int .i64 v.Value]
def Uo(v:cy):List PV:=[.int .i64 v.al,.int .i64 v.aG,.int .i64 v.aa.aH,.sl (v.aa.aX.map (λx=>[.int .i64 x])),.sl (v.aa.aL.map dS),.sl (v.bm.map HH),.sl (v.aE.map HH)]
def acw(v:GF):List PV:=[.int .i64 v.aW,.int .i64 v.low,.int .i64 v.cg,.int .i64 v.aZ.ai,.str v.aZ.Value,.int .i64 v.eN.ai,.str v.eN.Value,.int .i64 v.bW.ai,.str v.bW.Value,.int .i64 v.dV.ai,.str v.dV.Value]
def Oc(v:qR):List PV:=[.int .i64 v.c0.ai,.str v.c0.Value,.int .i64 v.c1.ai,.str v.c1.Value]
def Z3(v:eQ):List PV:=[.int .i64 v.Rf,.int .i64 v.Rg]
def mZ.pv:(n:mZ)->n.den->List PV
 | .aa,v=>dS v
 | .ba,v=>zC v
 | .aC,v=>Rk v
 | .ab,v=>Wu v
 | .ax,v=>yl v
 | .ah,v=>Up v
 | .Timer,v=>Yc v
 | .aK,v=>zz v
 | .jR,v=>Mh v
 | .uZ,v=>Wr v
 | .iG,v=>G4 v
 | .so,v=>Uq v
 | .mq,v=>Mi v
 | .oi,v=>Ob v
 | .Src,v=>acv v
 | .wU,v=>Ws v
 | .rO,v=>FM v
 | .Config,v=>Wt v
 | .vD,v=>Pj v
 | .Seen,v=>Z2 v
 | .Claim,v=>HH v
 | .Message,v=>Uo v
 | .me,v=>acw v
 | .om,v=>Oc v
 | .zY,v=>Z3 v
def Ty.isAgg:Ty->Bool
 | .st _=>true
 |_=>false
def abf(t:Ty)(cs:List PV):PV:=match t.isAgg with|true=> .agg cs|false=>cs.headD .any
def Ty.pv:(t:Ty)->t.den->List PV
 | .i k,n=>[.int k n]
 | .bool,b=>[.bool b]
 | .str,s=>[.str s]
 | .sl t,(xs:List t.den)=>[.sl (xs.map (Ty.pv t))]
 | .mp a b,(xs:List (a.den×b.den))=>[.js (xs.map λp=>abf a (Ty.pv a p.1)) (xs.map λp=>abf b (Ty.pv b p.2))]
 | .st n,v=>n.pv v
def yv:(ls:List Ty)->Dc ls->List PV
 |[],_=>[]
 |t::l,v=>t.pv v.1++yv l v.2
def mZ.Mg:∀(n:mZ) (v:n.den),n.pv v=yv n.leaves (n.toL v)
 | .aa,v=>by cases v;simp only[mZ.pv,dS,EN];rfl
 | .ba,v| .aC,v| .ab,v| .ax,v| .ah,v| .Timer,v| .aK,v| .jR,v| .uZ,v| .iG,v| .so,v| .mq,v| .oi,v| .Src,v| .wU,v| .rO,v| .Config,v| .vD,v| .Seen,v| .Claim,v| .Message,v| .me,v| .om,v| .zY,v=>rfl
def Ty.leaf:Ty->Bool
 | .st _=>false
 |_=>true
def mZ.I9:∀(n:mZ),n.leaves.all Ty.leaf=true
 | .aa| .ba| .aC| .ab| .ax| .ah| .Timer| .aK| .jR| .uZ| .iG| .so| .mq| .oi| .Src| .wU| .rO| .Config| .vD| .Seen| .Claim| .Message| .me| .om| .zY=>rfl
def mZ.afF:∀(n:mZ) (v:Dc n.leaves),n.toL (n.ofL v)=v
 | .aa,v| .ba,v| .aC,v| .ab,v| .ax,v| .ah,v| .Timer,v| .aK,v| .jR,v| .uZ,v| .iG,v| .so,v| .mq,v| .oi,v| .Src,v| .wU,v| .rO,v| .Config,v| .vD,v| .Seen,v| .Claim,v| .Message,v| .me,v| .om,v| .zY,v=>rfl
def Ty.WJ:Ty->Bool
 | .sl _| .mp _ _=>false
 |_=>true
@[reducible] def U:TU where
 Ty:=Ty
 VF:=Ty.VF
 den:=Ty.den
 pv:=Ty.pv
 size:=λt=>match t with| .st n=>n.leaves.length|_=>1
 agg:=Ty.isAgg
 plain:=λt=>match t with| .st n=>n.leaves.all Ty.WJ|t=>t.WJ
def F0:(t:Ty)->t.den->KV U
 | .i k,n=> .int k n
 | .bool,b=> .bool b
 | .str,s=> .str s
 | .sl t,(xs:List t.den)=> .sl t xs
 | .mp a b,(xs:List (a.den×b.den))=> .js a b xs
 | .st _,_=> .any
def I8:(ls:List Ty)->Dc ls->List (KV U)
 |[],_=>[]
 |t::l,v=>F0 t v.1::I8 l v.2
def ae8:(t:Ty)->t.den->List (KV U)
 | .st n,v=>I8 n.leaves (n.toL v)
 | .i k,v=>[F0 (.i k) v]
 | .bool,v=>[F0 .bool v]
 | .str,v=>[F0 .str v]
 | .sl t,v=>[F0 (.sl t) v]
 | .mp a b,v=>[F0 (.mp a b) v]
def zS(lk:Lk U):(t:Ty)->KV U->Option t.den
 | .i k,x=>aaG k x
 | .bool,x=>Is x
 | .str,x=>aaE x
 | .sl t,x=>Tv (U:=U) lk t x
 | .mp a b,x=>aaF (U:=U) a b x
 | .st _,_=>none
def AQ(lk:Lk U):(ls:List Ty)->List (KV U)->Option (Dc ls)
 |[],cs=>match cs with|[]=>some ()|_=>none
 |t::l,cs=>match cs with
  |c::cs=>(match zS lk t c with
   |some v=>(match AQ lk l cs with|some vs=>some (v,vs)|none=>none)
   |none=>none)
  |[]=>none
def Ln{α:Type}(f:KV U->Option α):List (KV U)->Option α
 |[x]=>f x
 |_=>none
def ahd:(t:Ty)->Lk U->List (KV U)->Option t.den
 | .st n,lk,cs=>(match AQ lk n.leaves cs with|some v=>some (n.ofL v)|none=>none)
 | .i k,lk,cs=>Ln (zS lk (.i k)) cs
 | .bool,lk,cs=>Ln (zS lk .bool) cs
 | .str,lk,cs=>Ln (zS lk .str) cs
 | .sl t,lk,cs=>Ln (zS lk (.sl t)) cs
 | .mp a b,lk,cs=>Ln (zS lk (.mp a b)) cs
def aaq:∀(t:Ty) (v:t.den),t.leaf=true->[(F0 t v).pv]=t.pv v
 | .i k,v,_| .bool,v,_| .str,v,_| .sl t,v,_| .mp a b,v,_=>rfl
 | .st _,_,h=>by cases h
def ML:∀(ls:List Ty) (v:Dc ls),ls.all Ty.leaf=true->(I8 ls v).map KV.pv=yv ls v
 |[],_,_=>rfl
 |t::l,v,h=>by
  rw[Qq70,Qm]at h;rw[I8,yv,QD,ML l v.2 h.2,<-aaq t v.1 h.1];rfl
def Nq{lk:Lk U}:∀{t:Ty} {x:KV U} {v:t.den},zS lk t x=some v->im lk [x] (t.pv v)
 | .i k,x,v,h=> .cons (adw h) .nil
 | .bool,x,v,h=> .cons (ady h) .nil
 | .str,x,v,h=> .cons (adt h) .nil
 | .sl t,x,v,h=> .cons (adv (U:=U) h) .nil
 | .mp a b,x,v,h=> .cons (adu (U:=U) h) .nil
 | .st _,_,_,h=>by cases h
def im.cv{lk:Lk U}{x:KV U}{ys:List PV}{xs:List (KV U)}{zs:List PV}(h:im lk [x] ys)(k:im lk xs zs):im lk (x::xs) (ys++zs):=by
 cases h with
 |cons h1 h2=>cases h2 with|nil=>exact .cons h1 k
def Ir{lk:Lk U}:∀{ls:List Ty} {cs:List (KV U)} {v:Dc ls},AQ lk ls cs=some v->im lk cs (yv ls v)
 |[],[],_,_=> .nil
 |[],_::_,_,h=>by cases h
 |_::_,[],_,h=>by cases h
 |t::l,c::cs,v,h=>by
  rw[AQ]at h;split at h
  ·rename_i v1 h1;split at h
   ·rename_i vs h2;injection h with h
    subst h;exact(Nq h1).cv (Ir h2)
   ·cases h
  ·cases h
def adz{α:Type}{f:KV U->Option α}{cs:List (KV U)}{v:α}(h:Ln f cs=some v):∃x,cs=[x]/\f x=some v:=by
 unfold Ln at h;split at h
 ·exact⟨_,rfl,h⟩
 ·cases h
def Yb:∀(ls:List Ty) (v:Dc ls),ls.all Ty.leaf=true->(yv ls v).length=ls.length
 |[],_,_=>rfl
 |t::l,v,h=>by
  rw[Qq70,Qm]at h
  have:(t.pv v.1).length=1:=by
   cases t with
   |st n=>cases h.1
   |_=>rfl
  rw[yv,QB,Yb l v.2 h.2,this,QE,Nat.add_comm]
def qc:∀(t:Ty) (v:t.den),t.leaf=true->∀y∈t.pv v,y.gR=true/\(t.WJ=true->y.plain=true)
 | .i k,v,_,y,h| .bool,v,_,y,h| .str,v,_,y,h=>by simp only[Ty.pv,Q5]at h;subst h;exact⟨rfl,λ_=>rfl⟩
 | .sl t,v,_,y,h| .mp a b,v,_,y,h=>by simp only[Ty.pv,Q5]at h;subst h;exact⟨rfl,λh=>by cases h⟩
 | .st _,_,h,_,_=>by cases h
def D9:∀(ls:List Ty) (v:Dc ls),ls.all Ty.leaf=true->∀y∈yv ls v,y.gR=true/\(ls.all Ty.WJ=true->y.plain=true)
 |[],_,_,y,h=>by cases h
 |t::l,v,h,y,hy=>by
  rw[Qq70,Qm]at h;rw[yv,Qz]at hy;rcases hy with hy|hy
  ·obtain⟨h1,h2⟩:=qc t v.1 h.1 y hy;exact⟨h1,λhp=>by rw[Qq70,Qm]at hp;exact h2 hp.1⟩
  ·obtain⟨h1,h2⟩:=D9 l v.2 h.2 y hy;exact⟨h1,λhp=>by rw[Qq70,Qm]at hp;exact h2 hp.2⟩
def SP:mZ->Option (IntKind×IntKind)
 | .Timer| .so| .Claim| .zY=>some (.i64,.i64)
 |_=>none
def Oi:∀(n:mZ) (k l:IntKind),SP n=some (k,l)->∀v,∃a b,ae8 (.st n) v=[.int k a,.int l b]
 | .Timer,_,_,h| .so,_,_,h| .Claim,_,_,h| .zY,_,_,h=>by injection h with h;injection h with h1 h2;subst h1 h2;exact λv=>⟨_,_,rfl⟩
 | .aa,_,_,h| .ba,_,_,h| .aC,_,_,h| .ab,_,_,h| .ax,_,_,h| .ah,_,_,h| .aK,_,_,h| .jR,_,_,h| .uZ,_,_,h| .iG,_,_,h| .mq,_,_,h| .oi,_,_,h| .Src,_,_,h| .wU,_,_,h| .rO,_,_,h| .Config,_,_,h| .vD,_,_,h| .Seen,_,_,h| .Message,_,_,h| .me,_,_,h| .om,_,_,h=>by cases h
def afE:List (Nat×Ty):=[(3,(Ty.i .i64)),(4,Ty.bool),(9,Ty.str),(27,(Ty.st .aa)),(30,(Ty.st .jR)),(34,(Ty.st .ba)),(36,(Ty.st .ab)),(38,(Ty.st .ax)),(40,(Ty.st .uZ)),(56,(Ty.st .aK)),(77,(Ty.st .so)),(218,(Ty.st .vD)),(250,(Ty.st .Message)),(255,(Ty.st .rO)),(320,(Ty.st .Claim))]
def XU(n:Nat):List (Nat×Ty)->Option Ty
 |[]=>none
 |(k,t)::l=>(match Nat.beq k n with|true=>some t|false=>XU n l)
@[reducible] def K:TK U where
 fY:=ae8
 dec:=ahd
 R0:=λn=>XU n afE
 s8:=λt v=>by
  cases t with
  |st n=>exact(ML _ _ n.I9).trans (n.Mg v).symm
  |_=>rfl
 nK:=λt lk cs v h=>by
  cases t with
  |st n=>
   change (match AQ lk n.leaves cs with|some v=>some (n.ofL v)|none=>none)=some v at h
   split at h
   ·rename_i u hu;injection h with h
    subst h;have:=Ir hu
    change im lk cs (n.pv (n.ofL u))
    rw[n.Mg,n.afF];exact this
   ·cases h
  |i k|bool|str|sl t|mp a b=>obtain⟨x,rfl,hx⟩:=adz h;exact Nq hx
 len:=λt v=>by
  cases t with
  |st n=>exact(congrArg List.length (n.Mg v)).trans (Yb _ _ n.I9)
  |_=>rfl
 gR:=λt v y hy=>by
  cases t with
  |st n=>exact(D9 _ (n.toL v) n.I9 y (Eq.mp (congrArg (y∈·) (n.Mg v)) hy)).1
  |i k=>exact(qc (.i k) v rfl y hy).1
  |bool=>exact(qc .bool v rfl y hy).1
  |str=>exact(qc .str v rfl y hy).1
  |sl t=>exact(qc (.sl t) v rfl y hy).1
  |mp a b=>exact(qc (.mp a b) v rfl y hy).1
 one:=λt h=>by
  cases t with
  |st n=>cases h
  |_=>rfl
 plain:=λt h v y hy=>by
  cases t with
  |st n=>exact(D9 _ (n.toL v) n.I9 y (Eq.mp (congrArg (y∈·) (n.Mg v)) hy)).2 h
  |i k=>exact(qc (.i k) v rfl y hy).2 rfl
  |bool=>exact(qc .bool v rfl y hy).2 rfl
  |str=>exact(qc .str v rfl y hy).2 rfl
  |sl t|mp a b=>cases h
 SP:=λt=>match t with| .st n=>SP n|_=>none
 Oi:=λt k l h=>by
  cases t with
  |st n=>exact⟨rfl,Oi n k l h⟩
  |_=>cases h
end
section
open Go.RowKit
def UH{w:World}{a:Addr}{v:Value}(h:w.cell? a=some v):∃t n,w.shape? a.block=some (t,n+1):=by
 unfold World.cell? at h;unfold World.shape?;split at h
 ·rename_i c t fr hc;split at h
  ·cases h
  ·have hlt:=(Q9.1 h).1;exact⟨t,c.size - 1,by simp only[Qf,Prod.mk.injEq,true_and];omega⟩
 ·cases h
def KD{P:Program}(w:World)(tS tR e:TypeId)(ht:P.underlying tS=some (.slice e))(size:Nat)(hz:∀w,(Go.sizeOf e).run P w= .ok size w)
  (a b:Addr) (la ca lb cb:Nat) (hne:a.block≠b.block) {v:Value} (ha:w.cell? a=some v) {cur:Array Value} {t:TypeId} (hb:w.heap[b.block]?=some (.cells cur t (0,0))) (h0:cur.size≠0):
  (Extern.SlicesOverlaps.overlaps #[tS,tS] #[tR] #[.slice (some a) la ca,.slice (some b) lb cb]).run P w= .ok (.bool false) w:=by
 obtain⟨tA,kA,hsa⟩:=UH ha;have hsb:w.shape? b.block=some (t,cur.size):=by simp[World.shape?,hb]
 have hfb:w.frozen? b=false:=by simp[World.frozen?,hb]
 have hfe:w.frozen? {block:=b.block,off:=cur.size}=false:=by simp[World.frozen?,hb]
 have hnb:(a.block !=b.block)=true:=by simpa using hne
 have hnb':(a.block==b.block)=false:=by simpa using hne
 obtain⟨kB,hkB⟩:∃kB,cur.size=kB+1:=⟨cur.size - 1,by omega⟩
 rw[hkB]at hsb hfe
 change Sem.run P (α:=Value) (do
  let some t:=(#[tS,tS]:Array TypeId)[0]?|stuck "slices.overlaps: no parameter types"
  let .slice elem <-underlying t|stuck "slices.overlaps: slice type expected"
  let size <-sizeOf elem
  match(some a:Option Addr),(some b:Option Addr)with
  |some a,some b=>
   if la=0\/lb=0\/size=0 then pure (Value.bool false)
   else if a.block !=b.block&&(<-frozen a)&&(<-frozen b)then unsupported .addressObserved
   else do
    if a.block !=b.block then do
     noView a;noView b
     if<-mayBeOne a b then return Value.bool ((<-choose (.extern "sameAddr.stringBytes" 2))==1)
    pure (Value.bool (a.block==b.block&&a.off<b.off+lb*size&&b.off<a.off+la*size))
  |_,_=>pure (Value.bool false)) w=_
 by_cases h0:la=0\/lb=0\/size=0
 ·simp[run_underlying ht,hz,h0]
 ·cases hfa:w.frozen? a<;>cases hfk:w.frozen? {block:=a.block,off:=kA+1}<;>
   simp[run_underlying ht,hz,h0,hnb,hnb',frozen,noView,viewAt,mayBeOne,stringish,shape,Sem.run,hsa,hsb,hfa,hfk,hfb,hfe]
def Zp(a:Addr):a.add 0=a:=by
 cases a with
 |mk b o s=>unfold Addr.add;split<;>simp_all
def GC(a:Addr)(n:Nat):(a.add n).block=a.block:=by unfold Addr.add;split<;>rfl
def rD{α:Type}(l:List α)(o:Nat)(c:List α):List α:=l.take o++c++l.drop (o+c.length)
def FN{α:Type}{l:List α}{o:Nat}{c:List α}(h:o+c.length<=l.length):(rD l o c).length=l.length:=by simp[rD];omega
def Wx{α:Type}{l us ys:List α}{a:Nat}(h:a+us.length+ys.length<=l.length):rD (rD l a us) (a+us.length) ys=l.take a++us++ys++l.drop (a+us.length+ys.length):=by
 have h1:(l.take a++us).length=a+us.length:=by simp;omega
 have h2:(rD l a us).take (a+us.length)=l.take a++us:=by
  rw[rD,List.take_append_of_le_length (by omega),List.take_of_length_le (by omega)]
 have h3:(rD l a us).drop (a+us.length+ys.length)=l.drop (a+us.length+ys.length):=by
  rw[rD,<-List.drop_drop,<-h1,List.drop_left,List.drop_drop,h1]
 rw[rD,h2,h3]
def Ur{α:Type}{l us ys:List α}{a:Nat}(h:a+us.length+ys.length<=l.length):rD (rD l (a+us.length) ys) a us=l.take a++us++ys++l.drop (a+us.length+ys.length):=by
 have h1:(l.take (a+us.length)).length=a+us.length:=by simp;omega
 have h2:(rD l (a+us.length) ys).take a=l.take a:=by
  rw[rD,QL,List.take_append_of_le_length (by omega),List.take_take,Nat.min_eq_left (by omega)]
 have h3:(rD l (a+us.length) ys).drop (a+us.length)=ys++l.drop (a+us.length+ys.length):=by
  conv=>lhs;rw[rD,QL]
  exact List.drop_left' h1
 rw[rD,h2,h3,QL,QL,QL]
def wB(w:World)(g:Nat)(cs:Array Value){b:Nat}(h:b≠g):(w.setRow g cs).heap[b]?=w.heap[b]?:=by
 simp only[World.setRow,Array.getElem?_modify];rw[Qs (λe=>h e.symm)]
def Pb(w:World)(g:Nat)(cs:Array Value):Fr (some g) w (w.setRow g cs):=⟨rfl,rfl,rfl,by simp[World.setRow],λb _ hb=>wB w g cs (λe=>hb (by rw[e])),DL.refl _⟩
def Fr.agd(w:World)(rb:Option Nat):Fr rb w w.drew:=⟨rfl,rfl,rfl,QI _,λ_ _ _=>rfl,DL.of (Nat.le_succ _)⟩
def Fr.trans'{rb:Option Nat}{a b c:World}(h:Fr rb a b)(k:Fr rb b c):Fr rb a c:=⟨k.os.trans h.os,k.tape.trans h.tape,k.output.trans h.output,QK h.size k.size,λi hi hne=>(k.block i (QJ hi h.size) hne).trans (h.block i hi hne),h.drawn.trans k.drawn⟩
def Kz{w w':World}{v u:Value}{X:Nat->Prop}(hf:Fr (bY v) w w')(hu:∀b,bY u=some b->bY v=some b\/w.heap.size<=b):cI w w' (Mv v X) (Mv u X):=by
 have key:∀b,b<w.heap.size->¬Mv v X b->w'.heap[b]?=w.heap[b]?/\¬Mv u X b:=λb hlt hM=>⟨hf.block b hlt λh=>hM (.inl h),by
  rintro(h|h)
  ·rcases hu _ h with h|h
   ·exact hM (.inl h)
   ·omega
  ·exact hM (.inr h)⟩
 refine⟨λa x hc hM=> ?_,λb es ck hb hM=> ?_⟩
 ·have hlt:a.block<w.heap.size:=by
   by_cases h:a.block<w.heap.size
   ·exact h
   ·have:w.heap[a.block]?=none:=by rw[Array.getElem?_eq_none_iff];omega
    simp[World.cell?,this]at hc
  obtain⟨h1,h2⟩:=key _ hlt hM;exact⟨(World.cell?_of_block h1).trans hc,h2⟩
 ·obtain⟨h1,h2⟩:=key b (Q9.1 hb).1 hM;exact⟨h1.trans hb,h2⟩
def Sa{w:World}{M:Nat->Prop}{es:List (List PV)}{xs:List Value}(h:bo w M dQ es.flatten xs)(h1:∀u∈es,u.all PV.one=true):∀x∈xs,x.oneCell'=true:=by
 intro x hx;obtain⟨q,hq,rfl⟩:=List.mem_iff_getElem.1 hx;have hl:q<es.flatten.length:=by rw[<-h.1];exact hq
 obtain⟨el,hel,hmem⟩:=List.mem_flatten.1 (Q0 hl);exact((h.2 q _ _ (Qv hl) (Qv hq)).one (QH.1 (h1 el hel) _ hmem)).1
structure InsA (n c i m:Nat):Prop where
 z1:¬((m:Int)=0)
 z2:¬((i:Int)=(n:Int))
 w1:IntKind.i64.wrap ((i:Int)+(m:Int))=(i:Int)+(m:Int)
 b1:(0:Int)<=(i:Int)+(m:Int)
 tn:((i:Int)+(m:Int)).toNat=i+m
 b3:(i:Int)<=(n:Int)+(m:Int)
 b4:¬(c=i)
 b5:(i:Int)<=(n:Int)
def InsA.of{n c i m:Nat}(hi:i<n)(hc:n<=c)(hc63:c<=9223372036854775807)(hm:0<m)(h:n+m<=9223372036854775807):InsA n c i m:=
 ⟨by omega,by omega,by rw[IntKind.wrap_i64];omega,by omega,by omega,by omega,by omega,by omega⟩
structure OW (P:Program) (f S E I B ov k bytes:Nat):Prop where
 ag8:0<k
 hS:P.underlying S=some (.slice E)
 hI:P.underlying I=some (.int .i64)
 ag9:∃(i:TypeInfo) (z:Value),P.info? E=some i/\i.zero=some z/\z.cells.size=k/\i.size=k/\i.bytes=bytes
 FQ:∀(x:Array Value) (w:World),(Extern.SlicesOverlaps.overlaps #[S,S] #[B] x).run P w= .ok (.bool false) w->(callFunc ov x).run P w= .ok (.value (.bool false)) w
 Yv:∀(g n c i:Nat),i<=n->n<=c->c<=9223372036854775807->∀(u:Option Addr) (vc:Nat) (w:World),
  Calls P f #[.slice (some ⟨g,0,none⟩) n c,.int .i64 i,.slice u 0 vc] w λe w'=>e= .returned (.slice (some ⟨g,0,none⟩) n c)/\w'=w
 aai:∀(u:Option Addr) (vc:Nat) (w:World),Calls P f #[.slice none 0 0,.int .i64 0,.slice u 0 vc] w λe w'=>e= .returned (.slice none 0 0)/\w'=w
 afd:∀(g n c:Nat),n<=c->c<=9223372036854775807->∀(ad:Addr) (m vc:Nat),0<m->∀(w w1:World) (v1:Value),
  (∀ty,(Builtin.append_ #[S,S] ty #[.slice (some ⟨g,0,none⟩) n c,.slice (some ad) m vc]).run P w= .ok v1 w1)->
  Calls P f #[.slice (some ⟨g,0,none⟩) n c,.int .i64 n,.slice (some ad) m vc] w λe w'=>e= .returned v1/\w'=w1
 Xw:∀(ad:Addr) (m vc:Nat),0<m->∀(w w1:World) (v1:Value),
  (∀ty,(Builtin.append_ #[S,S] ty #[.slice none 0 0,.slice (some ad) m vc]).run P w= .ok v1 w1)->
  Calls P f #[.slice none 0 0,.int .i64 0,.slice (some ad) m vc] w λe w'=>e= .returned v1/\w'=w1
 shift:∀(g n c i:Nat),i<n->c<=9223372036854775807->∀(ad:Addr) (m vc:Nat),0<m->n+m<=c->InsA n c i m->¬(c=i+m)->∀(w w1 w2:World),
  (∀lb cb,(callFunc ov #[.slice (some ad) m vc,.slice (some ⟨g,(i+m)*k,none⟩) lb cb]).run P w= .ok (.value (.bool false)) w)->
  (∀ty dc sc,(Builtin.copy_ #[S,S] ty #[.slice (some ⟨g,(i+m)*k,none⟩) (n+m - (i+m)) dc,.slice (some ⟨g,i*k,none⟩) (n+m - i) sc]).run P w.drew= .ok (goInt (n - i:Nat)) w1)->
  (∀ty dc,(Builtin.copy_ #[S,S] ty #[.slice (some ⟨g,i*k,none⟩) (n+m - i) dc,.slice (some ad) m vc]).run P w1= .ok (goInt m) w2)->
  Calls P f #[.slice (some ⟨g,0,none⟩) n c,.int .i64 i,.slice (some ad) m vc] w λe w'=>e= .returned (.slice (some ⟨g,0,none⟩) (n+m) c)/\w'=w2
 grow:∀(g n c i:Nat),i<n->n<=c->c<=9223372036854775807->∀(ad:Addr) (m vc:Nat),0<m->c<n+m->∀(N G:Nat),n+m<=G->G<=9223372036854775807->InsA n c i m->(c:Int)<(n:Int)+(m:Int)->¬(G=i)->¬(G=i+m)->∀(w w1 w2 w3:World),
  (∀ty,(Builtin.append_ #[S,I] ty #[.slice (some ⟨g,0,none⟩) i c,.int .i64 ((n:Int)+(m:Int) - (i:Int))]).run P w= .ok (.slice (some ⟨N,0,none⟩) (n+m) G) w1)->
  (∀ty dc,(Builtin.copy_ #[S,S] ty #[.slice (some ⟨N,i*k,none⟩) (n+m - i) dc,.slice (some ad) m vc]).run P w1= .ok (goInt m) w2)->
  (∀ty dc sc,(Builtin.copy_ #[S,S] ty #[.slice (some ⟨N,(i+m)*k,none⟩) (n+m - (i+m)) dc,.slice (some ⟨g,i*k,none⟩) (n - i) sc]).run P w2.drew= .ok (goInt (n - i:Nat)) w3)->
  Calls P f #[.slice (some ⟨g,0,none⟩) n c,.int .i64 i,.slice (some ad) m vc] w λe w'=>e= .returned (.slice (some ⟨N,0,none⟩) (n+m) G)/\w'=w3
def Ja{P:Program}{E k bytes:Nat}(h:(P.info? E).map (λi=>(i.zero.map (·.cells.size),i.size,i.bytes))=some (some k,k,bytes)):∃(i:TypeInfo) (z:Value),P.info? E=some i/\i.zero=some z/\z.cells.size=k/\i.size=k/\i.bytes=bytes:=by
 rw[Qb]at h;obtain⟨i,h1,h2⟩:=h;injection h2 with h2 h3
 injection h3 with h3 h4
 rw[Qb]at h2;obtain⟨z,h5,h6⟩:=h2;exact⟨i,z,h1,h5,h6,h3,h4⟩
def ac4{P:Program}{f S E I B ov k bytes:Nat}(H:OW P f S E I B ov k bytes){es vs:List (List PV)}{i:Nat}(hi:i<=es.length)(h1e:∀u∈es,u.all PV.one=true)(hvs:∀u∈vs,u.length=k/\u.all PV.one=true)
  (hmax:es.length+vs.length<=maxLen) (hby:(es.length+vs.length)*bytes<=140737488355328):LC P f E k es [.int .i64 i,.sl vs] (es.take i++vs++es.drop i):=by
 have hk0:=H.ag8;intro w X hX v args hvX ⟨xs,hown,hke,hr⟩ hargs;obtain⟨a1,args,rfl,ha1,hargs⟩:=hargs.cons_inv;obtain⟨a2,args,rfl,ha2,hargs⟩:=hargs.cons_inv;obtain rfl:=hargs.rF;obtain rfl:=ha1.jh;obtain⟨inf,z,hi1,hi2,hi3,hi4,hi5⟩:=H.ag9;have hsz:(P.info? E).map (·.size)=some k:=by rw[hi1];simp[hi4]
 have hmem:∀u∈es.take i++vs++es.drop i,u.length=k:=by
  intro u hu;rw[Qz,Qz]at hu;rcases hu with(hu|hu)|hu
  ·exact hke u (Q1 hu)
  ·exact(hvs u hu).1
  ·exact hke u (Q2 hu)
 have same:vs=[]->es.take i++vs++es.drop i=es:=λh=>by rw[h];simp
 by_cases hm0:vs=[]
 ·rw[same hm0]
  have hz:∃u vc,a2= .slice u 0 vc:=by
   subst hm0;rcases ha2.EK with⟨h,_⟩|⟨ad,c,_,_,h,_⟩
   ·exact⟨_,_,h⟩
   ·exact⟨_,_,h⟩
  obtain⟨u,vc,rfl⟩:=hz
  have post:∀(e:Ending) (w':World),e= .returned v/\w'=w->∃u,e= .returned u/\yO w' (Mv u X) E k u es/\(∀b,bY u=some b->bY v=some b\/w.heap.size<=b)/\Fr (bY v) w w':=by
   rintro e w' ⟨rfl,rfl⟩;exact⟨v,rfl,⟨xs,hown,hke,hr⟩,λb hb=> .inl hb,Fr.refl _ _⟩
  rcases hown.2 with⟨rfl,h0⟩|⟨g,cap,cur,rfl,_,hg,hnc,hcm,hcs,htk⟩
  ·obtain rfl:i=0:=by omega
   exact(H.aai u vc w).mono λe w' h=>post e w' h
  ·exact(H.Yv g es.length cap i hi hnc (by simp only[maxLen]at hcm;omega) u vc w).mono λe w' h=>post e w' h
 ·
  have hm:0<vs.length:=List.length_pos_iff.2 hm0;rcases ha2.EK with⟨_,h⟩|⟨ad,vc,k',us,rfl,hk',hru,hcu,_,_⟩
  ·exact absurd h hm0
  have hul:us.length=vs.length*k:=by rw[hru.1,mj vs k λu hu=>(hvs u hu).1]
  have hone:=Sa hru λu hu=>(hvs u hu).2
  have hpos:0<us.length:=by rw[hul];exact Nat.mul_pos hm hk0
  obtain⟨c0,hc0⟩:∃c0,us[0]?=some c0:=⟨_,Qv hpos⟩;obtain⟨had,hadM⟩:=hcu 0 c0 hc0;have had:w.cell? ad=some c0:=by rw[Zp]at had;exact had
  have hcell:∀(j:Nat) (u:Value),us[j]?=some u->w.cell? (ad.add j)=some u:=λj u hj=>(hcu j u hj).1
  have hadlt:ad.block<w.heap.size:=by
   by_cases h:ad.block<w.heap.size
   ·exact h
   ·have:w.heap[ad.block]?=none:=by rw[Array.getElem?_eq_none_iff];omega
    simp[World.cell?,this]at had
  have fin:∀(v1:Value) (w1:World),w1.ownsRow 0 E k v1 (es.length+vs.length) (xs++us)->w.grownBy w1 v.ownBlock->(v1.ownBlock=v.ownBlock\/v1.ownBlock=some w.heap.size)->(∃a n c,v= .slice a n c)->i=es.length->w.drawn<=w1.drawn->
    ∀(e:Ending) (w':World),e= .returned v1/\w'=w1->∃u,e= .returned u/\yO w' (Mv u X) E k u (es.take i++vs++es.drop i)/\(∀b,bY u=some b->bY v=some b\/w.heap.size<=b)/\Fr (bY v) w w':=by
   rintro v1 w1 ho hgr hat ⟨a0,n0,c0,hv0⟩ hie hdr e w' ⟨rfl,rfl⟩;have hb0:v.ownBlock=bY v:=mz hv0
   have hb1:v1.ownBlock=bY v1:=by
    rcases ho.2 with⟨h,_⟩|⟨_,_,_,h,_⟩
    ·exact mz h
    ·exact mz h
   have hfr:Fr (bY v) w w':=⟨hgr.os,hgr.tape,hgr.output,hgr.size,λb hb hne=>hgr.block b hb (λh=>hne (by rw[<-hb0,<-h])),DL.of hdr⟩
   have hub:∀b,bY v1=some b->bY v=some b\/w.heap.size<=b:=λb hb=>by
    rw[<-hb1]at hb;rcases hat with h|h
    ·exact .inl (by rw[<-hb0,<-h];exact hb)
    ·rw[h]at hb;injection hb with hb;exact .inr (by omega)
   have he:es.take i++vs++es.drop i=es++vs:=by subst hie;simp
   rw[he]at hmem ⊢;refine⟨v1,rfl,⟨xs++us,by rw[QB];exact ho,hmem,?_⟩,hub,hfr⟩
   rw[List.flatten_append];exact(hr.append hru).mono (Kz hfr hub) (dQ.le _)
  rcases hown.2 with⟨rfl,h0⟩|⟨g,cap,cur,rfl,hb0,hg,hnc,hcm,hcs,htk⟩
  ·obtain rfl:i=0:=by omega
   obtain⟨v1,w1,r1,r2,r3,_,r5⟩:=run_append_own_at (P:=P) w 0 S 0 E inf z k bytes H.hS hi1 hi2 hi4 hi5 hi3 hk0 (.slice none 0 0) es.length xs hown ad vs.length vc us hul hcell hone hmax hby (QS _);exact(H.Xw ad vs.length vc hm w w1 v1 λty=>r1).mono λe w' h=>fin v1 w1 r2 r3 r5 ⟨_,_,_,rfl⟩ h0.symm (C4 (P:=P) w 0 S 0 E inf z k bytes H.hS hi1 hi2 hi4 hi5 hk0 (.slice none 0 0) es.length xs hown ad vs.length vc us hul hcell hone hmax hby r1) e w' h
  ·have hcm':cap<=9223372036854775807:=by simp only[maxLen]at hcm;omega
   by_cases hie:i=es.length
   ·obtain⟨v1,w1,r1,r2,r3,_,r5⟩:=run_append_own_at (P:=P) w 0 S 0 E inf z k bytes H.hS hi1 hi2 hi4 hi5 hi3 hk0 _ es.length xs hown ad vs.length vc us hul hcell hone hmax hby (QS _);have:=H.afd g es.length cap hnc hcm' ad vs.length vc hm w w1 v1 λty=>r1
    rw[<-hie]at this ⊢;exact this.mono λe w' h=>fin v1 w1 r2 r3 r5 ⟨_,_,_,rfl⟩ hie (C4 (P:=P) w 0 S 0 E inf z k bytes H.hS hi1 hi2 hi4 hi5 hk0 _ es.length xs hown ad vs.length vc us hul hcell hone hmax hby r1) e w' h
   ·have hin:i<es.length:=by omega
    have hM:∀b,Mv (.slice (some ⟨g,0,none⟩) es.length cap) X b->True:=λ_ _=>trivial
    have hne:ad.block≠g:=λh=>hadM (.inl (by rw[h];rfl))
    have hglt:g<w.heap.size:=(Q9.1 hg).1;have hxl:xs.length=es.length*k:=hown.1;have hcl:es.length*k<=cur.toList.length:=by simpa[hcs]using Qq63 k hnc
    have hx1:=Sa hr h1e;obtain⟨ys,hys⟩:∃ys,ys=xs.drop (i*k):=⟨_,rfl⟩;have hyl:ys.length=(es.length - i)*k:=by rw[hys,List.length_drop,hxl,Nat.sub_mul]
    have hy1:∀y∈ys,y.oneCell'=true:=λy hy=>hx1 y (Q2 (hys▸hy))
    have hcx:∀(j:Nat) (u:Value),xs[j]?=some u->w.cell? ⟨g,j,none⟩=some u:=λj u hj=>by
     refine qn hg ?_;rw[<-htk,Qq68]at hj;split at hj
     ·exact hj
     ·cases hj
    have hcy:∀(j:Nat) (u:Value),ys[j]?=some u->w.cell? ((⟨g,i*k,none⟩:Addr).add j)=some u:=λj u hj=>by
     rw[add_mid];rw[hys,List.getElem?_drop]at hj;exact hcx _ u hj
    have hik:i*k+us.length=(i+vs.length)*k:=by rw[hul,Qq73]
    have htot:i*k+us.length+ys.length=(es.length+vs.length)*k:=by
     rw[hul,hyl,<-Qq73,<-Qq73];congr 1;omega
    have hres:bo w (Mv (.slice (some ⟨g,0,none⟩) es.length cap) X) dQ (es.take i++vs++es.drop i).flatten (xs.take (i*k)++us++ys):=by
     rw[List.flatten_append,List.flatten_append,uJ k i es hke,yJ k i es hke,hys];exact((hr.take _).append hru).append (hr.drop _)
    have hlen:(es.take i++vs++es.drop i).length=es.length+vs.length:=by simp;omega
    have htl:(xs.take (i*k)++us++ys).length=(es.length+vs.length)*k:=by
     rw[QB,QB,List.length_take,hxl,Nat.min_eq_left (Qq63 k hi)];exact htot
    by_cases hroom:es.length+vs.length<=cap
    ·
     have hfit:(es.length+vs.length)*k<=cur.toList.length:=by simpa[hcs]using Qq63 k hroom
     have r1:=wW (P:=P) w.drew S S 0 E g ((i+vs.length)*k) (es.length+vs.length - (i+vs.length)) 0 ⟨g,i*k,none⟩ (es.length+vs.length - i) 0 cur E ys k (es.length - i) H.hS hsz hg
      (by simp only[Nat.min_def];split<;>omega) hyl hcy (by simp only[Array.length_toList]at hfit;omega) hy1
     obtain⟨cur1,hcur1⟩:∃cur1:Array Value,cur1=(rD cur.toList ((i+vs.length)*k) ys).toArray:=⟨_,rfl⟩;have hg1:(w.drew.setRow g cur1).heap[g]?=some (.cells cur1 E (0,0)):=setRow_heap w.drew g cur _ E _ hg
     have hl1:cur1.size=cap*k:=by
      rw[hcur1,List.size_toArray,FN (by rw[<-hik];omega),Array.length_toList,hcs]
     have r2:=wW (P:=P) (w.drew.setRow g cur1) S S 0 E g (i*k) (es.length+vs.length - i) 0 ad vs.length vc cur1 E us k vs.length H.hS hsz hg1
      (by simp only[Nat.min_def];split<;>omega) hul (λj u hj=>by rw[World.cell?_of_block (w:=w) (wB w.drew g cur1 (by rw[GC];exact hne))];exact hcell j u hj)
      (by rw[hl1,<-hcs,<-Array.length_toList];omega) hone
     obtain⟨cur2,hcur2⟩:∃cur2:Array Value,cur2=(rD cur1.toList (i*k) us).toArray:=⟨_,rfl⟩;have hg2:((w.drew.setRow g cur1).setRow g cur2).heap[g]?=some (.cells cur2 E (0,0)):=setRow_heap _ g cur1 _ E _ hg1
     have hc2:cur2.toList=xs.take (i*k)++us++ys++cur.toList.drop ((es.length+vs.length)*k):=by
      rw[hcur2,hcur1,<-hik,Ur (by omega),htot,<-htk,List.take_take,Nat.min_eq_left (Qq63 k hi)]
     have hC:cur.toList.length=cap*k:=(Array.length_toList (xs:=cur)).trans hcs;have hL1:cur1.toList.length=cap*k:=(Array.length_toList (xs:=cur1)).trans hl1;have hfr:Fr (some g) w ((w.drew.setRow g cur1).setRow g cur2):=(Fr.agd w _).trans' ((Pb _ g _).trans' (Pb _ g _))
     have hcap0:cur.size≠0:=by
      have:0<cap:=by omega
      rw[hcs];exact Nat.ne_of_gt (Nat.mul_pos this hk0)
     refine(H.shift g es.length cap i hin hcm' ad vs.length vc hm hroom (.of hin (by omega) hcm' hm (by omega)) (by omega) w (w.drew.setRow g cur1) ((w.drew.setRow g cur1).setRow g cur2) (λlb cb=> ?_) (λty dc sc=> ?_) (λty dc=> ?_)).mono ?_
     ·exact H.FQ _ w (KD w S B E H.hS k (λw'=>by simp[Go.sizeOf,typeInfo,hi1,hi4]) ad ⟨g,(i+vs.length)*k,none⟩ vs.length vc lb cb hne had hg hcap0)
     ·rw[hcur1];exact r1
     ·rw[hcur2];exact r2
     ·rintro e w' ⟨rfl,rfl⟩;refine⟨_,rfl,⟨xs.take (i*k)++us++ys,⟨?_,.inr ⟨g,cap,cur2,by rw[hlen],hb0,hg2,by rw[hlen];exact hroom,hcm,?_,?_⟩⟩,hmem,hres.mono (@Kz w _ (.slice (some ⟨g,0,none⟩) es.length cap) (.slice (some ⟨g,0,none⟩) (es.length+vs.length) cap) X hfr λb hb=> .inl hb) (dQ.le _)⟩,λb hb=> .inl hb,hfr⟩
      ·rw[htl,hlen]
      ·rw[hcur2,List.size_toArray,FN (by rw[hL1];omega),hL1]
      ·rw[hlen,hc2,<-htl,List.take_left' rfl]
    ·
     have hik2:i+(es.length+vs.length - i)=es.length+vs.length:=by omega
     have hold:(Builtin.firstCells inf.size i (.slice (some ⟨g,0,none⟩) i cap)).run P w.drew= .ok (xs.take (i*k)).toArray w.drew:=by
      rw[hi4];refine run_firstCells_some w.drew k i ⟨g,0,none⟩ i cap (xs.take (i*k)) (by rw[List.length_take,hxl];exact Nat.min_eq_left (Qq63 k hi)) λj u hj=> ?_
      rw[add_mid,Nat.zero_add];rw[Qq68]at hj;split at hj
      ·exact hcx j u hj
      ·cases hj
     have hmax':es.length+vs.length<=9223372036854775807:=by simp only[maxLen]at hmax;omega
     have r0:=λty=>Lib.run_append_grow_zeros (P:=P) w S I ty E inf z .i64 .i64 H.hS H.hI hi1 hi2 (some ⟨g,0,none⟩) i cap (xs.take (i*k)) hold (es.length+vs.length - i) (by omega) (by omega) (by omega) (by omega)
      (by rw[hi5];have:=Qq63 bytes (show es.length+vs.length - i<=es.length+vs.length by omega);omega) (by rw[hi5,hik2];exact growslice_fits (by omega) hby)
     rw[hik2]at r0;obtain⟨G,hG⟩:∃G,G=grownCap w (es.length+vs.length) cap E:=⟨_,rfl⟩;have hGn:es.length+vs.length<=G:=by rw[hG];exact grownCap_ge w _ _ _
     have hGm:G<=maxLen:=by rw[hG];exact grownCap_le_maxLen w _ _ _ hmax
     have hG63:G<=9223372036854775807:=by simp only[maxLen]at hGm;omega
     rw[<-hG]at r0;obtain⟨row,hrow⟩:∃row:Array Value,row=(xs.take (i*k)).toArray++Builtin.zeroCells z.cells (es.length+vs.length - i)++Builtin.zeroCells z.cells (G - (es.length+vs.length)):=⟨_,rfl⟩;rw[<-hrow]at r0;have hrt:(xs.take (i*k)).length=i*k:=by rw[List.length_take,hxl];exact Nat.min_eq_left (Qq63 k hi)
     have hrl:row.size=G*k:=by
      rw[hrow,Array.size_append,Array.size_append,List.size_toArray,hrt,size_zeroCells,size_zeroCells,hi3,<-Qq73,<-Qq73];congr 1;omega
     have hrtake:row.toList.take (i*k)=xs.take (i*k):=by
      rw[hrow,Array.toList_append,Array.toList_append,QL];exact List.take_left' hrt
     have hN:(w.drew.alloc (.cells row E)).heap[w.heap.size]?=some (.cells row E (0,0)):=by
      show(w.heap.push (.cells row E))[w.heap.size]?=_;simp
     have hkeep:∀b,b<w.heap.size->(w.drew.alloc (.cells row E)).heap[b]?=w.heap[b]?:=λb hb=>Below.heap_alloc w.drew _ b hb
     have hfit:(es.length+vs.length)*k<=row.size:=by rw[hrl];exact Qq63 k hGn
     have r1:=wW (P:=P) (w.drew.alloc (.cells row E)) S S 0 E w.heap.size (i*k) (es.length+vs.length - i) 0 ad vs.length vc row E us k vs.length H.hS hsz hN
      (by simp only[Nat.min_def];split<;>omega) hul (λj u hj=>by rw[World.cell?_of_block (w:=w) (hkeep _ (by rw[GC];exact hadlt))];exact hcell j u hj) (by omega) hone
     have hR:row.toList.length=G*k:=(Array.length_toList (xs:=row)).trans hrl;obtain⟨cur1,hcur1⟩:∃cur1:Array Value,cur1=(rD row.toList (i*k) us).toArray:=⟨_,rfl⟩;have hl1:cur1.size=G*k:=by rw[hcur1,List.size_toArray,FN (by rw[hR];omega),hR]
     have hL1:cur1.toList.length=G*k:=(Array.length_toList (xs:=cur1)).trans hl1;have hg1:((w.drew.alloc (.cells row E)).setRow w.heap.size cur1).drew.heap[w.heap.size]?=some (.cells cur1 E (0,0)):=setRow_heap _ _ row _ E _ hN
     have r2:=wW (P:=P) ((w.drew.alloc (.cells row E)).setRow w.heap.size cur1).drew S S 0 E w.heap.size ((i+vs.length)*k) (es.length+vs.length - (i+vs.length)) 0 ⟨g,i*k,none⟩ (es.length - i) 0 cur1 E ys k (es.length - i) H.hS hsz hg1
      (by simp only[Nat.min_def];split<;>omega) hyl (λj u hj=>by
       rw[World.cell?_of_block (w:=w) (w':=((w.drew.alloc (.cells row E)).setRow w.heap.size cur1).drew) (((wB _ w.heap.size cur1 (by rw[GC];exact Nat.ne_of_lt hglt)).trans (hkeep _ (by rw[GC];exact hglt))))]
       exact hcy j u hj) (by rw[hl1,<-hrl,<-hik];omega) hy1
     obtain⟨cur2,hcur2⟩:∃cur2:Array Value,cur2=(rD cur1.toList ((i+vs.length)*k) ys).toArray:=⟨_,rfl⟩;obtain⟨w3,hw3⟩:∃w3,w3=((w.drew.alloc (.cells row E)).setRow w.heap.size cur1).drew.setRow w.heap.size cur2:=⟨_,rfl⟩;have hg2:w3.heap[w.heap.size]?=some (.cells cur2 E (0,0)):=by rw[hw3];exact setRow_heap _ _ cur1 _ E _ hg1
     have hc2:cur2.toList=xs.take (i*k)++us++ys++row.toList.drop ((es.length+vs.length)*k):=by
      rw[hcur2,hcur1,<-hik,Wx (by rw[hR];omega),htot,hrtake]
     have hfr:Fr (some g) w w3:=by
      rw[hw3];refine⟨rfl,rfl,rfl,by simp[World.setRow],λb hb _=> ?_,DL.of (by show w.drawn<=w.drawn+1+1;omega)⟩
      rw[wB _ _ _ (Nat.ne_of_lt hb)];exact(wB _ w.heap.size cur1 (Nat.ne_of_lt hb)).trans (hkeep b hb)
     refine(H.grow g es.length cap i hin hnc hcm' ad vs.length vc hm (by omega) w.heap.size G hGn hG63 (.of hin hnc hcm' hm (by omega)) (by omega) (by omega) (by omega) w (w.drew.alloc (.cells row E)) ((w.drew.alloc (.cells row E)).setRow w.heap.size cur1) w3 (λty=> ?_) (λty dc=> ?_) (λty dc sc=> ?_)).mono ?_
     ·have:=r0 ty;rw[show((es.length+vs.length - i:Nat):Int)=(es.length:Int)+(vs.length:Int) - (i:Int)by omega]at this
      exact this
     ·rw[hcur1];exact r1
     ·rw[hw3,hcur2];exact r2
     ·rintro e w' ⟨rfl,rfl⟩
      have hub:∀b,bY (.slice (some ⟨w.heap.size,0,none⟩) (es.length+vs.length) G)=some b->bY (.slice (some ⟨g,0,none⟩) es.length cap)=some b\/w.heap.size<=b:=λb hb=>by
       injection hb with hb
       exact .inr (Nat.le_of_eq hb)
      refine⟨_,rfl,⟨xs.take (i*k)++us++ys,⟨?_,.inr ⟨w.heap.size,G,cur2,by rw[hlen],QS _,hg2,by rw[hlen];exact hGn,hGm,?_,?_⟩⟩,hmem,hres.mono (@Kz w _ (.slice (some ⟨g,0,none⟩) es.length cap) (.slice (some ⟨w.heap.size,0,none⟩) (es.length+vs.length) G) X hfr hub) (dQ.le _)⟩,hub,hfr⟩
      ·rw[htl,hlen]
      ·rw[hcur2,List.size_toArray,FN (by rw[hL1,<-hik];omega),hL1]
      ·rw[hlen,hc2,<-htl,List.take_left' rfl]
end
end Go.TQ
end
noncomputable section
namespace Go.Proofs.YtofedieniojipaaGreat
open Go.RowKit Go.TQ Go.Lib
namespace S6
set_option maxHeartbeats 8000000 in
set_option maxRecDepth 100000 in
def ways:OW Tryz.prog 106 28 56 3 4 174 37 496:=by
 have zE:∀w:World,(Go.sizeOf 56).run Tryz.prog w= .ok 37 w:=λ_=>by kernel_rfl
 have uS:=run_underlying Tryz.underlying28;have mixed:Tryz.prog.follows .mixedOrders=true:=by kernel_rfl
 refine⟨by decide,Tryz.underlying28,Tryz.underlying3,Ja (by kernel_rfl),λx w h=> ?_,λg n c i hi hc hc63 u vc w=> ?_,λu vc w=> ?_,λg n c hc hc63 ad m vc hm w w1 v1 hr=> ?_,λad m vc hm w w1 v1 hr=> ?_,λg n c i hi hc63 ad m vc hm hroom ⟨hz1,hz2,hw1,hb1,htn,hb3,hb4,hin⟩ hb2 w w1 w2 hov h1 h2=> ?_,λg n c i hi hc hc63 ad m vc hm hroom N G hGn hG63 ⟨hz1,hz2,hw1,hb1,htn,_,hci,hb3⟩ hz3 hGi hGim w w1 w2 w3 hz h1 h2=> ?_⟩
 ·rw[run_callFunc_extern Tryz.func174 (by kernel_rfl) (by kernel_rfl) (by kernel_rfl) (e:=Extern.SlicesOverlaps.overlaps #[28,28] #[4]) (by kernel_rfl),h]
  rfl
 rotate_left 4
 ·go_enter Tryz.func106,Tryz.ntmps106
  go_wp2_with (simp only[hov])
  go_region_law_o (refine step_copy_runI rfl _ _ 28 28 rfl _ _ (by simp[Act.eval,Act.put]) (by simp[Act.eval,Act.put]) (h1 _ _ _) ?_)
  go_wp2_with (at_builtin;refine wpList_copy_runI _ rfl _ _ 28 28 rfl _ _ rfl rfl (h2 _ _) ?_)
  go_ret
  exact⟨rfl,rfl⟩
 ·have hin:=hb3
  go_enter Tryz.func106,Tryz.ntmps106
  go_wp2_with (first
   |(at_builtin;refine Lib.wpList_append_run _ rfl _ _ _ _ rfl _ _ rfl rfl _ _ (hz _) ?_)
   |(at_builtin;refine wpList_copy_runI _ rfl _ _ 28 28 rfl _ _ rfl rfl (h1 _ _) ?_))
  go_region_law_o (refine step_copy_runI rfl _ _ 28 28 rfl (.slice (some ⟨N,(i+m)*37,none⟩) (n+m - (i+m)) (G - (i+m))) (.slice (some ⟨g,i*37,none⟩) (n - i) (c - i)) (by simp[Act.eval,Act.put]) (by simp[Act.eval,Act.put]) (h2 3 (G - (i+m)) (c - i)) ?_)
  go_wp2
  go_ret
  exact⟨rfl,rfl⟩
 all_goals
  try have hz1:¬((m:Int)=0):=by omega
  go_enter Tryz.func106,Tryz.ntmps106
  go_wp2_with (at_builtin;refine Lib.wpList_append_run _ rfl _ _ _ _ rfl _ _ rfl rfl _ _ (hr _) ?_)
  all_goals go_ret
  all_goals exact⟨rfl,rfl⟩
def enters:Go.TQ.Enters Tryz.prog 106:=⟨Tryz.f106,Tryz.func106,by kernel_rfl,by kernel_rfl⟩
end S6
end Go.Proofs.YtofedieniojipaaGreat
end
noncomputable section
namespace Go.TQ
def Bf{α:Type}(bytes:Nat)(s:List α)(i:Int)(v:List α):Option (List α):=bif decide (0<=i)&&decide (i<=((s.length:Nat):Int))&&bl bytes (s.length+v.length)then some (s.take i.toNat++v++s.drop i.toNat)else none
def dL{P:Program}{f S E I B ov k bytes:Nat}(H:OW P f S E I B ov k bytes)(hent:Enters P f){T:Ty}(hk:∀x:T.den,(T.pv x).length=k):
  dK.Sound P (U:=U) (.cw f E k T [.ty (Ty.i .i64),.ty (Ty.sl T)] λs a=>Bf bytes s a.1 a.2.1):=by
 refine⟨hent,λxs a ys h=> ?_⟩
 suffices key:∀(i:Int) (v:List T.den) (ys:List T.den),Bf bytes xs i v=some ys->LC P f E k (xs.map T.pv) [.int .i64 i,.sl (v.map T.pv)] (ys.map T.pv)from key a.1 a.2.1 ys h
 clear h;intro i v ys h;unfold Bf at h
 cases hc:(decide (0<=i)&&decide (i<=((xs.length:Nat):Int))&&bl bytes (xs.length+v.length))with
 |false=>rw[hc]at h;cases h
 |true=>
  rw[hc]at h;injection h with h
  subst h;simp only[Qm,Qi]at hc;obtain⟨⟨h0,h1⟩,h2⟩:=hc;obtain⟨h3,h4⟩:=BP h2;have hone:∀x:T.den,(T.pv x).all PV.one=true:=λx=>QH.2 λy hy=>Td (K.gR T x y hy)
  have:=ac4 H (es:=xs.map T.pv) (vs:=v.map T.pv) (i:=i.toNat) (by rw[QC];omega)
   (λu hu=>by obtain⟨x,_,rfl⟩:=QP.1 hu;exact hone x) (λu hu=>by obtain⟨x,_,rfl⟩:=QP.1 hu;exact⟨hk x,hone x⟩)
   (by rw[QC,QC];exact h4) (by rw[QC,QC];exact h3)
  rw[<-List.map_take,<-List.map_drop,<-List.map_append,<-List.map_append,show((i.toNat:Nat):Int)=i by omega]at this
  exact this
end Go.TQ
end
noncomputable section
namespace Go.Proofs.YtofedieniojipaaGreat
open Go.RowKit Go.TQ Go.Lib
namespace SZ
set_option maxHeartbeats 8000000 in
set_option maxRecDepth 100000 in
def ways:OW Tryz.prog 164 47 34 3 4 223 7 120:=by
 have zE:∀w:World,(Go.sizeOf 34).run Tryz.prog w= .ok 7 w:=λ_=>by kernel_rfl
 have uS:=run_underlying Tryz.underlying47;have mixed:Tryz.prog.follows .mixedOrders=true:=by kernel_rfl
 refine⟨by decide,Tryz.underlying47,Tryz.underlying3,Ja (by kernel_rfl),λx w h=> ?_,λg n c i hi hc hc63 u vc w=> ?_,λu vc w=> ?_,λg n c hc hc63 ad m vc hm w w1 v1 hr=> ?_,λad m vc hm w w1 v1 hr=> ?_,λg n c i hi hc63 ad m vc hm hroom ⟨hz1,hz2,hw1,hb1,htn,hb3,hb4,hin⟩ hb2 w w1 w2 hov h1 h2=> ?_,λg n c i hi hc hc63 ad m vc hm hroom N G hGn hG63 ⟨hz1,hz2,hw1,hb1,htn,_,hci,hb3⟩ hz3 hGi hGim w w1 w2 w3 hz h1 h2=> ?_⟩
 ·rw[run_callFunc_extern Tryz.func223 (by kernel_rfl) (by kernel_rfl) (by kernel_rfl) (e:=Extern.SlicesOverlaps.overlaps #[47,47] #[4]) (by kernel_rfl),h]
  rfl
 rotate_left 4
 ·go_enter Tryz.func164,Tryz.ntmps164
  go_wp2_with (simp only[hov])
  go_region_law_o (refine step_copy_runI rfl _ _ 47 47 rfl _ _ (by simp[Act.eval,Act.put]) (by simp[Act.eval,Act.put]) (h1 _ _ _) ?_)
  go_wp2_with (at_builtin;refine wpList_copy_runI _ rfl _ _ 47 47 rfl _ _ rfl rfl (h2 _ _) ?_)
  go_ret
  exact⟨rfl,rfl⟩
 ·have hin:=hb3
  go_enter Tryz.func164,Tryz.ntmps164
  go_wp2_with (first
   |(at_builtin;refine Lib.wpList_append_run _ rfl _ _ _ _ rfl _ _ rfl rfl _ _ (hz _) ?_)
   |(at_builtin;refine wpList_copy_runI _ rfl _ _ 47 47 rfl _ _ rfl rfl (h1 _ _) ?_))
  go_region_law_o (refine step_copy_runI rfl _ _ 47 47 rfl (.slice (some ⟨N,(i+m)*7,none⟩) (n+m - (i+m)) (G - (i+m))) (.slice (some ⟨g,i*7,none⟩) (n - i) (c - i)) (by simp[Act.eval,Act.put]) (by simp[Act.eval,Act.put]) (h2 3 (G - (i+m)) (c - i)) ?_)
  go_wp2
  go_ret
  exact⟨rfl,rfl⟩
 all_goals
  try have hz1:¬((m:Int)=0):=by omega
  go_enter Tryz.func164,Tryz.ntmps164
  go_wp2_with (at_builtin;refine Lib.wpList_append_run _ rfl _ _ _ _ rfl _ _ rfl rfl _ _ (hr _) ?_)
  all_goals go_ret
  all_goals exact⟨rfl,rfl⟩
def enters:Go.TQ.Enters Tryz.prog 164:=⟨Tryz.f164,Tryz.func164,by kernel_rfl,by kernel_rfl⟩
end SZ
end Go.Proofs.YtofedieniojipaaGreat
namespace Go.Proofs.YtofedieniojipaaGreat
open Go.RowKit Go.TQ Go.Lib
namespace SY
set_option maxHeartbeats 8000000 in
set_option maxRecDepth 100000 in
def ways:OW Tryz.prog 236 50 38 3 4 282 15 176:=by
 have zE:∀w:World,(Go.sizeOf 38).run Tryz.prog w= .ok 15 w:=λ_=>by kernel_rfl
 have uS:=run_underlying Tryz.underlying50;have mixed:Tryz.prog.follows .mixedOrders=true:=by kernel_rfl
 refine⟨by decide,Tryz.underlying50,Tryz.underlying3,Ja (by kernel_rfl),λx w h=> ?_,λg n c i hi hc hc63 u vc w=> ?_,λu vc w=> ?_,λg n c hc hc63 ad m vc hm w w1 v1 hr=> ?_,λad m vc hm w w1 v1 hr=> ?_,λg n c i hi hc63 ad m vc hm hroom ⟨hz1,hz2,hw1,hb1,htn,hb3,hb4,hin⟩ hb2 w w1 w2 hov h1 h2=> ?_,λg n c i hi hc hc63 ad m vc hm hroom N G hGn hG63 ⟨hz1,hz2,hw1,hb1,htn,_,hci,hb3⟩ hz3 hGi hGim w w1 w2 w3 hz h1 h2=> ?_⟩
 ·rw[run_callFunc_extern Tryz.func282 (by kernel_rfl) (by kernel_rfl) (by kernel_rfl) (e:=Extern.SlicesOverlaps.overlaps #[50,50] #[4]) (by kernel_rfl),h]
  rfl
 rotate_left 4
 ·go_enter Tryz.func236,Tryz.ntmps236
  go_wp2_with (simp only[hov])
  go_region_law_o (refine step_copy_runI rfl _ _ 50 50 rfl _ _ (by simp[Act.eval,Act.put]) (by simp[Act.eval,Act.put]) (h1 _ _ _) ?_)
  go_wp2_with (at_builtin;refine wpList_copy_runI _ rfl _ _ 50 50 rfl _ _ rfl rfl (h2 _ _) ?_)
  go_ret
  exact⟨rfl,rfl⟩
 ·have hin:=hb3
  go_enter Tryz.func236,Tryz.ntmps236
  go_wp2_with (first
   |(at_builtin;refine Lib.wpList_append_run _ rfl _ _ _ _ rfl _ _ rfl rfl _ _ (hz _) ?_)
   |(at_builtin;refine wpList_copy_runI _ rfl _ _ 50 50 rfl _ _ rfl rfl (h1 _ _) ?_))
  go_region_law_o (refine step_copy_runI rfl _ _ 50 50 rfl (.slice (some ⟨N,(i+m)*15,none⟩) (n+m - (i+m)) (G - (i+m))) (.slice (some ⟨g,i*15,none⟩) (n - i) (c - i)) (by simp[Act.eval,Act.put]) (by simp[Act.eval,Act.put]) (h2 3 (G - (i+m)) (c - i)) ?_)
  go_wp2
  go_ret
  exact⟨rfl,rfl⟩
 all_goals
  try have hz1:¬((m:Int)=0):=by omega
  go_enter Tryz.func236,Tryz.ntmps236
  go_wp2_with (at_builtin;refine Lib.wpList_append_run _ rfl _ _ _ _ rfl _ _ rfl rfl _ _ (hr _) ?_)
  all_goals go_ret
  all_goals exact⟨rfl,rfl⟩
def enters:Go.TQ.Enters Tryz.prog 236:=⟨Tryz.f236,Tryz.func236,by kernel_rfl,by kernel_rfl⟩
end SY
end Go.Proofs.YtofedieniojipaaGreat
namespace Go.Proofs.YtofedieniojipaaGreat
open Go.RowKit Go.TQ Go.Lib
namespace SX
set_option maxHeartbeats 8000000 in
set_option maxRecDepth 100000 in
def ways:OW Tryz.prog 313 32 9 3 4 348 1 16:=by
 have zE:∀w:World,(Go.sizeOf 9).run Tryz.prog w= .ok 1 w:=λ_=>by kernel_rfl
 have uS:=run_underlying Tryz.underlying32;have mixed:Tryz.prog.follows .mixedOrders=true:=by kernel_rfl
 refine⟨by decide,Tryz.underlying32,Tryz.underlying3,Ja (by kernel_rfl),λx w h=> ?_,λg n c i hi hc hc63 u vc w=> ?_,λu vc w=> ?_,λg n c hc hc63 ad m vc hm w w1 v1 hr=> ?_,λad m vc hm w w1 v1 hr=> ?_,λg n c i hi hc63 ad m vc hm hroom ⟨hz1,hz2,hw1,hb1,htn,hb3,hb4,hin⟩ hb2 w w1 w2 hov h1 h2=> ?_,λg n c i hi hc hc63 ad m vc hm hroom N G hGn hG63 ⟨hz1,hz2,hw1,hb1,htn,_,hci,hb3⟩ hz3 hGi hGim w w1 w2 w3 hz h1 h2=> ?_⟩
 ·rw[run_callFunc_extern Tryz.func348 (by kernel_rfl) (by kernel_rfl) (by kernel_rfl) (e:=Extern.SlicesOverlaps.overlaps #[32,32] #[4]) (by kernel_rfl),h]
  rfl
 rotate_left 4
 simp only[Nat.mul_one]at hov h1 h2
 ·go_enter Tryz.func313,Tryz.ntmps313
  go_wp2_with (simp only[hov])
  go_region_law_o (refine step_copy_runI rfl _ _ 32 32 rfl _ _ (by simp[Act.eval,Act.put]) (by simp[Act.eval,Act.put]) (h1 _ _ _) ?_)
  go_wp2_with (at_builtin;refine wpList_copy_runI _ rfl _ _ 32 32 rfl _ _ rfl rfl (h2 _ _) ?_)
  go_ret
  exact⟨rfl,rfl⟩
 simp only[Nat.mul_one]at h1 h2
 ·have hin:=hb3
  go_enter Tryz.func313,Tryz.ntmps313
  go_wp2_with (first
   |(at_builtin;refine Lib.wpList_append_run _ rfl _ _ _ _ rfl _ _ rfl rfl _ _ (hz _) ?_)
   |(at_builtin;refine wpList_copy_runI _ rfl _ _ 32 32 rfl _ _ rfl rfl (h1 _ _) ?_))
  go_region_law_o (refine step_copy_runI rfl _ _ 32 32 rfl (.slice (some ⟨N,i+m,none⟩) (n+m - (i+m)) (G - (i+m))) (.slice (some ⟨g,i,none⟩) (n - i) (c - i)) (by simp[Act.eval,Act.put]) (by simp[Act.eval,Act.put]) (h2 3 (G - (i+m)) (c - i)) ?_)
  go_wp2
  go_ret
  exact⟨rfl,rfl⟩
 all_goals
  try have hz1:¬((m:Int)=0):=by omega
  go_enter Tryz.func313,Tryz.ntmps313
  go_wp2_with (at_builtin;refine Lib.wpList_append_run _ rfl _ _ _ _ rfl _ _ rfl rfl _ _ (hr _) ?_)
  all_goals go_ret
  all_goals exact⟨rfl,rfl⟩
def enters:Go.TQ.Enters Tryz.prog 313:=⟨Tryz.f313,Tryz.func313,by kernel_rfl,by kernel_rfl⟩
end SX
end Go.Proofs.YtofedieniojipaaGreat
end
noncomputable section
namespace Go.TQ
section
open Go.Proofs Go.Sort Go.RowKit Go.Lib
def ym:PV->Bool
 | .int _ _| .str _| .bool _=>true
 |_=>false
def qa:PV->Value
 | .int k n=> .int k n
 | .str s=> .string s
 | .bool b=> .bool b
 |_=>undef
def HJ{w:World}{M:Nat->Prop}{G:Gh}{x:PV}(h:ym x=true):bp w M G x (qa x):=by
 cases x<;>first|exact .int _ _|exact .str _|exact .bool _|exact absurd h (by simp[ym])
def Yi{w:World}{M:Nat->Prop}{G:Gh}{x:PV}{v:Value}(h:ym x=true)(hr:bp w M G x v):v=qa x:=by
 cases x<;>first|(cases hr;rfl)|exact absurd h (by simp[ym])
def Pn{x:PV}(h:ym x=true):(qa x).oneCell'=true:=by
 cases x<;>first|rfl|exact absurd h (by simp[ym])
def Mk{w:World}{M:Nat->Prop}{G:Gh}:∀{xs:List PV} {vs:List Value},xs.all ym=true->bo w M G xs vs->vs=xs.map qa
 |[],vs,_,hr=>hr.rF
 |x::xs,vs,h,hr=>by
  obtain⟨v,vs',rfl,r1,r2⟩:=hr.cons_inv;rw[Qq70,Qm]at h;rw[QD,<-Yi h.1 r1,<-Mk h.2 r2]
def Mj{w:World}{M:Nat->Prop}{G:Gh}:∀{xs:List PV},xs.all ym=true->bo w M G xs (xs.map qa)
 |[],_=> .nil
 |x::xs,h=>by
  rw[Qq70,Qm]at h;exact .cons (HJ h.1) (Mj h.2)
def adl{w w':World}(h:Fr none w w'):∃q os,w'=grow (w.drewN q) os:=by
 refine⟨w'.drawn - w.drawn,w'.heap.extract w.heap.size w'.heap.size,?_⟩;have hs:=h.size
 have hh:w'.heap=w.heap++w'.heap.extract w.heap.size w'.heap.size:=by
  apply Array.ext_getElem?;intro k;rw[Array.getElem?_append];split
  ·rename_i hk;exact h.block k hk (by simp)
  ·rename_i hk;rw[Array.getElem?_extract];split
   ·rw[show w.heap.size+(k - w.heap.size)=k by omega]
   ·exact Array.getElem?_eq_none (by omega)
 have h1:=h.os;have h2:=h.tape;have h3:=h.output;have h4:=h.drawn rfl
 cases w' with|mk hp tp dr os out=>
 cases w with|mk hp' tp' dr' os' out'=>
 simp only at h1 h2 h3 h4 hh;subst h1 h2 h3;unfold grow World.drewN;simp only;rw[<-hh,show dr'+(dr - dr')=dr by omega]
def Ss{w:World}{b n:Nat}{F:Array Value}{os:Array Obj}{cur:Array Value}{e:TypeId}{fr:Nat×Nat}(hb:w.heap[b]?=some (.cells cur e fr)):
  (grow (putRow id (Sort.ahead w n) b 0 F) os).heap[b]?=some (.cells (putCells id 0 F cur) e fr):=by
 have hlt:b<w.heap.size:=(Q9.1 hb).1;unfold grow putRow mapBlock Sort.ahead;simp only;rw[Array.getElem?_append_left (by simp;exact hlt),Array.getElem?_modify,Qr rfl,hb]
 rfl
def Ye{w:World}{b n:Nat}{F:Array Value}{os:Array Obj}:Fr (some b) w (grow (putRow id (Sort.ahead w n) b 0 F) os):=by
 refine⟨rfl,rfl,rfl,?_,λq hq hne=> ?_,DL.of (Nat.le_add_right _ _)⟩
 ·unfold grow putRow mapBlock Sort.ahead;simp only[Array.size_append,Array.size_modify];omega
 ·have hqb:¬b=q:=λe=>hne (by rw[e])
  unfold grow putRow mapBlock Sort.ahead;simp only;rw[Array.getElem?_append_left (by simp;exact hq),Array.getElem?_modify,Qs hqb]
def Pk{F cur:Array Value}(h:F.size<=cur.size):(putCells id 0 F cur).toList=F.toList++cur.toList.drop F.size:=by
 apply List.ext_getElem?;intro i;rw[Array.getElem?_toList];unfold putCells;rw[Array.getElem?_mapIdx,List.getElem?_append];simp only[Array.length_toList,QS,true_and,Nat.zero_add,Nat.sub_zero,id]
 by_cases hi:i<F.size
 ·rw[Qr hi,Array.getElem?_toList,Array.getElem?_eq_getElem (show i<cur.size by omega),Array.getElem?_eq_getElem hi,Qe,Qr hi,getElem!_pos F i hi]
 ·rw[Qs hi,List.getElem?_drop,Array.getElem?_toList,show F.size+(i - F.size)=i by omega]
  cases cur[i]? with
  |none=>rfl
  |some y=>rw[Qe,Qs hi]
def T5(P:Program)(f k:Nat):Prop:=∀(α:Type) [Inhabited α] (fY:α->List Value) (_:∀x,(fY x).length=k) (_:∀x,∀v∈fY x,v.oneCell'=true) (cf:α->α->Int) (_:Go.Sort.SWO (ltOf cf)) (g:Nat) (cb:Array Value) (bY off cap:Nat) (d:Array α) (w:World)
  (_:∀args w,(callFunc g args).run P w= .ok (.enter g args) w) (_:CmpLays P g cb fY k cf bY off d.size w) (_:HoldsK fY k w bY off d) (_:bY<w.heap.size) (_:d.size<4611686018427387904) (_:∀x y,(ltOf cf) x y=false->(ltOf cf) y x=false->x=y),
  Calls P f #[.slice (some ⟨bY,off,none⟩) d.size cap,.func (.func g) #[] cb] w λe w'=>
   e= .returned (.tuple #[])/\∃n os,w'=sortWorldK fY k w bY off n (d.toList.mergeSort λx y=> !(ltOf cf) y x).toArray os
def NM(P:Program)(f:Nat):Prop:=∀(α:Type) [Inhabited α] (fY:α->Value) (_:OneCell fY) (cf:α->α->Int) (_:Go.Sort.SWO (ltOf cf)) (g:Nat) (cb:Array Value) (bY off cap:Nat) (d:Array α) (w:World)
  (_:∀args w,(callFunc g args).run P w= .ok (.enter g args) w) (_:CmpLays1 P g cb fY cf bY off d.size w) (_:Holds fY w bY off d) (_:bY<w.heap.size) (_:d.size<4611686018427387904) (_:∀x y,(ltOf cf) x y=false->(ltOf cf) y x=false->x=y),
  Calls P f #[.slice (some ⟨bY,off,none⟩) d.size cap,.func (.func g) #[] cb] w λe w'=>
   e= .returned (.tuple #[])/\∃n os,w'=sortWorld fY w bY off n (d.toList.mergeSort λx y=> !(ltOf cf) y x).toArray os
def II(P:Program)(f:Nat):Prop:=∀(p:Option Addr) (cap:Nat) (fv:Value) (w:World),Calls P f #[.slice p 0 cap,fv] w λe w'=>e= .returned (.tuple #[])/\w'=w
section
variable {P : Program} {α : Type} [Inhabited α] {pv : α -> List PV} {k : Nat}
def pK(pv:α->List PV)(x:α):List Value:=(pv x).map qa
def T4(P:Program)(f g e k:Nat)(pv:α->List PV)(le:α->α->Bool):Prop:=
 ∀(w:World) (b cap:Nat) (xs:List α) (cur:Array Value),w.heap[b]?=some (.cells cur e (0,0))->xs.length<4611686018427387904->xs.length<=cap->cap<=maxLen->cur.size=cap*k->cur.toList.take (xs.length*k)=xs.flatMap (pK pv)->
  Calls P f #[.slice (some ⟨b,0,none⟩) xs.length cap,.func (.func g) #[] #[]] w λen w'=>en= .returned (.tuple #[])/\
   ∃cur':Array Value,w'.heap[b]?=some (.cells cur' e (0,0))/\cur'.size=cur.size/\cur'.toList.take (xs.length*k)=(xs.mergeSort le).flatMap (pK pv)/\Fr (some b) w w'
def PN(hk:∀x,(pv x).length=k):∀xs:List α,(xs.flatMap (pK pv)).length=xs.length*k
 |[]=>by simp
 |x::xs=>by rw[List.flatMap_cons,QB,PN hk xs,pK,QC,hk,QE,Qq73,Nat.one_mul,Nat.add_comm]
def UW{f g e:Nat}{le:α->α->Bool}(h0:II P f)(hs:T4 P f g e k pv le)(hk0:0<k)(hk:∀x,(pv x).length=k)(hp:∀x,(pv x).all ym=true)(xs:List α)(hsx:xs.length<4611686018427387904):
  XJ P f e k (xs.map pv) [.bG g []] (.eD []) ((xs.mergeSort le).map pv):=by
 intro w X hX v vs hvX ⟨us,hown,hke,hr⟩ hargs;obtain⟨a1,args,rfl,ha1,hargs⟩:=hargs.cons_inv;obtain rfl:=hargs.rF;obtain⟨cs,rfl,hcs⟩:=ha1.vB;obtain rfl:=hcs.rF
 have hflat:∀l:List α,(l.map pv).flatten.map qa=l.flatMap (pK pv):=λl=>by
  induction l with
  |nil=>rfl
  |cons x l ih=>rw[QD,List.flatten_cons,List.map_append,ih,List.flatMap_cons];rfl
 have hplain:∀l:List α,(l.map pv).flatten.all ym=true:=λl=>by
  induction l with
  |nil=>rfl
  |cons x l ih=>rw[QD,List.flatten_cons,List.all_append,ih,hp x];rfl
 have hus:us=xs.flatMap (pK pv):=by rw[Mk (hplain xs) hr,hflat]
 have hms:(xs.mergeSort le).length=xs.length:=List.length_mergeSort xs
 have hkm:∀l:List α,∀u∈l.map pv,u.length=k:=λl u hu=>by
  obtain⟨x,_,rfl⟩:=QP.1 hu;exact hk x
 have hlen:(xs.map pv).length=xs.length:=QC ..;have hlen2:((xs.mergeSort le).map pv).length=xs.length:=by rw[QC,hms]
 rw[hlen]at hown
 have hrep:∀w':World,bo w' (Mv v X) dQ ((xs.mergeSort le).map pv).flatten ((xs.mergeSort le).flatMap (pK pv)):=λw'=>by
  rw[<-hflat];exact Mj (hplain _)
 by_cases hx:xs=[]
 ·
  subst hx
  have hv:∃p cap,v= .slice p 0 cap:=by
   rcases hown.2 with⟨h1,_⟩|⟨b,cap,cur,h1,_⟩
   ·exact⟨none,0,h1⟩
   ·exact⟨_,cap,h1⟩
  obtain⟨p,cap,hv⟩:=hv;have:=h0 p cap (.func (.func g) #[] [].toArray) w;rw[<-hv]at this;refine this.mono λen w' ⟨h1,h2⟩=> ?_
  subst h2;refine⟨_,h1,.eD _ [] rfl (λi x v h=>by simp at h),⟨us,?_,hkm _,?_⟩,Fr.refl _ _⟩
  ·rw[hlen2];exact hown
  ·rw[hus];have:=hrep w';rw[show([]:List α).mergeSort le=[]from by simp]at this ⊢
   exact this
 ·rcases hown.2 with⟨_,h2⟩|⟨b,cap,cur,rfl,hbase,hb,hn,hcap,hsz,htake⟩
  ·exact absurd (Qq67 h2) hx
  ·refine(hs w b cap xs cur hb hsx hn hcap hsz (by rw[htake,hus])).mono λen w' ⟨h1,cur',h2,h3,h4,h5⟩=> ?_
   refine⟨_,h1,.eD _ [] rfl (λi x v h=>by simp at h),⟨(xs.mergeSort le).flatMap (pK pv),⟨?_,.inr ⟨b,cap,cur',by rw[hlen2],hbase,h2,by rw[hlen2];exact hn,hcap,by rw[h3];exact hsz,?_⟩⟩,hkm _,hrep w'⟩,h5⟩
   ·rw[PN hk,hms,hlen2]
   ·rw[hlen2];exact h4
def Kh{fY:α->List Value}(hk:∀x,(fY x).length=k)(hk0:0<k):∀(l:List α) (t:Nat),t<l.length*k->(l.flatMap fY)[t]?=(fY l[t / k]!)[t % k]?
 |[],t,h=>by simp at h
 |x::l,t,h=>by
  rw[List.flatMap_cons]
  by_cases ht:t<k
  ·rw[List.getElem?_append_left (by rw[hk];exact ht),Nat.div_eq_of_lt ht,Nat.mod_eq_of_lt ht]
   rfl
  ·rw[List.getElem?_append_right (by rw[hk];omega),hk]
   have hl:t - k<l.length*k:=by rw[QE,Qq73,Nat.one_mul]at h;omega
   rw[Kh hk hk0 l (t - k) hl,Nat.mod_eq_sub_mod (by omega:t>=k),show t / k=(t - k) / k+1 from Nat.div_eq_sub_div hk0 (by omega)]
   simp
def W0{fY:α->List Value}(hk:∀x,(fY x).length=k)(hk0:0<k)(l:List α):(flatK fY k l.toArray).toList=l.flatMap fY:=by
 have hlen:(l.flatMap fY).length=l.length*k:=by
  induction l with
  |nil=>simp
  |cons x l ih=>rw[List.flatMap_cons,QB,ih,hk,QE,Qq73,Nat.one_mul,Nat.add_comm]
 apply List.ext_getElem?;intro t
 by_cases ht:t<l.length*k
 ·rw[Kh hk hk0 l t ht];have hm:t % k<(fY l[t / k]!).length:=by rw[hk];exact Nat.mod_lt _ hk0
  rw[Qv hm];unfold flatK;simp only[Array.toList_map,Array.toList_range,QT,List.size_toArray];rw[List.getElem?_range ht];simp only[Qe];congr 1;rw[show(l.toArray)[t / k]! =l[t / k]! by simp]
  exact getElem!_pos (fY l[t / k]!) (t % k) hm
 ·rw[Qq72 (by rw[Array.length_toList,size_flatK,List.size_toArray];omega),Qq72 (by omega)]
def abc(P:Program)(g:Nat)(val:α->Value)(cf:α->α->Int):Prop:=∀(x y:α) (w:World),Calls P g #[val x,val y] w λe w'=>e= .returned (.int .i64 (cf x y))/\∃q os,w'=grow (w.drewN q) os
def M5{w:World}{b e cap:Nat}{xs:List α}{cur:Array Value}{F:Array Value}(hb:w.heap[b]?=some (.cells cur e (0,0)))(hF:F.toList=cur.toList.take F.size):Holds id w b 0 F:=by
 intro j hj
 have hc:cur[j]?=some F[j]:=by
  have h1:F.toList[j]?=some F[j]:=by rw[Array.getElem?_toList];exact Array.getElem?_eq_getElem hj
  rw[hF,Qq68,Qr hj,Array.getElem?_toList]at h1;exact h1
 rw[getElem!_pos F j hj];refine⟨?_,?_⟩
 ·unfold World.cell?;simp only[Nat.zero_add,hb];simpa using hc
 ·unfold World.frozen?;simp only[hb];simp
def agZ{f g e:Nat}{cf:α->α->Int}(hS:T5 P f k)(hk0:0<k)(hk:∀x,(pv x).length=k)(hp:∀x,(pv x).all ym=true)(hO:Go.Sort.SWO (ltOf cf))(hT:∀x y,(ltOf cf) x y=false->(ltOf cf) y x=false->x=y)
  (eg:∀args w,(callFunc g args).run P w= .ok (.enter g args) w) (hc:abc P g (λx=> .agg (pK pv x).toArray) cf):T4 P f g e k pv λx y=> !(ltOf cf) y x:=by
 intro w b cap xs cur hb hsx hn hcap hsz htake;have hlt:b<w.heap.size:=(Q9.1 hb).1;have hkE:∀x,(pK pv x).length=k:=λx=>by rw[pK,QC,hk]
 have hflat:∀l:List α,(flatK (pK pv) k l.toArray).toList=l.flatMap (pK pv):=W0 hkE hk0;have hcs:CmpLays P g #[] (pK pv) k cf b 0 xs.toArray.size w:=λm os dk _ x y=>hc x y _
 have hH:HoldsK (pK pv) k w b 0 xs.toArray:=M5 (xs:=xs) (cap:=cap) hb (by rw[hflat,size_flatK,List.size_toArray];exact htake.symm)
 have:=hS α (pK pv) hkE (λx v hv=>by obtain⟨y,hy,rfl⟩:=QP.1 hv;exact Pn (QH.1 (hp x) y hy)) cf hO g #[] b 0 cap xs.toArray w eg hcs hH hlt (by rw[List.size_toArray];exact hsx) hT
 refine this.mono λen w' ⟨h1,n,os,h2⟩=>⟨h1,?_⟩
 have hms:(xs.mergeSort λx y=> !(ltOf cf) y x).length=xs.length:=List.length_mergeSort xs
 have hFs:(flatK (pK pv) k (xs.mergeSort λx y=> !(ltOf cf) y x).toArray).size=xs.length*k:=by rw[size_flatK,List.size_toArray,hms]
 have hFc:(flatK (pK pv) k (xs.mergeSort λx y=> !(ltOf cf) y x).toArray).size<=cur.size:=by rw[hFs,hsz];exact Qq63 k hn
 subst h2;refine⟨_,Ss hb,by unfold putCells;rw[Array.size_mapIdx],?_,Ye⟩
 rw[Pk hFc,<-hFs,<-Array.length_toList,List.take_left,hflat]
def ag0{f g e:Nat}{cf:α->α->Int}{p1:α->PV}(hS:NM P f)(hp:∀x,ym (p1 x)=true)(hO:Go.Sort.SWO (ltOf cf))(hT:∀x y,(ltOf cf) x y=false->(ltOf cf) y x=false->x=y)
  (eg:∀args w,(callFunc g args).run P w= .ok (.enter g args) w) (hc:abc P g (λx=>qa (p1 x)) cf):T4 P f g e 1 (λx=>[p1 x]) λx y=> !(ltOf cf) y x:=by
 intro w b cap xs cur hb hsx hn hcap hsz htake;have hlt:b<w.heap.size:=(Q9.1 hb).1
 have hflat:∀l:List α,(l.toArray.map λx=>qa (p1 x)).toList=l.flatMap (pK λx=>[p1 x]):=λl=>by
  induction l with
  |nil=>simp
  |cons x l ih=>
   rw[List.flatMap_cons,<-ih];simp[pK]
 have hcs:CmpLays1 P g #[] (λx=>qa (p1 x)) cf b 0 xs.toArray.size w:=λm os dk _ x y=>hc x y _
 have hF:=M5 (xs:=xs) (cap:=cap) (F:=xs.toArray.map λx=>qa (p1 x)) hb (by rw[hflat,Array.size_map,List.size_toArray,<-Nat.mul_one xs.length];exact htake.symm)
 have hH:Holds (λx=>qa (p1 x)) w b 0 xs.toArray:=by
  intro j hj;have h1:=hF j (by rw[Array.size_map];exact hj)
  rw[getElem!_pos _ j (by rw[Array.size_map];exact hj),Array.getElem_map]at h1
  rw[getElem!_pos _ j hj];exact h1
 have:=hS α (λx=>qa (p1 x)) (λx=>Pn (hp x)) cf hO g #[] b 0 cap xs.toArray w eg hcs hH hlt (by rw[List.size_toArray];exact hsx) hT
 refine this.mono λen w' ⟨h1,n,os,h2⟩=>⟨h1,?_⟩
 have hms:(xs.mergeSort λx y=> !(ltOf cf) y x).length=xs.length:=List.length_mergeSort xs
 have hput:∀(W:World) (d:Array α),putRow (λx=>qa (p1 x)) W b 0 d=putRow id W b 0 (d.map λx=>qa (p1 x)):=λW d=>by
  unfold putRow;congr 1
  funext c
  unfold putCells;apply Array.ext_getElem?;intro i;simp only[Array.getElem?_mapIdx,Array.size_map,QS,true_and,Nat.zero_add,Nat.sub_zero,id]
  cases c[i]? with
  |none=>rfl
  |some y=>
   simp only[Qe]
   by_cases hi:i<d.size
   ·rw[Qr hi,Qr hi,getElem!_pos d i hi,getElem!_pos _ i (by rw[Array.size_map];exact hi),Array.getElem_map]
   ·rw[Qs hi,Qs hi]
 unfold sortWorld at h2;rw[hput]at h2;have hFs:((xs.mergeSort λx y=> !(ltOf cf) y x).toArray.map λx=>qa (p1 x)).size=xs.length*1:=by rw[Array.size_map,List.size_toArray,hms,Nat.mul_one]
 have hFc:((xs.mergeSort λx y=> !(ltOf cf) y x).toArray.map λx=>qa (p1 x)).size<=cur.size:=by rw[hFs,hsz];exact Qq63 1 hn
 subst h2;refine⟨_,Ss hb,by unfold putCells;rw[Array.size_mapIdx],?_,Ye⟩
 rw[Pk hFc,<-hFs,<-Array.length_toList,List.take_left,hflat]
end
def VM{P:Program}{g:Nat}{α:Type}{va:α->PV}{val:α->Value}{cf:α->α->Int}(hval:∀(x:α) (w:World) (M:Nat->Prop),bp w M dQ (va x) (val x))(h:∀x y,Con P g false [] [va x,va y] (.int .i64 (cf x y)) [])(hg:WW=[]:=by rfl):abc P g val cf:=by
 intro x y w;have hG:GI w:=λq hq=>by rw[hg]at hq;cases hq
 have:=h x y w (λ_=>False) (.nil hG) 0 0 [] [val x,val y] (λe=>by cases e) (.cons (hval x w _) (.cons (hval y w _) .nil))
 refine this.mono λen w' ⟨v,rvs,h1,h2,_,h4⟩=> ?_
 rw[h2.jh]at h1;exact⟨h1,adl h4⟩
end
section
open Go.Proofs Go.Sort
def IA{α:Type}(c:α->α->Option Int)(x y:α):Int:=(c x y).getD 0
structure abX {α:Type} (c:α->α->Option Int):Prop where
 some:∀x y,c x y=some (IA c x y)
 ord:Go.Sort.SWO (ltOf (IA c))
 tot:∀x y,ltOf (IA c) x y=false->ltOf (IA c) y x=false->x=y
open Classical in
 def A8{α:Type}(c:α->α->Option Int)(s:List α):Option (Unit×List α):=if abX c/\s.length<4611686018427387904 then some ((),s.mergeSort λx y=> !(ltOf (IA c)) y x)else none
section
variable {P : Program} {f g e k : Nat} {T : Ty} {F : T.den × T.den × Unit -> Option Int} (hent : Enters P f) (h0 : II P f) (hgs : dK.Sound P (U := U) (.fn g [.ty T, .ty T] (.one (Ty.i .i64)) F)) (hi : Inhabited T.den) (hp : ∀ x : T.den, (T.pv x).all ym = true)
 include hent h0 hgs hi hp
theorem afG(hS:T5 P f k)(hk0:0<k)(hk:∀x:T.den,(T.pv x).length=k)(hv:∀x:T.den,fq (U:=U) T x= .agg (T.pv x)):
  dK.Sound P (U:=U) (.rw f e k T [.bG g []] (.many []) λs a=>A8 (λx y=>F (x,y,())) s):=by
 refine⟨hent,λxs a r ys h=> ?_⟩
 have h:A8 (λx y=>F (x,y,())) xs=some (r,ys):=h
 unfold A8 at h;split at h
 ·rename_i hc;injection h with h
  injection h with _ h2
  subst h2;refine UW h0 (agZ hS hk0 hk hp hc.1.ord hc.1.tot (λargs w=>mr hgs.1 args) ?_) hk0 hk hp xs hc.2
  refine VM (va:=λx=> .agg (T.pv x)) (λx w M=> .agg _ _ (by rw[pK,QC]) λi y v h1 h2=> ?_) λx y=> ?_
  ·rw[pK,QT,h1]at h2;injection h2 with h2
   rw[<-h2];exact HJ (QH.1 (hp x) y (Q8 h1))
  ·have:=hgs.2 (x,y,()) _ (hc.1.some x y);rw[show gJ (U:=U) [.ty T,.ty T] (x,y,())=[.agg (T.pv x),.agg (T.pv y)]by rw[<-hv x,<-hv y];rfl]at this
   exact this
 ·cases h
theorem V4(hS:NM P f)(hv:∀x:T.den,T.pv x=[fq (U:=U) T x]):
  dK.Sound P (U:=U) (.rw f e 1 T [.bG g []] (.many []) λs a=>A8 (λx y=>F (x,y,())) s):=by
 refine⟨hent,λxs a r ys h=> ?_⟩
 have h:A8 (λx y=>F (x,y,())) xs=some (r,ys):=h
 unfold A8 at h;split at h
 ·rename_i hc;injection h with h
  injection h with _ h2
  subst h2;have hp1:∀x:T.den,ym (fq (U:=U) T x)=true:=λx=>by have:=hp x;rw[hv x]at this;simpa using this
  have hpv:(λx:T.den=>T.pv x)=λx=>[fq (U:=U) T x]:=funext hv
  have:=UW (pv:=λx:T.den=>[fq (U:=U) T x]) (e:=e) h0 (ag0 hS hp1 hc.1.ord hc.1.tot (λargs w=>mr hgs.1 args) (VM (va:=λx=>fq (U:=U) T x) (λx w M=>HJ (hp1 x)) λx y=>hgs.2 (x,y,()) _ (hc.1.some x y))) (by omega) (λx=>rfl) (λx=>by simpa using hp1 x) xs hc.2
  rw[<-hpv]at this;exact this
 ·cases h
end
end
end Go.TQ
end
noncomputable section
namespace Go.Proofs
open Go.Shelf
def exF{P:Program}{f:FuncId}{fn:Func}(h:(((P.funcs[f]?).map Func.name).getD ""== "runtime.NumGoroutine")=false)(h2:P.funcs[f]?=some {fn with name:=((P.funcs[f]?).map Func.name).getD ""}):Bears P f fn:=⟨_,h,h2⟩
def Fj:Go.Shelf.Ren:=⟨λ|6=>342|15=>381|14=>380|28=>417|29=>418|20=>409|21=>410|22=>411|23=>412|24=>413|25=>414|26=>415|27=>416|46=>441|47=>442|48=>443|49=>444|50=>445|57=>456|n=>n,λ|22=>32|24=>9|25=>204|3=>3|39=>184|0=>0|53=>298|55=>318|4=>4|46=>325|45=>324|50=>102|5=>5|9=>9|66=>343|70=>347|76=>354|77=>225|n=>n,λ|n=>n⟩
set_option maxRecDepth 100000 in
def NL:Go.Proofs.SlLaysF.n6 Tryz.prog Fj:=by
 constructor
 all_goals first
  |kernel_rfl
  |exact λ_=>by kernel_rfl
  |exact exF (by kernel_rfl) (by kernel_rfl)
def OU:Go.Shelf.Ren:=⟨λ|6=>446|15=>381|14=>457|28=>417|29=>418|20=>459|21=>460|22=>461|23=>462|24=>463|25=>464|26=>465|27=>466|46=>475|47=>442|48=>443|49=>476|50=>477|57=>481|n=>n,λ|22=>206|24=>36|25=>264|3=>3|39=>184|0=>0|53=>298|55=>318|4=>4|46=>325|45=>324|50=>102|5=>5|9=>9|66=>343|70=>347|76=>354|77=>225|n=>n,λ|n=>n⟩
set_option maxRecDepth 100000 in
def NK:Go.Proofs.SlLaysF0.n6 Tryz.prog OU:=by
 constructor
 all_goals first
  |kernel_rfl
  |exact λ_=>by kernel_rfl
  |exact exF (by kernel_rfl) (by kernel_rfl)
def Fi:Go.Shelf.Ren:=⟨λ|6=>450|15=>381|14=>458|28=>417|29=>418|20=>467|21=>468|22=>469|23=>470|24=>471|25=>472|26=>473|27=>474|46=>478|47=>442|48=>443|49=>479|50=>480|57=>482|n=>n,λ|22=>22|24=>3|25=>42|3=>3|39=>184|0=>0|53=>298|55=>318|4=>4|46=>325|45=>324|50=>102|5=>5|9=>9|66=>343|70=>347|76=>354|77=>225|n=>n,λ|n=>n⟩
set_option maxRecDepth 100000 in
def NJ:Go.Proofs.SlLaysF.n6 Tryz.prog Fi:=by
 constructor
 all_goals first
  |kernel_rfl
  |exact λ_=>by kernel_rfl
  |exact exF (by kernel_rfl) (by kernel_rfl)
end Go.Proofs
namespace Go.Proofs.YtofedieniojipaaGreat
open Go.TQ Go.Proofs
namespace Cm
def enters:Go.TQ.Enters Tryz.prog 342:=⟨_,Tryz.func342,by kernel_rfl,by kernel_rfl⟩
def none:II Tryz.prog 342:=λp cap fv w=>AnyF.slices_SortFunc_none (P:=Tryz.prog) (ρ:=Fj) {NL with} p cap fv w
def IY:NM Tryz.prog 342:=λα _ fY h1 cf hO g cb bY off cap d w eg hc hH hb hsz hT=>Any.slices_SortFunc_total NL fY h1 cf hO g cb bY off cap d w eg hc hH hb hsz hT
end Cm
namespace LM
def enters:Go.TQ.Enters Tryz.prog 446:=⟨_,Tryz.func446,by kernel_rfl,by kernel_rfl⟩
def none:II Tryz.prog 446:=λp cap fv w=>AnyF.slices_SortFunc_none NK p cap fv w
def IY:T5 Tryz.prog 446 2:=λα _ fY hk h1 cf hO g cb bY off cap d w eg hc hH hb hsz hT=>AnyQ.slices_SortFunc_total NK 2 Tryz.isAgg36 Tryz.sizeOf36 fY hk h1 cf hO g cb bY off cap d w eg hc hH hb hsz hT
end LM
namespace LL
def enters:Go.TQ.Enters Tryz.prog 450:=⟨_,Tryz.func450,by kernel_rfl,by kernel_rfl⟩
def none:II Tryz.prog 450:=λp cap fv w=>AnyF.slices_SortFunc_none (P:=Tryz.prog) (ρ:=Fi) {NJ with} p cap fv w
def IY:NM Tryz.prog 450:=λα _ fY h1 cf hO g cb bY off cap d w eg hc hH hb hsz hT=>Any.slices_SortFunc_total NJ fY h1 cf hO g cb bY off cap d w eg hc hH hb hsz hT
end LL
end Go.Proofs.YtofedieniojipaaGreat
namespace Go.Proofs.YtofedieniojipaaGreat
open Go.TQ Go.Proofs.Tryz
@[reducible] def u1 {A0 B:Type} (F:A0->B) (a:A0×Unit):B:=F a.1
@[reducible] def u2 {A0 A1 B:Type} (F:A0->A1->B) (a:A0×A1×Unit):B:=F a.1 a.2.1
@[reducible] def u3 {A0 A1 A2 B:Type} (F:A0->A1->A2->B) (a:A0×A1×A2×Unit):B:=F a.1 a.2.1 a.2.2.1
@[reducible] def u4 {A0 A1 A2 A3 B:Type} (F:A0->A1->A2->A3->B) (a:A0×A1×A2×A3×Unit):B:=F a.1 a.2.1 a.2.2.1 a.2.2.2.1
@[reducible] def u5 {A0 A1 A2 A3 A4 B:Type} (F:A0->A1->A2->A3->A4->B) (a:A0×A1×A2×A3×A4×Unit):B:=F a.1 a.2.1 a.2.2.1 a.2.2.2.1 a.2.2.2.2.1
@[reducible] def u6 {A0 A1 A2 A3 A4 A5 B:Type} (F:A0->A1->A2->A3->A4->A5->B) (a:A0×A1×A2×A3×A4×A5×Unit):B:=F a.1 a.2.1 a.2.2.1 a.2.2.2.1 a.2.2.2.2.1 a.2.2.2.2.2.1
@[reducible] def zB:ae:=ae.mk 0 (ByteArray.mk #[])
@[reducible] def bE:ByteArray:=ByteArray.mk #[]
def p_:Nat->Nat->NT U->NT U|0,_,x=>x|k+1,n,x=>match n % 2 with|0=> .l (p_ k (n / 2) x)|_=> .r (p_ k (n / 2) x)
@[reducible] def oR {A B:Type} (x:Option B):Option (A⊕B):=Option.map Sum.inr x
@[reducible] def y0:Ty:=Ty.i .i64
@[reducible] def y1:Ty:=Ty.bool
@[reducible] def y2:Ty:=Ty.st .ab
@[reducible] def y3:Ty:=Ty.str
@[reducible] def y4:Ty:=Ty.st .aa
@[reducible] def y5:Ty:=Ty.st .ax
@[reducible] def y6:Ty:=Ty.st .aK
@[reducible] def y7:Ty:=Ty.st .aC
@[reducible] def y8:Ty:=Ty.st .wU
@[reducible] def y9:Ty:=Ty.sl Ty.str
@[reducible] def y10:Ty:=Ty.sl (Ty.i .i64)
@[reducible] def y11:Ty:=Ty.st .ba
@[reducible] def y12:Ty:=Ty.st .Src
@[reducible] def y13:Ty:=Ty.sl (Ty.st .ax)
@[reducible] def y14:Ty:=Ty.st .Seen
@[reducible] def y15:Ty:=Ty.st .ah
@[reducible] def y16:Ty:=Ty.st .Config
@[reducible] def y17:Ty:=Ty.st .jR
@[reducible] def y18:Ty:=Ty.st .vD
@[reducible] def y19:Ty:=Ty.sl (Ty.st .ba)
@[reducible] def y20:Ty:=Ty.st .uZ
@[reducible] def y21:Ty:=Ty.st .rO
@[reducible] def y22:Ty:=Ty.sl (Ty.st .aK)
@[reducible] def y27:Ty:=Ty.sl (Ty.st .ab)
@[reducible] def t10:du U:= .ty y10
@[reducible] def t0:du U:= .ty y0
@[reducible] def t4:du U:= .ty y4
@[reducible] def t9:du U:= .ty y9
@[reducible] def t2:du U:= .ty y2
@[reducible] def t3:du U:= .ty y3
@[reducible] def t5:du U:= .ty y5
@[reducible] def t15:du U:= .ty y15
@[reducible] def t7:du U:= .ty y7
@[reducible] def t6:du U:= .ty y6
@[reducible] def t13:du U:= .ty y13
@[reducible] def t16:du U:= .ty y16
@[reducible] def t18:du U:= .ty y18
@[reducible] def t14:du U:= .ty y14
@[reducible] def q0:pH U:= .one y0
@[reducible] def q1:pH U:= .one y1
noncomputable def kf{f:FuncId}{fn:Func}(hf:prog.funcs[f]?=some fn)(sg:List (du U))(r:pH U)(F:eA sg->Option r.den)(hs:List Nat)(n:NT U)(G:List (KS U prog))(h1:(fn.body.bind (aU prog fn.ntmps hs))=some (dY (ep prog fn.ntmps hs fn) n).erase:=by kernel_rfl)(h2:lS prog fn.results.toList=some ((lS prog fn.results.toList).getD []):=by kernel_rfl)(h3:(fn.name== "runtime.NumGoroutine")=false:=by kernel_rfl)(hok:(dY (ep prog fn.ntmps hs fn) n).dp=true:=by kernel_rfl)(hlen:Nat.ble sg.length fn.ntmps=true:=by kernel_rfl)(hF:Tj K (KS.ks G) (dY (ep prog fn.ntmps hs fn) n) ((lS prog fn.results.toList).getD []) sg r=F:=by kernel_rfl):KS U prog:=⟨.fn f sg r F,fnS (K:=K) _ _ _ G ⟨fn,hs,hf,rfl,h1,h2,h3⟩ hok (QG hlen) hF⟩
noncomputable def kr{f:FuncId}{fn:Func}(hf:prog.funcs[f]?=some fn)(pos:Nat)(R:Ty)(sg:List (du U))(r:pH U)(F:U.den R->eA sg->Option (r.den×U.den R))(hs:List Nat)(n:NT U)(G:List (KS U prog))(h1:(fn.body.bind (aU prog fn.ntmps hs))=some (dY (ep prog fn.ntmps hs fn) n).erase:=by kernel_rfl)(h2:lS prog fn.results.toList=some ((lS prog fn.results.toList).getD []):=by kernel_rfl)(h3:(fn.name== "runtime.NumGoroutine")=false:=by kernel_rfl)(hok:(dY (ep prog fn.ntmps hs fn) n).dp=true:=by kernel_rfl)(hlen:Nat.ble (1+sg.length) fn.ntmps=true:=by kernel_rfl)(hF:rcK K (KS.ks G) (dY (ep prog fn.ntmps hs fn) n) ((lS prog fn.results.toList).getD []) pos R sg r=F:=by kernel_rfl):KS U prog:=⟨.rc f pos R sg r F,rcS (K:=K) _ _ _ G ⟨fn,hs,hf,rfl,h1,h2,h3⟩ hok (QG hlen) hF⟩
def eT0(x:av):av:={x with aa:=(aq x.aa)}
def av.e(x:av):eT0 x=x:=by unfold eT0;simp only[ak.eta,av.eta]
def eT1(x:aj):aj:={x with aa:=(aq x.aa)}
def aj.e(x:aj):eT1 x=x:=by unfold eT1;simp only[ak.eta,av.e,aj.eta]
def eT2(x:af):af:={x with aa:=(aq x.aa)}
def af.e(x:af):eT2 x=x:=by unfold eT2;simp only[ak.eta,av.e,aj.e,af.eta]
def eT3(x:aF):aF:={x with aa:=(aq x.aa)}
def aF.e(x:aF):eT3 x=x:=by unfold eT3;simp only[ak.eta,av.e,aj.e,af.e,aF.eta]
def eT4(x:aS):aS:={x with aC:=(eT0 x.aC),ah:=(eT2 x.ah)}
def aS.e(x:aS):eT4 x=x:=by unfold eT4;simp only[ak.eta,av.e,aj.e,af.e,aF.e,aS.eta]
def etas:(∀x:ak,ak.mk x.aH x.aX x.aL=x)/\(∀x,eT0 x=x)/\(∀x,eT1 x=x)/\(∀x,eT2 x=x)/\(∀x,eT3 x=x)/\(∀x,eT4 x=x):=⟨ak.eta,av.e,aj.e,af.e,aF.e,aS.e⟩
attribute [simp] etas
noncomputable def Ul:SA U:=dY (ep prog 10 [] f8) .e
noncomputable def B2(a0:List Int):Option eG:=bif cz 0 (dJ (a0.length:Int) 800) (a0.length)then some (eG.mk ((a0.take (Int.toNat (dJ (a0.length:Int) 800))).drop (Int.toNat 0)) 0)else none
noncomputable def WO:KS U prog:=⟨.nw 8 [t10] y12 λa=>B2 a.1,nwS (K:=K) Ul 10 2 [] (fk f8 [] func8)⟩
noncomputable def cq(s:eG)(a0:Int):Option (Int×eG):=bb (λ(v1:Bool×Unit)=>bif v1.1 then some (0,s)else(idx s.L (cU .i64 (aA .i64 s.At 1) 1)).bind λx3=>if a0=0 then none else if a0=0 then none else some ((We .i64 (aA .i64 (We .i64 x3 a0) a0) a0),(eG.mk s.L (aA .i64 s.At 1)))) λj2=>bif decide ((s.L.length:Int)<=s.At)then j2 (true,())else j2 ((decide (a0<1)),())
def uE:=kr func34 0 y12 [t0] q0 (λs a=>cq s a.1) [] (p_ 2 1 (.j ⟨[.val 18 y1],[0,1]⟩ .e)) []
def de(s:eG)(a0:Int)(a1:Int):Option (Int×eG):=(cq s (aA .i64 (cU .i64 a1 a0) 1)).bind λp1=>some ((aA .i64 a0 p1.1),p1.2)
def sE:=kr func11 0 y12 [t0,t0] q0 (λs a=>de s a.1 a.2.1) [] .e [uE]
def kq(s:eG)(a0:Int):Option (ak×eG):=aB (λ(v1:Int×eG×ak×List Int×List ak×Unit)=>bif decide (v1.1<a0)then bb (λ(v2:eG×ak×List Int×List ak×Unit)=>some (Sum.inl ((aA .i64 v1.1 1),v2.1,(ak.mk v2.2.1.aH [] []),v2.2.2.1,v2.2.2.2.1,()))) λj3=>(cq v1.2.1 5).bind λp4=>bif decide (0<p4.1)then bif bl 8 (v1.2.2.2.1.length+List.length [v1.1])then j3 (p4.2,(ak.mk v1.2.2.1.aH [] []),(v1.2.2.2.1++[v1.1]),v1.2.2.2.2.1,())else none else j3 (p4.2,(ak.mk v1.2.2.1.aH [] []),v1.2.2.2.1,v1.2.2.2.2.1,())else oR (bb (λ(v5:eG×ak×List ak×Unit)=>bb (λ(v7:eG×ak×List ak×Unit)=>(de v7.1 (Sq .i64 (aA .i64 (aA .i64 (v7.2.1.aX.length:Int) (v7.2.2.1.length:Int)) 1) 2) (aA .i64 (v7.2.1.aX.length:Int) (v7.2.2.1.length:Int))).bind λp9=>bb (λ(v10:eG×ak×List ak×Unit)=>some ((ak.mk v10.2.1.aH v10.2.1.aX v10.2.2.1),v10.1)) λj11=>(cq p9.2 6).bind λp12=>bif decide (p12.1=5)then j11 (p12.2,(ak.mk 1 v7.2.1.aX []),v7.2.2.1,())else j11 (p12.2,(ak.mk p9.1 v7.2.1.aX []),v7.2.2.1,())) λj8=>(cq v5.1 4).bind λp13=>bif decide (p13.1=3)then(cq p13.2 a0).bind λp14=>bif bl 56 (v5.2.2.1.length+List.length [(ak.mk 1 [p14.1] [])])then j8 (p14.2,(ak.mk v5.2.1.aH v5.2.1.aX []),(v5.2.2.1++[(ak.mk 1 [p14.1] [])]),())else none else j8 (p13.2,(ak.mk v5.2.1.aH v5.2.1.aX []),v5.2.2.1,())) λj6=>bif decide ((v1.2.2.2.1.length:Int)=0)then(cq v1.2.1 a0).bind λp15=>j6 (p15.2,(ak.mk v1.2.2.1.aH [p15.1] []),v1.2.2.2.2.1,())else j6 (v1.2.1,(ak.mk v1.2.2.1.aH v1.2.2.2.1 []),v1.2.2.2.2.1,()))) (0,s,(ak.mk 0 [] []),[],[],())
def xm:=kr func16 0 y12 [t0] (.one y4) (λs a=>kq s a.1) [] (p_ 2 3 (.b (p_ 2 1 (.ps (.Bc 5 1 3 1 y0) (.ps (.Bc 5 2 27 3 y4) (.j ⟨[.val 6 y0,.box 0 0 y12 [],.box 2 1 y4 [(1,4,1),(2,5,1)],.fF 4 1 3 1 y0,.fF 5 1 27 3 y4],[0,1,4,5]⟩ (p_ 2 2 (.j ⟨[.box 0 0 y12 [],.box 2 1 y4 [(1,4,1),(2,5,1)],.fF 4 1 3 1 y0,.fF 5 1 27 3 y4],[0,1,4,5,6]⟩ .e)))))) (.ps (.Lc 5 1) (.j ⟨[.box 0 0 y12 [],.box 2 1 y4 [(2,5,1)],.fF 5 1 27 3 y4],[0,1,4,5]⟩ (.r (.j ⟨[.box 0 0 y12 [],.box 2 1 y4 [(2,5,1)],.fF 5 1 27 3 y4],[0,4,5]⟩ (p_ 3 7 (.j ⟨[.box 0 0 y12 [],.box 2 1 y4 [(2,5,1)],.fF 5 1 27 3 y4],[4,5]⟩ .e)))))))) [uE,sE]
noncomputable def N2:SA U:=dY (ep prog 20 [] f102) (.r (.r (.l (.r (.l (.j ⟨[.val 3 y0,.val 9 y0],[7,8]⟩ .e))))))
noncomputable def G1(rec:(ak×Unit)->Option Int)(a0:ak):Option Int:=aB (λ(v1:Int×Int×Unit)=>bif decide (v1.2.1<(a0.aL.length:Int))then(idx a0.aL v1.2.1).bind λx2=>(rec ((aq x2),())).bind λr3=>some (Sum.inl ((bD v1.1 r3),(aA .i64 v1.2.1 1),()))else oR (some (aA .i64 v1.1 1))) (0,0,())
noncomputable def Ru:Nat->(ak×Unit)->Option Int:=jg (λrec a=>G1 rec a.1)
def Bl(a0:ak):Option Int:=Ru (SizeOf.sizeOf a0+1) (a0,())
noncomputable def Rr:KS U prog:=⟨.fn 102 [t4] q0 λa=>Bl a.1,CW (K:=K) (A_s:=[t4]) (r:= .one y0) (B:=λrec a=>G1 rec a.1) N2 20 [.tmp 2] [] (fk f102 [] func102) (hF:=λa=>⟨_,rfl⟩)⟩
noncomputable def Rj:SA U:=dY (ep prog 26 [] f103) (.r (.r (.l (.r (.l (.j ⟨[.val 3 y0,.val 16 y0],[14,15]⟩ .e))))))
noncomputable def IS(rec:(ak×Unit)->Option Int)(a0:ak):Option Int:=aB (λ(v1:Int×Int×Unit)=>bif decide (v1.2.1<(a0.aL.length:Int))then(idx a0.aL v1.2.1).bind λx2=>(rec ((aq x2),())).bind λr3=>some (Sum.inl ((aA .i64 v1.1 r3),(aA .i64 v1.2.1 1),()))else oR (some v1.1)) ((aA .i64 (a0.aX.length:Int) (a0.aL.length:Int)),0,())
noncomputable def T9:Nat->(ak×Unit)->Option Int:=jg (λrec a=>IS rec a.1)
def Dg(a0:ak):Option Int:=T9 (SizeOf.sizeOf a0+1) (a0,())
noncomputable def SQ:KS U prog:=⟨.fn 103 [t4] q0 λa=>Dg a.1,CW (K:=K) (A_s:=[t4]) (r:= .one y0) (B:=λrec a=>IS rec a.1) Rj 26 [.tmp 2] [] (fk f103 [] func103) (hF:=λa=>⟨_,rfl⟩)⟩
noncomputable def eP(a0:Int):Option Bool:=(bif decide (0<=a0)then some (decide (a0<=1023))else some false).bind λb1=>some b1
def Rs:=kf func284 [t0] q1 (u1 eP) [] .e []
def jT(a0:Int)(a1:Int):Option Bool:=(eP a0).bind λr1=>(bif r1 then some (decide (0<=a1))else some false).bind λb2=>(bif b2 then some (decide (a1<10))else some false).bind λb3=>(bif b3 then if a1<0 then none else some (decide ((IF .i64 (kg .i64 a0 a1) 1)=1))else some false).bind λb4=>some b4
def UA:=kf func237 [t0,t0] q1 (u2 jT) [] .e [Rs]
def yZ(a0:List Int):Option (Int×Int×Unit):=aB (λ(v1:Int×Int×Unit)=>bif decide (v1.2.1<(a0.length:Int))then(idx a0 v1.2.1).bind λx2=>(bif decide (x2<0)then some true else some (decide (10<=x2))).bind λb3=>bif b3 then oR (some (0,5,()))else(jT v1.1 x2).bind λr4=>bif r4 then oR (some (0,6,()))else if x2<0 then none else some (Sum.inl ((qY .i64 v1.1 (bV .i64 1 x2)),(aA .i64 v1.2.1 1),()))else oR (some (v1.1,0,()))) (0,0,())
def WN:=kf func170 [t10] (.many [y0,y0]) (u1 yZ) [] (p_ 5 11 (.j ⟨[.val 4 y0,.val 9 y0],[7,8]⟩ .e)) [UA]
noncomputable def N1:SA U:=dY (ep prog 61 [] f104) (.r (.r (.b (.r (.l (.j ⟨[.val 28 y0],[1,26,27]⟩ .e))) (.r (.l (.r (.l (.j ⟨[.val 51 y0],[49,50]⟩ .e))))))))
def ny(rec:(ak×Unit)->Option Int)(a0:ak):Option Int:=(bif decide (a0.aH<1)then some true else some (decide ((aA .i64 (a0.aX.length:Int) (a0.aL.length:Int))<a0.aH))).bind λb1=>bif b1 then some 4 else aB (λ(v2:Int×Unit)=>bif decide (v2.1<(a0.aX.length:Int))then(idx a0.aX v2.1).bind λx3=>(bif decide (x3<0)then some true else some (decide (10<=x3))).bind λb4=>bif b4 then oR (some 5)else some (Sum.inl ((aA .i64 v2.1 1),()))else oR ((yZ a0.aX).bind λr5=>bif (!decide (r5.2.1=0))then some r5.2.1 else aB (λ(v6:Int×Unit)=>bif decide (v6.1<(a0.aL.length:Int))then(idx a0.aL v6.1).bind λx7=>(rec ((aq x7),())).bind λr8=>bif (!decide (r8=0))then oR (some r8)else some (Sum.inl ((aA .i64 v6.1 1),()))else oR (some 0)) (0,()))) (0,())
noncomputable def pR:Nat->(ak×Unit)->Option Int:=jg (λrec a=>ny rec a.1)
def tj(a0:ak):Option Int:=pR (SizeOf.sizeOf a0+1) (a0,())
noncomputable def Rq:KS U prog:=⟨.fn 104 [t4] q0 λa=>tj a.1,CW (K:=K) (A_s:=[t4]) (r:= .one y0) (B:=λrec a=>ny rec a.1) N1 61 [.tmp 2] [WN] (fk f104 [] func104) (hF:=λa=>⟨_,rfl⟩)⟩
def dD(a0:ak):Option Int:=(Bl (aq a0)).bind λr1=>(bif decide (4<r1)then some true else(Dg (aq a0)).bind λr2=>some (decide (200<r2))).bind λb3=>bif b3 then some 3 else(tj (aq a0)).bind λr4=>some r4
def GV:=kf func54 [t4] q0 (u1 dD) [] .e [Rr,SQ,Rq]
def wT(a0:Int)(a1:ak):Option (aF×Int×Unit):=(bif decide (a0<0)then some true else some (decide (9<a0))).bind λb1=>bif b1 then some ((aF.mk 0 false (ak.mk 0 [] []) []),5,())else(dD (aq a1)).bind λr2=>bif (!decide (r2=0))then some ((aF.mk 0 false (ak.mk 0 [] []) []),1,())else some ((aF.mk a0 false (aq a1) []),0,())
def Uz:=kf func15 [t0,t4] (.many [y17,y0]) (u2 wT) [] .e [GV]
def uc(s:eG)(a0:List ByteArray):Option (ByteArray×eG):=(cq s (a0.length:Int)).bind λp1=>(idx a0 p1.1).bind λx2=>some (x2,p1.2)
def MQ:=kr func57 0 y12 [t9] (.one y3) (λs a=>uc s a.1) [] .e [uE]
def iW(s:eG):Option (ByteArray×eG):=(uc s [(ByteArray.mk #[97]),(ByteArray.mk #[98]),(ByteArray.mk #[99]),(ByteArray.mk #[97,97])]).bind λp1=>some (p1.1,p1.2)
def sD:=kr func18 0 y12 [] (.one y3) (λs a=>iW s) [] .e [MQ]
noncomputable def jb(a0:ae):Option Bool:=(bif decide (1<=a0.ai)then some (decide (a0.ai<=1000))else some false).bind λb1=>(bif b1 then some true else some (decide (a0.ai=1000000))).bind λb2=>(bif b2 then some (decide (1<=(ByteArray.size a0.Value:Int)))else some false).bind λb3=>(bif b3 then some (decide ((ByteArray.size a0.Value:Int)<=200))else some false).bind λb4=>some b4
def Rp:=kf func153 [t2] q1 (u1 jb) [] .e []
noncomputable def bL(a0:ae):Option Bool:=some (lC false a0.ai 0 a0.Value bE)
def yx:=kf func154 [t2] q1 (u1 bL) [] .e []
noncomputable def nN(a0:ByteArray)(a1:ByteArray):Option Bool:=bif (!decide ((ByteArray.size a0:Int)=(ByteArray.size a1:Int)))then some (decide ((ByteArray.size a0:Int)<(ByteArray.size a1:Int)))else some (kO a0 a1)
def JC:=kf func219 [t3,t3] q1 (u2 nN) [] .e []
def fA(a0:ae)(a1:ae):Option Bool:=bif (!decide (a0.ai=a1.ai))then some (decide (a0.ai<a1.ai))else(nN a0.Value a1.Value).bind λr1=>some r1
def CI:=kf func155 [t2,t2] q1 (u2 fA) [] .e [JC]
noncomputable def cx(a0:ae)(a1:ae):Option Bool:=some (decide (a0.Value=a1.Value))
def uD:=kf func156 [t2,t2] q1 (u2 cx) [] .e []
def lV(a0:ae)(a1:ae):Option Bool:=(bL a0).bind λr1=>(bif (!r1)then(cx a0 a1).bind λr2=>some r2 else some false).bind λb3=>(bif b3 then some (decide (a1.ai<=a0.ai))else some false).bind λb4=>some b4
def Ol:=kf func220 [t2,t2] q1 (u2 lV) [] .e [yx,uD]
def iU(a0:ae)(a1:ae)(a2:ae):Option Bool:=(lV a0 a2).bind λr1=>(bif r1 then some true else(lV a1 a2).bind λr2=>some r2).bind λb3=>(bif b3 then some true else(bL a1).bind λr4=>(bif (!r4)then(fA a2 a1).bind λr5=>some r5 else some false).bind λb6=>some b6).bind λb7=>some b7
def KY:=kf func157 [t2,t2,t2] q1 (u3 iU) [] .e [Ol,yx,CI]
def gz(a0:ae)(a1:ae):Option Bool:=(bL a0).bind λr1=>(bif (!r1)then(cx a0 a1).bind λr2=>some (!r2)else some false).bind λb3=>(bif b3 then(fA a1 a0).bind λr4=>some r4 else some false).bind λb5=>some b5
def Om:=kf func158 [t2,t2] q1 (u2 gz) [] .e [yx,uD,CI]
def c7(a0:aj):Option Bool:=(bif decide (a0.al<0)then some true else some (decide (9<a0.al))).bind λb1=>(bif b1 then some true else some (decide (a0.aK<1))).bind λb2=>(bif b2 then some true else some (decide (1000000<a0.aK))).bind λb3=>(bif b3 then some true else some (decide (a0.aG<1))).bind λb4=>(bif b4 then some true else some (decide (1000000<a0.aG))).bind λb5=>(bif b5 then some true else(dD (aq a0.aa)).bind λr6=>some (!decide (r6=0))).bind λb7=>(bif b7 then some true else(jb a0.ab).bind λr8=>some (!r8)).bind λb9=>bif b9 then some false else(bL a0.ao).bind λr10=>bif decide (a0.bC=1)then(bif decide (1000<a0.ab.ai)then some true else(bif (!r10)then(jb a0.ao).bind λr11=>some (!r11)else some false).bind λb12=>some b12).bind λb13=>bif b13 then some false else(bL a0.az).bind λr14=>(bif (!r14)then(bif r10 then some true else(jb a0.az).bind λr15=>some (!r15)).bind λb16=>(bif b16 then some true else(fA a0.az a0.ao).bind λr17=>some (!r17)).bind λb18=>(bif b18 then some true else(cx a0.az a0.ao).bind λr19=>some r19).bind λb20=>some b20 else some false).bind λb21=>bif b21 then some false else(bif decide (a0.aY<0)then some true else some (decide (a0.bq<a0.aY))).bind λb22=>(bif b22 then some true else some (decide (a0.ab.ai<a0.bq))).bind λb23=>bif b23 then some false else(bif decide (0<a0.bq)then(iU a0.ao a0.az (ae.mk a0.bq a0.ab.Value)).bind λr24=>some (!r24)else some false).bind λb25=>bif b25 then some false else(bif decide (a0.aY=0)then some true else(gz a0.ao (ae.mk a0.aY a0.ab.Value)).bind λr26=>(bif (!r26)then(gz a0.az (ae.mk a0.aY a0.ab.Value)).bind λr27=>some (!r27)else some false).bind λb28=>some b28).bind λb29=>some b29 else bif decide (a0.bC=2)then(bif decide (a0.ab.ai<=1000)then(jb a0.ao).bind λr30=>some r30 else some false).bind λb31=>(bif b31 then(cx a0.ao a0.ab).bind λr32=>some r32 else some false).bind λb33=>(bif b33 then(bL a0.az).bind λr34=>some r34 else some false).bind λb35=>(bif b35 then some (decide (1<=a0.aY))else some false).bind λb36=>(bif b36 then some (decide (a0.aY<=a0.bq))else some false).bind λb37=>(bif b37 then some (decide (a0.bq<=a0.ao.ai))else some false).bind λb38=>(bif b38 then some (decide (a0.bq<=1000))else some false).bind λb39=>some b39 else bif decide (a0.bC=3)then(bif r10 then(bL a0.az).bind λr40=>some r40 else some false).bind λb41=>(bif b41 then some (decide (1<=a0.aY))else some false).bind λb42=>(bif b42 then some (decide (a0.aY<=a0.bq))else some false).bind λb43=>(bif b43 then some (decide (a0.bq<=1000))else some false).bind λb44=>some b44 else some false
def Ro:=kf func90 [t5] q1 (u1 c7) [] .e [GV,Rp,yx,CI,uD,KY,Om]
def kl(a0:af):Option aj:=bb (λ(v1:aj×Unit)=>some (eT1 v1.1)) λj2=>bif decide (a0.aP=1)then(bL a0.aw).bind λr3=>(bif (!r3)then(cx a0.aw a0.ab).bind λr4=>some r4 else some false).bind λb5=>bif b5 then j2 ({a0 with aa:=(aq a0.aa),bC:=a0.aP,bq:=a0.aw.ai},())else j2 ({a0 with aa:=(aq a0.aa),bC:=a0.aP,bq:=0},())else bif decide (a0.aP=2)then j2 ({a0 with aa:=(aq a0.aa),bC:=a0.aP,az:=zB},())else j2 ({a0 with aa:=(aq a0.aa),bC:=a0.aP,ao:=zB,az:=zB},())
def nq(a0:af):Option Bool:=(bif decide (a0.al<0)then some true else some (decide (9<a0.al))).bind λb1=>(bif b1 then some true else some (decide (a0.aK<1))).bind λb2=>(bif b2 then some true else some (decide (1000000<a0.aK))).bind λb3=>(bif b3 then some true else some (decide (a0.aG<0))).bind λb4=>(bif b4 then some true else some (decide (1000000<a0.aG))).bind λb5=>(bif b5 then some true else(dD (aq a0.aa)).bind λr6=>some (!decide (r6=0))).bind λb7=>(bif b7 then some true else some (decide (200<(ByteArray.size a0.bh:Int)))).bind λb8=>bif b8 then some false else aB (λ(v9:Int×Unit)=>bif decide (v9.1<(a0.ar.length:Int))then(idx a0.ar v9.1).bind λx10=>bb (λ(v11:Bool×Unit)=>bif v11.1 then oR (some false)else some (Sum.inl ((aA .i64 v9.1 1),()))) λj12=>(c7 (eT1 x10)).bind λr13=>bif (!r13)then j12 (true,())else bif (!decide (x10.aK=a0.aK))then j12 (true,())else bif decide (x10.al=a0.al)then j12 (true,())else bif decide (0<v9.1)then(idx a0.ar (cU .i64 v9.1 1)).bind λx14=>j12 ((decide (x10.al<=x14.al)),())else j12 (false,())else oR ((bL a0.ab).bind λr15=>bif r15 then(bif decide (a0.aP=1)then some (decide (a0.aG=0))else some false).bind λb16=>(bif b16 then(bL a0.ao).bind λr17=>some r17 else some false).bind λb18=>(bif b18 then(bL a0.az).bind λr19=>some r19 else some false).bind λb20=>(bif b20 then(bL a0.aw).bind λr21=>some r21 else some false).bind λb22=>(bif b22 then some (decide (a0.aY=0))else some false).bind λb23=>(bif b23 then some (decide (a0.bq=0))else some false).bind λb24=>some b24 else(kl (eT2 a0)).bind λr25=>(c7 (eT1 r25)).bind λr26=>bif (!r26)then some false else(bif (!decide (a0.aP=2))then some (!decide (a0.aP=3))else some false).bind λb27=>(bif b27 then some (!decide (a0.bq=0))else some false).bind λb28=>bif b28 then some false else(bif decide (a0.aP=3)then(bL a0.ao).bind λr29=>(bif (!r29)then some true else(bL a0.az).bind λr30=>some (!r30)).bind λb31=>some b31 else some false).bind λb32=>(bif b32 then some true else(bif decide (a0.aP=2)then(bL a0.az).bind λr33=>some (!r33)else some false).bind λb34=>some b34).bind λb35=>bif b35 then some false else(bL a0.aw).bind λr36=>bif r36 then some true else(jb a0.aw).bind λr37=>(bif (!r37)then some true else some (decide (1000<a0.aw.ai))).bind λb38=>bif b38 then some false else bif decide (a0.aP=1)then(iU a0.ao a0.az a0.aw).bind λr39=>some r39 else(cx a0.aw a0.ab).bind λr40=>some r40)) (0,())
noncomputable def w9(a0:ByteArray):Option Bool:=(bif decide (1<=(ByteArray.size a0:Int))then some (decide ((ByteArray.size a0:Int)<=200))else some false).bind λb1=>some b1
noncomputable def jL(a0:ByteArray)(a1:ByteArray):Option Int:=bif decide (a0=a1)then some 0 else(bif decide ((ByteArray.size a0:Int)<(ByteArray.size a1:Int))then some true else(bif decide ((ByteArray.size a0:Int)=(ByteArray.size a1:Int))then some (kO a0 a1)else some false).bind λb1=>some b1).bind λb2=>bif b2 then some (-1:Int)else some 1
def nr(a0:List ByteArray):Option Bool:=aB (λ(v1:Int×Unit)=>bif decide (v1.1<(a0.length:Int))then(idx a0 v1.1).bind λx2=>(w9 x2).bind λr3=>(bif (!r3)then some true else(bif decide (0<v1.1)then(idx a0 (cU .i64 v1.1 1)).bind λx4=>(jL x4 x2).bind λr5=>some (decide (0<=r5))else some false).bind λb6=>some b6).bind λb7=>bif b7 then oR (some false)else some (Sum.inl ((aA .i64 v1.1 1),()))else oR (some (decide ((a0.length:Int)<=40)))) (0,())
noncomputable def ow(a0:List ByteArray)(a1:ByteArray):Option Bool:=aB (λ(v1:Int×Unit)=>bif decide (v1.1<(a0.length:Int))then(idx a0 v1.1).bind λx2=>bif decide (a1=x2)then oR (some true)else some (Sum.inl ((aA .i64 v1.1 1),()))else oR (some false)) (0,())
def xb(a0:ay):Option Bool:=(bif decide (0<=a0.al)then some (decide (a0.al<10))else some false).bind λb1=>(bif b1 then some (decide (1<=a0.aG))else some false).bind λb2=>(bif b2 then(dD (aq a0.aa)).bind λr3=>some (decide (r3=0))else some false).bind λb4=>(bif b4 then(nr a0.bm).bind λr5=>some r5 else some false).bind λb6=>(bif b6 then(nr a0.aE).bind λr7=>some r7 else some false).bind λb8=>some b8
def xa(a0:av):Option Bool:=(bif decide (a0.al<0)then some true else some (decide (10<=a0.al))).bind λb1=>(bif b1 then some true else some (decide (a0.aK<0))).bind λb2=>(bif b2 then some true else some (decide (1000000<a0.aK))).bind λb3=>(bif b3 then some true else some (decide (a0.Round<1))).bind λb4=>(bif b4 then some true else some (decide (1000<a0.Round))).bind λb5=>(bif b5 then some true else some (decide (a0.aG<1))).bind λb6=>(bif b6 then some true else some (decide (1000000<a0.aG))).bind λb7=>bif b7 then some false else(dD (aq a0.aa)).bind λr8=>(bif (!decide (r8=0))then some true else some (decide (200<(ByteArray.size a0.me:Int)))).bind λb9=>(bif b9 then some true else(nr a0.bm).bind λr10=>some (!r10)).bind λb11=>(bif b11 then some true else(nr a0.aE).bind λr12=>some (!r12)).bind λb13=>(bif b13 then some true else(nr a0.aR).bind λr14=>some (!r14)).bind λb15=>bif b15 then some false else aB (λ(v16:Int×Unit)=>bif decide (v16.1<(a0.aR.length:Int))then(idx a0.aR v16.1).bind λx17=>(ow a0.aE x17).bind λr18=>bif (!r18)then oR (some false)else some (Sum.inl ((aA .i64 v16.1 1),()))else oR (aB (λ(v19:Int×Unit)=>bif decide (v19.1<(a0.ar.length:Int))then(idx a0.ar v19.1).bind λx20=>bb (λ(v21:Bool×Unit)=>bif v21.1 then oR (some false)else some (Sum.inl ((aA .i64 v19.1 1),()))) λj22=>(xb {x20 with aa:=(aq x20.aa)}).bind λr23=>bif (!r23)then j22 (true,())else bif decide (x20.al=a0.al)then j22 (true,())else bif decide (0<v19.1)then(idx a0.ar (cU .i64 v19.1 1)).bind λx24=>j22 ((decide (x20.al<=x24.al)),())else j22 (false,())else oR (some true)) (0,()))) (0,())
noncomputable def IM(a0:List Int)(a1:List Int):Option Bool:=bif (!decide ((a0.length:Int)=(a1.length:Int)))then some false else aB (λ(v1:Int×Unit)=>bif decide (v1.1<(a0.length:Int))then(idx a0 v1.1).bind λx2=>(idx a1 v1.1).bind λx3=>bif (!decide (x2=x3))then oR (some false)else some (Sum.inl ((aA .i64 v1.1 1),()))else oR (some true)) (0,())
def Dj(rec:(ak×ak×Unit)->Option Bool)(a0:ak)(a1:ak):Option Bool:=(bif (!decide (a0.aH=a1.aH))then some true else(IM a0.aX a1.aX).bind λr1=>some (!r1)).bind λb2=>(bif b2 then some true else some (!decide ((a0.aL.length:Int)=(a1.aL.length:Int)))).bind λb3=>bif b3 then some false else aB (λ(v4:Int×Unit)=>bif decide (v4.1<(a0.aL.length:Int))then(idx a0.aL v4.1).bind λx5=>(idx a1.aL v4.1).bind λx6=>(rec ((aq x5),(aq x6),())).bind λr7=>bif (!r7)then oR (some false)else some (Sum.inl ((aA .i64 v4.1 1),()))else oR (some true)) (0,())
noncomputable def Dd:Nat->(ak×ak×Unit)->Option Bool:=jg (λrec a=>Dj rec a.1 a.2.1)
def vd(a0:ak)(a1:ak):Option Bool:=Dd (SizeOf.sizeOf a0+SizeOf.sizeOf a1+1) (a0,a1,())
noncomputable def Bj(a0:fJ):Option Bool:=(bif decide (0<=a0.ai)then some (decide (a0.ai<=1000000))else some false).bind λb1=>(bif b1 then some (decide ((-1:Int)<=a0.IN))else some false).bind λb2=>(bif b2 then some (decide (a0.IN<=212))else some false).bind λb3=>some b3
def tZ(a0:af):Option (ByteArray×Bool×Unit):=(nq (eT2 a0)).bind λr1=>(bif (!r1)then some true else some (!decide (a0.aP=3))).bind λb2=>bif b2 then some (bE,false,())else some (a0.ab.Value,true,())
def w7(a0:aS):Option Bool:=(nq (eT2 a0.ah)).bind λr1=>(bif (!r1)then some true else(xa (eT0 a0.aC)).bind λr2=>some (!r2)).bind λb3=>(bif b3 then some true else some (!decide (a0.aC.al=a0.ah.al))).bind λb4=>(bif b4 then some true else some (!decide (a0.aC.aK=a0.ah.aK))).bind λb5=>(bif b5 then some true else(vd (aq a0.aC.aa) (aq a0.ah.aa)).bind λr6=>some (!r6)).bind λb7=>(bif b7 then some true else(Bj a0.Timer).bind λr8=>some (!r8)).bind λb9=>bif b9 then some false else(tZ (eT2 a0.ah)).bind λr10=>(bif decide (1<=a0.Round)then some (decide (a0.Round<=1000))else some false).bind λb11=>(bif b11 then some (decide (0<=a0.Next))else some false).bind λb12=>(bif b12 then some (decide (a0.Next<=212))else some false).bind λb13=>(bif b13 then some (xor false (decide (a0.OX=r10.2.1)))else some false).bind λb14=>(bif b14 then some (decide (a0.Value=r10.1))else some false).bind λb15=>some b15
def Ex(a0:Int)(a1:Int)(a2:ak):Option (af×Int×Unit):=(bif decide (a0<0)then some true else some (decide (9<a0))).bind λb1=>bif b1 then some ((af.mk 0 0 0 (ak.mk 0 [] []) 0 zB zB zB zB 0 0 bE []),5,())else(bif decide (a1<1)then some true else some (decide (1000000<a1))).bind λb2=>bif b2 then some ((af.mk 0 0 0 (ak.mk 0 [] []) 0 zB zB zB zB 0 0 bE []),77,())else(dD (aq a2)).bind λr3=>bif (!decide (r3=0))then some ((af.mk 0 0 0 (ak.mk 0 [] []) 0 zB zB zB zB 0 0 bE []),1,())else some ((af.mk a0 a1 0 (aq a2) 1 zB zB zB zB 0 0 bE []),0,())
def xc(a0:ak)(a1:Int)(a2:Int)(a3:Int):Option Int:=(dD (aq a0)).bind λr1=>bif (!decide (r1=0))then some r1 else(bif decide (a1<0)then some true else some (decide (10<=a1))).bind λb2=>bif b2 then some 5 else(bif decide (a2<0)then some true else some (decide (1000000<a2))).bind λb3=>(bif b3 then some true else some (decide (a3<1))).bind λb4=>(bif b4 then some true else some (decide (1000<a3))).bind λb5=>bif b5 then some 1 else some 0
noncomputable def kM(rec:(ak×Int×Unit)->Option (eQ×Bool×Unit))(a0:ak)(a1:Int):Option (eQ×Bool×Unit):=aB (λ(v1:Int×eQ×Unit)=>bif decide (v1.1<(a0.aX.length:Int))then(idx a0.aX v1.1).bind λx2=>bif decide (x2=a1)then oR (some ((eQ.mk a0.aH (aA .i64 (a0.aX.length:Int) (a0.aL.length:Int))),true,()))else some (Sum.inl ((aA .i64 v1.1 1),v1.2.1,()))else oR (aB (λ(v3:Int×eQ×Unit)=>bif decide (v3.1<(a0.aL.length:Int))then(idx a0.aL v3.1).bind λx4=>(rec ((aq x4),a1,())).bind λr5=>bif r5.2.1 then oR (some ((eQ.mk (oO .i64 a0.aH r5.1.Rf) (oO .i64 (aA .i64 (a0.aX.length:Int) (a0.aL.length:Int)) r5.1.Rg)),true,()))else some (Sum.inl ((aA .i64 v3.1 1),v3.2.1,()))else oR (some ((eQ.mk 0 0),false,()))) (0,v1.2.1,()))) (0,(eQ.mk 0 0),())
noncomputable def rP:Nat->(ak×Int×Unit)->Option (eQ×Bool×Unit):=jg (λrec a=>kM rec a.1 a.2.1)
def z7(a0:ak)(a1:Int):Option (eQ×Bool×Unit):=rP (SizeOf.sizeOf a0+SizeOf.sizeOf a1+1) (a0,a1,())
noncomputable def pc(a0:Int)(a1:Int)(a2:Int)(a3:Int):Option Int:=some (bx .u32 (kg .u64 (dw .u64 (oO .u64 (dw .u64 (oO .u64 (dw .u64 (aA .u64 (dw .u64 (dw .u64 (dw .u64 (bV .u64 (bx .u64 a0) 56) (bV .u64 (bx .u64 a1) 24)) (bV .u64 (bx .u64 a2) 8)) (bx .u64 a3)) 11400714819323198485) (kg .u64 (aA .u64 (dw .u64 (dw .u64 (dw .u64 (bV .u64 (bx .u64 a0) 56) (bV .u64 (bx .u64 a1) 24)) (bV .u64 (bx .u64 a2) 8)) (bx .u64 a3)) 11400714819323198485) 30)) 13787848793156543929) (kg .u64 (oO .u64 (dw .u64 (aA .u64 (dw .u64 (dw .u64 (dw .u64 (bV .u64 (bx .u64 a0) 56) (bV .u64 (bx .u64 a1) 24)) (bV .u64 (bx .u64 a2) 8)) (bx .u64 a3)) 11400714819323198485) (kg .u64 (aA .u64 (dw .u64 (dw .u64 (dw .u64 (bV .u64 (bx .u64 a0) 56) (bV .u64 (bx .u64 a1) 24)) (bV .u64 (bx .u64 a2) 8)) (bx .u64 a3)) 11400714819323198485) 30)) 13787848793156543929) 27)) 10723151780598845931) (kg .u64 (oO .u64 (dw .u64 (oO .u64 (dw .u64 (aA .u64 (dw .u64 (dw .u64 (dw .u64 (bV .u64 (bx .u64 a0) 56) (bV .u64 (bx .u64 a1) 24)) (bV .u64 (bx .u64 a2) 8)) (bx .u64 a3)) 11400714819323198485) (kg .u64 (aA .u64 (dw .u64 (dw .u64 (dw .u64 (bV .u64 (bx .u64 a0) 56) (bV .u64 (bx .u64 a1) 24)) (bV .u64 (bx .u64 a2) 8)) (bx .u64 a3)) 11400714819323198485) 30)) 13787848793156543929) (kg .u64 (oO .u64 (dw .u64 (aA .u64 (dw .u64 (dw .u64 (dw .u64 (bV .u64 (bx .u64 a0) 56) (bV .u64 (bx .u64 a1) 24)) (bV .u64 (bx .u64 a2) 8)) (bx .u64 a3)) 11400714819323198485) (kg .u64 (aA .u64 (dw .u64 (dw .u64 (dw .u64 (bV .u64 (bx .u64 a0) 56) (bV .u64 (bx .u64 a1) 24)) (bV .u64 (bx .u64 a2) 8)) (bx .u64 a3)) 11400714819323198485) 30)) 13787848793156543929) 27)) 10723151780598845931) 31)) 32))
def nP(a0:ak)(a1:Int)(a2:Int)(a3:Int)(a4:Int):Option Bool:=(xc (aq a0) a1 a2 a3).bind λr1=>(bif (!decide (r1=0))then some true else some (decide (a4<0))).bind λb2=>(bif b2 then some true else some (decide (10<=a4))).bind λb3=>bif b3 then some false else(z7 (aq a0) a4).bind λr4=>bb (λ(v5:Bool×Unit)=>some v5.1) λj6=>bif decide (a4=a1)then j6 (true,())else bif r4.2.1 then(pc 1 a2 a3 a4).bind λr7=>j6 ((decide ((oO .i64 (bx .i64 r7) r4.1.Rg)<(bV .i64 r4.1.Rf 32))),())else j6 (false,())
def lW(a0:ak)(a1:Int)(a2:Int)(a3:Int):Option (Int×Int×Unit):=(xc (aq a0) a1 a2 a3).bind λr1=>bif (!decide (r1=0))then some (0,r1,())else aB (λ(v2:Int×Int×Unit)=>bif decide (v2.2.1<10)then bb (λ(v3:Int×Unit)=>some (Sum.inl (v3.1,(aA .i64 v2.2.1 1),()))) λj4=>(nP (aq a0) a1 a2 a3 v2.2.1).bind λr5=>bif (!r5)then j4 (v2.1,())else(pc 2 a2 a3 v2.2.1).bind λr6=>(pc 2 a2 a3 v2.1).bind λr7=>(bif decide (r7<r6)then some true else(bif decide (r6=r7)then some (decide (v2.1<v2.2.1))else some false).bind λb8=>some b8).bind λb9=>bif b9 then j4 (v2.2.1,())else j4 (v2.1,())else oR (some (v2.1,0,()))) (a1,0,())
def qy(a0:ak)(a1:Int)(a2:Int)(a3:Int):Option (Int×Int×Unit):=(lW (aq a0) a1 a2 a3).bind λr1=>bif (!decide (r1.2.1=0))then some (0,r1.2.1,())else aB (λ(v2:Int×Int×Unit)=>bif decide (v2.2.1<=a3)then bb (λ(v3:Int×Unit)=>some (Sum.inl (v3.1,(aA .i64 v2.2.1 1),()))) λj4=>(lW (aq a0) a1 a2 v2.2.1).bind λr5=>(jT v2.1 r5.1).bind λr6=>bif (!r6)then if r5.1<0 then none else j4 ((qY .i64 v2.1 (bV .i64 1 r5.1)),())else j4 (v2.1,())else oR (some (v2.1,0,()))) (0,1,())
def tk(a0:Int):Option (List Int):=aB (λ(v1:Int×List Int×Unit)=>bif decide (v1.1<10)then bb (λ(v2:(List Int)×Unit)=>some (Sum.inl ((aA .i64 v1.1 1),v2.1,()))) λj3=>(jT a0 v1.1).bind λr4=>bif r4 then bif bl 8 (v1.2.1.length+List.length [v1.1])then j3 ((v1.2.1++[v1.1]),())else none else j3 (v1.2.1,())else oR (some v1.2.1)) (0,[],())
def ou(a0:List ByteArray)(a1:ByteArray):Option (List ByteArray):=(ow a0 a1).bind λr1=>(bif r1 then some true else some (decide (40<=(a0.length:Int)))).bind λb2=>bif b2 then some a0 else aB (λ(v3:Bool×Int×List ByteArray×Unit)=>bif decide (v3.2.1<(a0.length:Int))then(idx a0 v3.2.1).bind λx4=>bb (λ(v5:Bool×List ByteArray×Unit)=>bif bl 16 (v5.2.1.length+List.length [x4])then some (Sum.inl (v5.1,(aA .i64 v3.2.1 1),(v5.2.1++[x4]),()))else none) λj6=>(bif (!v3.1)then(jL a1 x4).bind λr7=>some (decide (r7<0))else some false).bind λb8=>bif b8 then bif bl 16 (v3.2.2.1.length+List.length [a1])then j6 (true,(v3.2.2.1++[a1]),())else none else j6 (v3.1,v3.2.2.1,())else oR (bb (λ(v9:(List ByteArray)×Unit)=>some v9.1) λj10=>bif (!v3.1)then bif bl 16 (v3.2.2.1.length+List.length [a1])then j10 ((v3.2.2.1++[a1]),())else none else j10 (v3.2.2.1,()))) (false,0,[],())
def kc(a0:List ByteArray)(a1:List ByteArray):Option (List ByteArray):=aB (λ(v1:Int×Int×List ByteArray×Unit)=>(bif decide (v1.1<(a0.length:Int))then some true else some (decide (v1.2.1<(a1.length:Int)))).bind λb2=>bif b2 then bb (λ(v3:Int×Int×ByteArray×Unit)=>bif bl 16 (v1.2.2.1.length+List.length [v3.2.2.1])then some (Sum.inl (v3.1,v3.2.1,(v1.2.2.1++[v3.2.2.1]),()))else none) λj4=>bb (λ(v5:Bool×Unit)=>bif v5.1 then(idx a0 v1.1).bind λx7=>j4 ((aA .i64 v1.1 1),v1.2.1,x7,())else bb (λ(v8:Bool×Unit)=>bif v8.1 then(idx a1 v1.2.1).bind λx10=>j4 (v1.1,(aA .i64 v1.2.1 1),x10,())else(idx a0 v1.1).bind λx11=>j4 ((aA .i64 v1.1 1),(aA .i64 v1.2.1 1),x11,())) λj9=>bif decide (v1.1=(a0.length:Int))then j9 (true,())else(idx a0 v1.1).bind λx12=>(idx a1 v1.2.1).bind λx13=>(jL x12 x13).bind λr14=>j9 ((decide (0<r14)),())) λj6=>bif decide (v1.2.1=(a1.length:Int))then j6 (true,())else bif decide (v1.1<(a0.length:Int))then(idx a0 v1.1).bind λx15=>(idx a1 v1.2.1).bind λx16=>(jL x15 x16).bind λr17=>j6 ((decide (r17<0)),())else j6 (false,())else oR (some v1.2.2.1)) (0,0,[],())
def rX(a0:av):Option av:=(qy (aq a0.aa) a0.al a0.aK a0.Round).bind λr1=>(tk r1.1).bind λr2=>aB (λ(v3:Int×av×Unit)=>bif decide (v3.1<(r2.length:Int))then bb (λ(v4:av×Unit)=>some (Sum.inl ((aA .i64 v3.1 1),(eT0 v4.1),()))) λj5=>(idx r2 v3.1).bind λx6=>bif decide (x6=v3.2.1.al)then bb (λ(v7:av×Unit)=>j5 ((eT0 v7.1),())) λj8=>bif (!decide (v3.2.1.me=bE))then(ou v3.2.1.bm v3.2.1.me).bind λr9=>j8 ({v3.2.1 with aa:=(aq v3.2.1.aa),bm:=r9},())else j8 ((eT0 v3.2.1),())else aB (λ(v10:Int×av×Unit)=>bif decide (v10.1<(v3.2.1.ar.length:Int))then bb (λ(v11:av×Unit)=>some (Sum.inl ((aA .i64 v10.1 1),(eT0 v11.1),()))) λj12=>(idx v3.2.1.ar v10.1).bind λx13=>bif (!decide (x13.al=x6))then j12 ((eT0 v10.2.1),())else(kc x13.bm x13.aE).bind λr14=>aB (λ(v15:Int×av×Unit)=>bif decide (v15.1<(r14.length:Int))then(idx r14 v15.1).bind λx16=>(ou v15.2.1.bm x16).bind λr17=>some (Sum.inl ((aA .i64 v15.1 1),{v15.2.1 with aa:=(aq v15.2.1.aa),bm:=r17},()))else oR (j12 ((eT0 v15.2.1),()))) (0,(eT0 v10.2.1),())else oR (j5 ((eT0 v10.2.1),()))) (0,(eT0 v3.2.1),())else oR (some (eT0 v3.2.1))) (0,(eT0 a0),())
def pT(a0:av):Option (List ByteArray):=(kc a0.bm a0.aE).bind λr1=>aB (λ(v2:(List ByteArray)×Int×Unit)=>bif decide (v2.2.1<(a0.ar.length:Int))then(idx a0.ar v2.2.1).bind λx3=>(kc x3.bm x3.aE).bind λr4=>(kc v2.1 r4).bind λr5=>some (Sum.inl (r5,(aA .i64 v2.2.1 1),()))else oR (some v2.1)) (r1,0,())
noncomputable def Ez(a0:av):Option ay:=some {a0 with aa:=(aq a0.aa)}
def lD(a0:av)(a1:ByteArray):Option (Int×Int×Unit):=bif bl 120 (List.length ([]:List ay)+a0.ar.length)then(Ez (eT0 a0)).bind λr1=>bif bl 120 (List.length (([]:List ay)++a0.ar)+List.length [{r1 with aa:=(aq r1.aa)}])then aB (λ(v2:Int×Int×Int×Unit)=>bif decide (v2.2.2.1<((List.length ((([]:List ay)++a0.ar)++[{r1 with aa:=(aq r1.aa)}]):Nat):Int))then bb (λ(v3:Int×Int×Unit)=>some (Sum.inl (v3.1,v3.2.1,(aA .i64 v2.2.2.1 1),()))) λj4=>(idx ((([]:List ay)++a0.ar)++[{r1 with aa:=(aq r1.aa)}]) v2.2.2.1).bind λx5=>(((([]:List ay)++a0.ar)++[{r1 with aa:=(aq r1.aa)}])[(Int.toNat v2.2.2.1)]?).bind λx6=>bb (λ(v7:Int×Unit)=>(ow x6.aE a1).bind λr9=>bif r9 then if x6.al<0 then none else j4 (v7.1,(qY .i64 v2.2.1 (bV .i64 1 x6.al)),())else j4 (v7.1,v2.2.1,())) λj8=>(ow x6.bm a1).bind λr10=>bif r10 then if x6.al<0 then none else j8 ((qY .i64 v2.1 (bV .i64 1 x6.al)),())else j8 (v2.1,())else oR (some (v2.1,v2.2.1,()))) (0,0,0,())else none else none
noncomputable def Rv(a0:lK):Option Bool:=(bif decide (0<=a0.sN)then some (decide (a0.sN<8))else some false).bind λb1=>(bif b1 then some (decide (0<=a0.Value))else some false).bind λb2=>(bif b2 then some (decide (a0.Value<=15))else some false).bind λb3=>some b3
noncomputable def NR(a0:lK)(a1:lK):Option Int:=bif (xor false (decide (a0.sN=a1.sN)&&(decide (a0.Value=a1.Value)&&true)))then some 0 else(bif decide (a0.sN<a1.sN)then some true else(bif decide (a0.sN=a1.sN)then some (decide (a0.Value<a1.Value))else some false).bind λb1=>some b1).bind λb2=>bif b2 then some (-1:Int)else some 1
def pU(a0:List lK):Option Bool:=aB (λ(v1:Int×Unit)=>bif decide (v1.1<(a0.length:Int))then(idx a0 v1.1).bind λx2=>bb (λ(v3:Bool×Unit)=>bif v3.1 then oR (some false)else some (Sum.inl ((aA .i64 v1.1 1),()))) λj4=>(Rv x2).bind λr5=>bif (!r5)then j4 (true,())else bif decide (0<v1.1)then(idx a0 (cU .i64 v1.1 1)).bind λx6=>(NR x6 x2).bind λr7=>j4 ((decide (0<=r7)),())else j4 (false,())else oR (some true)) (0,())
def ti(a0:cy):Option Bool:=(bif decide (0<=a0.al)then some (decide (a0.al<10))else some false).bind λb1=>(bif b1 then some (decide (1<=a0.aG))else some false).bind λb2=>(bif b2 then(dD (aq a0.aa)).bind λr3=>some (decide (r3=0))else some false).bind λb4=>(bif b4 then(pU a0.bm).bind λr5=>some r5 else some false).bind λb6=>(bif b6 then(pU a0.aE).bind λr7=>some r7 else some false).bind λb8=>some b8
def rY(a0:Int)(a1:ak)(a2:List cy):Option bd:=bif decide ((10:Int)<=10)&&decide ((0:Int)<=10)&&bl 64 (Int.toNat 10)then aB (λ(v1:Int×bd×List bf×Unit)=>bif decide (v1.1<(a2.length:Int))then bb (λ(v2:bd×List bf×Unit)=>some (Sum.inl ((aA .i64 v1.1 1),(bd.mk []),v2.2.1,()))) λj3=>(idx a2 v1.1).bind λx4=>(ti {x4 with aa:=(aq x4.aa)}).bind λr5=>bif r5 then(idx v1.2.2.1 x4.al).bind λx6=>(v1.2.2.1[(Int.toNat x4.al)]?).bind λx7=>j3 ((bd.mk []),(v1.2.2.1.set (Int.toNat x4.al) (bf.mk true (aq x4.aa))),())else j3 ((bd.mk []),v1.2.2.1,())else oR (bb (λ(v8:bd×List bf×Unit)=>some (bd.mk v8.2.1)) λj9=>(bif decide (0<=a0)then some (decide (a0<10))else some false).bind λb10=>bif b10 then(idx v1.2.2.1 a0).bind λx11=>(v1.2.2.1[(Int.toNat a0)]?).bind λx12=>(dD (aq a1)).bind λr13=>bif decide (r13=0)then(idx (v1.2.2.1.set (Int.toNat a0) (bf.mk false (ak.mk 0 [] []))) a0).bind λx14=>((v1.2.2.1.set (Int.toNat a0) (bf.mk false (ak.mk 0 [] [])))[(Int.toNat a0)]?).bind λx15=>j9 ((bd.mk []),((v1.2.2.1.set (Int.toNat a0) (bf.mk false (ak.mk 0 [] []))).set (Int.toNat a0) (bf.mk true (aq a1))),())else j9 ((bd.mk []),(v1.2.2.1.set (Int.toNat a0) (bf.mk false (ak.mk 0 [] []))),())else j9 ((bd.mk []),v1.2.2.1,()))) (0,(bd.mk []),(List.replicate (Int.toNat 10) (bf.mk false (ak.mk 0 [] []))),())else none
def mG(a0:av):Option bd:=aB (λ(v1:Int×List cy×Unit)=>bif decide (v1.1<(a0.ar.length:Int))then(idx a0.ar v1.1).bind λx2=>bif bl 120 (v1.2.1.length+List.length [(cy.mk x2.al x2.aG (aq x2.aa) [] [])])then some (Sum.inl ((aA .i64 v1.1 1),(v1.2.1++[(cy.mk x2.al x2.aG (aq x2.aa) [] [])]),()))else none else oR ((rY a0.al (aq a0.aa) v1.2.1).bind λr3=>some r3)) (0,[],())
noncomputable def pd(a0:bd):Option Int:=aB (λ(v1:Int×Int×Unit)=>bif decide (v1.2.1<(a0.bn.length:Int))then bb (λ(v2:Int×Unit)=>some (Sum.inl (v2.1,(aA .i64 v1.2.1 1),()))) λj3=>(idx a0.bn v1.2.1).bind λx4=>(bif decide (v1.2.1<10)then some x4.fm else some false).bind λb5=>bif b5 then if v1.2.1<0 then none else j3 ((qY .i64 v1.1 (bV .i64 1 v1.2.1)),())else j3 (v1.1,())else oR (some v1.1)) (0,0,())
def lB(rec:(ak×Int×Unit)->Option Bool)(a0:ak)(a1:Int):Option Bool:=(eP a1).bind λr1=>bif (!r1)then some false else aB (λ(v2:Int×Int×Unit)=>bif decide (v2.2.1<(a0.aX.length:Int))then bb (λ(v3:Int×Unit)=>some (Sum.inl (v3.1,(aA .i64 v2.2.1 1),()))) λj4=>(idx a0.aX v2.2.1).bind λx5=>(jT a1 x5).bind λr6=>bif r6 then j4 ((aA .i64 v2.1 1),())else j4 (v2.1,())else oR (aB (λ(v7:Int×Int×Unit)=>bif decide (v7.2.1<(a0.aL.length:Int))then bb (λ(v8:Int×Unit)=>some (Sum.inl (v8.1,(aA .i64 v7.2.1 1),()))) λj9=>(idx a0.aL v7.2.1).bind λx10=>(rec ((aq x10),a1,())).bind λr11=>bif r11 then j9 ((aA .i64 v7.1 1),())else j9 (v7.1,())else oR (some (decide (a0.aH<=v7.1)))) (v2.1,0,()))) (0,0,())
noncomputable def rh:Nat->(ak×Int×Unit)->Option Bool:=jg (λrec a=>lB rec a.1 a.2.1)
def ly(a0:ak)(a1:Int):Option Bool:=rh (SizeOf.sizeOf a0+SizeOf.sizeOf a1+1) (a0,a1,())
def rZ(a0:bd)(a1:Int)(a2:Int):Option Bool:=(eP a2).bind λr1=>(bif (!r1)then some true else(pd a0).bind λr2=>(jT r2 a1).bind λr3=>some (!r3)).bind λb4=>bif b4 then some false else(idx a0.bn a1).bind λx5=>if a1<0 then none else(ly (aq x5.aa) (qY .i64 (cU .i64 1023 a2) (bV .i64 1 a1))).bind λr6=>some (!r6)
def tK(a0:bd)(a1:Int):Option (List Int):=(eP a1).bind λr1=>bif (!r1)then some []else(pd a0).bind λr2=>aB (λ(v3:Int×Bool×List Int×Unit)=>bif v3.2.1 then(tk v3.1).bind λr4=>aB (λ(v5:Int×Bool×Int×List Int×Unit)=>bif decide (v5.2.2.1<(r4.length:Int))then(idx r4 v5.2.2.1).bind λx6=>(idx a0.bn x6).bind λx7=>(ly (aq x7.aa) v5.1).bind λr8=>bif (!r8)then if x6<0 then none else bif bl 8 (v5.2.2.2.1.length+List.length [x6])then oR (some (Sum.inl ((cU .i64 v5.1 (bV .i64 1 x6)),true,(v5.2.2.2.1++[x6]),())))else none else some (Sum.inl (v5.1,v5.2.1,(aA .i64 v5.2.2.1 1),v5.2.2.2.1,()))else oR (some (Sum.inl (v5.1,v5.2.1,v5.2.2.2.1,())))) (v3.1,false,0,v3.2.2.1,())else oR (some v3.2.2.1)) ((IF .i64 a1 r2),true,[],())
def sW(a0:bd)(a1:Int):Option Int:=(eP a1).bind λr1=>bif (!r1)then some 0 else(pd a0).bind λr2=>(tK a0 a1).bind λr3=>aB (λ(v4:Int×Int×Unit)=>bif decide (v4.2.1<(r3.length:Int))then(idx r3 v4.2.1).bind λx5=>if x5<0 then none else some (Sum.inl ((cU .i64 v4.1 (bV .i64 1 x5)),(aA .i64 v4.2.1 1),()))else oR (some v4.1)) ((IF .i64 a1 r2),0,())
def qz(a0:bd)(a1:Int)(a2:Int)(a3:Int):Option Bool:=(eP a2).bind λr1=>(bif (!r1)then some true else(eP a3).bind λr2=>some (!r2)).bind λb3=>bif b3 then some false else(rZ a0 a1 a3).bind λr4=>(bif r4 then some true else(sW a0 (qY .i64 a2 a3)).bind λr5=>(jT r5 a1).bind λr6=>some r6).bind λb7=>some b7
def tu(a0:av)(a1:ByteArray):Option Bool:=(lD (eT0 a0) a1).bind λr1=>bb (λ(v2:Bool×Unit)=>some v2.1) λj3=>(ow a0.aE a1).bind λr4=>bif (!r4)then bif decide ((a0.aE.length:Int)<40)then(mG (eT0 a0)).bind λr5=>(qz r5 a0.al r1.1 r1.2.1).bind λr6=>j3 (r6,())else j3 (false,())else j3 (false,())
def iV(a0:bd)(a1:Int)(a2:Int):Option Bool:=(sW a0 a2).bind λr1=>(jT r1 a1).bind λr2=>some r2
noncomputable def rV(a0:List ByteArray)(a1:List ByteArray):Option Bool:=bif (!decide ((a0.length:Int)=(a1.length:Int)))then some false else aB (λ(v1:Int×Unit)=>bif decide (v1.1<(a0.length:Int))then(idx a0 v1.1).bind λx2=>(idx a1 v1.1).bind λx3=>bif (!decide (x2=x3))then oR (some false)else some (Sum.inl ((aA .i64 v1.1 1),()))else oR (some true)) (0,())
def jK(a0:av)(a1:av):Option av:=bb (λ(v1:av×Unit)=>aB (λ(v3:Bool×av×Unit)=>bif v3.1 then(pT (eT0 v3.2.1)).bind λr4=>aB (λ(v5:Bool×Int×av×Unit)=>bif decide (v5.2.1<(r4.length:Int))then(idx r4 v5.2.1).bind λx6=>(tu (eT0 v5.2.2.1) x6).bind λr7=>bif r7 then(ou v5.2.2.1.aE x6).bind λr8=>oR (some (Sum.inl (true,{v5.2.2.1 with aa:=(aq v5.2.2.1.aa),aE:=r8},())))else some (Sum.inl (v5.1,(aA .i64 v5.2.1 1),(eT0 v5.2.2.1),()))else oR (some (Sum.inl (v5.1,(eT0 v5.2.2.1),())))) (false,0,(eT0 v3.2.1),())else oR (aB (λ(v9:Int×av×Unit)=>bif decide (v9.1<(v3.2.1.aE.length:Int))then bb (λ(v10:av×Unit)=>some (Sum.inl ((aA .i64 v9.1 1),(eT0 v10.1),()))) λj11=>(idx v3.2.1.aE v9.1).bind λx12=>(lD (eT0 v9.2.1) x12).bind λr13=>(mG (eT0 v9.2.1)).bind λr14=>(iV r14 v9.2.1.al r13.2.1).bind λr15=>bif r15 then(ou v9.2.1.aR x12).bind λr16=>j11 ({v9.2.1 with aa:=(aq v9.2.1.aa),aR:=r16},())else j11 ((eT0 v9.2.1),())else oR (bb (λ(v17:av×Unit)=>some (eT0 v17.1)) λj18=>(rV a0.bm v9.2.1.bm).bind λr19=>(bif (!r19)then some true else(rV a0.aE v9.2.1.aE).bind λr20=>some (!r20)).bind λb21=>(bif b21 then some true else(vd (aq a0.aa) (aq v9.2.1.aa)).bind λr22=>some (!r22)).bind λb23=>bif b23 then j18 ({v9.2.1 with aG:=(aA .i64 a0.aG 1),aa:=(aq v9.2.1.aa)},())else j18 ((eT0 v9.2.1),()))) (0,(eT0 v3.2.1),()))) (true,(eT0 v1.1),())) λj2=>bif decide ((a1.aR.length:Int)=0)then(rX (eT0 a1)).bind λr24=>j2 ((eT0 r24),())else j2 ((eT0 a1),())
def nu(a0:Int)(a1:Int)(a2:ak)(a3:ByteArray):Option (av×Int×Unit):=(bif decide (a0<0)then some true else some (decide (10<=a0))).bind λb1=>bif b1 then some ((av.mk 0 0 0 0 (ak.mk 0 [] []) bE [] [] [] []),5,())else(bif decide (a1<0)then some true else some (decide (1000000<a1))).bind λb2=>bif b2 then some ((av.mk 0 0 0 0 (ak.mk 0 [] []) bE [] [] [] []),1,())else(dD (aq a2)).bind λr3=>bif (!decide (r3=0))then some ((av.mk 0 0 0 0 (ak.mk 0 [] []) bE [] [] [] []),r3,())else bif decide (200<(ByteArray.size a3:Int))then some ((av.mk 0 0 0 0 (ak.mk 0 [] []) bE [] [] [] []),3,())else(jK (av.mk a0 a1 1 1 (aq a2) a3 [] [] [] []) (av.mk a0 a1 1 1 (aq a2) a3 [] [] [] [])).bind λr4=>some ({r4 with aG:=1,aa:=(aq r4.aa)},0,())
noncomputable def rR(a0:Int):Option Int:=bif decide (12<=a0)then some 12 else some (bD (aA .i64 a0 1) 1)
def nO(a0:List ByteArray):Option (ByteArray×Bool×Unit):=aB (λ(v1:ByteArray×Bool×Int×Unit)=>bif decide (v1.2.2.1<(a0.length:Int))then bb (λ(v2:ByteArray×Bool×Unit)=>some (Sum.inl (v2.1,v2.2.1,(aA .i64 v1.2.2.1 1),()))) λj3=>(idx a0 v1.2.2.1).bind λx4=>(w9 x4).bind λr5=>(bif r5 then(bif (!v1.2.1)then some true else(jL x4 v1.1).bind λr6=>some (decide (0<r6))).bind λb7=>some b7 else some false).bind λb8=>bif b8 then j3 (x4,true,())else j3 (v1.1,v1.2.1,())else oR (some (v1.1,v1.2.1,()))) (bE,false,0,())
def sV(a0:List ae):Option ae:=aB (λ(v1:Int×ae×Unit)=>bif decide (v1.1<(a0.length:Int))then bb (λ(v2:ae×Unit)=>some (Sum.inl ((aA .i64 v1.1 1),v2.1,()))) λj3=>(idx a0 v1.1).bind λx4=>(bif decide (v1.1=0)then some true else(fA v1.2.1 x4).bind λr5=>some r5).bind λb6=>bif b6 then j3 (x4,())else j3 (v1.2.1,())else oR (some v1.2.1)) (0,zB,())
def td(a0:af):Option ByteArray:=(bL a0.aw).bind λr1=>bif (!r1)then some a0.aw.Value else bif (!decide (a0.aP=1))then some a0.ab.Value else bif (!decide (a0.bh=bE))then some a0.bh else aB (λ(v2:Int×List ae×Unit)=>bif decide (v2.1<(a0.ar.length:Int))then(idx a0.ar v2.1).bind λx3=>bif bl 24 (v2.2.1.length+List.length [x3.ab])then some (Sum.inl ((aA .i64 v2.1 1),(v2.2.1++[x3.ab]),()))else none else oR ((sV v2.2.1).bind λr4=>some r4.Value)) (0,[],())
def mm(a0:af):Option (List aj):=(bL a0.ab).bind λr1=>bif r1 then some a0.ar else(kl (eT2 a0)).bind λr2=>aB (λ(v3:Bool×Int×List aj×Unit)=>bif decide (v3.2.1<(a0.ar.length:Int))then(idx a0.ar v3.2.1).bind λx4=>bb (λ(v5:Bool×List aj×Unit)=>bif bl 176 (v5.2.1.length+List.length [(eT1 x4)])then some (Sum.inl (v5.1,(aA .i64 v3.2.1 1),(v5.2.1++[(eT1 x4)]),()))else none) λj6=>(bif (!v3.1)then some (decide (r2.al<x4.al))else some false).bind λb7=>bif b7 then bif bl 176 (v3.2.2.1.length+List.length [{r2 with aG:=(bD r2.aG 1),aa:=(aq r2.aa)}])then j6 (true,(v3.2.2.1++[{r2 with aG:=(bD r2.aG 1),aa:=(aq r2.aa)}]),())else none else j6 (v3.1,v3.2.2.1,())else oR (bb (λ(v8:(List aj)×Unit)=>some v8.1) λj9=>bif (!v3.1)then bif bl 176 (v3.2.2.1.length+List.length [{r2 with aG:=(bD r2.aG 1),aa:=(aq r2.aa)}])then j9 ((v3.2.2.1++[{r2 with aG:=(bD r2.aG 1),aa:=(aq r2.aa)}]),())else none else j9 (v3.2.2.1,()))) (false,0,[],())
def yX(a0:List ae)(a1:ae):Option (List ae):=(bL a1).bind λr1=>bif r1 then some a0 else aB (λ(v2:Int×Unit)=>bb (λ(v3:Bool×Unit)=>bif v3.1 then some (Sum.inl ((aA .i64 v2.1 1),()))else oR (bb (λ(v5:Bool×Unit)=>bif v5.1 then some a0 else bif cz 0 v2.1 (a0.length)then bif bl 24 (List.length ((a0.take (Int.toNat v2.1)).drop (Int.toNat 0)))then bif bl 24 (List.length ((a0.take (Int.toNat v2.1)).drop (Int.toNat 0))+List.length [a1])then bif cz v2.1 (a0.length:Int) (a0.length)then bif bl 24 (List.length (((a0.take (Int.toNat v2.1)).drop (Int.toNat 0))++[a1])+List.length ((a0.take (Int.toNat (a0.length:Int))).drop (Int.toNat v2.1)))then some ((((a0.take (Int.toNat v2.1)).drop (Int.toNat 0))++[a1])++((a0.take (Int.toNat (a0.length:Int))).drop (Int.toNat v2.1)))else none else none else none else none else none) λj6=>bif decide (v2.1<(a0.length:Int))then(idx a0 v2.1).bind λx7=>j6 ((lC false x7.ai a1.ai x7.Value a1.Value),())else j6 (false,()))) λj4=>bif decide (v2.1<(a0.length:Int))then(idx a0 v2.1).bind λx8=>(fA a1 x8).bind λr9=>j4 (r9,())else j4 (false,())) (0,())
def qx(a0:List aj):Option (List ae):=aB (λ(v1:(List ae)×Int×Unit)=>bif decide (v1.2.1<(a0.length:Int))then bb (λ(v2:(List ae)×Unit)=>some (Sum.inl (v2.1,(aA .i64 v1.2.1 1),()))) λj3=>(idx a0 v1.2.1).bind λx4=>(c7 (eT1 x4)).bind λr5=>bif (!r5)then j3 (v1.1,())else bb (λ(v6:(List ae)×Unit)=>aB (λ(v8:(List ae)×Int×Unit)=>bif decide (v8.2.1<(v6.1.length:Int))then(idx v6.1 v8.2.1).bind λx9=>(yX v8.1 x9).bind λr10=>some (Sum.inl (r10,(aA .i64 v8.2.1 1),()))else oR (j3 (v8.1,()))) (v1.1,0,())) λj7=>bif (!decide (x4.bC=1))then j7 ([x4.ao,(ae.mk 1000000 x4.ab.Value)],())else j7 ([x4.ab,x4.ao,x4.az],())else oR (some v1.1)) ([],0,())
noncomputable def oC(a0:ae):Option ae:=bb (λ(v1:ae×Unit)=>some v1.1) λj2=>bif decide (1000<=a0.ai)then j2 ((ae.mk 1000000 a0.Value),())else j2 (a0,())
def qW(a0:aj)(a1:ae):Option Bool:=(c7 (eT1 a0)).bind λr1=>(bif (!r1)then some true else(bL a1).bind λr2=>some r2).bind λb3=>bif b3 then some false else bif decide (a0.bC=3)then(cx a0.ab a1).bind λr4=>some r4 else(iU a0.ao a0.az a1).bind λr5=>some r5
def sS(a0:aj)(a1:ae):Option Bool:=(c7 (eT1 a0)).bind λr1=>(bif (!r1)then some true else(bL a1).bind λr2=>some r2).bind λb3=>bif b3 then some false else bif decide (a0.bC=1)then(lV a0.ab a1).bind λr4=>some r4 else(cx a0.ab a1).bind λr5=>some r5
noncomputable def ja(a0:List aj)(a1:List Bool):Option Int:=aB (λ(v1:Int×Int×Unit)=>bif decide (v1.2.1<(a0.length:Int))then bb (λ(v2:Int×Unit)=>some (Sum.inl (v2.1,(aA .i64 v1.2.1 1),()))) λj3=>(idx a0 v1.2.1).bind λx4=>(bif decide (v1.2.1<(a1.length:Int))then(idx a1 v1.2.1).bind λx5=>some x5 else some false).bind λb6=>(bif b6 then some (decide (0<=x4.al))else some false).bind λb7=>(bif b7 then some (decide (x4.al<=9))else some false).bind λb8=>bif b8 then if(bx .u64 x4.al)<0 then none else j3 ((qY .i64 v1.1 (bV .i64 1 (bx .u64 x4.al))),())else j3 (v1.1,())else oR (some v1.1)) (0,0,())
def yW(a0:List aj)(a1:ae):Option (Int×Int×Unit):=aB (λ(v1:Int×List Bool×List Bool×Unit)=>bif decide (v1.1<(a0.length:Int))then(idx a0 v1.1).bind λx2=>(qW (eT1 x2) a1).bind λr3=>(bif r3 then some true else(sS (eT1 x2) a1).bind λr4=>some r4).bind λb5=>bif bl 1 (v1.2.1.length+List.length [b5])then bif bl 1 (v1.2.2.1.length+List.length [r3])then some (Sum.inl ((aA .i64 v1.1 1),(v1.2.1++[b5]),(v1.2.2.1++[r3]),()))else none else none else oR ((ja a0 v1.2.1).bind λr6=>(ja a0 v1.2.2.1).bind λr7=>some (r6,r7,()))) (0,[],[],())
def mF(a0:Int)(a1:ak)(a2:List aj):Option bd:=bif decide ((10:Int)<=10)&&decide ((0:Int)<=10)&&bl 64 (Int.toNat 10)then(bif decide (a0<0)then some true else some (decide (9<a0))).bind λb1=>bif b1 then some (bd.mk (List.replicate (Int.toNat 10) (bf.mk false (ak.mk 0 [] []))))else(idx (List.replicate (Int.toNat 10) (bf.mk false (ak.mk 0 [] []))) a0).bind λx2=>((List.replicate (Int.toNat 10) (bf.mk false (ak.mk 0 [] [])))[(Int.toNat a0)]?).bind λx3=>aB (λ(v4:Int×bd×List bf×Unit)=>bif decide (v4.1<(a2.length:Int))then bb (λ(v5:bd×List bf×Unit)=>some (Sum.inl ((aA .i64 v4.1 1),(bd.mk []),v5.2.1,()))) λj6=>(idx a2 v4.1).bind λx7=>(c7 (eT1 x7)).bind λr8=>(bif r8 then(idx v4.2.2.1 x7.al).bind λx9=>(v4.2.2.1[(Int.toNat x7.al)]?).bind λx10=>(v4.2.2.1[(Int.toNat x7.al)]?).bind λx11=>some (!x11.fm)else some false).bind λb12=>bif b12 then(idx v4.2.2.1 x7.al).bind λx13=>(v4.2.2.1[(Int.toNat x7.al)]?).bind λx14=>j6 ((bd.mk []),(v4.2.2.1.set (Int.toNat x7.al) (bf.mk true (aq x7.aa))),())else j6 ((bd.mk []),v4.2.2.1,())else oR (some (bd.mk v4.2.2.1))) (0,(bd.mk []),((List.replicate (Int.toNat 10) (bf.mk false (ak.mk 0 [] []))).set (Int.toNat a0) (bf.mk true (aq a1))),())else none
def ua(a0:Int)(a1:ak)(a2:List aj)(a3:ae):Option Bool:=(yW a2 a3).bind λr1=>(mF a0 (aq a1) a2).bind λr2=>(qz r2 a0 r1.1 r1.2.1).bind λr3=>some r3
def u9(a0:Int)(a1:ak)(a2:List aj)(a3:ae)(a4:ae)(a5:ByteArray):Option ae:=(qx a2).bind λr1=>aB (λ(v2:Int×ae×Unit)=>bif decide (v2.1<(r1.length:Int))then bb (λ(v3:ae×Unit)=>some (Sum.inl ((aA .i64 v2.1 1),v3.1,()))) λj4=>(idx r1 v2.1).bind λx5=>bb (λ(v6:Bool×Unit)=>bif v6.1 then j4 (v2.2.1,())else(ua a0 (aq a1) a2 x5).bind λr8=>bif r8 then oR (some x5)else j4 (v2.2.1,())) λj7=>bif (!decide (a5=bE))then bif (!decide (x5.Value=a5))then j7 (true,())else(oC a3).bind λr9=>(oC a4).bind λr10=>(iU r9 r10 x5).bind λr11=>j7 (r11,())else(oC a3).bind λr12=>(oC a4).bind λr13=>(iU r12 r13 x5).bind λr14=>j7 (r14,())else oR (some zB)) (0,zB,())
noncomputable def vI(a0:ae):Option ae:=bb (λ(v1:ae×Unit)=>some v1.1) λj2=>bif decide (1000<a0.ai)then j2 ((ae.mk 1000 a0.Value),())else j2 (a0,())
def De(a0:ae)(a1:ae)(a2:ae):Option (ae×ae×Unit):=(bL a2).bind λr1=>bif r1 then some (a0,a1,())else(bL a0).bind λr2=>bif r2 then some (a2,a1,())else(fA a0 a2).bind λr3=>bif r3 then(cx a0 a2).bind λr4=>bif (!r4)then some (a2,a0,())else bb (λ(v5:ae×Unit)=>some (a2,v5.1,())) λj6=>(cx a1 a2).bind λr7=>bif r7 then j6 (zB,())else j6 (a1,())else(fA a2 a0).bind λr8=>(bif r8 then(cx a2 a0).bind λr9=>some (!r9)else some false).bind λb10=>(bif b10 then(bL a1).bind λr11=>(bif r11 then some true else(fA a1 a2).bind λr12=>some r12).bind λb13=>some b13 else some false).bind λb14=>bif b14 then some (a0,a2,())else some (a0,a1,())
def vK(a0:ByteArray)(a1:Int)(a2:ae)(a3:ae):Option Int:=aB (λ(v1:Int×Int×Unit)=>bif decide (v1.2.1<2)then bb (λ(v2:Int×Unit)=>some (Sum.inl (v2.1,(aA .i64 v1.2.1 1),()))) λj3=>(idx [a2,a3] v1.2.1).bind λx4=>(jb x4).bind λr5=>(bif r5 then(gz x4 (ae.mk v1.1 a0)).bind λr6=>some r6 else some false).bind λb7=>bif b7 then(gz x4 (ae.mk x4.ai a0)).bind λr8=>bif r8 then j3 ((aA .i64 x4.ai 1),())else j3 (x4.ai,())else j3 (v1.1,())else oR (some v1.1)) ((bD a1 1),0,())
def xC(a0:af):Option af:=(bif decide (a0.aP=3)then some true else(bL a0.ab).bind λr1=>some r1).bind λb2=>bif b2 then some (eT2 a0)else bb (λ(v3:ByteArray×Unit)=>(mm (eT2 a0)).bind λr5=>(u9 a0.al (aq a0.aa) r5 a0.ao a0.az v3.1).bind λr6=>(vI r6).bind λr7=>(De a0.ao a0.az r7).bind λr8=>bb (λ(v9:af×Unit)=>some (eT2 v9.1)) λj10=>(bif decide (a0.aP=1)then some (!decide (a0.aY=0))else some false).bind λb11=>bif b11 then(kl {a0 with aa:=(aq a0.aa),ao:=r8.1,az:=r8.2.1}).bind λr12=>(vK a0.ab.Value a0.aY r8.1 r8.2.1).bind λr13=>bif decide (r12.bq<r13)then j10 ({a0 with aa:=(aq a0.aa),ao:=r8.1,az:=r8.2.1,aY:=0},())else j10 ({a0 with aa:=(aq a0.aa),ao:=r8.1,az:=r8.2.1,aY:=r13},())else j10 ({a0 with aa:=(aq a0.aa),ao:=r8.1,az:=r8.2.1},())) λj4=>bif decide (a0.aP=2)then j4 (a0.ab.Value,())else j4 (bE,())
noncomputable def o0(a0:af)(a1:af):Option Bool:=(bif decide (a0.aP=a1.aP)then some (lC false a0.ab.ai a1.ab.ai a0.ab.Value a1.ab.Value)else some false).bind λb1=>(bif b1 then some (lC false a0.ao.ai a1.ao.ai a0.ao.Value a1.ao.Value)else some false).bind λb2=>(bif b2 then some (lC false a0.az.ai a1.az.ai a0.az.Value a1.az.Value)else some false).bind λb3=>(bif b3 then some (lC false a0.aw.ai a1.aw.ai a0.aw.Value a1.aw.Value)else some false).bind λb4=>(bif b4 then some (decide (a0.aY=a1.aY))else some false).bind λb5=>(bif b5 then some (decide (a0.bq=a1.bq))else some false).bind λb6=>some b6
def sR(a0:Int)(a1:ak)(a2:List aj)(a3:ae):Option Bool:=(yW a2 a3).bind λr1=>(mF a0 (aq a1) a2).bind λr2=>(iV r2 a0 r1.2.1).bind λr3=>some r3
def qw(a0:Int)(a1:ak)(a2:List aj)(a3:ae):Option ae:=(qx a2).bind λr1=>aB (λ(v2:Int×ae×Unit)=>bif decide (v2.1<(r1.length:Int))then(idx r1 v2.1).bind λx3=>(bif decide (x3.ai<=1000)then(fA a3 x3).bind λr4=>some r4 else some false).bind λb5=>(bif b5 then(sR a0 (aq a1) a2 x3).bind λr6=>some r6 else some false).bind λb7=>bif b7 then oR (some x3)else some (Sum.inl ((aA .i64 v2.1 1),v2.2.1,()))else oR (some zB)) (0,zB,())
def wj(a0:af):Option af:=(bif (!decide (a0.aP=1))then some true else(bL a0.ab).bind λr1=>some r1).bind λb2=>bif b2 then some (eT2 a0)else(mm (eT2 a0)).bind λr3=>(qw a0.al (aq a0.aa) r3 a0.aw).bind λr4=>(bL r4).bind λr5=>bif r5 then some (eT2 a0)else bb (λ(v6:af×Unit)=>bb (λ(v8:af×Unit)=>some (eT2 v8.1)) λj9=>(bif decide (v6.1.aY=0)then(cx v6.1.ab r4).bind λr10=>some r10 else some false).bind λb11=>bif b11 then(vK r4.Value v6.1.ab.ai v6.1.ao v6.1.az).bind λr12=>bif decide (r12<=r4.ai)then j9 ({v6.1 with aa:=(aq v6.1.aa),aY:=r12},())else j9 ((eT2 v6.1),())else j9 ((eT2 v6.1),())) λj7=>(fA a0.ab r4).bind λr13=>bif r13 then bb (λ(v14:af×Unit)=>j7 ({v14.1 with aa:=(aq v14.1.aa),ab:=r4},())) λj15=>(cx a0.ab r4).bind λr16=>bif (!r16)then j15 ({a0 with aa:=(aq a0.aa),aw:=r4,aY:=0},())else j15 ({a0 with aa:=(aq a0.aa),aw:=r4},())else j7 ({a0 with aa:=(aq a0.aa),aw:=r4},())
def vJ(a0:List aj):Option (List ByteArray):=aB (λ(v1:(List ByteArray)×Int×Unit)=>bif decide (v1.2.1<(a0.length:Int))then bb (λ(v2:(List ByteArray)×Unit)=>some (Sum.inl (v2.1,(aA .i64 v1.2.1 1),()))) λj3=>(idx a0 v1.2.1).bind λx4=>(c7 (eT1 x4)).bind λr5=>bif (!r5)then j3 (v1.1,())else aB (λ(v6:Int×Unit)=>bb (λ(v7:Bool×Unit)=>bif v7.1 then some (Sum.inl ((aA .i64 v6.1 1),()))else oR (bb (λ(v9:Bool×Unit)=>bif v9.1 then bif cz 0 v6.1 (v1.1.length)then bif bl 16 (List.length ((v1.1.take (Int.toNat v6.1)).drop (Int.toNat 0)))then bif bl 16 (List.length ((v1.1.take (Int.toNat v6.1)).drop (Int.toNat 0))+List.length [x4.ab.Value])then bif cz v6.1 (v1.1.length:Int) (v1.1.length)then bif bl 16 (List.length (((v1.1.take (Int.toNat v6.1)).drop (Int.toNat 0))++[x4.ab.Value])+List.length ((v1.1.take (Int.toNat (v1.1.length:Int))).drop (Int.toNat v6.1)))then j3 (((((v1.1.take (Int.toNat v6.1)).drop (Int.toNat 0))++[x4.ab.Value])++((v1.1.take (Int.toNat (v1.1.length:Int))).drop (Int.toNat v6.1))),())else none else none else none else none else none else j3 (v1.1,())) λj10=>bif decide (v6.1=(v1.1.length:Int))then j10 (true,())else(idx v1.1 v6.1).bind λx11=>j10 ((!decide (x11=x4.ab.Value)),()))) λj8=>bif decide (v6.1<(v1.1.length:Int))then(idx v1.1 v6.1).bind λx12=>(nN x12 x4.ab.Value).bind λr13=>j8 (r13,())else j8 (false,())) (0,())else oR (some v1.1)) ([],0,())
def kG(a0:List aj)(a1:ByteArray):Option (List Int):=aB (λ(v1:(List Int)×Int×Unit)=>bif decide (v1.2.1<(a0.length:Int))then bb (λ(v2:(List Int)×Unit)=>some (Sum.inl (v2.1,(aA .i64 v1.2.1 1),()))) λj3=>(idx a0 v1.2.1).bind λx4=>(c7 (eT1 x4)).bind λr5=>(bif (!r5)then some true else some (!decide (x4.ab.Value=a1))).bind λb6=>(bif b6 then some true else some (decide (x4.aY=0))).bind λb7=>bif b7 then j3 (v1.1,())else aB (λ(v8:(List Int)×Int×Unit)=>bif decide (v8.2.1<2)then bb (λ(v9:(List Int)×Unit)=>some (Sum.inl (v9.1,(aA .i64 v8.2.1 1),()))) λj10=>(idx [x4.aY,x4.bq] v8.2.1).bind λx11=>aB (λ(v12:Int×Unit)=>(bif decide (v12.1<(v8.1.length:Int))then(idx v8.1 v12.1).bind λx13=>some (decide (x13<x11))else some false).bind λb14=>bif b14 then some (Sum.inl ((aA .i64 v12.1 1),()))else oR ((bif decide (v12.1=(v8.1.length:Int))then some true else(idx v8.1 v12.1).bind λx15=>some (!decide (x15=x11))).bind λb16=>bif b16 then bif cz 0 v12.1 (v8.1.length)then bif bl 8 (List.length ((v8.1.take (Int.toNat v12.1)).drop (Int.toNat 0)))then bif bl 8 (List.length ((v8.1.take (Int.toNat v12.1)).drop (Int.toNat 0))+List.length [x11])then bif cz v12.1 (v8.1.length:Int) (v8.1.length)then bif bl 8 (List.length (((v8.1.take (Int.toNat v12.1)).drop (Int.toNat 0))++[x11])+List.length ((v8.1.take (Int.toNat (v8.1.length:Int))).drop (Int.toNat v12.1)))then j10 (((((v8.1.take (Int.toNat v12.1)).drop (Int.toNat 0))++[x11])++((v8.1.take (Int.toNat (v8.1.length:Int))).drop (Int.toNat v12.1))),())else none else none else none else none else none else j10 (v8.1,()))) (0,())else oR (j3 (v8.1,()))) (v1.1,0,())else oR (some v1.1)) ([],0,())
def yU(a0:ae)(a1:ae)(a2:Int)(a3:ByteArray):Option Bool:=(gz a0 (ae.mk a2 a3)).bind λr1=>(bif (!r1)then(gz a1 (ae.mk a2 a3)).bind λr2=>some (!r2)else some false).bind λb3=>some b3
def rU(a0:aj)(a1:ByteArray)(a2:Int)(a3:Int):Option Bool:=(c7 (eT1 a0)).bind λr1=>(bif (!r1)then some true else some (decide (a2<1))).bind λb2=>(bif b2 then some true else some (decide (a3<a2))).bind λb3=>(bif b3 then some true else some (decide (a0.bC=1))).bind λb4=>(bif b4 then some true else some (!decide (a0.ab.Value=a1))).bind λb5=>(bif b5 then some true else some (decide (a2<a0.aY))).bind λb6=>bif b6 then some false else(bif decide (a0.bC=3)then some true else some (decide (a3<=a0.bq))).bind λb7=>some b7
def tI(a0:aj)(a1:ByteArray)(a2:Int)(a3:Int):Option Bool:=(c7 (eT1 a0)).bind λr1=>(bif (!r1)then some true else some (decide (a2<1))).bind λb2=>(bif b2 then some true else some (decide (a3<a2))).bind λb3=>(bif b3 then some true else some (!decide (a0.ab.Value=a1))).bind λb4=>(bif b4 then some true else some (decide (a0.aY=0))).bind λb5=>(bif b5 then some true else some (decide (a2<a0.aY))).bind λb6=>bif b6 then some false else(bif (!decide (a0.bC=1))then some true else some (decide (a3<=a0.bq))).bind λb7=>some b7
def yT(a0:List aj)(a1:ByteArray)(a2:Int)(a3:Int):Option (Int×Int×Unit):=aB (λ(v1:Int×List Bool×List Bool×Unit)=>bif decide (v1.1<(a0.length:Int))then(idx a0 v1.1).bind λx2=>(rU (eT1 x2) a1 a2 a3).bind λr3=>(bif r3 then some true else(tI (eT1 x2) a1 a2 a3).bind λr4=>some r4).bind λb5=>bif bl 1 (v1.2.1.length+List.length [b5])then bif bl 1 (v1.2.2.1.length+List.length [r3])then some (Sum.inl ((aA .i64 v1.1 1),(v1.2.1++[b5]),(v1.2.2.1++[r3]),()))else none else none else oR ((ja a0 v1.2.1).bind λr6=>(ja a0 v1.2.2.1).bind λr7=>some (r6,r7,()))) (0,[],[],())
def lh(a0:Int)(a1:ak)(a2:List aj)(a3:ByteArray)(a4:Int)(a5:Int):Option Bool:=(yT a2 a3 a4 a5).bind λr1=>(mF a0 (aq a1) a2).bind λr2=>(qz r2 a0 r1.1 r1.2.1).bind λr3=>some r3
def te(a0:Int)(a1:ak)(a2:List aj)(a3:ae)(a4:ae):Option (ByteArray×Int×Int×Bool×Unit):=(vJ a2).bind λr1=>aB (λ(v2:Int×ae×Unit)=>bif decide (v2.1<(r1.length:Int))then(idx r1 v2.1).bind λx3=>(kG a2 x3).bind λr4=>aB (λ(v5:Int×ae×Unit)=>bif decide (v5.1<(r4.length:Int))then bb (λ(v6:ae×Unit)=>some (Sum.inl ((aA .i64 v5.1 1),v6.1,()))) λj7=>(idx r4 v5.1).bind λx8=>(fA v5.2.1 (ae.mk x8 x3)).bind λr9=>(bif r9 then(yU a3 a4 x8 x3).bind λr10=>some r10 else some false).bind λb11=>(bif b11 then(lh a0 (aq a1) a2 x3 x8 x8).bind λr12=>some r12 else some false).bind λb13=>bif b13 then j7 ((ae.mk x8 x3),())else j7 (v5.2.1,())else oR (some (Sum.inl ((aA .i64 v2.1 1),v5.2.1,())))) (0,v2.2.1,())else oR ((bL v2.2.1).bind λr14=>bif r14 then some (bE,0,0,false,())else(kG a2 v2.2.1.Value).bind λr15=>bb (λ(v16:Int×Unit)=>some (v2.2.1.Value,v16.1,v2.2.1.ai,true,())) λj17=>aB (λ(v18:Int×Int×Unit)=>bif decide (0<=v18.2.1)then bb (λ(v19:Int×Unit)=>some (Sum.inl (v19.1,(cU .i64 v18.2.1 1),()))) λj20=>(idx r15 v18.2.1).bind λx21=>bif decide (v18.1<=x21)then j20 (v18.1,())else(yU a3 a4 x21 v2.2.1.Value).bind λr22=>(bif (!r22)then some true else(lh a0 (aq a1) a2 v2.2.1.Value x21 v2.2.1.ai).bind λr23=>some (!r23)).bind λb24=>bif b24 then oR (j17 (v18.1,()))else j20 (x21,())else oR (j17 (v18.1,()))) (v2.2.1.ai,(cU .i64 (r15.length:Int) 1),()))) (0,zB,())
def yV(a0:Int)(a1:ak)(a2:List aj)(a3:ByteArray)(a4:Int)(a5:Int):Option Int:=(kG a2 a3).bind λr1=>bb (λ(v2:Int×Unit)=>some v2.1) λj3=>aB (λ(v4:Int×Int×Unit)=>bif decide (0<=v4.2.1)then bb (λ(v5:Int×Unit)=>some (Sum.inl (v5.1,(cU .i64 v4.2.1 1),()))) λj6=>(idx r1 v4.2.1).bind λx7=>bif decide (v4.1<=x7)then j6 (v4.1,())else(idx r1 v4.2.1).bind λx8=>(lh a0 (aq a1) a2 a3 x8 a5).bind λr9=>bif (!r9)then oR (j3 (v4.1,()))else(idx r1 v4.2.1).bind λx10=>j6 (x10,())else oR (j3 (v4.1,()))) (a4,(cU .i64 (r1.length:Int) 1),())
def rS(a0:Int)(a1:ak)(a2:List aj)(a3:ByteArray)(a4:Int)(a5:Int):Option (Int×Int×Unit):=(kG a2 a3).bind λr1=>bb (λ(v2:Int×Int×Unit)=>(yV a0 (aq a1) a2 a3 v2.1 v2.2.1).bind λr4=>some (r4,v2.2.1,())) λj3=>aB (λ(v5:Int×Int×Int×Unit)=>(bif decide (0<=v5.2.2.1)then(idx r1 v5.2.2.1).bind λx6=>some (decide (v5.2.1<x6))else some false).bind λb7=>bif b7 then(idx r1 v5.2.2.1).bind λx8=>(lh a0 (aq a1) a2 a3 x8 x8).bind λr9=>bif (!r9)then some (Sum.inl (v5.1,v5.2.1,(cU .i64 v5.2.2.1 1),()))else(yV a0 (aq a1) a2 a3 x8 x8).bind λr10=>bb (λ(v11:Int×Unit)=>oR (j3 (v11.1,x8,()))) λj12=>bif decide (v5.2.1<(cU .i64 r10 1))then j12 (r10,())else j12 ((dJ v5.1 r10),())else oR (j3 (v5.1,v5.2.1,()))) (a4,a5,(cU .i64 (r1.length:Int) 1),())
def wo(a0:af):Option af:=bb (λ(v1:af×af×Unit)=>some (eT2 v1.1)) λj2=>bif decide (a0.aP=1)then(mm (eT2 a0)).bind λr3=>(te a0.al (aq a0.aa) r3 a0.ao a0.az).bind λr4=>bif (!r4.2.2.2.1)then some (eT2 a0)else bb (λ(v5:af×Unit)=>bb (λ(v7:af×Unit)=>j2 ({v7.1 with aa:=(aq v7.1.aa),aP:=2,az:=zB,aw:=(ae.mk r4.2.2.1 r4.1),aY:=r4.2.1,bq:=r4.2.2.1},(af.mk 0 0 0 (ak.mk 0 [] []) 0 zB zB zB zB 0 0 bE []),())) λj8=>(lV v5.1.ao (ae.mk r4.2.2.1 r4.1)).bind λr9=>bif (!r9)then j8 ({v5.1 with aa:=(aq v5.1.aa),ao:=(ae.mk r4.2.2.1 r4.1)},())else j8 ((eT2 v5.1),())) λj6=>(cx a0.ab (ae.mk r4.2.2.1 r4.1)).bind λr10=>(bif (!r10)then some true else(fA a0.ab (ae.mk r4.2.2.1 r4.1)).bind λr11=>some r11).bind λb12=>bif b12 then j6 ({a0 with aa:=(aq a0.aa),ab:=(ae.mk (bD a0.ab.ai r4.2.2.1) r4.1)},())else j6 ((eT2 a0),())else bif decide (a0.aP=2)then(mm (eT2 a0)).bind λr13=>(rS a0.al (aq a0.aa) r13 a0.ab.Value a0.aY a0.bq).bind λr14=>j2 ({a0 with aa:=(aq a0.aa),ab:=(ae.mk (bD a0.ab.ai r14.2.1) a0.ab.Value),ao:=(ae.mk (bD a0.ao.ai r14.2.1) a0.ao.Value),aw:=(ae.mk (bD a0.aw.ai r14.2.1) a0.ab.Value),aY:=r14.1,bq:=r14.2.1},(af.mk 0 0 0 (ak.mk 0 [] []) 0 zB zB zB zB 0 0 bE []),())else j2 ((eT2 a0),(af.mk 0 0 0 (ak.mk 0 [] []) 0 zB zB zB zB 0 0 bE []),())
def pb(a0:Int)(a1:ak)(a2:List aj)(a3:ByteArray)(a4:Int)(a5:Int):Option Bool:=(yT a2 a3 a4 a5).bind λr1=>(mF a0 (aq a1) a2).bind λr2=>(iV r2 a0 r1.2.1).bind λr3=>some r3
def tf(a0:Int)(a1:ak)(a2:List aj)(a3:ByteArray):Option (Int×Int×Bool×Unit):=(kG a2 a3).bind λr1=>aB (λ(v2:Int×Unit)=>bif decide (0<=v2.1)then(idx r1 v2.1).bind λx3=>(pb a0 (aq a1) a2 a3 x3 x3).bind λr4=>bif (!r4)then some (Sum.inl ((cU .i64 v2.1 1),()))else aB (λ(v5:Int×Int×Unit)=>bb (λ(v6:Bool×Unit)=>bif v6.1 then(idx r1 v5.2.1).bind λx8=>some (Sum.inl (x8,(cU .i64 v5.2.1 1),()))else oR (oR (some (v5.1,x3,true,())))) λj7=>bif decide (0<=v5.2.1)then(idx r1 v5.2.1).bind λx9=>(pb a0 (aq a1) a2 a3 x9 x3).bind λr10=>j7 (r10,())else j7 (false,())) (x3,(cU .i64 v2.1 1),())else oR (some (0,0,false,()))) ((cU .i64 (r1.length:Int) 1),())
def Bk(a0:af):Option af:=bif (!decide (a0.aP=2))then some (eT2 a0)else(mm (eT2 a0)).bind λr1=>(tf a0.al (aq a0.aa) r1 a0.ab.Value).bind λr2=>bif (!r2.2.2.1)then some (eT2 a0)else some (af.mk a0.al a0.aK a0.aG (aq a0.aa) 3 (ae.mk r2.2.1 a0.ab.Value) zB zB zB r2.1 r2.2.1 a0.bh a0.ar)
def ub(a0:aj):Option Int:=(c7 (eT1 a0)).bind λr1=>bif (!r1)then some 0 else bif decide (a0.bC=3)then some 1000000 else some a0.ab.ai
def w8(a0:af)(a1:Int):Option Bool:=aB (λ(v1:Int×List Bool×Unit)=>bif decide (v1.1<(a0.ar.length:Int))then(idx a0.ar v1.1).bind λx2=>(ub (eT1 x2)).bind λr3=>bif bl 1 (v1.2.1.length+List.length [(decide (a1<r3))])then some (Sum.inl ((aA .i64 v1.1 1),(v1.2.1++[(decide (a1<r3))]),()))else none else oR ((mm (eT2 a0)).bind λr4=>(mF a0.al (aq a0.aa) r4).bind λr5=>(ja a0.ar v1.2.1).bind λr6=>(rZ r5 a0.al r6).bind λr7=>some r7)) (0,[],())
def z6(a0:af):Option af:=(bif decide (a0.aP=3)then some true else(w8 (eT2 a0) a0.ab.ai).bind λr1=>some (!r1)).bind λb2=>bif b2 then some (eT2 a0)else aB (λ(v3:Int×Int×Unit)=>bif decide (v3.2.1<(a0.ar.length:Int))then bb (λ(v4:Int×Unit)=>some (Sum.inl (v4.1,(aA .i64 v3.2.1 1),()))) λj5=>(idx a0.ar v3.2.1).bind λx6=>(ub (eT1 x6)).bind λr7=>(bif decide (a0.ab.ai<r7)then some (decide (r7<v3.1))else some false).bind λb8=>(bif b8 then(w8 (eT2 a0) r7).bind λr9=>some (!r9)else some false).bind λb10=>bif b10 then j5 (r7,())else j5 (v3.1,())else oR (bb (λ(v11:ByteArray×Unit)=>bb (λ(v13:af×Unit)=>some {v13.1 with aa:=(aq v13.1.aa),ab:=(ae.mk (bD v13.1.ab.ai (dJ v3.1 1000)) v11.1)}) λj14=>bif (!decide (v11.1=a0.ab.Value))then j14 ({a0 with aa:=(aq a0.aa),aY:=0},())else j14 ((eT2 a0),())) λj12=>bif decide (a0.aP=1)then(td (eT2 a0)).bind λr15=>j12 (r15,())else j12 (a0.ab.Value,()))) (1000000,0,())
def yS(a0:af):Option af:=(nq (eT2 a0)).bind λr1=>bif (!r1)then some (eT2 a0)else aB (λ(v2:af×af×Unit)=>(xC (eT2 v2.1)).bind λr3=>bb (λ(v4:af×Unit)=>bb (λ(v6:af×Unit)=>bb (λ(v8:af×Unit)=>bb (λ(v10:af×Unit)=>(o0 (eT2 v2.1) (eT2 v10.1)).bind λr12=>bif r12 then bb (λ(v13:af×Unit)=>oR (some (eT2 v13.1))) λj14=>(bL v10.1.ab).bind λr15=>bif (!r15)then j14 ({v10.1 with aG:=(bD v10.1.aG 1),aa:=(aq v10.1.aa)},())else j14 ((eT2 v10.1),())else some (Sum.inl ((eT2 v10.1),(eT2 v2.2.1),()))) λj11=>(o0 (eT2 v2.1) (eT2 v8.1)).bind λr16=>bif r16 then(z6 (eT2 v8.1)).bind λr17=>j11 ((eT2 r17),())else j11 ((eT2 v8.1),())) λj9=>(o0 (eT2 v2.1) (eT2 v6.1)).bind λr18=>bif r18 then(Bk (eT2 v6.1)).bind λr19=>j9 ((eT2 r19),())else j9 ((eT2 v6.1),())) λj7=>(o0 (eT2 v2.1) (eT2 v4.1)).bind λr20=>bif r20 then(wo (eT2 v4.1)).bind λr21=>j7 ((eT2 r21),())else j7 ((eT2 v4.1),())) λj5=>(o0 (eT2 v2.1) (eT2 r3)).bind λr22=>bif r22 then(wj (eT2 r3)).bind λr23=>j5 ((eT2 r23),())else j5 ((eT2 r3),())) ((eT2 a0),(af.mk 0 0 0 (ak.mk 0 [] []) 0 zB zB zB zB 0 0 bE []),())
def Df(a0:aj)(a1:aj):Option Bool:=(bif decide (a0.al=a1.al)then some (decide (a0.aK=a1.aK))else some false).bind λb1=>(bif b1 then some (decide (a0.aG=a1.aG))else some false).bind λb2=>(bif b2 then(vd (aq a0.aa) (aq a1.aa)).bind λr3=>some r3 else some false).bind λb4=>(bif b4 then some (decide (a0.bC=a1.bC))else some false).bind λb5=>(bif b5 then some (lC false a0.ab.ai a1.ab.ai a0.ab.Value a1.ab.Value)else some false).bind λb6=>(bif b6 then some (lC false a0.ao.ai a1.ao.ai a0.ao.Value a1.ao.Value)else some false).bind λb7=>(bif b7 then some (lC false a0.az.ai a1.az.ai a0.az.Value a1.az.Value)else some false).bind λb8=>(bif b8 then some (decide (a0.aY=a1.aY))else some false).bind λb9=>(bif b9 then some (decide (a0.bq=a1.bq))else some false).bind λb10=>some b10
def pa(a0:af)(a1:af):Option af:=(yS (eT2 a1)).bind λr1=>(bL r1.ab).bind λr2=>bif r2 then some (eT2 r1)else(kl (eT2 a0)).bind λr3=>(kl (eT2 r1)).bind λr4=>bb (λ(v5:af×Unit)=>some (eT2 v5.1)) λj6=>(bL a0.ab).bind λr7=>(bif (!r7)then(Df {r3 with aG:=0,aa:=(aq r3.aa)} {r4 with aG:=0,aa:=(aq r4.aa)}).bind λr8=>some (!r8)else some false).bind λb9=>bif b9 then j6 ({r1 with aG:=(dJ (aA .i64 r1.aG 1) 1000000),aa:=(aq r1.aa)},())else j6 ((eT2 r1),())
def na(a0:af)(a1:ByteArray):Option (af×Int×Unit):=(nq (eT2 a0)).bind λr1=>bif (!r1)then some ((af.mk 0 0 0 (ak.mk 0 [] []) 0 zB zB zB zB 0 0 bE []),13,())else(bif decide ((ByteArray.size a1:Int)<1)then some true else some (decide (200<(ByteArray.size a1:Int)))).bind λb2=>bif b2 then some ((af.mk 0 0 0 (ak.mk 0 [] []) 0 zB zB zB zB 0 0 bE []),1,())else bb (λ(v3:af×Unit)=>(pa (eT2 a0) (eT2 v3.1)).bind λr5=>some ((eT2 r5),0,())) λj4=>(bL a0.ab).bind λr6=>bif r6 then(td {a0 with aa:=(aq a0.aa),bh:=a1}).bind λr7=>j4 ({a0 with aG:=1,aa:=(aq a0.aa),ab:=(ae.mk 1 r7),bh:=a1},())else j4 ({a0 with aa:=(aq a0.aa),bh:=a1},())
def jm(a0:aS):Option aS:=bb (λ(v1:aS×Unit)=>(tZ (eT2 v1.1.ah)).bind λr3=>some (aS.mk (eT0 v1.1.aC) (eT2 v1.1.ah) v1.1.Timer v1.1.Round v1.1.Next r3.2.1 r3.1)) λj2=>(nO a0.aC.aR).bind λr4=>(bif r4.2.1 then some (decide (a0.ah.aP=1))else some false).bind λb5=>(bif b5 then(bL a0.ah.aw).bind λr6=>some r6 else some false).bind λb7=>(bif b7 then some (!decide (r4.1=a0.ah.bh))else some false).bind λb8=>bif b8 then(na (eT2 a0.ah) r4.1).bind λr9=>bif decide (r9.2.1=0)then j2 ({a0 with aC:=(eT0 a0.aC),ah:=(eT2 r9.1)},())else j2 ((eT4 a0),())else j2 ((eT4 a0),())
def qV(a0:Int)(a1:Int)(a2:ak)(a3:ByteArray)(a4:Int):Option (aS×Int×Unit):=(bif decide (a4<0)then some true else some (decide (200<a4))).bind λb1=>bif b1 then some ((aS.mk (av.mk 0 0 0 0 (ak.mk 0 [] []) bE [] [] [] []) (af.mk 0 0 0 (ak.mk 0 [] []) 0 zB zB zB zB 0 0 bE []) (fJ.mk 0 0) 0 0 false bE),1,())else(Ex a0 a1 (aq a2)).bind λr2=>bif (!decide (r2.2.1=0))then some ((aS.mk (av.mk 0 0 0 0 (ak.mk 0 [] []) bE [] [] [] []) (af.mk 0 0 0 (ak.mk 0 [] []) 0 zB zB zB zB 0 0 bE []) (fJ.mk 0 0) 0 0 false bE),r2.2.1,())else(nu a0 a1 (aq a2) a3).bind λr3=>bif (!decide (r3.2.1=0))then some ((aS.mk (av.mk 0 0 0 0 (ak.mk 0 [] []) bE [] [] [] []) (af.mk 0 0 0 (ak.mk 0 [] []) 0 zB zB zB zB 0 0 bE []) (fJ.mk 0 0) 0 0 false bE),r3.2.1,())else(rR 1).bind λr4=>(jm (aS.mk (eT0 r3.1) (eT2 r2.1) (fJ.mk 0 (-1:Int)) 1 (aA .i64 a4 r4) false bE)).bind λr5=>some ((eT4 r5),0,())
def sd(s:eG):Option (ae×eG):=(de s 1 6).bind λp1=>(iW p1.2).bind λp2=>some ((ae.mk p1.1 p2.1),p2.2)
def Oq:=kr func89 0 y12 [] (.one y2) (λs a=>sd s) [] .e [sE,sD]
def pB(s:eG)(a0:Int)(a1:Int)(a2:Int):Option (aj×eG):=(de s 1 9).bind λp1=>(kq p1.2 a2).bind λp2=>(iW p2.2).bind λp3=>bb (λ(v4:eG×aj×Unit)=>some ((eT1 v4.2.1),v4.1)) λj5=>(cq p3.2 4).bind λp6=>bb (λ(v7:eG×aj×Unit)=>bb (λ(v9:eG×aj×Unit)=>j5 (v9.1,(eT1 v9.2.1),())) λj10=>(de v7.1 1 7).bind λp11=>bb (λ(v12:eG×aj×Unit)=>(cq v12.1 (aA .i64 v12.2.1.ab.ai 1)).bind λp14=>(cq p14.2 (aA .i64 p14.1 1)).bind λp15=>bb (λ(v16:aj×Unit)=>bb (λ(v18:aj×Unit)=>(c7 (eT1 v18.1)).bind λr20=>bif (!r20)then j10 (p15.2,{v18.1 with aa:=(aq v18.1.aa),az:=zB},())else j10 (p15.2,(eT1 v18.1),())) λj19=>(c7 (eT1 v16.1)).bind λr21=>bif (!r21)then j19 ({v16.1 with aa:=(aq v16.1.aa),bq:=0},())else j19 ((eT1 v16.1),())) λj17=>(c7 {v12.2.1 with aa:=(aq v12.2.1.aa),aY:=p15.1,bq:=p14.1}).bind λr22=>bif (!r22)then j17 ({v12.2.1 with aa:=(aq v12.2.1.aa),aY:=0,bq:=p14.1},())else j17 ({v12.2.1 with aa:=(aq v12.2.1.aa),aY:=p15.1,bq:=p14.1},())) λj13=>(cq p11.2 3).bind λp23=>bif decide (0<p23.1)then(sd p23.2).bind λp24=>(cq p24.2 2).bind λp25=>bif decide (p25.1=1)then(sd p25.2).bind λp26=>j13 (p26.2,{v7.2.1 with aa:=(aq v7.2.1.aa),bC:=1,ab:=(ae.mk p11.1 p3.1),ao:=p24.1,az:=p26.1},())else j13 (p25.2,{v7.2.1 with aa:=(aq v7.2.1.aa),bC:=1,ab:=(ae.mk p11.1 p3.1),ao:=p24.1},())else j13 (p23.2,{v7.2.1 with aa:=(aq v7.2.1.aa),bC:=1,ab:=(ae.mk p11.1 p3.1)},())) λj8=>bif decide (p6.1=0)then(de p6.2 1 7).bind λp27=>(de p27.2 1 4).bind λp28=>(cq p28.2 3).bind λp29=>(cq p29.2 3).bind λp30=>j5 (p30.2,(aj.mk a0 a1 p1.1 (aq p2.1) 2 (ae.mk p27.1 p3.1) (ae.mk (aA .i64 (aA .i64 p28.1 p29.1) p30.1) p3.1) zB p28.1 (aA .i64 p28.1 p29.1)),())else bif decide (p6.1=1)then(cq p6.2 3).bind λp31=>bif decide (0<p31.1)then(de p31.2 1 7).bind λp32=>(de p32.2 1 4).bind λp33=>(cq p33.2 3).bind λp34=>j5 (p34.2,(aj.mk a0 a1 p1.1 (aq p2.1) 3 (ae.mk p32.1 p3.1) zB zB p33.1 (aA .i64 p33.1 p34.1)),())else j8 (p31.2,(aj.mk a0 a1 p1.1 (aq p2.1) 0 zB zB zB 0 0),())else j8 (p6.2,(aj.mk a0 a1 p1.1 (aq p2.1) 0 zB zB zB 0 0),())
def G6:=kr func43 0 y12 [t0,t0,t0] (.one y5) (λs a=>pB s a.1 a.2.1 a.2.2.1) [] (p_ 3 7 (.j ⟨[.box 0 0 y12 [],.box 10 1 y5 []],[8,9]⟩ (p_ 3 2 (.j ⟨[.box 0 0 y12 [],.box 10 1 y5 []],[0,8,9,10]⟩ (.r (.j ⟨[.box 0 0 y12 [],.box 10 1 y5 []],[8,9]⟩ (p_ 2 2 (.j ⟨[.box 0 0 y12 [],.box 10 1 y5 []],[0,8,9]⟩ (p_ 3 7 (.j ⟨[.box 10 1 y5 []],[8,9]⟩ (.r (.j ⟨[.box 10 1 y5 []],[8,9]⟩ .e)))))))))))) [sE,xm,sD,uE,Oq,Ro]
def vM(s:eG)(a0:Int):Option (eY×eG):=(de s 1 3).bind λp1=>(cq p1.2 3).bind λp2=>bif decide (p2.1=0)then(de p2.2 1 30).bind λp3=>(kq p3.2 4).bind λp4=>(iW p4.2).bind λp5=>bb (λ(v6:eG×ay×Unit)=>some ((eY.mk 1 p1.1 {v6.2.1 with aa:=(aq v6.2.1.aa)} (aj.mk 0 0 0 (ak.mk 0 [] []) 0 zB zB zB 0 0)),v6.1)) λj7=>(cq p5.2 2).bind λp8=>bif decide (p8.1=1)then(iW p8.2).bind λp9=>j7 (p9.2,(ay.mk a0 p3.1 (aq p4.1) [p5.1] [p9.1]),())else j7 (p8.2,(ay.mk a0 p3.1 (aq p4.1) [p5.1] []),())else(pB p2.2 a0 p1.1 4).bind λp10=>(cq p10.2 40).bind λp11=>some ((eY.mk 2 p1.1 (ay.mk 0 0 (ak.mk 0 [] []) [] []) {p10.1 with aG:=(aA .i64 p10.1.aG p11.1),aa:=(aq p10.1.aa)}),p11.2)
def Ot:=kr func10 0 y12 [t0] (.one y20) (λs a=>vM s a.1) [] (p_ 6 43 (.j ⟨[.box 0 0 y12 [],.box 17 1 y11 []],[4,5,6]⟩ .e)) [sE,uE,xm,sD,G6]
def vb(a0:av)(a1:ay):Option (av×Int×Unit):=(xa (eT0 a0)).bind λr1=>(bif (!r1)then some true else(xb {a1 with aa:=(aq a1.aa)}).bind λr2=>some (!r2)).bind λb3=>(bif b3 then some true else some (decide (a1.al=a0.al))).bind λb4=>bif b4 then some ((av.mk 0 0 0 0 (ak.mk 0 [] []) bE [] [] [] []),1,())else aB (λ(v5:Bool×Int×av×av×List ay×Unit)=>bif decide (v5.2.1<(a0.ar.length:Int))then bb (λ(v6:Bool×av×av×List ay×Unit)=>some (Sum.inl (v6.1,(aA .i64 v5.2.1 1),(eT0 v6.2.1),{v6.2.2.1 with aa:=(aq v6.2.2.1.aa),ar:=[]},v6.2.2.2.1,()))) λj7=>(idx a0.ar v5.2.1).bind λx8=>bif decide (x8.al=a1.al)then bif decide (a1.aG<=x8.aG)then oR (some ((av.mk 0 0 0 0 (ak.mk 0 [] []) bE [] [] [] []),9,()))else j7 (v5.1,(eT0 v5.2.2.1),{v5.2.2.2.1 with aa:=(aq v5.2.2.2.1.aa),ar:=[]},v5.2.2.2.2.1,())else bb (λ(v9:Bool×av×List ay×Unit)=>bif bl 120 (v9.2.2.1.length+List.length [{x8 with aa:=(aq x8.aa)}])then j7 (v9.1,(eT0 v5.2.2.1),{v9.2.1 with aa:=(aq v9.2.1.aa),ar:=[]},(v9.2.2.1++[{x8 with aa:=(aq x8.aa)}]),())else none) λj10=>(bif decide (a1.al<x8.al)then some (!v5.1)else some false).bind λb11=>bif b11 then bif bl 120 (v5.2.2.2.2.1.length+List.length [{a1 with aa:=(aq a1.aa)}])then j10 (true,{v5.2.2.2.1 with aa:=(aq v5.2.2.2.1.aa),ar:=[]},(v5.2.2.2.2.1++[{a1 with aa:=(aq a1.aa)}]),())else none else j10 (v5.1,{v5.2.2.2.1 with aa:=(aq v5.2.2.2.1.aa),ar:=[]},v5.2.2.2.2.1,())else oR (bb (λ(v12:av×List ay×Unit)=>(jK (eT0 a0) {v12.1 with aa:=(aq v12.1.aa),ar:=v12.2.1}).bind λr14=>some ((eT0 r14),0,())) λj13=>bif (!v5.1)then bif bl 120 (v5.2.2.2.2.1.length+List.length [{a1 with aa:=(aq a1.aa)}])then j13 ({v5.2.2.2.1 with aa:=(aq v5.2.2.2.1.aa),ar:=[]},(v5.2.2.2.2.1++[{a1 with aa:=(aq a1.aa)}]),())else none else j13 ({v5.2.2.2.1 with aa:=(aq v5.2.2.2.1.aa),ar:=[]},v5.2.2.2.2.1,()))) (false,0,(av.mk 0 0 0 0 (ak.mk 0 [] []) bE [] [] [] []),{a0 with aa:=(aq a0.aa),ar:=[]},[],())
def iq(a0:aS)(a1:ay):Option (aS×Int×Unit):=(w7 (eT4 a0)).bind λr1=>bif (!r1)then some ((aS.mk (av.mk 0 0 0 0 (ak.mk 0 [] []) bE [] [] [] []) (af.mk 0 0 0 (ak.mk 0 [] []) 0 zB zB zB zB 0 0 bE []) (fJ.mk 0 0) 0 0 false bE),13,())else(vb (eT0 a0.aC) {a1 with aa:=(aq a1.aa)}).bind λr2=>bif (!decide (r2.2.1=0))then some ((aS.mk (av.mk 0 0 0 0 (ak.mk 0 [] []) bE [] [] [] []) (af.mk 0 0 0 (ak.mk 0 [] []) 0 zB zB zB zB 0 0 bE []) (fJ.mk 0 0) 0 0 false bE),r2.2.1,())else(jm {a0 with aC:=(eT0 r2.1),ah:=(eT2 a0.ah)}).bind λr3=>some ((eT4 r3),0,())
def Ey(a0:List aj)(a1:aj):Option ((List aj)×Bool×Unit):=(c7 (eT1 a1)).bind λr1=>bif (!r1)then some (a0,false,())else aB (λ(v2:Int×Unit)=>bif decide (v2.1<(a0.length:Int))then(idx a0 v2.1).bind λx3=>bif decide (x3.al=a1.al)then bif decide (a1.aG<=x3.aG)then oR (some (a0,false,()))else bif cz 0 v2.1 (a0.length)then bif bl 176 (List.length ((a0.take (Int.toNat v2.1)).drop (Int.toNat 0)))then bif bl 176 (List.length ((a0.take (Int.toNat v2.1)).drop (Int.toNat 0))+List.length [(eT1 a1)])then bif cz (aA .i64 v2.1 1) (a0.length:Int) (a0.length)then bif bl 176 (List.length (((a0.take (Int.toNat v2.1)).drop (Int.toNat 0))++[(eT1 a1)])+List.length ((a0.take (Int.toNat (a0.length:Int))).drop (Int.toNat (aA .i64 v2.1 1))))then oR (some (((((a0.take (Int.toNat v2.1)).drop (Int.toNat 0))++[(eT1 a1)])++((a0.take (Int.toNat (a0.length:Int))).drop (Int.toNat (aA .i64 v2.1 1)))),true,()))else none else none else none else none else none else some (Sum.inl ((aA .i64 v2.1 1),()))else oR (aB (λ(v4:Int×Unit)=>bb (λ(v5:Bool×Unit)=>bif v5.1 then some (Sum.inl ((aA .i64 v4.1 1),()))else oR (bif cz 0 v4.1 (a0.length)then bif bl 176 (List.length ((a0.take (Int.toNat v4.1)).drop (Int.toNat 0)))then bif bl 176 (List.length ((a0.take (Int.toNat v4.1)).drop (Int.toNat 0))+List.length [(eT1 a1)])then bif cz v4.1 (a0.length:Int) (a0.length)then bif bl 176 (List.length (((a0.take (Int.toNat v4.1)).drop (Int.toNat 0))++[(eT1 a1)])+List.length ((a0.take (Int.toNat (a0.length:Int))).drop (Int.toNat v4.1)))then some (((((a0.take (Int.toNat v4.1)).drop (Int.toNat 0))++[(eT1 a1)])++((a0.take (Int.toNat (a0.length:Int))).drop (Int.toNat v4.1))),true,())else none else none else none else none else none)) λj6=>bif decide (v4.1<(a0.length:Int))then(idx a0 v4.1).bind λx7=>j6 ((decide (x7.al<a1.al)),())else j6 (false,())) (0,()))) (0,())
def lg(a0:af)(a1:aj):Option (af×Int×Unit):=(nq (eT2 a0)).bind λr1=>bif (!r1)then some ((af.mk 0 0 0 (ak.mk 0 [] []) 0 zB zB zB zB 0 0 bE []),13,())else(c7 (eT1 a1)).bind λr2=>(bif (!r2)then some true else some (decide (a1.al=a0.al))).bind λb3=>(bif b3 then some true else some (!decide (a1.aK=a0.aK))).bind λb4=>bif b4 then some ((af.mk 0 0 0 (ak.mk 0 [] []) 0 zB zB zB zB 0 0 bE []),61,())else(Ey a0.ar (eT1 a1)).bind λr5=>bif (!r5.2.1)then some ((af.mk 0 0 0 (ak.mk 0 [] []) 0 zB zB zB zB 0 0 bE []),9,())else(pa (eT2 a0) {a0 with aa:=(aq a0.aa),ar:=r5.1}).bind λr6=>some ((eT2 r6),0,())
def oZ(a0:aS)(a1:aj):Option (aS×Int×Unit):=(w7 (eT4 a0)).bind λr1=>bif (!r1)then some ((aS.mk (av.mk 0 0 0 0 (ak.mk 0 [] []) bE [] [] [] []) (af.mk 0 0 0 (ak.mk 0 [] []) 0 zB zB zB zB 0 0 bE []) (fJ.mk 0 0) 0 0 false bE),13,())else(lg (eT2 a0.ah) (eT1 a1)).bind λr2=>bif (!decide (r2.2.1=0))then some ((aS.mk (av.mk 0 0 0 0 (ak.mk 0 [] []) bE [] [] [] []) (af.mk 0 0 0 (ak.mk 0 [] []) 0 zB zB zB zB 0 0 bE []) (fJ.mk 0 0) 0 0 false bE),r2.2.1,())else(jm {a0 with aC:=(eT0 a0.aC),ah:=(eT2 r2.1)}).bind λr3=>some ((eT4 r3),0,())
noncomputable def mH(a0:Int):Option Bool:=(bif decide (0<=a0)then some (decide (a0<10))else some false).bind λb1=>some b1
def Az:=kf func58 [t0] q1 (u1 mH) [] .e []
noncomputable def Ht:SA U:=dY (ep prog 20 [] f107) (.r (.r (.l (.r (.l (.j ⟨[.val 3 y0,.val 9 y0],[7,8]⟩ .e))))))
noncomputable def jB(rec:(ak×Unit)->Option Int)(a0:ak):Option Int:=aB (λ(v1:Int×Int×Unit)=>bif decide (v1.2.1<(a0.aL.length:Int))then(idx a0.aL v1.2.1).bind λx2=>(rec ((aq x2),())).bind λr3=>some (Sum.inl ((bD v1.1 r3),(aA .i64 v1.2.1 1),()))else oR (some (aA .i64 v1.1 1))) (0,0,())
noncomputable def nM:Nat->(ak×Unit)->Option Int:=jg (λrec a=>jB rec a.1)
def jt(a0:ak):Option Int:=nM (SizeOf.sizeOf a0+1) (a0,())
noncomputable def Jy:KS U prog:=⟨.fn 107 [t4] q0 λa=>jt a.1,CW (K:=K) (A_s:=[t4]) (r:= .one y0) (B:=λrec a=>jB rec a.1) Ht 20 [.tmp 2] [] (fk f107 [] func107) (hF:=λa=>⟨_,rfl⟩)⟩
noncomputable def Js:SA U:=dY (ep prog 26 [] f108) (.r (.r (.l (.r (.l (.j ⟨[.val 3 y0,.val 16 y0],[14,15]⟩ .e))))))
noncomputable def kx(rec:(ak×Unit)->Option Int)(a0:ak):Option Int:=aB (λ(v1:Int×Int×Unit)=>bif decide (v1.2.1<(a0.aL.length:Int))then(idx a0.aL v1.2.1).bind λx2=>(rec ((aq x2),())).bind λr3=>some (Sum.inl ((aA .i64 v1.1 r3),(aA .i64 v1.2.1 1),()))else oR (some v1.1)) ((aA .i64 (a0.aX.length:Int) (a0.aL.length:Int)),0,())
noncomputable def oX:Nat->(ak×Unit)->Option Int:=jg (λrec a=>kx rec a.1)
def kj(a0:ak):Option Int:=oX (SizeOf.sizeOf a0+1) (a0,())
noncomputable def KW:KS U prog:=⟨.fn 108 [t4] q0 λa=>kj a.1,CW (K:=K) (A_s:=[t4]) (r:= .one y0) (B:=λrec a=>kx rec a.1) Js 26 [.tmp 2] [] (fk f108 [] func108) (hF:=λa=>⟨_,rfl⟩)⟩
noncomputable def xB(a0:Int):Option Bool:=(bif decide (0<=a0)then some (decide (a0<10))else some false).bind λb1=>some b1
def KU:=kf func178 [t0] q1 (u1 xB) [] .e []
def lL(a0:Int):Option Bool:=(xB a0).bind λr1=>some (!r1)
def G5:=kf func177 [t0] q1 (u1 lL) [] .e [KU]
def kV(a0:List Int):Option Int:=aB (λ(v1:Int×Unit)=>bif decide (v1.1<(a0.length:Int))then(idx a0 v1.1).bind λx2=>(lL x2).bind λr3=>bif r3 then oR (some v1.1)else some (Sum.inl ((aA .i64 v1.1 1),()))else oR (some (-1:Int))) (0,())
def xX:=kf func239 [t10,.bG 177 []] q0 (λa=>kV a.1) [] (p_ 4 5 (.j ⟨[.val 8 y0],[0,1,7]⟩ .e)) [G5]
def gp(a0:List Int):Option Bool:=(kV a0).bind λr1=>some (decide (0<=r1))
def vU:=kf func176 [t10,.bG 177 []] q1 (λa=>gp a.1) [] .e [xX]
noncomputable def za(a0:Int)(a1:Int):Option Bool:=(bif decide (0<=a0)then if a1<0 then none else some (decide (a0<(bV .i64 1 a1)))else some false).bind λb1=>some b1
def MR:=kf func322 [t0,t0] q1 (u2 za) [] .e []
def fT(a0:Int):Option Bool:=(za a0 10).bind λr1=>some r1
def qg:=kf func286 [t0] q1 (u1 fT) [] .e [MR]
def ke(a0:Int)(a1:Int):Option Bool:=(fT a0).bind λr1=>(bif r1 then some (decide (0<=a1))else some false).bind λb2=>(bif b2 then some (decide (a1<10))else some false).bind λb3=>(bif b3 then if a1<0 then none else some (!decide ((IF .i64 a0 (bV .i64 1 a1))=0))else some false).bind λb4=>some b4
def pM:=kf func240 [t0,t0] q1 (u2 ke) [] .e [qg]
def se(a0:List Int):Option (Int×Int×Unit):=aB (λ(v1:Int×Int×Unit)=>bif decide (v1.2.1<(a0.length:Int))then(idx a0 v1.2.1).bind λx2=>(bif decide (x2<0)then some true else some (decide (10<=x2))).bind λb3=>bif b3 then oR (some (0,5,()))else(ke v1.1 x2).bind λr4=>bif r4 then oR (some (0,6,()))else if x2<0 then none else some (Sum.inl ((qY .i64 v1.1 (bV .i64 1 x2)),(aA .i64 v1.2.1 1),()))else oR (some (v1.1,0,()))) (0,0,())
def SR:=kf func179 [t10] (.many [y0,y0]) (u1 se) [] (p_ 5 11 (.j ⟨[.val 4 y0,.val 9 y0],[7,8]⟩ .e)) [pM]
noncomputable def Hs:SA U:=dY (ep prog 48 [] f109) (.r (.r (.r (.r (.l (.r (.l (.j ⟨[.val 38 y0],[36,37]⟩ .e))))))))
def iu(rec:(ak×Unit)->Option Int)(a0:ak):Option Int:=(bif decide (a0.aH<1)then some true else some (decide ((aA .i64 (a0.aX.length:Int) (a0.aL.length:Int))<a0.aH))).bind λb1=>bif b1 then some 4 else(gp a0.aX).bind λr2=>bif r2 then some 5 else(se a0.aX).bind λr3=>bif (!decide (r3.2.1=0))then some r3.2.1 else aB (λ(v4:Int×Unit)=>bif decide (v4.1<(a0.aL.length:Int))then(idx a0.aL v4.1).bind λx5=>(rec ((aq x5),())).bind λr6=>bif (!decide (r6=0))then oR (some r6)else some (Sum.inl ((aA .i64 v4.1 1),()))else oR (some 0)) (0,())
noncomputable def fH:Nat->(ak×Unit)->Option Int:=jg (λrec a=>iu rec a.1)
def lx(a0:ak):Option Int:=fH (SizeOf.sizeOf a0+1) (a0,())
noncomputable def Jw:KS U prog:=⟨.fn 109 [t4] q0 λa=>lx a.1,CW (K:=K) (A_s:=[t4]) (r:= .one y0) (B:=λrec a=>iu rec a.1) Hs 48 [.tmp 2] [vU,SR] (fk f109 [] func109) (hF:=λa=>⟨_,rfl⟩)⟩
def bS(a0:ak):Option Int:=(jt (aq a0)).bind λr1=>(bif decide (4<r1)then some true else(kj (aq a0)).bind λr2=>some (decide (200<r2))).bind λb3=>bif b3 then some 3 else(lx (aq a0)).bind λr4=>some r4
def eU:=kf func59 [t4] q0 (u1 bS) [] .e [Jy,KW,Jw]
noncomputable def bA(a0:ae):Option Bool:=some (lC false a0.ai 0 a0.Value bE)
def cm:=kf func181 [t2] q1 (u1 bA) [] .e []
noncomputable def uf(a0:Int):Option Bool:=some (!decide (a0=a0))
def MY:=kf func222 [t0] q1 (u1 uf) [] .e []
def eX(a0:Int)(a1:Int):Option Int:=(uf a0).bind λr1=>(uf a1).bind λr2=>bif r1 then bif r2 then some 0 else some (-1:Int)else bif r2 then some 1 else bif decide (a0<a1)then some (-1:Int)else bif decide (a1<a0)then some 1 else some 0
def lv:=kf func162 [t0,t0] q0 (u2 eX) [] .e [MY]
noncomputable def qI(a0:ByteArray):Option Bool:=some (!decide (a0=a0))
def H9:=kf func323 [t3] q1 (u1 qI) [] .e []
def lq(a0:ByteArray)(a1:ByteArray):Option Int:=(qI a0).bind λr1=>(qI a1).bind λr2=>bif r1 then bif r2 then some 0 else some (-1:Int)else bif r2 then some 1 else bif (kO a0 a1)then some (-1:Int)else bif (!(kO a0 a1||decide (a0=a1)))then some 1 else some 0
def yC:=kf func289 [t3,t3] q0 (u2 lq) [] .e [H9]
noncomputable def mO(a0:List Int):Option Int:=aB (λ(v1:Int×Unit)=>bif decide (v1.1<(a0.length:Int))then(idx a0 v1.1).bind λx2=>bif (!decide (x2=0))then oR (some x2)else some (Sum.inl ((aA .i64 v1.1 1),()))else oR (some 0)) (0,())
def yB:=kf func288 [t10] q0 (u1 mO) [] (p_ 5 11 (.j ⟨[.val 8 y0],[3,6,7]⟩ .e)) []
def gP(a0:ByteArray)(a1:ByteArray):Option Int:=(eX (ByteArray.size a0:Int) (ByteArray.size a1:Int)).bind λr1=>(lq a0 a1).bind λr2=>(mO [r1,r2]).bind λr3=>some r3
def vR:=kf func361 [t3,t3] q0 (u2 gP) [] .e [lv,yC,yB]
def nX(a0:ae)(a1:ae):Option Int:=(eX a0.ai a1.ai).bind λr1=>(gP a0.Value a1.Value).bind λr2=>(mO [r1,r2]).bind λr3=>some r3
def Bt:=kf func320 [t2,t2] q0 (u2 nX) [] .e [lv,vR,yB]
def et(a0:ae)(a1:ae):Option Bool:=(nX a0 a1).bind λr1=>some (decide (r1<0))
def jf:=kf func278 [t2,t2] q1 (u2 et) [] .e [Bt]
noncomputable def cd(a0:ae)(a1:ae):Option Bool:=some (decide (a0.Value=a1.Value))
def di:=kf func232 [t2,t2] q1 (u2 cd) [] .e []
noncomputable def iF(a0:ae):Option Bool:=(bif decide (1<=a0.ai)then some (decide (a0.ai<=1000))else some false).bind λb1=>(bif b1 then some true else some (decide (a0.ai=1000000))).bind λb2=>(bif b2 then some (decide (1<=(ByteArray.size a0.Value:Int)))else some false).bind λb3=>(bif b3 then some (decide ((ByteArray.size a0.Value:Int)<=200))else some false).bind λb4=>some b4
def qi:=kf func231 [t2] q1 (u1 iF) [] .e []
def mM(a0:ae):Option Bool:=(iF a0).bind λr1=>(bif r1 then some (decide (a0.ai<=1000))else some false).bind λb2=>some b2
def AI:=kf func230 [t2] q1 (u1 mM) [] .e [qi]
end Go.Proofs.YtofedieniojipaaGreat
end
