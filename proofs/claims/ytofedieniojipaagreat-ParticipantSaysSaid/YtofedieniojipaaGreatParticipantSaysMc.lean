/-
  Texts made small by a program (see NOTES). Conditions: those that each theorem names.
-/
import Derived.Test.YtofedieniojipaaGreatParticipantSaysMb
import Derived.KernelRfl
import Derived.Laws.CopyRow
import Derived.Laws.Externs
import Derived.Lib.Overlaps
import Derived.Lib.AppendZerosOnto
import Derived.Laws.NewBlocks
import Derived.Test.YtofedieniojipaaGreatProg
import Derived.Shelf.Spec.SlicesInsert
import Derived.Shelf.SlSortCmp.NoneTotal
set_option linter.unusedVariables false
set_option linter.defProp false
set_option linter.unusedSimpArgs false
set_option linter.unusedSectionVars false
set_option maxHeartbeats 2000000
open Int (toNat)
open Sum (inl inr)
open List (replicate)
noncomputable section
namespace Go.TQ
section
open Go.RowKit
def sP{σ ρ:Type}(step:σ->Option (σ⊕ρ)):Nat->σ->Option ρ
 |0,_=>none
 |n+1,s=>match step s with
  |none=>none
  |some (.inr r)=>some r
  |some (.inl s')=>sP step n s'
def Ie{σ ρ:Type}{step:σ->Option (σ⊕ρ)}{r:ρ}:∀{n m:Nat} {s:σ},n<=m->sP step n s=some r->sP step m s=some r
 |0,_,_,_,h=>by cases h
 |n+1,0,_,hnm,_=>by omega
 |n+1,m+1,s,hnm,h=>by
  simp only[sP]at h ⊢;split at h
  ·cases h
  ·exact h
  ·exact Ie (by omega) h
def abW{σ ρ:Type}{step:σ->Option (σ⊕ρ)}{r r':ρ}{n m:Nat}{s:σ}(h:sP step n s=some r)(h':sP step m s=some r'):r=r':=by have h1:=Ie (Nat.le_max_left n m) h;have h2:=Ie (Nat.le_max_right n m) h';rw[h1]at h2;injection h2
open Classical in
 def aE{σ ρ:Type}(step:σ->Option (σ⊕ρ))(s:σ):Option ρ:=
 if h:∃r,∃n,sP step n s=some r then some (Classical.choose h)else none
def DA{σ ρ:Type}{step:σ->Option (σ⊕ρ)}{s:σ}{r:ρ}(h:aE step s=some r):∃n,sP step n s=some r:=by
 unfold aE at h;split at h
 ·rename_i hx;injection h with h
  obtain⟨n,hn⟩:=Classical.choose_spec hx;exact⟨n,by rw[hn,h]⟩
 ·cases h
def Nu{σ ρ:Type}{step:σ->Option (σ⊕ρ)}{s:σ}{r:ρ}{n:Nat}(h:sP step n s=some r):aE step s=some r:=by unfold aE;have hx:∃r,∃n,sP step n s=some r:=⟨r,n,h⟩;rw[dif_pos hx];obtain⟨m,hm⟩:=Classical.choose_spec hx;rw[abW hm h]
def fg{σ ρ:Type}(step:σ->Option (σ⊕ρ))(s:σ):aE step s=match step s with|none=>none|some (.inr r)=>some r|some (.inl s')=>aE step s':=by
 cases hs:step s with
 |none=>
  cases h:aE step s with
  |none=>rfl
  |some r=>
   obtain⟨n,hn⟩:=DA h
   cases n with
   |zero=>cases hn
   |succ n=>simp[sP,hs]at hn
 |some x=>
  cases x with
  |inr r=>exact Nu (n:=1) (by simp[sP,hs])
  |inl s'=>
   simp only
   cases h':aE step s' with
   |some r=>obtain⟨n,hn⟩:=DA h';exact Nu (n:=n+1) (by simp only[sP,hs];exact hn)
   |none=>
    cases h:aE step s with
    |none=>rfl
    |some r=>
     obtain⟨n,hn⟩:=DA h
     cases n with
     |zero=>cases hn
     |succ n=>simp only[sP,hs]at hn;rw[Nu hn]at h';cases h'
open Classical in
 def both{ρ:Type}(x y:Option ρ):Option ρ:=if x=y then x else none
def acy{ρ:Type}{x y:Option ρ}{r:ρ}(h:both x y=some r):x=some r/\y=some r:=by
 unfold both at h;split at h
 ·rename_i e;exact⟨h,e▸h⟩
 ·cases h
@[simp] def akh {ρ:Type} (x:Option ρ):both x x=x:=Qr rfl
def aY{σ ρ:Type}(j:σ->Option ρ)(f:(σ->Option ρ)->Option ρ):Option ρ:=f j
def ob{α σ ρ:Type}(step:Nat->α->σ->Option (σ⊕ρ))(fin:σ->Option ρ):List α->σ->Option ρ
 |[],s=>fin s
 |a::l,s=>match step l.length a s with
  |none=>none
  |some (.inr r)=>some r
  |some (.inl s')=>ob step fin l s'
section
variable {U : TU}
inductive SA (U:TU) where
 |skip
 |tZ (rs:RS U)
 |rV (un:List (Nat×Nat)) (rs:RS U)
 |seq (x y:SA U)
 |join (J:JS U) (x y:SA U)
 |cond (c:bB) (x y:SA U)
 |block (id:Nat) (x:SA U)
 |loop (J:JS U) (x:SA U)
 |Mx (n:Nat) (x:SA U)
 |back (J:JS U) (f k:Nat) (nE:Option Nat) (T:U.Ty) (tg p0 p1:Nat) (x y:SA U)
 |exit (id:Nat)
 |ret
 |ps (p:Ps U) (x:SA U)
 |Cq (p:Ps U) (x:SA U)
 |inl (r1:RS U) (d:Option Nat) (f:FuncId) (c:Option bB) (xs:List bB) (nt:Nat) (rvs:List RV) (x:SA U) (r2:RS U)
def Z7(f:FuncId)(c:Option bB)(xs:List bB):cu:=
 match c with
 |none=> .call f xs
 |some fv=> .uw fv xs
def SA.erase:SA U->SC
 | .skip=> .skip
 | .tZ rs=> .tZ rs.flat
 | .rV un rs=> .rV un rs.flat
 | .seq x y=> .seq x.erase y.erase
 | .join _ x y=> .seq x.erase y.erase
 | .cond c x y=> .cond c x.erase y.erase
 | .block id x=> .block id x.erase
 | .loop _ x=> .loop x.erase
 | .Mx _ x=> .loop x.erase
 | .back _ _ _ _ _ tg p0 p1 x y=> .GC (.tmp tg) [p0,p1] x.erase y.erase
 | .exit id=> .exit id
 | .ret=> .ret
 | .ps _ x| .Cq _ x=>x.erase
 | .inl r1 d f c xs _ _ _ r2=> .tZ (r1.flat++⟨d,none,Z7 f c xs⟩::r2.flat)
def SA.dE:SA U->Bool
 | .tZ rs| .rV _ rs=>rs.dE
 | .seq x y| .join _ x y=>x.dE&&y.dE
 | .cond c x y=>c.dE&&x.dE&&y.dE
 | .block _ x| .loop _ x| .Mx _ x=>x.dE
 | .back _ _ _ _ _ _ _ _ x y=>x.dE&&y.dE
 | .ps _ x| .Cq _ x=>x.dE
 | .inl ..=>false
 |_=>true
def SA.vZ(P:Program):SA U->Prop
 | .tZ rs| .rV _ rs=>rs.dE=true
 | .seq x y| .join _ x y=>x.vZ P/\y.vZ P
 | .cond c x y=>(c.dE=true/\x.vZ P)/\y.vZ P
 | .block _ x| .loop _ x| .Mx _ x=>x.vZ P
 | .back _ _ _ _ _ _ _ _ x y=>x.vZ P/\y.vZ P
 | .ps _ x| .Cq _ x=>x.vZ P
 | .inl r1 _ f c xs nt rvs x r2=>(r1.dE=true/\r2.dE=true/\xs.all bB.dE=true/\c.all bB.dE=true)/\x.erase.MG=true/\iO P f nt x.erase rvs/\x.vZ P
 |_=>True
def oV{P:Program}:∀{sa:SA U},sa.dE=true->sa.vZ P
 | .tZ _,h| .rV _ _,h=>h
 | .seq x y,h| .join _ x y,h=>by simp only[SA.dE,Qm]at h;exact⟨oV h.1,oV h.2⟩
 | .cond c x y,h=>by simp only[SA.dE,Qm]at h;exact⟨⟨h.1.1,oV h.1.2⟩,oV h.2⟩
 | .block _ x,h| .loop _ x,h| .Mx _ x,h| .ps _ x,h| .Cq _ x,h=>oV (sa:=x) h
 | .back _ _ _ _ _ _ _ _ x y,h=>by simp only[SA.dE,Qm]at h;exact⟨oV h.1,oV h.2⟩
 | .inl ..,h=>by cases h
 | .skip,_| .exit _,_| .ret,_=>trivial
def SA.Bx:SA U->Bool
 | .tZ rs| .rV _ rs=>rs.dE
 | .seq x y| .join _ x y=>x.Bx&&y.Bx
 | .cond c x y=>c.dE&&x.Bx&&y.Bx
 | .block _ x| .loop _ x| .Mx _ x=>x.Bx
 | .back _ _ _ _ _ _ _ _ x y=>x.dE&&y.dE
 | .ps _ x| .Cq _ x=>x.Bx
 | .inl r1 _ _ c xs _ _ x r2=>r1.dE&&r2.dE&&xs.all bB.dE&&c.all bB.dE&&x.erase.MG&&x.Bx
 |_=>true
def SA.SF:SA U->List (FuncId×Nat×SC×List RV)
 | .seq x y| .join _ x y| .cond _ x y=>x.SF++y.SF
 | .block _ x| .loop _ x| .Mx _ x| .ps _ x| .Cq _ x=>x.SF
 | .inl _ _ f _ _ nt rvs x _=>(f,nt,x.erase,rvs)::x.SF
 |_=>[]
def xq(P:Program):List (FuncId×Nat×SC×List RV)->Prop
 |[]=>True
 |q::l=>iO P q.1 q.2.1 q.2.2.1 q.2.2.2/\xq P l
def xq.cz{P:Program}:∀{a b:List (FuncId×Nat×SC×List RV)},xq P (a++b)->xq P a/\xq P b
 |[],_,h=>⟨trivial,h⟩
 |_::a,_,h=>⟨⟨h.1,(xq.cz (a:=a) h.2).1⟩,(xq.cz (a:=a) h.2).2⟩
def Bw{P:Program}:∀{sa:SA U},sa.Bx=true->xq P sa.SF->sa.vZ P
 | .tZ _,h,_| .rV _ _,h,_=>h
 | .seq x y,h,k| .join _ x y,h,k=>by simp only[SA.Bx,Qm]at h;exact⟨Bw h.1 (xq.cz k).1,Bw h.2 (xq.cz k).2⟩
 | .cond c x y,h,k=>by simp only[SA.Bx,Qm]at h;exact⟨⟨h.1.1,Bw h.1.2 (xq.cz k).1⟩,Bw h.2 (xq.cz k).2⟩
 | .block _ x,h,k| .loop _ x,h,k| .Mx _ x,h,k| .ps _ x,h,k| .Cq _ x,h,k=>Bw (sa:=x) h k
 | .back _ _ _ _ _ _ _ _ x y,h,_=>by simp only[SA.Bx,Qm]at h;exact⟨oV h.1,oV h.2⟩
 | .inl r1 d f c xs nt rvs x r2,h,k=>by simp only[SA.Bx,Qm]at h;exact⟨⟨h.1.1.1.1.1,h.1.1.1.1.2,h.1.1.1.2,h.1.1.2⟩,h.1.2,k.1,Bw h.2 k.2⟩
 | .skip,_,_| .exit _,_,_| .ret,_,_=>trivial
variable (K : TK U)
def Fo(Γ:List (dU U)){ρ:Type}(W:WS)(base:Nat):RS U->(i:Nat)->(S:aW U)->(k:aW U->List xP->Option ρ)->Option ρ
 | .nil,_,S,k=>k S []
 | .op o r,i,S,k=>aao K Γ W (base+i) S o λx wr=>Fo Γ W base r (i+1) (S.cz o.d x wr) λS' fs=>k S' (⟨o.d,o.cU,G3 (base+i) S.st o,wr.map (·.1)⟩::fs)
 | .C6 t r,i,S,k=>(match S.env t with
  | .bool b=>bif b then Fo Γ W base r i (S.cz (some t) (.bool true) none) k else Fo Γ W base r i (S.cz (some t) (.bool false) none) k
  | .undef=>Fo Γ W base r i S k
  |_=>none)
 |_,_,_,_=>none
def F0(F:List Nat)(ds:List Nat):Bool:=ds.all λt=> !iL t F
def aW.more(S:aW U)(n:Nat):aW U:={env:=S.env,H:=S.H,N:=S.N+n}
def aW.gD(S:aW U)(D:List Nat):aW U:={env:=λt=>(match iL t D with|true=> .any|false=>S.env t),H:=S.H,N:=S.N}
def Z1(U:TU)(T:U.Ty):Option Nat->Bool
 |none=> !U.agg T
 |some n=>U.agg T&&Nat.beq n (U.size T)
def Lw(S:aW U)(f:FuncId)(c:Option bB)(xs:List bB):Option (List (KV U)):=
 match c with
 |none=>some (xs.map (·.dj S))
 |some fv=>(match fv.dj S with
  | .bI g caps=>(match Nat.beq g f with|true=>some (xs.map (·.dj S)++caps)|false=>none)
  |_=>none)
def aeI(S:aW U):KV U->KV U->Bool
 | .ptr i v o,.ptr i' v' o'=>Nat.beq i i'&&Nat.beq v v'&&Nat.beq o o'&&Nat.beq (S.H i).av v
 |_,_=>false
def UU(S:aW U)(A_s:List (KV U))(t:Nat):Bool:=(S.env t).qf (λ_=>false)||A_s.any (aeI S (S.env t))
def ahD(id:Nat):KV U->Bool
 | .ptr i _ _=>Nat.beq i id
 | .bI _ cs| .jz _ cs=>cs.any (λx=>match x with| .ptr i _ _=>Nat.beq i id|_=>false)
 |_=>false
def xM(S:aW U)(A_s:List (KV U))(id:Nat):Bool:=
 Nat.blt id S.N&& !Nat.beq id 0&&(match(S.H id).c with| .box cs=>cs.all KV.closed|_=>false)&& !A_s.any (ahD id)
def Ig(S:aW U)(A_s:List (KV U)):aW U:={env:=S.env,H:=λid=>(match xM S A_s id with|true=>⟨(S.H id).av,.dead⟩|false=>S.H id),N:=S.N}
def agh:dY U->Bool
 | .dead=>true
 |_=>false
def ae9(S S':aW U)(A_s:List (KV U)):Bool:=He S.N (λid=> !xM S A_s id||agh (S'.H id).c)
def Wq(S:aW U)(A_s:List (KV U)):aW U:={env:=λt=>(A_s[t]?).getD .undef,H:=S.H,N:=S.N}
def Rs(S S':aW U)(A_s:List (KV U))(t:Nat):KV U:=
 match UU S A_s t with
 |true=>S.env t
 |false=>(match S.env t with
  | .ptr id v o=>(match xM S A_s id&&Nat.beq (S.H id).av v with|true=> .ptr id (Nat.succ (S'.H id).av) o|false=> .any)
  |_=> .any)
def AG(S S':aW U)(A_s:List (KV U))(d:Option Nat)(r:KV U):aW U:=
 ({env:=Rs S S' A_s,H:=λid=>(match xM S A_s id with|true=>⟨Nat.succ (S'.H id).av,(S.H id).c⟩|false=>S'.H id),N:=S'.N}:aW U).cz d r none
def HN(S S':aW U)(r:KV U)(id:Nat):Bool:=Nat.ble S.N id&&(match(S'.H id).c with| .box _=>true|_=>false)&& !ahD id r
def aW.Fv(S:aW U)(q:Nat->Bool):aW U:={env:=S.env,H:=λid=>(match q id with|true=>⟨(S.H id).av,.dead⟩|false=>S.H id),N:=S.N}
def Wo(S:aW U)(F:List Nat)(W:WS)(A_s:List (KV U))(nt:Nat)(ts:List Nat):Bool:=
 (match W with|some (n,_)=>Nat.ble n S.N|none=>false)&&Nat.ble A_s.length nt&&ts.all (λt=>Nat.ble A_s.length t)&&F.all (UU S A_s)&&He S.N (λid=> !xM S A_s id||okW W id)
def U8{ρ:Type}(f:(aW U->Option ρ)->aW U->Option ρ):Nat->aW U->Option ρ
 |0,_=>none
 |n+1,S=>f (U8 f n) S
 def oY(Γ:List (dU U)):SA U->{ρ:Type}->(F:List Nat)->(W:WS)->(k:Exit->aW U->Option ρ)->(S:aW U)->Option ρ
 | .skip,_,_,_,k,S=>k .normal S
 | .tZ rs,_,F,W,k,S=>(match F0 F rs.iw with
  |true=>ji K Γ rs W S.N (S.more rs.len) λS'=>k .normal S'
  |false=>none)
 | .rV un rs,_,F,W,k,S=>(match F0 F rs.iw with
  |true=>Fo K Γ W S.N rs 0 (S.more rs.len) λS' fs=>(match un.all (λp=>match fs[p.1]?,fs[p.2]? with|some a,some b=>EG a b|_,_=>false)with
   |true=>k .normal S'
   |false=>none)
  |false=>none)
 | .seq x y,_,F,W,k,S=>oY Γ x F W (λe S'=>match e with
  | .normal=>oY Γ y F W k S'
  |e=>k e S') S
 | .join J x y,_,F,W,k,S=>(match wJ S J F W with
  |true=>aY (λv=>oY Γ y F W k (unpack K S J v)) λj=>oY Γ x J.eO (some (S.N,fK J.items)) (λe S'=>match e with
   | .normal=>(match pack K S' J.items with|some v=>j v|none=>none)
   |e=>k e S') S
  |false=>none)
 | .cond c x y,_,F,W,k,S=>(match c.dj S with
  | .bool b=>bif b then oY Γ x F W k S else oY Γ y F W k S
  | .gL=>both (oY Γ x F W k S) (oY Γ y F W k S)
  |_=>none)
 | .block id x,_,F,W,k,S=>oY Γ x F W (λe S'=>match e with
  | .exit i=>(match Nat.beq i id with|true=>k .normal S'|false=>k (.exit i) S')
  |e=>k e S') S
 | .loop J x,_,F,W,k,S=>(match wJ S J F W with
  |true=>(match pack K S J.items with
   |some v0=>aE (λv=>oY Γ x J.eO (some (S.N,fK J.items)) (λe S'=>match e with
    | .normal=>(match pack K S' J.items with|some v=>some (inl v)|none=>none)
    |e=>(k e S').map inr) (unpack K S J v)) v0
   |none=>none)
  |false=>none)
 | .Mx n x,_,F,W,k,S=>U8 (λih S=>oY Γ x F W (λe S'=>match e with| .normal=>ih S'|e=>k e S') S) n S
 | .back J f kk nE T tg p0 p1 x y,_,F,W,k,S=>
  let D:=SC.s8 (.GC (.tmp tg) [p0,p1] x.erase y.erase)
  (match PZ f kk nE Γ&&Nat.beq (U.size T) kk&&Z1 U T nE&&iL tg J.eO&&F0 J.eO D&&F0 F D&&wJ (S.gD D) J F W with
  |true=>(match S.env tg with
   | .bI f' [.ref [.sl T' xs']]=>(match Nat.beq f' f with
    |true=>(match yG T' T xs' with
     |some xs=>(match pack K (S.gD D) J.items with
      |some v0=>ob (λm a v=>oY Γ x J.eO (some (S.N,fK J.items)) (λe S1=>match e with
       | .normal=>oY Γ y J.eO (some (S.N,fK J.items)) (λe S'=>match e with
        | .normal=>(match pack K (S'.gD D) J.items with|some v=>some (inl v)|none=>none)
        | .ret=>(k .ret (S'.gD D)).map inr
        | .exit i=>(k (.exit i) (S'.gD D)).map inr
        |_=>none) S1
       |_=>none) {(unpack K (S.gD D) J v)with env:=hY (hY (unpack K (S.gD D) J v).env p0 (.int .i64 m)) p1 (Bm K T a)}) (λv=>k .normal (unpack K (S.gD D) J v)) xs.reverse v0
      |none=>none)
     |none=>none)
    |false=>none)
   |_=>none)
  |false=>none)
 | .inl r1 d f c xs nt rvs x r2,_,F,W,k,S=>(match F0 F (r1.iw++d.toList++r2.iw)with
  |true=>ji K Γ r1 W S.N (S.more r1.len) λS1=>(match Lw S1 f c xs with
   |some A_s=>(match Wo S1 F W A_s nt x.erase.s8 with
    |true=>oY Γ x (List.range A_s.length) W (λe S2=>match e with
     | .ret| .normal=>(match zW S2 rvs with
      |some v=>(match ae9 S1 S2 A_s with|true=>ji K Γ r2 W S2.N (((AG S1 S2 A_s d v).Fv (HN S1 S2 v)).more r2.len) λS3=>k .normal S3|false=>none)
      |none=>none)
     |_=>none) (Wq (Ig S1 A_s) A_s)
    |false=>none)
   |none=>none)
  |false=>none)
 | .exit id,_,_,_,k,S=>k (.exit id) S
 | .ret,_,_,_,k,S=>k .ret S
 | .ps p x,_,F,W,k,S=>(match(p.HS S).all (okW W)&&F0 F p.tmps with
  |true=>(match p.run S with|some S'=>oY Γ x F W k S'|none=>none)
  |false=>none)
 | .Cq p x,_,F,W,k,S=>oY Γ x F W (λe S'=>match e with
  | .normal=>(match(p.HS S').all (okW W)&&F0 F p.tmps with
   |true=>(match p.run S' with|some S1=>k .normal S1|none=>none)
   |false=>none)
  |e=>k e S') S
structure iN (F:List Nat) (W:WS) (S S':aW U):Prop where
 env:∀t∈F,S'.env t=S.env t
 H:∀id,okW W id=false->S'.H id=S.H id
 N:S.N<=S'.N
def iN.refl(F:List Nat)(W:WS)(S:aW U):iN F W S S:=⟨λ_ _=>rfl,λ_ _=>rfl,QI _⟩
def iN.trans{F:List Nat}{W:WS}{S S' S'':aW U}(h:iN F W S S')(h':iN F W S' S''):iN F W S S'':=
 ⟨λt ht=>(h'.env t ht).trans (h.env t ht),λid hid=>(h'.H id hid).trans (h.H id hid),QK h.N h'.N⟩
def Dj.toC{D F:List Nat}{W:WS}{S S':aW U}(h:Dj D W S S')(ho:F0 F D=true):iN F W S S':=
 ⟨λt ht=>h.env t (λhd=>by have h1:=QH.1 ho t hd;rw[eA.2 ht]at h1;cases h1),h.H,h.N⟩
def iN.more{F:List Nat}{W:WS}{S S':aW U}{n:Nat}(h:iN F W (S.more n) S'):iN F W S S':=
 ⟨h.env,h.H,QK (Nat.le_add_right _ _) h.N⟩
variable {K}
variable {P : Program} {nt : Nat}
def S6{sc:SC}{Q:Exit->St->Prop}{S S':St}(hw:∀(E:En) (a:Act) (w:World) (L:Nat->Value),Rel E S a w L->∃L',Rel E S' a w L')(h:VS P nt sc Q S'):VS P nt sc Q S:=
 λc hs hc E hE hk a w L hr=>by obtain⟨L',h'⟩:=hw E a w L hr;exact h c hs hc E hE hk a w L' h'
def ag7{sc:SC}{Q Q':Exit->St->Prop}{S:St}(h:VS P nt sc Q' S)(hq:∀e A,Q' e A->∃A',Q e A'/\∀(E:En) (a:Act) (w:World) (L:Nat->Value),Rel E A a w L->∃L',Rel E A' a w L'):VS P nt sc Q S:=
 λc hs hc E hE hk a w L hr=>wpIn_mono (h c hs hc E hE hk a w L hr) λ_ _ _ ⟨S',L',h1,h2⟩=>by obtain⟨A',h3,h4⟩:=hq _ _ h2;obtain⟨L'',h5⟩:=h4 _ _ _ _ h1;exact⟨A',L'',h5,h3⟩
def ag6{Γ:List (dU U)}(hΓ:vq P Γ){rs:RS U}{W:WS}{ρ:Type}{k:aW U->Option ρ}{r:ρ}{S:aW U}(hok:rs.dE=true)(hr:ji K Γ rs W S.N (S.more rs.len) k=some r){Q:Exit->St->Prop}
  (h:∀S',Dj rs.iw W (S.more rs.len) S'->k S'=some r->Q .normal S'.st):VS P nt (.tZ rs.flat) Q S.st:=by
 intro c hs hc
 cases c with
 |region id ops d=>
  cases d with
  |true=>simp only[aX]at hc;(try split at hc)<;>(try split at hc)<;>(try split at hc)<;>cases hc
  |false=>
   simp only[aX]at hc;split at hc
   ·rename_i gs' hgs;split at hc
    ·rename_i hd;injection hc with hc
     injection hc with hc
     subst hc;intro E hE hk a w L hrel;refine wpIn_region_list ?_;have h0:Rel E (S.more rs.len).st a w L:=hrel.room rs.len;have:=nf (K:=K) (E:=E) hΓ (ops:=ops) (Q:=λe a' w'=>∃S' L',Rel E S' a' w' L'/\Q e S') rs W S.N (S.more rs.len) k r ops.toList [] a w L hok hgs h0 (QI _) (Xc hE hk (Rc hd)) hr (λS' a' w' L' hf h' hk'=>⟨S'.st,L',h',h S' hf hk'⟩)
     simpa using this
    ·cases hc
   ·cases hc
 |seq x y|cond c x y=>simp only[aX]at hc;split at hc<;>cases hc
 |block id c|loop c=>simp only[aX,Qb]at hc;obtain⟨_,_,hc⟩:=hc;cases hc
 |rangeFunc g ps x y=>simp only[aX]at hc;(try split at hc)<;>(try split at hc)<;>cases hc
 |_=>simp only[aX]at hc<;>cases hc
def OB{Γs Γs':Nat->qv}{base:Nat}:∀(l:List (Nat×SG)) (S:St),(∀p∈l,Γs p.1=Γs' p.1)->qd Γs base l S=qd Γs' base l S
 |[],_,_=>rfl
 |(i,g)::l,S,h=>by
  simp only[qd,h (i,g) (by simp)]
  split
  ·rfl
  ·rename_i p hp;rw[OB l _ λq hq=>h q (Qy _ hq)]
def ye{Γ:List (dU U)}(hΓ:vq P Γ){W:WS}{base:Nat}{ρ:Type}{r:ρ}:∀(rs:RS U) (i:Nat) (S:aW U) (k:aW U->List xP->Option ρ),rs.dE=true->Fo K Γ W base rs i S k=some r->
  ∃(Γs:Nat->qv) (S':aW U) (fs:List xP),(∀j,pD P (Γs j))/\qd Γs base ((rs.flat.zipIdx i).map λp=>(p.2,p.1)) S.st=some (S'.st,fs)/\Dj rs.iw W S S'/\k S' fs=some r
 | .nil,i,S,k,_,h=>⟨λ_ _=>none,S,[],λ_=>ZY,rfl,Dj.refl _ _ _,h⟩
 | .op o rs,i,S,k,hok,h=>by
  simp only[RS.dE,Qm]at hok;simp only[Fo]at h;obtain⟨Γ',x,wr,h1,h2,h3,h4⟩:=Rb hΓ hok.1 h;obtain⟨Γs,S',fs,h5,h6,h7,h8⟩:=ye hΓ rs (i+1) _ _ hok.2 h4;refine⟨λj=>if j=i then Γ' else Γs j,S',_,λj=> ?_,?_,?_,h8⟩
  ·simp only;split
   ·exact h1
   ·exact h5 j
  ·simp only[RS.flat,List.zipIdx_cons,QD,qd,Qt,h2]
   have:qd (λj=>if j=i then Γ' else Γs j) base ((rs.flat.zipIdx (i+1)).map λp=>(p.2,p.1)) (S.st.cz o.d x.pv (wr.map kQ))=some (S'.st,fs):=by
    rw[<-Gy,<-h6];refine OB _ _ λp hp=> ?_
    obtain⟨q,hq,rfl⟩:=QP.1 hp;have:=List.mem_zipIdx hq;simp only;rw[Qs (by omega)]
   rw[this];simp only[Gf]
   cases wr with
   |none|some p=>rfl
  ·refine(Za S W o.d x wr h3).trans h7 λt ht=> ?_
   simp only[RS.iw]at ht
   cases hdd:o.d with
   |none=>rw[hdd]at ht;exact⟨by simp,ht⟩
   |some d=>rw[hdd]at ht;simp only[QA,not_or]at ht;exact⟨by simpa using λe=>ht.1 e,ht.2⟩
 | .C6 t rs,i,S,k,hok,h=>by
  simp only[Fo]at h;split at h
  ·rename_i b hb
   cases b with
   |true=>rw[Qk,ET hb]at h;exact ye hΓ rs i S k hok h
   |false=>rw[Ql,ET hb]at h;exact ye hΓ rs i S k hok h
  ·exact ye hΓ rs i S k hok h
  ·cases h
 | .ps _ _,_,_,_,_,h| .ite _ _ _ _ _ _ _ _,_,_,_,_,h=>by cases h
def ag3{c:Code}{Q:Exit->St->Prop}{S:St}(I:Nat->St->Prop)(m0:Nat){S0:St}(hw0:∀(E:En) (a:Act) (w:World) (L:Nat->Value),Rel E S a w L->∃L',Rel E S0 a w L')(h0:I m0 S0)
  (hr:∀m S,I m S->V P nt c (λe S'=>match e with| .normal=>∃m',m'<m/\∃S'',(∀(E:En) (a:Act) (w:World) (L:Nat->Value),Rel E S' a w L->∃L',Rel E S'' a w L')/\I m' S''|e=>Q e S') S):V P nt (.loop c) Q S:=λE hE hk a w L hrel=>by
 refine wpIn_loop_ghost (λm a w=>∃S L,I m S/\Rel E S a w L) m0 ?_ ?_
 ·obtain⟨L',h'⟩:=hw0 E a w L hrel;exact⟨S0,L',h0,h'⟩
 rintro m a w ⟨S1,L1,hI,h1⟩;refine wpIn_mono (hr m S1 hI E hE hk a w L1 h1) ?_;rintro e a' w' ⟨S',L',h2,h3⟩
 cases e with
 |normal=>obtain⟨m',hlt,S'',hw,hI'⟩:=h3;obtain⟨L'',h4⟩:=hw E a' w' L' h2;exact⟨m',hlt,S'',L'',hI',h4⟩
 |exit i|goto l|ret|panic c|outgrown=>exact⟨S',L',h2,h3⟩
def Xq{x:SC}{Q:Exit->St->Prop}{S:St}(I:Nat->St->Prop)(m0:Nat){S0:St}(hw0:∀(E:En) (a:Act) (w:World) (L:Nat->Value),Rel E S a w L->∃L',Rel E S0 a w L')(h0:I m0 S0)
  (hr:∀m S,I m S->VS P nt x (λe S'=>match e with| .normal=>∃m',m'<m/\∃S'',(∀(E:En) (a:Act) (w:World) (L:Nat->Value),Rel E S' a w L->∃L',Rel E S'' a w L')/\I m' S''|e=>Q e S') S):VS P nt (.loop x) Q S:=by
 intro c hs hc
 cases c with
 |loop p=>
  simp only[aX,Qb]at hc;obtain⟨x',hx,hc⟩:=hc;injection hc with h1
  subst h1;exact ag3 I m0 hw0 h0 (λm S hI=>hr m S hI p hs hx)
 |region id ops d=>cases d<;>simp only[aX]at hc<;>(try split at hc)<;>(try split at hc)<;>(try split at hc)<;>cases hc
 |seq x y|cond c x y=>simp only[aX]at hc;split at hc<;>cases hc
 |block id c=>simp only[aX,Qb]at hc;obtain⟨_,_,hc⟩:=hc;cases hc
 |rangeFunc g ps x y=>simp only[aX]at hc;(try split at hc)<;>(try split at hc)<;>cases hc
 |_=>simp only[aX]at hc<;>cases hc
def Nt{S:aW U}{J:JS U}{F:List Nat}{W:WS}(hchk:wJ S J F W=true)(v:uz J.items):iN F W S (unpack K S J v):=by
 simp only[wJ,Qm,QH]at hchk;obtain⟨⟨⟨⟨⟨⟨hnd,hids⟩,hokv⟩,hkeep⟩,hobj⟩,hF⟩,hW⟩:=hchk;refine⟨λt ht=> ?_,λid hid=> ?_,?_⟩
 ·have hk:=eA.1 (hF t ht);have hns:iL t (slotsOf J.items)=false:=by simpa using(hkeep t hk).2
  rcases Cp (K:=K) (S.base J.eO) J.items v t with⟨⟨i,d⟩,hmem,h1,h2⟩|⟨_,h2⟩
  ·exact absurd (Fu (lR hmem) h1) (sB hns)
  ·rw[show(unpack K S J v).env t=_ from h2,IB,Qr hk]
 ·have hlt:id<S.N:=by
   cases W with
   |none=>cases hW
   |some q=>
    obtain⟨n,l⟩:=q;simp only at hW;simp only[okW,Qq74]at hid;have h1:=QG hW;have h2:¬n<=id:=λhle=>by rw[Nat.ble_eq_true_of_le hle]at hid;cases hid.1
    omega
  rcases GG (K:=K) (S.base J.eO) J.items v id hnd with⟨⟨i,d⟩,hmem,h1,h2⟩|⟨_,h2⟩
  ·have:=(hids id (u9 (lR hmem) h1)).2;rw[hid]at this;cases this
  ·rw[show(unpack K S J v).H id=_ from h2,Rq,Qr hlt]
 ·rw[unpack,GF,Rp];exact QI _
def J2{S S1:aW U}{J:JS U}{F:List Nat}{W:WS}(hchk:wJ S J F W=true){v:uz J.items}(hp:pack K S1 J.items=some v)(hf:iN J.eO (some (S.N,fK J.items)) S S1):
  ∀(E:En) (a:Act) (w:World) (L:Nat->Value),Rel E S1.st a w L->∃L',Rel E (unpack K S J v).st a w L':=by
 intro E a w L h;refine⟨L,Rel.meet hchk hp hf.env (λid hid hni=>hf.H id ?_) hf.N h⟩
 simp only[okW,Qq74];refine⟨?_,?_⟩
 ·cases hb:Nat.ble S.N id with
  |false=>rfl
  |true=>have:=QG hb;omega
 ·cases hb:iL id (fK J.items)with
  |false=>rfl
  |true=>exact absurd (eA.1 hb) hni
def Nb(S:aW U)(D:List Nat):(S.gD D).st=S.st.xi D:=by
 unfold aW.gD aW.st St.xi;congr 1
 funext t
 simp only
 by_cases h:t∈D
 ·rw[Qr h,eA.2 h];rfl
 ·rw[Qs h]
  cases hb:iL t D with
  |true=>exact absurd (eA.1 hb) h
  |false=>rfl
def Iq{F D:List Nat}(h:F0 F D=true)(W:WS)(S:aW U):iN F W S (S.gD D):=
 ⟨λt ht=>by
  have hn:iL t D=false:=by
   cases hb:iL t D with
   |false=>rfl
   |true=>have:=QH.1 h t (eA.1 hb);rw[eA.2 ht]at this;cases this
  simp only[aW.gD,hn],λ_ _=>rfl,QI _⟩
def VU{S:aW U}{J:JS U}{F:List Nat}{W:WS}(hchk:wJ S J F W=true)(v:uz J.items){S':aW U}(hf:iN J.eO (some (S.N,fK J.items)) (unpack K S J v) S'):iN F W S S':=by
 have hm:=Nt (K:=K) hchk v;refine hm.trans ?_;simp only[wJ,Qm,QH]at hchk;obtain⟨⟨⟨⟨⟨⟨hnd,hids⟩,hokv⟩,hkeep⟩,hobj⟩,hF⟩,hW⟩:=hchk;refine⟨λt ht=>hf.env t (eA.1 (hF t ht)),λid hid=>hf.H id ?_,hf.N⟩
 simp only[okW,Qq74];refine⟨?_,?_⟩
 ·cases W with
  |none=>cases hW
  |some q=>
   obtain⟨n,l⟩:=q;simp only at hW;simp only[okW,Qq74]at hid;have h1:=QG hW
   cases hb:Nat.ble S.N id with
   |false=>rfl
   |true=>have:=QG hb;rw[Nat.ble_eq_true_of_le (QK h1 this)]at hid;cases hid.1
 ·cases hb:iL id (fK J.items)with
  |false=>rfl
  |true=>have:=(hids id (eA.1 hb)).2;rw[hid]at this;cases this
def TR{S:aW U}{J:JS U}{F:List Nat}{W:WS}(hchk:wJ S J F W=true)(v:uz J.items){t:Nat}(ht:t∈J.eO):(unpack K S J v).env t=S.env t:=by
 simp only[wJ,Qm,QH]at hchk;obtain⟨⟨⟨⟨⟨⟨hnd,hids⟩,hokv⟩,hkeep⟩,hobj⟩,hF⟩,hW⟩:=hchk;have hns:iL t (slotsOf J.items)=false:=by simpa using(hkeep t ht).2
 rcases Cp (K:=K) (S.base J.eO) J.items v t with⟨⟨i,d⟩,hmem,h1,h2⟩|⟨_,h2⟩
 ·exact absurd (Fu (lR hmem) h1) (sB hns)
 ·rw[show(unpack K S J v).env t=_ from h2,IB,Qr ht]
def abP{S:aW U}{J:JS U}{F:List Nat}{W:WS}(hchk:wJ S J F W=true)(v:uz J.items){S':aW U}(hf:iN J.eO (some (S.N,fK J.items)) (unpack K S J v) S'){v':uz J.items}(hv':pack K S' J.items=some v'):
  ∀(E:En) (a:Act) (w:World) (L:Nat->Value),Rel E S'.st a w L->∃L',Rel E (unpack K S J v').st a w L':=by
 intro E a w L hrel;have hkp:=λ{t} ht=>TR (K:=K) hchk v (t:=t) ht
 have hc:=hchk;simp only[wJ,Qm,QH]at hc;obtain⟨⟨⟨⟨⟨⟨hnd,hids⟩,hokv⟩,hkeep⟩,hobj⟩,hF⟩,hW⟩:=hc;refine⟨L,Rel.meet hchk hv' (λt ht=>(hf.env t ht).trans (hkp ht)) (λid hid hni=>(hf.H id ?_).trans ?_) (by have:=hf.N;rw[unpack,GF,Rp]at this;exact this) hrel⟩
 ·simp only[okW,Qq74];refine⟨?_,?_⟩
  ·cases hb:Nat.ble S.N id with
   |false=>rfl
   |true=>have:=QG hb;omega
  ·cases hb:iL id (fK J.items)with
   |false=>rfl
   |true=>exact absurd (eA.1 hb) hni
 ·rcases GG (K:=K) (S.base J.eO) J.items v id hnd with⟨⟨i,d⟩,hmem,h1,h2⟩|⟨_,h2⟩
  ·exact absurd (u9 (lR hmem) h1) hni
  ·rw[show(unpack K S J v).H id=_ from h2,Rq,Qr hid]
def aei{T:U.Ty}{k:Nat}{nE:Option Nat}(hsz:U.size T=k)(hnE:Z1 U T nE=true)(xs:List (U.den T)):K0 k nE (xs.map (U.pv T))/\∀a:U.den T,CG nE (U.pv T a)=(Bm K T a).pv:=by
 have key:∀a:U.den T,vB nE (U.pv T a)=some (fC T a):=by
  intro a;unfold fC
  cases nE with
  |none=>
   simp only[Z1,Bool.not_eq_true']at hnE;have h1:=K.len T a;rw[K.one T hnE]at h1;rw[hnE]
   match h2:U.pv T a with
   |[]=>rw[h2]at h1;cases h1
   |x::l=>rfl
  |some n=>simp only[Z1,Qm]at hnE;have h1:=QF hnE.2;subst h1;rw[hnE.1,vB,Qr (by rw[K.len];exact QI _),<-K.len T a,Qq62]
 have hev:∀a:U.den T,CG nE (U.pv T a)=fC T a:=λa=>by simp only[CG,key,Q3]
 refine⟨⟨λe he=> ?_,λe he=> ?_,λe he=> ?_⟩,λa=>by rw[hev,DR]⟩
 ·obtain⟨a,_,rfl⟩:=QP.1 he;rw[K.len,hsz]
 ·obtain⟨a,_,rfl⟩:=QP.1 he;rw[hev,key]
 ·obtain⟨a,_,rfl⟩:=QP.1 he;rw[hev];unfold fC;split
  ·exact QH.2 λy hy=>gM (K.ib T a y hy)
  ·cases h2:U.pv T a with
   |nil=>have:=K.len T a;rename_i hag;rw[K.one T hag,h2]at this;cases this
   |cons x l=>
    have h3:=gM (K.ib T a x (by rw[h2];exact Qx))
    have h4:=K.ib T a x (by rw[h2];exact Qx)
    cases x<;>first|exact h3|(cases h4)
def aif(S:aW U)(A_s:List (KV U)):(Wq S A_s).st={S.st with env:=λt=>((A_s.map KV.pv)[t]?).getD .undef}:=by
 unfold Wq aW.st;congr 1
 funext t
 simp only[QT];cases A_s[t]?<;>rfl
def adM(S:aW U)(A_s:List (KV U)):(Ig S A_s).st=S.st.nG (xM S A_s):=by
 unfold Ig aW.st St.nG;congr 1
 funext id
 simp only;cases xM S A_s id<;>rfl
def Ks{S:aW U}{A_s:List (KV U)}{id:Nat}(h:xM S A_s id=true):id<S.N/\id≠0/\∃cs,(S.st.H id).c= .box cs/\cs.all PV.closed=true:=by
 simp only[xM,Qm,Bool.not_eq_true']at h;obtain⟨⟨⟨h1,h2⟩,h3⟩,_⟩:=h;refine⟨QG h1,λe=>(by rw[e]at h2;cases h2),?_⟩
 split at h3
 ·rename_i cs hc;exact⟨cs.map KV.pv,by simp only[aW.st,dv.pv,hc,dY.pv],by rw[rp];exact h3⟩
 ·cases h3
def aeh(S S':aW U)(A_s:List (KV U))(d:Option Nat)(r:KV U):(AG S S' A_s d r).st=St.cz {S'.st.shown S.st (xM S A_s)with env:=λt=>(Rs S S' A_s t).pv} d r.pv none:=by
 unfold AG;rw[Gy];congr 1;unfold aW.st St.shown;congr 1
 funext id
 simp only;cases xM S A_s id<;>rfl
def adK(S:aW U)(q:Nat->Bool):(S.Fv q).st=S.st.kill q:=by
 unfold aW.Fv aW.st St.kill;congr 1
 funext id
 simp only;cases q id<;>rfl
def Z8{S:aW U}{f:FuncId}{c:Option bB}{xs:List bB}{A_s:List (KV U)}(ha:Lw S f c xs=some A_s)(hx:xs.all bB.dE=true)(hc:c.all bB.dE=true){E:En}{a:Act}{w:World}{L:Nat->Value}(h:Rel E S.st a w L){hs:List Nat}{o:Oper}(hop:FH P hs o=some (Z7 f c xs))(hen:Enters P f):
  ∃vs:List Value,(execOp a.eval o).run P w= .ok (.enter f vs.toArray) w/\bo w (bl E S.st L) (S.st.gh L) (A_s.map KV.pv) vs:=by
 have hmap:xs.map (·.val S.st)=(xs.map (·.dj S)).map KV.pv:=by rw[List.map_map];exact Qq71 λx hxm=>vb (QH.1 hx x hxm)
 cases c with
 |none=>
  injection ha with ha
  subst ha;obtain⟨args,ats,hop',hxs⟩:=WX hop;exact⟨_,ace hop' hen,by rw[<-hmap];exact h.dS hxs⟩
 |some fv=>
  simp only[Lw]at ha;split at ha
  ·rename_i g caps hf;split at ha
   ·rename_i hg;have hg:=QF hg;subst hg;injection ha with ha
    subst ha;obtain⟨gv,args,ats,hop',hgv,hxs⟩:=Ue hop;have hr:=h.jL hgv;have hfo:fv.dE=true:=by simpa using hc
    rw[vb hfo,hf,KV.pv,KV.c9]at hr;obtain⟨us,hu,hru⟩:=hr.xk;have ha:args.map a.eval=(args.toList.map a.eval).toArray:=by rw[<-Array.toList_map,Array.toArray_toList]
    refine⟨args.toList.map a.eval++us,?_,by rw[List.map_append,<-hmap];exact(h.dS hxs).append hru⟩
    simp only[execOp,hop',resolve,hu,Deferred.ofValue,Sem.run_bind,Sem.run_pure,Result.andThen_ok,invoke,ha];simp[nB hen]
   ·cases ha
  ·cases ha
def ag8{Γ:List (dU U)}(hΓ:vq P Γ){r1 r2:RS U}{d:Option Nat}{f:FuncId}{c:Option bB}{xs:List bB}{n:Nat}{rvs:List RV}{sc:SC}{F:List Nat}{W:WS}{ρ:Type}{k:Exit->aW U->Option ρ}{r:ρ}{S:aW U}
  (hfn:iO P f n sc rvs) (hnr:sc.MG=true) (hoff:F0 F (r1.iw++d.toList++r2.iw)=true) (wa:r1.dE=true) (ok2:r2.dE=true) (okx:xs.all bB.dE=true) (okv:c.all bB.dE=true) {kk:aW U->Option ρ} (h:ji K Γ r1 W S.N (S.more r1.len) kk=some r)
  (hk:∀S1,kk S1=some r->∃A_s,Lw S1 f c xs=some A_s/\Wo S1 F W A_s n sc.s8=true/\VS P n sc (λe A=>∃S2,A=S2.st/\iN (List.range A_s.length) W (Wq (Ig S1 A_s) A_s) S2/\(e= .ret\/e= .normal)/\∃v,zW S2 rvs=some v/\ae9 S1 S2 A_s=true/\ji K Γ r2 W S2.N (((AG S1 S2 A_s d v).Fv (HN S1 S2 v)).more r2.len) (λS3=>k .normal S3)=some r) (Wq (Ig S1 A_s) A_s).st):
  VS P nt (.tZ (r1.flat++⟨d,none,Z7 f c xs⟩::r2.flat)) (λe A=>∃S',A=S'.st/\iN F W S S'/\k e S'=some r) S.st:=by
 intro c0 hs hc
 cases c0 with
 |region id ops d0=>
  cases d0 with
  |true=>simp only[aX]at hc;(try split at hc)<;>(try split at hc)<;>(try split at hc)<;>cases hc
  |false=>
   simp only[aX]at hc;split at hc
   ·rename_i gs' hgs;split at hc
    ·rename_i hd;injection hc with hc
     injection hc with hc
     subst hc;intro E hE hkE a w L hrel;refine wpIn_region_list ?_;obtain⟨l1,l2',el,m1,m2⟩:=Af hgs
     cases l2' with
     |nil=>simp at m2
     |cons o l2=>
     simp only[Qq75,Qd,Qc,Option.pure_def,Qf,List.cons.injEq]at m2;obtain⟨g,hg,gs2,hgs2,rfl,rfl⟩:=m2;have hcan:=Xc hE hkE (Rc hd);rw[el]at hcan ⊢;refine nf (K:=K) (E:=E) hΓ (ops:=ops) (Q:=λe a' w'=>∃S' L',Rel E S' a' w' L'/\_) r1 W S.N (S.more r1.len) kk r l1 (o::l2) a w L wa m1 (hrel.room r1.len) (QI _) (λo' ho'=>hcan o' (List.mem_append_left _ ho')) h (λS1 a1 w1 L1 hf1 h1 hk1=> ?_)
     obtain⟨A_s,has,hchk,hvs⟩:=hk S1 hk1;simp only[Wo,Qm]at hchk;obtain⟨⟨⟨⟨hWn,hlen⟩,hsets⟩,hkeep⟩,hokW⟩:=hchk;have hlen:=QG hlen;obtain⟨hgu,hds,hcop⟩:=ad4 hg;obtain⟨vs,hrun,hrep⟩:=Z8 has okx okv h1 hcop hfn.enters;rw[aif,adM]at hvs
     have hcall:=acx hfn hnr h1 hrep (by simpa using hlen) (λt ht hm=>by
      have:=QG (QH.1 hsets t hm);rw[QC]at ht
      omega) (xM S1 A_s) (λid hid=>Ks hid) (Q:=λv A=>∃S2 x,v=x.pv/\A=S2.st/\iN (List.range A_s.length) W (Wq (Ig S1 A_s) A_s) S2/\ji K Γ r2 W S2.N (((AG S1 S2 A_s d x).Fv (HN S1 S2 x)).more r2.len) (λS3=>k .normal S3)=some r)
      (hvs.mono λe A ⟨S2,e1,e2,e3,x,e4,e6,e5⟩=>⟨e3,x.pv,by rw[e1];exact DS e4,⟨S2,x,rfl,e1,e2,e5⟩,by rw[e1];exact e2.N,λid hid=>by
       have:=DN e6 id (Ks hid).1;rw[hid,Qo,Bool.false_or]at this;rw[e1];simp only[aW.st,dv.pv]
       cases hc:(S2.H id).c with
       |dead=>rfl
       |_=>rw[hc]at this;cases this⟩)
     refine wpListIn_step λKK hKK=> ?_
     rw[XC hgu,Qr rfl];unfold Oper.wpIn;rw[Oper.semAt_eq _ _ _ (Ce hcop),hrun];refine⟨λ_ _=>trivial,(λh=>by cases h),DK.2 (Calls.mono hcall ?_)⟩
     rintro e w' ⟨v,_,_,L',rfl,⟨S2,x,rfl,rfl,hfr,hr2⟩,hrv,hback⟩;refine hKK _ _ ?_
     have h2:=hback (λt=>(Rs S1 S2 A_s t).pv) λt=>by
      simp only[Rs]
      cases hkt:UU S1 A_s t with
      |false=>
       simp only;split
       ·rename_i id vv o het;split
        ·rename_i hh;rw[Qm]at hh;refine .inr (.inr (.inr ⟨id,o,hh.1,?_,rfl⟩));show(S1.env t).pv= .ptr id (S1.H id).av o;rw[het,QF hh.2];rfl
        ·exact .inl rfl
       ·exact .inl rfl
      |true=>
       simp only[UU,Qn]at hkt;simp only;rcases hkt with hkt|hkt
       ·exact .inr (.inl ⟨rfl,by rw[<-O6]at hkt;exact hkt⟩)
       ·obtain⟨y,hy,hyt⟩:=List.any_eq_true.1 hkt;obtain⟨i,hi,rfl⟩:=List.mem_iff_getElem.1 hy;have hai:A_s[i]?=some A_s[i]:=Qv hi;obtain⟨v',hv',hr'⟩:=hrep.get (i:=i) (x:=A_s[i].pv) (by rw[QT,hai];rfl)
        have hfe:=hfr.env i (List.mem_range.2 hi)
        have hs2:S2.env i=A_s[i]:=by rw[hfe];show(A_s[i]?).getD .undef=_;rw[hai];rfl
        have hrt:=h1.env t;rw[show S1.st.env t=(S1.env t).pv from rfl]at hrt
        have hq:(S1.env t).pv=A_s[i].pv/\vs[i]?=some (a1.tmps.getD t undef):=by
         generalize A_s[i]=y at hyt hr';generalize S1.env t=x at hyt hrt
         cases x with
         |ptr id av off=>
          cases y with
          |ptr id' ver' off'=>simp only[aeI,Qm]at hyt;obtain⟨⟨⟨e1,e2⟩,e3⟩,e4⟩:=hyt;obtain rfl:=QF e1;obtain rfl:=QF e2;obtain rfl:=QF e3;have e4:(S1.st.gh L1).V id=av:=QF e4;obtain⟨_,g1⟩:=hrt.pP e4;obtain⟨_,g2⟩:=hr'.pP e4;exact⟨rfl,by rw[hv',g1,g2]⟩
          |_=>cases hyt
         |_=>cases hyt
        exact .inr (.inr (.inl ⟨i,hq.2,(show(S1.env t).pv=(S2.env i).pv by rw[hs2];exact hq.1)⟩))
     have h3:=h2.ZN (d:=o.dst) (hcan o (List.mem_append_right _ Qx)) hrv
     have h4:Rel E ((AG S1 S2 A_s d x).Fv (HN S1 S2 x)).st (a1.put o.dst v) w' L':=by rw[adK,aeh,<-hds];exact h3.ajt _
     have hl2:l2=l2++[]:=by rw[List.append_nil]
     rw[hl2];refine nf (K:=K) (E:=E) hΓ (ops:=ops) r2 W S2.N (((AG S1 S2 A_s d x).Fv (HN S1 S2 x)).more r2.len) (λS3=>k .normal S3) r l2 [] _ w' L' ok2 hgs2 (h4.room r2.len) (QI _) (λo' ho'=>hcan o' (List.mem_append_right _ (Qy _ ho'))) hr2 (λS3 a3 w3 L3 hf3 h5 hk3=> ?_)
     have hoff':∀t∈F,t∉r1.iw/\d≠some t/\t∉r2.iw:=by
      intro t ht;have:=λq hq=>QH.1 hoff q hq
      refine⟨λhm=> ?_,λhm=> ?_,λhm=> ?_⟩
      ·have:=this t (List.mem_append_left _ (List.mem_append_left _ hm));rw[eA.2 ht]at this;cases this
      ·have:=this t (List.mem_append_left _ (List.mem_append_right _ (by rw[hm];exact Q5.2 rfl)));rw[eA.2 ht]at this;cases this
      ·have:=this t (List.mem_append_right _ hm);rw[eA.2 ht]at this;cases this
     refine⟨S3.st,L3,h5,S3,rfl,⟨λt ht=> ?_,λq hq=> ?_,?_⟩,hk3⟩
     ·obtain⟨n1,n2,n3⟩:=hoff' t ht;rw[hf3.env t n3];show(AG S1 S2 A_s d x).env t=_;unfold AG;rw[lV _ _ _ _ n2];simp only[Rs,QH.1 hkeep t ht];exact hf1.env t n1
     ·rw[hf3.H q hq]
      have hnh:xM S1 A_s q=false:=by
       cases hqq:xM S1 A_s q with
       |false=>rfl
       |true=>have:=DN hokW q (Ks hqq).1;rw[hqq,hq]at this;cases this
      have hno:HN S1 S2 x q=false:=by
       cases W with
       |none=>cases hWn
       |some W=>
        simp only[okW,Qq74]at hq;have hlt:¬W.1<=q:=λe=>by have:=Nat.ble_eq_true_of_le e;rw[hq.1]at this;cases this
        have hWn:=QG hWn
        have:Nat.ble S1.N q=false:=by
         cases hb:Nat.ble S1.N q with
         |false=>rfl
         |true=>have:=QG hb;omega
        unfold HN;rw[this];rfl
      show(match HN S1 S2 x q with|true=>_|false=>(AG S1 S2 A_s d x).H q)=_
      rw[hno];show(match xM S1 A_s q with|true=>_|false=>S2.H q)=_
      rw[hnh];show S2.H q=_;rw[hfr.H q hq];show(match xM S1 A_s q with|true=>_|false=>S1.H q)=_
      rw[hnh];exact hf1.H q hq
     ·have e1:=hf1.N;have e2:=hfr.N;have e3:=hf3.N;have:(S.more r1.len).N=S.N+r1.len:=rfl;have:(((AG S1 S2 A_s d x).Fv (HN S1 S2 x)).more r2.len).N=S2.N+r2.len:=rfl;have:(Wq (Ig S1 A_s) A_s).N=S1.N:=rfl;omega
    ·cases hc
   ·cases hc
 |seq x y|cond c x y=>simp only[aX]at hc;split at hc<;>cases hc
 |block id c|loop c=>simp only[aX,Qb]at hc;obtain⟨_,_,hc⟩:=hc;cases hc
 |rangeFunc g ps x y=>simp only[aX]at hc;(try split at hc)<;>(try split at hc)<;>cases hc
 |_=>simp only[aX]at hc<;>cases hc
def eP{Γ:List (dU U)}(hΓ:vq P Γ):∀(sa:SA U) {nt:Nat} {ρ:Type} (F:List Nat) (W:WS) (k:Exit->aW U->Option ρ) (S:aW U) (r:ρ),sa.vZ P->oY K Γ sa F W k S=some r->
  VS P nt sa.erase (λe A=>∃S',A=S'.st/\iN F W S S'/\k e S'=some r) S.st
 | .skip,nt,ρ,F,W,k,S,r,hok,h=>ag5 ⟨S,rfl,iN.refl _ _ _,h⟩
 | .exit id,nt,ρ,F,W,k,S,r,hok,h=>ag9 ⟨S,rfl,iN.refl _ _ _,h⟩
 | .ret,nt,ρ,F,W,k,S,r,hok,h=>aiI ⟨S,rfl,iN.refl _ _ _,h⟩
 | .tZ rs,nt,ρ,F,W,k,S,r,hok,h=>by
  simp only[oY]at h;split at h
  ·rename_i ho;exact ag6 hΓ hok h λS' hf hk=>⟨S',rfl,(hf.toC ho).more,hk⟩
  ·cases h
 | .rV un rs,nt,ρ,F,W,k,S,r,hok,h=>by
  simp only[oY]at h;split at h
  ·rename_i ho;obtain⟨Γs,S',fs,h1,h2,h3,h4⟩:=ye hΓ rs 0 _ _ hok h;split at h4
   ·rename_i hun;refine aiJ h1 (S':=S'.st) ?_ ⟨S',rfl,(h3.toC ho).more,h4⟩;rw[RS.Et];have e:({S.st with N:=S.st.N+rs.len}:St)=(S.more rs.len).st:=rfl
    rw[e,RX];rw[show S.st.N=S.N from rfl,h2]
    exact Qr hun
   ·cases h4
  ·cases h
 | .seq x y,nt,ρ,F,W,k,S,r,hok,h=>by
  simp only[SA.vZ]at hok;refine acJ ((eP hΓ x F W _ S r hok.1 h).mono ?_);rintro e A ⟨S',rfl,hf,hk⟩
  cases e with
  |normal=>exact(eP hΓ y F W k S' r hok.2 hk).mono λe A ⟨S'',h1,h2,h3⟩=>⟨S'',h1,hf.trans h2,h3⟩
  |exit i|goto l|ret|panic c|outgrown=>exact⟨S',rfl,hf,hk⟩
 | .join J x y,nt,ρ,F,W,k,S,r,hok,h=>by
  simp only[SA.vZ]at hok;simp only[oY]at h;split at h
  ·rename_i hchk;unfold aY at h
   have hsub:∀S',iN J.eO (some (S.N,fK J.items)) S S'->iN F W S S':=by
    intro S' hf;simp only[wJ,Qm,QH]at hchk;obtain⟨⟨⟨⟨⟨⟨hnd,hids⟩,hokv⟩,hkeep⟩,hobj⟩,hF⟩,hW⟩:=hchk;refine⟨λt ht=>hf.env t (eA.1 (hF t ht)),λid hid=>hf.H id ?_,hf.N⟩
    simp only[okW,Qq74];refine⟨?_,?_⟩
    ·cases W with
     |none=>cases hW
     |some q=>
      obtain⟨n,l⟩:=q;simp only at hW;simp only[okW,Qq74]at hid;have h1:=QG hW
      cases hb:Nat.ble S.N id with
      |false=>rfl
      |true=>have:=QG hb;rw[Nat.ble_eq_true_of_le (QK h1 this)]at hid;cases hid.1
    ·cases hb:iL id (fK J.items)with
     |false=>rfl
     |true=>have:=(hids id (eA.1 hb)).2;rw[hid]at this;cases this
   refine acJ ((eP hΓ x J.eO _ _ S r hok.1 h).mono ?_);rintro e A ⟨S',rfl,hf,hk⟩
   cases e with
   |normal=>
    simp only at hk;split at hk
    ·rename_i v hv;refine S6 (J2 hchk hv hf) ?_;exact(eP hΓ y F W k _ r hok.2 hk).mono λe A ⟨S'',h1,h2,h3⟩=>⟨S'',h1,(Nt hchk v).trans h2,h3⟩
    ·cases hk
   |exit i|goto l|ret|panic c|outgrown=>exact⟨S',rfl,hsub S' hf,hk⟩
  ·cases h
 | .cond c x y,nt,ρ,F,W,k,S,r,hok,h=>by
  simp only[SA.vZ]at hok;simp only[oY]at h;split at h
  ·rename_i b hb;have hv:c.val S.st= .bool b:=by rw[vb hok.1.1,hb];rfl
   refine aha hv ?_
   cases b with
   |true=>exact eP hΓ x F W k S r hok.1.2 h
   |false=>exact eP hΓ y F W k S r hok.2 h
  ·rename_i hb;have hv:c.val S.st= .gL:=by rw[vb hok.1.1,hb];rfl
   obtain⟨h1,h2⟩:=acy h;exact aeo hv (eP hΓ x F W k S r hok.1.2 h1) (eP hΓ y F W k S r hok.2 h2)
  ·cases h
 | .block id x,nt,ρ,F,W,k,S,r,hok,h=>by
  refine aep ((eP hΓ x F W _ S r hok h).mono ?_);rintro e A ⟨S',rfl,hf,hk⟩
  cases e with
  |exit i=>
   simp only at hk;simp only[Ha];split at hk
   ·rename_i hi;rw[Qr (QF hi)];exact⟨S',rfl,hf,hk⟩
   ·rename_i hi;rw[Qs (Nat.ne_of_beq_eq_false hi)];exact⟨S',rfl,hf,hk⟩
  |normal|goto l|ret|panic c|outgrown=>exact⟨S',rfl,hf,hk⟩
 | .loop J x,nt,ρ,F,W,k,S,r,hok,h=>by
  simp only[oY]at h;split at h
  ·rename_i hchk;split at h
   ·rename_i v0 hv0
    have hsub:∀v S',iN J.eO (some (S.N,fK J.items)) (unpack K S J v) S'->iN F W S S':=by
     intro v S' hf;have hm:=Nt (K:=K) hchk v;refine hm.trans ?_;simp only[wJ,Qm,QH]at hchk;obtain⟨⟨⟨⟨⟨⟨hnd,hids⟩,hokv⟩,hkeep⟩,hobj⟩,hF⟩,hW⟩:=hchk;refine⟨λt ht=>hf.env t (eA.1 (hF t ht)),λid hid=>hf.H id ?_,hf.N⟩
     simp only[okW,Qq74];refine⟨?_,?_⟩
     ·cases W with
      |none=>cases hW
      |some q=>
       obtain⟨n,l⟩:=q;simp only at hW;simp only[okW,Qq74]at hid;have h1:=QG hW
       cases hb:Nat.ble S.N id with
       |false=>rfl
       |true=>have:=QG hb;rw[Nat.ble_eq_true_of_le (QK h1 this)]at hid;cases hid.1
     ·cases hb:iL id (fK J.items)with
      |false=>rfl
      |true=>have:=(hids id (eA.1 hb)).2;rw[hid]at this;cases this
    have hself:∀v S',iN J.eO (some (S.N,fK J.items)) (unpack K S J v) S'->∀v',pack K S' J.items=some v'->∀(E:En) (a:Act) (w:World) (L:Nat->Value),Rel E S'.st a w L->∃L',Rel E (unpack K S J v').st a w L':=by
     intro v S' hf v' hv' E a w L hrel;have hc:=hchk;simp only[wJ,Qm,QH]at hc;obtain⟨⟨⟨⟨⟨⟨hnd,hids⟩,hokv⟩,hkeep⟩,hobj⟩,hF⟩,hW⟩:=hc;refine⟨L,Rel.meet hchk hv' (λt ht=>(hf.env t ht).trans ?_) (λid hid hni=>(hf.H id ?_).trans ?_) (by have:=hf.N;rw[unpack,GF,Rp]at this;exact this) hrel⟩
     ·have hns:iL t (slotsOf J.items)=false:=by simpa using(hkeep t ht).2
      rcases Cp (K:=K) (S.base J.eO) J.items v t with⟨⟨i,d⟩,hmem,h1,h2⟩|⟨_,h2⟩
      ·exact absurd (Fu (lR hmem) h1) (sB hns)
      ·rw[show(unpack K S J v).env t=_ from h2,IB,Qr ht]
     ·simp only[okW,Qq74];refine⟨?_,?_⟩
      ·cases hb:Nat.ble S.N id with
       |false=>rfl
       |true=>have:=QG hb;omega
      ·cases hb:iL id (fK J.items)with
       |false=>rfl
       |true=>exact absurd (eA.1 hb) hni
     ·rcases GG (K:=K) (S.base J.eO) J.items v id hnd with⟨⟨i,d⟩,hmem,h1,h2⟩|⟨_,h2⟩
      ·exact absurd (u9 (lR hmem) h1) hni
      ·rw[show(unpack K S J v).H id=_ from h2,Rq,Qr hid]
    obtain⟨n,hn⟩:=DA h
    refine Xq (λm A=>∃v,A=(unpack K S J v).st/\sP (λv=>oY K Γ x J.eO (some (S.N,fK J.items)) (λe S'=>match e with
     | .normal=>(match pack K S' J.items with|some v=>some (inl v)|none=>none)
     |e=>(k e S').map inr) (unpack K S J v)) m v=some r) n (J2 hchk hv0 (iN.refl _ _ _)) ⟨v0,rfl,hn⟩ ?_
    rintro m A ⟨v,rfl,hm⟩
    cases m with
    |zero=>cases hm
    |succ m=>
     simp only[sP]at hm;split at hm
     ·cases hm
     ·rename_i r' hs;injection hm with hm
      subst hm;refine(eP hΓ x J.eO _ _ _ _ hok hs).mono ?_;rintro e A ⟨S',rfl,hf,hk⟩
      cases e with
      |normal=>simp only at hk;split at hk<;>cases hk
      |exit i|goto l|ret|panic c|outgrown=>simp only[Qb]at hk;obtain⟨q,hq,e⟩:=hk;injection e with e;subst e;exact⟨S',rfl,hsub v S' hf,hq⟩
     ·rename_i v' hs;refine(eP hΓ x J.eO _ _ _ _ hok hs).mono ?_;rintro e A ⟨S',rfl,hf,hk⟩
      cases e with
      |normal=>
       simp only at hk;split at hk
       ·rename_i v1 hv1;injection hk with hk
        injection hk with hk
        subst hk;exact⟨m,Nat.lt_succ_self m,_,hself v S' hf v1 hv1,v1,rfl,hm⟩
       ·cases hk
      |exit i|goto l|ret|panic c|outgrown=>simp only[Qb]at hk;obtain⟨q,hq,e⟩:=hk;cases e
   ·cases h
  ·cases h
 | .Mx n x,nt,ρ,F,W,k,S,r,hok,h=>by
  simp only[oY]at h;have⟨g,hg,h⟩:=(⟨_,rfl,h⟩:∃g,g=_/\U8 g n S=some r);refine Xq (λm A=>∃S1:aW U,A=S1.st/\iN F W S S1/\U8 g m S1=some r) n (λE a w L h=>⟨L,h⟩) ⟨S,rfl,iN.refl _ _ _,h⟩ ?_
  rintro m A ⟨S1,rfl,hf1,hm⟩
  cases m with
  |zero=>cases hm
  |succ m=>
   simp only[U8]at hm;rw[hg]at hm;simp only at hm;rw[<-hg]at hm;refine(eP hΓ x F W _ S1 r hok hm).mono ?_;rintro e A ⟨S',rfl,hf,hk⟩
   cases e with
   |normal=>exact⟨m,Nat.lt_succ_self m,S'.st,λE a w L h=>⟨L,h⟩,S',rfl,hf1.trans hf,hk⟩
   |exit i|goto l|ret|panic c|outgrown=>exact⟨S',rfl,hf1.trans hf,hk⟩
 | .back J f kk nE T tg p0 p1 x y,nt,ρ,F,W,k,S,r,hok,h=>by
  simp only[SA.vZ]at hok;simp only[oY]at h;obtain⟨D,hD⟩:∃D,SC.s8 (.GC (.tmp tg) [p0,p1] x.erase y.erase)=D:=⟨_,rfl⟩;rw[hD]at h;split at h
  ·rename_i hcond;simp only[Qm]at hcond;obtain⟨⟨⟨⟨⟨⟨hbk,hsz⟩,hnE⟩,htk⟩,hkD⟩,hFD⟩,hchk⟩:=hcond;have hsz:=QF hsz;have htk:=eA.1 htk
   have htD:tg∉D:=λhm=>by have:=QH.1 hkD tg hm;rw[eA.2 htk]at this;cases this
   have hp:∀q,q=p0\/q=p1->iL q J.eO=false:=by
    intro q hq;have hqD:q∈D:=by rw[<-hD];rcases hq with rfl|rfl<;>simp[SC.s8]
    simpa using QH.1 hkD q hqD
   split at h
   ·rename_i f' T' xs' hclo;split at h
    ·rename_i hff;have hff:=QF hff;subst hff;split at h
     ·rename_i xs hcast;obtain⟨eT,hxs⟩:=nm hcast;subst eT;simp only at hxs;subst hxs;split at h
      ·rename_i v0 hv0;obtain⟨hin,hev⟩:=aei (K:=K) hsz hnE xs;have⟨step,hstep,h⟩:=(⟨_,rfl,h⟩:∃step,step=_/\ob step (λv=>k .normal (unpack K (S.gD D) J v)) xs.reverse v0=some r)
       have hN:(S.gD D).N=S.N:=rfl;refine ahb (NQ hΓ hbk) hin (by rw[hD];exact htD) (λi A=>∃v,A=(unpack K (S.gD D) J v).st/\ob step (λv=>k .normal (unpack K (S.gD D) J v)) (xs.take i).reverse v=some r) ?_ ?_ ?_ ?_
       ·rw[hD,<-Nb];refine⟨_,J2 hchk hv0 (iN.refl _ _ _),v0,rfl,?_⟩;rw[QC,Qq62];exact h
       ·rintro i A ⟨v,rfl,_⟩;show((unpack K (S.gD D) J v).env tg).pv=_;rw[TR hchk v htk];have:(S.gD D).env tg=S.env tg:=(Iq hkD none S).env tg htk;rw[this,hclo];rfl
       ·rintro m A e ⟨v,rfl,hm⟩ he;rw[QT,Qb]at he;obtain⟨a,ha,rfl⟩:=he;have hml:m<xs.length:=(Qw.1 ha).1;rw[List.take_add_one,ha,Option.toList_some,List.reverse_append]at hm;simp only[List.reverse_cons,List.reverse_nil,List.nil_append,List.singleton_append,ob]at hm;rw[List.length_reverse,List.length_take,Nat.min_eq_left (Nat.le_of_lt hml)]at hm
        obtain⟨z,hz,hzr⟩:∃z,step m a v=some z/\(match z with| .inr r'=>r'=r| .inl s'=>ob step (λv=>k .normal (unpack K (S.gD D) J v)) (xs.take m).reverse s'=some r):=by
         split at hm
         ·cases hm
         ·rename_i r' hs;injection hm with hm
          exact⟨_,hs,hm⟩
         ·rename_i s' hs;exact⟨_,hs,hm⟩
        clear hm;rw[hstep]at hz;simp only at hz
        have hst:({(unpack K (S.gD D) J v).st with env:=bU (bU (unpack K (S.gD D) J v).st.env p0 (.int .i64 m)) p1 (CG nE (U.pv _ a))}:St)=aW.st {(unpack K (S.gD D) J v)with env:=hY (hY (unpack K (S.gD D) J v).env p0 (.int .i64 m)) p1 (Bm K _ a)}:=by
         have henv:bU (bU (unpack K (S.gD D) J v).st.env p0 (.int .i64 m)) p1 (CG nE (U.pv _ a))=λt=>((hY (hY (unpack K (S.gD D) J v).env p0 (.int .i64 m)) p1 (Bm K _ a)) t).pv:=by
          funext t
          simp only[dO,hev];unfold bU;split
          ·rfl
          ·split
           ·rfl
           ·rfl
         exact congrArg (λe=>({(unpack K (S.gD D) J v).st with env:=e}:St)) henv
        rw[hst]
        have hf0:iN J.eO (some (S.N,fK J.items)) (unpack K (S.gD D) J v) {(unpack K (S.gD D) J v)with env:=hY (hY (unpack K (S.gD D) J v).env p0 (.int .i64 m)) p1 (Bm K _ a)}:=by
         refine⟨λt ht=> ?_,λ_ _=>rfl,QI _⟩
         simp only[dO];rw[c7 _ _ (λe=>by have:=hp t (.inr e);rw[eA.2 ht]at this;cases this),c7 _ _ (λe=>by have:=hp t (.inl e);rw[eA.2 ht]at this;cases this)]
        refine(eP hΓ x J.eO _ _ _ _ hok.1 hz).mono ?_;rintro e A ⟨S1,rfl,hf1,hk1⟩
        cases e with
        |normal=>
         simp only at hk1;refine(eP hΓ y J.eO _ _ _ _ hok.2 hk1).mono ?_;rintro e A ⟨S2,rfl,hf2,hk2⟩;have hf3:iN J.eO (some (S.N,fK J.items)) (unpack K (S.gD D) J v) (S2.gD D):=((hf0.trans hf1).trans hf2).trans (Iq hkD _ _);have hf4:iN F W S (S2.gD D):=(Iq hFD W S).trans (VU hchk v hf3);rw[hD]
         cases e with
         |normal=>
          simp only at hk2;split at hk2
          ·rename_i v' hv';injection hk2 with hk2
           subst hk2;refine⟨_,?_,v',rfl,hzr⟩;rw[<-Nb];exact abP hchk v hf3 hv'
          ·cases hk2
         |ret|exit i=>simp only[Qb]at hk2;obtain⟨q,hq,rfl⟩:=hk2;simp only at hzr;subst hzr;exact⟨S2.gD D,(Nb _ _).symm,hf4,hq⟩
         |goto i|panic ch|outgrown=>cases hk2
        |ret|exit i|goto i|panic ch|outgrown=>cases hk1
       ·rintro A ⟨v,rfl,hm⟩;simp only[List.take_zero,List.reverse_nil,ob]at hm;exact⟨_,rfl,(Iq hFD W S).trans (VU hchk v (iN.refl _ _ _)),hm⟩
      ·cases h
     ·cases h
    ·cases h
   ·cases h
  ·cases h
 | .inl r1 d f c xs n rvs x r2,nt,ρ,F,W,k,S,r,hok,h=>by
  simp only[SA.vZ]at hok;obtain⟨⟨wa,ok2,okx,okv⟩,hnr,hfn,hokx⟩:=hok;simp only[oY]at h;split at h
  ·rename_i hoff;refine ag8 hΓ hfn hnr hoff wa ok2 okx okv h λS1 hk1=> ?_
   split at hk1
   ·rename_i A_s has;split at hk1
    ·rename_i hchk;refine⟨A_s,has,hchk,(eP hΓ x _ W _ _ r hokx hk1).mono ?_⟩;rintro e A ⟨S2,rfl,hf,hk2⟩
     cases e with
     |ret=>
      simp only at hk2;split at hk2
      ·rename_i v hv;split at hk2
       ·rename_i hdk;exact⟨S2,rfl,hf,.inl rfl,v,hv,hdk,hk2⟩
       ·cases hk2
      ·cases hk2
     |normal=>
      simp only at hk2;split at hk2
      ·rename_i v hv;split at hk2
       ·rename_i hdk;exact⟨S2,rfl,hf,.inr rfl,v,hv,hdk,hk2⟩
       ·cases hk2
      ·cases hk2
     |exit i|goto l|panic c|outgrown=>cases hk2
    ·cases hk1
   ·cases hk1
  ·cases h
 | .ps p x,nt,ρ,F,W,k,S,r,hok,h=>by
  simp only[oY]at h;split at h
  ·rename_i hW;simp only[Qm]at hW;split at h
   ·rename_i S1 hp;refine S6 (λE a w L hr=>Ps.sound K hp hr) ((eP hΓ x F W k S1 r hok h).mono λe A ⟨S'',h1,h2,h3⟩=>⟨S'',h1,iN.trans ?_ h2,h3⟩)
    exact(Ps.frm hp hW.1).toC hW.2
   ·cases h
  ·cases h
 | .Cq p x,nt,ρ,F,W,k,S,r,hok,h=>by
  refine ag7 (eP hΓ x F W _ S r hok h) ?_;rintro e A ⟨S',rfl,hf,hk⟩
  cases e with
  |normal=>
   simp only at hk;split at hk
   ·rename_i hW;simp only[Qm]at hW;split at hk
    ·rename_i S1 hp;exact⟨S1.st,⟨S1,rfl,hf.trans ((Ps.frm hp hW.1).toC hW.2),hk⟩,λE a w L hr=>Ps.sound K hp hr⟩
    ·cases hk
   ·cases hk
  |exit i|goto l|ret|panic c|outgrown=>exact⟨_,⟨S',rfl,hf,hk⟩,λE a w L hr=>⟨L,hr⟩⟩
end
end
section
open Go.RowKit
section
variable {P : Program} {E : En} {S : St} {a : Act} {w : World} {L : Nat -> Value} {nt : Nat}
def VS.post{sc:SC}{Q Q':Exit->St->Prop}{S:St}(h:VS P nt sc Q S)(hq:∀e A,Q e A->∃A',(∀(E:En) (a:Act) (w:World) (L:Nat->Value),Rel E A a w L->∃L',Rel E A' a w L')/\Q' e A'):VS P nt sc Q' S:=
 λc hs hc E hE hk a w L hr=>wpIn_mono (h c hs hc E hE hk a w L hr) λe a' w' ⟨S',L',h1,h2⟩=>by obtain⟨A',h3,h4⟩:=hq e S' h2;obtain⟨L'',h5⟩:=h3 E a' w' L' h1;exact⟨A',L'',h5,h4⟩
def Rel.ajo(h:Rel E S a w L){id:Nat}{cs:List PV}(hid:id<S.N)(hc:(S.H id).c= .box cs):Rel E {S with H:=bU S.H id ⟨(S.H id).av,.box (cs.map nz)⟩} a w L:=by
 have:=(h.vR (w':=w) hid ⟨(S.H id).av,.box (cs.map nz)⟩ (L id) (.inl ⟨rfl,rfl,by rw[hc];rfl⟩) rfl rfl rfl (QI _) (λ_ _ _=>rfl) (λb _ hb=> .inl ⟨by rw[hc];rfl,hb⟩) (λhs hg=>by
  obtain⟨b,cur,T,h1,h2,h3,h4⟩:=h.rY hid hc
  exact⟨b,cur,T,h1,h2,h4,(h3.mono hs hg).nz⟩)).1
 rwa [Hq]at this
end
section
variable {U : TU}
variable (K : TK U)
def N0(S:aW U)(ex:Option Nat):(r:qy U)->KV U->Option r.den
 | .one T,x=>Ff K S.lk T x
 | .many Ts,x=>(match x with| .eN xs=>U0 K S.lk Ts xs|_=>none)
 | .fn a,x=>(match Nat.ble a.depth 9 with|true=>N2 K S ex a x|false=>none)
variable {K}
def SS{S:aW U}{ex:Option Nat}(hex:∀id,ex=some id->∀e k T xs,(S.H id).c≠ .row e k T xs){r:qy U}{x:KV U}{v:r.den}(h:N0 K S ex r x=some v):fz S.st.H ex 9 x.pv=vT r v:=by
 cases r with
 |one T=>exact M6 hex 7 h
 |many Ts=>
  simp only[N0]at h;split at h
  ·rename_i xs;rw[KV.pv,KV.c9,fz,vT,WN hex 6 Ts _ v h]
  ·cases h
 |fn a=>
  simp only[N0]at h;split at h
  ·rename_i hd;exact Y2 hex a 9 x v (QG hd) h
  ·cases h
variable (K)
def Oc(A_s:List (KV U)):aW U:=
 {env:=λt=>(A_s[t]?).getD .undef,H:=λ_=>⟨0,.dead⟩,N:=0}
def aer(pos:Nat)(cs A_s:List (KV U)):aW U:=
 {env:=λt=>((jF pos [KV.ptr 0 0 0] A_s)[t]?).getD .undef,H:=λid=>(match Nat.beq id 0 with|true=>⟨0,.box cs⟩|false=>⟨0,.dead⟩),N:=1}
def WH{ρ:Type}(ex:Option Nat)(rs:List RV)(r:qy U)(k:aW U->r.den->Option ρ)(e:Exit)(S:aW U):Option ρ:=
 match e with
 | .ret| .normal=>(match zW S rs with
  |some x=>(match N0 K S ex r x with|some v=>k S v|none=>none)
  |none=>none)
 |_=>none
def DY(S:aW U):List RV->Bool
 |[]=>true
 | .tmp _::l=>DY S l
 | .cell t _::l=>(match S.env t with| .ptr id _ _=> !Nat.beq id 0|_=>false)&&DY S l
 def WA(Γ:List (dU U))(sa:SA U)(rs:List RV)(A_s:List (dz U))(r:qy U)(a:eK A_s):Option r.den:=
 oY K Γ sa [] (some (0,[])) (WH K none rs r λ_ v=>some v) (Oc (wM K A_s a))
 def rcK(Γ:List (dU U))(sa:SA U)(rs:List RV)(pos:Nat)(R:U.Ty)(A_s:List (dz U))(r:qy U)(s:U.den R)(a:eK A_s):Option (r.den×U.den R):=
 oY K Γ sa [] (some (0,[])) (WH K (some 0) rs r λS v=>(match DY S rs with
  |true=>(match S.wL 0 0 with
   |some cs=>(match K.dec R td cs with|some s'=>some (v,s')|none=>none)
   |none=>none)
  |false=>none)) (aer pos (K.gn R s) (wM K A_s a))
 def nwK(Γ:List (dU U))(sa:SA U)(rs:List RV)(A_s:List (dz U))(R:U.Ty)(a:eK A_s):Option (U.den R):=
 oY K Γ sa [] (some (0,[])) (λe S=>(match e with
  | .ret=>(match zW S rs with
   |some (.ptr id av 0)=>(match S.wL id av with|some cs=>K.dec R td cs|none=>none)
   |_=>none)
  |_=>none)) (Oc (wM K A_s a))
variable {K}
variable {P : Program} {nt : Nat}
def zi:∀(A_s:List (dz U)) (a:eK A_s),(gU A_s a).length=A_s.length
 |[],_=>by rw[gU];rfl
 |_::l,a=>by rw[gU,QE,zi l a.2,QE]
def LL(A_s:List (dz U))(a:eK A_s):(Oc (wM K A_s a)).st=dM 0 false [] (gU A_s a):=by
 unfold Oc aW.st dM;congr 1
 ·funext t
  rw[<-CO K];simp only[Qq,Qu,TX,QT];cases (wM K A_s a)[t]?<;>rfl
def ahe(pos:Nat)(R:U.Ty)(s:U.den R)(A_s:List (dz U))(a:eK A_s):(aer pos (K.gn R s) (wM K A_s a)).st=dM pos true (U.pv R s) (gU A_s a):=by
 unfold aer aW.st dM;congr 1
 ·funext t
  rw[<-CO K];simp only[Qt];have:(jF pos [PV.ptr 0 0 0] ((wM K A_s a).map KV.pv))=(jF pos [KV.ptr 0 0 0] (wM K A_s a)).map KV.pv:=by simp[jF,KV.pv]
  rw[this,QT];cases (jF pos [KV.ptr 0 0 0] (wM K A_s a))[t]?<;>rfl
 ·funext id
  cases id with
  |zero=>simp only[and_self,Qt,dv.pv,dY.pv,K.uO]
  |succ id=>simp[Nat.beq,dv.pv,dY.pv]
def KC{ρ:Type}{ex:Option Nat}{rs:List RV}{r:qy U}{k:aW U->r.den->Option ρ}{e:Exit}{S:aW U}{z:ρ}(h:WH K ex rs r k e S=some z):(e= .ret\/e= .normal)/\∃x v,zW S rs=some x/\N0 K S ex r x=some v/\k S v=some z:=by
 unfold WH at h
 have go:∀{o:Option ρ},o=some z->o=(match zW S rs with
  |some x=>(match N0 K S ex r x with|some v=>k S v|none=>none)
  |none=>none)->∃x v,zW S rs=some x/\N0 K S ex r x=some v/\k S v=some z:=by
  intro o ho he;rw[ho]at he;replace he:=he.symm;split at he
  ·rename_i x hx;split at he
   ·rename_i v hv;exact⟨x,v,hx,hv,he⟩
   ·cases he
  ·cases he
 split at h
 ·exact⟨.inl rfl,go h rfl⟩
 ·exact⟨.inr rfl,go h rfl⟩
 ·cases h
def Kw{f:FuncId}{Γ:List (dU U)}{sa:SA U}{rs:List RV}{A_s:List (dz U)}{r:qy U}(hf:iO P f nt sa.erase rs)(hok:sa.vZ P)(hlen:A_s.length<=nt)(hΓ:vq P Γ){F:eK A_s->Option r.den}(hF:∀a,WA K Γ sa rs A_s r a=F a):dU.Sound P (.fn f A_s r F):=by
 refine⟨hf.enters,λa v hv=> ?_⟩
 rw[<-hF a]at hv;refine hf.Ri (by simpa[zi]using hlen) ?_
 rw[<-LL (K:=K)];refine(eP hΓ sa [] _ _ _ _ hok hv).mono ?_;rintro e A ⟨S',rfl,_,hk⟩;obtain⟨he,x,v',h1,h2,h3⟩:=KC hk;injection h3 with h3
 subst h3
 have hret:B0 rs false (λr' cs''=>r'=vT r v'/\(false=true->cs''=[])) S'.st:=by unfold B0;rw[DS h1];exact⟨SS (λid hid=>by cases hid) h2,λh=>by cases h⟩
 rcases he with rfl|rfl<;>exact hret
 def aiu(K:TK U)(Γ:List (dU U))(sa:SA U)(rs:List RV)(A_s:List (dz U))(r:qy U)(a:eK A_s):Option r.den:=
 oY K Γ sa [] (some (0,[])) (WH K none rs r λ_ v=>some v) ((Oc (wM K A_s a)).more 1)
def aad{f:FuncId}{Γ:List (dU U)}{sa:SA U}{rs:List RV}{A_s:List (dz U)}{r:qy U}(hf:iO P f nt sa.erase rs)(hok:sa.vZ P)(hlen:A_s.length<=nt)(hΓ:vq P Γ){F:eK A_s->Option r.den}(hF:∀a,aiu K Γ sa rs A_s r a=F a):dU.Sound P (.fn f A_s r F):=by
 refine⟨hf.enters,λa v hv=> ?_⟩
 rw[<-hF a]at hv;refine hf.Ri (by simpa[zi]using hlen) ?_
 rw[<-LL (K:=K)];refine(S6 (S':=((Oc (wM K A_s a)).more 1).st) (λE a w L h=>⟨L,h.room 1⟩) (eP hΓ sa [] _ _ _ _ hok hv)).mono ?_
 rintro e A ⟨S',rfl,_,hk⟩;obtain⟨he,x,v',h1,h2,h3⟩:=KC hk;injection h3 with h3
 subst h3
 have hret:B0 rs false (λr' cs''=>r'=vT r v'/\(false=true->cs''=[])) S'.st:=by unfold B0;rw[DS h1];exact⟨SS (λid hid=>by cases hid) h2,λh=>by cases h⟩
 rcases he with rfl|rfl<;>exact hret
def abE{S:aW U}{id av:Nat}{cs:List (KV U)}(hb:S.wL id av=some cs){R:U.Ty}{s:U.den R}(hd:K.dec R td cs=some s)(hN:id<S.N):(∀(E:En) (a:Act) (w:World) (L:Nat->Value),Rel E S.st a w L->∃L',Rel E {S.st with H:=bU S.st.H id ⟨av,.box (U.pv R s)⟩} a w L'):=by intro E a w L h;obtain⟨h1,h2⟩:=AF hb;have:=h.ajo hN h2;rw[h1,(wK (K.oZ _ _ _ _ hd)).1]at this;exact⟨L,this⟩
def Wx(K:TK U)(R:U.Ty)(s:U.den R):(U.pv R s).all PV.closed=true:=QH.2 λy hy=>gM (K.ib R s y hy)
def aa8{f:FuncId}{Γ:List (dU U)}{sa:SA U}{rs:List RV}{pos:Nat}{R:U.Ty}{A_s:List (dz U)}{r:qy U}(hf:iO P f nt sa.erase rs)(hok:sa.vZ P)(hlen:1+A_s.length<=nt)(hΓ:vq P Γ)
  {F:U.den R->eK A_s->Option (r.den×U.den R)} (hF:∀s a,rcK K Γ sa rs pos R A_s r s a=F s a):dU.Sound P (.rc f pos R A_s r F):=by
 refine⟨hf.enters,λs a v s' hv=> ?_⟩
 rw[<-hF s a]at hv;refine hf.Ri (by simpa[zi]using hlen) ?_
 rw[<-ahe (K:=K)];refine(eP hΓ sa [] _ _ _ _ hok hv).post ?_;rintro e A ⟨S',rfl,hfr,hk⟩;obtain⟨he,x,v',h1,h2,h3⟩:=KC hk;split at h3
 case h_2=>cases h3
 rename_i hnc;split at h3
 ·rename_i cs hb;split at h3
  ·rename_i s'' hd;injection h3 with h3
   injection h3 with h4 h5
   subst h4 h5;have hN:0<S'.N:=QJ (show 0<1 from Nat.one_pos) hfr.N
   refine⟨_,abE hb hd hN,?_⟩;have h6:=DS h1
   have hres:∀rs:List RV,DY S' rs=true->yN {S'.st with H:=bU S'.st.H 0 ⟨0,.box (U.pv R s'')⟩} rs=yN S'.st rs:=by
    intro rs hrs
    induction rs with
    |nil=>rfl
    |cons q rs ih=>
     cases q with
     |tmp t=>simp only[DY]at hrs;simp only[yN,Eb,ih hrs]
     |cell t n=>
      simp only[DY,Qm]at hrs;have h9:=hrs.1;split at h9
      ·rename_i id av off ht;have hne:id≠0:=by intro e;subst e;simp at h9
       have h10:S'.st.env t= .ptr id av off:=by simp only[aW.st,ht,KV.pv]
       simp only[yN,Eb,h10,c7 _ _ hne,ih hrs.2]
      ·cases h9
   have hret:B0 rs true (λr' cs''=>r'=vT r v'/\(true=true->cs''=U.pv R s'')) {S'.st with H:=bU S'.st.H 0 ⟨0,.box (U.pv R s'')⟩}:=by
    unfold B0
    have h7:vy {S'.st with H:=bU S'.st.H 0 ⟨0,.box (U.pv R s'')⟩} rs=some x.pv:=by rw[<-h6];unfold vy;have h8:=hres rs hnc;simp only[h8]
    rw[h7];simp only[ct];refine⟨Wx K R s'',?_,by simp⟩
    have hbx:=(CN hb).2;rw[<-SS (K:=K) (S:=S') (ex:=some 0) (λid hid=>by injection hid with hid;subst hid;intro e k T xs hq;rw[hbx]at hq;cases hq) h2]
    have hz:∀(n:Nat) (y:PV),fz (bU S'.st.H 0 ⟨0,.box (U.pv R s'')⟩) (some 0) n y=fz S'.st.H (some 0) n y:=by
     intro n
     induction n with
     |zero=>intro y;simp only[fz]
     |succ n ih=>
      intro y;have hu:∀id,¬(some id=some 0)->bU S'.st.H 0 ⟨0,.box (U.pv R s'')⟩ id=S'.st.H id:=λid hid=>c7 _ _ (λe=>hid (by rw[e]))
      have hm:fz (bU S'.st.H 0 ⟨0,.box (U.pv R s'')⟩) (some 0) n=fz S'.st.H (some 0) n:=funext ih
      cases y with
      |own id av|ptr id av off=>
       simp only[fz,hm]
       by_cases h0:some id=some 0
       ·rw[Qr (.inl h0),Qr (.inl h0)]
       ·rw[hu id h0]
      |agg cs|eN cs|bI f cs=>simp only[fz,hm]
      |_=>simp only[fz]
    exact hz 9 x.pv
   rcases he with rfl|rfl<;>exact hret
  ·cases h3
 ·cases h3
def abF{f:FuncId}{Γ:List (dU U)}{sa:SA U}{t:Nat}{A_s:List (dz U)}{R:U.Ty}(hf:iO P f nt sa.erase [.tmp t])(hok:sa.vZ P)(hlen:A_s.length<=nt)(hΓ:vq P Γ){F:eK A_s->Option (U.den R)}(hF:∀a,nwK K Γ sa [.tmp t] A_s R a=F a):dU.Sound P (.nw f A_s R F):=by
 refine⟨hf.enters,λa s hv=> ?_⟩
 rw[<-hF a]at hv;refine hf.akJ (by simpa[zi]using hlen) ?_
 rw[<-LL (K:=K)];intro c hs hc E hE hkt a' w L hr;refine wpIn_mono (eP hΓ sa [] _ _ _ _ hok hv c hs hc E hE hkt a' w L hr) ?_;rintro e a2 w2 ⟨A,L2,hrel,S',rfl,_,hk⟩;split at hk
 ·split at hk
  ·rename_i id av hx;split at hk
   ·rename_i cs hb
    have hre:S'.st.env t= .ptr id av 0:=by have:=DS hx;simpa[vy,yN,Eb,KV.pv]using this
    have hN:id<S'.N:=by have:=hrel.env t;rw[hre]at this;exact(this.pP (show(S'.st.gh L2).V id=av from(AF hb).1)).1
    obtain⟨L3,h3⟩:=abE hb hk hN E a2 w2 L2 hrel;refine⟨_,L3,h3,?_⟩
    have h7:vy {S'.st with H:=bU S'.st.H id ⟨av,.box (U.pv R s)⟩} [.tmp t]=some (.ptr id av 0):=by simp only[vy,yN,Eb];rw[hre]
    simp only[VP];rw[h7];simp only[ct,Qt];exact⟨Wx K R s,trivial⟩
   ·cases hk
  ·cases hk
 ·cases hk
def aeq(e k:Nat)(T:U.Ty)(xs:List (U.den T))(A_s:List (KV U)):aW U:=
 {env:=λt=>(((KV.own 0 0)::A_s)[t]?).getD .undef,H:=λid=>(match Nat.beq id 0 with|true=>⟨0,.row e k T xs⟩|false=>⟨0,.dead⟩),N:=1}
def ahd(e k:Nat)(T:U.Ty)(xs:List (U.den T))(A_s:List (dz U))(a:eK A_s):(aeq e k T xs (wM K A_s a)).st=vm e k (xs.map (U.pv T)) (gU A_s a):=by
 unfold aeq aW.st vm;congr 1
 ·funext t
  rw[<-CO K]
  cases t with
  |zero=>rfl
  |succ t=>simp only[List.getElem?_cons_succ,QT];cases (wM K A_s a)[t]?<;>rfl
 ·funext id
  cases id with
  |zero=>simp[dv.pv,dY.pv]
  |succ id=>simp[Nat.beq,dv.pv,dY.pv]
variable (K)
def rowAt(S:aW U)(id av e k:Nat)(T:U.Ty):Option (List (U.den T)):=
 match S.row? id av with
 |some r=>(match Nat.beq r.e e&&Nat.beq r.k k with|true=>yG r.T T r.xs|false=>none)
 |none=>none
def Zu{S:aW U}{id av e k:Nat}{T:U.Ty}{xs:List (U.den T)}(h:rowAt S id av e k T=some xs):(S.H id).av=av/\(S.H id).c= .row e k T xs:=by
 unfold rowAt at h;split at h
 ·rename_i r hr;obtain⟨h1,h2⟩:=Fp hr;split at h
  ·rename_i hek;rw[Qm]at hek;obtain⟨eT,rfl⟩:=nm h;obtain⟨re,rk,rT,rxs⟩:=r;simp only at eT h2 hek;subst eT;exact⟨h1,by rw[h2,QF hek.1,QF hek.2]⟩
  ·cases h
 ·cases h
def aan{ρ:Type}(rs:List RV)(e k:Nat)(T:U.Ty)(j:List (U.den T)->Option ρ)(en:Exit)(S:aW U):Option ρ:=
 match en with
 | .ret| .normal=>(match zW S rs with
  |some (.own id av)=>(match rowAt S id av e k T with|some ys=>j ys|none=>none)
  |_=>none)
 |_=>none
 def cwK(Γ:List (dU U))(sa:SA U)(rs:List RV)(e k:Nat)(T:U.Ty)(A_s:List (dz U))(xs:List (U.den T))(a:eK A_s):Option (List (U.den T)):=
 oY K Γ sa [] (some (0,[])) (aan rs e k T λys=>some ys) (aeq e k T xs (wM K A_s a))
 def fwK(Γ:List (dU U))(sa:SA U)(rs:List RV)(A_s:List (dz U))(e k:Nat)(T:U.Ty)(a:eK A_s):Option (List (U.den T)):=
 oY K Γ sa [] (some (0,[])) (aan rs e k T λys=>some ys) (Oc (wM K A_s a))
variable {K}
def T7{ρ:Type}{rs:List RV}{e k:Nat}{T:U.Ty}{j:List (U.den T)->Option ρ}{en:Exit}{S:aW U}{z:ρ}(h:aan rs e k T j en S=some z):
  (en= .ret\/en= .normal)/\∃id av ys,zW S rs=some (.own id av)/\(S.H id).av=av/\(S.H id).c= .row e k T ys/\j ys=some z:=by
 have go:(match zW S rs with
  |some (.own id av)=>(match rowAt S id av e k T with|some ys=>j ys|none=>none)
  |_=>none)=some z->∃id av ys,zW S rs=some (.own id av)/\(S.H id).av=av/\(S.H id).c= .row e k T ys/\j ys=some z:=by
  intro he;split at he
  ·rename_i id av hx;split at he
   ·rename_i ys hys;obtain⟨h1,h2⟩:=Zu hys;exact⟨id,av,ys,hx,h1,h2,he⟩
   ·cases he
  ·cases he
 unfold aan at h;split at h
 ·exact⟨.inl rfl,go h⟩
 ·exact⟨.inr rfl,go h⟩
 ·cases h
def WI{rs:List RV}{e k:Nat}{T:U.Ty}{S':aW U}{id av:Nat}{ys:List (U.den T)}(h1:zW S' rs=some (.own id av))(h2:(S'.H id).av=av)(h3:(S'.H id).c= .row e k T ys)(K:TK U):FW rs e k (λes''=>es''=ys.map (U.pv T)) .ret S'.st:=by
 simp only[FW];rw[DS h1];simp only[KV.pv];refine⟨h2,?_⟩;have:(S'.st.H id).c= .row e k (ys.map (U.pv T)):=by simp only[aW.st,dv.pv,h3,dY.pv]
 rw[this];exact⟨rfl,rfl,By K T ys,rfl⟩
def acm{f:FuncId}{Γ:List (dU U)}{sa:SA U}{rs:List RV}{e k:Nat}{T:U.Ty}{A_s:List (dz U)}(hf:iO P f nt sa.erase rs)(hok:sa.vZ P)(hlen:1+A_s.length<=nt)(hΓ:vq P Γ)
  {F:List (U.den T)->eK A_s->Option (List (U.den T))} (hF:∀xs a,cwK K Γ sa rs e k T A_s xs a=F xs a):dU.Sound P (.cw f e k T A_s F):=by
 refine⟨hf.enters,λxs a ys hv=> ?_⟩
 rw[<-hF xs a]at hv;refine hf.akL (by simpa[zi]using hlen) ?_
 rw[<-ahd (K:=K)];refine(eP hΓ sa [] _ _ _ _ hok hv).mono ?_;rintro en A ⟨S',rfl,_,hk⟩;obtain⟨he,id,av,ys',h1,h2,h3,h5⟩:=T7 hk;injection h5 with h5
 subst h5;have hret:=WI h1 h2 h3 K;rcases he with rfl|rfl<;>exact hret
def ab4{f:FuncId}{Γ:List (dU U)}{sa:SA U}{rs:List RV}{e k:Nat}{T:U.Ty}{A_s:List (dz U)}(hf:iO P f nt sa.erase rs)(hok:sa.vZ P)(hlen:A_s.length<=nt)(hΓ:vq P Γ)
  {F:eK A_s->Option (List (U.den T))} (hF:∀a,fwK K Γ sa rs A_s e k T a=F a):dU.Sound P (.fw f A_s e k T F):=by
 refine⟨hf.enters,λa ys hv=> ?_⟩
 rw[<-hF a]at hv;refine hf.akK (by simpa[zi]using hlen) ?_
 rw[<-LL (K:=K)];refine(eP hΓ sa [] _ _ _ _ hok hv).mono ?_;rintro en A ⟨S',rfl,_,hk⟩;obtain⟨he,id,av,ys',h1,h2,h3,h5⟩:=T7 hk;injection h5 with h5
 subst h5;have hret:=WI h1 h2 h3 K;rcases he with rfl|rfl<;>exact hret
end
end
section
def op{U:TU}(d:Nat)(x:cu)(r:RS U):RS U:= .op ⟨some d,none,x⟩ r
def ops{U:TU}(x:cu)(r:RS U):RS U:= .op ⟨none,none,x⟩ r
def tm(t:Nat):bB:= .tmp t
def ci(n:Int):bB:= .zH (.int .i64 n)
def ld{U:TU}(d t:Nat)(r:RS U):RS U:=op d (.load none (tm t)) r
def cl{U:TU}(d f:Nat)(l:List Nat)(r:RS U):RS U:=op d (.call f (l.map tm)) r
def aB(k:IntKind)(a b:Int):Int:=k.wrap (a+b)
def cW(k:IntKind)(a b:Int):Int:=k.wrap (a - b)
def qi(k:IntKind)(a b:Int):Int:=k.wrap (a*b)
def Vy(k:IntKind)(a b:Int):Int:=k.wrap (a.tdiv b)
def Zx(_:IntKind)(a b:Int):Int:=a.tmod b
def Gq(k:IntKind)(a b:Int):Int:=k.wrap ((BitVec.ofInt k.bits a&&&BitVec.ofInt k.bits b).toNat)
def sO(k:IntKind)(a b:Int):Int:=k.wrap ((BitVec.ofInt k.bits a|||BitVec.ofInt k.bits b).toNat)
def dJ(k:IntKind)(a b:Int):Int:=k.wrap ((BitVec.ofInt k.bits a^^^BitVec.ofInt k.bits b).toNat)
def BU(k:IntKind)(a b:Int):Int:=k.wrap ((BitVec.ofInt k.bits a&&& ~~~ BitVec.ofInt k.bits b).toNat)
def bX(k:IntKind)(a b:Int):Int:=k.wrap (a*2 ^ (min b.toNat k.bits))
def jP(k:IntKind)(a b:Int):Int:=a.fdiv (2 ^ (min b.toNat k.bits))
def br(k:IntKind)(n:Int):Int:=k.wrap n
def dt(a b:Int):Int:=if b<a then b else a
def bF(a b:Int):Int:=if b>a then b else a
def mu(neg:Bool)(a b:Int)(s t:ByteArray):Bool:=xor neg (decide (a=b)&&decide (s=t))
def jD{A R:Type}(B:(A->Option R)->A->Option R):Nat->A->Option R
 |0,_=>none
 |n+1,a=>B (jD B n) a
section
variable {U : TU}
inductive RN (U:TU) where
 |ps (p:Ps U)
 |C6 (t:Nat)
def acR(t:Nat):List SG->Option (List SG×SG×List SG)
 |[]=>none
 |o::r=>(match o.op with
  | .pick (.tmp t') _ _=>(match Nat.beq t t' with
   |true=>some ([],o,r)
   |false=>(match acR t r with|some (b,q,r')=>some (o::b,q,r')|none=>none))
  |_=>(match acR t r with|some (b,q,r')=>some (o::b,q,r')|none=>none))
def before(n:Nat):List (Nat×RN U)->List (Nat×RN U)
 |[]=>[]
 |(j,x)::l=>(match Nat.ble n j with|true=>[]|false=>(j,x)::before n l)
def after(n:Nat):List (Nat×RN U)->List (Nat×RN U)
 |[]=>[]
 |(j,x)::l=>(match Nat.ble n j with|true=>(j,x)::l|false=>after n l)
def vU(rV:Bool):Nat->List Nat->Nat->List SG->List (Nat×RN U)->RS U
 |0,_,_,_,_=> .nil
 |f+1,kn,i,[],ns=>(match ns with
  |(_,.ps p)::ns'=> .ps p (vU rV f kn i [] ns')
  |(_,.C6 t)::ns'=> .C6 t (vU rV f (t::kn) i [] ns')
  |_=> .nil)
 |f+1,kn,i,o::r,ns=>(match(match ns with|(j,_)::_=>Nat.beq j i|[]=>false)with
  |true=>(match ns with
   |(_,.ps p)::ns'=> .ps p (vU rV f kn i (o::r) ns')
   |(_,.C6 t)::ns'=> .C6 t (vU rV f (t::kn) i (o::r) ns')
   |[]=> .nil)
  |false=>(match o.g with
   |none=> .op o (vU rV f kn (Nat.succ i) r ns)
   |some (t,w)=>(match iL t kn with
    |true=> .op o (vU rV f kn (Nat.succ i) r ns)
    |false=>(match rV with
     |true=> .C6 t (vU rV f (t::kn) i (o::r) ns)
     |false=>(match acR t (o::r)with
      |some (b,q,r')=>(match q.op with
       | .pick _ x y=> .ite t w (vU rV f (t::kn) i b (before (Nat.add i b.length) ns)) (q.d.getD 0) q.g x y (vU rV f kn (Nat.succ (Nat.add i b.length)) r' (after (Nat.add i b.length) ns))
       |_=> .nil)
      |none=> .nil)))))
inductive NT (U:TU) where
 |e
 |l (x:NT U)
 |r (x:NT U)
 |b (x y:NT U)
 |ps (p:Ps U) (x:NT U)
 |Cq (p:Ps U) (x:NT U)
 |j (J:JS U) (x:NT U)
 |u (n:Nat) (x:NT U)
 |k (J:JS U) (f k:Nat) (nE:Option Nat) (T:U.Ty) (x:NT U)
 |o (J:JS U) (f:Nat) (x:NT U)
 |i (n:Nat) (f:FuncId) (nt:Nat) (rvs:List RV) (x:SA U) (ns ms:List (Nat×RN U))
 |g (ns:List (Nat×RN U))
def NT.lt:NT U->NT U
 | .l x| .b x _=>x
 | .j _ x| .k _ _ _ _ _ x| .o _ _ x| .ps _ x| .Cq _ x=>x.lt
 |_=> .e
def NT.rt:NT U->NT U
 | .r x| .b _ x=>x
 | .j _ x| .k _ _ _ _ _ x| .o _ _ x| .ps _ x| .Cq _ x=>x.rt
 |_=> .e
def NT.wrap:NT U->SA U->SA U
 | .ps p x,s=> .ps p (x.wrap s)
 | .Cq p x,s=> .Cq p (x.wrap s)
 |_,s=>s
def NT.core:NT U->NT U
 | .ps _ x| .Cq _ x=>x.core
 |x=>x
def dW:SC->NT U->SA U
 | .skip,t=>t.wrap .skip
 | .tZ ops,t=>t.wrap (match t.core with
  | .g ns=> .tZ (vU false 4000 [] 0 ops ns)
  | .i n f nt rvs x ns ms=>(match ops.drop n with
   |o::r=>(match o.op with
    | .call _ xs=> .inl (vU false 4000 [] 0 (ops.take n) ns) o.d f none xs nt rvs x (vU false 4000 [] 0 r ms)
    | .uw fv xs=> .inl (vU false 4000 [] 0 (ops.take n) ns) o.d f (some fv) xs nt rvs x (vU false 4000 [] 0 r ms)
    |_=> .skip)
   |[]=> .skip)
  |_=> .tZ (vU false 4000 [] 0 ops []))
 | .rV un ops,t=>t.wrap (.rV un (match t.core with| .g ns=>vU true 4000 [] 0 ops ns|_=>vU true 4000 [] 0 ops []))
 | .seq x y,t=>t.wrap (match t.core with
  | .j J u=> .join J (dW x u.lt) (dW y u.rt)
  |u=> .seq (dW x u.lt) (dW y u.rt))
 | .cond c x y,t=>t.wrap (.cond c (dW x t.lt) (dW y t.rt))
 | .block id x,t=>t.wrap (.block id (dW x t.lt))
 | .loop x,t=>t.wrap (match t.core with
  | .j J u=> .loop J (dW x u.lt)
  | .u n t=> .Mx n (dW x t.lt)
  |_=> .loop ⟨[],[]⟩ (dW x t.lt))
 | .GC g ps x y,t=>t.wrap (match t.core with
  | .k J f k nE T u=>(match g with
   | .tmp tg=> .back J f k nE T tg (ps.headD 0) (ps.tail.headD 0) (dW x u.lt) (dW y u.rt)
   |_=> .skip)
  |_=> .skip)
 | .exit id,t=>t.wrap (.exit id)
 | .ret,t=>t.wrap .ret
def eF(P:Program)(nt:Nat)(hs:List Nat)(fn:Func):SC:=(fn.body.bind (aX P nt hs)).getD .skip
end
section
variable {U : TU} {P : Program}
structure KS (U:TU) (P:Program) where
 k:dU U
 s:k.Sound P
def KS.ks:List (KS U P)->List (dU U)
 |[]=>[]
 |x::l=>x.k::KS.ks l
def KS.all:∀l:List (KS U P),vq P (KS.ks l)
 |[]=>trivial
 |x::l=>⟨x.s,KS.all l⟩
variable {K : TK U} {f : FuncId} {A_s : List (dz U)} {r : qy U} {e k : Nat} {T R : U.Ty}
def fk{f nt:Nat}{c:SC}{rs:List RV}(fn:Func)(hs:List Nat)(hf:P.funcs[f]?=some fn)(h0:fn.ntmps=nt:=by rfl)(h1:(fn.body.bind (aX P nt hs))=some c:=by kernel_rfl)(h2:mO P fn.results.toList=some rs:=by kernel_rfl)(h3:(fn.name== "runtime.NumGoroutine")=false:=by kernel_rfl):iO P f nt c rs:=⟨fn,hs,hf,h0,h1,h2,h3⟩
def fnS(sa:SA U)(nt:Nat)(rs:List RV)(G:List (KS U P))(hf:iO P f nt sa.erase rs)(hok:sa.dE=true:=by kernel_rfl)(hlen:A_s.length<=nt:=by decide){F:eK A_s->Option r.den}(hF:WA K (KS.ks G) sa rs A_s r=F:=by kernel_rfl):dU.Sound P (.fn f A_s r F):=
 Kw hf (oV hok) hlen (KS.all G) λa=>congrFun hF a
def ait(sa:SA U)(nt:Nat)(rs:List RV)(G:List (KS U P))(l:List (FuncId×Nat×SC×List RV))(hi:xq P l)(hf:iO P f nt sa.erase rs)(hok:sa.Bx=true:=by kernel_rfl)(hl:sa.SF=l:=by kernel_rfl)(hlen:A_s.length<=nt:=by decide){F:eK A_s->Option r.den}(hF:aiu K (KS.ks G) sa rs A_s r=F:=by kernel_rfl):dU.Sound P (.fn f A_s r F):=
 aad hf (Bw hok (by rw[hl];exact hi)) hlen (KS.all G) λa=>congrFun hF a
def rcS{pos:Nat}(sa:SA U)(nt:Nat)(rs:List RV)(G:List (KS U P))(hf:iO P f nt sa.erase rs)(hok:sa.dE=true:=by kernel_rfl)(hlen:1+A_s.length<=nt:=by decide){F:U.den R->eK A_s->Option (r.den×U.den R)}(hF:rcK K (KS.ks G) sa rs pos R A_s r=F:=by kernel_rfl):dU.Sound P (.rc f pos R A_s r F):=
 aa8 hf (oV hok) hlen (KS.all G) λs a=>congrFun (congrFun hF s) a
def roS{pos:Nat}{F:U.den R->eK A_s->Option (r.den×U.den R)}(h:dU.Sound P (.rc f pos R A_s r F))(hs:∀s a q,F s a=some q->q.2=s):dU.Sound P (.ro f pos R A_s r F):=
 ⟨h.1,λs a v s' hv=>⟨hs s a _ hv,h.2 s a v s' hv⟩⟩
def nwS(sa:SA U)(nt t:Nat)(G:List (KS U P))(hf:iO P f nt sa.erase [.tmp t])(hok:sa.dE=true:=by kernel_rfl)(hlen:A_s.length<=nt:=by decide){F:eK A_s->Option (U.den R)}(hF:nwK K (KS.ks G) sa [.tmp t] A_s R=F:=by kernel_rfl):dU.Sound P (.nw f A_s R F):=
 abF hf (oV hok) hlen (KS.all G) λa=>congrFun hF a
def WT(sa:SA U)(nt:Nat)(rs:List RV)(G:List (KS U P))(hf:iO P f nt sa.erase rs)(hok:sa.dE=true:=by kernel_rfl)(hlen:1+A_s.length<=nt:=by decide){F:List (U.den T)->eK A_s->Option (List (U.den T))}(hF:cwK K (KS.ks G) sa rs e k T A_s=F:=by kernel_rfl):dU.Sound P (.cw f e k T A_s F):=
 acm hf (oV hok) hlen (KS.all G) λs a=>congrFun (congrFun hF s) a
def YS(sa:SA U)(nt:Nat)(rs:List RV)(G:List (KS U P))(hf:iO P f nt sa.erase rs)(hok:sa.dE=true:=by kernel_rfl)(hlen:A_s.length<=nt:=by decide){F:eK A_s->Option (List (U.den T))}(hF:fwK K (KS.ks G) sa rs A_s e k T=F:=by kernel_rfl):dU.Sound P (.fw f A_s e k T F):=
 ab4 hf (oV hok) hlen (KS.all G) λa=>congrFun hF a
def fnR(sa:SA U)(nt:Nat)(rs:List RV)(G:List (KS U P))(hf:iO P f nt sa.erase rs)(hok:sa.dE=true:=by kernel_rfl)(hlen:A_s.length<=nt:=by decide){B:(eK A_s->Option r.den)->eK A_s->Option r.den}(hB:(λg=>WA K (.fn f A_s r g::KS.ks G) sa rs A_s r)=B):∀n,dU.Sound P (.fn f A_s r (jD B n))
 |0=>⟨hf.enters,λa r h=>by cases h⟩
 |n+1=>Kw (K:=K) (Γ:= .fn f A_s r (jD B n)::KS.ks G) (F:=jD B (n+1)) hf (oV hok) hlen ⟨fnR sa nt rs G hf hok hlen hB n,KS.all G⟩ λa=>congrFun (congrFun hB (jD B n)) a
def Az(sa:SA U)(nt:Nat)(rs:List RV)(G:List (KS U P))(hf:iO P f nt sa.erase rs)(hok:sa.dE=true:=by kernel_rfl)(hlen:A_s.length<=nt:=by decide){B:(eK A_s->Option r.den)->eK A_s->Option r.den}(hB:(λg=>WA K (.fn f A_s r g::KS.ks G) sa rs A_s r)=B:=by kernel_rfl){F:eK A_s->Option r.den}(hF:∀a,∃n,F a=jD B n a):dU.Sound P (.fn f A_s r F):=
 ⟨hf.enters,λa r h=>by
  obtain⟨n,hn⟩:=hF a;rw[hn]at h
  exact(fnR sa nt rs G hf hok hlen hB n).2 a r h⟩
def aac(sa:SA U)(nt:Nat)(rs:List RV)(G:(g:eK A_s->Option r.den)->dU.Sound P (.fn f A_s r g)->List (KS U P))(hf:iO P f nt sa.erase rs)(hok:sa.dE=true:=by kernel_rfl)(hlen:A_s.length<=nt:=by decide){B:(eK A_s->Option r.den)->eK A_s->Option r.den}(hB:(λg h=>WA K (.fn f A_s r g::KS.ks (G g h)) sa rs A_s r)=λg _=>B g):∀n,dU.Sound P (.fn f A_s r (jD B n))
 |0=>⟨hf.enters,λa r h=>by cases h⟩
 |n+1=>Kw (K:=K) (Γ:= .fn f A_s r (jD B n)::KS.ks (G (jD B n) (aac sa nt rs G hf hok hlen hB n))) (F:=jD B (n+1)) hf (oV hok) hlen ⟨aac sa nt rs G hf hok hlen hB n,KS.all _⟩ λa=>congrFun (congrFun (congrFun hB (jD B n)) (aac sa nt rs G hf hok hlen hB n)) a
def ajG(sa:SA U)(nt:Nat)(rs:List RV)(G:(g:eK A_s->Option r.den)->dU.Sound P (.fn f A_s r g)->List (KS U P))(hf:iO P f nt sa.erase rs)(hok:sa.dE=true:=by kernel_rfl)(hlen:A_s.length<=nt:=by decide){B:(eK A_s->Option r.den)->eK A_s->Option r.den}(hB:(λg h=>WA K (.fn f A_s r g::KS.ks (G g h)) sa rs A_s r)=(λg _=>B g):=by kernel_rfl){F:eK A_s->Option r.den}(hF:∀a,∃n,F a=jD B n a):dU.Sound P (.fn f A_s r F):=
 ⟨hf.enters,λa r h=>by
  obtain⟨n,hn⟩:=hF a;rw[hn]at h
  exact(aac sa nt rs G hf hok hlen hB n).2 a r h⟩
end
end
section
structure aj where
 aI:Int
 bb:(List Int)
 aO:(List aj)
theorem aj.eta(x:aj):aj.mk x.aI x.bb x.aO=x:=by cases x;rfl
@[reducible] def aq (x:aj):aj:=aj.mk x.aI x.bb x.aO
structure az where
 al:Int
 aH:Int
 aa:aj
 bm:(List ByteArray)
 aG:(List ByteArray)
@[simp] def az.eta (x:az):az.mk x.al x.aH x.aa x.bm x.aG=x:=rfl
structure ar where
 al:Int
 aL:Int
 Round:Int
 aH:Int
 aa:aj
 nc:ByteArray
 bm:(List ByteArray)
 aG:(List ByteArray)
 aS:(List ByteArray)
 au:(List az)
@[simp] def ar.eta (x:ar):ar.mk x.al x.aL x.Round x.aH x.aa x.nc x.bm x.aG x.aS x.au=x:=rfl
structure ah where
 ai:Int
 Value:ByteArray
@[simp] def ah.eta (x:ah):ah.mk x.ai x.Value=x:=rfl
structure ak where
 al:Int
 aL:Int
 aH:Int
 aa:aj
 bu:Int
 af:ah
 ao:ah
 aD:ah
 aZ:Int
 bq:Int
@[simp] def ak.eta (x:ak):ak.mk x.al x.aL x.aH x.aa x.bu x.af x.ao x.aD x.aZ x.bq=x:=rfl
structure ae where
 al:Int
 aL:Int
 aH:Int
 aa:aj
 aQ:Int
 af:ah
 ao:ah
 aD:ah
 ax:ah
 aZ:Int
 bq:Int
 bj:ByteArray
 au:(List ak)
@[simp] def ae.eta (x:ae):ae.mk x.al x.aL x.aH x.aa x.aQ x.af x.ao x.aD x.ax x.aZ x.bq x.bj x.au=x:=rfl
structure dg where
 ai:Int
 FQ:Int
@[simp] def dg.eta (x:dg):dg.mk x.ai x.FQ=x:=rfl
structure aJ where
 aA:ar
 ab:ae
 Timer:dg
 Round:Int
 Next:Int
 zr:Bool
 Value:ByteArray
@[simp] def aJ.eta (x:aJ):aJ.mk x.aA x.ab x.Timer x.Round x.Next x.zr x.Value=x:=rfl
structure aw where
 al:Int
 bM:Bool
 aa:aj
 aC:(List aJ)
@[simp] def aw.eta (x:aw):aw.mk x.al x.bM x.aa x.aC=x:=rfl
structure cr where
 bu:Int
 aL:Int
 aU:az
 ay:ak
@[simp] def cr.eta (x:cr):cr.mk x.bu x.aL x.aU x.ay=x:=rfl
structure kZ where
 c0:aw
 c1:aw
 c2:aw
 c3:aw
@[simp] def kZ.eta (x:kZ):kZ.mk x.c0 x.c1 x.c2 x.c3=x:=rfl
structure qw where
 c0:Int
 c1:Int
@[simp] def qw.eta (x:qw):qw.mk x.c0 x.c1=x:=rfl
structure qx where
 c0:qw
 c1:qw
@[simp] def qx.eta (x:qx):qx.mk x.c0 x.c1=x:=rfl
structure sH where
 c0:cr
 c1:cr
@[simp] def sH.eta (x:sH):sH.mk x.c0 x.c1=x:=rfl
structure dX where
 L:(List Int)
 At:Int
@[simp] def dX.eta (x:dX):dX.mk x.L x.At=x:=rfl
structure aM where
 ab:ae
@[simp] def aM.eta (x:aM):aM.mk x.ab=x:=rfl
structure bh where
 ft:Bool
 aa:aj
@[simp] def bh.eta (x:bh):bh.mk x.ft x.aa=x:=rfl
structure bf where
 bn:(List bh)
@[simp] def bf.eta (x:bf):bf.mk x.bn=x:=rfl
structure bK where
 ay:ak
@[simp] def bK.eta (x:bK):bK.mk x.ay=x:=rfl
structure gN where
 al:Int
 View:bf
 au:(List bK)
@[simp] def gN.eta (x:gN):gN.mk x.al x.View x.au=x:=rfl
structure mH where
 uy:Int
 Value:Int
@[simp] def mH.eta (x:mH):mH.mk x.uy x.Value=x:=rfl
structure cI where
 al:Int
 aH:Int
 aa:aj
 bm:(List mH)
 aG:(List mH)
@[simp] def cI.eta (x:cI):cI.mk x.al x.aH x.aa x.bm x.aG=x:=rfl
structure IF where
 ba:Int
 low:Int
 cn:Int
 aT:ah
 eV:ah
 bY:ah
 eu:ah
@[simp] def IF.eta (x:IF):IF.mk x.ba x.low x.cn x.aT x.eV x.bY x.eu=x:=rfl
structure sI where
 c0:ah
 c1:ah
@[simp] def sI.eta (x:sI):sI.mk x.c0 x.c1=x:=rfl
structure eY where
 Um:Int
 Un:Int
@[simp] def eY.eta (x:eY):eY.mk x.Um x.Un=x:=rfl
attribute [simp] aj.eta
inductive og where
 |aa
 |aU
 |aA
 |af
 |ay
 |ab
 |Timer
 |aL
 |kH
 |tC
 |ja
 |tW
 |ny
 |pJ
 |Src
 |yv
 |tB
 |Config
 |xo
 |Seen
 |Claim
 |Message
 |nc
 |pK
 |E0
 deriving DecidableEq
inductive Ty where
 |i (k:IntKind)
 |bool
 |str
 |sl (t:Ty)
 |mp (a b:Ty)
 |st (n:og)
def og.den:og->Type
 | .aa=>aj
 | .aU=>az
 | .aA=>ar
 | .af=>ah
 | .ay=>ak
 | .ab=>ae
 | .Timer=>dg
 | .aL=>aJ
 | .kH=>aw
 | .tC=>cr
 | .ja=>kZ
 | .tW=>qw
 | .ny=>qx
 | .pJ=>sH
 | .Src=>dX
 | .yv=>aM
 | .tB=>bh
 | .Config=>bf
 | .xo=>bK
 | .Seen=>gN
 | .Claim=>mH
 | .Message=>cI
 | .nc=>IF
 | .pK=>sI
 | .E0=>eY
def Ty.den:Ty->Type
 | .i _=>Int
 | .bool=>Bool
 | .str=>ByteArray
 | .sl t=>List t.den
 | .mp a b=>List (a.den×b.den)
 | .st n=>n.den
def Ty.beq:Ty->Ty->Bool
 | .i k,.i k'=>decide (k=k')
 | .bool,.bool| .str,.str=>true
 | .sl t,.sl t'=>Ty.beq t t'
 | .mp a b,.mp a' b'=>Ty.beq a a'&&Ty.beq b b'
 | .st n,.st n'=>decide (n=n')
 |_,_=>false
def Ty.eq_of_beq:∀{a b:Ty},Ty.beq a b=true->a=b
 | .i k,.i k',h=>by rw[of_decide_eq_true h]
 | .bool,.bool,_| .str,.str,_=>rfl
 | .sl t,.sl t',h=>by rw[Ty.eq_of_beq (a:=t) (b:=t') h]
 | .mp a b,.mp a' b',h=>by rw[Ty.beq,Qm]at h;rw[Ty.eq_of_beq (a:=a) (b:=a') h.1,Ty.eq_of_beq (a:=b) (b:=b') h.2]
 | .st n,.st n',h=>by rw[of_decide_eq_true h]
 | .i _,.bool,h| .i _,.str,h| .i _,.sl _,h| .i _,.st _,h| .bool,.i _,h| .bool,.str,h| .bool,.sl _,h| .bool,.st _,h| .str,.i _,h| .str,.bool,h| .str,.sl _,h| .str,.st _,h| .sl _,.i _,h| .sl _,.bool,h| .sl _,.str,h| .sl _,.st _,h| .st _,.i _,h| .st _,.bool,h| .st _,.str,h| .st _,.sl _,h| .mp _ _,.i _,h| .i _,.mp _ _,h| .mp _ _,.bool,h| .bool,.mp _ _,h| .mp _ _,.str,h| .str,.mp _ _,h| .mp _ _,.sl _,h| .sl _,.mp _ _,h| .mp _ _,.st _,h| .st _,.mp _ _,h=>by cases h
def Ty.IA:∀(a:Ty),Ty.beq a a=true
 | .i k=>Qg rfl
 | .bool| .str=>rfl
 | .sl t=>Ty.IA t
 | .mp a b=>by rw[Ty.beq,Ty.IA a,Ty.IA b];rfl
 | .st n=>Qg rfl
def Ty.Y0(a b:Ty):Decidable (a=b):=
 match h:Ty.beq a b with
 |true=>isTrue (Ty.eq_of_beq h)
 |false=>isFalse λe=>by rw[e,Ty.IA]at h;cases h
@[reducible] def EZ:List Ty->Type
 |[]=>Unit
 |t::l=>t.den×EZ l
def og.leaves:og->List Ty
 | .aa=>[(Ty.i .i64),(Ty.sl (Ty.i .i64)),(Ty.sl (Ty.st .aa))]
 | .aU=>[(Ty.i .i64),(Ty.i .i64),(Ty.i .i64),(Ty.sl (Ty.i .i64)),(Ty.sl (Ty.st .aa)),(Ty.sl Ty.str),(Ty.sl Ty.str)]
 | .aA=>[(Ty.i .i64),(Ty.i .i64),(Ty.i .i64),(Ty.i .i64),(Ty.i .i64),(Ty.sl (Ty.i .i64)),(Ty.sl (Ty.st .aa)),Ty.str,(Ty.sl Ty.str),(Ty.sl Ty.str),(Ty.sl Ty.str),(Ty.sl (Ty.st .aU))]
 | .af=>[(Ty.i .i64),Ty.str]
 | .ay=>[(Ty.i .i64),(Ty.i .i64),(Ty.i .i64),(Ty.i .i64),(Ty.sl (Ty.i .i64)),(Ty.sl (Ty.st .aa)),(Ty.i .i64),(Ty.i .i64),Ty.str,(Ty.i .i64),Ty.str,(Ty.i .i64),Ty.str,(Ty.i .i64),(Ty.i .i64)]
 | .ab=>[(Ty.i .i64),(Ty.i .i64),(Ty.i .i64),(Ty.i .i64),(Ty.sl (Ty.i .i64)),(Ty.sl (Ty.st .aa)),(Ty.i .i64),(Ty.i .i64),Ty.str,(Ty.i .i64),Ty.str,(Ty.i .i64),Ty.str,(Ty.i .i64),Ty.str,(Ty.i .i64),(Ty.i .i64),Ty.str,(Ty.sl (Ty.st .ay))]
 | .Timer=>[(Ty.i .i64),(Ty.i .i64)]
 | .aL=>[(Ty.i .i64),(Ty.i .i64),(Ty.i .i64),(Ty.i .i64),(Ty.i .i64),(Ty.sl (Ty.i .i64)),(Ty.sl (Ty.st .aa)),Ty.str,(Ty.sl Ty.str),(Ty.sl Ty.str),(Ty.sl Ty.str),(Ty.sl (Ty.st .aU)),(Ty.i .i64),(Ty.i .i64),(Ty.i .i64),(Ty.i .i64),(Ty.sl (Ty.i .i64)),(Ty.sl (Ty.st .aa)),(Ty.i .i64),(Ty.i .i64),Ty.str,(Ty.i .i64),Ty.str,(Ty.i .i64),Ty.str,(Ty.i .i64),Ty.str,(Ty.i .i64),(Ty.i .i64),Ty.str,(Ty.sl (Ty.st .ay)),(Ty.i .i64),(Ty.i .i64),(Ty.i .i64),(Ty.i .i64),Ty.bool,Ty.str]
 | .kH=>[(Ty.i .i64),Ty.bool,(Ty.i .i64),(Ty.sl (Ty.i .i64)),(Ty.sl (Ty.st .aa)),(Ty.sl (Ty.st .aL))]
 | .tC=>[(Ty.i .i64),(Ty.i .i64),(Ty.i .i64),(Ty.i .i64),(Ty.i .i64),(Ty.sl (Ty.i .i64)),(Ty.sl (Ty.st .aa)),(Ty.sl Ty.str),(Ty.sl Ty.str),(Ty.i .i64),(Ty.i .i64),(Ty.i .i64),(Ty.i .i64),(Ty.sl (Ty.i .i64)),(Ty.sl (Ty.st .aa)),(Ty.i .i64),(Ty.i .i64),Ty.str,(Ty.i .i64),Ty.str,(Ty.i .i64),Ty.str,(Ty.i .i64),(Ty.i .i64)]
 | .ja=>[(Ty.i .i64),Ty.bool,(Ty.i .i64),(Ty.sl (Ty.i .i64)),(Ty.sl (Ty.st .aa)),(Ty.sl (Ty.st .aL)),(Ty.i .i64),Ty.bool,(Ty.i .i64),(Ty.sl (Ty.i .i64)),(Ty.sl (Ty.st .aa)),(Ty.sl (Ty.st .aL)),(Ty.i .i64),Ty.bool,(Ty.i .i64),(Ty.sl (Ty.i .i64)),(Ty.sl (Ty.st .aa)),(Ty.sl (Ty.st .aL)),(Ty.i .i64),Ty.bool,(Ty.i .i64),(Ty.sl (Ty.i .i64)),(Ty.sl (Ty.st .aa)),(Ty.sl (Ty.st .aL))]
 | .tW=>[(Ty.i .i64),(Ty.i .i64)]
 | .ny=>[(Ty.i .i64),(Ty.i .i64),(Ty.i .i64),(Ty.i .i64)]
 | .pJ=>[(Ty.i .i64),(Ty.i .i64),(Ty.i .i64),(Ty.i .i64),(Ty.i .i64),(Ty.sl (Ty.i .i64)),(Ty.sl (Ty.st .aa)),(Ty.sl Ty.str),(Ty.sl Ty.str),(Ty.i .i64),(Ty.i .i64),(Ty.i .i64),(Ty.i .i64),(Ty.sl (Ty.i .i64)),(Ty.sl (Ty.st .aa)),(Ty.i .i64),(Ty.i .i64),Ty.str,(Ty.i .i64),Ty.str,(Ty.i .i64),Ty.str,(Ty.i .i64),(Ty.i .i64),(Ty.i .i64),(Ty.i .i64),(Ty.i .i64),(Ty.i .i64),(Ty.i .i64),(Ty.sl (Ty.i .i64)),(Ty.sl (Ty.st .aa)),(Ty.sl Ty.str),(Ty.sl Ty.str),(Ty.i .i64),(Ty.i .i64),(Ty.i .i64),(Ty.i .i64),(Ty.sl (Ty.i .i64)),(Ty.sl (Ty.st .aa)),(Ty.i .i64),(Ty.i .i64),Ty.str,(Ty.i .i64),Ty.str,(Ty.i .i64),Ty.str,(Ty.i .i64),(Ty.i .i64)]
 | .Src=>[(Ty.sl (Ty.i .i64)),(Ty.i .i64)]
 | .yv=>[(Ty.i .i64),(Ty.i .i64),(Ty.i .i64),(Ty.i .i64),(Ty.sl (Ty.i .i64)),(Ty.sl (Ty.st .aa)),(Ty.i .i64),(Ty.i .i64),Ty.str,(Ty.i .i64),Ty.str,(Ty.i .i64),Ty.str,(Ty.i .i64),Ty.str,(Ty.i .i64),(Ty.i .i64),Ty.str,(Ty.sl (Ty.st .ay))]
 | .tB=>[Ty.bool,(Ty.i .i64),(Ty.sl (Ty.i .i64)),(Ty.sl (Ty.st .aa))]
 | .Config=>[(Ty.sl (Ty.st .tB))]
 | .xo=>[(Ty.i .i64),(Ty.i .i64),(Ty.i .i64),(Ty.i .i64),(Ty.sl (Ty.i .i64)),(Ty.sl (Ty.st .aa)),(Ty.i .i64),(Ty.i .i64),Ty.str,(Ty.i .i64),Ty.str,(Ty.i .i64),Ty.str,(Ty.i .i64),(Ty.i .i64)]
 | .Seen=>[(Ty.i .i64),(Ty.sl (Ty.st .tB)),(Ty.sl (Ty.st .xo))]
 | .Claim=>[(Ty.i .i64),(Ty.i .i64)]
 | .Message=>[(Ty.i .i64),(Ty.i .i64),(Ty.i .i64),(Ty.sl (Ty.i .i64)),(Ty.sl (Ty.st .aa)),(Ty.sl (Ty.st .Claim)),(Ty.sl (Ty.st .Claim))]
 | .nc=>[(Ty.i .i64),(Ty.i .i64),(Ty.i .i64),(Ty.i .i64),Ty.str,(Ty.i .i64),Ty.str,(Ty.i .i64),Ty.str,(Ty.i .i64),Ty.str]
 | .pK=>[(Ty.i .i64),Ty.str,(Ty.i .i64),Ty.str]
 | .E0=>[(Ty.i .i64),(Ty.i .i64)]
def og.toL:(n:og)->n.den->EZ n.leaves
 | .aa,(v:aj)=>(v.aI,v.bb,v.aO,())
 | .aU,(v:az)=>(v.al,v.aH,v.aa.aI,v.aa.bb,v.aa.aO,v.bm,v.aG,())
 | .aA,(v:ar)=>(v.al,v.aL,v.Round,v.aH,v.aa.aI,v.aa.bb,v.aa.aO,v.nc,v.bm,v.aG,v.aS,v.au,())
 | .af,(v:ah)=>(v.ai,v.Value,())
 | .ay,(v:ak)=>(v.al,v.aL,v.aH,v.aa.aI,v.aa.bb,v.aa.aO,v.bu,v.af.ai,v.af.Value,v.ao.ai,v.ao.Value,v.aD.ai,v.aD.Value,v.aZ,v.bq,())
 | .ab,(v:ae)=>(v.al,v.aL,v.aH,v.aa.aI,v.aa.bb,v.aa.aO,v.aQ,v.af.ai,v.af.Value,v.ao.ai,v.ao.Value,v.aD.ai,v.aD.Value,v.ax.ai,v.ax.Value,v.aZ,v.bq,v.bj,v.au,())
 | .Timer,(v:dg)=>(v.ai,v.FQ,())
 | .aL,(v:aJ)=>(v.aA.al,v.aA.aL,v.aA.Round,v.aA.aH,v.aA.aa.aI,v.aA.aa.bb,v.aA.aa.aO,v.aA.nc,v.aA.bm,v.aA.aG,v.aA.aS,v.aA.au,v.ab.al,v.ab.aL,v.ab.aH,v.ab.aa.aI,v.ab.aa.bb,v.ab.aa.aO,v.ab.aQ,v.ab.af.ai,v.ab.af.Value,v.ab.ao.ai,v.ab.ao.Value,v.ab.aD.ai,v.ab.aD.Value,v.ab.ax.ai,v.ab.ax.Value,v.ab.aZ,v.ab.bq,v.ab.bj,v.ab.au,v.Timer.ai,v.Timer.FQ,v.Round,v.Next,v.zr,v.Value,())
 | .kH,(v:aw)=>(v.al,v.bM,v.aa.aI,v.aa.bb,v.aa.aO,v.aC,())
 | .tC,(v:cr)=>(v.bu,v.aL,v.aU.al,v.aU.aH,v.aU.aa.aI,v.aU.aa.bb,v.aU.aa.aO,v.aU.bm,v.aU.aG,v.ay.al,v.ay.aL,v.ay.aH,v.ay.aa.aI,v.ay.aa.bb,v.ay.aa.aO,v.ay.bu,v.ay.af.ai,v.ay.af.Value,v.ay.ao.ai,v.ay.ao.Value,v.ay.aD.ai,v.ay.aD.Value,v.ay.aZ,v.ay.bq,())
 | .ja,(v:kZ)=>(v.c0.al,v.c0.bM,v.c0.aa.aI,v.c0.aa.bb,v.c0.aa.aO,v.c0.aC,v.c1.al,v.c1.bM,v.c1.aa.aI,v.c1.aa.bb,v.c1.aa.aO,v.c1.aC,v.c2.al,v.c2.bM,v.c2.aa.aI,v.c2.aa.bb,v.c2.aa.aO,v.c2.aC,v.c3.al,v.c3.bM,v.c3.aa.aI,v.c3.aa.bb,v.c3.aa.aO,v.c3.aC,())
 | .tW,(v:qw)=>(v.c0,v.c1,())
 | .ny,(v:qx)=>(v.c0.c0,v.c0.c1,v.c1.c0,v.c1.c1,())
 | .pJ,(v:sH)=>(v.c0.bu,v.c0.aL,v.c0.aU.al,v.c0.aU.aH,v.c0.aU.aa.aI,v.c0.aU.aa.bb,v.c0.aU.aa.aO,v.c0.aU.bm,v.c0.aU.aG,v.c0.ay.al,v.c0.ay.aL,v.c0.ay.aH,v.c0.ay.aa.aI,v.c0.ay.aa.bb,v.c0.ay.aa.aO,v.c0.ay.bu,v.c0.ay.af.ai,v.c0.ay.af.Value,v.c0.ay.ao.ai,v.c0.ay.ao.Value,v.c0.ay.aD.ai,v.c0.ay.aD.Value,v.c0.ay.aZ,v.c0.ay.bq,v.c1.bu,v.c1.aL,v.c1.aU.al,v.c1.aU.aH,v.c1.aU.aa.aI,v.c1.aU.aa.bb,v.c1.aU.aa.aO,v.c1.aU.bm,v.c1.aU.aG,v.c1.ay.al,v.c1.ay.aL,v.c1.ay.aH,v.c1.ay.aa.aI,v.c1.ay.aa.bb,v.c1.ay.aa.aO,v.c1.ay.bu,v.c1.ay.af.ai,v.c1.ay.af.Value,v.c1.ay.ao.ai,v.c1.ay.ao.Value,v.c1.ay.aD.ai,v.c1.ay.aD.Value,v.c1.ay.aZ,v.c1.ay.bq,())
 | .Src,(v:dX)=>(v.L,v.At,())
 | .yv,(v:aM)=>(v.ab.al,v.ab.aL,v.ab.aH,v.ab.aa.aI,v.ab.aa.bb,v.ab.aa.aO,v.ab.aQ,v.ab.af.ai,v.ab.af.Value,v.ab.ao.ai,v.ab.ao.Value,v.ab.aD.ai,v.ab.aD.Value,v.ab.ax.ai,v.ab.ax.Value,v.ab.aZ,v.ab.bq,v.ab.bj,v.ab.au,())
 | .tB,(v:bh)=>(v.ft,v.aa.aI,v.aa.bb,v.aa.aO,())
 | .Config,(v:bf)=>(v.bn,())
 | .xo,(v:bK)=>(v.ay.al,v.ay.aL,v.ay.aH,v.ay.aa.aI,v.ay.aa.bb,v.ay.aa.aO,v.ay.bu,v.ay.af.ai,v.ay.af.Value,v.ay.ao.ai,v.ay.ao.Value,v.ay.aD.ai,v.ay.aD.Value,v.ay.aZ,v.ay.bq,())
 | .Seen,(v:gN)=>(v.al,v.View.bn,v.au,())
 | .Claim,(v:mH)=>(v.uy,v.Value,())
 | .Message,(v:cI)=>(v.al,v.aH,v.aa.aI,v.aa.bb,v.aa.aO,v.bm,v.aG,())
 | .nc,(v:IF)=>(v.ba,v.low,v.cn,v.aT.ai,v.aT.Value,v.eV.ai,v.eV.Value,v.bY.ai,v.bY.Value,v.eu.ai,v.eu.Value,())
 | .pK,(v:sI)=>(v.c0.ai,v.c0.Value,v.c1.ai,v.c1.Value,())
 | .E0,(v:eY)=>(v.Um,v.Un,())
def og.ofL:(n:og)->EZ n.leaves->n.den
 | .aa,v=>(aj.mk v.1 v.2.1 v.2.2.1)
 | .aU,v=>(az.mk v.1 v.2.1 (aj.mk v.2.2.1 v.2.2.2.1 v.2.2.2.2.1) v.2.2.2.2.2.1 v.2.2.2.2.2.2.1)
 | .aA,v=>(ar.mk v.1 v.2.1 v.2.2.1 v.2.2.2.1 (aj.mk v.2.2.2.2.1 v.2.2.2.2.2.1 v.2.2.2.2.2.2.1) v.2.2.2.2.2.2.2.1 v.2.2.2.2.2.2.2.2.1 v.2.2.2.2.2.2.2.2.2.1 v.2.2.2.2.2.2.2.2.2.2.1 v.2.2.2.2.2.2.2.2.2.2.2.1)
 | .af,v=>(ah.mk v.1 v.2.1)
 | .ay,v=>(ak.mk v.1 v.2.1 v.2.2.1 (aj.mk v.2.2.2.1 v.2.2.2.2.1 v.2.2.2.2.2.1) v.2.2.2.2.2.2.1 (ah.mk v.2.2.2.2.2.2.2.1 v.2.2.2.2.2.2.2.2.1) (ah.mk v.2.2.2.2.2.2.2.2.2.1 v.2.2.2.2.2.2.2.2.2.2.1) (ah.mk v.2.2.2.2.2.2.2.2.2.2.2.1 v.2.2.2.2.2.2.2.2.2.2.2.2.1) v.2.2.2.2.2.2.2.2.2.2.2.2.2.1 v.2.2.2.2.2.2.2.2.2.2.2.2.2.2.1)
 | .ab,v=>(ae.mk v.1 v.2.1 v.2.2.1 (aj.mk v.2.2.2.1 v.2.2.2.2.1 v.2.2.2.2.2.1) v.2.2.2.2.2.2.1 (ah.mk v.2.2.2.2.2.2.2.1 v.2.2.2.2.2.2.2.2.1) (ah.mk v.2.2.2.2.2.2.2.2.2.1 v.2.2.2.2.2.2.2.2.2.2.1) (ah.mk v.2.2.2.2.2.2.2.2.2.2.2.1 v.2.2.2.2.2.2.2.2.2.2.2.2.1) (ah.mk v.2.2.2.2.2.2.2.2.2.2.2.2.2.1 v.2.2.2.2.2.2.2.2.2.2.2.2.2.2.1) v.2.2.2.2.2.2.2.2.2.2.2.2.2.2.2.1 v.2.2.2.2.2.2.2.2.2.2.2.2.2.2.2.2.1 v.2.2.2.2.2.2.2.2.2.2.2.2.2.2.2.2.2.1 v.2.2.2.2.2.2.2.2.2.2.2.2.2.2.2.2.2.2.1)
 | .Timer,v=>(dg.mk v.1 v.2.1)
 | .aL,v=>(aJ.mk (ar.mk v.1 v.2.1 v.2.2.1 v.2.2.2.1 (aj.mk v.2.2.2.2.1 v.2.2.2.2.2.1 v.2.2.2.2.2.2.1) v.2.2.2.2.2.2.2.1 v.2.2.2.2.2.2.2.2.1 v.2.2.2.2.2.2.2.2.2.1 v.2.2.2.2.2.2.2.2.2.2.1 v.2.2.2.2.2.2.2.2.2.2.2.1) (ae.mk v.2.2.2.2.2.2.2.2.2.2.2.2.1 v.2.2.2.2.2.2.2.2.2.2.2.2.2.1 v.2.2.2.2.2.2.2.2.2.2.2.2.2.2.1 (aj.mk v.2.2.2.2.2.2.2.2.2.2.2.2.2.2.2.1 v.2.2.2.2.2.2.2.2.2.2.2.2.2.2.2.2.1 v.2.2.2.2.2.2.2.2.2.2.2.2.2.2.2.2.2.1) v.2.2.2.2.2.2.2.2.2.2.2.2.2.2.2.2.2.2.1 (ah.mk v.2.2.2.2.2.2.2.2.2.2.2.2.2.2.2.2.2.2.2.1 v.2.2.2.2.2.2.2.2.2.2.2.2.2.2.2.2.2.2.2.2.1) (ah.mk v.2.2.2.2.2.2.2.2.2.2.2.2.2.2.2.2.2.2.2.2.2.1 v.2.2.2.2.2.2.2.2.2.2.2.2.2.2.2.2.2.2.2.2.2.2.1) (ah.mk v.2.2.2.2.2.2.2.2.2.2.2.2.2.2.2.2.2.2.2.2.2.2.2.1 v.2.2.2.2.2.2.2.2.2.2.2.2.2.2.2.2.2.2.2.2.2.2.2.2.1) (ah.mk v.2.2.2.2.2.2.2.2.2.2.2.2.2.2.2.2.2.2.2.2.2.2.2.2.2.1 v.2.2.2.2.2.2.2.2.2.2.2.2.2.2.2.2.2.2.2.2.2.2.2.2.2.2.1) v.2.2.2.2.2.2.2.2.2.2.2.2.2.2.2.2.2.2.2.2.2.2.2.2.2.2.2.1 v.2.2.2.2.2.2.2.2.2.2.2.2.2.2.2.2.2.2.2.2.2.2.2.2.2.2.2.2.1 v.2.2.2.2.2.2.2.2.2.2.2.2.2.2.2.2.2.2.2.2.2.2.2.2.2.2.2.2.2.1 v.2.2.2.2.2.2.2.2.2.2.2.2.2.2.2.2.2.2.2.2.2.2.2.2.2.2.2.2.2.2.1) (dg.mk v.2.2.2.2.2.2.2.2.2.2.2.2.2.2.2.2.2.2.2.2.2.2.2.2.2.2.2.2.2.2.2.1 v.2.2.2.2.2.2.2.2.2.2.2.2.2.2.2.2.2.2.2.2.2.2.2.2.2.2.2.2.2.2.2.2.1) v.2.2.2.2.2.2.2.2.2.2.2.2.2.2.2.2.2.2.2.2.2.2.2.2.2.2.2.2.2.2.2.2.2.1 v.2.2.2.2.2.2.2.2.2.2.2.2.2.2.2.2.2.2.2.2.2.2.2.2.2.2.2.2.2.2.2.2.2.2.1 v.2.2.2.2.2.2.2.2.2.2.2.2.2.2.2.2.2.2.2.2.2.2.2.2.2.2.2.2.2.2.2.2.2.2.2.1 v.2.2.2.2.2.2.2.2.2.2.2.2.2.2.2.2.2.2.2.2.2.2.2.2.2.2.2.2.2.2.2.2.2.2.2.2.1)
 | .kH,v=>(aw.mk v.1 v.2.1 (aj.mk v.2.2.1 v.2.2.2.1 v.2.2.2.2.1) v.2.2.2.2.2.1)
 | .tC,v=>(cr.mk v.1 v.2.1 (az.mk v.2.2.1 v.2.2.2.1 (aj.mk v.2.2.2.2.1 v.2.2.2.2.2.1 v.2.2.2.2.2.2.1) v.2.2.2.2.2.2.2.1 v.2.2.2.2.2.2.2.2.1) (ak.mk v.2.2.2.2.2.2.2.2.2.1 v.2.2.2.2.2.2.2.2.2.2.1 v.2.2.2.2.2.2.2.2.2.2.2.1 (aj.mk v.2.2.2.2.2.2.2.2.2.2.2.2.1 v.2.2.2.2.2.2.2.2.2.2.2.2.2.1 v.2.2.2.2.2.2.2.2.2.2.2.2.2.2.1) v.2.2.2.2.2.2.2.2.2.2.2.2.2.2.2.1 (ah.mk v.2.2.2.2.2.2.2.2.2.2.2.2.2.2.2.2.1 v.2.2.2.2.2.2.2.2.2.2.2.2.2.2.2.2.2.1) (ah.mk v.2.2.2.2.2.2.2.2.2.2.2.2.2.2.2.2.2.2.1 v.2.2.2.2.2.2.2.2.2.2.2.2.2.2.2.2.2.2.2.1) (ah.mk v.2.2.2.2.2.2.2.2.2.2.2.2.2.2.2.2.2.2.2.2.1 v.2.2.2.2.2.2.2.2.2.2.2.2.2.2.2.2.2.2.2.2.2.1) v.2.2.2.2.2.2.2.2.2.2.2.2.2.2.2.2.2.2.2.2.2.2.1 v.2.2.2.2.2.2.2.2.2.2.2.2.2.2.2.2.2.2.2.2.2.2.2.1))
 | .ja,v=>(kZ.mk (aw.mk v.1 v.2.1 (aj.mk v.2.2.1 v.2.2.2.1 v.2.2.2.2.1) v.2.2.2.2.2.1) (aw.mk v.2.2.2.2.2.2.1 v.2.2.2.2.2.2.2.1 (aj.mk v.2.2.2.2.2.2.2.2.1 v.2.2.2.2.2.2.2.2.2.1 v.2.2.2.2.2.2.2.2.2.2.1) v.2.2.2.2.2.2.2.2.2.2.2.1) (aw.mk v.2.2.2.2.2.2.2.2.2.2.2.2.1 v.2.2.2.2.2.2.2.2.2.2.2.2.2.1 (aj.mk v.2.2.2.2.2.2.2.2.2.2.2.2.2.2.1 v.2.2.2.2.2.2.2.2.2.2.2.2.2.2.2.1 v.2.2.2.2.2.2.2.2.2.2.2.2.2.2.2.2.1) v.2.2.2.2.2.2.2.2.2.2.2.2.2.2.2.2.2.1) (aw.mk v.2.2.2.2.2.2.2.2.2.2.2.2.2.2.2.2.2.2.1 v.2.2.2.2.2.2.2.2.2.2.2.2.2.2.2.2.2.2.2.1 (aj.mk v.2.2.2.2.2.2.2.2.2.2.2.2.2.2.2.2.2.2.2.2.1 v.2.2.2.2.2.2.2.2.2.2.2.2.2.2.2.2.2.2.2.2.2.1 v.2.2.2.2.2.2.2.2.2.2.2.2.2.2.2.2.2.2.2.2.2.2.1) v.2.2.2.2.2.2.2.2.2.2.2.2.2.2.2.2.2.2.2.2.2.2.2.1))
 | .tW,v=>(qw.mk v.1 v.2.1)
 | .ny,v=>(qx.mk (qw.mk v.1 v.2.1) (qw.mk v.2.2.1 v.2.2.2.1))
 | .pJ,v=>(sH.mk (cr.mk v.1 v.2.1 (az.mk v.2.2.1 v.2.2.2.1 (aj.mk v.2.2.2.2.1 v.2.2.2.2.2.1 v.2.2.2.2.2.2.1) v.2.2.2.2.2.2.2.1 v.2.2.2.2.2.2.2.2.1) (ak.mk v.2.2.2.2.2.2.2.2.2.1 v.2.2.2.2.2.2.2.2.2.2.1 v.2.2.2.2.2.2.2.2.2.2.2.1 (aj.mk v.2.2.2.2.2.2.2.2.2.2.2.2.1 v.2.2.2.2.2.2.2.2.2.2.2.2.2.1 v.2.2.2.2.2.2.2.2.2.2.2.2.2.2.1) v.2.2.2.2.2.2.2.2.2.2.2.2.2.2.2.1 (ah.mk v.2.2.2.2.2.2.2.2.2.2.2.2.2.2.2.2.1 v.2.2.2.2.2.2.2.2.2.2.2.2.2.2.2.2.2.1) (ah.mk v.2.2.2.2.2.2.2.2.2.2.2.2.2.2.2.2.2.2.1 v.2.2.2.2.2.2.2.2.2.2.2.2.2.2.2.2.2.2.2.1) (ah.mk v.2.2.2.2.2.2.2.2.2.2.2.2.2.2.2.2.2.2.2.2.1 v.2.2.2.2.2.2.2.2.2.2.2.2.2.2.2.2.2.2.2.2.2.1) v.2.2.2.2.2.2.2.2.2.2.2.2.2.2.2.2.2.2.2.2.2.2.1 v.2.2.2.2.2.2.2.2.2.2.2.2.2.2.2.2.2.2.2.2.2.2.2.1)) (cr.mk v.2.2.2.2.2.2.2.2.2.2.2.2.2.2.2.2.2.2.2.2.2.2.2.2.1 v.2.2.2.2.2.2.2.2.2.2.2.2.2.2.2.2.2.2.2.2.2.2.2.2.2.1 (az.mk v.2.2.2.2.2.2.2.2.2.2.2.2.2.2.2.2.2.2.2.2.2.2.2.2.2.2.1 v.2.2.2.2.2.2.2.2.2.2.2.2.2.2.2.2.2.2.2.2.2.2.2.2.2.2.2.1 (aj.mk v.2.2.2.2.2.2.2.2.2.2.2.2.2.2.2.2.2.2.2.2.2.2.2.2.2.2.2.2.1 v.2.2.2.2.2.2.2.2.2.2.2.2.2.2.2.2.2.2.2.2.2.2.2.2.2.2.2.2.2.1 v.2.2.2.2.2.2.2.2.2.2.2.2.2.2.2.2.2.2.2.2.2.2.2.2.2.2.2.2.2.2.1) v.2.2.2.2.2.2.2.2.2.2.2.2.2.2.2.2.2.2.2.2.2.2.2.2.2.2.2.2.2.2.2.1 v.2.2.2.2.2.2.2.2.2.2.2.2.2.2.2.2.2.2.2.2.2.2.2.2.2.2.2.2.2.2.2.2.1) (ak.mk v.2.2.2.2.2.2.2.2.2.2.2.2.2.2.2.2.2.2.2.2.2.2.2.2.2.2.2.2.2.2.2.2.2.1 v.2.2.2.2.2.2.2.2.2.2.2.2.2.2.2.2.2.2.2.2.2.2.2.2.2.2.2.2.2.2.2.2.2.2.1 v.2.2.2.2.2.2.2.2.2.2.2.2.2.2.2.2.2.2.2.2.2.2.2.2.2.2.2.2.2.2.2.2.2.2.2.1 (aj.mk v.2.2.2.2.2.2.2.2.2.2.2.2.2.2.2.2.2.2.2.2.2.2.2.2.2.2.2.2.2.2.2.2.2.2.2.2.1 v.2.2.2.2.2.2.2.2.2.2.2.2.2.2.2.2.2.2.2.2.2.2.2.2.2.2.2.2.2.2.2.2.2.2.2.2.2.1 v.2.2.2.2.2.2.2.2.2.2.2.2.2.2.2.2.2.2.2.2.2.2.2.2.2.2.2.2.2.2.2.2.2.2.2.2.2.2.1) v.2.2.2.2.2.2.2.2.2.2.2.2.2.2.2.2.2.2.2.2.2.2.2.2.2.2.2.2.2.2.2.2.2.2.2.2.2.2.2.1 (ah.mk v.2.2.2.2.2.2.2.2.2.2.2.2.2.2.2.2.2.2.2.2.2.2.2.2.2.2.2.2.2.2.2.2.2.2.2.2.2.2.2.2.1 v.2.2.2.2.2.2.2.2.2.2.2.2.2.2.2.2.2.2.2.2.2.2.2.2.2.2.2.2.2.2.2.2.2.2.2.2.2.2.2.2.2.1) (ah.mk v.2.2.2.2.2.2.2.2.2.2.2.2.2.2.2.2.2.2.2.2.2.2.2.2.2.2.2.2.2.2.2.2.2.2.2.2.2.2.2.2.2.2.1 v.2.2.2.2.2.2.2.2.2.2.2.2.2.2.2.2.2.2.2.2.2.2.2.2.2.2.2.2.2.2.2.2.2.2.2.2.2.2.2.2.2.2.2.1) (ah.mk v.2.2.2.2.2.2.2.2.2.2.2.2.2.2.2.2.2.2.2.2.2.2.2.2.2.2.2.2.2.2.2.2.2.2.2.2.2.2.2.2.2.2.2.2.1 v.2.2.2.2.2.2.2.2.2.2.2.2.2.2.2.2.2.2.2.2.2.2.2.2.2.2.2.2.2.2.2.2.2.2.2.2.2.2.2.2.2.2.2.2.2.1) v.2.2.2.2.2.2.2.2.2.2.2.2.2.2.2.2.2.2.2.2.2.2.2.2.2.2.2.2.2.2.2.2.2.2.2.2.2.2.2.2.2.2.2.2.2.2.1 v.2.2.2.2.2.2.2.2.2.2.2.2.2.2.2.2.2.2.2.2.2.2.2.2.2.2.2.2.2.2.2.2.2.2.2.2.2.2.2.2.2.2.2.2.2.2.2.1)))
 | .Src,v=>(dX.mk v.1 v.2.1)
 | .yv,v=>(aM.mk (ae.mk v.1 v.2.1 v.2.2.1 (aj.mk v.2.2.2.1 v.2.2.2.2.1 v.2.2.2.2.2.1) v.2.2.2.2.2.2.1 (ah.mk v.2.2.2.2.2.2.2.1 v.2.2.2.2.2.2.2.2.1) (ah.mk v.2.2.2.2.2.2.2.2.2.1 v.2.2.2.2.2.2.2.2.2.2.1) (ah.mk v.2.2.2.2.2.2.2.2.2.2.2.1 v.2.2.2.2.2.2.2.2.2.2.2.2.1) (ah.mk v.2.2.2.2.2.2.2.2.2.2.2.2.2.1 v.2.2.2.2.2.2.2.2.2.2.2.2.2.2.1) v.2.2.2.2.2.2.2.2.2.2.2.2.2.2.2.1 v.2.2.2.2.2.2.2.2.2.2.2.2.2.2.2.2.1 v.2.2.2.2.2.2.2.2.2.2.2.2.2.2.2.2.2.1 v.2.2.2.2.2.2.2.2.2.2.2.2.2.2.2.2.2.2.1))
 | .tB,v=>(bh.mk v.1 (aj.mk v.2.1 v.2.2.1 v.2.2.2.1))
 | .Config,v=>(bf.mk v.1)
 | .xo,v=>(bK.mk (ak.mk v.1 v.2.1 v.2.2.1 (aj.mk v.2.2.2.1 v.2.2.2.2.1 v.2.2.2.2.2.1) v.2.2.2.2.2.2.1 (ah.mk v.2.2.2.2.2.2.2.1 v.2.2.2.2.2.2.2.2.1) (ah.mk v.2.2.2.2.2.2.2.2.2.1 v.2.2.2.2.2.2.2.2.2.2.1) (ah.mk v.2.2.2.2.2.2.2.2.2.2.2.1 v.2.2.2.2.2.2.2.2.2.2.2.2.1) v.2.2.2.2.2.2.2.2.2.2.2.2.2.1 v.2.2.2.2.2.2.2.2.2.2.2.2.2.2.1))
 | .Seen,v=>(gN.mk v.1 (bf.mk v.2.1) v.2.2.1)
 | .Claim,v=>(mH.mk v.1 v.2.1)
 | .Message,v=>(cI.mk v.1 v.2.1 (aj.mk v.2.2.1 v.2.2.2.1 v.2.2.2.2.1) v.2.2.2.2.2.1 v.2.2.2.2.2.2.1)
 | .nc,v=>(IF.mk v.1 v.2.1 v.2.2.1 (ah.mk v.2.2.2.1 v.2.2.2.2.1) (ah.mk v.2.2.2.2.2.1 v.2.2.2.2.2.2.1) (ah.mk v.2.2.2.2.2.2.2.1 v.2.2.2.2.2.2.2.2.1) (ah.mk v.2.2.2.2.2.2.2.2.2.1 v.2.2.2.2.2.2.2.2.2.2.1))
 | .pK,v=>(sI.mk (ah.mk v.1 v.2.1) (ah.mk v.2.2.1 v.2.2.2.1))
 | .E0,v=>(eY.mk v.1 v.2.1)
mutual
def ep:aj->List PV
 |⟨a0,a1,a2⟩=>[.int .i64 a0,.sl (a1.map (λx=>[.int .i64 x])),.sl (z6 a2)]
def z6:List aj->List (List PV)
 |[]=>[]
 |x::l=>ep x::z6 l
end
def GD:∀(l:List aj),z6 l=l.map ep
 |[]=>by rw[z6];rfl
 |x::l=>by rw[z6,GD l];rfl
def Bu(v:az):List PV:=[.int .i64 v.al,.int .i64 v.aH,.int .i64 v.aa.aI,.sl (v.aa.bb.map (λx=>[.int .i64 x])),.sl (v.aa.aO.map ep),.sl (v.bm.map (λx=>[.str x])),.sl (v.aG.map (λx=>[.str x]))]
def Us(v:ar):List PV:=[.int .i64 v.al,.int .i64 v.aL,.int .i64 v.Round,.int .i64 v.aH,.int .i64 v.aa.aI,.sl (v.aa.bb.map (λx=>[.int .i64 x])),.sl (v.aa.aO.map ep),.str v.nc,.sl (v.bm.map (λx=>[.str x])),.sl (v.aG.map (λx=>[.str x])),.sl (v.aS.map (λx=>[.str x])),.sl (v.au.map Bu)]
def ZM(v:ah):List PV:=[.int .i64 v.ai,.str v.Value]
def z7(v:ak):List PV:=[.int .i64 v.al,.int .i64 v.aL,.int .i64 v.aH,.int .i64 v.aa.aI,.sl (v.aa.bb.map (λx=>[.int .i64 x])),.sl (v.aa.aO.map ep),.int .i64 v.bu,.int .i64 v.af.ai,.str v.af.Value,.int .i64 v.ao.ai,.str v.ao.Value,.int .i64 v.aD.ai,.str v.aD.Value,.int .i64 v.aZ,.int .i64 v.bq]
def XM(v:ae):List PV:=[.int .i64 v.al,.int .i64 v.aL,.int .i64 v.aH,.int .i64 v.aa.aI,.sl (v.aa.bb.map (λx=>[.int .i64 x])),.sl (v.aa.aO.map ep),.int .i64 v.aQ,.int .i64 v.af.ai,.str v.af.Value,.int .i64 v.ao.ai,.str v.ao.Value,.int .i64 v.aD.ai,.str v.aD.Value,.int .i64 v.ax.ai,.str v.ax.Value,.int .i64 v.aZ,.int .i64 v.bq,.str v.bj,.sl (v.au.map z7)]
def abl(v:dg):List PV:=[.int .i64 v.ai,.int .i64 v.FQ]
def Bt(v:aJ):List PV:=[.int .i64 v.aA.al,.int .i64 v.aA.aL,.int .i64 v.aA.Round,.int .i64 v.aA.aH,.int .i64 v.aA.aa.aI,.sl (v.aA.aa.bb.map (λx=>[.int .i64 x])),.sl (v.aA.aa.aO.map ep),.str v.aA.nc,.sl (v.aA.bm.map (λx=>[.str x])),.sl (v.aA.aG.map (λx=>[.str x])),.sl (v.aA.aS.map (λx=>[.str x])),.sl (v.aA.au.map Bu),.int .i64 v.ab.al,.int .i64 v.ab.aL,.int .i64 v.ab.aH,.int .i64 v.ab.aa.aI,.sl (v.ab.aa.bb.map (λx=>[.int .i64 x])),.sl (v.ab.aa.aO.map ep),.int .i64 v.ab.aQ,.int .i64 v.ab.af.ai,.str v.ab.af.Value,.int .i64 v.ab.ao.ai,.str v.ab.ao.Value,.int .i64 v.ab.aD.ai,.str v.ab.aD.Value,.int .i64 v.ab.ax.ai,.str v.ab.ax.Value,.int .i64 v.ab.aZ,.int .i64 v.ab.bq,.str v.ab.bj,.sl (v.ab.au.map z7),.int .i64 v.Timer.ai,.int .i64 v.Timer.FQ,.int .i64 v.Round,.int .i64 v.Next,.bool v.zr,.str v.Value]
def OP(v:aw):List PV:=[.int .i64 v.al,.bool v.bM,.int .i64 v.aa.aI,.sl (v.aa.bb.map (λx=>[.int .i64 x])),.sl (v.aa.aO.map ep),.sl (v.aC.map Bt)]
def ZJ(v:cr):List PV:=[.int .i64 v.bu,.int .i64 v.aL,.int .i64 v.aU.al,.int .i64 v.aU.aH,.int .i64 v.aU.aa.aI,.sl (v.aU.aa.bb.map (λx=>[.int .i64 x])),.sl (v.aU.aa.aO.map ep),.sl (v.aU.bm.map (λx=>[.str x])),.sl (v.aU.aG.map (λx=>[.str x])),.int .i64 v.ay.al,.int .i64 v.ay.aL,.int .i64 v.ay.aH,.int .i64 v.ay.aa.aI,.sl (v.ay.aa.bb.map (λx=>[.int .i64 x])),.sl (v.ay.aa.aO.map ep),.int .i64 v.ay.bu,.int .i64 v.ay.af.ai,.str v.ay.af.Value,.int .i64 v.ay.ao.ai,.str v.ay.ao.Value,.int .i64 v.ay.aD.ai,.str v.ay.aD.Value,.int .i64 v.ay.aZ,.int .i64 v.ay.bq]
def Jd(v:kZ):List PV:=[.int .i64 v.c0.al,.bool v.c0.bM,.int .i64 v.c0.aa.aI,.sl (v.c0.aa.bb.map (λx=>[.int .i64 x])),.sl (v.c0.aa.aO.map ep),.sl (v.c0.aC.map Bt),.int .i64 v.c1.al,.bool v.c1.bM,.int .i64 v.c1.aa.aI,.sl (v.c1.aa.bb.map (λx=>[.int .i64 x])),.sl (v.c1.aa.aO.map ep),.sl (v.c1.aC.map Bt),.int .i64 v.c2.al,.bool v.c2.bM,.int .i64 v.c2.aa.aI,.sl (v.c2.aa.bb.map (λx=>[.int .i64 x])),.sl (v.c2.aa.aO.map ep),.sl (v.c2.aC.map Bt),.int .i64 v.c3.al,.bool v.c3.bM,.int .i64 v.c3.aa.aI,.sl (v.c3.aa.bb.map (λx=>[.int .i64 x])),.sl (v.c3.aa.aO.map ep),.sl (v.c3.aC.map Bt)]
def XN(v:qw):List PV:=[.int .i64 v.c0,.int .i64 v.c1]
def OQ(v:qx):List PV:=[.int .i64 v.c0.c0,.int .i64 v.c0.c1,.int .i64 v.c1.c0,.int .i64 v.c1.c1]
def R2(v:sH):List PV:=[.int .i64 v.c0.bu,.int .i64 v.c0.aL,.int .i64 v.c0.aU.al,.int .i64 v.c0.aU.aH,.int .i64 v.c0.aU.aa.aI,.sl (v.c0.aU.aa.bb.map (λx=>[.int .i64 x])),.sl (v.c0.aU.aa.aO.map ep),.sl (v.c0.aU.bm.map (λx=>[.str x])),.sl (v.c0.aU.aG.map (λx=>[.str x])),.int .i64 v.c0.ay.al,.int .i64 v.c0.ay.aL,.int .i64 v.c0.ay.aH,.int .i64 v.c0.ay.aa.aI,.sl (v.c0.ay.aa.bb.map (λx=>[.int .i64 x])),.sl (v.c0.ay.aa.aO.map ep),.int .i64 v.c0.ay.bu,.int .i64 v.c0.ay.af.ai,.str v.c0.ay.af.Value,.int .i64 v.c0.ay.ao.ai,.str v.c0.ay.ao.Value,.int .i64 v.c0.ay.aD.ai,.str v.c0.ay.aD.Value,.int .i64 v.c0.ay.aZ,.int .i64 v.c0.ay.bq,.int .i64 v.c1.bu,.int .i64 v.c1.aL,.int .i64 v.c1.aU.al,.int .i64 v.c1.aU.aH,.int .i64 v.c1.aU.aa.aI,.sl (v.c1.aU.aa.bb.map (λx=>[.int .i64 x])),.sl (v.c1.aU.aa.aO.map ep),.sl (v.c1.aU.bm.map (λx=>[.str x])),.sl (v.c1.aU.aG.map (λx=>[.str x])),.int .i64 v.c1.ay.al,.int .i64 v.c1.ay.aL,.int .i64 v.c1.ay.aH,.int .i64 v.c1.ay.aa.aI,.sl (v.c1.ay.aa.bb.map (λx=>[.int .i64 x])),.sl (v.c1.ay.aa.aO.map ep),.int .i64 v.c1.ay.bu,.int .i64 v.c1.ay.af.ai,.str v.c1.ay.af.Value,.int .i64 v.c1.ay.ao.ai,.str v.c1.ay.ao.Value,.int .i64 v.c1.ay.aD.ai,.str v.c1.ay.aD.Value,.int .i64 v.c1.ay.aZ,.int .i64 v.c1.ay.bq]
def afL(v:dX):List PV:=[.sl (v.L.map (λx=>[.int .i64 x])),.int .i64 v.At]
def ZK(v:aM):List PV:=[.int .i64 v.ab.al,.int .i64 v.ab.aL,.int .i64 v.ab.aH,.int .i64 v.ab.aa.aI,.sl (v.ab.aa.bb.map (λx=>[.int .i64 x])),.sl (v.ab.aa.aO.map ep),.int .i64 v.ab.aQ,.int .i64 v.ab.af.ai,.str v.ab.af.Value,.int .i64 v.ab.ao.ai,.str v.ab.ao.Value,.int .i64 v.ab.aD.ai,.str v.ab.aD.Value,.int .i64 v.ab.ax.ai,.str v.ab.ax.Value,.int .i64 v.ab.aZ,.int .i64 v.ab.bq,.str v.ab.bj,.sl (v.ab.au.map z7)]
def HK(v:bh):List PV:=[.bool v.ft,.int .i64 v.aa.aI,.sl (v.aa.bb.map (λx=>[.int .i64 x])),.sl (v.aa.aO.map ep)]
def ZL(v:bf):List PV:=[.sl (v.bn.map HK)]
def Tv(v:bK):List PV:=[.int .i64 v.ay.al,.int .i64 v.ay.aL,.int .i64 v.ay.aH,.int .i64 v.ay.aa.aI,.sl (v.ay.aa.bb.map (λx=>[.int .i64 x])),.sl (v.ay.aa.aO.map ep),.int .i64 v.ay.bu,.int .i64 v.ay.af.ai,.str v.ay.af.Value,.int .i64 v.ay.ao.ai,.str v.ay.ao.Value,.int .i64 v.ay.aD.ai,.str v.ay.aD.Value,.int .i64 v.ay.aZ,.int .i64 v.ay.bq]
def adl(v:gN):List PV:=[.int .i64 v.al,.sl (v.View.bn.map HK),.sl (v.au.map Tv)]
def JN(v:mH):List PV:=[.int .i64 v.uy,.int .i64 v.Value]
def XL(v:cI):List PV:=[.int .i64 v.al,.int .i64 v.aH,.int .i64 v.aa.aI,.sl (v.aa.bb.map (λx=>[.int .i64 x])),.sl (v.aa.aO.map ep),.sl (v.bm.map JN),.sl (v.aG.map JN)]
def afM(v:IF):List PV:=[.int .i64 v.ba,.int .i64 v.low,.int .i64 v.cn,.int .i64 v.aT.ai,.str v.aT.Value,.int .i64 v.eV.ai,.str v.eV.Value,.int .i64 v.bY.ai,.str v.bY.Value,.int .i64 v.eu.ai,.str v.eu.Value]
def R3(v:sI):List PV:=[.int .i64 v.c0.ai,.str v.c0.Value,.int .i64 v.c1.ai,.str v.c1.Value]
def adm(v:eY):List PV:=[.int .i64 v.Um,.int .i64 v.Un]
def og.pv:(n:og)->n.den->List PV
 | .aa,v=>ep v
 | .aU,v=>Bu v
 | .aA,v=>Us v
 | .af,v=>ZM v
 | .ay,v=>z7 v
 | .ab,v=>XM v
 | .Timer,v=>abl v
 | .aL,v=>Bt v
 | .kH,v=>OP v
 | .tC,v=>ZJ v
 | .ja,v=>Jd v
 | .tW,v=>XN v
 | .ny,v=>OQ v
 | .pJ,v=>R2 v
 | .Src,v=>afL v
 | .yv,v=>ZK v
 | .tB,v=>HK v
 | .Config,v=>ZL v
 | .xo,v=>Tv v
 | .Seen,v=>adl v
 | .Claim,v=>JN v
 | .Message,v=>XL v
 | .nc,v=>afM v
 | .pK,v=>R3 v
 | .E0,v=>adm v
def Ty.isAgg:Ty->Bool
 | .st _=>true
 |_=>false
def aeA(t:Ty)(cs:List PV):PV:=match t.isAgg with|true=> .agg cs|false=>cs.headD .any
def Ty.pv:(t:Ty)->t.den->List PV
 | .i k,n=>[.int k n]
 | .bool,b=>[.bool b]
 | .str,s=>[.str s]
 | .sl t,(xs:List t.den)=>[.sl (xs.map (Ty.pv t))]
 | .mp a b,(xs:List (a.den×b.den))=>[.jQ (xs.map λp=>aeA a (Ty.pv a p.1)) (xs.map λp=>aeA b (Ty.pv b p.2))]
 | .st n,v=>n.pv v
def Ag:(ls:List Ty)->EZ ls->List PV
 |[],_=>[]
 |t::l,v=>t.pv v.1++Ag l v.2
def og.OO:∀(n:og) (v:n.den),n.pv v=Ag n.leaves (n.toL v)
 | .aa,v=>by cases v;simp only[og.pv,ep,GD];rfl
 | .aU,v| .aA,v| .af,v| .ay,v| .ab,v| .Timer,v| .aL,v| .kH,v| .tC,v| .ja,v| .tW,v| .ny,v| .pJ,v| .Src,v| .yv,v| .tB,v| .Config,v| .xo,v| .Seen,v| .Claim,v| .Message,v| .nc,v| .pK,v| .E0,v=>rfl
def Ty.leaf:Ty->Bool
 | .st _=>false
 |_=>true
def og.Lu:∀(n:og),n.leaves.all Ty.leaf=true
 | .aa| .aU| .aA| .af| .ay| .ab| .Timer| .aL| .kH| .tC| .ja| .tW| .ny| .pJ| .Src| .yv| .tB| .Config| .xo| .Seen| .Claim| .Message| .nc| .pK| .E0=>rfl
def og.ai6:∀(n:og) (v:EZ n.leaves),n.toL (n.ofL v)=v
 | .aa,v| .aU,v| .aA,v| .af,v| .ay,v| .ab,v| .Timer,v| .aL,v| .kH,v| .tC,v| .ja,v| .tW,v| .ny,v| .pJ,v| .Src,v| .yv,v| .tB,v| .Config,v| .xo,v| .Seen,v| .Claim,v| .Message,v| .nc,v| .pK,v| .E0,v=>rfl
def Ty.ZZ:Ty->Bool
 | .sl _| .mp _ _=>false
 |_=>true
@[reducible] def U:TU where
 Ty:=Ty
 Y0:=Ty.Y0
 den:=Ty.den
 pv:=Ty.pv
 size:=λt=>match t with| .st n=>n.leaves.length|_=>1
 agg:=Ty.isAgg
 plain:=λt=>match t with| .st n=>n.leaves.all Ty.ZZ|t=>t.ZZ
def HY:(t:Ty)->t.den->KV U
 | .i k,n=> .int k n
 | .bool,b=> .bool b
 | .str,s=> .str s
 | .sl t,(xs:List t.den)=> .sl t xs
 | .mp a b,(xs:List (a.den×b.den))=> .jQ a b xs
 | .st _,_=> .any
def Lt:(ls:List Ty)->EZ ls->List (KV U)
 |[],_=>[]
 |t::l,v=>HY t v.1::Lt l v.2
def aix:(t:Ty)->t.den->List (KV U)
 | .st n,v=>Lt n.leaves (n.toL v)
 | .i k,v=>[HY (.i k) v]
 | .bool,v=>[HY .bool v]
 | .str,v=>[HY .str v]
 | .sl t,v=>[HY (.sl t) v]
 | .mp a b,v=>[HY (.mp a b) v]
def BN(lk:Lk U):(t:Ty)->KV U->Option t.den
 | .i k,x=>adZ k x
 | .bool,x=>KE x
 | .str,x=>adX x
 | .sl t,x=>WO (U:=U) lk t x
 | .mp a b,x=>adY (U:=U) a b x
 | .st _,_=>none
def CJ(lk:Lk U):(ls:List Ty)->List (KV U)->Option (EZ ls)
 |[],cs=>match cs with|[]=>some ()|_=>none
 |t::l,cs=>match cs with
  |c::cs=>(match BN lk t c with
   |some v=>(match CJ lk l cs with|some vs=>some (v,vs)|none=>none)
   |none=>none)
  |[]=>none
def N3{α:Type}(f:KV U->Option α):List (KV U)->Option α
 |[x]=>f x
 |_=>none
def akH:(t:Ty)->Lk U->List (KV U)->Option t.den
 | .st n,lk,cs=>(match CJ lk n.leaves cs with|some v=>some (n.ofL v)|none=>none)
 | .i k,lk,cs=>N3 (BN lk (.i k)) cs
 | .bool,lk,cs=>N3 (BN lk .bool) cs
 | .str,lk,cs=>N3 (BN lk .str) cs
 | .sl t,lk,cs=>N3 (BN lk (.sl t)) cs
 | .mp a b,lk,cs=>N3 (BN lk (.mp a b)) cs
def adJ:∀(t:Ty) (v:t.den),t.leaf=true->[(HY t v).pv]=t.pv v
 | .i k,v,_| .bool,v,_| .str,v,_| .sl t,v,_| .mp a b,v,_=>rfl
 | .st _,_,h=>by cases h
def Pk:∀(ls:List Ty) (v:EZ ls),ls.all Ty.leaf=true->(Lt ls v).map KV.pv=Ag ls v
 |[],_,_=>rfl
 |t::l,v,h=>by rw[Qq70,Qm]at h;rw[Lt,Ag,QD,Pk l v.2 h.2,<-adJ t v.1 h.1];rfl
def Rg{lk:Lk U}:∀{t:Ty} {x:KV U} {v:t.den},BN lk t x=some v->iI lk [x] (t.pv v)
 | .i k,x,v,h=> .cons (agL h) .nil
 | .bool,x,v,h=> .cons (agN h) .nil
 | .str,x,v,h=> .cons (agI h) .nil
 | .sl t,x,v,h=> .cons (agK (U:=U) h) .nil
 | .mp a b,x,v,h=> .cons (agJ (U:=U) h) .nil
 | .st _,_,_,h=>by cases h
def iI.cz{lk:Lk U}{x:KV U}{ys:List PV}{xs:List (KV U)}{zs:List PV}(h:iI lk [x] ys)(k:iI lk xs zs):iI lk (x::xs) (ys++zs):=by
 cases h with
 |cons h1 h2=>cases h2 with|nil=>exact .cons h1 k
def KD{lk:Lk U}:∀{ls:List Ty} {cs:List (KV U)} {v:EZ ls},CJ lk ls cs=some v->iI lk cs (Ag ls v)
 |[],[],_,_=> .nil
 |[],_::_,_,h=>by cases h
 |_::_,[],_,h=>by cases h
 |t::l,c::cs,v,h=>by
  rw[CJ]at h;split at h
  ·rename_i v1 h1;split at h
   ·rename_i vs h2;injection h with h
    subst h;exact(Rg h1).cz (KD h2)
   ·cases h
  ·cases h
def agO{α:Type}{f:KV U->Option α}{cs:List (KV U)}{v:α}(h:N3 f cs=some v):∃x,cs=[x]/\f x=some v:=by
 unfold N3 at h;split at h
 ·exact⟨_,rfl,h⟩
 ·cases h
def abk:∀(ls:List Ty) (v:EZ ls),ls.all Ty.leaf=true->(Ag ls v).length=ls.length
 |[],_,_=>rfl
 |t::l,v,h=>by
  rw[Qq70,Qm]at h
  have:(t.pv v.1).length=1:=by
   cases t with
   |st n=>cases h.1
   |_=>rfl
  rw[Ag,QB,abk l v.2 h.2,this,QE,Nat.add_comm]
def rK:∀(t:Ty) (v:t.den),t.leaf=true->∀y∈t.pv v,y.ib=true/\(t.ZZ=true->y.plain=true)
 | .i k,v,_,y,h| .bool,v,_,y,h| .str,v,_,y,h=>by simp only[Ty.pv,Q5]at h;subst h;exact⟨rfl,λ_=>rfl⟩
 | .sl t,v,_,y,h| .mp a b,v,_,y,h=>by simp only[Ty.pv,Q5]at h;subst h;exact⟨rfl,λh=>by cases h⟩
 | .st _,_,h,_,_=>by cases h
def F2:∀(ls:List Ty) (v:EZ ls),ls.all Ty.leaf=true->∀y∈Ag ls v,y.ib=true/\(ls.all Ty.ZZ=true->y.plain=true)
 |[],_,_,y,h=>by cases h
 |t::l,v,h,y,hy=>by
  rw[Qq70,Qm]at h;rw[Ag,Qz]at hy;rcases hy with hy|hy
  ·obtain⟨h1,h2⟩:=rK t v.1 h.1 y hy;exact⟨h1,λhp=>by rw[Qq70,Qm]at hp;exact h2 hp.1⟩
  ·obtain⟨h1,h2⟩:=F2 l v.2 h.2 y hy;exact⟨h1,λhp=>by rw[Qq70,Qm]at hp;exact h2 hp.2⟩
def VW:og->Option (IntKind×IntKind)
 | .Timer| .tW| .Claim| .E0=>some (.i64,.i64)
 |_=>none
def R8:∀(n:og) (k l:IntKind),VW n=some (k,l)->∀v,∃a b,aix (.st n) v=[.int k a,.int l b]
 | .Timer,_,_,h| .tW,_,_,h| .Claim,_,_,h| .E0,_,_,h=>by injection h with h;injection h with h1 h2;subst h1 h2;exact λv=>⟨_,_,rfl⟩
 | .aa,_,_,h| .aU,_,_,h| .aA,_,_,h| .af,_,_,h| .ay,_,_,h| .ab,_,_,h| .aL,_,_,h| .kH,_,_,h| .tC,_,_,h| .ja,_,_,h| .ny,_,_,h| .pJ,_,_,h| .Src,_,_,h| .yv,_,_,h| .tB,_,_,h| .Config,_,_,h| .xo,_,_,h| .Seen,_,_,h| .Message,_,_,h| .nc,_,_,h| .pK,_,_,h=>by cases h
def ai5:List (Nat×Ty):=[(3,(Ty.i .i64)),(4,Ty.bool),(9,Ty.str),(27,(Ty.st .aa)),(30,(Ty.st .kH)),(34,(Ty.st .aU)),(36,(Ty.st .af)),(38,(Ty.st .ay)),(40,(Ty.st .tC)),(56,(Ty.st .aL)),(77,(Ty.st .tW)),(218,(Ty.st .xo)),(250,(Ty.st .Message)),(255,(Ty.st .tB)),(320,(Ty.st .Claim))]
def aa2(n:Nat):List (Nat×Ty)->Option Ty
 |[]=>none
 |(k,t)::l=>(match Nat.beq k n with|true=>some t|false=>aa2 n l)
@[reducible] def K:TK U where
 gn:=aix
 dec:=akH
 U9:=λn=>aa2 n ai5
 uO:=λt v=>by
  cases t with
  |st n=>exact(Pk _ _ n.Lu).trans (n.OO v).symm
  |_=>rfl
 oZ:=λt lk cs v h=>by
  cases t with
  |st n=>
   change (match CJ lk n.leaves cs with|some v=>some (n.ofL v)|none=>none)=some v at h
   split at h
   ·rename_i u hu;injection h with h
    subst h;have:=KD hu
    change iI lk cs (n.pv (n.ofL u))
    rw[n.OO,n.ai6];exact this
   ·cases h
  |i k|bool|str|sl t|mp a b=>obtain⟨x,rfl,hx⟩:=agO h;exact Rg hx
 len:=λt v=>by
  cases t with
  |st n=>exact(congrArg List.length (n.OO v)).trans (abk _ _ n.Lu)
  |_=>rfl
 ib:=λt v y hy=>by
  cases t with
  |st n=>exact(F2 _ (n.toL v) n.Lu y (Eq.mp (congrArg (y∈·) (n.OO v)) hy)).1
  |i k=>exact(rK (.i k) v rfl y hy).1
  |bool=>exact(rK .bool v rfl y hy).1
  |str=>exact(rK .str v rfl y hy).1
  |sl t=>exact(rK (.sl t) v rfl y hy).1
  |mp a b=>exact(rK (.mp a b) v rfl y hy).1
 one:=λt h=>by
  cases t with
  |st n=>cases h
  |_=>rfl
 plain:=λt h v y hy=>by
  cases t with
  |st n=>exact(F2 _ (n.toL v) n.Lu y (Eq.mp (congrArg (y∈·) (n.OO v)) hy)).2 h
  |i k=>exact(rK (.i k) v rfl y hy).2 rfl
  |bool=>exact(rK .bool v rfl y hy).2 rfl
  |str=>exact(rK .str v rfl y hy).2 rfl
  |sl t|mp a b=>cases h
 VW:=λt=>match t with| .st n=>VW n|_=>none
 R8:=λt k l h=>by
  cases t with
  |st n=>exact⟨rfl,R8 n k l h⟩
  |_=>cases h
end
section
open Go.RowKit
def X8{w:World}{a:Addr}{v:Value}(h:w.cell? a=some v):∃t n,w.shape? a.block=some (t,n+1):=by
 unfold World.cell? at h;unfold World.shape?;split at h
 ·rename_i c t fr hc;split at h
  ·cases h
  ·have hlt:=(Q9.1 h).1;exact⟨t,c.size - 1,by simp only[Qf,Prod.mk.injEq,true_and];omega⟩
 ·cases h
def Ng{P:Program}(w:World)(tS tR e:TypeId)(ht:P.underlying tS=some (.slice e))(size:Nat)(hz:∀w,(Go.sizeOf e).run P w= .ok size w)
  (a b:Addr) (la ca lb cb:Nat) (hne:a.block≠b.block) {v:Value} (ha:w.cell? a=some v) {cur:Array Value} {t:TypeId} (hb:w.heap[b.block]?=some (.cells cur t (0,0))) (h0:cur.size≠0):
  (Extern.SlicesOverlaps.overlaps #[tS,tS] #[tR] #[.slice (some a) la ca,.slice (some b) lb cb]).run P w= .ok (.bool false) w:=by
 obtain⟨tA,kA,hsa⟩:=X8 ha;have hsb:w.shape? b.block=some (t,cur.size):=by simp[World.shape?,hb]
 have hfb:w.frozen? b=false:=by simp[World.frozen?,hb]
 have hfe:w.frozen? {block:=b.block,off:=cur.size}=false:=by simp[World.frozen?,hb]
 have hnb:(a.block !=b.block)=true:=by simpa using hne
 have hnb':(a.block==b.block)=false:=by simpa using hne
 obtain⟨kB,hkB⟩:∃kB,cur.size=kB+1:=⟨cur.size - 1,by omega⟩
 rw[hkB]at hsb hfe
 change Sem.run P (α:=Value) (do
  let some t:=(#[tS,tS]:Array TypeId)[0]?|stuck "slices.overlaps: no parameter types"
  let .slice elem <-underlying t|stuck "slices.overlaps: slice type expected"
  let size <-sizeOf elem
  match(some a:Option Addr),(some b:Option Addr)with
  |some a,some b=>
   if la=0\/lb=0\/size=0 then pure (Value.bool false)
   else if a.block !=b.block&&(<-frozen a)&&(<-frozen b)then unsupported .addressObserved
   else do
    if a.block !=b.block then do
     noView a;noView b
     if<-mayBeOne a b then return Value.bool ((<-choose (.extern "sameAddr.stringBytes" 2))==1)
    pure (Value.bool (a.block==b.block&&a.off<b.off+lb*size&&b.off<a.off+la*size))
  |_,_=>pure (Value.bool false)) w=_
 by_cases h0:la=0\/lb=0\/size=0
 ·simp[run_underlying ht,hz,h0]
 ·cases hfa:w.frozen? a<;>cases hfk:w.frozen? {block:=a.block,off:=kA+1}<;>
   simp[run_underlying ht,hz,h0,hnb,hnb',frozen,noView,viewAt,mayBeOne,stringish,shape,Sem.run,hsa,hsb,hfa,hfk,hfb,hfe]
def acG(a:Addr):a.add 0=a:=by
 cases a with
 |mk b o s=>unfold Addr.add;split<;>simp_all
def IE(a:Addr)(n:Nat):(a.add n).block=a.block:=by unfold Addr.add;split<;>rfl
def tc{α:Type}(l:List α)(o:Nat)(c:List α):List α:=l.take o++c++l.drop (o+c.length)
def HL{α:Type}{l:List α}{o:Nat}{c:List α}(h:o+c.length<=l.length):(tc l o c).length=l.length:=by simp[tc];omega
def ZP{α:Type}{l us ys:List α}{a:Nat}(h:a+us.length+ys.length<=l.length):tc (tc l a us) (a+us.length) ys=l.take a++us++ys++l.drop (a+us.length+ys.length):=by
 have h1:(l.take a++us).length=a+us.length:=by simp;omega
 have h2:(tc l a us).take (a+us.length)=l.take a++us:=by rw[tc,List.take_append_of_le_length (by omega),List.take_of_length_le (by omega)]
 have h3:(tc l a us).drop (a+us.length+ys.length)=l.drop (a+us.length+ys.length):=by rw[tc,<-List.drop_drop,<-h1,List.drop_left,List.drop_drop,h1]
 rw[tc,h2,h3]
def XO{α:Type}{l us ys:List α}{a:Nat}(h:a+us.length+ys.length<=l.length):tc (tc l (a+us.length) ys) a us=l.take a++us++ys++l.drop (a+us.length+ys.length):=by
 have h1:(l.take (a+us.length)).length=a+us.length:=by simp;omega
 have h2:(tc l (a+us.length) ys).take a=l.take a:=by rw[tc,QL,List.take_append_of_le_length (by omega),List.take_take,Nat.min_eq_left (by omega)]
 have h3:(tc l (a+us.length) ys).drop (a+us.length)=ys++l.drop (a+us.length+ys.length):=by
  conv=>lhs;rw[tc,QL]
  exact List.drop_left' h1
 rw[tc,h2,h3,QL,QL,QL]
def yb(w:World)(g:Nat)(cs:Array Value){b:Nat}(h:b≠g):(w.setRow g cs).heap[b]?=w.heap[b]?:=by simp only[World.setRow,Array.getElem?_modify];rw[Qs (λe=>h e.symm)]
def Tn(w:World)(g:Nat)(cs:Array Value):Fr (some g) w (w.setRow g cs):=⟨rfl,rfl,rfl,by simp[World.setRow],λb _ hb=>yb w g cs (λe=>hb (by rw[e])),DL.refl _⟩
def Fr.ajI(w:World)(rb:Option Nat):Fr rb w w.drew:=⟨rfl,rfl,rfl,QI _,λ_ _ _=>rfl,DL.of (Nat.le_succ _)⟩
def Fr.trans'{rb:Option Nat}{a b c:World}(h:Fr rb a b)(k:Fr rb b c):Fr rb a c:=⟨k.os.trans h.os,k.tape.trans h.tape,k.output.trans h.output,QK h.size k.size,λi hi hne=>(k.block i (QJ hi h.size) hne).trans (h.block i hi hne),h.drawn.trans k.drawn⟩
def Na{w w':World}{v u:Value}{X:Nat->Prop}(hf:Fr (cd v) w w')(hu:∀b,cd u=some b->cd v=some b\/w.heap.size<=b):cZ w w' (Mv v X) (Mv u X):=by
 have key:∀b,b<w.heap.size->¬Mv v X b->w'.heap[b]?=w.heap[b]?/\¬Mv u X b:=λb hlt hM=>⟨hf.block b hlt λh=>hM (.inl h),by
  rintro(h|h)
  ·rcases hu _ h with h|h
   ·exact hM (.inl h)
   ·omega
  ·exact hM (.inr h)⟩
 refine⟨λa x hc hM=> ?_,λb es ck hb hM=> ?_⟩
 ·have hlt:a.block<w.heap.size:=by
   by_cases h:a.block<w.heap.size
   ·exact h
   ·have:w.heap[a.block]?=none:=by rw[Array.getElem?_eq_none_iff];omega
    simp[World.cell?,this]at hc
  obtain⟨h1,h2⟩:=key _ hlt hM;exact⟨(World.cell?_of_block h1).trans hc,h2⟩
 ·obtain⟨h1,h2⟩:=key b (Q9.1 hb).1 hM;exact⟨h1.trans hb,h2⟩
def Vk{w:World}{M:Nat->Prop}{es:List (List PV)}{xs:List Value}(h:bo w M ed es.flatten xs)(h1:∀u∈es,u.all PV.one=true):∀x∈xs,x.oneCell'=true:=by
 intro x hx;obtain⟨q,hq,rfl⟩:=List.mem_iff_getElem.1 hx;have hl:q<es.flatten.length:=by rw[<-h.1];exact hq
 obtain⟨el,hel,hmem⟩:=List.mem_flatten.1 (Q0 hl);exact((h.2 q _ _ (Qv hl) (Qv hq)).one (QH.1 (h1 el hel) _ hmem)).1
structure InsA (n c i m:Nat):Prop where
 z1:¬((m:Int)=0)
 z2:¬((i:Int)=(n:Int))
 w1:IntKind.i64.wrap ((i:Int)+(m:Int))=(i:Int)+(m:Int)
 b1:(0:Int)<=(i:Int)+(m:Int)
 tn:((i:Int)+(m:Int)).toNat=i+m
 b3:(i:Int)<=(n:Int)+(m:Int)
 b4:¬(c=i)
 b5:(i:Int)<=(n:Int)
def InsA.of{n c i m:Nat}(hi:i<n)(hc:n<=c)(hc63:c<=9223372036854775807)(hm:0<m)(h:n+m<=9223372036854775807):InsA n c i m:=
 ⟨by omega,by omega,by rw[IntKind.wrap_i64];omega,by omega,by omega,by omega,by omega,by omega⟩
structure Ta (P:Program) (f S E I B ov k bytes:Nat):Prop where
 akD:0<k
 hS:P.underlying S=some (.slice E)
 hI:P.underlying I=some (.int .i64)
 akE:∃(i:TypeInfo) (z:Value),P.info? E=some i/\i.zero=some z/\z.cells.size=k/\i.size=k/\i.bytes=bytes
 HO:∀(x:Array Value) (w:World),(Extern.SlicesOverlaps.overlaps #[S,S] #[B] x).run P w= .ok (.bool false) w->(callFunc ov x).run P w= .ok (.value (.bool false)) w
 abG:∀(g n c i:Nat),i<=n->n<=c->c<=9223372036854775807->∀(u:Option Addr) (vc:Nat) (w:World),
  Calls P f #[.slice (some ⟨g,0,none⟩) n c,.int .i64 i,.slice u 0 vc] w λe w'=>e= .returned (.slice (some ⟨g,0,none⟩) n c)/\w'=w
 adB:∀(u:Option Addr) (vc:Nat) (w:World),Calls P f #[.slice none 0 0,.int .i64 0,.slice u 0 vc] w λe w'=>e= .returned (.slice none 0 0)/\w'=w
 aiD:∀(g n c:Nat),n<=c->c<=9223372036854775807->∀(ad:Addr) (m vc:Nat),0<m->∀(w w1:World) (v1:Value),
  (∀ty,(Builtin.append_ #[S,S] ty #[.slice (some ⟨g,0,none⟩) n c,.slice (some ad) m vc]).run P w= .ok v1 w1)->
  Calls P f #[.slice (some ⟨g,0,none⟩) n c,.int .i64 n,.slice (some ad) m vc] w λe w'=>e= .returned v1/\w'=w1
 aaD:∀(ad:Addr) (m vc:Nat),0<m->∀(w w1:World) (v1:Value),
  (∀ty,(Builtin.append_ #[S,S] ty #[.slice none 0 0,.slice (some ad) m vc]).run P w= .ok v1 w1)->
  Calls P f #[.slice none 0 0,.int .i64 0,.slice (some ad) m vc] w λe w'=>e= .returned v1/\w'=w1
 shift:∀(g n c i:Nat),i<n->c<=9223372036854775807->∀(ad:Addr) (m vc:Nat),0<m->n+m<=c->InsA n c i m->¬(c=i+m)->∀(w w1 w2:World),
  (∀lb cb,(callFunc ov #[.slice (some ad) m vc,.slice (some ⟨g,(i+m)*k,none⟩) lb cb]).run P w= .ok (.value (.bool false)) w)->
  (∀ty dc sc,(Builtin.copy_ #[S,S] ty #[.slice (some ⟨g,(i+m)*k,none⟩) (n+m - (i+m)) dc,.slice (some ⟨g,i*k,none⟩) (n+m - i) sc]).run P w.drew= .ok (goInt (n - i:Nat)) w1)->
  (∀ty dc,(Builtin.copy_ #[S,S] ty #[.slice (some ⟨g,i*k,none⟩) (n+m - i) dc,.slice (some ad) m vc]).run P w1= .ok (goInt m) w2)->
  Calls P f #[.slice (some ⟨g,0,none⟩) n c,.int .i64 i,.slice (some ad) m vc] w λe w'=>e= .returned (.slice (some ⟨g,0,none⟩) (n+m) c)/\w'=w2
 grow:∀(g n c i:Nat),i<n->n<=c->c<=9223372036854775807->∀(ad:Addr) (m vc:Nat),0<m->c<n+m->∀(N G:Nat),n+m<=G->G<=9223372036854775807->InsA n c i m->(c:Int)<(n:Int)+(m:Int)->¬(G=i)->¬(G=i+m)->∀(w w1 w2 w3:World),
  (∀ty,(Builtin.append_ #[S,I] ty #[.slice (some ⟨g,0,none⟩) i c,.int .i64 ((n:Int)+(m:Int) - (i:Int))]).run P w= .ok (.slice (some ⟨N,0,none⟩) (n+m) G) w1)->
  (∀ty dc,(Builtin.copy_ #[S,S] ty #[.slice (some ⟨N,i*k,none⟩) (n+m - i) dc,.slice (some ad) m vc]).run P w1= .ok (goInt m) w2)->
  (∀ty dc sc,(Builtin.copy_ #[S,S] ty #[.slice (some ⟨N,(i+m)*k,none⟩) (n+m - (i+m)) dc,.slice (some ⟨g,i*k,none⟩) (n - i) sc]).run P w2.drew= .ok (goInt (n - i:Nat)) w3)->
  Calls P f #[.slice (some ⟨g,0,none⟩) n c,.int .i64 i,.slice (some ad) m vc] w λe w'=>e= .returned (.slice (some ⟨N,0,none⟩) (n+m) G)/\w'=w3
def Lv{P:Program}{E k bytes:Nat}(h:(P.info? E).map (λi=>(i.zero.map (·.cells.size),i.size,i.bytes))=some (some k,k,bytes)):∃(i:TypeInfo) (z:Value),P.info? E=some i/\i.zero=some z/\z.cells.size=k/\i.size=k/\i.bytes=bytes:=by
 rw[Qb]at h;obtain⟨i,h1,h2⟩:=h;injection h2 with h2 h3
 injection h3 with h3 h4
 rw[Qb]at h2;obtain⟨z,h5,h6⟩:=h2;exact⟨i,z,h1,h5,h6,h3,h4⟩
def agl{P:Program}{f S E I B ov k bytes:Nat}(H:Ta P f S E I B ov k bytes){es vs:List (List PV)}{i:Nat}(hi:i<=es.length)(h1e:∀u∈es,u.all PV.one=true)(hvs:∀u∈vs,u.length=k/\u.all PV.one=true)
  (hmax:es.length+vs.length<=maxLen) (hby:(es.length+vs.length)*bytes<=140737488355328):Od P f E k es [.int .i64 i,.sl vs] (es.take i++vs++es.drop i):=by
 have hk0:=H.akD;intro w X hX v args hvX ⟨xs,hown,hke,hr⟩ hargs;obtain⟨a1,args,rfl,ha1,hargs⟩:=hargs.cons_inv;obtain⟨a2,args,rfl,ha2,hargs⟩:=hargs.cons_inv;obtain rfl:=hargs.te;obtain rfl:=ha1.jE;obtain⟨inf,z,hi1,hi2,hi3,hi4,hi5⟩:=H.akE;have hsz:(P.info? E).map (·.size)=some k:=by rw[hi1];simp[hi4]
 have hmem:∀u∈es.take i++vs++es.drop i,u.length=k:=by
  intro u hu;rw[Qz,Qz]at hu;rcases hu with(hu|hu)|hu
  ·exact hke u (Q1 hu)
  ·exact(hvs u hu).1
  ·exact hke u (Q2 hu)
 have same:vs=[]->es.take i++vs++es.drop i=es:=λh=>by rw[h];simp
 by_cases hm0:vs=[]
 ·rw[same hm0]
  have hz:∃u vc,a2= .slice u 0 vc:=by
   subst hm0;rcases ha2.GA with⟨h,_⟩|⟨ad,c,_,_,h,_⟩
   ·exact⟨_,_,h⟩
   ·exact⟨_,_,h⟩
  obtain⟨u,vc,rfl⟩:=hz
  have post:∀(e:Ending) (w':World),e= .returned v/\w'=w->∃u,e= .returned u/\AH w' (Mv u X) E k u es/\(∀b,cd u=some b->cd v=some b\/w.heap.size<=b)/\Fr (cd v) w w':=by rintro e w' ⟨rfl,rfl⟩;exact⟨v,rfl,⟨xs,hown,hke,hr⟩,λb hb=> .inl hb,Fr.refl _ _⟩
  rcases hown.2 with⟨rfl,h0⟩|⟨g,cap,cur,rfl,_,hg,hnc,hcm,hcs,htk⟩
  ·obtain rfl:i=0:=by omega
   exact(H.adB u vc w).mono λe w' h=>post e w' h
  ·exact(H.abG g es.length cap i hi hnc (by simp only[maxLen]at hcm;omega) u vc w).mono λe w' h=>post e w' h
 ·
  have hm:0<vs.length:=List.length_pos_iff.2 hm0;rcases ha2.GA with⟨_,h⟩|⟨ad,vc,k',us,rfl,hk',hru,hcu,_,_⟩
  ·exact absurd h hm0
  have hul:us.length=vs.length*k:=by rw[hru.1,nk vs k λu hu=>(hvs u hu).1]
  have hone:=Vk hru λu hu=>(hvs u hu).2
  have hpos:0<us.length:=by rw[hul];exact Nat.mul_pos hm hk0
  obtain⟨c0,hc0⟩:∃c0,us[0]?=some c0:=⟨_,Qv hpos⟩;obtain⟨had,hadM⟩:=hcu 0 c0 hc0;have had:w.cell? ad=some c0:=by rw[acG]at had;exact had
  have hcell:∀(j:Nat) (u:Value),us[j]?=some u->w.cell? (ad.add j)=some u:=λj u hj=>(hcu j u hj).1
  have hadlt:ad.block<w.heap.size:=by
   by_cases h:ad.block<w.heap.size
   ·exact h
   ·have:w.heap[ad.block]?=none:=by rw[Array.getElem?_eq_none_iff];omega
    simp[World.cell?,this]at had
  have fin:∀(v1:Value) (w1:World),w1.ownsRow 0 E k v1 (es.length+vs.length) (xs++us)->w.grownBy w1 v.ownBlock->(v1.ownBlock=v.ownBlock\/v1.ownBlock=some w.heap.size)->(∃a n c,v= .slice a n c)->i=es.length->w.drawn<=w1.drawn->
    ∀(e:Ending) (w':World),e= .returned v1/\w'=w1->∃u,e= .returned u/\AH w' (Mv u X) E k u (es.take i++vs++es.drop i)/\(∀b,cd u=some b->cd v=some b\/w.heap.size<=b)/\Fr (cd v) w w':=by
   rintro v1 w1 ho hgr hat ⟨a0,n0,c0,hv0⟩ hie hdr e w' ⟨rfl,rfl⟩;have hb0:v.ownBlock=cd v:=nF hv0
   have hb1:v1.ownBlock=cd v1:=by
    rcases ho.2 with⟨h,_⟩|⟨_,_,_,h,_⟩
    ·exact nF h
    ·exact nF h
   have hfr:Fr (cd v) w w':=⟨hgr.os,hgr.tape,hgr.output,hgr.size,λb hb hne=>hgr.block b hb (λh=>hne (by rw[<-hb0,<-h])),DL.of hdr⟩
   have hub:∀b,cd v1=some b->cd v=some b\/w.heap.size<=b:=λb hb=>by
    rw[<-hb1]at hb;rcases hat with h|h
    ·exact .inl (by rw[<-hb0,<-h];exact hb)
    ·rw[h]at hb;injection hb with hb;exact .inr (by omega)
   have he:es.take i++vs++es.drop i=es++vs:=by subst hie;simp
   rw[he]at hmem ⊢;refine⟨v1,rfl,⟨xs++us,by rw[QB];exact ho,hmem,?_⟩,hub,hfr⟩
   rw[List.flatten_append];exact(hr.append hru).mono (Na hfr hub) (ed.le _)
  rcases hown.2 with⟨rfl,h0⟩|⟨g,cap,cur,rfl,hb0,hg,hnc,hcm,hcs,htk⟩
  ·obtain rfl:i=0:=by omega
   obtain⟨v1,w1,r1,r2,r3,_,r5⟩:=run_append_own_at (P:=P) w 0 S 0 E inf z k bytes H.hS hi1 hi2 hi4 hi5 hi3 hk0 (.slice none 0 0) es.length xs hown ad vs.length vc us hul hcell hone hmax hby (QS _);exact(H.aaD ad vs.length vc hm w w1 v1 λty=>r1).mono λe w' h=>fin v1 w1 r2 r3 r5 ⟨_,_,_,rfl⟩ h0.symm (ES (P:=P) w 0 S 0 E inf z k bytes H.hS hi1 hi2 hi4 hi5 hk0 (.slice none 0 0) es.length xs hown ad vs.length vc us hul hcell hone hmax hby r1) e w' h
  ·have hcm':cap<=9223372036854775807:=by simp only[maxLen]at hcm;omega
   by_cases hie:i=es.length
   ·obtain⟨v1,w1,r1,r2,r3,_,r5⟩:=run_append_own_at (P:=P) w 0 S 0 E inf z k bytes H.hS hi1 hi2 hi4 hi5 hi3 hk0 _ es.length xs hown ad vs.length vc us hul hcell hone hmax hby (QS _);have:=H.aiD g es.length cap hnc hcm' ad vs.length vc hm w w1 v1 λty=>r1
    rw[<-hie]at this ⊢;exact this.mono λe w' h=>fin v1 w1 r2 r3 r5 ⟨_,_,_,rfl⟩ hie (ES (P:=P) w 0 S 0 E inf z k bytes H.hS hi1 hi2 hi4 hi5 hk0 _ es.length xs hown ad vs.length vc us hul hcell hone hmax hby r1) e w' h
   ·have hin:i<es.length:=by omega
    have hM:∀b,Mv (.slice (some ⟨g,0,none⟩) es.length cap) X b->True:=λ_ _=>trivial
    have hne:ad.block≠g:=λh=>hadM (.inl (by rw[h];rfl))
    have hglt:g<w.heap.size:=(Q9.1 hg).1;have hxl:xs.length=es.length*k:=hown.1;have hcl:es.length*k<=cur.toList.length:=by simpa[hcs]using Qq63 k hnc
    have hx1:=Vk hr h1e;obtain⟨ys,hys⟩:∃ys,ys=xs.drop (i*k):=⟨_,rfl⟩;have hyl:ys.length=(es.length - i)*k:=by rw[hys,List.length_drop,hxl,Nat.sub_mul]
    have hy1:∀y∈ys,y.oneCell'=true:=λy hy=>hx1 y (Q2 (hys▸hy))
    have hcx:∀(j:Nat) (u:Value),xs[j]?=some u->w.cell? ⟨g,j,none⟩=some u:=λj u hj=>by
     refine rX hg ?_;rw[<-htk,Qq68]at hj;split at hj
     ·exact hj
     ·cases hj
    have hcy:∀(j:Nat) (u:Value),ys[j]?=some u->w.cell? ((⟨g,i*k,none⟩:Addr).add j)=some u:=λj u hj=>by rw[add_mid];rw[hys,List.getElem?_drop]at hj;exact hcx _ u hj
    have hik:i*k+us.length=(i+vs.length)*k:=by rw[hul,Qq73]
    have htot:i*k+us.length+ys.length=(es.length+vs.length)*k:=by rw[hul,hyl,<-Qq73,<-Qq73];congr 1;omega
    have hres:bo w (Mv (.slice (some ⟨g,0,none⟩) es.length cap) X) ed (es.take i++vs++es.drop i).flatten (xs.take (i*k)++us++ys):=by rw[List.flatten_append,List.flatten_append,wy k i es hke,AA k i es hke,hys];exact((hr.take _).append hru).append (hr.drop _)
    have hlen:(es.take i++vs++es.drop i).length=es.length+vs.length:=by simp;omega
    have htl:(xs.take (i*k)++us++ys).length=(es.length+vs.length)*k:=by rw[QB,QB,List.length_take,hxl,Nat.min_eq_left (Qq63 k hi)];exact htot
    by_cases hroom:es.length+vs.length<=cap
    ·
     have hfit:(es.length+vs.length)*k<=cur.toList.length:=by simpa[hcs]using Qq63 k hroom
     have r1:=yx (P:=P) w.drew S S 0 E g ((i+vs.length)*k) (es.length+vs.length - (i+vs.length)) 0 ⟨g,i*k,none⟩ (es.length+vs.length - i) 0 cur E ys k (es.length - i) H.hS hsz hg
      (by simp only[Nat.min_def];split<;>omega) hyl hcy (by simp only[Array.length_toList]at hfit;omega) hy1
     obtain⟨cur1,hcur1⟩:∃cur1:Array Value,cur1=(tc cur.toList ((i+vs.length)*k) ys).toArray:=⟨_,rfl⟩;have hg1:(w.drew.setRow g cur1).heap[g]?=some (.cells cur1 E (0,0)):=setRow_heap w.drew g cur _ E _ hg
     have hl1:cur1.size=cap*k:=by rw[hcur1,List.size_toArray,HL (by rw[<-hik];omega),Array.length_toList,hcs]
     have r2:=yx (P:=P) (w.drew.setRow g cur1) S S 0 E g (i*k) (es.length+vs.length - i) 0 ad vs.length vc cur1 E us k vs.length H.hS hsz hg1
      (by simp only[Nat.min_def];split<;>omega) hul (λj u hj=>by rw[World.cell?_of_block (w:=w) (yb w.drew g cur1 (by rw[IE];exact hne))];exact hcell j u hj)
      (by rw[hl1,<-hcs,<-Array.length_toList];omega) hone
     obtain⟨cur2,hcur2⟩:∃cur2:Array Value,cur2=(tc cur1.toList (i*k) us).toArray:=⟨_,rfl⟩;have hg2:((w.drew.setRow g cur1).setRow g cur2).heap[g]?=some (.cells cur2 E (0,0)):=setRow_heap _ g cur1 _ E _ hg1
     have hc2:cur2.toList=xs.take (i*k)++us++ys++cur.toList.drop ((es.length+vs.length)*k):=by rw[hcur2,hcur1,<-hik,XO (by omega),htot,<-htk,List.take_take,Nat.min_eq_left (Qq63 k hi)]
     have hC:cur.toList.length=cap*k:=(Array.length_toList (xs:=cur)).trans hcs;have hL1:cur1.toList.length=cap*k:=(Array.length_toList (xs:=cur1)).trans hl1;have hfr:Fr (some g) w ((w.drew.setRow g cur1).setRow g cur2):=(Fr.ajI w _).trans' ((Tn _ g _).trans' (Tn _ g _))
     have hcap0:cur.size≠0:=by
      have:0<cap:=by omega
      rw[hcs];exact Nat.ne_of_gt (Nat.mul_pos this hk0)
     refine(H.shift g es.length cap i hin hcm' ad vs.length vc hm hroom (.of hin (by omega) hcm' hm (by omega)) (by omega) w (w.drew.setRow g cur1) ((w.drew.setRow g cur1).setRow g cur2) (λlb cb=> ?_) (λty dc sc=> ?_) (λty dc=> ?_)).mono ?_
     ·exact H.HO _ w (Ng w S B E H.hS k (λw'=>by simp[Go.sizeOf,typeInfo,hi1,hi4]) ad ⟨g,(i+vs.length)*k,none⟩ vs.length vc lb cb hne had hg hcap0)
     ·rw[hcur1];exact r1
     ·rw[hcur2];exact r2
     ·rintro e w' ⟨rfl,rfl⟩;refine⟨_,rfl,⟨xs.take (i*k)++us++ys,⟨?_,.inr ⟨g,cap,cur2,by rw[hlen],hb0,hg2,by rw[hlen];exact hroom,hcm,?_,?_⟩⟩,hmem,hres.mono (@Na w _ (.slice (some ⟨g,0,none⟩) es.length cap) (.slice (some ⟨g,0,none⟩) (es.length+vs.length) cap) X hfr λb hb=> .inl hb) (ed.le _)⟩,λb hb=> .inl hb,hfr⟩
      ·rw[htl,hlen]
      ·rw[hcur2,List.size_toArray,HL (by rw[hL1];omega),hL1]
      ·rw[hlen,hc2,<-htl,List.take_left' rfl]
    ·
     have hik2:i+(es.length+vs.length - i)=es.length+vs.length:=by omega
     have hold:(Builtin.firstCells inf.size i (.slice (some ⟨g,0,none⟩) i cap)).run P w.drew= .ok (xs.take (i*k)).toArray w.drew:=by
      rw[hi4];refine run_firstCells_some w.drew k i ⟨g,0,none⟩ i cap (xs.take (i*k)) (by rw[List.length_take,hxl];exact Nat.min_eq_left (Qq63 k hi)) λj u hj=> ?_
      rw[add_mid,Nat.zero_add];rw[Qq68]at hj;split at hj
      ·exact hcx j u hj
      ·cases hj
     have hmax':es.length+vs.length<=9223372036854775807:=by simp only[maxLen]at hmax;omega
     have r0:=λty=>Lib.run_append_grow_zeros (P:=P) w S I ty E inf z .i64 .i64 H.hS H.hI hi1 hi2 (some ⟨g,0,none⟩) i cap (xs.take (i*k)) hold (es.length+vs.length - i) (by omega) (by omega) (by omega) (by omega)
      (by rw[hi5];have:=Qq63 bytes (show es.length+vs.length - i<=es.length+vs.length by omega);omega) (by rw[hi5,hik2];exact growslice_fits (by omega) hby)
     rw[hik2]at r0;obtain⟨G,hG⟩:∃G,G=grownCap w (es.length+vs.length) cap E:=⟨_,rfl⟩;have hGn:es.length+vs.length<=G:=by rw[hG];exact grownCap_ge w _ _ _
     have hGm:G<=maxLen:=by rw[hG];exact grownCap_le_maxLen w _ _ _ hmax
     have hG63:G<=9223372036854775807:=by simp only[maxLen]at hGm;omega
     rw[<-hG]at r0;obtain⟨row,hrow⟩:∃row:Array Value,row=(xs.take (i*k)).toArray++Builtin.zeroCells z.cells (es.length+vs.length - i)++Builtin.zeroCells z.cells (G - (es.length+vs.length)):=⟨_,rfl⟩;rw[<-hrow]at r0;have hrt:(xs.take (i*k)).length=i*k:=by rw[List.length_take,hxl];exact Nat.min_eq_left (Qq63 k hi)
     have hrl:row.size=G*k:=by rw[hrow,Array.size_append,Array.size_append,List.size_toArray,hrt,size_zeroCells,size_zeroCells,hi3,<-Qq73,<-Qq73];congr 1;omega
     have hrtake:row.toList.take (i*k)=xs.take (i*k):=by rw[hrow,Array.toList_append,Array.toList_append,QL];exact List.take_left' hrt
     have hN:(w.drew.alloc (.cells row E)).heap[w.heap.size]?=some (.cells row E (0,0)):=by show(w.heap.push (.cells row E))[w.heap.size]?=_;simp
     have hkeep:∀b,b<w.heap.size->(w.drew.alloc (.cells row E)).heap[b]?=w.heap[b]?:=λb hb=>Below.heap_alloc w.drew _ b hb
     have hfit:(es.length+vs.length)*k<=row.size:=by rw[hrl];exact Qq63 k hGn
     have r1:=yx (P:=P) (w.drew.alloc (.cells row E)) S S 0 E w.heap.size (i*k) (es.length+vs.length - i) 0 ad vs.length vc row E us k vs.length H.hS hsz hN
      (by simp only[Nat.min_def];split<;>omega) hul (λj u hj=>by rw[World.cell?_of_block (w:=w) (hkeep _ (by rw[IE];exact hadlt))];exact hcell j u hj) (by omega) hone
     have hR:row.toList.length=G*k:=(Array.length_toList (xs:=row)).trans hrl;obtain⟨cur1,hcur1⟩:∃cur1:Array Value,cur1=(tc row.toList (i*k) us).toArray:=⟨_,rfl⟩;have hl1:cur1.size=G*k:=by rw[hcur1,List.size_toArray,HL (by rw[hR];omega),hR]
     have hL1:cur1.toList.length=G*k:=(Array.length_toList (xs:=cur1)).trans hl1;have hg1:((w.drew.alloc (.cells row E)).setRow w.heap.size cur1).drew.heap[w.heap.size]?=some (.cells cur1 E (0,0)):=setRow_heap _ _ row _ E _ hN
     have r2:=yx (P:=P) ((w.drew.alloc (.cells row E)).setRow w.heap.size cur1).drew S S 0 E w.heap.size ((i+vs.length)*k) (es.length+vs.length - (i+vs.length)) 0 ⟨g,i*k,none⟩ (es.length - i) 0 cur1 E ys k (es.length - i) H.hS hsz hg1
      (by simp only[Nat.min_def];split<;>omega) hyl (λj u hj=>by
       rw[World.cell?_of_block (w:=w) (w':=((w.drew.alloc (.cells row E)).setRow w.heap.size cur1).drew) (((yb _ w.heap.size cur1 (by rw[IE];exact Nat.ne_of_lt hglt)).trans (hkeep _ (by rw[IE];exact hglt))))]
       exact hcy j u hj) (by rw[hl1,<-hrl,<-hik];omega) hy1
     obtain⟨cur2,hcur2⟩:∃cur2:Array Value,cur2=(tc cur1.toList ((i+vs.length)*k) ys).toArray:=⟨_,rfl⟩;obtain⟨w3,hw3⟩:∃w3,w3=((w.drew.alloc (.cells row E)).setRow w.heap.size cur1).drew.setRow w.heap.size cur2:=⟨_,rfl⟩;have hg2:w3.heap[w.heap.size]?=some (.cells cur2 E (0,0)):=by rw[hw3];exact setRow_heap _ _ cur1 _ E _ hg1
     have hc2:cur2.toList=xs.take (i*k)++us++ys++row.toList.drop ((es.length+vs.length)*k):=by rw[hcur2,hcur1,<-hik,ZP (by rw[hR];omega),htot,hrtake]
     have hfr:Fr (some g) w w3:=by
      rw[hw3];refine⟨rfl,rfl,rfl,by simp[World.setRow],λb hb _=> ?_,DL.of (by show w.drawn<=w.drawn+1+1;omega)⟩
      rw[yb _ _ _ (Nat.ne_of_lt hb)];exact(yb _ w.heap.size cur1 (Nat.ne_of_lt hb)).trans (hkeep b hb)
     refine(H.grow g es.length cap i hin hnc hcm' ad vs.length vc hm (by omega) w.heap.size G hGn hG63 (.of hin hnc hcm' hm (by omega)) (by omega) (by omega) (by omega) w (w.drew.alloc (.cells row E)) ((w.drew.alloc (.cells row E)).setRow w.heap.size cur1) w3 (λty=> ?_) (λty dc=> ?_) (λty dc sc=> ?_)).mono ?_
     ·have:=r0 ty;rw[show((es.length+vs.length - i:Nat):Int)=(es.length:Int)+(vs.length:Int) - (i:Int)by omega]at this
      exact this
     ·rw[hcur1];exact r1
     ·rw[hw3,hcur2];exact r2
     ·rintro e w' ⟨rfl,rfl⟩
      have hub:∀b,cd (.slice (some ⟨w.heap.size,0,none⟩) (es.length+vs.length) G)=some b->cd (.slice (some ⟨g,0,none⟩) es.length cap)=some b\/w.heap.size<=b:=λb hb=>by
       injection hb with hb
       exact .inr (Nat.le_of_eq hb)
      refine⟨_,rfl,⟨xs.take (i*k)++us++ys,⟨?_,.inr ⟨w.heap.size,G,cur2,by rw[hlen],QS _,hg2,by rw[hlen];exact hGn,hGm,?_,?_⟩⟩,hmem,hres.mono (@Na w _ (.slice (some ⟨g,0,none⟩) es.length cap) (.slice (some ⟨w.heap.size,0,none⟩) (es.length+vs.length) G) X hfr hub) (ed.le _)⟩,hub,hfr⟩
      ·rw[htl,hlen]
      ·rw[hcur2,List.size_toArray,HL (by rw[hL1,<-hik];omega),hL1]
      ·rw[hlen,hc2,<-htl,List.take_left' rfl]
end
end Go.TQ
end
noncomputable section
namespace Go.Proofs.YtofedieniojipaaGreat
open Go.RowKit Go.TQ Go.Lib
namespace Wn
set_option maxHeartbeats 8000000 in
set_option maxRecDepth 100000 in
def ways:Ta Tryz.prog 106 28 56 3 4 174 37 496:=by
 have zE:∀w:World,(Go.sizeOf 56).run Tryz.prog w= .ok 37 w:=λ_=>by kernel_rfl
 have uS:=run_underlying Tryz.underlying28;have mixed:Tryz.prog.follows .mixedOrders=true:=by kernel_rfl
 refine⟨by decide,Tryz.underlying28,Tryz.underlying3,Lv (by kernel_rfl),λx w h=> ?_,λg n c i hi hc hc63 u vc w=> ?_,λu vc w=> ?_,λg n c hc hc63 ad m vc hm w w1 v1 hr=> ?_,λad m vc hm w w1 v1 hr=> ?_,λg n c i hi hc63 ad m vc hm hroom ⟨hz1,hz2,hw1,hb1,htn,hb3,hb4,hin⟩ hb2 w w1 w2 hov h1 h2=> ?_,λg n c i hi hc hc63 ad m vc hm hroom N G hGn hG63 ⟨hz1,hz2,hw1,hb1,htn,_,hci,hb3⟩ hz3 hGi hGim w w1 w2 w3 hz h1 h2=> ?_⟩
 ·rw[run_callFunc_extern Tryz.func174 (by kernel_rfl) (by kernel_rfl) (by kernel_rfl) (e:=Extern.SlicesOverlaps.overlaps #[28,28] #[4]) (by kernel_rfl),h]
  rfl
 rotate_left 4
 ·go_enter Tryz.func106,Tryz.ntmps106
  go_wp2_with (simp only[hov])
  go_region_law_o (refine step_copy_runI rfl _ _ 28 28 rfl _ _ (by simp[Act.eval,Act.put]) (by simp[Act.eval,Act.put]) (h1 _ _ _) ?_)
  go_wp2_with (at_builtin;refine wpList_copy_runI _ rfl _ _ 28 28 rfl _ _ rfl rfl (h2 _ _) ?_)
  go_ret
  exact⟨rfl,rfl⟩
 ·have hin:=hb3
  go_enter Tryz.func106,Tryz.ntmps106
  go_wp2_with (first
   |(at_builtin;refine Lib.wpList_append_run _ rfl _ _ _ _ rfl _ _ rfl rfl _ _ (hz _) ?_)
   |(at_builtin;refine wpList_copy_runI _ rfl _ _ 28 28 rfl _ _ rfl rfl (h1 _ _) ?_))
  go_region_law_o (refine step_copy_runI rfl _ _ 28 28 rfl (.slice (some ⟨N,(i+m)*37,none⟩) (n+m - (i+m)) (G - (i+m))) (.slice (some ⟨g,i*37,none⟩) (n - i) (c - i)) (by simp[Act.eval,Act.put]) (by simp[Act.eval,Act.put]) (h2 3 (G - (i+m)) (c - i)) ?_)
  go_wp2
  go_ret
  exact⟨rfl,rfl⟩
 all_goals
  try have hz1:¬((m:Int)=0):=by omega
  go_enter Tryz.func106,Tryz.ntmps106
  go_wp2_with (at_builtin;refine Lib.wpList_append_run _ rfl _ _ _ _ rfl _ _ rfl rfl _ _ (hr _) ?_)
  all_goals go_ret
  all_goals exact⟨rfl,rfl⟩
def enters:Go.TQ.Enters Tryz.prog 106:=⟨Tryz.f106,Tryz.func106,by kernel_rfl,by kernel_rfl⟩
end Wn
end Go.Proofs.YtofedieniojipaaGreat
end
noncomputable section
namespace Go.TQ
def C1{α:Type}(bytes:Nat)(s:List α)(i:Int)(v:List α):Option (List α):=bif decide (0<=i)&&decide (i<=((s.length:Nat):Int))&&bg bytes (s.length+v.length)then some (s.take i.toNat++v++s.drop i.toNat)else none
def dV{P:Program}{f S E I B ov k bytes:Nat}(H:Ta P f S E I B ov k bytes)(hent:Enters P f){T:Ty}(hk:∀x:T.den,(T.pv x).length=k):
  dU.Sound P (U:=U) (.cw f E k T [.ty (Ty.i .i64),.ty (Ty.sl T)] λs a=>C1 bytes s a.1 a.2.1):=by
 refine⟨hent,λxs a ys h=> ?_⟩
 suffices key:∀(i:Int) (v:List T.den) (ys:List T.den),C1 bytes xs i v=some ys->Od P f E k (xs.map T.pv) [.int .i64 i,.sl (v.map T.pv)] (ys.map T.pv)from key a.1 a.2.1 ys h
 clear h;intro i v ys h;unfold C1 at h
 cases hc:(decide (0<=i)&&decide (i<=((xs.length:Nat):Int))&&bg bytes (xs.length+v.length))with
 |false=>rw[hc]at h;cases h
 |true=>
  rw[hc]at h;injection h with h
  subst h;simp only[Qm,Qi]at hc;obtain⟨⟨h0,h1⟩,h2⟩:=hc;obtain⟨h3,h4⟩:=DB h2;have hone:∀x:T.den,(T.pv x).all PV.one=true:=λx=>QH.2 λy hy=>Wu (K.ib T x y hy)
  have:=agl H (es:=xs.map T.pv) (vs:=v.map T.pv) (i:=i.toNat) (by rw[QC];omega)
   (λu hu=>by obtain⟨x,_,rfl⟩:=QP.1 hu;exact hone x) (λu hu=>by obtain⟨x,_,rfl⟩:=QP.1 hu;exact⟨hk x,hone x⟩)
   (by rw[QC,QC];exact h4) (by rw[QC,QC];exact h3)
  rw[<-List.map_take,<-List.map_drop,<-List.map_append,<-List.map_append,show((i.toNat:Nat):Int)=i by omega]at this
  exact this
end Go.TQ
end
noncomputable section
namespace Go.Proofs.YtofedieniojipaaGreat
open Go.RowKit Go.TQ Go.Lib
namespace Wm
set_option maxHeartbeats 8000000 in
set_option maxRecDepth 100000 in
def ways:Ta Tryz.prog 164 47 34 3 4 223 7 120:=by
 have zE:∀w:World,(Go.sizeOf 34).run Tryz.prog w= .ok 7 w:=λ_=>by kernel_rfl
 have uS:=run_underlying Tryz.underlying47;have mixed:Tryz.prog.follows .mixedOrders=true:=by kernel_rfl
 refine⟨by decide,Tryz.underlying47,Tryz.underlying3,Lv (by kernel_rfl),λx w h=> ?_,λg n c i hi hc hc63 u vc w=> ?_,λu vc w=> ?_,λg n c hc hc63 ad m vc hm w w1 v1 hr=> ?_,λad m vc hm w w1 v1 hr=> ?_,λg n c i hi hc63 ad m vc hm hroom ⟨hz1,hz2,hw1,hb1,htn,hb3,hb4,hin⟩ hb2 w w1 w2 hov h1 h2=> ?_,λg n c i hi hc hc63 ad m vc hm hroom N G hGn hG63 ⟨hz1,hz2,hw1,hb1,htn,_,hci,hb3⟩ hz3 hGi hGim w w1 w2 w3 hz h1 h2=> ?_⟩
 ·rw[run_callFunc_extern Tryz.func223 (by kernel_rfl) (by kernel_rfl) (by kernel_rfl) (e:=Extern.SlicesOverlaps.overlaps #[47,47] #[4]) (by kernel_rfl),h]
  rfl
 rotate_left 4
 ·go_enter Tryz.func164,Tryz.ntmps164
  go_wp2_with (simp only[hov])
  go_region_law_o (refine step_copy_runI rfl _ _ 47 47 rfl _ _ (by simp[Act.eval,Act.put]) (by simp[Act.eval,Act.put]) (h1 _ _ _) ?_)
  go_wp2_with (at_builtin;refine wpList_copy_runI _ rfl _ _ 47 47 rfl _ _ rfl rfl (h2 _ _) ?_)
  go_ret
  exact⟨rfl,rfl⟩
 ·have hin:=hb3
  go_enter Tryz.func164,Tryz.ntmps164
  go_wp2_with (first
   |(at_builtin;refine Lib.wpList_append_run _ rfl _ _ _ _ rfl _ _ rfl rfl _ _ (hz _) ?_)
   |(at_builtin;refine wpList_copy_runI _ rfl _ _ 47 47 rfl _ _ rfl rfl (h1 _ _) ?_))
  go_region_law_o (refine step_copy_runI rfl _ _ 47 47 rfl (.slice (some ⟨N,(i+m)*7,none⟩) (n+m - (i+m)) (G - (i+m))) (.slice (some ⟨g,i*7,none⟩) (n - i) (c - i)) (by simp[Act.eval,Act.put]) (by simp[Act.eval,Act.put]) (h2 3 (G - (i+m)) (c - i)) ?_)
  go_wp2
  go_ret
  exact⟨rfl,rfl⟩
 all_goals
  try have hz1:¬((m:Int)=0):=by omega
  go_enter Tryz.func164,Tryz.ntmps164
  go_wp2_with (at_builtin;refine Lib.wpList_append_run _ rfl _ _ _ _ rfl _ _ rfl rfl _ _ (hr _) ?_)
  all_goals go_ret
  all_goals exact⟨rfl,rfl⟩
def enters:Go.TQ.Enters Tryz.prog 164:=⟨Tryz.f164,Tryz.func164,by kernel_rfl,by kernel_rfl⟩
end Wm
end Go.Proofs.YtofedieniojipaaGreat
namespace Go.Proofs.YtofedieniojipaaGreat
open Go.RowKit Go.TQ Go.Lib
namespace Wl
set_option maxHeartbeats 8000000 in
set_option maxRecDepth 100000 in
def ways:Ta Tryz.prog 236 50 38 3 4 282 15 176:=by
 have zE:∀w:World,(Go.sizeOf 38).run Tryz.prog w= .ok 15 w:=λ_=>by kernel_rfl
 have uS:=run_underlying Tryz.underlying50;have mixed:Tryz.prog.follows .mixedOrders=true:=by kernel_rfl
 refine⟨by decide,Tryz.underlying50,Tryz.underlying3,Lv (by kernel_rfl),λx w h=> ?_,λg n c i hi hc hc63 u vc w=> ?_,λu vc w=> ?_,λg n c hc hc63 ad m vc hm w w1 v1 hr=> ?_,λad m vc hm w w1 v1 hr=> ?_,λg n c i hi hc63 ad m vc hm hroom ⟨hz1,hz2,hw1,hb1,htn,hb3,hb4,hin⟩ hb2 w w1 w2 hov h1 h2=> ?_,λg n c i hi hc hc63 ad m vc hm hroom N G hGn hG63 ⟨hz1,hz2,hw1,hb1,htn,_,hci,hb3⟩ hz3 hGi hGim w w1 w2 w3 hz h1 h2=> ?_⟩
 ·rw[run_callFunc_extern Tryz.func282 (by kernel_rfl) (by kernel_rfl) (by kernel_rfl) (e:=Extern.SlicesOverlaps.overlaps #[50,50] #[4]) (by kernel_rfl),h]
  rfl
 rotate_left 4
 ·go_enter Tryz.func236,Tryz.ntmps236
  go_wp2_with (simp only[hov])
  go_region_law_o (refine step_copy_runI rfl _ _ 50 50 rfl _ _ (by simp[Act.eval,Act.put]) (by simp[Act.eval,Act.put]) (h1 _ _ _) ?_)
  go_wp2_with (at_builtin;refine wpList_copy_runI _ rfl _ _ 50 50 rfl _ _ rfl rfl (h2 _ _) ?_)
  go_ret
  exact⟨rfl,rfl⟩
 ·have hin:=hb3
  go_enter Tryz.func236,Tryz.ntmps236
  go_wp2_with (first
   |(at_builtin;refine Lib.wpList_append_run _ rfl _ _ _ _ rfl _ _ rfl rfl _ _ (hz _) ?_)
   |(at_builtin;refine wpList_copy_runI _ rfl _ _ 50 50 rfl _ _ rfl rfl (h1 _ _) ?_))
  go_region_law_o (refine step_copy_runI rfl _ _ 50 50 rfl (.slice (some ⟨N,(i+m)*15,none⟩) (n+m - (i+m)) (G - (i+m))) (.slice (some ⟨g,i*15,none⟩) (n - i) (c - i)) (by simp[Act.eval,Act.put]) (by simp[Act.eval,Act.put]) (h2 3 (G - (i+m)) (c - i)) ?_)
  go_wp2
  go_ret
  exact⟨rfl,rfl⟩
 all_goals
  try have hz1:¬((m:Int)=0):=by omega
  go_enter Tryz.func236,Tryz.ntmps236
  go_wp2_with (at_builtin;refine Lib.wpList_append_run _ rfl _ _ _ _ rfl _ _ rfl rfl _ _ (hr _) ?_)
  all_goals go_ret
  all_goals exact⟨rfl,rfl⟩
def enters:Go.TQ.Enters Tryz.prog 236:=⟨Tryz.f236,Tryz.func236,by kernel_rfl,by kernel_rfl⟩
end Wl
end Go.Proofs.YtofedieniojipaaGreat
namespace Go.Proofs.YtofedieniojipaaGreat
open Go.RowKit Go.TQ Go.Lib
namespace Wk
set_option maxHeartbeats 8000000 in
set_option maxRecDepth 100000 in
def ways:Ta Tryz.prog 313 32 9 3 4 348 1 16:=by
 have zE:∀w:World,(Go.sizeOf 9).run Tryz.prog w= .ok 1 w:=λ_=>by kernel_rfl
 have uS:=run_underlying Tryz.underlying32;have mixed:Tryz.prog.follows .mixedOrders=true:=by kernel_rfl
 refine⟨by decide,Tryz.underlying32,Tryz.underlying3,Lv (by kernel_rfl),λx w h=> ?_,λg n c i hi hc hc63 u vc w=> ?_,λu vc w=> ?_,λg n c hc hc63 ad m vc hm w w1 v1 hr=> ?_,λad m vc hm w w1 v1 hr=> ?_,λg n c i hi hc63 ad m vc hm hroom ⟨hz1,hz2,hw1,hb1,htn,hb3,hb4,hin⟩ hb2 w w1 w2 hov h1 h2=> ?_,λg n c i hi hc hc63 ad m vc hm hroom N G hGn hG63 ⟨hz1,hz2,hw1,hb1,htn,_,hci,hb3⟩ hz3 hGi hGim w w1 w2 w3 hz h1 h2=> ?_⟩
 ·rw[run_callFunc_extern Tryz.func348 (by kernel_rfl) (by kernel_rfl) (by kernel_rfl) (e:=Extern.SlicesOverlaps.overlaps #[32,32] #[4]) (by kernel_rfl),h]
  rfl
 rotate_left 4
 simp only[Nat.mul_one]at hov h1 h2
 ·go_enter Tryz.func313,Tryz.ntmps313
  go_wp2_with (simp only[hov])
  go_region_law_o (refine step_copy_runI rfl _ _ 32 32 rfl _ _ (by simp[Act.eval,Act.put]) (by simp[Act.eval,Act.put]) (h1 _ _ _) ?_)
  go_wp2_with (at_builtin;refine wpList_copy_runI _ rfl _ _ 32 32 rfl _ _ rfl rfl (h2 _ _) ?_)
  go_ret
  exact⟨rfl,rfl⟩
 simp only[Nat.mul_one]at h1 h2
 ·have hin:=hb3
  go_enter Tryz.func313,Tryz.ntmps313
  go_wp2_with (first
   |(at_builtin;refine Lib.wpList_append_run _ rfl _ _ _ _ rfl _ _ rfl rfl _ _ (hz _) ?_)
   |(at_builtin;refine wpList_copy_runI _ rfl _ _ 32 32 rfl _ _ rfl rfl (h1 _ _) ?_))
  go_region_law_o (refine step_copy_runI rfl _ _ 32 32 rfl (.slice (some ⟨N,i+m,none⟩) (n+m - (i+m)) (G - (i+m))) (.slice (some ⟨g,i,none⟩) (n - i) (c - i)) (by simp[Act.eval,Act.put]) (by simp[Act.eval,Act.put]) (h2 3 (G - (i+m)) (c - i)) ?_)
  go_wp2
  go_ret
  exact⟨rfl,rfl⟩
 all_goals
  try have hz1:¬((m:Int)=0):=by omega
  go_enter Tryz.func313,Tryz.ntmps313
  go_wp2_with (at_builtin;refine Lib.wpList_append_run _ rfl _ _ _ _ rfl _ _ rfl rfl _ _ (hr _) ?_)
  all_goals go_ret
  all_goals exact⟨rfl,rfl⟩
def enters:Go.TQ.Enters Tryz.prog 313:=⟨Tryz.f313,Tryz.func313,by kernel_rfl,by kernel_rfl⟩
end Wk
end Go.Proofs.YtofedieniojipaaGreat
end
noncomputable section
namespace Go.TQ
section
open Go.Proofs Go.Sort Go.RowKit Go.Lib
def z8:PV->Bool
 | .int _ _| .str _| .bool _=>true
 |_=>false
def rH:PV->Value
 | .int k n=> .int k n
 | .str s=> .string s
 | .bool b=> .bool b
 |_=>undef
def JP{w:World}{M:Nat->Prop}{G:Gh}{x:PV}(h:z8 x=true):bp w M G x (rH x):=by cases x<;>first|exact .int _ _|exact .str _|exact .bool _|exact absurd h (by simp[z8])
def abq{w:World}{M:Nat->Prop}{G:Gh}{x:PV}{v:Value}(h:z8 x=true)(hr:bp w M G x v):v=rH x:=by cases x<;>first|(cases hr;rfl)|exact absurd h (by simp[z8])
def TA{x:PV}(h:z8 x=true):(rH x).oneCell'=true:=by cases x<;>first|rfl|exact absurd h (by simp[z8])
def OS{w:World}{M:Nat->Prop}{G:Gh}:∀{xs:List PV} {vs:List Value},xs.all z8=true->bo w M G xs vs->vs=xs.map rH
 |[],vs,_,hr=>hr.te
 |x::xs,vs,h,hr=>by obtain⟨v,vs',rfl,r1,r2⟩:=hr.cons_inv;rw[Qq70,Qm]at h;rw[QD,<-abq h.1 r1,<-OS h.2 r2]
def OR{w:World}{M:Nat->Prop}{G:Gh}:∀{xs:List PV},xs.all z8=true->bo w M G xs (xs.map rH)
 |[],_=> .nil
 |x::xs,h=>by rw[Qq70,Qm]at h;exact .cons (JP h.1) (OR h.2)
def agB{w w':World}(h:Fr none w w'):∃q os,w'=grow (w.drewN q) os:=by
 refine⟨w'.drawn - w.drawn,w'.heap.extract w.heap.size w'.heap.size,?_⟩;have hs:=h.size
 have hh:w'.heap=w.heap++w'.heap.extract w.heap.size w'.heap.size:=by
  apply Array.ext_getElem?;intro k;rw[Array.getElem?_append];split
  ·rename_i hk;exact h.block k hk (by simp)
  ·rename_i hk;rw[Array.getElem?_extract];split
   ·rw[show w.heap.size+(k - w.heap.size)=k by omega]
   ·exact Array.getElem?_eq_none (by omega)
 have h1:=h.os;have h2:=h.tape;have h3:=h.output;have h4:=h.drawn rfl
 cases w' with|mk hp tp dr os out=>
 cases w with|mk hp' tp' dr' os' out'=>
 simp only at h1 h2 h3 h4 hh;subst h1 h2 h3;unfold grow World.drewN;simp only;rw[<-hh,show dr'+(dr - dr')=dr by omega]
def VA{w:World}{b n:Nat}{F:Array Value}{os:Array Obj}{cur:Array Value}{e:TypeId}{fr:Nat×Nat}(hb:w.heap[b]?=some (.cells cur e fr)):
  (grow (putRow id (Sort.ahead w n) b 0 F) os).heap[b]?=some (.cells (putCells id 0 F cur) e fr):=by
 have hlt:b<w.heap.size:=(Q9.1 hb).1;unfold grow putRow mapBlock Sort.ahead;simp only;rw[Array.getElem?_append_left (by simp;exact hlt),Array.getElem?_modify,Qr rfl,hb]
 rfl
def abm{w:World}{b n:Nat}{F:Array Value}{os:Array Obj}:Fr (some b) w (grow (putRow id (Sort.ahead w n) b 0 F) os):=by
 refine⟨rfl,rfl,rfl,?_,λq hq hne=> ?_,DL.of (Nat.le_add_right _ _)⟩
 ·unfold grow putRow mapBlock Sort.ahead;simp only[Array.size_append,Array.size_modify];omega
 ·have hqb:¬b=q:=λe=>hne (by rw[e])
  unfold grow putRow mapBlock Sort.ahead;simp only;rw[Array.getElem?_append_left (by simp;exact hq),Array.getElem?_modify,Qs hqb]
def Tw{F cur:Array Value}(h:F.size<=cur.size):(putCells id 0 F cur).toList=F.toList++cur.toList.drop F.size:=by
 apply List.ext_getElem?;intro i;rw[Array.getElem?_toList];unfold putCells;rw[Array.getElem?_mapIdx,List.getElem?_append];simp only[Array.length_toList,QS,true_and,Nat.zero_add,Nat.sub_zero,id]
 by_cases hi:i<F.size
 ·rw[Qr hi,Array.getElem?_toList,Array.getElem?_eq_getElem (show i<cur.size by omega),Array.getElem?_eq_getElem hi,Qe,Qr hi,getElem!_pos F i hi]
 ·rw[Qs hi,List.getElem?_drop,Array.getElem?_toList,show F.size+(i - F.size)=i by omega]
  cases cur[i]? with
  |none=>rfl
  |some y=>rw[Qe,Qs hi]
def Xs(P:Program)(f k:Nat):Prop:=∀(α:Type) [Inhabited α] (gn:α->List Value) (_:∀x,(gn x).length=k) (_:∀x,∀v∈gn x,v.oneCell'=true) (cf:α->α->Int) (_:Go.Sort.SWO (ltOf cf)) (g:Nat) (cb:Array Value) (cd off cap:Nat) (d:Array α) (w:World)
  (_:∀args w,(callFunc g args).run P w= .ok (.enter g args) w) (_:CmpLays P g cb gn k cf cd off d.size w) (_:HoldsK gn k w cd off d) (_:cd<w.heap.size) (_:d.size<4611686018427387904) (_:∀x y,(ltOf cf) x y=false->(ltOf cf) y x=false->x=y),
  Calls P f #[.slice (some ⟨cd,off,none⟩) d.size cap,.func (.func g) #[] cb] w λe w'=>e= .returned (.tuple #[])/\∃n os,w'=sortWorldK gn k w cd off n (d.toList.mergeSort λx y=> !(ltOf cf) y x).toArray os
def Rz(P:Program)(f:Nat):Prop:=∀(α:Type) [Inhabited α] (gn:α->Value) (_:OneCell gn) (cf:α->α->Int) (_:Go.Sort.SWO (ltOf cf)) (g:Nat) (cb:Array Value) (cd off cap:Nat) (d:Array α) (w:World)
  (_:∀args w,(callFunc g args).run P w= .ok (.enter g args) w) (_:CmpLays1 P g cb gn cf cd off d.size w) (_:Holds gn w cd off d) (_:cd<w.heap.size) (_:d.size<4611686018427387904) (_:∀x y,(ltOf cf) x y=false->(ltOf cf) y x=false->x=y),
  Calls P f #[.slice (some ⟨cd,off,none⟩) d.size cap,.func (.func g) #[] cb] w λe w'=>e= .returned (.tuple #[])/\∃n os,w'=sortWorld gn w cd off n (d.toList.mergeSort λx y=> !(ltOf cf) y x).toArray os
def KU(P:Program)(f:Nat):Prop:=∀(p:Option Addr) (cap:Nat) (fv:Value) (w:World),Calls P f #[.slice p 0 cap,fv] w λe w'=>e= .returned (.tuple #[])/\w'=w
section
variable {P : Program} {α : Type} [Inhabited α] {pv : α -> List PV} {k : Nat}
def qZ(pv:α->List PV)(x:α):List Value:=(pv x).map rH
def Xr(P:Program)(f g e k:Nat)(pv:α->List PV)(le:α->α->Bool):Prop:=
 ∀(w:World) (b cap:Nat) (xs:List α) (cur:Array Value),w.heap[b]?=some (.cells cur e (0,0))->xs.length<4611686018427387904->xs.length<=cap->cap<=maxLen->cur.size=cap*k->cur.toList.take (xs.length*k)=xs.flatMap (qZ pv)->
  Calls P f #[.slice (some ⟨b,0,none⟩) xs.length cap,.func (.func g) #[] #[]] w λen w'=>en= .returned (.tuple #[])/\
   ∃cur':Array Value,w'.heap[b]?=some (.cells cur' e (0,0))/\cur'.size=cur.size/\cur'.toList.take (xs.length*k)=(xs.mergeSort le).flatMap (qZ pv)/\Fr (some b) w w'
def T1(hk:∀x,(pv x).length=k):∀xs:List α,(xs.flatMap (qZ pv)).length=xs.length*k
 |[]=>by simp
 |x::xs=>by rw[List.flatMap_cons,QB,T1 hk xs,qZ,QC,hk,QE,Qq73,Nat.one_mul,Nat.add_comm]
def Yj{f g e:Nat}{le:α->α->Bool}(h0:KU P f)(hs:Xr P f g e k pv le)(hk0:0<k)(hk:∀x,(pv x).length=k)(hp:∀x,(pv x).all z8=true)(xs:List α)(hsx:xs.length<4611686018427387904):
  aaR P f e k (xs.map pv) [.bI g []] (.eN []) ((xs.mergeSort le).map pv):=by
 intro w X hX v vs hvX ⟨us,hown,hke,hr⟩ hargs;obtain⟨a1,args,rfl,ha1,hargs⟩:=hargs.cons_inv;obtain rfl:=hargs.te;obtain⟨cs,rfl,hcs⟩:=ha1.xk;obtain rfl:=hcs.te
 have hflat:∀l:List α,(l.map pv).flatten.map rH=l.flatMap (qZ pv):=λl=>by
  induction l with
  |nil=>rfl
  |cons x l ih=>rw[QD,List.flatten_cons,List.map_append,ih,List.flatMap_cons];rfl
 have hplain:∀l:List α,(l.map pv).flatten.all z8=true:=λl=>by
  induction l with
  |nil=>rfl
  |cons x l ih=>rw[QD,List.flatten_cons,List.all_append,ih,hp x];rfl
 have hus:us=xs.flatMap (qZ pv):=by rw[OS (hplain xs) hr,hflat]
 have hms:(xs.mergeSort le).length=xs.length:=List.length_mergeSort xs
 have hkm:∀l:List α,∀u∈l.map pv,u.length=k:=λl u hu=>by obtain⟨x,_,rfl⟩:=QP.1 hu;exact hk x
 have hlen:(xs.map pv).length=xs.length:=QC ..;have hlen2:((xs.mergeSort le).map pv).length=xs.length:=by rw[QC,hms]
 rw[hlen]at hown
 have hrep:∀w':World,bo w' (Mv v X) ed ((xs.mergeSort le).map pv).flatten ((xs.mergeSort le).flatMap (qZ pv)):=λw'=>by rw[<-hflat];exact OR (hplain _)
 by_cases hx:xs=[]
 ·
  subst hx
  have hv:∃p cap,v= .slice p 0 cap:=by
   rcases hown.2 with⟨h1,_⟩|⟨b,cap,cur,h1,_⟩
   ·exact⟨none,0,h1⟩
   ·exact⟨_,cap,h1⟩
  obtain⟨p,cap,hv⟩:=hv;have:=h0 p cap (.func (.func g) #[] [].toArray) w;rw[<-hv]at this;refine this.mono λen w' ⟨h1,h2⟩=> ?_
  subst h2;refine⟨_,h1,.eN _ [] rfl (λi x v h=>by simp at h),⟨us,?_,hkm _,?_⟩,Fr.refl _ _⟩
  ·rw[hlen2];exact hown
  ·rw[hus];have:=hrep w';rw[show([]:List α).mergeSort le=[]from by simp]at this ⊢
   exact this
 ·rcases hown.2 with⟨_,h2⟩|⟨b,cap,cur,rfl,hbase,hb,hn,hcap,hsz,htake⟩
  ·exact absurd (Qq67 h2) hx
  ·refine(hs w b cap xs cur hb hsx hn hcap hsz (by rw[htake,hus])).mono λen w' ⟨h1,cur',h2,h3,h4,h5⟩=> ?_
   refine⟨_,h1,.eN _ [] rfl (λi x v h=>by simp at h),⟨(xs.mergeSort le).flatMap (qZ pv),⟨?_,.inr ⟨b,cap,cur',by rw[hlen2],hbase,h2,by rw[hlen2];exact hn,hcap,by rw[h3];exact hsz,?_⟩⟩,hkm _,hrep w'⟩,h5⟩
   ·rw[T1 hk,hms,hlen2]
   ·rw[hlen2];exact h4
def MQ{gn:α->List Value}(hk:∀x,(gn x).length=k)(hk0:0<k):∀(l:List α) (t:Nat),t<l.length*k->(l.flatMap gn)[t]?=(gn l[t / k]!)[t % k]?
 |[],t,h=>by simp at h
 |x::l,t,h=>by
  rw[List.flatMap_cons]
  by_cases ht:t<k
  ·rw[List.getElem?_append_left (by rw[hk];exact ht),Nat.div_eq_of_lt ht,Nat.mod_eq_of_lt ht]
   rfl
  ·rw[List.getElem?_append_right (by rw[hk];omega),hk]
   have hl:t - k<l.length*k:=by rw[QE,Qq73,Nat.one_mul]at h;omega
   rw[MQ hk hk0 l (t - k) hl,Nat.mod_eq_sub_mod (by omega:t>=k),show t / k=(t - k) / k+1 from Nat.div_eq_sub_div hk0 (by omega)]
   simp
def aae{gn:α->List Value}(hk:∀x,(gn x).length=k)(hk0:0<k)(l:List α):(flatK gn k l.toArray).toList=l.flatMap gn:=by
 have hlen:(l.flatMap gn).length=l.length*k:=by
  induction l with
  |nil=>simp
  |cons x l ih=>rw[List.flatMap_cons,QB,ih,hk,QE,Qq73,Nat.one_mul,Nat.add_comm]
 apply List.ext_getElem?;intro t
 by_cases ht:t<l.length*k
 ·rw[MQ hk hk0 l t ht];have hm:t % k<(gn l[t / k]!).length:=by rw[hk];exact Nat.mod_lt _ hk0
  rw[Qv hm];unfold flatK;simp only[Array.toList_map,Array.toList_range,QT,List.size_toArray];rw[List.getElem?_range ht];simp only[Qe];congr 1;rw[show(l.toArray)[t / k]! =l[t / k]! by simp]
  exact getElem!_pos (gn l[t / k]!) (t % k) hm
 ·rw[Qq72 (by rw[Array.length_toList,size_flatK,List.size_toArray];omega),Qq72 (by omega)]
def aex(P:Program)(g:Nat)(val:α->Value)(cf:α->α->Int):Prop:=∀(x y:α) (w:World),Calls P g #[val x,val y] w λe w'=>e= .returned (.int .i64 (cf x y))/\∃q os,w'=grow (w.drewN q) os
def PR{w:World}{b e cap:Nat}{xs:List α}{cur:Array Value}{F:Array Value}(hb:w.heap[b]?=some (.cells cur e (0,0)))(hF:F.toList=cur.toList.take F.size):Holds id w b 0 F:=by
 intro j hj
 have hc:cur[j]?=some F[j]:=by
  have h1:F.toList[j]?=some F[j]:=by rw[Array.getElem?_toList];exact Array.getElem?_eq_getElem hj
  rw[hF,Qq68,Qr hj,Array.getElem?_toList]at h1;exact h1
 rw[getElem!_pos F j hj];refine⟨?_,?_⟩
 ·unfold World.cell?;simp only[Nat.zero_add,hb];simpa using hc
 ·unfold World.frozen?;simp only[hb];simp
def aks{f g e:Nat}{cf:α->α->Int}(hS:Xs P f k)(hk0:0<k)(hk:∀x,(pv x).length=k)(hp:∀x,(pv x).all z8=true)(hO:Go.Sort.SWO (ltOf cf))(hT:∀x y,(ltOf cf) x y=false->(ltOf cf) y x=false->x=y)
  (eg:∀args w,(callFunc g args).run P w= .ok (.enter g args) w) (hc:aex P g (λx=> .agg (qZ pv x).toArray) cf):Xr P f g e k pv λx y=> !(ltOf cf) y x:=by
 intro w b cap xs cur hb hsx hn hcap hsz htake;have hlt:b<w.heap.size:=(Q9.1 hb).1;have hkE:∀x,(qZ pv x).length=k:=λx=>by rw[qZ,QC,hk]
 have hflat:∀l:List α,(flatK (qZ pv) k l.toArray).toList=l.flatMap (qZ pv):=aae hkE hk0;have hcs:CmpLays P g #[] (qZ pv) k cf b 0 xs.toArray.size w:=λm os dk _ x y=>hc x y _
 have hH:HoldsK (qZ pv) k w b 0 xs.toArray:=PR (xs:=xs) (cap:=cap) hb (by rw[hflat,size_flatK,List.size_toArray];exact htake.symm)
 have:=hS α (qZ pv) hkE (λx v hv=>by obtain⟨y,hy,rfl⟩:=QP.1 hv;exact TA (QH.1 (hp x) y hy)) cf hO g #[] b 0 cap xs.toArray w eg hcs hH hlt (by rw[List.size_toArray];exact hsx) hT
 refine this.mono λen w' ⟨h1,n,os,h2⟩=>⟨h1,?_⟩
 have hms:(xs.mergeSort λx y=> !(ltOf cf) y x).length=xs.length:=List.length_mergeSort xs
 have hFs:(flatK (qZ pv) k (xs.mergeSort λx y=> !(ltOf cf) y x).toArray).size=xs.length*k:=by rw[size_flatK,List.size_toArray,hms]
 have hFc:(flatK (qZ pv) k (xs.mergeSort λx y=> !(ltOf cf) y x).toArray).size<=cur.size:=by rw[hFs,hsz];exact Qq63 k hn
 subst h2;refine⟨_,VA hb,by unfold putCells;rw[Array.size_mapIdx],?_,abm⟩
 rw[Tw hFc,<-hFs,<-Array.length_toList,List.take_left,hflat]
def akt{f g e:Nat}{cf:α->α->Int}{p1:α->PV}(hS:Rz P f)(hp:∀x,z8 (p1 x)=true)(hO:Go.Sort.SWO (ltOf cf))(hT:∀x y,(ltOf cf) x y=false->(ltOf cf) y x=false->x=y)
  (eg:∀args w,(callFunc g args).run P w= .ok (.enter g args) w) (hc:aex P g (λx=>rH (p1 x)) cf):Xr P f g e 1 (λx=>[p1 x]) λx y=> !(ltOf cf) y x:=by
 intro w b cap xs cur hb hsx hn hcap hsz htake;have hlt:b<w.heap.size:=(Q9.1 hb).1
 have hflat:∀l:List α,(l.toArray.map λx=>rH (p1 x)).toList=l.flatMap (qZ λx=>[p1 x]):=λl=>by
  induction l with
  |nil=>simp
  |cons x l ih=>rw[List.flatMap_cons,<-ih];simp[qZ]
 have hcs:CmpLays1 P g #[] (λx=>rH (p1 x)) cf b 0 xs.toArray.size w:=λm os dk _ x y=>hc x y _
 have hF:=PR (xs:=xs) (cap:=cap) (F:=xs.toArray.map λx=>rH (p1 x)) hb (by rw[hflat,Array.size_map,List.size_toArray,<-Nat.mul_one xs.length];exact htake.symm)
 have hH:Holds (λx=>rH (p1 x)) w b 0 xs.toArray:=by
  intro j hj;have h1:=hF j (by rw[Array.size_map];exact hj)
  rw[getElem!_pos _ j (by rw[Array.size_map];exact hj),Array.getElem_map]at h1
  rw[getElem!_pos _ j hj];exact h1
 have:=hS α (λx=>rH (p1 x)) (λx=>TA (hp x)) cf hO g #[] b 0 cap xs.toArray w eg hcs hH hlt (by rw[List.size_toArray];exact hsx) hT
 refine this.mono λen w' ⟨h1,n,os,h2⟩=>⟨h1,?_⟩
 have hms:(xs.mergeSort λx y=> !(ltOf cf) y x).length=xs.length:=List.length_mergeSort xs
 have hput:∀(W:World) (d:Array α),putRow (λx=>rH (p1 x)) W b 0 d=putRow id W b 0 (d.map λx=>rH (p1 x)):=λW d=>by
  unfold putRow;congr 1
  funext c
  unfold putCells;apply Array.ext_getElem?;intro i;simp only[Array.getElem?_mapIdx,Array.size_map,QS,true_and,Nat.zero_add,Nat.sub_zero,id]
  cases c[i]? with
  |none=>rfl
  |some y=>
   simp only[Qe]
   by_cases hi:i<d.size
   ·rw[Qr hi,Qr hi,getElem!_pos d i hi,getElem!_pos _ i (by rw[Array.size_map];exact hi),Array.getElem_map]
   ·rw[Qs hi,Qs hi]
 unfold sortWorld at h2;rw[hput]at h2;have hFs:((xs.mergeSort λx y=> !(ltOf cf) y x).toArray.map λx=>rH (p1 x)).size=xs.length*1:=by rw[Array.size_map,List.size_toArray,hms,Nat.mul_one]
 have hFc:((xs.mergeSort λx y=> !(ltOf cf) y x).toArray.map λx=>rH (p1 x)).size<=cur.size:=by rw[hFs,hsz];exact Qq63 1 hn
 subst h2;refine⟨_,VA hb,by unfold putCells;rw[Array.size_mapIdx],?_,abm⟩
 rw[Tw hFc,<-hFs,<-Array.length_toList,List.take_left,hflat]
end
def Y6{P:Program}{g:Nat}{α:Type}{va:α->PV}{val:α->Value}{cf:α->α->Int}(hval:∀(x:α) (w:World) (M:Nat->Prop),bp w M ed (va x) (val x))(h:∀x y,Con P g false [] [va x,va y] (.int .i64 (cf x y)) [])(hg:aaa=[]:=by rfl):aex P g val cf:=by
 intro x y w;have hG:GI w:=λq hq=>by rw[hg]at hq;cases hq
 have:=h x y w (λ_=>False) (.nil hG) 0 0 [] [val x,val y] (λe=>by cases e) (.cons (hval x w _) (.cons (hval y w _) .nil))
 refine this.mono λen w' ⟨v,rvs,h1,h2,_,h4⟩=> ?_
 rw[h2.jE]at h1;exact⟨h1,agB h4⟩
end
section
open Go.Proofs Go.Sort
def KL{α:Type}(c:α->α->Option Int)(x y:α):Int:=(c x y).getD 0
structure afd {α:Type} (c:α->α->Option Int):Prop where
 some:∀x y,c x y=some (KL c x y)
 ord:Go.Sort.SWO (ltOf (KL c))
 tot:∀x y,ltOf (KL c) x y=false->ltOf (KL c) y x=false->x=y
open Classical in
 def CV{α:Type}(c:α->α->Option Int)(s:List α):Option (Unit×List α):=if afd c/\s.length<4611686018427387904 then some ((),s.mergeSort λx y=> !(ltOf (KL c)) y x)else none
section
variable {P : Program} {f g e k : Nat} {T : Ty} {F : T.den × T.den × Unit -> Option Int} (hent : Enters P f) (h0 : KU P f) (hgs : dU.Sound P (U := U) (.fn g [.ty T, .ty T] (.one (Ty.i .i64)) F)) (hi : Inhabited T.den) (hp : ∀ x : T.den, (T.pv x).all z8 = true)
 include hent h0 hgs hi hp
theorem ai7(hS:Xs P f k)(hk0:0<k)(hk:∀x:T.den,(T.pv x).length=k)(hv:∀x:T.den,fC (U:=U) T x= .agg (T.pv x)):
  dU.Sound P (U:=U) (.rw f e k T [.bI g []] (.many []) λs a=>CV (λx y=>F (x,y,())) s):=by
 refine⟨hent,λxs a r ys h=> ?_⟩
 have h:CV (λx y=>F (x,y,())) xs=some (r,ys):=h
 unfold CV at h;split at h
 ·rename_i hc;injection h with h
  injection h with _ h2
  subst h2;refine Yj h0 (aks hS hk0 hk hp hc.1.ord hc.1.tot (λargs w=>nB hgs.1 args) ?_) hk0 hk hp xs hc.2
  refine Y6 (va:=λx=> .agg (T.pv x)) (λx w M=> .agg _ _ (by rw[qZ,QC]) λi y v h1 h2=> ?_) λx y=> ?_
  ·rw[qZ,QT,h1]at h2;injection h2 with h2
   rw[<-h2];exact JP (QH.1 (hp x) y (Q8 h1))
  ·have:=hgs.2 (x,y,()) _ (hc.1.some x y);rw[show gU (U:=U) [.ty T,.ty T] (x,y,())=[.agg (T.pv x),.agg (T.pv y)]by rw[<-hv x,<-hv y];rfl]at this
   exact this
 ·cases h
theorem Zo(hS:Rz P f)(hv:∀x:T.den,T.pv x=[fC (U:=U) T x]):
  dU.Sound P (U:=U) (.rw f e 1 T [.bI g []] (.many []) λs a=>CV (λx y=>F (x,y,())) s):=by
 refine⟨hent,λxs a r ys h=> ?_⟩
 have h:CV (λx y=>F (x,y,())) xs=some (r,ys):=h
 unfold CV at h;split at h
 ·rename_i hc;injection h with h
  injection h with _ h2
  subst h2;have hp1:∀x:T.den,z8 (fC (U:=U) T x)=true:=λx=>by have:=hp x;rw[hv x]at this;simpa using this
  have hpv:(λx:T.den=>T.pv x)=λx=>[fC (U:=U) T x]:=funext hv
  have:=Yj (pv:=λx:T.den=>[fC (U:=U) T x]) (e:=e) h0 (akt hS hp1 hc.1.ord hc.1.tot (λargs w=>nB hgs.1 args) (Y6 (va:=λx=>fC (U:=U) T x) (λx w M=>JP (hp1 x)) λx y=>hgs.2 (x,y,()) _ (hc.1.some x y))) (by omega) (λx=>rfl) (λx=>by simpa using hp1 x) xs hc.2
  rw[<-hpv]at this;exact this
 ·cases h
end
end
end Go.TQ
end
noncomputable section
namespace Go.Proofs
open Go.Shelf
def exF{P:Program}{f:FuncId}{fn:Func}(h:(((P.funcs[f]?).map Func.name).getD ""== "runtime.NumGoroutine")=false)(h2:P.funcs[f]?=some {fn with name:=((P.funcs[f]?).map Func.name).getD ""}):Bears P f fn:=⟨_,h,h2⟩
def Hh:Go.Shelf.Ren:=⟨λ|6=>342|15=>381|14=>380|28=>417|29=>418|20=>409|21=>410|22=>411|23=>412|24=>413|25=>414|26=>415|27=>416|46=>441|47=>442|48=>443|49=>444|50=>445|57=>456|n=>n,λ|22=>32|24=>9|25=>204|3=>3|39=>184|0=>0|53=>298|55=>318|4=>4|46=>325|45=>324|50=>102|5=>5|9=>9|66=>343|70=>347|76=>354|77=>225|n=>n,λ|n=>n⟩
set_option maxRecDepth 100000 in
def Ry:Go.Proofs.SlLaysF.n6 Tryz.prog Hh:=by
 constructor
 all_goals first
  |kernel_rfl
  |exact λ_=>by kernel_rfl
  |exact exF (by kernel_rfl) (by kernel_rfl)
def S7:Go.Shelf.Ren:=⟨λ|6=>446|15=>381|14=>457|28=>417|29=>418|20=>459|21=>460|22=>461|23=>462|24=>463|25=>464|26=>465|27=>466|46=>475|47=>442|48=>443|49=>476|50=>477|57=>481|n=>n,λ|22=>206|24=>36|25=>264|3=>3|39=>184|0=>0|53=>298|55=>318|4=>4|46=>325|45=>324|50=>102|5=>5|9=>9|66=>343|70=>347|76=>354|77=>225|n=>n,λ|n=>n⟩
set_option maxRecDepth 100000 in
def Rx:Go.Proofs.SlLaysF0.n6 Tryz.prog S7:=by
 constructor
 all_goals first
  |kernel_rfl
  |exact λ_=>by kernel_rfl
  |exact exF (by kernel_rfl) (by kernel_rfl)
def Hg:Go.Shelf.Ren:=⟨λ|6=>450|15=>381|14=>458|28=>417|29=>418|20=>467|21=>468|22=>469|23=>470|24=>471|25=>472|26=>473|27=>474|46=>478|47=>442|48=>443|49=>479|50=>480|57=>482|n=>n,λ|22=>22|24=>3|25=>42|3=>3|39=>184|0=>0|53=>298|55=>318|4=>4|46=>325|45=>324|50=>102|5=>5|9=>9|66=>343|70=>347|76=>354|77=>225|n=>n,λ|n=>n⟩
set_option maxRecDepth 100000 in
def Rw:Go.Proofs.SlLaysF.n6 Tryz.prog Hg:=by
 constructor
 all_goals first
  |kernel_rfl
  |exact λ_=>by kernel_rfl
  |exact exF (by kernel_rfl) (by kernel_rfl)
end Go.Proofs
namespace Go.Proofs.YtofedieniojipaaGreat
open Go.TQ Go.Proofs
namespace D7
def enters:Go.TQ.Enters Tryz.prog 342:=⟨_,Tryz.func342,by kernel_rfl,by kernel_rfl⟩
def none:KU Tryz.prog 342:=λp cap fv w=>AnyF.slices_SortFunc_none (P:=Tryz.prog) (ρ:=Hh) {Ry with} p cap fv w
def Ld:Rz Tryz.prog 342:=λα _ gn h1 cf hO g cb cd off cap d w eg hc hH hb hsz hT=>Any.slices_SortFunc_total Ry gn h1 cf hO g cb cd off cap d w eg hc hH hb hsz hT
end D7
namespace Om
def enters:Go.TQ.Enters Tryz.prog 446:=⟨_,Tryz.func446,by kernel_rfl,by kernel_rfl⟩
def none:KU Tryz.prog 446:=λp cap fv w=>AnyF.slices_SortFunc_none Rx p cap fv w
def Ld:Xs Tryz.prog 446 2:=λα _ gn hk h1 cf hO g cb cd off cap d w eg hc hH hb hsz hT=>AnyQ.slices_SortFunc_total Rx 2 Tryz.isAgg36 Tryz.sizeOf36 gn hk h1 cf hO g cb cd off cap d w eg hc hH hb hsz hT
end Om
namespace Ol
def enters:Go.TQ.Enters Tryz.prog 450:=⟨_,Tryz.func450,by kernel_rfl,by kernel_rfl⟩
def none:KU Tryz.prog 450:=λp cap fv w=>AnyF.slices_SortFunc_none (P:=Tryz.prog) (ρ:=Hg) {Rw with} p cap fv w
def Ld:Rz Tryz.prog 450:=λα _ gn h1 cf hO g cb cd off cap d w eg hc hH hb hsz hT=>Any.slices_SortFunc_total Rw gn h1 cf hO g cb cd off cap d w eg hc hH hb hsz hT
end Ol
end Go.Proofs.YtofedieniojipaaGreat
end
