/-
  Texts made small by a program (see NOTES). Conditions: those that each theorem names.
-/
import Derived.Test.YtofedieniojipaaGreatParticipantKeepsMb
import Derived.KernelRfl
import Derived.Laws.CopyRow
import Derived.Laws.Externs
import Derived.Lib.Overlaps
import Derived.Lib.AppendZerosOnto
import Derived.Laws.NewBlocks
import Derived.Test.YtofedieniojipaaGreatProg
import Derived.Shelf.Spec.SlicesInsert
import Derived.Shelf.SlSortCmp.NoneTotal
set_option linter.unusedVariables false
set_option linter.defProp false
set_option linter.unusedSimpArgs false
set_option linter.unusedSectionVars false
set_option maxHeartbeats 2000000
noncomputable section
namespace Go.TQ
section
open Go.RowKit
def sD{σ ρ:Type}(step:σ->Option (σ⊕ρ)):Nat->σ->Option ρ
 |0,_=>none
 |n+1,s=>match step s with
  |none=>none
  |some (.inr r)=>some r
  |some (.inl s')=>sD step n s'
def H4{σ ρ:Type}{step:σ->Option (σ⊕ρ)}{r:ρ}:∀{n m:Nat} {s:σ},n<=m->sD step n s=some r->sD step m s=some r
 |0,_,_,_,h=>by cases h
 |n+1,0,_,hnm,_=>by omega
 |n+1,m+1,s,hnm,h=>by
  simp only[sD]at h ⊢;split at h
  ·cases h
  ·exact h
  ·exact H4 (by omega) h
def abN{σ ρ:Type}{step:σ->Option (σ⊕ρ)}{r r':ρ}{n m:Nat}{s:σ}(h:sD step n s=some r)(h':sD step m s=some r'):r=r':=by have h1:=H4 (Nat.le_max_left n m) h;have h2:=H4 (Nat.le_max_right n m) h';rw[h1]at h2;injection h2
open Classical in
 def aE{σ ρ:Type}(step:σ->Option (σ⊕ρ))(s:σ):Option ρ:=
 if h:∃r,∃n,sD step n s=some r then some (Classical.choose h)else none
def Dm{σ ρ:Type}{step:σ->Option (σ⊕ρ)}{s:σ}{r:ρ}(h:aE step s=some r):∃n,sD step n s=some r:=by
 unfold aE at h;split at h
 ·rename_i hx;injection h with h
  obtain⟨n,hn⟩:=Classical.choose_spec hx;exact⟨n,by rw[hn,h]⟩
 ·cases h
def No{σ ρ:Type}{step:σ->Option (σ⊕ρ)}{s:σ}{r:ρ}{n:Nat}(h:sD step n s=some r):aE step s=some r:=by unfold aE;have hx:∃r,∃n,sD step n s=some r:=⟨r,n,h⟩;rw[dif_pos hx];obtain⟨m,hm⟩:=Classical.choose_spec hx;rw[abN hm h]
def fg{σ ρ:Type}(step:σ->Option (σ⊕ρ))(s:σ):aE step s=match step s with|none=>none|some (.inr r)=>some r|some (.inl s')=>aE step s':=by
 cases hs:step s with
 |none=>
  cases h:aE step s with
  |none=>rfl
  |some r=>
   obtain⟨n,hn⟩:=Dm h
   cases n with
   |zero=>cases hn
   |succ n=>simp[sD,hs]at hn
 |some x=>
  cases x with
  |inr r=>exact No (n:=1) (by simp[sD,hs])
  |inl s'=>
   simp only
   cases h':aE step s' with
   |some r=>obtain⟨n,hn⟩:=Dm h';exact No (n:=n+1) (by simp only[sD,hs];exact hn)
   |none=>
    cases h:aE step s with
    |none=>rfl
    |some r=>
     obtain⟨n,hn⟩:=Dm h
     cases n with
     |zero=>cases hn
     |succ n=>simp only[sD,hs]at hn;rw[No hn]at h';cases h'
open Classical in
 def both{ρ:Type}(x y:Option ρ):Option ρ:=if x=y then x else none
def acm{ρ:Type}{x y:Option ρ}{r:ρ}(h:both x y=some r):x=some r/\y=some r:=by
 unfold both at h;split at h
 ·rename_i e;exact⟨h,e▸h⟩
 ·cases h
@[simp] def akd {ρ:Type} (x:Option ρ):both x x=x:=Qr rfl
def aY{σ ρ:Type}(j:σ->Option ρ)(f:(σ->Option ρ)->Option ρ):Option ρ:=f j
def n9{α σ ρ:Type}(step:Nat->α->σ->Option (σ⊕ρ))(fin:σ->Option ρ):List α->σ->Option ρ
 |[],s=>fin s
 |a::l,s=>match step l.length a s with
  |none=>none
  |some (.inr r)=>some r
  |some (.inl s')=>n9 step fin l s'
section
variable {U : TU}
inductive SA (U:TU) where
 |skip
 |tM (rs:RS U)
 |rH (un:List (Nat×Nat)) (rs:RS U)
 |seq (x y:SA U)
 |join (J:JS U) (x y:SA U)
 |cond (c:bB) (x y:SA U)
 |block (id:Nat) (x:SA U)
 |loop (J:JS U) (x:SA U)
 |Mo (n:Nat) (x:SA U)
 |back (J:JS U) (f k:Nat) (nE:Option Nat) (T:U.Ty) (tg p0 p1:Nat) (x y:SA U)
 |exit (id:Nat)
 |ret
 |ps (p:Ps U) (x:SA U)
 |B5 (p:Ps U) (x:SA U)
 |inl (r1:RS U) (d:Option Nat) (f:FuncId) (c:Option bB) (xs:List bB) (nt:Nat) (rvs:List RV) (x:SA U) (r2:RS U)
def Z0(f:FuncId)(c:Option bB)(xs:List bB):ct:=
 match c with
 |none=> .call f xs
 |some fv=> .uk fv xs
def SA.erase:SA U->SC
 | .skip=> .skip
 | .tM rs=> .tM rs.flat
 | .rH un rs=> .rH un rs.flat
 | .seq x y=> .seq x.erase y.erase
 | .join _ x y=> .seq x.erase y.erase
 | .cond c x y=> .cond c x.erase y.erase
 | .block id x=> .block id x.erase
 | .loop _ x=> .loop x.erase
 | .Mo _ x=> .loop x.erase
 | .back _ _ _ _ _ tg p0 p1 x y=> .Gs (.tmp tg) [p0,p1] x.erase y.erase
 | .exit id=> .exit id
 | .ret=> .ret
 | .ps _ x| .B5 _ x=>x.erase
 | .inl r1 d f c xs _ _ _ r2=> .tM (r1.flat++⟨d,none,Z0 f c xs⟩::r2.flat)
def SA.dB:SA U->Bool
 | .tM rs| .rH _ rs=>rs.dB
 | .seq x y| .join _ x y=>x.dB&&y.dB
 | .cond c x y=>c.dB&&x.dB&&y.dB
 | .block _ x| .loop _ x| .Mo _ x=>x.dB
 | .back _ _ _ _ _ _ _ _ x y=>x.dB&&y.dB
 | .ps _ x| .B5 _ x=>x.dB
 | .inl ..=>false
 |_=>true
def SA.vR(P:Program):SA U->Prop
 | .tM rs| .rH _ rs=>rs.dB=true
 | .seq x y| .join _ x y=>x.vR P/\y.vR P
 | .cond c x y=>(c.dB=true/\x.vR P)/\y.vR P
 | .block _ x| .loop _ x| .Mo _ x=>x.vR P
 | .back _ _ _ _ _ _ _ _ x y=>x.vR P/\y.vR P
 | .ps _ x| .B5 _ x=>x.vR P
 | .inl r1 _ f c xs nt rvs x r2=>(r1.dB=true/\r2.dB=true/\xs.all bB.dB=true/\c.all bB.dB=true)/\x.erase.My=true/\iQ P f nt x.erase rvs/\x.vR P
 |_=>True
def oN{P:Program}:∀{sa:SA U},sa.dB=true->sa.vR P
 | .tM _,h| .rH _ _,h=>h
 | .seq x y,h| .join _ x y,h=>by simp only[SA.dB,Qm]at h;exact⟨oN h.1,oN h.2⟩
 | .cond c x y,h=>by simp only[SA.dB,Qm]at h;exact⟨⟨h.1.1,oN h.1.2⟩,oN h.2⟩
 | .block _ x,h| .loop _ x,h| .Mo _ x,h| .ps _ x,h| .B5 _ x,h=>oN (sa:=x) h
 | .back _ _ _ _ _ _ _ _ x y,h=>by simp only[SA.dB,Qm]at h;exact⟨oN h.1,oN h.2⟩
 | .inl ..,h=>by cases h
 | .skip,_| .exit _,_| .ret,_=>trivial
def SA.Bh:SA U->Bool
 | .tM rs| .rH _ rs=>rs.dB
 | .seq x y| .join _ x y=>x.Bh&&y.Bh
 | .cond c x y=>c.dB&&x.Bh&&y.Bh
 | .block _ x| .loop _ x| .Mo _ x=>x.Bh
 | .back _ _ _ _ _ _ _ _ x y=>x.dB&&y.dB
 | .ps _ x| .B5 _ x=>x.Bh
 | .inl r1 _ _ c xs _ _ x r2=>r1.dB&&r2.dB&&xs.all bB.dB&&c.all bB.dB&&x.erase.My&&x.Bh
 |_=>true
def SA.Ss:SA U->List (FuncId×Nat×SC×List RV)
 | .seq x y| .join _ x y| .cond _ x y=>x.Ss++y.Ss
 | .block _ x| .loop _ x| .Mo _ x| .ps _ x| .B5 _ x=>x.Ss
 | .inl _ _ f _ _ nt rvs x _=>(f,nt,x.erase,rvs)::x.Ss
 |_=>[]
def w9(P:Program):List (FuncId×Nat×SC×List RV)->Prop
 |[]=>True
 |q::l=>iQ P q.1 q.2.1 q.2.2.1 q.2.2.2/\w9 P l
def w9.cy{P:Program}:∀{a b:List (FuncId×Nat×SC×List RV)},w9 P (a++b)->w9 P a/\w9 P b
 |[],_,h=>⟨trivial,h⟩
 |_::a,_,h=>⟨⟨h.1,(w9.cy (a:=a) h.2).1⟩,(w9.cy (a:=a) h.2).2⟩
def Bg{P:Program}:∀{sa:SA U},sa.Bh=true->w9 P sa.Ss->sa.vR P
 | .tM _,h,_| .rH _ _,h,_=>h
 | .seq x y,h,k| .join _ x y,h,k=>by simp only[SA.Bh,Qm]at h;exact⟨Bg h.1 (w9.cy k).1,Bg h.2 (w9.cy k).2⟩
 | .cond c x y,h,k=>by simp only[SA.Bh,Qm]at h;exact⟨⟨h.1.1,Bg h.1.2 (w9.cy k).1⟩,Bg h.2 (w9.cy k).2⟩
 | .block _ x,h,k| .loop _ x,h,k| .Mo _ x,h,k| .ps _ x,h,k| .B5 _ x,h,k=>Bg (sa:=x) h k
 | .back _ _ _ _ _ _ _ _ x y,h,_=>by simp only[SA.Bh,Qm]at h;exact⟨oN h.1,oN h.2⟩
 | .inl r1 d f c xs nt rvs x r2,h,k=>by simp only[SA.Bh,Qm]at h;exact⟨⟨h.1.1.1.1.1,h.1.1.1.1.2,h.1.1.1.2,h.1.1.2⟩,h.1.2,k.1,Bg h.2 k.2⟩
 | .skip,_,_| .exit _,_,_| .ret,_,_=>trivial
variable (K : TK U)
def Fa(Γ:List (dQ U)){ρ:Type}(W:WS)(base:Nat):RS U->(i:Nat)->(S:aU U)->(k:aU U->List xv->Option ρ)->Option ρ
 | .nil,_,S,k=>k S []
 | .op o r,i,S,k=>aah K Γ W (base+i) S o λx wr=>Fa Γ W base r (i+1) (S.cy o.d x wr) λS' fs=>k S' (⟨o.d,o.cQ,GU (base+i) S.st o,wr.map (·.1)⟩::fs)
 | .CS t r,i,S,k=>(match S.env t with
  | .bool b=>bif b then Fa Γ W base r i (S.cy (some t) (.bool true) none) k else Fa Γ W base r i (S.cy (some t) (.bool false) none) k
  | .undef=>Fa Γ W base r i S k
  |_=>none)
 |_,_,_,_=>none
def FM(F:List Nat)(ds:List Nat):Bool:=ds.all λt=> !iM t F
def aU.more(S:aU U)(n:Nat):aU U:={env:=S.env,H:=S.H,N:=S.N+n}
def aU.gE(S:aU U)(D:List Nat):aU U:={env:=λt=>(match iM t D with|true=> .any|false=>S.env t),H:=S.H,N:=S.N}
def ZU(U:TU)(T:U.Ty):Option Nat->Bool
 |none=> !U.agg T
 |some n=>U.agg T&&Nat.beq n (U.size T)
def Ln(S:aU U)(f:FuncId)(c:Option bB)(xs:List bB):Option (List (KV U)):=
 match c with
 |none=>some (xs.map (·.df S))
 |some fv=>(match fv.df S with
  | .bI g caps=>(match Nat.beq g f with|true=>some (xs.map (·.df S)++caps)|false=>none)
  |_=>none)
def aeB(S:aU U):KV U->KV U->Bool
 | .ptr i v o,.ptr i' v' o'=>Nat.beq i i'&&Nat.beq v v'&&Nat.beq o o'&&Nat.beq (S.H i).av v
 |_,_=>false
def UN(S:aU U)(A_s:List (KV U))(t:Nat):Bool:=(S.env t).pY (λ_=>false)||A_s.any (aeB S (S.env t))
def ahA(id:Nat):KV U->Bool
 | .ptr i _ _=>Nat.beq i id
 | .bI _ cs| .jw _ cs=>cs.any (λx=>match x with| .ptr i _ _=>Nat.beq i id|_=>false)
 |_=>false
def xr(S:aU U)(A_s:List (KV U))(id:Nat):Bool:=
 Nat.blt id S.N&& !Nat.beq id 0&&(match(S.H id).c with| .box cs=>cs.all KV.closed|_=>false)&& !A_s.any (ahA id)
def H5(S:aU U)(A_s:List (KV U)):aU U:={env:=S.env,H:=λid=>(match xr S A_s id with|true=>⟨(S.H id).av,.dead⟩|false=>S.H id),N:=S.N}
def agf:dU U->Bool
 | .dead=>true
 |_=>false
def ae4(S S':aU U)(A_s:List (KV U)):Bool:=G6 S.N (λid=> !xr S A_s id||agf (S'.H id).c)
def Wj(S:aU U)(A_s:List (KV U)):aU U:={env:=λt=>(A_s[t]?).getD .undef,H:=S.H,N:=S.N}
def Rm(S S':aU U)(A_s:List (KV U))(t:Nat):KV U:=
 match UN S A_s t with
 |true=>S.env t
 |false=>(match S.env t with
  | .ptr id v o=>(match xr S A_s id&&Nat.beq (S.H id).av v with|true=> .ptr id (Nat.succ (S'.H id).av) o|false=> .any)
  |_=> .any)
def Am(S S':aU U)(A_s:List (KV U))(d:Option Nat)(r:KV U):aU U:=
 ({env:=Rm S S' A_s,H:=λid=>(match xr S A_s id with|true=>⟨Nat.succ (S'.H id).av,(S.H id).c⟩|false=>S'.H id),N:=S'.N}:aU U).cy d r none
def HF(S S':aU U)(r:KV U)(id:Nat):Bool:=Nat.ble S.N id&&(match(S'.H id).c with| .box _=>true|_=>false)&& !ahA id r
def aU.Fh(S:aU U)(q:Nat->Bool):aU U:={env:=S.env,H:=λid=>(match q id with|true=>⟨(S.H id).av,.dead⟩|false=>S.H id),N:=S.N}
def Wh(S:aU U)(F:List Nat)(W:WS)(A_s:List (KV U))(nt:Nat)(ts:List Nat):Bool:=
 (match W with|some (n,_)=>Nat.ble n S.N|none=>false)&&Nat.ble A_s.length nt&&ts.all (λt=>Nat.ble A_s.length t)&&F.all (UN S A_s)&&G6 S.N (λid=> !xr S A_s id||okW W id)
def U2{ρ:Type}(f:(aU U->Option ρ)->aU U->Option ρ):Nat->aU U->Option ρ
 |0,_=>none
 |n+1,S=>f (U2 f n) S
 def oS(Γ:List (dQ U)):SA U->{ρ:Type}->(F:List Nat)->(W:WS)->(k:Exit->aU U->Option ρ)->(S:aU U)->Option ρ
 | .skip,_,_,_,k,S=>k .normal S
 | .tM rs,_,F,W,k,S=>(match FM F rs.iy with
  |true=>ji K Γ rs W S.N (S.more rs.len) λS'=>k .normal S'
  |false=>none)
 | .rH un rs,_,F,W,k,S=>(match FM F rs.iy with
  |true=>Fa K Γ W S.N rs 0 (S.more rs.len) λS' fs=>(match un.all (λp=>match fs[p.1]?,fs[p.2]? with|some a,some b=>Er a b|_,_=>false)with
   |true=>k .normal S'
   |false=>none)
  |false=>none)
 | .seq x y,_,F,W,k,S=>oS Γ x F W (λe S'=>match e with
  | .normal=>oS Γ y F W k S'
  |e=>k e S') S
 | .join J x y,_,F,W,k,S=>(match wv S J F W with
  |true=>aY (λv=>oS Γ y F W k (unpack K S J v)) λj=>oS Γ x J.eM (some (S.N,fJ J.items)) (λe S'=>match e with
   | .normal=>(match pack K S' J.items with|some v=>j v|none=>none)
   |e=>k e S') S
  |false=>none)
 | .cond c x y,_,F,W,k,S=>(match c.df S with
  | .bool b=>bif b then oS Γ x F W k S else oS Γ y F W k S
  | .gO=>both (oS Γ x F W k S) (oS Γ y F W k S)
  |_=>none)
 | .block id x,_,F,W,k,S=>oS Γ x F W (λe S'=>match e with
  | .exit i=>(match Nat.beq i id with|true=>k .normal S'|false=>k (.exit i) S')
  |e=>k e S') S
 | .loop J x,_,F,W,k,S=>(match wv S J F W with
  |true=>(match pack K S J.items with
   |some v0=>aE (λv=>oS Γ x J.eM (some (S.N,fJ J.items)) (λe S'=>match e with
    | .normal=>(match pack K S' J.items with|some v=>some (Sum.inl v)|none=>none)
    |e=>(k e S').map Sum.inr) (unpack K S J v)) v0
   |none=>none)
  |false=>none)
 | .Mo n x,_,F,W,k,S=>U2 (λih S=>oS Γ x F W (λe S'=>match e with| .normal=>ih S'|e=>k e S') S) n S
 | .back J f kk nE T tg p0 p1 x y,_,F,W,k,S=>
  let D:=SC.sS (.Gs (.tmp tg) [p0,p1] x.erase y.erase)
  (match PS f kk nE Γ&&Nat.beq (U.size T) kk&&ZU U T nE&&iM tg J.eM&&FM J.eM D&&FM F D&&wv (S.gE D) J F W with
  |true=>(match S.env tg with
   | .bI f' [.ref [.sl T' xs']]=>(match Nat.beq f' f with
    |true=>(match yl T' T xs' with
     |some xs=>(match pack K (S.gE D) J.items with
      |some v0=>n9 (λm a v=>oS Γ x J.eM (some (S.N,fJ J.items)) (λe S1=>match e with
       | .normal=>oS Γ y J.eM (some (S.N,fJ J.items)) (λe S'=>match e with
        | .normal=>(match pack K (S'.gE D) J.items with|some v=>some (Sum.inl v)|none=>none)
        | .ret=>(k .ret (S'.gE D)).map Sum.inr
        | .exit i=>(k (.exit i) (S'.gE D)).map Sum.inr
        |_=>none) S1
       |_=>none) {(unpack K (S.gE D) J v)with env:=ib (ib (unpack K (S.gE D) J v).env p0 (.int .i64 m)) p1 (A6 K T a)}) (λv=>k .normal (unpack K (S.gE D) J v)) xs.reverse v0
      |none=>none)
     |none=>none)
    |false=>none)
   |_=>none)
  |false=>none)
 | .inl r1 d f c xs nt rvs x r2,_,F,W,k,S=>(match FM F (r1.iy++d.toList++r2.iy)with
  |true=>ji K Γ r1 W S.N (S.more r1.len) λS1=>(match Ln S1 f c xs with
   |some A_s=>(match Wh S1 F W A_s nt x.erase.sS with
    |true=>oS Γ x (List.range A_s.length) W (λe S2=>match e with
     | .ret| .normal=>(match zz S2 rvs with
      |some v=>(match ae4 S1 S2 A_s with|true=>ji K Γ r2 W S2.N (((Am S1 S2 A_s d v).Fh (HF S1 S2 v)).more r2.len) λS3=>k .normal S3|false=>none)
      |none=>none)
     |_=>none) (Wj (H5 S1 A_s) A_s)
    |false=>none)
   |none=>none)
  |false=>none)
 | .exit id,_,_,_,k,S=>k (.exit id) S
 | .ret,_,_,_,k,S=>k .ret S
 | .ps p x,_,F,W,k,S=>(match(p.HK S).all (okW W)&&FM F p.tmps with
  |true=>(match p.run S with|some S'=>oS Γ x F W k S'|none=>none)
  |false=>none)
 | .B5 p x,_,F,W,k,S=>oS Γ x F W (λe S'=>match e with
  | .normal=>(match(p.HK S').all (okW W)&&FM F p.tmps with
   |true=>(match p.run S' with|some S1=>k .normal S1|none=>none)
   |false=>none)
  |e=>k e S') S
structure iP (F:List Nat) (W:WS) (S S':aU U):Prop where
 env:∀t∈F,S'.env t=S.env t
 H:∀id,okW W id=false->S'.H id=S.H id
 N:S.N<=S'.N
def iP.refl(F:List Nat)(W:WS)(S:aU U):iP F W S S:=⟨λ_ _=>rfl,λ_ _=>rfl,QI _⟩
def iP.trans{F:List Nat}{W:WS}{S S' S'':aU U}(h:iP F W S S')(h':iP F W S' S''):iP F W S S'':=
 ⟨λt ht=>(h'.env t ht).trans (h.env t ht),λid hid=>(h'.H id hid).trans (h.H id hid),QK h.N h'.N⟩
def C5.toC{D F:List Nat}{W:WS}{S S':aU U}(h:C5 D W S S')(ho:FM F D=true):iP F W S S':=
 ⟨λt ht=>h.env t (λhd=>by have h1:=QH.1 ho t hd;rw[eo.2 ht]at h1;cases h1),h.H,h.N⟩
def iP.more{F:List Nat}{W:WS}{S S':aU U}{n:Nat}(h:iP F W (S.more n) S'):iP F W S S':=
 ⟨h.env,h.H,QK (Nat.le_add_right _ _) h.N⟩
variable {K}
variable {P : Program} {nt : Nat}
def SP{sc:SC}{Q:Exit->St->Prop}{S S':St}(hw:∀(E:En) (a:Act) (w:World) (L:Nat->Value),Rel E S a w L->∃L',Rel E S' a w L')(h:VS P nt sc Q S'):VS P nt sc Q S:=
 λc hs hc E hE hk a w L hr=>by obtain⟨L',h'⟩:=hw E a w L hr;exact h c hs hc E hE hk a w L' h'
def ag7{sc:SC}{Q Q':Exit->St->Prop}{S:St}(h:VS P nt sc Q' S)(hq:∀e A,Q' e A->∃A',Q e A'/\∀(E:En) (a:Act) (w:World) (L:Nat->Value),Rel E A a w L->∃L',Rel E A' a w L'):VS P nt sc Q S:=
 λc hs hc E hE hk a w L hr=>wpIn_mono (h c hs hc E hE hk a w L hr) λ_ _ _ ⟨S',L',h1,h2⟩=>by obtain⟨A',h3,h4⟩:=hq _ _ h2;obtain⟨L'',h5⟩:=h4 _ _ _ _ h1;exact⟨A',L'',h5,h3⟩
def ag6{Γ:List (dQ U)}(hΓ:vi P Γ){rs:RS U}{W:WS}{ρ:Type}{k:aU U->Option ρ}{r:ρ}{S:aU U}(hok:rs.dB=true)(hr:ji K Γ rs W S.N (S.more rs.len) k=some r){Q:Exit->St->Prop}
  (h:∀S',C5 rs.iy W (S.more rs.len) S'->k S'=some r->Q .normal S'.st):VS P nt (.tM rs.flat) Q S.st:=by
 intro c hs hc
 cases c with
 |region id ops d=>
  cases d with
  |true=>simp only[aW]at hc;(try split at hc)<;>(try split at hc)<;>(try split at hc)<;>cases hc
  |false=>
   simp only[aW]at hc;split at hc
   ·rename_i gs' hgs;split at hc
    ·rename_i hd;injection hc with hc
     injection hc with hc
     subst hc;intro E hE hk a w L hrel;refine wpIn_region_list ?_;have h0:Rel E (S.more rs.len).st a w L:=hrel.room rs.len;have:=ni (K:=K) (E:=E) hΓ (ops:=ops) (Q:=λe a' w'=>∃S' L',Rel E S' a' w' L'/\Q e S') rs W S.N (S.more rs.len) k r ops.toList [] a w L hok hgs h0 (QI _) (W0 hE hk (P6 hd)) hr (λS' a' w' L' hf h' hk'=>⟨S'.st,L',h',h S' hf hk'⟩)
     simpa using this
    ·cases hc
   ·cases hc
 |seq x y|cond c x y=>simp only[aW]at hc;split at hc<;>cases hc
 |block id c|loop c=>simp only[aW,Qb]at hc;obtain⟨_,_,hc⟩:=hc;cases hc
 |rangeFunc g ps x y=>simp only[aW]at hc;(try split at hc)<;>(try split at hc)<;>cases hc
 |_=>simp only[aW]at hc<;>cases hc
def Ou{Γs Γs':Nat->qf}{base:Nat}:∀(l:List (Nat×SG)) (S:St),(∀p∈l,Γs p.1=Γs' p.1)->pV Γs base l S=pV Γs' base l S
 |[],_,_=>rfl
 |(i,g)::l,S,h=>by
  simp only[pV,h (i,g) (by simp)]
  split
  ·rfl
  ·rename_i p hp;rw[Ou l _ λq hq=>h q (Qy _ hq)]
def xK{Γ:List (dQ U)}(hΓ:vi P Γ){W:WS}{base:Nat}{ρ:Type}{r:ρ}:∀(rs:RS U) (i:Nat) (S:aU U) (k:aU U->List xv->Option ρ),rs.dB=true->Fa K Γ W base rs i S k=some r->
  ∃(Γs:Nat->qf) (S':aU U) (fs:List xv),(∀j,pw P (Γs j))/\pV Γs base ((rs.flat.zipIdx i).map λp=>(p.2,p.1)) S.st=some (S'.st,fs)/\C5 rs.iy W S S'/\k S' fs=some r
 | .nil,i,S,k,_,h=>⟨λ_ _=>none,S,[],λ_=>ZS,rfl,C5.refl _ _ _,h⟩
 | .op o rs,i,S,k,hok,h=>by
  simp only[RS.dB,Qm]at hok;simp only[Fa]at h;obtain⟨Γ',x,wr,h1,h2,h3,h4⟩:=P5 hΓ hok.1 h;obtain⟨Γs,S',fs,h5,h6,h7,h8⟩:=xK hΓ rs (i+1) _ _ hok.2 h4;refine⟨λj=>if j=i then Γ' else Γs j,S',_,λj=> ?_,?_,?_,h8⟩
  ·simp only;split
   ·exact h1
   ·exact h5 j
  ·simp only[RS.flat,List.zipIdx_cons,QD,pV,Qt,h2]
   have:pV (λj=>if j=i then Γ' else Γs j) base ((rs.flat.zipIdx (i+1)).map λp=>(p.2,p.1)) (S.st.cy o.d x.pv (wr.map kQ))=some (S'.st,fs):=by
    rw[<-Gn,<-h6];refine Ou _ _ λp hp=> ?_
    obtain⟨q,hq,rfl⟩:=QP.1 hp;have:=List.mem_zipIdx hq;simp only;rw[Qs (by omega)]
   rw[this];simp only[F3]
   cases wr with
   |none|some p=>rfl
  ·refine(Y4 S W o.d x wr h3).trans h7 λt ht=> ?_
   simp only[RS.iy]at ht
   cases hdd:o.d with
   |none=>rw[hdd]at ht;exact⟨by simp,ht⟩
   |some d=>rw[hdd]at ht;simp only[QA,not_or]at ht;exact⟨by simpa using λe=>ht.1 e,ht.2⟩
 | .CS t rs,i,S,k,hok,h=>by
  simp only[Fa]at h;split at h
  ·rename_i b hb
   cases b with
   |true=>rw[Qk,ED hb]at h;exact xK hΓ rs i S k hok h
   |false=>rw[Ql,ED hb]at h;exact xK hΓ rs i S k hok h
  ·exact xK hΓ rs i S k hok h
  ·cases h
 | .ps _ _,_,_,_,_,h| .ite _ _ _ _ _ _ _ _,_,_,_,_,h=>by cases h
def ag3{c:Code}{Q:Exit->St->Prop}{S:St}(I:Nat->St->Prop)(m0:Nat){S0:St}(hw0:∀(E:En) (a:Act) (w:World) (L:Nat->Value),Rel E S a w L->∃L',Rel E S0 a w L')(h0:I m0 S0)
  (hr:∀m S,I m S->V P nt c (λe S'=>match e with| .normal=>∃m',m'<m/\∃S'',(∀(E:En) (a:Act) (w:World) (L:Nat->Value),Rel E S' a w L->∃L',Rel E S'' a w L')/\I m' S''|e=>Q e S') S):V P nt (.loop c) Q S:=λE hE hk a w L hrel=>by
 refine wpIn_loop_ghost (λm a w=>∃S L,I m S/\Rel E S a w L) m0 ?_ ?_
 ·obtain⟨L',h'⟩:=hw0 E a w L hrel;exact⟨S0,L',h0,h'⟩
 rintro m a w ⟨S1,L1,hI,h1⟩;refine wpIn_mono (hr m S1 hI E hE hk a w L1 h1) ?_;rintro e a' w' ⟨S',L',h2,h3⟩
 cases e with
 |normal=>obtain⟨m',hlt,S'',hw,hI'⟩:=h3;obtain⟨L'',h4⟩:=hw E a' w' L' h2;exact⟨m',hlt,S'',L'',hI',h4⟩
 |exit i|goto l|ret|panic c|outgrown=>exact⟨S',L',h2,h3⟩
def Xl{x:SC}{Q:Exit->St->Prop}{S:St}(I:Nat->St->Prop)(m0:Nat){S0:St}(hw0:∀(E:En) (a:Act) (w:World) (L:Nat->Value),Rel E S a w L->∃L',Rel E S0 a w L')(h0:I m0 S0)
  (hr:∀m S,I m S->VS P nt x (λe S'=>match e with| .normal=>∃m',m'<m/\∃S'',(∀(E:En) (a:Act) (w:World) (L:Nat->Value),Rel E S' a w L->∃L',Rel E S'' a w L')/\I m' S''|e=>Q e S') S):VS P nt (.loop x) Q S:=by
 intro c hs hc
 cases c with
 |loop p=>
  simp only[aW,Qb]at hc;obtain⟨x',hx,hc⟩:=hc;injection hc with h1
  subst h1;exact ag3 I m0 hw0 h0 (λm S hI=>hr m S hI p hs hx)
 |region id ops d=>cases d<;>simp only[aW]at hc<;>(try split at hc)<;>(try split at hc)<;>(try split at hc)<;>cases hc
 |seq x y|cond c x y=>simp only[aW]at hc;split at hc<;>cases hc
 |block id c=>simp only[aW,Qb]at hc;obtain⟨_,_,hc⟩:=hc;cases hc
 |rangeFunc g ps x y=>simp only[aW]at hc;(try split at hc)<;>(try split at hc)<;>cases hc
 |_=>simp only[aW]at hc<;>cases hc
def Nl{S:aU U}{J:JS U}{F:List Nat}{W:WS}(hchk:wv S J F W=true)(v:ur J.items):iP F W S (unpack K S J v):=by
 simp only[wv,Qm,QH]at hchk;obtain⟨⟨⟨⟨⟨⟨hnd,hids⟩,hokv⟩,hkeep⟩,hobj⟩,hF⟩,hW⟩:=hchk;refine⟨λt ht=> ?_,λid hid=> ?_,?_⟩
 ·have hk:=eo.1 (hF t ht);have hns:iM t (slotsOf J.items)=false:=by simpa using(hkeep t hk).2
  rcases B4 (K:=K) (S.base J.eM) J.items v t with⟨⟨i,d⟩,hmem,h1,h2⟩|⟨_,h2⟩
  ·exact absurd (Fg (lS hmem) h1) (sj hns)
  ·rw[show(unpack K S J v).env t=_ from h2,Ir,Qr hk]
 ·have hlt:id<S.N:=by
   cases W with
   |none=>cases hW
   |some q=>
    obtain⟨n,l⟩:=q;simp only at hW;simp only[okW,Qq74]at hid;have h1:=QG hW;have h2:¬n<=id:=λhle=>by rw[Nat.ble_eq_true_of_le hle]at hid;cases hid.1
    omega
  rcases Gw (K:=K) (S.base J.eM) J.items v id hnd with⟨⟨i,d⟩,hmem,h1,h2⟩|⟨_,h2⟩
  ·have:=(hids id (uU (lS hmem) h1)).2;rw[hid]at this;cases this
  ·rw[show(unpack K S J v).H id=_ from h2,Rk,Qr hlt]
 ·rw[unpack,Gv,Rj];exact QI _
def JU{S S1:aU U}{J:JS U}{F:List Nat}{W:WS}(hchk:wv S J F W=true){v:ur J.items}(hp:pack K S1 J.items=some v)(hf:iP J.eM (some (S.N,fJ J.items)) S S1):
  ∀(E:En) (a:Act) (w:World) (L:Nat->Value),Rel E S1.st a w L->∃L',Rel E (unpack K S J v).st a w L':=by
 intro E a w L h;refine⟨L,Rel.meet hchk hp hf.env (λid hid hni=>hf.H id ?_) hf.N h⟩
 simp only[okW,Qq74];refine⟨?_,?_⟩
 ·cases hb:Nat.ble S.N id with
  |false=>rfl
  |true=>have:=QG hb;omega
 ·cases hb:iM id (fJ J.items)with
  |false=>rfl
  |true=>exact absurd (eo.1 hb) hni
def M4(S:aU U)(D:List Nat):(S.gE D).st=S.st.wX D:=by
 unfold aU.gE aU.st St.wX;congr 1
 funext t
 simp only
 by_cases h:t∈D
 ·rw[Qr h,eo.2 h];rfl
 ·rw[Qs h]
  cases hb:iM t D with
  |true=>exact absurd (eo.1 hb) h
  |false=>rfl
def Ie{F D:List Nat}(h:FM F D=true)(W:WS)(S:aU U):iP F W S (S.gE D):=
 ⟨λt ht=>by
  have hn:iM t D=false:=by
   cases hb:iM t D with
   |false=>rfl
   |true=>have:=QH.1 h t (eo.1 hb);rw[eo.2 ht]at this;cases this
  simp only[aU.gE,hn],λ_ _=>rfl,QI _⟩
def VK{S:aU U}{J:JS U}{F:List Nat}{W:WS}(hchk:wv S J F W=true)(v:ur J.items){S':aU U}(hf:iP J.eM (some (S.N,fJ J.items)) (unpack K S J v) S'):iP F W S S':=by
 have hm:=Nl (K:=K) hchk v;refine hm.trans ?_;simp only[wv,Qm,QH]at hchk;obtain⟨⟨⟨⟨⟨⟨hnd,hids⟩,hokv⟩,hkeep⟩,hobj⟩,hF⟩,hW⟩:=hchk;refine⟨λt ht=>hf.env t (eo.1 (hF t ht)),λid hid=>hf.H id ?_,hf.N⟩
 simp only[okW,Qq74];refine⟨?_,?_⟩
 ·cases W with
  |none=>cases hW
  |some q=>
   obtain⟨n,l⟩:=q;simp only at hW;simp only[okW,Qq74]at hid;have h1:=QG hW
   cases hb:Nat.ble S.N id with
   |false=>rfl
   |true=>have:=QG hb;rw[Nat.ble_eq_true_of_le (QK h1 this)]at hid;cases hid.1
 ·cases hb:iM id (fJ J.items)with
  |false=>rfl
  |true=>have:=(hids id (eo.1 hb)).2;rw[hid]at this;cases this
def TF{S:aU U}{J:JS U}{F:List Nat}{W:WS}(hchk:wv S J F W=true)(v:ur J.items){t:Nat}(ht:t∈J.eM):(unpack K S J v).env t=S.env t:=by
 simp only[wv,Qm,QH]at hchk;obtain⟨⟨⟨⟨⟨⟨hnd,hids⟩,hokv⟩,hkeep⟩,hobj⟩,hF⟩,hW⟩:=hchk;have hns:iM t (slotsOf J.items)=false:=by simpa using(hkeep t ht).2
 rcases B4 (K:=K) (S.base J.eM) J.items v t with⟨⟨i,d⟩,hmem,h1,h2⟩|⟨_,h2⟩
 ·exact absurd (Fg (lS hmem) h1) (sj hns)
 ·rw[show(unpack K S J v).env t=_ from h2,Ir,Qr ht]
def abG{S:aU U}{J:JS U}{F:List Nat}{W:WS}(hchk:wv S J F W=true)(v:ur J.items){S':aU U}(hf:iP J.eM (some (S.N,fJ J.items)) (unpack K S J v) S'){v':ur J.items}(hv':pack K S' J.items=some v'):
  ∀(E:En) (a:Act) (w:World) (L:Nat->Value),Rel E S'.st a w L->∃L',Rel E (unpack K S J v').st a w L':=by
 intro E a w L hrel;have hkp:=λ{t} ht=>TF (K:=K) hchk v (t:=t) ht
 have hc:=hchk;simp only[wv,Qm,QH]at hc;obtain⟨⟨⟨⟨⟨⟨hnd,hids⟩,hokv⟩,hkeep⟩,hobj⟩,hF⟩,hW⟩:=hc;refine⟨L,Rel.meet hchk hv' (λt ht=>(hf.env t ht).trans (hkp ht)) (λid hid hni=>(hf.H id ?_).trans ?_) (by have:=hf.N;rw[unpack,Gv,Rj]at this;exact this) hrel⟩
 ·simp only[okW,Qq74];refine⟨?_,?_⟩
  ·cases hb:Nat.ble S.N id with
   |false=>rfl
   |true=>have:=QG hb;omega
  ·cases hb:iM id (fJ J.items)with
   |false=>rfl
   |true=>exact absurd (eo.1 hb) hni
 ·rcases Gw (K:=K) (S.base J.eM) J.items v id hnd with⟨⟨i,d⟩,hmem,h1,h2⟩|⟨_,h2⟩
  ·exact absurd (uU (lS hmem) h1) hni
  ·rw[show(unpack K S J v).H id=_ from h2,Rk,Qr hid]
def aeb{T:U.Ty}{k:Nat}{nE:Option Nat}(hsz:U.size T=k)(hnE:ZU U T nE=true)(xs:List (U.den T)):KT k nE (xs.map (U.pv T))/\∀a:U.den T,Cn nE (U.pv T a)=(A6 K T a).pv:=by
 have key:∀a:U.den T,vq nE (U.pv T a)=some (fC T a):=by
  intro a;unfold fC
  cases nE with
  |none=>
   simp only[ZU,Bool.not_eq_true']at hnE;have h1:=K.len T a;rw[K.one T hnE]at h1;rw[hnE]
   match h2:U.pv T a with
   |[]=>rw[h2]at h1;cases h1
   |x::l=>rfl
  |some n=>simp only[ZU,Qm]at hnE;have h1:=QF hnE.2;subst h1;rw[hnE.1,vq,Qr (by rw[K.len];exact QI _),<-K.len T a,Qq62]
 have hev:∀a:U.den T,Cn nE (U.pv T a)=fC T a:=λa=>by simp only[Cn,key,Q3]
 refine⟨⟨λe he=> ?_,λe he=> ?_,λe he=> ?_⟩,λa=>by rw[hev,DD]⟩
 ·obtain⟨a,_,rfl⟩:=QP.1 he;rw[K.len,hsz]
 ·obtain⟨a,_,rfl⟩:=QP.1 he;rw[hev,key]
 ·obtain⟨a,_,rfl⟩:=QP.1 he;rw[hev];unfold fC;split
  ·exact QH.2 λy hy=>gP (K.ic T a y hy)
  ·cases h2:U.pv T a with
   |nil=>have:=K.len T a;rename_i hag;rw[K.one T hag,h2]at this;cases this
   |cons x l=>
    have h3:=gP (K.ic T a x (by rw[h2];exact Qx))
    have h4:=K.ic T a x (by rw[h2];exact Qx)
    cases x<;>first|exact h3|(cases h4)
def aid(S:aU U)(A_s:List (KV U)):(Wj S A_s).st={S.st with env:=λt=>((A_s.map KV.pv)[t]?).getD .undef}:=by
 unfold Wj aU.st;congr 1
 funext t
 simp only[QT];cases A_s[t]?<;>rfl
def adF(S:aU U)(A_s:List (KV U)):(H5 S A_s).st=S.st.nI (xr S A_s):=by
 unfold H5 aU.st St.nI;congr 1
 funext id
 simp only;cases xr S A_s id<;>rfl
def Kn{S:aU U}{A_s:List (KV U)}{id:Nat}(h:xr S A_s id=true):id<S.N/\id≠0/\∃cs,(S.st.H id).c= .box cs/\cs.all PV.closed=true:=by
 simp only[xr,Qm,Bool.not_eq_true']at h;obtain⟨⟨⟨h1,h2⟩,h3⟩,_⟩:=h;refine⟨QG h1,λe=>(by rw[e]at h2;cases h2),?_⟩
 split at h3
 ·rename_i cs hc;exact⟨cs.map KV.pv,by simp only[aU.st,dn.pv,hc,dU.pv],by rw[qU];exact h3⟩
 ·cases h3
def aea(S S':aU U)(A_s:List (KV U))(d:Option Nat)(r:KV U):(Am S S' A_s d r).st=St.cy {S'.st.shown S.st (xr S A_s)with env:=λt=>(Rm S S' A_s t).pv} d r.pv none:=by
 unfold Am;rw[Gn];congr 1;unfold aU.st St.shown;congr 1
 funext id
 simp only;cases xr S A_s id<;>rfl
def adD(S:aU U)(q:Nat->Bool):(S.Fh q).st=S.st.kill q:=by
 unfold aU.Fh aU.st St.kill;congr 1
 funext id
 simp only;cases q id<;>rfl
def Z1{S:aU U}{f:FuncId}{c:Option bB}{xs:List bB}{A_s:List (KV U)}(ha:Ln S f c xs=some A_s)(hx:xs.all bB.dB=true)(hc:c.all bB.dB=true){E:En}{a:Act}{w:World}{L:Nat->Value}(h:Rel E S.st a w L){hs:List Nat}{o:Oper}(hop:Ft P hs o=some (Z0 f c xs))(hen:Enters P f):
  ∃vs:List Value,(execOp a.eval o).run P w= .ok (.enter f vs.toArray) w/\bo w (bm E S.st L) (S.st.gh L) (A_s.map KV.pv) vs:=by
 have hmap:xs.map (·.val S.st)=(xs.map (·.df S)).map KV.pv:=by rw[List.map_map];exact Qq71 λx hxm=>uV (QH.1 hx x hxm)
 cases c with
 |none=>
  injection ha with ha
  subst ha;obtain⟨args,ats,hop',hxs⟩:=WO hop;exact⟨_,ab3 hop' hen,by rw[<-hmap];exact h.dP hxs⟩
 |some fv=>
  simp only[Ln]at ha;split at ha
  ·rename_i g caps hf;split at ha
   ·rename_i hg;have hg:=QF hg;subst hg;injection ha with ha
    subst ha;obtain⟨gv,args,ats,hop',hgv,hxs⟩:=T4 hop;have hr:=h.jI hgv;have hfo:fv.dB=true:=by simpa using hc
    rw[uV hfo,hf,KV.pv,KV.c6]at hr;obtain⟨us,hu,hru⟩:=hr.wZ;have ha:args.map a.eval=(args.toList.map a.eval).toArray:=by rw[<-Array.toList_map,Array.toArray_toList]
    refine⟨args.toList.map a.eval++us,?_,by rw[List.map_append,<-hmap];exact(h.dP hxs).append hru⟩
    simp only[execOp,hop',resolve,hu,Deferred.ofValue,Sem.run_bind,Sem.run_pure,Result.andThen_ok,invoke,ha];simp[nD hen]
   ·cases ha
  ·cases ha
def ag8{Γ:List (dQ U)}(hΓ:vi P Γ){r1 r2:RS U}{d:Option Nat}{f:FuncId}{c:Option bB}{xs:List bB}{n:Nat}{rvs:List RV}{sc:SC}{F:List Nat}{W:WS}{ρ:Type}{k:Exit->aU U->Option ρ}{r:ρ}{S:aU U}
  (hfn:iQ P f n sc rvs) (hnr:sc.My=true) (hoff:FM F (r1.iy++d.toList++r2.iy)=true) (vS:r1.dB=true) (ok2:r2.dB=true) (okx:xs.all bB.dB=true) (okv:c.all bB.dB=true) {kk:aU U->Option ρ} (h:ji K Γ r1 W S.N (S.more r1.len) kk=some r)
  (hk:∀S1,kk S1=some r->∃A_s,Ln S1 f c xs=some A_s/\Wh S1 F W A_s n sc.sS=true/\VS P n sc (λe A=>∃S2,A=S2.st/\iP (List.range A_s.length) W (Wj (H5 S1 A_s) A_s) S2/\(e= .ret\/e= .normal)/\∃v,zz S2 rvs=some v/\ae4 S1 S2 A_s=true/\ji K Γ r2 W S2.N (((Am S1 S2 A_s d v).Fh (HF S1 S2 v)).more r2.len) (λS3=>k .normal S3)=some r) (Wj (H5 S1 A_s) A_s).st):
  VS P nt (.tM (r1.flat++⟨d,none,Z0 f c xs⟩::r2.flat)) (λe A=>∃S',A=S'.st/\iP F W S S'/\k e S'=some r) S.st:=by
 intro c0 hs hc
 cases c0 with
 |region id ops d0=>
  cases d0 with
  |true=>simp only[aW]at hc;(try split at hc)<;>(try split at hc)<;>(try split at hc)<;>cases hc
  |false=>
   simp only[aW]at hc;split at hc
   ·rename_i gs' hgs;split at hc
    ·rename_i hd;injection hc with hc
     injection hc with hc
     subst hc;intro E hE hkE a w L hrel;refine wpIn_region_list ?_;obtain⟨l1,l2',el,m1,m2⟩:=zO hgs
     cases l2' with
     |nil=>simp at m2
     |cons o l2=>
     simp only[Qq75,Qd,Qc,Option.pure_def,Qf,List.cons.injEq]at m2;obtain⟨g,hg,gs2,hgs2,rfl,rfl⟩:=m2;have hcan:=W0 hE hkE (P6 hd);rw[el]at hcan ⊢;refine ni (K:=K) (E:=E) hΓ (ops:=ops) (Q:=λe a' w'=>∃S' L',Rel E S' a' w' L'/\_) r1 W S.N (S.more r1.len) kk r l1 (o::l2) a w L vS m1 (hrel.room r1.len) (QI _) (λo' ho'=>hcan o' (List.mem_append_left _ ho')) h (λS1 a1 w1 L1 hf1 h1 hk1=> ?_)
     obtain⟨A_s,has,hchk,hvs⟩:=hk S1 hk1;simp only[Wh,Qm]at hchk;obtain⟨⟨⟨⟨hWn,hlen⟩,hsets⟩,hkeep⟩,hokW⟩:=hchk;have hlen:=QG hlen;obtain⟨hgu,hds,hcop⟩:=adW hg;obtain⟨vs,hrun,hrep⟩:=Z1 has okx okv h1 hcop hfn.enters;rw[aid,adF]at hvs
     have hcall:=ack hfn hnr h1 hrep (by simpa using hlen) (λt ht hm=>by
      have:=QG (QH.1 hsets t hm);rw[QC]at ht
      omega) (xr S1 A_s) (λid hid=>Kn hid) (Q:=λv A=>∃S2 x,v=x.pv/\A=S2.st/\iP (List.range A_s.length) W (Wj (H5 S1 A_s) A_s) S2/\ji K Γ r2 W S2.N (((Am S1 S2 A_s d x).Fh (HF S1 S2 x)).more r2.len) (λS3=>k .normal S3)=some r)
      (hvs.mono λe A ⟨S2,e1,e2,e3,x,e4,e6,e5⟩=>⟨e3,x.pv,by rw[e1];exact DE e4,⟨S2,x,rfl,e1,e2,e5⟩,by rw[e1];exact e2.N,λid hid=>by
       have:=Dz e6 id (Kn hid).1;rw[hid,Qo,Bool.false_or]at this;rw[e1];simp only[aU.st,dn.pv]
       cases hc:(S2.H id).c with
       |dead=>rfl
       |_=>rw[hc]at this;cases this⟩)
     refine wpListIn_step λKK hKK=> ?_
     rw[Xx hgu,Qr rfl];unfold Oper.wpIn;rw[Oper.semAt_eq _ _ _ (BU hcop),hrun];refine⟨λ_ _=>trivial,(λh=>by cases h),Dx.2 (Calls.mono hcall ?_)⟩
     rintro e w' ⟨v,_,_,L',rfl,⟨S2,x,rfl,rfl,hfr,hr2⟩,hrv,hback⟩;refine hKK _ _ ?_
     have h2:=hback (λt=>(Rm S1 S2 A_s t).pv) λt=>by
      simp only[Rm]
      cases hkt:UN S1 A_s t with
      |false=>
       simp only;split
       ·rename_i id vv o het;split
        ·rename_i hh;rw[Qm]at hh;refine .inr (.inr (.inr ⟨id,o,hh.1,?_,rfl⟩));show(S1.env t).pv= .ptr id (S1.H id).av o;rw[het,QF hh.2];rfl
        ·exact .inl rfl
       ·exact .inl rfl
      |true=>
       simp only[UN,Qn]at hkt;simp only;rcases hkt with hkt|hkt
       ·exact .inr (.inl ⟨rfl,by rw[<-OZ]at hkt;exact hkt⟩)
       ·obtain⟨y,hy,hyt⟩:=List.any_eq_true.1 hkt;obtain⟨i,hi,rfl⟩:=List.mem_iff_getElem.1 hy;have hai:A_s[i]?=some A_s[i]:=Qv hi;obtain⟨v',hv',hr'⟩:=hrep.get (i:=i) (x:=A_s[i].pv) (by rw[QT,hai];rfl)
        have hfe:=hfr.env i (List.mem_range.2 hi)
        have hs2:S2.env i=A_s[i]:=by rw[hfe];show(A_s[i]?).getD .undef=_;rw[hai];rfl
        have hrt:=h1.env t;rw[show S1.st.env t=(S1.env t).pv from rfl]at hrt
        have hq:(S1.env t).pv=A_s[i].pv/\vs[i]?=some (a1.tmps.getD t undef):=by
         generalize A_s[i]=y at hyt hr';generalize S1.env t=x at hyt hrt
         cases x with
         |ptr id av off=>
          cases y with
          |ptr id' ver' off'=>simp only[aeB,Qm]at hyt;obtain⟨⟨⟨e1,e2⟩,e3⟩,e4⟩:=hyt;obtain rfl:=QF e1;obtain rfl:=QF e2;obtain rfl:=QF e3;have e4:(S1.st.gh L1).V id=av:=QF e4;obtain⟨_,g1⟩:=hrt.pH e4;obtain⟨_,g2⟩:=hr'.pH e4;exact⟨rfl,by rw[hv',g1,g2]⟩
          |_=>cases hyt
         |_=>cases hyt
        exact .inr (.inr (.inl ⟨i,hq.2,(show(S1.env t).pv=(S2.env i).pv by rw[hs2];exact hq.1)⟩))
     have h3:=h2.ZH (d:=o.dst) (hcan o (List.mem_append_right _ Qx)) hrv
     have h4:Rel E ((Am S1 S2 A_s d x).Fh (HF S1 S2 x)).st (a1.put o.dst v) w' L':=by rw[adD,aea,<-hds];exact h3.ajp _
     have hl2:l2=l2++[]:=by rw[List.append_nil]
     rw[hl2];refine ni (K:=K) (E:=E) hΓ (ops:=ops) r2 W S2.N (((Am S1 S2 A_s d x).Fh (HF S1 S2 x)).more r2.len) (λS3=>k .normal S3) r l2 [] _ w' L' ok2 hgs2 (h4.room r2.len) (QI _) (λo' ho'=>hcan o' (List.mem_append_right _ (Qy _ ho'))) hr2 (λS3 a3 w3 L3 hf3 h5 hk3=> ?_)
     have hoff':∀t∈F,t∉r1.iy/\d≠some t/\t∉r2.iy:=by
      intro t ht;have:=λq hq=>QH.1 hoff q hq
      refine⟨λhm=> ?_,λhm=> ?_,λhm=> ?_⟩
      ·have:=this t (List.mem_append_left _ (List.mem_append_left _ hm));rw[eo.2 ht]at this;cases this
      ·have:=this t (List.mem_append_left _ (List.mem_append_right _ (by rw[hm];exact Q5.2 rfl)));rw[eo.2 ht]at this;cases this
      ·have:=this t (List.mem_append_right _ hm);rw[eo.2 ht]at this;cases this
     refine⟨S3.st,L3,h5,S3,rfl,⟨λt ht=> ?_,λq hq=> ?_,?_⟩,hk3⟩
     ·obtain⟨n1,n2,n3⟩:=hoff' t ht;rw[hf3.env t n3];show(Am S1 S2 A_s d x).env t=_;unfold Am;rw[lW _ _ _ _ n2];simp only[Rm,QH.1 hkeep t ht];exact hf1.env t n1
     ·rw[hf3.H q hq]
      have hnh:xr S1 A_s q=false:=by
       cases hqq:xr S1 A_s q with
       |false=>rfl
       |true=>have:=Dz hokW q (Kn hqq).1;rw[hqq,hq]at this;cases this
      have hno:HF S1 S2 x q=false:=by
       cases W with
       |none=>cases hWn
       |some W=>
        simp only[okW,Qq74]at hq;have hlt:¬W.1<=q:=λe=>by have:=Nat.ble_eq_true_of_le e;rw[hq.1]at this;cases this
        have hWn:=QG hWn
        have:Nat.ble S1.N q=false:=by
         cases hb:Nat.ble S1.N q with
         |false=>rfl
         |true=>have:=QG hb;omega
        unfold HF;rw[this];rfl
      show(match HF S1 S2 x q with|true=>_|false=>(Am S1 S2 A_s d x).H q)=_
      rw[hno];show(match xr S1 A_s q with|true=>_|false=>S2.H q)=_
      rw[hnh];show S2.H q=_;rw[hfr.H q hq];show(match xr S1 A_s q with|true=>_|false=>S1.H q)=_
      rw[hnh];exact hf1.H q hq
     ·have e1:=hf1.N;have e2:=hfr.N;have e3:=hf3.N;have:(S.more r1.len).N=S.N+r1.len:=rfl;have:(((Am S1 S2 A_s d x).Fh (HF S1 S2 x)).more r2.len).N=S2.N+r2.len:=rfl;have:(Wj (H5 S1 A_s) A_s).N=S1.N:=rfl;omega
    ·cases hc
   ·cases hc
 |seq x y|cond c x y=>simp only[aW]at hc;split at hc<;>cases hc
 |block id c|loop c=>simp only[aW,Qb]at hc;obtain⟨_,_,hc⟩:=hc;cases hc
 |rangeFunc g ps x y=>simp only[aW]at hc;(try split at hc)<;>(try split at hc)<;>cases hc
 |_=>simp only[aW]at hc<;>cases hc
def eN{Γ:List (dQ U)}(hΓ:vi P Γ):∀(sa:SA U) {nt:Nat} {ρ:Type} (F:List Nat) (W:WS) (k:Exit->aU U->Option ρ) (S:aU U) (r:ρ),sa.vR P->oS K Γ sa F W k S=some r->
  VS P nt sa.erase (λe A=>∃S',A=S'.st/\iP F W S S'/\k e S'=some r) S.st
 | .skip,nt,ρ,F,W,k,S,r,hok,h=>ag5 ⟨S,rfl,iP.refl _ _ _,h⟩
 | .exit id,nt,ρ,F,W,k,S,r,hok,h=>ag9 ⟨S,rfl,iP.refl _ _ _,h⟩
 | .ret,nt,ρ,F,W,k,S,r,hok,h=>aiH ⟨S,rfl,iP.refl _ _ _,h⟩
 | .tM rs,nt,ρ,F,W,k,S,r,hok,h=>by
  simp only[oS]at h;split at h
  ·rename_i ho;exact ag6 hΓ hok h λS' hf hk=>⟨S',rfl,(hf.toC ho).more,hk⟩
  ·cases h
 | .rH un rs,nt,ρ,F,W,k,S,r,hok,h=>by
  simp only[oS]at h;split at h
  ·rename_i ho;obtain⟨Γs,S',fs,h1,h2,h3,h4⟩:=xK hΓ rs 0 _ _ hok h;split at h4
   ·rename_i hun;refine aiI h1 (S':=S'.st) ?_ ⟨S',rfl,(h3.toC ho).more,h4⟩;rw[RS.Ec];have e:({S.st with N:=S.st.N+rs.len}:St)=(S.more rs.len).st:=rfl
    rw[e,RP];rw[show S.st.N=S.N from rfl,h2]
    exact Qr hun
   ·cases h4
  ·cases h
 | .seq x y,nt,ρ,F,W,k,S,r,hok,h=>by
  simp only[SA.vR]at hok;refine acz ((eN hΓ x F W _ S r hok.1 h).mono ?_);rintro e A ⟨S',rfl,hf,hk⟩
  cases e with
  |normal=>exact(eN hΓ y F W k S' r hok.2 hk).mono λe A ⟨S'',h1,h2,h3⟩=>⟨S'',h1,hf.trans h2,h3⟩
  |exit i|goto l|ret|panic c|outgrown=>exact⟨S',rfl,hf,hk⟩
 | .join J x y,nt,ρ,F,W,k,S,r,hok,h=>by
  simp only[SA.vR]at hok;simp only[oS]at h;split at h
  ·rename_i hchk;unfold aY at h
   have hsub:∀S',iP J.eM (some (S.N,fJ J.items)) S S'->iP F W S S':=by
    intro S' hf;simp only[wv,Qm,QH]at hchk;obtain⟨⟨⟨⟨⟨⟨hnd,hids⟩,hokv⟩,hkeep⟩,hobj⟩,hF⟩,hW⟩:=hchk;refine⟨λt ht=>hf.env t (eo.1 (hF t ht)),λid hid=>hf.H id ?_,hf.N⟩
    simp only[okW,Qq74];refine⟨?_,?_⟩
    ·cases W with
     |none=>cases hW
     |some q=>
      obtain⟨n,l⟩:=q;simp only at hW;simp only[okW,Qq74]at hid;have h1:=QG hW
      cases hb:Nat.ble S.N id with
      |false=>rfl
      |true=>have:=QG hb;rw[Nat.ble_eq_true_of_le (QK h1 this)]at hid;cases hid.1
    ·cases hb:iM id (fJ J.items)with
     |false=>rfl
     |true=>have:=(hids id (eo.1 hb)).2;rw[hid]at this;cases this
   refine acz ((eN hΓ x J.eM _ _ S r hok.1 h).mono ?_);rintro e A ⟨S',rfl,hf,hk⟩
   cases e with
   |normal=>
    simp only at hk;split at hk
    ·rename_i v hv;refine SP (JU hchk hv hf) ?_;exact(eN hΓ y F W k _ r hok.2 hk).mono λe A ⟨S'',h1,h2,h3⟩=>⟨S'',h1,(Nl hchk v).trans h2,h3⟩
    ·cases hk
   |exit i|goto l|ret|panic c|outgrown=>exact⟨S',rfl,hsub S' hf,hk⟩
  ·cases h
 | .cond c x y,nt,ρ,F,W,k,S,r,hok,h=>by
  simp only[SA.vR]at hok;simp only[oS]at h;split at h
  ·rename_i b hb;have hv:c.val S.st= .bool b:=by rw[uV hok.1.1,hb];rfl
   refine aha hv ?_
   cases b with
   |true=>exact eN hΓ x F W k S r hok.1.2 h
   |false=>exact eN hΓ y F W k S r hok.2 h
  ·rename_i hb;have hv:c.val S.st= .gO:=by rw[uV hok.1.1,hb];rfl
   obtain⟨h1,h2⟩:=acm h;exact aeh hv (eN hΓ x F W k S r hok.1.2 h1) (eN hΓ y F W k S r hok.2 h2)
  ·cases h
 | .block id x,nt,ρ,F,W,k,S,r,hok,h=>by
  refine aei ((eN hΓ x F W _ S r hok h).mono ?_);rintro e A ⟨S',rfl,hf,hk⟩
  cases e with
  |exit i=>
   simp only at hk;simp only[G2];split at hk
   ·rename_i hi;rw[Qr (QF hi)];exact⟨S',rfl,hf,hk⟩
   ·rename_i hi;rw[Qs (Nat.ne_of_beq_eq_false hi)];exact⟨S',rfl,hf,hk⟩
  |normal|goto l|ret|panic c|outgrown=>exact⟨S',rfl,hf,hk⟩
 | .loop J x,nt,ρ,F,W,k,S,r,hok,h=>by
  simp only[oS]at h;split at h
  ·rename_i hchk;split at h
   ·rename_i v0 hv0
    have hsub:∀v S',iP J.eM (some (S.N,fJ J.items)) (unpack K S J v) S'->iP F W S S':=by
     intro v S' hf;have hm:=Nl (K:=K) hchk v;refine hm.trans ?_;simp only[wv,Qm,QH]at hchk;obtain⟨⟨⟨⟨⟨⟨hnd,hids⟩,hokv⟩,hkeep⟩,hobj⟩,hF⟩,hW⟩:=hchk;refine⟨λt ht=>hf.env t (eo.1 (hF t ht)),λid hid=>hf.H id ?_,hf.N⟩
     simp only[okW,Qq74];refine⟨?_,?_⟩
     ·cases W with
      |none=>cases hW
      |some q=>
       obtain⟨n,l⟩:=q;simp only at hW;simp only[okW,Qq74]at hid;have h1:=QG hW
       cases hb:Nat.ble S.N id with
       |false=>rfl
       |true=>have:=QG hb;rw[Nat.ble_eq_true_of_le (QK h1 this)]at hid;cases hid.1
     ·cases hb:iM id (fJ J.items)with
      |false=>rfl
      |true=>have:=(hids id (eo.1 hb)).2;rw[hid]at this;cases this
    have hself:∀v S',iP J.eM (some (S.N,fJ J.items)) (unpack K S J v) S'->∀v',pack K S' J.items=some v'->∀(E:En) (a:Act) (w:World) (L:Nat->Value),Rel E S'.st a w L->∃L',Rel E (unpack K S J v').st a w L':=by
     intro v S' hf v' hv' E a w L hrel;have hc:=hchk;simp only[wv,Qm,QH]at hc;obtain⟨⟨⟨⟨⟨⟨hnd,hids⟩,hokv⟩,hkeep⟩,hobj⟩,hF⟩,hW⟩:=hc;refine⟨L,Rel.meet hchk hv' (λt ht=>(hf.env t ht).trans ?_) (λid hid hni=>(hf.H id ?_).trans ?_) (by have:=hf.N;rw[unpack,Gv,Rj]at this;exact this) hrel⟩
     ·have hns:iM t (slotsOf J.items)=false:=by simpa using(hkeep t ht).2
      rcases B4 (K:=K) (S.base J.eM) J.items v t with⟨⟨i,d⟩,hmem,h1,h2⟩|⟨_,h2⟩
      ·exact absurd (Fg (lS hmem) h1) (sj hns)
      ·rw[show(unpack K S J v).env t=_ from h2,Ir,Qr ht]
     ·simp only[okW,Qq74];refine⟨?_,?_⟩
      ·cases hb:Nat.ble S.N id with
       |false=>rfl
       |true=>have:=QG hb;omega
      ·cases hb:iM id (fJ J.items)with
       |false=>rfl
       |true=>exact absurd (eo.1 hb) hni
     ·rcases Gw (K:=K) (S.base J.eM) J.items v id hnd with⟨⟨i,d⟩,hmem,h1,h2⟩|⟨_,h2⟩
      ·exact absurd (uU (lS hmem) h1) hni
      ·rw[show(unpack K S J v).H id=_ from h2,Rk,Qr hid]
    obtain⟨n,hn⟩:=Dm h
    refine Xl (λm A=>∃v,A=(unpack K S J v).st/\sD (λv=>oS K Γ x J.eM (some (S.N,fJ J.items)) (λe S'=>match e with
     | .normal=>(match pack K S' J.items with|some v=>some (Sum.inl v)|none=>none)
     |e=>(k e S').map Sum.inr) (unpack K S J v)) m v=some r) n (JU hchk hv0 (iP.refl _ _ _)) ⟨v0,rfl,hn⟩ ?_
    rintro m A ⟨v,rfl,hm⟩
    cases m with
    |zero=>cases hm
    |succ m=>
     simp only[sD]at hm;split at hm
     ·cases hm
     ·rename_i r' hs;injection hm with hm
      subst hm;refine(eN hΓ x J.eM _ _ _ _ hok hs).mono ?_;rintro e A ⟨S',rfl,hf,hk⟩
      cases e with
      |normal=>simp only at hk;split at hk<;>cases hk
      |exit i|goto l|ret|panic c|outgrown=>simp only[Qb]at hk;obtain⟨q,hq,e⟩:=hk;injection e with e;subst e;exact⟨S',rfl,hsub v S' hf,hq⟩
     ·rename_i v' hs;refine(eN hΓ x J.eM _ _ _ _ hok hs).mono ?_;rintro e A ⟨S',rfl,hf,hk⟩
      cases e with
      |normal=>
       simp only at hk;split at hk
       ·rename_i v1 hv1;injection hk with hk
        injection hk with hk
        subst hk;exact⟨m,Nat.lt_succ_self m,_,hself v S' hf v1 hv1,v1,rfl,hm⟩
       ·cases hk
      |exit i|goto l|ret|panic c|outgrown=>simp only[Qb]at hk;obtain⟨q,hq,e⟩:=hk;cases e
   ·cases h
  ·cases h
 | .Mo n x,nt,ρ,F,W,k,S,r,hok,h=>by
  simp only[oS]at h;have⟨g,hg,h⟩:=(⟨_,rfl,h⟩:∃g,g=_/\U2 g n S=some r);refine Xl (λm A=>∃S1:aU U,A=S1.st/\iP F W S S1/\U2 g m S1=some r) n (λE a w L h=>⟨L,h⟩) ⟨S,rfl,iP.refl _ _ _,h⟩ ?_
  rintro m A ⟨S1,rfl,hf1,hm⟩
  cases m with
  |zero=>cases hm
  |succ m=>
   simp only[U2]at hm;rw[hg]at hm;simp only at hm;rw[<-hg]at hm;refine(eN hΓ x F W _ S1 r hok hm).mono ?_;rintro e A ⟨S',rfl,hf,hk⟩
   cases e with
   |normal=>exact⟨m,Nat.lt_succ_self m,S'.st,λE a w L h=>⟨L,h⟩,S',rfl,hf1.trans hf,hk⟩
   |exit i|goto l|ret|panic c|outgrown=>exact⟨S',rfl,hf1.trans hf,hk⟩
 | .back J f kk nE T tg p0 p1 x y,nt,ρ,F,W,k,S,r,hok,h=>by
  simp only[SA.vR]at hok;simp only[oS]at h;obtain⟨D,hD⟩:∃D,SC.sS (.Gs (.tmp tg) [p0,p1] x.erase y.erase)=D:=⟨_,rfl⟩;rw[hD]at h;split at h
  ·rename_i hcond;simp only[Qm]at hcond;obtain⟨⟨⟨⟨⟨⟨hbk,hsz⟩,hnE⟩,htk⟩,hkD⟩,hFD⟩,hchk⟩:=hcond;have hsz:=QF hsz;have htk:=eo.1 htk
   have htD:tg∉D:=λhm=>by have:=QH.1 hkD tg hm;rw[eo.2 htk]at this;cases this
   have hp:∀q,q=p0\/q=p1->iM q J.eM=false:=by
    intro q hq;have hqD:q∈D:=by rw[<-hD];rcases hq with rfl|rfl<;>simp[SC.sS]
    simpa using QH.1 hkD q hqD
   split at h
   ·rename_i f' T' xs' hclo;split at h
    ·rename_i hff;have hff:=QF hff;subst hff;split at h
     ·rename_i xs hcast;obtain⟨eT,hxs⟩:=np hcast;subst eT;simp only at hxs;subst hxs;split at h
      ·rename_i v0 hv0;obtain⟨hin,hev⟩:=aeb (K:=K) hsz hnE xs;have⟨step,hstep,h⟩:=(⟨_,rfl,h⟩:∃step,step=_/\n9 step (λv=>k .normal (unpack K (S.gE D) J v)) xs.reverse v0=some r)
       have hN:(S.gE D).N=S.N:=rfl;refine ahb (NJ hΓ hbk) hin (by rw[hD];exact htD) (λi A=>∃v,A=(unpack K (S.gE D) J v).st/\n9 step (λv=>k .normal (unpack K (S.gE D) J v)) (xs.take i).reverse v=some r) ?_ ?_ ?_ ?_
       ·rw[hD,<-M4];refine⟨_,JU hchk hv0 (iP.refl _ _ _),v0,rfl,?_⟩;rw[QC,Qq62];exact h
       ·rintro i A ⟨v,rfl,_⟩;show((unpack K (S.gE D) J v).env tg).pv=_;rw[TF hchk v htk];have:(S.gE D).env tg=S.env tg:=(Ie hkD none S).env tg htk;rw[this,hclo];rfl
       ·rintro m A e ⟨v,rfl,hm⟩ he;rw[QT,Qb]at he;obtain⟨a,ha,rfl⟩:=he;have hml:m<xs.length:=(Qw.1 ha).1;rw[List.take_add_one,ha,Option.toList_some,List.reverse_append]at hm;simp only[List.reverse_cons,List.reverse_nil,List.nil_append,List.singleton_append,n9]at hm;rw[List.length_reverse,List.length_take,Nat.min_eq_left (Nat.le_of_lt hml)]at hm
        obtain⟨z,hz,hzr⟩:∃z,step m a v=some z/\(match z with| .inr r'=>r'=r| .inl s'=>n9 step (λv=>k .normal (unpack K (S.gE D) J v)) (xs.take m).reverse s'=some r):=by
         split at hm
         ·cases hm
         ·rename_i r' hs;injection hm with hm
          exact⟨_,hs,hm⟩
         ·rename_i s' hs;exact⟨_,hs,hm⟩
        clear hm;rw[hstep]at hz;simp only at hz
        have hst:({(unpack K (S.gE D) J v).st with env:=bS (bS (unpack K (S.gE D) J v).st.env p0 (.int .i64 m)) p1 (Cn nE (U.pv _ a))}:St)=aU.st {(unpack K (S.gE D) J v)with env:=ib (ib (unpack K (S.gE D) J v).env p0 (.int .i64 m)) p1 (A6 K _ a)}:=by
         have henv:bS (bS (unpack K (S.gE D) J v).st.env p0 (.int .i64 m)) p1 (Cn nE (U.pv _ a))=λt=>((ib (ib (unpack K (S.gE D) J v).env p0 (.int .i64 m)) p1 (A6 K _ a)) t).pv:=by
          funext t
          simp only[dK,hev];unfold bS;split
          ·rfl
          ·split
           ·rfl
           ·rfl
         exact congrArg (λe=>({(unpack K (S.gE D) J v).st with env:=e}:St)) henv
        rw[hst]
        have hf0:iP J.eM (some (S.N,fJ J.items)) (unpack K (S.gE D) J v) {(unpack K (S.gE D) J v)with env:=ib (ib (unpack K (S.gE D) J v).env p0 (.int .i64 m)) p1 (A6 K _ a)}:=by
         refine⟨λt ht=> ?_,λ_ _=>rfl,QI _⟩
         simp only[dK];rw[cY _ _ (λe=>by have:=hp t (.inr e);rw[eo.2 ht]at this;cases this),cY _ _ (λe=>by have:=hp t (.inl e);rw[eo.2 ht]at this;cases this)]
        refine(eN hΓ x J.eM _ _ _ _ hok.1 hz).mono ?_;rintro e A ⟨S1,rfl,hf1,hk1⟩
        cases e with
        |normal=>
         simp only at hk1;refine(eN hΓ y J.eM _ _ _ _ hok.2 hk1).mono ?_;rintro e A ⟨S2,rfl,hf2,hk2⟩;have hf3:iP J.eM (some (S.N,fJ J.items)) (unpack K (S.gE D) J v) (S2.gE D):=((hf0.trans hf1).trans hf2).trans (Ie hkD _ _);have hf4:iP F W S (S2.gE D):=(Ie hFD W S).trans (VK hchk v hf3);rw[hD]
         cases e with
         |normal=>
          simp only at hk2;split at hk2
          ·rename_i v' hv';injection hk2 with hk2
           subst hk2;refine⟨_,?_,v',rfl,hzr⟩;rw[<-M4];exact abG hchk v hf3 hv'
          ·cases hk2
         |ret|exit i=>simp only[Qb]at hk2;obtain⟨q,hq,rfl⟩:=hk2;simp only at hzr;subst hzr;exact⟨S2.gE D,(M4 _ _).symm,hf4,hq⟩
         |goto i|panic ch|outgrown=>cases hk2
        |ret|exit i|goto i|panic ch|outgrown=>cases hk1
       ·rintro A ⟨v,rfl,hm⟩;simp only[List.take_zero,List.reverse_nil,n9]at hm;exact⟨_,rfl,(Ie hFD W S).trans (VK hchk v (iP.refl _ _ _)),hm⟩
      ·cases h
     ·cases h
    ·cases h
   ·cases h
  ·cases h
 | .inl r1 d f c xs n rvs x r2,nt,ρ,F,W,k,S,r,hok,h=>by
  simp only[SA.vR]at hok;obtain⟨⟨vS,ok2,okx,okv⟩,hnr,hfn,hokx⟩:=hok;simp only[oS]at h;split at h
  ·rename_i hoff;refine ag8 hΓ hfn hnr hoff vS ok2 okx okv h λS1 hk1=> ?_
   split at hk1
   ·rename_i A_s has;split at hk1
    ·rename_i hchk;refine⟨A_s,has,hchk,(eN hΓ x _ W _ _ r hokx hk1).mono ?_⟩;rintro e A ⟨S2,rfl,hf,hk2⟩
     cases e with
     |ret=>
      simp only at hk2;split at hk2
      ·rename_i v hv;split at hk2
       ·rename_i hdk;exact⟨S2,rfl,hf,.inl rfl,v,hv,hdk,hk2⟩
       ·cases hk2
      ·cases hk2
     |normal=>
      simp only at hk2;split at hk2
      ·rename_i v hv;split at hk2
       ·rename_i hdk;exact⟨S2,rfl,hf,.inr rfl,v,hv,hdk,hk2⟩
       ·cases hk2
      ·cases hk2
     |exit i|goto l|panic c|outgrown=>cases hk2
    ·cases hk1
   ·cases hk1
  ·cases h
 | .ps p x,nt,ρ,F,W,k,S,r,hok,h=>by
  simp only[oS]at h;split at h
  ·rename_i hW;simp only[Qm]at hW;split at h
   ·rename_i S1 hp;refine SP (λE a w L hr=>Ps.sound K hp hr) ((eN hΓ x F W k S1 r hok h).mono λe A ⟨S'',h1,h2,h3⟩=>⟨S'',h1,iP.trans ?_ h2,h3⟩)
    exact(Ps.frm hp hW.1).toC hW.2
   ·cases h
  ·cases h
 | .B5 p x,nt,ρ,F,W,k,S,r,hok,h=>by
  refine ag7 (eN hΓ x F W _ S r hok h) ?_;rintro e A ⟨S',rfl,hf,hk⟩
  cases e with
  |normal=>
   simp only at hk;split at hk
   ·rename_i hW;simp only[Qm]at hW;split at hk
    ·rename_i S1 hp;exact⟨S1.st,⟨S1,rfl,hf.trans ((Ps.frm hp hW.1).toC hW.2),hk⟩,λE a w L hr=>Ps.sound K hp hr⟩
    ·cases hk
   ·cases hk
  |exit i|goto l|ret|panic c|outgrown=>exact⟨_,⟨S',rfl,hf,hk⟩,λE a w L hr=>⟨L,hr⟩⟩
end
end
section
open Go.RowKit
section
variable {P : Program} {E : En} {S : St} {a : Act} {w : World} {L : Nat -> Value} {nt : Nat}
def VS.post{sc:SC}{Q Q':Exit->St->Prop}{S:St}(h:VS P nt sc Q S)(hq:∀e A,Q e A->∃A',(∀(E:En) (a:Act) (w:World) (L:Nat->Value),Rel E A a w L->∃L',Rel E A' a w L')/\Q' e A'):VS P nt sc Q' S:=
 λc hs hc E hE hk a w L hr=>wpIn_mono (h c hs hc E hE hk a w L hr) λe a' w' ⟨S',L',h1,h2⟩=>by obtain⟨A',h3,h4⟩:=hq e S' h2;obtain⟨L'',h5⟩:=h3 E a' w' L' h1;exact⟨A',L'',h5,h4⟩
def Rel.ajk(h:Rel E S a w L){id:Nat}{cs:List PV}(hid:id<S.N)(hc:(S.H id).c= .box cs):Rel E {S with H:=bS S.H id ⟨(S.H id).av,.box (cs.map nz)⟩} a w L:=by
 have:=(h.vK (w':=w) hid ⟨(S.H id).av,.box (cs.map nz)⟩ (L id) (.inl ⟨rfl,rfl,by rw[hc];rfl⟩) rfl rfl rfl (QI _) (λ_ _ _=>rfl) (λb _ hb=> .inl ⟨by rw[hc];rfl,hb⟩) (λhs hg=>by
  obtain⟨b,cur,T,h1,h2,h3,h4⟩:=h.rJ hid hc
  exact⟨b,cur,T,h1,h2,h4,(h3.mono hs hg).nz⟩)).1
 rwa [Hi]at this
end
section
variable {U : TU}
variable (K : TK U)
def NR(S:aU U)(ex:Option Nat):(r:qj U)->KV U->Option r.den
 | .one T,x=>E0 K S.lk T x
 | .many Ts,x=>(match x with| .eL xs=>US K S.lk Ts xs|_=>none)
 | .fn a,x=>(match Nat.ble a.depth 9 with|true=>NU K S ex a x|false=>none)
variable {K}
def SJ{S:aU U}{ex:Option Nat}(hex:∀id,ex=some id->∀e k T xs,(S.H id).c≠ .row e k T xs){r:qj U}{x:KV U}{v:r.den}(h:NR K S ex r x=some v):fz S.st.H ex 9 x.pv=vL r v:=by
 cases r with
 |one T=>exact MW hex 7 h
 |many Ts=>
  simp only[NR]at h;split at h
  ·rename_i xs;rw[KV.pv,KV.c6,fz,vL,WH hex 6 Ts _ v h]
  ·cases h
 |fn a=>
  simp only[NR]at h;split at h
  ·rename_i hd;exact YW hex a 9 x v (QG hd) h
  ·cases h
variable (K)
def N5(A_s:List (KV U)):aU U:=
 {env:=λt=>(A_s[t]?).getD .undef,H:=λ_=>⟨0,.dead⟩,N:=0}
def aek(pos:Nat)(cs A_s:List (KV U)):aU U:=
 {env:=λt=>((jC pos [KV.ptr 0 0 0] A_s)[t]?).getD .undef,H:=λid=>(match Nat.beq id 0 with|true=>⟨0,.box cs⟩|false=>⟨0,.dead⟩),N:=1}
def Wy{ρ:Type}(ex:Option Nat)(rs:List RV)(r:qj U)(k:aU U->r.den->Option ρ)(e:Exit)(S:aU U):Option ρ:=
 match e with
 | .ret| .normal=>(match zz S rs with
  |some x=>(match NR K S ex r x with|some v=>k S v|none=>none)
  |none=>none)
 |_=>none
def DJ(S:aU U):List RV->Bool
 |[]=>true
 | .tmp _::l=>DJ S l
 | .cell t _::l=>(match S.env t with| .ptr id _ _=> !Nat.beq id 0|_=>false)&&DJ S l
 def Wt(Γ:List (dQ U))(sa:SA U)(rs:List RV)(A_s:List (dw U))(r:qj U)(a:eH A_s):Option r.den:=
 oS K Γ sa [] (some (0,[])) (Wy K none rs r λ_ v=>some v) (N5 (wz K A_s a))
 def rcK(Γ:List (dQ U))(sa:SA U)(rs:List RV)(pos:Nat)(R:U.Ty)(A_s:List (dw U))(r:qj U)(s:U.den R)(a:eH A_s):Option (r.den×U.den R):=
 oS K Γ sa [] (some (0,[])) (Wy K (some 0) rs r λS v=>(match DJ S rs with
  |true=>(match S.wy 0 0 with
   |some cs=>(match K.dec R sW cs with|some s'=>some (v,s')|none=>none)
   |none=>none)
  |false=>none)) (aek pos (K.gp R s) (wz K A_s a))
 def nwK(Γ:List (dQ U))(sa:SA U)(rs:List RV)(A_s:List (dw U))(R:U.Ty)(a:eH A_s):Option (U.den R):=
 oS K Γ sa [] (some (0,[])) (λe S=>(match e with
  | .ret=>(match zz S rs with
   |some (.ptr id av 0)=>(match S.wy id av with|some cs=>K.dec R sW cs|none=>none)
   |_=>none)
  |_=>none)) (N5 (wz K A_s a))
variable {K}
variable {P : Program} {nt : Nat}
def yP:∀(A_s:List (dw U)) (a:eH A_s),(gW A_s a).length=A_s.length
 |[],_=>by rw[gW];rfl
 |_::l,a=>by rw[gW,QE,yP l a.2,QE]
def LB(A_s:List (dw U))(a:eH A_s):(N5 (wz K A_s a)).st=dJ 0 false [] (gW A_s a):=by
 unfold N5 aU.st dJ;congr 1
 ·funext t
  rw[<-Cv K];simp only[Qq,Qu,TL,QT];cases (wz K A_s a)[t]?<;>rfl
def ahe(pos:Nat)(R:U.Ty)(s:U.den R)(A_s:List (dw U))(a:eH A_s):(aek pos (K.gp R s) (wz K A_s a)).st=dJ pos true (U.pv R s) (gW A_s a):=by
 unfold aek aU.st dJ;congr 1
 ·funext t
  rw[<-Cv K];simp only[Qt];have:(jC pos [PV.ptr 0 0 0] ((wz K A_s a).map KV.pv))=(jC pos [KV.ptr 0 0 0] (wz K A_s a)).map KV.pv:=by simp[jC,KV.pv]
  rw[this,QT];cases (jC pos [KV.ptr 0 0 0] (wz K A_s a))[t]?<;>rfl
 ·funext id
  cases id with
  |zero=>simp only[and_self,Qt,dn.pv,dU.pv,K.uH]
  |succ id=>simp[Nat.beq,dn.pv,dU.pv]
def Kx{ρ:Type}{ex:Option Nat}{rs:List RV}{r:qj U}{k:aU U->r.den->Option ρ}{e:Exit}{S:aU U}{z:ρ}(h:Wy K ex rs r k e S=some z):(e= .ret\/e= .normal)/\∃x v,zz S rs=some x/\NR K S ex r x=some v/\k S v=some z:=by
 unfold Wy at h
 have go:∀{o:Option ρ},o=some z->o=(match zz S rs with
  |some x=>(match NR K S ex r x with|some v=>k S v|none=>none)
  |none=>none)->∃x v,zz S rs=some x/\NR K S ex r x=some v/\k S v=some z:=by
  intro o ho he;rw[ho]at he;replace he:=he.symm;split at he
  ·rename_i x hx;split at he
   ·rename_i v hv;exact⟨x,v,hx,hv,he⟩
   ·cases he
  ·cases he
 split at h
 ·exact⟨.inl rfl,go h rfl⟩
 ·exact⟨.inr rfl,go h rfl⟩
 ·cases h
def Kr{f:FuncId}{Γ:List (dQ U)}{sa:SA U}{rs:List RV}{A_s:List (dw U)}{r:qj U}(hf:iQ P f nt sa.erase rs)(hok:sa.vR P)(hlen:A_s.length<=nt)(hΓ:vi P Γ){F:eH A_s->Option r.den}(hF:∀a,Wt K Γ sa rs A_s r a=F a):dQ.Sound P (.fn f A_s r F):=by
 refine⟨hf.enters,λa v hv=> ?_⟩
 rw[<-hF a]at hv;refine hf.Rb (by simpa[yP]using hlen) ?_
 rw[<-LB (K:=K)];refine(eN hΓ sa [] _ _ _ _ hok hv).mono ?_;rintro e A ⟨S',rfl,_,hk⟩;obtain⟨he,x,v',h1,h2,h3⟩:=Kx hk;injection h3 with h3
 subst h3
 have hret:BH rs false (λr' cs''=>r'=vL r v'/\(false=true->cs''=[])) S'.st:=by unfold BH;rw[DE h1];exact⟨SJ (λid hid=>by cases hid) h2,λh=>by cases h⟩
 rcases he with rfl|rfl<;>exact hret
 def air(K:TK U)(Γ:List (dQ U))(sa:SA U)(rs:List RV)(A_s:List (dw U))(r:qj U)(a:eH A_s):Option r.den:=
 oS K Γ sa [] (some (0,[])) (Wy K none rs r λ_ v=>some v) ((N5 (wz K A_s a)).more 1)
def Z6{f:FuncId}{Γ:List (dQ U)}{sa:SA U}{rs:List RV}{A_s:List (dw U)}{r:qj U}(hf:iQ P f nt sa.erase rs)(hok:sa.vR P)(hlen:A_s.length<=nt)(hΓ:vi P Γ){F:eH A_s->Option r.den}(hF:∀a,air K Γ sa rs A_s r a=F a):dQ.Sound P (.fn f A_s r F):=by
 refine⟨hf.enters,λa v hv=> ?_⟩
 rw[<-hF a]at hv;refine hf.Rb (by simpa[yP]using hlen) ?_
 rw[<-LB (K:=K)];refine(SP (S':=((N5 (wz K A_s a)).more 1).st) (λE a w L h=>⟨L,h.room 1⟩) (eN hΓ sa [] _ _ _ _ hok hv)).mono ?_
 rintro e A ⟨S',rfl,_,hk⟩;obtain⟨he,x,v',h1,h2,h3⟩:=Kx hk;injection h3 with h3
 subst h3
 have hret:BH rs false (λr' cs''=>r'=vL r v'/\(false=true->cs''=[])) S'.st:=by unfold BH;rw[DE h1];exact⟨SJ (λid hid=>by cases hid) h2,λh=>by cases h⟩
 rcases he with rfl|rfl<;>exact hret
def abu{S:aU U}{id av:Nat}{cs:List (KV U)}(hb:S.wy id av=some cs){R:U.Ty}{s:U.den R}(hd:K.dec R sW cs=some s)(hN:id<S.N):(∀(E:En) (a:Act) (w:World) (L:Nat->Value),Rel E S.st a w L->∃L',Rel E {S.st with H:=bS S.st.H id ⟨av,.box (U.pv R s)⟩} a w L'):=by intro E a w L h;obtain⟨h1,h2⟩:=Al hb;have:=h.ajk hN h2;rw[h1,(wx (K.oT _ _ _ _ hd)).1]at this;exact⟨L,this⟩
def Wq(K:TK U)(R:U.Ty)(s:U.den R):(U.pv R s).all PV.closed=true:=QH.2 λy hy=>gP (K.ic R s y hy)
def aa2{f:FuncId}{Γ:List (dQ U)}{sa:SA U}{rs:List RV}{pos:Nat}{R:U.Ty}{A_s:List (dw U)}{r:qj U}(hf:iQ P f nt sa.erase rs)(hok:sa.vR P)(hlen:1+A_s.length<=nt)(hΓ:vi P Γ)
  {F:U.den R->eH A_s->Option (r.den×U.den R)} (hF:∀s a,rcK K Γ sa rs pos R A_s r s a=F s a):dQ.Sound P (.rc f pos R A_s r F):=by
 refine⟨hf.enters,λs a v s' hv=> ?_⟩
 rw[<-hF s a]at hv;refine hf.Rb (by simpa[yP]using hlen) ?_
 rw[<-ahe (K:=K)];refine(eN hΓ sa [] _ _ _ _ hok hv).post ?_;rintro e A ⟨S',rfl,hfr,hk⟩;obtain⟨he,x,v',h1,h2,h3⟩:=Kx hk;split at h3
 case h_2=>cases h3
 rename_i hnc;split at h3
 ·rename_i cs hb;split at h3
  ·rename_i s'' hd;injection h3 with h3
   injection h3 with h4 h5
   subst h4 h5;have hN:0<S'.N:=QJ (show 0<1 from Nat.one_pos) hfr.N
   refine⟨_,abu hb hd hN,?_⟩;have h6:=DE h1
   have hres:∀rs:List RV,DJ S' rs=true->yu {S'.st with H:=bS S'.st.H 0 ⟨0,.box (U.pv R s'')⟩} rs=yu S'.st rs:=by
    intro rs hrs
    induction rs with
    |nil=>rfl
    |cons q rs ih=>
     cases q with
     |tmp t=>simp only[DJ]at hrs;simp only[yu,DX,ih hrs]
     |cell t n=>
      simp only[DJ,Qm]at hrs;have h9:=hrs.1;split at h9
      ·rename_i id av off ht;have hne:id≠0:=by intro e;subst e;simp at h9
       have h10:S'.st.env t= .ptr id av off:=by simp only[aU.st,ht,KV.pv]
       simp only[yu,DX,h10,cY _ _ hne,ih hrs.2]
      ·cases h9
   have hret:BH rs true (λr' cs''=>r'=vL r v'/\(true=true->cs''=U.pv R s'')) {S'.st with H:=bS S'.st.H 0 ⟨0,.box (U.pv R s'')⟩}:=by
    unfold BH
    have h7:vo {S'.st with H:=bS S'.st.H 0 ⟨0,.box (U.pv R s'')⟩} rs=some x.pv:=by rw[<-h6];unfold vo;have h8:=hres rs hnc;simp only[h8]
    rw[h7];simp only[cr];refine⟨Wq K R s'',?_,by simp⟩
    have hbx:=(Cu hb).2;rw[<-SJ (K:=K) (S:=S') (ex:=some 0) (λid hid=>by injection hid with hid;subst hid;intro e k T xs hq;rw[hbx]at hq;cases hq) h2]
    have hz:∀(n:Nat) (y:PV),fz (bS S'.st.H 0 ⟨0,.box (U.pv R s'')⟩) (some 0) n y=fz S'.st.H (some 0) n y:=by
     intro n
     induction n with
     |zero=>intro y;simp only[fz]
     |succ n ih=>
      intro y;have hu:∀id,¬(some id=some 0)->bS S'.st.H 0 ⟨0,.box (U.pv R s'')⟩ id=S'.st.H id:=λid hid=>cY _ _ (λe=>hid (by rw[e]))
      have hm:fz (bS S'.st.H 0 ⟨0,.box (U.pv R s'')⟩) (some 0) n=fz S'.st.H (some 0) n:=funext ih
      cases y with
      |own id av|ptr id av off=>
       simp only[fz,hm]
       by_cases h0:some id=some 0
       ·rw[Qr (.inl h0),Qr (.inl h0)]
       ·rw[hu id h0]
      |agg cs|eL cs|bI f cs=>simp only[fz,hm]
      |_=>simp only[fz]
    exact hz 9 x.pv
   rcases he with rfl|rfl<;>exact hret
  ·cases h3
 ·cases h3
def abv{f:FuncId}{Γ:List (dQ U)}{sa:SA U}{t:Nat}{A_s:List (dw U)}{R:U.Ty}(hf:iQ P f nt sa.erase [.tmp t])(hok:sa.vR P)(hlen:A_s.length<=nt)(hΓ:vi P Γ){F:eH A_s->Option (U.den R)}(hF:∀a,nwK K Γ sa [.tmp t] A_s R a=F a):dQ.Sound P (.nw f A_s R F):=by
 refine⟨hf.enters,λa s hv=> ?_⟩
 rw[<-hF a]at hv;refine hf.akD (by simpa[yP]using hlen) ?_
 rw[<-LB (K:=K)];intro c hs hc E hE hkt a' w L hr;refine wpIn_mono (eN hΓ sa [] _ _ _ _ hok hv c hs hc E hE hkt a' w L hr) ?_;rintro e a2 w2 ⟨A,L2,hrel,S',rfl,_,hk⟩;split at hk
 ·split at hk
  ·rename_i id av hx;split at hk
   ·rename_i cs hb
    have hre:S'.st.env t= .ptr id av 0:=by have:=DE hx;simpa[vo,yu,DX,KV.pv]using this
    have hN:id<S'.N:=by have:=hrel.env t;rw[hre]at this;exact(this.pH (show(S'.st.gh L2).V id=av from(Al hb).1)).1
    obtain⟨L3,h3⟩:=abu hb hk hN E a2 w2 L2 hrel;refine⟨_,L3,h3,?_⟩
    have h7:vo {S'.st with H:=bS S'.st.H id ⟨av,.box (U.pv R s)⟩} [.tmp t]=some (.ptr id av 0):=by simp only[vo,yu,DX];rw[hre]
    simp only[VH];rw[h7];simp only[cr,Qt];exact⟨Wq K R s,trivial⟩
   ·cases hk
  ·cases hk
 ·cases hk
def aej(e k:Nat)(T:U.Ty)(xs:List (U.den T))(A_s:List (KV U)):aU U:=
 {env:=λt=>(((KV.own 0 0)::A_s)[t]?).getD .undef,H:=λid=>(match Nat.beq id 0 with|true=>⟨0,.row e k T xs⟩|false=>⟨0,.dead⟩),N:=1}
def ahd(e k:Nat)(T:U.Ty)(xs:List (U.den T))(A_s:List (dw U))(a:eH A_s):(aej e k T xs (wz K A_s a)).st=vd e k (xs.map (U.pv T)) (gW A_s a):=by
 unfold aej aU.st vd;congr 1
 ·funext t
  rw[<-Cv K]
  cases t with
  |zero=>rfl
  |succ t=>simp only[List.getElem?_cons_succ,QT];cases (wz K A_s a)[t]?<;>rfl
 ·funext id
  cases id with
  |zero=>simp[dn.pv,dU.pv]
  |succ id=>simp[Nat.beq,dn.pv,dU.pv]
variable (K)
def rowAt(S:aU U)(id av e k:Nat)(T:U.Ty):Option (List (U.den T)):=
 match S.row? id av with
 |some r=>(match Nat.beq r.e e&&Nat.beq r.k k with|true=>yl r.T T r.xs|false=>none)
 |none=>none
def Zo{S:aU U}{id av e k:Nat}{T:U.Ty}{xs:List (U.den T)}(h:rowAt S id av e k T=some xs):(S.H id).av=av/\(S.H id).c= .row e k T xs:=by
 unfold rowAt at h;split at h
 ·rename_i r hr;obtain⟨h1,h2⟩:=Fb hr;split at h
  ·rename_i hek;rw[Qm]at hek;obtain⟨eT,rfl⟩:=np h;obtain⟨re,rk,rT,rxs⟩:=r;simp only at eT h2 hek;subst eT;exact⟨h1,by rw[h2,QF hek.1,QF hek.2]⟩
  ·cases h
 ·cases h
def aag{ρ:Type}(rs:List RV)(e k:Nat)(T:U.Ty)(j:List (U.den T)->Option ρ)(en:Exit)(S:aU U):Option ρ:=
 match en with
 | .ret| .normal=>(match zz S rs with
  |some (.own id av)=>(match rowAt S id av e k T with|some ys=>j ys|none=>none)
  |_=>none)
 |_=>none
 def cwK(Γ:List (dQ U))(sa:SA U)(rs:List RV)(e k:Nat)(T:U.Ty)(A_s:List (dw U))(xs:List (U.den T))(a:eH A_s):Option (List (U.den T)):=
 oS K Γ sa [] (some (0,[])) (aag rs e k T λys=>some ys) (aej e k T xs (wz K A_s a))
 def fwK(Γ:List (dQ U))(sa:SA U)(rs:List RV)(A_s:List (dw U))(e k:Nat)(T:U.Ty)(a:eH A_s):Option (List (U.den T)):=
 oS K Γ sa [] (some (0,[])) (aag rs e k T λys=>some ys) (N5 (wz K A_s a))
variable {K}
def TW{ρ:Type}{rs:List RV}{e k:Nat}{T:U.Ty}{j:List (U.den T)->Option ρ}{en:Exit}{S:aU U}{z:ρ}(h:aag rs e k T j en S=some z):
  (en= .ret\/en= .normal)/\∃id av ys,zz S rs=some (.own id av)/\(S.H id).av=av/\(S.H id).c= .row e k T ys/\j ys=some z:=by
 have go:(match zz S rs with
  |some (.own id av)=>(match rowAt S id av e k T with|some ys=>j ys|none=>none)
  |_=>none)=some z->∃id av ys,zz S rs=some (.own id av)/\(S.H id).av=av/\(S.H id).c= .row e k T ys/\j ys=some z:=by
  intro he;split at he
  ·rename_i id av hx;split at he
   ·rename_i ys hys;obtain⟨h1,h2⟩:=Zo hys;exact⟨id,av,ys,hx,h1,h2,he⟩
   ·cases he
  ·cases he
 unfold aag at h;split at h
 ·exact⟨.inl rfl,go h⟩
 ·exact⟨.inr rfl,go h⟩
 ·cases h
def Wz{rs:List RV}{e k:Nat}{T:U.Ty}{S':aU U}{id av:Nat}{ys:List (U.den T)}(h1:zz S' rs=some (.own id av))(h2:(S'.H id).av=av)(h3:(S'.H id).c= .row e k T ys)(K:TK U):FI rs e k (λes''=>es''=ys.map (U.pv T)) .ret S'.st:=by
 simp only[FI];rw[DE h1];simp only[KV.pv];refine⟨h2,?_⟩;have:(S'.st.H id).c= .row e k (ys.map (U.pv T)):=by simp only[aU.st,dn.pv,h3,dU.pv]
 rw[this];exact⟨rfl,rfl,Bi K T ys,rfl⟩
def ab9{f:FuncId}{Γ:List (dQ U)}{sa:SA U}{rs:List RV}{e k:Nat}{T:U.Ty}{A_s:List (dw U)}(hf:iQ P f nt sa.erase rs)(hok:sa.vR P)(hlen:1+A_s.length<=nt)(hΓ:vi P Γ)
  {F:List (U.den T)->eH A_s->Option (List (U.den T))} (hF:∀xs a,cwK K Γ sa rs e k T A_s xs a=F xs a):dQ.Sound P (.cw f e k T A_s F):=by
 refine⟨hf.enters,λxs a ys hv=> ?_⟩
 rw[<-hF xs a]at hv;refine hf.akF (by simpa[yP]using hlen) ?_
 rw[<-ahd (K:=K)];refine(eN hΓ sa [] _ _ _ _ hok hv).mono ?_;rintro en A ⟨S',rfl,_,hk⟩;obtain⟨he,id,av,ys',h1,h2,h3,h5⟩:=TW hk;injection h5 with h5
 subst h5;have hret:=Wz h1 h2 h3 K;rcases he with rfl|rfl<;>exact hret
def abV{f:FuncId}{Γ:List (dQ U)}{sa:SA U}{rs:List RV}{e k:Nat}{T:U.Ty}{A_s:List (dw U)}(hf:iQ P f nt sa.erase rs)(hok:sa.vR P)(hlen:A_s.length<=nt)(hΓ:vi P Γ)
  {F:eH A_s->Option (List (U.den T))} (hF:∀a,fwK K Γ sa rs A_s e k T a=F a):dQ.Sound P (.fw f A_s e k T F):=by
 refine⟨hf.enters,λa ys hv=> ?_⟩
 rw[<-hF a]at hv;refine hf.akE (by simpa[yP]using hlen) ?_
 rw[<-LB (K:=K)];refine(eN hΓ sa [] _ _ _ _ hok hv).mono ?_;rintro en A ⟨S',rfl,_,hk⟩;obtain⟨he,id,av,ys',h1,h2,h3,h5⟩:=TW hk;injection h5 with h5
 subst h5;have hret:=Wz h1 h2 h3 K;rcases he with rfl|rfl<;>exact hret
end
end
section
def op{U:TU}(d:Nat)(x:ct)(r:RS U):RS U:= .op ⟨some d,none,x⟩ r
def ops{U:TU}(x:ct)(r:RS U):RS U:= .op ⟨none,none,x⟩ r
def tm(t:Nat):bB:= .tmp t
def ci(n:Int):bB:= .zj (.int .i64 n)
def ld{U:TU}(d t:Nat)(r:RS U):RS U:=op d (.load none (tm t)) r
def cl{U:TU}(d f:Nat)(l:List Nat)(r:RS U):RS U:=op d (.call f (l.map tm)) r
def aA(k:IntKind)(a b:Int):Int:=k.wrap (a+b)
def c8(k:IntKind)(a b:Int):Int:=k.wrap (a - b)
def qa(k:IntKind)(a b:Int):Int:=k.wrap (a*b)
def Vq(k:IntKind)(a b:Int):Int:=k.wrap (a.tdiv b)
def Zr(_:IntKind)(a b:Int):Int:=a.tmod b
def Gd(k:IntKind)(a b:Int):Int:=k.wrap ((BitVec.ofInt k.bits a&&&BitVec.ofInt k.bits b).toNat)
def sB(k:IntKind)(a b:Int):Int:=k.wrap ((BitVec.ofInt k.bits a|||BitVec.ofInt k.bits b).toNat)
def dF(k:IntKind)(a b:Int):Int:=k.wrap ((BitVec.ofInt k.bits a^^^BitVec.ofInt k.bits b).toNat)
def BA(k:IntKind)(a b:Int):Int:=k.wrap ((BitVec.ofInt k.bits a&&& ~~~ BitVec.ofInt k.bits b).toNat)
def bW(k:IntKind)(a b:Int):Int:=k.wrap (a*2 ^ (min b.toNat k.bits))
def jM(k:IntKind)(a b:Int):Int:=a.fdiv (2 ^ (min b.toNat k.bits))
def br(k:IntKind)(n:Int):Int:=k.wrap n
def du(a b:Int):Int:=if b<a then b else a
def bF(a b:Int):Int:=if b>a then b else a
def mw(neg:Bool)(a b:Int)(s t:ByteArray):Bool:=xor neg (decide (a=b)&&decide (s=t))
def jA{A R:Type}(B:(A->Option R)->A->Option R):Nat->A->Option R
 |0,_=>none
 |n+1,a=>B (jA B n) a
section
variable {U : TU}
inductive RN (U:TU) where
 |ps (p:Ps U)
 |CS (t:Nat)
def acH(t:Nat):List SG->Option (List SG×SG×List SG)
 |[]=>none
 |o::r=>(match o.op with
  | .pick (.tmp t') _ _=>(match Nat.beq t t' with
   |true=>some ([],o,r)
   |false=>(match acH t r with|some (b,q,r')=>some (o::b,q,r')|none=>none))
  |_=>(match acH t r with|some (b,q,r')=>some (o::b,q,r')|none=>none))
def before(n:Nat):List (Nat×RN U)->List (Nat×RN U)
 |[]=>[]
 |(j,x)::l=>(match Nat.ble n j with|true=>[]|false=>(j,x)::before n l)
def after(n:Nat):List (Nat×RN U)->List (Nat×RN U)
 |[]=>[]
 |(j,x)::l=>(match Nat.ble n j with|true=>(j,x)::l|false=>after n l)
def vM(rH:Bool):Nat->List Nat->Nat->List SG->List (Nat×RN U)->RS U
 |0,_,_,_,_=> .nil
 |f+1,kn,i,[],ns=>(match ns with
  |(_,.ps p)::ns'=> .ps p (vM rH f kn i [] ns')
  |(_,.CS t)::ns'=> .CS t (vM rH f (t::kn) i [] ns')
  |_=> .nil)
 |f+1,kn,i,o::r,ns=>(match(match ns with|(j,_)::_=>Nat.beq j i|[]=>false)with
  |true=>(match ns with
   |(_,.ps p)::ns'=> .ps p (vM rH f kn i (o::r) ns')
   |(_,.CS t)::ns'=> .CS t (vM rH f (t::kn) i (o::r) ns')
   |[]=> .nil)
  |false=>(match o.g with
   |none=> .op o (vM rH f kn (Nat.succ i) r ns)
   |some (t,w)=>(match iM t kn with
    |true=> .op o (vM rH f kn (Nat.succ i) r ns)
    |false=>(match rH with
     |true=> .CS t (vM rH f (t::kn) i (o::r) ns)
     |false=>(match acH t (o::r)with
      |some (b,q,r')=>(match q.op with
       | .pick _ x y=> .ite t w (vM rH f (t::kn) i b (before (Nat.add i b.length) ns)) (q.d.getD 0) q.g x y (vM rH f kn (Nat.succ (Nat.add i b.length)) r' (after (Nat.add i b.length) ns))
       |_=> .nil)
      |none=> .nil)))))
inductive NT (U:TU) where
 |e
 |l (x:NT U)
 |r (x:NT U)
 |b (x y:NT U)
 |ps (p:Ps U) (x:NT U)
 |B5 (p:Ps U) (x:NT U)
 |j (J:JS U) (x:NT U)
 |u (n:Nat) (x:NT U)
 |k (J:JS U) (f k:Nat) (nE:Option Nat) (T:U.Ty) (x:NT U)
 |o (J:JS U) (f:Nat) (x:NT U)
 |i (n:Nat) (f:FuncId) (nt:Nat) (rvs:List RV) (x:SA U) (ns ms:List (Nat×RN U))
 |g (ns:List (Nat×RN U))
def NT.lt:NT U->NT U
 | .l x| .b x _=>x
 | .j _ x| .k _ _ _ _ _ x| .o _ _ x| .ps _ x| .B5 _ x=>x.lt
 |_=> .e
def NT.rt:NT U->NT U
 | .r x| .b _ x=>x
 | .j _ x| .k _ _ _ _ _ x| .o _ _ x| .ps _ x| .B5 _ x=>x.rt
 |_=> .e
def NT.wrap:NT U->SA U->SA U
 | .ps p x,s=> .ps p (x.wrap s)
 | .B5 p x,s=> .B5 p (x.wrap s)
 |_,s=>s
def NT.core:NT U->NT U
 | .ps _ x| .B5 _ x=>x.core
 |x=>x
def dS:SC->NT U->SA U
 | .skip,t=>t.wrap .skip
 | .tM ops,t=>t.wrap (match t.core with
  | .g ns=> .tM (vM false 4000 [] 0 ops ns)
  | .i n f nt rvs x ns ms=>(match ops.drop n with
   |o::r=>(match o.op with
    | .call _ xs=> .inl (vM false 4000 [] 0 (ops.take n) ns) o.d f none xs nt rvs x (vM false 4000 [] 0 r ms)
    | .uk fv xs=> .inl (vM false 4000 [] 0 (ops.take n) ns) o.d f (some fv) xs nt rvs x (vM false 4000 [] 0 r ms)
    |_=> .skip)
   |[]=> .skip)
  |_=> .tM (vM false 4000 [] 0 ops []))
 | .rH un ops,t=>t.wrap (.rH un (match t.core with| .g ns=>vM true 4000 [] 0 ops ns|_=>vM true 4000 [] 0 ops []))
 | .seq x y,t=>t.wrap (match t.core with
  | .j J u=> .join J (dS x u.lt) (dS y u.rt)
  |u=> .seq (dS x u.lt) (dS y u.rt))
 | .cond c x y,t=>t.wrap (.cond c (dS x t.lt) (dS y t.rt))
 | .block id x,t=>t.wrap (.block id (dS x t.lt))
 | .loop x,t=>t.wrap (match t.core with
  | .j J u=> .loop J (dS x u.lt)
  | .u n t=> .Mo n (dS x t.lt)
  |_=> .loop ⟨[],[]⟩ (dS x t.lt))
 | .Gs g ps x y,t=>t.wrap (match t.core with
  | .k J f k nE T u=>(match g with
   | .tmp tg=> .back J f k nE T tg (ps.headD 0) (ps.tail.headD 0) (dS x u.lt) (dS y u.rt)
   |_=> .skip)
  |_=> .skip)
 | .exit id,t=>t.wrap (.exit id)
 | .ret,t=>t.wrap .ret
def eE(P:Program)(nt:Nat)(hs:List Nat)(fn:Func):SC:=(fn.body.bind (aW P nt hs)).getD .skip
end
section
variable {U : TU} {P : Program}
structure KS (U:TU) (P:Program) where
 k:dQ U
 s:k.Sound P
def KS.ks:List (KS U P)->List (dQ U)
 |[]=>[]
 |x::l=>x.k::KS.ks l
def KS.all:∀l:List (KS U P),vi P (KS.ks l)
 |[]=>trivial
 |x::l=>⟨x.s,KS.all l⟩
variable {K : TK U} {f : FuncId} {A_s : List (dw U)} {r : qj U} {e k : Nat} {T R : U.Ty}
def fk{f nt:Nat}{c:SC}{rs:List RV}(fn:Func)(hs:List Nat)(hf:P.funcs[f]?=some fn)(h0:fn.ntmps=nt:=by rfl)(h1:(fn.body.bind (aW P nt hs))=some c:=by kernel_rfl)(h2:mQ P fn.results.toList=some rs:=by kernel_rfl)(h3:(fn.name== "runtime.NumGoroutine")=false:=by kernel_rfl):iQ P f nt c rs:=⟨fn,hs,hf,h0,h1,h2,h3⟩
def fnS(sa:SA U)(nt:Nat)(rs:List RV)(G:List (KS U P))(hf:iQ P f nt sa.erase rs)(hok:sa.dB=true:=by kernel_rfl)(hlen:A_s.length<=nt:=by decide){F:eH A_s->Option r.den}(hF:Wt K (KS.ks G) sa rs A_s r=F:=by kernel_rfl):dQ.Sound P (.fn f A_s r F):=
 Kr hf (oN hok) hlen (KS.all G) λa=>congrFun hF a
def adI(sa:SA U)(nt:Nat)(rs:List RV)(G:List (KS U P))(l:List (FuncId×Nat×SC×List RV))(hi:w9 P l)(hf:iQ P f nt sa.erase rs)(hok:sa.Bh=true:=by kernel_rfl)(hl:sa.Ss=l:=by kernel_rfl)(hlen:A_s.length<=nt:=by decide){F:eH A_s->Option r.den}(hF:air K (KS.ks G) sa rs A_s r=F:=by kernel_rfl):dQ.Sound P (.fn f A_s r F):=
 Z6 hf (Bg hok (by rw[hl];exact hi)) hlen (KS.all G) λa=>congrFun hF a
def rcS{pos:Nat}(sa:SA U)(nt:Nat)(rs:List RV)(G:List (KS U P))(hf:iQ P f nt sa.erase rs)(hok:sa.dB=true:=by kernel_rfl)(hlen:1+A_s.length<=nt:=by decide){F:U.den R->eH A_s->Option (r.den×U.den R)}(hF:rcK K (KS.ks G) sa rs pos R A_s r=F:=by kernel_rfl):dQ.Sound P (.rc f pos R A_s r F):=
 aa2 hf (oN hok) hlen (KS.all G) λs a=>congrFun (congrFun hF s) a
def roS{pos:Nat}{F:U.den R->eH A_s->Option (r.den×U.den R)}(h:dQ.Sound P (.rc f pos R A_s r F))(hs:∀s a q,F s a=some q->q.2=s):dQ.Sound P (.ro f pos R A_s r F):=
 ⟨h.1,λs a v s' hv=>⟨hs s a _ hv,h.2 s a v s' hv⟩⟩
def nwS(sa:SA U)(nt t:Nat)(G:List (KS U P))(hf:iQ P f nt sa.erase [.tmp t])(hok:sa.dB=true:=by kernel_rfl)(hlen:A_s.length<=nt:=by decide){F:eH A_s->Option (U.den R)}(hF:nwK K (KS.ks G) sa [.tmp t] A_s R=F:=by kernel_rfl):dQ.Sound P (.nw f A_s R F):=
 abv hf (oN hok) hlen (KS.all G) λa=>congrFun hF a
def WL(sa:SA U)(nt:Nat)(rs:List RV)(G:List (KS U P))(hf:iQ P f nt sa.erase rs)(hok:sa.dB=true:=by kernel_rfl)(hlen:1+A_s.length<=nt:=by decide){F:List (U.den T)->eH A_s->Option (List (U.den T))}(hF:cwK K (KS.ks G) sa rs e k T A_s=F:=by kernel_rfl):dQ.Sound P (.cw f e k T A_s F):=
 ab9 hf (oN hok) hlen (KS.all G) λs a=>congrFun (congrFun hF s) a
def YN(sa:SA U)(nt:Nat)(rs:List RV)(G:List (KS U P))(hf:iQ P f nt sa.erase rs)(hok:sa.dB=true:=by kernel_rfl)(hlen:A_s.length<=nt:=by decide){F:eH A_s->Option (List (U.den T))}(hF:fwK K (KS.ks G) sa rs A_s e k T=F:=by kernel_rfl):dQ.Sound P (.fw f A_s e k T F):=
 abV hf (oN hok) hlen (KS.all G) λa=>congrFun hF a
def fnR(sa:SA U)(nt:Nat)(rs:List RV)(G:List (KS U P))(hf:iQ P f nt sa.erase rs)(hok:sa.dB=true:=by kernel_rfl)(hlen:A_s.length<=nt:=by decide){B:(eH A_s->Option r.den)->eH A_s->Option r.den}(hB:(λg=>Wt K (.fn f A_s r g::KS.ks G) sa rs A_s r)=B):∀n,dQ.Sound P (.fn f A_s r (jA B n))
 |0=>⟨hf.enters,λa r h=>by cases h⟩
 |n+1=>Kr (K:=K) (Γ:= .fn f A_s r (jA B n)::KS.ks G) (F:=jA B (n+1)) hf (oN hok) hlen ⟨fnR sa nt rs G hf hok hlen hB n,KS.all G⟩ λa=>congrFun (congrFun hB (jA B n)) a
def Ag(sa:SA U)(nt:Nat)(rs:List RV)(G:List (KS U P))(hf:iQ P f nt sa.erase rs)(hok:sa.dB=true:=by kernel_rfl)(hlen:A_s.length<=nt:=by decide){B:(eH A_s->Option r.den)->eH A_s->Option r.den}(hB:(λg=>Wt K (.fn f A_s r g::KS.ks G) sa rs A_s r)=B:=by kernel_rfl){F:eH A_s->Option r.den}(hF:∀a,∃n,F a=jA B n a):dQ.Sound P (.fn f A_s r F):=
 ⟨hf.enters,λa r h=>by
  obtain⟨n,hn⟩:=hF a;rw[hn]at h
  exact(fnR sa nt rs G hf hok hlen hB n).2 a r h⟩
def Z5(sa:SA U)(nt:Nat)(rs:List RV)(G:(g:eH A_s->Option r.den)->dQ.Sound P (.fn f A_s r g)->List (KS U P))(hf:iQ P f nt sa.erase rs)(hok:sa.dB=true:=by kernel_rfl)(hlen:A_s.length<=nt:=by decide){B:(eH A_s->Option r.den)->eH A_s->Option r.den}(hB:(λg h=>Wt K (.fn f A_s r g::KS.ks (G g h)) sa rs A_s r)=λg _=>B g):∀n,dQ.Sound P (.fn f A_s r (jA B n))
 |0=>⟨hf.enters,λa r h=>by cases h⟩
 |n+1=>Kr (K:=K) (Γ:= .fn f A_s r (jA B n)::KS.ks (G (jA B n) (Z5 sa nt rs G hf hok hlen hB n))) (F:=jA B (n+1)) hf (oN hok) hlen ⟨Z5 sa nt rs G hf hok hlen hB n,KS.all _⟩ λa=>congrFun (congrFun (congrFun hB (jA B n)) (Z5 sa nt rs G hf hok hlen hB n)) a
def ajC(sa:SA U)(nt:Nat)(rs:List RV)(G:(g:eH A_s->Option r.den)->dQ.Sound P (.fn f A_s r g)->List (KS U P))(hf:iQ P f nt sa.erase rs)(hok:sa.dB=true:=by kernel_rfl)(hlen:A_s.length<=nt:=by decide){B:(eH A_s->Option r.den)->eH A_s->Option r.den}(hB:(λg h=>Wt K (.fn f A_s r g::KS.ks (G g h)) sa rs A_s r)=(λg _=>B g):=by kernel_rfl){F:eH A_s->Option r.den}(hF:∀a,∃n,F a=jA B n a):dQ.Sound P (.fn f A_s r F):=
 ⟨hf.enters,λa r h=>by
  obtain⟨n,hn⟩:=hF a;rw[hn]at h
  exact(Z5 sa nt rs G hf hok hlen hB n).2 a r h⟩
end
end
section
structure aj where
 aI:Int
 bb:(List Int)
 aO:(List aj)
theorem aj.eta(x:aj):aj.mk x.aI x.bb x.aO=x:=by cases x;rfl
@[reducible] def aq (x:aj):aj:=aj.mk x.aI x.bb x.aO
structure az where
 al:Int
 aH:Int
 aa:aj
 bl:(List ByteArray)
 aG:(List ByteArray)
@[simp] def az.eta (x:az):az.mk x.al x.aH x.aa x.bl x.aG=x:=rfl
structure au where
 al:Int
 aK:Int
 Round:Int
 aH:Int
 aa:aj
 lP:ByteArray
 bl:(List ByteArray)
 aG:(List ByteArray)
 aR:(List ByteArray)
 ar:(List az)
@[simp] def au.eta (x:au):au.mk x.al x.aK x.Round x.aH x.aa x.lP x.bl x.aG x.aR x.ar=x:=rfl
structure ah where
 ai:Int
 Value:ByteArray
@[simp] def ah.eta (x:ah):ah.mk x.ai x.Value=x:=rfl
structure ak where
 al:Int
 aK:Int
 aH:Int
 aa:aj
 bA:Int
 af:ah
 ao:ah
 aD:ah
 aZ:Int
 bq:Int
@[simp] def ak.eta (x:ak):ak.mk x.al x.aK x.aH x.aa x.bA x.af x.ao x.aD x.aZ x.bq=x:=rfl
structure ab where
 al:Int
 aK:Int
 aH:Int
 aa:aj
 aQ:Int
 af:ah
 ao:ah
 aD:ah
 ax:ah
 aZ:Int
 bq:Int
 bg:ByteArray
 ar:(List ak)
@[simp] def ab.eta (x:ab):ab.mk x.al x.aK x.aH x.aa x.aQ x.af x.ao x.aD x.ax x.aZ x.bq x.bg x.ar=x:=rfl
structure dq where
 ai:Int
 Da:Int
@[simp] def dq.eta (x:dq):dq.mk x.ai x.Da=x:=rfl
structure aL where
 aB:au
 ae:ab
 Timer:dq
 Round:Int
 Next:Int
 CR:Bool
 Value:ByteArray
@[simp] def aL.eta (x:aL):aL.mk x.aB x.ae x.Timer x.Round x.Next x.CR x.Value=x:=rfl
structure aw where
 al:Int
 bO:Bool
 aa:aj
 aC:(List aL)
@[simp] def aw.eta (x:aw):aw.mk x.al x.bO x.aa x.aC=x:=rfl
structure cI where
 bA:Int
 aK:Int
 aX:az
 ay:ak
@[simp] def cI.eta (x:cI):cI.mk x.bA x.aK x.aX x.ay=x:=rfl
structure kY where
 c0:aw
 c1:aw
 c2:aw
 c3:aw
@[simp] def kY.eta (x:kY):kY.mk x.c0 x.c1 x.c2 x.c3=x:=rfl
structure qg where
 c0:Int
 c1:Int
@[simp] def qg.eta (x:qg):qg.mk x.c0 x.c1=x:=rfl
structure qi where
 c0:qg
 c1:qg
@[simp] def qi.eta (x:qi):qi.mk x.c0 x.c1=x:=rfl
structure sv where
 c0:cI
 c1:cI
@[simp] def sv.eta (x:sv):sv.mk x.c0 x.c1=x:=rfl
structure eD where
 L:(List Int)
 At:Int
@[simp] def eD.eta (x:eD):eD.mk x.L x.At=x:=rfl
structure aM where
 ae:ab
@[simp] def aM.eta (x:aM):aM.mk x.ae=x:=rfl
structure bj where
 ft:Bool
 aa:aj
@[simp] def bj.eta (x:bj):bj.mk x.ft x.aa=x:=rfl
structure bd where
 bn:(List bj)
@[simp] def bd.eta (x:bd):bd.mk x.bn=x:=rfl
structure bK where
 ay:ak
@[simp] def bK.eta (x:bK):bK.mk x.ay=x:=rfl
structure gQ where
 al:Int
 View:bd
 ar:(List bK)
@[simp] def gQ.eta (x:gQ):gQ.mk x.al x.View x.ar=x:=rfl
structure mI where
 uo:Int
 Value:Int
@[simp] def mI.eta (x:mI):mI.mk x.uo x.Value=x:=rfl
structure cF where
 al:Int
 aH:Int
 aa:aj
 bl:(List mI)
 aG:(List mI)
@[simp] def cF.eta (x:cF):cF.mk x.al x.aH x.aa x.bl x.aG=x:=rfl
structure Ix where
 ba:Int
 low:Int
 cm:Int
 aT:ah
 eU:ah
 bX:ah
 ed:ah
@[simp] def Ix.eta (x:Ix):Ix.mk x.ba x.low x.cm x.aT x.eU x.bX x.ed=x:=rfl
structure sw where
 c0:ah
 c1:ah
@[simp] def sw.eta (x:sw):sw.mk x.c0 x.c1=x:=rfl
structure eX where
 Uc:Int
 Ud:Int
@[simp] def eX.eta (x:eX):eX.mk x.Uc x.Ud=x:=rfl
attribute [simp] aj.eta
inductive ob where
 |aa
 |aX
 |aB
 |af
 |ay
 |ae
 |Timer
 |aK
 |kE
 |tj
 |iZ
 |tJ
 |nC
 |pB
 |Src
 |yb
 |ti
 |Config
 |w7
 |Seen
 |Claim
 |Message
 |lP
 |pC
 |EL
 deriving DecidableEq
inductive Ty where
 |i (k:IntKind)
 |bool
 |str
 |sl (t:Ty)
 |mp (a b:Ty)
 |st (n:ob)
def ob.den:ob->Type
 | .aa=>aj
 | .aX=>az
 | .aB=>au
 | .af=>ah
 | .ay=>ak
 | .ae=>ab
 | .Timer=>dq
 | .aK=>aL
 | .kE=>aw
 | .tj=>cI
 | .iZ=>kY
 | .tJ=>qg
 | .nC=>qi
 | .pB=>sv
 | .Src=>eD
 | .yb=>aM
 | .ti=>bj
 | .Config=>bd
 | .w7=>bK
 | .Seen=>gQ
 | .Claim=>mI
 | .Message=>cF
 | .lP=>Ix
 | .pC=>sw
 | .EL=>eX
def Ty.den:Ty->Type
 | .i _=>Int
 | .bool=>Bool
 | .str=>ByteArray
 | .sl t=>List t.den
 | .mp a b=>List (a.den×b.den)
 | .st n=>n.den
def Ty.beq:Ty->Ty->Bool
 | .i k,.i k'=>decide (k=k')
 | .bool,.bool| .str,.str=>true
 | .sl t,.sl t'=>Ty.beq t t'
 | .mp a b,.mp a' b'=>Ty.beq a a'&&Ty.beq b b'
 | .st n,.st n'=>decide (n=n')
 |_,_=>false
def Ty.eq_of_beq:∀{a b:Ty},Ty.beq a b=true->a=b
 | .i k,.i k',h=>by rw[of_decide_eq_true h]
 | .bool,.bool,_| .str,.str,_=>rfl
 | .sl t,.sl t',h=>by rw[Ty.eq_of_beq (a:=t) (b:=t') h]
 | .mp a b,.mp a' b',h=>by rw[Ty.beq,Qm]at h;rw[Ty.eq_of_beq (a:=a) (b:=a') h.1,Ty.eq_of_beq (a:=b) (b:=b') h.2]
 | .st n,.st n',h=>by rw[of_decide_eq_true h]
 | .i _,.bool,h| .i _,.str,h| .i _,.sl _,h| .i _,.st _,h| .bool,.i _,h| .bool,.str,h| .bool,.sl _,h| .bool,.st _,h| .str,.i _,h| .str,.bool,h| .str,.sl _,h| .str,.st _,h| .sl _,.i _,h| .sl _,.bool,h| .sl _,.str,h| .sl _,.st _,h| .st _,.i _,h| .st _,.bool,h| .st _,.str,h| .st _,.sl _,h| .mp _ _,.i _,h| .i _,.mp _ _,h| .mp _ _,.bool,h| .bool,.mp _ _,h| .mp _ _,.str,h| .str,.mp _ _,h| .mp _ _,.sl _,h| .sl _,.mp _ _,h| .mp _ _,.st _,h| .st _,.mp _ _,h=>by cases h
def Ty.Iq:∀(a:Ty),Ty.beq a a=true
 | .i k=>Qg rfl
 | .bool| .str=>rfl
 | .sl t=>Ty.Iq t
 | .mp a b=>by rw[Ty.beq,Ty.Iq a,Ty.Iq b];rfl
 | .st n=>Qg rfl
def Ty.YU(a b:Ty):Decidable (a=b):=
 match h:Ty.beq a b with
 |true=>isTrue (Ty.eq_of_beq h)
 |false=>isFalse λe=>by rw[e,Ty.Iq]at h;cases h
@[reducible] def EJ:List Ty->Type
 |[]=>Unit
 |t::l=>t.den×EJ l
def ob.leaves:ob->List Ty
 | .aa=>[(Ty.i .i64),(Ty.sl (Ty.i .i64)),(Ty.sl (Ty.st .aa))]
 | .aX=>[(Ty.i .i64),(Ty.i .i64),(Ty.i .i64),(Ty.sl (Ty.i .i64)),(Ty.sl (Ty.st .aa)),(Ty.sl Ty.str),(Ty.sl Ty.str)]
 | .aB=>[(Ty.i .i64),(Ty.i .i64),(Ty.i .i64),(Ty.i .i64),(Ty.i .i64),(Ty.sl (Ty.i .i64)),(Ty.sl (Ty.st .aa)),Ty.str,(Ty.sl Ty.str),(Ty.sl Ty.str),(Ty.sl Ty.str),(Ty.sl (Ty.st .aX))]
 | .af=>[(Ty.i .i64),Ty.str]
 | .ay=>[(Ty.i .i64),(Ty.i .i64),(Ty.i .i64),(Ty.i .i64),(Ty.sl (Ty.i .i64)),(Ty.sl (Ty.st .aa)),(Ty.i .i64),(Ty.i .i64),Ty.str,(Ty.i .i64),Ty.str,(Ty.i .i64),Ty.str,(Ty.i .i64),(Ty.i .i64)]
 | .ae=>[(Ty.i .i64),(Ty.i .i64),(Ty.i .i64),(Ty.i .i64),(Ty.sl (Ty.i .i64)),(Ty.sl (Ty.st .aa)),(Ty.i .i64),(Ty.i .i64),Ty.str,(Ty.i .i64),Ty.str,(Ty.i .i64),Ty.str,(Ty.i .i64),Ty.str,(Ty.i .i64),(Ty.i .i64),Ty.str,(Ty.sl (Ty.st .ay))]
 | .Timer=>[(Ty.i .i64),(Ty.i .i64)]
 | .aK=>[(Ty.i .i64),(Ty.i .i64),(Ty.i .i64),(Ty.i .i64),(Ty.i .i64),(Ty.sl (Ty.i .i64)),(Ty.sl (Ty.st .aa)),Ty.str,(Ty.sl Ty.str),(Ty.sl Ty.str),(Ty.sl Ty.str),(Ty.sl (Ty.st .aX)),(Ty.i .i64),(Ty.i .i64),(Ty.i .i64),(Ty.i .i64),(Ty.sl (Ty.i .i64)),(Ty.sl (Ty.st .aa)),(Ty.i .i64),(Ty.i .i64),Ty.str,(Ty.i .i64),Ty.str,(Ty.i .i64),Ty.str,(Ty.i .i64),Ty.str,(Ty.i .i64),(Ty.i .i64),Ty.str,(Ty.sl (Ty.st .ay)),(Ty.i .i64),(Ty.i .i64),(Ty.i .i64),(Ty.i .i64),Ty.bool,Ty.str]
 | .kE=>[(Ty.i .i64),Ty.bool,(Ty.i .i64),(Ty.sl (Ty.i .i64)),(Ty.sl (Ty.st .aa)),(Ty.sl (Ty.st .aK))]
 | .tj=>[(Ty.i .i64),(Ty.i .i64),(Ty.i .i64),(Ty.i .i64),(Ty.i .i64),(Ty.sl (Ty.i .i64)),(Ty.sl (Ty.st .aa)),(Ty.sl Ty.str),(Ty.sl Ty.str),(Ty.i .i64),(Ty.i .i64),(Ty.i .i64),(Ty.i .i64),(Ty.sl (Ty.i .i64)),(Ty.sl (Ty.st .aa)),(Ty.i .i64),(Ty.i .i64),Ty.str,(Ty.i .i64),Ty.str,(Ty.i .i64),Ty.str,(Ty.i .i64),(Ty.i .i64)]
 | .iZ=>[(Ty.i .i64),Ty.bool,(Ty.i .i64),(Ty.sl (Ty.i .i64)),(Ty.sl (Ty.st .aa)),(Ty.sl (Ty.st .aK)),(Ty.i .i64),Ty.bool,(Ty.i .i64),(Ty.sl (Ty.i .i64)),(Ty.sl (Ty.st .aa)),(Ty.sl (Ty.st .aK)),(Ty.i .i64),Ty.bool,(Ty.i .i64),(Ty.sl (Ty.i .i64)),(Ty.sl (Ty.st .aa)),(Ty.sl (Ty.st .aK)),(Ty.i .i64),Ty.bool,(Ty.i .i64),(Ty.sl (Ty.i .i64)),(Ty.sl (Ty.st .aa)),(Ty.sl (Ty.st .aK))]
 | .tJ=>[(Ty.i .i64),(Ty.i .i64)]
 | .nC=>[(Ty.i .i64),(Ty.i .i64),(Ty.i .i64),(Ty.i .i64)]
 | .pB=>[(Ty.i .i64),(Ty.i .i64),(Ty.i .i64),(Ty.i .i64),(Ty.i .i64),(Ty.sl (Ty.i .i64)),(Ty.sl (Ty.st .aa)),(Ty.sl Ty.str),(Ty.sl Ty.str),(Ty.i .i64),(Ty.i .i64),(Ty.i .i64),(Ty.i .i64),(Ty.sl (Ty.i .i64)),(Ty.sl (Ty.st .aa)),(Ty.i .i64),(Ty.i .i64),Ty.str,(Ty.i .i64),Ty.str,(Ty.i .i64),Ty.str,(Ty.i .i64),(Ty.i .i64),(Ty.i .i64),(Ty.i .i64),(Ty.i .i64),(Ty.i .i64),(Ty.i .i64),(Ty.sl (Ty.i .i64)),(Ty.sl (Ty.st .aa)),(Ty.sl Ty.str),(Ty.sl Ty.str),(Ty.i .i64),(Ty.i .i64),(Ty.i .i64),(Ty.i .i64),(Ty.sl (Ty.i .i64)),(Ty.sl (Ty.st .aa)),(Ty.i .i64),(Ty.i .i64),Ty.str,(Ty.i .i64),Ty.str,(Ty.i .i64),Ty.str,(Ty.i .i64),(Ty.i .i64)]
 | .Src=>[(Ty.sl (Ty.i .i64)),(Ty.i .i64)]
 | .yb=>[(Ty.i .i64),(Ty.i .i64),(Ty.i .i64),(Ty.i .i64),(Ty.sl (Ty.i .i64)),(Ty.sl (Ty.st .aa)),(Ty.i .i64),(Ty.i .i64),Ty.str,(Ty.i .i64),Ty.str,(Ty.i .i64),Ty.str,(Ty.i .i64),Ty.str,(Ty.i .i64),(Ty.i .i64),Ty.str,(Ty.sl (Ty.st .ay))]
 | .ti=>[Ty.bool,(Ty.i .i64),(Ty.sl (Ty.i .i64)),(Ty.sl (Ty.st .aa))]
 | .Config=>[(Ty.sl (Ty.st .ti))]
 | .w7=>[(Ty.i .i64),(Ty.i .i64),(Ty.i .i64),(Ty.i .i64),(Ty.sl (Ty.i .i64)),(Ty.sl (Ty.st .aa)),(Ty.i .i64),(Ty.i .i64),Ty.str,(Ty.i .i64),Ty.str,(Ty.i .i64),Ty.str,(Ty.i .i64),(Ty.i .i64)]
 | .Seen=>[(Ty.i .i64),(Ty.sl (Ty.st .ti)),(Ty.sl (Ty.st .w7))]
 | .Claim=>[(Ty.i .i64),(Ty.i .i64)]
 | .Message=>[(Ty.i .i64),(Ty.i .i64),(Ty.i .i64),(Ty.sl (Ty.i .i64)),(Ty.sl (Ty.st .aa)),(Ty.sl (Ty.st .Claim)),(Ty.sl (Ty.st .Claim))]
 | .lP=>[(Ty.i .i64),(Ty.i .i64),(Ty.i .i64),(Ty.i .i64),Ty.str,(Ty.i .i64),Ty.str,(Ty.i .i64),Ty.str,(Ty.i .i64),Ty.str]
 | .pC=>[(Ty.i .i64),Ty.str,(Ty.i .i64),Ty.str]
 | .EL=>[(Ty.i .i64),(Ty.i .i64)]
def ob.toL:(n:ob)->n.den->EJ n.leaves
 | .aa,(v:aj)=>(v.aI,v.bb,v.aO,())
 | .aX,(v:az)=>(v.al,v.aH,v.aa.aI,v.aa.bb,v.aa.aO,v.bl,v.aG,())
 | .aB,(v:au)=>(v.al,v.aK,v.Round,v.aH,v.aa.aI,v.aa.bb,v.aa.aO,v.lP,v.bl,v.aG,v.aR,v.ar,())
 | .af,(v:ah)=>(v.ai,v.Value,())
 | .ay,(v:ak)=>(v.al,v.aK,v.aH,v.aa.aI,v.aa.bb,v.aa.aO,v.bA,v.af.ai,v.af.Value,v.ao.ai,v.ao.Value,v.aD.ai,v.aD.Value,v.aZ,v.bq,())
 | .ae,(v:ab)=>(v.al,v.aK,v.aH,v.aa.aI,v.aa.bb,v.aa.aO,v.aQ,v.af.ai,v.af.Value,v.ao.ai,v.ao.Value,v.aD.ai,v.aD.Value,v.ax.ai,v.ax.Value,v.aZ,v.bq,v.bg,v.ar,())
 | .Timer,(v:dq)=>(v.ai,v.Da,())
 | .aK,(v:aL)=>(v.aB.al,v.aB.aK,v.aB.Round,v.aB.aH,v.aB.aa.aI,v.aB.aa.bb,v.aB.aa.aO,v.aB.lP,v.aB.bl,v.aB.aG,v.aB.aR,v.aB.ar,v.ae.al,v.ae.aK,v.ae.aH,v.ae.aa.aI,v.ae.aa.bb,v.ae.aa.aO,v.ae.aQ,v.ae.af.ai,v.ae.af.Value,v.ae.ao.ai,v.ae.ao.Value,v.ae.aD.ai,v.ae.aD.Value,v.ae.ax.ai,v.ae.ax.Value,v.ae.aZ,v.ae.bq,v.ae.bg,v.ae.ar,v.Timer.ai,v.Timer.Da,v.Round,v.Next,v.CR,v.Value,())
 | .kE,(v:aw)=>(v.al,v.bO,v.aa.aI,v.aa.bb,v.aa.aO,v.aC,())
 | .tj,(v:cI)=>(v.bA,v.aK,v.aX.al,v.aX.aH,v.aX.aa.aI,v.aX.aa.bb,v.aX.aa.aO,v.aX.bl,v.aX.aG,v.ay.al,v.ay.aK,v.ay.aH,v.ay.aa.aI,v.ay.aa.bb,v.ay.aa.aO,v.ay.bA,v.ay.af.ai,v.ay.af.Value,v.ay.ao.ai,v.ay.ao.Value,v.ay.aD.ai,v.ay.aD.Value,v.ay.aZ,v.ay.bq,())
 | .iZ,(v:kY)=>(v.c0.al,v.c0.bO,v.c0.aa.aI,v.c0.aa.bb,v.c0.aa.aO,v.c0.aC,v.c1.al,v.c1.bO,v.c1.aa.aI,v.c1.aa.bb,v.c1.aa.aO,v.c1.aC,v.c2.al,v.c2.bO,v.c2.aa.aI,v.c2.aa.bb,v.c2.aa.aO,v.c2.aC,v.c3.al,v.c3.bO,v.c3.aa.aI,v.c3.aa.bb,v.c3.aa.aO,v.c3.aC,())
 | .tJ,(v:qg)=>(v.c0,v.c1,())
 | .nC,(v:qi)=>(v.c0.c0,v.c0.c1,v.c1.c0,v.c1.c1,())
 | .pB,(v:sv)=>(v.c0.bA,v.c0.aK,v.c0.aX.al,v.c0.aX.aH,v.c0.aX.aa.aI,v.c0.aX.aa.bb,v.c0.aX.aa.aO,v.c0.aX.bl,v.c0.aX.aG,v.c0.ay.al,v.c0.ay.aK,v.c0.ay.aH,v.c0.ay.aa.aI,v.c0.ay.aa.bb,v.c0.ay.aa.aO,v.c0.ay.bA,v.c0.ay.af.ai,v.c0.ay.af.Value,v.c0.ay.ao.ai,v.c0.ay.ao.Value,v.c0.ay.aD.ai,v.c0.ay.aD.Value,v.c0.ay.aZ,v.c0.ay.bq,v.c1.bA,v.c1.aK,v.c1.aX.al,v.c1.aX.aH,v.c1.aX.aa.aI,v.c1.aX.aa.bb,v.c1.aX.aa.aO,v.c1.aX.bl,v.c1.aX.aG,v.c1.ay.al,v.c1.ay.aK,v.c1.ay.aH,v.c1.ay.aa.aI,v.c1.ay.aa.bb,v.c1.ay.aa.aO,v.c1.ay.bA,v.c1.ay.af.ai,v.c1.ay.af.Value,v.c1.ay.ao.ai,v.c1.ay.ao.Value,v.c1.ay.aD.ai,v.c1.ay.aD.Value,v.c1.ay.aZ,v.c1.ay.bq,())
 | .Src,(v:eD)=>(v.L,v.At,())
 | .yb,(v:aM)=>(v.ae.al,v.ae.aK,v.ae.aH,v.ae.aa.aI,v.ae.aa.bb,v.ae.aa.aO,v.ae.aQ,v.ae.af.ai,v.ae.af.Value,v.ae.ao.ai,v.ae.ao.Value,v.ae.aD.ai,v.ae.aD.Value,v.ae.ax.ai,v.ae.ax.Value,v.ae.aZ,v.ae.bq,v.ae.bg,v.ae.ar,())
 | .ti,(v:bj)=>(v.ft,v.aa.aI,v.aa.bb,v.aa.aO,())
 | .Config,(v:bd)=>(v.bn,())
 | .w7,(v:bK)=>(v.ay.al,v.ay.aK,v.ay.aH,v.ay.aa.aI,v.ay.aa.bb,v.ay.aa.aO,v.ay.bA,v.ay.af.ai,v.ay.af.Value,v.ay.ao.ai,v.ay.ao.Value,v.ay.aD.ai,v.ay.aD.Value,v.ay.aZ,v.ay.bq,())
 | .Seen,(v:gQ)=>(v.al,v.View.bn,v.ar,())
 | .Claim,(v:mI)=>(v.uo,v.Value,())
 | .Message,(v:cF)=>(v.al,v.aH,v.aa.aI,v.aa.bb,v.aa.aO,v.bl,v.aG,())
 | .lP,(v:Ix)=>(v.ba,v.low,v.cm,v.aT.ai,v.aT.Value,v.eU.ai,v.eU.Value,v.bX.ai,v.bX.Value,v.ed.ai,v.ed.Value,())
 | .pC,(v:sw)=>(v.c0.ai,v.c0.Value,v.c1.ai,v.c1.Value,())
 | .EL,(v:eX)=>(v.Uc,v.Ud,())
def ob.ofL:(n:ob)->EJ n.leaves->n.den
 | .aa,v=>(aj.mk v.1 v.2.1 v.2.2.1)
 | .aX,v=>(az.mk v.1 v.2.1 (aj.mk v.2.2.1 v.2.2.2.1 v.2.2.2.2.1) v.2.2.2.2.2.1 v.2.2.2.2.2.2.1)
 | .aB,v=>(au.mk v.1 v.2.1 v.2.2.1 v.2.2.2.1 (aj.mk v.2.2.2.2.1 v.2.2.2.2.2.1 v.2.2.2.2.2.2.1) v.2.2.2.2.2.2.2.1 v.2.2.2.2.2.2.2.2.1 v.2.2.2.2.2.2.2.2.2.1 v.2.2.2.2.2.2.2.2.2.2.1 v.2.2.2.2.2.2.2.2.2.2.2.1)
 | .af,v=>(ah.mk v.1 v.2.1)
 | .ay,v=>(ak.mk v.1 v.2.1 v.2.2.1 (aj.mk v.2.2.2.1 v.2.2.2.2.1 v.2.2.2.2.2.1) v.2.2.2.2.2.2.1 (ah.mk v.2.2.2.2.2.2.2.1 v.2.2.2.2.2.2.2.2.1) (ah.mk v.2.2.2.2.2.2.2.2.2.1 v.2.2.2.2.2.2.2.2.2.2.1) (ah.mk v.2.2.2.2.2.2.2.2.2.2.2.1 v.2.2.2.2.2.2.2.2.2.2.2.2.1) v.2.2.2.2.2.2.2.2.2.2.2.2.2.1 v.2.2.2.2.2.2.2.2.2.2.2.2.2.2.1)
 | .ae,v=>(ab.mk v.1 v.2.1 v.2.2.1 (aj.mk v.2.2.2.1 v.2.2.2.2.1 v.2.2.2.2.2.1) v.2.2.2.2.2.2.1 (ah.mk v.2.2.2.2.2.2.2.1 v.2.2.2.2.2.2.2.2.1) (ah.mk v.2.2.2.2.2.2.2.2.2.1 v.2.2.2.2.2.2.2.2.2.2.1) (ah.mk v.2.2.2.2.2.2.2.2.2.2.2.1 v.2.2.2.2.2.2.2.2.2.2.2.2.1) (ah.mk v.2.2.2.2.2.2.2.2.2.2.2.2.2.1 v.2.2.2.2.2.2.2.2.2.2.2.2.2.2.1) v.2.2.2.2.2.2.2.2.2.2.2.2.2.2.2.1 v.2.2.2.2.2.2.2.2.2.2.2.2.2.2.2.2.1 v.2.2.2.2.2.2.2.2.2.2.2.2.2.2.2.2.2.1 v.2.2.2.2.2.2.2.2.2.2.2.2.2.2.2.2.2.2.1)
 | .Timer,v=>(dq.mk v.1 v.2.1)
 | .aK,v=>(aL.mk (au.mk v.1 v.2.1 v.2.2.1 v.2.2.2.1 (aj.mk v.2.2.2.2.1 v.2.2.2.2.2.1 v.2.2.2.2.2.2.1) v.2.2.2.2.2.2.2.1 v.2.2.2.2.2.2.2.2.1 v.2.2.2.2.2.2.2.2.2.1 v.2.2.2.2.2.2.2.2.2.2.1 v.2.2.2.2.2.2.2.2.2.2.2.1) (ab.mk v.2.2.2.2.2.2.2.2.2.2.2.2.1 v.2.2.2.2.2.2.2.2.2.2.2.2.2.1 v.2.2.2.2.2.2.2.2.2.2.2.2.2.2.1 (aj.mk v.2.2.2.2.2.2.2.2.2.2.2.2.2.2.2.1 v.2.2.2.2.2.2.2.2.2.2.2.2.2.2.2.2.1 v.2.2.2.2.2.2.2.2.2.2.2.2.2.2.2.2.2.1) v.2.2.2.2.2.2.2.2.2.2.2.2.2.2.2.2.2.2.1 (ah.mk v.2.2.2.2.2.2.2.2.2.2.2.2.2.2.2.2.2.2.2.1 v.2.2.2.2.2.2.2.2.2.2.2.2.2.2.2.2.2.2.2.2.1) (ah.mk v.2.2.2.2.2.2.2.2.2.2.2.2.2.2.2.2.2.2.2.2.2.1 v.2.2.2.2.2.2.2.2.2.2.2.2.2.2.2.2.2.2.2.2.2.2.1) (ah.mk v.2.2.2.2.2.2.2.2.2.2.2.2.2.2.2.2.2.2.2.2.2.2.2.1 v.2.2.2.2.2.2.2.2.2.2.2.2.2.2.2.2.2.2.2.2.2.2.2.2.1) (ah.mk v.2.2.2.2.2.2.2.2.2.2.2.2.2.2.2.2.2.2.2.2.2.2.2.2.2.1 v.2.2.2.2.2.2.2.2.2.2.2.2.2.2.2.2.2.2.2.2.2.2.2.2.2.2.1) v.2.2.2.2.2.2.2.2.2.2.2.2.2.2.2.2.2.2.2.2.2.2.2.2.2.2.2.1 v.2.2.2.2.2.2.2.2.2.2.2.2.2.2.2.2.2.2.2.2.2.2.2.2.2.2.2.2.1 v.2.2.2.2.2.2.2.2.2.2.2.2.2.2.2.2.2.2.2.2.2.2.2.2.2.2.2.2.2.1 v.2.2.2.2.2.2.2.2.2.2.2.2.2.2.2.2.2.2.2.2.2.2.2.2.2.2.2.2.2.2.1) (dq.mk v.2.2.2.2.2.2.2.2.2.2.2.2.2.2.2.2.2.2.2.2.2.2.2.2.2.2.2.2.2.2.2.1 v.2.2.2.2.2.2.2.2.2.2.2.2.2.2.2.2.2.2.2.2.2.2.2.2.2.2.2.2.2.2.2.2.1) v.2.2.2.2.2.2.2.2.2.2.2.2.2.2.2.2.2.2.2.2.2.2.2.2.2.2.2.2.2.2.2.2.2.1 v.2.2.2.2.2.2.2.2.2.2.2.2.2.2.2.2.2.2.2.2.2.2.2.2.2.2.2.2.2.2.2.2.2.2.1 v.2.2.2.2.2.2.2.2.2.2.2.2.2.2.2.2.2.2.2.2.2.2.2.2.2.2.2.2.2.2.2.2.2.2.2.1 v.2.2.2.2.2.2.2.2.2.2.2.2.2.2.2.2.2.2.2.2.2.2.2.2.2.2.2.2.2.2.2.2.2.2.2.2.1)
 | .kE,v=>(aw.mk v.1 v.2.1 (aj.mk v.2.2.1 v.2.2.2.1 v.2.2.2.2.1) v.2.2.2.2.2.1)
 | .tj,v=>(cI.mk v.1 v.2.1 (az.mk v.2.2.1 v.2.2.2.1 (aj.mk v.2.2.2.2.1 v.2.2.2.2.2.1 v.2.2.2.2.2.2.1) v.2.2.2.2.2.2.2.1 v.2.2.2.2.2.2.2.2.1) (ak.mk v.2.2.2.2.2.2.2.2.2.1 v.2.2.2.2.2.2.2.2.2.2.1 v.2.2.2.2.2.2.2.2.2.2.2.1 (aj.mk v.2.2.2.2.2.2.2.2.2.2.2.2.1 v.2.2.2.2.2.2.2.2.2.2.2.2.2.1 v.2.2.2.2.2.2.2.2.2.2.2.2.2.2.1) v.2.2.2.2.2.2.2.2.2.2.2.2.2.2.2.1 (ah.mk v.2.2.2.2.2.2.2.2.2.2.2.2.2.2.2.2.1 v.2.2.2.2.2.2.2.2.2.2.2.2.2.2.2.2.2.1) (ah.mk v.2.2.2.2.2.2.2.2.2.2.2.2.2.2.2.2.2.2.1 v.2.2.2.2.2.2.2.2.2.2.2.2.2.2.2.2.2.2.2.1) (ah.mk v.2.2.2.2.2.2.2.2.2.2.2.2.2.2.2.2.2.2.2.2.1 v.2.2.2.2.2.2.2.2.2.2.2.2.2.2.2.2.2.2.2.2.2.1) v.2.2.2.2.2.2.2.2.2.2.2.2.2.2.2.2.2.2.2.2.2.2.1 v.2.2.2.2.2.2.2.2.2.2.2.2.2.2.2.2.2.2.2.2.2.2.2.1))
 | .iZ,v=>(kY.mk (aw.mk v.1 v.2.1 (aj.mk v.2.2.1 v.2.2.2.1 v.2.2.2.2.1) v.2.2.2.2.2.1) (aw.mk v.2.2.2.2.2.2.1 v.2.2.2.2.2.2.2.1 (aj.mk v.2.2.2.2.2.2.2.2.1 v.2.2.2.2.2.2.2.2.2.1 v.2.2.2.2.2.2.2.2.2.2.1) v.2.2.2.2.2.2.2.2.2.2.2.1) (aw.mk v.2.2.2.2.2.2.2.2.2.2.2.2.1 v.2.2.2.2.2.2.2.2.2.2.2.2.2.1 (aj.mk v.2.2.2.2.2.2.2.2.2.2.2.2.2.2.1 v.2.2.2.2.2.2.2.2.2.2.2.2.2.2.2.1 v.2.2.2.2.2.2.2.2.2.2.2.2.2.2.2.2.1) v.2.2.2.2.2.2.2.2.2.2.2.2.2.2.2.2.2.1) (aw.mk v.2.2.2.2.2.2.2.2.2.2.2.2.2.2.2.2.2.2.1 v.2.2.2.2.2.2.2.2.2.2.2.2.2.2.2.2.2.2.2.1 (aj.mk v.2.2.2.2.2.2.2.2.2.2.2.2.2.2.2.2.2.2.2.2.1 v.2.2.2.2.2.2.2.2.2.2.2.2.2.2.2.2.2.2.2.2.2.1 v.2.2.2.2.2.2.2.2.2.2.2.2.2.2.2.2.2.2.2.2.2.2.1) v.2.2.2.2.2.2.2.2.2.2.2.2.2.2.2.2.2.2.2.2.2.2.2.1))
 | .tJ,v=>(qg.mk v.1 v.2.1)
 | .nC,v=>(qi.mk (qg.mk v.1 v.2.1) (qg.mk v.2.2.1 v.2.2.2.1))
 | .pB,v=>(sv.mk (cI.mk v.1 v.2.1 (az.mk v.2.2.1 v.2.2.2.1 (aj.mk v.2.2.2.2.1 v.2.2.2.2.2.1 v.2.2.2.2.2.2.1) v.2.2.2.2.2.2.2.1 v.2.2.2.2.2.2.2.2.1) (ak.mk v.2.2.2.2.2.2.2.2.2.1 v.2.2.2.2.2.2.2.2.2.2.1 v.2.2.2.2.2.2.2.2.2.2.2.1 (aj.mk v.2.2.2.2.2.2.2.2.2.2.2.2.1 v.2.2.2.2.2.2.2.2.2.2.2.2.2.1 v.2.2.2.2.2.2.2.2.2.2.2.2.2.2.1) v.2.2.2.2.2.2.2.2.2.2.2.2.2.2.2.1 (ah.mk v.2.2.2.2.2.2.2.2.2.2.2.2.2.2.2.2.1 v.2.2.2.2.2.2.2.2.2.2.2.2.2.2.2.2.2.1) (ah.mk v.2.2.2.2.2.2.2.2.2.2.2.2.2.2.2.2.2.2.1 v.2.2.2.2.2.2.2.2.2.2.2.2.2.2.2.2.2.2.2.1) (ah.mk v.2.2.2.2.2.2.2.2.2.2.2.2.2.2.2.2.2.2.2.2.1 v.2.2.2.2.2.2.2.2.2.2.2.2.2.2.2.2.2.2.2.2.2.1) v.2.2.2.2.2.2.2.2.2.2.2.2.2.2.2.2.2.2.2.2.2.2.1 v.2.2.2.2.2.2.2.2.2.2.2.2.2.2.2.2.2.2.2.2.2.2.2.1)) (cI.mk v.2.2.2.2.2.2.2.2.2.2.2.2.2.2.2.2.2.2.2.2.2.2.2.2.1 v.2.2.2.2.2.2.2.2.2.2.2.2.2.2.2.2.2.2.2.2.2.2.2.2.2.1 (az.mk v.2.2.2.2.2.2.2.2.2.2.2.2.2.2.2.2.2.2.2.2.2.2.2.2.2.2.1 v.2.2.2.2.2.2.2.2.2.2.2.2.2.2.2.2.2.2.2.2.2.2.2.2.2.2.2.1 (aj.mk v.2.2.2.2.2.2.2.2.2.2.2.2.2.2.2.2.2.2.2.2.2.2.2.2.2.2.2.2.1 v.2.2.2.2.2.2.2.2.2.2.2.2.2.2.2.2.2.2.2.2.2.2.2.2.2.2.2.2.2.1 v.2.2.2.2.2.2.2.2.2.2.2.2.2.2.2.2.2.2.2.2.2.2.2.2.2.2.2.2.2.2.1) v.2.2.2.2.2.2.2.2.2.2.2.2.2.2.2.2.2.2.2.2.2.2.2.2.2.2.2.2.2.2.2.1 v.2.2.2.2.2.2.2.2.2.2.2.2.2.2.2.2.2.2.2.2.2.2.2.2.2.2.2.2.2.2.2.2.1) (ak.mk v.2.2.2.2.2.2.2.2.2.2.2.2.2.2.2.2.2.2.2.2.2.2.2.2.2.2.2.2.2.2.2.2.2.1 v.2.2.2.2.2.2.2.2.2.2.2.2.2.2.2.2.2.2.2.2.2.2.2.2.2.2.2.2.2.2.2.2.2.2.1 v.2.2.2.2.2.2.2.2.2.2.2.2.2.2.2.2.2.2.2.2.2.2.2.2.2.2.2.2.2.2.2.2.2.2.2.1 (aj.mk v.2.2.2.2.2.2.2.2.2.2.2.2.2.2.2.2.2.2.2.2.2.2.2.2.2.2.2.2.2.2.2.2.2.2.2.2.1 v.2.2.2.2.2.2.2.2.2.2.2.2.2.2.2.2.2.2.2.2.2.2.2.2.2.2.2.2.2.2.2.2.2.2.2.2.2.1 v.2.2.2.2.2.2.2.2.2.2.2.2.2.2.2.2.2.2.2.2.2.2.2.2.2.2.2.2.2.2.2.2.2.2.2.2.2.2.1) v.2.2.2.2.2.2.2.2.2.2.2.2.2.2.2.2.2.2.2.2.2.2.2.2.2.2.2.2.2.2.2.2.2.2.2.2.2.2.2.1 (ah.mk v.2.2.2.2.2.2.2.2.2.2.2.2.2.2.2.2.2.2.2.2.2.2.2.2.2.2.2.2.2.2.2.2.2.2.2.2.2.2.2.2.1 v.2.2.2.2.2.2.2.2.2.2.2.2.2.2.2.2.2.2.2.2.2.2.2.2.2.2.2.2.2.2.2.2.2.2.2.2.2.2.2.2.2.1) (ah.mk v.2.2.2.2.2.2.2.2.2.2.2.2.2.2.2.2.2.2.2.2.2.2.2.2.2.2.2.2.2.2.2.2.2.2.2.2.2.2.2.2.2.2.1 v.2.2.2.2.2.2.2.2.2.2.2.2.2.2.2.2.2.2.2.2.2.2.2.2.2.2.2.2.2.2.2.2.2.2.2.2.2.2.2.2.2.2.2.1) (ah.mk v.2.2.2.2.2.2.2.2.2.2.2.2.2.2.2.2.2.2.2.2.2.2.2.2.2.2.2.2.2.2.2.2.2.2.2.2.2.2.2.2.2.2.2.2.1 v.2.2.2.2.2.2.2.2.2.2.2.2.2.2.2.2.2.2.2.2.2.2.2.2.2.2.2.2.2.2.2.2.2.2.2.2.2.2.2.2.2.2.2.2.2.1) v.2.2.2.2.2.2.2.2.2.2.2.2.2.2.2.2.2.2.2.2.2.2.2.2.2.2.2.2.2.2.2.2.2.2.2.2.2.2.2.2.2.2.2.2.2.2.1 v.2.2.2.2.2.2.2.2.2.2.2.2.2.2.2.2.2.2.2.2.2.2.2.2.2.2.2.2.2.2.2.2.2.2.2.2.2.2.2.2.2.2.2.2.2.2.2.1)))
 | .Src,v=>(eD.mk v.1 v.2.1)
 | .yb,v=>(aM.mk (ab.mk v.1 v.2.1 v.2.2.1 (aj.mk v.2.2.2.1 v.2.2.2.2.1 v.2.2.2.2.2.1) v.2.2.2.2.2.2.1 (ah.mk v.2.2.2.2.2.2.2.1 v.2.2.2.2.2.2.2.2.1) (ah.mk v.2.2.2.2.2.2.2.2.2.1 v.2.2.2.2.2.2.2.2.2.2.1) (ah.mk v.2.2.2.2.2.2.2.2.2.2.2.1 v.2.2.2.2.2.2.2.2.2.2.2.2.1) (ah.mk v.2.2.2.2.2.2.2.2.2.2.2.2.2.1 v.2.2.2.2.2.2.2.2.2.2.2.2.2.2.1) v.2.2.2.2.2.2.2.2.2.2.2.2.2.2.2.1 v.2.2.2.2.2.2.2.2.2.2.2.2.2.2.2.2.1 v.2.2.2.2.2.2.2.2.2.2.2.2.2.2.2.2.2.1 v.2.2.2.2.2.2.2.2.2.2.2.2.2.2.2.2.2.2.1))
 | .ti,v=>(bj.mk v.1 (aj.mk v.2.1 v.2.2.1 v.2.2.2.1))
 | .Config,v=>(bd.mk v.1)
 | .w7,v=>(bK.mk (ak.mk v.1 v.2.1 v.2.2.1 (aj.mk v.2.2.2.1 v.2.2.2.2.1 v.2.2.2.2.2.1) v.2.2.2.2.2.2.1 (ah.mk v.2.2.2.2.2.2.2.1 v.2.2.2.2.2.2.2.2.1) (ah.mk v.2.2.2.2.2.2.2.2.2.1 v.2.2.2.2.2.2.2.2.2.2.1) (ah.mk v.2.2.2.2.2.2.2.2.2.2.2.1 v.2.2.2.2.2.2.2.2.2.2.2.2.1) v.2.2.2.2.2.2.2.2.2.2.2.2.2.1 v.2.2.2.2.2.2.2.2.2.2.2.2.2.2.1))
 | .Seen,v=>(gQ.mk v.1 (bd.mk v.2.1) v.2.2.1)
 | .Claim,v=>(mI.mk v.1 v.2.1)
 | .Message,v=>(cF.mk v.1 v.2.1 (aj.mk v.2.2.1 v.2.2.2.1 v.2.2.2.2.1) v.2.2.2.2.2.1 v.2.2.2.2.2.2.1)
 | .lP,v=>(Ix.mk v.1 v.2.1 v.2.2.1 (ah.mk v.2.2.2.1 v.2.2.2.2.1) (ah.mk v.2.2.2.2.2.1 v.2.2.2.2.2.2.1) (ah.mk v.2.2.2.2.2.2.2.1 v.2.2.2.2.2.2.2.2.1) (ah.mk v.2.2.2.2.2.2.2.2.2.1 v.2.2.2.2.2.2.2.2.2.2.1))
 | .pC,v=>(sw.mk (ah.mk v.1 v.2.1) (ah.mk v.2.2.1 v.2.2.2.1))
 | .EL,v=>(eX.mk v.1 v.2.1)
mutual
def dZ:aj->List PV
 |⟨a0,a1,a2⟩=>[.int .i64 a0,.sl (a1.map (λx=>[.int .i64 x])),.sl (zG a2)]
def zG:List aj->List (List PV)
 |[]=>[]
 |x::l=>dZ x::zG l
end
def Gu:∀(l:List aj),zG l=l.map dZ
 |[]=>by rw[zG];rfl
 |x::l=>by rw[zG,Gu l];rfl
def Be(v:az):List PV:=[.int .i64 v.al,.int .i64 v.aH,.int .i64 v.aa.aI,.sl (v.aa.bb.map (λx=>[.int .i64 x])),.sl (v.aa.aO.map dZ),.sl (v.bl.map (λx=>[.str x])),.sl (v.aG.map (λx=>[.str x]))]
def Ui(v:au):List PV:=[.int .i64 v.al,.int .i64 v.aK,.int .i64 v.Round,.int .i64 v.aH,.int .i64 v.aa.aI,.sl (v.aa.bb.map (λx=>[.int .i64 x])),.sl (v.aa.aO.map dZ),.str v.lP,.sl (v.bl.map (λx=>[.str x])),.sl (v.aG.map (λx=>[.str x])),.sl (v.aR.map (λx=>[.str x])),.sl (v.ar.map Be)]
def ZG(v:ah):List PV:=[.int .i64 v.ai,.str v.Value]
def zH(v:ak):List PV:=[.int .i64 v.al,.int .i64 v.aK,.int .i64 v.aH,.int .i64 v.aa.aI,.sl (v.aa.bb.map (λx=>[.int .i64 x])),.sl (v.aa.aO.map dZ),.int .i64 v.bA,.int .i64 v.af.ai,.str v.af.Value,.int .i64 v.ao.ai,.str v.ao.Value,.int .i64 v.aD.ai,.str v.aD.Value,.int .i64 v.aZ,.int .i64 v.bq]
def XH(v:ab):List PV:=[.int .i64 v.al,.int .i64 v.aK,.int .i64 v.aH,.int .i64 v.aa.aI,.sl (v.aa.bb.map (λx=>[.int .i64 x])),.sl (v.aa.aO.map dZ),.int .i64 v.aQ,.int .i64 v.af.ai,.str v.af.Value,.int .i64 v.ao.ai,.str v.ao.Value,.int .i64 v.aD.ai,.str v.aD.Value,.int .i64 v.ax.ai,.str v.ax.Value,.int .i64 v.aZ,.int .i64 v.bq,.str v.bg,.sl (v.ar.map zH)]
def abe(v:dq):List PV:=[.int .i64 v.ai,.int .i64 v.Da]
def Bd(v:aL):List PV:=[.int .i64 v.aB.al,.int .i64 v.aB.aK,.int .i64 v.aB.Round,.int .i64 v.aB.aH,.int .i64 v.aB.aa.aI,.sl (v.aB.aa.bb.map (λx=>[.int .i64 x])),.sl (v.aB.aa.aO.map dZ),.str v.aB.lP,.sl (v.aB.bl.map (λx=>[.str x])),.sl (v.aB.aG.map (λx=>[.str x])),.sl (v.aB.aR.map (λx=>[.str x])),.sl (v.aB.ar.map Be),.int .i64 v.ae.al,.int .i64 v.ae.aK,.int .i64 v.ae.aH,.int .i64 v.ae.aa.aI,.sl (v.ae.aa.bb.map (λx=>[.int .i64 x])),.sl (v.ae.aa.aO.map dZ),.int .i64 v.ae.aQ,.int .i64 v.ae.af.ai,.str v.ae.af.Value,.int .i64 v.ae.ao.ai,.str v.ae.ao.Value,.int .i64 v.ae.aD.ai,.str v.ae.aD.Value,.int .i64 v.ae.ax.ai,.str v.ae.ax.Value,.int .i64 v.ae.aZ,.int .i64 v.ae.bq,.str v.ae.bg,.sl (v.ae.ar.map zH),.int .i64 v.Timer.ai,.int .i64 v.Timer.Da,.int .i64 v.Round,.int .i64 v.Next,.bool v.CR,.str v.Value]
def OH(v:aw):List PV:=[.int .i64 v.al,.bool v.bO,.int .i64 v.aa.aI,.sl (v.aa.bb.map (λx=>[.int .i64 x])),.sl (v.aa.aO.map dZ),.sl (v.aC.map Bd)]
def ZD(v:cI):List PV:=[.int .i64 v.bA,.int .i64 v.aK,.int .i64 v.aX.al,.int .i64 v.aX.aH,.int .i64 v.aX.aa.aI,.sl (v.aX.aa.bb.map (λx=>[.int .i64 x])),.sl (v.aX.aa.aO.map dZ),.sl (v.aX.bl.map (λx=>[.str x])),.sl (v.aX.aG.map (λx=>[.str x])),.int .i64 v.ay.al,.int .i64 v.ay.aK,.int .i64 v.ay.aH,.int .i64 v.ay.aa.aI,.sl (v.ay.aa.bb.map (λx=>[.int .i64 x])),.sl (v.ay.aa.aO.map dZ),.int .i64 v.ay.bA,.int .i64 v.ay.af.ai,.str v.ay.af.Value,.int .i64 v.ay.ao.ai,.str v.ay.ao.Value,.int .i64 v.ay.aD.ai,.str v.ay.aD.Value,.int .i64 v.ay.aZ,.int .i64 v.ay.bq]
def I6(v:kY):List PV:=[.int .i64 v.c0.al,.bool v.c0.bO,.int .i64 v.c0.aa.aI,.sl (v.c0.aa.bb.map (λx=>[.int .i64 x])),.sl (v.c0.aa.aO.map dZ),.sl (v.c0.aC.map Bd),.int .i64 v.c1.al,.bool v.c1.bO,.int .i64 v.c1.aa.aI,.sl (v.c1.aa.bb.map (λx=>[.int .i64 x])),.sl (v.c1.aa.aO.map dZ),.sl (v.c1.aC.map Bd),.int .i64 v.c2.al,.bool v.c2.bO,.int .i64 v.c2.aa.aI,.sl (v.c2.aa.bb.map (λx=>[.int .i64 x])),.sl (v.c2.aa.aO.map dZ),.sl (v.c2.aC.map Bd),.int .i64 v.c3.al,.bool v.c3.bO,.int .i64 v.c3.aa.aI,.sl (v.c3.aa.bb.map (λx=>[.int .i64 x])),.sl (v.c3.aa.aO.map dZ),.sl (v.c3.aC.map Bd)]
def XI(v:qg):List PV:=[.int .i64 v.c0,.int .i64 v.c1]
def OI(v:qi):List PV:=[.int .i64 v.c0.c0,.int .i64 v.c0.c1,.int .i64 v.c1.c0,.int .i64 v.c1.c1]
def RW(v:sv):List PV:=[.int .i64 v.c0.bA,.int .i64 v.c0.aK,.int .i64 v.c0.aX.al,.int .i64 v.c0.aX.aH,.int .i64 v.c0.aX.aa.aI,.sl (v.c0.aX.aa.bb.map (λx=>[.int .i64 x])),.sl (v.c0.aX.aa.aO.map dZ),.sl (v.c0.aX.bl.map (λx=>[.str x])),.sl (v.c0.aX.aG.map (λx=>[.str x])),.int .i64 v.c0.ay.al,.int .i64 v.c0.ay.aK,.int .i64 v.c0.ay.aH,.int .i64 v.c0.ay.aa.aI,.sl (v.c0.ay.aa.bb.map (λx=>[.int .i64 x])),.sl (v.c0.ay.aa.aO.map dZ),.int .i64 v.c0.ay.bA,.int .i64 v.c0.ay.af.ai,.str v.c0.ay.af.Value,.int .i64 v.c0.ay.ao.ai,.str v.c0.ay.ao.Value,.int .i64 v.c0.ay.aD.ai,.str v.c0.ay.aD.Value,.int .i64 v.c0.ay.aZ,.int .i64 v.c0.ay.bq,.int .i64 v.c1.bA,.int .i64 v.c1.aK,.int .i64 v.c1.aX.al,.int .i64 v.c1.aX.aH,.int .i64 v.c1.aX.aa.aI,.sl (v.c1.aX.aa.bb.map (λx=>[.int .i64 x])),.sl (v.c1.aX.aa.aO.map dZ),.sl (v.c1.aX.bl.map (λx=>[.str x])),.sl (v.c1.aX.aG.map (λx=>[.str x])),.int .i64 v.c1.ay.al,.int .i64 v.c1.ay.aK,.int .i64 v.c1.ay.aH,.int .i64 v.c1.ay.aa.aI,.sl (v.c1.ay.aa.bb.map (λx=>[.int .i64 x])),.sl (v.c1.ay.aa.aO.map dZ),.int .i64 v.c1.ay.bA,.int .i64 v.c1.ay.af.ai,.str v.c1.ay.af.Value,.int .i64 v.c1.ay.ao.ai,.str v.c1.ay.ao.Value,.int .i64 v.c1.ay.aD.ai,.str v.c1.ay.aD.Value,.int .i64 v.c1.ay.aZ,.int .i64 v.c1.ay.bq]
def afG(v:eD):List PV:=[.sl (v.L.map (λx=>[.int .i64 x])),.int .i64 v.At]
def ZE(v:aM):List PV:=[.int .i64 v.ae.al,.int .i64 v.ae.aK,.int .i64 v.ae.aH,.int .i64 v.ae.aa.aI,.sl (v.ae.aa.bb.map (λx=>[.int .i64 x])),.sl (v.ae.aa.aO.map dZ),.int .i64 v.ae.aQ,.int .i64 v.ae.af.ai,.str v.ae.af.Value,.int .i64 v.ae.ao.ai,.str v.ae.ao.Value,.int .i64 v.ae.aD.ai,.str v.ae.aD.Value,.int .i64 v.ae.ax.ai,.str v.ae.ax.Value,.int .i64 v.ae.aZ,.int .i64 v.ae.bq,.str v.ae.bg,.sl (v.ae.ar.map zH)]
def HC(v:bj):List PV:=[.bool v.ft,.int .i64 v.aa.aI,.sl (v.aa.bb.map (λx=>[.int .i64 x])),.sl (v.aa.aO.map dZ)]
def ZF(v:bd):List PV:=[.sl (v.bn.map HC)]
def Tk(v:bK):List PV:=[.int .i64 v.ay.al,.int .i64 v.ay.aK,.int .i64 v.ay.aH,.int .i64 v.ay.aa.aI,.sl (v.ay.aa.bb.map (λx=>[.int .i64 x])),.sl (v.ay.aa.aO.map dZ),.int .i64 v.ay.bA,.int .i64 v.ay.af.ai,.str v.ay.af.Value,.int .i64 v.ay.ao.ai,.str v.ay.ao.Value,.int .i64 v.ay.aD.ai,.str v.ay.aD.Value,.int .i64 v.ay.aZ,.int .i64 v.ay.bq]
def adb(v:gQ):List PV:=[.int .i64 v.al,.sl (v.View.bn.map HC),.sl (v.ar.map Tk)]
def JH(v:mI):List PV:=[.int .i64 v.uo,.int .i64 v.Value]
def XG(v:cF):List PV:=[.int .i64 v.al,.int .i64 v.aH,.int .i64 v.aa.aI,.sl (v.aa.bb.map (λx=>[.int .i64 x])),.sl (v.aa.aO.map dZ),.sl (v.bl.map JH),.sl (v.aG.map JH)]
def afH(v:Ix):List PV:=[.int .i64 v.ba,.int .i64 v.low,.int .i64 v.cm,.int .i64 v.aT.ai,.str v.aT.Value,.int .i64 v.eU.ai,.str v.eU.Value,.int .i64 v.bX.ai,.str v.bX.Value,.int .i64 v.ed.ai,.str v.ed.Value]
def RX(v:sw):List PV:=[.int .i64 v.c0.ai,.str v.c0.Value,.int .i64 v.c1.ai,.str v.c1.Value]
def ade(v:eX):List PV:=[.int .i64 v.Uc,.int .i64 v.Ud]
def ob.pv:(n:ob)->n.den->List PV
 | .aa,v=>dZ v
 | .aX,v=>Be v
 | .aB,v=>Ui v
 | .af,v=>ZG v
 | .ay,v=>zH v
 | .ae,v=>XH v
 | .Timer,v=>abe v
 | .aK,v=>Bd v
 | .kE,v=>OH v
 | .tj,v=>ZD v
 | .iZ,v=>I6 v
 | .tJ,v=>XI v
 | .nC,v=>OI v
 | .pB,v=>RW v
 | .Src,v=>afG v
 | .yb,v=>ZE v
 | .ti,v=>HC v
 | .Config,v=>ZF v
 | .w7,v=>Tk v
 | .Seen,v=>adb v
 | .Claim,v=>JH v
 | .Message,v=>XG v
 | .lP,v=>afH v
 | .pC,v=>RX v
 | .EL,v=>ade v
def Ty.isAgg:Ty->Bool
 | .st _=>true
 |_=>false
def aet(t:Ty)(cs:List PV):PV:=match t.isAgg with|true=> .agg cs|false=>cs.headD .any
def Ty.pv:(t:Ty)->t.den->List PV
 | .i k,n=>[.int k n]
 | .bool,b=>[.bool b]
 | .str,s=>[.str s]
 | .sl t,(xs:List t.den)=>[.sl (xs.map (Ty.pv t))]
 | .mp a b,(xs:List (a.den×b.den))=>[.jN (xs.map λp=>aet a (Ty.pv a p.1)) (xs.map λp=>aet b (Ty.pv b p.2))]
 | .st n,v=>n.pv v
def zQ:(ls:List Ty)->EJ ls->List PV
 |[],_=>[]
 |t::l,v=>t.pv v.1++zQ l v.2
def ob.OG:∀(n:ob) (v:n.den),n.pv v=zQ n.leaves (n.toL v)
 | .aa,v=>by cases v;simp only[ob.pv,dZ,Gu];rfl
 | .aX,v| .aB,v| .af,v| .ay,v| .ae,v| .Timer,v| .aK,v| .kE,v| .tj,v| .iZ,v| .tJ,v| .nC,v| .pB,v| .Src,v| .yb,v| .ti,v| .Config,v| .w7,v| .Seen,v| .Claim,v| .Message,v| .lP,v| .pC,v| .EL,v=>rfl
def Ty.leaf:Ty->Bool
 | .st _=>false
 |_=>true
def ob.Ll:∀(n:ob),n.leaves.all Ty.leaf=true
 | .aa| .aX| .aB| .af| .ay| .ae| .Timer| .aK| .kE| .tj| .iZ| .tJ| .nC| .pB| .Src| .yb| .ti| .Config| .w7| .Seen| .Claim| .Message| .lP| .pC| .EL=>rfl
def ob.ai4:∀(n:ob) (v:EJ n.leaves),n.toL (n.ofL v)=v
 | .aa,v| .aX,v| .aB,v| .af,v| .ay,v| .ae,v| .Timer,v| .aK,v| .kE,v| .tj,v| .iZ,v| .tJ,v| .nC,v| .pB,v| .Src,v| .yb,v| .ti,v| .Config,v| .w7,v| .Seen,v| .Claim,v| .Message,v| .lP,v| .pC,v| .EL,v=>rfl
def Ty.ZT:Ty->Bool
 | .sl _| .mp _ _=>false
 |_=>true
@[reducible] def U:TU where
 Ty:=Ty
 YU:=Ty.YU
 den:=Ty.den
 pv:=Ty.pv
 size:=λt=>match t with| .st n=>n.leaves.length|_=>1
 agg:=Ty.isAgg
 plain:=λt=>match t with| .st n=>n.leaves.all Ty.ZT|t=>t.ZT
def HQ:(t:Ty)->t.den->KV U
 | .i k,n=> .int k n
 | .bool,b=> .bool b
 | .str,s=> .str s
 | .sl t,(xs:List t.den)=> .sl t xs
 | .mp a b,(xs:List (a.den×b.den))=> .jN a b xs
 | .st _,_=> .any
def Lj:(ls:List Ty)->EJ ls->List (KV U)
 |[],_=>[]
 |t::l,v=>HQ t v.1::Lj l v.2
def aiv:(t:Ty)->t.den->List (KV U)
 | .st n,v=>Lj n.leaves (n.toL v)
 | .i k,v=>[HQ (.i k) v]
 | .bool,v=>[HQ .bool v]
 | .str,v=>[HQ .str v]
 | .sl t,v=>[HQ (.sl t) v]
 | .mp a b,v=>[HQ (.mp a b) v]
def Bv(lk:Lk U):(t:Ty)->KV U->Option t.den
 | .i k,x=>adS k x
 | .bool,x=>Kz x
 | .str,x=>CM x
 | .sl t,x=>WI (U:=U) lk t x
 | .mp a b,x=>adR (U:=U) a b x
 | .st _,_=>none
def Cq(lk:Lk U):(ls:List Ty)->List (KV U)->Option (EJ ls)
 |[],cs=>match cs with|[]=>some ()|_=>none
 |t::l,cs=>match cs with
  |c::cs=>(match Bv lk t c with
   |some v=>(match Cq lk l cs with|some vs=>some (v,vs)|none=>none)
   |none=>none)
  |[]=>none
def NV{α:Type}(f:KV U->Option α):List (KV U)->Option α
 |[x]=>f x
 |_=>none
def akB:(t:Ty)->Lk U->List (KV U)->Option t.den
 | .st n,lk,cs=>(match Cq lk n.leaves cs with|some v=>some (n.ofL v)|none=>none)
 | .i k,lk,cs=>NV (Bv lk (.i k)) cs
 | .bool,lk,cs=>NV (Bv lk .bool) cs
 | .str,lk,cs=>NV (Bv lk .str) cs
 | .sl t,lk,cs=>NV (Bv lk (.sl t)) cs
 | .mp a b,lk,cs=>NV (Bv lk (.mp a b)) cs
def adC:∀(t:Ty) (v:t.den),t.leaf=true->[(HQ t v).pv]=t.pv v
 | .i k,v,_| .bool,v,_| .str,v,_| .sl t,v,_| .mp a b,v,_=>rfl
 | .st _,_,h=>by cases h
def Pc:∀(ls:List Ty) (v:EJ ls),ls.all Ty.leaf=true->(Lj ls v).map KV.pv=zQ ls v
 |[],_,_=>rfl
 |t::l,v,h=>by rw[Qq70,Qm]at h;rw[Lj,zQ,QD,Pc l v.2 h.2,<-adC t v.1 h.1];rfl
def P9{lk:Lk U}:∀{t:Ty} {x:KV U} {v:t.den},Bv lk t x=some v->iJ lk [x] (t.pv v)
 | .i k,x,v,h=> .cons (agL h) .nil
 | .bool,x,v,h=> .cons (agN h) .nil
 | .str,x,v,h=> .cons (agI h) .nil
 | .sl t,x,v,h=> .cons (agK (U:=U) h) .nil
 | .mp a b,x,v,h=> .cons (agJ (U:=U) h) .nil
 | .st _,_,_,h=>by cases h
def iJ.cy{lk:Lk U}{x:KV U}{ys:List PV}{xs:List (KV U)}{zs:List PV}(h:iJ lk [x] ys)(k:iJ lk xs zs):iJ lk (x::xs) (ys++zs):=by
 cases h with
 |cons h1 h2=>cases h2 with|nil=>exact .cons h1 k
def Ky{lk:Lk U}:∀{ls:List Ty} {cs:List (KV U)} {v:EJ ls},Cq lk ls cs=some v->iJ lk cs (zQ ls v)
 |[],[],_,_=> .nil
 |[],_::_,_,h=>by cases h
 |_::_,[],_,h=>by cases h
 |t::l,c::cs,v,h=>by
  rw[Cq]at h;split at h
  ·rename_i v1 h1;split at h
   ·rename_i vs h2;injection h with h
    subst h;exact(P9 h1).cy (Ky h2)
   ·cases h
  ·cases h
def agO{α:Type}{f:KV U->Option α}{cs:List (KV U)}{v:α}(h:NV f cs=some v):∃x,cs=[x]/\f x=some v:=by
 unfold NV at h;split at h
 ·exact⟨_,rfl,h⟩
 ·cases h
def abd:∀(ls:List Ty) (v:EJ ls),ls.all Ty.leaf=true->(zQ ls v).length=ls.length
 |[],_,_=>rfl
 |t::l,v,h=>by
  rw[Qq70,Qm]at h
  have:(t.pv v.1).length=1:=by
   cases t with
   |st n=>cases h.1
   |_=>rfl
  rw[zQ,QB,abd l v.2 h.2,this,QE,Nat.add_comm]
def rp:∀(t:Ty) (v:t.den),t.leaf=true->∀y∈t.pv v,y.ic=true/\(t.ZT=true->y.plain=true)
 | .i k,v,_,y,h| .bool,v,_,y,h| .str,v,_,y,h=>by simp only[Ty.pv,Q5]at h;subst h;exact⟨rfl,λ_=>rfl⟩
 | .sl t,v,_,y,h| .mp a b,v,_,y,h=>by simp only[Ty.pv,Q5]at h;subst h;exact⟨rfl,λh=>by cases h⟩
 | .st _,_,h,_,_=>by cases h
def FO:∀(ls:List Ty) (v:EJ ls),ls.all Ty.leaf=true->∀y∈zQ ls v,y.ic=true/\(ls.all Ty.ZT=true->y.plain=true)
 |[],_,_,y,h=>by cases h
 |t::l,v,h,y,hy=>by
  rw[Qq70,Qm]at h;rw[zQ,Qz]at hy;rcases hy with hy|hy
  ·obtain⟨h1,h2⟩:=rp t v.1 h.1 y hy;exact⟨h1,λhp=>by rw[Qq70,Qm]at hp;exact h2 hp.1⟩
  ·obtain⟨h1,h2⟩:=FO l v.2 h.2 y hy;exact⟨h1,λhp=>by rw[Qq70,Qm]at hp;exact h2 hp.2⟩
def VO:ob->Option (IntKind×IntKind)
 | .Timer| .tJ| .Claim| .EL=>some (.i64,.i64)
 |_=>none
def R1:∀(n:ob) (k l:IntKind),VO n=some (k,l)->∀v,∃a b,aiv (.st n) v=[.int k a,.int l b]
 | .Timer,_,_,h| .tJ,_,_,h| .Claim,_,_,h| .EL,_,_,h=>by injection h with h;injection h with h1 h2;subst h1 h2;exact λv=>⟨_,_,rfl⟩
 | .aa,_,_,h| .aX,_,_,h| .aB,_,_,h| .af,_,_,h| .ay,_,_,h| .ae,_,_,h| .aK,_,_,h| .kE,_,_,h| .tj,_,_,h| .iZ,_,_,h| .nC,_,_,h| .pB,_,_,h| .Src,_,_,h| .yb,_,_,h| .ti,_,_,h| .Config,_,_,h| .w7,_,_,h| .Seen,_,_,h| .Message,_,_,h| .lP,_,_,h| .pC,_,_,h=>by cases h
def ai3:List (Nat×Ty):=[(3,(Ty.i .i64)),(4,Ty.bool),(9,Ty.str),(27,(Ty.st .aa)),(30,(Ty.st .kE)),(34,(Ty.st .aX)),(36,(Ty.st .af)),(38,(Ty.st .ay)),(40,(Ty.st .tj)),(56,(Ty.st .aK)),(77,(Ty.st .tJ)),(218,(Ty.st .w7)),(250,(Ty.st .Message)),(255,(Ty.st .ti)),(320,(Ty.st .Claim))]
def aaV(n:Nat):List (Nat×Ty)->Option Ty
 |[]=>none
 |(k,t)::l=>(match Nat.beq k n with|true=>some t|false=>aaV n l)
@[reducible] def K:TK U where
 gp:=aiv
 dec:=akB
 U3:=λn=>aaV n ai3
 uH:=λt v=>by
  cases t with
  |st n=>exact(Pc _ _ n.Ll).trans (n.OG v).symm
  |_=>rfl
 oT:=λt lk cs v h=>by
  cases t with
  |st n=>
   change (match Cq lk n.leaves cs with|some v=>some (n.ofL v)|none=>none)=some v at h
   split at h
   ·rename_i u hu;injection h with h
    subst h;have:=Ky hu
    change iJ lk cs (n.pv (n.ofL u))
    rw[n.OG,n.ai4];exact this
   ·cases h
  |i k|bool|str|sl t|mp a b=>obtain⟨x,rfl,hx⟩:=agO h;exact P9 hx
 len:=λt v=>by
  cases t with
  |st n=>exact(congrArg List.length (n.OG v)).trans (abd _ _ n.Ll)
  |_=>rfl
 ic:=λt v y hy=>by
  cases t with
  |st n=>exact(FO _ (n.toL v) n.Ll y (Eq.mp (congrArg (y∈·) (n.OG v)) hy)).1
  |i k=>exact(rp (.i k) v rfl y hy).1
  |bool=>exact(rp .bool v rfl y hy).1
  |str=>exact(rp .str v rfl y hy).1
  |sl t=>exact(rp (.sl t) v rfl y hy).1
  |mp a b=>exact(rp (.mp a b) v rfl y hy).1
 one:=λt h=>by
  cases t with
  |st n=>cases h
  |_=>rfl
 plain:=λt h v y hy=>by
  cases t with
  |st n=>exact(FO _ (n.toL v) n.Ll y (Eq.mp (congrArg (y∈·) (n.OG v)) hy)).2 h
  |i k=>exact(rp (.i k) v rfl y hy).2 rfl
  |bool=>exact(rp .bool v rfl y hy).2 rfl
  |str=>exact(rp .str v rfl y hy).2 rfl
  |sl t|mp a b=>cases h
 VO:=λt=>match t with| .st n=>VO n|_=>none
 R1:=λt k l h=>by
  cases t with
  |st n=>exact⟨rfl,R1 n k l h⟩
  |_=>cases h
end
section
open Go.RowKit
def X3{w:World}{a:Addr}{v:Value}(h:w.cell? a=some v):∃t n,w.shape? a.block=some (t,n+1):=by
 unfold World.cell? at h;unfold World.shape?;split at h
 ·rename_i c t fr hc;split at h
  ·cases h
  ·have hlt:=(Q9.1 h).1;exact⟨t,c.size - 1,by simp only[Qf,Prod.mk.injEq,true_and];omega⟩
 ·cases h
def M8{P:Program}(w:World)(tS tR e:TypeId)(ht:P.underlying tS=some (.slice e))(size:Nat)(hz:∀w,(Go.sizeOf e).run P w= .ok size w)
  (a b:Addr) (la ca lb cb:Nat) (hne:a.block≠b.block) {v:Value} (ha:w.cell? a=some v) {cur:Array Value} {t:TypeId} (hb:w.heap[b.block]?=some (.cells cur t (0,0))) (h0:cur.size≠0):
  (Extern.SlicesOverlaps.overlaps #[tS,tS] #[tR] #[.slice (some a) la ca,.slice (some b) lb cb]).run P w= .ok (.bool false) w:=by
 obtain⟨tA,kA,hsa⟩:=X3 ha;have hsb:w.shape? b.block=some (t,cur.size):=by simp[World.shape?,hb]
 have hfb:w.frozen? b=false:=by simp[World.frozen?,hb]
 have hfe:w.frozen? {block:=b.block,off:=cur.size}=false:=by simp[World.frozen?,hb]
 have hnb:(a.block !=b.block)=true:=by simpa using hne
 have hnb':(a.block==b.block)=false:=by simpa using hne
 obtain⟨kB,hkB⟩:∃kB,cur.size=kB+1:=⟨cur.size - 1,by omega⟩
 rw[hkB]at hsb hfe
 change Sem.run P (α:=Value) (do
  let some t:=(#[tS,tS]:Array TypeId)[0]?|stuck "slices.overlaps: no parameter types"
  let .slice elem <-underlying t|stuck "slices.overlaps: slice type expected"
  let size <-sizeOf elem
  match(some a:Option Addr),(some b:Option Addr)with
  |some a,some b=>
   if la=0\/lb=0\/size=0 then pure (Value.bool false)
   else if a.block !=b.block&&(<-frozen a)&&(<-frozen b)then unsupported .addressObserved
   else do
    if a.block !=b.block then do
     noView a;noView b
     if<-mayBeOne a b then return Value.bool ((<-choose (.extern "sameAddr.stringBytes" 2))==1)
    pure (Value.bool (a.block==b.block&&a.off<b.off+lb*size&&b.off<a.off+la*size))
  |_,_=>pure (Value.bool false)) w=_
 by_cases h0:la=0\/lb=0\/size=0
 ·simp[run_underlying ht,hz,h0]
 ·cases hfa:w.frozen? a<;>cases hfk:w.frozen? {block:=a.block,off:=kA+1}<;>
   simp[run_underlying ht,hz,h0,hnb,hnb',frozen,noView,viewAt,mayBeOne,stringish,shape,Sem.run,hsa,hsb,hfa,hfk,hfb,hfe]
def acw(a:Addr):a.add 0=a:=by
 cases a with
 |mk b o s=>unfold Addr.add;split<;>simp_all
def Iv(a:Addr)(n:Nat):(a.add n).block=a.block:=by unfold Addr.add;split<;>rfl
def sV{α:Type}(l:List α)(o:Nat)(c:List α):List α:=l.take o++c++l.drop (o+c.length)
def HD{α:Type}{l:List α}{o:Nat}{c:List α}(h:o+c.length<=l.length):(sV l o c).length=l.length:=by simp[sV];omega
def ZJ{α:Type}{l us ys:List α}{a:Nat}(h:a+us.length+ys.length<=l.length):sV (sV l a us) (a+us.length) ys=l.take a++us++ys++l.drop (a+us.length+ys.length):=by
 have h1:(l.take a++us).length=a+us.length:=by simp;omega
 have h2:(sV l a us).take (a+us.length)=l.take a++us:=by rw[sV,List.take_append_of_le_length (by omega),List.take_of_length_le (by omega)]
 have h3:(sV l a us).drop (a+us.length+ys.length)=l.drop (a+us.length+ys.length):=by rw[sV,<-List.drop_drop,<-h1,List.drop_left,List.drop_drop,h1]
 rw[sV,h2,h3]
def XJ{α:Type}{l us ys:List α}{a:Nat}(h:a+us.length+ys.length<=l.length):sV (sV l (a+us.length) ys) a us=l.take a++us++ys++l.drop (a+us.length+ys.length):=by
 have h1:(l.take (a+us.length)).length=a+us.length:=by simp;omega
 have h2:(sV l (a+us.length) ys).take a=l.take a:=by rw[sV,QL,List.take_append_of_le_length (by omega),List.take_take,Nat.min_eq_left (by omega)]
 have h3:(sV l (a+us.length) ys).drop (a+us.length)=ys++l.drop (a+us.length+ys.length):=by
  conv=>lhs;rw[sV,QL]
  exact List.drop_left' h1
 rw[sV,h2,h3,QL,QL,QL]
def xH(w:World)(g:Nat)(cs:Array Value){b:Nat}(h:b≠g):(w.setRow g cs).heap[b]?=w.heap[b]?:=by simp only[World.setRow,Array.getElem?_modify];rw[Qs (λe=>h e.symm)]
def Td(w:World)(g:Nat)(cs:Array Value):Fr (some g) w (w.setRow g cs):=⟨rfl,rfl,rfl,by simp[World.setRow],λb _ hb=>xH w g cs (λe=>hb (by rw[e])),DL.refl _⟩
def Fr.ajE(w:World)(rb:Option Nat):Fr rb w w.drew:=⟨rfl,rfl,rfl,QI _,λ_ _ _=>rfl,DL.of (Nat.le_succ _)⟩
def Fr.trans'{rb:Option Nat}{a b c:World}(h:Fr rb a b)(k:Fr rb b c):Fr rb a c:=⟨k.os.trans h.os,k.tape.trans h.tape,k.output.trans h.output,QK h.size k.size,λi hi hne=>(k.block i (QJ hi h.size) hne).trans (h.block i hi hne),h.drawn.trans k.drawn⟩
def M3{w w':World}{v u:Value}{X:Nat->Prop}(hf:Fr (cd v) w w')(hu:∀b,cd u=some b->cd v=some b\/w.heap.size<=b):cW w w' (Mv v X) (Mv u X):=by
 have key:∀b,b<w.heap.size->¬Mv v X b->w'.heap[b]?=w.heap[b]?/\¬Mv u X b:=λb hlt hM=>⟨hf.block b hlt λh=>hM (.inl h),by
  rintro(h|h)
  ·rcases hu _ h with h|h
   ·exact hM (.inl h)
   ·omega
  ·exact hM (.inr h)⟩
 refine⟨λa x hc hM=> ?_,λb es ck hb hM=> ?_⟩
 ·have hlt:a.block<w.heap.size:=by
   by_cases h:a.block<w.heap.size
   ·exact h
   ·have:w.heap[a.block]?=none:=by rw[Array.getElem?_eq_none_iff];omega
    simp[World.cell?,this]at hc
  obtain⟨h1,h2⟩:=key _ hlt hM;exact⟨(World.cell?_of_block h1).trans hc,h2⟩
 ·obtain⟨h1,h2⟩:=key b (Q9.1 hb).1 hM;exact⟨h1.trans hb,h2⟩
def Vd{w:World}{M:Nat->Prop}{es:List (List PV)}{xs:List Value}(h:bo w M dX es.flatten xs)(h1:∀u∈es,u.all PV.one=true):∀x∈xs,x.oneCell'=true:=by
 intro x hx;obtain⟨q,hq,rfl⟩:=List.mem_iff_getElem.1 hx;have hl:q<es.flatten.length:=by rw[<-h.1];exact hq
 obtain⟨el,hel,hmem⟩:=List.mem_flatten.1 (Q0 hl);exact((h.2 q _ _ (Qv hl) (Qv hq)).one (QH.1 (h1 el hel) _ hmem)).1
structure InsA (n c i m:Nat):Prop where
 z1:¬((m:Int)=0)
 z2:¬((i:Int)=(n:Int))
 w1:IntKind.i64.wrap ((i:Int)+(m:Int))=(i:Int)+(m:Int)
 b1:(0:Int)<=(i:Int)+(m:Int)
 tn:((i:Int)+(m:Int)).toNat=i+m
 b3:(i:Int)<=(n:Int)+(m:Int)
 b4:¬(c=i)
 b5:(i:Int)<=(n:Int)
def InsA.of{n c i m:Nat}(hi:i<n)(hc:n<=c)(hc63:c<=9223372036854775807)(hm:0<m)(h:n+m<=9223372036854775807):InsA n c i m:=
 ⟨by omega,by omega,by rw[IntKind.wrap_i64];omega,by omega,by omega,by omega,by omega,by omega⟩
structure SS (P:Program) (f S E I B ov k bytes:Nat):Prop where
 aky:0<k
 hS:P.underlying S=some (.slice E)
 hI:P.underlying I=some (.int .i64)
 akz:∃(i:TypeInfo) (z:Value),P.info? E=some i/\i.zero=some z/\z.cells.size=k/\i.size=k/\i.bytes=bytes
 HG:∀(x:Array Value) (w:World),(Extern.SlicesOverlaps.overlaps #[S,S] #[B] x).run P w= .ok (.bool false) w->(callFunc ov x).run P w= .ok (.value (.bool false)) w
 abw:∀(g n c i:Nat),i<=n->n<=c->c<=9223372036854775807->∀(u:Option Addr) (vc:Nat) (w:World),
  Calls P f #[.slice (some ⟨g,0,none⟩) n c,.int .i64 i,.slice u 0 vc] w λe w'=>e= .returned (.slice (some ⟨g,0,none⟩) n c)/\w'=w
 adu:∀(u:Option Addr) (vc:Nat) (w:World),Calls P f #[.slice none 0 0,.int .i64 0,.slice u 0 vc] w λe w'=>e= .returned (.slice none 0 0)/\w'=w
 aiC:∀(g n c:Nat),n<=c->c<=9223372036854775807->∀(ad:Addr) (m vc:Nat),0<m->∀(w w1:World) (v1:Value),
  (∀ty,(Builtin.append_ #[S,S] ty #[.slice (some ⟨g,0,none⟩) n c,.slice (some ad) m vc]).run P w= .ok v1 w1)->
  Calls P f #[.slice (some ⟨g,0,none⟩) n c,.int .i64 n,.slice (some ad) m vc] w λe w'=>e= .returned v1/\w'=w1
 aaw:∀(ad:Addr) (m vc:Nat),0<m->∀(w w1:World) (v1:Value),
  (∀ty,(Builtin.append_ #[S,S] ty #[.slice none 0 0,.slice (some ad) m vc]).run P w= .ok v1 w1)->
  Calls P f #[.slice none 0 0,.int .i64 0,.slice (some ad) m vc] w λe w'=>e= .returned v1/\w'=w1
 shift:∀(g n c i:Nat),i<n->c<=9223372036854775807->∀(ad:Addr) (m vc:Nat),0<m->n+m<=c->InsA n c i m->¬(c=i+m)->∀(w w1 w2:World),
  (∀lb cb,(callFunc ov #[.slice (some ad) m vc,.slice (some ⟨g,(i+m)*k,none⟩) lb cb]).run P w= .ok (.value (.bool false)) w)->
  (∀ty dc sc,(Builtin.copy_ #[S,S] ty #[.slice (some ⟨g,(i+m)*k,none⟩) (n+m - (i+m)) dc,.slice (some ⟨g,i*k,none⟩) (n+m - i) sc]).run P w.drew= .ok (goInt (n - i:Nat)) w1)->
  (∀ty dc,(Builtin.copy_ #[S,S] ty #[.slice (some ⟨g,i*k,none⟩) (n+m - i) dc,.slice (some ad) m vc]).run P w1= .ok (goInt m) w2)->
  Calls P f #[.slice (some ⟨g,0,none⟩) n c,.int .i64 i,.slice (some ad) m vc] w λe w'=>e= .returned (.slice (some ⟨g,0,none⟩) (n+m) c)/\w'=w2
 grow:∀(g n c i:Nat),i<n->n<=c->c<=9223372036854775807->∀(ad:Addr) (m vc:Nat),0<m->c<n+m->∀(N G:Nat),n+m<=G->G<=9223372036854775807->InsA n c i m->(c:Int)<(n:Int)+(m:Int)->¬(G=i)->¬(G=i+m)->∀(w w1 w2 w3:World),
  (∀ty,(Builtin.append_ #[S,I] ty #[.slice (some ⟨g,0,none⟩) i c,.int .i64 ((n:Int)+(m:Int) - (i:Int))]).run P w= .ok (.slice (some ⟨N,0,none⟩) (n+m) G) w1)->
  (∀ty dc,(Builtin.copy_ #[S,S] ty #[.slice (some ⟨N,i*k,none⟩) (n+m - i) dc,.slice (some ad) m vc]).run P w1= .ok (goInt m) w2)->
  (∀ty dc sc,(Builtin.copy_ #[S,S] ty #[.slice (some ⟨N,(i+m)*k,none⟩) (n+m - (i+m)) dc,.slice (some ⟨g,i*k,none⟩) (n - i) sc]).run P w2.drew= .ok (goInt (n - i:Nat)) w3)->
  Calls P f #[.slice (some ⟨g,0,none⟩) n c,.int .i64 i,.slice (some ad) m vc] w λe w'=>e= .returned (.slice (some ⟨N,0,none⟩) (n+m) G)/\w'=w3
def Lm{P:Program}{E k bytes:Nat}(h:(P.info? E).map (λi=>(i.zero.map (·.cells.size),i.size,i.bytes))=some (some k,k,bytes)):∃(i:TypeInfo) (z:Value),P.info? E=some i/\i.zero=some z/\z.cells.size=k/\i.size=k/\i.bytes=bytes:=by
 rw[Qb]at h;obtain⟨i,h1,h2⟩:=h;injection h2 with h2 h3
 injection h3 with h3 h4
 rw[Qb]at h2;obtain⟨z,h5,h6⟩:=h2;exact⟨i,z,h1,h5,h6,h3,h4⟩
def agk{P:Program}{f S E I B ov k bytes:Nat}(H:SS P f S E I B ov k bytes){es vs:List (List PV)}{i:Nat}(hi:i<=es.length)(h1e:∀u∈es,u.all PV.one=true)(hvs:∀u∈vs,u.length=k/\u.all PV.one=true)
  (hmax:es.length+vs.length<=maxLen) (hby:(es.length+vs.length)*bytes<=140737488355328):N6 P f E k es [.int .i64 i,.sl vs] (es.take i++vs++es.drop i):=by
 have hk0:=H.aky;intro w X hX v args hvX ⟨xs,hown,hke,hr⟩ hargs;obtain⟨a1,args,rfl,ha1,hargs⟩:=hargs.cons_inv;obtain⟨a2,args,rfl,ha2,hargs⟩:=hargs.cons_inv;obtain rfl:=hargs.sX;obtain rfl:=ha1.jB;obtain⟨inf,z,hi1,hi2,hi3,hi4,hi5⟩:=H.akz;have hsz:(P.info? E).map (·.size)=some k:=by rw[hi1];simp[hi4]
 have hmem:∀u∈es.take i++vs++es.drop i,u.length=k:=by
  intro u hu;rw[Qz,Qz]at hu;rcases hu with(hu|hu)|hu
  ·exact hke u (Q1 hu)
  ·exact(hvs u hu).1
  ·exact hke u (Q2 hu)
 have same:vs=[]->es.take i++vs++es.drop i=es:=λh=>by rw[h];simp
 by_cases hm0:vs=[]
 ·rw[same hm0]
  have hz:∃u vc,a2= .slice u 0 vc:=by
   subst hm0;rcases ha2.Gq with⟨h,_⟩|⟨ad,c,_,_,h,_⟩
   ·exact⟨_,_,h⟩
   ·exact⟨_,_,h⟩
  obtain⟨u,vc,rfl⟩:=hz
  have post:∀(e:Ending) (w':World),e= .returned v/\w'=w->∃u,e= .returned u/\Ao w' (Mv u X) E k u es/\(∀b,cd u=some b->cd v=some b\/w.heap.size<=b)/\Fr (cd v) w w':=by rintro e w' ⟨rfl,rfl⟩;exact⟨v,rfl,⟨xs,hown,hke,hr⟩,λb hb=> .inl hb,Fr.refl _ _⟩
  rcases hown.2 with⟨rfl,h0⟩|⟨g,cap,cur,rfl,_,hg,hnc,hcm,hcs,htk⟩
  ·obtain rfl:i=0:=by omega
   exact(H.adu u vc w).mono λe w' h=>post e w' h
  ·exact(H.abw g es.length cap i hi hnc (by simp only[maxLen]at hcm;omega) u vc w).mono λe w' h=>post e w' h
 ·
  have hm:0<vs.length:=List.length_pos_iff.2 hm0;rcases ha2.Gq with⟨_,h⟩|⟨ad,vc,k',us,rfl,hk',hru,hcu,_,_⟩
  ·exact absurd h hm0
  have hul:us.length=vs.length*k:=by rw[hru.1,nn vs k λu hu=>(hvs u hu).1]
  have hone:=Vd hru λu hu=>(hvs u hu).2
  have hpos:0<us.length:=by rw[hul];exact Nat.mul_pos hm hk0
  obtain⟨c0,hc0⟩:∃c0,us[0]?=some c0:=⟨_,Qv hpos⟩;obtain⟨had,hadM⟩:=hcu 0 c0 hc0;have had:w.cell? ad=some c0:=by rw[acw]at had;exact had
  have hcell:∀(j:Nat) (u:Value),us[j]?=some u->w.cell? (ad.add j)=some u:=λj u hj=>(hcu j u hj).1
  have hadlt:ad.block<w.heap.size:=by
   by_cases h:ad.block<w.heap.size
   ·exact h
   ·have:w.heap[ad.block]?=none:=by rw[Array.getElem?_eq_none_iff];omega
    simp[World.cell?,this]at had
  have fin:∀(v1:Value) (w1:World),w1.ownsRow 0 E k v1 (es.length+vs.length) (xs++us)->w.grownBy w1 v.ownBlock->(v1.ownBlock=v.ownBlock\/v1.ownBlock=some w.heap.size)->(∃a n c,v= .slice a n c)->i=es.length->w.drawn<=w1.drawn->
    ∀(e:Ending) (w':World),e= .returned v1/\w'=w1->∃u,e= .returned u/\Ao w' (Mv u X) E k u (es.take i++vs++es.drop i)/\(∀b,cd u=some b->cd v=some b\/w.heap.size<=b)/\Fr (cd v) w w':=by
   rintro v1 w1 ho hgr hat ⟨a0,n0,c0,hv0⟩ hie hdr e w' ⟨rfl,rfl⟩;have hb0:v.ownBlock=cd v:=nH hv0
   have hb1:v1.ownBlock=cd v1:=by
    rcases ho.2 with⟨h,_⟩|⟨_,_,_,h,_⟩
    ·exact nH h
    ·exact nH h
   have hfr:Fr (cd v) w w':=⟨hgr.os,hgr.tape,hgr.output,hgr.size,λb hb hne=>hgr.block b hb (λh=>hne (by rw[<-hb0,<-h])),DL.of hdr⟩
   have hub:∀b,cd v1=some b->cd v=some b\/w.heap.size<=b:=λb hb=>by
    rw[<-hb1]at hb;rcases hat with h|h
    ·exact .inl (by rw[<-hb0,<-h];exact hb)
    ·rw[h]at hb;injection hb with hb;exact .inr (by omega)
   have he:es.take i++vs++es.drop i=es++vs:=by subst hie;simp
   rw[he]at hmem ⊢;refine⟨v1,rfl,⟨xs++us,by rw[QB];exact ho,hmem,?_⟩,hub,hfr⟩
   rw[List.flatten_append];exact(hr.append hru).mono (M3 hfr hub) (dX.le _)
  rcases hown.2 with⟨rfl,h0⟩|⟨g,cap,cur,rfl,hb0,hg,hnc,hcm,hcs,htk⟩
  ·obtain rfl:i=0:=by omega
   obtain⟨v1,w1,r1,r2,r3,_,r5⟩:=run_append_own_at (P:=P) w 0 S 0 E inf z k bytes H.hS hi1 hi2 hi4 hi5 hi3 hk0 (.slice none 0 0) es.length xs hown ad vs.length vc us hul hcell hone hmax hby (QS _);exact(H.aaw ad vs.length vc hm w w1 v1 λty=>r1).mono λe w' h=>fin v1 w1 r2 r3 r5 ⟨_,_,_,rfl⟩ h0.symm (EC (P:=P) w 0 S 0 E inf z k bytes H.hS hi1 hi2 hi4 hi5 hk0 (.slice none 0 0) es.length xs hown ad vs.length vc us hul hcell hone hmax hby r1) e w' h
  ·have hcm':cap<=9223372036854775807:=by simp only[maxLen]at hcm;omega
   by_cases hie:i=es.length
   ·obtain⟨v1,w1,r1,r2,r3,_,r5⟩:=run_append_own_at (P:=P) w 0 S 0 E inf z k bytes H.hS hi1 hi2 hi4 hi5 hi3 hk0 _ es.length xs hown ad vs.length vc us hul hcell hone hmax hby (QS _);have:=H.aiC g es.length cap hnc hcm' ad vs.length vc hm w w1 v1 λty=>r1
    rw[<-hie]at this ⊢;exact this.mono λe w' h=>fin v1 w1 r2 r3 r5 ⟨_,_,_,rfl⟩ hie (EC (P:=P) w 0 S 0 E inf z k bytes H.hS hi1 hi2 hi4 hi5 hk0 _ es.length xs hown ad vs.length vc us hul hcell hone hmax hby r1) e w' h
   ·have hin:i<es.length:=by omega
    have hM:∀b,Mv (.slice (some ⟨g,0,none⟩) es.length cap) X b->True:=λ_ _=>trivial
    have hne:ad.block≠g:=λh=>hadM (.inl (by rw[h];rfl))
    have hglt:g<w.heap.size:=(Q9.1 hg).1;have hxl:xs.length=es.length*k:=hown.1;have hcl:es.length*k<=cur.toList.length:=by simpa[hcs]using Qq63 k hnc
    have hx1:=Vd hr h1e;obtain⟨ys,hys⟩:∃ys,ys=xs.drop (i*k):=⟨_,rfl⟩;have hyl:ys.length=(es.length - i)*k:=by rw[hys,List.length_drop,hxl,Nat.sub_mul]
    have hy1:∀y∈ys,y.oneCell'=true:=λy hy=>hx1 y (Q2 (hys▸hy))
    have hcx:∀(j:Nat) (u:Value),xs[j]?=some u->w.cell? ⟨g,j,none⟩=some u:=λj u hj=>by
     refine rI hg ?_;rw[<-htk,Qq68]at hj;split at hj
     ·exact hj
     ·cases hj
    have hcy:∀(j:Nat) (u:Value),ys[j]?=some u->w.cell? ((⟨g,i*k,none⟩:Addr).add j)=some u:=λj u hj=>by rw[add_mid];rw[hys,List.getElem?_drop]at hj;exact hcx _ u hj
    have hik:i*k+us.length=(i+vs.length)*k:=by rw[hul,Qq73]
    have htot:i*k+us.length+ys.length=(es.length+vs.length)*k:=by rw[hul,hyl,<-Qq73,<-Qq73];congr 1;omega
    have hres:bo w (Mv (.slice (some ⟨g,0,none⟩) es.length cap) X) dX (es.take i++vs++es.drop i).flatten (xs.take (i*k)++us++ys):=by rw[List.flatten_append,List.flatten_append,wb k i es hke,Ah k i es hke,hys];exact((hr.take _).append hru).append (hr.drop _)
    have hlen:(es.take i++vs++es.drop i).length=es.length+vs.length:=by simp;omega
    have htl:(xs.take (i*k)++us++ys).length=(es.length+vs.length)*k:=by rw[QB,QB,List.length_take,hxl,Nat.min_eq_left (Qq63 k hi)];exact htot
    by_cases hroom:es.length+vs.length<=cap
    ·
     have hfit:(es.length+vs.length)*k<=cur.toList.length:=by simpa[hcs]using Qq63 k hroom
     have r1:=yd (P:=P) w.drew S S 0 E g ((i+vs.length)*k) (es.length+vs.length - (i+vs.length)) 0 ⟨g,i*k,none⟩ (es.length+vs.length - i) 0 cur E ys k (es.length - i) H.hS hsz hg
      (by simp only[Nat.min_def];split<;>omega) hyl hcy (by simp only[Array.length_toList]at hfit;omega) hy1
     obtain⟨cur1,hcur1⟩:∃cur1:Array Value,cur1=(sV cur.toList ((i+vs.length)*k) ys).toArray:=⟨_,rfl⟩;have hg1:(w.drew.setRow g cur1).heap[g]?=some (.cells cur1 E (0,0)):=setRow_heap w.drew g cur _ E _ hg
     have hl1:cur1.size=cap*k:=by rw[hcur1,List.size_toArray,HD (by rw[<-hik];omega),Array.length_toList,hcs]
     have r2:=yd (P:=P) (w.drew.setRow g cur1) S S 0 E g (i*k) (es.length+vs.length - i) 0 ad vs.length vc cur1 E us k vs.length H.hS hsz hg1
      (by simp only[Nat.min_def];split<;>omega) hul (λj u hj=>by rw[World.cell?_of_block (w:=w) (xH w.drew g cur1 (by rw[Iv];exact hne))];exact hcell j u hj)
      (by rw[hl1,<-hcs,<-Array.length_toList];omega) hone
     obtain⟨cur2,hcur2⟩:∃cur2:Array Value,cur2=(sV cur1.toList (i*k) us).toArray:=⟨_,rfl⟩;have hg2:((w.drew.setRow g cur1).setRow g cur2).heap[g]?=some (.cells cur2 E (0,0)):=setRow_heap _ g cur1 _ E _ hg1
     have hc2:cur2.toList=xs.take (i*k)++us++ys++cur.toList.drop ((es.length+vs.length)*k):=by rw[hcur2,hcur1,<-hik,XJ (by omega),htot,<-htk,List.take_take,Nat.min_eq_left (Qq63 k hi)]
     have hC:cur.toList.length=cap*k:=(Array.length_toList (xs:=cur)).trans hcs;have hL1:cur1.toList.length=cap*k:=(Array.length_toList (xs:=cur1)).trans hl1;have hfr:Fr (some g) w ((w.drew.setRow g cur1).setRow g cur2):=(Fr.ajE w _).trans' ((Td _ g _).trans' (Td _ g _))
     have hcap0:cur.size≠0:=by
      have:0<cap:=by omega
      rw[hcs];exact Nat.ne_of_gt (Nat.mul_pos this hk0)
     refine(H.shift g es.length cap i hin hcm' ad vs.length vc hm hroom (.of hin (by omega) hcm' hm (by omega)) (by omega) w (w.drew.setRow g cur1) ((w.drew.setRow g cur1).setRow g cur2) (λlb cb=> ?_) (λty dc sc=> ?_) (λty dc=> ?_)).mono ?_
     ·exact H.HG _ w (M8 w S B E H.hS k (λw'=>by simp[Go.sizeOf,typeInfo,hi1,hi4]) ad ⟨g,(i+vs.length)*k,none⟩ vs.length vc lb cb hne had hg hcap0)
     ·rw[hcur1];exact r1
     ·rw[hcur2];exact r2
     ·rintro e w' ⟨rfl,rfl⟩;refine⟨_,rfl,⟨xs.take (i*k)++us++ys,⟨?_,.inr ⟨g,cap,cur2,by rw[hlen],hb0,hg2,by rw[hlen];exact hroom,hcm,?_,?_⟩⟩,hmem,hres.mono (@M3 w _ (.slice (some ⟨g,0,none⟩) es.length cap) (.slice (some ⟨g,0,none⟩) (es.length+vs.length) cap) X hfr λb hb=> .inl hb) (dX.le _)⟩,λb hb=> .inl hb,hfr⟩
      ·rw[htl,hlen]
      ·rw[hcur2,List.size_toArray,HD (by rw[hL1];omega),hL1]
      ·rw[hlen,hc2,<-htl,List.take_left' rfl]
    ·
     have hik2:i+(es.length+vs.length - i)=es.length+vs.length:=by omega
     have hold:(Builtin.firstCells inf.size i (.slice (some ⟨g,0,none⟩) i cap)).run P w.drew= .ok (xs.take (i*k)).toArray w.drew:=by
      rw[hi4];refine run_firstCells_some w.drew k i ⟨g,0,none⟩ i cap (xs.take (i*k)) (by rw[List.length_take,hxl];exact Nat.min_eq_left (Qq63 k hi)) λj u hj=> ?_
      rw[add_mid,Nat.zero_add];rw[Qq68]at hj;split at hj
      ·exact hcx j u hj
      ·cases hj
     have hmax':es.length+vs.length<=9223372036854775807:=by simp only[maxLen]at hmax;omega
     have r0:=λty=>Lib.run_append_grow_zeros (P:=P) w S I ty E inf z .i64 .i64 H.hS H.hI hi1 hi2 (some ⟨g,0,none⟩) i cap (xs.take (i*k)) hold (es.length+vs.length - i) (by omega) (by omega) (by omega) (by omega)
      (by rw[hi5];have:=Qq63 bytes (show es.length+vs.length - i<=es.length+vs.length by omega);omega) (by rw[hi5,hik2];exact growslice_fits (by omega) hby)
     rw[hik2]at r0;obtain⟨G,hG⟩:∃G,G=grownCap w (es.length+vs.length) cap E:=⟨_,rfl⟩;have hGn:es.length+vs.length<=G:=by rw[hG];exact grownCap_ge w _ _ _
     have hGm:G<=maxLen:=by rw[hG];exact grownCap_le_maxLen w _ _ _ hmax
     have hG63:G<=9223372036854775807:=by simp only[maxLen]at hGm;omega
     rw[<-hG]at r0;obtain⟨row,hrow⟩:∃row:Array Value,row=(xs.take (i*k)).toArray++Builtin.zeroCells z.cells (es.length+vs.length - i)++Builtin.zeroCells z.cells (G - (es.length+vs.length)):=⟨_,rfl⟩;rw[<-hrow]at r0;have hrt:(xs.take (i*k)).length=i*k:=by rw[List.length_take,hxl];exact Nat.min_eq_left (Qq63 k hi)
     have hrl:row.size=G*k:=by rw[hrow,Array.size_append,Array.size_append,List.size_toArray,hrt,size_zeroCells,size_zeroCells,hi3,<-Qq73,<-Qq73];congr 1;omega
     have hrtake:row.toList.take (i*k)=xs.take (i*k):=by rw[hrow,Array.toList_append,Array.toList_append,QL];exact List.take_left' hrt
     have hN:(w.drew.alloc (.cells row E)).heap[w.heap.size]?=some (.cells row E (0,0)):=by show(w.heap.push (.cells row E))[w.heap.size]?=_;simp
     have hkeep:∀b,b<w.heap.size->(w.drew.alloc (.cells row E)).heap[b]?=w.heap[b]?:=λb hb=>Below.heap_alloc w.drew _ b hb
     have hfit:(es.length+vs.length)*k<=row.size:=by rw[hrl];exact Qq63 k hGn
     have r1:=yd (P:=P) (w.drew.alloc (.cells row E)) S S 0 E w.heap.size (i*k) (es.length+vs.length - i) 0 ad vs.length vc row E us k vs.length H.hS hsz hN
      (by simp only[Nat.min_def];split<;>omega) hul (λj u hj=>by rw[World.cell?_of_block (w:=w) (hkeep _ (by rw[Iv];exact hadlt))];exact hcell j u hj) (by omega) hone
     have hR:row.toList.length=G*k:=(Array.length_toList (xs:=row)).trans hrl;obtain⟨cur1,hcur1⟩:∃cur1:Array Value,cur1=(sV row.toList (i*k) us).toArray:=⟨_,rfl⟩;have hl1:cur1.size=G*k:=by rw[hcur1,List.size_toArray,HD (by rw[hR];omega),hR]
     have hL1:cur1.toList.length=G*k:=(Array.length_toList (xs:=cur1)).trans hl1;have hg1:((w.drew.alloc (.cells row E)).setRow w.heap.size cur1).drew.heap[w.heap.size]?=some (.cells cur1 E (0,0)):=setRow_heap _ _ row _ E _ hN
     have r2:=yd (P:=P) ((w.drew.alloc (.cells row E)).setRow w.heap.size cur1).drew S S 0 E w.heap.size ((i+vs.length)*k) (es.length+vs.length - (i+vs.length)) 0 ⟨g,i*k,none⟩ (es.length - i) 0 cur1 E ys k (es.length - i) H.hS hsz hg1
      (by simp only[Nat.min_def];split<;>omega) hyl (λj u hj=>by
       rw[World.cell?_of_block (w:=w) (w':=((w.drew.alloc (.cells row E)).setRow w.heap.size cur1).drew) (((xH _ w.heap.size cur1 (by rw[Iv];exact Nat.ne_of_lt hglt)).trans (hkeep _ (by rw[Iv];exact hglt))))]
       exact hcy j u hj) (by rw[hl1,<-hrl,<-hik];omega) hy1
     obtain⟨cur2,hcur2⟩:∃cur2:Array Value,cur2=(sV cur1.toList ((i+vs.length)*k) ys).toArray:=⟨_,rfl⟩;obtain⟨w3,hw3⟩:∃w3,w3=((w.drew.alloc (.cells row E)).setRow w.heap.size cur1).drew.setRow w.heap.size cur2:=⟨_,rfl⟩;have hg2:w3.heap[w.heap.size]?=some (.cells cur2 E (0,0)):=by rw[hw3];exact setRow_heap _ _ cur1 _ E _ hg1
     have hc2:cur2.toList=xs.take (i*k)++us++ys++row.toList.drop ((es.length+vs.length)*k):=by rw[hcur2,hcur1,<-hik,ZJ (by rw[hR];omega),htot,hrtake]
     have hfr:Fr (some g) w w3:=by
      rw[hw3];refine⟨rfl,rfl,rfl,by simp[World.setRow],λb hb _=> ?_,DL.of (by show w.drawn<=w.drawn+1+1;omega)⟩
      rw[xH _ _ _ (Nat.ne_of_lt hb)];exact(xH _ w.heap.size cur1 (Nat.ne_of_lt hb)).trans (hkeep b hb)
     refine(H.grow g es.length cap i hin hnc hcm' ad vs.length vc hm (by omega) w.heap.size G hGn hG63 (.of hin hnc hcm' hm (by omega)) (by omega) (by omega) (by omega) w (w.drew.alloc (.cells row E)) ((w.drew.alloc (.cells row E)).setRow w.heap.size cur1) w3 (λty=> ?_) (λty dc=> ?_) (λty dc sc=> ?_)).mono ?_
     ·have:=r0 ty;rw[show((es.length+vs.length - i:Nat):Int)=(es.length:Int)+(vs.length:Int) - (i:Int)by omega]at this
      exact this
     ·rw[hcur1];exact r1
     ·rw[hw3,hcur2];exact r2
     ·rintro e w' ⟨rfl,rfl⟩
      have hub:∀b,cd (.slice (some ⟨w.heap.size,0,none⟩) (es.length+vs.length) G)=some b->cd (.slice (some ⟨g,0,none⟩) es.length cap)=some b\/w.heap.size<=b:=λb hb=>by
       injection hb with hb
       exact .inr (Nat.le_of_eq hb)
      refine⟨_,rfl,⟨xs.take (i*k)++us++ys,⟨?_,.inr ⟨w.heap.size,G,cur2,by rw[hlen],QS _,hg2,by rw[hlen];exact hGn,hGm,?_,?_⟩⟩,hmem,hres.mono (@M3 w _ (.slice (some ⟨g,0,none⟩) es.length cap) (.slice (some ⟨w.heap.size,0,none⟩) (es.length+vs.length) G) X hfr hub) (dX.le _)⟩,hub,hfr⟩
      ·rw[htl,hlen]
      ·rw[hcur2,List.size_toArray,HD (by rw[hL1,<-hik];omega),hL1]
      ·rw[hlen,hc2,<-htl,List.take_left' rfl]
end
end Go.TQ
end
noncomputable section
namespace Go.Proofs.YtofedieniojipaaGreat
open Go.RowKit Go.TQ Go.Lib
namespace Wg
set_option maxHeartbeats 8000000 in
set_option maxRecDepth 100000 in
def ways:SS Tryz.prog 106 28 56 3 4 174 37 496:=by
 have zE:∀w:World,(Go.sizeOf 56).run Tryz.prog w= .ok 37 w:=λ_=>by kernel_rfl
 have uS:=run_underlying Tryz.underlying28;have mixed:Tryz.prog.follows .mixedOrders=true:=by kernel_rfl
 refine⟨by decide,Tryz.underlying28,Tryz.underlying3,Lm (by kernel_rfl),λx w h=> ?_,λg n c i hi hc hc63 u vc w=> ?_,λu vc w=> ?_,λg n c hc hc63 ad m vc hm w w1 v1 hr=> ?_,λad m vc hm w w1 v1 hr=> ?_,λg n c i hi hc63 ad m vc hm hroom ⟨hz1,hz2,hw1,hb1,htn,hb3,hb4,hin⟩ hb2 w w1 w2 hov h1 h2=> ?_,λg n c i hi hc hc63 ad m vc hm hroom N G hGn hG63 ⟨hz1,hz2,hw1,hb1,htn,_,hci,hb3⟩ hz3 hGi hGim w w1 w2 w3 hz h1 h2=> ?_⟩
 ·rw[run_callFunc_extern Tryz.func174 (by kernel_rfl) (by kernel_rfl) (by kernel_rfl) (e:=Extern.SlicesOverlaps.overlaps #[28,28] #[4]) (by kernel_rfl),h]
  rfl
 rotate_left 4
 ·go_enter Tryz.func106,Tryz.ntmps106
  go_wp2_with (simp only[hov])
  go_region_law_o (refine step_copy_runI rfl _ _ 28 28 rfl _ _ (by simp[Act.eval,Act.put]) (by simp[Act.eval,Act.put]) (h1 _ _ _) ?_)
  go_wp2_with (at_builtin;refine wpList_copy_runI _ rfl _ _ 28 28 rfl _ _ rfl rfl (h2 _ _) ?_)
  go_ret
  exact⟨rfl,rfl⟩
 ·have hin:=hb3
  go_enter Tryz.func106,Tryz.ntmps106
  go_wp2_with (first
   |(at_builtin;refine Lib.wpList_append_run _ rfl _ _ _ _ rfl _ _ rfl rfl _ _ (hz _) ?_)
   |(at_builtin;refine wpList_copy_runI _ rfl _ _ 28 28 rfl _ _ rfl rfl (h1 _ _) ?_))
  go_region_law_o (refine step_copy_runI rfl _ _ 28 28 rfl (.slice (some ⟨N,(i+m)*37,none⟩) (n+m - (i+m)) (G - (i+m))) (.slice (some ⟨g,i*37,none⟩) (n - i) (c - i)) (by simp[Act.eval,Act.put]) (by simp[Act.eval,Act.put]) (h2 3 (G - (i+m)) (c - i)) ?_)
  go_wp2
  go_ret
  exact⟨rfl,rfl⟩
 all_goals
  try have hz1:¬((m:Int)=0):=by omega
  go_enter Tryz.func106,Tryz.ntmps106
  go_wp2_with (at_builtin;refine Lib.wpList_append_run _ rfl _ _ _ _ rfl _ _ rfl rfl _ _ (hr _) ?_)
  all_goals go_ret
  all_goals exact⟨rfl,rfl⟩
def enters:Go.TQ.Enters Tryz.prog 106:=⟨Tryz.f106,Tryz.func106,by kernel_rfl,by kernel_rfl⟩
end Wg
end Go.Proofs.YtofedieniojipaaGreat
end
noncomputable section
namespace Go.TQ
def CK{α:Type}(bytes:Nat)(s:List α)(i:Int)(v:List α):Option (List α):=bif decide (0<=i)&&decide (i<=((s.length:Nat):Int))&&bh bytes (s.length+v.length)then some (s.take i.toNat++v++s.drop i.toNat)else none
def dR{P:Program}{f S E I B ov k bytes:Nat}(H:SS P f S E I B ov k bytes)(hent:Enters P f){T:Ty}(hk:∀x:T.den,(T.pv x).length=k):
  dQ.Sound P (U:=U) (.cw f E k T [.ty (Ty.i .i64),.ty (Ty.sl T)] λs a=>CK bytes s a.1 a.2.1):=by
 refine⟨hent,λxs a ys h=> ?_⟩
 suffices key:∀(i:Int) (v:List T.den) (ys:List T.den),CK bytes xs i v=some ys->N6 P f E k (xs.map T.pv) [.int .i64 i,.sl (v.map T.pv)] (ys.map T.pv)from key a.1 a.2.1 ys h
 clear h;intro i v ys h;unfold CK at h
 cases hc:(decide (0<=i)&&decide (i<=((xs.length:Nat):Int))&&bh bytes (xs.length+v.length))with
 |false=>rw[hc]at h;cases h
 |true=>
  rw[hc]at h;injection h with h
  subst h;simp only[Qm,Qi]at hc;obtain⟨⟨h0,h1⟩,h2⟩:=hc;obtain⟨h3,h4⟩:=Dn h2;have hone:∀x:T.den,(T.pv x).all PV.one=true:=λx=>QH.2 λy hy=>Wn (K.ic T x y hy)
  have:=agk H (es:=xs.map T.pv) (vs:=v.map T.pv) (i:=i.toNat) (by rw[QC];omega)
   (λu hu=>by obtain⟨x,_,rfl⟩:=QP.1 hu;exact hone x) (λu hu=>by obtain⟨x,_,rfl⟩:=QP.1 hu;exact⟨hk x,hone x⟩)
   (by rw[QC,QC];exact h4) (by rw[QC,QC];exact h3)
  rw[<-List.map_take,<-List.map_drop,<-List.map_append,<-List.map_append,show((i.toNat:Nat):Int)=i by omega]at this
  exact this
end Go.TQ
end
noncomputable section
namespace Go.Proofs.YtofedieniojipaaGreat
open Go.RowKit Go.TQ Go.Lib
namespace Wf
set_option maxHeartbeats 8000000 in
set_option maxRecDepth 100000 in
def ways:SS Tryz.prog 164 47 34 3 4 223 7 120:=by
 have zE:∀w:World,(Go.sizeOf 34).run Tryz.prog w= .ok 7 w:=λ_=>by kernel_rfl
 have uS:=run_underlying Tryz.underlying47;have mixed:Tryz.prog.follows .mixedOrders=true:=by kernel_rfl
 refine⟨by decide,Tryz.underlying47,Tryz.underlying3,Lm (by kernel_rfl),λx w h=> ?_,λg n c i hi hc hc63 u vc w=> ?_,λu vc w=> ?_,λg n c hc hc63 ad m vc hm w w1 v1 hr=> ?_,λad m vc hm w w1 v1 hr=> ?_,λg n c i hi hc63 ad m vc hm hroom ⟨hz1,hz2,hw1,hb1,htn,hb3,hb4,hin⟩ hb2 w w1 w2 hov h1 h2=> ?_,λg n c i hi hc hc63 ad m vc hm hroom N G hGn hG63 ⟨hz1,hz2,hw1,hb1,htn,_,hci,hb3⟩ hz3 hGi hGim w w1 w2 w3 hz h1 h2=> ?_⟩
 ·rw[run_callFunc_extern Tryz.func223 (by kernel_rfl) (by kernel_rfl) (by kernel_rfl) (e:=Extern.SlicesOverlaps.overlaps #[47,47] #[4]) (by kernel_rfl),h]
  rfl
 rotate_left 4
 ·go_enter Tryz.func164,Tryz.ntmps164
  go_wp2_with (simp only[hov])
  go_region_law_o (refine step_copy_runI rfl _ _ 47 47 rfl _ _ (by simp[Act.eval,Act.put]) (by simp[Act.eval,Act.put]) (h1 _ _ _) ?_)
  go_wp2_with (at_builtin;refine wpList_copy_runI _ rfl _ _ 47 47 rfl _ _ rfl rfl (h2 _ _) ?_)
  go_ret
  exact⟨rfl,rfl⟩
 ·have hin:=hb3
  go_enter Tryz.func164,Tryz.ntmps164
  go_wp2_with (first
   |(at_builtin;refine Lib.wpList_append_run _ rfl _ _ _ _ rfl _ _ rfl rfl _ _ (hz _) ?_)
   |(at_builtin;refine wpList_copy_runI _ rfl _ _ 47 47 rfl _ _ rfl rfl (h1 _ _) ?_))
  go_region_law_o (refine step_copy_runI rfl _ _ 47 47 rfl (.slice (some ⟨N,(i+m)*7,none⟩) (n+m - (i+m)) (G - (i+m))) (.slice (some ⟨g,i*7,none⟩) (n - i) (c - i)) (by simp[Act.eval,Act.put]) (by simp[Act.eval,Act.put]) (h2 3 (G - (i+m)) (c - i)) ?_)
  go_wp2
  go_ret
  exact⟨rfl,rfl⟩
 all_goals
  try have hz1:¬((m:Int)=0):=by omega
  go_enter Tryz.func164,Tryz.ntmps164
  go_wp2_with (at_builtin;refine Lib.wpList_append_run _ rfl _ _ _ _ rfl _ _ rfl rfl _ _ (hr _) ?_)
  all_goals go_ret
  all_goals exact⟨rfl,rfl⟩
def enters:Go.TQ.Enters Tryz.prog 164:=⟨Tryz.f164,Tryz.func164,by kernel_rfl,by kernel_rfl⟩
end Wf
end Go.Proofs.YtofedieniojipaaGreat
namespace Go.Proofs.YtofedieniojipaaGreat
open Go.RowKit Go.TQ Go.Lib
namespace We
set_option maxHeartbeats 8000000 in
set_option maxRecDepth 100000 in
def ways:SS Tryz.prog 236 50 38 3 4 282 15 176:=by
 have zE:∀w:World,(Go.sizeOf 38).run Tryz.prog w= .ok 15 w:=λ_=>by kernel_rfl
 have uS:=run_underlying Tryz.underlying50;have mixed:Tryz.prog.follows .mixedOrders=true:=by kernel_rfl
 refine⟨by decide,Tryz.underlying50,Tryz.underlying3,Lm (by kernel_rfl),λx w h=> ?_,λg n c i hi hc hc63 u vc w=> ?_,λu vc w=> ?_,λg n c hc hc63 ad m vc hm w w1 v1 hr=> ?_,λad m vc hm w w1 v1 hr=> ?_,λg n c i hi hc63 ad m vc hm hroom ⟨hz1,hz2,hw1,hb1,htn,hb3,hb4,hin⟩ hb2 w w1 w2 hov h1 h2=> ?_,λg n c i hi hc hc63 ad m vc hm hroom N G hGn hG63 ⟨hz1,hz2,hw1,hb1,htn,_,hci,hb3⟩ hz3 hGi hGim w w1 w2 w3 hz h1 h2=> ?_⟩
 ·rw[run_callFunc_extern Tryz.func282 (by kernel_rfl) (by kernel_rfl) (by kernel_rfl) (e:=Extern.SlicesOverlaps.overlaps #[50,50] #[4]) (by kernel_rfl),h]
  rfl
 rotate_left 4
 ·go_enter Tryz.func236,Tryz.ntmps236
  go_wp2_with (simp only[hov])
  go_region_law_o (refine step_copy_runI rfl _ _ 50 50 rfl _ _ (by simp[Act.eval,Act.put]) (by simp[Act.eval,Act.put]) (h1 _ _ _) ?_)
  go_wp2_with (at_builtin;refine wpList_copy_runI _ rfl _ _ 50 50 rfl _ _ rfl rfl (h2 _ _) ?_)
  go_ret
  exact⟨rfl,rfl⟩
 ·have hin:=hb3
  go_enter Tryz.func236,Tryz.ntmps236
  go_wp2_with (first
   |(at_builtin;refine Lib.wpList_append_run _ rfl _ _ _ _ rfl _ _ rfl rfl _ _ (hz _) ?_)
   |(at_builtin;refine wpList_copy_runI _ rfl _ _ 50 50 rfl _ _ rfl rfl (h1 _ _) ?_))
  go_region_law_o (refine step_copy_runI rfl _ _ 50 50 rfl (.slice (some ⟨N,(i+m)*15,none⟩) (n+m - (i+m)) (G - (i+m))) (.slice (some ⟨g,i*15,none⟩) (n - i) (c - i)) (by simp[Act.eval,Act.put]) (by simp[Act.eval,Act.put]) (h2 3 (G - (i+m)) (c - i)) ?_)
  go_wp2
  go_ret
  exact⟨rfl,rfl⟩
 all_goals
  try have hz1:¬((m:Int)=0):=by omega
  go_enter Tryz.func236,Tryz.ntmps236
  go_wp2_with (at_builtin;refine Lib.wpList_append_run _ rfl _ _ _ _ rfl _ _ rfl rfl _ _ (hr _) ?_)
  all_goals go_ret
  all_goals exact⟨rfl,rfl⟩
def enters:Go.TQ.Enters Tryz.prog 236:=⟨Tryz.f236,Tryz.func236,by kernel_rfl,by kernel_rfl⟩
end We
end Go.Proofs.YtofedieniojipaaGreat
namespace Go.Proofs.YtofedieniojipaaGreat
open Go.RowKit Go.TQ Go.Lib
namespace Wd
set_option maxHeartbeats 8000000 in
set_option maxRecDepth 100000 in
def ways:SS Tryz.prog 313 32 9 3 4 348 1 16:=by
 have zE:∀w:World,(Go.sizeOf 9).run Tryz.prog w= .ok 1 w:=λ_=>by kernel_rfl
 have uS:=run_underlying Tryz.underlying32;have mixed:Tryz.prog.follows .mixedOrders=true:=by kernel_rfl
 refine⟨by decide,Tryz.underlying32,Tryz.underlying3,Lm (by kernel_rfl),λx w h=> ?_,λg n c i hi hc hc63 u vc w=> ?_,λu vc w=> ?_,λg n c hc hc63 ad m vc hm w w1 v1 hr=> ?_,λad m vc hm w w1 v1 hr=> ?_,λg n c i hi hc63 ad m vc hm hroom ⟨hz1,hz2,hw1,hb1,htn,hb3,hb4,hin⟩ hb2 w w1 w2 hov h1 h2=> ?_,λg n c i hi hc hc63 ad m vc hm hroom N G hGn hG63 ⟨hz1,hz2,hw1,hb1,htn,_,hci,hb3⟩ hz3 hGi hGim w w1 w2 w3 hz h1 h2=> ?_⟩
 ·rw[run_callFunc_extern Tryz.func348 (by kernel_rfl) (by kernel_rfl) (by kernel_rfl) (e:=Extern.SlicesOverlaps.overlaps #[32,32] #[4]) (by kernel_rfl),h]
  rfl
 rotate_left 4
 simp only[Nat.mul_one]at hov h1 h2
 ·go_enter Tryz.func313,Tryz.ntmps313
  go_wp2_with (simp only[hov])
  go_region_law_o (refine step_copy_runI rfl _ _ 32 32 rfl _ _ (by simp[Act.eval,Act.put]) (by simp[Act.eval,Act.put]) (h1 _ _ _) ?_)
  go_wp2_with (at_builtin;refine wpList_copy_runI _ rfl _ _ 32 32 rfl _ _ rfl rfl (h2 _ _) ?_)
  go_ret
  exact⟨rfl,rfl⟩
 simp only[Nat.mul_one]at h1 h2
 ·have hin:=hb3
  go_enter Tryz.func313,Tryz.ntmps313
  go_wp2_with (first
   |(at_builtin;refine Lib.wpList_append_run _ rfl _ _ _ _ rfl _ _ rfl rfl _ _ (hz _) ?_)
   |(at_builtin;refine wpList_copy_runI _ rfl _ _ 32 32 rfl _ _ rfl rfl (h1 _ _) ?_))
  go_region_law_o (refine step_copy_runI rfl _ _ 32 32 rfl (.slice (some ⟨N,i+m,none⟩) (n+m - (i+m)) (G - (i+m))) (.slice (some ⟨g,i,none⟩) (n - i) (c - i)) (by simp[Act.eval,Act.put]) (by simp[Act.eval,Act.put]) (h2 3 (G - (i+m)) (c - i)) ?_)
  go_wp2
  go_ret
  exact⟨rfl,rfl⟩
 all_goals
  try have hz1:¬((m:Int)=0):=by omega
  go_enter Tryz.func313,Tryz.ntmps313
  go_wp2_with (at_builtin;refine Lib.wpList_append_run _ rfl _ _ _ _ rfl _ _ rfl rfl _ _ (hr _) ?_)
  all_goals go_ret
  all_goals exact⟨rfl,rfl⟩
def enters:Go.TQ.Enters Tryz.prog 313:=⟨Tryz.f313,Tryz.func313,by kernel_rfl,by kernel_rfl⟩
end Wd
end Go.Proofs.YtofedieniojipaaGreat
end
noncomputable section
namespace Go.TQ
section
open Go.Proofs Go.Sort Go.RowKit Go.Lib
def zI:PV->Bool
 | .int _ _| .str _| .bool _=>true
 |_=>false
def rl:PV->Value
 | .int k n=> .int k n
 | .str s=> .string s
 | .bool b=> .bool b
 |_=>undef
def JJ{w:World}{M:Nat->Prop}{G:Gh}{x:PV}(h:zI x=true):bp w M G x (rl x):=by cases x<;>first|exact .int _ _|exact .str _|exact .bool _|exact absurd h (by simp[zI])
def abj{w:World}{M:Nat->Prop}{G:Gh}{x:PV}{v:Value}(h:zI x=true)(hr:bp w M G x v):v=rl x:=by cases x<;>first|(cases hr;rfl)|exact absurd h (by simp[zI])
def To{x:PV}(h:zI x=true):(rl x).oneCell'=true:=by cases x<;>first|rfl|exact absurd h (by simp[zI])
def OL{w:World}{M:Nat->Prop}{G:Gh}:∀{xs:List PV} {vs:List Value},xs.all zI=true->bo w M G xs vs->vs=xs.map rl
 |[],vs,_,hr=>hr.sX
 |x::xs,vs,h,hr=>by obtain⟨v,vs',rfl,r1,r2⟩:=hr.cons_inv;rw[Qq70,Qm]at h;rw[QD,<-abj h.1 r1,<-OL h.2 r2]
def OJ{w:World}{M:Nat->Prop}{G:Gh}:∀{xs:List PV},xs.all zI=true->bo w M G xs (xs.map rl)
 |[],_=> .nil
 |x::xs,h=>by rw[Qq70,Qm]at h;exact .cons (JJ h.1) (OJ h.2)
def agA{w w':World}(h:Fr none w w'):∃q os,w'=grow (w.drewN q) os:=by
 refine⟨w'.drawn - w.drawn,w'.heap.extract w.heap.size w'.heap.size,?_⟩;have hs:=h.size
 have hh:w'.heap=w.heap++w'.heap.extract w.heap.size w'.heap.size:=by
  apply Array.ext_getElem?;intro k;rw[Array.getElem?_append];split
  ·rename_i hk;exact h.block k hk (by simp)
  ·rename_i hk;rw[Array.getElem?_extract];split
   ·rw[show w.heap.size+(k - w.heap.size)=k by omega]
   ·exact Array.getElem?_eq_none (by omega)
 have h1:=h.os;have h2:=h.tape;have h3:=h.output;have h4:=h.drawn rfl
 cases w' with|mk hp tp dr os out=>
 cases w with|mk hp' tp' dr' os' out'=>
 simp only at h1 h2 h3 h4 hh;subst h1 h2 h3;unfold grow World.drewN;simp only;rw[<-hh,show dr'+(dr - dr')=dr by omega]
def Vs{w:World}{b n:Nat}{F:Array Value}{os:Array Obj}{cur:Array Value}{e:TypeId}{fr:Nat×Nat}(hb:w.heap[b]?=some (.cells cur e fr)):
  (grow (putRow id (Sort.ahead w n) b 0 F) os).heap[b]?=some (.cells (putCells id 0 F cur) e fr):=by
 have hlt:b<w.heap.size:=(Q9.1 hb).1;unfold grow putRow mapBlock Sort.ahead;simp only;rw[Array.getElem?_append_left (by simp;exact hlt),Array.getElem?_modify,Qr rfl,hb]
 rfl
def abf{w:World}{b n:Nat}{F:Array Value}{os:Array Obj}:Fr (some b) w (grow (putRow id (Sort.ahead w n) b 0 F) os):=by
 refine⟨rfl,rfl,rfl,?_,λq hq hne=> ?_,DL.of (Nat.le_add_right _ _)⟩
 ·unfold grow putRow mapBlock Sort.ahead;simp only[Array.size_append,Array.size_modify];omega
 ·have hqb:¬b=q:=λe=>hne (by rw[e])
  unfold grow putRow mapBlock Sort.ahead;simp only;rw[Array.getElem?_append_left (by simp;exact hq),Array.getElem?_modify,Qs hqb]
def Tl{F cur:Array Value}(h:F.size<=cur.size):(putCells id 0 F cur).toList=F.toList++cur.toList.drop F.size:=by
 apply List.ext_getElem?;intro i;rw[Array.getElem?_toList];unfold putCells;rw[Array.getElem?_mapIdx,List.getElem?_append];simp only[Array.length_toList,QS,true_and,Nat.zero_add,Nat.sub_zero,id]
 by_cases hi:i<F.size
 ·rw[Qr hi,Array.getElem?_toList,Array.getElem?_eq_getElem (show i<cur.size by omega),Array.getElem?_eq_getElem hi,Qe,Qr hi,getElem!_pos F i hi]
 ·rw[Qs hi,List.getElem?_drop,Array.getElem?_toList,show F.size+(i - F.size)=i by omega]
  cases cur[i]? with
  |none=>rfl
  |some y=>rw[Qe,Qs hi]
def Xn(P:Program)(f k:Nat):Prop:=∀(α:Type) [Inhabited α] (gp:α->List Value) (_:∀x,(gp x).length=k) (_:∀x,∀v∈gp x,v.oneCell'=true) (cf:α->α->Int) (_:Go.Sort.SWO (ltOf cf)) (g:Nat) (cb:Array Value) (cd off cap:Nat) (d:Array α) (w:World)
  (_:∀args w,(callFunc g args).run P w= .ok (.enter g args) w) (_:CmpLays P g cb gp k cf cd off d.size w) (_:HoldsK gp k w cd off d) (_:cd<w.heap.size) (_:d.size<4611686018427387904) (_:∀x y,(ltOf cf) x y=false->(ltOf cf) y x=false->x=y),
  Calls P f #[.slice (some ⟨cd,off,none⟩) d.size cap,.func (.func g) #[] cb] w λe w'=>e= .returned (.tuple #[])/\∃n os,w'=sortWorldK gp k w cd off n (d.toList.mergeSort λx y=> !(ltOf cf) y x).toArray os
def Rt(P:Program)(f:Nat):Prop:=∀(α:Type) [Inhabited α] (gp:α->Value) (_:OneCell gp) (cf:α->α->Int) (_:Go.Sort.SWO (ltOf cf)) (g:Nat) (cb:Array Value) (cd off cap:Nat) (d:Array α) (w:World)
  (_:∀args w,(callFunc g args).run P w= .ok (.enter g args) w) (_:CmpLays1 P g cb gp cf cd off d.size w) (_:Holds gp w cd off d) (_:cd<w.heap.size) (_:d.size<4611686018427387904) (_:∀x y,(ltOf cf) x y=false->(ltOf cf) y x=false->x=y),
  Calls P f #[.slice (some ⟨cd,off,none⟩) d.size cap,.func (.func g) #[] cb] w λe w'=>e= .returned (.tuple #[])/\∃n os,w'=sortWorld gp w cd off n (d.toList.mergeSort λx y=> !(ltOf cf) y x).toArray os
def KN(P:Program)(f:Nat):Prop:=∀(p:Option Addr) (cap:Nat) (fv:Value) (w:World),Calls P f #[.slice p 0 cap,fv] w λe w'=>e= .returned (.tuple #[])/\w'=w
section
variable {P : Program} {α : Type} [Inhabited α] {pv : α -> List PV} {k : Nat}
def qN(pv:α->List PV)(x:α):List Value:=(pv x).map rl
def Xm(P:Program)(f g e k:Nat)(pv:α->List PV)(le:α->α->Bool):Prop:=
 ∀(w:World) (b cap:Nat) (xs:List α) (cur:Array Value),w.heap[b]?=some (.cells cur e (0,0))->xs.length<4611686018427387904->xs.length<=cap->cap<=maxLen->cur.size=cap*k->cur.toList.take (xs.length*k)=xs.flatMap (qN pv)->
  Calls P f #[.slice (some ⟨b,0,none⟩) xs.length cap,.func (.func g) #[] #[]] w λen w'=>en= .returned (.tuple #[])/\
   ∃cur':Array Value,w'.heap[b]?=some (.cells cur' e (0,0))/\cur'.size=cur.size/\cur'.toList.take (xs.length*k)=(xs.mergeSort le).flatMap (qN pv)/\Fr (some b) w w'
def TP(hk:∀x,(pv x).length=k):∀xs:List α,(xs.flatMap (qN pv)).length=xs.length*k
 |[]=>by simp
 |x::xs=>by rw[List.flatMap_cons,QB,TP hk xs,qN,QC,hk,QE,Qq73,Nat.one_mul,Nat.add_comm]
def Ye{f g e:Nat}{le:α->α->Bool}(h0:KN P f)(hs:Xm P f g e k pv le)(hk0:0<k)(hk:∀x,(pv x).length=k)(hp:∀x,(pv x).all zI=true)(xs:List α)(hsx:xs.length<4611686018427387904):
  aaL P f e k (xs.map pv) [.bI g []] (.eL []) ((xs.mergeSort le).map pv):=by
 intro w X hX v vs hvX ⟨us,hown,hke,hr⟩ hargs;obtain⟨a1,args,rfl,ha1,hargs⟩:=hargs.cons_inv;obtain rfl:=hargs.sX;obtain⟨cs,rfl,hcs⟩:=ha1.wZ;obtain rfl:=hcs.sX
 have hflat:∀l:List α,(l.map pv).flatten.map rl=l.flatMap (qN pv):=λl=>by
  induction l with
  |nil=>rfl
  |cons x l ih=>rw[QD,List.flatten_cons,List.map_append,ih,List.flatMap_cons];rfl
 have hplain:∀l:List α,(l.map pv).flatten.all zI=true:=λl=>by
  induction l with
  |nil=>rfl
  |cons x l ih=>rw[QD,List.flatten_cons,List.all_append,ih,hp x];rfl
 have hus:us=xs.flatMap (qN pv):=by rw[OL (hplain xs) hr,hflat]
 have hms:(xs.mergeSort le).length=xs.length:=List.length_mergeSort xs
 have hkm:∀l:List α,∀u∈l.map pv,u.length=k:=λl u hu=>by obtain⟨x,_,rfl⟩:=QP.1 hu;exact hk x
 have hlen:(xs.map pv).length=xs.length:=QC ..;have hlen2:((xs.mergeSort le).map pv).length=xs.length:=by rw[QC,hms]
 rw[hlen]at hown
 have hrep:∀w':World,bo w' (Mv v X) dX ((xs.mergeSort le).map pv).flatten ((xs.mergeSort le).flatMap (qN pv)):=λw'=>by rw[<-hflat];exact OJ (hplain _)
 by_cases hx:xs=[]
 ·
  subst hx
  have hv:∃p cap,v= .slice p 0 cap:=by
   rcases hown.2 with⟨h1,_⟩|⟨b,cap,cur,h1,_⟩
   ·exact⟨none,0,h1⟩
   ·exact⟨_,cap,h1⟩
  obtain⟨p,cap,hv⟩:=hv;have:=h0 p cap (.func (.func g) #[] [].toArray) w;rw[<-hv]at this;refine this.mono λen w' ⟨h1,h2⟩=> ?_
  subst h2;refine⟨_,h1,.eL _ [] rfl (λi x v h=>by simp at h),⟨us,?_,hkm _,?_⟩,Fr.refl _ _⟩
  ·rw[hlen2];exact hown
  ·rw[hus];have:=hrep w';rw[show([]:List α).mergeSort le=[]from by simp]at this ⊢
   exact this
 ·rcases hown.2 with⟨_,h2⟩|⟨b,cap,cur,rfl,hbase,hb,hn,hcap,hsz,htake⟩
  ·exact absurd (Qq67 h2) hx
  ·refine(hs w b cap xs cur hb hsx hn hcap hsz (by rw[htake,hus])).mono λen w' ⟨h1,cur',h2,h3,h4,h5⟩=> ?_
   refine⟨_,h1,.eL _ [] rfl (λi x v h=>by simp at h),⟨(xs.mergeSort le).flatMap (qN pv),⟨?_,.inr ⟨b,cap,cur',by rw[hlen2],hbase,h2,by rw[hlen2];exact hn,hcap,by rw[h3];exact hsz,?_⟩⟩,hkm _,hrep w'⟩,h5⟩
   ·rw[TP hk,hms,hlen2]
   ·rw[hlen2];exact h4
def MI{gp:α->List Value}(hk:∀x,(gp x).length=k)(hk0:0<k):∀(l:List α) (t:Nat),t<l.length*k->(l.flatMap gp)[t]?=(gp l[t / k]!)[t % k]?
 |[],t,h=>by simp at h
 |x::l,t,h=>by
  rw[List.flatMap_cons]
  by_cases ht:t<k
  ·rw[List.getElem?_append_left (by rw[hk];exact ht),Nat.div_eq_of_lt ht,Nat.mod_eq_of_lt ht]
   rfl
  ·rw[List.getElem?_append_right (by rw[hk];omega),hk]
   have hl:t - k<l.length*k:=by rw[QE,Qq73,Nat.one_mul]at h;omega
   rw[MI hk hk0 l (t - k) hl,Nat.mod_eq_sub_mod (by omega:t>=k),show t / k=(t - k) / k+1 from Nat.div_eq_sub_div hk0 (by omega)]
   simp
def Z7{gp:α->List Value}(hk:∀x,(gp x).length=k)(hk0:0<k)(l:List α):(flatK gp k l.toArray).toList=l.flatMap gp:=by
 have hlen:(l.flatMap gp).length=l.length*k:=by
  induction l with
  |nil=>simp
  |cons x l ih=>rw[List.flatMap_cons,QB,ih,hk,QE,Qq73,Nat.one_mul,Nat.add_comm]
 apply List.ext_getElem?;intro t
 by_cases ht:t<l.length*k
 ·rw[MI hk hk0 l t ht];have hm:t % k<(gp l[t / k]!).length:=by rw[hk];exact Nat.mod_lt _ hk0
  rw[Qv hm];unfold flatK;simp only[Array.toList_map,Array.toList_range,QT,List.size_toArray];rw[List.getElem?_range ht];simp only[Qe];congr 1;rw[show(l.toArray)[t / k]! =l[t / k]! by simp]
  exact getElem!_pos (gp l[t / k]!) (t % k) hm
 ·rw[Qq72 (by rw[Array.length_toList,size_flatK,List.size_toArray];omega),Qq72 (by omega)]
def aeq(P:Program)(g:Nat)(val:α->Value)(cf:α->α->Int):Prop:=∀(x y:α) (w:World),Calls P g #[val x,val y] w λe w'=>e= .returned (.int .i64 (cf x y))/\∃q os,w'=grow (w.drewN q) os
def PJ{w:World}{b e cap:Nat}{xs:List α}{cur:Array Value}{F:Array Value}(hb:w.heap[b]?=some (.cells cur e (0,0)))(hF:F.toList=cur.toList.take F.size):Holds id w b 0 F:=by
 intro j hj
 have hc:cur[j]?=some F[j]:=by
  have h1:F.toList[j]?=some F[j]:=by rw[Array.getElem?_toList];exact Array.getElem?_eq_getElem hj
  rw[hF,Qq68,Qr hj,Array.getElem?_toList]at h1;exact h1
 rw[getElem!_pos F j hj];refine⟨?_,?_⟩
 ·unfold World.cell?;simp only[Nat.zero_add,hb];simpa using hc
 ·unfold World.frozen?;simp only[hb];simp
def ako{f g e:Nat}{cf:α->α->Int}(hS:Xn P f k)(hk0:0<k)(hk:∀x,(pv x).length=k)(hp:∀x,(pv x).all zI=true)(hO:Go.Sort.SWO (ltOf cf))(hT:∀x y,(ltOf cf) x y=false->(ltOf cf) y x=false->x=y)
  (eg:∀args w,(callFunc g args).run P w= .ok (.enter g args) w) (hc:aeq P g (λx=> .agg (qN pv x).toArray) cf):Xm P f g e k pv λx y=> !(ltOf cf) y x:=by
 intro w b cap xs cur hb hsx hn hcap hsz htake;have hlt:b<w.heap.size:=(Q9.1 hb).1;have hkE:∀x,(qN pv x).length=k:=λx=>by rw[qN,QC,hk]
 have hflat:∀l:List α,(flatK (qN pv) k l.toArray).toList=l.flatMap (qN pv):=Z7 hkE hk0;have hcs:CmpLays P g #[] (qN pv) k cf b 0 xs.toArray.size w:=λm os dk _ x y=>hc x y _
 have hH:HoldsK (qN pv) k w b 0 xs.toArray:=PJ (xs:=xs) (cap:=cap) hb (by rw[hflat,size_flatK,List.size_toArray];exact htake.symm)
 have:=hS α (qN pv) hkE (λx v hv=>by obtain⟨y,hy,rfl⟩:=QP.1 hv;exact To (QH.1 (hp x) y hy)) cf hO g #[] b 0 cap xs.toArray w eg hcs hH hlt (by rw[List.size_toArray];exact hsx) hT
 refine this.mono λen w' ⟨h1,n,os,h2⟩=>⟨h1,?_⟩
 have hms:(xs.mergeSort λx y=> !(ltOf cf) y x).length=xs.length:=List.length_mergeSort xs
 have hFs:(flatK (qN pv) k (xs.mergeSort λx y=> !(ltOf cf) y x).toArray).size=xs.length*k:=by rw[size_flatK,List.size_toArray,hms]
 have hFc:(flatK (qN pv) k (xs.mergeSort λx y=> !(ltOf cf) y x).toArray).size<=cur.size:=by rw[hFs,hsz];exact Qq63 k hn
 subst h2;refine⟨_,Vs hb,by unfold putCells;rw[Array.size_mapIdx],?_,abf⟩
 rw[Tl hFc,<-hFs,<-Array.length_toList,List.take_left,hflat]
def akp{f g e:Nat}{cf:α->α->Int}{p1:α->PV}(hS:Rt P f)(hp:∀x,zI (p1 x)=true)(hO:Go.Sort.SWO (ltOf cf))(hT:∀x y,(ltOf cf) x y=false->(ltOf cf) y x=false->x=y)
  (eg:∀args w,(callFunc g args).run P w= .ok (.enter g args) w) (hc:aeq P g (λx=>rl (p1 x)) cf):Xm P f g e 1 (λx=>[p1 x]) λx y=> !(ltOf cf) y x:=by
 intro w b cap xs cur hb hsx hn hcap hsz htake;have hlt:b<w.heap.size:=(Q9.1 hb).1
 have hflat:∀l:List α,(l.toArray.map λx=>rl (p1 x)).toList=l.flatMap (qN λx=>[p1 x]):=λl=>by
  induction l with
  |nil=>simp
  |cons x l ih=>rw[List.flatMap_cons,<-ih];simp[qN]
 have hcs:CmpLays1 P g #[] (λx=>rl (p1 x)) cf b 0 xs.toArray.size w:=λm os dk _ x y=>hc x y _
 have hF:=PJ (xs:=xs) (cap:=cap) (F:=xs.toArray.map λx=>rl (p1 x)) hb (by rw[hflat,Array.size_map,List.size_toArray,<-Nat.mul_one xs.length];exact htake.symm)
 have hH:Holds (λx=>rl (p1 x)) w b 0 xs.toArray:=by
  intro j hj;have h1:=hF j (by rw[Array.size_map];exact hj)
  rw[getElem!_pos _ j (by rw[Array.size_map];exact hj),Array.getElem_map]at h1
  rw[getElem!_pos _ j hj];exact h1
 have:=hS α (λx=>rl (p1 x)) (λx=>To (hp x)) cf hO g #[] b 0 cap xs.toArray w eg hcs hH hlt (by rw[List.size_toArray];exact hsx) hT
 refine this.mono λen w' ⟨h1,n,os,h2⟩=>⟨h1,?_⟩
 have hms:(xs.mergeSort λx y=> !(ltOf cf) y x).length=xs.length:=List.length_mergeSort xs
 have hput:∀(W:World) (d:Array α),putRow (λx=>rl (p1 x)) W b 0 d=putRow id W b 0 (d.map λx=>rl (p1 x)):=λW d=>by
  unfold putRow;congr 1
  funext c
  unfold putCells;apply Array.ext_getElem?;intro i;simp only[Array.getElem?_mapIdx,Array.size_map,QS,true_and,Nat.zero_add,Nat.sub_zero,id]
  cases c[i]? with
  |none=>rfl
  |some y=>
   simp only[Qe]
   by_cases hi:i<d.size
   ·rw[Qr hi,Qr hi,getElem!_pos d i hi,getElem!_pos _ i (by rw[Array.size_map];exact hi),Array.getElem_map]
   ·rw[Qs hi,Qs hi]
 unfold sortWorld at h2;rw[hput]at h2;have hFs:((xs.mergeSort λx y=> !(ltOf cf) y x).toArray.map λx=>rl (p1 x)).size=xs.length*1:=by rw[Array.size_map,List.size_toArray,hms,Nat.mul_one]
 have hFc:((xs.mergeSort λx y=> !(ltOf cf) y x).toArray.map λx=>rl (p1 x)).size<=cur.size:=by rw[hFs,hsz];exact Qq63 1 hn
 subst h2;refine⟨_,Vs hb,by unfold putCells;rw[Array.size_mapIdx],?_,abf⟩
 rw[Tl hFc,<-hFs,<-Array.length_toList,List.take_left,hflat]
end
def Y0{P:Program}{g:Nat}{α:Type}{va:α->PV}{val:α->Value}{cf:α->α->Int}(hval:∀(x:α) (w:World) (M:Nat->Prop),bp w M dX (va x) (val x))(h:∀x y,Con P g false [] [va x,va y] (.int .i64 (cf x y)) [])(hg:Z3=[]:=by rfl):aeq P g val cf:=by
 intro x y w;have hG:GI w:=λq hq=>by rw[hg]at hq;cases hq
 have:=h x y w (λ_=>False) (.nil hG) 0 0 [] [val x,val y] (λe=>by cases e) (.cons (hval x w _) (.cons (hval y w _) .nil))
 refine this.mono λen w' ⟨v,rvs,h1,h2,_,h4⟩=> ?_
 rw[h2.jB]at h1;exact⟨h1,agA h4⟩
end
section
open Go.Proofs Go.Sort
def KF{α:Type}(c:α->α->Option Int)(x y:α):Int:=(c x y).getD 0
structure ae8 {α:Type} (c:α->α->Option Int):Prop where
 some:∀x y,c x y=some (KF c x y)
 ord:Go.Sort.SWO (ltOf (KF c))
 tot:∀x y,ltOf (KF c) x y=false->ltOf (KF c) y x=false->x=y
open Classical in
 def CC{α:Type}(c:α->α->Option Int)(s:List α):Option (Unit×List α):=if ae8 c/\s.length<4611686018427387904 then some ((),s.mergeSort λx y=> !(ltOf (KF c)) y x)else none
section
variable {P : Program} {f g e k : Nat} {T : Ty} {F : T.den × T.den × Unit -> Option Int} (hent : Enters P f) (h0 : KN P f) (hgs : dQ.Sound P (U := U) (.fn g [.ty T, .ty T] (.one (Ty.i .i64)) F)) (hi : Inhabited T.den) (hp : ∀ x : T.den, (T.pv x).all zI = true)
 include hent h0 hgs hi hp
theorem ai5(hS:Xn P f k)(hk0:0<k)(hk:∀x:T.den,(T.pv x).length=k)(hv:∀x:T.den,fC (U:=U) T x= .agg (T.pv x)):
  dQ.Sound P (U:=U) (.rw f e k T [.bI g []] (.many []) λs a=>CC (λx y=>F (x,y,())) s):=by
 refine⟨hent,λxs a r ys h=> ?_⟩
 have h:CC (λx y=>F (x,y,())) xs=some (r,ys):=h
 unfold CC at h;split at h
 ·rename_i hc;injection h with h
  injection h with _ h2
  subst h2;refine Ye h0 (ako hS hk0 hk hp hc.1.ord hc.1.tot (λargs w=>nD hgs.1 args) ?_) hk0 hk hp xs hc.2
  refine Y0 (va:=λx=> .agg (T.pv x)) (λx w M=> .agg _ _ (by rw[qN,QC]) λi y v h1 h2=> ?_) λx y=> ?_
  ·rw[qN,QT,h1]at h2;injection h2 with h2
   rw[<-h2];exact JJ (QH.1 (hp x) y (Q8 h1))
  ·have:=hgs.2 (x,y,()) _ (hc.1.some x y);rw[show gW (U:=U) [.ty T,.ty T] (x,y,())=[.agg (T.pv x),.agg (T.pv y)]by rw[<-hv x,<-hv y];rfl]at this
   exact this
 ·cases h
theorem Zi(hS:Rt P f)(hv:∀x:T.den,T.pv x=[fC (U:=U) T x]):
  dQ.Sound P (U:=U) (.rw f e 1 T [.bI g []] (.many []) λs a=>CC (λx y=>F (x,y,())) s):=by
 refine⟨hent,λxs a r ys h=> ?_⟩
 have h:CC (λx y=>F (x,y,())) xs=some (r,ys):=h
 unfold CC at h;split at h
 ·rename_i hc;injection h with h
  injection h with _ h2
  subst h2;have hp1:∀x:T.den,zI (fC (U:=U) T x)=true:=λx=>by have:=hp x;rw[hv x]at this;simpa using this
  have hpv:(λx:T.den=>T.pv x)=λx=>[fC (U:=U) T x]:=funext hv
  have:=Ye (pv:=λx:T.den=>[fC (U:=U) T x]) (e:=e) h0 (akp hS hp1 hc.1.ord hc.1.tot (λargs w=>nD hgs.1 args) (Y0 (va:=λx=>fC (U:=U) T x) (λx w M=>JJ (hp1 x)) λx y=>hgs.2 (x,y,()) _ (hc.1.some x y))) (by omega) (λx=>rfl) (λx=>by simpa using hp1 x) xs hc.2
  rw[<-hpv]at this;exact this
 ·cases h
end
end
end Go.TQ
end
noncomputable section
namespace Go.Proofs
open Go.Shelf
def exF{P:Program}{f:FuncId}{fn:Func}(h:(((P.funcs[f]?).map Func.name).getD ""== "runtime.NumGoroutine")=false)(h2:P.funcs[f]?=some {fn with name:=((P.funcs[f]?).map Func.name).getD ""}):Bears P f fn:=⟨_,h,h2⟩
def G9:Go.Shelf.Ren:=⟨λ|6=>342|15=>381|14=>380|28=>417|29=>418|20=>409|21=>410|22=>411|23=>412|24=>413|25=>414|26=>415|27=>416|46=>441|47=>442|48=>443|49=>444|50=>445|57=>456|n=>n,λ|22=>32|24=>9|25=>204|3=>3|39=>184|0=>0|53=>298|55=>318|4=>4|46=>325|45=>324|50=>102|5=>5|9=>9|66=>343|70=>347|76=>354|77=>225|n=>n,λ|n=>n⟩
set_option maxRecDepth 100000 in
def Rs:Go.Proofs.SlLaysF.n6 Tryz.prog G9:=by
 constructor
 all_goals first
  |kernel_rfl
  |exact λ_=>by kernel_rfl
  |exact exF (by kernel_rfl) (by kernel_rfl)
def SQ:Go.Shelf.Ren:=⟨λ|6=>446|15=>381|14=>457|28=>417|29=>418|20=>459|21=>460|22=>461|23=>462|24=>463|25=>464|26=>465|27=>466|46=>475|47=>442|48=>443|49=>476|50=>477|57=>481|n=>n,λ|22=>206|24=>36|25=>264|3=>3|39=>184|0=>0|53=>298|55=>318|4=>4|46=>325|45=>324|50=>102|5=>5|9=>9|66=>343|70=>347|76=>354|77=>225|n=>n,λ|n=>n⟩
set_option maxRecDepth 100000 in
def Rr:Go.Proofs.SlLaysF0.n6 Tryz.prog SQ:=by
 constructor
 all_goals first
  |kernel_rfl
  |exact λ_=>by kernel_rfl
  |exact exF (by kernel_rfl) (by kernel_rfl)
def G8:Go.Shelf.Ren:=⟨λ|6=>450|15=>381|14=>458|28=>417|29=>418|20=>467|21=>468|22=>469|23=>470|24=>471|25=>472|26=>473|27=>474|46=>478|47=>442|48=>443|49=>479|50=>480|57=>482|n=>n,λ|22=>22|24=>3|25=>42|3=>3|39=>184|0=>0|53=>298|55=>318|4=>4|46=>325|45=>324|50=>102|5=>5|9=>9|66=>343|70=>347|76=>354|77=>225|n=>n,λ|n=>n⟩
set_option maxRecDepth 100000 in
def Rq:Go.Proofs.SlLaysF.n6 Tryz.prog G8:=by
 constructor
 all_goals first
  |kernel_rfl
  |exact λ_=>by kernel_rfl
  |exact exF (by kernel_rfl) (by kernel_rfl)
end Go.Proofs
namespace Go.Proofs.YtofedieniojipaaGreat
open Go.TQ Go.Proofs
namespace DT
def enters:Go.TQ.Enters Tryz.prog 342:=⟨_,Tryz.func342,by kernel_rfl,by kernel_rfl⟩
def none:KN Tryz.prog 342:=λp cap fv w=>AnyF.slices_SortFunc_none (P:=Tryz.prog) (ρ:=G9) {Rs with} p cap fv w
def K7:Rt Tryz.prog 342:=λα _ gp h1 cf hO g cb cd off cap d w eg hc hH hb hsz hT=>Any.slices_SortFunc_total Rs gp h1 cf hO g cb cd off cap d w eg hc hH hb hsz hT
end DT
namespace Oe
def enters:Go.TQ.Enters Tryz.prog 446:=⟨_,Tryz.func446,by kernel_rfl,by kernel_rfl⟩
def none:KN Tryz.prog 446:=λp cap fv w=>AnyF.slices_SortFunc_none Rr p cap fv w
def K7:Xn Tryz.prog 446 2:=λα _ gp hk h1 cf hO g cb cd off cap d w eg hc hH hb hsz hT=>AnyQ.slices_SortFunc_total Rr 2 Tryz.isAgg36 Tryz.sizeOf36 gp hk h1 cf hO g cb cd off cap d w eg hc hH hb hsz hT
end Oe
namespace Od
def enters:Go.TQ.Enters Tryz.prog 450:=⟨_,Tryz.func450,by kernel_rfl,by kernel_rfl⟩
def none:KN Tryz.prog 450:=λp cap fv w=>AnyF.slices_SortFunc_none (P:=Tryz.prog) (ρ:=G8) {Rq with} p cap fv w
def K7:Rt Tryz.prog 450:=λα _ gp h1 cf hO g cb cd off cap d w eg hc hH hb hsz hT=>Any.slices_SortFunc_total Rq gp h1 cf hO g cb cd off cap d w eg hc hH hb hsz hT
end Od
end Go.Proofs.YtofedieniojipaaGreat
end
