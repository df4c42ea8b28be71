/-
  Texts made small by a program (see NOTES). Conditions: those that each theorem names.
-/
import Derived.Test.YtofedieniojipaaGreatParticipantSlotsMb
import Derived.KernelRfl
import Derived.Laws.CopyRow
import Derived.Laws.Externs
import Derived.Lib.Overlaps
import Derived.Lib.AppendZerosOnto
import Derived.Laws.NewBlocks
import Derived.Test.YtofedieniojipaaGreatProg
import Derived.Shelf.Spec.SlicesInsert
import Derived.Shelf.SlSortCmp.NoneTotal
set_option linter.unusedVariables false
set_option linter.defProp false
set_option linter.unusedSimpArgs false
set_option linter.unusedSectionVars false
set_option maxHeartbeats 2000000
noncomputable section
namespace Go.TQ
section
open Go.RowKit
def sz{σ ρ:Type}(step:σ->Option (σ⊕ρ)):Nat->σ->Option ρ
 |0,_=>none
 |n+1,s=>match step s with
  |none=>none
  |some (.inr r)=>some r
  |some (.inl s')=>sz step n s'
def HO{σ ρ:Type}{step:σ->Option (σ⊕ρ)}{r:ρ}:∀{n m:Nat} {s:σ},n<=m->sz step n s=some r->sz step m s=some r
 |0,_,_,_,h=>by cases h
 |n+1,0,_,hnm,_=>by omega
 |n+1,m+1,s,hnm,h=>by
  simp only[sz]at h ⊢;split at h
  ·cases h
  ·exact h
  ·exact HO (by omega) h
def abu{σ ρ:Type}{step:σ->Option (σ⊕ρ)}{r r':ρ}{n m:Nat}{s:σ}(h:sz step n s=some r)(h':sz step m s=some r'):r=r':=by
 have h1:=HO (Nat.le_max_left n m) h;have h2:=HO (Nat.le_max_right n m) h';rw[h1]at h2;injection h2
open Classical in
 def aD{σ ρ:Type}(step:σ->Option (σ⊕ρ))(s:σ):Option ρ:=
 if h:∃r,∃n,sz step n s=some r then some (Classical.choose h)else none
def Db{σ ρ:Type}{step:σ->Option (σ⊕ρ)}{s:σ}{r:ρ}(h:aD step s=some r):∃n,sz step n s=some r:=by
 unfold aD at h;split at h
 ·rename_i hx;injection h with h
  obtain⟨n,hn⟩:=Classical.choose_spec hx;exact⟨n,by rw[hn,h]⟩
 ·cases h
def M8{σ ρ:Type}{step:σ->Option (σ⊕ρ)}{s:σ}{r:ρ}{n:Nat}(h:sz step n s=some r):aD step s=some r:=by
 unfold aD;have hx:∃r,∃n,sz step n s=some r:=⟨r,n,h⟩;rw[dif_pos hx];obtain⟨m,hm⟩:=Classical.choose_spec hx;rw[abu hm h]
def ff{σ ρ:Type}(step:σ->Option (σ⊕ρ))(s:σ):aD step s=match step s with|none=>none|some (.inr r)=>some r|some (.inl s')=>aD step s':=by
 cases hs:step s with
 |none=>
  cases h:aD step s with
  |none=>rfl
  |some r=>
   obtain⟨n,hn⟩:=Db h
   cases n with
   |zero=>cases hn
   |succ n=>simp[sz,hs]at hn
 |some x=>
  cases x with
  |inr r=>exact M8 (n:=1) (by simp[sz,hs])
  |inl s'=>
   simp only
   cases h':aD step s' with
   |some r=>
    obtain⟨n,hn⟩:=Db h';exact M8 (n:=n+1) (by simp only[sz,hs];exact hn)
   |none=>
    cases h:aD step s with
    |none=>rfl
    |some r=>
     obtain⟨n,hn⟩:=Db h
     cases n with
     |zero=>cases hn
     |succ n=>simp only[sz,hs]at hn;rw[M8 hn]at h';cases h'
open Classical in
 def both{ρ:Type}(x y:Option ρ):Option ρ:=if x=y then x else none
def ab2{ρ:Type}{x y:Option ρ}{r:ρ}(h:both x y=some r):x=some r/\y=some r:=by
 unfold both at h;split at h
 ·rename_i e;exact⟨h,e▸h⟩
 ·cases h
@[simp] def ajU {ρ:Type} (x:Option ρ):both x x=x:=Qr rfl
def aY{σ ρ:Type}(j:σ->Option ρ)(f:(σ->Option ρ)->Option ρ):Option ρ:=f j
def nY{α σ ρ:Type}(step:Nat->α->σ->Option (σ⊕ρ))(fin:σ->Option ρ):List α->σ->Option ρ
 |[],s=>fin s
 |a::l,s=>match step l.length a s with
  |none=>none
  |some (.inr r)=>some r
  |some (.inl s')=>nY step fin l s'
section
variable {U : TU}
inductive SA (U:TU) where
 |skip
 |tF (rs:RS U)
 |rD (un:List (Nat×Nat)) (rs:RS U)
 |seq (x y:SA U)
 |join (J:JS U) (x y:SA U)
 |cond (c:bz) (x y:SA U)
 |block (id:Nat) (x:SA U)
 |loop (J:JS U) (x:SA U)
 |Mb (n:Nat) (x:SA U)
 |back (J:JS U) (f k:Nat) (nE:Option Nat) (T:U.Ty) (tg p0 p1:Nat) (x y:SA U)
 |exit (id:Nat)
 |ret
 |ps (p:Ps U) (x:SA U)
 |BW (p:Ps U) (x:SA U)
 |inl (r1:RS U) (d:Option Nat) (f:FuncId) (c:Option bz) (xs:List bz) (nt:Nat) (rvs:List RV) (x:SA U) (r2:RS U)
def ZH(f:FuncId)(c:Option bz)(xs:List bz):cu:=
 match c with
 |none=> .call f xs
 |some fv=> .ud fv xs
def SA.erase:SA U->SC
 | .skip=> .skip
 | .tF rs=> .tF rs.flat
 | .rD un rs=> .rD un rs.flat
 | .seq x y=> .seq x.erase y.erase
 | .join _ x y=> .seq x.erase y.erase
 | .cond c x y=> .cond c x.erase y.erase
 | .block id x=> .block id x.erase
 | .loop _ x=> .loop x.erase
 | .Mb _ x=> .loop x.erase
 | .back _ _ _ _ _ tg p0 p1 x y=> .Gf (.tmp tg) [p0,p1] x.erase y.erase
 | .exit id=> .exit id
 | .ret=> .ret
 | .ps _ x| .BW _ x=>x.erase
 | .inl r1 d f c xs _ _ _ r2=> .tF (r1.flat++⟨d,none,ZH f c xs⟩::r2.flat)
def SA.dz:SA U->Bool
 | .tF rs| .rD _ rs=>rs.dz
 | .seq x y| .join _ x y=>x.dz&&y.dz
 | .cond c x y=>c.dz&&x.dz&&y.dz
 | .block _ x| .loop _ x| .Mb _ x=>x.dz
 | .back _ _ _ _ _ _ _ _ x y=>x.dz&&y.dz
 | .ps _ x| .BW _ x=>x.dz
 | .inl ..=>false
 |_=>true
def SA.vL(P:Program):SA U->Prop
 | .tF rs| .rD _ rs=>rs.dz=true
 | .seq x y| .join _ x y=>x.vL P/\y.vL P
 | .cond c x y=>(c.dz=true/\x.vL P)/\y.vL P
 | .block _ x| .loop _ x| .Mb _ x=>x.vL P
 | .back _ _ _ _ _ _ _ _ x y=>x.vL P/\y.vL P
 | .ps _ x| .BW _ x=>x.vL P
 | .inl r1 _ f c xs nt rvs x r2=>(r1.dz=true/\r2.dz=true/\xs.all bz.dz=true/\c.all bz.dz=true)/\x.erase.Ml=true/\iL P f nt x.erase rvs/\x.vL P
 |_=>True
def oI{P:Program}:∀{sa:SA U},sa.dz=true->sa.vL P
 | .tF _,h| .rD _ _,h=>h
 | .seq x y,h| .join _ x y,h=>by simp only[SA.dz,Qm]at h;exact⟨oI h.1,oI h.2⟩
 | .cond c x y,h=>by simp only[SA.dz,Qm]at h;exact⟨⟨h.1.1,oI h.1.2⟩,oI h.2⟩
 | .block _ x,h| .loop _ x,h| .Mb _ x,h| .ps _ x,h| .BW _ x,h=>oI (sa:=x) h
 | .back _ _ _ _ _ _ _ _ x y,h=>by simp only[SA.dz,Qm]at h;exact⟨oI h.1,oI h.2⟩
 | .inl ..,h=>by cases h
 | .skip,_| .exit _,_| .ret,_=>trivial
def SA.A8:SA U->Bool
 | .tF rs| .rD _ rs=>rs.dz
 | .seq x y| .join _ x y=>x.A8&&y.A8
 | .cond c x y=>c.dz&&x.A8&&y.A8
 | .block _ x| .loop _ x| .Mb _ x=>x.A8
 | .back _ _ _ _ _ _ _ _ x y=>x.dz&&y.dz
 | .ps _ x| .BW _ x=>x.A8
 | .inl r1 _ _ c xs _ _ x r2=>r1.dz&&r2.dz&&xs.all bz.dz&&c.all bz.dz&&x.erase.Ml&&x.A8
 |_=>true
def SA.R9:SA U->List (FuncId×Nat×SC×List RV)
 | .seq x y| .join _ x y| .cond _ x y=>x.R9++y.R9
 | .block _ x| .loop _ x| .Mb _ x| .ps _ x| .BW _ x=>x.R9
 | .inl _ _ f _ _ nt rvs x _=>(f,nt,x.erase,rvs)::x.R9
 |_=>[]
def w4(P:Program):List (FuncId×Nat×SC×List RV)->Prop
 |[]=>True
 |q::l=>iL P q.1 q.2.1 q.2.2.1 q.2.2.2/\w4 P l
def w4.cy{P:Program}:∀{a b:List (FuncId×Nat×SC×List RV)},w4 P (a++b)->w4 P a/\w4 P b
 |[],_,h=>⟨trivial,h⟩
 |_::a,_,h=>⟨⟨h.1,(w4.cy (a:=a) h.2).1⟩,(w4.cy (a:=a) h.2).2⟩
def A7{P:Program}:∀{sa:SA U},sa.A8=true->w4 P sa.R9->sa.vL P
 | .tF _,h,_| .rD _ _,h,_=>h
 | .seq x y,h,k| .join _ x y,h,k=>by simp only[SA.A8,Qm]at h;exact⟨A7 h.1 (w4.cy k).1,A7 h.2 (w4.cy k).2⟩
 | .cond c x y,h,k=>by simp only[SA.A8,Qm]at h;exact⟨⟨h.1.1,A7 h.1.2 (w4.cy k).1⟩,A7 h.2 (w4.cy k).2⟩
 | .block _ x,h,k| .loop _ x,h,k| .Mb _ x,h,k| .ps _ x,h,k| .BW _ x,h,k=>A7 (sa:=x) h k
 | .back _ _ _ _ _ _ _ _ x y,h,_=>by simp only[SA.A8,Qm]at h;exact⟨oI h.1,oI h.2⟩
 | .inl r1 d f c xs nt rvs x r2,h,k=>by simp only[SA.A8,Qm]at h;exact⟨⟨h.1.1.1.1.1,h.1.1.1.1.2,h.1.1.1.2,h.1.1.2⟩,h.1.2,k.1,A7 h.2 k.2⟩
 | .skip,_,_| .exit _,_,_| .ret,_,_=>trivial
variable (K : TK U)
def EY(Γ:List (dP U)){ρ:Type}(W:WS)(base:Nat):RS U->(i:Nat)->(S:aU U)->(k:aU U->List xp->Option ρ)->Option ρ
 | .nil,_,S,k=>k S []
 | .op o r,i,S,k=>ZY K Γ W (base+i) S o λx wr=>EY Γ W base r (i+1) (S.cy o.d x wr) λS' fs=>k S' (⟨o.d,o.cP,GD (base+i) S.st o,wr.map (·.1)⟩::fs)
 | .CI t r,i,S,k=>(match S.env t with
  | .bool b=>bif b then EY Γ W base r i (S.cy (some t) (.bool true) none) k else EY Γ W base r i (S.cy (some t) (.bool false) none) k
  | .undef=>EY Γ W base r i S k
  |_=>none)
 |_,_,_,_=>none
def FB(F:List Nat)(ds:List Nat):Bool:=ds.all λt=> !iI t F
def aU.more(S:aU U)(n:Nat):aU U:={env:=S.env,H:=S.H,N:=S.N+n}
def aU.gD(S:aU U)(D:List Nat):aU U:={env:=λt=>(match iI t D with|true=> .any|false=>S.env t),H:=S.H,N:=S.N}
def ZB(U:TU)(T:U.Ty):Option Nat->Bool
 |none=> !U.agg T
 |some n=>U.agg T&&Nat.beq n (U.size T)
def La(S:aU U)(f:FuncId)(c:Option bz)(xs:List bz):Option (List (KV U)):=
 match c with
 |none=>some (xs.map (·.c9 S))
 |some fv=>(match fv.c9 S with
  | .bI g caps=>(match Nat.beq g f with|true=>some (xs.map (·.c9 S)++caps)|false=>none)
  |_=>none)
def aei(S:aU U):KV U->KV U->Bool
 | .ptr i v o,.ptr i' v' o'=>Nat.beq i i'&&Nat.beq v v'&&Nat.beq o o'&&Nat.beq (S.H i).av v
 |_,_=>false
def Uv(S:aU U)(A_s:List (KV U))(t:Nat):Bool:=(S.env t).pU (λ_=>false)||A_s.any (aei S (S.env t))
def ahg(id:Nat):KV U->Bool
 | .ptr i _ _=>Nat.beq i id
 | .bI _ cs| .js _ cs=>cs.any (λx=>match x with| .ptr i _ _=>Nat.beq i id|_=>false)
 |_=>false
def xm(S:aU U)(A_s:List (KV U))(id:Nat):Bool:=
 Nat.blt id S.N&& !Nat.beq id 0&&(match(S.H id).c with| .box cs=>cs.all KV.closed|_=>false)&& !A_s.any (ahg id)
def HP(S:aU U)(A_s:List (KV U)):aU U:={env:=S.env,H:=λid=>(match xm S A_s id with|true=>⟨(S.H id).av,.dead⟩|false=>S.H id),N:=S.N}
def afU:dS U->Bool
 | .dead=>true
 |_=>false
def aeK(S S':aU U)(A_s:List (KV U)):Bool:=GR S.N (λid=> !xm S A_s id||afU (S'.H id).c)
def VZ(S:aU U)(A_s:List (KV U)):aU U:={env:=λt=>(A_s[t]?).getD .undef,H:=S.H,N:=S.N}
def P5(S S':aU U)(A_s:List (KV U))(t:Nat):KV U:=
 match Uv S A_s t with
 |true=>S.env t
 |false=>(match S.env t with
  | .ptr id v o=>(match xm S A_s id&&Nat.beq (S.H id).av v with|true=> .ptr id (Nat.succ (S'.H id).av) o|false=> .any)
  |_=> .any)
def Ad(S S':aU U)(A_s:List (KV U))(d:Option Nat)(r:KV U):aU U:=
 ({env:=P5 S S' A_s,H:=λid=>(match xm S A_s id with|true=>⟨Nat.succ (S'.H id).av,(S.H id).c⟩|false=>S'.H id),N:=S'.N}:aU U).cy d r none
def Ho(S S':aU U)(r:KV U)(id:Nat):Bool:=Nat.ble S.N id&&(match(S'.H id).c with| .box _=>true|_=>false)&& !ahg id r
def aU.E5(S:aU U)(q:Nat->Bool):aU U:={env:=S.env,H:=λid=>(match q id with|true=>⟨(S.H id).av,.dead⟩|false=>S.H id),N:=S.N}
def VX(S:aU U)(F:List Nat)(W:WS)(A_s:List (KV U))(nt:Nat)(ts:List Nat):Bool:=
 (match W with|some (n,_)=>Nat.ble n S.N|none=>false)&&Nat.ble A_s.length nt&&ts.all (λt=>Nat.ble A_s.length t)&&F.all (Uv S A_s)&&GR S.N (λid=> !xm S A_s id||okW W id)
def UI{ρ:Type}(f:(aU U->Option ρ)->aU U->Option ρ):Nat->aU U->Option ρ
 |0,_=>none
 |n+1,S=>f (UI f n) S
 def oN(Γ:List (dP U)):SA U->{ρ:Type}->(F:List Nat)->(W:WS)->(k:Exit->aU U->Option ρ)->(S:aU U)->Option ρ
 | .skip,_,_,_,k,S=>k .normal S
 | .tF rs,_,F,W,k,S=>(match FB F rs.iw with
  |true=>jd K Γ rs W S.N (S.more rs.len) λS'=>k .normal S'
  |false=>none)
 | .rD un rs,_,F,W,k,S=>(match FB F rs.iw with
  |true=>EY K Γ W S.N rs 0 (S.more rs.len) λS' fs=>(match un.all (λp=>match fs[p.1]?,fs[p.2]? with|some a,some b=>Eg a b|_,_=>false)with
   |true=>k .normal S'
   |false=>none)
  |false=>none)
 | .seq x y,_,F,W,k,S=>oN Γ x F W (λe S'=>match e with
  | .normal=>oN Γ y F W k S'
  |e=>k e S') S
 | .join J x y,_,F,W,k,S=>(match wh S J F W with
  |true=>aY (λv=>oN Γ y F W k (unpack K S J v)) λj=>oN Γ x J.eL (some (S.N,fJ J.items)) (λe S'=>match e with
   | .normal=>(match pack K S' J.items with|some v=>j v|none=>none)
   |e=>k e S') S
  |false=>none)
 | .cond c x y,_,F,W,k,S=>(match c.c9 S with
  | .bool b=>bif b then oN Γ x F W k S else oN Γ y F W k S
  | .gM=>both (oN Γ x F W k S) (oN Γ y F W k S)
  |_=>none)
 | .block id x,_,F,W,k,S=>oN Γ x F W (λe S'=>match e with
  | .exit i=>(match Nat.beq i id with|true=>k .normal S'|false=>k (.exit i) S')
  |e=>k e S') S
 | .loop J x,_,F,W,k,S=>(match wh S J F W with
  |true=>(match pack K S J.items with
   |some v0=>aD (λv=>oN Γ x J.eL (some (S.N,fJ J.items)) (λe S'=>match e with
    | .normal=>(match pack K S' J.items with|some v=>some (Sum.inl v)|none=>none)
    |e=>(k e S').map Sum.inr) (unpack K S J v)) v0
   |none=>none)
  |false=>none)
 | .Mb n x,_,F,W,k,S=>UI (λih S=>oN Γ x F W (λe S'=>match e with| .normal=>ih S'|e=>k e S') S) n S
 | .back J f kk nE T tg p0 p1 x y,_,F,W,k,S=>
  let D:=SC.sN (.Gf (.tmp tg) [p0,p1] x.erase y.erase)
  (match PA f kk nE Γ&&Nat.beq (U.size T) kk&&ZB U T nE&&iI tg J.eL&&FB J.eL D&&FB F D&&wh (S.gD D) J F W with
  |true=>(match S.env tg with
   | .bI f' [.ref [.sl T' xs']]=>(match Nat.beq f' f with
    |true=>(match yg T' T xs' with
     |some xs=>(match pack K (S.gD D) J.items with
      |some v0=>nY (λm a v=>oN Γ x J.eL (some (S.N,fJ J.items)) (λe S1=>match e with
       | .normal=>oN Γ y J.eL (some (S.N,fJ J.items)) (λe S'=>match e with
        | .normal=>(match pack K (S'.gD D) J.items with|some v=>some (Sum.inl v)|none=>none)
        | .ret=>(k .ret (S'.gD D)).map Sum.inr
        | .exit i=>(k (.exit i) (S'.gD D)).map Sum.inr
        |_=>none) S1
       |_=>none) {(unpack K (S.gD D) J v)with env:=hY (hY (unpack K (S.gD D) J v).env p0 (.int .i64 m)) p1 (AR K T a)}) (λv=>k .normal (unpack K (S.gD D) J v)) xs.reverse v0
      |none=>none)
     |none=>none)
    |false=>none)
   |_=>none)
  |false=>none)
 | .inl r1 d f c xs nt rvs x r2,_,F,W,k,S=>(match FB F (r1.iw++d.toList++r2.iw)with
  |true=>jd K Γ r1 W S.N (S.more r1.len) λS1=>(match La S1 f c xs with
   |some A_s=>(match VX S1 F W A_s nt x.erase.sN with
    |true=>oN Γ x (List.range A_s.length) W (λe S2=>match e with
     | .ret| .normal=>(match zq S2 rvs with
      |some v=>(match aeK S1 S2 A_s with|true=>jd K Γ r2 W S2.N (((Ad S1 S2 A_s d v).E5 (Ho S1 S2 v)).more r2.len) λS3=>k .normal S3|false=>none)
      |none=>none)
     |_=>none) (VZ (HP S1 A_s) A_s)
    |false=>none)
   |none=>none)
  |false=>none)
 | .exit id,_,_,_,k,S=>k (.exit id) S
 | .ret,_,_,_,k,S=>k .ret S
 | .ps p x,_,F,W,k,S=>(match(p.Ht S).all (okW W)&&FB F p.tmps with
  |true=>(match p.run S with|some S'=>oN Γ x F W k S'|none=>none)
  |false=>none)
 | .BW p x,_,F,W,k,S=>oN Γ x F W (λe S'=>match e with
  | .normal=>(match(p.Ht S').all (okW W)&&FB F p.tmps with
   |true=>(match p.run S' with|some S1=>k .normal S1|none=>none)
   |false=>none)
  |e=>k e S') S
structure iK (F:List Nat) (W:WS) (S S':aU U):Prop where
 env:∀t∈F,S'.env t=S.env t
 H:∀id,okW W id=false->S'.H id=S.H id
 N:S.N<=S'.N
def iK.refl(F:List Nat)(W:WS)(S:aU U):iK F W S S:=⟨λ_ _=>rfl,λ_ _=>rfl,QI _⟩
def iK.trans{F:List Nat}{W:WS}{S S' S'':aU U}(h:iK F W S S')(h':iK F W S' S''):iK F W S S'':=
 ⟨λt ht=>(h'.env t ht).trans (h.env t ht),λid hid=>(h'.H id hid).trans (h.H id hid),QK h.N h'.N⟩
def CV.toC{D F:List Nat}{W:WS}{S S':aU U}(h:CV D W S S')(ho:FB F D=true):iK F W S S':=
 ⟨λt ht=>h.env t (λhd=>by have h1:=QH.1 ho t hd;rw[ec.2 ht]at h1;cases h1),h.H,h.N⟩
def iK.more{F:List Nat}{W:WS}{S S':aU U}{n:Nat}(h:iK F W (S.more n) S'):iK F W S S':=
 ⟨h.env,h.H,QK (Nat.le_add_right _ _) h.N⟩
variable {K}
variable {P : Program} {nt : Nat}
def Ss{sc:SC}{Q:Exit->St->Prop}{S S':St}(hw:∀(E:En) (a:Act) (w:World) (L:Nat->Value),Rel E S a w L->∃L',Rel E S' a w L')(h:VS P nt sc Q S'):VS P nt sc Q S:=
 λc hs hc E hE hk a w L hr=>by
  obtain⟨L',h'⟩:=hw E a w L hr;exact h c hs hc E hE hk a w L' h'
def agM{sc:SC}{Q Q':Exit->St->Prop}{S:St}(h:VS P nt sc Q' S)(hq:∀e A,Q' e A->∃A',Q e A'/\∀(E:En) (a:Act) (w:World) (L:Nat->Value),Rel E A a w L->∃L',Rel E A' a w L'):VS P nt sc Q S:=
 λc hs hc E hE hk a w L hr=>wpIn_mono (h c hs hc E hE hk a w L hr) λ_ _ _ ⟨S',L',h1,h2⟩=>by
  obtain⟨A',h3,h4⟩:=hq _ _ h2;obtain⟨L'',h5⟩:=h4 _ _ _ _ h1;exact⟨A',L'',h5,h3⟩
def agL{Γ:List (dP U)}(hΓ:u7 P Γ){rs:RS U}{W:WS}{ρ:Type}{k:aU U->Option ρ}{r:ρ}{S:aU U}(hok:rs.dz=true)(hr:jd K Γ rs W S.N (S.more rs.len) k=some r){Q:Exit->St->Prop}
  (h:∀S',CV rs.iw W (S.more rs.len) S'->k S'=some r->Q .normal S'.st):VS P nt (.tF rs.flat) Q S.st:=by
 intro c hs hc
 cases c with
 |region id ops d=>
  cases d with
  |true=>simp only[aW]at hc;(try split at hc)<;>(try split at hc)<;>(try split at hc)<;>cases hc
  |false=>
   simp only[aW]at hc;split at hc
   ·rename_i gs' hgs;split at hc
    ·rename_i hd;injection hc with hc
     injection hc with hc
     subst hc;intro E hE hk a w L hrel;refine wpIn_region_list ?_;have h0:Rel E (S.more rs.len).st a w L:=hrel.room rs.len;have:=mX (K:=K) (E:=E) hΓ (ops:=ops) (Q:=λe a' w'=>∃S' L',Rel E S' a' w' L'/\Q e S') rs W S.N (S.more rs.len) k r ops.toList [] a w L hok hgs h0 (QI _) (WC hE hk (PJ hd)) hr (λS' a' w' L' hf h' hk'=>⟨S'.st,L',h',h S' hf hk'⟩)
     simpa using this
    ·cases hc
   ·cases hc
 |seq x y|cond c x y=>simp only[aW]at hc;split at hc<;>cases hc
 |block id c|loop c=>simp only[aW,Qb]at hc;obtain⟨_,_,hc⟩:=hc;cases hc
 |rangeFunc g ps x y=>simp only[aW]at hc;(try split at hc)<;>(try split at hc)<;>cases hc
 |_=>simp only[aW]at hc<;>cases hc
def Oc{Γs Γs':Nat->qc}{base:Nat}:∀(l:List (Nat×SG)) (S:St),(∀p∈l,Γs p.1=Γs' p.1)->pS Γs base l S=pS Γs' base l S
 |[],_,_=>rfl
 |(i,g)::l,S,h=>by
  simp only[pS,h (i,g) (by simp)]
  split
  ·rfl
  ·rename_i p hp;rw[Oc l _ λq hq=>h q (Qy _ hq)]
def xF{Γ:List (dP U)}(hΓ:u7 P Γ){W:WS}{base:Nat}{ρ:Type}{r:ρ}:∀(rs:RS U) (i:Nat) (S:aU U) (k:aU U->List xp->Option ρ),rs.dz=true->EY K Γ W base rs i S k=some r->
  ∃(Γs:Nat->qc) (S':aU U) (fs:List xp),(∀j,ph P (Γs j))/\pS Γs base ((rs.flat.zipIdx i).map λp=>(p.2,p.1)) S.st=some (S'.st,fs)/\CV rs.iw W S S'/\k S' fs=some r
 | .nil,i,S,k,_,h=>⟨λ_ _=>none,S,[],λ_=>Zz,rfl,CV.refl _ _ _,h⟩
 | .op o rs,i,S,k,hok,h=>by
  simp only[RS.dz,Qm]at hok;simp only[EY]at h;obtain⟨Γ',x,wr,h1,h2,h3,h4⟩:=PI hΓ hok.1 h;obtain⟨Γs,S',fs,h5,h6,h7,h8⟩:=xF hΓ rs (i+1) _ _ hok.2 h4;refine⟨λj=>if j=i then Γ' else Γs j,S',_,λj=> ?_,?_,?_,h8⟩
  ·simp only;split
   ·exact h1
   ·exact h5 j
  ·simp only[RS.flat,List.zipIdx_cons,QD,pS,Qt,h2]
   have:pS (λj=>if j=i then Γ' else Γs j) base ((rs.flat.zipIdx (i+1)).map λp=>(p.2,p.1)) (S.st.cy o.d x.pv (wr.map kJ))=some (S'.st,fs):=by
    rw[<-Gb,<-h6];refine Oc _ _ λp hp=> ?_
    obtain⟨q,hq,rfl⟩:=QP.1 hp;have:=List.mem_zipIdx hq;simp only;rw[Qs (by omega)]
   rw[this];simp only[FR]
   cases wr with
   |none|some p=>rfl
  ·refine(YL S W o.d x wr h3).trans h7 λt ht=> ?_
   simp only[RS.iw]at ht
   cases hdd:o.d with
   |none=>rw[hdd]at ht;exact⟨by simp,ht⟩
   |some d=>rw[hdd]at ht;simp only[QA,not_or]at ht;exact⟨by simpa using λe=>ht.1 e,ht.2⟩
 | .CI t rs,i,S,k,hok,h=>by
  simp only[EY]at h;split at h
  ·rename_i b hb
   cases b with
   |true=>rw[Qk,Et hb]at h;exact xF hΓ rs i S k hok h
   |false=>rw[Ql,Et hb]at h;exact xF hΓ rs i S k hok h
  ·exact xF hΓ rs i S k hok h
  ·cases h
 | .ps _ _,_,_,_,_,h| .ite _ _ _ _ _ _ _ _,_,_,_,_,h=>by cases h
def agI{c:Code}{Q:Exit->St->Prop}{S:St}(I:Nat->St->Prop)(m0:Nat){S0:St}(hw0:∀(E:En) (a:Act) (w:World) (L:Nat->Value),Rel E S a w L->∃L',Rel E S0 a w L')(h0:I m0 S0)
  (hr:∀m S,I m S->V P nt c (λe S'=>match e with| .normal=>∃m',m'<m/\∃S'',(∀(E:En) (a:Act) (w:World) (L:Nat->Value),Rel E S' a w L->∃L',Rel E S'' a w L')/\I m' S''|e=>Q e S') S):V P nt (.loop c) Q S:=λE hE hk a w L hrel=>by
 refine wpIn_loop_ghost (λm a w=>∃S L,I m S/\Rel E S a w L) m0 ?_ ?_
 ·obtain⟨L',h'⟩:=hw0 E a w L hrel;exact⟨S0,L',h0,h'⟩
 rintro m a w ⟨S1,L1,hI,h1⟩;refine wpIn_mono (hr m S1 hI E hE hk a w L1 h1) ?_;rintro e a' w' ⟨S',L',h2,h3⟩
 cases e with
 |normal=>
  obtain⟨m',hlt,S'',hw,hI'⟩:=h3;obtain⟨L'',h4⟩:=hw E a' w' L' h2;exact⟨m',hlt,S'',L'',hI',h4⟩
 |exit i|goto l|ret|panic c|outgrown=>exact⟨S',L',h2,h3⟩
def WT{x:SC}{Q:Exit->St->Prop}{S:St}(I:Nat->St->Prop)(m0:Nat){S0:St}(hw0:∀(E:En) (a:Act) (w:World) (L:Nat->Value),Rel E S a w L->∃L',Rel E S0 a w L')(h0:I m0 S0)
  (hr:∀m S,I m S->VS P nt x (λe S'=>match e with| .normal=>∃m',m'<m/\∃S'',(∀(E:En) (a:Act) (w:World) (L:Nat->Value),Rel E S' a w L->∃L',Rel E S'' a w L')/\I m' S''|e=>Q e S') S):VS P nt (.loop x) Q S:=by
 intro c hs hc
 cases c with
 |loop p=>
  simp only[aW,Qb]at hc;obtain⟨x',hx,hc⟩:=hc;injection hc with h1
  subst h1;exact agI I m0 hw0 h0 (λm S hI=>hr m S hI p hs hx)
 |region id ops d=>cases d<;>simp only[aW]at hc<;>(try split at hc)<;>(try split at hc)<;>(try split at hc)<;>cases hc
 |seq x y|cond c x y=>simp only[aW]at hc;split at hc<;>cases hc
 |block id c=>simp only[aW,Qb]at hc;obtain⟨_,_,hc⟩:=hc;cases hc
 |rangeFunc g ps x y=>simp only[aW]at hc;(try split at hc)<;>(try split at hc)<;>cases hc
 |_=>simp only[aW]at hc<;>cases hc
def M7{S:aU U}{J:JS U}{F:List Nat}{W:WS}(hchk:wh S J F W=true)(v:uh J.items):iK F W S (unpack K S J v):=by
 simp only[wh,Qm,QH]at hchk;obtain⟨⟨⟨⟨⟨⟨hnd,hids⟩,hokv⟩,hkeep⟩,hobj⟩,hF⟩,hW⟩:=hchk;refine⟨λt ht=> ?_,λid hid=> ?_,?_⟩
 ·have hk:=ec.1 (hF t ht);have hns:iI t (slotsOf J.items)=false:=by simpa using(hkeep t hk).2
  rcases BV (K:=K) (S.base J.eL) J.items v t with⟨⟨i,d⟩,hmem,h1,h2⟩|⟨_,h2⟩
  ·exact absurd (E4 (lK hmem) h1) (sb hns)
  ·rw[show(unpack K S J v).env t=_ from h2,Ic,Qr hk]
 ·have hlt:id<S.N:=by
   cases W with
   |none=>cases hW
   |some q=>
    obtain⟨n,l⟩:=q;simp only at hW;simp only[okW,Qq74]at hid;have h1:=QG hW;have h2:¬n<=id:=λhle=>by rw[Nat.ble_eq_true_of_le hle]at hid;cases hid.1
    omega
  rcases Gk (K:=K) (S.base J.eL) J.items v id hnd with⟨⟨i,d⟩,hmem,h1,h2⟩|⟨_,h2⟩
  ·have:=(hids id (uL (lK hmem) h1)).2;rw[hid]at this;cases this
  ·rw[show(unpack K S J v).H id=_ from h2,PZ,Qr hlt]
 ·rw[unpack,Gj,PY];exact QI _
def JI{S S1:aU U}{J:JS U}{F:List Nat}{W:WS}(hchk:wh S J F W=true){v:uh J.items}(hp:pack K S1 J.items=some v)(hf:iK J.eL (some (S.N,fJ J.items)) S S1):
  ∀(E:En) (a:Act) (w:World) (L:Nat->Value),Rel E S1.st a w L->∃L',Rel E (unpack K S J v).st a w L':=by
 intro E a w L h;refine⟨L,Rel.meet hchk hp hf.env (λid hid hni=>hf.H id ?_) hf.N h⟩
 simp only[okW,Qq74];refine⟨?_,?_⟩
 ·cases hb:Nat.ble S.N id with
  |false=>rfl
  |true=>have:=QG hb;omega
 ·cases hb:iI id (fJ J.items)with
  |false=>rfl
  |true=>exact absurd (ec.1 hb) hni
def MP(S:aU U)(D:List Nat):(S.gD D).st=S.st.wS D:=by
 unfold aU.gD aU.st St.wS;congr 1
 funext t
 simp only
 by_cases h:t∈D
 ·rw[Qr h,ec.2 h];rfl
 ·rw[Qs h]
  cases hb:iI t D with
  |true=>exact absurd (ec.1 hb) h
  |false=>rfl
def HZ{F D:List Nat}(h:FB F D=true)(W:WS)(S:aU U):iK F W S (S.gD D):=
 ⟨λt ht=>by
  have hn:iI t D=false:=by
   cases hb:iI t D with
   |false=>rfl
   |true=>
    have:=QH.1 h t (ec.1 hb);rw[ec.2 ht]at this;cases this
  simp only[aU.gD,hn],λ_ _=>rfl,QI _⟩
def Vq{S:aU U}{J:JS U}{F:List Nat}{W:WS}(hchk:wh S J F W=true)(v:uh J.items){S':aU U}(hf:iK J.eL (some (S.N,fJ J.items)) (unpack K S J v) S'):iK F W S S':=by
 have hm:=M7 (K:=K) hchk v;refine hm.trans ?_;simp only[wh,Qm,QH]at hchk;obtain⟨⟨⟨⟨⟨⟨hnd,hids⟩,hokv⟩,hkeep⟩,hobj⟩,hF⟩,hW⟩:=hchk;refine⟨λt ht=>hf.env t (ec.1 (hF t ht)),λid hid=>hf.H id ?_,hf.N⟩
 simp only[okW,Qq74];refine⟨?_,?_⟩
 ·cases W with
  |none=>cases hW
  |some q=>
   obtain⟨n,l⟩:=q;simp only at hW;simp only[okW,Qq74]at hid;have h1:=QG hW
   cases hb:Nat.ble S.N id with
   |false=>rfl
   |true=>have:=QG hb;rw[Nat.ble_eq_true_of_le (QK h1 this)]at hid;cases hid.1
 ·cases hb:iI id (fJ J.items)with
  |false=>rfl
  |true=>have:=(hids id (ec.1 hb)).2;rw[hid]at this;cases this
def Tl{S:aU U}{J:JS U}{F:List Nat}{W:WS}(hchk:wh S J F W=true)(v:uh J.items){t:Nat}(ht:t∈J.eL):(unpack K S J v).env t=S.env t:=by
 simp only[wh,Qm,QH]at hchk;obtain⟨⟨⟨⟨⟨⟨hnd,hids⟩,hokv⟩,hkeep⟩,hobj⟩,hF⟩,hW⟩:=hchk;have hns:iI t (slotsOf J.items)=false:=by simpa using(hkeep t ht).2
 rcases BV (K:=K) (S.base J.eL) J.items v t with⟨⟨i,d⟩,hmem,h1,h2⟩|⟨_,h2⟩
 ·exact absurd (E4 (lK hmem) h1) (sb hns)
 ·rw[show(unpack K S J v).env t=_ from h2,Ic,Qr ht]
def abm{S:aU U}{J:JS U}{F:List Nat}{W:WS}(hchk:wh S J F W=true)(v:uh J.items){S':aU U}(hf:iK J.eL (some (S.N,fJ J.items)) (unpack K S J v) S'){v':uh J.items}(hv':pack K S' J.items=some v'):
  ∀(E:En) (a:Act) (w:World) (L:Nat->Value),Rel E S'.st a w L->∃L',Rel E (unpack K S J v').st a w L':=by
 intro E a w L hrel;have hkp:=λ{t} ht=>Tl (K:=K) hchk v (t:=t) ht
 have hc:=hchk;simp only[wh,Qm,QH]at hc;obtain⟨⟨⟨⟨⟨⟨hnd,hids⟩,hokv⟩,hkeep⟩,hobj⟩,hF⟩,hW⟩:=hc;refine⟨L,Rel.meet hchk hv' (λt ht=>(hf.env t ht).trans (hkp ht)) (λid hid hni=>(hf.H id ?_).trans ?_) (by have:=hf.N;rw[unpack,Gj,PY]at this;exact this) hrel⟩
 ·simp only[okW,Qq74];refine⟨?_,?_⟩
  ·cases hb:Nat.ble S.N id with
   |false=>rfl
   |true=>have:=QG hb;omega
  ·cases hb:iI id (fJ J.items)with
   |false=>rfl
   |true=>exact absurd (ec.1 hb) hni
 ·rcases Gk (K:=K) (S.base J.eL) J.items v id hnd with⟨⟨i,d⟩,hmem,h1,h2⟩|⟨_,h2⟩
  ·exact absurd (uL (lK hmem) h1) hni
  ·rw[show(unpack K S J v).H id=_ from h2,PZ,Qr hid]
def adR{T:U.Ty}{k:Nat}{nE:Option Nat}(hsz:U.size T=k)(hnE:ZB U T nE=true)(xs:List (U.den T)):KF k nE (xs.map (U.pv T))/\∀a:U.den T,Ce nE (U.pv T a)=(AR K T a).pv:=by
 have key:∀a:U.den T,vi nE (U.pv T a)=some (fC T a):=by
  intro a;unfold fC
  cases nE with
  |none=>
   simp only[ZB,Bool.not_eq_true']at hnE;have h1:=K.len T a;rw[K.one T hnE]at h1;rw[hnE]
   match h2:U.pv T a with
   |[]=>rw[h2]at h1;cases h1
   |x::l=>rfl
  |some n=>
   simp only[ZB,Qm]at hnE;have h1:=QF hnE.2;subst h1;rw[hnE.1,vi,Qr (by rw[K.len];exact QI _),<-K.len T a,Qq62]
 have hev:∀a:U.den T,Ce nE (U.pv T a)=fC T a:=λa=>by simp only[Ce,key,Q3]
 refine⟨⟨λe he=> ?_,λe he=> ?_,λe he=> ?_⟩,λa=>by rw[hev,Dr]⟩
 ·obtain⟨a,_,rfl⟩:=QP.1 he;rw[K.len,hsz]
 ·obtain⟨a,_,rfl⟩:=QP.1 he;rw[hev,key]
 ·obtain⟨a,_,rfl⟩:=QP.1 he;rw[hev];unfold fC;split
  ·exact QH.2 λy hy=>gN (K.hZ T a y hy)
  ·cases h2:U.pv T a with
   |nil=>have:=K.len T a;rename_i hag;rw[K.one T hag,h2]at this;cases this
   |cons x l=>
    have h3:=gN (K.hZ T a x (by rw[h2];exact Qx))
    have h4:=K.hZ T a x (by rw[h2];exact Qx)
    cases x<;>first|exact h3|(cases h4)
def ahU(S:aU U)(A_s:List (KV U)):(VZ S A_s).st={S.st with env:=λt=>((A_s.map KV.pv)[t]?).getD .undef}:=by
 unfold VZ aU.st;congr 1
 funext t
 simp only[QT];cases A_s[t]?<;>rfl
def adn(S:aU U)(A_s:List (KV U)):(HP S A_s).st=S.st.nB (xm S A_s):=by
 unfold HP aU.st St.nB;congr 1
 funext id
 simp only;cases xm S A_s id<;>rfl
def Kb{S:aU U}{A_s:List (KV U)}{id:Nat}(h:xm S A_s id=true):id<S.N/\id≠0/\∃cs,(S.st.H id).c= .box cs/\cs.all PV.closed=true:=by
 simp only[xm,Qm,Bool.not_eq_true']at h;obtain⟨⟨⟨h1,h2⟩,h3⟩,_⟩:=h;refine⟨QG h1,λe=>(by rw[e]at h2;cases h2),?_⟩
 split at h3
 ·rename_i cs hc;exact⟨cs.map KV.pv,by simp only[aU.st,dj.pv,hc,dS.pv],by rw[qR];exact h3⟩
 ·cases h3
def adQ(S S':aU U)(A_s:List (KV U))(d:Option Nat)(r:KV U):(Ad S S' A_s d r).st=St.cy {S'.st.shown S.st (xm S A_s)with env:=λt=>(P5 S S' A_s t).pv} d r.pv none:=by
 unfold Ad;rw[Gb];congr 1;unfold aU.st St.shown;congr 1
 funext id
 simp only;cases xm S A_s id<;>rfl
def adl(S:aU U)(q:Nat->Bool):(S.E5 q).st=S.st.kill q:=by
 unfold aU.E5 aU.st St.kill;congr 1
 funext id
 simp only;cases q id<;>rfl
def ZI{S:aU U}{f:FuncId}{c:Option bz}{xs:List bz}{A_s:List (KV U)}(ha:La S f c xs=some A_s)(hx:xs.all bz.dz=true)(hc:c.all bz.dz=true){E:En}{a:Act}{w:World}{L:Nat->Value}(h:Rel E S.st a w L){hs:List Nat}{o:Oper}(hop:Fh P hs o=some (ZH f c xs))(hen:Enters P f):
  ∃vs:List Value,(execOp a.eval o).run P w= .ok (.enter f vs.toArray) w/\bo w (bm E S.st L) (S.st.gh L) (A_s.map KV.pv) vs:=by
 have hmap:xs.map (·.val S.st)=(xs.map (·.c9 S)).map KV.pv:=by
  rw[List.map_map];exact Qq71 λx hxm=>uM (QH.1 hx x hxm)
 cases c with
 |none=>
  injection ha with ha
  subst ha;obtain⟨args,ats,hop',hxs⟩:=Ws hop;exact⟨_,abL hop' hen,by rw[<-hmap];exact h.dO hxs⟩
 |some fv=>
  simp only[La]at ha;split at ha
  ·rename_i g caps hf;split at ha
   ·rename_i hg;have hg:=QF hg;subst hg;injection ha with ha
    subst ha;obtain⟨gv,args,ats,hop',hgv,hxs⟩:=TI hop;have hr:=h.jD hgv;have hfo:fv.dz=true:=by simpa using hc
    rw[uM hfo,hf,KV.pv,KV.c5]at hr;obtain⟨us,hu,hru⟩:=hr.wU;have ha:args.map a.eval=(args.toList.map a.eval).toArray:=by rw[<-Array.toList_map,Array.toArray_toList]
    refine⟨args.toList.map a.eval++us,?_,by rw[List.map_append,<-hmap];exact(h.dO hxs).append hru⟩
    simp only[execOp,hop',resolve,hu,Deferred.ofValue,Sem.run_bind,Sem.run_pure,Result.andThen_ok,invoke,ha];simp[nq hen]
   ·cases ha
  ·cases ha
def agN{Γ:List (dP U)}(hΓ:u7 P Γ){r1 r2:RS U}{d:Option Nat}{f:FuncId}{c:Option bz}{xs:List bz}{n:Nat}{rvs:List RV}{sc:SC}{F:List Nat}{W:WS}{ρ:Type}{k:Exit->aU U->Option ρ}{r:ρ}{S:aU U}
  (hfn:iL P f n sc rvs) (hnr:sc.Ml=true) (hoff:FB F (r1.iw++d.toList++r2.iw)=true) (vM:r1.dz=true) (ok2:r2.dz=true) (okx:xs.all bz.dz=true) (okv:c.all bz.dz=true) {kk:aU U->Option ρ} (h:jd K Γ r1 W S.N (S.more r1.len) kk=some r)
  (hk:∀S1,kk S1=some r->∃A_s,La S1 f c xs=some A_s/\VX S1 F W A_s n sc.sN=true/\VS P n sc (λe A=>∃S2,A=S2.st/\iK (List.range A_s.length) W (VZ (HP S1 A_s) A_s) S2/\(e= .ret\/e= .normal)/\∃v,zq S2 rvs=some v/\aeK S1 S2 A_s=true/\jd K Γ r2 W S2.N (((Ad S1 S2 A_s d v).E5 (Ho S1 S2 v)).more r2.len) (λS3=>k .normal S3)=some r) (VZ (HP S1 A_s) A_s).st):
  VS P nt (.tF (r1.flat++⟨d,none,ZH f c xs⟩::r2.flat)) (λe A=>∃S',A=S'.st/\iK F W S S'/\k e S'=some r) S.st:=by
 intro c0 hs hc
 cases c0 with
 |region id ops d0=>
  cases d0 with
  |true=>simp only[aW]at hc;(try split at hc)<;>(try split at hc)<;>(try split at hc)<;>cases hc
  |false=>
   simp only[aW]at hc;split at hc
   ·rename_i gs' hgs;split at hc
    ·rename_i hd;injection hc with hc
     injection hc with hc
     subst hc;intro E hE hkE a w L hrel;refine wpIn_region_list ?_;obtain⟨l1,l2',el,m1,m2⟩:=zH hgs
     cases l2' with
     |nil=>simp at m2
     |cons o l2=>
     simp only[Qq75,Qd,Qc,Option.pure_def,Qf,List.cons.injEq]at m2;obtain⟨g,hg,gs2,hgs2,rfl,rfl⟩:=m2;have hcan:=WC hE hkE (PJ hd);rw[el]at hcan ⊢;refine mX (K:=K) (E:=E) hΓ (ops:=ops) (Q:=λe a' w'=>∃S' L',Rel E S' a' w' L'/\_) r1 W S.N (S.more r1.len) kk r l1 (o::l2) a w L vM m1 (hrel.room r1.len) (QI _) (λo' ho'=>hcan o' (List.mem_append_left _ ho')) h (λS1 a1 w1 L1 hf1 h1 hk1=> ?_)
     obtain⟨A_s,has,hchk,hvs⟩:=hk S1 hk1;simp only[VX,Qm]at hchk;obtain⟨⟨⟨⟨hWn,hlen⟩,hsets⟩,hkeep⟩,hokW⟩:=hchk;have hlen:=QG hlen;obtain⟨hgu,hds,hcop⟩:=adD hg;obtain⟨vs,hrun,hrep⟩:=ZI has okx okv h1 hcop hfn.enters;rw[ahU,adn]at hvs
     have hcall:=ab1 hfn hnr h1 hrep (by simpa using hlen) (λt ht hm=>by
      have:=QG (QH.1 hsets t hm);rw[QC]at ht
      omega) (xm S1 A_s) (λid hid=>Kb hid) (Q:=λv A=>∃S2 x,v=x.pv/\A=S2.st/\iK (List.range A_s.length) W (VZ (HP S1 A_s) A_s) S2/\jd K Γ r2 W S2.N (((Ad S1 S2 A_s d x).E5 (Ho S1 S2 x)).more r2.len) (λS3=>k .normal S3)=some r)
      (hvs.mono λe A ⟨S2,e1,e2,e3,x,e4,e6,e5⟩=>⟨e3,x.pv,by rw[e1];exact Ds e4,⟨S2,x,rfl,e1,e2,e5⟩,by rw[e1];exact e2.N,λid hid=>by
       have:=Dm e6 id (Kb hid).1;rw[hid,Qo,Bool.false_or]at this;rw[e1];simp only[aU.st,dj.pv]
       cases hc:(S2.H id).c with
       |dead=>rfl
       |_=>rw[hc]at this;cases this⟩)
     refine wpListIn_step λKK hKK=> ?_
     rw[Xd hgu,Qr rfl];unfold Oper.wpIn;rw[Oper.semAt_eq _ _ _ (BL hcop),hrun];refine⟨λ_ _=>trivial,(λh=>by cases h),Dk.2 (Calls.mono hcall ?_)⟩
     rintro e w' ⟨v,_,_,L',rfl,⟨S2,x,rfl,rfl,hfr,hr2⟩,hrv,hback⟩;refine hKK _ _ ?_
     have h2:=hback (λt=>(P5 S1 S2 A_s t).pv) λt=>by
      simp only[P5]
      cases hkt:Uv S1 A_s t with
      |false=>
       simp only;split
       ·rename_i id vv o het;split
        ·rename_i hh;rw[Qm]at hh;refine .inr (.inr (.inr ⟨id,o,hh.1,?_,rfl⟩));show(S1.env t).pv= .ptr id (S1.H id).av o;rw[het,QF hh.2];rfl
        ·exact .inl rfl
       ·exact .inl rfl
      |true=>
       simp only[Uv,Qn]at hkt;simp only;rcases hkt with hkt|hkt
       ·exact .inr (.inl ⟨rfl,by rw[<-OJ]at hkt;exact hkt⟩)
       ·obtain⟨y,hy,hyt⟩:=List.any_eq_true.1 hkt;obtain⟨i,hi,rfl⟩:=List.mem_iff_getElem.1 hy;have hai:A_s[i]?=some A_s[i]:=Qv hi;obtain⟨v',hv',hr'⟩:=hrep.get (i:=i) (x:=A_s[i].pv) (by rw[QT,hai];rfl)
        have hfe:=hfr.env i (List.mem_range.2 hi)
        have hs2:S2.env i=A_s[i]:=by
         rw[hfe];show(A_s[i]?).getD .undef=_;rw[hai];rfl
        have hrt:=h1.env t;rw[show S1.st.env t=(S1.env t).pv from rfl]at hrt
        have hq:(S1.env t).pv=A_s[i].pv/\vs[i]?=some (a1.tmps.getD t undef):=by
         generalize A_s[i]=y at hyt hr';generalize S1.env t=x at hyt hrt
         cases x with
         |ptr id av off=>
          cases y with
          |ptr id' ver' off'=>
           simp only[aei,Qm]at hyt;obtain⟨⟨⟨e1,e2⟩,e3⟩,e4⟩:=hyt;obtain rfl:=QF e1;obtain rfl:=QF e2;obtain rfl:=QF e3;have e4:(S1.st.gh L1).V id=av:=QF e4;obtain⟨_,g1⟩:=hrt.pE e4;obtain⟨_,g2⟩:=hr'.pE e4;exact⟨rfl,by rw[hv',g1,g2]⟩
          |_=>cases hyt
         |_=>cases hyt
        exact .inr (.inr (.inl ⟨i,hq.2,(show(S1.env t).pv=(S2.env i).pv by rw[hs2];exact hq.1)⟩))
     have h3:=h2.Zo (d:=o.dst) (hcan o (List.mem_append_right _ Qx)) hrv
     have h4:Rel E ((Ad S1 S2 A_s d x).E5 (Ho S1 S2 x)).st (a1.put o.dst v) w' L':=by
      rw[adl,adQ,<-hds];exact h3.ai6 _
     have hl2:l2=l2++[]:=by rw[List.append_nil]
     rw[hl2];refine mX (K:=K) (E:=E) hΓ (ops:=ops) r2 W S2.N (((Ad S1 S2 A_s d x).E5 (Ho S1 S2 x)).more r2.len) (λS3=>k .normal S3) r l2 [] _ w' L' ok2 hgs2 (h4.room r2.len) (QI _) (λo' ho'=>hcan o' (List.mem_append_right _ (Qy _ ho'))) hr2 (λS3 a3 w3 L3 hf3 h5 hk3=> ?_)
     have hoff':∀t∈F,t∉r1.iw/\d≠some t/\t∉r2.iw:=by
      intro t ht;have:=λq hq=>QH.1 hoff q hq
      refine⟨λhm=> ?_,λhm=> ?_,λhm=> ?_⟩
      ·have:=this t (List.mem_append_left _ (List.mem_append_left _ hm));rw[ec.2 ht]at this;cases this
      ·have:=this t (List.mem_append_left _ (List.mem_append_right _ (by rw[hm];exact Q5.2 rfl)));rw[ec.2 ht]at this;cases this
      ·have:=this t (List.mem_append_right _ hm);rw[ec.2 ht]at this;cases this
     refine⟨S3.st,L3,h5,S3,rfl,⟨λt ht=> ?_,λq hq=> ?_,?_⟩,hk3⟩
     ·obtain⟨n1,n2,n3⟩:=hoff' t ht;rw[hf3.env t n3];show(Ad S1 S2 A_s d x).env t=_;unfold Ad;rw[lN _ _ _ _ n2];simp only[P5,QH.1 hkeep t ht];exact hf1.env t n1
     ·rw[hf3.H q hq]
      have hnh:xm S1 A_s q=false:=by
       cases hqq:xm S1 A_s q with
       |false=>rfl
       |true=>
        have:=Dm hokW q (Kb hqq).1;rw[hqq,hq]at this;cases this
      have hno:Ho S1 S2 x q=false:=by
       cases W with
       |none=>cases hWn
       |some W=>
        simp only[okW,Qq74]at hq;have hlt:¬W.1<=q:=λe=>by have:=Nat.ble_eq_true_of_le e;rw[hq.1]at this;cases this
        have hWn:=QG hWn
        have:Nat.ble S1.N q=false:=by
         cases hb:Nat.ble S1.N q with
         |false=>rfl
         |true=>have:=QG hb;omega
        unfold Ho;rw[this];rfl
      show(match Ho S1 S2 x q with|true=>_|false=>(Ad S1 S2 A_s d x).H q)=_
      rw[hno];show(match xm S1 A_s q with|true=>_|false=>S2.H q)=_
      rw[hnh];show S2.H q=_;rw[hfr.H q hq];show(match xm S1 A_s q with|true=>_|false=>S1.H q)=_
      rw[hnh];exact hf1.H q hq
     ·have e1:=hf1.N;have e2:=hfr.N;have e3:=hf3.N;have:(S.more r1.len).N=S.N+r1.len:=rfl;have:(((Ad S1 S2 A_s d x).E5 (Ho S1 S2 x)).more r2.len).N=S2.N+r2.len:=rfl;have:(VZ (HP S1 A_s) A_s).N=S1.N:=rfl;omega
    ·cases hc
   ·cases hc
 |seq x y|cond c x y=>simp only[aW]at hc;split at hc<;>cases hc
 |block id c|loop c=>simp only[aW,Qb]at hc;obtain⟨_,_,hc⟩:=hc;cases hc
 |rangeFunc g ps x y=>simp only[aW]at hc;(try split at hc)<;>(try split at hc)<;>cases hc
 |_=>simp only[aW]at hc<;>cases hc
def eM{Γ:List (dP U)}(hΓ:u7 P Γ):∀(sa:SA U) {nt:Nat} {ρ:Type} (F:List Nat) (W:WS) (k:Exit->aU U->Option ρ) (S:aU U) (r:ρ),sa.vL P->oN K Γ sa F W k S=some r->
  VS P nt sa.erase (λe A=>∃S',A=S'.st/\iK F W S S'/\k e S'=some r) S.st
 | .skip,nt,ρ,F,W,k,S,r,hok,h=>agK ⟨S,rfl,iK.refl _ _ _,h⟩
 | .exit id,nt,ρ,F,W,k,S,r,hok,h=>agO ⟨S,rfl,iK.refl _ _ _,h⟩
 | .ret,nt,ρ,F,W,k,S,r,hok,h=>aio ⟨S,rfl,iK.refl _ _ _,h⟩
 | .tF rs,nt,ρ,F,W,k,S,r,hok,h=>by
  simp only[oN]at h;split at h
  ·rename_i ho;exact agL hΓ hok h λS' hf hk=>⟨S',rfl,(hf.toC ho).more,hk⟩
  ·cases h
 | .rD un rs,nt,ρ,F,W,k,S,r,hok,h=>by
  simp only[oN]at h;split at h
  ·rename_i ho;obtain⟨Γs,S',fs,h1,h2,h3,h4⟩:=xF hΓ rs 0 _ _ hok h;split at h4
   ·rename_i hun;refine aip h1 (S':=S'.st) ?_ ⟨S',rfl,(h3.toC ho).more,h4⟩;rw[RS.D0];have e:({S.st with N:=S.st.N+rs.len}:St)=(S.more rs.len).st:=rfl
    rw[e,Rx];rw[show S.st.N=S.N from rfl,h2]
    exact Qr hun
   ·cases h4
  ·cases h
 | .seq x y,nt,ρ,F,W,k,S,r,hok,h=>by
  simp only[SA.vL]at hok;refine acf ((eM hΓ x F W _ S r hok.1 h).mono ?_);rintro e A ⟨S',rfl,hf,hk⟩
  cases e with
  |normal=>exact(eM hΓ y F W k S' r hok.2 hk).mono λe A ⟨S'',h1,h2,h3⟩=>⟨S'',h1,hf.trans h2,h3⟩
  |exit i|goto l|ret|panic c|outgrown=>exact⟨S',rfl,hf,hk⟩
 | .join J x y,nt,ρ,F,W,k,S,r,hok,h=>by
  simp only[SA.vL]at hok;simp only[oN]at h;split at h
  ·rename_i hchk;unfold aY at h
   have hsub:∀S',iK J.eL (some (S.N,fJ J.items)) S S'->iK F W S S':=by
    intro S' hf;simp only[wh,Qm,QH]at hchk;obtain⟨⟨⟨⟨⟨⟨hnd,hids⟩,hokv⟩,hkeep⟩,hobj⟩,hF⟩,hW⟩:=hchk;refine⟨λt ht=>hf.env t (ec.1 (hF t ht)),λid hid=>hf.H id ?_,hf.N⟩
    simp only[okW,Qq74];refine⟨?_,?_⟩
    ·cases W with
     |none=>cases hW
     |some q=>
      obtain⟨n,l⟩:=q;simp only at hW;simp only[okW,Qq74]at hid;have h1:=QG hW
      cases hb:Nat.ble S.N id with
      |false=>rfl
      |true=>have:=QG hb;rw[Nat.ble_eq_true_of_le (QK h1 this)]at hid;cases hid.1
    ·cases hb:iI id (fJ J.items)with
     |false=>rfl
     |true=>have:=(hids id (ec.1 hb)).2;rw[hid]at this;cases this
   refine acf ((eM hΓ x J.eL _ _ S r hok.1 h).mono ?_);rintro e A ⟨S',rfl,hf,hk⟩
   cases e with
   |normal=>
    simp only at hk;split at hk
    ·rename_i v hv;refine Ss (JI hchk hv hf) ?_;exact(eM hΓ y F W k _ r hok.2 hk).mono λe A ⟨S'',h1,h2,h3⟩=>⟨S'',h1,(M7 hchk v).trans h2,h3⟩
    ·cases hk
   |exit i|goto l|ret|panic c|outgrown=>exact⟨S',rfl,hsub S' hf,hk⟩
  ·cases h
 | .cond c x y,nt,ρ,F,W,k,S,r,hok,h=>by
  simp only[SA.vL]at hok;simp only[oN]at h;split at h
  ·rename_i b hb;have hv:c.val S.st= .bool b:=by rw[uM hok.1.1,hb];rfl
   refine agP hv ?_
   cases b with
   |true=>exact eM hΓ x F W k S r hok.1.2 h
   |false=>exact eM hΓ y F W k S r hok.2 h
  ·rename_i hb;have hv:c.val S.st= .gM:=by rw[uM hok.1.1,hb];rfl
   obtain⟨h1,h2⟩:=ab2 h;exact adX hv (eM hΓ x F W k S r hok.1.2 h1) (eM hΓ y F W k S r hok.2 h2)
  ·cases h
 | .block id x,nt,ρ,F,W,k,S,r,hok,h=>by
  refine adY ((eM hΓ x F W _ S r hok h).mono ?_);rintro e A ⟨S',rfl,hf,hk⟩
  cases e with
  |exit i=>
   simp only at hk;simp only[GN];split at hk
   ·rename_i hi;rw[Qr (QF hi)];exact⟨S',rfl,hf,hk⟩
   ·rename_i hi;rw[Qs (Nat.ne_of_beq_eq_false hi)];exact⟨S',rfl,hf,hk⟩
  |normal|goto l|ret|panic c|outgrown=>exact⟨S',rfl,hf,hk⟩
 | .loop J x,nt,ρ,F,W,k,S,r,hok,h=>by
  simp only[oN]at h;split at h
  ·rename_i hchk;split at h
   ·rename_i v0 hv0
    have hsub:∀v S',iK J.eL (some (S.N,fJ J.items)) (unpack K S J v) S'->iK F W S S':=by
     intro v S' hf;have hm:=M7 (K:=K) hchk v;refine hm.trans ?_;simp only[wh,Qm,QH]at hchk;obtain⟨⟨⟨⟨⟨⟨hnd,hids⟩,hokv⟩,hkeep⟩,hobj⟩,hF⟩,hW⟩:=hchk;refine⟨λt ht=>hf.env t (ec.1 (hF t ht)),λid hid=>hf.H id ?_,hf.N⟩
     simp only[okW,Qq74];refine⟨?_,?_⟩
     ·cases W with
      |none=>cases hW
      |some q=>
       obtain⟨n,l⟩:=q;simp only at hW;simp only[okW,Qq74]at hid;have h1:=QG hW
       cases hb:Nat.ble S.N id with
       |false=>rfl
       |true=>have:=QG hb;rw[Nat.ble_eq_true_of_le (QK h1 this)]at hid;cases hid.1
     ·cases hb:iI id (fJ J.items)with
      |false=>rfl
      |true=>have:=(hids id (ec.1 hb)).2;rw[hid]at this;cases this
    have hself:∀v S',iK J.eL (some (S.N,fJ J.items)) (unpack K S J v) S'->∀v',pack K S' J.items=some v'->∀(E:En) (a:Act) (w:World) (L:Nat->Value),Rel E S'.st a w L->∃L',Rel E (unpack K S J v').st a w L':=by
     intro v S' hf v' hv' E a w L hrel;have hc:=hchk;simp only[wh,Qm,QH]at hc;obtain⟨⟨⟨⟨⟨⟨hnd,hids⟩,hokv⟩,hkeep⟩,hobj⟩,hF⟩,hW⟩:=hc;refine⟨L,Rel.meet hchk hv' (λt ht=>(hf.env t ht).trans ?_) (λid hid hni=>(hf.H id ?_).trans ?_) (by have:=hf.N;rw[unpack,Gj,PY]at this;exact this) hrel⟩
     ·have hns:iI t (slotsOf J.items)=false:=by simpa using(hkeep t ht).2
      rcases BV (K:=K) (S.base J.eL) J.items v t with⟨⟨i,d⟩,hmem,h1,h2⟩|⟨_,h2⟩
      ·exact absurd (E4 (lK hmem) h1) (sb hns)
      ·rw[show(unpack K S J v).env t=_ from h2,Ic,Qr ht]
     ·simp only[okW,Qq74];refine⟨?_,?_⟩
      ·cases hb:Nat.ble S.N id with
       |false=>rfl
       |true=>have:=QG hb;omega
      ·cases hb:iI id (fJ J.items)with
       |false=>rfl
       |true=>exact absurd (ec.1 hb) hni
     ·rcases Gk (K:=K) (S.base J.eL) J.items v id hnd with⟨⟨i,d⟩,hmem,h1,h2⟩|⟨_,h2⟩
      ·exact absurd (uL (lK hmem) h1) hni
      ·rw[show(unpack K S J v).H id=_ from h2,PZ,Qr hid]
    obtain⟨n,hn⟩:=Db h
    refine WT (λm A=>∃v,A=(unpack K S J v).st/\sz (λv=>oN K Γ x J.eL (some (S.N,fJ J.items)) (λe S'=>match e with
     | .normal=>(match pack K S' J.items with|some v=>some (Sum.inl v)|none=>none)
     |e=>(k e S').map Sum.inr) (unpack K S J v)) m v=some r) n (JI hchk hv0 (iK.refl _ _ _)) ⟨v0,rfl,hn⟩ ?_
    rintro m A ⟨v,rfl,hm⟩
    cases m with
    |zero=>cases hm
    |succ m=>
     simp only[sz]at hm;split at hm
     ·cases hm
     ·rename_i r' hs;injection hm with hm
      subst hm;refine(eM hΓ x J.eL _ _ _ _ hok hs).mono ?_;rintro e A ⟨S',rfl,hf,hk⟩
      cases e with
      |normal=>
       simp only at hk;split at hk<;>cases hk
      |exit i|goto l|ret|panic c|outgrown=>simp only[Qb]at hk;obtain⟨q,hq,e⟩:=hk;injection e with e;subst e;exact⟨S',rfl,hsub v S' hf,hq⟩
     ·rename_i v' hs;refine(eM hΓ x J.eL _ _ _ _ hok hs).mono ?_;rintro e A ⟨S',rfl,hf,hk⟩
      cases e with
      |normal=>
       simp only at hk;split at hk
       ·rename_i v1 hv1;injection hk with hk
        injection hk with hk
        subst hk;exact⟨m,Nat.lt_succ_self m,_,hself v S' hf v1 hv1,v1,rfl,hm⟩
       ·cases hk
      |exit i|goto l|ret|panic c|outgrown=>simp only[Qb]at hk;obtain⟨q,hq,e⟩:=hk;cases e
   ·cases h
  ·cases h
 | .Mb n x,nt,ρ,F,W,k,S,r,hok,h=>by
  simp only[oN]at h;have⟨g,hg,h⟩:=(⟨_,rfl,h⟩:∃g,g=_/\UI g n S=some r);refine WT (λm A=>∃S1:aU U,A=S1.st/\iK F W S S1/\UI g m S1=some r) n (λE a w L h=>⟨L,h⟩) ⟨S,rfl,iK.refl _ _ _,h⟩ ?_
  rintro m A ⟨S1,rfl,hf1,hm⟩
  cases m with
  |zero=>cases hm
  |succ m=>
   simp only[UI]at hm;rw[hg]at hm;simp only at hm;rw[<-hg]at hm;refine(eM hΓ x F W _ S1 r hok hm).mono ?_;rintro e A ⟨S',rfl,hf,hk⟩
   cases e with
   |normal=>exact⟨m,Nat.lt_succ_self m,S'.st,λE a w L h=>⟨L,h⟩,S',rfl,hf1.trans hf,hk⟩
   |exit i|goto l|ret|panic c|outgrown=>exact⟨S',rfl,hf1.trans hf,hk⟩
 | .back J f kk nE T tg p0 p1 x y,nt,ρ,F,W,k,S,r,hok,h=>by
  simp only[SA.vL]at hok;simp only[oN]at h;obtain⟨D,hD⟩:∃D,SC.sN (.Gf (.tmp tg) [p0,p1] x.erase y.erase)=D:=⟨_,rfl⟩;rw[hD]at h;split at h
  ·rename_i hcond;simp only[Qm]at hcond;obtain⟨⟨⟨⟨⟨⟨hbk,hsz⟩,hnE⟩,htk⟩,hkD⟩,hFD⟩,hchk⟩:=hcond;have hsz:=QF hsz;have htk:=ec.1 htk
   have htD:tg∉D:=λhm=>by
    have:=QH.1 hkD tg hm;rw[ec.2 htk]at this;cases this
   have hp:∀q,q=p0\/q=p1->iI q J.eL=false:=by
    intro q hq;have hqD:q∈D:=by rw[<-hD];rcases hq with rfl|rfl<;>simp[SC.sN]
    simpa using QH.1 hkD q hqD
   split at h
   ·rename_i f' T' xs' hclo;split at h
    ·rename_i hff;have hff:=QF hff;subst hff;split at h
     ·rename_i xs hcast;obtain⟨eT,hxs⟩:=nf hcast;subst eT;simp only at hxs;subst hxs;split at h
      ·rename_i v0 hv0;obtain⟨hin,hev⟩:=adR (K:=K) hsz hnE xs;have⟨step,hstep,h⟩:=(⟨_,rfl,h⟩:∃step,step=_/\nY step (λv=>k .normal (unpack K (S.gD D) J v)) xs.reverse v0=some r)
       have hN:(S.gD D).N=S.N:=rfl;refine agQ (Nu hΓ hbk) hin (by rw[hD];exact htD) (λi A=>∃v,A=(unpack K (S.gD D) J v).st/\nY step (λv=>k .normal (unpack K (S.gD D) J v)) (xs.take i).reverse v=some r) ?_ ?_ ?_ ?_
       ·rw[hD,<-MP];refine⟨_,JI hchk hv0 (iK.refl _ _ _),v0,rfl,?_⟩;rw[QC,Qq62];exact h
       ·rintro i A ⟨v,rfl,_⟩;show((unpack K (S.gD D) J v).env tg).pv=_;rw[Tl hchk v htk];have:(S.gD D).env tg=S.env tg:=(HZ hkD none S).env tg htk;rw[this,hclo];rfl
       ·rintro m A e ⟨v,rfl,hm⟩ he;rw[QT,Qb]at he;obtain⟨a,ha,rfl⟩:=he;have hml:m<xs.length:=(Qw.1 ha).1;rw[List.take_add_one,ha,Option.toList_some,List.reverse_append]at hm;simp only[List.reverse_cons,List.reverse_nil,List.nil_append,List.singleton_append,nY]at hm;rw[List.length_reverse,List.length_take,Nat.min_eq_left (Nat.le_of_lt hml)]at hm
        obtain⟨z,hz,hzr⟩:∃z,step m a v=some z/\(match z with| .inr r'=>r'=r| .inl s'=>nY step (λv=>k .normal (unpack K (S.gD D) J v)) (xs.take m).reverse s'=some r):=by
         split at hm
         ·cases hm
         ·rename_i r' hs;injection hm with hm
          exact⟨_,hs,hm⟩
         ·rename_i s' hs;exact⟨_,hs,hm⟩
        clear hm;rw[hstep]at hz;simp only at hz
        have hst:({(unpack K (S.gD D) J v).st with env:=bR (bR (unpack K (S.gD D) J v).st.env p0 (.int .i64 m)) p1 (Ce nE (U.pv _ a))}:St)=aU.st {(unpack K (S.gD D) J v)with env:=hY (hY (unpack K (S.gD D) J v).env p0 (.int .i64 m)) p1 (AR K _ a)}:=by
         have henv:bR (bR (unpack K (S.gD D) J v).st.env p0 (.int .i64 m)) p1 (Ce nE (U.pv _ a))=λt=>((hY (hY (unpack K (S.gD D) J v).env p0 (.int .i64 m)) p1 (AR K _ a)) t).pv:=by
          funext t
          simp only[dJ,hev];unfold bR;split
          ·rfl
          ·split
           ·rfl
           ·rfl
         exact congrArg (λe=>({(unpack K (S.gD D) J v).st with env:=e}:St)) henv
        rw[hst]
        have hf0:iK J.eL (some (S.N,fJ J.items)) (unpack K (S.gD D) J v) {(unpack K (S.gD D) J v)with env:=hY (hY (unpack K (S.gD D) J v).env p0 (.int .i64 m)) p1 (AR K _ a)}:=by
         refine⟨λt ht=> ?_,λ_ _=>rfl,QI _⟩
         simp only[dJ];rw[cY _ _ (λe=>by have:=hp t (.inr e);rw[ec.2 ht]at this;cases this),cY _ _ (λe=>by have:=hp t (.inl e);rw[ec.2 ht]at this;cases this)]
        refine(eM hΓ x J.eL _ _ _ _ hok.1 hz).mono ?_;rintro e A ⟨S1,rfl,hf1,hk1⟩
        cases e with
        |normal=>
         simp only at hk1;refine(eM hΓ y J.eL _ _ _ _ hok.2 hk1).mono ?_;rintro e A ⟨S2,rfl,hf2,hk2⟩;have hf3:iK J.eL (some (S.N,fJ J.items)) (unpack K (S.gD D) J v) (S2.gD D):=((hf0.trans hf1).trans hf2).trans (HZ hkD _ _);have hf4:iK F W S (S2.gD D):=(HZ hFD W S).trans (Vq hchk v hf3);rw[hD]
         cases e with
         |normal=>
          simp only at hk2;split at hk2
          ·rename_i v' hv';injection hk2 with hk2
           subst hk2;refine⟨_,?_,v',rfl,hzr⟩;rw[<-MP];exact abm hchk v hf3 hv'
          ·cases hk2
         |ret|exit i=>
          simp only[Qb]at hk2;obtain⟨q,hq,rfl⟩:=hk2;simp only at hzr;subst hzr;exact⟨S2.gD D,(MP _ _).symm,hf4,hq⟩
         |goto i|panic ch|outgrown=>cases hk2
        |ret|exit i|goto i|panic ch|outgrown=>cases hk1
       ·rintro A ⟨v,rfl,hm⟩;simp only[List.take_zero,List.reverse_nil,nY]at hm;exact⟨_,rfl,(HZ hFD W S).trans (Vq hchk v (iK.refl _ _ _)),hm⟩
      ·cases h
     ·cases h
    ·cases h
   ·cases h
  ·cases h
 | .inl r1 d f c xs n rvs x r2,nt,ρ,F,W,k,S,r,hok,h=>by
  simp only[SA.vL]at hok;obtain⟨⟨vM,ok2,okx,okv⟩,hnr,hfn,hokx⟩:=hok;simp only[oN]at h;split at h
  ·rename_i hoff;refine agN hΓ hfn hnr hoff vM ok2 okx okv h λS1 hk1=> ?_
   split at hk1
   ·rename_i A_s has;split at hk1
    ·rename_i hchk;refine⟨A_s,has,hchk,(eM hΓ x _ W _ _ r hokx hk1).mono ?_⟩;rintro e A ⟨S2,rfl,hf,hk2⟩
     cases e with
     |ret=>
      simp only at hk2;split at hk2
      ·rename_i v hv;split at hk2
       ·rename_i hdk;exact⟨S2,rfl,hf,.inl rfl,v,hv,hdk,hk2⟩
       ·cases hk2
      ·cases hk2
     |normal=>
      simp only at hk2;split at hk2
      ·rename_i v hv;split at hk2
       ·rename_i hdk;exact⟨S2,rfl,hf,.inr rfl,v,hv,hdk,hk2⟩
       ·cases hk2
      ·cases hk2
     |exit i|goto l|panic c|outgrown=>cases hk2
    ·cases hk1
   ·cases hk1
  ·cases h
 | .ps p x,nt,ρ,F,W,k,S,r,hok,h=>by
  simp only[oN]at h;split at h
  ·rename_i hW;simp only[Qm]at hW;split at h
   ·rename_i S1 hp;refine Ss (λE a w L hr=>Ps.sound K hp hr) ((eM hΓ x F W k S1 r hok h).mono λe A ⟨S'',h1,h2,h3⟩=>⟨S'',h1,iK.trans ?_ h2,h3⟩)
    exact(Ps.frm hp hW.1).toC hW.2
   ·cases h
  ·cases h
 | .BW p x,nt,ρ,F,W,k,S,r,hok,h=>by
  refine agM (eM hΓ x F W _ S r hok h) ?_;rintro e A ⟨S',rfl,hf,hk⟩
  cases e with
  |normal=>
   simp only at hk;split at hk
   ·rename_i hW;simp only[Qm]at hW;split at hk
    ·rename_i S1 hp;exact⟨S1.st,⟨S1,rfl,hf.trans ((Ps.frm hp hW.1).toC hW.2),hk⟩,λE a w L hr=>Ps.sound K hp hr⟩
    ·cases hk
   ·cases hk
  |exit i|goto l|ret|panic c|outgrown=>exact⟨_,⟨S',rfl,hf,hk⟩,λE a w L hr=>⟨L,hr⟩⟩
end
end
section
open Go.RowKit
section
variable {P : Program} {E : En} {S : St} {a : Act} {w : World} {L : Nat -> Value} {nt : Nat}
def VS.post{sc:SC}{Q Q':Exit->St->Prop}{S:St}(h:VS P nt sc Q S)(hq:∀e A,Q e A->∃A',(∀(E:En) (a:Act) (w:World) (L:Nat->Value),Rel E A a w L->∃L',Rel E A' a w L')/\Q' e A'):VS P nt sc Q' S:=
 λc hs hc E hE hk a w L hr=>wpIn_mono (h c hs hc E hE hk a w L hr) λe a' w' ⟨S',L',h1,h2⟩=>by
  obtain⟨A',h3,h4⟩:=hq e S' h2;obtain⟨L'',h5⟩:=h3 E a' w' L' h1;exact⟨A',L'',h5,h4⟩
def Rel.ai1(h:Rel E S a w L){id:Nat}{cs:List PV}(hid:id<S.N)(hc:(S.H id).c= .box cs):Rel E {S with H:=bR S.H id ⟨(S.H id).av,.box (cs.map nz)⟩} a w L:=by
 have:=(h.vD (w':=w) hid ⟨(S.H id).av,.box (cs.map nz)⟩ (L id) (.inl ⟨rfl,rfl,by rw[hc];rfl⟩) rfl rfl rfl (QI _) (λ_ _ _=>rfl) (λb _ hb=> .inl ⟨by rw[hc];rfl,hb⟩) (λhs hg=>by
  obtain⟨b,cur,T,h1,h2,h3,h4⟩:=h.rF hid hc
  exact⟨b,cur,T,h1,h2,h4,(h3.mono hs hg).nz⟩)).1
 rwa [G3]at this
end
section
variable {U : TU}
variable (K : TK U)
def NC(S:aU U)(ex:Option Nat):(r:qf U)->KV U->Option r.den
 | .one T,x=>EP K S.lk T x
 | .many Ts,x=>(match x with| .eK xs=>UA K S.lk Ts xs|_=>none)
 | .fn a,x=>(match Nat.ble a.depth 9 with|true=>NF K S ex a x|false=>none)
variable {K}
def Sk{S:aU U}{ex:Option Nat}(hex:∀id,ex=some id->∀e k T xs,(S.H id).c≠ .row e k T xs){r:qf U}{x:KV U}{v:r.den}(h:NC K S ex r x=some v):fz S.st.H ex 9 x.pv=vF r v:=by
 cases r with
 |one T=>exact MK hex 7 h
 |many Ts=>
  simp only[NC]at h;split at h
  ·rename_i xs;rw[KV.pv,KV.c5,fz,vF,Wl hex 6 Ts _ v h]
  ·cases h
 |fn a=>
  simp only[NC]at h;split at h
  ·rename_i hd;exact YD hex a 9 x v (QG hd) h
  ·cases h
variable (K)
def NQ(A_s:List (KV U)):aU U:=
 {env:=λt=>(A_s[t]?).getD .undef,H:=λ_=>⟨0,.dead⟩,N:=0}
def ad1(pos:Nat)(cs A_s:List (KV U)):aU U:=
 {env:=λt=>((jx pos [KV.ptr 0 0 0] A_s)[t]?).getD .undef,H:=λid=>(match Nat.beq id 0 with|true=>⟨0,.box cs⟩|false=>⟨0,.dead⟩),N:=1}
def We{ρ:Type}(ex:Option Nat)(rs:List RV)(r:qf U)(k:aU U->r.den->Option ρ)(e:Exit)(S:aU U):Option ρ:=
 match e with
 | .ret| .normal=>(match zq S rs with
  |some x=>(match NC K S ex r x with|some v=>k S v|none=>none)
  |none=>none)
 |_=>none
def Dx(S:aU U):List RV->Bool
 |[]=>true
 | .tmp _::l=>Dx S l
 | .cell t _::l=>(match S.env t with| .ptr id _ _=> !Nat.beq id 0|_=>false)&&Dx S l
 def V9(Γ:List (dP U))(sa:SA U)(rs:List RV)(A_s:List (dv U))(r:qf U)(a:eF A_s):Option r.den:=
 oN K Γ sa [] (some (0,[])) (We K none rs r λ_ v=>some v) (NQ (wo K A_s a))
 def rcK(Γ:List (dP U))(sa:SA U)(rs:List RV)(pos:Nat)(R:U.Ty)(A_s:List (dv U))(r:qf U)(s:U.den R)(a:eF A_s):Option (r.den×U.den R):=
 oN K Γ sa [] (some (0,[])) (We K (some 0) rs r λS v=>(match Dx S rs with
  |true=>(match S.wj 0 0 with
   |some cs=>(match K.dec R sQ cs with|some s'=>some (v,s')|none=>none)
   |none=>none)
  |false=>none)) (ad1 pos (K.gn R s) (wo K A_s a))
 def nwK(Γ:List (dP U))(sa:SA U)(rs:List RV)(A_s:List (dv U))(R:U.Ty)(a:eF A_s):Option (U.den R):=
 oN K Γ sa [] (some (0,[])) (λe S=>(match e with
  | .ret=>(match zq S rs with
   |some (.ptr id av 0)=>(match S.wj id av with|some cs=>K.dec R sQ cs|none=>none)
   |_=>none)
  |_=>none)) (NQ (wo K A_s a))
variable {K}
variable {P : Program} {nt : Nat}
def yI:∀(A_s:List (dv U)) (a:eF A_s),(gU A_s a).length=A_s.length
 |[],_=>by rw[gU];rfl
 |_::l,a=>by rw[gU,QE,yI l a.2,QE]
def Lo(A_s:List (dv U))(a:eF A_s):(NQ (wo K A_s a)).st=dI 0 false [] (gU A_s a):=by
 unfold NQ aU.st dI;congr 1
 ·funext t
  rw[<-Cm K];simp only[Qq,Qu,Tq,QT];cases (wo K A_s a)[t]?<;>rfl
def agT(pos:Nat)(R:U.Ty)(s:U.den R)(A_s:List (dv U))(a:eF A_s):(ad1 pos (K.gn R s) (wo K A_s a)).st=dI pos true (U.pv R s) (gU A_s a):=by
 unfold ad1 aU.st dI;congr 1
 ·funext t
  rw[<-Cm K];simp only[Qt];have:(jx pos [PV.ptr 0 0 0] ((wo K A_s a).map KV.pv))=(jx pos [KV.ptr 0 0 0] (wo K A_s a)).map KV.pv:=by simp[jx,KV.pv]
  rw[this,QT];cases (jx pos [KV.ptr 0 0 0] (wo K A_s a))[t]?<;>rfl
 ·funext id
  cases id with
  |zero=>simp only[and_self,Qt,dj.pv,dS.pv,K.uz]
  |succ id=>simp[Nat.beq,dj.pv,dS.pv]
def Kl{ρ:Type}{ex:Option Nat}{rs:List RV}{r:qf U}{k:aU U->r.den->Option ρ}{e:Exit}{S:aU U}{z:ρ}(h:We K ex rs r k e S=some z):(e= .ret\/e= .normal)/\∃x v,zq S rs=some x/\NC K S ex r x=some v/\k S v=some z:=by
 unfold We at h
 have go:∀{o:Option ρ},o=some z->o=(match zq S rs with
  |some x=>(match NC K S ex r x with|some v=>k S v|none=>none)
  |none=>none)->∃x v,zq S rs=some x/\NC K S ex r x=some v/\k S v=some z:=by
  intro o ho he;rw[ho]at he;replace he:=he.symm;split at he
  ·rename_i x hx;split at he
   ·rename_i v hv;exact⟨x,v,hx,hv,he⟩
   ·cases he
  ·cases he
 split at h
 ·exact⟨.inl rfl,go h rfl⟩
 ·exact⟨.inr rfl,go h rfl⟩
 ·cases h
def Kf{f:FuncId}{Γ:List (dP U)}{sa:SA U}{rs:List RV}{A_s:List (dv U)}{r:qf U}(hf:iL P f nt sa.erase rs)(hok:sa.vL P)(hlen:A_s.length<=nt)(hΓ:u7 P Γ){F:eF A_s->Option r.den}(hF:∀a,V9 K Γ sa rs A_s r a=F a):dP.Sound P (.fn f A_s r F):=by
 refine⟨hf.enters,λa v hv=> ?_⟩
 rw[<-hF a]at hv;refine hf.PO (by simpa[yI]using hlen) ?_
 rw[<-Lo (K:=K)];refine(eM hΓ sa [] _ _ _ _ hok hv).mono ?_;rintro e A ⟨S',rfl,_,hk⟩;obtain⟨he,x,v',h1,h2,h3⟩:=Kl hk;injection h3 with h3
 subst h3
 have hret:Bx rs false (λr' cs''=>r'=vF r v'/\(false=true->cs''=[])) S'.st:=by
  unfold Bx;rw[Ds h1];exact⟨Sk (λid hid=>by cases hid) h2,λh=>by cases h⟩
 rcases he with rfl|rfl<;>exact hret
 def ah7(K:TK U)(Γ:List (dP U))(sa:SA U)(rs:List RV)(A_s:List (dv U))(r:qf U)(a:eF A_s):Option r.den:=
 oN K Γ sa [] (some (0,[])) (We K none rs r λ_ v=>some v) ((NQ (wo K A_s a)).more 1)
def ZN{f:FuncId}{Γ:List (dP U)}{sa:SA U}{rs:List RV}{A_s:List (dv U)}{r:qf U}(hf:iL P f nt sa.erase rs)(hok:sa.vL P)(hlen:A_s.length<=nt)(hΓ:u7 P Γ){F:eF A_s->Option r.den}(hF:∀a,ah7 K Γ sa rs A_s r a=F a):dP.Sound P (.fn f A_s r F):=by
 refine⟨hf.enters,λa v hv=> ?_⟩
 rw[<-hF a]at hv;refine hf.PO (by simpa[yI]using hlen) ?_
 rw[<-Lo (K:=K)];refine(Ss (S':=((NQ (wo K A_s a)).more 1).st) (λE a w L h=>⟨L,h.room 1⟩) (eM hΓ sa [] _ _ _ _ hok hv)).mono ?_
 rintro e A ⟨S',rfl,_,hk⟩;obtain⟨he,x,v',h1,h2,h3⟩:=Kl hk;injection h3 with h3
 subst h3
 have hret:Bx rs false (λr' cs''=>r'=vF r v'/\(false=true->cs''=[])) S'.st:=by
  unfold Bx;rw[Ds h1];exact⟨Sk (λid hid=>by cases hid) h2,λh=>by cases h⟩
 rcases he with rfl|rfl<;>exact hret
def abb{S:aU U}{id av:Nat}{cs:List (KV U)}(hb:S.wj id av=some cs){R:U.Ty}{s:U.den R}(hd:K.dec R sQ cs=some s)(hN:id<S.N):(∀(E:En) (a:Act) (w:World) (L:Nat->Value),Rel E S.st a w L->∃L',Rel E {S.st with H:=bR S.st.H id ⟨av,.box (U.pv R s)⟩} a w L'):=by
 intro E a w L h;obtain⟨h1,h2⟩:=Ac hb;have:=h.ai1 hN h2;rw[h1,(wi (K.oO _ _ _ _ hd)).1]at this;exact⟨L,this⟩
def V6(K:TK U)(R:U.Ty)(s:U.den R):(U.pv R s).all PV.closed=true:=QH.2 λy hy=>gN (K.hZ R s y hy)
def aaJ{f:FuncId}{Γ:List (dP U)}{sa:SA U}{rs:List RV}{pos:Nat}{R:U.Ty}{A_s:List (dv U)}{r:qf U}(hf:iL P f nt sa.erase rs)(hok:sa.vL P)(hlen:1+A_s.length<=nt)(hΓ:u7 P Γ)
  {F:U.den R->eF A_s->Option (r.den×U.den R)} (hF:∀s a,rcK K Γ sa rs pos R A_s r s a=F s a):dP.Sound P (.rc f pos R A_s r F):=by
 refine⟨hf.enters,λs a v s' hv=> ?_⟩
 rw[<-hF s a]at hv;refine hf.PO (by simpa[yI]using hlen) ?_
 rw[<-agT (K:=K)];refine(eM hΓ sa [] _ _ _ _ hok hv).post ?_;rintro e A ⟨S',rfl,hfr,hk⟩;obtain⟨he,x,v',h1,h2,h3⟩:=Kl hk;split at h3
 case h_2=>cases h3
 rename_i hnc;split at h3
 ·rename_i cs hb;split at h3
  ·rename_i s'' hd;injection h3 with h3
   injection h3 with h4 h5
   subst h4 h5;have hN:0<S'.N:=QJ (show 0<1 from Nat.one_pos) hfr.N
   refine⟨_,abb hb hd hN,?_⟩;have h6:=Ds h1
   have hres:∀rs:List RV,Dx S' rs=true->yo {S'.st with H:=bR S'.st.H 0 ⟨0,.box (U.pv R s'')⟩} rs=yo S'.st rs:=by
    intro rs hrs
    induction rs with
    |nil=>rfl
    |cons q rs ih=>
     cases q with
     |tmp t=>simp only[Dx]at hrs;simp only[yo,DK,ih hrs]
     |cell t n=>
      simp only[Dx,Qm]at hrs;have h9:=hrs.1;split at h9
      ·rename_i id av off ht;have hne:id≠0:=by intro e;subst e;simp at h9
       have h10:S'.st.env t= .ptr id av off:=by simp only[aU.st,ht,KV.pv]
       simp only[yo,DK,h10,cY _ _ hne,ih hrs.2]
      ·cases h9
   have hret:Bx rs true (λr' cs''=>r'=vF r v'/\(true=true->cs''=U.pv R s'')) {S'.st with H:=bR S'.st.H 0 ⟨0,.box (U.pv R s'')⟩}:=by
    unfold Bx
    have h7:vg {S'.st with H:=bR S'.st.H 0 ⟨0,.box (U.pv R s'')⟩} rs=some x.pv:=by
     rw[<-h6];unfold vg;have h8:=hres rs hnc;simp only[h8]
    rw[h7];simp only[cr];refine⟨V6 K R s'',?_,by simp⟩
    have hbx:=(Cl hb).2;rw[<-Sk (K:=K) (S:=S') (ex:=some 0) (λid hid=>by injection hid with hid;subst hid;intro e k T xs hq;rw[hbx]at hq;cases hq) h2]
    have hz:∀(n:Nat) (y:PV),fz (bR S'.st.H 0 ⟨0,.box (U.pv R s'')⟩) (some 0) n y=fz S'.st.H (some 0) n y:=by
     intro n
     induction n with
     |zero=>intro y;simp only[fz]
     |succ n ih=>
      intro y;have hu:∀id,¬(some id=some 0)->bR S'.st.H 0 ⟨0,.box (U.pv R s'')⟩ id=S'.st.H id:=λid hid=>cY _ _ (λe=>hid (by rw[e]))
      have hm:fz (bR S'.st.H 0 ⟨0,.box (U.pv R s'')⟩) (some 0) n=fz S'.st.H (some 0) n:=funext ih
      cases y with
      |own id av|ptr id av off=>
       simp only[fz,hm]
       by_cases h0:some id=some 0
       ·rw[Qr (.inl h0),Qr (.inl h0)]
       ·rw[hu id h0]
      |agg cs|eK cs|bI f cs=>simp only[fz,hm]
      |_=>simp only[fz]
    exact hz 9 x.pv
   rcases he with rfl|rfl<;>exact hret
  ·cases h3
 ·cases h3
def abc{f:FuncId}{Γ:List (dP U)}{sa:SA U}{t:Nat}{A_s:List (dv U)}{R:U.Ty}(hf:iL P f nt sa.erase [.tmp t])(hok:sa.vL P)(hlen:A_s.length<=nt)(hΓ:u7 P Γ){F:eF A_s->Option (U.den R)}(hF:∀a,nwK K Γ sa [.tmp t] A_s R a=F a):dP.Sound P (.nw f A_s R F):=by
 refine⟨hf.enters,λa s hv=> ?_⟩
 rw[<-hF a]at hv;refine hf.akl (by simpa[yI]using hlen) ?_
 rw[<-Lo (K:=K)];intro c hs hc E hE hkt a' w L hr;refine wpIn_mono (eM hΓ sa [] _ _ _ _ hok hv c hs hc E hE hkt a' w L hr) ?_;rintro e a2 w2 ⟨A,L2,hrel,S',rfl,_,hk⟩;split at hk
 ·split at hk
  ·rename_i id av hx;split at hk
   ·rename_i cs hb
    have hre:S'.st.env t= .ptr id av 0:=by
     have:=Ds hx;simpa[vg,yo,DK,KV.pv]using this
    have hN:id<S'.N:=by
     have:=hrel.env t;rw[hre]at this;exact(this.pE (show(S'.st.gh L2).V id=av from(Ac hb).1)).1
    obtain⟨L3,h3⟩:=abb hb hk hN E a2 w2 L2 hrel;refine⟨_,L3,h3,?_⟩
    have h7:vg {S'.st with H:=bR S'.st.H id ⟨av,.box (U.pv R s)⟩} [.tmp t]=some (.ptr id av 0):=by
     simp only[vg,yo,DK];rw[hre]
    simp only[Vn];rw[h7];simp only[cr,Qt];exact⟨V6 K R s,trivial⟩
   ·cases hk
  ·cases hk
 ·cases hk
def adZ(e k:Nat)(T:U.Ty)(xs:List (U.den T))(A_s:List (KV U)):aU U:=
 {env:=λt=>(((KV.own 0 0)::A_s)[t]?).getD .undef,H:=λid=>(match Nat.beq id 0 with|true=>⟨0,.row e k T xs⟩|false=>⟨0,.dead⟩),N:=1}
def agS(e k:Nat)(T:U.Ty)(xs:List (U.den T))(A_s:List (dv U))(a:eF A_s):(adZ e k T xs (wo K A_s a)).st=uW e k (xs.map (U.pv T)) (gU A_s a):=by
 unfold adZ aU.st uW;congr 1
 ·funext t
  rw[<-Cm K]
  cases t with
  |zero=>rfl
  |succ t=>
   simp only[List.getElem?_cons_succ,QT];cases (wo K A_s a)[t]?<;>rfl
 ·funext id
  cases id with
  |zero=>simp[dj.pv,dS.pv]
  |succ id=>simp[Nat.beq,dj.pv,dS.pv]
variable (K)
def rowAt(S:aU U)(id av e k:Nat)(T:U.Ty):Option (List (U.den T)):=
 match S.row? id av with
 |some r=>(match Nat.beq r.e e&&Nat.beq r.k k with|true=>yg r.T T r.xs|false=>none)
 |none=>none
def Y5{S:aU U}{id av e k:Nat}{T:U.Ty}{xs:List (U.den T)}(h:rowAt S id av e k T=some xs):(S.H id).av=av/\(S.H id).c= .row e k T xs:=by
 unfold rowAt at h;split at h
 ·rename_i r hr;obtain⟨h1,h2⟩:=EZ hr;split at h
  ·rename_i hek;rw[Qm]at hek;obtain⟨eT,rfl⟩:=nf h;obtain⟨re,rk,rT,rxs⟩:=r;simp only at eT h2 hek;subst eT;exact⟨h1,by rw[h2,QF hek.1,QF hek.2]⟩
  ·cases h
 ·cases h
def ZX{ρ:Type}(rs:List RV)(e k:Nat)(T:U.Ty)(j:List (U.den T)->Option ρ)(en:Exit)(S:aU U):Option ρ:=
 match en with
 | .ret| .normal=>(match zq S rs with
  |some (.own id av)=>(match rowAt S id av e k T with|some ys=>j ys|none=>none)
  |_=>none)
 |_=>none
 def cwK(Γ:List (dP U))(sa:SA U)(rs:List RV)(e k:Nat)(T:U.Ty)(A_s:List (dv U))(xs:List (U.den T))(a:eF A_s):Option (List (U.den T)):=
 oN K Γ sa [] (some (0,[])) (ZX rs e k T λys=>some ys) (adZ e k T xs (wo K A_s a))
 def fwK(Γ:List (dP U))(sa:SA U)(rs:List RV)(A_s:List (dv U))(e k:Nat)(T:U.Ty)(a:eF A_s):Option (List (U.den T)):=
 oN K Γ sa [] (some (0,[])) (ZX rs e k T λys=>some ys) (NQ (wo K A_s a))
variable {K}
def TB{ρ:Type}{rs:List RV}{e k:Nat}{T:U.Ty}{j:List (U.den T)->Option ρ}{en:Exit}{S:aU U}{z:ρ}(h:ZX rs e k T j en S=some z):
  (en= .ret\/en= .normal)/\∃id av ys,zq S rs=some (.own id av)/\(S.H id).av=av/\(S.H id).c= .row e k T ys/\j ys=some z:=by
 have go:(match zq S rs with
  |some (.own id av)=>(match rowAt S id av e k T with|some ys=>j ys|none=>none)
  |_=>none)=some z->∃id av ys,zq S rs=some (.own id av)/\(S.H id).av=av/\(S.H id).c= .row e k T ys/\j ys=some z:=by
  intro he;split at he
  ·rename_i id av hx;split at he
   ·rename_i ys hys;obtain⟨h1,h2⟩:=Y5 hys;exact⟨id,av,ys,hx,h1,h2,he⟩
   ·cases he
  ·cases he
 unfold ZX at h;split at h
 ·exact⟨.inl rfl,go h⟩
 ·exact⟨.inr rfl,go h⟩
 ·cases h
def Wf{rs:List RV}{e k:Nat}{T:U.Ty}{S':aU U}{id av:Nat}{ys:List (U.den T)}(h1:zq S' rs=some (.own id av))(h2:(S'.H id).av=av)(h3:(S'.H id).c= .row e k T ys)(K:TK U):Fx rs e k (λes''=>es''=ys.map (U.pv T)) .ret S'.st:=by
 simp only[Fx];rw[Ds h1];simp only[KV.pv];refine⟨h2,?_⟩;have:(S'.st.H id).c= .row e k (ys.map (U.pv T)):=by simp only[aU.st,dj.pv,h3,dS.pv]
 rw[this];exact⟨rfl,rfl,A9 K T ys,rfl⟩
def abR{f:FuncId}{Γ:List (dP U)}{sa:SA U}{rs:List RV}{e k:Nat}{T:U.Ty}{A_s:List (dv U)}(hf:iL P f nt sa.erase rs)(hok:sa.vL P)(hlen:1+A_s.length<=nt)(hΓ:u7 P Γ)
  {F:List (U.den T)->eF A_s->Option (List (U.den T))} (hF:∀xs a,cwK K Γ sa rs e k T A_s xs a=F xs a):dP.Sound P (.cw f e k T A_s F):=by
 refine⟨hf.enters,λxs a ys hv=> ?_⟩
 rw[<-hF xs a]at hv;refine hf.akn (by simpa[yI]using hlen) ?_
 rw[<-agS (K:=K)];refine(eM hΓ sa [] _ _ _ _ hok hv).mono ?_;rintro en A ⟨S',rfl,_,hk⟩;obtain⟨he,id,av,ys',h1,h2,h3,h5⟩:=TB hk;injection h5 with h5
 subst h5;have hret:=Wf h1 h2 h3 K;rcases he with rfl|rfl<;>exact hret
def abD{f:FuncId}{Γ:List (dP U)}{sa:SA U}{rs:List RV}{e k:Nat}{T:U.Ty}{A_s:List (dv U)}(hf:iL P f nt sa.erase rs)(hok:sa.vL P)(hlen:A_s.length<=nt)(hΓ:u7 P Γ)
  {F:eF A_s->Option (List (U.den T))} (hF:∀a,fwK K Γ sa rs A_s e k T a=F a):dP.Sound P (.fw f A_s e k T F):=by
 refine⟨hf.enters,λa ys hv=> ?_⟩
 rw[<-hF a]at hv;refine hf.akm (by simpa[yI]using hlen) ?_
 rw[<-Lo (K:=K)];refine(eM hΓ sa [] _ _ _ _ hok hv).mono ?_;rintro en A ⟨S',rfl,_,hk⟩;obtain⟨he,id,av,ys',h1,h2,h3,h5⟩:=TB hk;injection h5 with h5
 subst h5;have hret:=Wf h1 h2 h3 K;rcases he with rfl|rfl<;>exact hret
end
end
section
def op{U:TU}(d:Nat)(x:cu)(r:RS U):RS U:= .op ⟨some d,none,x⟩ r
def ops{U:TU}(x:cu)(r:RS U):RS U:= .op ⟨none,none,x⟩ r
def tm(t:Nat):bz:= .tmp t
def ci(n:Int):bz:= .za (.int .i64 n)
def ld{U:TU}(d t:Nat)(r:RS U):RS U:=op d (.load none (tm t)) r
def cl{U:TU}(d f:Nat)(l:List Nat)(r:RS U):RS U:=op d (.call f (l.map tm)) r
def aA(k:IntKind)(a b:Int):Int:=k.wrap (a+b)
def cQ(k:IntKind)(a b:Int):Int:=k.wrap (a - b)
def pX(k:IntKind)(a b:Int):Int:=k.wrap (a*b)
def U7(k:IntKind)(a b:Int):Int:=k.wrap (a.tdiv b)
def Y8(_:IntKind)(a b:Int):Int:=a.tmod b
def F1(k:IntKind)(a b:Int):Int:=k.wrap ((BitVec.ofInt k.bits a&&&BitVec.ofInt k.bits b).toNat)
def sx(k:IntKind)(a b:Int):Int:=k.wrap ((BitVec.ofInt k.bits a|||BitVec.ofInt k.bits b).toNat)
def dE(k:IntKind)(a b:Int):Int:=k.wrap ((BitVec.ofInt k.bits a^^^BitVec.ofInt k.bits b).toNat)
def Br(k:IntKind)(a b:Int):Int:=k.wrap ((BitVec.ofInt k.bits a&&& ~~~ BitVec.ofInt k.bits b).toNat)
def bW(k:IntKind)(a b:Int):Int:=k.wrap (a*2 ^ (min b.toNat k.bits))
def jH(k:IntKind)(a b:Int):Int:=a.fdiv (2 ^ (min b.toNat k.bits))
def br(k:IntKind)(n:Int):Int:=k.wrap n
def dt(a b:Int):Int:=if b<a then b else a
def bF(a b:Int):Int:=if b>a then b else a
def mj(neg:Bool)(a b:Int)(s t:ByteArray):Bool:=xor neg (decide (a=b)&&decide (s=t))
def jv{A R:Type}(B:(A->Option R)->A->Option R):Nat->A->Option R
 |0,_=>none
 |n+1,a=>B (jv B n) a
section
variable {U : TU}
inductive RN (U:TU) where
 |ps (p:Ps U)
 |CI (t:Nat)
def aco(t:Nat):List SG->Option (List SG×SG×List SG)
 |[]=>none
 |o::r=>(match o.op with
  | .pick (.tmp t') _ _=>(match Nat.beq t t' with
   |true=>some ([],o,r)
   |false=>(match aco t r with|some (b,q,r')=>some (o::b,q,r')|none=>none))
  |_=>(match aco t r with|some (b,q,r')=>some (o::b,q,r')|none=>none))
def before(n:Nat):List (Nat×RN U)->List (Nat×RN U)
 |[]=>[]
 |(j,x)::l=>(match Nat.ble n j with|true=>[]|false=>(j,x)::before n l)
def after(n:Nat):List (Nat×RN U)->List (Nat×RN U)
 |[]=>[]
 |(j,x)::l=>(match Nat.ble n j with|true=>(j,x)::l|false=>after n l)
def vG(rD:Bool):Nat->List Nat->Nat->List SG->List (Nat×RN U)->RS U
 |0,_,_,_,_=> .nil
 |f+1,kn,i,[],ns=>(match ns with
  |(_,.ps p)::ns'=> .ps p (vG rD f kn i [] ns')
  |(_,.CI t)::ns'=> .CI t (vG rD f (t::kn) i [] ns')
  |_=> .nil)
 |f+1,kn,i,o::r,ns=>(match(match ns with|(j,_)::_=>Nat.beq j i|[]=>false)with
  |true=>(match ns with
   |(_,.ps p)::ns'=> .ps p (vG rD f kn i (o::r) ns')
   |(_,.CI t)::ns'=> .CI t (vG rD f (t::kn) i (o::r) ns')
   |[]=> .nil)
  |false=>(match o.g with
   |none=> .op o (vG rD f kn (Nat.succ i) r ns)
   |some (t,w)=>(match iI t kn with
    |true=> .op o (vG rD f kn (Nat.succ i) r ns)
    |false=>(match rD with
     |true=> .CI t (vG rD f (t::kn) i (o::r) ns)
     |false=>(match aco t (o::r)with
      |some (b,q,r')=>(match q.op with
       | .pick _ x y=> .ite t w (vG rD f (t::kn) i b (before (Nat.add i b.length) ns)) (q.d.getD 0) q.g x y (vG rD f kn (Nat.succ (Nat.add i b.length)) r' (after (Nat.add i b.length) ns))
       |_=> .nil)
      |none=> .nil)))))
inductive NT (U:TU) where
 |e
 |l (x:NT U)
 |r (x:NT U)
 |b (x y:NT U)
 |ps (p:Ps U) (x:NT U)
 |BW (p:Ps U) (x:NT U)
 |j (J:JS U) (x:NT U)
 |u (n:Nat) (x:NT U)
 |k (J:JS U) (f k:Nat) (nE:Option Nat) (T:U.Ty) (x:NT U)
 |o (J:JS U) (f:Nat) (x:NT U)
 |i (n:Nat) (f:FuncId) (nt:Nat) (rvs:List RV) (x:SA U) (ns ms:List (Nat×RN U))
 |g (ns:List (Nat×RN U))
def NT.lt:NT U->NT U
 | .l x| .b x _=>x
 | .j _ x| .k _ _ _ _ _ x| .o _ _ x| .ps _ x| .BW _ x=>x.lt
 |_=> .e
def NT.rt:NT U->NT U
 | .r x| .b _ x=>x
 | .j _ x| .k _ _ _ _ _ x| .o _ _ x| .ps _ x| .BW _ x=>x.rt
 |_=> .e
def NT.wrap:NT U->SA U->SA U
 | .ps p x,s=> .ps p (x.wrap s)
 | .BW p x,s=> .BW p (x.wrap s)
 |_,s=>s
def NT.core:NT U->NT U
 | .ps _ x| .BW _ x=>x.core
 |x=>x
def eB:SC->NT U->SA U
 | .skip,t=>t.wrap .skip
 | .tF ops,t=>t.wrap (match t.core with
  | .g ns=> .tF (vG false 4000 [] 0 ops ns)
  | .i n f nt rvs x ns ms=>(match ops.drop n with
   |o::r=>(match o.op with
    | .call _ xs=> .inl (vG false 4000 [] 0 (ops.take n) ns) o.d f none xs nt rvs x (vG false 4000 [] 0 r ms)
    | .ud fv xs=> .inl (vG false 4000 [] 0 (ops.take n) ns) o.d f (some fv) xs nt rvs x (vG false 4000 [] 0 r ms)
    |_=> .skip)
   |[]=> .skip)
  |_=> .tF (vG false 4000 [] 0 ops []))
 | .rD un ops,t=>t.wrap (.rD un (match t.core with| .g ns=>vG true 4000 [] 0 ops ns|_=>vG true 4000 [] 0 ops []))
 | .seq x y,t=>t.wrap (match t.core with
  | .j J u=> .join J (eB x u.lt) (eB y u.rt)
  |u=> .seq (eB x u.lt) (eB y u.rt))
 | .cond c x y,t=>t.wrap (.cond c (eB x t.lt) (eB y t.rt))
 | .block id x,t=>t.wrap (.block id (eB x t.lt))
 | .loop x,t=>t.wrap (match t.core with
  | .j J u=> .loop J (eB x u.lt)
  | .u n t=> .Mb n (eB x t.lt)
  |_=> .loop ⟨[],[]⟩ (eB x t.lt))
 | .Gf g ps x y,t=>t.wrap (match t.core with
  | .k J f k nE T u=>(match g with
   | .tmp tg=> .back J f k nE T tg (ps.headD 0) (ps.tail.headD 0) (eB x u.lt) (eB y u.rt)
   |_=> .skip)
  |_=> .skip)
 | .exit id,t=>t.wrap (.exit id)
 | .ret,t=>t.wrap .ret
def fe(P:Program)(nt:Nat)(hs:List Nat)(fn:Func):SC:=(fn.body.bind (aW P nt hs)).getD .skip
end
section
variable {U : TU} {P : Program}
structure KS (U:TU) (P:Program) where
 k:dP U
 s:k.Sound P
def KS.ks:List (KS U P)->List (dP U)
 |[]=>[]
 |x::l=>x.k::KS.ks l
def KS.all:∀l:List (KS U P),u7 P (KS.ks l)
 |[]=>trivial
 |x::l=>⟨x.s,KS.all l⟩
variable {K : TK U} {f : FuncId} {A_s : List (dv U)} {r : qf U} {e k : Nat} {T R : U.Ty}
def fk{f nt:Nat}{c:SC}{rs:List RV}(fn:Func)(hs:List Nat)(hf:P.funcs[f]?=some fn)(h0:fn.ntmps=nt:=by rfl)(h1:(fn.body.bind (aW P nt hs))=some c:=by kernel_rfl)(h2:mK P fn.results.toList=some rs:=by kernel_rfl)(h3:(fn.name== "runtime.NumGoroutine")=false:=by kernel_rfl):iL P f nt c rs:=⟨fn,hs,hf,h0,h1,h2,h3⟩
def fnS(sa:SA U)(nt:Nat)(rs:List RV)(G:List (KS U P))(hf:iL P f nt sa.erase rs)(hok:sa.dz=true:=by kernel_rfl)(hlen:A_s.length<=nt:=by decide){F:eF A_s->Option r.den}(hF:V9 K (KS.ks G) sa rs A_s r=F:=by kernel_rfl):dP.Sound P (.fn f A_s r F):=
 Kf hf (oI hok) hlen (KS.all G) λa=>congrFun hF a
def aki(sa:SA U)(nt:Nat)(rs:List RV)(G:List (KS U P))(l:List (FuncId×Nat×SC×List RV))(hi:w4 P l)(hf:iL P f nt sa.erase rs)(hok:sa.A8=true:=by kernel_rfl)(hl:sa.R9=l:=by kernel_rfl)(hlen:A_s.length<=nt:=by decide){F:eF A_s->Option r.den}(hF:ah7 K (KS.ks G) sa rs A_s r=F:=by kernel_rfl):dP.Sound P (.fn f A_s r F):=
 ZN hf (A7 hok (by rw[hl];exact hi)) hlen (KS.all G) λa=>congrFun hF a
def rcS{pos:Nat}(sa:SA U)(nt:Nat)(rs:List RV)(G:List (KS U P))(hf:iL P f nt sa.erase rs)(hok:sa.dz=true:=by kernel_rfl)(hlen:1+A_s.length<=nt:=by decide){F:U.den R->eF A_s->Option (r.den×U.den R)}(hF:rcK K (KS.ks G) sa rs pos R A_s r=F:=by kernel_rfl):dP.Sound P (.rc f pos R A_s r F):=
 aaJ hf (oI hok) hlen (KS.all G) λs a=>congrFun (congrFun hF s) a
def roS{pos:Nat}{F:U.den R->eF A_s->Option (r.den×U.den R)}(h:dP.Sound P (.rc f pos R A_s r F))(hs:∀s a q,F s a=some q->q.2=s):dP.Sound P (.ro f pos R A_s r F):=
 ⟨h.1,λs a v s' hv=>⟨hs s a _ hv,h.2 s a v s' hv⟩⟩
def nwS(sa:SA U)(nt t:Nat)(G:List (KS U P))(hf:iL P f nt sa.erase [.tmp t])(hok:sa.dz=true:=by kernel_rfl)(hlen:A_s.length<=nt:=by decide){F:eF A_s->Option (U.den R)}(hF:nwK K (KS.ks G) sa [.tmp t] A_s R=F:=by kernel_rfl):dP.Sound P (.nw f A_s R F):=
 abc hf (oI hok) hlen (KS.all G) λa=>congrFun hF a
def Wp(sa:SA U)(nt:Nat)(rs:List RV)(G:List (KS U P))(hf:iL P f nt sa.erase rs)(hok:sa.dz=true:=by kernel_rfl)(hlen:1+A_s.length<=nt:=by decide){F:List (U.den T)->eF A_s->Option (List (U.den T))}(hF:cwK K (KS.ks G) sa rs e k T A_s=F:=by kernel_rfl):dP.Sound P (.cw f e k T A_s F):=
 abR hf (oI hok) hlen (KS.all G) λs a=>congrFun (congrFun hF s) a
def Yu(sa:SA U)(nt:Nat)(rs:List RV)(G:List (KS U P))(hf:iL P f nt sa.erase rs)(hok:sa.dz=true:=by kernel_rfl)(hlen:A_s.length<=nt:=by decide){F:eF A_s->Option (List (U.den T))}(hF:fwK K (KS.ks G) sa rs A_s e k T=F:=by kernel_rfl):dP.Sound P (.fw f A_s e k T F):=
 abD hf (oI hok) hlen (KS.all G) λa=>congrFun hF a
def fnR(sa:SA U)(nt:Nat)(rs:List RV)(G:List (KS U P))(hf:iL P f nt sa.erase rs)(hok:sa.dz=true:=by kernel_rfl)(hlen:A_s.length<=nt:=by decide){B:(eF A_s->Option r.den)->eF A_s->Option r.den}(hB:(λg=>V9 K (.fn f A_s r g::KS.ks G) sa rs A_s r)=B):∀n,dP.Sound P (.fn f A_s r (jv B n))
 |0=>⟨hf.enters,λa r h=>by cases h⟩
 |n+1=>Kf (K:=K) (Γ:= .fn f A_s r (jv B n)::KS.ks G) (F:=jv B (n+1)) hf (oI hok) hlen ⟨fnR sa nt rs G hf hok hlen hB n,KS.all G⟩ λa=>congrFun (congrFun hB (jv B n)) a
def z6(sa:SA U)(nt:Nat)(rs:List RV)(G:List (KS U P))(hf:iL P f nt sa.erase rs)(hok:sa.dz=true:=by kernel_rfl)(hlen:A_s.length<=nt:=by decide){B:(eF A_s->Option r.den)->eF A_s->Option r.den}(hB:(λg=>V9 K (.fn f A_s r g::KS.ks G) sa rs A_s r)=B:=by kernel_rfl){F:eF A_s->Option r.den}(hF:∀a,∃n,F a=jv B n a):dP.Sound P (.fn f A_s r F):=
 ⟨hf.enters,λa r h=>by
  obtain⟨n,hn⟩:=hF a;rw[hn]at h
  exact(fnR sa nt rs G hf hok hlen hB n).2 a r h⟩
def ZM(sa:SA U)(nt:Nat)(rs:List RV)(G:(g:eF A_s->Option r.den)->dP.Sound P (.fn f A_s r g)->List (KS U P))(hf:iL P f nt sa.erase rs)(hok:sa.dz=true:=by kernel_rfl)(hlen:A_s.length<=nt:=by decide){B:(eF A_s->Option r.den)->eF A_s->Option r.den}(hB:(λg h=>V9 K (.fn f A_s r g::KS.ks (G g h)) sa rs A_s r)=λg _=>B g):∀n,dP.Sound P (.fn f A_s r (jv B n))
 |0=>⟨hf.enters,λa r h=>by cases h⟩
 |n+1=>Kf (K:=K) (Γ:= .fn f A_s r (jv B n)::KS.ks (G (jv B n) (ZM sa nt rs G hf hok hlen hB n))) (F:=jv B (n+1)) hf (oI hok) hlen ⟨ZM sa nt rs G hf hok hlen hB n,KS.all _⟩ λa=>congrFun (congrFun (congrFun hB (jv B n)) (ZM sa nt rs G hf hok hlen hB n)) a
def ajj(sa:SA U)(nt:Nat)(rs:List RV)(G:(g:eF A_s->Option r.den)->dP.Sound P (.fn f A_s r g)->List (KS U P))(hf:iL P f nt sa.erase rs)(hok:sa.dz=true:=by kernel_rfl)(hlen:A_s.length<=nt:=by decide){B:(eF A_s->Option r.den)->eF A_s->Option r.den}(hB:(λg h=>V9 K (.fn f A_s r g::KS.ks (G g h)) sa rs A_s r)=(λg _=>B g):=by kernel_rfl){F:eF A_s->Option r.den}(hF:∀a,∃n,F a=jv B n a):dP.Sound P (.fn f A_s r F):=
 ⟨hf.enters,λa r h=>by
  obtain⟨n,hn⟩:=hF a;rw[hn]at h
  exact(ZM sa nt rs G hf hok hlen hB n).2 a r h⟩
end
end
section
structure aj where
 aI:Int
 bb:(List Int)
 aO:(List aj)
theorem aj.eta(x:aj):aj.mk x.aI x.bb x.aO=x:=by cases x;rfl
@[reducible] def aq (x:aj):aj:=aj.mk x.aI x.bb x.aO
structure az where
 al:Int
 aH:Int
 aa:aj
 bj:(List ByteArray)
 aF:(List ByteArray)
@[simp] def az.eta (x:az):az.mk x.al x.aH x.aa x.bj x.aF=x:=rfl
structure au where
 al:Int
 aK:Int
 Round:Int
 aH:Int
 aa:aj
 lI:ByteArray
 bj:(List ByteArray)
 aF:(List ByteArray)
 aR:(List ByteArray)
 ar:(List az)
@[simp] def au.eta (x:au):au.mk x.al x.aK x.Round x.aH x.aa x.lI x.bj x.aF x.aR x.ar=x:=rfl
structure ah where
 ai:Int
 Value:ByteArray
@[simp] def ah.eta (x:ah):ah.mk x.ai x.Value=x:=rfl
structure ak where
 al:Int
 aK:Int
 aH:Int
 aa:aj
 bx:Int
 ae:ah
 ao:ah
 aC:ah
 aZ:Int
 bq:Int
@[simp] def ak.eta (x:ak):ak.mk x.al x.aK x.aH x.aa x.bx x.ae x.ao x.aC x.aZ x.bq=x:=rfl
structure ab where
 al:Int
 aK:Int
 aH:Int
 aa:aj
 aQ:Int
 ae:ah
 ao:ah
 aC:ah
 ax:ah
 aZ:Int
 bq:Int
 bg:ByteArray
 ar:(List ak)
@[simp] def ab.eta (x:ab):ab.mk x.al x.aK x.aH x.aa x.aQ x.ae x.ao x.aC x.ax x.aZ x.bq x.bg x.ar=x:=rfl
structure dp where
 ai:Int
 CZ:Int
@[simp] def dp.eta (x:dp):dp.mk x.ai x.CZ=x:=rfl
structure aM where
 aB:au
 af:ab
 Timer:dp
 Round:Int
 Next:Int
 F4:Bool
 Value:ByteArray
@[simp] def aM.eta (x:aM):aM.mk x.aB x.af x.Timer x.Round x.Next x.F4 x.Value=x:=rfl
structure aw where
 al:Int
 bV:Bool
 aa:aj
 aE:(List aM)
@[simp] def aw.eta (x:aw):aw.mk x.al x.bV x.aa x.aE=x:=rfl
structure eC where
 bx:Int
 aK:Int
 aX:az
 ay:ak
@[simp] def eC.eta (x:eC):eC.mk x.bx x.aK x.aX x.ay=x:=rfl
structure kS where
 c0:aw
 c1:aw
 c2:aw
 c3:aw
@[simp] def kS.eta (x:kS):kS.mk x.c0 x.c1 x.c2 x.c3=x:=rfl
structure qd where
 c0:Int
 c1:Int
@[simp] def qd.eta (x:qd):qd.mk x.c0 x.c1=x:=rfl
structure qe where
 c0:qd
 c1:qd
@[simp] def qe.eta (x:qe):qe.mk x.c0 x.c1=x:=rfl
structure sn where
 c0:eC
 c1:eC
@[simp] def sn.eta (x:sn):sn.mk x.c0 x.c1=x:=rfl
structure dR where
 L:(List Int)
 At:Int
@[simp] def dR.eta (x:dR):dR.mk x.L x.At=x:=rfl
structure aL where
 af:ab
@[simp] def aL.eta (x:aL):aL.mk x.af=x:=rfl
structure bh where
 fq:Bool
 aa:aj
@[simp] def bh.eta (x:bh):bh.mk x.fq x.aa=x:=rfl
structure bd where
 bn:(List bh)
@[simp] def bd.eta (x:bd):bd.mk x.bn=x:=rfl
structure bK where
 ay:ak
@[simp] def bK.eta (x:bK):bK.mk x.ay=x:=rfl
structure gO where
 al:Int
 View:bd
 ar:(List bK)
@[simp] def gO.eta (x:gO):gO.mk x.al x.View x.ar=x:=rfl
structure mB where
 uf:Int
 Value:Int
@[simp] def mB.eta (x:mB):mB.mk x.uf x.Value=x:=rfl
structure cF where
 al:Int
 aH:Int
 aa:aj
 bj:(List mB)
 aF:(List mB)
@[simp] def cF.eta (x:cF):cF.mk x.al x.aH x.aa x.bj x.aF=x:=rfl
structure Ij where
 ba:Int
 low:Int
 cm:Int
 aT:ah
 eR:ah
 bX:ah
 dZ:ah
@[simp] def Ij.eta (x:Ij):Ij.mk x.ba x.low x.cm x.aT x.eR x.bX x.dZ=x:=rfl
structure so where
 c0:ah
 c1:ah
@[simp] def so.eta (x:so):so.mk x.c0 x.c1=x:=rfl
structure eV where
 TS:Int
 TT:Int
@[simp] def eV.eta (x:eV):eV.mk x.TS x.TT=x:=rfl
attribute [simp] aj.eta
inductive n4 where
 |aa
 |aX
 |aB
 |ae
 |ay
 |af
 |Timer
 |aK
 |ku
 |wq
 |iU
 |tC
 |np
 |py
 |Src
 |xW
 |s7
 |Config
 |wY
 |Seen
 |Claim
 |Message
 |lI
 |pz
 |EC
 deriving DecidableEq
inductive Ty where
 |i (k:IntKind)
 |bool
 |str
 |sl (t:Ty)
 |mp (a b:Ty)
 |st (n:n4)
def n4.den:n4->Type
 | .aa=>aj
 | .aX=>az
 | .aB=>au
 | .ae=>ah
 | .ay=>ak
 | .af=>ab
 | .Timer=>dp
 | .aK=>aM
 | .ku=>aw
 | .wq=>eC
 | .iU=>kS
 | .tC=>qd
 | .np=>qe
 | .py=>sn
 | .Src=>dR
 | .xW=>aL
 | .s7=>bh
 | .Config=>bd
 | .wY=>bK
 | .Seen=>gO
 | .Claim=>mB
 | .Message=>cF
 | .lI=>Ij
 | .pz=>so
 | .EC=>eV
def Ty.den:Ty->Type
 | .i _=>Int
 | .bool=>Bool
 | .str=>ByteArray
 | .sl t=>List t.den
 | .mp a b=>List (a.den×b.den)
 | .st n=>n.den
def Ty.beq:Ty->Ty->Bool
 | .i k,.i k'=>decide (k=k')
 | .bool,.bool| .str,.str=>true
 | .sl t,.sl t'=>Ty.beq t t'
 | .mp a b,.mp a' b'=>Ty.beq a a'&&Ty.beq b b'
 | .st n,.st n'=>decide (n=n')
 |_,_=>false
def Ty.eq_of_beq:∀{a b:Ty},Ty.beq a b=true->a=b
 | .i k,.i k',h=>by rw[of_decide_eq_true h]
 | .bool,.bool,_| .str,.str,_=>rfl
 | .sl t,.sl t',h=>by rw[Ty.eq_of_beq (a:=t) (b:=t') h]
 | .mp a b,.mp a' b',h=>by
  rw[Ty.beq,Qm]at h;rw[Ty.eq_of_beq (a:=a) (b:=a') h.1,Ty.eq_of_beq (a:=b) (b:=b') h.2]
 | .st n,.st n',h=>by rw[of_decide_eq_true h]
 | .i _,.bool,h| .i _,.str,h| .i _,.sl _,h| .i _,.st _,h| .bool,.i _,h| .bool,.str,h| .bool,.sl _,h| .bool,.st _,h| .str,.i _,h| .str,.bool,h| .str,.sl _,h| .str,.st _,h| .sl _,.i _,h| .sl _,.bool,h| .sl _,.str,h| .sl _,.st _,h| .st _,.i _,h| .st _,.bool,h| .st _,.str,h| .st _,.sl _,h| .mp _ _,.i _,h| .i _,.mp _ _,h| .mp _ _,.bool,h| .bool,.mp _ _,h| .mp _ _,.str,h| .str,.mp _ _,h| .mp _ _,.sl _,h| .sl _,.mp _ _,h| .mp _ _,.st _,h| .st _,.mp _ _,h=>by cases h
def Ty.Ib:∀(a:Ty),Ty.beq a a=true
 | .i k=>Qg rfl
 | .bool| .str=>rfl
 | .sl t=>Ty.Ib t
 | .mp a b=>by rw[Ty.beq,Ty.Ib a,Ty.Ib b];rfl
 | .st n=>Qg rfl
def Ty.YB(a b:Ty):Decidable (a=b):=
 match h:Ty.beq a b with
 |true=>isTrue (Ty.eq_of_beq h)
 |false=>isFalse λe=>by rw[e,Ty.Ib]at h;cases h
@[reducible] def Ez:List Ty->Type
 |[]=>Unit
 |t::l=>t.den×Ez l
def n4.leaves:n4->List Ty
 | .aa=>[(Ty.i .i64),(Ty.sl (Ty.i .i64)),(Ty.sl (Ty.st .aa))]
 | .aX=>[(Ty.i .i64),(Ty.i .i64),(Ty.i .i64),(Ty.sl (Ty.i .i64)),(Ty.sl (Ty.st .aa)),(Ty.sl Ty.str),(Ty.sl Ty.str)]
 | .aB=>[(Ty.i .i64),(Ty.i .i64),(Ty.i .i64),(Ty.i .i64),(Ty.i .i64),(Ty.sl (Ty.i .i64)),(Ty.sl (Ty.st .aa)),Ty.str,(Ty.sl Ty.str),(Ty.sl Ty.str),(Ty.sl Ty.str),(Ty.sl (Ty.st .aX))]
 | .ae=>[(Ty.i .i64),Ty.str]
 | .ay=>[(Ty.i .i64),(Ty.i .i64),(Ty.i .i64),(Ty.i .i64),(Ty.sl (Ty.i .i64)),(Ty.sl (Ty.st .aa)),(Ty.i .i64),(Ty.i .i64),Ty.str,(Ty.i .i64),Ty.str,(Ty.i .i64),Ty.str,(Ty.i .i64),(Ty.i .i64)]
 | .af=>[(Ty.i .i64),(Ty.i .i64),(Ty.i .i64),(Ty.i .i64),(Ty.sl (Ty.i .i64)),(Ty.sl (Ty.st .aa)),(Ty.i .i64),(Ty.i .i64),Ty.str,(Ty.i .i64),Ty.str,(Ty.i .i64),Ty.str,(Ty.i .i64),Ty.str,(Ty.i .i64),(Ty.i .i64),Ty.str,(Ty.sl (Ty.st .ay))]
 | .Timer=>[(Ty.i .i64),(Ty.i .i64)]
 | .aK=>[(Ty.i .i64),(Ty.i .i64),(Ty.i .i64),(Ty.i .i64),(Ty.i .i64),(Ty.sl (Ty.i .i64)),(Ty.sl (Ty.st .aa)),Ty.str,(Ty.sl Ty.str),(Ty.sl Ty.str),(Ty.sl Ty.str),(Ty.sl (Ty.st .aX)),(Ty.i .i64),(Ty.i .i64),(Ty.i .i64),(Ty.i .i64),(Ty.sl (Ty.i .i64)),(Ty.sl (Ty.st .aa)),(Ty.i .i64),(Ty.i .i64),Ty.str,(Ty.i .i64),Ty.str,(Ty.i .i64),Ty.str,(Ty.i .i64),Ty.str,(Ty.i .i64),(Ty.i .i64),Ty.str,(Ty.sl (Ty.st .ay)),(Ty.i .i64),(Ty.i .i64),(Ty.i .i64),(Ty.i .i64),Ty.bool,Ty.str]
 | .ku=>[(Ty.i .i64),Ty.bool,(Ty.i .i64),(Ty.sl (Ty.i .i64)),(Ty.sl (Ty.st .aa)),(Ty.sl (Ty.st .aK))]
 | .wq=>[(Ty.i .i64),(Ty.i .i64),(Ty.i .i64),(Ty.i .i64),(Ty.i .i64),(Ty.sl (Ty.i .i64)),(Ty.sl (Ty.st .aa)),(Ty.sl Ty.str),(Ty.sl Ty.str),(Ty.i .i64),(Ty.i .i64),(Ty.i .i64),(Ty.i .i64),(Ty.sl (Ty.i .i64)),(Ty.sl (Ty.st .aa)),(Ty.i .i64),(Ty.i .i64),Ty.str,(Ty.i .i64),Ty.str,(Ty.i .i64),Ty.str,(Ty.i .i64),(Ty.i .i64)]
 | .iU=>[(Ty.i .i64),Ty.bool,(Ty.i .i64),(Ty.sl (Ty.i .i64)),(Ty.sl (Ty.st .aa)),(Ty.sl (Ty.st .aK)),(Ty.i .i64),Ty.bool,(Ty.i .i64),(Ty.sl (Ty.i .i64)),(Ty.sl (Ty.st .aa)),(Ty.sl (Ty.st .aK)),(Ty.i .i64),Ty.bool,(Ty.i .i64),(Ty.sl (Ty.i .i64)),(Ty.sl (Ty.st .aa)),(Ty.sl (Ty.st .aK)),(Ty.i .i64),Ty.bool,(Ty.i .i64),(Ty.sl (Ty.i .i64)),(Ty.sl (Ty.st .aa)),(Ty.sl (Ty.st .aK))]
 | .tC=>[(Ty.i .i64),(Ty.i .i64)]
 | .np=>[(Ty.i .i64),(Ty.i .i64),(Ty.i .i64),(Ty.i .i64)]
 | .py=>[(Ty.i .i64),(Ty.i .i64),(Ty.i .i64),(Ty.i .i64),(Ty.i .i64),(Ty.sl (Ty.i .i64)),(Ty.sl (Ty.st .aa)),(Ty.sl Ty.str),(Ty.sl Ty.str),(Ty.i .i64),(Ty.i .i64),(Ty.i .i64),(Ty.i .i64),(Ty.sl (Ty.i .i64)),(Ty.sl (Ty.st .aa)),(Ty.i .i64),(Ty.i .i64),Ty.str,(Ty.i .i64),Ty.str,(Ty.i .i64),Ty.str,(Ty.i .i64),(Ty.i .i64),(Ty.i .i64),(Ty.i .i64),(Ty.i .i64),(Ty.i .i64),(Ty.i .i64),(Ty.sl (Ty.i .i64)),(Ty.sl (Ty.st .aa)),(Ty.sl Ty.str),(Ty.sl Ty.str),(Ty.i .i64),(Ty.i .i64),(Ty.i .i64),(Ty.i .i64),(Ty.sl (Ty.i .i64)),(Ty.sl (Ty.st .aa)),(Ty.i .i64),(Ty.i .i64),Ty.str,(Ty.i .i64),Ty.str,(Ty.i .i64),Ty.str,(Ty.i .i64),(Ty.i .i64)]
 | .Src=>[(Ty.sl (Ty.i .i64)),(Ty.i .i64)]
 | .xW=>[(Ty.i .i64),(Ty.i .i64),(Ty.i .i64),(Ty.i .i64),(Ty.sl (Ty.i .i64)),(Ty.sl (Ty.st .aa)),(Ty.i .i64),(Ty.i .i64),Ty.str,(Ty.i .i64),Ty.str,(Ty.i .i64),Ty.str,(Ty.i .i64),Ty.str,(Ty.i .i64),(Ty.i .i64),Ty.str,(Ty.sl (Ty.st .ay))]
 | .s7=>[Ty.bool,(Ty.i .i64),(Ty.sl (Ty.i .i64)),(Ty.sl (Ty.st .aa))]
 | .Config=>[(Ty.sl (Ty.st .s7))]
 | .wY=>[(Ty.i .i64),(Ty.i .i64),(Ty.i .i64),(Ty.i .i64),(Ty.sl (Ty.i .i64)),(Ty.sl (Ty.st .aa)),(Ty.i .i64),(Ty.i .i64),Ty.str,(Ty.i .i64),Ty.str,(Ty.i .i64),Ty.str,(Ty.i .i64),(Ty.i .i64)]
 | .Seen=>[(Ty.i .i64),(Ty.sl (Ty.st .s7)),(Ty.sl (Ty.st .wY))]
 | .Claim=>[(Ty.i .i64),(Ty.i .i64)]
 | .Message=>[(Ty.i .i64),(Ty.i .i64),(Ty.i .i64),(Ty.sl (Ty.i .i64)),(Ty.sl (Ty.st .aa)),(Ty.sl (Ty.st .Claim)),(Ty.sl (Ty.st .Claim))]
 | .lI=>[(Ty.i .i64),(Ty.i .i64),(Ty.i .i64),(Ty.i .i64),Ty.str,(Ty.i .i64),Ty.str,(Ty.i .i64),Ty.str,(Ty.i .i64),Ty.str]
 | .pz=>[(Ty.i .i64),Ty.str,(Ty.i .i64),Ty.str]
 | .EC=>[(Ty.i .i64),(Ty.i .i64)]
def n4.toL:(n:n4)->n.den->Ez n.leaves
 | .aa,(v:aj)=>(v.aI,v.bb,v.aO,())
 | .aX,(v:az)=>(v.al,v.aH,v.aa.aI,v.aa.bb,v.aa.aO,v.bj,v.aF,())
 | .aB,(v:au)=>(v.al,v.aK,v.Round,v.aH,v.aa.aI,v.aa.bb,v.aa.aO,v.lI,v.bj,v.aF,v.aR,v.ar,())
 | .ae,(v:ah)=>(v.ai,v.Value,())
 | .ay,(v:ak)=>(v.al,v.aK,v.aH,v.aa.aI,v.aa.bb,v.aa.aO,v.bx,v.ae.ai,v.ae.Value,v.ao.ai,v.ao.Value,v.aC.ai,v.aC.Value,v.aZ,v.bq,())
 | .af,(v:ab)=>(v.al,v.aK,v.aH,v.aa.aI,v.aa.bb,v.aa.aO,v.aQ,v.ae.ai,v.ae.Value,v.ao.ai,v.ao.Value,v.aC.ai,v.aC.Value,v.ax.ai,v.ax.Value,v.aZ,v.bq,v.bg,v.ar,())
 | .Timer,(v:dp)=>(v.ai,v.CZ,())
 | .aK,(v:aM)=>(v.aB.al,v.aB.aK,v.aB.Round,v.aB.aH,v.aB.aa.aI,v.aB.aa.bb,v.aB.aa.aO,v.aB.lI,v.aB.bj,v.aB.aF,v.aB.aR,v.aB.ar,v.af.al,v.af.aK,v.af.aH,v.af.aa.aI,v.af.aa.bb,v.af.aa.aO,v.af.aQ,v.af.ae.ai,v.af.ae.Value,v.af.ao.ai,v.af.ao.Value,v.af.aC.ai,v.af.aC.Value,v.af.ax.ai,v.af.ax.Value,v.af.aZ,v.af.bq,v.af.bg,v.af.ar,v.Timer.ai,v.Timer.CZ,v.Round,v.Next,v.F4,v.Value,())
 | .ku,(v:aw)=>(v.al,v.bV,v.aa.aI,v.aa.bb,v.aa.aO,v.aE,())
 | .wq,(v:eC)=>(v.bx,v.aK,v.aX.al,v.aX.aH,v.aX.aa.aI,v.aX.aa.bb,v.aX.aa.aO,v.aX.bj,v.aX.aF,v.ay.al,v.ay.aK,v.ay.aH,v.ay.aa.aI,v.ay.aa.bb,v.ay.aa.aO,v.ay.bx,v.ay.ae.ai,v.ay.ae.Value,v.ay.ao.ai,v.ay.ao.Value,v.ay.aC.ai,v.ay.aC.Value,v.ay.aZ,v.ay.bq,())
 | .iU,(v:kS)=>(v.c0.al,v.c0.bV,v.c0.aa.aI,v.c0.aa.bb,v.c0.aa.aO,v.c0.aE,v.c1.al,v.c1.bV,v.c1.aa.aI,v.c1.aa.bb,v.c1.aa.aO,v.c1.aE,v.c2.al,v.c2.bV,v.c2.aa.aI,v.c2.aa.bb,v.c2.aa.aO,v.c2.aE,v.c3.al,v.c3.bV,v.c3.aa.aI,v.c3.aa.bb,v.c3.aa.aO,v.c3.aE,())
 | .tC,(v:qd)=>(v.c0,v.c1,())
 | .np,(v:qe)=>(v.c0.c0,v.c0.c1,v.c1.c0,v.c1.c1,())
 | .py,(v:sn)=>(v.c0.bx,v.c0.aK,v.c0.aX.al,v.c0.aX.aH,v.c0.aX.aa.aI,v.c0.aX.aa.bb,v.c0.aX.aa.aO,v.c0.aX.bj,v.c0.aX.aF,v.c0.ay.al,v.c0.ay.aK,v.c0.ay.aH,v.c0.ay.aa.aI,v.c0.ay.aa.bb,v.c0.ay.aa.aO,v.c0.ay.bx,v.c0.ay.ae.ai,v.c0.ay.ae.Value,v.c0.ay.ao.ai,v.c0.ay.ao.Value,v.c0.ay.aC.ai,v.c0.ay.aC.Value,v.c0.ay.aZ,v.c0.ay.bq,v.c1.bx,v.c1.aK,v.c1.aX.al,v.c1.aX.aH,v.c1.aX.aa.aI,v.c1.aX.aa.bb,v.c1.aX.aa.aO,v.c1.aX.bj,v.c1.aX.aF,v.c1.ay.al,v.c1.ay.aK,v.c1.ay.aH,v.c1.ay.aa.aI,v.c1.ay.aa.bb,v.c1.ay.aa.aO,v.c1.ay.bx,v.c1.ay.ae.ai,v.c1.ay.ae.Value,v.c1.ay.ao.ai,v.c1.ay.ao.Value,v.c1.ay.aC.ai,v.c1.ay.aC.Value,v.c1.ay.aZ,v.c1.ay.bq,())
 | .Src,(v:dR)=>(v.L,v.At,())
 | .xW,(v:aL)=>(v.af.al,v.af.aK,v.af.aH,v.af.aa.aI,v.af.aa.bb,v.af.aa.aO,v.af.aQ,v.af.ae.ai,v.af.ae.Value,v.af.ao.ai,v.af.ao.Value,v.af.aC.ai,v.af.aC.Value,v.af.ax.ai,v.af.ax.Value,v.af.aZ,v.af.bq,v.af.bg,v.af.ar,())
 | .s7,(v:bh)=>(v.fq,v.aa.aI,v.aa.bb,v.aa.aO,())
 | .Config,(v:bd)=>(v.bn,())
 | .wY,(v:bK)=>(v.ay.al,v.ay.aK,v.ay.aH,v.ay.aa.aI,v.ay.aa.bb,v.ay.aa.aO,v.ay.bx,v.ay.ae.ai,v.ay.ae.Value,v.ay.ao.ai,v.ay.ao.Value,v.ay.aC.ai,v.ay.aC.Value,v.ay.aZ,v.ay.bq,())
 | .Seen,(v:gO)=>(v.al,v.View.bn,v.ar,())
 | .Claim,(v:mB)=>(v.uf,v.Value,())
 | .Message,(v:cF)=>(v.al,v.aH,v.aa.aI,v.aa.bb,v.aa.aO,v.bj,v.aF,())
 | .lI,(v:Ij)=>(v.ba,v.low,v.cm,v.aT.ai,v.aT.Value,v.eR.ai,v.eR.Value,v.bX.ai,v.bX.Value,v.dZ.ai,v.dZ.Value,())
 | .pz,(v:so)=>(v.c0.ai,v.c0.Value,v.c1.ai,v.c1.Value,())
 | .EC,(v:eV)=>(v.TS,v.TT,())
def n4.ofL:(n:n4)->Ez n.leaves->n.den
 | .aa,v=>(aj.mk v.1 v.2.1 v.2.2.1)
 | .aX,v=>(az.mk v.1 v.2.1 (aj.mk v.2.2.1 v.2.2.2.1 v.2.2.2.2.1) v.2.2.2.2.2.1 v.2.2.2.2.2.2.1)
 | .aB,v=>(au.mk v.1 v.2.1 v.2.2.1 v.2.2.2.1 (aj.mk v.2.2.2.2.1 v.2.2.2.2.2.1 v.2.2.2.2.2.2.1) v.2.2.2.2.2.2.2.1 v.2.2.2.2.2.2.2.2.1 v.2.2.2.2.2.2.2.2.2.1 v.2.2.2.2.2.2.2.2.2.2.1 v.2.2.2.2.2.2.2.2.2.2.2.1)
 | .ae,v=>(ah.mk v.1 v.2.1)
 | .ay,v=>(ak.mk v.1 v.2.1 v.2.2.1 (aj.mk v.2.2.2.1 v.2.2.2.2.1 v.2.2.2.2.2.1) v.2.2.2.2.2.2.1 (ah.mk v.2.2.2.2.2.2.2.1 v.2.2.2.2.2.2.2.2.1) (ah.mk v.2.2.2.2.2.2.2.2.2.1 v.2.2.2.2.2.2.2.2.2.2.1) (ah.mk v.2.2.2.2.2.2.2.2.2.2.2.1 v.2.2.2.2.2.2.2.2.2.2.2.2.1) v.2.2.2.2.2.2.2.2.2.2.2.2.2.1 v.2.2.2.2.2.2.2.2.2.2.2.2.2.2.1)
 | .af,v=>(ab.mk v.1 v.2.1 v.2.2.1 (aj.mk v.2.2.2.1 v.2.2.2.2.1 v.2.2.2.2.2.1) v.2.2.2.2.2.2.1 (ah.mk v.2.2.2.2.2.2.2.1 v.2.2.2.2.2.2.2.2.1) (ah.mk v.2.2.2.2.2.2.2.2.2.1 v.2.2.2.2.2.2.2.2.2.2.1) (ah.mk v.2.2.2.2.2.2.2.2.2.2.2.1 v.2.2.2.2.2.2.2.2.2.2.2.2.1) (ah.mk v.2.2.2.2.2.2.2.2.2.2.2.2.2.1 v.2.2.2.2.2.2.2.2.2.2.2.2.2.2.1) v.2.2.2.2.2.2.2.2.2.2.2.2.2.2.2.1 v.2.2.2.2.2.2.2.2.2.2.2.2.2.2.2.2.1 v.2.2.2.2.2.2.2.2.2.2.2.2.2.2.2.2.2.1 v.2.2.2.2.2.2.2.2.2.2.2.2.2.2.2.2.2.2.1)
 | .Timer,v=>(dp.mk v.1 v.2.1)
 | .aK,v=>(aM.mk (au.mk v.1 v.2.1 v.2.2.1 v.2.2.2.1 (aj.mk v.2.2.2.2.1 v.2.2.2.2.2.1 v.2.2.2.2.2.2.1) v.2.2.2.2.2.2.2.1 v.2.2.2.2.2.2.2.2.1 v.2.2.2.2.2.2.2.2.2.1 v.2.2.2.2.2.2.2.2.2.2.1 v.2.2.2.2.2.2.2.2.2.2.2.1) (ab.mk v.2.2.2.2.2.2.2.2.2.2.2.2.1 v.2.2.2.2.2.2.2.2.2.2.2.2.2.1 v.2.2.2.2.2.2.2.2.2.2.2.2.2.2.1 (aj.mk v.2.2.2.2.2.2.2.2.2.2.2.2.2.2.2.1 v.2.2.2.2.2.2.2.2.2.2.2.2.2.2.2.2.1 v.2.2.2.2.2.2.2.2.2.2.2.2.2.2.2.2.2.1) v.2.2.2.2.2.2.2.2.2.2.2.2.2.2.2.2.2.2.1 (ah.mk v.2.2.2.2.2.2.2.2.2.2.2.2.2.2.2.2.2.2.2.1 v.2.2.2.2.2.2.2.2.2.2.2.2.2.2.2.2.2.2.2.2.1) (ah.mk v.2.2.2.2.2.2.2.2.2.2.2.2.2.2.2.2.2.2.2.2.2.1 v.2.2.2.2.2.2.2.2.2.2.2.2.2.2.2.2.2.2.2.2.2.2.1) (ah.mk v.2.2.2.2.2.2.2.2.2.2.2.2.2.2.2.2.2.2.2.2.2.2.2.1 v.2.2.2.2.2.2.2.2.2.2.2.2.2.2.2.2.2.2.2.2.2.2.2.2.1) (ah.mk v.2.2.2.2.2.2.2.2.2.2.2.2.2.2.2.2.2.2.2.2.2.2.2.2.2.1 v.2.2.2.2.2.2.2.2.2.2.2.2.2.2.2.2.2.2.2.2.2.2.2.2.2.2.1) v.2.2.2.2.2.2.2.2.2.2.2.2.2.2.2.2.2.2.2.2.2.2.2.2.2.2.2.1 v.2.2.2.2.2.2.2.2.2.2.2.2.2.2.2.2.2.2.2.2.2.2.2.2.2.2.2.2.1 v.2.2.2.2.2.2.2.2.2.2.2.2.2.2.2.2.2.2.2.2.2.2.2.2.2.2.2.2.2.1 v.2.2.2.2.2.2.2.2.2.2.2.2.2.2.2.2.2.2.2.2.2.2.2.2.2.2.2.2.2.2.1) (dp.mk v.2.2.2.2.2.2.2.2.2.2.2.2.2.2.2.2.2.2.2.2.2.2.2.2.2.2.2.2.2.2.2.1 v.2.2.2.2.2.2.2.2.2.2.2.2.2.2.2.2.2.2.2.2.2.2.2.2.2.2.2.2.2.2.2.2.1) v.2.2.2.2.2.2.2.2.2.2.2.2.2.2.2.2.2.2.2.2.2.2.2.2.2.2.2.2.2.2.2.2.2.1 v.2.2.2.2.2.2.2.2.2.2.2.2.2.2.2.2.2.2.2.2.2.2.2.2.2.2.2.2.2.2.2.2.2.2.1 v.2.2.2.2.2.2.2.2.2.2.2.2.2.2.2.2.2.2.2.2.2.2.2.2.2.2.2.2.2.2.2.2.2.2.2.1 v.2.2.2.2.2.2.2.2.2.2.2.2.2.2.2.2.2.2.2.2.2.2.2.2.2.2.2.2.2.2.2.2.2.2.2.2.1)
 | .ku,v=>(aw.mk v.1 v.2.1 (aj.mk v.2.2.1 v.2.2.2.1 v.2.2.2.2.1) v.2.2.2.2.2.1)
 | .wq,v=>(eC.mk v.1 v.2.1 (az.mk v.2.2.1 v.2.2.2.1 (aj.mk v.2.2.2.2.1 v.2.2.2.2.2.1 v.2.2.2.2.2.2.1) v.2.2.2.2.2.2.2.1 v.2.2.2.2.2.2.2.2.1) (ak.mk v.2.2.2.2.2.2.2.2.2.1 v.2.2.2.2.2.2.2.2.2.2.1 v.2.2.2.2.2.2.2.2.2.2.2.1 (aj.mk v.2.2.2.2.2.2.2.2.2.2.2.2.1 v.2.2.2.2.2.2.2.2.2.2.2.2.2.1 v.2.2.2.2.2.2.2.2.2.2.2.2.2.2.1) v.2.2.2.2.2.2.2.2.2.2.2.2.2.2.2.1 (ah.mk v.2.2.2.2.2.2.2.2.2.2.2.2.2.2.2.2.1 v.2.2.2.2.2.2.2.2.2.2.2.2.2.2.2.2.2.1) (ah.mk v.2.2.2.2.2.2.2.2.2.2.2.2.2.2.2.2.2.2.1 v.2.2.2.2.2.2.2.2.2.2.2.2.2.2.2.2.2.2.2.1) (ah.mk v.2.2.2.2.2.2.2.2.2.2.2.2.2.2.2.2.2.2.2.2.1 v.2.2.2.2.2.2.2.2.2.2.2.2.2.2.2.2.2.2.2.2.2.1) v.2.2.2.2.2.2.2.2.2.2.2.2.2.2.2.2.2.2.2.2.2.2.1 v.2.2.2.2.2.2.2.2.2.2.2.2.2.2.2.2.2.2.2.2.2.2.2.1))
 | .iU,v=>(kS.mk (aw.mk v.1 v.2.1 (aj.mk v.2.2.1 v.2.2.2.1 v.2.2.2.2.1) v.2.2.2.2.2.1) (aw.mk v.2.2.2.2.2.2.1 v.2.2.2.2.2.2.2.1 (aj.mk v.2.2.2.2.2.2.2.2.1 v.2.2.2.2.2.2.2.2.2.1 v.2.2.2.2.2.2.2.2.2.2.1) v.2.2.2.2.2.2.2.2.2.2.2.1) (aw.mk v.2.2.2.2.2.2.2.2.2.2.2.2.1 v.2.2.2.2.2.2.2.2.2.2.2.2.2.1 (aj.mk v.2.2.2.2.2.2.2.2.2.2.2.2.2.2.1 v.2.2.2.2.2.2.2.2.2.2.2.2.2.2.2.1 v.2.2.2.2.2.2.2.2.2.2.2.2.2.2.2.2.1) v.2.2.2.2.2.2.2.2.2.2.2.2.2.2.2.2.2.1) (aw.mk v.2.2.2.2.2.2.2.2.2.2.2.2.2.2.2.2.2.2.1 v.2.2.2.2.2.2.2.2.2.2.2.2.2.2.2.2.2.2.2.1 (aj.mk v.2.2.2.2.2.2.2.2.2.2.2.2.2.2.2.2.2.2.2.2.1 v.2.2.2.2.2.2.2.2.2.2.2.2.2.2.2.2.2.2.2.2.2.1 v.2.2.2.2.2.2.2.2.2.2.2.2.2.2.2.2.2.2.2.2.2.2.1) v.2.2.2.2.2.2.2.2.2.2.2.2.2.2.2.2.2.2.2.2.2.2.2.1))
 | .tC,v=>(qd.mk v.1 v.2.1)
 | .np,v=>(qe.mk (qd.mk v.1 v.2.1) (qd.mk v.2.2.1 v.2.2.2.1))
 | .py,v=>(sn.mk (eC.mk v.1 v.2.1 (az.mk v.2.2.1 v.2.2.2.1 (aj.mk v.2.2.2.2.1 v.2.2.2.2.2.1 v.2.2.2.2.2.2.1) v.2.2.2.2.2.2.2.1 v.2.2.2.2.2.2.2.2.1) (ak.mk v.2.2.2.2.2.2.2.2.2.1 v.2.2.2.2.2.2.2.2.2.2.1 v.2.2.2.2.2.2.2.2.2.2.2.1 (aj.mk v.2.2.2.2.2.2.2.2.2.2.2.2.1 v.2.2.2.2.2.2.2.2.2.2.2.2.2.1 v.2.2.2.2.2.2.2.2.2.2.2.2.2.2.1) v.2.2.2.2.2.2.2.2.2.2.2.2.2.2.2.1 (ah.mk v.2.2.2.2.2.2.2.2.2.2.2.2.2.2.2.2.1 v.2.2.2.2.2.2.2.2.2.2.2.2.2.2.2.2.2.1) (ah.mk v.2.2.2.2.2.2.2.2.2.2.2.2.2.2.2.2.2.2.1 v.2.2.2.2.2.2.2.2.2.2.2.2.2.2.2.2.2.2.2.1) (ah.mk v.2.2.2.2.2.2.2.2.2.2.2.2.2.2.2.2.2.2.2.2.1 v.2.2.2.2.2.2.2.2.2.2.2.2.2.2.2.2.2.2.2.2.2.1) v.2.2.2.2.2.2.2.2.2.2.2.2.2.2.2.2.2.2.2.2.2.2.1 v.2.2.2.2.2.2.2.2.2.2.2.2.2.2.2.2.2.2.2.2.2.2.2.1)) (eC.mk v.2.2.2.2.2.2.2.2.2.2.2.2.2.2.2.2.2.2.2.2.2.2.2.2.1 v.2.2.2.2.2.2.2.2.2.2.2.2.2.2.2.2.2.2.2.2.2.2.2.2.2.1 (az.mk v.2.2.2.2.2.2.2.2.2.2.2.2.2.2.2.2.2.2.2.2.2.2.2.2.2.2.1 v.2.2.2.2.2.2.2.2.2.2.2.2.2.2.2.2.2.2.2.2.2.2.2.2.2.2.2.1 (aj.mk v.2.2.2.2.2.2.2.2.2.2.2.2.2.2.2.2.2.2.2.2.2.2.2.2.2.2.2.2.1 v.2.2.2.2.2.2.2.2.2.2.2.2.2.2.2.2.2.2.2.2.2.2.2.2.2.2.2.2.2.1 v.2.2.2.2.2.2.2.2.2.2.2.2.2.2.2.2.2.2.2.2.2.2.2.2.2.2.2.2.2.2.1) v.2.2.2.2.2.2.2.2.2.2.2.2.2.2.2.2.2.2.2.2.2.2.2.2.2.2.2.2.2.2.2.1 v.2.2.2.2.2.2.2.2.2.2.2.2.2.2.2.2.2.2.2.2.2.2.2.2.2.2.2.2.2.2.2.2.1) (ak.mk v.2.2.2.2.2.2.2.2.2.2.2.2.2.2.2.2.2.2.2.2.2.2.2.2.2.2.2.2.2.2.2.2.2.1 v.2.2.2.2.2.2.2.2.2.2.2.2.2.2.2.2.2.2.2.2.2.2.2.2.2.2.2.2.2.2.2.2.2.2.1 v.2.2.2.2.2.2.2.2.2.2.2.2.2.2.2.2.2.2.2.2.2.2.2.2.2.2.2.2.2.2.2.2.2.2.2.1 (aj.mk v.2.2.2.2.2.2.2.2.2.2.2.2.2.2.2.2.2.2.2.2.2.2.2.2.2.2.2.2.2.2.2.2.2.2.2.2.1 v.2.2.2.2.2.2.2.2.2.2.2.2.2.2.2.2.2.2.2.2.2.2.2.2.2.2.2.2.2.2.2.2.2.2.2.2.2.1 v.2.2.2.2.2.2.2.2.2.2.2.2.2.2.2.2.2.2.2.2.2.2.2.2.2.2.2.2.2.2.2.2.2.2.2.2.2.2.1) v.2.2.2.2.2.2.2.2.2.2.2.2.2.2.2.2.2.2.2.2.2.2.2.2.2.2.2.2.2.2.2.2.2.2.2.2.2.2.2.1 (ah.mk v.2.2.2.2.2.2.2.2.2.2.2.2.2.2.2.2.2.2.2.2.2.2.2.2.2.2.2.2.2.2.2.2.2.2.2.2.2.2.2.2.1 v.2.2.2.2.2.2.2.2.2.2.2.2.2.2.2.2.2.2.2.2.2.2.2.2.2.2.2.2.2.2.2.2.2.2.2.2.2.2.2.2.2.1) (ah.mk v.2.2.2.2.2.2.2.2.2.2.2.2.2.2.2.2.2.2.2.2.2.2.2.2.2.2.2.2.2.2.2.2.2.2.2.2.2.2.2.2.2.2.1 v.2.2.2.2.2.2.2.2.2.2.2.2.2.2.2.2.2.2.2.2.2.2.2.2.2.2.2.2.2.2.2.2.2.2.2.2.2.2.2.2.2.2.2.1) (ah.mk v.2.2.2.2.2.2.2.2.2.2.2.2.2.2.2.2.2.2.2.2.2.2.2.2.2.2.2.2.2.2.2.2.2.2.2.2.2.2.2.2.2.2.2.2.1 v.2.2.2.2.2.2.2.2.2.2.2.2.2.2.2.2.2.2.2.2.2.2.2.2.2.2.2.2.2.2.2.2.2.2.2.2.2.2.2.2.2.2.2.2.2.1) v.2.2.2.2.2.2.2.2.2.2.2.2.2.2.2.2.2.2.2.2.2.2.2.2.2.2.2.2.2.2.2.2.2.2.2.2.2.2.2.2.2.2.2.2.2.2.1 v.2.2.2.2.2.2.2.2.2.2.2.2.2.2.2.2.2.2.2.2.2.2.2.2.2.2.2.2.2.2.2.2.2.2.2.2.2.2.2.2.2.2.2.2.2.2.2.1)))
 | .Src,v=>(dR.mk v.1 v.2.1)
 | .xW,v=>(aL.mk (ab.mk v.1 v.2.1 v.2.2.1 (aj.mk v.2.2.2.1 v.2.2.2.2.1 v.2.2.2.2.2.1) v.2.2.2.2.2.2.1 (ah.mk v.2.2.2.2.2.2.2.1 v.2.2.2.2.2.2.2.2.1) (ah.mk v.2.2.2.2.2.2.2.2.2.1 v.2.2.2.2.2.2.2.2.2.2.1) (ah.mk v.2.2.2.2.2.2.2.2.2.2.2.1 v.2.2.2.2.2.2.2.2.2.2.2.2.1) (ah.mk v.2.2.2.2.2.2.2.2.2.2.2.2.2.1 v.2.2.2.2.2.2.2.2.2.2.2.2.2.2.1) v.2.2.2.2.2.2.2.2.2.2.2.2.2.2.2.1 v.2.2.2.2.2.2.2.2.2.2.2.2.2.2.2.2.1 v.2.2.2.2.2.2.2.2.2.2.2.2.2.2.2.2.2.1 v.2.2.2.2.2.2.2.2.2.2.2.2.2.2.2.2.2.2.1))
 | .s7,v=>(bh.mk v.1 (aj.mk v.2.1 v.2.2.1 v.2.2.2.1))
 | .Config,v=>(bd.mk v.1)
 | .wY,v=>(bK.mk (ak.mk v.1 v.2.1 v.2.2.1 (aj.mk v.2.2.2.1 v.2.2.2.2.1 v.2.2.2.2.2.1) v.2.2.2.2.2.2.1 (ah.mk v.2.2.2.2.2.2.2.1 v.2.2.2.2.2.2.2.2.1) (ah.mk v.2.2.2.2.2.2.2.2.2.1 v.2.2.2.2.2.2.2.2.2.2.1) (ah.mk v.2.2.2.2.2.2.2.2.2.2.2.1 v.2.2.2.2.2.2.2.2.2.2.2.2.1) v.2.2.2.2.2.2.2.2.2.2.2.2.2.1 v.2.2.2.2.2.2.2.2.2.2.2.2.2.2.1))
 | .Seen,v=>(gO.mk v.1 (bd.mk v.2.1) v.2.2.1)
 | .Claim,v=>(mB.mk v.1 v.2.1)
 | .Message,v=>(cF.mk v.1 v.2.1 (aj.mk v.2.2.1 v.2.2.2.1 v.2.2.2.2.1) v.2.2.2.2.2.1 v.2.2.2.2.2.2.1)
 | .lI,v=>(Ij.mk v.1 v.2.1 v.2.2.1 (ah.mk v.2.2.2.1 v.2.2.2.2.1) (ah.mk v.2.2.2.2.2.1 v.2.2.2.2.2.2.1) (ah.mk v.2.2.2.2.2.2.2.1 v.2.2.2.2.2.2.2.2.1) (ah.mk v.2.2.2.2.2.2.2.2.2.1 v.2.2.2.2.2.2.2.2.2.2.1))
 | .pz,v=>(so.mk (ah.mk v.1 v.2.1) (ah.mk v.2.2.1 v.2.2.2.1))
 | .EC,v=>(eV.mk v.1 v.2.1)
mutual
def dX:aj->List PV
 |⟨a0,a1,a2⟩=>[.int .i64 a0,.sl (a1.map (λx=>[.int .i64 x])),.sl (zw a2)]
def zw:List aj->List (List PV)
 |[]=>[]
 |x::l=>dX x::zw l
end
def Gi:∀(l:List aj),zw l=l.map dX
 |[]=>by rw[zw];rfl
 |x::l=>by rw[zw,Gi l];rfl
def AZ(v:az):List PV:=[.int .i64 v.al,.int .i64 v.aH,.int .i64 v.aa.aI,.sl (v.aa.bb.map (λx=>[.int .i64 x])),.sl (v.aa.aO.map dX),.sl (v.bj.map (λx=>[.str x])),.sl (v.aF.map (λx=>[.str x]))]
def TZ(v:au):List PV:=[.int .i64 v.al,.int .i64 v.aK,.int .i64 v.Round,.int .i64 v.aH,.int .i64 v.aa.aI,.sl (v.aa.bb.map (λx=>[.int .i64 x])),.sl (v.aa.aO.map dX),.str v.lI,.sl (v.bj.map (λx=>[.str x])),.sl (v.aF.map (λx=>[.str x])),.sl (v.aR.map (λx=>[.str x])),.sl (v.ar.map AZ)]
def Zn(v:ah):List PV:=[.int .i64 v.ai,.str v.Value]
def zx(v:ak):List PV:=[.int .i64 v.al,.int .i64 v.aK,.int .i64 v.aH,.int .i64 v.aa.aI,.sl (v.aa.bb.map (λx=>[.int .i64 x])),.sl (v.aa.aO.map dX),.int .i64 v.bx,.int .i64 v.ae.ai,.str v.ae.Value,.int .i64 v.ao.ai,.str v.ao.Value,.int .i64 v.aC.ai,.str v.aC.Value,.int .i64 v.aZ,.int .i64 v.bq]
def Xn(v:ab):List PV:=[.int .i64 v.al,.int .i64 v.aK,.int .i64 v.aH,.int .i64 v.aa.aI,.sl (v.aa.bb.map (λx=>[.int .i64 x])),.sl (v.aa.aO.map dX),.int .i64 v.aQ,.int .i64 v.ae.ai,.str v.ae.Value,.int .i64 v.ao.ai,.str v.ao.Value,.int .i64 v.aC.ai,.str v.aC.Value,.int .i64 v.ax.ai,.str v.ax.Value,.int .i64 v.aZ,.int .i64 v.bq,.str v.bg,.sl (v.ar.map zx)]
def aaV(v:dp):List PV:=[.int .i64 v.ai,.int .i64 v.CZ]
def AY(v:aM):List PV:=[.int .i64 v.aB.al,.int .i64 v.aB.aK,.int .i64 v.aB.Round,.int .i64 v.aB.aH,.int .i64 v.aB.aa.aI,.sl (v.aB.aa.bb.map (λx=>[.int .i64 x])),.sl (v.aB.aa.aO.map dX),.str v.aB.lI,.sl (v.aB.bj.map (λx=>[.str x])),.sl (v.aB.aF.map (λx=>[.str x])),.sl (v.aB.aR.map (λx=>[.str x])),.sl (v.aB.ar.map AZ),.int .i64 v.af.al,.int .i64 v.af.aK,.int .i64 v.af.aH,.int .i64 v.af.aa.aI,.sl (v.af.aa.bb.map (λx=>[.int .i64 x])),.sl (v.af.aa.aO.map dX),.int .i64 v.af.aQ,.int .i64 v.af.ae.ai,.str v.af.ae.Value,.int .i64 v.af.ao.ai,.str v.af.ao.Value,.int .i64 v.af.aC.ai,.str v.af.aC.Value,.int .i64 v.af.ax.ai,.str v.af.ax.Value,.int .i64 v.af.aZ,.int .i64 v.af.bq,.str v.af.bg,.sl (v.af.ar.map zx),.int .i64 v.Timer.ai,.int .i64 v.Timer.CZ,.int .i64 v.Round,.int .i64 v.Next,.bool v.F4,.str v.Value]
def Ot(v:aw):List PV:=[.int .i64 v.al,.bool v.bV,.int .i64 v.aa.aI,.sl (v.aa.bb.map (λx=>[.int .i64 x])),.sl (v.aa.aO.map dX),.sl (v.aE.map AY)]
def Zk(v:eC):List PV:=[.int .i64 v.bx,.int .i64 v.aK,.int .i64 v.aX.al,.int .i64 v.aX.aH,.int .i64 v.aX.aa.aI,.sl (v.aX.aa.bb.map (λx=>[.int .i64 x])),.sl (v.aX.aa.aO.map dX),.sl (v.aX.bj.map (λx=>[.str x])),.sl (v.aX.aF.map (λx=>[.str x])),.int .i64 v.ay.al,.int .i64 v.ay.aK,.int .i64 v.ay.aH,.int .i64 v.ay.aa.aI,.sl (v.ay.aa.bb.map (λx=>[.int .i64 x])),.sl (v.ay.aa.aO.map dX),.int .i64 v.ay.bx,.int .i64 v.ay.ae.ai,.str v.ay.ae.Value,.int .i64 v.ay.ao.ai,.str v.ay.ao.Value,.int .i64 v.ay.aC.ai,.str v.ay.aC.Value,.int .i64 v.ay.aZ,.int .i64 v.ay.bq]
def IT(v:kS):List PV:=[.int .i64 v.c0.al,.bool v.c0.bV,.int .i64 v.c0.aa.aI,.sl (v.c0.aa.bb.map (λx=>[.int .i64 x])),.sl (v.c0.aa.aO.map dX),.sl (v.c0.aE.map AY),.int .i64 v.c1.al,.bool v.c1.bV,.int .i64 v.c1.aa.aI,.sl (v.c1.aa.bb.map (λx=>[.int .i64 x])),.sl (v.c1.aa.aO.map dX),.sl (v.c1.aE.map AY),.int .i64 v.c2.al,.bool v.c2.bV,.int .i64 v.c2.aa.aI,.sl (v.c2.aa.bb.map (λx=>[.int .i64 x])),.sl (v.c2.aa.aO.map dX),.sl (v.c2.aE.map AY),.int .i64 v.c3.al,.bool v.c3.bV,.int .i64 v.c3.aa.aI,.sl (v.c3.aa.bb.map (λx=>[.int .i64 x])),.sl (v.c3.aa.aO.map dX),.sl (v.c3.aE.map AY)]
def Xo(v:qd):List PV:=[.int .i64 v.c0,.int .i64 v.c1]
def Ou(v:qe):List PV:=[.int .i64 v.c0.c0,.int .i64 v.c0.c1,.int .i64 v.c1.c0,.int .i64 v.c1.c1]
def RC(v:sn):List PV:=[.int .i64 v.c0.bx,.int .i64 v.c0.aK,.int .i64 v.c0.aX.al,.int .i64 v.c0.aX.aH,.int .i64 v.c0.aX.aa.aI,.sl (v.c0.aX.aa.bb.map (λx=>[.int .i64 x])),.sl (v.c0.aX.aa.aO.map dX),.sl (v.c0.aX.bj.map (λx=>[.str x])),.sl (v.c0.aX.aF.map (λx=>[.str x])),.int .i64 v.c0.ay.al,.int .i64 v.c0.ay.aK,.int .i64 v.c0.ay.aH,.int .i64 v.c0.ay.aa.aI,.sl (v.c0.ay.aa.bb.map (λx=>[.int .i64 x])),.sl (v.c0.ay.aa.aO.map dX),.int .i64 v.c0.ay.bx,.int .i64 v.c0.ay.ae.ai,.str v.c0.ay.ae.Value,.int .i64 v.c0.ay.ao.ai,.str v.c0.ay.ao.Value,.int .i64 v.c0.ay.aC.ai,.str v.c0.ay.aC.Value,.int .i64 v.c0.ay.aZ,.int .i64 v.c0.ay.bq,.int .i64 v.c1.bx,.int .i64 v.c1.aK,.int .i64 v.c1.aX.al,.int .i64 v.c1.aX.aH,.int .i64 v.c1.aX.aa.aI,.sl (v.c1.aX.aa.bb.map (λx=>[.int .i64 x])),.sl (v.c1.aX.aa.aO.map dX),.sl (v.c1.aX.bj.map (λx=>[.str x])),.sl (v.c1.aX.aF.map (λx=>[.str x])),.int .i64 v.c1.ay.al,.int .i64 v.c1.ay.aK,.int .i64 v.c1.ay.aH,.int .i64 v.c1.ay.aa.aI,.sl (v.c1.ay.aa.bb.map (λx=>[.int .i64 x])),.sl (v.c1.ay.aa.aO.map dX),.int .i64 v.c1.ay.bx,.int .i64 v.c1.ay.ae.ai,.str v.c1.ay.ae.Value,.int .i64 v.c1.ay.ao.ai,.str v.c1.ay.ao.Value,.int .i64 v.c1.ay.aC.ai,.str v.c1.ay.aC.Value,.int .i64 v.c1.ay.aZ,.int .i64 v.c1.ay.bq]
def afm(v:dR):List PV:=[.sl (v.L.map (λx=>[.int .i64 x])),.int .i64 v.At]
def Zl(v:aL):List PV:=[.int .i64 v.af.al,.int .i64 v.af.aK,.int .i64 v.af.aH,.int .i64 v.af.aa.aI,.sl (v.af.aa.bb.map (λx=>[.int .i64 x])),.sl (v.af.aa.aO.map dX),.int .i64 v.af.aQ,.int .i64 v.af.ae.ai,.str v.af.ae.Value,.int .i64 v.af.ao.ai,.str v.af.ao.Value,.int .i64 v.af.aC.ai,.str v.af.aC.Value,.int .i64 v.af.ax.ai,.str v.af.ax.Value,.int .i64 v.af.aZ,.int .i64 v.af.bq,.str v.af.bg,.sl (v.af.ar.map zx)]
def Hl(v:bh):List PV:=[.bool v.fq,.int .i64 v.aa.aI,.sl (v.aa.bb.map (λx=>[.int .i64 x])),.sl (v.aa.aO.map dX)]
def Zm(v:bd):List PV:=[.sl (v.bn.map Hl)]
def SV(v:bK):List PV:=[.int .i64 v.ay.al,.int .i64 v.ay.aK,.int .i64 v.ay.aH,.int .i64 v.ay.aa.aI,.sl (v.ay.aa.bb.map (λx=>[.int .i64 x])),.sl (v.ay.aa.aO.map dX),.int .i64 v.ay.bx,.int .i64 v.ay.ae.ai,.str v.ay.ae.Value,.int .i64 v.ay.ao.ai,.str v.ay.ao.Value,.int .i64 v.ay.aC.ai,.str v.ay.aC.Value,.int .i64 v.ay.aZ,.int .i64 v.ay.bq]
def acT(v:gO):List PV:=[.int .i64 v.al,.sl (v.View.bn.map Hl),.sl (v.ar.map SV)]
def Jv(v:mB):List PV:=[.int .i64 v.uf,.int .i64 v.Value]
def Xm(v:cF):List PV:=[.int .i64 v.al,.int .i64 v.aH,.int .i64 v.aa.aI,.sl (v.aa.bb.map (λx=>[.int .i64 x])),.sl (v.aa.aO.map dX),.sl (v.bj.map Jv),.sl (v.aF.map Jv)]
def afn(v:Ij):List PV:=[.int .i64 v.ba,.int .i64 v.low,.int .i64 v.cm,.int .i64 v.aT.ai,.str v.aT.Value,.int .i64 v.eR.ai,.str v.eR.Value,.int .i64 v.bX.ai,.str v.bX.Value,.int .i64 v.dZ.ai,.str v.dZ.Value]
def RD(v:so):List PV:=[.int .i64 v.c0.ai,.str v.c0.Value,.int .i64 v.c1.ai,.str v.c1.Value]
def acU(v:eV):List PV:=[.int .i64 v.TS,.int .i64 v.TT]
def n4.pv:(n:n4)->n.den->List PV
 | .aa,v=>dX v
 | .aX,v=>AZ v
 | .aB,v=>TZ v
 | .ae,v=>Zn v
 | .ay,v=>zx v
 | .af,v=>Xn v
 | .Timer,v=>aaV v
 | .aK,v=>AY v
 | .ku,v=>Ot v
 | .wq,v=>Zk v
 | .iU,v=>IT v
 | .tC,v=>Xo v
 | .np,v=>Ou v
 | .py,v=>RC v
 | .Src,v=>afm v
 | .xW,v=>Zl v
 | .s7,v=>Hl v
 | .Config,v=>Zm v
 | .wY,v=>SV v
 | .Seen,v=>acT v
 | .Claim,v=>Jv v
 | .Message,v=>Xm v
 | .lI,v=>afn v
 | .pz,v=>RD v
 | .EC,v=>acU v
def Ty.isAgg:Ty->Bool
 | .st _=>true
 |_=>false
def aea(t:Ty)(cs:List PV):PV:=match t.isAgg with|true=> .agg cs|false=>cs.headD .any
def Ty.pv:(t:Ty)->t.den->List PV
 | .i k,n=>[.int k n]
 | .bool,b=>[.bool b]
 | .str,s=>[.str s]
 | .sl t,(xs:List t.den)=>[.sl (xs.map (Ty.pv t))]
 | .mp a b,(xs:List (a.den×b.den))=>[.jI (xs.map λp=>aea a (Ty.pv a p.1)) (xs.map λp=>aea b (Ty.pv b p.2))]
 | .st n,v=>n.pv v
def zI:(ls:List Ty)->Ez ls->List PV
 |[],_=>[]
 |t::l,v=>t.pv v.1++zI l v.2
def n4.Oq:∀(n:n4) (v:n.den),n.pv v=zI n.leaves (n.toL v)
 | .aa,v=>by cases v;simp only[n4.pv,dX,Gi];rfl
 | .aX,v| .aB,v| .ae,v| .ay,v| .af,v| .Timer,v| .aK,v| .ku,v| .wq,v| .iU,v| .tC,v| .np,v| .py,v| .Src,v| .xW,v| .s7,v| .Config,v| .wY,v| .Seen,v| .Claim,v| .Message,v| .lI,v| .pz,v| .EC,v=>rfl
def Ty.leaf:Ty->Bool
 | .st _=>false
 |_=>true
def n4.K8:∀(n:n4),n.leaves.all Ty.leaf=true
 | .aa| .aX| .aB| .ae| .ay| .af| .Timer| .aK| .ku| .wq| .iU| .tC| .np| .py| .Src| .xW| .s7| .Config| .wY| .Seen| .Claim| .Message| .lI| .pz| .EC=>rfl
def n4.aiL:∀(n:n4) (v:Ez n.leaves),n.toL (n.ofL v)=v
 | .aa,v| .aX,v| .aB,v| .ae,v| .ay,v| .af,v| .Timer,v| .aK,v| .ku,v| .wq,v| .iU,v| .tC,v| .np,v| .py,v| .Src,v| .xW,v| .s7,v| .Config,v| .wY,v| .Seen,v| .Claim,v| .Message,v| .lI,v| .pz,v| .EC,v=>rfl
def Ty.ZA:Ty->Bool
 | .sl _| .mp _ _=>false
 |_=>true
@[reducible] def U:TU where
 Ty:=Ty
 YB:=Ty.YB
 den:=Ty.den
 pv:=Ty.pv
 size:=λt=>match t with| .st n=>n.leaves.length|_=>1
 agg:=Ty.isAgg
 plain:=λt=>match t with| .st n=>n.leaves.all Ty.ZA|t=>t.ZA
def HA:(t:Ty)->t.den->KV U
 | .i k,n=> .int k n
 | .bool,b=> .bool b
 | .str,s=> .str s
 | .sl t,(xs:List t.den)=> .sl t xs
 | .mp a b,(xs:List (a.den×b.den))=> .jI a b xs
 | .st _,_=> .any
def K7:(ls:List Ty)->Ez ls->List (KV U)
 |[],_=>[]
 |t::l,v=>HA t v.1::K7 l v.2
def aib:(t:Ty)->t.den->List (KV U)
 | .st n,v=>K7 n.leaves (n.toL v)
 | .i k,v=>[HA (.i k) v]
 | .bool,v=>[HA .bool v]
 | .str,v=>[HA .str v]
 | .sl t,v=>[HA (.sl t) v]
 | .mp a b,v=>[HA (.mp a b) v]
def Bm(lk:Lk U):(t:Ty)->KV U->Option t.den
 | .i k,x=>adz k x
 | .bool,x=>Kn x
 | .str,x=>adx x
 | .sl t,x=>Wm (U:=U) lk t x
 | .mp a b,x=>ady (U:=U) a b x
 | .st _,_=>none
def Ch(lk:Lk U):(ls:List Ty)->List (KV U)->Option (Ez ls)
 |[],cs=>match cs with|[]=>some ()|_=>none
 |t::l,cs=>match cs with
  |c::cs=>(match Bm lk t c with
   |some v=>(match Ch lk l cs with|some vs=>some (v,vs)|none=>none)
   |none=>none)
  |[]=>none
def NG{α:Type}(f:KV U->Option α):List (KV U)->Option α
 |[x]=>f x
 |_=>none
def akj:(t:Ty)->Lk U->List (KV U)->Option t.den
 | .st n,lk,cs=>(match Ch lk n.leaves cs with|some v=>some (n.ofL v)|none=>none)
 | .i k,lk,cs=>NG (Bm lk (.i k)) cs
 | .bool,lk,cs=>NG (Bm lk .bool) cs
 | .str,lk,cs=>NG (Bm lk .str) cs
 | .sl t,lk,cs=>NG (Bm lk (.sl t)) cs
 | .mp a b,lk,cs=>NG (Bm lk (.mp a b)) cs
def adk:∀(t:Ty) (v:t.den),t.leaf=true->[(HA t v).pv]=t.pv v
 | .i k,v,_| .bool,v,_| .str,v,_| .sl t,v,_| .mp a b,v,_=>rfl
 | .st _,_,h=>by cases h
def OW:∀(ls:List Ty) (v:Ez ls),ls.all Ty.leaf=true->(K7 ls v).map KV.pv=zI ls v
 |[],_,_=>rfl
 |t::l,v,h=>by
  rw[Qq70,Qm]at h;rw[K7,zI,QD,OW l v.2 h.2,<-adk t v.1 h.1];rfl
def PM{lk:Lk U}:∀{t:Ty} {x:KV U} {v:t.den},Bm lk t x=some v->iF lk [x] (t.pv v)
 | .i k,x,v,h=> .cons (agq h) .nil
 | .bool,x,v,h=> .cons (ags h) .nil
 | .str,x,v,h=> .cons (agn h) .nil
 | .sl t,x,v,h=> .cons (agp (U:=U) h) .nil
 | .mp a b,x,v,h=> .cons (ago (U:=U) h) .nil
 | .st _,_,_,h=>by cases h
def iF.cy{lk:Lk U}{x:KV U}{ys:List PV}{xs:List (KV U)}{zs:List PV}(h:iF lk [x] ys)(k:iF lk xs zs):iF lk (x::xs) (ys++zs):=by
 cases h with
 |cons h1 h2=>cases h2 with|nil=>exact .cons h1 k
def Km{lk:Lk U}:∀{ls:List Ty} {cs:List (KV U)} {v:Ez ls},Ch lk ls cs=some v->iF lk cs (zI ls v)
 |[],[],_,_=> .nil
 |[],_::_,_,h=>by cases h
 |_::_,[],_,h=>by cases h
 |t::l,c::cs,v,h=>by
  rw[Ch]at h;split at h
  ·rename_i v1 h1;split at h
   ·rename_i vs h2;injection h with h
    subst h;exact(PM h1).cy (Km h2)
   ·cases h
  ·cases h
def agt{α:Type}{f:KV U->Option α}{cs:List (KV U)}{v:α}(h:NG f cs=some v):∃x,cs=[x]/\f x=some v:=by
 unfold NG at h;split at h
 ·exact⟨_,rfl,h⟩
 ·cases h
def aaU:∀(ls:List Ty) (v:Ez ls),ls.all Ty.leaf=true->(zI ls v).length=ls.length
 |[],_,_=>rfl
 |t::l,v,h=>by
  rw[Qq70,Qm]at h
  have:(t.pv v.1).length=1:=by
   cases t with
   |st n=>cases h.1
   |_=>rfl
  rw[zI,QB,aaU l v.2 h.2,this,QE,Nat.add_comm]
def rj:∀(t:Ty) (v:t.den),t.leaf=true->∀y∈t.pv v,y.hZ=true/\(t.ZA=true->y.plain=true)
 | .i k,v,_,y,h| .bool,v,_,y,h| .str,v,_,y,h=>by simp only[Ty.pv,Q5]at h;subst h;exact⟨rfl,λ_=>rfl⟩
 | .sl t,v,_,y,h| .mp a b,v,_,y,h=>by simp only[Ty.pv,Q5]at h;subst h;exact⟨rfl,λh=>by cases h⟩
 | .st _,_,h,_,_=>by cases h
def FD:∀(ls:List Ty) (v:Ez ls),ls.all Ty.leaf=true->∀y∈zI ls v,y.hZ=true/\(ls.all Ty.ZA=true->y.plain=true)
 |[],_,_,y,h=>by cases h
 |t::l,v,h,y,hy=>by
  rw[Qq70,Qm]at h;rw[zI,Qz]at hy;rcases hy with hy|hy
  ·obtain⟨h1,h2⟩:=rj t v.1 h.1 y hy;exact⟨h1,λhp=>by rw[Qq70,Qm]at hp;exact h2 hp.1⟩
  ·obtain⟨h1,h2⟩:=FD l v.2 h.2 y hy;exact⟨h1,λhp=>by rw[Qq70,Qm]at hp;exact h2 hp.2⟩
def Vt:n4->Option (IntKind×IntKind)
 | .Timer| .tC| .Claim| .EC=>some (.i64,.i64)
 |_=>none
def RH:∀(n:n4) (k l:IntKind),Vt n=some (k,l)->∀v,∃a b,aib (.st n) v=[.int k a,.int l b]
 | .Timer,_,_,h| .tC,_,_,h| .Claim,_,_,h| .EC,_,_,h=>by injection h with h;injection h with h1 h2;subst h1 h2;exact λv=>⟨_,_,rfl⟩
 | .aa,_,_,h| .aX,_,_,h| .aB,_,_,h| .ae,_,_,h| .ay,_,_,h| .af,_,_,h| .aK,_,_,h| .ku,_,_,h| .wq,_,_,h| .iU,_,_,h| .np,_,_,h| .py,_,_,h| .Src,_,_,h| .xW,_,_,h| .s7,_,_,h| .Config,_,_,h| .wY,_,_,h| .Seen,_,_,h| .Message,_,_,h| .lI,_,_,h| .pz,_,_,h=>by cases h
def aiK:List (Nat×Ty):=[(3,(Ty.i .i64)),(4,Ty.bool),(9,Ty.str),(27,(Ty.st .aa)),(30,(Ty.st .ku)),(34,(Ty.st .aX)),(36,(Ty.st .ae)),(38,(Ty.st .ay)),(40,(Ty.st .wq)),(56,(Ty.st .aK)),(77,(Ty.st .tC)),(218,(Ty.st .wY)),(250,(Ty.st .Message)),(255,(Ty.st .s7)),(320,(Ty.st .Claim))]
def aaD(n:Nat):List (Nat×Ty)->Option Ty
 |[]=>none
 |(k,t)::l=>(match Nat.beq k n with|true=>some t|false=>aaD n l)
@[reducible] def K:TK U where
 gn:=aib
 dec:=akj
 UJ:=λn=>aaD n aiK
 uz:=λt v=>by
  cases t with
  |st n=>exact(OW _ _ n.K8).trans (n.Oq v).symm
  |_=>rfl
 oO:=λt lk cs v h=>by
  cases t with
  |st n=>
   change (match Ch lk n.leaves cs with|some v=>some (n.ofL v)|none=>none)=some v at h
   split at h
   ·rename_i u hu;injection h with h
    subst h;have:=Km hu
    change iF lk cs (n.pv (n.ofL u))
    rw[n.Oq,n.aiL];exact this
   ·cases h
  |i k|bool|str|sl t|mp a b=>obtain⟨x,rfl,hx⟩:=agt h;exact PM hx
 len:=λt v=>by
  cases t with
  |st n=>exact(congrArg List.length (n.Oq v)).trans (aaU _ _ n.K8)
  |_=>rfl
 hZ:=λt v y hy=>by
  cases t with
  |st n=>exact(FD _ (n.toL v) n.K8 y (Eq.mp (congrArg (y∈·) (n.Oq v)) hy)).1
  |i k=>exact(rj (.i k) v rfl y hy).1
  |bool=>exact(rj .bool v rfl y hy).1
  |str=>exact(rj .str v rfl y hy).1
  |sl t=>exact(rj (.sl t) v rfl y hy).1
  |mp a b=>exact(rj (.mp a b) v rfl y hy).1
 one:=λt h=>by
  cases t with
  |st n=>cases h
  |_=>rfl
 plain:=λt h v y hy=>by
  cases t with
  |st n=>exact(FD _ (n.toL v) n.K8 y (Eq.mp (congrArg (y∈·) (n.Oq v)) hy)).2 h
  |i k=>exact(rj (.i k) v rfl y hy).2 rfl
  |bool=>exact(rj .bool v rfl y hy).2 rfl
  |str=>exact(rj .str v rfl y hy).2 rfl
  |sl t|mp a b=>cases h
 Vt:=λt=>match t with| .st n=>Vt n|_=>none
 RH:=λt k l h=>by
  cases t with
  |st n=>exact⟨rfl,RH n k l h⟩
  |_=>cases h
end
section
open Go.RowKit
def XJ{w:World}{a:Addr}{v:Value}(h:w.cell? a=some v):∃t n,w.shape? a.block=some (t,n+1):=by
 unfold World.cell? at h;unfold World.shape?;split at h
 ·rename_i c t fr hc;split at h
  ·cases h
  ·have hlt:=(Q9.1 h).1;exact⟨t,c.size - 1,by simp only[Qf,Prod.mk.injEq,true_and];omega⟩
 ·cases h
def MT{P:Program}(w:World)(tS tR e:TypeId)(ht:P.underlying tS=some (.slice e))(size:Nat)(hz:∀w,(Go.sizeOf e).run P w= .ok size w)
  (a b:Addr) (la ca lb cb:Nat) (hne:a.block≠b.block) {v:Value} (ha:w.cell? a=some v) {cur:Array Value} {t:TypeId} (hb:w.heap[b.block]?=some (.cells cur t (0,0))) (h0:cur.size≠0):
  (Extern.SlicesOverlaps.overlaps #[tS,tS] #[tR] #[.slice (some a) la ca,.slice (some b) lb cb]).run P w= .ok (.bool false) w:=by
 obtain⟨tA,kA,hsa⟩:=XJ ha;have hsb:w.shape? b.block=some (t,cur.size):=by simp[World.shape?,hb]
 have hfb:w.frozen? b=false:=by simp[World.frozen?,hb]
 have hfe:w.frozen? {block:=b.block,off:=cur.size}=false:=by simp[World.frozen?,hb]
 have hnb:(a.block !=b.block)=true:=by simpa using hne
 have hnb':(a.block==b.block)=false:=by simpa using hne
 obtain⟨kB,hkB⟩:∃kB,cur.size=kB+1:=⟨cur.size - 1,by omega⟩
 rw[hkB]at hsb hfe
 change Sem.run P (α:=Value) (do
  let some t:=(#[tS,tS]:Array TypeId)[0]?|stuck "slices.overlaps: no parameter types"
  let .slice elem <-underlying t|stuck "slices.overlaps: slice type expected"
  let size <-sizeOf elem
  match(some a:Option Addr),(some b:Option Addr)with
  |some a,some b=>
   if la=0\/lb=0\/size=0 then pure (Value.bool false)
   else if a.block !=b.block&&(<-frozen a)&&(<-frozen b)then unsupported .addressObserved
   else do
    if a.block !=b.block then do
     noView a;noView b
     if<-mayBeOne a b then return Value.bool ((<-choose (.extern "sameAddr.stringBytes" 2))==1)
    pure (Value.bool (a.block==b.block&&a.off<b.off+lb*size&&b.off<a.off+la*size))
  |_,_=>pure (Value.bool false)) w=_
 by_cases h0:la=0\/lb=0\/size=0
 ·simp[run_underlying ht,hz,h0]
 ·cases hfa:w.frozen? a<;>cases hfk:w.frozen? {block:=a.block,off:=kA+1}<;>
   simp[run_underlying ht,hz,h0,hnb,hnb',frozen,noView,viewAt,mayBeOne,stringish,shape,Sem.run,hsa,hsb,hfa,hfk,hfb,hfe]
def acb(a:Addr):a.add 0=a:=by
 cases a with
 |mk b o s=>unfold Addr.add;split<;>simp_all
def Ih(a:Addr)(n:Nat):(a.add n).block=a.block:=by unfold Addr.add;split<;>rfl
def sP{α:Type}(l:List α)(o:Nat)(c:List α):List α:=l.take o++c++l.drop (o+c.length)
def Hm{α:Type}{l:List α}{o:Nat}{c:List α}(h:o+c.length<=l.length):(sP l o c).length=l.length:=by simp[sP];omega
def Zq{α:Type}{l us ys:List α}{a:Nat}(h:a+us.length+ys.length<=l.length):sP (sP l a us) (a+us.length) ys=l.take a++us++ys++l.drop (a+us.length+ys.length):=by
 have h1:(l.take a++us).length=a+us.length:=by simp;omega
 have h2:(sP l a us).take (a+us.length)=l.take a++us:=by
  rw[sP,List.take_append_of_le_length (by omega),List.take_of_length_le (by omega)]
 have h3:(sP l a us).drop (a+us.length+ys.length)=l.drop (a+us.length+ys.length):=by
  rw[sP,<-List.drop_drop,<-h1,List.drop_left,List.drop_drop,h1]
 rw[sP,h2,h3]
def Xp{α:Type}{l us ys:List α}{a:Nat}(h:a+us.length+ys.length<=l.length):sP (sP l (a+us.length) ys) a us=l.take a++us++ys++l.drop (a+us.length+ys.length):=by
 have h1:(l.take (a+us.length)).length=a+us.length:=by simp;omega
 have h2:(sP l (a+us.length) ys).take a=l.take a:=by
  rw[sP,QL,List.take_append_of_le_length (by omega),List.take_take,Nat.min_eq_left (by omega)]
 have h3:(sP l (a+us.length) ys).drop (a+us.length)=ys++l.drop (a+us.length+ys.length):=by
  conv=>lhs;rw[sP,QL]
  exact List.drop_left' h1
 rw[sP,h2,h3,QL,QL,QL]
def xC(w:World)(g:Nat)(cs:Array Value){b:Nat}(h:b≠g):(w.setRow g cs).heap[b]?=w.heap[b]?:=by
 simp only[World.setRow,Array.getElem?_modify];rw[Qs (λe=>h e.symm)]
def SN(w:World)(g:Nat)(cs:Array Value):Fr (some g) w (w.setRow g cs):=⟨rfl,rfl,rfl,by simp[World.setRow],λb _ hb=>xC w g cs (λe=>hb (by rw[e])),DL.refl _⟩
def Fr.ajl(w:World)(rb:Option Nat):Fr rb w w.drew:=⟨rfl,rfl,rfl,QI _,λ_ _ _=>rfl,DL.of (Nat.le_succ _)⟩
def Fr.trans'{rb:Option Nat}{a b c:World}(h:Fr rb a b)(k:Fr rb b c):Fr rb a c:=⟨k.os.trans h.os,k.tape.trans h.tape,k.output.trans h.output,QK h.size k.size,λi hi hne=>(k.block i (QJ hi h.size) hne).trans (h.block i hi hne),h.drawn.trans k.drawn⟩
def MO{w w':World}{v u:Value}{X:Nat->Prop}(hf:Fr (bZ v) w w')(hu:∀b,bZ u=some b->bZ v=some b\/w.heap.size<=b):cW w w' (Mv v X) (Mv u X):=by
 have key:∀b,b<w.heap.size->¬Mv v X b->w'.heap[b]?=w.heap[b]?/\¬Mv u X b:=λb hlt hM=>⟨hf.block b hlt λh=>hM (.inl h),by
  rintro(h|h)
  ·rcases hu _ h with h|h
   ·exact hM (.inl h)
   ·omega
  ·exact hM (.inr h)⟩
 refine⟨λa x hc hM=> ?_,λb es ck hb hM=> ?_⟩
 ·have hlt:a.block<w.heap.size:=by
   by_cases h:a.block<w.heap.size
   ·exact h
   ·have:w.heap[a.block]?=none:=by rw[Array.getElem?_eq_none_iff];omega
    simp[World.cell?,this]at hc
  obtain⟨h1,h2⟩:=key _ hlt hM;exact⟨(World.cell?_of_block h1).trans hc,h2⟩
 ·obtain⟨h1,h2⟩:=key b (Q9.1 hb).1 hM;exact⟨h1.trans hb,h2⟩
def UT{w:World}{M:Nat->Prop}{es:List (List PV)}{xs:List Value}(h:bo w M dV es.flatten xs)(h1:∀u∈es,u.all PV.one=true):∀x∈xs,x.oneCell'=true:=by
 intro x hx;obtain⟨q,hq,rfl⟩:=List.mem_iff_getElem.1 hx;have hl:q<es.flatten.length:=by rw[<-h.1];exact hq
 obtain⟨el,hel,hmem⟩:=List.mem_flatten.1 (Q0 hl);exact((h.2 q _ _ (Qv hl) (Qv hq)).one (QH.1 (h1 el hel) _ hmem)).1
structure InsA (n c i m:Nat):Prop where
 z1:¬((m:Int)=0)
 z2:¬((i:Int)=(n:Int))
 w1:IntKind.i64.wrap ((i:Int)+(m:Int))=(i:Int)+(m:Int)
 b1:(0:Int)<=(i:Int)+(m:Int)
 tn:((i:Int)+(m:Int)).toNat=i+m
 b3:(i:Int)<=(n:Int)+(m:Int)
 b4:¬(c=i)
 b5:(i:Int)<=(n:Int)
def InsA.of{n c i m:Nat}(hi:i<n)(hc:n<=c)(hc63:c<=9223372036854775807)(hm:0<m)(h:n+m<=9223372036854775807):InsA n c i m:=
 ⟨by omega,by omega,by rw[IntKind.wrap_i64];omega,by omega,by omega,by omega,by omega,by omega⟩
structure Sw (P:Program) (f S E I B ov k bytes:Nat):Prop where
 akf:0<k
 hS:P.underlying S=some (.slice E)
 hI:P.underlying I=some (.int .i64)
 akg:∃(i:TypeInfo) (z:Value),P.info? E=some i/\i.zero=some z/\z.cells.size=k/\i.size=k/\i.bytes=bytes
 Hp:∀(x:Array Value) (w:World),(Extern.SlicesOverlaps.overlaps #[S,S] #[B] x).run P w= .ok (.bool false) w->(callFunc ov x).run P w= .ok (.value (.bool false)) w
 abd:∀(g n c i:Nat),i<=n->n<=c->c<=9223372036854775807->∀(u:Option Addr) (vc:Nat) (w:World),
  Calls P f #[.slice (some ⟨g,0,none⟩) n c,.int .i64 i,.slice u 0 vc] w λe w'=>e= .returned (.slice (some ⟨g,0,none⟩) n c)/\w'=w
 ada:∀(u:Option Addr) (vc:Nat) (w:World),Calls P f #[.slice none 0 0,.int .i64 0,.slice u 0 vc] w λe w'=>e= .returned (.slice none 0 0)/\w'=w
 aij:∀(g n c:Nat),n<=c->c<=9223372036854775807->∀(ad:Addr) (m vc:Nat),0<m->∀(w w1:World) (v1:Value),
  (∀ty,(Builtin.append_ #[S,S] ty #[.slice (some ⟨g,0,none⟩) n c,.slice (some ad) m vc]).run P w= .ok v1 w1)->
  Calls P f #[.slice (some ⟨g,0,none⟩) n c,.int .i64 n,.slice (some ad) m vc] w λe w'=>e= .returned v1/\w'=w1
 aad:∀(ad:Addr) (m vc:Nat),0<m->∀(w w1:World) (v1:Value),
  (∀ty,(Builtin.append_ #[S,S] ty #[.slice none 0 0,.slice (some ad) m vc]).run P w= .ok v1 w1)->
  Calls P f #[.slice none 0 0,.int .i64 0,.slice (some ad) m vc] w λe w'=>e= .returned v1/\w'=w1
 shift:∀(g n c i:Nat),i<n->c<=9223372036854775807->∀(ad:Addr) (m vc:Nat),0<m->n+m<=c->InsA n c i m->¬(c=i+m)->∀(w w1 w2:World),
  (∀lb cb,(callFunc ov #[.slice (some ad) m vc,.slice (some ⟨g,(i+m)*k,none⟩) lb cb]).run P w= .ok (.value (.bool false)) w)->
  (∀ty dc sc,(Builtin.copy_ #[S,S] ty #[.slice (some ⟨g,(i+m)*k,none⟩) (n+m - (i+m)) dc,.slice (some ⟨g,i*k,none⟩) (n+m - i) sc]).run P w.drew= .ok (goInt (n - i:Nat)) w1)->
  (∀ty dc,(Builtin.copy_ #[S,S] ty #[.slice (some ⟨g,i*k,none⟩) (n+m - i) dc,.slice (some ad) m vc]).run P w1= .ok (goInt m) w2)->
  Calls P f #[.slice (some ⟨g,0,none⟩) n c,.int .i64 i,.slice (some ad) m vc] w λe w'=>e= .returned (.slice (some ⟨g,0,none⟩) (n+m) c)/\w'=w2
 grow:∀(g n c i:Nat),i<n->n<=c->c<=9223372036854775807->∀(ad:Addr) (m vc:Nat),0<m->c<n+m->∀(N G:Nat),n+m<=G->G<=9223372036854775807->InsA n c i m->(c:Int)<(n:Int)+(m:Int)->¬(G=i)->¬(G=i+m)->∀(w w1 w2 w3:World),
  (∀ty,(Builtin.append_ #[S,I] ty #[.slice (some ⟨g,0,none⟩) i c,.int .i64 ((n:Int)+(m:Int) - (i:Int))]).run P w= .ok (.slice (some ⟨N,0,none⟩) (n+m) G) w1)->
  (∀ty dc,(Builtin.copy_ #[S,S] ty #[.slice (some ⟨N,i*k,none⟩) (n+m - i) dc,.slice (some ad) m vc]).run P w1= .ok (goInt m) w2)->
  (∀ty dc sc,(Builtin.copy_ #[S,S] ty #[.slice (some ⟨N,(i+m)*k,none⟩) (n+m - (i+m)) dc,.slice (some ⟨g,i*k,none⟩) (n - i) sc]).run P w2.drew= .ok (goInt (n - i:Nat)) w3)->
  Calls P f #[.slice (some ⟨g,0,none⟩) n c,.int .i64 i,.slice (some ad) m vc] w λe w'=>e= .returned (.slice (some ⟨N,0,none⟩) (n+m) G)/\w'=w3
def K9{P:Program}{E k bytes:Nat}(h:(P.info? E).map (λi=>(i.zero.map (·.cells.size),i.size,i.bytes))=some (some k,k,bytes)):∃(i:TypeInfo) (z:Value),P.info? E=some i/\i.zero=some z/\z.cells.size=k/\i.size=k/\i.bytes=bytes:=by
 rw[Qb]at h;obtain⟨i,h1,h2⟩:=h;injection h2 with h2 h3
 injection h3 with h3 h4
 rw[Qb]at h2;obtain⟨z,h5,h6⟩:=h2;exact⟨i,z,h1,h5,h6,h3,h4⟩
def afY{P:Program}{f S E I B ov k bytes:Nat}(H:Sw P f S E I B ov k bytes){es vs:List (List PV)}{i:Nat}(hi:i<=es.length)(h1e:∀u∈es,u.all PV.one=true)(hvs:∀u∈vs,u.length=k/\u.all PV.one=true)
  (hmax:es.length+vs.length<=maxLen) (hby:(es.length+vs.length)*bytes<=140737488355328):NR P f E k es [.int .i64 i,.sl vs] (es.take i++vs++es.drop i):=by
 have hk0:=H.akf;intro w X hX v args hvX ⟨xs,hown,hke,hr⟩ hargs;obtain⟨a1,args,rfl,ha1,hargs⟩:=hargs.cons_inv;obtain⟨a2,args,rfl,ha2,hargs⟩:=hargs.cons_inv;obtain rfl:=hargs.sR;obtain rfl:=ha1.jw;obtain⟨inf,z,hi1,hi2,hi3,hi4,hi5⟩:=H.akg;have hsz:(P.info? E).map (·.size)=some k:=by rw[hi1];simp[hi4]
 have hmem:∀u∈es.take i++vs++es.drop i,u.length=k:=by
  intro u hu;rw[Qz,Qz]at hu;rcases hu with(hu|hu)|hu
  ·exact hke u (Q1 hu)
  ·exact(hvs u hu).1
  ·exact hke u (Q2 hu)
 have same:vs=[]->es.take i++vs++es.drop i=es:=λh=>by rw[h];simp
 by_cases hm0:vs=[]
 ·rw[same hm0]
  have hz:∃u vc,a2= .slice u 0 vc:=by
   subst hm0;rcases ha2.Gd with⟨h,_⟩|⟨ad,c,_,_,h,_⟩
   ·exact⟨_,_,h⟩
   ·exact⟨_,_,h⟩
  obtain⟨u,vc,rfl⟩:=hz
  have post:∀(e:Ending) (w':World),e= .returned v/\w'=w->∃u,e= .returned u/\Af w' (Mv u X) E k u es/\(∀b,bZ u=some b->bZ v=some b\/w.heap.size<=b)/\Fr (bZ v) w w':=by
   rintro e w' ⟨rfl,rfl⟩;exact⟨v,rfl,⟨xs,hown,hke,hr⟩,λb hb=> .inl hb,Fr.refl _ _⟩
  rcases hown.2 with⟨rfl,h0⟩|⟨g,cap,cur,rfl,_,hg,hnc,hcm,hcs,htk⟩
  ·obtain rfl:i=0:=by omega
   exact(H.ada u vc w).mono λe w' h=>post e w' h
  ·exact(H.abd g es.length cap i hi hnc (by simp only[maxLen]at hcm;omega) u vc w).mono λe w' h=>post e w' h
 ·
  have hm:0<vs.length:=List.length_pos_iff.2 hm0;rcases ha2.Gd with⟨_,h⟩|⟨ad,vc,k',us,rfl,hk',hru,hcu,_,_⟩
  ·exact absurd h hm0
  have hul:us.length=vs.length*k:=by rw[hru.1,nc vs k λu hu=>(hvs u hu).1]
  have hone:=UT hru λu hu=>(hvs u hu).2
  have hpos:0<us.length:=by rw[hul];exact Nat.mul_pos hm hk0
  obtain⟨c0,hc0⟩:∃c0,us[0]?=some c0:=⟨_,Qv hpos⟩;obtain⟨had,hadM⟩:=hcu 0 c0 hc0;have had:w.cell? ad=some c0:=by rw[acb]at had;exact had
  have hcell:∀(j:Nat) (u:Value),us[j]?=some u->w.cell? (ad.add j)=some u:=λj u hj=>(hcu j u hj).1
  have hadlt:ad.block<w.heap.size:=by
   by_cases h:ad.block<w.heap.size
   ·exact h
   ·have:w.heap[ad.block]?=none:=by rw[Array.getElem?_eq_none_iff];omega
    simp[World.cell?,this]at had
  have fin:∀(v1:Value) (w1:World),w1.ownsRow 0 E k v1 (es.length+vs.length) (xs++us)->w.grownBy w1 v.ownBlock->(v1.ownBlock=v.ownBlock\/v1.ownBlock=some w.heap.size)->(∃a n c,v= .slice a n c)->i=es.length->w.drawn<=w1.drawn->
    ∀(e:Ending) (w':World),e= .returned v1/\w'=w1->∃u,e= .returned u/\Af w' (Mv u X) E k u (es.take i++vs++es.drop i)/\(∀b,bZ u=some b->bZ v=some b\/w.heap.size<=b)/\Fr (bZ v) w w':=by
   rintro v1 w1 ho hgr hat ⟨a0,n0,c0,hv0⟩ hie hdr e w' ⟨rfl,rfl⟩;have hb0:v.ownBlock=bZ v:=nv hv0
   have hb1:v1.ownBlock=bZ v1:=by
    rcases ho.2 with⟨h,_⟩|⟨_,_,_,h,_⟩
    ·exact nv h
    ·exact nv h
   have hfr:Fr (bZ v) w w':=⟨hgr.os,hgr.tape,hgr.output,hgr.size,λb hb hne=>hgr.block b hb (λh=>hne (by rw[<-hb0,<-h])),DL.of hdr⟩
   have hub:∀b,bZ v1=some b->bZ v=some b\/w.heap.size<=b:=λb hb=>by
    rw[<-hb1]at hb;rcases hat with h|h
    ·exact .inl (by rw[<-hb0,<-h];exact hb)
    ·rw[h]at hb;injection hb with hb;exact .inr (by omega)
   have he:es.take i++vs++es.drop i=es++vs:=by subst hie;simp
   rw[he]at hmem ⊢;refine⟨v1,rfl,⟨xs++us,by rw[QB];exact ho,hmem,?_⟩,hub,hfr⟩
   rw[List.flatten_append];exact(hr.append hru).mono (MO hfr hub) (dV.le _)
  rcases hown.2 with⟨rfl,h0⟩|⟨g,cap,cur,rfl,hb0,hg,hnc,hcm,hcs,htk⟩
  ·obtain rfl:i=0:=by omega
   obtain⟨v1,w1,r1,r2,r3,_,r5⟩:=run_append_own_at (P:=P) w 0 S 0 E inf z k bytes H.hS hi1 hi2 hi4 hi5 hi3 hk0 (.slice none 0 0) es.length xs hown ad vs.length vc us hul hcell hone hmax hby (QS _);exact(H.aad ad vs.length vc hm w w1 v1 λty=>r1).mono λe w' h=>fin v1 w1 r2 r3 r5 ⟨_,_,_,rfl⟩ h0.symm (Es (P:=P) w 0 S 0 E inf z k bytes H.hS hi1 hi2 hi4 hi5 hk0 (.slice none 0 0) es.length xs hown ad vs.length vc us hul hcell hone hmax hby r1) e w' h
  ·have hcm':cap<=9223372036854775807:=by simp only[maxLen]at hcm;omega
   by_cases hie:i=es.length
   ·obtain⟨v1,w1,r1,r2,r3,_,r5⟩:=run_append_own_at (P:=P) w 0 S 0 E inf z k bytes H.hS hi1 hi2 hi4 hi5 hi3 hk0 _ es.length xs hown ad vs.length vc us hul hcell hone hmax hby (QS _);have:=H.aij g es.length cap hnc hcm' ad vs.length vc hm w w1 v1 λty=>r1
    rw[<-hie]at this ⊢;exact this.mono λe w' h=>fin v1 w1 r2 r3 r5 ⟨_,_,_,rfl⟩ hie (Es (P:=P) w 0 S 0 E inf z k bytes H.hS hi1 hi2 hi4 hi5 hk0 _ es.length xs hown ad vs.length vc us hul hcell hone hmax hby r1) e w' h
   ·have hin:i<es.length:=by omega
    have hM:∀b,Mv (.slice (some ⟨g,0,none⟩) es.length cap) X b->True:=λ_ _=>trivial
    have hne:ad.block≠g:=λh=>hadM (.inl (by rw[h];rfl))
    have hglt:g<w.heap.size:=(Q9.1 hg).1;have hxl:xs.length=es.length*k:=hown.1;have hcl:es.length*k<=cur.toList.length:=by simpa[hcs]using Qq63 k hnc
    have hx1:=UT hr h1e;obtain⟨ys,hys⟩:∃ys,ys=xs.drop (i*k):=⟨_,rfl⟩;have hyl:ys.length=(es.length - i)*k:=by rw[hys,List.length_drop,hxl,Nat.sub_mul]
    have hy1:∀y∈ys,y.oneCell'=true:=λy hy=>hx1 y (Q2 (hys▸hy))
    have hcx:∀(j:Nat) (u:Value),xs[j]?=some u->w.cell? ⟨g,j,none⟩=some u:=λj u hj=>by
     refine rE hg ?_;rw[<-htk,Qq68]at hj;split at hj
     ·exact hj
     ·cases hj
    have hcy:∀(j:Nat) (u:Value),ys[j]?=some u->w.cell? ((⟨g,i*k,none⟩:Addr).add j)=some u:=λj u hj=>by
     rw[add_mid];rw[hys,List.getElem?_drop]at hj;exact hcx _ u hj
    have hik:i*k+us.length=(i+vs.length)*k:=by rw[hul,Qq73]
    have htot:i*k+us.length+ys.length=(es.length+vs.length)*k:=by
     rw[hul,hyl,<-Qq73,<-Qq73];congr 1;omega
    have hres:bo w (Mv (.slice (some ⟨g,0,none⟩) es.length cap) X) dV (es.take i++vs++es.drop i).flatten (xs.take (i*k)++us++ys):=by
     rw[List.flatten_append,List.flatten_append,vV k i es hke,z7 k i es hke,hys];exact((hr.take _).append hru).append (hr.drop _)
    have hlen:(es.take i++vs++es.drop i).length=es.length+vs.length:=by simp;omega
    have htl:(xs.take (i*k)++us++ys).length=(es.length+vs.length)*k:=by
     rw[QB,QB,List.length_take,hxl,Nat.min_eq_left (Qq63 k hi)];exact htot
    by_cases hroom:es.length+vs.length<=cap
    ·
     have hfit:(es.length+vs.length)*k<=cur.toList.length:=by simpa[hcs]using Qq63 k hroom
     have r1:=xY (P:=P) w.drew S S 0 E g ((i+vs.length)*k) (es.length+vs.length - (i+vs.length)) 0 ⟨g,i*k,none⟩ (es.length+vs.length - i) 0 cur E ys k (es.length - i) H.hS hsz hg
      (by simp only[Nat.min_def];split<;>omega) hyl hcy (by simp only[Array.length_toList]at hfit;omega) hy1
     obtain⟨cur1,hcur1⟩:∃cur1:Array Value,cur1=(sP cur.toList ((i+vs.length)*k) ys).toArray:=⟨_,rfl⟩;have hg1:(w.drew.setRow g cur1).heap[g]?=some (.cells cur1 E (0,0)):=setRow_heap w.drew g cur _ E _ hg
     have hl1:cur1.size=cap*k:=by
      rw[hcur1,List.size_toArray,Hm (by rw[<-hik];omega),Array.length_toList,hcs]
     have r2:=xY (P:=P) (w.drew.setRow g cur1) S S 0 E g (i*k) (es.length+vs.length - i) 0 ad vs.length vc cur1 E us k vs.length H.hS hsz hg1
      (by simp only[Nat.min_def];split<;>omega) hul (λj u hj=>by rw[World.cell?_of_block (w:=w) (xC w.drew g cur1 (by rw[Ih];exact hne))];exact hcell j u hj)
      (by rw[hl1,<-hcs,<-Array.length_toList];omega) hone
     obtain⟨cur2,hcur2⟩:∃cur2:Array Value,cur2=(sP cur1.toList (i*k) us).toArray:=⟨_,rfl⟩;have hg2:((w.drew.setRow g cur1).setRow g cur2).heap[g]?=some (.cells cur2 E (0,0)):=setRow_heap _ g cur1 _ E _ hg1
     have hc2:cur2.toList=xs.take (i*k)++us++ys++cur.toList.drop ((es.length+vs.length)*k):=by
      rw[hcur2,hcur1,<-hik,Xp (by omega),htot,<-htk,List.take_take,Nat.min_eq_left (Qq63 k hi)]
     have hC:cur.toList.length=cap*k:=(Array.length_toList (xs:=cur)).trans hcs;have hL1:cur1.toList.length=cap*k:=(Array.length_toList (xs:=cur1)).trans hl1;have hfr:Fr (some g) w ((w.drew.setRow g cur1).setRow g cur2):=(Fr.ajl w _).trans' ((SN _ g _).trans' (SN _ g _))
     have hcap0:cur.size≠0:=by
      have:0<cap:=by omega
      rw[hcs];exact Nat.ne_of_gt (Nat.mul_pos this hk0)
     refine(H.shift g es.length cap i hin hcm' ad vs.length vc hm hroom (.of hin (by omega) hcm' hm (by omega)) (by omega) w (w.drew.setRow g cur1) ((w.drew.setRow g cur1).setRow g cur2) (λlb cb=> ?_) (λty dc sc=> ?_) (λty dc=> ?_)).mono ?_
     ·exact H.Hp _ w (MT w S B E H.hS k (λw'=>by simp[Go.sizeOf,typeInfo,hi1,hi4]) ad ⟨g,(i+vs.length)*k,none⟩ vs.length vc lb cb hne had hg hcap0)
     ·rw[hcur1];exact r1
     ·rw[hcur2];exact r2
     ·rintro e w' ⟨rfl,rfl⟩;refine⟨_,rfl,⟨xs.take (i*k)++us++ys,⟨?_,.inr ⟨g,cap,cur2,by rw[hlen],hb0,hg2,by rw[hlen];exact hroom,hcm,?_,?_⟩⟩,hmem,hres.mono (@MO w _ (.slice (some ⟨g,0,none⟩) es.length cap) (.slice (some ⟨g,0,none⟩) (es.length+vs.length) cap) X hfr λb hb=> .inl hb) (dV.le _)⟩,λb hb=> .inl hb,hfr⟩
      ·rw[htl,hlen]
      ·rw[hcur2,List.size_toArray,Hm (by rw[hL1];omega),hL1]
      ·rw[hlen,hc2,<-htl,List.take_left' rfl]
    ·
     have hik2:i+(es.length+vs.length - i)=es.length+vs.length:=by omega
     have hold:(Builtin.firstCells inf.size i (.slice (some ⟨g,0,none⟩) i cap)).run P w.drew= .ok (xs.take (i*k)).toArray w.drew:=by
      rw[hi4];refine run_firstCells_some w.drew k i ⟨g,0,none⟩ i cap (xs.take (i*k)) (by rw[List.length_take,hxl];exact Nat.min_eq_left (Qq63 k hi)) λj u hj=> ?_
      rw[add_mid,Nat.zero_add];rw[Qq68]at hj;split at hj
      ·exact hcx j u hj
      ·cases hj
     have hmax':es.length+vs.length<=9223372036854775807:=by simp only[maxLen]at hmax;omega
     have r0:=λty=>Lib.run_append_grow_zeros (P:=P) w S I ty E inf z .i64 .i64 H.hS H.hI hi1 hi2 (some ⟨g,0,none⟩) i cap (xs.take (i*k)) hold (es.length+vs.length - i) (by omega) (by omega) (by omega) (by omega)
      (by rw[hi5];have:=Qq63 bytes (show es.length+vs.length - i<=es.length+vs.length by omega);omega) (by rw[hi5,hik2];exact growslice_fits (by omega) hby)
     rw[hik2]at r0;obtain⟨G,hG⟩:∃G,G=grownCap w (es.length+vs.length) cap E:=⟨_,rfl⟩;have hGn:es.length+vs.length<=G:=by rw[hG];exact grownCap_ge w _ _ _
     have hGm:G<=maxLen:=by rw[hG];exact grownCap_le_maxLen w _ _ _ hmax
     have hG63:G<=9223372036854775807:=by simp only[maxLen]at hGm;omega
     rw[<-hG]at r0;obtain⟨row,hrow⟩:∃row:Array Value,row=(xs.take (i*k)).toArray++Builtin.zeroCells z.cells (es.length+vs.length - i)++Builtin.zeroCells z.cells (G - (es.length+vs.length)):=⟨_,rfl⟩;rw[<-hrow]at r0;have hrt:(xs.take (i*k)).length=i*k:=by rw[List.length_take,hxl];exact Nat.min_eq_left (Qq63 k hi)
     have hrl:row.size=G*k:=by
      rw[hrow,Array.size_append,Array.size_append,List.size_toArray,hrt,size_zeroCells,size_zeroCells,hi3,<-Qq73,<-Qq73];congr 1;omega
     have hrtake:row.toList.take (i*k)=xs.take (i*k):=by
      rw[hrow,Array.toList_append,Array.toList_append,QL];exact List.take_left' hrt
     have hN:(w.drew.alloc (.cells row E)).heap[w.heap.size]?=some (.cells row E (0,0)):=by
      show(w.heap.push (.cells row E))[w.heap.size]?=_;simp
     have hkeep:∀b,b<w.heap.size->(w.drew.alloc (.cells row E)).heap[b]?=w.heap[b]?:=λb hb=>Below.heap_alloc w.drew _ b hb
     have hfit:(es.length+vs.length)*k<=row.size:=by rw[hrl];exact Qq63 k hGn
     have r1:=xY (P:=P) (w.drew.alloc (.cells row E)) S S 0 E w.heap.size (i*k) (es.length+vs.length - i) 0 ad vs.length vc row E us k vs.length H.hS hsz hN
      (by simp only[Nat.min_def];split<;>omega) hul (λj u hj=>by rw[World.cell?_of_block (w:=w) (hkeep _ (by rw[Ih];exact hadlt))];exact hcell j u hj) (by omega) hone
     have hR:row.toList.length=G*k:=(Array.length_toList (xs:=row)).trans hrl;obtain⟨cur1,hcur1⟩:∃cur1:Array Value,cur1=(sP row.toList (i*k) us).toArray:=⟨_,rfl⟩;have hl1:cur1.size=G*k:=by rw[hcur1,List.size_toArray,Hm (by rw[hR];omega),hR]
     have hL1:cur1.toList.length=G*k:=(Array.length_toList (xs:=cur1)).trans hl1;have hg1:((w.drew.alloc (.cells row E)).setRow w.heap.size cur1).drew.heap[w.heap.size]?=some (.cells cur1 E (0,0)):=setRow_heap _ _ row _ E _ hN
     have r2:=xY (P:=P) ((w.drew.alloc (.cells row E)).setRow w.heap.size cur1).drew S S 0 E w.heap.size ((i+vs.length)*k) (es.length+vs.length - (i+vs.length)) 0 ⟨g,i*k,none⟩ (es.length - i) 0 cur1 E ys k (es.length - i) H.hS hsz hg1
      (by simp only[Nat.min_def];split<;>omega) hyl (λj u hj=>by
       rw[World.cell?_of_block (w:=w) (w':=((w.drew.alloc (.cells row E)).setRow w.heap.size cur1).drew) (((xC _ w.heap.size cur1 (by rw[Ih];exact Nat.ne_of_lt hglt)).trans (hkeep _ (by rw[Ih];exact hglt))))]
       exact hcy j u hj) (by rw[hl1,<-hrl,<-hik];omega) hy1
     obtain⟨cur2,hcur2⟩:∃cur2:Array Value,cur2=(sP cur1.toList ((i+vs.length)*k) ys).toArray:=⟨_,rfl⟩;obtain⟨w3,hw3⟩:∃w3,w3=((w.drew.alloc (.cells row E)).setRow w.heap.size cur1).drew.setRow w.heap.size cur2:=⟨_,rfl⟩;have hg2:w3.heap[w.heap.size]?=some (.cells cur2 E (0,0)):=by rw[hw3];exact setRow_heap _ _ cur1 _ E _ hg1
     have hc2:cur2.toList=xs.take (i*k)++us++ys++row.toList.drop ((es.length+vs.length)*k):=by
      rw[hcur2,hcur1,<-hik,Zq (by rw[hR];omega),htot,hrtake]
     have hfr:Fr (some g) w w3:=by
      rw[hw3];refine⟨rfl,rfl,rfl,by simp[World.setRow],λb hb _=> ?_,DL.of (by show w.drawn<=w.drawn+1+1;omega)⟩
      rw[xC _ _ _ (Nat.ne_of_lt hb)];exact(xC _ w.heap.size cur1 (Nat.ne_of_lt hb)).trans (hkeep b hb)
     refine(H.grow g es.length cap i hin hnc hcm' ad vs.length vc hm (by omega) w.heap.size G hGn hG63 (.of hin hnc hcm' hm (by omega)) (by omega) (by omega) (by omega) w (w.drew.alloc (.cells row E)) ((w.drew.alloc (.cells row E)).setRow w.heap.size cur1) w3 (λty=> ?_) (λty dc=> ?_) (λty dc sc=> ?_)).mono ?_
     ·have:=r0 ty;rw[show((es.length+vs.length - i:Nat):Int)=(es.length:Int)+(vs.length:Int) - (i:Int)by omega]at this
      exact this
     ·rw[hcur1];exact r1
     ·rw[hw3,hcur2];exact r2
     ·rintro e w' ⟨rfl,rfl⟩
      have hub:∀b,bZ (.slice (some ⟨w.heap.size,0,none⟩) (es.length+vs.length) G)=some b->bZ (.slice (some ⟨g,0,none⟩) es.length cap)=some b\/w.heap.size<=b:=λb hb=>by
       injection hb with hb
       exact .inr (Nat.le_of_eq hb)
      refine⟨_,rfl,⟨xs.take (i*k)++us++ys,⟨?_,.inr ⟨w.heap.size,G,cur2,by rw[hlen],QS _,hg2,by rw[hlen];exact hGn,hGm,?_,?_⟩⟩,hmem,hres.mono (@MO w _ (.slice (some ⟨g,0,none⟩) es.length cap) (.slice (some ⟨w.heap.size,0,none⟩) (es.length+vs.length) G) X hfr hub) (dV.le _)⟩,hub,hfr⟩
      ·rw[htl,hlen]
      ·rw[hcur2,List.size_toArray,Hm (by rw[hL1,<-hik];omega),hL1]
      ·rw[hlen,hc2,<-htl,List.take_left' rfl]
end
end Go.TQ
end
noncomputable section
namespace Go.Proofs.YtofedieniojipaaGreat
open Go.RowKit Go.TQ Go.Lib
namespace VW
set_option maxHeartbeats 8000000 in
set_option maxRecDepth 100000 in
def ways:Sw Tryz.prog 106 28 56 3 4 174 37 496:=by
 have zE:∀w:World,(Go.sizeOf 56).run Tryz.prog w= .ok 37 w:=λ_=>by kernel_rfl
 have uS:=run_underlying Tryz.underlying28;have mixed:Tryz.prog.follows .mixedOrders=true:=by kernel_rfl
 refine⟨by decide,Tryz.underlying28,Tryz.underlying3,K9 (by kernel_rfl),λx w h=> ?_,λg n c i hi hc hc63 u vc w=> ?_,λu vc w=> ?_,λg n c hc hc63 ad m vc hm w w1 v1 hr=> ?_,λad m vc hm w w1 v1 hr=> ?_,λg n c i hi hc63 ad m vc hm hroom ⟨hz1,hz2,hw1,hb1,htn,hb3,hb4,hin⟩ hb2 w w1 w2 hov h1 h2=> ?_,λg n c i hi hc hc63 ad m vc hm hroom N G hGn hG63 ⟨hz1,hz2,hw1,hb1,htn,_,hci,hb3⟩ hz3 hGi hGim w w1 w2 w3 hz h1 h2=> ?_⟩
 ·rw[run_callFunc_extern Tryz.func174 (by kernel_rfl) (by kernel_rfl) (by kernel_rfl) (e:=Extern.SlicesOverlaps.overlaps #[28,28] #[4]) (by kernel_rfl),h]
  rfl
 rotate_left 4
 ·go_enter Tryz.func106,Tryz.ntmps106
  go_wp2_with (simp only[hov])
  go_region_law_o (refine step_copy_runI rfl _ _ 28 28 rfl _ _ (by simp[Act.eval,Act.put]) (by simp[Act.eval,Act.put]) (h1 _ _ _) ?_)
  go_wp2_with (at_builtin;refine wpList_copy_runI _ rfl _ _ 28 28 rfl _ _ rfl rfl (h2 _ _) ?_)
  go_ret
  exact⟨rfl,rfl⟩
 ·have hin:=hb3
  go_enter Tryz.func106,Tryz.ntmps106
  go_wp2_with (first
   |(at_builtin;refine Lib.wpList_append_run _ rfl _ _ _ _ rfl _ _ rfl rfl _ _ (hz _) ?_)
   |(at_builtin;refine wpList_copy_runI _ rfl _ _ 28 28 rfl _ _ rfl rfl (h1 _ _) ?_))
  go_region_law_o (refine step_copy_runI rfl _ _ 28 28 rfl (.slice (some ⟨N,(i+m)*37,none⟩) (n+m - (i+m)) (G - (i+m))) (.slice (some ⟨g,i*37,none⟩) (n - i) (c - i)) (by simp[Act.eval,Act.put]) (by simp[Act.eval,Act.put]) (h2 3 (G - (i+m)) (c - i)) ?_)
  go_wp2
  go_ret
  exact⟨rfl,rfl⟩
 all_goals
  try have hz1:¬((m:Int)=0):=by omega
  go_enter Tryz.func106,Tryz.ntmps106
  go_wp2_with (at_builtin;refine Lib.wpList_append_run _ rfl _ _ _ _ rfl _ _ rfl rfl _ _ (hr _) ?_)
  all_goals go_ret
  all_goals exact⟨rfl,rfl⟩
def enters:Go.TQ.Enters Tryz.prog 106:=⟨Tryz.f106,Tryz.func106,by kernel_rfl,by kernel_rfl⟩
end VW
end Go.Proofs.YtofedieniojipaaGreat
end
noncomputable section
namespace Go.TQ
def CC{α:Type}(bytes:Nat)(s:List α)(i:Int)(v:List α):Option (List α):=bif decide (0<=i)&&decide (i<=((s.length:Nat):Int))&&bl bytes (s.length+v.length)then some (s.take i.toNat++v++s.drop i.toNat)else none
def dQ{P:Program}{f S E I B ov k bytes:Nat}(H:Sw P f S E I B ov k bytes)(hent:Enters P f){T:Ty}(hk:∀x:T.den,(T.pv x).length=k):
  dP.Sound P (U:=U) (.cw f E k T [.ty (Ty.i .i64),.ty (Ty.sl T)] λs a=>CC bytes s a.1 a.2.1):=by
 refine⟨hent,λxs a ys h=> ?_⟩
 suffices key:∀(i:Int) (v:List T.den) (ys:List T.den),CC bytes xs i v=some ys->NR P f E k (xs.map T.pv) [.int .i64 i,.sl (v.map T.pv)] (ys.map T.pv)from key a.1 a.2.1 ys h
 clear h;intro i v ys h;unfold CC at h
 cases hc:(decide (0<=i)&&decide (i<=((xs.length:Nat):Int))&&bl bytes (xs.length+v.length))with
 |false=>rw[hc]at h;cases h
 |true=>
  rw[hc]at h;injection h with h
  subst h;simp only[Qm,Qi]at hc;obtain⟨⟨h0,h1⟩,h2⟩:=hc;obtain⟨h3,h4⟩:=Dc h2;have hone:∀x:T.den,(T.pv x).all PV.one=true:=λx=>QH.2 λy hy=>V3 (K.hZ T x y hy)
  have:=afY H (es:=xs.map T.pv) (vs:=v.map T.pv) (i:=i.toNat) (by rw[QC];omega)
   (λu hu=>by obtain⟨x,_,rfl⟩:=QP.1 hu;exact hone x) (λu hu=>by obtain⟨x,_,rfl⟩:=QP.1 hu;exact⟨hk x,hone x⟩)
   (by rw[QC,QC];exact h4) (by rw[QC,QC];exact h3)
  rw[<-List.map_take,<-List.map_drop,<-List.map_append,<-List.map_append,show((i.toNat:Nat):Int)=i by omega]at this
  exact this
end Go.TQ
end
noncomputable section
namespace Go.Proofs.YtofedieniojipaaGreat
open Go.RowKit Go.TQ Go.Lib
namespace VV
set_option maxHeartbeats 8000000 in
set_option maxRecDepth 100000 in
def ways:Sw Tryz.prog 164 47 34 3 4 223 7 120:=by
 have zE:∀w:World,(Go.sizeOf 34).run Tryz.prog w= .ok 7 w:=λ_=>by kernel_rfl
 have uS:=run_underlying Tryz.underlying47;have mixed:Tryz.prog.follows .mixedOrders=true:=by kernel_rfl
 refine⟨by decide,Tryz.underlying47,Tryz.underlying3,K9 (by kernel_rfl),λx w h=> ?_,λg n c i hi hc hc63 u vc w=> ?_,λu vc w=> ?_,λg n c hc hc63 ad m vc hm w w1 v1 hr=> ?_,λad m vc hm w w1 v1 hr=> ?_,λg n c i hi hc63 ad m vc hm hroom ⟨hz1,hz2,hw1,hb1,htn,hb3,hb4,hin⟩ hb2 w w1 w2 hov h1 h2=> ?_,λg n c i hi hc hc63 ad m vc hm hroom N G hGn hG63 ⟨hz1,hz2,hw1,hb1,htn,_,hci,hb3⟩ hz3 hGi hGim w w1 w2 w3 hz h1 h2=> ?_⟩
 ·rw[run_callFunc_extern Tryz.func223 (by kernel_rfl) (by kernel_rfl) (by kernel_rfl) (e:=Extern.SlicesOverlaps.overlaps #[47,47] #[4]) (by kernel_rfl),h]
  rfl
 rotate_left 4
 ·go_enter Tryz.func164,Tryz.ntmps164
  go_wp2_with (simp only[hov])
  go_region_law_o (refine step_copy_runI rfl _ _ 47 47 rfl _ _ (by simp[Act.eval,Act.put]) (by simp[Act.eval,Act.put]) (h1 _ _ _) ?_)
  go_wp2_with (at_builtin;refine wpList_copy_runI _ rfl _ _ 47 47 rfl _ _ rfl rfl (h2 _ _) ?_)
  go_ret
  exact⟨rfl,rfl⟩
 ·have hin:=hb3
  go_enter Tryz.func164,Tryz.ntmps164
  go_wp2_with (first
   |(at_builtin;refine Lib.wpList_append_run _ rfl _ _ _ _ rfl _ _ rfl rfl _ _ (hz _) ?_)
   |(at_builtin;refine wpList_copy_runI _ rfl _ _ 47 47 rfl _ _ rfl rfl (h1 _ _) ?_))
  go_region_law_o (refine step_copy_runI rfl _ _ 47 47 rfl (.slice (some ⟨N,(i+m)*7,none⟩) (n+m - (i+m)) (G - (i+m))) (.slice (some ⟨g,i*7,none⟩) (n - i) (c - i)) (by simp[Act.eval,Act.put]) (by simp[Act.eval,Act.put]) (h2 3 (G - (i+m)) (c - i)) ?_)
  go_wp2
  go_ret
  exact⟨rfl,rfl⟩
 all_goals
  try have hz1:¬((m:Int)=0):=by omega
  go_enter Tryz.func164,Tryz.ntmps164
  go_wp2_with (at_builtin;refine Lib.wpList_append_run _ rfl _ _ _ _ rfl _ _ rfl rfl _ _ (hr _) ?_)
  all_goals go_ret
  all_goals exact⟨rfl,rfl⟩
def enters:Go.TQ.Enters Tryz.prog 164:=⟨Tryz.f164,Tryz.func164,by kernel_rfl,by kernel_rfl⟩
end VV
end Go.Proofs.YtofedieniojipaaGreat
namespace Go.Proofs.YtofedieniojipaaGreat
open Go.RowKit Go.TQ Go.Lib
namespace VU
set_option maxHeartbeats 8000000 in
set_option maxRecDepth 100000 in
def ways:Sw Tryz.prog 236 50 38 3 4 282 15 176:=by
 have zE:∀w:World,(Go.sizeOf 38).run Tryz.prog w= .ok 15 w:=λ_=>by kernel_rfl
 have uS:=run_underlying Tryz.underlying50;have mixed:Tryz.prog.follows .mixedOrders=true:=by kernel_rfl
 refine⟨by decide,Tryz.underlying50,Tryz.underlying3,K9 (by kernel_rfl),λx w h=> ?_,λg n c i hi hc hc63 u vc w=> ?_,λu vc w=> ?_,λg n c hc hc63 ad m vc hm w w1 v1 hr=> ?_,λad m vc hm w w1 v1 hr=> ?_,λg n c i hi hc63 ad m vc hm hroom ⟨hz1,hz2,hw1,hb1,htn,hb3,hb4,hin⟩ hb2 w w1 w2 hov h1 h2=> ?_,λg n c i hi hc hc63 ad m vc hm hroom N G hGn hG63 ⟨hz1,hz2,hw1,hb1,htn,_,hci,hb3⟩ hz3 hGi hGim w w1 w2 w3 hz h1 h2=> ?_⟩
 ·rw[run_callFunc_extern Tryz.func282 (by kernel_rfl) (by kernel_rfl) (by kernel_rfl) (e:=Extern.SlicesOverlaps.overlaps #[50,50] #[4]) (by kernel_rfl),h]
  rfl
 rotate_left 4
 ·go_enter Tryz.func236,Tryz.ntmps236
  go_wp2_with (simp only[hov])
  go_region_law_o (refine step_copy_runI rfl _ _ 50 50 rfl _ _ (by simp[Act.eval,Act.put]) (by simp[Act.eval,Act.put]) (h1 _ _ _) ?_)
  go_wp2_with (at_builtin;refine wpList_copy_runI _ rfl _ _ 50 50 rfl _ _ rfl rfl (h2 _ _) ?_)
  go_ret
  exact⟨rfl,rfl⟩
 ·have hin:=hb3
  go_enter Tryz.func236,Tryz.ntmps236
  go_wp2_with (first
   |(at_builtin;refine Lib.wpList_append_run _ rfl _ _ _ _ rfl _ _ rfl rfl _ _ (hz _) ?_)
   |(at_builtin;refine wpList_copy_runI _ rfl _ _ 50 50 rfl _ _ rfl rfl (h1 _ _) ?_))
  go_region_law_o (refine step_copy_runI rfl _ _ 50 50 rfl (.slice (some ⟨N,(i+m)*15,none⟩) (n+m - (i+m)) (G - (i+m))) (.slice (some ⟨g,i*15,none⟩) (n - i) (c - i)) (by simp[Act.eval,Act.put]) (by simp[Act.eval,Act.put]) (h2 3 (G - (i+m)) (c - i)) ?_)
  go_wp2
  go_ret
  exact⟨rfl,rfl⟩
 all_goals
  try have hz1:¬((m:Int)=0):=by omega
  go_enter Tryz.func236,Tryz.ntmps236
  go_wp2_with (at_builtin;refine Lib.wpList_append_run _ rfl _ _ _ _ rfl _ _ rfl rfl _ _ (hr _) ?_)
  all_goals go_ret
  all_goals exact⟨rfl,rfl⟩
def enters:Go.TQ.Enters Tryz.prog 236:=⟨Tryz.f236,Tryz.func236,by kernel_rfl,by kernel_rfl⟩
end VU
end Go.Proofs.YtofedieniojipaaGreat
namespace Go.Proofs.YtofedieniojipaaGreat
open Go.RowKit Go.TQ Go.Lib
namespace VT
set_option maxHeartbeats 8000000 in
set_option maxRecDepth 100000 in
def ways:Sw Tryz.prog 313 32 9 3 4 348 1 16:=by
 have zE:∀w:World,(Go.sizeOf 9).run Tryz.prog w= .ok 1 w:=λ_=>by kernel_rfl
 have uS:=run_underlying Tryz.underlying32;have mixed:Tryz.prog.follows .mixedOrders=true:=by kernel_rfl
 refine⟨by decide,Tryz.underlying32,Tryz.underlying3,K9 (by kernel_rfl),λx w h=> ?_,λg n c i hi hc hc63 u vc w=> ?_,λu vc w=> ?_,λg n c hc hc63 ad m vc hm w w1 v1 hr=> ?_,λad m vc hm w w1 v1 hr=> ?_,λg n c i hi hc63 ad m vc hm hroom ⟨hz1,hz2,hw1,hb1,htn,hb3,hb4,hin⟩ hb2 w w1 w2 hov h1 h2=> ?_,λg n c i hi hc hc63 ad m vc hm hroom N G hGn hG63 ⟨hz1,hz2,hw1,hb1,htn,_,hci,hb3⟩ hz3 hGi hGim w w1 w2 w3 hz h1 h2=> ?_⟩
 ·rw[run_callFunc_extern Tryz.func348 (by kernel_rfl) (by kernel_rfl) (by kernel_rfl) (e:=Extern.SlicesOverlaps.overlaps #[32,32] #[4]) (by kernel_rfl),h]
  rfl
 rotate_left 4
 simp only[Nat.mul_one]at hov h1 h2
 ·go_enter Tryz.func313,Tryz.ntmps313
  go_wp2_with (simp only[hov])
  go_region_law_o (refine step_copy_runI rfl _ _ 32 32 rfl _ _ (by simp[Act.eval,Act.put]) (by simp[Act.eval,Act.put]) (h1 _ _ _) ?_)
  go_wp2_with (at_builtin;refine wpList_copy_runI _ rfl _ _ 32 32 rfl _ _ rfl rfl (h2 _ _) ?_)
  go_ret
  exact⟨rfl,rfl⟩
 simp only[Nat.mul_one]at h1 h2
 ·have hin:=hb3
  go_enter Tryz.func313,Tryz.ntmps313
  go_wp2_with (first
   |(at_builtin;refine Lib.wpList_append_run _ rfl _ _ _ _ rfl _ _ rfl rfl _ _ (hz _) ?_)
   |(at_builtin;refine wpList_copy_runI _ rfl _ _ 32 32 rfl _ _ rfl rfl (h1 _ _) ?_))
  go_region_law_o (refine step_copy_runI rfl _ _ 32 32 rfl (.slice (some ⟨N,i+m,none⟩) (n+m - (i+m)) (G - (i+m))) (.slice (some ⟨g,i,none⟩) (n - i) (c - i)) (by simp[Act.eval,Act.put]) (by simp[Act.eval,Act.put]) (h2 3 (G - (i+m)) (c - i)) ?_)
  go_wp2
  go_ret
  exact⟨rfl,rfl⟩
 all_goals
  try have hz1:¬((m:Int)=0):=by omega
  go_enter Tryz.func313,Tryz.ntmps313
  go_wp2_with (at_builtin;refine Lib.wpList_append_run _ rfl _ _ _ _ rfl _ _ rfl rfl _ _ (hr _) ?_)
  all_goals go_ret
  all_goals exact⟨rfl,rfl⟩
def enters:Go.TQ.Enters Tryz.prog 313:=⟨Tryz.f313,Tryz.func313,by kernel_rfl,by kernel_rfl⟩
end VT
end Go.Proofs.YtofedieniojipaaGreat
end
noncomputable section
namespace Go.TQ
section
open Go.Proofs Go.Sort Go.RowKit Go.Lib
def zy:PV->Bool
 | .int _ _| .str _| .bool _=>true
 |_=>false
def rh:PV->Value
 | .int k n=> .int k n
 | .str s=> .string s
 | .bool b=> .bool b
 |_=>undef
def Jy{w:World}{M:Nat->Prop}{G:Gh}{x:PV}(h:zy x=true):bp w M G x (rh x):=by
 cases x<;>first|exact .int _ _|exact .str _|exact .bool _|exact absurd h (by simp[zy])
def aa0{w:World}{M:Nat->Prop}{G:Gh}{x:PV}{v:Value}(h:zy x=true)(hr:bp w M G x v):v=rh x:=by
 cases x<;>first|(cases hr;rfl)|exact absurd h (by simp[zy])
def S6{x:PV}(h:zy x=true):(rh x).oneCell'=true:=by
 cases x<;>first|rfl|exact absurd h (by simp[zy])
def Ow{w:World}{M:Nat->Prop}{G:Gh}:∀{xs:List PV} {vs:List Value},xs.all zy=true->bo w M G xs vs->vs=xs.map rh
 |[],vs,_,hr=>hr.sR
 |x::xs,vs,h,hr=>by
  obtain⟨v,vs',rfl,r1,r2⟩:=hr.cons_inv;rw[Qq70,Qm]at h;rw[QD,<-aa0 h.1 r1,<-Ow h.2 r2]
def Ov{w:World}{M:Nat->Prop}{G:Gh}:∀{xs:List PV},xs.all zy=true->bo w M G xs (xs.map rh)
 |[],_=> .nil
 |x::xs,h=>by
  rw[Qq70,Qm]at h;exact .cons (Jy h.1) (Ov h.2)
def age{w w':World}(h:Fr none w w'):∃q os,w'=grow (w.drewN q) os:=by
 refine⟨w'.drawn - w.drawn,w'.heap.extract w.heap.size w'.heap.size,?_⟩;have hs:=h.size
 have hh:w'.heap=w.heap++w'.heap.extract w.heap.size w'.heap.size:=by
  apply Array.ext_getElem?;intro k;rw[Array.getElem?_append];split
  ·rename_i hk;exact h.block k hk (by simp)
  ·rename_i hk;rw[Array.getElem?_extract];split
   ·rw[show w.heap.size+(k - w.heap.size)=k by omega]
   ·exact Array.getElem?_eq_none (by omega)
 have h1:=h.os;have h2:=h.tape;have h3:=h.output;have h4:=h.drawn rfl
 cases w' with|mk hp tp dr os out=>
 cases w with|mk hp' tp' dr' os' out'=>
 simp only at h1 h2 h3 h4 hh;subst h1 h2 h3;unfold grow World.drewN;simp only;rw[<-hh,show dr'+(dr - dr')=dr by omega]
def U9{w:World}{b n:Nat}{F:Array Value}{os:Array Obj}{cur:Array Value}{e:TypeId}{fr:Nat×Nat}(hb:w.heap[b]?=some (.cells cur e fr)):
  (grow (putRow id (Sort.ahead w n) b 0 F) os).heap[b]?=some (.cells (putCells id 0 F cur) e fr):=by
 have hlt:b<w.heap.size:=(Q9.1 hb).1;unfold grow putRow mapBlock Sort.ahead;simp only;rw[Array.getElem?_append_left (by simp;exact hlt),Array.getElem?_modify,Qr rfl,hb]
 rfl
def aaW{w:World}{b n:Nat}{F:Array Value}{os:Array Obj}:Fr (some b) w (grow (putRow id (Sort.ahead w n) b 0 F) os):=by
 refine⟨rfl,rfl,rfl,?_,λq hq hne=> ?_,DL.of (Nat.le_add_right _ _)⟩
 ·unfold grow putRow mapBlock Sort.ahead;simp only[Array.size_append,Array.size_modify];omega
 ·have hqb:¬b=q:=λe=>hne (by rw[e])
  unfold grow putRow mapBlock Sort.ahead;simp only;rw[Array.getElem?_append_left (by simp;exact hq),Array.getElem?_modify,Qs hqb]
def SX{F cur:Array Value}(h:F.size<=cur.size):(putCells id 0 F cur).toList=F.toList++cur.toList.drop F.size:=by
 apply List.ext_getElem?;intro i;rw[Array.getElem?_toList];unfold putCells;rw[Array.getElem?_mapIdx,List.getElem?_append];simp only[Array.length_toList,QS,true_and,Nat.zero_add,Nat.sub_zero,id]
 by_cases hi:i<F.size
 ·rw[Qr hi,Array.getElem?_toList,Array.getElem?_eq_getElem (show i<cur.size by omega),Array.getElem?_eq_getElem hi,Qe,Qr hi,getElem!_pos F i hi]
 ·rw[Qs hi,List.getElem?_drop,Array.getElem?_toList,show F.size+(i - F.size)=i by omega]
  cases cur[i]? with
  |none=>rfl
  |some y=>rw[Qe,Qs hi]
def WW(P:Program)(f k:Nat):Prop:=∀(α:Type) [Inhabited α] (gn:α->List Value) (_:∀x,(gn x).length=k) (_:∀x,∀v∈gn x,v.oneCell'=true) (cf:α->α->Int) (_:Go.Sort.SWO (ltOf cf)) (g:Nat) (cb:Array Value) (bZ off cap:Nat) (d:Array α) (w:World)
  (_:∀args w,(callFunc g args).run P w= .ok (.enter g args) w) (_:CmpLays P g cb gn k cf bZ off d.size w) (_:HoldsK gn k w bZ off d) (_:bZ<w.heap.size) (_:d.size<4611686018427387904) (_:∀x y,(ltOf cf) x y=false->(ltOf cf) y x=false->x=y),
  Calls P f #[.slice (some ⟨bZ,off,none⟩) d.size cap,.func (.func g) #[] cb] w λe w'=>
   e= .returned (.tuple #[])/\∃n os,w'=sortWorldK gn k w bZ off n (d.toList.mergeSort λx y=> !(ltOf cf) y x).toArray os
def Rc(P:Program)(f:Nat):Prop:=∀(α:Type) [Inhabited α] (gn:α->Value) (_:OneCell gn) (cf:α->α->Int) (_:Go.Sort.SWO (ltOf cf)) (g:Nat) (cb:Array Value) (bZ off cap:Nat) (d:Array α) (w:World)
  (_:∀args w,(callFunc g args).run P w= .ok (.enter g args) w) (_:CmpLays1 P g cb gn cf bZ off d.size w) (_:Holds gn w bZ off d) (_:bZ<w.heap.size) (_:d.size<4611686018427387904) (_:∀x y,(ltOf cf) x y=false->(ltOf cf) y x=false->x=y),
  Calls P f #[.slice (some ⟨bZ,off,none⟩) d.size cap,.func (.func g) #[] cb] w λe w'=>
   e= .returned (.tuple #[])/\∃n os,w'=sortWorld gn w bZ off n (d.toList.mergeSort λx y=> !(ltOf cf) y x).toArray os
def KA(P:Program)(f:Nat):Prop:=∀(p:Option Addr) (cap:Nat) (fv:Value) (w:World),Calls P f #[.slice p 0 cap,fv] w λe w'=>e= .returned (.tuple #[])/\w'=w
section
variable {P : Program} {α : Type} [Inhabited α] {pv : α -> List PV} {k : Nat}
def qK(pv:α->List PV)(x:α):List Value:=(pv x).map rh
def WU(P:Program)(f g e k:Nat)(pv:α->List PV)(le:α->α->Bool):Prop:=
 ∀(w:World) (b cap:Nat) (xs:List α) (cur:Array Value),w.heap[b]?=some (.cells cur e (0,0))->xs.length<4611686018427387904->xs.length<=cap->cap<=maxLen->cur.size=cap*k->cur.toList.take (xs.length*k)=xs.flatMap (qK pv)->
  Calls P f #[.slice (some ⟨b,0,none⟩) xs.length cap,.func (.func g) #[] #[]] w λen w'=>en= .returned (.tuple #[])/\
   ∃cur':Array Value,w'.heap[b]?=some (.cells cur' e (0,0))/\cur'.size=cur.size/\cur'.toList.take (xs.length*k)=(xs.mergeSort le).flatMap (qK pv)/\Fr (some b) w w'
def Tv(hk:∀x,(pv x).length=k):∀xs:List α,(xs.flatMap (qK pv)).length=xs.length*k
 |[]=>by simp
 |x::xs=>by rw[List.flatMap_cons,QB,Tv hk xs,qK,QC,hk,QE,Qq73,Nat.one_mul,Nat.add_comm]
def XT{f g e:Nat}{le:α->α->Bool}(h0:KA P f)(hs:WU P f g e k pv le)(hk0:0<k)(hk:∀x,(pv x).length=k)(hp:∀x,(pv x).all zy=true)(xs:List α)(hsx:xs.length<4611686018427387904):
  aas P f e k (xs.map pv) [.bI g []] (.eK []) ((xs.mergeSort le).map pv):=by
 intro w X hX v vs hvX ⟨us,hown,hke,hr⟩ hargs;obtain⟨a1,args,rfl,ha1,hargs⟩:=hargs.cons_inv;obtain rfl:=hargs.sR;obtain⟨cs,rfl,hcs⟩:=ha1.wU;obtain rfl:=hcs.sR
 have hflat:∀l:List α,(l.map pv).flatten.map rh=l.flatMap (qK pv):=λl=>by
  induction l with
  |nil=>rfl
  |cons x l ih=>rw[QD,List.flatten_cons,List.map_append,ih,List.flatMap_cons];rfl
 have hplain:∀l:List α,(l.map pv).flatten.all zy=true:=λl=>by
  induction l with
  |nil=>rfl
  |cons x l ih=>rw[QD,List.flatten_cons,List.all_append,ih,hp x];rfl
 have hus:us=xs.flatMap (qK pv):=by rw[Ow (hplain xs) hr,hflat]
 have hms:(xs.mergeSort le).length=xs.length:=List.length_mergeSort xs
 have hkm:∀l:List α,∀u∈l.map pv,u.length=k:=λl u hu=>by
  obtain⟨x,_,rfl⟩:=QP.1 hu;exact hk x
 have hlen:(xs.map pv).length=xs.length:=QC ..;have hlen2:((xs.mergeSort le).map pv).length=xs.length:=by rw[QC,hms]
 rw[hlen]at hown
 have hrep:∀w':World,bo w' (Mv v X) dV ((xs.mergeSort le).map pv).flatten ((xs.mergeSort le).flatMap (qK pv)):=λw'=>by
  rw[<-hflat];exact Ov (hplain _)
 by_cases hx:xs=[]
 ·
  subst hx
  have hv:∃p cap,v= .slice p 0 cap:=by
   rcases hown.2 with⟨h1,_⟩|⟨b,cap,cur,h1,_⟩
   ·exact⟨none,0,h1⟩
   ·exact⟨_,cap,h1⟩
  obtain⟨p,cap,hv⟩:=hv;have:=h0 p cap (.func (.func g) #[] [].toArray) w;rw[<-hv]at this;refine this.mono λen w' ⟨h1,h2⟩=> ?_
  subst h2;refine⟨_,h1,.eK _ [] rfl (λi x v h=>by simp at h),⟨us,?_,hkm _,?_⟩,Fr.refl _ _⟩
  ·rw[hlen2];exact hown
  ·rw[hus];have:=hrep w';rw[show([]:List α).mergeSort le=[]from by simp]at this ⊢
   exact this
 ·rcases hown.2 with⟨_,h2⟩|⟨b,cap,cur,rfl,hbase,hb,hn,hcap,hsz,htake⟩
  ·exact absurd (Qq67 h2) hx
  ·refine(hs w b cap xs cur hb hsx hn hcap hsz (by rw[htake,hus])).mono λen w' ⟨h1,cur',h2,h3,h4,h5⟩=> ?_
   refine⟨_,h1,.eK _ [] rfl (λi x v h=>by simp at h),⟨(xs.mergeSort le).flatMap (qK pv),⟨?_,.inr ⟨b,cap,cur',by rw[hlen2],hbase,h2,by rw[hlen2];exact hn,hcap,by rw[h3];exact hsz,?_⟩⟩,hkm _,hrep w'⟩,h5⟩
   ·rw[Tv hk,hms,hlen2]
   ·rw[hlen2];exact h4
def Mw{gn:α->List Value}(hk:∀x,(gn x).length=k)(hk0:0<k):∀(l:List α) (t:Nat),t<l.length*k->(l.flatMap gn)[t]?=(gn l[t / k]!)[t % k]?
 |[],t,h=>by simp at h
 |x::l,t,h=>by
  rw[List.flatMap_cons]
  by_cases ht:t<k
  ·rw[List.getElem?_append_left (by rw[hk];exact ht),Nat.div_eq_of_lt ht,Nat.mod_eq_of_lt ht]
   rfl
  ·rw[List.getElem?_append_right (by rw[hk];omega),hk]
   have hl:t - k<l.length*k:=by rw[QE,Qq73,Nat.one_mul]at h;omega
   rw[Mw hk hk0 l (t - k) hl,Nat.mod_eq_sub_mod (by omega:t>=k),show t / k=(t - k) / k+1 from Nat.div_eq_sub_div hk0 (by omega)]
   simp
def ZO{gn:α->List Value}(hk:∀x,(gn x).length=k)(hk0:0<k)(l:List α):(flatK gn k l.toArray).toList=l.flatMap gn:=by
 have hlen:(l.flatMap gn).length=l.length*k:=by
  induction l with
  |nil=>simp
  |cons x l ih=>rw[List.flatMap_cons,QB,ih,hk,QE,Qq73,Nat.one_mul,Nat.add_comm]
 apply List.ext_getElem?;intro t
 by_cases ht:t<l.length*k
 ·rw[Mw hk hk0 l t ht];have hm:t % k<(gn l[t / k]!).length:=by rw[hk];exact Nat.mod_lt _ hk0
  rw[Qv hm];unfold flatK;simp only[Array.toList_map,Array.toList_range,QT,List.size_toArray];rw[List.getElem?_range ht];simp only[Qe];congr 1;rw[show(l.toArray)[t / k]! =l[t / k]! by simp]
  exact getElem!_pos (gn l[t / k]!) (t % k) hm
 ·rw[Qq72 (by rw[Array.length_toList,size_flatK,List.size_toArray];omega),Qq72 (by omega)]
def ad7(P:Program)(g:Nat)(val:α->Value)(cf:α->α->Int):Prop:=∀(x y:α) (w:World),Calls P g #[val x,val y] w λe w'=>e= .returned (.int .i64 (cf x y))/\∃q os,w'=grow (w.drewN q) os
def Pu{w:World}{b e cap:Nat}{xs:List α}{cur:Array Value}{F:Array Value}(hb:w.heap[b]?=some (.cells cur e (0,0)))(hF:F.toList=cur.toList.take F.size):Holds id w b 0 F:=by
 intro j hj
 have hc:cur[j]?=some F[j]:=by
  have h1:F.toList[j]?=some F[j]:=by rw[Array.getElem?_toList];exact Array.getElem?_eq_getElem hj
  rw[hF,Qq68,Qr hj,Array.getElem?_toList]at h1;exact h1
 rw[getElem!_pos F j hj];refine⟨?_,?_⟩
 ·unfold World.cell?;simp only[Nat.zero_add,hb];simpa using hc
 ·unfold World.frozen?;simp only[hb];simp
def aj5{f g e:Nat}{cf:α->α->Int}(hS:WW P f k)(hk0:0<k)(hk:∀x,(pv x).length=k)(hp:∀x,(pv x).all zy=true)(hO:Go.Sort.SWO (ltOf cf))(hT:∀x y,(ltOf cf) x y=false->(ltOf cf) y x=false->x=y)
  (eg:∀args w,(callFunc g args).run P w= .ok (.enter g args) w) (hc:ad7 P g (λx=> .agg (qK pv x).toArray) cf):WU P f g e k pv λx y=> !(ltOf cf) y x:=by
 intro w b cap xs cur hb hsx hn hcap hsz htake;have hlt:b<w.heap.size:=(Q9.1 hb).1;have hkE:∀x,(qK pv x).length=k:=λx=>by rw[qK,QC,hk]
 have hflat:∀l:List α,(flatK (qK pv) k l.toArray).toList=l.flatMap (qK pv):=ZO hkE hk0;have hcs:CmpLays P g #[] (qK pv) k cf b 0 xs.toArray.size w:=λm os dk _ x y=>hc x y _
 have hH:HoldsK (qK pv) k w b 0 xs.toArray:=Pu (xs:=xs) (cap:=cap) hb (by rw[hflat,size_flatK,List.size_toArray];exact htake.symm)
 have:=hS α (qK pv) hkE (λx v hv=>by obtain⟨y,hy,rfl⟩:=QP.1 hv;exact S6 (QH.1 (hp x) y hy)) cf hO g #[] b 0 cap xs.toArray w eg hcs hH hlt (by rw[List.size_toArray];exact hsx) hT
 refine this.mono λen w' ⟨h1,n,os,h2⟩=>⟨h1,?_⟩
 have hms:(xs.mergeSort λx y=> !(ltOf cf) y x).length=xs.length:=List.length_mergeSort xs
 have hFs:(flatK (qK pv) k (xs.mergeSort λx y=> !(ltOf cf) y x).toArray).size=xs.length*k:=by rw[size_flatK,List.size_toArray,hms]
 have hFc:(flatK (qK pv) k (xs.mergeSort λx y=> !(ltOf cf) y x).toArray).size<=cur.size:=by rw[hFs,hsz];exact Qq63 k hn
 subst h2;refine⟨_,U9 hb,by unfold putCells;rw[Array.size_mapIdx],?_,aaW⟩
 rw[SX hFc,<-hFs,<-Array.length_toList,List.take_left,hflat]
def aj6{f g e:Nat}{cf:α->α->Int}{p1:α->PV}(hS:Rc P f)(hp:∀x,zy (p1 x)=true)(hO:Go.Sort.SWO (ltOf cf))(hT:∀x y,(ltOf cf) x y=false->(ltOf cf) y x=false->x=y)
  (eg:∀args w,(callFunc g args).run P w= .ok (.enter g args) w) (hc:ad7 P g (λx=>rh (p1 x)) cf):WU P f g e 1 (λx=>[p1 x]) λx y=> !(ltOf cf) y x:=by
 intro w b cap xs cur hb hsx hn hcap hsz htake;have hlt:b<w.heap.size:=(Q9.1 hb).1
 have hflat:∀l:List α,(l.toArray.map λx=>rh (p1 x)).toList=l.flatMap (qK λx=>[p1 x]):=λl=>by
  induction l with
  |nil=>simp
  |cons x l ih=>
   rw[List.flatMap_cons,<-ih];simp[qK]
 have hcs:CmpLays1 P g #[] (λx=>rh (p1 x)) cf b 0 xs.toArray.size w:=λm os dk _ x y=>hc x y _
 have hF:=Pu (xs:=xs) (cap:=cap) (F:=xs.toArray.map λx=>rh (p1 x)) hb (by rw[hflat,Array.size_map,List.size_toArray,<-Nat.mul_one xs.length];exact htake.symm)
 have hH:Holds (λx=>rh (p1 x)) w b 0 xs.toArray:=by
  intro j hj;have h1:=hF j (by rw[Array.size_map];exact hj)
  rw[getElem!_pos _ j (by rw[Array.size_map];exact hj),Array.getElem_map]at h1
  rw[getElem!_pos _ j hj];exact h1
 have:=hS α (λx=>rh (p1 x)) (λx=>S6 (hp x)) cf hO g #[] b 0 cap xs.toArray w eg hcs hH hlt (by rw[List.size_toArray];exact hsx) hT
 refine this.mono λen w' ⟨h1,n,os,h2⟩=>⟨h1,?_⟩
 have hms:(xs.mergeSort λx y=> !(ltOf cf) y x).length=xs.length:=List.length_mergeSort xs
 have hput:∀(W:World) (d:Array α),putRow (λx=>rh (p1 x)) W b 0 d=putRow id W b 0 (d.map λx=>rh (p1 x)):=λW d=>by
  unfold putRow;congr 1
  funext c
  unfold putCells;apply Array.ext_getElem?;intro i;simp only[Array.getElem?_mapIdx,Array.size_map,QS,true_and,Nat.zero_add,Nat.sub_zero,id]
  cases c[i]? with
  |none=>rfl
  |some y=>
   simp only[Qe]
   by_cases hi:i<d.size
   ·rw[Qr hi,Qr hi,getElem!_pos d i hi,getElem!_pos _ i (by rw[Array.size_map];exact hi),Array.getElem_map]
   ·rw[Qs hi,Qs hi]
 unfold sortWorld at h2;rw[hput]at h2;have hFs:((xs.mergeSort λx y=> !(ltOf cf) y x).toArray.map λx=>rh (p1 x)).size=xs.length*1:=by rw[Array.size_map,List.size_toArray,hms,Nat.mul_one]
 have hFc:((xs.mergeSort λx y=> !(ltOf cf) y x).toArray.map λx=>rh (p1 x)).size<=cur.size:=by rw[hFs,hsz];exact Qq63 1 hn
 subst h2;refine⟨_,U9 hb,by unfold putCells;rw[Array.size_mapIdx],?_,aaW⟩
 rw[SX hFc,<-hFs,<-Array.length_toList,List.take_left,hflat]
end
def YH{P:Program}{g:Nat}{α:Type}{va:α->PV}{val:α->Value}{cf:α->α->Int}(hval:∀(x:α) (w:World) (M:Nat->Prop),bp w M dV (va x) (val x))(h:∀x y,Con P g false [] [va x,va y] (.int .i64 (cf x y)) [])(hg:ZK=[]:=by rfl):ad7 P g val cf:=by
 intro x y w;have hG:GI w:=λq hq=>by rw[hg]at hq;cases hq
 have:=h x y w (λ_=>False) (.nil hG) 0 0 [] [val x,val y] (λe=>by cases e) (.cons (hval x w _) (.cons (hval y w _) .nil))
 refine this.mono λen w' ⟨v,rvs,h1,h2,_,h4⟩=> ?_
 rw[h2.jw]at h1;exact⟨h1,age h4⟩
end
section
open Go.Proofs Go.Sort
def Kt{α:Type}(c:α->α->Option Int)(x y:α):Int:=(c x y).getD 0
structure aeO {α:Type} (c:α->α->Option Int):Prop where
 some:∀x y,c x y=some (Kt c x y)
 ord:Go.Sort.SWO (ltOf (Kt c))
 tot:∀x y,ltOf (Kt c) x y=false->ltOf (Kt c) y x=false->x=y
open Classical in
 def Ct{α:Type}(c:α->α->Option Int)(s:List α):Option (Unit×List α):=if aeO c/\s.length<4611686018427387904 then some ((),s.mergeSort λx y=> !(ltOf (Kt c)) y x)else none
section
variable {P : Program} {f g e k : Nat} {T : Ty} {F : T.den × T.den × Unit -> Option Int} (hent : Enters P f) (h0 : KA P f) (hgs : dP.Sound P (U := U) (.fn g [.ty T, .ty T] (.one (Ty.i .i64)) F)) (hi : Inhabited T.den) (hp : ∀ x : T.den, (T.pv x).all zy = true)
 include hent h0 hgs hi hp
theorem aiM(hS:WW P f k)(hk0:0<k)(hk:∀x:T.den,(T.pv x).length=k)(hv:∀x:T.den,fC (U:=U) T x= .agg (T.pv x)):
  dP.Sound P (U:=U) (.rw f e k T [.bI g []] (.many []) λs a=>Ct (λx y=>F (x,y,())) s):=by
 refine⟨hent,λxs a r ys h=> ?_⟩
 have h:Ct (λx y=>F (x,y,())) xs=some (r,ys):=h
 unfold Ct at h;split at h
 ·rename_i hc;injection h with h
  injection h with _ h2
  subst h2;refine XT h0 (aj5 hS hk0 hk hp hc.1.ord hc.1.tot (λargs w=>nq hgs.1 args) ?_) hk0 hk hp xs hc.2
  refine YH (va:=λx=> .agg (T.pv x)) (λx w M=> .agg _ _ (by rw[qK,QC]) λi y v h1 h2=> ?_) λx y=> ?_
  ·rw[qK,QT,h1]at h2;injection h2 with h2
   rw[<-h2];exact Jy (QH.1 (hp x) y (Q8 h1))
  ·have:=hgs.2 (x,y,()) _ (hc.1.some x y);rw[show gU (U:=U) [.ty T,.ty T] (x,y,())=[.agg (T.pv x),.agg (T.pv y)]by rw[<-hv x,<-hv y];rfl]at this
   exact this
 ·cases h
theorem YZ(hS:Rc P f)(hv:∀x:T.den,T.pv x=[fC (U:=U) T x]):
  dP.Sound P (U:=U) (.rw f e 1 T [.bI g []] (.many []) λs a=>Ct (λx y=>F (x,y,())) s):=by
 refine⟨hent,λxs a r ys h=> ?_⟩
 have h:Ct (λx y=>F (x,y,())) xs=some (r,ys):=h
 unfold Ct at h;split at h
 ·rename_i hc;injection h with h
  injection h with _ h2
  subst h2;have hp1:∀x:T.den,zy (fC (U:=U) T x)=true:=λx=>by have:=hp x;rw[hv x]at this;simpa using this
  have hpv:(λx:T.den=>T.pv x)=λx=>[fC (U:=U) T x]:=funext hv
  have:=XT (pv:=λx:T.den=>[fC (U:=U) T x]) (e:=e) h0 (aj6 hS hp1 hc.1.ord hc.1.tot (λargs w=>nq hgs.1 args) (YH (va:=λx=>fC (U:=U) T x) (λx w M=>Jy (hp1 x)) λx y=>hgs.2 (x,y,()) _ (hc.1.some x y))) (by omega) (λx=>rfl) (λx=>by simpa using hp1 x) xs hc.2
  rw[<-hpv]at this;exact this
 ·cases h
end
end
end Go.TQ
end
noncomputable section
namespace Go.Proofs
open Go.Shelf
def exF{P:Program}{f:FuncId}{fn:Func}(h:(((P.funcs[f]?).map Func.name).getD ""== "runtime.NumGoroutine")=false)(h2:P.funcs[f]?=some {fn with name:=((P.funcs[f]?).map Func.name).getD ""}):Bears P f fn:=⟨_,h,h2⟩
def GV:Go.Shelf.Ren:=⟨λ|6=>342|15=>381|14=>380|28=>417|29=>418|20=>409|21=>410|22=>411|23=>412|24=>413|25=>414|26=>415|27=>416|46=>441|47=>442|48=>443|49=>444|50=>445|57=>456|n=>n,λ|22=>32|24=>9|25=>204|3=>3|39=>184|0=>0|53=>298|55=>318|4=>4|46=>325|45=>324|50=>102|5=>5|9=>9|66=>343|70=>347|76=>354|77=>225|n=>n,λ|n=>n⟩
set_option maxRecDepth 100000 in
def Rb:Go.Proofs.SlLaysF.n6 Tryz.prog GV:=by
 constructor
 all_goals first
  |kernel_rfl
  |exact λ_=>by kernel_rfl
  |exact exF (by kernel_rfl) (by kernel_rfl)
def Su:Go.Shelf.Ren:=⟨λ|6=>446|15=>381|14=>457|28=>417|29=>418|20=>459|21=>460|22=>461|23=>462|24=>463|25=>464|26=>465|27=>466|46=>475|47=>442|48=>443|49=>476|50=>477|57=>481|n=>n,λ|22=>206|24=>36|25=>264|3=>3|39=>184|0=>0|53=>298|55=>318|4=>4|46=>325|45=>324|50=>102|5=>5|9=>9|66=>343|70=>347|76=>354|77=>225|n=>n,λ|n=>n⟩
set_option maxRecDepth 100000 in
def Ra:Go.Proofs.SlLaysF0.n6 Tryz.prog Su:=by
 constructor
 all_goals first
  |kernel_rfl
  |exact λ_=>by kernel_rfl
  |exact exF (by kernel_rfl) (by kernel_rfl)
def GU:Go.Shelf.Ren:=⟨λ|6=>450|15=>381|14=>458|28=>417|29=>418|20=>467|21=>468|22=>469|23=>470|24=>471|25=>472|26=>473|27=>474|46=>478|47=>442|48=>443|49=>479|50=>480|57=>482|n=>n,λ|22=>22|24=>3|25=>42|3=>3|39=>184|0=>0|53=>298|55=>318|4=>4|46=>325|45=>324|50=>102|5=>5|9=>9|66=>343|70=>347|76=>354|77=>225|n=>n,λ|n=>n⟩
set_option maxRecDepth 100000 in
def P9:Go.Proofs.SlLaysF.n6 Tryz.prog GU:=by
 constructor
 all_goals first
  |kernel_rfl
  |exact λ_=>by kernel_rfl
  |exact exF (by kernel_rfl) (by kernel_rfl)
end Go.Proofs
namespace Go.Proofs.YtofedieniojipaaGreat
open Go.TQ Go.Proofs
namespace DG
def enters:Go.TQ.Enters Tryz.prog 342:=⟨_,Tryz.func342,by kernel_rfl,by kernel_rfl⟩
def none:KA Tryz.prog 342:=λp cap fv w=>AnyF.slices_SortFunc_none (P:=Tryz.prog) (ρ:=GV) {Rb with} p cap fv w
def KR:Rc Tryz.prog 342:=λα _ gn h1 cf hO g cb bZ off cap d w eg hc hH hb hsz hT=>Any.slices_SortFunc_total Rb gn h1 cf hO g cb bZ off cap d w eg hc hH hb hsz hT
end DG
namespace N0
def enters:Go.TQ.Enters Tryz.prog 446:=⟨_,Tryz.func446,by kernel_rfl,by kernel_rfl⟩
def none:KA Tryz.prog 446:=λp cap fv w=>AnyF.slices_SortFunc_none Ra p cap fv w
def KR:WW Tryz.prog 446 2:=λα _ gn hk h1 cf hO g cb bZ off cap d w eg hc hH hb hsz hT=>AnyQ.slices_SortFunc_total Ra 2 Tryz.isAgg36 Tryz.sizeOf36 gn hk h1 cf hO g cb bZ off cap d w eg hc hH hb hsz hT
end N0
namespace NZ
def enters:Go.TQ.Enters Tryz.prog 450:=⟨_,Tryz.func450,by kernel_rfl,by kernel_rfl⟩
def none:KA Tryz.prog 450:=λp cap fv w=>AnyF.slices_SortFunc_none (P:=Tryz.prog) (ρ:=GU) {P9 with} p cap fv w
def KR:Rc Tryz.prog 450:=λα _ gn h1 cf hO g cb bZ off cap d w eg hc hH hb hsz hT=>Any.slices_SortFunc_total P9 gn h1 cf hO g cb bZ off cap d w eg hc hH hb hsz hT
end NZ
end Go.Proofs.YtofedieniojipaaGreat
end
