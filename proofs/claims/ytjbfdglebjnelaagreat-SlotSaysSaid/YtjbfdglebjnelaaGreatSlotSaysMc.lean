/-
  Texts made small by a program (see NOTES). Conditions: those that each theorem names.
-/
import Derived.Test.YtjbfdglebjnelaaGreatSlotSaysMb
import Derived.KernelRfl
import Derived.Laws.CopyRow
import Derived.Laws.Externs
import Derived.Lib.Overlaps
import Derived.Lib.AppendZerosOnto
import Derived.Laws.NewBlocks
import Derived.Test.YtjbfdglebjnelaaGreatProg
import Derived.Shelf.Spec.SlicesInsert
import Derived.Shelf.SlSortCmp.NoneTotal
set_option linter.unusedVariables false
set_option linter.unusedSimpArgs false
set_option linter.unusedSectionVars false
set_option maxHeartbeats 2000000
noncomputable section
namespace Go.TQ
section
open Go.RowKit
def rU{σ ρ:Type}(step:σ->Option (σ⊕ρ)):Nat->σ->Option ρ
 |0,_=>none
 |n+1,s=>match step s with
  |none=>none
  |some (.inr r)=>some r
  |some (.inl s')=>rU step n s'
theorem GZ{σ ρ:Type}{step:σ->Option (σ⊕ρ)}{r:ρ}:∀{n m:Nat} {s:σ},n<=m->rU step n s=some r->rU step m s=some r
 |0,_,_,_,h=>by cases h
 |n+1,0,_,hnm,_=>by omega
 |n+1,m+1,s,hnm,h=>by
  simp only[rU]at h ⊢;split at h
  ·cases h
  ·exact h
  ·exact GZ (by omega) h
theorem aak{σ ρ:Type}{step:σ->Option (σ⊕ρ)}{r r':ρ}{n m:Nat}{s:σ}(h:rU step n s=some r)(h':rU step m s=some r'):r=r':=by
 have h1:=GZ (Nat.le_max_left n m) h;have h2:=GZ (Nat.le_max_right n m) h';rw[h1]at h2;injection h2
open Classical in
 def aC{σ ρ:Type}(step:σ->Option (σ⊕ρ))(s:σ):Option ρ:=
 if h:∃r,∃n,rU step n s=some r then some (Classical.choose h)else none
theorem CG{σ ρ:Type}{step:σ->Option (σ⊕ρ)}{s:σ}{r:ρ}(h:aC step s=some r):∃n,rU step n s=some r:=by
 unfold aC at h;split at h
 ·rename_i hx;injection h with h
  obtain⟨n,hn⟩:=Classical.choose_spec hx;exact⟨n,by rw[hn,h]⟩
 ·cases h
theorem LZ{σ ρ:Type}{step:σ->Option (σ⊕ρ)}{s:σ}{r:ρ}{n:Nat}(h:rU step n s=some r):aC step s=some r:=by
 unfold aC;have hx:∃r,∃n,rU step n s=some r:=⟨r,n,h⟩;rw[dif_pos hx];obtain⟨m,hm⟩:=Classical.choose_spec hx;rw[aak hm h]
theorem ff{σ ρ:Type}(step:σ->Option (σ⊕ρ))(s:σ):aC step s=match step s with|none=>none|some (.inr r)=>some r|some (.inl s')=>aC step s':=by
 cases hs:step s with
 |none=>
  cases h:aC step s with
  |none=>rfl
  |some r=>
   obtain⟨n,hn⟩:=CG h
   cases n with
   |zero=>cases hn
   |succ n=>simp[rU,hs]at hn
 |some x=>
  cases x with
  |inr r=>exact LZ (n:=1) (by simp[rU,hs])
  |inl s'=>
   simp only
   cases h':aC step s' with
   |some r=>
    obtain⟨n,hn⟩:=CG h';exact LZ (n:=n+1) (by simp only[rU,hs];exact hn)
   |none=>
    cases h:aC step s with
    |none=>rfl
    |some r=>
     obtain⟨n,hn⟩:=CG h
     cases n with
     |zero=>cases hn
     |succ n=>simp only[rU,hs]at hn;rw[LZ hn]at h';cases h'
open Classical in
 def both{ρ:Type}(x y:Option ρ):Option ρ:=if x=y then x else none
theorem aaP{ρ:Type}{x y:Option ρ}{r:ρ}(h:both x y=some r):x=some r/\y=some r:=by
 unfold both at h;split at h
 ·rename_i e;exact⟨h,e▸h⟩
 ·cases h
@[simp] theorem aiu {ρ:Type} (x:Option ρ):both x x=x:=Qr rfl
def aX{σ ρ:Type}(j:σ->Option ρ)(f:(σ->Option ρ)->Option ρ):Option ρ:=f j
def nQ{α σ ρ:Type}(step:Nat->α->σ->Option (σ⊕ρ))(fin:σ->Option ρ):List α->σ->Option ρ
 |[],s=>fin s
 |a::l,s=>match step l.length a s with
  |none=>none
  |some (.inr r)=>some r
  |some (.inl s')=>nQ step fin l s'
section
variable {U : TU}
inductive SA (U:TU) where
 |skip
 |ze (rs:RS U)
 |vr (un:List (Nat×Nat)) (rs:RS U)
 |seq (x y:SA U)
 |join (J:JS U) (x y:SA U)
 |cond (c:bq) (x y:SA U)
 |block (id:Nat) (x:SA U)
 |loop (J:JS U) (x:SA U)
 |Zq (n:Nat) (x:SA U)
 |back (J:JS U) (f k:Nat) (nE:Option Nat) (T:U.Ty) (tg p0 p1:Nat) (x y:SA U)
 |exit (id:Nat)
 |ret
 |ps (p:Ps U) (x:SA U)
 |Hy (p:Ps U) (x:SA U)
def SA.erase:SA U->SC
 | .skip=> .skip
 | .ze rs=> .ze rs.flat
 | .vr un rs=> .vr un rs.flat
 | .seq x y=> .seq x.erase y.erase
 | .join _ x y=> .seq x.erase y.erase
 | .cond c x y=> .cond c x.erase y.erase
 | .block id x=> .block id x.erase
 | .loop _ x=> .loop x.erase
 | .Zq _ x=> .loop x.erase
 | .back _ _ _ _ _ tg p0 p1 x y=> .Hv (.tmp tg) [p0,p1] x.erase y.erase
 | .exit id=> .exit id
 | .ret=> .ret
 | .ps _ x=>x.erase
 | .Hy _ x=>x.erase
def SA.dP:SA U->Bool
 | .ze rs=>rs.dP
 | .vr _ rs=>rs.dP
 | .seq x y=>x.dP&&y.dP
 | .join _ x y=>x.dP&&y.dP
 | .cond c x y=>c.dP&&x.dP&&y.dP
 | .block _ x=>x.dP
 | .loop _ x=>x.dP
 | .Zq _ x=>x.dP
 | .back _ _ _ _ _ _ _ _ x y=>x.dP&&y.dP
 | .ps _ x=>x.dP
 | .Hy _ x=>x.dP
 |_=>true
variable (K : TK U)
def Ec(Γ:List (eB U)){ρ:Type}(W:WS)(base:Nat):RS U->(i:Nat)->(S:aZ U)->(k:aZ U->List w6->Option ρ)->Option ρ
 | .nil,_,S,k=>k S []
 | .op o r,i,S,k=>YN K Γ W (base+i) S o fun x wr=>Ec Γ W base r (i+1) (S.c6 o.d x wr) fun S' fs=>k S' (⟨o.d,o.bX,FQ (base+i) S.st o,wr.map (·.1)⟩::fs)
 | .Ch t r,i,S,k=>(match S.env t with
  | .bool b=>bif b then Ec Γ W base r i (S.c6 (some t) (.bool true) none) k else Ec Γ W base r i (S.c6 (some t) (.bool false) none) k
  | .undef=>Ec Γ W base r i S k
  |_=>none)
 |_,_,_,_=>none
def II(F:List Nat)(ds:List Nat):Bool:=ds.all fun t=> !iT t F
def aZ.more(S:aZ U)(n:Nat):aZ U:={env:=S.env,H:=S.H,N:=S.N+n}
def aZ.gw(S:aZ U)(D:List Nat):aZ U:={env:=fun t=>(match iT t D with|true=> .any|false=>S.env t),H:=S.H,N:=S.N}
def Ys(U:TU)(T:U.Ty):Option Nat->Bool
 |none=> !U.agg T
 |some n=>U.agg T&&Nat.beq n (U.size T)
def Tz{ρ:Type}(f:(aZ U->Option ρ)->aZ U->Option ρ):Nat->aZ U->Option ρ
 |0,_=>none
 |n+1,S=>f (Tz f n) S
 def qj(Γ:List (eB U)):SA U->{ρ:Type}->(F:List Nat)->(W:WS)->(k:Exit->aZ U->Option ρ)->(S:aZ U)->Option ρ
 | .skip,_,_,_,k,S=>k .normal S
 | .ze rs,_,F,W,k,S=>(match II F rs.ky with
  |true=>ly K Γ rs W S.N (S.more rs.len) fun S'=>k .normal S'
  |false=>none)
 | .vr un rs,_,F,W,k,S=>(match II F rs.ky with
  |true=>Ec K Γ W S.N rs 0 (S.more rs.len) fun S' fs=>(match un.all (fun p=>match fs[p.1]?,fs[p.2]? with|some a,some b=>DB a b|_,_=>false)with
   |true=>k .normal S'
   |false=>none)
  |false=>none)
 | .seq x y,_,F,W,k,S=>qj Γ x F W (fun e S'=>match e with
  | .normal=>qj Γ y F W k S'
  |e=>k e S') S
 | .join J x y,_,F,W,k,S=>(match vB S J F W with
  |true=>aX (fun v=>qj Γ y F W k (unpack K S J v)) fun j=>qj Γ x J.fb (some (S.N,fI J.items)) (fun e S'=>match e with
   | .normal=>(match pack K S' J.items with|some v=>j v|none=>none)
   |e=>k e S') S
  |false=>none)
 | .cond c x y,_,F,W,k,S=>(match c.cY S with
  | .bool b=>bif b then qj Γ x F W k S else qj Γ y F W k S
  | .gS=>both (qj Γ x F W k S) (qj Γ y F W k S)
  |_=>none)
 | .block id x,_,F,W,k,S=>qj Γ x F W (fun e S'=>match e with
  | .exit i=>(match Nat.beq i id with|true=>k .normal S'|false=>k (.exit i) S')
  |e=>k e S') S
 | .loop J x,_,F,W,k,S=>(match vB S J F W with
  |true=>(match pack K S J.items with
   |some v0=>aC (fun v=>qj Γ x J.fb (some (S.N,fI J.items)) (fun e S'=>match e with
    | .normal=>(match pack K S' J.items with|some v=>some (Sum.inl v)|none=>none)
    |e=>(k e S').map Sum.inr) (unpack K S J v)) v0
   |none=>none)
  |false=>none)
 | .Zq n x,_,F,W,k,S=>Tz (fun ih S=>qj Γ x F W (fun e S'=>match e with| .normal=>ih S'|e=>k e S') S) n S
 | .back J f kk nE T tg p0 p1 x y,_,F,W,k,S=>
  let D:=SC.uR (.Hv (.tmp tg) [p0,p1] x.erase y.erase)
  (match Ot f kk nE Γ&&Nat.beq (U.size T) kk&&Ys U T nE&&iT tg J.fb&&II J.fb D&&II F D&&vB (S.gw D) J F W with
  |true=>(match S.env tg with
   | .bG f' [.ref [.sl T' xs']]=>(match Nat.beq f' f with
    |true=>(match Bq T' T xs' with
     |some xs=>(match pack K (S.gw D) J.items with
      |some v0=>nQ (fun m a v=>qj Γ x J.fb (some (S.N,fI J.items)) (fun e S1=>match e with
       | .normal=>qj Γ y J.fb (some (S.N,fI J.items)) (fun e S'=>match e with
        | .normal=>(match pack K (S'.gw D) J.items with|some v=>some (Sum.inl v)|none=>none)
        | .ret=>(k .ret (S'.gw D)).map Sum.inr
        | .exit i=>(k (.exit i) (S'.gw D)).map Sum.inr
        |_=>none) S1
       |_=>none) {(unpack K (S.gw D) J v)with env:=iC (iC (unpack K (S.gw D) J v).env p0 (.int .i64 m)) p1 (xY K T a)}) (fun v=>k .normal (unpack K (S.gw D) J v)) xs.reverse v0
      |none=>none)
     |none=>none)
    |false=>none)
   |_=>none)
  |false=>none)
 | .exit id,_,_,_,k,S=>k (.exit id) S
 | .ret,_,_,_,k,S=>k .ret S
 | .ps p x,_,F,W,k,S=>(match(p.GF S).all (okW W)&&II F p.tmps with
  |true=>(match p.run S with|some S'=>qj Γ x F W k S'|none=>none)
  |false=>none)
 | .Hy p x,_,F,W,k,S=>qj Γ x F W (fun e S'=>match e with
  | .normal=>(match(p.GF S').all (okW W)&&II F p.tmps with
   |true=>(match p.run S' with|some S1=>k .normal S1|none=>none)
   |false=>none)
  |e=>k e S') S
structure jI (F:List Nat) (W:WS) (S S':aZ U):Prop where
 env:∀t∈F,S'.env t=S.env t
 H:∀id,okW W id=false->S'.H id=S.H id
 N:S.N<=S'.N
theorem jI.refl(F:List Nat)(W:WS)(S:aZ U):jI F W S S:=⟨fun _ _=>rfl,fun _ _=>rfl,QI _⟩
theorem jI.trans{F:List Nat}{W:WS}{S S' S'':aZ U}(h:jI F W S S')(h':jI F W S' S''):jI F W S S'':=
 ⟨fun t ht=>(h'.env t ht).trans (h.env t ht),fun id hid=>(h'.H id hid).trans (h.H id hid),QK h.N h'.N⟩
theorem Cs.toC{D F:List Nat}{W:WS}{S S':aZ U}(h:Cs D W S S')(ho:II F D=true):jI F W S S':=
 ⟨fun t ht=>h.env t (fun hd=>by have h1:=QH.1 ho t hd;rw[eW.2 ht]at h1;cases h1),h.H,h.N⟩
theorem jI.more{F:List Nat}{W:WS}{S S':aZ U}{n:Nat}(h:jI F W (S.more n) S'):jI F W S S':=
 ⟨h.env,h.H,QK (Nat.le_add_right _ _) h.N⟩
variable {K}
variable {P : Program} {nt : Nat}
theorem XH{sc:SC}{Q:Exit->St->Prop}{S S':St}(hw:∀(E:En) (a:Act) (w:World) (L:Nat->Value),Rel E S a w L->∃L',Rel E S' a w L')(h:VS P nt sc Q S'):VS P nt sc Q S:=
 fun c hs hc E hE hk a w L hr=>by
  obtain⟨L',h'⟩:=hw E a w L hr;exact h c hs hc E hE hk a w L' h'
theorem afk{sc:SC}{Q Q':Exit->St->Prop}{S:St}(h:VS P nt sc Q' S)(hq:∀e A,Q' e A->∃A',Q e A'/\∀(E:En) (a:Act) (w:World) (L:Nat->Value),Rel E A a w L->∃L',Rel E A' a w L'):VS P nt sc Q S:=
 fun c hs hc E hE hk a w L hr=>wpIn_mono (h c hs hc E hE hk a w L hr) fun _ _ _ ⟨S',L',h1,h2⟩=>by
  obtain⟨A',h3,h4⟩:=hq _ _ h2;obtain⟨L'',h5⟩:=h4 _ _ _ _ h1;exact⟨A',L'',h5,h3⟩
theorem afj{Γ:List (eB U)}(hΓ:xc P Γ){rs:RS U}{W:WS}{ρ:Type}{k:aZ U->Option ρ}{r:ρ}{S:aZ U}(hok:rs.dP=true)(hr:ly K Γ rs W S.N (S.more rs.len) k=some r){Q:Exit->St->Prop}
  (h:∀S',Cs rs.ky W (S.more rs.len) S'->k S'=some r->Q .normal S'.st):VS P nt (.ze rs.flat) Q S.st:=by
 intro c hs hc
 cases c with
 |region id ops d=>
  cases d with
  |true=>simp only[aP]at hc;(try split at hc)<;>(try split at hc)<;>(try split at hc)<;>cases hc
  |false=>
   simp only[aP]at hc;split at hc
   ·rename_i gs' hgs;split at hc
    ·rename_i hd;injection hc with hc
     injection hc with hc
     subst hc;intro E hE hk a w L hrel;refine wpIn_region_list ?_;have h0:Rel E (S.more rs.len).st a w L:=hrel.room rs.len;have:=qJ (K:=K) (E:=E) hΓ (ops:=ops) (Q:=fun e a' w'=>∃S' L',Rel E S' a' w' L'/\Q e S') rs W S.N (S.more rs.len) k r ops.toList [] a w L hok hgs h0 (QI _) (aaO hE hk (Vc hd)) hr (fun S' a' w' L' hf h' hk'=>⟨S'.st,L',h',h S' hf hk'⟩)
     simpa using this
    ·cases hc
   ·cases hc
 |seq x y=>simp only[aP]at hc;split at hc<;>cases hc
 |cond c x y=>simp only[aP]at hc;split at hc<;>cases hc
 |block id c=>simp only[aP,Qb]at hc;obtain⟨_,_,hc⟩:=hc;cases hc
 |loop c=>simp only[aP,Qb]at hc;obtain⟨_,_,hc⟩:=hc;cases hc
 |rangeFunc g ps x y=>simp only[aP]at hc;split at hc<;>(try split at hc)<;>cases hc
 |_=>simp only[aP]at hc<;>cases hc
theorem M9{Γs Γs':Nat->pM}{base:Nat}:∀(l:List (Nat×SG)) (S:St),(∀p∈l,Γs p.1=Γs' p.1)->pz Γs base l S=pz Γs' base l S
 |[],_,_=>rfl
 |(i,g)::l,S,h=>by
  simp only[pz,h (i,g) (by simp)]
  split
  ·rfl
  ·rename_i p hp;rw[M9 l _ fun q hq=>h q (Qy _ hq)]
theorem xi{Γ:List (eB U)}(hΓ:xc P Γ){W:WS}{base:Nat}{ρ:Type}{r:ρ}:∀(rs:RS U) (i:Nat) (S:aZ U) (k:aZ U->List w6->Option ρ),rs.dP=true->Ec K Γ W base rs i S k=some r->
  ∃(Γs:Nat->pM) (S':aZ U) (fs:List w6),(∀j,oP P (Γs j))/\pz Γs base ((rs.flat.zipIdx i).map fun p=>(p.2,p.1)) S.st=some (S'.st,fs)/\Cs rs.ky W S S'/\k S' fs=some r
 | .nil,i,S,k,_,h=>⟨fun _ _=>none,S,[],fun _=>Yq,rfl,Cs.refl _ _ _,h⟩
 | .op o rs,i,S,k,hok,h=>by
  simp only[RS.dP,Qm]at hok;simp only[Ec]at h;obtain⟨Γ',x,wr,h1,h2,h3,h4⟩:=OD hΓ hok.1 h;obtain⟨Γs,S',fs,h5,h6,h7,h8⟩:=xi hΓ rs (i+1) _ _ hok.2 h4;refine⟨fun j=>if j=i then Γ' else Γs j,S',_,fun j=> ?_,?_,?_,h8⟩
  ·simp only;split
   ·exact h1
   ·exact h5 j
  ·simp only[RS.flat,List.zipIdx_cons,QD,pz,Qt,h2]
   have:pz (fun j=>if j=i then Γ' else Γs j) base ((rs.flat.zipIdx (i+1)).map fun p=>(p.2,p.1)) (S.st.c6 o.d x.pv (wr.map kK))=some (S'.st,fs):=by
    rw[<-Ia,<-h6];refine M9 _ _ fun p hp=> ?_
    obtain⟨q,hq,rfl⟩:=QP.1 hp;have:=List.mem_zipIdx hq;simp only;rw[Qs (by omega)]
   rw[this];simp only[E2]
   cases wr with
   |none=>rfl
   |some p=>rfl
  ·refine(XE S W o.d x wr h3).trans h7 fun t ht=> ?_
   simp only[RS.ky]at ht
   cases hdd:o.d with
   |none=>rw[hdd]at ht;exact⟨by simp,ht⟩
   |some d=>rw[hdd]at ht;simp only[QA,not_or]at ht;exact⟨by simpa using fun e=>ht.1 e,ht.2⟩
 | .Ch t rs,i,S,k,hok,h=>by
  simp only[Ec]at h;split at h
  ·rename_i b hb
   cases b with
   |true=>rw[Qk,DK hb]at h;exact xi hΓ rs i S k hok h
   |false=>rw[Ql,DK hb]at h;exact xi hΓ rs i S k hok h
  ·exact xi hΓ rs i S k hok h
  ·cases h
 | .ps _ _,_,_,_,_,h=>by cases h
 | .ite _ _ _ _ _ _ _ _,_,_,_,_,h=>by cases h
theorem afg{c:Code}{Q:Exit->St->Prop}{S:St}(I:Nat->St->Prop)(m0:Nat){S0:St}(hw0:∀(E:En) (a:Act) (w:World) (L:Nat->Value),Rel E S a w L->∃L',Rel E S0 a w L')(h0:I m0 S0)
  (hr:∀m S,I m S->V P nt c (fun e S'=>match e with| .normal=>∃m',m'<m/\∃S'',(∀(E:En) (a:Act) (w:World) (L:Nat->Value),Rel E S' a w L->∃L',Rel E S'' a w L')/\I m' S''|e=>Q e S') S):V P nt (.loop c) Q S:=fun E hE hk a w L hrel=>by
 refine wpIn_loop_ghost (fun m a w=>∃S L,I m S/\Rel E S a w L) m0 ?_ ?_
 ·obtain⟨L',h'⟩:=hw0 E a w L hrel;exact⟨S0,L',h0,h'⟩
 rintro m a w ⟨S1,L1,hI,h1⟩;refine wpIn_mono (hr m S1 hI E hE hk a w L1 h1) ?_;rintro e a' w' ⟨S',L',h2,h3⟩
 cases e with
 |normal=>
  obtain⟨m',hlt,S'',hw,hI'⟩:=h3;obtain⟨L'',h4⟩:=hw E a' w' L' h2;exact⟨m',hlt,S'',L'',hI',h4⟩
 |exit i=>exact⟨S',L',h2,h3⟩
 |goto l=>exact⟨S',L',h2,h3⟩
 |ret=>exact⟨S',L',h2,h3⟩
 |panic c=>exact⟨S',L',h2,h3⟩
 |outgrown=>exact⟨S',L',h2,h3⟩
theorem VJ{x:SC}{Q:Exit->St->Prop}{S:St}(I:Nat->St->Prop)(m0:Nat){S0:St}(hw0:∀(E:En) (a:Act) (w:World) (L:Nat->Value),Rel E S a w L->∃L',Rel E S0 a w L')(h0:I m0 S0)
  (hr:∀m S,I m S->VS P nt x (fun e S'=>match e with| .normal=>∃m',m'<m/\∃S'',(∀(E:En) (a:Act) (w:World) (L:Nat->Value),Rel E S' a w L->∃L',Rel E S'' a w L')/\I m' S''|e=>Q e S') S):VS P nt (.loop x) Q S:=by
 intro c hs hc
 cases c with
 |loop p=>
  simp only[aP,Qb]at hc;obtain⟨x',hx,hc⟩:=hc;injection hc with h1
  subst h1;exact afg I m0 hw0 h0 (fun m S hI=>hr m S hI p hs hx)
 |region id ops d=>cases d<;>simp only[aP]at hc<;>(try split at hc)<;>(try split at hc)<;>(try split at hc)<;>cases hc
 |seq x y=>simp only[aP]at hc;split at hc<;>cases hc
 |cond c x y=>simp only[aP]at hc;split at hc<;>cases hc
 |block id c=>simp only[aP,Qb]at hc;obtain⟨_,_,hc⟩:=hc;cases hc
 |rangeFunc g ps x y=>simp only[aP]at hc;split at hc<;>(try split at hc)<;>cases hc
 |_=>simp only[aP]at hc<;>cases hc
theorem LY{S:aZ U}{J:JS U}{F:List Nat}{W:WS}(hchk:vB S J F W=true)(v:tx J.items):jI F W S (unpack K S J v):=by
 simp only[vB,Qm,QH]at hchk;obtain⟨⟨⟨⟨⟨⟨hnd,hids⟩,hokv⟩,hkeep⟩,hobj⟩,hF⟩,hW⟩:=hchk;refine⟨fun t ht=> ?_,fun id hid=> ?_,?_⟩
 ·have hk:=eW.1 (hF t ht);have hns:iT t (slotsOf J.items)=false:=by simpa using(hkeep t hk).2
  rcases By (K:=K) (S.base J.fb) J.items v t with⟨⟨i,d⟩,hmem,h1,h2⟩|⟨_,h2⟩
  ·exact absurd (El (lI hmem) h1) (rH hns)
  ·rw[show(unpack K S J v).env t=_ from h2,Hj,Qr hk]
 ·have hlt:id<S.N:=by
   cases W with
   |none=>cases hW
   |some q=>
    obtain⟨n,l⟩:=q;simp only at hW;simp only[okW,Qq74]at hid;have h1:=QG hW;have h2:¬n<=id:=fun hle=>by rw[Nat.ble_eq_true_of_le hle]at hid;cases hid.1
    omega
  rcases Fw (K:=K) (S.base J.fb) J.items v id hnd with⟨⟨i,d⟩,hmem,h1,h2⟩|⟨_,h2⟩
  ·have:=(hids id (wh (lI hmem) h1)).2;rw[hid]at this;cases this
  ·rw[show(unpack K S J v).H id=_ from h2,OR,Qr hlt]
 ·rw[unpack,Fv,OQ];exact QI _
theorem IM{S S1:aZ U}{J:JS U}{F:List Nat}{W:WS}(hchk:vB S J F W=true){v:tx J.items}(hp:pack K S1 J.items=some v)(hf:jI J.fb (some (S.N,fI J.items)) S S1):
  ∀(E:En) (a:Act) (w:World) (L:Nat->Value),Rel E S1.st a w L->∃L',Rel E (unpack K S J v).st a w L':=by
 intro E a w L h;refine⟨L,Rel.meet hchk hp hf.env (fun id hid hni=>hf.H id ?_) hf.N h⟩
 simp only[okW,Qq74];refine⟨?_,?_⟩
 ·cases hb:Nat.ble S.N id with
  |false=>rfl
  |true=>have:=QG hb;omega
 ·cases hb:iT id (fI J.items)with
  |false=>rfl
  |true=>exact absurd (eW.1 hb) hni
theorem Gg(S:aZ U)(D:List Nat):(S.gw D).st=S.st.wv D:=by
 unfold aZ.gw aZ.st St.wv;congr 1
 funext t
 simp only
 by_cases h:t∈D
 ·rw[Qr h,eW.2 h];rfl
 ·rw[Qs h]
  cases hb:iT t D with
  |true=>exact absurd (eW.1 hb) h
  |false=>rfl
theorem G7{F D:List Nat}(h:II F D=true)(W:WS)(S:aZ U):jI F W S (S.gw D):=
 ⟨fun t ht=>by
  have hn:iT t D=false:=by
   cases hb:iT t D with
   |false=>rfl
   |true=>
    have:=QH.1 h t (eW.1 hb);rw[eW.2 ht]at this;cases this
  simp only[aZ.gw,hn],fun _ _=>rfl,QI _⟩
theorem Uq{S:aZ U}{J:JS U}{F:List Nat}{W:WS}(hchk:vB S J F W=true)(v:tx J.items){S':aZ U}(hf:jI J.fb (some (S.N,fI J.items)) (unpack K S J v) S'):jI F W S S':=by
 have hm:=LY (K:=K) hchk v;refine hm.trans ?_;simp only[vB,Qm,QH]at hchk;obtain⟨⟨⟨⟨⟨⟨hnd,hids⟩,hokv⟩,hkeep⟩,hobj⟩,hF⟩,hW⟩:=hchk;refine⟨fun t ht=>hf.env t (eW.1 (hF t ht)),fun id hid=>hf.H id ?_,hf.N⟩
 simp only[okW,Qq74];refine⟨?_,?_⟩
 ·cases W with
  |none=>cases hW
  |some q=>
   obtain⟨n,l⟩:=q;simp only at hW;simp only[okW,Qq74]at hid;have h1:=QG hW
   cases hb:Nat.ble S.N id with
   |false=>rfl
   |true=>have:=QG hb;rw[Nat.ble_eq_true_of_le (QK h1 this)]at hid;cases hid.1
 ·cases hb:iT id (fI J.items)with
  |false=>rfl
  |true=>have:=(hids id (eW.1 hb)).2;rw[hid]at this;cases this
theorem RY{S:aZ U}{J:JS U}{F:List Nat}{W:WS}(hchk:vB S J F W=true)(v:tx J.items){t:Nat}(ht:t∈J.fb):(unpack K S J v).env t=S.env t:=by
 simp only[vB,Qm,QH]at hchk;obtain⟨⟨⟨⟨⟨⟨hnd,hids⟩,hokv⟩,hkeep⟩,hobj⟩,hF⟩,hW⟩:=hchk;have hns:iT t (slotsOf J.items)=false:=by simpa using(hkeep t ht).2
 rcases By (K:=K) (S.base J.fb) J.items v t with⟨⟨i,d⟩,hmem,h1,h2⟩|⟨_,h2⟩
 ·exact absurd (El (lI hmem) h1) (rH hns)
 ·rw[show(unpack K S J v).env t=_ from h2,Hj,Qr ht]
theorem aae{S:aZ U}{J:JS U}{F:List Nat}{W:WS}(hchk:vB S J F W=true)(v:tx J.items){S':aZ U}(hf:jI J.fb (some (S.N,fI J.items)) (unpack K S J v) S'){v':tx J.items}(hv':pack K S' J.items=some v'):
  ∀(E:En) (a:Act) (w:World) (L:Nat->Value),Rel E S'.st a w L->∃L',Rel E (unpack K S J v').st a w L':=by
 intro E a w L hrel;have hkp:=fun{t} ht=>RY (K:=K) hchk v (t:=t) ht
 have hc:=hchk;simp only[vB,Qm,QH]at hc;obtain⟨⟨⟨⟨⟨⟨hnd,hids⟩,hokv⟩,hkeep⟩,hobj⟩,hF⟩,hW⟩:=hc;refine⟨L,Rel.meet hchk hv' (fun t ht=>(hf.env t ht).trans (hkp ht)) (fun id hid hni=>(hf.H id ?_).trans ?_) (by have:=hf.N;rw[unpack,Fv,OQ]at this;exact this) hrel⟩
 ·simp only[okW,Qq74];refine⟨?_,?_⟩
  ·cases hb:Nat.ble S.N id with
   |false=>rfl
   |true=>have:=QG hb;omega
  ·cases hb:iT id (fI J.items)with
   |false=>rfl
   |true=>exact absurd (eW.1 hb) hni
 ·rcases Fw (K:=K) (S.base J.fb) J.items v id hnd with⟨⟨i,d⟩,hmem,h1,h2⟩|⟨_,h2⟩
  ·exact absurd (wh (lI hmem) h1) hni
  ·rw[show(unpack K S J v).H id=_ from h2,OR,Qr hid]
theorem acx{T:U.Ty}{k:Nat}{nE:Option Nat}(hsz:U.size T=k)(hnE:Ys U T nE=true)(xs:List (U.den T)):JE k nE (xs.map (U.pv T))/\∀a:U.den T,BQ nE (U.pv T a)=(xY K T a).pv:=by
 have key:∀a:U.den T,uC nE (U.pv T a)=some (dx T a):=by
  intro a;unfold dx
  cases nE with
  |none=>
   simp only[Ys,Bool.not_eq_true']at hnE;have h1:=K.len T a;rw[K.one T hnE]at h1;rw[hnE]
   match h2:U.pv T a with
   |[]=>rw[h2]at h1;cases h1
   |x::l=>rfl
  |some n=>
   simp only[Ys,Qm]at hnE;have h1:=QF hnE.2;subst h1;rw[hnE.1,uC,Qr (by rw[K.len];exact QI _),<-K.len T a,Qq62]
 have hev:∀a:U.den T,BQ nE (U.pv T a)=dx T a:=fun a=>by simp only[BQ,key,Q3]
 refine⟨⟨fun e he=> ?_,fun e he=> ?_,fun e he=> ?_⟩,fun a=>by rw[hev,yG]⟩
 ·obtain⟨a,_,rfl⟩:=QP.1 he;rw[K.len,hsz]
 ·obtain⟨a,_,rfl⟩:=QP.1 he;rw[hev,key]
 ·obtain⟨a,_,rfl⟩:=QP.1 he;rw[hev];unfold dx;split
  ·exact QH.2 fun y hy=>gU (K.hU T a y hy)
  ·cases h2:U.pv T a with
   |nil=>have:=K.len T a;rename_i hag;rw[K.one T hag,h2]at this;cases this
   |cons x l=>
    have h3:=gU (K.hU T a x (by rw[h2];exact Qx))
    have h4:=K.hU T a x (by rw[h2];exact Qx)
    cases x<;>first|exact h3|(cases h4)
theorem fm{Γ:List (eB U)}(hΓ:xc P Γ):∀(sa:SA U) {ρ:Type} (F:List Nat) (W:WS) (k:Exit->aZ U->Option ρ) (S:aZ U) (r:ρ),sa.dP=true->qj K Γ sa F W k S=some r->
  VS P nt sa.erase (fun e A=>∃S',A=S'.st/\jI F W S S'/\k e S'=some r) S.st
 | .skip,ρ,F,W,k,S,r,hok,h=>afi ⟨S,rfl,jI.refl _ _ _,h⟩
 | .exit id,ρ,F,W,k,S,r,hok,h=>afl ⟨S,rfl,jI.refl _ _ _,h⟩
 | .ret,ρ,F,W,k,S,r,hok,h=>agQ ⟨S,rfl,jI.refl _ _ _,h⟩
 | .ze rs,ρ,F,W,k,S,r,hok,h=>by
  simp only[qj]at h;split at h
  ·rename_i ho;exact afj hΓ hok h fun S' hf hk=>⟨S',rfl,(hf.toC ho).more,hk⟩
  ·cases h
 | .vr un rs,ρ,F,W,k,S,r,hok,h=>by
  simp only[qj]at h;split at h
  ·rename_i ho;obtain⟨Γs,S',fs,h1,h2,h3,h4⟩:=xi hΓ rs 0 _ _ hok h;split at h4
   ·rename_i hun;refine agR h1 (S':=S'.st) ?_ ⟨S',rfl,(h3.toC ho).more,h4⟩;rw[RS.AK];have e:({S.st with N:=S.st.N+rs.len}:St)=(S.more rs.len).st:=rfl
    rw[e,Pj];rw[show S.st.N=S.N from rfl,h2]
    exact Qr hun
   ·cases h4
  ·cases h
 | .seq x y,ρ,F,W,k,S,r,hok,h=>by
  simp only[SA.dP,Qm]at hok;refine aa1 ((fm hΓ x F W _ S r hok.1 h).mono ?_);rintro e A ⟨S',rfl,hf,hk⟩
  cases e with
  |normal=>exact(fm hΓ y F W k S' r hok.2 hk).mono fun e A ⟨S'',h1,h2,h3⟩=>⟨S'',h1,hf.trans h2,h3⟩
  |exit i=>exact⟨S',rfl,hf,hk⟩
  |goto l=>exact⟨S',rfl,hf,hk⟩
  |ret=>exact⟨S',rfl,hf,hk⟩
  |panic c=>exact⟨S',rfl,hf,hk⟩
  |outgrown=>exact⟨S',rfl,hf,hk⟩
 | .join J x y,ρ,F,W,k,S,r,hok,h=>by
  simp only[SA.dP,Qm]at hok;simp only[qj]at h;split at h
  ·rename_i hchk;unfold aX at h
   have hsub:∀S',jI J.fb (some (S.N,fI J.items)) S S'->jI F W S S':=by
    intro S' hf;simp only[vB,Qm,QH]at hchk;obtain⟨⟨⟨⟨⟨⟨hnd,hids⟩,hokv⟩,hkeep⟩,hobj⟩,hF⟩,hW⟩:=hchk;refine⟨fun t ht=>hf.env t (eW.1 (hF t ht)),fun id hid=>hf.H id ?_,hf.N⟩
    simp only[okW,Qq74];refine⟨?_,?_⟩
    ·cases W with
     |none=>cases hW
     |some q=>
      obtain⟨n,l⟩:=q;simp only at hW;simp only[okW,Qq74]at hid;have h1:=QG hW
      cases hb:Nat.ble S.N id with
      |false=>rfl
      |true=>have:=QG hb;rw[Nat.ble_eq_true_of_le (QK h1 this)]at hid;cases hid.1
    ·cases hb:iT id (fI J.items)with
     |false=>rfl
     |true=>have:=(hids id (eW.1 hb)).2;rw[hid]at this;cases this
   refine aa1 ((fm hΓ x J.fb _ _ S r hok.1 h).mono ?_);rintro e A ⟨S',rfl,hf,hk⟩
   cases e with
   |normal=>
    simp only at hk;split at hk
    ·rename_i v hv;refine XH (IM hchk hv hf) ?_;exact(fm hΓ y F W k _ r hok.2 hk).mono fun e A ⟨S'',h1,h2,h3⟩=>⟨S'',h1,(LY hchk v).trans h2,h3⟩
    ·cases hk
   |exit i=>exact⟨S',rfl,hsub S' hf,hk⟩
   |goto l=>exact⟨S',rfl,hsub S' hf,hk⟩
   |ret=>exact⟨S',rfl,hsub S' hf,hk⟩
   |panic c=>exact⟨S',rfl,hsub S' hf,hk⟩
   |outgrown=>exact⟨S',rfl,hsub S' hf,hk⟩
  ·cases h
 | .cond c x y,ρ,F,W,k,S,r,hok,h=>by
  simp only[SA.dP,Qm]at hok;simp only[qj]at h;split at h
  ·rename_i b hb;have hv:c.val S.st= .bool b:=by rw[yL hok.1.1,hb];rfl
   refine afm hv ?_
   cases b with
   |true=>exact fm hΓ x F W k S r hok.1.2 h
   |false=>exact fm hΓ y F W k S r hok.2 h
  ·rename_i hb;have hv:c.val S.st= .gS:=by rw[yL hok.1.1,hb];rfl
   obtain⟨h1,h2⟩:=aaP h;exact acD hv (fm hΓ x F W k S r hok.1.2 h1) (fm hΓ y F W k S r hok.2 h2)
  ·cases h
 | .block id x,ρ,F,W,k,S,r,hok,h=>by
  refine acE ((fm hΓ x F W _ S r hok h).mono ?_);rintro e A ⟨S',rfl,hf,hk⟩
  cases e with
  |exit i=>
   simp only at hk;simp only[FX];split at hk
   ·rename_i hi;rw[Qr (QF hi)];exact⟨S',rfl,hf,hk⟩
   ·rename_i hi;rw[Qs (Nat.ne_of_beq_eq_false hi)];exact⟨S',rfl,hf,hk⟩
  |normal=>exact⟨S',rfl,hf,hk⟩
  |goto l=>exact⟨S',rfl,hf,hk⟩
  |ret=>exact⟨S',rfl,hf,hk⟩
  |panic c=>exact⟨S',rfl,hf,hk⟩
  |outgrown=>exact⟨S',rfl,hf,hk⟩
 | .loop J x,ρ,F,W,k,S,r,hok,h=>by
  simp only[qj]at h;split at h
  ·rename_i hchk;split at h
   ·rename_i v0 hv0
    have hsub:∀v S',jI J.fb (some (S.N,fI J.items)) (unpack K S J v) S'->jI F W S S':=by
     intro v S' hf;have hm:=LY (K:=K) hchk v;refine hm.trans ?_;simp only[vB,Qm,QH]at hchk;obtain⟨⟨⟨⟨⟨⟨hnd,hids⟩,hokv⟩,hkeep⟩,hobj⟩,hF⟩,hW⟩:=hchk;refine⟨fun t ht=>hf.env t (eW.1 (hF t ht)),fun id hid=>hf.H id ?_,hf.N⟩
     simp only[okW,Qq74];refine⟨?_,?_⟩
     ·cases W with
      |none=>cases hW
      |some q=>
       obtain⟨n,l⟩:=q;simp only at hW;simp only[okW,Qq74]at hid;have h1:=QG hW
       cases hb:Nat.ble S.N id with
       |false=>rfl
       |true=>have:=QG hb;rw[Nat.ble_eq_true_of_le (QK h1 this)]at hid;cases hid.1
     ·cases hb:iT id (fI J.items)with
      |false=>rfl
      |true=>have:=(hids id (eW.1 hb)).2;rw[hid]at this;cases this
    have hself:∀v S',jI J.fb (some (S.N,fI J.items)) (unpack K S J v) S'->∀v',pack K S' J.items=some v'->∀(E:En) (a:Act) (w:World) (L:Nat->Value),Rel E S'.st a w L->∃L',Rel E (unpack K S J v').st a w L':=by
     intro v S' hf v' hv' E a w L hrel;have hc:=hchk;simp only[vB,Qm,QH]at hc;obtain⟨⟨⟨⟨⟨⟨hnd,hids⟩,hokv⟩,hkeep⟩,hobj⟩,hF⟩,hW⟩:=hc;refine⟨L,Rel.meet hchk hv' (fun t ht=>(hf.env t ht).trans ?_) (fun id hid hni=>(hf.H id ?_).trans ?_) (by have:=hf.N;rw[unpack,Fv,OQ]at this;exact this) hrel⟩
     ·have hns:iT t (slotsOf J.items)=false:=by simpa using(hkeep t ht).2
      rcases By (K:=K) (S.base J.fb) J.items v t with⟨⟨i,d⟩,hmem,h1,h2⟩|⟨_,h2⟩
      ·exact absurd (El (lI hmem) h1) (rH hns)
      ·rw[show(unpack K S J v).env t=_ from h2,Hj,Qr ht]
     ·simp only[okW,Qq74];refine⟨?_,?_⟩
      ·cases hb:Nat.ble S.N id with
       |false=>rfl
       |true=>have:=QG hb;omega
      ·cases hb:iT id (fI J.items)with
       |false=>rfl
       |true=>exact absurd (eW.1 hb) hni
     ·rcases Fw (K:=K) (S.base J.fb) J.items v id hnd with⟨⟨i,d⟩,hmem,h1,h2⟩|⟨_,h2⟩
      ·exact absurd (wh (lI hmem) h1) hni
      ·rw[show(unpack K S J v).H id=_ from h2,OR,Qr hid]
    obtain⟨n,hn⟩:=CG h
    refine VJ (fun m A=>∃v,A=(unpack K S J v).st/\rU (fun v=>qj K Γ x J.fb (some (S.N,fI J.items)) (fun e S'=>match e with
     | .normal=>(match pack K S' J.items with|some v=>some (Sum.inl v)|none=>none)
     |e=>(k e S').map Sum.inr) (unpack K S J v)) m v=some r) n (IM hchk hv0 (jI.refl _ _ _)) ⟨v0,rfl,hn⟩ ?_
    rintro m A ⟨v,rfl,hm⟩
    cases m with
    |zero=>cases hm
    |succ m=>
     simp only[rU]at hm;split at hm
     ·cases hm
     ·rename_i r' hs;injection hm with hm
      subst hm;refine(fm hΓ x J.fb _ _ _ _ hok hs).mono ?_;rintro e A ⟨S',rfl,hf,hk⟩
      cases e with
      |normal=>
       simp only at hk;split at hk<;>cases hk
      |exit i=>simp only[Qb]at hk;obtain⟨q,hq,e⟩:=hk;injection e with e;subst e;exact⟨S',rfl,hsub v S' hf,hq⟩
      |goto l=>simp only[Qb]at hk;obtain⟨q,hq,e⟩:=hk;injection e with e;subst e;exact⟨S',rfl,hsub v S' hf,hq⟩
      |ret=>simp only[Qb]at hk;obtain⟨q,hq,e⟩:=hk;injection e with e;subst e;exact⟨S',rfl,hsub v S' hf,hq⟩
      |panic c=>simp only[Qb]at hk;obtain⟨q,hq,e⟩:=hk;injection e with e;subst e;exact⟨S',rfl,hsub v S' hf,hq⟩
      |outgrown=>simp only[Qb]at hk;obtain⟨q,hq,e⟩:=hk;injection e with e;subst e;exact⟨S',rfl,hsub v S' hf,hq⟩
     ·rename_i v' hs;refine(fm hΓ x J.fb _ _ _ _ hok hs).mono ?_;rintro e A ⟨S',rfl,hf,hk⟩
      cases e with
      |normal=>
       simp only at hk;split at hk
       ·rename_i v1 hv1;injection hk with hk
        injection hk with hk
        subst hk;exact⟨m,Nat.lt_succ_self m,_,hself v S' hf v1 hv1,v1,rfl,hm⟩
       ·cases hk
      |exit i=>simp only[Qb]at hk;obtain⟨q,hq,e⟩:=hk;cases e
      |goto l=>simp only[Qb]at hk;obtain⟨q,hq,e⟩:=hk;cases e
      |ret=>simp only[Qb]at hk;obtain⟨q,hq,e⟩:=hk;cases e
      |panic c=>simp only[Qb]at hk;obtain⟨q,hq,e⟩:=hk;cases e
      |outgrown=>simp only[Qb]at hk;obtain⟨q,hq,e⟩:=hk;cases e
   ·cases h
  ·cases h
 | .Zq n x,ρ,F,W,k,S,r,hok,h=>by
  simp only[qj]at h;have⟨g,hg,h⟩:=(⟨_,rfl,h⟩:∃g,g=_/\Tz g n S=some r);refine VJ (fun m A=>∃S1:aZ U,A=S1.st/\jI F W S S1/\Tz g m S1=some r) n (fun E a w L h=>⟨L,h⟩) ⟨S,rfl,jI.refl _ _ _,h⟩ ?_
  rintro m A ⟨S1,rfl,hf1,hm⟩
  cases m with
  |zero=>cases hm
  |succ m=>
   simp only[Tz]at hm;rw[hg]at hm;simp only at hm;rw[<-hg]at hm;refine(fm hΓ x F W _ S1 r hok hm).mono ?_;rintro e A ⟨S',rfl,hf,hk⟩
   cases e with
   |normal=>exact⟨m,Nat.lt_succ_self m,S'.st,fun E a w L h=>⟨L,h⟩,S',rfl,hf1.trans hf,hk⟩
   |exit i=>exact⟨S',rfl,hf1.trans hf,hk⟩
   |goto l=>exact⟨S',rfl,hf1.trans hf,hk⟩
   |ret=>exact⟨S',rfl,hf1.trans hf,hk⟩
   |panic c=>exact⟨S',rfl,hf1.trans hf,hk⟩
   |outgrown=>exact⟨S',rfl,hf1.trans hf,hk⟩
 | .back J f kk nE T tg p0 p1 x y,ρ,F,W,k,S,r,hok,h=>by
  simp only[SA.dP,Qm]at hok;simp only[qj]at h;obtain⟨D,hD⟩:∃D,SC.uR (.Hv (.tmp tg) [p0,p1] x.erase y.erase)=D:=⟨_,rfl⟩;rw[hD]at h;split at h
  ·rename_i hcond;simp only[Qm]at hcond;obtain⟨⟨⟨⟨⟨⟨hbk,hsz⟩,hnE⟩,htk⟩,hkD⟩,hFD⟩,hchk⟩:=hcond;have hsz:=QF hsz;have htk:=eW.1 htk
   have htD:tg∉D:=fun hm=>by
    have:=QH.1 hkD tg hm;rw[eW.2 htk]at this;cases this
   have hp:∀q,q=p0\/q=p1->iT q J.fb=false:=by
    intro q hq;have hqD:q∈D:=by rw[<-hD];rcases hq with rfl|rfl<;>simp[SC.uR]
    simpa using QH.1 hkD q hqD
   split at h
   ·rename_i f' T' xs' hclo;split at h
    ·rename_i hff;have hff:=QF hff;subst hff;split at h
     ·rename_i xs hcast;obtain⟨eT,hxs⟩:=oN hcast;subst eT;simp only at hxs;subst hxs;split at h
      ·rename_i v0 hv0;obtain⟨hin,hev⟩:=acx (K:=K) hsz hnE xs;have⟨step,hstep,h⟩:=(⟨_,rfl,h⟩:∃step,step=_/\nQ step (fun v=>k .normal (unpack K (S.gw D) J v)) xs.reverse v0=some r)
       have hN:(S.gw D).N=S.N:=rfl;refine afn (Mt hΓ hbk) hin (by rw[hD];exact htD) (fun i A=>∃v,A=(unpack K (S.gw D) J v).st/\nQ step (fun v=>k .normal (unpack K (S.gw D) J v)) (xs.take i).reverse v=some r) ?_ ?_ ?_ ?_
       ·rw[hD,<-Gg];refine⟨_,IM hchk hv0 (jI.refl _ _ _),v0,rfl,?_⟩;rw[QC,Qq62];exact h
       ·rintro i A ⟨v,rfl,_⟩;show((unpack K (S.gw D) J v).env tg).pv=_;rw[RY hchk v htk];have:(S.gw D).env tg=S.env tg:=(G7 hkD none S).env tg htk;rw[this,hclo];rfl
       ·rintro m A e ⟨v,rfl,hm⟩ he;rw[QT,Qb]at he;obtain⟨a,ha,rfl⟩:=he;have hml:m<xs.length:=(Qw.1 ha).1;rw[List.take_add_one,ha,Option.toList_some,List.reverse_append]at hm;simp only[List.reverse_cons,List.reverse_nil,List.nil_append,List.singleton_append,nQ]at hm;rw[List.length_reverse,List.length_take,Nat.min_eq_left (Nat.le_of_lt hml)]at hm
        obtain⟨z,hz,hzr⟩:∃z,step m a v=some z/\(match z with| .inr r'=>r'=r| .inl s'=>nQ step (fun v=>k .normal (unpack K (S.gw D) J v)) (xs.take m).reverse s'=some r):=by
         split at hm
         ·cases hm
         ·rename_i r' hs;injection hm with hm
          exact⟨_,hs,hm⟩
         ·rename_i s' hs;exact⟨_,hs,hm⟩
        clear hm;rw[hstep]at hz;simp only at hz
        have hst:({(unpack K (S.gw D) J v).st with env:=bN (bN (unpack K (S.gw D) J v).st.env p0 (.int .i64 m)) p1 (BQ nE (U.pv _ a))}:St)=aZ.st {(unpack K (S.gw D) J v)with env:=iC (iC (unpack K (S.gw D) J v).env p0 (.int .i64 m)) p1 (xY K _ a)}:=by
         have henv:bN (bN (unpack K (S.gw D) J v).st.env p0 (.int .i64 m)) p1 (BQ nE (U.pv _ a))=fun t=>((iC (iC (unpack K (S.gw D) J v).env p0 (.int .i64 m)) p1 (xY K _ a)) t).pv:=by
          funext t
          simp only[cW,hev];unfold bN;split
          ·rfl
          ·split
           ·rfl
           ·rfl
         exact congrArg (fun e=>({(unpack K (S.gw D) J v).st with env:=e}:St)) henv
        rw[hst]
        have hf0:jI J.fb (some (S.N,fI J.items)) (unpack K (S.gw D) J v) {(unpack K (S.gw D) J v)with env:=iC (iC (unpack K (S.gw D) J v).env p0 (.int .i64 m)) p1 (xY K _ a)}:=by
         refine⟨fun t ht=> ?_,fun _ _=>rfl,QI _⟩
         simp only[cW];rw[cP _ _ (fun e=>by have:=hp t (.inr e);rw[eW.2 ht]at this;cases this),cP _ _ (fun e=>by have:=hp t (.inl e);rw[eW.2 ht]at this;cases this)]
        refine(fm hΓ x J.fb _ _ _ _ hok.1 hz).mono ?_;rintro e A ⟨S1,rfl,hf1,hk1⟩
        cases e with
        |normal=>
         simp only at hk1;refine(fm hΓ y J.fb _ _ _ _ hok.2 hk1).mono ?_;rintro e A ⟨S2,rfl,hf2,hk2⟩;have hf3:jI J.fb (some (S.N,fI J.items)) (unpack K (S.gw D) J v) (S2.gw D):=((hf0.trans hf1).trans hf2).trans (G7 hkD _ _);have hf4:jI F W S (S2.gw D):=(G7 hFD W S).trans (Uq hchk v hf3);rw[hD]
         cases e with
         |normal=>
          simp only at hk2;split at hk2
          ·rename_i v' hv';injection hk2 with hk2
           subst hk2;refine⟨_,?_,v',rfl,hzr⟩;rw[<-Gg];exact aae hchk v hf3 hv'
          ·cases hk2
         |ret=>
          simp only[Qb]at hk2;obtain⟨q,hq,rfl⟩:=hk2;simp only at hzr;subst hzr;exact⟨S2.gw D,(Gg _ _).symm,hf4,hq⟩
         |exit i=>
          simp only[Qb]at hk2;obtain⟨q,hq,rfl⟩:=hk2;simp only at hzr;subst hzr;exact⟨S2.gw D,(Gg _ _).symm,hf4,hq⟩
         |goto i=>cases hk2
         |panic ch=>cases hk2
         |outgrown=>cases hk2
        |ret=>cases hk1
        |exit i=>cases hk1
        |goto i=>cases hk1
        |panic ch=>cases hk1
        |outgrown=>cases hk1
       ·rintro A ⟨v,rfl,hm⟩;simp only[List.take_zero,List.reverse_nil,nQ]at hm;exact⟨_,rfl,(G7 hFD W S).trans (Uq hchk v (jI.refl _ _ _)),hm⟩
      ·cases h
     ·cases h
    ·cases h
   ·cases h
  ·cases h
 | .ps p x,ρ,F,W,k,S,r,hok,h=>by
  simp only[qj]at h;split at h
  ·rename_i hW;simp only[Qm]at hW;split at h
   ·rename_i S1 hp;refine XH (fun E a w L hr=>Ps.sound K hp hr) ((fm hΓ x F W k S1 r hok h).mono fun e A ⟨S'',h1,h2,h3⟩=>⟨S'',h1,jI.trans ?_ h2,h3⟩)
    exact(Ps.frm hp hW.1).toC hW.2
   ·cases h
  ·cases h
 | .Hy p x,ρ,F,W,k,S,r,hok,h=>by
  refine afk (fm hΓ x F W _ S r hok h) ?_;rintro e A ⟨S',rfl,hf,hk⟩
  cases e with
  |normal=>
   simp only at hk;split at hk
   ·rename_i hW;simp only[Qm]at hW;split at hk
    ·rename_i S1 hp;exact⟨S1.st,⟨S1,rfl,hf.trans ((Ps.frm hp hW.1).toC hW.2),hk⟩,fun E a w L hr=>Ps.sound K hp hr⟩
    ·cases hk
   ·cases hk
  |exit i=>exact⟨_,⟨S',rfl,hf,hk⟩,fun E a w L hr=>⟨L,hr⟩⟩
  |goto l=>exact⟨_,⟨S',rfl,hf,hk⟩,fun E a w L hr=>⟨L,hr⟩⟩
  |ret=>exact⟨_,⟨S',rfl,hf,hk⟩,fun E a w L hr=>⟨L,hr⟩⟩
  |panic c=>exact⟨_,⟨S',rfl,hf,hk⟩,fun E a w L hr=>⟨L,hr⟩⟩
  |outgrown=>exact⟨_,⟨S',rfl,hf,hk⟩,fun E a w L hr=>⟨L,hr⟩⟩
end
end
section
open Go.RowKit
section
variable {P : Program} {E : En} {S : St} {a : Act} {w : World} {L : Nat -> Value} {nt : Nat}
theorem VS.post{sc:SC}{Q Q':Exit->St->Prop}{S:St}(h:VS P nt sc Q S)(hq:∀e A,Q e A->∃A',(∀(E:En) (a:Act) (w:World) (L:Nat->Value),Rel E A a w L->∃L',Rel E A' a w L')/\Q' e A'):VS P nt sc Q' S:=
 fun c hs hc E hE hk a w L hr=>wpIn_mono (h c hs hc E hE hk a w L hr) fun e a' w' ⟨S',L',h1,h2⟩=>by
  obtain⟨A',h3,h4⟩:=hq e S' h2;obtain⟨L'',h5⟩:=h3 E a' w' L' h1;exact⟨A',L'',h5,h4⟩
theorem Rel.ahv(h:Rel E S a w L){id:Nat}{cs:List PV}(hid:id<S.N)(hc:(S.H id).c= .box cs):Rel E {S with H:=bN S.H id ⟨(S.H id).av,.box (cs.map nz)⟩} a w L:=by
 have:=(h.uQ (w':=w) hid ⟨(S.H id).av,.box (cs.map nz)⟩ (L id) (.inl ⟨rfl,rfl,by rw[hc];rfl⟩) rfl rfl rfl (QI _) (fun _ _ _=>rfl) (fun b _ hb=> .inl ⟨by rw[hc];rfl,hb⟩) (fun hs hg=>by
  obtain⟨b,cur,T,h1,h2,h3,h4⟩:=h.tQ hid hc
  exact⟨b,cur,T,h1,h2,h4,(h3.mono hs hg).nz⟩)).1
 rwa [Ga]at this
end
section
variable {U : TU}
def XZ(S:aZ U):RV->Option (KV U)
 | .tmp t=>some (S.env t)
 | .cell t n=>(match S.env t with
  | .ptr id av off=>(match S.uq id av with|some cs=>IU n (cs.drop off)|none=>none)
  |_=>none)
def S8(S:aZ U):List RV->Option (List (KV U))
 |[]=>some []
 |r::rs=>(match XZ S r with
  |some x=>(match S8 S rs with|some xs=>some (x::xs)|none=>none)
  |none=>none)
def afw:List (KV U)->KV U
 |[x]=>x
 |xs=> .eo xs
def B7(S:aZ U)(rs:List RV):Option (KV U):=
 match S8 S rs with
 |some xs=>some (afw xs)
 |none=>none
theorem abl{S:aZ U}{r:RV}{x:KV U}(h:XZ S r=some x):Db S.st r=some x.pv:=by
 cases r with
 |tmp t=>injection h with h;subst h;rfl
 |cell t n=>
  simp only[XZ]at h;split at h
  ·rename_i id av off ht;split at h
   ·rename_i cs hb;obtain⟨h1,h2⟩:=xx hb;have h3:S.st.env t= .ptr id av off:=by simp only[aZ.st,ht,KV.pv]
    simp only[Db,h3];rw[Qr h1,h2];have:=C1 h;rw[List.map_drop]at this;exact this
   ·cases h
  ·cases h
theorem TP{S:aZ U}:∀{rs:List RV} {xs:List (KV U)},S8 S rs=some xs->yc S.st rs=some (xs.map KV.pv)
 |[],xs,h=>by injection h with h;subst h;rfl
 |r::rs,xs,h=>by
  simp only[S8]at h;split at h
  ·rename_i x hx;split at h
   ·rename_i ys hys;injection h with h
    subst h;simp only[yc,abl hx,TP hys,QD]
   ·cases h
  ·cases h
theorem JR{S:aZ U}{rs:List RV}{x:KV U}(h:B7 S rs=some x):wb S.st rs=some x.pv:=by
 unfold B7 at h;split at h
 ·rename_i xs hxs;injection h with h
  subst h;have:=TP hxs;unfold wb;rw[this]
  match xs with
  |[]=>rfl
  |[x]=>rfl
  |x::y::l=>simp only[QD,afw,KV.pv,KV.cr]
 ·cases h
variable (K : TK U)
def MC(S:aZ U)(ex:Option Nat):(r:q7 U)->KV U->Option r.den
 | .one T,x=>yZ K S.lk T x
 | .many Ts,x=>(match x with| .eo xs=>Tm K S.lk Ts xs|_=>none)
 | .fn a,x=>(match Nat.ble a.depth 9 with|true=>ME K S ex a x|false=>none)
variable {K}
theorem Xt{S:aZ U}{ex:Option Nat}(hex:∀id,ex=some id->∀e k T xs,(S.H id).c≠ .row e k T xs){r:q7 U}{x:KV U}{v:r.den}(h:MC K S ex r x=some v):fz S.st.H ex 9 x.pv=wS r v:=by
 cases r with
 |one T=>exact Lx hex 7 h
 |many Ts=>
  simp only[MC]at h;split at h
  ·rename_i xs;rw[KV.pv,KV.cr,fz,wS,Vg hex 6 Ts _ v h]
  ·cases h
 |fn a=>
  simp only[MC]at h;split at h
  ·rename_i hd;exact Xv hex a 9 x v (QG hd) h
  ·cases h
variable (K)
def VP(A_s:List (KV U)):aZ U:=
 {env:=fun t=>(A_s[t]?).getD .undef,H:=fun _=>⟨0,.dead⟩,N:=0}
def acG(pos:Nat)(cs A_s:List (KV U)):aZ U:=
 {env:=fun t=>((jF pos [KV.ptr 0 0 0] A_s)[t]?).getD .undef,H:=fun id=>(match Nat.beq id 0 with|true=>⟨0,.box cs⟩|false=>⟨0,.dead⟩),N:=1}
def YL{ρ:Type}(ex:Option Nat)(rs:List RV)(r:q7 U)(k:aZ U->r.den->Option ρ)(e:Exit)(S:aZ U):Option ρ:=
 match e with
 | .ret| .normal=>(match B7 S rs with
  |some x=>(match MC K S ex r x with|some v=>k S v|none=>none)
  |none=>none)
 |_=>none
def CY(S:aZ U):List RV->Bool
 |[]=>true
 | .tmp _::l=>CY S l
 | .cell t _::l=>(match S.env t with| .ptr id _ _=> !Nat.beq id 0|_=>false)&&CY S l
 def U3(Γ:List (eB U))(sa:SA U)(rs:List RV)(A_s:List (dF U))(r:q7 U)(a:eM A_s):Option r.den:=
 qj K Γ sa [] (some (0,[])) (YL K none rs r fun _ v=>some v) (VP (xz K A_s a))
 def rcK(Γ:List (eB U))(sa:SA U)(rs:List RV)(pos:Nat)(R:U.Ty)(A_s:List (dF U))(r:q7 U)(s:U.den R)(a:eM A_s):Option (r.den×U.den R):=
 qj K Γ sa [] (some (0,[])) (YL K (some 0) rs r fun S v=>(match CY S rs with
  |true=>(match S.uq 0 0 with
   |some cs=>(match K.dec R pC cs with|some s'=>some (v,s')|none=>none)
   |none=>none)
  |false=>none)) (acG pos (K.eu R s) (xz K A_s a))
 def nwK(Γ:List (eB U))(sa:SA U)(rs:List RV)(A_s:List (dF U))(R:U.Ty)(a:eM A_s):Option (U.den R):=
 qj K Γ sa [] (some (0,[])) (fun e S=>(match e with
  | .ret=>(match B7 S rs with
   |some (.ptr id av 0)=>(match S.uq id av with|some cs=>K.dec R pC cs|none=>none)
   |_=>none)
  |_=>none)) (VP (xz K A_s a))
variable {K}
variable {P : Program} {nt : Nat}
theorem AZ:∀(A_s:List (dF U)) (a:eM A_s),(hZ A_s a).length=A_s.length
 |[],_=>by rw[hZ];rfl
 |_::l,a=>by rw[hZ,QE,AZ l a.2,QE]
theorem Rf(A_s:List (dF U))(a:eM A_s):(VP (xz K A_s a)).st=dX 0 false [] (hZ A_s a):=by
 unfold VP aZ.st dX;congr 1
 ·funext t
  rw[<-BZ K];simp only[Qq,Qu,R4,QT];cases (xz K A_s a)[t]?<;>rfl
theorem afq(pos:Nat)(R:U.Ty)(s:U.den R)(A_s:List (dF U))(a:eM A_s):(acG pos (K.eu R s) (xz K A_s a)).st=dX pos true (U.pv R s) (hZ A_s a):=by
 unfold acG aZ.st dX;congr 1
 ·funext t
  rw[<-BZ K];simp only[Qt];have:(jF pos [PV.ptr 0 0 0] ((xz K A_s a).map KV.pv))=(jF pos [KV.ptr 0 0 0] (xz K A_s a)).map KV.pv:=by simp[jF,KV.pv]
  rw[this,QT];cases (jF pos [KV.ptr 0 0 0] (xz K A_s a))[t]?<;>rfl
 ·funext id
  cases id with
  |zero=>simp only[and_self,Qt,dt.pv,er.pv,K.sz]
  |succ id=>simp[Nat.beq,dt.pv,er.pv]
theorem Sd{ρ:Type}{ex:Option Nat}{rs:List RV}{r:q7 U}{k:aZ U->r.den->Option ρ}{e:Exit}{S:aZ U}{z:ρ}(h:YL K ex rs r k e S=some z):(e= .ret\/e= .normal)/\∃x v,B7 S rs=some x/\MC K S ex r x=some v/\k S v=some z:=by
 unfold YL at h
 have go:∀{o:Option ρ},o=some z->o=(match B7 S rs with
  |some x=>(match MC K S ex r x with|some v=>k S v|none=>none)
  |none=>none)->∃x v,B7 S rs=some x/\MC K S ex r x=some v/\k S v=some z:=by
  intro o ho he;rw[ho]at he;replace he:=he.symm;split at he
  ·rename_i x hx;split at he
   ·rename_i v hv;exact⟨x,v,hx,hv,he⟩
   ·cases he
  ·cases he
 split at h
 ·exact⟨.inl rfl,go h rfl⟩
 ·exact⟨.inr rfl,go h rfl⟩
 ·cases h
theorem Jd{f:FuncId}{Γ:List (eB U)}{sa:SA U}{rs:List RV}{A_s:List (dF U)}{r:q7 U}(hf:kQ P f nt sa.erase rs)(hok:sa.dP=true)(hlen:A_s.length<=nt)(hΓ:xc P Γ){F:eM A_s->Option r.den}(hF:∀a,U3 K Γ sa rs A_s r a=F a):eB.Sound P (.fn f A_s r F):=by
 refine⟨hf.enters,fun a v hv=> ?_⟩
 rw[<-hF a]at hv;refine hf.Sk (by simpa[AZ]using hlen) ?_
 rw[<-Rf (K:=K)];refine(fm hΓ sa [] _ _ _ _ hok hv).mono ?_;rintro e A ⟨S',rfl,_,hk⟩;obtain⟨he,x,v',h1,h2,h3⟩:=Sd hk;injection h3 with h3
 subst h3
 have hret:CA rs false (fun r' cs''=>r'=wS r v'/\(false=true->cs''=[])) S'.st:=by
  unfold CA;rw[JR h1];exact⟨Xt (fun id hid=>by cases hid) h2,fun h=>by cases h⟩
 rcases he with rfl|rfl<;>exact hret
theorem Z5{S:aZ U}{id av:Nat}{cs:List (KV U)}(hb:S.uq id av=some cs){R:U.Ty}{s:U.den R}(hd:K.dec R pC cs=some s)(hN:id<S.N):(∀(E:En) (a:Act) (w:World) (L:Nat->Value),Rel E S.st a w L->∃L',Rel E {S.st with H:=bN S.st.H id ⟨av,.box (U.pv R s)⟩} a w L'):=by
 intro E a w L h;obtain⟨h1,h2⟩:=xx hb;have:=h.ahv hN h2;rw[h1,(vC (K.nr _ _ _ _ hd)).1]at this;exact⟨L,this⟩
theorem U0(K:TK U)(R:U.Ty)(s:U.den R):(U.pv R s).all PV.closed=true:=QH.2 fun y hy=>gU (K.hU R s y hy)
theorem Zz{f:FuncId}{Γ:List (eB U)}{sa:SA U}{rs:List RV}{pos:Nat}{R:U.Ty}{A_s:List (dF U)}{r:q7 U}(hf:kQ P f nt sa.erase rs)(hok:sa.dP=true)(hlen:1+A_s.length<=nt)(hΓ:xc P Γ)
  {F:U.den R->eM A_s->Option (r.den×U.den R)} (hF:∀s a,rcK K Γ sa rs pos R A_s r s a=F s a):eB.Sound P (.rc f pos R A_s r F):=by
 refine⟨hf.enters,fun s a v s' hv=> ?_⟩
 rw[<-hF s a]at hv;refine hf.Sk (by simpa[AZ]using hlen) ?_
 rw[<-afq (K:=K)];refine(fm hΓ sa [] _ _ _ _ hok hv).post ?_;rintro e A ⟨S',rfl,hfr,hk⟩;obtain⟨he,x,v',h1,h2,h3⟩:=Sd hk;split at h3
 case h_2=>cases h3
 rename_i hnc;split at h3
 ·rename_i cs hb;split at h3
  ·rename_i s'' hd;injection h3 with h3
   injection h3 with h4 h5
   subst h4 h5;have hN:0<S'.N:=QJ (show 0<1 from Nat.one_pos) hfr.N
   refine⟨_,Z5 hb hd hN,?_⟩;have h6:=JR h1
   have hres:∀rs:List RV,CY S' rs=true->yc {S'.st with H:=bN S'.st.H 0 ⟨0,.box (U.pv R s'')⟩} rs=yc S'.st rs:=by
    intro rs hrs
    induction rs with
    |nil=>rfl
    |cons q rs ih=>
     cases q with
     |tmp t=>simp only[CY]at hrs;simp only[yc,Db,ih hrs]
     |cell t n=>
      simp only[CY,Qm]at hrs;have h9:=hrs.1;split at h9
      ·rename_i id av off ht;have hne:id≠0:=by intro e;subst e;simp at h9
       have h10:S'.st.env t= .ptr id av off:=by simp only[aZ.st,ht,KV.pv]
       simp only[yc,Db,h10,cP _ _ hne,ih hrs.2]
      ·cases h9
   have hret:CA rs true (fun r' cs''=>r'=wS r v'/\(true=true->cs''=U.pv R s'')) {S'.st with H:=bN S'.st.H 0 ⟨0,.box (U.pv R s'')⟩}:=by
    unfold CA
    have h7:wb {S'.st with H:=bN S'.st.H 0 ⟨0,.box (U.pv R s'')⟩} rs=some x.pv:=by
     rw[<-h6];unfold wb;have h8:=hres rs hnc;simp only[h8]
    rw[h7];simp only[cq];refine⟨U0 K R s'',?_,by simp⟩
    have hbx:=(BY hb).2;rw[<-Xt (K:=K) (S:=S') (ex:=some 0) (fun id hid=>by injection hid with hid;subst hid;intro e k T xs hq;rw[hbx]at hq;cases hq) h2]
    have hz:∀(n:Nat) (y:PV),fz (bN S'.st.H 0 ⟨0,.box (U.pv R s'')⟩) (some 0) n y=fz S'.st.H (some 0) n y:=by
     intro n
     induction n with
     |zero=>intro y;simp only[fz]
     |succ n ih=>
      intro y;have hu:∀id,¬(some id=some 0)->bN S'.st.H 0 ⟨0,.box (U.pv R s'')⟩ id=S'.st.H id:=fun id hid=>cP _ _ (fun e=>hid (by rw[e]))
      have hm:fz (bN S'.st.H 0 ⟨0,.box (U.pv R s'')⟩) (some 0) n=fz S'.st.H (some 0) n:=funext ih
      cases y with
      |own id av=>
       simp only[fz,hm]
       by_cases h0:some id=some 0
       ·rw[Qr (.inl h0),Qr (.inl h0)]
       ·rw[hu id h0]
      |ptr id av off=>
       simp only[fz,hm]
       by_cases h0:some id=some 0
       ·rw[Qr (.inl h0),Qr (.inl h0)]
       ·rw[hu id h0]
      |agg cs=>simp only[fz,hm]
      |eo cs=>simp only[fz,hm]
      |bG f cs=>simp only[fz,hm]
      |_=>simp only[fz]
    exact hz 9 x.pv
   rcases he with rfl|rfl<;>exact hret
  ·cases h3
 ·cases h3
theorem Z6{f:FuncId}{Γ:List (eB U)}{sa:SA U}{t:Nat}{A_s:List (dF U)}{R:U.Ty}(hf:kQ P f nt sa.erase [.tmp t])(hok:sa.dP=true)(hlen:A_s.length<=nt)(hΓ:xc P Γ){F:eM A_s->Option (U.den R)}(hF:∀a,nwK K Γ sa [.tmp t] A_s R a=F a):eB.Sound P (.nw f A_s R F):=by
 refine⟨hf.enters,fun a s hv=> ?_⟩
 rw[<-hF a]at hv;refine hf.aiS (by simpa[AZ]using hlen) ?_
 rw[<-Rf (K:=K)];intro c hs hc E hE hkt a' w L hr;refine wpIn_mono (fm hΓ sa [] _ _ _ _ hok hv c hs hc E hE hkt a' w L hr) ?_;rintro e a2 w2 ⟨A,L2,hrel,S',rfl,_,hk⟩;split at hk
 ·split at hk
  ·rename_i id av hx;split at hk
   ·rename_i cs hb
    have hre:S'.st.env t= .ptr id av 0:=by
     have:=JR hx;simpa[wb,yc,Db,KV.pv]using this
    have hN:id<S'.N:=by
     have:=hrel.env t;rw[hre]at this;exact(this.ud (show(S'.st.gh L2).V id=av from(xx hb).1)).1
    obtain⟨L3,h3⟩:=Z5 hb hk hN E a2 w2 L2 hrel;refine⟨_,L3,h3,?_⟩
    have h7:wb {S'.st with H:=bN S'.st.H id ⟨av,.box (U.pv R s)⟩} [.tmp t]=some (.ptr id av 0):=by
     simp only[wb,yc,Db];rw[hre]
    simp only[Um];rw[h7];simp only[cq,Qt];exact⟨U0 K R s,trivial⟩
   ·cases hk
  ·cases hk
 ·cases hk
def acF(e k:Nat)(T:U.Ty)(xs:List (U.den T))(A_s:List (KV U)):aZ U:=
 {env:=fun t=>(((KV.own 0 0)::A_s)[t]?).getD .undef,H:=fun id=>(match Nat.beq id 0 with|true=>⟨0,.row e k T xs⟩|false=>⟨0,.dead⟩),N:=1}
theorem afp(e k:Nat)(T:U.Ty)(xs:List (U.den T))(A_s:List (dF U))(a:eM A_s):(acF e k T xs (xz K A_s a)).st=vF e k (xs.map (U.pv T)) (hZ A_s a):=by
 unfold acF aZ.st vF;congr 1
 ·funext t
  rw[<-BZ K]
  cases t with
  |zero=>rfl
  |succ t=>
   simp only[List.getElem?_cons_succ,QT];cases (xz K A_s a)[t]?<;>rfl
 ·funext id
  cases id with
  |zero=>simp[dt.pv,er.pv]
  |succ id=>simp[Nat.beq,dt.pv,er.pv]
variable (K)
def rowAt(S:aZ U)(id av e k:Nat)(T:U.Ty):Option (List (U.den T)):=
 match S.row? id av with
 |some r=>(match Nat.beq r.e e&&Nat.beq r.k k with|true=>Bq r.T T r.xs|false=>none)
 |none=>none
theorem XY{S:aZ U}{id av e k:Nat}{T:U.Ty}{xs:List (U.den T)}(h:rowAt S id av e k T=some xs):(S.H id).av=av/\(S.H id).c= .row e k T xs:=by
 unfold rowAt at h;split at h
 ·rename_i r hr;obtain⟨h1,h2⟩:=Ed hr;split at h
  ·rename_i hek;rw[Qm]at hek;obtain⟨eT,rfl⟩:=oN h;obtain⟨re,rk,rT,rxs⟩:=r;simp only at eT h2 hek;subst eT;exact⟨h1,by rw[h2,QF hek.1,QF hek.2]⟩
  ·cases h
 ·cases h
def YM{ρ:Type}(rs:List RV)(e k:Nat)(T:U.Ty)(j:List (U.den T)->Option ρ)(en:Exit)(S:aZ U):Option ρ:=
 match en with
 | .ret| .normal=>(match B7 S rs with
  |some (.own id av)=>(match rowAt S id av e k T with|some ys=>j ys|none=>none)
  |_=>none)
 |_=>none
 def cwK(Γ:List (eB U))(sa:SA U)(rs:List RV)(e k:Nat)(T:U.Ty)(A_s:List (dF U))(xs:List (U.den T))(a:eM A_s):Option (List (U.den T)):=
 qj K Γ sa [] (some (0,[])) (YM rs e k T fun ys=>some ys) (acF e k T xs (xz K A_s a))
 def fwK(Γ:List (eB U))(sa:SA U)(rs:List RV)(A_s:List (dF U))(e k:Nat)(T:U.Ty)(a:eM A_s):Option (List (U.den T)):=
 qj K Γ sa [] (some (0,[])) (YM rs e k T fun ys=>some ys) (VP (xz K A_s a))
variable {K}
theorem Se{ρ:Type}{rs:List RV}{e k:Nat}{T:U.Ty}{j:List (U.den T)->Option ρ}{en:Exit}{S:aZ U}{z:ρ}(h:YM rs e k T j en S=some z):
  (en= .ret\/en= .normal)/\∃id av ys,B7 S rs=some (.own id av)/\(S.H id).av=av/\(S.H id).c= .row e k T ys/\j ys=some z:=by
 have go:(match B7 S rs with
  |some (.own id av)=>(match rowAt S id av e k T with|some ys=>j ys|none=>none)
  |_=>none)=some z->∃id av ys,B7 S rs=some (.own id av)/\(S.H id).av=av/\(S.H id).c= .row e k T ys/\j ys=some z:=by
  intro he;split at he
  ·rename_i id av hx;split at he
   ·rename_i ys hys;obtain⟨h1,h2⟩:=XY hys;exact⟨id,av,ys,hx,h1,h2,he⟩
   ·cases he
  ·cases he
 unfold YM at h;split at h
 ·exact⟨.inl rfl,go h⟩
 ·exact⟨.inr rfl,go h⟩
 ·cases h
theorem Va{rs:List RV}{e k:Nat}{T:U.Ty}{S':aZ U}{id av:Nat}{ys:List (U.den T)}(h1:B7 S' rs=some (.own id av))(h2:(S'.H id).av=av)(h3:(S'.H id).c= .row e k T ys)(K:TK U):EK rs e k (fun es''=>es''=ys.map (U.pv T)) .ret S'.st:=by
 simp only[EK];rw[JR h1];simp only[KV.pv];refine⟨h2,?_⟩;have:(S'.st.H id).c= .row e k (ys.map (U.pv T)):=by simp only[aZ.st,dt.pv,h3,er.pv]
 rw[this];exact⟨rfl,rfl,AE K T ys,rfl⟩
theorem aaD{f:FuncId}{Γ:List (eB U)}{sa:SA U}{rs:List RV}{e k:Nat}{T:U.Ty}{A_s:List (dF U)}(hf:kQ P f nt sa.erase rs)(hok:sa.dP=true)(hlen:1+A_s.length<=nt)(hΓ:xc P Γ)
  {F:List (U.den T)->eM A_s->Option (List (U.den T))} (hF:∀xs a,cwK K Γ sa rs e k T A_s xs a=F xs a):eB.Sound P (.cw f e k T A_s F):=by
 refine⟨hf.enters,fun xs a ys hv=> ?_⟩
 rw[<-hF xs a]at hv;refine hf.aiU (by simpa[AZ]using hlen) ?_
 rw[<-afp (K:=K)];refine(fm hΓ sa [] _ _ _ _ hok hv).mono ?_;rintro en A ⟨S',rfl,_,hk⟩;obtain⟨he,id,av,ys',h1,h2,h3,h5⟩:=Se hk;injection h5 with h5
 subst h5;have hret:=Va h1 h2 h3 K;rcases he with rfl|rfl<;>exact hret
theorem aas{f:FuncId}{Γ:List (eB U)}{sa:SA U}{rs:List RV}{e k:Nat}{T:U.Ty}{A_s:List (dF U)}(hf:kQ P f nt sa.erase rs)(hok:sa.dP=true)(hlen:A_s.length<=nt)(hΓ:xc P Γ)
  {F:eM A_s->Option (List (U.den T))} (hF:∀a,fwK K Γ sa rs A_s e k T a=F a):eB.Sound P (.fw f A_s e k T F):=by
 refine⟨hf.enters,fun a ys hv=> ?_⟩
 rw[<-hF a]at hv;refine hf.aiT (by simpa[AZ]using hlen) ?_
 rw[<-Rf (K:=K)];refine(fm hΓ sa [] _ _ _ _ hok hv).mono ?_;rintro en A ⟨S',rfl,_,hk⟩;obtain⟨he,id,av,ys',h1,h2,h3,h5⟩:=Se hk;injection h5 with h5
 subst h5;have hret:=Va h1 h2 h3 K;rcases he with rfl|rfl<;>exact hret
end
end
section
def op{U:TU}(d:Nat)(x:bO)(r:RS U):RS U:= .op ⟨some d,none,x⟩ r
def ops{U:TU}(x:bO)(r:RS U):RS U:= .op ⟨none,none,x⟩ r
def tm(t:Nat):bq:= .tmp t
def ci(n:Int):bq:= .yO (.int .i64 n)
def ld{U:TU}(d t:Nat)(r:RS U):RS U:=op d (.load none (tm t)) r
def cl{U:TU}(d f:Nat)(l:List Nat)(r:RS U):RS U:=op d (.call f (l.map tm)) r
def aA(k:IntKind)(a b:Int):Int:=k.wrap (a+b)
def dh(k:IntKind)(a b:Int):Int:=k.wrap (a - b)
def pD(k:IntKind)(a b:Int):Int:=k.wrap (a*b)
def T4(k:IntKind)(a b:Int):Int:=k.wrap (a.tdiv b)
def X0(_:IntKind)(a b:Int):Int:=a.tmod b
def Fc(k:IntKind)(a b:Int):Int:=k.wrap ((BitVec.ofInt k.bits a&&&BitVec.ofInt k.bits b).toNat)
def qi(k:IntKind)(a b:Int):Int:=k.wrap ((BitVec.ofInt k.bits a|||BitVec.ofInt k.bits b).toNat)
def dB(k:IntKind)(a b:Int):Int:=k.wrap ((BitVec.ofInt k.bits a^^^BitVec.ofInt k.bits b).toNat)
def A6(k:IntKind)(a b:Int):Int:=k.wrap ((BitVec.ofInt k.bits a&&& ~~~ BitVec.ofInt k.bits b).toNat)
def bS(k:IntKind)(a b:Int):Int:=k.wrap (a*2 ^ (min b.toNat k.bits))
def lx(k:IntKind)(a b:Int):Int:=a.fdiv (2 ^ (min b.toNat k.bits))
def bA(k:IntKind)(n:Int):Int:=k.wrap n
def de(a b:Int):Int:=if b<a then b else a
def bC(a b:Int):Int:=if b>a then b else a
def mh(neg:Bool)(a b:Int)(s t:ByteArray):Bool:=xor neg (decide (a=b)&&decide (s=t))
def jE{A R:Type}(B:(A->Option R)->A->Option R):Nat->A->Option R
 |0,_=>none
 |n+1,a=>B (jE B n) a
section
variable {U : TU}
inductive RN (U:TU) where
 |ps (p:Ps U)
 |Ch (t:Nat)
def abb(t:Nat):List SG->Option (List SG×SG×List SG)
 |[]=>none
 |o::r=>(match o.op with
  | .pick (.tmp t') _ _=>(match Nat.beq t t' with
   |true=>some ([],o,r)
   |false=>(match abb t r with|some (b,q,r')=>some (o::b,q,r')|none=>none))
  |_=>(match abb t r with|some (b,q,r')=>some (o::b,q,r')|none=>none))
def before(n:Nat):List (Nat×RN U)->List (Nat×RN U)
 |[]=>[]
 |(j,x)::l=>(match Nat.ble n j with|true=>[]|false=>(j,x)::before n l)
def after(n:Nat):List (Nat×RN U)->List (Nat×RN U)
 |[]=>[]
 |(j,x)::l=>(match Nat.ble n j with|true=>(j,x)::l|false=>after n l)
def Ax(vr:Bool):Nat->List Nat->Nat->List SG->List (Nat×RN U)->RS U
 |0,_,_,_,_=> .nil
 |f+1,kn,i,[],ns=>(match ns with
  |(_,.ps p)::ns'=> .ps p (Ax vr f kn i [] ns')
  |(_,.Ch t)::ns'=> .Ch t (Ax vr f (t::kn) i [] ns')
  |[]=> .nil)
 |f+1,kn,i,o::r,ns=>(match(match ns with|(j,_)::_=>Nat.beq j i|[]=>false)with
  |true=>(match ns with
   |(_,.ps p)::ns'=> .ps p (Ax vr f kn i (o::r) ns')
   |(_,.Ch t)::ns'=> .Ch t (Ax vr f (t::kn) i (o::r) ns')
   |[]=> .nil)
  |false=>(match o.g with
   |none=> .op o (Ax vr f kn (Nat.succ i) r ns)
   |some (t,w)=>(match iT t kn with
    |true=> .op o (Ax vr f kn (Nat.succ i) r ns)
    |false=>(match vr with
     |true=> .Ch t (Ax vr f (t::kn) i (o::r) ns)
     |false=>(match abb t (o::r)with
      |some (b,q,r')=>(match q.op with
       | .pick _ x y=> .ite t w (Ax vr f (t::kn) i b (before (Nat.add i b.length) ns)) (q.d.getD 0) q.g x y (Ax vr f kn (Nat.succ (Nat.add i b.length)) r' (after (Nat.add i b.length) ns))
       |_=> .nil)
      |none=> .nil)))))
inductive NT (U:TU) where
 |e
 |l (x:NT U)
 |r (x:NT U)
 |b (x y:NT U)
 |ps (p:Ps U) (x:NT U)
 |Hy (p:Ps U) (x:NT U)
 |j (J:JS U) (x:NT U)
 |u (n:Nat) (x:NT U)
 |k (J:JS U) (f k:Nat) (nE:Option Nat) (T:U.Ty) (x:NT U)
 |g (ns:List (Nat×RN U))
def NT.lt:NT U->NT U
 | .l x=>x
 | .b x _=>x
 | .j _ x=>x.lt
 | .k _ _ _ _ _ x=>x.lt
 | .ps _ x=>x.lt
 | .Hy _ x=>x.lt
 |_=> .e
def NT.rt:NT U->NT U
 | .r x=>x
 | .b _ x=>x
 | .j _ x=>x.rt
 | .k _ _ _ _ _ x=>x.rt
 | .ps _ x=>x.rt
 | .Hy _ x=>x.rt
 |_=> .e
def NT.wrap:NT U->SA U->SA U
 | .ps p x,s=> .ps p (x.wrap s)
 | .Hy p x,s=> .Hy p (x.wrap s)
 |_,s=>s
def NT.core:NT U->NT U
 | .ps _ x=>x.core
 | .Hy _ x=>x.core
 |x=>x
def fC:SC->NT U->SA U
 | .skip,t=>t.wrap .skip
 | .ze ops,t=>t.wrap (.ze (match t.core with| .g ns=>Ax false 4000 [] 0 ops ns|_=>Ax false 4000 [] 0 ops []))
 | .vr un ops,t=>t.wrap (.vr un (match t.core with| .g ns=>Ax true 4000 [] 0 ops ns|_=>Ax true 4000 [] 0 ops []))
 | .seq x y,t=>t.wrap (match t.core with
  | .j J u=> .join J (fC x u.lt) (fC y u.rt)
  |u=> .seq (fC x u.lt) (fC y u.rt))
 | .cond c x y,t=>t.wrap (.cond c (fC x t.lt) (fC y t.rt))
 | .block id x,t=>t.wrap (.block id (fC x t.lt))
 | .loop x,t=>t.wrap (match t.core with
  | .j J u=> .loop J (fC x u.lt)
  | .u n t=> .Zq n (fC x t.lt)
  |_=> .loop ⟨[],[]⟩ (fC x t.lt))
 | .Hv g ps x y,t=>t.wrap (match t.core with
  | .k J f k nE T u=>(match g with
   | .tmp tg=> .back J f k nE T tg (ps.headD 0) (ps.tail.headD 0) (fC x u.lt) (fC y u.rt)
   |_=> .skip)
  |_=> .skip)
 | .exit id,t=>t.wrap (.exit id)
 | .ret,t=>t.wrap .ret
def jg(P:Program)(nt:Nat)(hs:List Nat)(fn:Func):SC:=(fn.body.bind (aP P nt hs)).getD .skip
end
section
variable {U : TU} {P : Program}
structure KS (U:TU) (P:Program) where
 k:eB U
 s:k.Sound P
def KS.ks:List (KS U P)->List (eB U)
 |[]=>[]
 |x::l=>x.k::KS.ks l
theorem KS.all:∀l:List (KS U P),xc P (KS.ks l)
 |[]=>trivial
 |x::l=>⟨x.s,KS.all l⟩
variable {K : TK U} {f : FuncId} {A_s : List (dF U)} {r : q7 U} {e k : Nat} {T R : U.Ty}
theorem fk{f nt:Nat}{c:SC}{rs:List RV}(fn:Func)(hs:List Nat)(hf:P.funcs[f]?=some fn)(h0:fn.ntmps=nt:=by rfl)(h1:(fn.body.bind (aP P nt hs))=some c:=by kernel_rfl)(h2:mM P fn.results.toList=some rs:=by kernel_rfl)(h3:(fn.name== "runtime.NumGoroutine")=false:=by kernel_rfl):kQ P f nt c rs:=⟨fn,hs,hf,h0,h1,h2,h3⟩
theorem fnS(sa:SA U)(nt:Nat)(rs:List RV)(G:List (KS U P))(hf:kQ P f nt sa.erase rs)(hok:sa.dP=true:=by kernel_rfl)(hlen:A_s.length<=nt:=by decide){F:eM A_s->Option r.den}(hF:U3 K (KS.ks G) sa rs A_s r=F:=by kernel_rfl):eB.Sound P (.fn f A_s r F):=
 Jd hf hok hlen (KS.all G) fun a=>congrFun hF a
theorem rcS{pos:Nat}(sa:SA U)(nt:Nat)(rs:List RV)(G:List (KS U P))(hf:kQ P f nt sa.erase rs)(hok:sa.dP=true:=by kernel_rfl)(hlen:1+A_s.length<=nt:=by decide){F:U.den R->eM A_s->Option (r.den×U.den R)}(hF:rcK K (KS.ks G) sa rs pos R A_s r=F:=by kernel_rfl):eB.Sound P (.rc f pos R A_s r F):=
 Zz hf hok hlen (KS.all G) fun s a=>congrFun (congrFun hF s) a
theorem roS{pos:Nat}{F:U.den R->eM A_s->Option (r.den×U.den R)}(h:eB.Sound P (.rc f pos R A_s r F))(hs:∀s a q,F s a=some q->q.2=s):eB.Sound P (.ro f pos R A_s r F):=
 ⟨h.1,fun s a v s' hv=>⟨hs s a _ hv,h.2 s a v s' hv⟩⟩
theorem nwS(sa:SA U)(nt t:Nat)(G:List (KS U P))(hf:kQ P f nt sa.erase [.tmp t])(hok:sa.dP=true:=by kernel_rfl)(hlen:A_s.length<=nt:=by decide){F:eM A_s->Option (U.den R)}(hF:nwK K (KS.ks G) sa [.tmp t] A_s R=F:=by kernel_rfl):eB.Sound P (.nw f A_s R F):=
 Z6 hf hok hlen (KS.all G) fun a=>congrFun hF a
theorem Vk(sa:SA U)(nt:Nat)(rs:List RV)(G:List (KS U P))(hf:kQ P f nt sa.erase rs)(hok:sa.dP=true:=by kernel_rfl)(hlen:1+A_s.length<=nt:=by decide){F:List (U.den T)->eM A_s->Option (List (U.den T))}(hF:cwK K (KS.ks G) sa rs e k T A_s=F:=by kernel_rfl):eB.Sound P (.cw f e k T A_s F):=
 aaD hf hok hlen (KS.all G) fun s a=>congrFun (congrFun hF s) a
theorem fwS(sa:SA U)(nt:Nat)(rs:List RV)(G:List (KS U P))(hf:kQ P f nt sa.erase rs)(hok:sa.dP=true:=by kernel_rfl)(hlen:A_s.length<=nt:=by decide){F:eM A_s->Option (List (U.den T))}(hF:fwK K (KS.ks G) sa rs A_s e k T=F:=by kernel_rfl):eB.Sound P (.fw f A_s e k T F):=
 aas hf hok hlen (KS.all G) fun a=>congrFun hF a
theorem fnR(sa:SA U)(nt:Nat)(rs:List RV)(G:List (KS U P))(hf:kQ P f nt sa.erase rs)(hok:sa.dP=true:=by kernel_rfl)(hlen:A_s.length<=nt:=by decide){B:(eM A_s->Option r.den)->eM A_s->Option r.den}(hB:(fun g=>U3 K (.fn f A_s r g::KS.ks G) sa rs A_s r)=B):∀n,eB.Sound P (.fn f A_s r (jE B n))
 |0=>⟨hf.enters,fun a r h=>by cases h⟩
 |n+1=>Jd (K:=K) (Γ:= .fn f A_s r (jE B n)::KS.ks G) (F:=jE B (n+1)) hf hok hlen ⟨fnR sa nt rs G hf hok hlen hB n,KS.all G⟩ fun a=>congrFun (congrFun hB (jE B n)) a
theorem zN(sa:SA U)(nt:Nat)(rs:List RV)(G:List (KS U P))(hf:kQ P f nt sa.erase rs)(hok:sa.dP=true:=by kernel_rfl)(hlen:A_s.length<=nt:=by decide){B:(eM A_s->Option r.den)->eM A_s->Option r.den}(hB:(fun g=>U3 K (.fn f A_s r g::KS.ks G) sa rs A_s r)=B:=by kernel_rfl){F:eM A_s->Option r.den}(hF:∀a,∃n,F a=jE B n a):eB.Sound P (.fn f A_s r F):=
 ⟨hf.enters,fun a r h=>by
  obtain⟨n,hn⟩:=hF a;rw[hn]at h
  exact(fnR sa nt rs G hf hok hlen hB n).2 a r h⟩
theorem YC(sa:SA U)(nt:Nat)(rs:List RV)(G:(g:eM A_s->Option r.den)->eB.Sound P (.fn f A_s r g)->List (KS U P))(hf:kQ P f nt sa.erase rs)(hok:sa.dP=true:=by kernel_rfl)(hlen:A_s.length<=nt:=by decide){B:(eM A_s->Option r.den)->eM A_s->Option r.den}(hB:(fun g h=>U3 K (.fn f A_s r g::KS.ks (G g h)) sa rs A_s r)=fun g _=>B g):∀n,eB.Sound P (.fn f A_s r (jE B n))
 |0=>⟨hf.enters,fun a r h=>by cases h⟩
 |n+1=>Jd (K:=K) (Γ:= .fn f A_s r (jE B n)::KS.ks (G (jE B n) (YC sa nt rs G hf hok hlen hB n))) (F:=jE B (n+1)) hf hok hlen ⟨YC sa nt rs G hf hok hlen hB n,KS.all _⟩ fun a=>congrFun (congrFun (congrFun hB (jE B n)) (YC sa nt rs G hf hok hlen hB n)) a
theorem ahO(sa:SA U)(nt:Nat)(rs:List RV)(G:(g:eM A_s->Option r.den)->eB.Sound P (.fn f A_s r g)->List (KS U P))(hf:kQ P f nt sa.erase rs)(hok:sa.dP=true:=by kernel_rfl)(hlen:A_s.length<=nt:=by decide){B:(eM A_s->Option r.den)->eM A_s->Option r.den}(hB:(fun g h=>U3 K (.fn f A_s r g::KS.ks (G g h)) sa rs A_s r)=(fun g _=>B g):=by kernel_rfl){F:eM A_s->Option r.den}(hF:∀a,∃n,F a=jE B n a):eB.Sound P (.fn f A_s r F):=
 ⟨hf.enters,fun a r h=>by
  obtain⟨n,hn⟩:=hF a;rw[hn]at h
  exact(YC sa nt rs G hf hok hlen hB n).2 a r h⟩
end
end
section
structure ae where
 aJ:Int
 ba:(List Int)
 aM:(List ae)
theorem ae.eta(x:ae):ae.mk x.aJ x.ba x.aM=x:=by cases x;rfl
@[reducible] def au (x:ae):ae:=ae.mk x.aJ x.ba x.aM
structure ar where
 an:Int
 aE:Int
 aj:ae
 bf:(List ByteArray)
 aD:(List ByteArray)
@[simp] theorem ar.eta (x:ar):ar.mk x.an x.aE x.aj x.bf x.aD=x:=rfl
structure aw where
 an:Int
 aY:Int
 Round:Int
 aE:Int
 aj:ae
 mz:ByteArray
 bf:(List ByteArray)
 aD:(List ByteArray)
 aO:(List ByteArray)
 aq:(List ar)
@[simp] theorem aw.eta (x:aw):aw.mk x.an x.aY x.Round x.aE x.aj x.mz x.bf x.aD x.aO x.aq=x:=rfl
structure af where
 ak:Int
 Value:ByteArray
@[simp] theorem af.eta (x:af):af.mk x.ak x.Value=x:=rfl
structure ai where
 an:Int
 aY:Int
 aE:Int
 aj:ae
 bF:Int
 aa:af
 ao:af
 az:af
 aS:Int
 bl:Int
@[simp] theorem ai.eta (x:ai):ai.mk x.an x.aY x.aE x.aj x.bF x.aa x.ao x.az x.aS x.bl=x:=rfl
structure ab where
 an:Int
 aY:Int
 aE:Int
 aj:ae
 aK:Int
 aa:af
 ao:af
 az:af
 ax:af
 aS:Int
 bl:Int
 bb:ByteArray
 aq:(List ai)
@[simp] theorem ab.eta (x:ab):ab.mk x.an x.aY x.aE x.aj x.aK x.aa x.ao x.az x.ax x.aS x.bl x.bb x.aq=x:=rfl
structure dj where
 ak:Int
 EF:Int
@[simp] theorem dj.eta (x:dj):dj.mk x.ak x.EF=x:=rfl
structure bs where
 ay:aw
 al:ab
 Timer:dj
 Round:Int
 Next:Int
 uy:Bool
 Value:ByteArray
@[simp] theorem bs.eta (x:bs):bs.mk x.ay x.al x.Timer x.Round x.Next x.uy x.Value=x:=rfl
structure im where
 bF:Int
 aY:Int
 cd:ar
 aI:ai
@[simp] theorem im.eta (x:im):im.mk x.bF x.aY x.cd x.aI=x:=rfl
structure dp where
 L:(List Int)
 At:Int
@[simp] theorem dp.eta (x:dp):dp.mk x.L x.At=x:=rfl
structure aH where
 al:ab
@[simp] theorem aH.eta (x:aH):aH.mk x.al=x:=rfl
structure aR where
 dU:Bool
 aj:ae
@[simp] theorem aR.eta (x:aR):aR.mk x.dU x.aj=x:=rfl
structure aW where
 bo:(List aR)
@[simp] theorem aW.eta (x:aW):aW.mk x.bo=x:=rfl
structure bH where
 aI:ai
@[simp] theorem bH.eta (x:bH):bH.mk x.aI=x:=rfl
structure gW where
 an:Int
 View:aW
 aq:(List bH)
@[simp] theorem gW.eta (x:gW):gW.mk x.an x.View x.aq=x:=rfl
structure ij where
 tt:Int
 Value:Int
@[simp] theorem ij.eta (x:ij):ij.mk x.tt x.Value=x:=rfl
structure ct where
 an:Int
 aE:Int
 aj:ae
 bf:(List ij)
 aD:(List ij)
@[simp] theorem ct.eta (x:ct):ct.mk x.an x.aE x.aj x.bf x.aD=x:=rfl
structure Hn where
 aT:Int
 low:Int
 bU:Int
 aQ:af
 eV:af
 bV:af
 dZ:af
@[simp] theorem Hn.eta (x:Hn):Hn.mk x.aT x.low x.bU x.aQ x.eV x.bV x.dZ=x:=rfl
structure eO where
 Sw:Int
 Sx:Int
@[simp] theorem eO.eta (x:eO):eO.mk x.Sw x.Sx=x:=rfl
structure rO where
 c0:af
 c1:af
@[simp] theorem rO.eta (x:rO):rO.mk x.c0 x.c1=x:=rfl
structure yx where
 c0:Int
 c1:Int
@[simp] theorem yx.eta (x:yx):yx.mk x.c0 x.c1=x:=rfl
attribute [simp] ae.eta
inductive nS where
 |aj
 |cd
 |ay
 |aa
 |aI
 |al
 |Timer
 |aY
 |q8
 |Src
 |xD
 |sD
 |Config
 |wD
 |Seen
 |Claim
 |Message
 |mz
 |DU
 |oV
 |uh
 deriving DecidableEq
inductive Ty where
 |i (k:IntKind)
 |bool
 |str
 |sl (t:Ty)
 |mp (a b:Ty)
 |st (n:nS)
def nS.den:nS->Type
 | .aj=>ae
 | .cd=>ar
 | .ay=>aw
 | .aa=>af
 | .aI=>ai
 | .al=>ab
 | .Timer=>dj
 | .aY=>bs
 | .q8=>im
 | .Src=>dp
 | .xD=>aH
 | .sD=>aR
 | .Config=>aW
 | .wD=>bH
 | .Seen=>gW
 | .Claim=>ij
 | .Message=>ct
 | .mz=>Hn
 | .DU=>eO
 | .oV=>rO
 | .uh=>yx
def Ty.den:Ty->Type
 | .i _=>Int
 | .bool=>Bool
 | .str=>ByteArray
 | .sl t=>List t.den
 | .mp a b=>List (a.den×b.den)
 | .st n=>n.den
def Ty.beq:Ty->Ty->Bool
 | .i k,.i k'=>decide (k=k')
 | .bool,.bool=>true
 | .str,.str=>true
 | .sl t,.sl t'=>Ty.beq t t'
 | .mp a b,.mp a' b'=>Ty.beq a a'&&Ty.beq b b'
 | .st n,.st n'=>decide (n=n')
 |_,_=>false
theorem Ty.eq_of_beq:∀{a b:Ty},Ty.beq a b=true->a=b
 | .i k,.i k',h=>by rw[of_decide_eq_true h]
 | .bool,.bool,_=>rfl
 | .str,.str,_=>rfl
 | .sl t,.sl t',h=>by rw[Ty.eq_of_beq (a:=t) (b:=t') h]
 | .mp a b,.mp a' b',h=>by
  rw[Ty.beq,Qm]at h;rw[Ty.eq_of_beq (a:=a) (b:=a') h.1,Ty.eq_of_beq (a:=b) (b:=b') h.2]
 | .st n,.st n',h=>by rw[of_decide_eq_true h]
 | .i _,.bool,h=>by cases h
 | .i _,.str,h=>by cases h
 | .i _,.sl _,h=>by cases h
 | .i _,.st _,h=>by cases h
 | .bool,.i _,h=>by cases h
 | .bool,.str,h=>by cases h
 | .bool,.sl _,h=>by cases h
 | .bool,.st _,h=>by cases h
 | .str,.i _,h=>by cases h
 | .str,.bool,h=>by cases h
 | .str,.sl _,h=>by cases h
 | .str,.st _,h=>by cases h
 | .sl _,.i _,h=>by cases h
 | .sl _,.bool,h=>by cases h
 | .sl _,.str,h=>by cases h
 | .sl _,.st _,h=>by cases h
 | .st _,.i _,h=>by cases h
 | .st _,.bool,h=>by cases h
 | .st _,.str,h=>by cases h
 | .st _,.sl _,h=>by cases h
 | .mp _ _,.i _,h=>by cases h
 | .i _,.mp _ _,h=>by cases h
 | .mp _ _,.bool,h=>by cases h
 | .bool,.mp _ _,h=>by cases h
 | .mp _ _,.str,h=>by cases h
 | .str,.mp _ _,h=>by cases h
 | .mp _ _,.sl _,h=>by cases h
 | .sl _,.mp _ _,h=>by cases h
 | .mp _ _,.st _,h=>by cases h
 | .st _,.mp _ _,h=>by cases h
theorem Ty.Hi:∀(a:Ty),Ty.beq a a=true
 | .i k=>Qg rfl
 | .bool=>rfl
 | .str=>rfl
 | .sl t=>Ty.Hi t
 | .mp a b=>by rw[Ty.beq,Ty.Hi a,Ty.Hi b];rfl
 | .st n=>Qg rfl
def Ty.Xs(a b:Ty):Decidable (a=b):=
 match h:Ty.beq a b with
 |true=>isTrue (Ty.eq_of_beq h)
 |false=>isFalse fun e=>by rw[e,Ty.Hi]at h;cases h
@[reducible] def DT:List Ty->Type
 |[]=>Unit
 |t::l=>t.den×DT l
def nS.leaves:nS->List Ty
 | .aj=>[(Ty.i .i64),(Ty.sl (Ty.i .i64)),(Ty.sl (Ty.st .aj))]
 | .cd=>[(Ty.i .i64),(Ty.i .i64),(Ty.i .i64),(Ty.sl (Ty.i .i64)),(Ty.sl (Ty.st .aj)),(Ty.sl Ty.str),(Ty.sl Ty.str)]
 | .ay=>[(Ty.i .i64),(Ty.i .i64),(Ty.i .i64),(Ty.i .i64),(Ty.i .i64),(Ty.sl (Ty.i .i64)),(Ty.sl (Ty.st .aj)),Ty.str,(Ty.sl Ty.str),(Ty.sl Ty.str),(Ty.sl Ty.str),(Ty.sl (Ty.st .cd))]
 | .aa=>[(Ty.i .i64),Ty.str]
 | .aI=>[(Ty.i .i64),(Ty.i .i64),(Ty.i .i64),(Ty.i .i64),(Ty.sl (Ty.i .i64)),(Ty.sl (Ty.st .aj)),(Ty.i .i64),(Ty.i .i64),Ty.str,(Ty.i .i64),Ty.str,(Ty.i .i64),Ty.str,(Ty.i .i64),(Ty.i .i64)]
 | .al=>[(Ty.i .i64),(Ty.i .i64),(Ty.i .i64),(Ty.i .i64),(Ty.sl (Ty.i .i64)),(Ty.sl (Ty.st .aj)),(Ty.i .i64),(Ty.i .i64),Ty.str,(Ty.i .i64),Ty.str,(Ty.i .i64),Ty.str,(Ty.i .i64),Ty.str,(Ty.i .i64),(Ty.i .i64),Ty.str,(Ty.sl (Ty.st .aI))]
 | .Timer=>[(Ty.i .i64),(Ty.i .i64)]
 | .aY=>[(Ty.i .i64),(Ty.i .i64),(Ty.i .i64),(Ty.i .i64),(Ty.i .i64),(Ty.sl (Ty.i .i64)),(Ty.sl (Ty.st .aj)),Ty.str,(Ty.sl Ty.str),(Ty.sl Ty.str),(Ty.sl Ty.str),(Ty.sl (Ty.st .cd)),(Ty.i .i64),(Ty.i .i64),(Ty.i .i64),(Ty.i .i64),(Ty.sl (Ty.i .i64)),(Ty.sl (Ty.st .aj)),(Ty.i .i64),(Ty.i .i64),Ty.str,(Ty.i .i64),Ty.str,(Ty.i .i64),Ty.str,(Ty.i .i64),Ty.str,(Ty.i .i64),(Ty.i .i64),Ty.str,(Ty.sl (Ty.st .aI)),(Ty.i .i64),(Ty.i .i64),(Ty.i .i64),(Ty.i .i64),Ty.bool,Ty.str]
 | .q8=>[(Ty.i .i64),(Ty.i .i64),(Ty.i .i64),(Ty.i .i64),(Ty.i .i64),(Ty.sl (Ty.i .i64)),(Ty.sl (Ty.st .aj)),(Ty.sl Ty.str),(Ty.sl Ty.str),(Ty.i .i64),(Ty.i .i64),(Ty.i .i64),(Ty.i .i64),(Ty.sl (Ty.i .i64)),(Ty.sl (Ty.st .aj)),(Ty.i .i64),(Ty.i .i64),Ty.str,(Ty.i .i64),Ty.str,(Ty.i .i64),Ty.str,(Ty.i .i64),(Ty.i .i64)]
 | .Src=>[(Ty.sl (Ty.i .i64)),(Ty.i .i64)]
 | .xD=>[(Ty.i .i64),(Ty.i .i64),(Ty.i .i64),(Ty.i .i64),(Ty.sl (Ty.i .i64)),(Ty.sl (Ty.st .aj)),(Ty.i .i64),(Ty.i .i64),Ty.str,(Ty.i .i64),Ty.str,(Ty.i .i64),Ty.str,(Ty.i .i64),Ty.str,(Ty.i .i64),(Ty.i .i64),Ty.str,(Ty.sl (Ty.st .aI))]
 | .sD=>[Ty.bool,(Ty.i .i64),(Ty.sl (Ty.i .i64)),(Ty.sl (Ty.st .aj))]
 | .Config=>[(Ty.sl (Ty.st .sD))]
 | .wD=>[(Ty.i .i64),(Ty.i .i64),(Ty.i .i64),(Ty.i .i64),(Ty.sl (Ty.i .i64)),(Ty.sl (Ty.st .aj)),(Ty.i .i64),(Ty.i .i64),Ty.str,(Ty.i .i64),Ty.str,(Ty.i .i64),Ty.str,(Ty.i .i64),(Ty.i .i64)]
 | .Seen=>[(Ty.i .i64),(Ty.sl (Ty.st .sD)),(Ty.sl (Ty.st .wD))]
 | .Claim=>[(Ty.i .i64),(Ty.i .i64)]
 | .Message=>[(Ty.i .i64),(Ty.i .i64),(Ty.i .i64),(Ty.sl (Ty.i .i64)),(Ty.sl (Ty.st .aj)),(Ty.sl (Ty.st .Claim)),(Ty.sl (Ty.st .Claim))]
 | .mz=>[(Ty.i .i64),(Ty.i .i64),(Ty.i .i64),(Ty.i .i64),Ty.str,(Ty.i .i64),Ty.str,(Ty.i .i64),Ty.str,(Ty.i .i64),Ty.str]
 | .DU=>[(Ty.i .i64),(Ty.i .i64)]
 | .oV=>[(Ty.i .i64),Ty.str,(Ty.i .i64),Ty.str]
 | .uh=>[(Ty.i .i64),(Ty.i .i64)]
def nS.toL:(n:nS)->n.den->DT n.leaves
 | .aj,(v:ae)=>(v.aJ,v.ba,v.aM,())
 | .cd,(v:ar)=>(v.an,v.aE,v.aj.aJ,v.aj.ba,v.aj.aM,v.bf,v.aD,())
 | .ay,(v:aw)=>(v.an,v.aY,v.Round,v.aE,v.aj.aJ,v.aj.ba,v.aj.aM,v.mz,v.bf,v.aD,v.aO,v.aq,())
 | .aa,(v:af)=>(v.ak,v.Value,())
 | .aI,(v:ai)=>(v.an,v.aY,v.aE,v.aj.aJ,v.aj.ba,v.aj.aM,v.bF,v.aa.ak,v.aa.Value,v.ao.ak,v.ao.Value,v.az.ak,v.az.Value,v.aS,v.bl,())
 | .al,(v:ab)=>(v.an,v.aY,v.aE,v.aj.aJ,v.aj.ba,v.aj.aM,v.aK,v.aa.ak,v.aa.Value,v.ao.ak,v.ao.Value,v.az.ak,v.az.Value,v.ax.ak,v.ax.Value,v.aS,v.bl,v.bb,v.aq,())
 | .Timer,(v:dj)=>(v.ak,v.EF,())
 | .aY,(v:bs)=>(v.ay.an,v.ay.aY,v.ay.Round,v.ay.aE,v.ay.aj.aJ,v.ay.aj.ba,v.ay.aj.aM,v.ay.mz,v.ay.bf,v.ay.aD,v.ay.aO,v.ay.aq,v.al.an,v.al.aY,v.al.aE,v.al.aj.aJ,v.al.aj.ba,v.al.aj.aM,v.al.aK,v.al.aa.ak,v.al.aa.Value,v.al.ao.ak,v.al.ao.Value,v.al.az.ak,v.al.az.Value,v.al.ax.ak,v.al.ax.Value,v.al.aS,v.al.bl,v.al.bb,v.al.aq,v.Timer.ak,v.Timer.EF,v.Round,v.Next,v.uy,v.Value,())
 | .q8,(v:im)=>(v.bF,v.aY,v.cd.an,v.cd.aE,v.cd.aj.aJ,v.cd.aj.ba,v.cd.aj.aM,v.cd.bf,v.cd.aD,v.aI.an,v.aI.aY,v.aI.aE,v.aI.aj.aJ,v.aI.aj.ba,v.aI.aj.aM,v.aI.bF,v.aI.aa.ak,v.aI.aa.Value,v.aI.ao.ak,v.aI.ao.Value,v.aI.az.ak,v.aI.az.Value,v.aI.aS,v.aI.bl,())
 | .Src,(v:dp)=>(v.L,v.At,())
 | .xD,(v:aH)=>(v.al.an,v.al.aY,v.al.aE,v.al.aj.aJ,v.al.aj.ba,v.al.aj.aM,v.al.aK,v.al.aa.ak,v.al.aa.Value,v.al.ao.ak,v.al.ao.Value,v.al.az.ak,v.al.az.Value,v.al.ax.ak,v.al.ax.Value,v.al.aS,v.al.bl,v.al.bb,v.al.aq,())
 | .sD,(v:aR)=>(v.dU,v.aj.aJ,v.aj.ba,v.aj.aM,())
 | .Config,(v:aW)=>(v.bo,())
 | .wD,(v:bH)=>(v.aI.an,v.aI.aY,v.aI.aE,v.aI.aj.aJ,v.aI.aj.ba,v.aI.aj.aM,v.aI.bF,v.aI.aa.ak,v.aI.aa.Value,v.aI.ao.ak,v.aI.ao.Value,v.aI.az.ak,v.aI.az.Value,v.aI.aS,v.aI.bl,())
 | .Seen,(v:gW)=>(v.an,v.View.bo,v.aq,())
 | .Claim,(v:ij)=>(v.tt,v.Value,())
 | .Message,(v:ct)=>(v.an,v.aE,v.aj.aJ,v.aj.ba,v.aj.aM,v.bf,v.aD,())
 | .mz,(v:Hn)=>(v.aT,v.low,v.bU,v.aQ.ak,v.aQ.Value,v.eV.ak,v.eV.Value,v.bV.ak,v.bV.Value,v.dZ.ak,v.dZ.Value,())
 | .DU,(v:eO)=>(v.Sw,v.Sx,())
 | .oV,(v:rO)=>(v.c0.ak,v.c0.Value,v.c1.ak,v.c1.Value,())
 | .uh,(v:yx)=>(v.c0,v.c1,())
def nS.ofL:(n:nS)->DT n.leaves->n.den
 | .aj,v=>(ae.mk v.1 v.2.1 v.2.2.1)
 | .cd,v=>(ar.mk v.1 v.2.1 (ae.mk v.2.2.1 v.2.2.2.1 v.2.2.2.2.1) v.2.2.2.2.2.1 v.2.2.2.2.2.2.1)
 | .ay,v=>(aw.mk v.1 v.2.1 v.2.2.1 v.2.2.2.1 (ae.mk v.2.2.2.2.1 v.2.2.2.2.2.1 v.2.2.2.2.2.2.1) v.2.2.2.2.2.2.2.1 v.2.2.2.2.2.2.2.2.1 v.2.2.2.2.2.2.2.2.2.1 v.2.2.2.2.2.2.2.2.2.2.1 v.2.2.2.2.2.2.2.2.2.2.2.1)
 | .aa,v=>(af.mk v.1 v.2.1)
 | .aI,v=>(ai.mk v.1 v.2.1 v.2.2.1 (ae.mk v.2.2.2.1 v.2.2.2.2.1 v.2.2.2.2.2.1) v.2.2.2.2.2.2.1 (af.mk v.2.2.2.2.2.2.2.1 v.2.2.2.2.2.2.2.2.1) (af.mk v.2.2.2.2.2.2.2.2.2.1 v.2.2.2.2.2.2.2.2.2.2.1) (af.mk v.2.2.2.2.2.2.2.2.2.2.2.1 v.2.2.2.2.2.2.2.2.2.2.2.2.1) v.2.2.2.2.2.2.2.2.2.2.2.2.2.1 v.2.2.2.2.2.2.2.2.2.2.2.2.2.2.1)
 | .al,v=>(ab.mk v.1 v.2.1 v.2.2.1 (ae.mk v.2.2.2.1 v.2.2.2.2.1 v.2.2.2.2.2.1) v.2.2.2.2.2.2.1 (af.mk v.2.2.2.2.2.2.2.1 v.2.2.2.2.2.2.2.2.1) (af.mk v.2.2.2.2.2.2.2.2.2.1 v.2.2.2.2.2.2.2.2.2.2.1) (af.mk v.2.2.2.2.2.2.2.2.2.2.2.1 v.2.2.2.2.2.2.2.2.2.2.2.2.1) (af.mk v.2.2.2.2.2.2.2.2.2.2.2.2.2.1 v.2.2.2.2.2.2.2.2.2.2.2.2.2.2.1) v.2.2.2.2.2.2.2.2.2.2.2.2.2.2.2.1 v.2.2.2.2.2.2.2.2.2.2.2.2.2.2.2.2.1 v.2.2.2.2.2.2.2.2.2.2.2.2.2.2.2.2.2.1 v.2.2.2.2.2.2.2.2.2.2.2.2.2.2.2.2.2.2.1)
 | .Timer,v=>(dj.mk v.1 v.2.1)
 | .aY,v=>(bs.mk (aw.mk v.1 v.2.1 v.2.2.1 v.2.2.2.1 (ae.mk v.2.2.2.2.1 v.2.2.2.2.2.1 v.2.2.2.2.2.2.1) v.2.2.2.2.2.2.2.1 v.2.2.2.2.2.2.2.2.1 v.2.2.2.2.2.2.2.2.2.1 v.2.2.2.2.2.2.2.2.2.2.1 v.2.2.2.2.2.2.2.2.2.2.2.1) (ab.mk v.2.2.2.2.2.2.2.2.2.2.2.2.1 v.2.2.2.2.2.2.2.2.2.2.2.2.2.1 v.2.2.2.2.2.2.2.2.2.2.2.2.2.2.1 (ae.mk v.2.2.2.2.2.2.2.2.2.2.2.2.2.2.2.1 v.2.2.2.2.2.2.2.2.2.2.2.2.2.2.2.2.1 v.2.2.2.2.2.2.2.2.2.2.2.2.2.2.2.2.2.1) v.2.2.2.2.2.2.2.2.2.2.2.2.2.2.2.2.2.2.1 (af.mk v.2.2.2.2.2.2.2.2.2.2.2.2.2.2.2.2.2.2.2.1 v.2.2.2.2.2.2.2.2.2.2.2.2.2.2.2.2.2.2.2.2.1) (af.mk v.2.2.2.2.2.2.2.2.2.2.2.2.2.2.2.2.2.2.2.2.2.1 v.2.2.2.2.2.2.2.2.2.2.2.2.2.2.2.2.2.2.2.2.2.2.1) (af.mk v.2.2.2.2.2.2.2.2.2.2.2.2.2.2.2.2.2.2.2.2.2.2.2.1 v.2.2.2.2.2.2.2.2.2.2.2.2.2.2.2.2.2.2.2.2.2.2.2.2.1) (af.mk v.2.2.2.2.2.2.2.2.2.2.2.2.2.2.2.2.2.2.2.2.2.2.2.2.2.1 v.2.2.2.2.2.2.2.2.2.2.2.2.2.2.2.2.2.2.2.2.2.2.2.2.2.2.1) v.2.2.2.2.2.2.2.2.2.2.2.2.2.2.2.2.2.2.2.2.2.2.2.2.2.2.2.1 v.2.2.2.2.2.2.2.2.2.2.2.2.2.2.2.2.2.2.2.2.2.2.2.2.2.2.2.2.1 v.2.2.2.2.2.2.2.2.2.2.2.2.2.2.2.2.2.2.2.2.2.2.2.2.2.2.2.2.2.1 v.2.2.2.2.2.2.2.2.2.2.2.2.2.2.2.2.2.2.2.2.2.2.2.2.2.2.2.2.2.2.1) (dj.mk v.2.2.2.2.2.2.2.2.2.2.2.2.2.2.2.2.2.2.2.2.2.2.2.2.2.2.2.2.2.2.2.1 v.2.2.2.2.2.2.2.2.2.2.2.2.2.2.2.2.2.2.2.2.2.2.2.2.2.2.2.2.2.2.2.2.1) v.2.2.2.2.2.2.2.2.2.2.2.2.2.2.2.2.2.2.2.2.2.2.2.2.2.2.2.2.2.2.2.2.2.1 v.2.2.2.2.2.2.2.2.2.2.2.2.2.2.2.2.2.2.2.2.2.2.2.2.2.2.2.2.2.2.2.2.2.2.1 v.2.2.2.2.2.2.2.2.2.2.2.2.2.2.2.2.2.2.2.2.2.2.2.2.2.2.2.2.2.2.2.2.2.2.2.1 v.2.2.2.2.2.2.2.2.2.2.2.2.2.2.2.2.2.2.2.2.2.2.2.2.2.2.2.2.2.2.2.2.2.2.2.2.1)
 | .q8,v=>(im.mk v.1 v.2.1 (ar.mk v.2.2.1 v.2.2.2.1 (ae.mk v.2.2.2.2.1 v.2.2.2.2.2.1 v.2.2.2.2.2.2.1) v.2.2.2.2.2.2.2.1 v.2.2.2.2.2.2.2.2.1) (ai.mk v.2.2.2.2.2.2.2.2.2.1 v.2.2.2.2.2.2.2.2.2.2.1 v.2.2.2.2.2.2.2.2.2.2.2.1 (ae.mk v.2.2.2.2.2.2.2.2.2.2.2.2.1 v.2.2.2.2.2.2.2.2.2.2.2.2.2.1 v.2.2.2.2.2.2.2.2.2.2.2.2.2.2.1) v.2.2.2.2.2.2.2.2.2.2.2.2.2.2.2.1 (af.mk v.2.2.2.2.2.2.2.2.2.2.2.2.2.2.2.2.1 v.2.2.2.2.2.2.2.2.2.2.2.2.2.2.2.2.2.1) (af.mk v.2.2.2.2.2.2.2.2.2.2.2.2.2.2.2.2.2.2.1 v.2.2.2.2.2.2.2.2.2.2.2.2.2.2.2.2.2.2.2.1) (af.mk v.2.2.2.2.2.2.2.2.2.2.2.2.2.2.2.2.2.2.2.2.1 v.2.2.2.2.2.2.2.2.2.2.2.2.2.2.2.2.2.2.2.2.2.1) v.2.2.2.2.2.2.2.2.2.2.2.2.2.2.2.2.2.2.2.2.2.2.1 v.2.2.2.2.2.2.2.2.2.2.2.2.2.2.2.2.2.2.2.2.2.2.2.1))
 | .Src,v=>(dp.mk v.1 v.2.1)
 | .xD,v=>(aH.mk (ab.mk v.1 v.2.1 v.2.2.1 (ae.mk v.2.2.2.1 v.2.2.2.2.1 v.2.2.2.2.2.1) v.2.2.2.2.2.2.1 (af.mk v.2.2.2.2.2.2.2.1 v.2.2.2.2.2.2.2.2.1) (af.mk v.2.2.2.2.2.2.2.2.2.1 v.2.2.2.2.2.2.2.2.2.2.1) (af.mk v.2.2.2.2.2.2.2.2.2.2.2.1 v.2.2.2.2.2.2.2.2.2.2.2.2.1) (af.mk v.2.2.2.2.2.2.2.2.2.2.2.2.2.1 v.2.2.2.2.2.2.2.2.2.2.2.2.2.2.1) v.2.2.2.2.2.2.2.2.2.2.2.2.2.2.2.1 v.2.2.2.2.2.2.2.2.2.2.2.2.2.2.2.2.1 v.2.2.2.2.2.2.2.2.2.2.2.2.2.2.2.2.2.1 v.2.2.2.2.2.2.2.2.2.2.2.2.2.2.2.2.2.2.1))
 | .sD,v=>(aR.mk v.1 (ae.mk v.2.1 v.2.2.1 v.2.2.2.1))
 | .Config,v=>(aW.mk v.1)
 | .wD,v=>(bH.mk (ai.mk v.1 v.2.1 v.2.2.1 (ae.mk v.2.2.2.1 v.2.2.2.2.1 v.2.2.2.2.2.1) v.2.2.2.2.2.2.1 (af.mk v.2.2.2.2.2.2.2.1 v.2.2.2.2.2.2.2.2.1) (af.mk v.2.2.2.2.2.2.2.2.2.1 v.2.2.2.2.2.2.2.2.2.2.1) (af.mk v.2.2.2.2.2.2.2.2.2.2.2.1 v.2.2.2.2.2.2.2.2.2.2.2.2.1) v.2.2.2.2.2.2.2.2.2.2.2.2.2.1 v.2.2.2.2.2.2.2.2.2.2.2.2.2.2.1))
 | .Seen,v=>(gW.mk v.1 (aW.mk v.2.1) v.2.2.1)
 | .Claim,v=>(ij.mk v.1 v.2.1)
 | .Message,v=>(ct.mk v.1 v.2.1 (ae.mk v.2.2.1 v.2.2.2.1 v.2.2.2.2.1) v.2.2.2.2.2.1 v.2.2.2.2.2.2.1)
 | .mz,v=>(Hn.mk v.1 v.2.1 v.2.2.1 (af.mk v.2.2.2.1 v.2.2.2.2.1) (af.mk v.2.2.2.2.2.1 v.2.2.2.2.2.2.1) (af.mk v.2.2.2.2.2.2.2.1 v.2.2.2.2.2.2.2.2.1) (af.mk v.2.2.2.2.2.2.2.2.2.1 v.2.2.2.2.2.2.2.2.2.2.1))
 | .DU,v=>(eO.mk v.1 v.2.1)
 | .oV,v=>(rO.mk (af.mk v.1 v.2.1) (af.mk v.2.2.1 v.2.2.2.1))
 | .uh,v=>(yx.mk v.1 v.2.1)
mutual
def iN:ae->List PV
 |⟨a0,a1,a2⟩=>[.int .i64 a0,.sl (a1.map (fun x=>[.int .i64 x])),.sl (zi a2)]
def zi:List ae->List (List PV)
 |[]=>[]
 |x::l=>iN x::zi l
end
theorem Fu:∀(l:List ae),zi l=l.map iN
 |[]=>by rw[zi];rfl
 |x::l=>by rw[zi,Fu l];rfl
def AB(v:ar):List PV:=[.int .i64 v.an,.int .i64 v.aE,.int .i64 v.aj.aJ,.sl (v.aj.ba.map (fun x=>[.int .i64 x])),.sl (v.aj.aM.map iN),.sl (v.bf.map (fun x=>[.str x])),.sl (v.aD.map (fun x=>[.str x]))]
def SH(v:aw):List PV:=[.int .i64 v.an,.int .i64 v.aY,.int .i64 v.Round,.int .i64 v.aE,.int .i64 v.aj.aJ,.sl (v.aj.ba.map (fun x=>[.int .i64 x])),.sl (v.aj.aM.map iN),.str v.mz,.sl (v.bf.map (fun x=>[.str x])),.sl (v.aD.map (fun x=>[.str x])),.sl (v.aO.map (fun x=>[.str x])),.sl (v.aq.map AB)]
def Yg(v:af):List PV:=[.int .i64 v.ak,.str v.Value]
def zj(v:ai):List PV:=[.int .i64 v.an,.int .i64 v.aY,.int .i64 v.aE,.int .i64 v.aj.aJ,.sl (v.aj.ba.map (fun x=>[.int .i64 x])),.sl (v.aj.aM.map iN),.int .i64 v.bF,.int .i64 v.aa.ak,.str v.aa.Value,.int .i64 v.ao.ak,.str v.ao.Value,.int .i64 v.az.ak,.str v.az.Value,.int .i64 v.aS,.int .i64 v.bl]
def V9(v:ab):List PV:=[.int .i64 v.an,.int .i64 v.aY,.int .i64 v.aE,.int .i64 v.aj.aJ,.sl (v.aj.ba.map (fun x=>[.int .i64 x])),.sl (v.aj.aM.map iN),.int .i64 v.aK,.int .i64 v.aa.ak,.str v.aa.Value,.int .i64 v.ao.ak,.str v.ao.Value,.int .i64 v.az.ak,.str v.az.Value,.int .i64 v.ax.ak,.str v.ax.Value,.int .i64 v.aS,.int .i64 v.bl,.str v.bb,.sl (v.aq.map zj)]
def ZL(v:dj):List PV:=[.int .i64 v.ak,.int .i64 v.EF]
def abC(v:bs):List PV:=[.int .i64 v.ay.an,.int .i64 v.ay.aY,.int .i64 v.ay.Round,.int .i64 v.ay.aE,.int .i64 v.ay.aj.aJ,.sl (v.ay.aj.ba.map (fun x=>[.int .i64 x])),.sl (v.ay.aj.aM.map iN),.str v.ay.mz,.sl (v.ay.bf.map (fun x=>[.str x])),.sl (v.ay.aD.map (fun x=>[.str x])),.sl (v.ay.aO.map (fun x=>[.str x])),.sl (v.ay.aq.map AB),.int .i64 v.al.an,.int .i64 v.al.aY,.int .i64 v.al.aE,.int .i64 v.al.aj.aJ,.sl (v.al.aj.ba.map (fun x=>[.int .i64 x])),.sl (v.al.aj.aM.map iN),.int .i64 v.al.aK,.int .i64 v.al.aa.ak,.str v.al.aa.Value,.int .i64 v.al.ao.ak,.str v.al.ao.Value,.int .i64 v.al.az.ak,.str v.al.az.Value,.int .i64 v.al.ax.ak,.str v.al.ax.Value,.int .i64 v.al.aS,.int .i64 v.al.bl,.str v.al.bb,.sl (v.al.aq.map zj),.int .i64 v.Timer.ak,.int .i64 v.Timer.EF,.int .i64 v.Round,.int .i64 v.Next,.bool v.uy,.str v.Value]
def Yc(v:im):List PV:=[.int .i64 v.bF,.int .i64 v.aY,.int .i64 v.cd.an,.int .i64 v.cd.aE,.int .i64 v.cd.aj.aJ,.sl (v.cd.aj.ba.map (fun x=>[.int .i64 x])),.sl (v.cd.aj.aM.map iN),.sl (v.cd.bf.map (fun x=>[.str x])),.sl (v.cd.aD.map (fun x=>[.str x])),.int .i64 v.aI.an,.int .i64 v.aI.aY,.int .i64 v.aI.aE,.int .i64 v.aI.aj.aJ,.sl (v.aI.aj.ba.map (fun x=>[.int .i64 x])),.sl (v.aI.aj.aM.map iN),.int .i64 v.aI.bF,.int .i64 v.aI.aa.ak,.str v.aI.aa.Value,.int .i64 v.aI.ao.ak,.str v.aI.ao.Value,.int .i64 v.aI.az.ak,.str v.aI.az.Value,.int .i64 v.aI.aS,.int .i64 v.aI.bl]
def adW(v:dp):List PV:=[.sl (v.L.map (fun x=>[.int .i64 x])),.int .i64 v.At]
def Ye(v:aH):List PV:=[.int .i64 v.al.an,.int .i64 v.al.aY,.int .i64 v.al.aE,.int .i64 v.al.aj.aJ,.sl (v.al.aj.ba.map (fun x=>[.int .i64 x])),.sl (v.al.aj.aM.map iN),.int .i64 v.al.aK,.int .i64 v.al.aa.ak,.str v.al.aa.Value,.int .i64 v.al.ao.ak,.str v.al.ao.Value,.int .i64 v.al.az.ak,.str v.al.az.Value,.int .i64 v.al.ax.ak,.str v.al.ax.Value,.int .i64 v.al.aS,.int .i64 v.al.bl,.str v.al.bb,.sl (v.al.aq.map zj)]
def Gx(v:aR):List PV:=[.bool v.dU,.int .i64 v.aj.aJ,.sl (v.aj.ba.map (fun x=>[.int .i64 x])),.sl (v.aj.aM.map iN)]
def Yf(v:aW):List PV:=[.sl (v.bo.map Gx)]
def RB(v:bH):List PV:=[.int .i64 v.aI.an,.int .i64 v.aI.aY,.int .i64 v.aI.aE,.int .i64 v.aI.aj.aJ,.sl (v.aI.aj.ba.map (fun x=>[.int .i64 x])),.sl (v.aI.aj.aM.map iN),.int .i64 v.aI.bF,.int .i64 v.aI.aa.ak,.str v.aI.aa.Value,.int .i64 v.aI.ao.ak,.str v.aI.ao.Value,.int .i64 v.aI.az.ak,.str v.aI.az.Value,.int .i64 v.aI.aS,.int .i64 v.aI.bl]
def abD(v:gW):List PV:=[.int .i64 v.an,.sl (v.View.bo.map Gx),.sl (v.aq.map RB)]
def Iy(v:ij):List PV:=[.int .i64 v.tt,.int .i64 v.Value]
def V8(v:ct):List PV:=[.int .i64 v.an,.int .i64 v.aE,.int .i64 v.aj.aJ,.sl (v.aj.ba.map (fun x=>[.int .i64 x])),.sl (v.aj.aM.map iN),.sl (v.bf.map Iy),.sl (v.aD.map Iy)]
def adX(v:Hn):List PV:=[.int .i64 v.aT,.int .i64 v.low,.int .i64 v.bU,.int .i64 v.aQ.ak,.str v.aQ.Value,.int .i64 v.eV.ak,.str v.eV.Value,.int .i64 v.bV.ak,.str v.bV.Value,.int .i64 v.dZ.ak,.str v.dZ.Value]
def abE(v:eO):List PV:=[.int .i64 v.Sw,.int .i64 v.Sx]
def Pm(v:rO):List PV:=[.int .i64 v.c0.ak,.str v.c0.Value,.int .i64 v.c1.ak,.str v.c1.Value]
def Wa(v:yx):List PV:=[.int .i64 v.c0,.int .i64 v.c1]
def nS.pv:(n:nS)->n.den->List PV
 | .aj,v=>iN v
 | .cd,v=>AB v
 | .ay,v=>SH v
 | .aa,v=>Yg v
 | .aI,v=>zj v
 | .al,v=>V9 v
 | .Timer,v=>ZL v
 | .aY,v=>abC v
 | .q8,v=>Yc v
 | .Src,v=>adW v
 | .xD,v=>Ye v
 | .sD,v=>Gx v
 | .Config,v=>Yf v
 | .wD,v=>RB v
 | .Seen,v=>abD v
 | .Claim,v=>Iy v
 | .Message,v=>V8 v
 | .mz,v=>adX v
 | .DU,v=>abE v
 | .oV,v=>Pm v
 | .uh,v=>Wa v
def Ty.isAgg:Ty->Bool
 | .st _=>true
 |_=>false
def acP(t:Ty)(cs:List PV):PV:=match t.isAgg with|true=> .agg cs|false=>cs.headD .any
def Ty.pv:(t:Ty)->t.den->List PV
 | .i k,n=>[.int k n]
 | .bool,b=>[.bool b]
 | .str,s=>[.str s]
 | .sl t,(xs:List t.den)=>[.sl (xs.map (Ty.pv t))]
 | .mp a b,(xs:List (a.den×b.den))=>[.jc (xs.map fun p=>acP a (Ty.pv a p.1)) (xs.map fun p=>acP b (Ty.pv b p.2))]
 | .st n,v=>n.pv v
def zq:(ls:List Ty)->DT ls->List PV
 |[],_=>[]
 |t::l,v=>t.pv v.1++zq l v.2
theorem nS.Np:∀(n:nS) (v:n.den),n.pv v=zq n.leaves (n.toL v)
 | .aj,v=>by cases v;simp only[nS.pv,iN,Fu];rfl
 | .cd,v=>rfl
 | .ay,v=>rfl
 | .aa,v=>rfl
 | .aI,v=>rfl
 | .al,v=>rfl
 | .Timer,v=>rfl
 | .aY,v=>rfl
 | .q8,v=>rfl
 | .Src,v=>rfl
 | .xD,v=>rfl
 | .sD,v=>rfl
 | .Config,v=>rfl
 | .wD,v=>rfl
 | .Seen,v=>rfl
 | .Claim,v=>rfl
 | .Message,v=>rfl
 | .mz,v=>rfl
 | .DU,v=>rfl
 | .oV,v=>rfl
 | .uh,v=>rfl
def Ty.leaf:Ty->Bool
 | .st _=>false
 |_=>true
theorem nS.J6:∀(n:nS),n.leaves.all Ty.leaf=true
 | .aj=>rfl
 | .cd=>rfl
 | .ay=>rfl
 | .aa=>rfl
 | .aI=>rfl
 | .al=>rfl
 | .Timer=>rfl
 | .aY=>rfl
 | .q8=>rfl
 | .Src=>rfl
 | .xD=>rfl
 | .sD=>rfl
 | .Config=>rfl
 | .wD=>rfl
 | .Seen=>rfl
 | .Claim=>rfl
 | .Message=>rfl
 | .mz=>rfl
 | .DU=>rfl
 | .oV=>rfl
 | .uh=>rfl
theorem nS.ahe:∀(n:nS) (v:DT n.leaves),n.toL (n.ofL v)=v
 | .aj,v=>rfl
 | .cd,v=>rfl
 | .ay,v=>rfl
 | .aa,v=>rfl
 | .aI,v=>rfl
 | .al,v=>rfl
 | .Timer,v=>rfl
 | .aY,v=>rfl
 | .q8,v=>rfl
 | .Src,v=>rfl
 | .xD,v=>rfl
 | .sD,v=>rfl
 | .Config,v=>rfl
 | .wD,v=>rfl
 | .Seen,v=>rfl
 | .Claim,v=>rfl
 | .Message,v=>rfl
 | .mz,v=>rfl
 | .DU,v=>rfl
 | .oV,v=>rfl
 | .uh,v=>rfl
def Ty.Yr:Ty->Bool
 | .sl _=>false
 | .mp _ _=>false
 |_=>true
@[reducible] def U:TU where
 Ty:=Ty
 Xs:=Ty.Xs
 den:=Ty.den
 pv:=Ty.pv
 size:=fun t=>match t with| .st n=>n.leaves.length|_=>1
 agg:=Ty.isAgg
 plain:=fun t=>match t with| .st n=>n.leaves.all Ty.Yr|t=>t.Yr
def GN:(t:Ty)->t.den->KV U
 | .i k,n=> .int k n
 | .bool,b=> .bool b
 | .str,s=> .str s
 | .sl t,(xs:List t.den)=> .sl t xs
 | .mp a b,(xs:List (a.den×b.den))=> .jc a b xs
 | .st _,_=> .any
def J5:(ls:List Ty)->DT ls->List (KV U)
 |[],_=>[]
 |t::l,v=>GN t v.1::J5 l v.2
def agD:(t:Ty)->t.den->List (KV U)
 | .st n,v=>J5 n.leaves (n.toL v)
 | .i k,v=>[GN (.i k) v]
 | .bool,v=>[GN .bool v]
 | .str,v=>[GN .str v]
 | .sl t,v=>[GN (.sl t) v]
 | .mp a b,v=>[GN (.mp a b) v]
def AT(lk:Lk U):(t:Ty)->KV U->Option t.den
 | .i k,x=>acf k x
 | .bool,x=>Jl x
 | .str,x=>acd x
 | .sl t,x=>Vh (U:=U) lk t x
 | .mp a b,x=>ace (U:=U) a b x
 | .st _,_=>none
def BU(lk:Lk U):(ls:List Ty)->List (KV U)->Option (DT ls)
 |[],cs=>match cs with|[]=>some ()|_=>none
 |t::l,cs=>match cs with
  |c::cs=>(match AT lk t c with
   |some v=>(match BU lk l cs with|some vs=>some (v,vs)|none=>none)
   |none=>none)
  |[]=>none
def MF{α:Type}(f:KV U->Option α):List (KV U)->Option α
 |[x]=>f x
 |_=>none
def aiQ:(t:Ty)->Lk U->List (KV U)->Option t.den
 | .st n,lk,cs=>(match BU lk n.leaves cs with|some v=>some (n.ofL v)|none=>none)
 | .i k,lk,cs=>MF (AT lk (.i k)) cs
 | .bool,lk,cs=>MF (AT lk .bool) cs
 | .str,lk,cs=>MF (AT lk .str) cs
 | .sl t,lk,cs=>MF (AT lk (.sl t)) cs
 | .mp a b,lk,cs=>MF (AT lk (.mp a b)) cs
theorem ab0:∀(t:Ty) (v:t.den),t.leaf=true->[(GN t v).pv]=t.pv v
 | .i k,v,_=>rfl
 | .bool,v,_=>rfl
 | .str,v,_=>rfl
 | .sl t,v,_=>rfl
 | .mp a b,v,_=>rfl
 | .st _,_,h=>by cases h
theorem NP:∀(ls:List Ty) (v:DT ls),ls.all Ty.leaf=true->(J5 ls v).map KV.pv=zq ls v
 |[],_,_=>rfl
 |t::l,v,h=>by
  rw[Qq70,Qm]at h;rw[J5,zq,QD,NP l v.2 h.2,<-ab0 t v.1 h.1];rfl
theorem wx{lk:Lk U}:∀{t:Ty} {x:KV U} {v:t.den},AT lk t x=some v->iM lk [x] (t.pv v)
 | .i k,x,v,h=> .cons (aeZ h) .nil
 | .bool,x,v,h=> .cons (ae1 h) .nil
 | .str,x,v,h=> .cons (aeW h) .nil
 | .sl t,x,v,h=> .cons (aeY (U:=U) h) .nil
 | .mp a b,x,v,h=> .cons (aeX (U:=U) h) .nil
 | .st _,_,_,h=>by cases h
theorem iM.c6{lk:Lk U}{x:KV U}{ys:List PV}{xs:List (KV U)}{zs:List PV}(h:iM lk [x] ys)(k:iM lk xs zs):iM lk (x::xs) (ys++zs):=by
 cases h with
 |cons h1 h2=>cases h2 with|nil=>exact .cons h1 k
theorem Jk{lk:Lk U}:∀{ls:List Ty} {cs:List (KV U)} {v:DT ls},BU lk ls cs=some v->iM lk cs (zq ls v)
 |[],[],_,_=> .nil
 |[],_::_,_,h=>by cases h
 |_::_,[],_,h=>by cases h
 |t::l,c::cs,v,h=>by
  rw[BU]at h;split at h
  ·rename_i v1 h1;split at h
   ·rename_i vs h2;injection h with h
    subst h;exact(wx h1).c6 (Jk h2)
   ·cases h
  ·cases h
theorem FU{α:Type}{f:KV U->Option α}{cs:List (KV U)}{v:α}(h:MF f cs=some v):∃x,cs=[x]/\f x=some v:=by
 unfold MF at h;split at h
 ·exact⟨_,rfl,h⟩
 ·cases h
theorem ZK:∀(ls:List Ty) (v:DT ls),ls.all Ty.leaf=true->(zq ls v).length=ls.length
 |[],_,_=>rfl
 |t::l,v,h=>by
  rw[Qq70,Qm]at h
  have:(t.pv v.1).length=1:=by
   cases t with
   |st n=>cases h.1
   |_=>rfl
  rw[zq,QB,ZK l v.2 h.2,this,QE,Nat.add_comm]
theorem qO:∀(t:Ty) (v:t.den),t.leaf=true->∀y∈t.pv v,y.hU=true/\(t.Yr=true->y.plain=true)
 | .i k,v,_,y,h=>by simp only[Ty.pv,Q5]at h;subst h;exact⟨rfl,fun _=>rfl⟩
 | .bool,v,_,y,h=>by simp only[Ty.pv,Q5]at h;subst h;exact⟨rfl,fun _=>rfl⟩
 | .str,v,_,y,h=>by simp only[Ty.pv,Q5]at h;subst h;exact⟨rfl,fun _=>rfl⟩
 | .sl t,v,_,y,h=>by simp only[Ty.pv,Q5]at h;subst h;exact⟨rfl,fun h=>by cases h⟩
 | .mp a b,v,_,y,h=>by simp only[Ty.pv,Q5]at h;subst h;exact⟨rfl,fun h=>by cases h⟩
 | .st _,_,h,_,_=>by cases h
theorem EP:∀(ls:List Ty) (v:DT ls),ls.all Ty.leaf=true->∀y∈zq ls v,y.hU=true/\(ls.all Ty.Yr=true->y.plain=true)
 |[],_,_,y,h=>by cases h
 |t::l,v,h,y,hy=>by
  rw[Qq70,Qm]at h;rw[zq,Qz]at hy;rcases hy with hy|hy
  ·obtain⟨h1,h2⟩:=qO t v.1 h.1 y hy;exact⟨h1,fun hp=>by rw[Qq70,Qm]at hp;exact h2 hp.1⟩
  ·obtain⟨h1,h2⟩:=EP l v.2 h.2 y hy;exact⟨h1,fun hp=>by rw[Qq70,Qm]at hp;exact h2 hp.2⟩
def Pt:nS->Option (IntKind×IntKind)
 | .Timer=>some (.i64,.i64)
 | .Claim=>some (.i64,.i64)
 | .DU=>some (.i64,.i64)
 | .uh=>some (.i64,.i64)
 |_=>none
theorem J7:∀(n:nS) (k l:IntKind),Pt n=some (k,l)->∀v,∃a b,agD (.st n) v=[.int k a,.int l b]
 | .Timer,_,_,h=>by injection h with h;injection h with h1 h2;subst h1 h2;exact fun v=>⟨_,_,rfl⟩
 | .Claim,_,_,h=>by injection h with h;injection h with h1 h2;subst h1 h2;exact fun v=>⟨_,_,rfl⟩
 | .DU,_,_,h=>by injection h with h;injection h with h1 h2;subst h1 h2;exact fun v=>⟨_,_,rfl⟩
 | .uh,_,_,h=>by injection h with h;injection h with h1 h2;subst h1 h2;exact fun v=>⟨_,_,rfl⟩
 | .aj,_,_,h=>by cases h
 | .cd,_,_,h=>by cases h
 | .ay,_,_,h=>by cases h
 | .aa,_,_,h=>by cases h
 | .aI,_,_,h=>by cases h
 | .al,_,_,h=>by cases h
 | .aY,_,_,h=>by cases h
 | .q8,_,_,h=>by cases h
 | .Src,_,_,h=>by cases h
 | .xD,_,_,h=>by cases h
 | .sD,_,_,h=>by cases h
 | .Config,_,_,h=>by cases h
 | .wD,_,_,h=>by cases h
 | .Seen,_,_,h=>by cases h
 | .Message,_,_,h=>by cases h
 | .mz,_,_,h=>by cases h
 | .oV,_,_,h=>by cases h
def ahd:List (Nat×Ty):=[(3,(Ty.i .i64)),(4,Ty.bool),(9,Ty.str),(27,(Ty.st .aj)),(33,(Ty.st .aa)),(57,(Ty.st .cd)),(64,(Ty.st .aI)),(66,(Ty.st .q8)),(175,(Ty.st .wD)),(191,(Ty.st .Message)),(214,(Ty.st .sD)),(258,(Ty.st .Claim))]
def Zs(n:Nat):List (Nat×Ty)->Option Ty
 |[]=>none
 |(k,t)::l=>(match Nat.beq k n with|true=>some t|false=>Zs n l)
@[reducible] def K:TK U where
 eu:=agD
 dec:=aiQ
 TA:=fun n=>Zs n ahd
 sz:=fun t v=>by
  cases t with
  |st n=>exact(NP _ _ n.J6).trans (n.Np v).symm
  |_=>rfl
 nr:=fun t lk cs v h=>by
  cases t with
  |st n=>
   change (match BU lk n.leaves cs with|some v=>some (n.ofL v)|none=>none)=some v at h
   split at h
   ·rename_i u hu;injection h with h
    subst h;have:=Jk hu
    change iM lk cs (n.pv (n.ofL u))
    rw[n.Np,n.ahe];exact this
   ·cases h
  |i k=>obtain⟨x,rfl,hx⟩:=FU h;exact wx hx
  |bool=>obtain⟨x,rfl,hx⟩:=FU h;exact wx hx
  |str=>obtain⟨x,rfl,hx⟩:=FU h;exact wx hx
  |sl t=>obtain⟨x,rfl,hx⟩:=FU h;exact wx hx
  |mp a b=>obtain⟨x,rfl,hx⟩:=FU h;exact wx hx
 len:=fun t v=>by
  cases t with
  |st n=>exact(congrArg List.length (n.Np v)).trans (ZK _ _ n.J6)
  |_=>rfl
 hU:=fun t v y hy=>by
  cases t with
  |st n=>exact(EP _ (n.toL v) n.J6 y (Eq.mp (congrArg (y∈·) (n.Np v)) hy)).1
  |i k=>exact(qO (.i k) v rfl y hy).1
  |bool=>exact(qO .bool v rfl y hy).1
  |str=>exact(qO .str v rfl y hy).1
  |sl t=>exact(qO (.sl t) v rfl y hy).1
  |mp a b=>exact(qO (.mp a b) v rfl y hy).1
 one:=fun t h=>by
  cases t with
  |st n=>cases h
  |_=>rfl
 plain:=fun t h v y hy=>by
  cases t with
  |st n=>exact(EP _ (n.toL v) n.J6 y (Eq.mp (congrArg (y∈·) (n.Np v)) hy)).2 h
  |i k=>exact(qO (.i k) v rfl y hy).2 rfl
  |bool=>exact(qO .bool v rfl y hy).2 rfl
  |str=>exact(qO .str v rfl y hy).2 rfl
  |sl t=>cases h
  |mp a b=>cases h
 Pt:=fun t=>match t with| .st n=>Pt n|_=>none
 J7:=fun t k l h=>by
  cases t with
  |st n=>exact⟨rfl,J7 n k l h⟩
  |_=>cases h
end
section
open Go.RowKit
theorem xG{P:Program}(w:World)(dT sT ty elem:TypeId)(g o dLen dCap:Nat)(a:Addr)(sLen sCap:Nat)(cur:Array Value)(t:TypeId)(cs:List Value)(size n:Nat)
  (hu:P.underlying dT=some (.slice elem)) (hs:(P.info? elem).map (·.size)=some size)
  (hg:w.heap[g]?=some (.cells cur t (0,0))) (hn:n=Nat.min sLen dLen) (hcl:cs.length=n*size)
  (hsrc:∀(j:Nat) (v:Value),cs[j]?=some v->w.cell? (a.add j)=some v) (hfit:o+cs.length<=cur.size) (h1:∀v∈cs,v.oneCell'=true):
  (Builtin.copy_ #[dT,sT] ty #[.slice (some ⟨g,o,none⟩) dLen dCap,.slice (some a) sLen sCap]).run P w=
   .ok (goInt n) (w.setRow g (cur.toList.take o++cs++cur.toList.drop (o+cs.length)).toArray):=by
 have hl:=run_loadCells_list (P:=P) w a cs hsrc;have hst:=run_storeCells_at P g o t cs 0 cur w hg (by simpa using hfit) h1
 rw[hcl]at hl
 cases hq:P.info? elem with
 |none=>simp[hq]at hs
 |some i=>
  have hi:i.size=size:=by simpa[hq]using hs
  simp[Builtin.copy_,run_underlying hu,Builtin.lenOf,Builtin.firstCells,sizeOf,typeInfo,hq,hi,<-hn,hl,hst]
theorem Wv{w:World}{a:Addr}{v:Value}(h:w.cell? a=some v):∃t n,w.shape? a.block=some (t,n+1):=by
 unfold World.cell? at h;unfold World.shape?;split at h
 ·rename_i c t fr hc;split at h
  ·cases h
  ·have hlt:=(Q9.1 h).1;exact⟨t,c.size - 1,by simp only[Qf,Prod.mk.injEq,true_and];omega⟩
 ·cases h
theorem LJ{P:Program}(w:World)(tS tR e:TypeId)(ht:P.underlying tS=some (.slice e))(size:Nat)(hz:∀w,(Go.sizeOf e).run P w= .ok size w)
  (a b:Addr) (la ca lb cb:Nat) (hne:a.block≠b.block) {v:Value} (ha:w.cell? a=some v) {cur:Array Value} {t:TypeId} (hb:w.heap[b.block]?=some (.cells cur t (0,0))) (h0:cur.size≠0):
  (Extern.SlicesOverlaps.overlaps #[tS,tS] #[tR] #[.slice (some a) la ca,.slice (some b) lb cb]).run P w= .ok (.bool false) w:=by
 obtain⟨tA,kA,hsa⟩:=Wv ha;have hsb:w.shape? b.block=some (t,cur.size):=by simp[World.shape?,hb]
 have hfb:w.frozen? b=false:=by simp[World.frozen?,hb]
 have hfe:w.frozen? {block:=b.block,off:=cur.size}=false:=by simp[World.frozen?,hb]
 have hnb:(a.block !=b.block)=true:=by simpa using hne
 have hnb':(a.block==b.block)=false:=by simpa using hne
 obtain⟨kB,hkB⟩:∃kB,cur.size=kB+1:=⟨cur.size - 1,by omega⟩
 rw[hkB]at hsb hfe
 change Sem.run P (α:=Value) (do
  let some t:=(#[tS,tS]:Array TypeId)[0]?|stuck "slices.overlaps: no parameter types"
  let .slice elem <-underlying t|stuck "slices.overlaps: slice type expected"
  let size <-sizeOf elem
  match(some a:Option Addr),(some b:Option Addr)with
  |some a,some b=>
   if la=0\/lb=0\/size=0 then pure (Value.bool false)
   else if a.block !=b.block&&(<-frozen a)&&(<-frozen b)then unsupported .addressObserved
   else do
    if a.block !=b.block then do
     noView a;noView b
     if<-mayBeOne a b then return Value.bool ((<-choose (.extern "sameAddr.stringBytes" 2))==1)
    pure (Value.bool (a.block==b.block&&a.off<b.off+lb*size&&b.off<a.off+la*size))
  |_,_=>pure (Value.bool false)) w=_
 by_cases h0:la=0\/lb=0\/size=0
 ·simp[run_underlying ht,hz,h0]
 ·cases hfa:w.frozen? a<;>cases hfk:w.frozen? {block:=a.block,off:=kA+1}<;>
   simp[run_underlying ht,hz,h0,hnb,hnb',frozen,noView,viewAt,mayBeOne,stringish,shape,Sem.run,hsa,hsb,hfa,hfk,hfb,hfe]
theorem aaY(a:Addr):a.add 0=a:=by
 cases a with
 |mk b o s=>unfold Addr.add;split<;>simp_all
theorem Hm(a:Addr)(n:Nat):(a.add n).block=a.block:=by unfold Addr.add;split<;>rfl
def so{α:Type}(l:List α)(o:Nat)(c:List α):List α:=l.take o++c++l.drop (o+c.length)
theorem Gy{α:Type}{l:List α}{o:Nat}{c:List α}(h:o+c.length<=l.length):(so l o c).length=l.length:=by simp[so];omega
theorem Yi{α:Type}{l us ys:List α}{a:Nat}(h:a+us.length+ys.length<=l.length):so (so l a us) (a+us.length) ys=l.take a++us++ys++l.drop (a+us.length+ys.length):=by
 have h1:(l.take a++us).length=a+us.length:=by simp;omega
 have h2:(so l a us).take (a+us.length)=l.take a++us:=by
  rw[so,List.take_append_of_le_length (by omega),List.take_of_length_le (by omega)]
 have h3:(so l a us).drop (a+us.length+ys.length)=l.drop (a+us.length+ys.length):=by
  rw[so,<-List.drop_drop,<-h1,List.drop_left,List.drop_drop,h1]
 rw[so,h2,h3]
theorem Wb{α:Type}{l us ys:List α}{a:Nat}(h:a+us.length+ys.length<=l.length):so (so l (a+us.length) ys) a us=l.take a++us++ys++l.drop (a+us.length+ys.length):=by
 have h1:(l.take (a+us.length)).length=a+us.length:=by simp;omega
 have h2:(so l (a+us.length) ys).take a=l.take a:=by
  rw[so,QL,List.take_append_of_le_length (by omega),List.take_take,Nat.min_eq_left (by omega)]
 have h3:(so l (a+us.length) ys).drop (a+us.length)=ys++l.drop (a+us.length+ys.length):=by
  conv=>lhs;rw[so,QL]
  exact List.drop_left' h1
 rw[so,h2,h3,QL,QL,QL]
theorem xg(w:World)(g:Nat)(cs:Array Value){b:Nat}(h:b≠g):(w.setRow g cs).heap[b]?=w.heap[b]?:=by
 simp only[World.setRow,Array.getElem?_modify];rw[Qs (fun e=>h e.symm)]
theorem Rt(w:World)(g:Nat)(cs:Array Value):Fr (some g) w (w.setRow g cs):=⟨rfl,rfl,rfl,by simp[World.setRow],fun b _ hb=>xg w g cs (fun e=>hb (by rw[e])),QI _⟩
theorem Fr.ahS(w:World)(rb:Option Nat):Fr rb w w.drew:=⟨rfl,rfl,rfl,QI _,fun _ _ _=>rfl,Nat.le_succ _⟩
theorem Fr.trans'{rb:Option Nat}{a b c:World}(h:Fr rb a b)(k:Fr rb b c):Fr rb a c:=⟨k.os.trans h.os,k.tape.trans h.tape,k.output.trans h.output,QK h.size k.size,fun i hi hne=>(k.block i (QJ hi h.size) hne).trans (h.block i hi hne),QK h.drawn k.drawn⟩
theorem LD{w w':World}{v u:Value}{X:Nat->Prop}(hf:Fr (cp v) w w')(hu:∀b,cp u=some b->cp v=some b\/w.heap.size<=b):dW w w' (Mv v X) (Mv u X):=by
 have key:∀b,b<w.heap.size->¬Mv v X b->w'.heap[b]?=w.heap[b]?/\¬Mv u X b:=fun b hlt hM=>⟨hf.block b hlt fun h=>hM (.inl h),by
  rintro(h|h)
  ·rcases hu _ h with h|h
   ·exact hM (.inl h)
   ·omega
  ·exact hM (.inr h)⟩
 refine⟨fun a x hc hM=> ?_,fun b es ck hb hM=> ?_⟩
 ·have hlt:a.block<w.heap.size:=by
   by_cases h:a.block<w.heap.size
   ·exact h
   ·have:w.heap[a.block]?=none:=by rw[Array.getElem?_eq_none_iff];omega
    simp[World.cell?,this]at hc
  obtain⟨h1,h2⟩:=key _ hlt hM;exact⟨(World.cell?_of_block h1).trans hc,h2⟩
 ·obtain⟨h1,h2⟩:=key b (Q9.1 hb).1 hM;exact⟨h1.trans hb,h2⟩
theorem TO{w:World}{M:Nat->Prop}{es:List (List PV)}{xs:List Value}(h:bj w M dw es.flatten xs)(h1:∀u∈es,u.all PV.one=true):∀x∈xs,x.oneCell'=true:=by
 intro x hx;obtain⟨q,hq,rfl⟩:=List.mem_iff_getElem.1 hx;have hl:q<es.flatten.length:=by rw[<-h.1];exact hq
 obtain⟨el,hel,hmem⟩:=List.mem_flatten.1 (Q0 hl);exact((h.2 q _ _ (Qv hl) (Qv hq)).one (QH.1 (h1 el hel) _ hmem)).1
structure VQ (P:Program) (f S E I B ov k bytes:Nat):Prop where
 Yv:0<k
 hS:P.underlying S=some (.slice E)
 hI:P.underlying I=some (.int .i64)
 Yy:∃(i:TypeInfo) (z:Value),P.info? E=some i/\i.zero=some z/\z.cells.size=k/\i.size=k/\i.bytes=bytes
 B8:∀(x:Array Value) (w:World),(Extern.SlicesOverlaps.overlaps #[S,S] #[B] x).run P w= .ok (.bool false) w->(callFunc ov x).run P w= .ok (.value (.bool false)) w
 oW:∀(g n c i:Nat),i<=n->n<=c->c<=9223372036854775807->∀(u:Option Addr) (vc:Nat) (w:World),
  Calls P f #[.slice (some ⟨g,0,none⟩) n c,.int .i64 i,.slice u 0 vc] w fun e w'=>e= .returned (.slice (some ⟨g,0,none⟩) n c)/\w'=w
 rF:∀(u:Option Addr) (vc:Nat) (w:World),Calls P f #[.slice none 0 0,.int .i64 0,.slice u 0 vc] w fun e w'=>e= .returned (.slice none 0 0)/\w'=w
 xy:∀(g n c:Nat),n<=c->c<=9223372036854775807->∀(ad:Addr) (m vc:Nat),0<m->∀(w w1:World) (v1:Value),
  (∀ty,(Builtin.append_ #[S,S] ty #[.slice (some ⟨g,0,none⟩) n c,.slice (some ad) m vc]).run P w= .ok v1 w1)->
  Calls P f #[.slice (some ⟨g,0,none⟩) n c,.int .i64 n,.slice (some ad) m vc] w fun e w'=>e= .returned v1/\w'=w1
 nf:∀(ad:Addr) (m vc:Nat),0<m->∀(w w1:World) (v1:Value),
  (∀ty,(Builtin.append_ #[S,S] ty #[.slice none 0 0,.slice (some ad) m vc]).run P w= .ok v1 w1)->
  Calls P f #[.slice none 0 0,.int .i64 0,.slice (some ad) m vc] w fun e w'=>e= .returned v1/\w'=w1
 shift:∀(g n c i:Nat),i<n->c<=9223372036854775807->∀(ad:Addr) (m vc:Nat),0<m->n+m<=c->∀(w w1 w2:World),
  (∀lb cb,(callFunc ov #[.slice (some ad) m vc,.slice (some ⟨g,(i+m)*k,none⟩) lb cb]).run P w= .ok (.value (.bool false)) w)->
  (∀ty dc sc,(Builtin.copy_ #[S,S] ty #[.slice (some ⟨g,(i+m)*k,none⟩) (n+m - (i+m)) dc,.slice (some ⟨g,i*k,none⟩) (n+m - i) sc]).run P w.drew= .ok (goInt (n - i:Nat)) w1)->
  (∀ty dc,(Builtin.copy_ #[S,S] ty #[.slice (some ⟨g,i*k,none⟩) (n+m - i) dc,.slice (some ad) m vc]).run P w1= .ok (goInt m) w2)->
  Calls P f #[.slice (some ⟨g,0,none⟩) n c,.int .i64 i,.slice (some ad) m vc] w fun e w'=>e= .returned (.slice (some ⟨g,0,none⟩) (n+m) c)/\w'=w2
 grow:∀(g n c i:Nat),i<n->n<=c->c<=9223372036854775807->∀(ad:Addr) (m vc:Nat),0<m->c<n+m->∀(N G:Nat),n+m<=G->G<=9223372036854775807->∀(w w1 w2 w3:World),
  (∀ty,(Builtin.append_ #[S,I] ty #[.slice (some ⟨g,0,none⟩) i c,.int .i64 ((n:Int)+(m:Int) - (i:Int))]).run P w= .ok (.slice (some ⟨N,0,none⟩) (n+m) G) w1)->
  (∀ty dc,(Builtin.copy_ #[S,S] ty #[.slice (some ⟨N,i*k,none⟩) (n+m - i) dc,.slice (some ad) m vc]).run P w1= .ok (goInt m) w2)->
  (∀ty dc sc,(Builtin.copy_ #[S,S] ty #[.slice (some ⟨N,(i+m)*k,none⟩) (n+m - (i+m)) dc,.slice (some ⟨g,i*k,none⟩) (n - i) sc]).run P w2.drew= .ok (goInt (n - i:Nat)) w3)->
  Calls P f #[.slice (some ⟨g,0,none⟩) n c,.int .i64 i,.slice (some ad) m vc] w fun e w'=>e= .returned (.slice (some ⟨N,0,none⟩) (n+m) G)/\w'=w3
theorem PS{P:Program}{E k bytes:Nat}(h:(P.info? E).map (fun i=>(i.zero.map (·.cells.size),i.size,i.bytes))=some (some k,k,bytes)):∃(i:TypeInfo) (z:Value),P.info? E=some i/\i.zero=some z/\z.cells.size=k/\i.size=k/\i.bytes=bytes:=by
 rw[Qb]at h;obtain⟨i,h1,h2⟩:=h;injection h2 with h2 h3
 injection h3 with h3 h4
 rw[Qb]at h2;obtain⟨z,h5,h6⟩:=h2;exact⟨i,z,h1,h5,h6,h3,h4⟩
theorem aez{P:Program}{f S E I B ov k bytes:Nat}(H:VQ P f S E I B ov k bytes){es vs:List (List PV)}{i:Nat}(hi:i<=es.length)(h1e:∀u∈es,u.all PV.one=true)(hvs:∀u∈vs,u.length=k/\u.all PV.one=true)
  (hmax:es.length+vs.length<=maxLen) (hby:(es.length+vs.length)*bytes<=140737488355328):MN P f E k es [.int .i64 i,.sl vs] (es.take i++vs++es.drop i):=by
 have hk0:=H.Yv;intro w X hX v args hvX ⟨xs,hown,hke,hr⟩ hargs;obtain⟨a1,args,rfl,ha1,hargs⟩:=hargs.cons_inv;obtain⟨a2,args,rfl,ha2,hargs⟩:=hargs.cons_inv;obtain rfl:=hargs.oZ;obtain rfl:=ha1.fU;obtain⟨inf,z,hi1,hi2,hi3,hi4,hi5⟩:=H.Yy;have hsz:(P.info? E).map (·.size)=some k:=by rw[hi1];simp[hi4]
 have hmem:∀u∈es.take i++vs++es.drop i,u.length=k:=by
  intro u hu;rw[Qz,Qz]at hu;rcases hu with(hu|hu)|hu
  ·exact hke u (Q1 hu)
  ·exact(hvs u hu).1
  ·exact hke u (Q2 hu)
 have same:vs=[]->es.take i++vs++es.drop i=es:=fun h=>by rw[h];simp
 by_cases hm0:vs=[]
 ·rw[same hm0]
  have hz:∃u vc,a2= .slice u 0 vc:=by
   subst hm0;rcases ha2.Fq with⟨h,_⟩|⟨ad,c,_,_,h,_⟩
   ·exact⟨_,_,h⟩
   ·exact⟨_,_,h⟩
  obtain⟨u,vc,rfl⟩:=hz
  have post:∀(e:Ending) (w':World),e= .returned v/\w'=w->∃u,e= .returned u/\zW w' (Mv u X) E k u es/\(∀b,cp u=some b->cp v=some b\/w.heap.size<=b)/\Fr (cp v) w w':=by
   rintro e w' ⟨rfl,rfl⟩;exact⟨v,rfl,⟨xs,hown,hke,hr⟩,fun b hb=> .inl hb,Fr.refl _ _⟩
  rcases hown.2 with⟨rfl,h0⟩|⟨g,cap,cur,rfl,_,hg,hnc,hcm,hcs,htk⟩
  ·obtain rfl:i=0:=by omega
   exact(H.rF u vc w).mono fun e w' h=>post e w' h
  ·exact(H.oW g es.length cap i hi hnc (by simp only[maxLen]at hcm;omega) u vc w).mono fun e w' h=>post e w' h
 ·
  have hm:0<vs.length:=List.length_pos_iff.2 hm0;rcases ha2.Fq with⟨_,h⟩|⟨ad,vc,k',us,rfl,hk',hru,hcu,_,_⟩
  ·exact absurd h hm0
  have hul:us.length=vs.length*k:=by rw[hru.1,rL vs k fun u hu=>(hvs u hu).1]
  have hone:=TO hru fun u hu=>(hvs u hu).2
  have hpos:0<us.length:=by rw[hul];exact Nat.mul_pos hm hk0
  obtain⟨c0,hc0⟩:∃c0,us[0]?=some c0:=⟨_,Qv hpos⟩;obtain⟨had,hadM⟩:=hcu 0 c0 hc0;have had:w.cell? ad=some c0:=by rw[aaY]at had;exact had
  have hcell:∀(j:Nat) (u:Value),us[j]?=some u->w.cell? (ad.add j)=some u:=fun j u hj=>(hcu j u hj).1
  have hadlt:ad.block<w.heap.size:=by
   by_cases h:ad.block<w.heap.size
   ·exact h
   ·have:w.heap[ad.block]?=none:=by rw[Array.getElem?_eq_none_iff];omega
    simp[World.cell?,this]at had
  have fin:∀(v1:Value) (w1:World),w1.ownsRow 0 E k v1 (es.length+vs.length) (xs++us)->w.grownBy w1 v.ownBlock->(v1.ownBlock=v.ownBlock\/v1.ownBlock=some w.heap.size)->(∃a n c,v= .slice a n c)->i=es.length->w.drawn<=w1.drawn->
    ∀(e:Ending) (w':World),e= .returned v1/\w'=w1->∃u,e= .returned u/\zW w' (Mv u X) E k u (es.take i++vs++es.drop i)/\(∀b,cp u=some b->cp v=some b\/w.heap.size<=b)/\Fr (cp v) w w':=by
   rintro v1 w1 ho hgr hat ⟨a0,n0,c0,hv0⟩ hie hdr e w' ⟨rfl,rfl⟩;have hb0:v.ownBlock=cp v:=nn hv0
   have hb1:v1.ownBlock=cp v1:=by
    rcases ho.2 with⟨h,_⟩|⟨_,_,_,h,_⟩
    ·exact nn h
    ·exact nn h
   have hfr:Fr (cp v) w w':=⟨hgr.os,hgr.tape,hgr.output,hgr.size,fun b hb hne=>hgr.block b hb (fun h=>hne (by rw[<-hb0,<-h])),hdr⟩
   have hub:∀b,cp v1=some b->cp v=some b\/w.heap.size<=b:=fun b hb=>by
    rw[<-hb1]at hb;rcases hat with h|h
    ·exact .inl (by rw[<-hb0,<-h];exact hb)
    ·rw[h]at hb;injection hb with hb;exact .inr (by omega)
   have he:es.take i++vs++es.drop i=es++vs:=by subst hie;simp
   rw[he]at hmem ⊢;refine⟨v1,rfl,⟨xs++us,by rw[QB];exact ho,hmem,?_⟩,hub,hfr⟩
   rw[List.flatten_append];exact(hr.append hru).mono (LD hfr hub) (dw.le _)
  rcases hown.2 with⟨rfl,h0⟩|⟨g,cap,cur,rfl,hb0,hg,hnc,hcm,hcs,htk⟩
  ·obtain rfl:i=0:=by omega
   obtain⟨v1,w1,r1,r2,r3,_,r5⟩:=run_append_own_at (P:=P) w 0 S 0 E inf z k bytes H.hS hi1 hi2 hi4 hi5 hi3 hk0 (.slice none 0 0) es.length xs hown ad vs.length vc us hul hcell hone hmax hby (QS _);exact(H.nf ad vs.length vc hm w w1 v1 fun ty=>r1).mono fun e w' h=>fin v1 w1 r2 r3 r5 ⟨_,_,_,rfl⟩ h0.symm (DJ (P:=P) w 0 S 0 E inf z k bytes H.hS hi1 hi2 hi4 hi5 hk0 (.slice none 0 0) es.length xs hown ad vs.length vc us hul hcell hone hmax hby r1) e w' h
  ·have hcm':cap<=9223372036854775807:=by simp only[maxLen]at hcm;omega
   by_cases hie:i=es.length
   ·obtain⟨v1,w1,r1,r2,r3,_,r5⟩:=run_append_own_at (P:=P) w 0 S 0 E inf z k bytes H.hS hi1 hi2 hi4 hi5 hi3 hk0 _ es.length xs hown ad vs.length vc us hul hcell hone hmax hby (QS _);have:=H.xy g es.length cap hnc hcm' ad vs.length vc hm w w1 v1 fun ty=>r1
    rw[<-hie]at this ⊢;exact this.mono fun e w' h=>fin v1 w1 r2 r3 r5 ⟨_,_,_,rfl⟩ hie (DJ (P:=P) w 0 S 0 E inf z k bytes H.hS hi1 hi2 hi4 hi5 hk0 _ es.length xs hown ad vs.length vc us hul hcell hone hmax hby r1) e w' h
   ·have hin:i<es.length:=by omega
    have hM:∀b,Mv (.slice (some ⟨g,0,none⟩) es.length cap) X b->True:=fun _ _=>trivial
    have hne:ad.block≠g:=fun h=>hadM (.inl (by rw[h];rfl))
    have hglt:g<w.heap.size:=(Q9.1 hg).1;have hxl:xs.length=es.length*k:=hown.1;have hcl:es.length*k<=cur.toList.length:=by simpa[hcs]using Qq63 k hnc
    have hx1:=TO hr h1e;obtain⟨ys,hys⟩:∃ys,ys=xs.drop (i*k):=⟨_,rfl⟩;have hyl:ys.length=(es.length - i)*k:=by rw[hys,List.length_drop,hxl,Nat.sub_mul]
    have hy1:∀y∈ys,y.oneCell'=true:=fun y hy=>hx1 y (Q2 (hys▸hy))
    have hcx:∀(j:Nat) (u:Value),xs[j]?=some u->w.cell? ⟨g,j,none⟩=some u:=fun j u hj=>by
     refine qW hg ?_;rw[<-htk,Qq68]at hj;split at hj
     ·exact hj
     ·cases hj
    have hcy:∀(j:Nat) (u:Value),ys[j]?=some u->w.cell? ((⟨g,i*k,none⟩:Addr).add j)=some u:=fun j u hj=>by
     rw[add_mid];rw[hys,List.getElem?_drop]at hj;exact hcx _ u hj
    have hik:i*k+us.length=(i+vs.length)*k:=by rw[hul,Qq73]
    have htot:i*k+us.length+ys.length=(es.length+vs.length)*k:=by
     rw[hul,hyl,<-Qq73,<-Qq73];congr 1;omega
    have hres:bj w (Mv (.slice (some ⟨g,0,none⟩) es.length cap) X) dw (es.take i++vs++es.drop i).flatten (xs.take (i*k)++us++ys):=by
     rw[List.flatten_append,List.flatten_append,vn k i es hke,zO k i es hke,hys];exact((hr.take _).append hru).append (hr.drop _)
    have hlen:(es.take i++vs++es.drop i).length=es.length+vs.length:=by simp;omega
    have htl:(xs.take (i*k)++us++ys).length=(es.length+vs.length)*k:=by
     rw[QB,QB,List.length_take,hxl,Nat.min_eq_left (Qq63 k hi)];exact htot
    by_cases hroom:es.length+vs.length<=cap
    ·
     have hfit:(es.length+vs.length)*k<=cur.toList.length:=by simpa[hcs]using Qq63 k hroom
     have r1:=xG (P:=P) w.drew S S 0 E g ((i+vs.length)*k) (es.length+vs.length - (i+vs.length)) 0 ⟨g,i*k,none⟩ (es.length+vs.length - i) 0 cur E ys k (es.length - i) H.hS hsz hg
      (by simp only[Nat.min_def];split<;>omega) hyl hcy (by simp only[Array.length_toList]at hfit;omega) hy1
     obtain⟨cur1,hcur1⟩:∃cur1:Array Value,cur1=(so cur.toList ((i+vs.length)*k) ys).toArray:=⟨_,rfl⟩;have hg1:(w.drew.setRow g cur1).heap[g]?=some (.cells cur1 E (0,0)):=setRow_heap w.drew g cur _ E _ hg
     have hl1:cur1.size=cap*k:=by
      rw[hcur1,List.size_toArray,Gy (by rw[<-hik];omega),Array.length_toList,hcs]
     have r2:=xG (P:=P) (w.drew.setRow g cur1) S S 0 E g (i*k) (es.length+vs.length - i) 0 ad vs.length vc cur1 E us k vs.length H.hS hsz hg1
      (by simp only[Nat.min_def];split<;>omega) hul (fun j u hj=>by rw[World.cell?_of_block (w:=w) (xg w.drew g cur1 (by rw[Hm];exact hne))];exact hcell j u hj)
      (by rw[hl1,<-hcs,<-Array.length_toList];omega) hone
     obtain⟨cur2,hcur2⟩:∃cur2:Array Value,cur2=(so cur1.toList (i*k) us).toArray:=⟨_,rfl⟩;have hg2:((w.drew.setRow g cur1).setRow g cur2).heap[g]?=some (.cells cur2 E (0,0)):=setRow_heap _ g cur1 _ E _ hg1
     have hc2:cur2.toList=xs.take (i*k)++us++ys++cur.toList.drop ((es.length+vs.length)*k):=by
      rw[hcur2,hcur1,<-hik,Wb (by omega),htot,<-htk,List.take_take,Nat.min_eq_left (Qq63 k hi)]
     have hC:cur.toList.length=cap*k:=(Array.length_toList (xs:=cur)).trans hcs;have hL1:cur1.toList.length=cap*k:=(Array.length_toList (xs:=cur1)).trans hl1;have hfr:Fr (some g) w ((w.drew.setRow g cur1).setRow g cur2):=(Fr.ahS w _).trans' ((Rt _ g _).trans' (Rt _ g _))
     have hcap0:cur.size≠0:=by
      have:0<cap:=by omega
      rw[hcs];exact Nat.ne_of_gt (Nat.mul_pos this hk0)
     refine(H.shift g es.length cap i hin hcm' ad vs.length vc hm hroom w (w.drew.setRow g cur1) ((w.drew.setRow g cur1).setRow g cur2) (fun lb cb=> ?_) (fun ty dc sc=> ?_) (fun ty dc=> ?_)).mono ?_
     ·exact H.B8 _ w (LJ w S B E H.hS k (fun w'=>by simp[Go.sizeOf,typeInfo,hi1,hi4]) ad ⟨g,(i+vs.length)*k,none⟩ vs.length vc lb cb hne had hg hcap0)
     ·rw[hcur1];exact r1
     ·rw[hcur2];exact r2
     ·rintro e w' ⟨rfl,rfl⟩;refine⟨_,rfl,⟨xs.take (i*k)++us++ys,⟨?_,.inr ⟨g,cap,cur2,by rw[hlen],hb0,hg2,by rw[hlen];exact hroom,hcm,?_,?_⟩⟩,hmem,hres.mono (@LD w _ (.slice (some ⟨g,0,none⟩) es.length cap) (.slice (some ⟨g,0,none⟩) (es.length+vs.length) cap) X hfr fun b hb=> .inl hb) (dw.le _)⟩,fun b hb=> .inl hb,hfr⟩
      ·rw[htl,hlen]
      ·rw[hcur2,List.size_toArray,Gy (by rw[hL1];omega),hL1]
      ·rw[hlen,hc2,<-htl,List.take_left' rfl]
    ·
     have hik2:i+(es.length+vs.length - i)=es.length+vs.length:=by omega
     have hold:(Builtin.firstCells inf.size i (.slice (some ⟨g,0,none⟩) i cap)).run P w.drew= .ok (xs.take (i*k)).toArray w.drew:=by
      rw[hi4];refine run_firstCells_some w.drew k i ⟨g,0,none⟩ i cap (xs.take (i*k)) (by rw[List.length_take,hxl];exact Nat.min_eq_left (Qq63 k hi)) fun j u hj=> ?_
      rw[add_mid,Nat.zero_add];rw[Qq68]at hj;split at hj
      ·exact hcx j u hj
      ·cases hj
     have hmax':es.length+vs.length<=9223372036854775807:=by simp only[maxLen]at hmax;omega
     have r0:=fun ty=>Lib.run_append_grow_zeros (P:=P) w S I ty E inf z .i64 .i64 H.hS H.hI hi1 hi2 (some ⟨g,0,none⟩) i cap (xs.take (i*k)) hold (es.length+vs.length - i) (by omega) (by omega) (by omega) (by omega)
      (by rw[hi5];have:=Qq63 bytes (show es.length+vs.length - i<=es.length+vs.length by omega);omega) (by rw[hi5,hik2];exact growslice_fits (by omega) hby)
     rw[hik2]at r0;obtain⟨G,hG⟩:∃G,G=grownCap w (es.length+vs.length) cap E:=⟨_,rfl⟩;have hGn:es.length+vs.length<=G:=by rw[hG];exact grownCap_ge w _ _ _
     have hGm:G<=maxLen:=by rw[hG];exact grownCap_le_maxLen w _ _ _ hmax
     have hG63:G<=9223372036854775807:=by simp only[maxLen]at hGm;omega
     rw[<-hG]at r0;obtain⟨row,hrow⟩:∃row:Array Value,row=(xs.take (i*k)).toArray++Builtin.zeroCells z.cells (es.length+vs.length - i)++Builtin.zeroCells z.cells (G - (es.length+vs.length)):=⟨_,rfl⟩;rw[<-hrow]at r0;have hrt:(xs.take (i*k)).length=i*k:=by rw[List.length_take,hxl];exact Nat.min_eq_left (Qq63 k hi)
     have hrl:row.size=G*k:=by
      rw[hrow,Array.size_append,Array.size_append,List.size_toArray,hrt,size_zeroCells,size_zeroCells,hi3,<-Qq73,<-Qq73];congr 1;omega
     have hrtake:row.toList.take (i*k)=xs.take (i*k):=by
      rw[hrow,Array.toList_append,Array.toList_append,QL];exact List.take_left' hrt
     have hN:(w.drew.alloc (.cells row E)).heap[w.heap.size]?=some (.cells row E (0,0)):=by
      show(w.heap.push (.cells row E))[w.heap.size]?=_;simp
     have hkeep:∀b,b<w.heap.size->(w.drew.alloc (.cells row E)).heap[b]?=w.heap[b]?:=fun b hb=>Below.heap_alloc w.drew _ b hb
     have hfit:(es.length+vs.length)*k<=row.size:=by rw[hrl];exact Qq63 k hGn
     have r1:=xG (P:=P) (w.drew.alloc (.cells row E)) S S 0 E w.heap.size (i*k) (es.length+vs.length - i) 0 ad vs.length vc row E us k vs.length H.hS hsz hN
      (by simp only[Nat.min_def];split<;>omega) hul (fun j u hj=>by rw[World.cell?_of_block (w:=w) (hkeep _ (by rw[Hm];exact hadlt))];exact hcell j u hj) (by omega) hone
     have hR:row.toList.length=G*k:=(Array.length_toList (xs:=row)).trans hrl;obtain⟨cur1,hcur1⟩:∃cur1:Array Value,cur1=(so row.toList (i*k) us).toArray:=⟨_,rfl⟩;have hl1:cur1.size=G*k:=by rw[hcur1,List.size_toArray,Gy (by rw[hR];omega),hR]
     have hL1:cur1.toList.length=G*k:=(Array.length_toList (xs:=cur1)).trans hl1;have hg1:((w.drew.alloc (.cells row E)).setRow w.heap.size cur1).drew.heap[w.heap.size]?=some (.cells cur1 E (0,0)):=setRow_heap _ _ row _ E _ hN
     have r2:=xG (P:=P) ((w.drew.alloc (.cells row E)).setRow w.heap.size cur1).drew S S 0 E w.heap.size ((i+vs.length)*k) (es.length+vs.length - (i+vs.length)) 0 ⟨g,i*k,none⟩ (es.length - i) 0 cur1 E ys k (es.length - i) H.hS hsz hg1
      (by simp only[Nat.min_def];split<;>omega) hyl (fun j u hj=>by
       rw[World.cell?_of_block (w:=w) (w':=((w.drew.alloc (.cells row E)).setRow w.heap.size cur1).drew) (((xg _ w.heap.size cur1 (by rw[Hm];exact Nat.ne_of_lt hglt)).trans (hkeep _ (by rw[Hm];exact hglt))))]
       exact hcy j u hj) (by rw[hl1,<-hrl,<-hik];omega) hy1
     obtain⟨cur2,hcur2⟩:∃cur2:Array Value,cur2=(so cur1.toList ((i+vs.length)*k) ys).toArray:=⟨_,rfl⟩;obtain⟨w3,hw3⟩:∃w3,w3=((w.drew.alloc (.cells row E)).setRow w.heap.size cur1).drew.setRow w.heap.size cur2:=⟨_,rfl⟩;have hg2:w3.heap[w.heap.size]?=some (.cells cur2 E (0,0)):=by rw[hw3];exact setRow_heap _ _ cur1 _ E _ hg1
     have hc2:cur2.toList=xs.take (i*k)++us++ys++row.toList.drop ((es.length+vs.length)*k):=by
      rw[hcur2,hcur1,<-hik,Yi (by rw[hR];omega),htot,hrtake]
     have hfr:Fr (some g) w w3:=by
      rw[hw3];refine⟨rfl,rfl,rfl,by simp[World.setRow],fun b hb _=> ?_,by show w.drawn<=w.drawn+1+1;omega⟩
      rw[xg _ _ _ (Nat.ne_of_lt hb)];exact(xg _ w.heap.size cur1 (Nat.ne_of_lt hb)).trans (hkeep b hb)
     refine(H.grow g es.length cap i hin hnc hcm' ad vs.length vc hm (by omega) w.heap.size G hGn hG63 w (w.drew.alloc (.cells row E)) ((w.drew.alloc (.cells row E)).setRow w.heap.size cur1) w3 (fun ty=> ?_) (fun ty dc=> ?_) (fun ty dc sc=> ?_)).mono ?_
     ·have:=r0 ty;rw[show((es.length+vs.length - i:Nat):Int)=(es.length:Int)+(vs.length:Int) - (i:Int)by omega]at this
      exact this
     ·rw[hcur1];exact r1
     ·rw[hw3,hcur2];exact r2
     ·rintro e w' ⟨rfl,rfl⟩
      have hub:∀b,cp (.slice (some ⟨w.heap.size,0,none⟩) (es.length+vs.length) G)=some b->cp (.slice (some ⟨g,0,none⟩) es.length cap)=some b\/w.heap.size<=b:=fun b hb=>by
       injection hb with hb
       exact .inr (Nat.le_of_eq hb)
      refine⟨_,rfl,⟨xs.take (i*k)++us++ys,⟨?_,.inr ⟨w.heap.size,G,cur2,by rw[hlen],QS _,hg2,by rw[hlen];exact hGn,hGm,?_,?_⟩⟩,hmem,hres.mono (@LD w _ (.slice (some ⟨g,0,none⟩) es.length cap) (.slice (some ⟨w.heap.size,0,none⟩) (es.length+vs.length) G) X hfr hub) (dw.le _)⟩,hub,hfr⟩
      ·rw[htl,hlen]
      ·rw[hcur2,List.size_toArray,Gy (by rw[hL1,<-hik];omega),hL1]
      ·rw[hlen,hc2,<-htl,List.take_left' rfl]
end
end Go.TQ
end
noncomputable section
namespace Go.Proofs.YtjbfdglebjnelaaGreat
open Go.RowKit Go.TQ Go.Lib
namespace UQ
theorem zE:∀w:World,(Go.sizeOf 57).run Tryz.prog w= .ok 7 w:=fun _=>by kernel_rfl
set_option maxHeartbeats 4000000 in
set_option maxRecDepth 100000 in
theorem oW(g n c i:Nat)(hi:i<=n)(hc:n<=c)(hc63:c<=9223372036854775807)(u:Option Addr)(vc:Nat)(w:World):
  Calls Tryz.prog 108 #[.slice (some ⟨g,0,none⟩) n c,.int .i64 i,.slice u 0 vc] w fun e w'=>e= .returned (.slice (some ⟨g,0,none⟩) n c)/\w'=w:=by
 have zE:=zE;have uS:=run_underlying Tryz.underlying29
 go_enter Tryz.func108,Tryz.ntmps108
 go_wp2
 all_goals go_ret
 all_goals exact⟨rfl,rfl⟩
set_option maxHeartbeats 4000000 in
set_option maxRecDepth 100000 in
theorem rF(u:Option Addr)(vc:Nat)(w:World):
  Calls Tryz.prog 108 #[.slice none 0 0,.int .i64 0,.slice u 0 vc] w fun e w'=>e= .returned (.slice none 0 0)/\w'=w:=by
 have zE:=zE;have uS:=run_underlying Tryz.underlying29
 go_enter Tryz.func108,Tryz.ntmps108
 go_wp2
 all_goals go_ret
 all_goals exact⟨rfl,rfl⟩
set_option maxHeartbeats 4000000 in
set_option maxRecDepth 100000 in
theorem xy(g n c:Nat)(hc:n<=c)(hc63:c<=9223372036854775807)(ad:Addr)(m vc:Nat)(hm:0<m)(w w1:World)(v1:Value)
  (hr:∀ty,(Builtin.append_ #[29,29] ty #[.slice (some ⟨g,0,none⟩) n c,.slice (some ad) m vc]).run Tryz.prog w= .ok v1 w1):
  Calls Tryz.prog 108 #[.slice (some ⟨g,0,none⟩) n c,.int .i64 n,.slice (some ad) m vc] w fun e w'=>e= .returned v1/\w'=w1:=by
 have zE:=zE;have uS:=run_underlying Tryz.underlying29;have hz1:¬((m:Int)=0):=by omega
 go_enter Tryz.func108,Tryz.ntmps108
 go_wp2_with (at_builtin;refine Lib.wpList_append_run _ rfl _ _ _ _ rfl _ _ rfl rfl _ _ (hr _) ?_)
 all_goals go_ret
 all_goals exact⟨rfl,rfl⟩
set_option maxHeartbeats 4000000 in
set_option maxRecDepth 100000 in
theorem nf(ad:Addr)(m vc:Nat)(hm:0<m)(w w1:World)(v1:Value)
  (hr:∀ty,(Builtin.append_ #[29,29] ty #[.slice none 0 0,.slice (some ad) m vc]).run Tryz.prog w= .ok v1 w1):
  Calls Tryz.prog 108 #[.slice none 0 0,.int .i64 0,.slice (some ad) m vc] w fun e w'=>e= .returned v1/\w'=w1:=by
 have zE:=zE;have uS:=run_underlying Tryz.underlying29;have hz1:¬((m:Int)=0):=by omega
 go_enter Tryz.func108,Tryz.ntmps108
 go_wp2_with (at_builtin;refine Lib.wpList_append_run _ rfl _ _ _ _ rfl _ _ rfl rfl _ _ (hr _) ?_)
 all_goals go_ret
 all_goals exact⟨rfl,rfl⟩
set_option maxHeartbeats 4000000 in
set_option maxRecDepth 100000 in
theorem shift(g n c i:Nat)(hi:i<n)(hc63:c<=9223372036854775807)(ad:Addr)(m vc:Nat)(hm:0<m)(hroom:n+m<=c)(w w1 w2:World)
  (hov:∀lb cb,(callFunc 162 #[.slice (some ad) m vc,.slice (some ⟨g,(i+m)*7,none⟩) lb cb]).run Tryz.prog w= .ok (.value (.bool false)) w)
  (h1:∀ty dc sc,(Builtin.copy_ #[29,29] ty #[.slice (some ⟨g,(i+m)*7,none⟩) (n+m - (i+m)) dc,.slice (some ⟨g,i*7,none⟩) (n+m - i) sc]).run Tryz.prog w.drew= .ok (goInt (n - i:Nat)) w1)
  (h2:∀ty dc,(Builtin.copy_ #[29,29] ty #[.slice (some ⟨g,i*7,none⟩) (n+m - i) dc,.slice (some ad) m vc]).run Tryz.prog w1= .ok (goInt m) w2):
  Calls Tryz.prog 108 #[.slice (some ⟨g,0,none⟩) n c,.int .i64 i,.slice (some ad) m vc] w fun e w'=>e= .returned (.slice (some ⟨g,0,none⟩) (n+m) c)/\w'=w2:=by
 have zE:=zE;have uS:=run_underlying Tryz.underlying29;have hz1:¬((m:Int)=0):=by omega
 have hz2:¬((i:Int)=(n:Int)):=by omega
 have mixed:Tryz.prog.follows .mixedOrders=true:=by kernel_rfl
 have hw1:IntKind.i64.wrap ((i:Int)+(m:Int))=(i:Int)+(m:Int):=by rw[IntKind.wrap_i64];omega
 have hb1:(0:Int)<=(i:Int)+(m:Int):=by omega
 have hin:i<=n:=by omega
 have htn:((i:Int)+(m:Int)).toNat=i+m:=by omega
 have hb2:¬(c=i+m):=by omega
 have hb3:(i:Int)<=(n:Int)+(m:Int):=by omega
 have hb4:¬(c=i):=by omega
 go_enter Tryz.func108,Tryz.ntmps108
 go_wp2_with (simp only[hov])
 go_region_law_o (refine step_copy_runI rfl _ _ 29 29 rfl _ _ (by simp[Act.eval,Act.put]) (by simp[Act.eval,Act.put]) (h1 _ _ _) ?_)
 go_wp2_with (at_builtin;refine wpList_copy_runI _ rfl _ _ 29 29 rfl _ _ rfl rfl (h2 _ _) ?_)
 go_ret
 exact⟨rfl,rfl⟩
set_option maxHeartbeats 4000000 in
set_option maxRecDepth 100000 in
theorem grow(g n c i:Nat)(hi:i<n)(hc:n<=c)(hc63:c<=9223372036854775807)(ad:Addr)(m vc:Nat)(hm:0<m)(hroom:c<n+m)(N G:Nat)(hGn:n+m<=G)(hG63:G<=9223372036854775807)(w w1 w2 w3:World)
  (hz:∀ty,(Builtin.append_ #[29,3] ty #[.slice (some ⟨g,0,none⟩) i c,.int .i64 ((n:Int)+(m:Int) - (i:Int))]).run Tryz.prog w= .ok (.slice (some ⟨N,0,none⟩) (n+m) G) w1)
  (h1:∀ty dc,(Builtin.copy_ #[29,29] ty #[.slice (some ⟨N,i*7,none⟩) (n+m - i) dc,.slice (some ad) m vc]).run Tryz.prog w1= .ok (goInt m) w2)
  (h2:∀ty dc sc,(Builtin.copy_ #[29,29] ty #[.slice (some ⟨N,(i+m)*7,none⟩) (n+m - (i+m)) dc,.slice (some ⟨g,i*7,none⟩) (n - i) sc]).run Tryz.prog w2.drew= .ok (goInt (n - i:Nat)) w3):
  Calls Tryz.prog 108 #[.slice (some ⟨g,0,none⟩) n c,.int .i64 i,.slice (some ad) m vc] w fun e w'=>e= .returned (.slice (some ⟨N,0,none⟩) (n+m) G)/\w'=w3:=by
 have zE:=zE;have uS:=run_underlying Tryz.underlying29;have hz1:¬((m:Int)=0):=by omega
 have hz2:¬((i:Int)=(n:Int)):=by omega
 have hz3:(c:Int)<(n:Int)+(m:Int):=by omega
 have mixed:Tryz.prog.follows .mixedOrders=true:=by kernel_rfl
 have hw1:IntKind.i64.wrap ((i:Int)+(m:Int))=(i:Int)+(m:Int):=by rw[IntKind.wrap_i64];omega
 have hb1:(0:Int)<=(i:Int)+(m:Int):=by omega
 have hin:i<=n:=by omega
 have htn:((i:Int)+(m:Int)).toNat=i+m:=by omega
 have hb3:(i:Int)<=(n:Int):=by omega
 have hGi:¬(G=i):=by omega
 have hGim:¬(G=i+m):=by omega
 have hci:¬(c=i):=by omega
 go_enter Tryz.func108,Tryz.ntmps108
 go_wp2_with (first
  |(at_builtin;refine Lib.wpList_append_run _ rfl _ _ _ _ rfl _ _ rfl rfl _ _ (hz _) ?_)
  |(at_builtin;refine wpList_copy_runI _ rfl _ _ 29 29 rfl _ _ rfl rfl (h1 _ _) ?_))
 go_region_law_o (refine step_copy_runI rfl _ _ 29 29 rfl (.slice (some ⟨N,(i+m)*7,none⟩) (n+m - (i+m)) (G - (i+m))) (.slice (some ⟨g,i*7,none⟩) (n - i) (c - i)) (by simp[Act.eval,Act.put]) (by simp[Act.eval,Act.put]) (h2 3 (G - (i+m)) (c - i)) ?_)
 go_wp2
 go_ret
 exact⟨rfl,rfl⟩
theorem ways:VQ Tryz.prog 108 29 57 3 4 162 7 120 where
 Yv:=by decide
 hS:=Tryz.underlying29
 hI:=Tryz.underlying3
 Yy:=PS (by kernel_rfl)
 B8:=fun x w h=>by
  rw[run_callFunc_extern Tryz.func162 (by kernel_rfl) (by kernel_rfl) (by kernel_rfl) (e:=Extern.SlicesOverlaps.overlaps #[29,29] #[4]) (by kernel_rfl),h]
  rfl
 oW:=oW
 rF:=rF
 xy:=xy
 nf:=nf
 shift:=shift
 grow:=grow
theorem enters:Go.TQ.Enters Tryz.prog 108:=⟨Tryz.f108,Tryz.func108,by kernel_rfl,by kernel_rfl⟩
end UQ
end Go.Proofs.YtjbfdglebjnelaaGreat
end
noncomputable section
namespace Go.TQ
def DA{α:Type}(bytes:Nat)(s:List α)(i:Int)(v:List α):Option (List α):=bif decide (0<=i)&&decide (i<=((s.length:Nat):Int))&&bc bytes (s.length+v.length)then some (s.take i.toNat++v++s.drop i.toNat)else none
theorem dH{P:Program}{f S E I B ov k bytes:Nat}(H:VQ P f S E I B ov k bytes)(hent:Enters P f){T:Ty}(hk:∀x:T.den,(T.pv x).length=k):
  eB.Sound P (U:=U) (.cw f E k T [.ty (Ty.i .i64),.ty (Ty.sl T)] fun s a=>DA bytes s a.1 a.2.1):=by
 refine⟨hent,fun xs a ys h=> ?_⟩
 suffices key:∀(i:Int) (v:List T.den) (ys:List T.den),DA bytes xs i v=some ys->MN P f E k (xs.map T.pv) [.int .i64 i,.sl (v.map T.pv)] (ys.map T.pv)from key a.1 a.2.1 ys h
 clear h;intro i v ys h;unfold DA at h
 cases hc:(decide (0<=i)&&decide (i<=((xs.length:Nat):Int))&&bc bytes (xs.length+v.length))with
 |false=>rw[hc]at h;cases h
 |true=>
  rw[hc]at h;injection h with h
  subst h;simp only[Qm,Qi]at hc;obtain⟨⟨h0,h1⟩,h2⟩:=hc;obtain⟨h3,h4⟩:=CH h2;have hone:∀x:T.den,(T.pv x).all PV.one=true:=fun x=>QH.2 fun y hy=>UX (K.hU T x y hy)
  have:=aez H (es:=xs.map T.pv) (vs:=v.map T.pv) (i:=i.toNat) (by rw[QC];omega)
   (fun u hu=>by obtain⟨x,_,rfl⟩:=QP.1 hu;exact hone x) (fun u hu=>by obtain⟨x,_,rfl⟩:=QP.1 hu;exact⟨hk x,hone x⟩)
   (by rw[QC,QC];exact h4) (by rw[QC,QC];exact h3)
  rw[<-List.map_take,<-List.map_drop,<-List.map_append,<-List.map_append,show((i.toNat:Nat):Int)=i by omega]at this
  exact this
end Go.TQ
end
noncomputable section
namespace Go.Proofs.YtjbfdglebjnelaaGreat
open Go.RowKit Go.TQ Go.Lib
namespace UP
theorem zE:∀w:World,(Go.sizeOf 64).run Tryz.prog w= .ok 15 w:=fun _=>by kernel_rfl
set_option maxHeartbeats 4000000 in
set_option maxRecDepth 100000 in
theorem oW(g n c i:Nat)(hi:i<=n)(hc:n<=c)(hc63:c<=9223372036854775807)(u:Option Addr)(vc:Nat)(w:World):
  Calls Tryz.prog 177 #[.slice (some ⟨g,0,none⟩) n c,.int .i64 i,.slice u 0 vc] w fun e w'=>e= .returned (.slice (some ⟨g,0,none⟩) n c)/\w'=w:=by
 have zE:=zE;have uS:=run_underlying Tryz.underlying34
 go_enter Tryz.func177,Tryz.ntmps177
 go_wp2
 all_goals go_ret
 all_goals exact⟨rfl,rfl⟩
set_option maxHeartbeats 4000000 in
set_option maxRecDepth 100000 in
theorem rF(u:Option Addr)(vc:Nat)(w:World):
  Calls Tryz.prog 177 #[.slice none 0 0,.int .i64 0,.slice u 0 vc] w fun e w'=>e= .returned (.slice none 0 0)/\w'=w:=by
 have zE:=zE;have uS:=run_underlying Tryz.underlying34
 go_enter Tryz.func177,Tryz.ntmps177
 go_wp2
 all_goals go_ret
 all_goals exact⟨rfl,rfl⟩
set_option maxHeartbeats 4000000 in
set_option maxRecDepth 100000 in
theorem xy(g n c:Nat)(hc:n<=c)(hc63:c<=9223372036854775807)(ad:Addr)(m vc:Nat)(hm:0<m)(w w1:World)(v1:Value)
  (hr:∀ty,(Builtin.append_ #[34,34] ty #[.slice (some ⟨g,0,none⟩) n c,.slice (some ad) m vc]).run Tryz.prog w= .ok v1 w1):
  Calls Tryz.prog 177 #[.slice (some ⟨g,0,none⟩) n c,.int .i64 n,.slice (some ad) m vc] w fun e w'=>e= .returned v1/\w'=w1:=by
 have zE:=zE;have uS:=run_underlying Tryz.underlying34;have hz1:¬((m:Int)=0):=by omega
 go_enter Tryz.func177,Tryz.ntmps177
 go_wp2_with (at_builtin;refine Lib.wpList_append_run _ rfl _ _ _ _ rfl _ _ rfl rfl _ _ (hr _) ?_)
 all_goals go_ret
 all_goals exact⟨rfl,rfl⟩
set_option maxHeartbeats 4000000 in
set_option maxRecDepth 100000 in
theorem nf(ad:Addr)(m vc:Nat)(hm:0<m)(w w1:World)(v1:Value)
  (hr:∀ty,(Builtin.append_ #[34,34] ty #[.slice none 0 0,.slice (some ad) m vc]).run Tryz.prog w= .ok v1 w1):
  Calls Tryz.prog 177 #[.slice none 0 0,.int .i64 0,.slice (some ad) m vc] w fun e w'=>e= .returned v1/\w'=w1:=by
 have zE:=zE;have uS:=run_underlying Tryz.underlying34;have hz1:¬((m:Int)=0):=by omega
 go_enter Tryz.func177,Tryz.ntmps177
 go_wp2_with (at_builtin;refine Lib.wpList_append_run _ rfl _ _ _ _ rfl _ _ rfl rfl _ _ (hr _) ?_)
 all_goals go_ret
 all_goals exact⟨rfl,rfl⟩
set_option maxHeartbeats 4000000 in
set_option maxRecDepth 100000 in
theorem shift(g n c i:Nat)(hi:i<n)(hc63:c<=9223372036854775807)(ad:Addr)(m vc:Nat)(hm:0<m)(hroom:n+m<=c)(w w1 w2:World)
  (hov:∀lb cb,(callFunc 227 #[.slice (some ad) m vc,.slice (some ⟨g,(i+m)*15,none⟩) lb cb]).run Tryz.prog w= .ok (.value (.bool false)) w)
  (h1:∀ty dc sc,(Builtin.copy_ #[34,34] ty #[.slice (some ⟨g,(i+m)*15,none⟩) (n+m - (i+m)) dc,.slice (some ⟨g,i*15,none⟩) (n+m - i) sc]).run Tryz.prog w.drew= .ok (goInt (n - i:Nat)) w1)
  (h2:∀ty dc,(Builtin.copy_ #[34,34] ty #[.slice (some ⟨g,i*15,none⟩) (n+m - i) dc,.slice (some ad) m vc]).run Tryz.prog w1= .ok (goInt m) w2):
  Calls Tryz.prog 177 #[.slice (some ⟨g,0,none⟩) n c,.int .i64 i,.slice (some ad) m vc] w fun e w'=>e= .returned (.slice (some ⟨g,0,none⟩) (n+m) c)/\w'=w2:=by
 have zE:=zE;have uS:=run_underlying Tryz.underlying34;have hz1:¬((m:Int)=0):=by omega
 have hz2:¬((i:Int)=(n:Int)):=by omega
 have mixed:Tryz.prog.follows .mixedOrders=true:=by kernel_rfl
 have hw1:IntKind.i64.wrap ((i:Int)+(m:Int))=(i:Int)+(m:Int):=by rw[IntKind.wrap_i64];omega
 have hb1:(0:Int)<=(i:Int)+(m:Int):=by omega
 have hin:i<=n:=by omega
 have htn:((i:Int)+(m:Int)).toNat=i+m:=by omega
 have hb2:¬(c=i+m):=by omega
 have hb3:(i:Int)<=(n:Int)+(m:Int):=by omega
 have hb4:¬(c=i):=by omega
 go_enter Tryz.func177,Tryz.ntmps177
 go_wp2_with (simp only[hov])
 go_region_law_o (refine step_copy_runI rfl _ _ 34 34 rfl _ _ (by simp[Act.eval,Act.put]) (by simp[Act.eval,Act.put]) (h1 _ _ _) ?_)
 go_wp2_with (at_builtin;refine wpList_copy_runI _ rfl _ _ 34 34 rfl _ _ rfl rfl (h2 _ _) ?_)
 go_ret
 exact⟨rfl,rfl⟩
set_option maxHeartbeats 4000000 in
set_option maxRecDepth 100000 in
theorem grow(g n c i:Nat)(hi:i<n)(hc:n<=c)(hc63:c<=9223372036854775807)(ad:Addr)(m vc:Nat)(hm:0<m)(hroom:c<n+m)(N G:Nat)(hGn:n+m<=G)(hG63:G<=9223372036854775807)(w w1 w2 w3:World)
  (hz:∀ty,(Builtin.append_ #[34,3] ty #[.slice (some ⟨g,0,none⟩) i c,.int .i64 ((n:Int)+(m:Int) - (i:Int))]).run Tryz.prog w= .ok (.slice (some ⟨N,0,none⟩) (n+m) G) w1)
  (h1:∀ty dc,(Builtin.copy_ #[34,34] ty #[.slice (some ⟨N,i*15,none⟩) (n+m - i) dc,.slice (some ad) m vc]).run Tryz.prog w1= .ok (goInt m) w2)
  (h2:∀ty dc sc,(Builtin.copy_ #[34,34] ty #[.slice (some ⟨N,(i+m)*15,none⟩) (n+m - (i+m)) dc,.slice (some ⟨g,i*15,none⟩) (n - i) sc]).run Tryz.prog w2.drew= .ok (goInt (n - i:Nat)) w3):
  Calls Tryz.prog 177 #[.slice (some ⟨g,0,none⟩) n c,.int .i64 i,.slice (some ad) m vc] w fun e w'=>e= .returned (.slice (some ⟨N,0,none⟩) (n+m) G)/\w'=w3:=by
 have zE:=zE;have uS:=run_underlying Tryz.underlying34;have hz1:¬((m:Int)=0):=by omega
 have hz2:¬((i:Int)=(n:Int)):=by omega
 have hz3:(c:Int)<(n:Int)+(m:Int):=by omega
 have mixed:Tryz.prog.follows .mixedOrders=true:=by kernel_rfl
 have hw1:IntKind.i64.wrap ((i:Int)+(m:Int))=(i:Int)+(m:Int):=by rw[IntKind.wrap_i64];omega
 have hb1:(0:Int)<=(i:Int)+(m:Int):=by omega
 have hin:i<=n:=by omega
 have htn:((i:Int)+(m:Int)).toNat=i+m:=by omega
 have hb3:(i:Int)<=(n:Int):=by omega
 have hGi:¬(G=i):=by omega
 have hGim:¬(G=i+m):=by omega
 have hci:¬(c=i):=by omega
 go_enter Tryz.func177,Tryz.ntmps177
 go_wp2_with (first
  |(at_builtin;refine Lib.wpList_append_run _ rfl _ _ _ _ rfl _ _ rfl rfl _ _ (hz _) ?_)
  |(at_builtin;refine wpList_copy_runI _ rfl _ _ 34 34 rfl _ _ rfl rfl (h1 _ _) ?_))
 go_region_law_o (refine step_copy_runI rfl _ _ 34 34 rfl (.slice (some ⟨N,(i+m)*15,none⟩) (n+m - (i+m)) (G - (i+m))) (.slice (some ⟨g,i*15,none⟩) (n - i) (c - i)) (by simp[Act.eval,Act.put]) (by simp[Act.eval,Act.put]) (h2 3 (G - (i+m)) (c - i)) ?_)
 go_wp2
 go_ret
 exact⟨rfl,rfl⟩
theorem ways:VQ Tryz.prog 177 34 64 3 4 227 15 176 where
 Yv:=by decide
 hS:=Tryz.underlying34
 hI:=Tryz.underlying3
 Yy:=PS (by kernel_rfl)
 B8:=fun x w h=>by
  rw[run_callFunc_extern Tryz.func227 (by kernel_rfl) (by kernel_rfl) (by kernel_rfl) (e:=Extern.SlicesOverlaps.overlaps #[34,34] #[4]) (by kernel_rfl),h]
  rfl
 oW:=oW
 rF:=rF
 xy:=xy
 nf:=nf
 shift:=shift
 grow:=grow
theorem enters:Go.TQ.Enters Tryz.prog 177:=⟨Tryz.f177,Tryz.func177,by kernel_rfl,by kernel_rfl⟩
end UP
end Go.Proofs.YtjbfdglebjnelaaGreat
namespace Go.Proofs.YtjbfdglebjnelaaGreat
open Go.RowKit Go.TQ Go.Lib
namespace UO
theorem zE:∀w:World,(Go.sizeOf 9).run Tryz.prog w= .ok 1 w:=fun _=>by kernel_rfl
set_option maxHeartbeats 4000000 in
set_option maxRecDepth 100000 in
theorem oW(g n c i:Nat)(hi:i<=n)(hc:n<=c)(hc63:c<=9223372036854775807)(u:Option Addr)(vc:Nat)(w:World):
  Calls Tryz.prog 224 #[.slice (some ⟨g,0,none⟩) n c,.int .i64 i,.slice u 0 vc] w fun e w'=>e= .returned (.slice (some ⟨g,0,none⟩) n c)/\w'=w:=by
 have zE:=zE;have uS:=run_underlying Tryz.underlying28
 go_enter Tryz.func224,Tryz.ntmps224
 go_wp2
 all_goals go_ret
 all_goals exact⟨rfl,rfl⟩
set_option maxHeartbeats 4000000 in
set_option maxRecDepth 100000 in
theorem rF(u:Option Addr)(vc:Nat)(w:World):
  Calls Tryz.prog 224 #[.slice none 0 0,.int .i64 0,.slice u 0 vc] w fun e w'=>e= .returned (.slice none 0 0)/\w'=w:=by
 have zE:=zE;have uS:=run_underlying Tryz.underlying28
 go_enter Tryz.func224,Tryz.ntmps224
 go_wp2
 all_goals go_ret
 all_goals exact⟨rfl,rfl⟩
set_option maxHeartbeats 4000000 in
set_option maxRecDepth 100000 in
theorem xy(g n c:Nat)(hc:n<=c)(hc63:c<=9223372036854775807)(ad:Addr)(m vc:Nat)(hm:0<m)(w w1:World)(v1:Value)
  (hr:∀ty,(Builtin.append_ #[28,28] ty #[.slice (some ⟨g,0,none⟩) n c,.slice (some ad) m vc]).run Tryz.prog w= .ok v1 w1):
  Calls Tryz.prog 224 #[.slice (some ⟨g,0,none⟩) n c,.int .i64 n,.slice (some ad) m vc] w fun e w'=>e= .returned v1/\w'=w1:=by
 have zE:=zE;have uS:=run_underlying Tryz.underlying28;have hz1:¬((m:Int)=0):=by omega
 go_enter Tryz.func224,Tryz.ntmps224
 go_wp2_with (at_builtin;refine Lib.wpList_append_run _ rfl _ _ _ _ rfl _ _ rfl rfl _ _ (hr _) ?_)
 all_goals go_ret
 all_goals exact⟨rfl,rfl⟩
set_option maxHeartbeats 4000000 in
set_option maxRecDepth 100000 in
theorem nf(ad:Addr)(m vc:Nat)(hm:0<m)(w w1:World)(v1:Value)
  (hr:∀ty,(Builtin.append_ #[28,28] ty #[.slice none 0 0,.slice (some ad) m vc]).run Tryz.prog w= .ok v1 w1):
  Calls Tryz.prog 224 #[.slice none 0 0,.int .i64 0,.slice (some ad) m vc] w fun e w'=>e= .returned v1/\w'=w1:=by
 have zE:=zE;have uS:=run_underlying Tryz.underlying28;have hz1:¬((m:Int)=0):=by omega
 go_enter Tryz.func224,Tryz.ntmps224
 go_wp2_with (at_builtin;refine Lib.wpList_append_run _ rfl _ _ _ _ rfl _ _ rfl rfl _ _ (hr _) ?_)
 all_goals go_ret
 all_goals exact⟨rfl,rfl⟩
set_option maxHeartbeats 4000000 in
set_option maxRecDepth 100000 in
theorem shift(g n c i:Nat)(hi:i<n)(hc63:c<=9223372036854775807)(ad:Addr)(m vc:Nat)(hm:0<m)(hroom:n+m<=c)(w w1 w2:World)
  (hov:∀lb cb,(callFunc 257 #[.slice (some ad) m vc,.slice (some ⟨g,(i+m)*1,none⟩) lb cb]).run Tryz.prog w= .ok (.value (.bool false)) w)
  (h1:∀ty dc sc,(Builtin.copy_ #[28,28] ty #[.slice (some ⟨g,(i+m)*1,none⟩) (n+m - (i+m)) dc,.slice (some ⟨g,i*1,none⟩) (n+m - i) sc]).run Tryz.prog w.drew= .ok (goInt (n - i:Nat)) w1)
  (h2:∀ty dc,(Builtin.copy_ #[28,28] ty #[.slice (some ⟨g,i*1,none⟩) (n+m - i) dc,.slice (some ad) m vc]).run Tryz.prog w1= .ok (goInt m) w2):
  Calls Tryz.prog 224 #[.slice (some ⟨g,0,none⟩) n c,.int .i64 i,.slice (some ad) m vc] w fun e w'=>e= .returned (.slice (some ⟨g,0,none⟩) (n+m) c)/\w'=w2:=by
 have zE:=zE;have uS:=run_underlying Tryz.underlying28;have hz1:¬((m:Int)=0):=by omega
 have hz2:¬((i:Int)=(n:Int)):=by omega
 have mixed:Tryz.prog.follows .mixedOrders=true:=by kernel_rfl
 have hw1:IntKind.i64.wrap ((i:Int)+(m:Int))=(i:Int)+(m:Int):=by rw[IntKind.wrap_i64];omega
 have hb1:(0:Int)<=(i:Int)+(m:Int):=by omega
 have hin:i<=n:=by omega
 have htn:((i:Int)+(m:Int)).toNat=i+m:=by omega
 have hb2:¬(c=i+m):=by omega
 have hb3:(i:Int)<=(n:Int)+(m:Int):=by omega
 have hb4:¬(c=i):=by omega
 simp only[Nat.mul_one]at hov h1 h2
 go_enter Tryz.func224,Tryz.ntmps224
 go_wp2_with (simp only[hov])
 go_region_law_o (refine step_copy_runI rfl _ _ 28 28 rfl _ _ (by simp[Act.eval,Act.put]) (by simp[Act.eval,Act.put]) (h1 _ _ _) ?_)
 go_wp2_with (at_builtin;refine wpList_copy_runI _ rfl _ _ 28 28 rfl _ _ rfl rfl (h2 _ _) ?_)
 go_ret
 exact⟨rfl,rfl⟩
set_option maxHeartbeats 4000000 in
set_option maxRecDepth 100000 in
theorem grow(g n c i:Nat)(hi:i<n)(hc:n<=c)(hc63:c<=9223372036854775807)(ad:Addr)(m vc:Nat)(hm:0<m)(hroom:c<n+m)(N G:Nat)(hGn:n+m<=G)(hG63:G<=9223372036854775807)(w w1 w2 w3:World)
  (hz:∀ty,(Builtin.append_ #[28,3] ty #[.slice (some ⟨g,0,none⟩) i c,.int .i64 ((n:Int)+(m:Int) - (i:Int))]).run Tryz.prog w= .ok (.slice (some ⟨N,0,none⟩) (n+m) G) w1)
  (h1:∀ty dc,(Builtin.copy_ #[28,28] ty #[.slice (some ⟨N,i*1,none⟩) (n+m - i) dc,.slice (some ad) m vc]).run Tryz.prog w1= .ok (goInt m) w2)
  (h2:∀ty dc sc,(Builtin.copy_ #[28,28] ty #[.slice (some ⟨N,(i+m)*1,none⟩) (n+m - (i+m)) dc,.slice (some ⟨g,i*1,none⟩) (n - i) sc]).run Tryz.prog w2.drew= .ok (goInt (n - i:Nat)) w3):
  Calls Tryz.prog 224 #[.slice (some ⟨g,0,none⟩) n c,.int .i64 i,.slice (some ad) m vc] w fun e w'=>e= .returned (.slice (some ⟨N,0,none⟩) (n+m) G)/\w'=w3:=by
 have zE:=zE;have uS:=run_underlying Tryz.underlying28;have hz1:¬((m:Int)=0):=by omega
 have hz2:¬((i:Int)=(n:Int)):=by omega
 have hz3:(c:Int)<(n:Int)+(m:Int):=by omega
 have mixed:Tryz.prog.follows .mixedOrders=true:=by kernel_rfl
 have hw1:IntKind.i64.wrap ((i:Int)+(m:Int))=(i:Int)+(m:Int):=by rw[IntKind.wrap_i64];omega
 have hb1:(0:Int)<=(i:Int)+(m:Int):=by omega
 have hin:i<=n:=by omega
 have htn:((i:Int)+(m:Int)).toNat=i+m:=by omega
 have hb3:(i:Int)<=(n:Int):=by omega
 have hGi:¬(G=i):=by omega
 have hGim:¬(G=i+m):=by omega
 have hci:¬(c=i):=by omega
 simp only[Nat.mul_one]at h1 h2
 go_enter Tryz.func224,Tryz.ntmps224
 go_wp2_with (first
  |(at_builtin;refine Lib.wpList_append_run _ rfl _ _ _ _ rfl _ _ rfl rfl _ _ (hz _) ?_)
  |(at_builtin;refine wpList_copy_runI _ rfl _ _ 28 28 rfl _ _ rfl rfl (h1 _ _) ?_))
 go_region_law_o (refine step_copy_runI rfl _ _ 28 28 rfl (.slice (some ⟨N,i+m,none⟩) (n+m - (i+m)) (G - (i+m))) (.slice (some ⟨g,i,none⟩) (n - i) (c - i)) (by simp[Act.eval,Act.put]) (by simp[Act.eval,Act.put]) (h2 3 (G - (i+m)) (c - i)) ?_)
 go_wp2
 go_ret
 exact⟨rfl,rfl⟩
theorem ways:VQ Tryz.prog 224 28 9 3 4 257 1 16 where
 Yv:=by decide
 hS:=Tryz.underlying28
 hI:=Tryz.underlying3
 Yy:=PS (by kernel_rfl)
 B8:=fun x w h=>by
  rw[run_callFunc_extern Tryz.func257 (by kernel_rfl) (by kernel_rfl) (by kernel_rfl) (e:=Extern.SlicesOverlaps.overlaps #[28,28] #[4]) (by kernel_rfl),h]
  rfl
 oW:=oW
 rF:=rF
 xy:=xy
 nf:=nf
 shift:=shift
 grow:=grow
theorem enters:Go.TQ.Enters Tryz.prog 224:=⟨Tryz.f224,Tryz.func224,by kernel_rfl,by kernel_rfl⟩
end UO
end Go.Proofs.YtjbfdglebjnelaaGreat
end
noncomputable section
namespace Go.TQ
section
open Go.Proofs Go.Sort Go.RowKit Go.Lib
def zk:PV->Bool
 | .int _ _=>true
 | .str _=>true
 | .bool _=>true
 |_=>false
def qL:PV->Value
 | .int k n=> .int k n
 | .str s=> .string s
 | .bool b=> .bool b
 |_=>undef
theorem IB{w:World}{M:Nat->Prop}{G:Gh}{x:PV}(h:zk x=true):bm w M G x (qL x):=by
 cases x<;>first|exact .int _ _|exact .str _|exact .bool _|exact absurd h (by simp[zk])
theorem ZP{w:World}{M:Nat->Prop}{G:Gh}{x:PV}{v:Value}(h:zk x=true)(hr:bm w M G x v):v=qL x:=by
 cases x<;>first|(cases hr;rfl)|exact absurd h (by simp[zk])
theorem RG{x:PV}(h:zk x=true):(qL x).oneCell'=true:=by
 cases x<;>first|rfl|exact absurd h (by simp[zk])
theorem Nr{w:World}{M:Nat->Prop}{G:Gh}:∀{xs:List PV} {vs:List Value},xs.all zk=true->bj w M G xs vs->vs=xs.map qL
 |[],vs,_,hr=>hr.oZ
 |x::xs,vs,h,hr=>by
  obtain⟨v,vs',rfl,r1,r2⟩:=hr.cons_inv;rw[Qq70,Qm]at h;rw[QD,<-ZP h.1 r1,<-Nr h.2 r2]
theorem Nq{w:World}{M:Nat->Prop}{G:Gh}:∀{xs:List PV},xs.all zk=true->bj w M G xs (xs.map qL)
 |[],_=> .nil
 |x::xs,h=>by
  rw[Qq70,Qm]at h;exact .cons (IB h.1) (Nq h.2)
theorem aeP{w w':World}(h:Fr none w w'):∃q os,w'=grow (w.drewN q) os:=by
 refine⟨w'.drawn - w.drawn,w'.heap.extract w.heap.size w'.heap.size,?_⟩;have hs:=h.size
 have hh:w'.heap=w.heap++w'.heap.extract w.heap.size w'.heap.size:=by
  apply Array.ext_getElem?;intro k;rw[Array.getElem?_append];split
  ·rename_i hk;exact h.block k hk (by simp)
  ·rename_i hk;rw[Array.getElem?_extract];split
   ·rw[show w.heap.size+(k - w.heap.size)=k by omega]
   ·exact Array.getElem?_eq_none (by omega)
 have h1:=h.os;have h2:=h.tape;have h3:=h.output;have h4:=h.drawn
 cases w' with|mk hp tp dr os out=>
 cases w with|mk hp' tp' dr' os' out'=>
 simp only at h1 h2 h3 h4 hh;subst h1 h2 h3;unfold grow World.drewN;simp only;rw[<-hh,show dr'+(dr - dr')=dr by omega]
theorem T6{w:World}{b n:Nat}{F:Array Value}{os:Array Obj}{cur:Array Value}{e:TypeId}{fr:Nat×Nat}(hb:w.heap[b]?=some (.cells cur e fr)):
  (grow (putRow id (Sort.ahead w n) b 0 F) os).heap[b]?=some (.cells (putCells id 0 F cur) e fr):=by
 have hlt:b<w.heap.size:=(Q9.1 hb).1;unfold grow putRow mapBlock Sort.ahead;simp only;rw[Array.getElem?_append_left (by simp;exact hlt),Array.getElem?_modify,Qr rfl,hb]
 rfl
theorem ZM{w:World}{b n:Nat}{F:Array Value}{os:Array Obj}:Fr (some b) w (grow (putRow id (Sort.ahead w n) b 0 F) os):=by
 refine⟨rfl,rfl,rfl,?_,fun q hq hne=> ?_,Nat.le_add_right _ _⟩
 ·unfold grow putRow mapBlock Sort.ahead;simp only[Array.size_append,Array.size_modify];omega
 ·have hqb:¬b=q:=fun e=>hne (by rw[e])
  unfold grow putRow mapBlock Sort.ahead;simp only;rw[Array.getElem?_append_left (by simp;exact hq),Array.getElem?_modify,Qs hqb]
theorem RC{F cur:Array Value}(h:F.size<=cur.size):(putCells id 0 F cur).toList=F.toList++cur.toList.drop F.size:=by
 apply List.ext_getElem?;intro i;rw[Array.getElem?_toList];unfold putCells;rw[Array.getElem?_mapIdx,List.getElem?_append];simp only[Array.length_toList,QS,true_and,Nat.zero_add,Nat.sub_zero,id]
 by_cases hi:i<F.size
 ·rw[Qr hi,Array.getElem?_toList,Array.getElem?_eq_getElem (show i<cur.size by omega),Array.getElem?_eq_getElem hi,Qe,Qr hi,getElem!_pos F i hi]
 ·rw[Qs hi,List.getElem?_drop,Array.getElem?_toList,show F.size+(i - F.size)=i by omega]
  cases cur[i]? with
  |none=>rfl
  |some y=>rw[Qe,Qs hi]
def VM(P:Program)(f k:Nat):Prop:=∀(α:Type) [Inhabited α] (eu:α->List Value) (_:∀x,(eu x).length=k) (_:∀x,∀v∈eu x,v.oneCell'=true) (cf:α->α->Int) (_:Go.Sort.SWO (ltOf cf)) (g:Nat) (cb:Array Value) (cp off cap:Nat) (d:Array α) (w:World)
  (_:∀args w,(callFunc g args).run P w= .ok (.enter g args) w) (_:CmpLays P g cb eu k cf cp off d.size w) (_:HoldsK eu k w cp off d) (_:cp<w.heap.size) (_:d.size<4611686018427387904) (_:∀x y,(ltOf cf) x y=false->(ltOf cf) y x=false->x=y),
  Calls P f #[.slice (some ⟨cp,off,none⟩) d.size cap,.func (.func g) #[] cb] w fun e w'=>
   e= .returned (.tuple #[])/\∃n os,w'=sortWorldK eu k w cp off n (d.toList.mergeSort fun x y=> !(ltOf cf) y x).toArray os
def O1(P:Program)(f:Nat):Prop:=∀(α:Type) [Inhabited α] (eu:α->Value) (_:OneCell eu) (cf:α->α->Int) (_:Go.Sort.SWO (ltOf cf)) (g:Nat) (cb:Array Value) (cp off cap:Nat) (d:Array α) (w:World)
  (_:∀args w,(callFunc g args).run P w= .ok (.enter g args) w) (_:CmpLays1 P g cb eu cf cp off d.size w) (_:Holds eu w cp off d) (_:cp<w.heap.size) (_:d.size<4611686018427387904) (_:∀x y,(ltOf cf) x y=false->(ltOf cf) y x=false->x=y),
  Calls P f #[.slice (some ⟨cp,off,none⟩) d.size cap,.func (.func g) #[] cb] w fun e w'=>
   e= .returned (.tuple #[])/\∃n os,w'=sortWorld eu w cp off n (d.toList.mergeSort fun x y=> !(ltOf cf) y x).toArray os
def JB(P:Program)(f:Nat):Prop:=∀(p:Option Addr) (cap:Nat) (fv:Value) (w:World),Calls P f #[.slice p 0 cap,fv] w fun e w'=>e= .returned (.tuple #[])/\w'=w
section
variable {P : Program} {α : Type} [Inhabited α] {pv : α -> List PV} {k : Nat}
def qq(pv:α->List PV)(x:α):List Value:=(pv x).map qL
def VK(P:Program)(f g e k:Nat)(pv:α->List PV)(le:α->α->Bool):Prop:=
 ∀(w:World) (b cap:Nat) (xs:List α) (cur:Array Value),w.heap[b]?=some (.cells cur e (0,0))->xs.length<4611686018427387904->xs.length<=cap->cap<=maxLen->cur.size=cap*k->cur.toList.take (xs.length*k)=xs.flatMap (qq pv)->
  Calls P f #[.slice (some ⟨b,0,none⟩) xs.length cap,.func (.func g) #[] #[]] w fun en w'=>en= .returned (.tuple #[])/\
   ∃cur':Array Value,w'.heap[b]?=some (.cells cur' e (0,0))/\cur'.size=cur.size/\cur'.toList.take (xs.length*k)=(xs.mergeSort le).flatMap (qq pv)/\Fr (some b) w w'
theorem R9(hk:∀x,(pv x).length=k):∀xs:List α,(xs.flatMap (qq pv)).length=xs.length*k
 |[]=>by simp
 |x::xs=>by rw[List.flatMap_cons,QB,R9 hk xs,qq,QC,hk,QE,Qq73,Nat.one_mul,Nat.add_comm]
theorem WG{f g e:Nat}{le:α->α->Bool}(h0:JB P f)(hs:VK P f g e k pv le)(hk0:0<k)(hk:∀x,(pv x).length=k)(hp:∀x,(pv x).all zk=true)(xs:List α)(hsx:xs.length<4611686018427387904):
  Zf P f e k (xs.map pv) [.bG g []] (.eo []) ((xs.mergeSort le).map pv):=by
 intro w X hX v vs hvX ⟨us,hown,hke,hr⟩ hargs;obtain⟨a1,args,rfl,ha1,hargs⟩:=hargs.cons_inv;obtain rfl:=hargs.oZ;obtain⟨cs,rfl,hcs⟩:=ha1.yP;obtain rfl:=hcs.oZ
 have hflat:∀l:List α,(l.map pv).flatten.map qL=l.flatMap (qq pv):=fun l=>by
  induction l with
  |nil=>rfl
  |cons x l ih=>rw[QD,List.flatten_cons,List.map_append,ih,List.flatMap_cons];rfl
 have hplain:∀l:List α,(l.map pv).flatten.all zk=true:=fun l=>by
  induction l with
  |nil=>rfl
  |cons x l ih=>rw[QD,List.flatten_cons,List.all_append,ih,hp x];rfl
 have hus:us=xs.flatMap (qq pv):=by rw[Nr (hplain xs) hr,hflat]
 have hms:(xs.mergeSort le).length=xs.length:=List.length_mergeSort xs
 have hkm:∀l:List α,∀u∈l.map pv,u.length=k:=fun l u hu=>by
  obtain⟨x,_,rfl⟩:=QP.1 hu;exact hk x
 have hlen:(xs.map pv).length=xs.length:=QC ..;have hlen2:((xs.mergeSort le).map pv).length=xs.length:=by rw[QC,hms]
 rw[hlen]at hown
 have hrep:∀w':World,bj w' (Mv v X) dw ((xs.mergeSort le).map pv).flatten ((xs.mergeSort le).flatMap (qq pv)):=fun w'=>by
  rw[<-hflat];exact Nq (hplain _)
 by_cases hx:xs=[]
 ·
  subst hx
  have hv:∃p cap,v= .slice p 0 cap:=by
   rcases hown.2 with⟨h1,_⟩|⟨b,cap,cur,h1,_⟩
   ·exact⟨none,0,h1⟩
   ·exact⟨_,cap,h1⟩
  obtain⟨p,cap,hv⟩:=hv;have:=h0 p cap (.func (.func g) #[] [].toArray) w;rw[<-hv]at this;refine this.mono fun en w' ⟨h1,h2⟩=> ?_
  subst h2;refine⟨_,h1,.eo _ [] rfl (fun i x v h=>by simp at h),⟨us,?_,hkm _,?_⟩,Fr.refl _ _⟩
  ·rw[hlen2];exact hown
  ·rw[hus];have:=hrep w';rw[show([]:List α).mergeSort le=[]from by simp]at this ⊢
   exact this
 ·rcases hown.2 with⟨_,h2⟩|⟨b,cap,cur,rfl,hbase,hb,hn,hcap,hsz,htake⟩
  ·exact absurd (Qq67 h2) hx
  ·refine(hs w b cap xs cur hb hsx hn hcap hsz (by rw[htake,hus])).mono fun en w' ⟨h1,cur',h2,h3,h4,h5⟩=> ?_
   refine⟨_,h1,.eo _ [] rfl (fun i x v h=>by simp at h),⟨(xs.mergeSort le).flatMap (qq pv),⟨?_,.inr ⟨b,cap,cur',by rw[hlen2],hbase,h2,by rw[hlen2];exact hn,hcap,by rw[h3];exact hsz,?_⟩⟩,hkm _,hrep w'⟩,h5⟩
   ·rw[R9 hk,hms,hlen2]
   ·rw[hlen2];exact h4
theorem Lg{eu:α->List Value}(hk:∀x,(eu x).length=k)(hk0:0<k):∀(l:List α) (t:Nat),t<l.length*k->(l.flatMap eu)[t]?=(eu l[t / k]!)[t % k]?
 |[],t,h=>by simp at h
 |x::l,t,h=>by
  rw[List.flatMap_cons]
  by_cases ht:t<k
  ·rw[List.getElem?_append_left (by rw[hk];exact ht),Nat.div_eq_of_lt ht,Nat.mod_eq_of_lt ht]
   rfl
  ·rw[List.getElem?_append_right (by rw[hk];omega),hk]
   have hl:t - k<l.length*k:=by rw[QE,Qq73,Nat.one_mul]at h;omega
   rw[Lg hk hk0 l (t - k) hl,Nat.mod_eq_sub_mod (by omega:t>=k),show t / k=(t - k) / k+1 from Nat.div_eq_sub_div hk0 (by omega)]
   simp
theorem YD{eu:α->List Value}(hk:∀x,(eu x).length=k)(hk0:0<k)(l:List α):(flatK eu k l.toArray).toList=l.flatMap eu:=by
 have hlen:(l.flatMap eu).length=l.length*k:=by
  induction l with
  |nil=>simp
  |cons x l ih=>rw[List.flatMap_cons,QB,ih,hk,QE,Qq73,Nat.one_mul,Nat.add_comm]
 apply List.ext_getElem?;intro t
 by_cases ht:t<l.length*k
 ·rw[Lg hk hk0 l t ht];have hm:t % k<(eu l[t / k]!).length:=by rw[hk];exact Nat.mod_lt _ hk0
  rw[Qv hm];unfold flatK;simp only[Array.toList_map,Array.toList_range,QT,List.size_toArray];rw[List.getElem?_range ht];simp only[Qe];congr 1;rw[show(l.toArray)[t / k]! =l[t / k]! by simp]
  exact getElem!_pos (eu l[t / k]!) (t % k) hm
 ·rw[Qq72 (by rw[Array.length_toList,size_flatK,List.size_toArray];omega),Qq72 (by omega)]
def acM(P:Program)(g:Nat)(val:α->Value)(cf:α->α->Int):Prop:=∀(x y:α) (w:World),Calls P g #[val x,val y] w fun e w'=>e= .returned (.int .i64 (cf x y))/\∃q os,w'=grow (w.drewN q) os
theorem Oj{w:World}{b e cap:Nat}{xs:List α}{cur:Array Value}{F:Array Value}(hb:w.heap[b]?=some (.cells cur e (0,0)))(hF:F.toList=cur.toList.take F.size):Holds id w b 0 F:=by
 intro j hj
 have hc:cur[j]?=some F[j]:=by
  have h1:F.toList[j]?=some F[j]:=by rw[Array.getElem?_toList];exact Array.getElem?_eq_getElem hj
  rw[hF,Qq68,Qr hj,Array.getElem?_toList]at h1;exact h1
 rw[getElem!_pos F j hj];refine⟨?_,?_⟩
 ·unfold World.cell?;simp only[Nat.zero_add,hb];simpa using hc
 ·unfold World.frozen?;simp only[hb];simp
theorem aiE{f g e:Nat}{cf:α->α->Int}(hS:VM P f k)(hk0:0<k)(hk:∀x,(pv x).length=k)(hp:∀x,(pv x).all zk=true)(hO:Go.Sort.SWO (ltOf cf))(hT:∀x y,(ltOf cf) x y=false->(ltOf cf) y x=false->x=y)
  (eg:∀args w,(callFunc g args).run P w= .ok (.enter g args) w) (hc:acM P g (fun x=> .agg (qq pv x).toArray) cf):VK P f g e k pv fun x y=> !(ltOf cf) y x:=by
 intro w b cap xs cur hb hsx hn hcap hsz htake;have hlt:b<w.heap.size:=(Q9.1 hb).1;have hkE:∀x,(qq pv x).length=k:=fun x=>by rw[qq,QC,hk]
 have hflat:∀l:List α,(flatK (qq pv) k l.toArray).toList=l.flatMap (qq pv):=YD hkE hk0;have hcs:CmpLays P g #[] (qq pv) k cf b 0 xs.toArray.size w:=fun m os dk _ x y=>hc x y _
 have hH:HoldsK (qq pv) k w b 0 xs.toArray:=Oj (xs:=xs) (cap:=cap) hb (by rw[hflat,size_flatK,List.size_toArray];exact htake.symm)
 have:=hS α (qq pv) hkE (fun x v hv=>by obtain⟨y,hy,rfl⟩:=QP.1 hv;exact RG (QH.1 (hp x) y hy)) cf hO g #[] b 0 cap xs.toArray w eg hcs hH hlt (by rw[List.size_toArray];exact hsx) hT
 refine this.mono fun en w' ⟨h1,n,os,h2⟩=>⟨h1,?_⟩
 have hms:(xs.mergeSort fun x y=> !(ltOf cf) y x).length=xs.length:=List.length_mergeSort xs
 have hFs:(flatK (qq pv) k (xs.mergeSort fun x y=> !(ltOf cf) y x).toArray).size=xs.length*k:=by rw[size_flatK,List.size_toArray,hms]
 have hFc:(flatK (qq pv) k (xs.mergeSort fun x y=> !(ltOf cf) y x).toArray).size<=cur.size:=by rw[hFs,hsz];exact Qq63 k hn
 subst h2;refine⟨_,T6 hb,by unfold putCells;rw[Array.size_mapIdx],?_,ZM⟩
 rw[RC hFc,<-hFs,<-Array.length_toList,List.take_left,hflat]
theorem aiF{f g e:Nat}{cf:α->α->Int}{p1:α->PV}(hS:O1 P f)(hp:∀x,zk (p1 x)=true)(hO:Go.Sort.SWO (ltOf cf))(hT:∀x y,(ltOf cf) x y=false->(ltOf cf) y x=false->x=y)
  (eg:∀args w,(callFunc g args).run P w= .ok (.enter g args) w) (hc:acM P g (fun x=>qL (p1 x)) cf):VK P f g e 1 (fun x=>[p1 x]) fun x y=> !(ltOf cf) y x:=by
 intro w b cap xs cur hb hsx hn hcap hsz htake;have hlt:b<w.heap.size:=(Q9.1 hb).1
 have hflat:∀l:List α,(l.toArray.map fun x=>qL (p1 x)).toList=l.flatMap (qq fun x=>[p1 x]):=fun l=>by
  induction l with
  |nil=>simp
  |cons x l ih=>
   rw[List.flatMap_cons,<-ih];simp[qq]
 have hcs:CmpLays1 P g #[] (fun x=>qL (p1 x)) cf b 0 xs.toArray.size w:=fun m os dk _ x y=>hc x y _
 have hF:=Oj (xs:=xs) (cap:=cap) (F:=xs.toArray.map fun x=>qL (p1 x)) hb (by rw[hflat,Array.size_map,List.size_toArray,<-Nat.mul_one xs.length];exact htake.symm)
 have hH:Holds (fun x=>qL (p1 x)) w b 0 xs.toArray:=by
  intro j hj;have h1:=hF j (by rw[Array.size_map];exact hj)
  rw[getElem!_pos _ j (by rw[Array.size_map];exact hj),Array.getElem_map]at h1
  rw[getElem!_pos _ j hj];exact h1
 have:=hS α (fun x=>qL (p1 x)) (fun x=>RG (hp x)) cf hO g #[] b 0 cap xs.toArray w eg hcs hH hlt (by rw[List.size_toArray];exact hsx) hT
 refine this.mono fun en w' ⟨h1,n,os,h2⟩=>⟨h1,?_⟩
 have hms:(xs.mergeSort fun x y=> !(ltOf cf) y x).length=xs.length:=List.length_mergeSort xs
 have hput:∀(W:World) (d:Array α),putRow (fun x=>qL (p1 x)) W b 0 d=putRow id W b 0 (d.map fun x=>qL (p1 x)):=fun W d=>by
  unfold putRow;congr 1
  funext c
  unfold putCells;apply Array.ext_getElem?;intro i;simp only[Array.getElem?_mapIdx,Array.size_map,QS,true_and,Nat.zero_add,Nat.sub_zero,id]
  cases c[i]? with
  |none=>rfl
  |some y=>
   simp only[Qe]
   by_cases hi:i<d.size
   ·rw[Qr hi,Qr hi,getElem!_pos d i hi,getElem!_pos _ i (by rw[Array.size_map];exact hi),Array.getElem_map]
   ·rw[Qs hi,Qs hi]
 unfold sortWorld at h2;rw[hput]at h2;have hFs:((xs.mergeSort fun x y=> !(ltOf cf) y x).toArray.map fun x=>qL (p1 x)).size=xs.length*1:=by rw[Array.size_map,List.size_toArray,hms,Nat.mul_one]
 have hFc:((xs.mergeSort fun x y=> !(ltOf cf) y x).toArray.map fun x=>qL (p1 x)).size<=cur.size:=by rw[hFs,hsz];exact Qq63 1 hn
 subst h2;refine⟨_,T6 hb,by unfold putCells;rw[Array.size_mapIdx],?_,ZM⟩
 rw[RC hFc,<-hFs,<-Array.length_toList,List.take_left,hflat]
end
theorem Xz{P:Program}{g:Nat}{α:Type}{va:α->PV}{val:α->Value}{cf:α->α->Int}(hval:∀(x:α) (w:World) (M:Nat->Prop),bm w M dw (va x) (val x))(h:∀x y,Con P g false [] [va x,va y] (.int .i64 (cf x y)) []):acM P g val cf:=by
 intro x y w;have:=h x y w (fun _=>False) (fun b hb=>hb.elim) 0 0 [] [val x,val y] (fun e=>by cases e) (.cons (hval x w _) (.cons (hval y w _) .nil))
 refine this.mono fun en w' ⟨v,rvs,h1,h2,_,h4⟩=> ?_
 rw[h2.fU]at h1;exact⟨h1,aeP h4⟩
end
section
open Go.Proofs Go.Sort
def Js{α:Type}(c:α->α->Option Int)(x y:α):Int:=(c x y).getD 0
structure ado {α:Type} (c:α->α->Option Int):Prop where
 some:∀x y,c x y=some (Js c x y)
 ord:Go.Sort.SWO (ltOf (Js c))
 tot:∀x y,ltOf (Js c) x y=false->ltOf (Js c) y x=false->x=y
open Classical in
 def B4{α:Type}(c:α->α->Option Int)(s:List α):Option (Unit×List α):=if ado c/\s.length<4611686018427387904 then some ((),s.mergeSort fun x y=> !(ltOf (Js c)) y x)else none
section
variable {P : Program} {f g e k : Nat} {T : Ty} {F : T.den × T.den × Unit -> Option Int} (hent : Enters P f) (h0 : JB P f) (hgs : eB.Sound P (U := U) (.fn g [.ty T, .ty T] (.one (Ty.i .i64)) F)) (hi : Inhabited T.den) (hp : ∀ x : T.den, (T.pv x).all zk = true)
 include hent h0 hgs hi hp
theorem ahf(hS:VM P f k)(hk0:0<k)(hk:∀x:T.den,(T.pv x).length=k)(hv:∀x:T.den,dx (U:=U) T x= .agg (T.pv x)):
  eB.Sound P (U:=U) (.rw f e k T [.bG g []] (.many []) fun s a=>B4 (fun x y=>F (x,y,())) s):=by
 refine⟨hent,fun xs a r ys h=> ?_⟩
 have h:B4 (fun x y=>F (x,y,())) xs=some (r,ys):=h
 unfold B4 at h;split at h
 ·rename_i hc;injection h with h
  injection h with _ h2
  subst h2;refine WG h0 (aiE hS hk0 hk hp hc.1.ord hc.1.tot (fun args w=>sk hgs.1 args) ?_) hk0 hk hp xs hc.2
  refine Xz (va:=fun x=> .agg (T.pv x)) (fun x w M=> .agg _ _ (by rw[qq,QC]) fun i y v h1 h2=> ?_) fun x y=> ?_
  ·rw[qq,QT,h1]at h2;injection h2 with h2
   rw[<-h2];exact IB (QH.1 (hp x) y (Q8 h1))
  ·have:=hgs.2 (x,y,()) _ (hc.1.some x y);rw[show hZ (U:=U) [.ty T,.ty T] (x,y,())=[.agg (T.pv x),.agg (T.pv y)]by rw[<-hv x,<-hv y];rfl]at this
   exact this
 ·cases h
theorem XS(hS:O1 P f)(hv:∀x:T.den,T.pv x=[dx (U:=U) T x]):
  eB.Sound P (U:=U) (.rw f e 1 T [.bG g []] (.many []) fun s a=>B4 (fun x y=>F (x,y,())) s):=by
 refine⟨hent,fun xs a r ys h=> ?_⟩
 have h:B4 (fun x y=>F (x,y,())) xs=some (r,ys):=h
 unfold B4 at h;split at h
 ·rename_i hc;injection h with h
  injection h with _ h2
  subst h2;have hp1:∀x:T.den,zk (dx (U:=U) T x)=true:=fun x=>by have:=hp x;rw[hv x]at this;simpa using this
  have hpv:(fun x:T.den=>T.pv x)=fun x=>[dx (U:=U) T x]:=funext hv
  have:=WG (pv:=fun x:T.den=>[dx (U:=U) T x]) (e:=e) h0 (aiF hS hp1 hc.1.ord hc.1.tot (fun args w=>sk hgs.1 args) (Xz (va:=fun x=>dx (U:=U) T x) (fun x w M=>IB (hp1 x)) fun x y=>hgs.2 (x,y,()) _ (hc.1.some x y))) (by omega) (fun x=>rfl) (fun x=>by simpa using hp1 x) xs hc.2
  rw[<-hpv]at this;exact this
 ·cases h
end
end
end Go.TQ
end
noncomputable section
namespace Go.Proofs
open Go.Shelf
def F2:Go.Shelf.Ren:=⟨fun|6=>251|15=>288|14=>287|28=>327|29=>328|20=>319|21=>320|22=>321|23=>322|24=>323|25=>324|26=>325|27=>326|46=>353|47=>354|48=>355|49=>356|50=>357|57=>377|n=>n,fun|22=>28|24=>9|25=>97|3=>3|39=>160|0=>0|53=>229|55=>256|4=>4|46=>271|45=>270|50=>125|5=>5|9=>9|66=>292|70=>296|76=>308|77=>148|n=>n,fun|n=>n⟩
theorem O0:Go.Proofs.SlLaysF.n6 Tryz.prog F2:={
 mixed:=by kernel_rfl
 f6:=⟨Tryz.f251.name,by decide,Tryz.func251.trans (congrArg some (by kernel_rfl))⟩
 f14:=⟨Tryz.f287.name,by decide,Tryz.func287.trans (congrArg some (by kernel_rfl))⟩
 f15:=Tryz.func288.trans (congrArg some (by kernel_rfl))
 f20:=⟨Tryz.f319.name,by decide,Tryz.func319.trans (congrArg some (by kernel_rfl))⟩
 f21:=⟨Tryz.f320.name,by decide,Tryz.func320.trans (congrArg some (by kernel_rfl))⟩
 f22:=⟨Tryz.f321.name,by decide,Tryz.func321.trans (congrArg some (by kernel_rfl))⟩
 f23:=⟨Tryz.f322.name,by decide,Tryz.func322.trans (congrArg some (by kernel_rfl))⟩
 f24:=⟨Tryz.f323.name,by decide,Tryz.func323.trans (congrArg some (by kernel_rfl))⟩
 f25:=⟨Tryz.f324.name,by decide,Tryz.func324.trans (congrArg some (by kernel_rfl))⟩
 f26:=⟨Tryz.f325.name,by decide,Tryz.func325.trans (congrArg some (by kernel_rfl))⟩
 f27:=⟨Tryz.f326.name,by decide,Tryz.func326.trans (congrArg some (by kernel_rfl))⟩
 f28:=Tryz.func327.trans (congrArg some (by kernel_rfl))
 f29:=Tryz.func328.trans (congrArg some (by kernel_rfl))
 f46:=⟨Tryz.f353.name,by decide,Tryz.func353.trans (congrArg some (by kernel_rfl))⟩
 f47:=Tryz.func354.trans (congrArg some (by kernel_rfl))
 f48:=Tryz.func355.trans (congrArg some (by kernel_rfl))
 f49:=⟨Tryz.f356.name,by decide,Tryz.func356.trans (congrArg some (by kernel_rfl))⟩
 f50:=⟨Tryz.f357.name,by decide,Tryz.func357.trans (congrArg some (by kernel_rfl))⟩
 f57:=⟨Tryz.f377.name,by decide,Tryz.func377.trans (congrArg some (by kernel_rfl))⟩
 t0:=Tryz.underlying0
 a0:=Tryz.isAgg0
 z0:=Tryz.sizeOf0
 v0:=Tryz.zeroValue0
 t3:=Tryz.underlying3
 a3:=Tryz.isAgg3
 z3:=Tryz.sizeOf3
 v3:=Tryz.zeroValue3
 t4:=Tryz.underlying4
 a4:=Tryz.isAgg4
 z4:=Tryz.sizeOf4
 v4:=Tryz.zeroValue4
 t5:=Tryz.underlying5
 a5:=Tryz.isAgg5
 z5:=Tryz.sizeOf5
 v5:=Tryz.zeroValue5
 t9:=Tryz.underlying9
 a9:=Tryz.isAgg9
 z9:=Tryz.sizeOf9
 v9:=Tryz.zeroValue9
 t22:=Tryz.underlying28
 a22:=Tryz.isAgg28
 z22:=Tryz.sizeOf28
 v22:=Tryz.zeroValue28
 a24:=Tryz.isAgg9
 z24:=Tryz.sizeOf9
 t25:=Tryz.underlying97
 a25:=Tryz.isAgg97
 z25:=Tryz.sizeOf97
 v25:=Tryz.zeroValue97
 t39:=Tryz.underlying160
 a39:=Tryz.isAgg160
 z39:=Tryz.sizeOf160
 v39:=Tryz.zeroValue160
 t45:=Tryz.underlying270
 a45:=Tryz.isAgg270
 z45:=Tryz.sizeOf270
 v45:=Tryz.zeroValue270
 t46:=Tryz.underlying271
 a46:=Tryz.isAgg271
 z46:=Tryz.sizeOf271
 v46:=Tryz.zeroValue271
 t50:=Tryz.underlying125
 a50:=Tryz.isAgg125
 z50:=Tryz.sizeOf125
 v50:=Tryz.zeroValue125
 t53:=Tryz.underlying229
 a53:=Tryz.isAgg229
 z53:=Tryz.sizeOf229
 v53:=Tryz.zeroValue229
 t55:=Tryz.underlying256
 a55:=Tryz.isAgg256
 z55:=Tryz.sizeOf256
 v55:=Tryz.zeroValue256
 t66:=Tryz.underlying292
 a66:=Tryz.isAgg292
 z66:=Tryz.sizeOf292
 v66:=Tryz.zeroValue292
 t70:=Tryz.underlying296
 a70:=Tryz.isAgg296
 z70:=Tryz.sizeOf296
 v70:=Tryz.zeroValue296
 t76:=Tryz.underlying308
 a76:=Tryz.isAgg308
 z76:=Tryz.sizeOf308
 v76:=Tryz.zeroValue308
 t77:=Tryz.underlying148
 a77:=Tryz.isAgg148
 z77:=Tryz.sizeOf148
 v77:=Tryz.zeroValue148}
def Rc:Go.Shelf.Ren:=⟨fun|6=>378|15=>288|14=>387|28=>327|29=>328|20=>389|21=>390|22=>391|23=>392|24=>393|25=>394|26=>395|27=>396|46=>405|47=>354|48=>355|49=>406|50=>407|57=>411|n=>n,fun|22=>180|24=>33|25=>217|3=>3|39=>160|0=>0|53=>229|55=>256|4=>4|46=>271|45=>270|50=>125|5=>5|9=>9|66=>292|70=>296|76=>308|77=>148|n=>n,fun|n=>n⟩
theorem OZ:Go.Proofs.SlLaysF0.n6 Tryz.prog Rc:={
 mixed:=by kernel_rfl
 f6:=⟨Tryz.f378.name,by decide,Tryz.func378.trans (congrArg some (by kernel_rfl))⟩
 f14:=⟨Tryz.f387.name,by decide,Tryz.func387.trans (congrArg some (by kernel_rfl))⟩
 f15:=Tryz.func288.trans (congrArg some (by kernel_rfl))
 f20:=⟨Tryz.f389.name,by decide,Tryz.func389.trans (congrArg some (by kernel_rfl))⟩
 f21:=⟨Tryz.f390.name,by decide,Tryz.func390.trans (congrArg some (by kernel_rfl))⟩
 f22:=⟨Tryz.f391.name,by decide,Tryz.func391.trans (congrArg some (by kernel_rfl))⟩
 f23:=⟨Tryz.f392.name,by decide,Tryz.func392.trans (congrArg some (by kernel_rfl))⟩
 f24:=⟨Tryz.f393.name,by decide,Tryz.func393.trans (congrArg some (by kernel_rfl))⟩
 f25:=⟨Tryz.f394.name,by decide,Tryz.func394.trans (congrArg some (by kernel_rfl))⟩
 f26:=⟨Tryz.f395.name,by decide,Tryz.func395.trans (congrArg some (by kernel_rfl))⟩
 f27:=⟨Tryz.f396.name,by decide,Tryz.func396.trans (congrArg some (by kernel_rfl))⟩
 f28:=Tryz.func327.trans (congrArg some (by kernel_rfl))
 f29:=Tryz.func328.trans (congrArg some (by kernel_rfl))
 f46:=⟨Tryz.f405.name,by decide,Tryz.func405.trans (congrArg some (by kernel_rfl))⟩
 f47:=Tryz.func354.trans (congrArg some (by kernel_rfl))
 f48:=Tryz.func355.trans (congrArg some (by kernel_rfl))
 f49:=⟨Tryz.f406.name,by decide,Tryz.func406.trans (congrArg some (by kernel_rfl))⟩
 f50:=⟨Tryz.f407.name,by decide,Tryz.func407.trans (congrArg some (by kernel_rfl))⟩
 f57:=⟨Tryz.f411.name,by decide,Tryz.func411.trans (congrArg some (by kernel_rfl))⟩
 t0:=Tryz.underlying0
 a0:=Tryz.isAgg0
 z0:=Tryz.sizeOf0
 v0:=Tryz.zeroValue0
 t3:=Tryz.underlying3
 a3:=Tryz.isAgg3
 z3:=Tryz.sizeOf3
 v3:=Tryz.zeroValue3
 t4:=Tryz.underlying4
 a4:=Tryz.isAgg4
 z4:=Tryz.sizeOf4
 v4:=Tryz.zeroValue4
 t5:=Tryz.underlying5
 a5:=Tryz.isAgg5
 z5:=Tryz.sizeOf5
 v5:=Tryz.zeroValue5
 t9:=Tryz.underlying9
 a9:=Tryz.isAgg9
 z9:=Tryz.sizeOf9
 v9:=Tryz.zeroValue9
 t22:=Tryz.underlying180
 a22:=Tryz.isAgg180
 z22:=Tryz.sizeOf180
 v22:=Tryz.zeroValue180
 t25:=Tryz.underlying217
 a25:=Tryz.isAgg217
 z25:=Tryz.sizeOf217
 v25:=Tryz.zeroValue217
 t39:=Tryz.underlying160
 a39:=Tryz.isAgg160
 z39:=Tryz.sizeOf160
 v39:=Tryz.zeroValue160
 t45:=Tryz.underlying270
 a45:=Tryz.isAgg270
 z45:=Tryz.sizeOf270
 v45:=Tryz.zeroValue270
 t46:=Tryz.underlying271
 a46:=Tryz.isAgg271
 z46:=Tryz.sizeOf271
 v46:=Tryz.zeroValue271
 t50:=Tryz.underlying125
 a50:=Tryz.isAgg125
 z50:=Tryz.sizeOf125
 v50:=Tryz.zeroValue125
 t53:=Tryz.underlying229
 a53:=Tryz.isAgg229
 z53:=Tryz.sizeOf229
 v53:=Tryz.zeroValue229
 t55:=Tryz.underlying256
 a55:=Tryz.isAgg256
 z55:=Tryz.sizeOf256
 v55:=Tryz.zeroValue256
 t66:=Tryz.underlying292
 a66:=Tryz.isAgg292
 z66:=Tryz.sizeOf292
 v66:=Tryz.zeroValue292
 t70:=Tryz.underlying296
 a70:=Tryz.isAgg296
 z70:=Tryz.sizeOf296
 v70:=Tryz.zeroValue296
 t76:=Tryz.underlying308
 a76:=Tryz.isAgg308
 z76:=Tryz.sizeOf308
 v76:=Tryz.zeroValue308
 t77:=Tryz.underlying148
 a77:=Tryz.isAgg148
 z77:=Tryz.sizeOf148
 v77:=Tryz.zeroValue148}
def F1:Go.Shelf.Ren:=⟨fun|6=>382|15=>288|14=>388|28=>327|29=>328|20=>397|21=>398|22=>399|23=>400|24=>401|25=>402|26=>403|27=>404|46=>408|47=>354|48=>355|49=>409|50=>410|57=>412|n=>n,fun|22=>22|24=>3|25=>59|3=>3|39=>160|0=>0|53=>229|55=>256|4=>4|46=>271|45=>270|50=>125|5=>5|9=>9|66=>292|70=>296|76=>308|77=>148|n=>n,fun|n=>n⟩
theorem OY:Go.Proofs.SlLaysF.n6 Tryz.prog F1:={
 mixed:=by kernel_rfl
 f6:=⟨Tryz.f382.name,by decide,Tryz.func382.trans (congrArg some (by kernel_rfl))⟩
 f14:=⟨Tryz.f388.name,by decide,Tryz.func388.trans (congrArg some (by kernel_rfl))⟩
 f15:=Tryz.func288.trans (congrArg some (by kernel_rfl))
 f20:=⟨Tryz.f397.name,by decide,Tryz.func397.trans (congrArg some (by kernel_rfl))⟩
 f21:=⟨Tryz.f398.name,by decide,Tryz.func398.trans (congrArg some (by kernel_rfl))⟩
 f22:=⟨Tryz.f399.name,by decide,Tryz.func399.trans (congrArg some (by kernel_rfl))⟩
 f23:=⟨Tryz.f400.name,by decide,Tryz.func400.trans (congrArg some (by kernel_rfl))⟩
 f24:=⟨Tryz.f401.name,by decide,Tryz.func401.trans (congrArg some (by kernel_rfl))⟩
 f25:=⟨Tryz.f402.name,by decide,Tryz.func402.trans (congrArg some (by kernel_rfl))⟩
 f26:=⟨Tryz.f403.name,by decide,Tryz.func403.trans (congrArg some (by kernel_rfl))⟩
 f27:=⟨Tryz.f404.name,by decide,Tryz.func404.trans (congrArg some (by kernel_rfl))⟩
 f28:=Tryz.func327.trans (congrArg some (by kernel_rfl))
 f29:=Tryz.func328.trans (congrArg some (by kernel_rfl))
 f46:=⟨Tryz.f408.name,by decide,Tryz.func408.trans (congrArg some (by kernel_rfl))⟩
 f47:=Tryz.func354.trans (congrArg some (by kernel_rfl))
 f48:=Tryz.func355.trans (congrArg some (by kernel_rfl))
 f49:=⟨Tryz.f409.name,by decide,Tryz.func409.trans (congrArg some (by kernel_rfl))⟩
 f50:=⟨Tryz.f410.name,by decide,Tryz.func410.trans (congrArg some (by kernel_rfl))⟩
 f57:=⟨Tryz.f412.name,by decide,Tryz.func412.trans (congrArg some (by kernel_rfl))⟩
 t0:=Tryz.underlying0
 a0:=Tryz.isAgg0
 z0:=Tryz.sizeOf0
 v0:=Tryz.zeroValue0
 t3:=Tryz.underlying3
 a3:=Tryz.isAgg3
 z3:=Tryz.sizeOf3
 v3:=Tryz.zeroValue3
 t4:=Tryz.underlying4
 a4:=Tryz.isAgg4
 z4:=Tryz.sizeOf4
 v4:=Tryz.zeroValue4
 t5:=Tryz.underlying5
 a5:=Tryz.isAgg5
 z5:=Tryz.sizeOf5
 v5:=Tryz.zeroValue5
 t9:=Tryz.underlying9
 a9:=Tryz.isAgg9
 z9:=Tryz.sizeOf9
 v9:=Tryz.zeroValue9
 t22:=Tryz.underlying22
 a22:=Tryz.isAgg22
 z22:=Tryz.sizeOf22
 v22:=Tryz.zeroValue22
 a24:=Tryz.isAgg3
 z24:=Tryz.sizeOf3
 t25:=Tryz.underlying59
 a25:=Tryz.isAgg59
 z25:=Tryz.sizeOf59
 v25:=Tryz.zeroValue59
 t39:=Tryz.underlying160
 a39:=Tryz.isAgg160
 z39:=Tryz.sizeOf160
 v39:=Tryz.zeroValue160
 t45:=Tryz.underlying270
 a45:=Tryz.isAgg270
 z45:=Tryz.sizeOf270
 v45:=Tryz.zeroValue270
 t46:=Tryz.underlying271
 a46:=Tryz.isAgg271
 z46:=Tryz.sizeOf271
 v46:=Tryz.zeroValue271
 t50:=Tryz.underlying125
 a50:=Tryz.isAgg125
 z50:=Tryz.sizeOf125
 v50:=Tryz.zeroValue125
 t53:=Tryz.underlying229
 a53:=Tryz.isAgg229
 z53:=Tryz.sizeOf229
 v53:=Tryz.zeroValue229
 t55:=Tryz.underlying256
 a55:=Tryz.isAgg256
 z55:=Tryz.sizeOf256
 v55:=Tryz.zeroValue256
 t66:=Tryz.underlying292
 a66:=Tryz.isAgg292
 z66:=Tryz.sizeOf292
 v66:=Tryz.zeroValue292
 t70:=Tryz.underlying296
 a70:=Tryz.isAgg296
 z70:=Tryz.sizeOf296
 v70:=Tryz.zeroValue296
 t76:=Tryz.underlying308
 a76:=Tryz.isAgg308
 z76:=Tryz.sizeOf308
 v76:=Tryz.zeroValue308
 t77:=Tryz.underlying148
 a77:=Tryz.isAgg148
 z77:=Tryz.sizeOf148
 v77:=Tryz.zeroValue148}
end Go.Proofs
namespace Go.Proofs.YtjbfdglebjnelaaGreat
open Go.TQ Go.Proofs
namespace C9
theorem enters:Go.TQ.Enters Tryz.prog 251:=⟨_,Tryz.func251,by kernel_rfl,by kernel_rfl⟩
theorem none:JB Tryz.prog 251:=fun p cap fv w=>AnyF.slices_SortFunc_none (P:=Tryz.prog) (ρ:=F2) {O0 with} p cap fv w
theorem JO:O1 Tryz.prog 251:=fun α _ eu h1 cf hO g cb cp off cap d w eg hc hH hb hsz hT=>Any.slices_SortFunc_total O0 eu h1 cf hO g cb cp off cap d w eg hc hH hb hsz hT
end C9
namespace MV
theorem enters:Go.TQ.Enters Tryz.prog 378:=⟨_,Tryz.func378,by kernel_rfl,by kernel_rfl⟩
theorem none:JB Tryz.prog 378:=fun p cap fv w=>AnyF.slices_SortFunc_none OZ p cap fv w
theorem JO:VM Tryz.prog 378 2:=fun α _ eu hk h1 cf hO g cb cp off cap d w eg hc hH hb hsz hT=>AnyQ.slices_SortFunc_total OZ 2 Tryz.isAgg33 Tryz.sizeOf33 eu hk h1 cf hO g cb cp off cap d w eg hc hH hb hsz hT
end MV
namespace MU
theorem enters:Go.TQ.Enters Tryz.prog 382:=⟨_,Tryz.func382,by kernel_rfl,by kernel_rfl⟩
theorem none:JB Tryz.prog 382:=fun p cap fv w=>AnyF.slices_SortFunc_none (P:=Tryz.prog) (ρ:=F1) {OY with} p cap fv w
theorem JO:O1 Tryz.prog 382:=fun α _ eu h1 cf hO g cb cp off cap d w eg hc hH hb hsz hT=>Any.slices_SortFunc_total OY eu h1 cf hO g cb cp off cap d w eg hc hH hb hsz hT
end MU
end Go.Proofs.YtjbfdglebjnelaaGreat
end
