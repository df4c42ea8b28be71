/-
  Texts made small by a program (see NOTES). Conditions: those that each theorem names.
-/
import Derived.Test.YtjbfdglebjnelaaGreatSlotWaitsMb
import Derived.KernelRfl
import Derived.Laws.CopyRow
import Derived.Laws.Externs
import Derived.Lib.Overlaps
import Derived.Lib.AppendZerosOnto
import Derived.Laws.NewBlocks
import Derived.Test.YtjbfdglebjnelaaGreatProg
import Derived.Shelf.Spec.SlicesInsert
import Derived.Shelf.SlSortCmp.NoneTotal
set_option linter.unusedVariables false
set_option linter.unusedSimpArgs false
set_option linter.unusedSectionVars false
set_option maxHeartbeats 2000000
noncomputable section
namespace Go.TQ
section
open Go.RowKit
def mX{σ ρ:Type}(step:σ->Option (σ⊕ρ)):Nat->σ->Option ρ
 |0,_=>none
 |n+1,s=>match step s with
  |none=>none
  |some (.inr r)=>some r
  |some (.inl s')=>mX step n s'
theorem Aa{σ ρ:Type}{step:σ->Option (σ⊕ρ)}{r:ρ}:∀{n m:Nat} {s:σ},n<=m->mX step n s=some r->mX step m s=some r
 |0,_,_,_,h=>by cases h
 |n+1,0,_,hnm,_=>by omega
 |n+1,m+1,s,hnm,h=>by
  simp only[mX]at h ⊢;split at h
  ·cases h
  ·exact h
  ·exact Aa (by omega) h
theorem OD{σ ρ:Type}{step:σ->Option (σ⊕ρ)}{r r':ρ}{n m:Nat}{s:σ}(h:mX step n s=some r)(h':mX step m s=some r'):r=r':=by
 have h1:=Aa (Nat.le_max_left n m) h;have h2:=Aa (Nat.le_max_right n m) h';rw[h1]at h2;injection h2
open Classical in
 def aD{σ ρ:Type}(step:σ->Option (σ⊕ρ))(s:σ):Option ρ:=
 if h:∃r,∃n,mX step n s=some r then some (Classical.choose h)else none
theorem vS{σ ρ:Type}{step:σ->Option (σ⊕ρ)}{s:σ}{r:ρ}(h:aD step s=some r):∃n,mX step n s=some r:=by
 unfold aD at h;split at h
 ·rename_i hx;injection h with h
  obtain⟨n,hn⟩:=Classical.choose_spec hx;exact⟨n,by rw[hn,h]⟩
 ·cases h
theorem DZ{σ ρ:Type}{step:σ->Option (σ⊕ρ)}{s:σ}{r:ρ}{n:Nat}(h:mX step n s=some r):aD step s=some r:=by
 unfold aD;have hx:∃r,∃n,mX step n s=some r:=⟨r,n,h⟩;rw[dif_pos hx];obtain⟨m,hm⟩:=Classical.choose_spec hx;rw[OD hm h]
theorem o0{σ ρ:Type}(step:σ->Option (σ⊕ρ))(s:σ):aD step s=match step s with|none=>none|some (.inr r)=>some r|some (.inl s')=>aD step s':=by
 cases hs:step s with
 |none=>
  cases h:aD step s with
  |none=>rfl
  |some r=>
   obtain⟨n,hn⟩:=vS h
   cases n with
   |zero=>cases hn
   |succ n=>simp[mX,hs]at hn
 |some x=>
  cases x with
  |inr r=>exact DZ (n:=1) (by simp[mX,hs])
  |inl s'=>
   simp only
   cases h':aD step s' with
   |some r=>
    obtain⟨n,hn⟩:=vS h';exact DZ (n:=n+1) (by simp only[mX,hs];exact hn)
   |none=>
    cases h:aD step s with
    |none=>rfl
    |some r=>
     obtain⟨n,hn⟩:=vS h
     cases n with
     |zero=>cases hn
     |succ n=>simp only[mX,hs]at hn;rw[DZ hn]at h';cases h'
open Classical in
 def both{ρ:Type}(x y:Option ρ):Option ρ:=if x=y then x else none
theorem O7{ρ:Type}{x y:Option ρ}{r:ρ}(h:both x y=some r):x=some r/\y=some r:=by
 unfold both at h;split at h
 ·rename_i e;exact⟨h,e▸h⟩
 ·cases h
@[simp] theorem Xf {ρ:Type} (x:Option ρ):both x x=x:=Qr rfl
def bu{σ ρ:Type}(j:σ->Option ρ)(f:(σ->Option ρ)->Option ρ):Option ρ:=f j
def kb{α σ ρ:Type}(step:Nat->α->σ->Option (σ⊕ρ))(fin:σ->Option ρ):List α->σ->Option ρ
 |[],s=>fin s
 |a::l,s=>match step l.length a s with
  |none=>none
  |some (.inr r)=>some r
  |some (.inl s')=>kb step fin l s'
section
variable {U : TU}
inductive SA (U:TU) where
 |skip
 |sD (rs:RS U)
 |pk (un:List (Nat×Nat)) (rs:RS U)
 |seq (x y:SA U)
 |join (J:JS U) (x y:SA U)
 |cond (c:aT) (x y:SA U)
 |block (id:Nat) (x:SA U)
 |loop (J:JS U) (x:SA U)
 |NL (n:Nat) (x:SA U)
 |back (J:JS U) (f k:Nat) (nE:Option Nat) (T:U.Ty) (tg p0 p1:Nat) (x y:SA U)
 |exit (id:Nat)
 |ret
 |ps (p:Ps U) (x:SA U)
 |Dk (p:Ps U) (x:SA U)
def SA.erase:SA U->SC
 | .skip=> .skip
 | .sD rs=> .sD rs.flat
 | .pk un rs=> .pk un rs.flat
 | .seq x y=> .seq x.erase y.erase
 | .join _ x y=> .seq x.erase y.erase
 | .cond c x y=> .cond c x.erase y.erase
 | .block id x=> .block id x.erase
 | .loop _ x=> .loop x.erase
 | .NL _ x=> .loop x.erase
 | .back _ _ _ _ _ tg p0 p1 x y=> .AA (.tmp tg) [p0,p1] x.erase y.erase
 | .exit id=> .exit id
 | .ret=> .ret
 | .ps _ x=>x.erase
 | .Dk _ x=>x.erase
def SA.cU:SA U->Bool
 | .sD rs=>rs.cU
 | .pk _ rs=>rs.cU
 | .seq x y=>x.cU&&y.cU
 | .join _ x y=>x.cU&&y.cU
 | .cond c x y=>c.cU&&x.cU&&y.cU
 | .block _ x=>x.cU
 | .loop _ x=>x.cU
 | .NL _ x=>x.cU
 | .back _ _ _ _ _ _ _ _ x y=>x.cU&&y.cU
 | .ps _ x=>x.cU
 | .Dk _ x=>x.cU
 |_=>true
variable (K : TK U)
def xz(Γ:List (di U)){ρ:Type}(W:WS)(base:Nat):RS U->(i:Nat)->(S:aL U)->(k:aL U->List qv->Option ρ)->Option ρ
 | .nil,_,S,k=>k S []
 | .op o r,i,S,k=>MZ K Γ W (base+i) S o fun x wr=>xz Γ W base r (i+1) (S.cg o.d x wr) fun S' fs=>k S' (⟨o.d,o.bw,yU (base+i) S.st o,wr.map (·.1)⟩::fs)
 | .vp t r,i,S,k=>(match S.env t with
  | .bool b=>bif b then xz Γ W base r i (S.cg (some t) (.bool true) none) k else xz Γ W base r i (S.cg (some t) (.bool false) none) k
  | .undef=>xz Γ W base r i S k
  |_=>none)
 |_,_,_,_=>none
def Br(F:List Nat)(ds:List Nat):Bool:=ds.all fun t=> !fN t F
def aL.more(S:aL U)(n:Nat):aL U:={env:=S.env,H:=S.H,N:=S.N+n}
def aL.eI(S:aL U)(D:List Nat):aL U:={env:=fun t=>(match fN t D with|true=> .any|false=>S.env t),H:=S.H,N:=S.N}
def MD(U:TU)(T:U.Ty):Option Nat->Bool
 |none=> !U.agg T
 |some n=>U.agg T&&Nat.beq n (U.size T)
def IF{ρ:Type}(f:(aL U->Option ρ)->aL U->Option ρ):Nat->aL U->Option ρ
 |0,_=>none
 |n+1,S=>f (IF f n) S
 def lM(Γ:List (di U)):SA U->{ρ:Type}->(F:List Nat)->(W:WS)->(k:Exit->aL U->Option ρ)->(S:aL U)->Option ρ
 | .skip,_,_,_,k,S=>k .normal S
 | .sD rs,_,F,W,k,S=>(match Br F rs.gZ with
  |true=>nL K Γ rs W S.N (S.more rs.len) fun S'=>k .normal S'
  |false=>none)
 | .pk un rs,_,F,W,k,S=>(match Br F rs.gZ with
  |true=>xz K Γ W S.N rs 0 (S.more rs.len) fun S' fs=>(match un.all (fun p=>match fs[p.1]?,fs[p.2]? with|some a,some b=>wY a b|_,_=>false)with
   |true=>k .normal S'
   |false=>none)
  |false=>none)
 | .seq x y,_,F,W,k,S=>lM Γ x F W (fun e S'=>match e with
  | .normal=>lM Γ y F W k S'
  |e=>k e S') S
 | .join J x y,_,F,W,k,S=>(match pt S J F W with
  |true=>bu (fun v=>lM Γ y F W k (unpack K S J v)) fun j=>lM Γ x J.dz (some (S.N,dR J.items)) (fun e S'=>match e with
   | .normal=>(match pack K S' J.items with|some v=>j v|none=>none)
   |e=>k e S') S
  |false=>none)
 | .cond c x y,_,F,W,k,S=>(match c.bZ S with
  | .bool b=>bif b then lM Γ x F W k S else lM Γ y F W k S
  | .fb=>both (lM Γ x F W k S) (lM Γ y F W k S)
  |_=>none)
 | .block id x,_,F,W,k,S=>lM Γ x F W (fun e S'=>match e with
  | .exit i=>(match Nat.beq i id with|true=>k .normal S'|false=>k (.exit i) S')
  |e=>k e S') S
 | .loop J x,_,F,W,k,S=>(match pt S J F W with
  |true=>(match pack K S J.items with
   |some v0=>aD (fun v=>lM Γ x J.dz (some (S.N,dR J.items)) (fun e S'=>match e with
    | .normal=>(match pack K S' J.items with|some v=>some (Sum.inl v)|none=>none)
    |e=>(k e S').map Sum.inr) (unpack K S J v)) v0
   |none=>none)
  |false=>none)
 | .NL n x,_,F,W,k,S=>IF (fun ih S=>lM Γ x F W (fun e S'=>match e with| .normal=>ih S'|e=>k e S') S) n S
 | .back J f kk nE T tg p0 p1 x y,_,F,W,k,S=>
  let D:=SC.oO (.AA (.tmp tg) [p0,p1] x.erase y.erase)
  (match FH f kk nE Γ&&Nat.beq (U.size T) kk&&MD U T nE&&fN tg J.dz&&Br J.dz D&&Br F D&&pt (S.eI D) J F W with
  |true=>(match S.env tg with
   | .bj f' [.ref [.sl T' xs']]=>(match Nat.beq f' f with
    |true=>(match uz T' T xs' with
     |some xs=>(match pack K (S.eI D) J.items with
      |some v0=>kb (fun m a v=>lM Γ x J.dz (some (S.N,dR J.items)) (fun e S1=>match e with
       | .normal=>lM Γ y J.dz (some (S.N,dR J.items)) (fun e S'=>match e with
        | .normal=>(match pack K (S'.eI D) J.items with|some v=>some (Sum.inl v)|none=>none)
        | .ret=>(k .ret (S'.eI D)).map Sum.inr
        | .exit i=>(k (.exit i) (S'.eI D)).map Sum.inr
        |_=>none) S1
       |_=>none) {(unpack K (S.eI D) J v)with env:=fD (fD (unpack K (S.eI D) J v).env p0 (.int .i64 m)) p1 (q8 K T a)}) (fun v=>k .normal (unpack K (S.eI D) J v)) xs.reverse v0
      |none=>none)
     |none=>none)
    |false=>none)
   |_=>none)
  |false=>none)
 | .exit id,_,_,_,k,S=>k (.exit id) S
 | .ret,_,_,_,k,S=>k .ret S
 | .ps p x,_,F,W,k,S=>(match(p.zO S).all (okW W)&&Br F p.tmps with
  |true=>(match p.run S with|some S'=>lM Γ x F W k S'|none=>none)
  |false=>none)
 | .Dk p x,_,F,W,k,S=>lM Γ x F W (fun e S'=>match e with
  | .normal=>(match(p.zO S').all (okW W)&&Br F p.tmps with
   |true=>(match p.run S' with|some S1=>k .normal S1|none=>none)
   |false=>none)
  |e=>k e S') S
structure gD (F:List Nat) (W:WS) (S S':aL U):Prop where
 env:∀t∈F,S'.env t=S.env t
 H:∀id,okW W id=false->S'.H id=S.H id
 N:S.N<=S'.N
theorem gD.refl(F:List Nat)(W:WS)(S:aL U):gD F W S S:=⟨fun _ _=>rfl,fun _ _=>rfl,QI _⟩
theorem gD.trans{F:List Nat}{W:WS}{S S' S'':aL U}(h:gD F W S S')(h':gD F W S' S''):gD F W S S'':=
 ⟨fun t ht=>(h'.env t ht).trans (h.env t ht),fun id hid=>(h'.H id hid).trans (h.H id hid),QK h.N h'.N⟩
theorem vC.toC{D F:List Nat}{W:WS}{S S':aL U}(h:vC D W S S')(ho:Br F D=true):gD F W S S':=
 ⟨fun t ht=>h.env t (fun hd=>by have h1:=QH.1 ho t hd;rw[dx.2 ht]at h1;cases h1),h.H,h.N⟩
theorem gD.more{F:List Nat}{W:WS}{S S':aL U}{n:Nat}(h:gD F W (S.more n) S'):gD F W S S':=
 ⟨h.env,h.H,QK (Nat.le_add_right _ _) h.N⟩
variable {K}
variable {P : Program} {nt : Nat}
theorem LV{sc:SC}{Q:Exit->St->Prop}{S S':St}(hw:∀(E:En) (a:Act) (w:World) (L:Nat->Value),Rel E S a w L->∃L',Rel E S' a w L')(h:VS P nt sc Q S'):VS P nt sc Q S:=
 fun c hs hc E hE hk a w L hr=>by
  obtain⟨L',h'⟩:=hw E a w L hr;exact h c hs hc E hE hk a w L' h'
theorem Ur{sc:SC}{Q Q':Exit->St->Prop}{S:St}(h:VS P nt sc Q' S)(hq:∀e A,Q' e A->∃A',Q e A'/\∀(E:En) (a:Act) (w:World) (L:Nat->Value),Rel E A a w L->∃L',Rel E A' a w L'):VS P nt sc Q S:=
 fun c hs hc E hE hk a w L hr=>wpIn_mono (h c hs hc E hE hk a w L hr) fun _ _ _ ⟨S',L',h1,h2⟩=>by
  obtain⟨A',h3,h4⟩:=hq _ _ h2;obtain⟨L'',h5⟩:=h4 _ _ _ _ h1;exact⟨A',L'',h5,h3⟩
theorem Uq{Γ:List (di U)}(hΓ:qx P Γ){rs:RS U}{W:WS}{ρ:Type}{k:aL U->Option ρ}{r:ρ}{S:aL U}(hok:rs.cU=true)(hr:nL K Γ rs W S.N (S.more rs.len) k=some r){Q:Exit->St->Prop}
  (h:∀S',vC rs.gZ W (S.more rs.len) S'->k S'=some r->Q .normal S'.st):VS P nt (.sD rs.flat) Q S.st:=by
 intro c hs hc
 cases c with
 |region id ops d=>
  cases d with
  |true=>simp only[ay]at hc;(try split at hc)<;>(try split at hc)<;>(try split at hc)<;>cases hc
  |false=>
   simp only[ay]at hc;split at hc
   ·rename_i gs' hgs;split at hc
    ·rename_i hd;injection hc with hc
     injection hc with hc
     subst hc;intro E hE hk a w L hrel;refine wpIn_region_list ?_;have h0:Rel E (S.more rs.len).st a w L:=hrel.room rs.len;have:=lY (K:=K) (E:=E) hΓ (ops:=ops) (Q:=fun e a' w'=>∃S' L',Rel E S' a' w' L'/\Q e S') rs W S.N (S.more rs.len) k r ops.toList [] a w L hok hgs h0 (QI _) (O6 hE hk (JO hd)) hr (fun S' a' w' L' hf h' hk'=>⟨S'.st,L',h',h S' hf hk'⟩)
     simpa using this
    ·cases hc
   ·cases hc
 |seq x y=>simp only[ay]at hc;split at hc<;>cases hc
 |cond c x y=>simp only[ay]at hc;split at hc<;>cases hc
 |block id c=>simp only[ay,Qb]at hc;obtain⟨_,_,hc⟩:=hc;cases hc
 |loop c=>simp only[ay,Qb]at hc;obtain⟨_,_,hc⟩:=hc;cases hc
 |rangeFunc g ps x y=>simp only[ay]at hc;split at hc<;>(try split at hc)<;>cases hc
 |_=>simp only[ay]at hc<;>cases hc
theorem ET{Γs Γs':Nat->ly}{base:Nat}:∀(l:List (Nat×SG)) (S:St),(∀p∈l,Γs p.1=Γs' p.1)->lq Γs base l S=lq Γs' base l S
 |[],_,_=>rfl
 |(i,g)::l,S,h=>by
  simp only[lq,h (i,g) (by simp)]
  split
  ·rfl
  ·rename_i p hp;rw[ET l _ fun q hq=>h q (Qy _ hq)]
theorem qA{Γ:List (di U)}(hΓ:qx P Γ){W:WS}{base:Nat}{ρ:Type}{r:ρ}:∀(rs:RS U) (i:Nat) (S:aL U) (k:aL U->List qv->Option ρ),rs.cU=true->xz K Γ W base rs i S k=some r->
  ∃(Γs:Nat->ly) (S':aL U) (fs:List qv),(∀j,kY P (Γs j))/\lq Γs base ((rs.flat.zipIdx i).map fun p=>(p.2,p.1)) S.st=some (S'.st,fs)/\vC rs.gZ W S S'/\k S' fs=some r
 | .nil,i,S,k,_,h=>⟨fun _ _=>none,S,[],fun _=>MB,rfl,vC.refl _ _ _,h⟩
 | .op o rs,i,S,k,hok,h=>by
  simp only[RS.cU,Qm]at hok;simp only[xz]at h;obtain⟨Γ',x,wr,h1,h2,h3,h4⟩:=FP hΓ hok.1 h;obtain⟨Γs,S',fs,h5,h6,h7,h8⟩:=qA hΓ rs (i+1) _ _ hok.2 h4;refine⟨fun j=>if j=i then Γ' else Γs j,S',_,fun j=> ?_,?_,?_,h8⟩
  ·simp only;split
   ·exact h1
   ·exact h5 j
  ·simp only[RS.flat,List.zipIdx_cons,QD,lq,Qt,h2]
   have:lq (fun j=>if j=i then Γ' else Γs j) base ((rs.flat.zipIdx (i+1)).map fun p=>(p.2,p.1)) (S.st.cg o.d x.pv (wr.map ik))=some (S'.st,fs):=by
    rw[<-A8,<-h6];refine ET _ _ fun p hp=> ?_
    obtain⟨q,hq,rfl⟩:=QP.1 hp;have:=List.mem_zipIdx hq;simp only;rw[Qs (by omega)]
   rw[this];simp only[yl]
   cases wr with
   |none=>rfl
   |some p=>rfl
  ·refine(LR S W o.d x wr h3).trans h7 fun t ht=> ?_
   simp only[RS.gZ]at ht
   cases hdd:o.d with
   |none=>rw[hdd]at ht;exact⟨by simp,ht⟩
   |some d=>rw[hdd]at ht;simp only[QA,not_or]at ht;exact⟨by simpa using fun e=>ht.1 e,ht.2⟩
 | .vp t rs,i,S,k,hok,h=>by
  simp only[xz]at h;split at h
  ·rename_i b hb
   cases b with
   |true=>rw[Qk,xf hb]at h;exact qA hΓ rs i S k hok h
   |false=>rw[Ql,xf hb]at h;exact qA hΓ rs i S k hok h
  ·exact qA hΓ rs i S k hok h
  ·cases h
 | .ps _ _,_,_,_,_,h=>by cases h
 | .ite _ _ _ _ _ _ _ _,_,_,_,_,h=>by cases h
theorem Un{c:Code}{Q:Exit->St->Prop}{S:St}(I:Nat->St->Prop)(m0:Nat){S0:St}(hw0:∀(E:En) (a:Act) (w:World) (L:Nat->Value),Rel E S a w L->∃L',Rel E S0 a w L')(h0:I m0 S0)
  (hr:∀m S,I m S->V P nt c (fun e S'=>match e with| .normal=>∃m',m'<m/\∃S'',(∀(E:En) (a:Act) (w:World) (L:Nat->Value),Rel E S' a w L->∃L',Rel E S'' a w L')/\I m' S''|e=>Q e S') S):V P nt (.loop c) Q S:=fun E hE hk a w L hrel=>by
 refine wpIn_loop_ghost (fun m a w=>∃S L,I m S/\Rel E S a w L) m0 ?_ ?_
 ·obtain⟨L',h'⟩:=hw0 E a w L hrel;exact⟨S0,L',h0,h'⟩
 rintro m a w ⟨S1,L1,hI,h1⟩;refine wpIn_mono (hr m S1 hI E hE hk a w L1 h1) ?_;rintro e a' w' ⟨S',L',h2,h3⟩
 cases e with
 |normal=>
  obtain⟨m',hlt,S'',hw,hI'⟩:=h3;obtain⟨L'',h4⟩:=hw E a' w' L' h2;exact⟨m',hlt,S'',L'',hI',h4⟩
 |exit i=>exact⟨S',L',h2,h3⟩
 |goto l=>exact⟨S',L',h2,h3⟩
 |ret=>exact⟨S',L',h2,h3⟩
 |panic c=>exact⟨S',L',h2,h3⟩
 |outgrown=>exact⟨S',L',h2,h3⟩
theorem Kk{x:SC}{Q:Exit->St->Prop}{S:St}(I:Nat->St->Prop)(m0:Nat){S0:St}(hw0:∀(E:En) (a:Act) (w:World) (L:Nat->Value),Rel E S a w L->∃L',Rel E S0 a w L')(h0:I m0 S0)
  (hr:∀m S,I m S->VS P nt x (fun e S'=>match e with| .normal=>∃m',m'<m/\∃S'',(∀(E:En) (a:Act) (w:World) (L:Nat->Value),Rel E S' a w L->∃L',Rel E S'' a w L')/\I m' S''|e=>Q e S') S):VS P nt (.loop x) Q S:=by
 intro c hs hc
 cases c with
 |loop p=>
  simp only[ay,Qb]at hc;obtain⟨x',hx,hc⟩:=hc;injection hc with h1
  subst h1;exact Un I m0 hw0 h0 (fun m S hI=>hr m S hI p hs hx)
 |region id ops d=>cases d<;>simp only[ay]at hc<;>(try split at hc)<;>(try split at hc)<;>(try split at hc)<;>cases hc
 |seq x y=>simp only[ay]at hc;split at hc<;>cases hc
 |cond c x y=>simp only[ay]at hc;split at hc<;>cases hc
 |block id c=>simp only[ay,Qb]at hc;obtain⟨_,_,hc⟩:=hc;cases hc
 |rangeFunc g ps x y=>simp only[ay]at hc;split at hc<;>(try split at hc)<;>cases hc
 |_=>simp only[ay]at hc<;>cases hc
theorem DY{S:aL U}{J:JS U}{F:List Nat}{W:WS}(hchk:pt S J F W=true)(v:nS J.items):gD F W S (unpack K S J v):=by
 simp only[pt,Qm,QH]at hchk;obtain⟨⟨⟨⟨⟨⟨hnd,hids⟩,hokv⟩,hkeep⟩,hobj⟩,hF⟩,hW⟩:=hchk;refine⟨fun t ht=> ?_,fun id hid=> ?_,?_⟩
 ·have hk:=dx.1 (hF t ht);have hns:fN t (slotsOf J.items)=false:=by simpa using(hkeep t hk).2
  rcases uD (K:=K) (S.base J.dz) J.items v t with⟨⟨i,d⟩,hmem,h1,h2⟩|⟨_,h2⟩
  ·exact absurd (xH (iY hmem) h1) (mL hns)
  ·rw[show(unpack K S J v).env t=_ from h2,An,Qr hk]
 ·have hlt:id<S.N:=by
   cases W with
   |none=>cases hW
   |some q=>
    obtain⟨n,l⟩:=q;simp only at hW;simp only[okW,Qq73]at hid;have h1:=QG hW;have h2:¬n<=id:=fun hle=>by rw[Nat.ble_eq_true_of_le hle]at hid;cases hid.1
    omega
  rcases yE (K:=K) (S.base J.dz) J.items v id hnd with⟨⟨i,d⟩,hmem,h1,h2⟩|⟨_,h2⟩
  ·have:=(hids id (pM (iY hmem) h1)).2;rw[hid]at this;cases this
  ·rw[show(unpack K S J v).H id=_ from h2,F0,Qr hlt]
 ·rw[unpack,yD,FZ];exact QI _
theorem Bv{S S1:aL U}{J:JS U}{F:List Nat}{W:WS}(hchk:pt S J F W=true){v:nS J.items}(hp:pack K S1 J.items=some v)(hf:gD J.dz (some (S.N,dR J.items)) S S1):
  ∀(E:En) (a:Act) (w:World) (L:Nat->Value),Rel E S1.st a w L->∃L',Rel E (unpack K S J v).st a w L':=by
 intro E a w L h;refine⟨L,Rel.meet hchk hp hf.env (fun id hid hni=>hf.H id ?_) hf.N h⟩
 simp only[okW,Qq73];refine⟨?_,?_⟩
 ·cases hb:Nat.ble S.N id with
  |false=>rfl
  |true=>have:=QG hb;omega
 ·cases hb:fN id (dR J.items)with
  |false=>rfl
  |true=>exact absurd (dx.1 hb) hni
theorem zx(S:aL U)(D:List Nat):(S.eI D).st=S.st.pP D:=by
 unfold aL.eI aL.st St.pP;congr 1
 funext t
 simp only
 by_cases h:t∈D
 ·rw[Qr h,dx.2 h];rfl
 ·rw[Qs h]
  cases hb:fN t D with
  |true=>exact absurd (dx.1 hb) h
  |false=>rfl
theorem Af{F D:List Nat}(h:Br F D=true)(W:WS)(S:aL U):gD F W S (S.eI D):=
 ⟨fun t ht=>by
  have hn:fN t D=false:=by
   cases hb:fN t D with
   |false=>rfl
   |true=>
    have:=QH.1 h t (dx.1 hb);rw[dx.2 ht]at this;cases this
  simp only[aL.eI,hn],fun _ _=>rfl,QI _⟩
theorem Jj{S:aL U}{J:JS U}{F:List Nat}{W:WS}(hchk:pt S J F W=true)(v:nS J.items){S':aL U}(hf:gD J.dz (some (S.N,dR J.items)) (unpack K S J v) S'):gD F W S S':=by
 have hm:=DY (K:=K) hchk v;refine hm.trans ?_;simp only[pt,Qm,QH]at hchk;obtain⟨⟨⟨⟨⟨⟨hnd,hids⟩,hokv⟩,hkeep⟩,hobj⟩,hF⟩,hW⟩:=hchk;refine⟨fun t ht=>hf.env t (dx.1 (hF t ht)),fun id hid=>hf.H id ?_,hf.N⟩
 simp only[okW,Qq73];refine⟨?_,?_⟩
 ·cases W with
  |none=>cases hW
  |some q=>
   obtain⟨n,l⟩:=q;simp only at hW;simp only[okW,Qq73]at hid;have h1:=QG hW
   cases hb:Nat.ble S.N id with
   |false=>rfl
   |true=>have:=QG hb;rw[Nat.ble_eq_true_of_le (QK h1 this)]at hid;cases hid.1
 ·cases hb:fN id (dR J.items)with
  |false=>rfl
  |true=>have:=(hids id (dx.1 hb)).2;rw[hid]at this;cases this
theorem Hv{S:aL U}{J:JS U}{F:List Nat}{W:WS}(hchk:pt S J F W=true)(v:nS J.items){t:Nat}(ht:t∈J.dz):(unpack K S J v).env t=S.env t:=by
 simp only[pt,Qm,QH]at hchk;obtain⟨⟨⟨⟨⟨⟨hnd,hids⟩,hokv⟩,hkeep⟩,hobj⟩,hF⟩,hW⟩:=hchk;have hns:fN t (slotsOf J.items)=false:=by simpa using(hkeep t ht).2
 rcases uD (K:=K) (S.base J.dz) J.items v t with⟨⟨i,d⟩,hmem,h1,h2⟩|⟨_,h2⟩
 ·exact absurd (xH (iY hmem) h1) (mL hns)
 ·rw[show(unpack K S J v).env t=_ from h2,An,Qr ht]
theorem Ox{S:aL U}{J:JS U}{F:List Nat}{W:WS}(hchk:pt S J F W=true)(v:nS J.items){S':aL U}(hf:gD J.dz (some (S.N,dR J.items)) (unpack K S J v) S'){v':nS J.items}(hv':pack K S' J.items=some v'):
  ∀(E:En) (a:Act) (w:World) (L:Nat->Value),Rel E S'.st a w L->∃L',Rel E (unpack K S J v').st a w L':=by
 intro E a w L hrel;have hkp:=fun{t} ht=>Hv (K:=K) hchk v (t:=t) ht
 have hc:=hchk;simp only[pt,Qm,QH]at hc;obtain⟨⟨⟨⟨⟨⟨hnd,hids⟩,hokv⟩,hkeep⟩,hobj⟩,hF⟩,hW⟩:=hc;refine⟨L,Rel.meet hchk hv' (fun t ht=>(hf.env t ht).trans (hkp ht)) (fun id hid hni=>(hf.H id ?_).trans ?_) (by have:=hf.N;rw[unpack,yD,FZ]at this;exact this) hrel⟩
 ·simp only[okW,Qq73];refine⟨?_,?_⟩
  ·cases hb:Nat.ble S.N id with
   |false=>rfl
   |true=>have:=QG hb;omega
  ·cases hb:fN id (dR J.items)with
   |false=>rfl
   |true=>exact absurd (dx.1 hb) hni
 ·rcases yE (K:=K) (S.base J.dz) J.items v id hnd with⟨⟨i,d⟩,hmem,h1,h2⟩|⟨_,h2⟩
  ·exact absurd (pM (iY hmem) h1) hni
  ·rw[show(unpack K S J v).H id=_ from h2,F0,Qr hid]
theorem RA{T:U.Ty}{k:Nat}{nE:Option Nat}(hsz:U.size T=k)(hnE:MD U T nE=true)(xs:List (U.den T)):Cf k nE (xs.map (U.pv T))/\∀a:U.den T,uR nE (U.pv T a)=(q8 K T a).pv:=by
 have key:∀a:U.den T,oG nE (U.pv T a)=some (cx T a):=by
  intro a;unfold cx
  cases nE with
  |none=>
   simp only[MD,Bool.not_eq_true']at hnE;have h1:=K.len T a;rw[K.one T hnE]at h1;rw[hnE]
   match h2:U.pv T a with
   |[]=>rw[h2]at h1;cases h1
   |x::l=>rfl
  |some n=>
   simp only[MD,Qm]at hnE;have h1:=QF hnE.2;subst h1;rw[hnE.1,oG,Qr (by rw[K.len];exact QI _),<-K.len T a,Q9]
 have hev:∀a:U.den T,uR nE (U.pv T a)=cx T a:=fun a=>by simp only[uR,key,Q3]
 refine⟨⟨fun e he=> ?_,fun e he=> ?_,fun e he=> ?_⟩,fun a=>by rw[hev,rS]⟩
 ·obtain⟨a,_,rfl⟩:=QP.1 he;rw[K.len,hsz]
 ·obtain⟨a,_,rfl⟩:=QP.1 he;rw[hev,key]
 ·obtain⟨a,_,rfl⟩:=QP.1 he;rw[hev];unfold cx;split
  ·exact QH.2 fun y hy=>fc (K.fh T a y hy)
  ·cases h2:U.pv T a with
   |nil=>have:=K.len T a;rename_i hag;rw[K.one T hag,h2]at this;cases this
   |cons x l=>
    have h3:=fc (K.fh T a x (by rw[h2];exact Qx))
    have h4:=K.fh T a x (by rw[h2];exact Qx)
    cases x<;>first|exact h3|(cases h4)
theorem dG{Γ:List (di U)}(hΓ:qx P Γ):∀(sa:SA U) {ρ:Type} (F:List Nat) (W:WS) (k:Exit->aL U->Option ρ) (S:aL U) (r:ρ),sa.cU=true->lM K Γ sa F W k S=some r->
  VS P nt sa.erase (fun e A=>∃S',A=S'.st/\gD F W S S'/\k e S'=some r) S.st
 | .skip,ρ,F,W,k,S,r,hok,h=>Up ⟨S,rfl,gD.refl _ _ _,h⟩
 | .exit id,ρ,F,W,k,S,r,hok,h=>Us ⟨S,rfl,gD.refl _ _ _,h⟩
 | .ret,ρ,F,W,k,S,r,hok,h=>Vu ⟨S,rfl,gD.refl _ _ _,h⟩
 | .sD rs,ρ,F,W,k,S,r,hok,h=>by
  simp only[lM]at h;split at h
  ·rename_i ho;exact Uq hΓ hok h fun S' hf hk=>⟨S',rfl,(hf.toC ho).more,hk⟩
  ·cases h
 | .pk un rs,ρ,F,W,k,S,r,hok,h=>by
  simp only[lM]at h;split at h
  ·rename_i ho;obtain⟨Γs,S',fs,h1,h2,h3,h4⟩:=qA hΓ rs 0 _ _ hok h;split at h4
   ·rename_i hun;refine Vv h1 (S':=S'.st) ?_ ⟨S',rfl,(h3.toC ho).more,h4⟩;rw[RS.tO];have e:({S.st with N:=S.st.N+rs.len}:St)=(S.more rs.len).st:=rfl
    rw[e,Gt];rw[show S.st.N=S.N from rfl,h2]
    exact Qr hun
   ·cases h4
  ·cases h
 | .seq x y,ρ,F,W,k,S,r,hok,h=>by
  simp only[SA.cU,Qm]at hok;refine Pm ((dG hΓ x F W _ S r hok.1 h).mono ?_);rintro e A ⟨S',rfl,hf,hk⟩
  cases e with
  |normal=>exact(dG hΓ y F W k S' r hok.2 hk).mono fun e A ⟨S'',h1,h2,h3⟩=>⟨S'',h1,hf.trans h2,h3⟩
  |exit i=>exact⟨S',rfl,hf,hk⟩
  |goto l=>exact⟨S',rfl,hf,hk⟩
  |ret=>exact⟨S',rfl,hf,hk⟩
  |panic c=>exact⟨S',rfl,hf,hk⟩
  |outgrown=>exact⟨S',rfl,hf,hk⟩
 | .join J x y,ρ,F,W,k,S,r,hok,h=>by
  simp only[SA.cU,Qm]at hok;simp only[lM]at h;split at h
  ·rename_i hchk;unfold bu at h
   have hsub:∀S',gD J.dz (some (S.N,dR J.items)) S S'->gD F W S S':=by
    intro S' hf;simp only[pt,Qm,QH]at hchk;obtain⟨⟨⟨⟨⟨⟨hnd,hids⟩,hokv⟩,hkeep⟩,hobj⟩,hF⟩,hW⟩:=hchk;refine⟨fun t ht=>hf.env t (dx.1 (hF t ht)),fun id hid=>hf.H id ?_,hf.N⟩
    simp only[okW,Qq73];refine⟨?_,?_⟩
    ·cases W with
     |none=>cases hW
     |some q=>
      obtain⟨n,l⟩:=q;simp only at hW;simp only[okW,Qq73]at hid;have h1:=QG hW
      cases hb:Nat.ble S.N id with
      |false=>rfl
      |true=>have:=QG hb;rw[Nat.ble_eq_true_of_le (QK h1 this)]at hid;cases hid.1
    ·cases hb:fN id (dR J.items)with
     |false=>rfl
     |true=>have:=(hids id (dx.1 hb)).2;rw[hid]at this;cases this
   refine Pm ((dG hΓ x J.dz _ _ S r hok.1 h).mono ?_);rintro e A ⟨S',rfl,hf,hk⟩
   cases e with
   |normal=>
    simp only at hk;split at hk
    ·rename_i v hv;refine LV (Bv hchk hv hf) ?_;exact(dG hΓ y F W k _ r hok.2 hk).mono fun e A ⟨S'',h1,h2,h3⟩=>⟨S'',h1,(DY hchk v).trans h2,h3⟩
    ·cases hk
   |exit i=>exact⟨S',rfl,hsub S' hf,hk⟩
   |goto l=>exact⟨S',rfl,hsub S' hf,hk⟩
   |ret=>exact⟨S',rfl,hsub S' hf,hk⟩
   |panic c=>exact⟨S',rfl,hsub S' hf,hk⟩
   |outgrown=>exact⟨S',rfl,hsub S' hf,hk⟩
  ·cases h
 | .cond c x y,ρ,F,W,k,S,r,hok,h=>by
  simp only[SA.cU,Qm]at hok;simp only[lM]at h;split at h
  ·rename_i b hb;have hv:c.val S.st= .bool b:=by rw[sd hok.1.1,hb];rfl
   refine Ut hv ?_
   cases b with
   |true=>exact dG hΓ x F W k S r hok.1.2 h
   |false=>exact dG hΓ y F W k S r hok.2 h
  ·rename_i hb;have hv:c.val S.st= .fb:=by rw[sd hok.1.1,hb];rfl
   obtain⟨h1,h2⟩:=O7 h;exact RG hv (dG hΓ x F W k S r hok.1.2 h1) (dG hΓ y F W k S r hok.2 h2)
  ·cases h
 | .block id x,ρ,F,W,k,S,r,hok,h=>by
  refine RH ((dG hΓ x F W _ S r hok h).mono ?_);rintro e A ⟨S',rfl,hf,hk⟩
  cases e with
  |exit i=>
   simp only at hk;simp only[zd];split at hk
   ·rename_i hi;rw[Qr (QF hi)];exact⟨S',rfl,hf,hk⟩
   ·rename_i hi;rw[Qs (Nat.ne_of_beq_eq_false hi)];exact⟨S',rfl,hf,hk⟩
  |normal=>exact⟨S',rfl,hf,hk⟩
  |goto l=>exact⟨S',rfl,hf,hk⟩
  |ret=>exact⟨S',rfl,hf,hk⟩
  |panic c=>exact⟨S',rfl,hf,hk⟩
  |outgrown=>exact⟨S',rfl,hf,hk⟩
 | .loop J x,ρ,F,W,k,S,r,hok,h=>by
  simp only[lM]at h;split at h
  ·rename_i hchk;split at h
   ·rename_i v0 hv0
    have hsub:∀v S',gD J.dz (some (S.N,dR J.items)) (unpack K S J v) S'->gD F W S S':=by
     intro v S' hf;have hm:=DY (K:=K) hchk v;refine hm.trans ?_;simp only[pt,Qm,QH]at hchk;obtain⟨⟨⟨⟨⟨⟨hnd,hids⟩,hokv⟩,hkeep⟩,hobj⟩,hF⟩,hW⟩:=hchk;refine⟨fun t ht=>hf.env t (dx.1 (hF t ht)),fun id hid=>hf.H id ?_,hf.N⟩
     simp only[okW,Qq73];refine⟨?_,?_⟩
     ·cases W with
      |none=>cases hW
      |some q=>
       obtain⟨n,l⟩:=q;simp only at hW;simp only[okW,Qq73]at hid;have h1:=QG hW
       cases hb:Nat.ble S.N id with
       |false=>rfl
       |true=>have:=QG hb;rw[Nat.ble_eq_true_of_le (QK h1 this)]at hid;cases hid.1
     ·cases hb:fN id (dR J.items)with
      |false=>rfl
      |true=>have:=(hids id (dx.1 hb)).2;rw[hid]at this;cases this
    have hself:∀v S',gD J.dz (some (S.N,dR J.items)) (unpack K S J v) S'->∀v',pack K S' J.items=some v'->∀(E:En) (a:Act) (w:World) (L:Nat->Value),Rel E S'.st a w L->∃L',Rel E (unpack K S J v').st a w L':=by
     intro v S' hf v' hv' E a w L hrel;have hc:=hchk;simp only[pt,Qm,QH]at hc;obtain⟨⟨⟨⟨⟨⟨hnd,hids⟩,hokv⟩,hkeep⟩,hobj⟩,hF⟩,hW⟩:=hc;refine⟨L,Rel.meet hchk hv' (fun t ht=>(hf.env t ht).trans ?_) (fun id hid hni=>(hf.H id ?_).trans ?_) (by have:=hf.N;rw[unpack,yD,FZ]at this;exact this) hrel⟩
     ·have hns:fN t (slotsOf J.items)=false:=by simpa using(hkeep t ht).2
      rcases uD (K:=K) (S.base J.dz) J.items v t with⟨⟨i,d⟩,hmem,h1,h2⟩|⟨_,h2⟩
      ·exact absurd (xH (iY hmem) h1) (mL hns)
      ·rw[show(unpack K S J v).env t=_ from h2,An,Qr ht]
     ·simp only[okW,Qq73];refine⟨?_,?_⟩
      ·cases hb:Nat.ble S.N id with
       |false=>rfl
       |true=>have:=QG hb;omega
      ·cases hb:fN id (dR J.items)with
       |false=>rfl
       |true=>exact absurd (dx.1 hb) hni
     ·rcases yE (K:=K) (S.base J.dz) J.items v id hnd with⟨⟨i,d⟩,hmem,h1,h2⟩|⟨_,h2⟩
      ·exact absurd (pM (iY hmem) h1) hni
      ·rw[show(unpack K S J v).H id=_ from h2,F0,Qr hid]
    obtain⟨n,hn⟩:=vS h
    refine Kk (fun m A=>∃v,A=(unpack K S J v).st/\mX (fun v=>lM K Γ x J.dz (some (S.N,dR J.items)) (fun e S'=>match e with
     | .normal=>(match pack K S' J.items with|some v=>some (Sum.inl v)|none=>none)
     |e=>(k e S').map Sum.inr) (unpack K S J v)) m v=some r) n (Bv hchk hv0 (gD.refl _ _ _)) ⟨v0,rfl,hn⟩ ?_
    rintro m A ⟨v,rfl,hm⟩
    cases m with
    |zero=>cases hm
    |succ m=>
     simp only[mX]at hm;split at hm
     ·cases hm
     ·rename_i r' hs;injection hm with hm
      subst hm;refine(dG hΓ x J.dz _ _ _ _ hok hs).mono ?_;rintro e A ⟨S',rfl,hf,hk⟩
      cases e with
      |normal=>
       simp only at hk;split at hk<;>cases hk
      |exit i=>simp only[Qb]at hk;obtain⟨q,hq,e⟩:=hk;injection e with e;subst e;exact⟨S',rfl,hsub v S' hf,hq⟩
      |goto l=>simp only[Qb]at hk;obtain⟨q,hq,e⟩:=hk;injection e with e;subst e;exact⟨S',rfl,hsub v S' hf,hq⟩
      |ret=>simp only[Qb]at hk;obtain⟨q,hq,e⟩:=hk;injection e with e;subst e;exact⟨S',rfl,hsub v S' hf,hq⟩
      |panic c=>simp only[Qb]at hk;obtain⟨q,hq,e⟩:=hk;injection e with e;subst e;exact⟨S',rfl,hsub v S' hf,hq⟩
      |outgrown=>simp only[Qb]at hk;obtain⟨q,hq,e⟩:=hk;injection e with e;subst e;exact⟨S',rfl,hsub v S' hf,hq⟩
     ·rename_i v' hs;refine(dG hΓ x J.dz _ _ _ _ hok hs).mono ?_;rintro e A ⟨S',rfl,hf,hk⟩
      cases e with
      |normal=>
       simp only at hk;split at hk
       ·rename_i v1 hv1;injection hk with hk
        injection hk with hk
        subst hk;exact⟨m,Nat.lt_succ_self m,_,hself v S' hf v1 hv1,v1,rfl,hm⟩
       ·cases hk
      |exit i=>simp only[Qb]at hk;obtain⟨q,hq,e⟩:=hk;cases e
      |goto l=>simp only[Qb]at hk;obtain⟨q,hq,e⟩:=hk;cases e
      |ret=>simp only[Qb]at hk;obtain⟨q,hq,e⟩:=hk;cases e
      |panic c=>simp only[Qb]at hk;obtain⟨q,hq,e⟩:=hk;cases e
      |outgrown=>simp only[Qb]at hk;obtain⟨q,hq,e⟩:=hk;cases e
   ·cases h
  ·cases h
 | .NL n x,ρ,F,W,k,S,r,hok,h=>by
  simp only[lM]at h;have⟨g,hg,h⟩:=(⟨_,rfl,h⟩:∃g,g=_/\IF g n S=some r);refine Kk (fun m A=>∃S1:aL U,A=S1.st/\gD F W S S1/\IF g m S1=some r) n (fun E a w L h=>⟨L,h⟩) ⟨S,rfl,gD.refl _ _ _,h⟩ ?_
  rintro m A ⟨S1,rfl,hf1,hm⟩
  cases m with
  |zero=>cases hm
  |succ m=>
   simp only[IF]at hm;rw[hg]at hm;simp only at hm;rw[<-hg]at hm;refine(dG hΓ x F W _ S1 r hok hm).mono ?_;rintro e A ⟨S',rfl,hf,hk⟩
   cases e with
   |normal=>exact⟨m,Nat.lt_succ_self m,S'.st,fun E a w L h=>⟨L,h⟩,S',rfl,hf1.trans hf,hk⟩
   |exit i=>exact⟨S',rfl,hf1.trans hf,hk⟩
   |goto l=>exact⟨S',rfl,hf1.trans hf,hk⟩
   |ret=>exact⟨S',rfl,hf1.trans hf,hk⟩
   |panic c=>exact⟨S',rfl,hf1.trans hf,hk⟩
   |outgrown=>exact⟨S',rfl,hf1.trans hf,hk⟩
 | .back J f kk nE T tg p0 p1 x y,ρ,F,W,k,S,r,hok,h=>by
  simp only[SA.cU,Qm]at hok;simp only[lM]at h;obtain⟨D,hD⟩:∃D,SC.oO (.AA (.tmp tg) [p0,p1] x.erase y.erase)=D:=⟨_,rfl⟩;rw[hD]at h;split at h
  ·rename_i hcond;simp only[Qm]at hcond;obtain⟨⟨⟨⟨⟨⟨hbk,hsz⟩,hnE⟩,htk⟩,hkD⟩,hFD⟩,hchk⟩:=hcond;have hsz:=QF hsz;have htk:=dx.1 htk
   have htD:tg∉D:=fun hm=>by
    have:=QH.1 hkD tg hm;rw[dx.2 htk]at this;cases this
   have hp:∀q,q=p0\/q=p1->fN q J.dz=false:=by
    intro q hq;have hqD:q∈D:=by rw[<-hD];rcases hq with rfl|rfl<;>simp[SC.oO]
    simpa using QH.1 hkD q hqD
   split at h
   ·rename_i f' T' xs' hclo;split at h
    ·rename_i hff;have hff:=QF hff;subst hff;split at h
     ·rename_i xs hcast;obtain⟨eT,hxs⟩:=kW hcast;subst eT;simp only at hxs;subst hxs;split at h
      ·rename_i v0 hv0;obtain⟨hin,hev⟩:=RA (K:=K) hsz hnE xs;have⟨step,hstep,h⟩:=(⟨_,rfl,h⟩:∃step,step=_/\kb step (fun v=>k .normal (unpack K (S.eI D) J v)) xs.reverse v0=some r)
       have hN:(S.eI D).N=S.N:=rfl;refine Uu (Ef hΓ hbk) hin (by rw[hD];exact htD) (fun i A=>∃v,A=(unpack K (S.eI D) J v).st/\kb step (fun v=>k .normal (unpack K (S.eI D) J v)) (xs.take i).reverse v=some r) ?_ ?_ ?_ ?_
       ·rw[hD,<-zx];refine⟨_,Bv hchk hv0 (gD.refl _ _ _),v0,rfl,?_⟩;rw[QC,Q9];exact h
       ·rintro i A ⟨v,rfl,_⟩;show((unpack K (S.eI D) J v).env tg).pv=_;rw[Hv hchk v htk];have:(S.eI D).env tg=S.env tg:=(Af hkD none S).env tg htk;rw[this,hclo];rfl
       ·rintro m A e ⟨v,rfl,hm⟩ he;rw[QT,Qb]at he;obtain⟨a,ha,rfl⟩:=he;have hml:m<xs.length:=(Qw.1 ha).1;rw[List.take_add_one,ha,Option.toList_some,List.reverse_append]at hm;simp only[List.reverse_cons,List.reverse_nil,List.nil_append,List.singleton_append,kb]at hm;rw[List.length_reverse,List.length_take,Nat.min_eq_left (Nat.le_of_lt hml)]at hm
        obtain⟨z,hz,hzr⟩:∃z,step m a v=some z/\(match z with| .inr r'=>r'=r| .inl s'=>kb step (fun v=>k .normal (unpack K (S.eI D) J v)) (xs.take m).reverse s'=some r):=by
         split at hm
         ·cases hm
         ·rename_i r' hs;injection hm with hm
          exact⟨_,hs,hm⟩
         ·rename_i s' hs;exact⟨_,hs,hm⟩
        clear hm;rw[hstep]at hz;simp only at hz
        have hst:({(unpack K (S.eI D) J v).st with env:=bo (bo (unpack K (S.eI D) J v).st.env p0 (.int .i64 m)) p1 (uR nE (U.pv _ a))}:St)=aL.st {(unpack K (S.eI D) J v)with env:=fD (fD (unpack K (S.eI D) J v).env p0 (.int .i64 m)) p1 (q8 K _ a)}:=by
         have henv:bo (bo (unpack K (S.eI D) J v).st.env p0 (.int .i64 m)) p1 (uR nE (U.pv _ a))=fun t=>((fD (fD (unpack K (S.eI D) J v).env p0 (.int .i64 m)) p1 (q8 K _ a)) t).pv:=by
          funext t
          simp only[bY,hev];unfold bo;split
          ·rfl
          ·split
           ·rfl
           ·rfl
         exact congrArg (fun e=>({(unpack K (S.eI D) J v).st with env:=e}:St)) henv
        rw[hst]
        have hf0:gD J.dz (some (S.N,dR J.items)) (unpack K (S.eI D) J v) {(unpack K (S.eI D) J v)with env:=fD (fD (unpack K (S.eI D) J v).env p0 (.int .i64 m)) p1 (q8 K _ a)}:=by
         refine⟨fun t ht=> ?_,fun _ _=>rfl,QI _⟩
         simp only[bY];rw[bV _ _ (fun e=>by have:=hp t (.inr e);rw[dx.2 ht]at this;cases this),bV _ _ (fun e=>by have:=hp t (.inl e);rw[dx.2 ht]at this;cases this)]
        refine(dG hΓ x J.dz _ _ _ _ hok.1 hz).mono ?_;rintro e A ⟨S1,rfl,hf1,hk1⟩
        cases e with
        |normal=>
         simp only at hk1;refine(dG hΓ y J.dz _ _ _ _ hok.2 hk1).mono ?_;rintro e A ⟨S2,rfl,hf2,hk2⟩;have hf3:gD J.dz (some (S.N,dR J.items)) (unpack K (S.eI D) J v) (S2.eI D):=((hf0.trans hf1).trans hf2).trans (Af hkD _ _);have hf4:gD F W S (S2.eI D):=(Af hFD W S).trans (Jj hchk v hf3);rw[hD]
         cases e with
         |normal=>
          simp only at hk2;split at hk2
          ·rename_i v' hv';injection hk2 with hk2
           subst hk2;refine⟨_,?_,v',rfl,hzr⟩;rw[<-zx];exact Ox hchk v hf3 hv'
          ·cases hk2
         |ret=>
          simp only[Qb]at hk2;obtain⟨q,hq,rfl⟩:=hk2;simp only at hzr;subst hzr;exact⟨S2.eI D,(zx _ _).symm,hf4,hq⟩
         |exit i=>
          simp only[Qb]at hk2;obtain⟨q,hq,rfl⟩:=hk2;simp only at hzr;subst hzr;exact⟨S2.eI D,(zx _ _).symm,hf4,hq⟩
         |goto i=>cases hk2
         |panic ch=>cases hk2
         |outgrown=>cases hk2
        |ret=>cases hk1
        |exit i=>cases hk1
        |goto i=>cases hk1
        |panic ch=>cases hk1
        |outgrown=>cases hk1
       ·rintro A ⟨v,rfl,hm⟩;simp only[List.take_zero,List.reverse_nil,kb]at hm;exact⟨_,rfl,(Af hFD W S).trans (Jj hchk v (gD.refl _ _ _)),hm⟩
      ·cases h
     ·cases h
    ·cases h
   ·cases h
  ·cases h
 | .ps p x,ρ,F,W,k,S,r,hok,h=>by
  simp only[lM]at h;split at h
  ·rename_i hW;simp only[Qm]at hW;split at h
   ·rename_i S1 hp;refine LV (fun E a w L hr=>Ps.sound K hp hr) ((dG hΓ x F W k S1 r hok h).mono fun e A ⟨S'',h1,h2,h3⟩=>⟨S'',h1,gD.trans ?_ h2,h3⟩)
    exact(Ps.Vd hp hW.1).toC hW.2
   ·cases h
  ·cases h
 | .Dk p x,ρ,F,W,k,S,r,hok,h=>by
  refine Ur (dG hΓ x F W _ S r hok h) ?_;rintro e A ⟨S',rfl,hf,hk⟩
  cases e with
  |normal=>
   simp only at hk;split at hk
   ·rename_i hW;simp only[Qm]at hW;split at hk
    ·rename_i S1 hp;exact⟨S1.st,⟨S1,rfl,hf.trans ((Ps.Vd hp hW.1).toC hW.2),hk⟩,fun E a w L hr=>Ps.sound K hp hr⟩
    ·cases hk
   ·cases hk
  |exit i=>exact⟨_,⟨S',rfl,hf,hk⟩,fun E a w L hr=>⟨L,hr⟩⟩
  |goto l=>exact⟨_,⟨S',rfl,hf,hk⟩,fun E a w L hr=>⟨L,hr⟩⟩
  |ret=>exact⟨_,⟨S',rfl,hf,hk⟩,fun E a w L hr=>⟨L,hr⟩⟩
  |panic c=>exact⟨_,⟨S',rfl,hf,hk⟩,fun E a w L hr=>⟨L,hr⟩⟩
  |outgrown=>exact⟨_,⟨S',rfl,hf,hk⟩,fun E a w L hr=>⟨L,hr⟩⟩
end
end
section
open Go.RowKit
section
variable {P : Program} {E : En} {S : St} {a : Act} {w : World} {L : Nat -> Value} {nt : Nat}
theorem VS.post{sc:SC}{Q Q':Exit->St->Prop}{S:St}(h:VS P nt sc Q S)(hq:∀e A,Q e A->∃A',(∀(E:En) (a:Act) (w:World) (L:Nat->Value),Rel E A a w L->∃L',Rel E A' a w L')/\Q' e A'):VS P nt sc Q' S:=
 fun c hs hc E hE hk a w L hr=>wpIn_mono (h c hs hc E hE hk a w L hr) fun e a' w' ⟨S',L',h1,h2⟩=>by
  obtain⟨A',h3,h4⟩:=hq e S' h2;obtain⟨L'',h5⟩:=h3 E a' w' L' h1;exact⟨A',L'',h5,h4⟩
theorem Rel.V2(h:Rel E S a w L){id:Nat}{cs:List PV}(hid:id<S.N)(hc:(S.H id).c= .box cs):Rel E {S with H:=bo S.H id ⟨(S.H id).al,.box (cs.map nz)⟩} a w L:=by
 have:=(h.oN (w':=w) hid ⟨(S.H id).al,.box (cs.map nz)⟩ (L id) (.inl ⟨rfl,rfl,by rw[hc];rfl⟩) rfl rfl rfl (QI _) (fun _ _ _=>rfl) (fun b _ hb=> .inl ⟨by rw[hc];rfl,hb⟩) (fun hs hg=>by
  obtain⟨b,cur,T,h1,h2,h3,h4⟩:=h.oa hid hc
  exact⟨b,cur,T,h1,h2,h4,(h3.mono hs hg).nz⟩)).1
 rwa [zq]at this
end
section
variable {U : TU}
def Mj(S:aL U):RV->Option (KV U)
 | .tmp t=>some (S.env t)
 | .cell t n=>(match S.env t with
  | .ptr id al off=>(match S.oz id al with|some cs=>BA n (cs.drop off)|none=>none)
  |_=>none)
def Ii(S:aL U):List RV->Option (List (KV U))
 |[]=>some []
 |r::rs=>(match Mj S r with
  |some x=>(match Ii S rs with|some xs=>some (x::xs)|none=>none)
  |none=>none)
def UA:List (KV U)->KV U
 |[x]=>x
 |xs=> .c8 xs
def vg(S:aL U)(rs:List RV):Option (KV U):=
 match Ii S rs with
 |some xs=>some (UA xs)
 |none=>none
theorem PF{S:aL U}{r:RV}{x:KV U}(h:Mj S r=some x):wF S.st r=some x.pv:=by
 cases r with
 |tmp t=>injection h with h;subst h;rfl
 |cell t n=>
  simp only[Mj]at h;split at h
  ·rename_i id al off ht;split at h
   ·rename_i cs hb;obtain⟨h1,h2⟩:=qL hb;have h3:S.st.env t= .ptr id al off:=by simp only[aL.st,ht,KV.pv]
    simp only[wF,h3];rw[Qr h1,h2];have:=wu h;rw[List.map_drop]at this;exact this
   ·cases h
  ·cases h
theorem IT{S:aL U}:∀{rs:List RV} {xs:List (KV U)},Ii S rs=some xs->rh S.st rs=some (xs.map KV.pv)
 |[],xs,h=>by injection h with h;subst h;rfl
 |r::rs,xs,h=>by
  simp only[Ii]at h;split at h
  ·rename_i x hx;split at h
   ·rename_i ys hys;injection h with h
    subst h;simp only[rh,PF hx,IT hys,QD]
   ·cases h
  ·cases h
theorem Co{S:aL U}{rs:List RV}{x:KV U}(h:vg S rs=some x):pJ S.st rs=some x.pv:=by
 unfold vg at h;split at h
 ·rename_i xs hxs;injection h with h
  subst h;have:=IT hxs;unfold pJ;rw[this]
  match xs with
  |[]=>rfl
  |[x]=>rfl
  |x::y::l=>simp only[QD,UA,KV.pv,KV.bN]
 ·cases h
variable (K : TK U)
def Eo(S:aL U)(ex:Option Nat):(r:mV U)->KV U->Option r.den
 | .one T,x=>sz K S.lk T x
 | .many Ts,x=>(match x with| .c8 xs=>Ix K S.lk Ts xs|_=>none)
 | .fn a,x=>(match Nat.ble a.depth 9 with|true=>Er K S ex a x|false=>none)
variable {K}
theorem LF{S:aL U}{ex:Option Nat}(hex:∀id,ex=some id->∀e k T xs,(S.H id).c≠ .row e k T xs){r:mV U}{x:KV U}{v:r.den}(h:Eo K S ex r x=some v):fz S.st.H ex 9 x.pv=qk r v:=by
 cases r with
 |one T=>exact DI hex 7 h
 |many Ts=>
  simp only[Eo]at h;split at h
  ·rename_i xs;rw[KV.pv,KV.bN,fz,qk,JT hex 6 Ts _ v h]
  ·cases h
 |fn a=>
  simp only[Eo]at h;split at h
  ·rename_i hd;exact LH hex a 9 x v (QG hd) h
  ·cases h
variable (K)
def Kr(A_s:List (KV U)):aL U:=
 {env:=fun t=>(A_s[t]?).getD .undef,H:=fun _=>⟨0,.dead⟩,N:=0}
def RJ(pos:Nat)(cs A_s:List (KV U)):aL U:=
 {env:=fun t=>((gC pos [KV.ptr 0 0 0] A_s)[t]?).getD .undef,H:=fun id=>(match Nat.beq id 0 with|true=>⟨0,.box cs⟩|false=>⟨0,.dead⟩),N:=1}
def MX{ρ:Type}(ex:Option Nat)(rs:List RV)(r:mV U)(k:aL U->r.den->Option ρ)(e:Exit)(S:aL U):Option ρ:=
 match e with
 | .ret| .normal=>(match vg S rs with
  |some x=>(match Eo K S ex r x with|some v=>k S v|none=>none)
  |none=>none)
 |_=>none
def wo(S:aL U):List RV->Bool
 |[]=>true
 | .tmp _::l=>wo S l
 | .cell t _::l=>(match S.env t with| .ptr id _ _=> !Nat.beq id 0|_=>false)&&wo S l
 def JG(Γ:List (di U))(sa:SA U)(rs:List RV)(A_s:List (cI U))(r:mV U)(a:du A_s):Option r.den:=
 lM K Γ sa [] (some (0,[])) (MX K none rs r fun _ v=>some v) (Kr (qM K A_s a))
 def UL(Γ:List (di U))(sa:SA U)(rs:List RV)(pos:Nat)(R:U.Ty)(A_s:List (cI U))(r:mV U)(s:U.den R)(a:du A_s):Option (r.den×U.den R):=
 lM K Γ sa [] (some (0,[])) (MX K (some 0) rs r fun S v=>(match wo S rs with
  |true=>(match S.oz 0 0 with
   |some cs=>(match K.dec R lv cs with|some s'=>some (v,s')|none=>none)
   |none=>none)
  |false=>none)) (RJ pos (K.db R s) (qM K A_s a))
 def WY(Γ:List (di U))(sa:SA U)(rs:List RV)(A_s:List (cI U))(R:U.Ty)(a:du A_s):Option (U.den R):=
 lM K Γ sa [] (some (0,[])) (fun e S=>(match e with
  | .ret=>(match vg S rs with
   |some (.ptr id al 0)=>(match S.oz id al with|some cs=>K.dec R lv cs|none=>none)
   |_=>none)
  |_=>none)) (Kr (qM K A_s a))
variable {K}
variable {P : Program} {nt : Nat}
theorem ue:∀(A_s:List (cI U)) (a:du A_s),(fl A_s a).length=A_s.length
 |[],_=>by rw[fl];rfl
 |_::l,a=>by rw[fl,QE,ue l a.2,QE]
theorem G2(A_s:List (cI U))(a:du A_s):(Kr (qM K A_s a)).st=c5 0 false [] (fl A_s a):=by
 unfold Kr aL.st c5;congr 1
 ·funext t
  rw[<-uZ K];simp only[Qq,Qu,Hz,QT];cases (qM K A_s a)[t]?<;>rfl
theorem Ux(pos:Nat)(R:U.Ty)(s:U.den R)(A_s:List (cI U))(a:du A_s):(RJ pos (K.db R s) (qM K A_s a)).st=c5 pos true (U.pv R s) (fl A_s a):=by
 unfold RJ aL.st c5;congr 1
 ·funext t
  rw[<-uZ K];simp only[Qt];have:(gC pos [PV.ptr 0 0 0] ((qM K A_s a).map KV.pv))=(gC pos [KV.ptr 0 0 0] (qM K A_s a)).map KV.pv:=by simp[gC,KV.pv]
  rw[this,QT];cases (gC pos [KV.ptr 0 0 0] (qM K A_s a))[t]?<;>rfl
 ·funext id
  cases id with
  |zero=>simp only[and_self,Qt,ct.pv,c9.pv,K.nq]
  |succ id=>simp[Nat.beq,ct.pv,c9.pv]
theorem HI{ρ:Type}{ex:Option Nat}{rs:List RV}{r:mV U}{k:aL U->r.den->Option ρ}{e:Exit}{S:aL U}{z:ρ}(h:MX K ex rs r k e S=some z):(e= .ret\/e= .normal)/\∃x v,vg S rs=some x/\Eo K S ex r x=some v/\k S v=some z:=by
 unfold MX at h
 have go:∀{o:Option ρ},o=some z->o=(match vg S rs with
  |some x=>(match Eo K S ex r x with|some v=>k S v|none=>none)
  |none=>none)->∃x v,vg S rs=some x/\Eo K S ex r x=some v/\k S v=some z:=by
  intro o ho he;rw[ho]at he;replace he:=he.symm;split at he
  ·rename_i x hx;split at he
   ·rename_i v hv;exact⟨x,v,hx,hv,he⟩
   ·cases he
  ·cases he
 split at h
 ·exact⟨.inl rfl,go h rfl⟩
 ·exact⟨.inr rfl,go h rfl⟩
 ·cases h
theorem BN{f:FuncId}{Γ:List (di U)}{sa:SA U}{rs:List RV}{A_s:List (cI U)}{r:mV U}(hf:ix P f nt sa.erase rs)(hok:sa.cU=true)(hlen:A_s.length<=nt)(hΓ:qx P Γ){F:du A_s->Option r.den}(hF:∀a,JG K Γ sa rs A_s r a=F a):di.Sound P (.fn f A_s r F):=by
 refine⟨hf.enters,fun a v hv=> ?_⟩
 rw[<-hF a]at hv;refine hf.HO (by simpa[ue]using hlen) ?_
 rw[<-G2 (K:=K)];refine(dG hΓ sa [] _ _ _ _ hok hv).mono ?_;rintro e A ⟨S',rfl,_,hk⟩;obtain⟨he,x,v',h1,h2,h3⟩:=HI hk;injection h3 with h3
 subst h3
 have hret:vO rs false (fun r' cs''=>r'=qk r v'/\(false=true->cs''=[])) S'.st:=by
  unfold vO;rw[Co h1];exact⟨LF (fun id hid=>by cases hid) h2,fun h=>by cases h⟩
 rcases he with rfl|rfl<;>exact hret
theorem On{S:aL U}{id al:Nat}{cs:List (KV U)}(hb:S.oz id al=some cs){R:U.Ty}{s:U.den R}(hd:K.dec R lv cs=some s)(hN:id<S.N):(∀(E:En) (a:Act) (w:World) (L:Nat->Value),Rel E S.st a w L->∃L',Rel E {S.st with H:=bo S.st.H id ⟨al,.box (U.pv R s)⟩} a w L'):=by
 intro E a w L h;obtain⟨h1,h2⟩:=qL hb;have:=h.V2 hN h2;rw[h1,(pw (K.jO _ _ _ _ hd)).1]at this;exact⟨L,this⟩
theorem JC(K:TK U)(R:U.Ty)(s:U.den R):(U.pv R s).all PV.closed=true:=QH.2 fun y hy=>fc (K.fh R s y hy)
theorem NX{f:FuncId}{Γ:List (di U)}{sa:SA U}{rs:List RV}{pos:Nat}{R:U.Ty}{A_s:List (cI U)}{r:mV U}(hf:ix P f nt sa.erase rs)(hok:sa.cU=true)(hlen:1+A_s.length<=nt)(hΓ:qx P Γ)
  {F:U.den R->du A_s->Option (r.den×U.den R)} (hF:∀s a,UL K Γ sa rs pos R A_s r s a=F s a):di.Sound P (.rc f pos R A_s r F):=by
 refine⟨hf.enters,fun s a v s' hv=> ?_⟩
 rw[<-hF s a]at hv;refine hf.HO (by simpa[ue]using hlen) ?_
 rw[<-Ux (K:=K)];refine(dG hΓ sa [] _ _ _ _ hok hv).post ?_;rintro e A ⟨S',rfl,hfr,hk⟩;obtain⟨he,x,v',h1,h2,h3⟩:=HI hk;split at h3
 case h_2=>cases h3
 rename_i hnc;split at h3
 ·rename_i cs hb;split at h3
  ·rename_i s'' hd;injection h3 with h3
   injection h3 with h4 h5
   subst h4 h5;have hN:0<S'.N:=QJ (show 0<1 from Nat.one_pos) hfr.N
   refine⟨_,On hb hd hN,?_⟩;have h6:=Co h1
   have hres:∀rs:List RV,wo S' rs=true->rh {S'.st with H:=bo S'.st.H 0 ⟨0,.box (U.pv R s'')⟩} rs=rh S'.st rs:=by
    intro rs hrs
    induction rs with
    |nil=>rfl
    |cons q rs ih=>
     cases q with
     |tmp t=>simp only[wo]at hrs;simp only[rh,wF,ih hrs]
     |cell t n=>
      simp only[wo,Qm]at hrs;have h9:=hrs.1;split at h9
      ·rename_i id al off ht;have hne:id≠0:=by intro e;subst e;simp at h9
       have h10:S'.st.env t= .ptr id al off:=by simp only[aL.st,ht,KV.pv]
       simp only[rh,wF,h10,bV _ _ hne,ih hrs.2]
      ·cases h9
   have hret:vO rs true (fun r' cs''=>r'=qk r v'/\(true=true->cs''=U.pv R s'')) {S'.st with H:=bo S'.st.H 0 ⟨0,.box (U.pv R s'')⟩}:=by
    unfold vO
    have h7:pJ {S'.st with H:=bo S'.st.H 0 ⟨0,.box (U.pv R s'')⟩} rs=some x.pv:=by
     rw[<-h6];unfold pJ;have h8:=hres rs hnc;simp only[h8]
    rw[h7];simp only[bG];refine⟨JC K R s'',?_,by simp⟩
    have hbx:=(uY hb).2;rw[<-LF (K:=K) (S:=S') (ex:=some 0) (fun id hid=>by injection hid with hid;subst hid;intro e k T xs hq;rw[hbx]at hq;cases hq) h2]
    have hz:∀(n:Nat) (y:PV),fz (bo S'.st.H 0 ⟨0,.box (U.pv R s'')⟩) (some 0) n y=fz S'.st.H (some 0) n y:=by
     intro n
     induction n with
     |zero=>intro y;simp only[fz]
     |succ n ih=>
      intro y;have hu:∀id,¬(some id=some 0)->bo S'.st.H 0 ⟨0,.box (U.pv R s'')⟩ id=S'.st.H id:=fun id hid=>bV _ _ (fun e=>hid (by rw[e]))
      have hm:fz (bo S'.st.H 0 ⟨0,.box (U.pv R s'')⟩) (some 0) n=fz S'.st.H (some 0) n:=funext ih
      cases y with
      |own id al=>
       simp only[fz,hm]
       by_cases h0:some id=some 0
       ·rw[Qr (.inl h0),Qr (.inl h0)]
       ·rw[hu id h0]
      |ptr id al off=>
       simp only[fz,hm]
       by_cases h0:some id=some 0
       ·rw[Qr (.inl h0),Qr (.inl h0)]
       ·rw[hu id h0]
      |agg cs=>simp only[fz,hm]
      |c8 cs=>simp only[fz,hm]
      |bj f cs=>simp only[fz,hm]
      |_=>simp only[fz]
    exact hz 9 x.pv
   rcases he with rfl|rfl<;>exact hret
  ·cases h3
 ·cases h3
theorem Oo{f:FuncId}{Γ:List (di U)}{sa:SA U}{t:Nat}{A_s:List (cI U)}{R:U.Ty}(hf:ix P f nt sa.erase [.tmp t])(hok:sa.cU=true)(hlen:A_s.length<=nt)(hΓ:qx P Γ){F:du A_s->Option (U.den R)}(hF:∀a,WY K Γ sa [.tmp t] A_s R a=F a):di.Sound P (.nw f A_s R F):=by
 refine⟨hf.enters,fun a s hv=> ?_⟩
 rw[<-hF a]at hv;refine hf.XG (by simpa[ue]using hlen) ?_
 rw[<-G2 (K:=K)];intro c hs hc E hE hkt a' w L hr;refine wpIn_mono (dG hΓ sa [] _ _ _ _ hok hv c hs hc E hE hkt a' w L hr) ?_;rintro e a2 w2 ⟨A,L2,hrel,S',rfl,_,hk⟩;split at hk
 ·split at hk
  ·rename_i id al hx;split at hk
   ·rename_i cs hb
    have hre:S'.st.env t= .ptr id al 0:=by
     have:=Co hx;simpa[pJ,rh,wF,KV.pv]using this
    have hN:id<S'.N:=by
     have:=hrel.env t;rw[hre]at this;exact(this.oi (show(S'.st.gh L2).V id=al from(qL hb).1)).1
    obtain⟨L3,h3⟩:=On hb hk hN E a2 w2 L2 hrel;refine⟨_,L3,h3,?_⟩
    have h7:pJ {S'.st with H:=bo S'.st.H id ⟨al,.box (U.pv R s)⟩} [.tmp t]=some (.ptr id al 0):=by
     simp only[pJ,rh,wF];rw[hre]
    simp only[Jf];rw[h7];simp only[bG,Qt];exact⟨JC K R s,trivial⟩
   ·cases hk
  ·cases hk
 ·cases hk
def RI(e k:Nat)(T:U.Ty)(xs:List (U.den T))(A_s:List (KV U)):aL U:=
 {env:=fun t=>(((KV.own 0 0)::A_s)[t]?).getD .undef,H:=fun id=>(match Nat.beq id 0 with|true=>⟨0,.row e k T xs⟩|false=>⟨0,.dead⟩),N:=1}
theorem Uw(e k:Nat)(T:U.Ty)(xs:List (U.den T))(A_s:List (cI U))(a:du A_s):(RI e k T xs (qM K A_s a)).st=pB e k (xs.map (U.pv T)) (fl A_s a):=by
 unfold RI aL.st pB;congr 1
 ·funext t
  rw[<-uZ K]
  cases t with
  |zero=>rfl
  |succ t=>
   simp only[List.getElem?_cons_succ,QT];cases (qM K A_s a)[t]?<;>rfl
 ·funext id
  cases id with
  |zero=>simp[ct.pv,c9.pv]
  |succ id=>simp[Nat.beq,ct.pv,c9.pv]
variable (K)
def rowAt(S:aL U)(id al e k:Nat)(T:U.Ty):Option (List (U.den T)):=
 match S.row? id al with
 |some r=>(match Nat.beq r.e e&&Nat.beq r.k k with|true=>uz r.T T r.xs|false=>none)
 |none=>none
theorem Mi{S:aL U}{id al e k:Nat}{T:U.Ty}{xs:List (U.den T)}(h:rowAt S id al e k T=some xs):(S.H id).al=al/\(S.H id).c= .row e k T xs:=by
 unfold rowAt at h;split at h
 ·rename_i r hr;obtain⟨h1,h2⟩:=xA hr;split at h
  ·rename_i hek;rw[Qm]at hek;obtain⟨eT,rfl⟩:=kW h;obtain⟨re,rk,rT,rxs⟩:=r;simp only at eT h2 hek;subst eT;exact⟨h1,by rw[h2,QF hek.1,QF hek.2]⟩
  ·cases h
 ·cases h
def MY{ρ:Type}(rs:List RV)(e k:Nat)(T:U.Ty)(j:List (U.den T)->Option ρ)(en:Exit)(S:aL U):Option ρ:=
 match en with
 | .ret| .normal=>(match vg S rs with
  |some (.own id al)=>(match rowAt S id al e k T with|some ys=>j ys|none=>none)
  |_=>none)
 |_=>none
 def Xe(Γ:List (di U))(sa:SA U)(rs:List RV)(e k:Nat)(T:U.Ty)(A_s:List (cI U))(xs:List (U.den T))(a:du A_s):Option (List (U.den T)):=
 lM K Γ sa [] (some (0,[])) (MY rs e k T fun ys=>some ys) (RI e k T xs (qM K A_s a))
 def W9(Γ:List (di U))(sa:SA U)(rs:List RV)(A_s:List (cI U))(e k:Nat)(T:U.Ty)(a:du A_s):Option (List (U.den T)):=
 lM K Γ sa [] (some (0,[])) (MY rs e k T fun ys=>some ys) (Kr (qM K A_s a))
variable {K}
theorem HJ{ρ:Type}{rs:List RV}{e k:Nat}{T:U.Ty}{j:List (U.den T)->Option ρ}{en:Exit}{S:aL U}{z:ρ}(h:MY rs e k T j en S=some z):
  (en= .ret\/en= .normal)/\∃id al ys,vg S rs=some (.own id al)/\(S.H id).al=al/\(S.H id).c= .row e k T ys/\j ys=some z:=by
 have go:(match vg S rs with
  |some (.own id al)=>(match rowAt S id al e k T with|some ys=>j ys|none=>none)
  |_=>none)=some z->∃id al ys,vg S rs=some (.own id al)/\(S.H id).al=al/\(S.H id).c= .row e k T ys/\j ys=some z:=by
  intro he;split at he
  ·rename_i id al hx;split at he
   ·rename_i ys hys;obtain⟨h1,h2⟩:=Mi hys;exact⟨id,al,ys,hx,h1,h2,he⟩
   ·cases he
  ·cases he
 unfold MY at h;split at h
 ·exact⟨.inl rfl,go h⟩
 ·exact⟨.inr rfl,go h⟩
 ·cases h
theorem JM{rs:List RV}{e k:Nat}{T:U.Ty}{S':aL U}{id al:Nat}{ys:List (U.den T)}(h1:vg S' rs=some (.own id al))(h2:(S'.H id).al=al)(h3:(S'.H id).c= .row e k T ys)(K:TK U):xU rs e k (fun es''=>es''=ys.map (U.pv T)) .ret S'.st:=by
 simp only[xU];rw[Co h1];simp only[KV.pv];refine⟨h2,?_⟩;have:(S'.st.H id).c= .row e k (ys.map (U.pv T)):=by simp only[aL.st,ct.pv,h3,c9.pv]
 rw[this];exact⟨rfl,rfl,tK K T ys,rfl⟩
theorem OU{f:FuncId}{Γ:List (di U)}{sa:SA U}{rs:List RV}{e k:Nat}{T:U.Ty}{A_s:List (cI U)}(hf:ix P f nt sa.erase rs)(hok:sa.cU=true)(hlen:1+A_s.length<=nt)(hΓ:qx P Γ)
  {F:List (U.den T)->du A_s->Option (List (U.den T))} (hF:∀xs a,Xe K Γ sa rs e k T A_s xs a=F xs a):di.Sound P (.cw f e k T A_s F):=by
 refine⟨hf.enters,fun xs a ys hv=> ?_⟩
 rw[<-hF xs a]at hv;refine hf.XI (by simpa[ue]using hlen) ?_
 rw[<-Uw (K:=K)];refine(dG hΓ sa [] _ _ _ _ hok hv).mono ?_;rintro en A ⟨S',rfl,_,hk⟩;obtain⟨he,id,al,ys',h1,h2,h3,h5⟩:=HJ hk;injection h5 with h5
 subst h5;have hret:=JM h1 h2 h3 K;rcases he with rfl|rfl<;>exact hret
theorem OJ{f:FuncId}{Γ:List (di U)}{sa:SA U}{rs:List RV}{e k:Nat}{T:U.Ty}{A_s:List (cI U)}(hf:ix P f nt sa.erase rs)(hok:sa.cU=true)(hlen:A_s.length<=nt)(hΓ:qx P Γ)
  {F:du A_s->Option (List (U.den T))} (hF:∀a,W9 K Γ sa rs A_s e k T a=F a):di.Sound P (.fw f A_s e k T F):=by
 refine⟨hf.enters,fun a ys hv=> ?_⟩
 rw[<-hF a]at hv;refine hf.XH (by simpa[ue]using hlen) ?_
 rw[<-G2 (K:=K)];refine(dG hΓ sa [] _ _ _ _ hok hv).mono ?_;rintro en A ⟨S',rfl,_,hk⟩;obtain⟨he,id,al,ys',h1,h2,h3,h5⟩:=HJ hk;injection h5 with h5
 subst h5;have hret:=JM h1 h2 h3 K;rcases he with rfl|rfl<;>exact hret
end
end
section
def op{U:TU}(d:Nat)(x:bp)(r:RS U):RS U:= .op ⟨some d,none,x⟩ r
def ops{U:TU}(x:bp)(r:RS U):RS U:= .op ⟨none,none,x⟩ r
def tm(t:Nat):aT:= .tmp t
def ld{U:TU}(d t:Nat)(r:RS U):RS U:=op d (.load none (tm t)) r
def cl{U:TU}(d f:Nat)(l:List Nat)(r:RS U):RS U:=op d (.call f (l.map tm)) r
def aA(k:IntKind)(a b:Int):Int:=k.wrap (a+b)
def gf(k:IntKind)(a b:Int):Int:=k.wrap (a - b)
def zQ(k:IntKind)(a b:Int):Int:=k.wrap (a*b)
def sC(_:IntKind)(a b:Int):Int:=a.tmod b
def EA(k:IntKind)(a b:Int):Int:=k.wrap ((BitVec.ofInt k.bits a&&&BitVec.ofInt k.bits b).toNat)
def n5(k:IntKind)(a b:Int):Int:=k.wrap ((BitVec.ofInt k.bits a|||BitVec.ofInt k.bits b).toNat)
def iu(k:IntKind)(a b:Int):Int:=k.wrap ((BitVec.ofInt k.bits a^^^BitVec.ofInt k.bits b).toNat)
def uf(k:IntKind)(a b:Int):Int:=k.wrap ((BitVec.ofInt k.bits a&&& ~~~ BitVec.ofInt k.bits b).toNat)
def c7(k:IntKind)(a b:Int):Int:=k.wrap (a*2 ^ (min b.toNat k.bits))
def vd(k:IntKind)(a b:Int):Int:=a.fdiv (2 ^ (min b.toNat k.bits))
def cj(k:IntKind)(n:Int):Int:=k.wrap n
def dp(a b:Int):Int:=if b<a then b else a
def bn(a b:Int):Int:=if b>a then b else a
def lN(neg:Bool)(a b:Int)(s t:ByteArray):Bool:=xor neg (decide (a=b)&&decide (s=t))
def im{A R:Type}(B:(A->Option R)->A->Option R):Nat->A->Option R
 |0,_=>none
 |n+1,a=>B (im B n) a
section
variable {U : TU}
inductive RN (U:TU) where
 |ps (p:Ps U)
 |vp (t:Nat)
def Py(t:Nat):List SG->Option (List SG×SG×List SG)
 |[]=>none
 |o::r=>(match o.op with
  | .pick (.tmp t') _ _=>(match Nat.beq t t' with
   |true=>some ([],o,r)
   |false=>(match Py t r with|some (b,q,r')=>some (o::b,q,r')|none=>none))
  |_=>(match Py t r with|some (b,q,r')=>some (o::b,q,r')|none=>none))
def before(n:Nat):List (Nat×RN U)->List (Nat×RN U)
 |[]=>[]
 |(j,x)::l=>(match Nat.ble n j with|true=>[]|false=>(j,x)::before n l)
def after(n:Nat):List (Nat×RN U)->List (Nat×RN U)
 |[]=>[]
 |(j,x)::l=>(match Nat.ble n j with|true=>(j,x)::l|false=>after n l)
def tI(pk:Bool):Nat->List Nat->Nat->List SG->List (Nat×RN U)->RS U
 |0,_,_,_,_=> .nil
 |f+1,kn,i,[],ns=>(match ns with
  |(_,.ps p)::ns'=> .ps p (tI pk f kn i [] ns')
  |(_,.vp t)::ns'=> .vp t (tI pk f (t::kn) i [] ns')
  |[]=> .nil)
 |f+1,kn,i,o::r,ns=>(match(match ns with|(j,_)::_=>Nat.beq j i|[]=>false)with
  |true=>(match ns with
   |(_,.ps p)::ns'=> .ps p (tI pk f kn i (o::r) ns')
   |(_,.vp t)::ns'=> .vp t (tI pk f (t::kn) i (o::r) ns')
   |[]=> .nil)
  |false=>(match o.g with
   |none=> .op o (tI pk f kn (Nat.succ i) r ns)
   |some (t,w)=>(match fN t kn with
    |true=> .op o (tI pk f kn (Nat.succ i) r ns)
    |false=>(match pk with
     |true=> .vp t (tI pk f (t::kn) i (o::r) ns)
     |false=>(match Py t (o::r)with
      |some (b,q,r')=>(match q.op with
       | .pick _ x y=> .ite t w (tI pk f (t::kn) i b (before (Nat.add i b.length) ns)) (q.d.getD 0) q.g x y (tI pk f kn (Nat.succ (Nat.add i b.length)) r' (after (Nat.add i b.length) ns))
       |_=> .nil)
      |none=> .nil)))))
inductive NT (U:TU) where
 |e
 |l (x:NT U)
 |r (x:NT U)
 |b (x y:NT U)
 |ps (p:Ps U) (x:NT U)
 |Dk (p:Ps U) (x:NT U)
 |j (J:JS U) (x:NT U)
 |u (n:Nat) (x:NT U)
 |k (J:JS U) (f k:Nat) (nE:Option Nat) (T:U.Ty) (x:NT U)
 |g (ns:List (Nat×RN U))
def NT.lt:NT U->NT U
 | .l x=>x
 | .b x _=>x
 | .j _ x=>x.lt
 | .k _ _ _ _ _ x=>x.lt
 | .ps _ x=>x.lt
 | .Dk _ x=>x.lt
 |_=> .e
def NT.rt:NT U->NT U
 | .r x=>x
 | .b _ x=>x
 | .j _ x=>x.rt
 | .k _ _ _ _ _ x=>x.rt
 | .ps _ x=>x.rt
 | .Dk _ x=>x.rt
 |_=> .e
def NT.wrap:NT U->SA U->SA U
 | .ps p x,s=> .ps p (x.wrap s)
 | .Dk p x,s=> .Dk p (x.wrap s)
 |_,s=>s
def NT.core:NT U->NT U
 | .ps _ x=>x.core
 | .Dk _ x=>x.core
 |x=>x
def eX:SC->NT U->SA U
 | .skip,t=>t.wrap .skip
 | .sD ops,t=>t.wrap (.sD (match t.core with| .g ns=>tI false 4000 [] 0 ops ns|_=>tI false 4000 [] 0 ops []))
 | .pk un ops,t=>t.wrap (.pk un (match t.core with| .g ns=>tI true 4000 [] 0 ops ns|_=>tI true 4000 [] 0 ops []))
 | .seq x y,t=>t.wrap (match t.core with
  | .j J u=> .join J (eX x u.lt) (eX y u.rt)
  |u=> .seq (eX x u.lt) (eX y u.rt))
 | .cond c x y,t=>t.wrap (.cond c (eX x t.lt) (eX y t.rt))
 | .block id x,t=>t.wrap (.block id (eX x t.lt))
 | .loop x,t=>t.wrap (match t.core with
  | .j J u=> .loop J (eX x u.lt)
  | .u n t=> .NL n (eX x t.lt)
  |_=> .loop ⟨[],[]⟩ (eX x t.lt))
 | .AA g ps x y,t=>t.wrap (match t.core with
  | .k J f k nE T u=>(match g with
   | .tmp tg=> .back J f k nE T tg (ps.headD 0) (ps.tail.headD 0) (eX x u.lt) (eX y u.rt)
   |_=> .skip)
  |_=> .skip)
 | .exit id,t=>t.wrap (.exit id)
 | .ret,t=>t.wrap .ret
def iU(P:Program)(nt:Nat)(hs:List Nat)(fn:Func):SC:=(fn.body.bind (ay P nt hs)).getD .skip
end
section
variable {U : TU} {P : Program}
structure KS (U:TU) (P:Program) where
 k:di U
 s:k.Sound P
def KS.ks:List (KS U P)->List (di U)
 |[]=>[]
 |x::l=>x.k::KS.ks l
theorem KS.all:∀l:List (KS U P),qx P (KS.ks l)
 |[]=>trivial
 |x::l=>⟨x.s,KS.all l⟩
variable {K : TK U} {f : FuncId} {A_s : List (cI U)} {r : mV U} {e k : Nat} {T R : U.Ty}
theorem fk{f nt:Nat}{c:SC}{rs:List RV}(fn:Func)(hs:List Nat)(hf:P.funcs[f]?=some fn)(h0:fn.ntmps=nt:=by rfl)(h1:(fn.body.bind (ay P nt hs))=some c:=by kernel_rfl)(h2:jz P fn.results.toList=some rs:=by kernel_rfl)(h3:(fn.name== "runtime.NumGoroutine")=false:=by kernel_rfl):ix P f nt c rs:=⟨fn,hs,hf,h0,h1,h2,h3⟩
theorem Xa(sa:SA U)(nt:Nat)(rs:List RV)(G:List (KS U P))(hf:ix P f nt sa.erase rs)(hok:sa.cU=true:=by kernel_rfl)(hlen:A_s.length<=nt:=by decide){F:du A_s->Option r.den}(hF:JG K (KS.ks G) sa rs A_s r=F:=by kernel_rfl):di.Sound P (.fn f A_s r F):=
 BN hf hok hlen (KS.all G) fun a=>congrFun hF a
theorem XP{pos:Nat}(sa:SA U)(nt:Nat)(rs:List RV)(G:List (KS U P))(hf:ix P f nt sa.erase rs)(hok:sa.cU=true:=by kernel_rfl)(hlen:1+A_s.length<=nt:=by decide){F:U.den R->du A_s->Option (r.den×U.den R)}(hF:UL K (KS.ks G) sa rs pos R A_s r=F:=by kernel_rfl):di.Sound P (.rc f pos R A_s r F):=
 NX hf hok hlen (KS.all G) fun s a=>congrFun (congrFun hF s) a
theorem XO{pos:Nat}{F:U.den R->du A_s->Option (r.den×U.den R)}(h:di.Sound P (.rc f pos R A_s r F))(hs:∀s a q,F s a=some q->q.2=s):di.Sound P (.ro f pos R A_s r F):=
 ⟨h.1,fun s a v s' hv=>⟨hs s a _ hv,h.2 s a v s' hv⟩⟩
theorem XV(sa:SA U)(nt t:Nat)(G:List (KS U P))(hf:ix P f nt sa.erase [.tmp t])(hok:sa.cU=true:=by kernel_rfl)(hlen:A_s.length<=nt:=by decide){F:du A_s->Option (U.den R)}(hF:WY K (KS.ks G) sa [.tmp t] A_s R=F:=by kernel_rfl):di.Sound P (.nw f A_s R F):=
 Oo hf hok hlen (KS.all G) fun a=>congrFun hF a
theorem JX(sa:SA U)(nt:Nat)(rs:List RV)(G:List (KS U P))(hf:ix P f nt sa.erase rs)(hok:sa.cU=true:=by kernel_rfl)(hlen:1+A_s.length<=nt:=by decide){F:List (U.den T)->du A_s->Option (List (U.den T))}(hF:Xe K (KS.ks G) sa rs e k T A_s=F:=by kernel_rfl):di.Sound P (.cw f e k T A_s F):=
 OU hf hok hlen (KS.all G) fun s a=>congrFun (congrFun hF s) a
theorem OI(sa:SA U)(nt:Nat)(rs:List RV)(G:List (KS U P))(hf:ix P f nt sa.erase rs)(hok:sa.cU=true:=by kernel_rfl)(hlen:A_s.length<=nt:=by decide){F:du A_s->Option (List (U.den T))}(hF:W9 K (KS.ks G) sa rs A_s e k T=F:=by kernel_rfl):di.Sound P (.fw f A_s e k T F):=
 OJ hf hok hlen (KS.all G) fun a=>congrFun hF a
theorem Xb(sa:SA U)(nt:Nat)(rs:List RV)(G:List (KS U P))(hf:ix P f nt sa.erase rs)(hok:sa.cU=true:=by kernel_rfl)(hlen:A_s.length<=nt:=by decide){B:(du A_s->Option r.den)->du A_s->Option r.den}(hB:(fun g=>JG K (.fn f A_s r g::KS.ks G) sa rs A_s r)=B):∀n,di.Sound P (.fn f A_s r (im B n))
 |0=>⟨hf.enters,fun a r h=>by cases h⟩
 |n+1=>BN (K:=K) (Γ:= .fn f A_s r (im B n)::KS.ks G) (F:=im B (n+1)) hf hok hlen ⟨Xb sa nt rs G hf hok hlen hB n,KS.all G⟩ fun a=>congrFun (congrFun hB (im B n)) a
theorem BM(sa:SA U)(nt:Nat)(rs:List RV)(G:List (KS U P))(hf:ix P f nt sa.erase rs)(hok:sa.cU=true:=by kernel_rfl)(hlen:A_s.length<=nt:=by decide){B:(du A_s->Option r.den)->du A_s->Option r.den}(hB:(fun g=>JG K (.fn f A_s r g::KS.ks G) sa rs A_s r)=B:=by kernel_rfl){F:du A_s->Option r.den}(hF:∀a,∃n,F a=im B n a):di.Sound P (.fn f A_s r F):=
 ⟨hf.enters,fun a r h=>by
  obtain⟨n,hn⟩:=hF a;rw[hn]at h
  exact(Xb sa nt rs G hf hok hlen hB n).2 a r h⟩
theorem MO(sa:SA U)(nt:Nat)(rs:List RV)(G:(g:du A_s->Option r.den)->di.Sound P (.fn f A_s r g)->List (KS U P))(hf:ix P f nt sa.erase rs)(hok:sa.cU=true:=by kernel_rfl)(hlen:A_s.length<=nt:=by decide){B:(du A_s->Option r.den)->du A_s->Option r.den}(hB:(fun g h=>JG K (.fn f A_s r g::KS.ks (G g h)) sa rs A_s r)=fun g _=>B g):∀n,di.Sound P (.fn f A_s r (im B n))
 |0=>⟨hf.enters,fun a r h=>by cases h⟩
 |n+1=>BN (K:=K) (Γ:= .fn f A_s r (im B n)::KS.ks (G (im B n) (MO sa nt rs G hf hok hlen hB n))) (F:=im B (n+1)) hf hok hlen ⟨MO sa nt rs G hf hok hlen hB n,KS.all _⟩ fun a=>congrFun (congrFun (congrFun hB (im B n)) (MO sa nt rs G hf hok hlen hB n)) a
theorem Wm(sa:SA U)(nt:Nat)(rs:List RV)(G:(g:du A_s->Option r.den)->di.Sound P (.fn f A_s r g)->List (KS U P))(hf:ix P f nt sa.erase rs)(hok:sa.cU=true:=by kernel_rfl)(hlen:A_s.length<=nt:=by decide){B:(du A_s->Option r.den)->du A_s->Option r.den}(hB:(fun g h=>JG K (.fn f A_s r g::KS.ks (G g h)) sa rs A_s r)=(fun g _=>B g):=by kernel_rfl){F:du A_s->Option r.den}(hF:∀a,∃n,F a=im B n a):di.Sound P (.fn f A_s r F):=
 ⟨hf.enters,fun a r h=>by
  obtain⟨n,hn⟩:=hF a;rw[hn]at h
  exact(MO sa nt rs G hf hok hlen hB n).2 a r h⟩
end
end
section
structure an where
 aH:Int
 a8:(List Int)
 aM:(List an)
theorem an.eta(x:an):an.mk x.aH x.a8 x.aM=x:=by cases x;rfl
@[reducible] def aw (x:an):an:=an.mk x.aH x.a8 x.aM
structure aK where
 aq:Int
 aN:Int
 ao:an
 de:(List ByteArray)
 bB:(List ByteArray)
@[simp] theorem aK.eta (x:aK):aK.mk x.aq x.aN x.ao x.de x.bB=x:=rfl
structure aC where
 aq:Int
 bf:Int
 Round:Int
 aN:Int
 ao:an
 oI:ByteArray
 de:(List ByteArray)
 bB:(List ByteArray)
 bA:(List ByteArray)
 aB:(List aK)
@[simp] theorem aC.eta (x:aC):aC.mk x.aq x.bf x.Round x.aN x.ao x.oI x.de x.bB x.bA x.aB=x:=rfl
structure af where
 ae:Int
 Value:ByteArray
@[simp] theorem af.eta (x:af):af.mk x.ae x.Value=x:=rfl
structure ai where
 aq:Int
 bf:Int
 aN:Int
 ao:an
 bW:Int
 aa:af
 ak:af
 au:af
 aQ:Int
 bg:Int
@[simp] theorem ai.eta (x:ai):ai.mk x.aq x.bf x.aN x.ao x.bW x.aa x.ak x.au x.aQ x.bg=x:=rfl
structure ab where
 aq:Int
 bf:Int
 aN:Int
 ao:an
 aJ:Int
 aa:af
 ak:af
 au:af
 ar:af
 aQ:Int
 bg:Int
 bh:ByteArray
 aB:(List ai)
@[simp] theorem ab.eta (x:ab):ab.mk x.aq x.bf x.aN x.ao x.aJ x.aa x.ak x.au x.ar x.aQ x.bg x.bh x.aB=x:=rfl
structure fU where
 ae:Int
 Ce:Int
@[simp] theorem fU.eta (x:fU):fU.mk x.ae x.Ce=x:=rfl
structure bS where
 aF:aC
 aj:ab
 Timer:fU
 Round:Int
 Next:Int
 yx:Bool
 Value:ByteArray
@[simp] theorem bS.eta (x:bS):bS.mk x.aF x.aj x.Timer x.Round x.Next x.yx x.Value=x:=rfl
structure gU where
 bW:Int
 bf:Int
 bR:aK
 ax:ai
@[simp] theorem gU.eta (x:gU):gU.mk x.bW x.bf x.bR x.ax=x:=rfl
structure nu where
 L:(List Int)
 At:Int
@[simp] theorem nu.eta (x:nu):nu.mk x.L x.At=x:=rfl
structure av where
 aj:ab
@[simp] theorem av.eta (x:av):av.mk x.aj=x:=rfl
structure aO where
 dt:Bool
 ao:an
@[simp] theorem aO.eta (x:aO):aO.mk x.dt x.ao=x:=rfl
structure aZ where
 bH:(List aO)
@[simp] theorem aZ.eta (x:aZ):aZ.mk x.bH=x:=rfl
structure bc where
 ax:ai
@[simp] theorem bc.eta (x:bc):bc.mk x.ax=x:=rfl
structure eN where
 aq:Int
 View:aZ
 aB:(List bc)
@[simp] theorem eN.eta (x:eN):eN.mk x.aq x.View x.aB=x:=rfl
structure jQ where
 Ar:Int
 Value:Int
@[simp] theorem jQ.eta (x:jQ):jQ.mk x.Ar x.Value=x:=rfl
structure iw where
 aq:Int
 aN:Int
 ao:an
 de:(List jQ)
 bB:(List jQ)
@[simp] theorem iw.eta (x:iw):iw.mk x.aq x.aN x.ao x.de x.bB=x:=rfl
structure As where
 aE:Int
 low:Int
 bU:Int
 aG:af
 dw:af
 bC:af
 c6:af
@[simp] theorem As.eta (x:As):As.mk x.aE x.low x.bU x.aG x.dw x.bC x.c6=x:=rfl
structure mw where
 Pp:Int
 Pr:Int
@[simp] theorem mw.eta (x:mw):mw.mk x.Pp x.Pr=x:=rfl
structure mQ where
 c0:af
 c1:af
@[simp] theorem mQ.eta (x:mQ):mQ.mk x.c0 x.c1=x:=rfl
structure rH where
 c0:Int
 c1:Int
@[simp] theorem rH.eta (x:rH):rH.mk x.c0 x.c1=x:=rfl
attribute [simp] an.eta
inductive ke where
 |ao
 |bR
 |aF
 |aa
 |ax
 |aj
 |Timer
 |bf
 |my
 |Src
 |qP
 |nv
 |Config
 |pU
 |Seen
 |Claim
 |Message
 |oI
 |ui
 |k8
 |ou
 deriving DecidableEq
inductive Ty where
 |i (k:IntKind)
 |bool
 |str
 |sl (t:Ty)
 |mp (a b:Ty)
 |st (n:ke)
def ke.den:ke->Type
 | .ao=>an
 | .bR=>aK
 | .aF=>aC
 | .aa=>af
 | .ax=>ai
 | .aj=>ab
 | .Timer=>fU
 | .bf=>bS
 | .my=>gU
 | .Src=>nu
 | .qP=>av
 | .nv=>aO
 | .Config=>aZ
 | .pU=>bc
 | .Seen=>eN
 | .Claim=>jQ
 | .Message=>iw
 | .oI=>As
 | .ui=>mw
 | .k8=>mQ
 | .ou=>rH
def Ty.den:Ty->Type
 | .i _=>Int
 | .bool=>Bool
 | .str=>ByteArray
 | .sl t=>List t.den
 | .mp a b=>List (a.den×b.den)
 | .st n=>n.den
def Ty.beq:Ty->Ty->Bool
 | .i k,.i k'=>decide (k=k')
 | .bool,.bool=>true
 | .str,.str=>true
 | .sl t,.sl t'=>Ty.beq t t'
 | .mp a b,.mp a' b'=>Ty.beq a a'&&Ty.beq b b'
 | .st n,.st n'=>decide (n=n')
 |_,_=>false
theorem Ty.eq_of_beq:∀{a b:Ty},Ty.beq a b=true->a=b
 | .i k,.i k',h=>by rw[of_decide_eq_true h]
 | .bool,.bool,_=>rfl
 | .str,.str,_=>rfl
 | .sl t,.sl t',h=>by rw[Ty.eq_of_beq (a:=t) (b:=t') h]
 | .mp a b,.mp a' b',h=>by
  rw[Ty.beq,Qm]at h;rw[Ty.eq_of_beq (a:=a) (b:=a') h.1,Ty.eq_of_beq (a:=b) (b:=b') h.2]
 | .st n,.st n',h=>by rw[of_decide_eq_true h]
 | .i _,.bool,h=>by cases h
 | .i _,.str,h=>by cases h
 | .i _,.sl _,h=>by cases h
 | .i _,.st _,h=>by cases h
 | .bool,.i _,h=>by cases h
 | .bool,.str,h=>by cases h
 | .bool,.sl _,h=>by cases h
 | .bool,.st _,h=>by cases h
 | .str,.i _,h=>by cases h
 | .str,.bool,h=>by cases h
 | .str,.sl _,h=>by cases h
 | .str,.st _,h=>by cases h
 | .sl _,.i _,h=>by cases h
 | .sl _,.bool,h=>by cases h
 | .sl _,.str,h=>by cases h
 | .sl _,.st _,h=>by cases h
 | .st _,.i _,h=>by cases h
 | .st _,.bool,h=>by cases h
 | .st _,.str,h=>by cases h
 | .st _,.sl _,h=>by cases h
 | .mp _ _,.i _,h=>by cases h
 | .i _,.mp _ _,h=>by cases h
 | .mp _ _,.bool,h=>by cases h
 | .bool,.mp _ _,h=>by cases h
 | .mp _ _,.str,h=>by cases h
 | .str,.mp _ _,h=>by cases h
 | .mp _ _,.sl _,h=>by cases h
 | .sl _,.mp _ _,h=>by cases h
 | .mp _ _,.st _,h=>by cases h
 | .st _,.mp _ _,h=>by cases h
theorem Ty.Am:∀(a:Ty),Ty.beq a a=true
 | .i k=>Qg rfl
 | .bool=>rfl
 | .str=>rfl
 | .sl t=>Ty.Am t
 | .mp a b=>by rw[Ty.beq,Ty.Am a,Ty.Am b];rfl
 | .st n=>Qg rfl
def Ty.LD(a b:Ty):Decidable (a=b):=
 match h:Ty.beq a b with
 |true=>isTrue (Ty.eq_of_beq h)
 |false=>isFalse fun e=>by rw[e,Ty.Am]at h;cases h
@[reducible] def xi:List Ty->Type
 |[]=>Unit
 |t::l=>t.den×xi l
def ke.leaves:ke->List Ty
 | .ao=>[(Ty.i .i64),(Ty.sl (Ty.i .i64)),(Ty.sl (Ty.st .ao))]
 | .bR=>[(Ty.i .i64),(Ty.i .i64),(Ty.i .i64),(Ty.sl (Ty.i .i64)),(Ty.sl (Ty.st .ao)),(Ty.sl Ty.str),(Ty.sl Ty.str)]
 | .aF=>[(Ty.i .i64),(Ty.i .i64),(Ty.i .i64),(Ty.i .i64),(Ty.i .i64),(Ty.sl (Ty.i .i64)),(Ty.sl (Ty.st .ao)),Ty.str,(Ty.sl Ty.str),(Ty.sl Ty.str),(Ty.sl Ty.str),(Ty.sl (Ty.st .bR))]
 | .aa=>[(Ty.i .i64),Ty.str]
 | .ax=>[(Ty.i .i64),(Ty.i .i64),(Ty.i .i64),(Ty.i .i64),(Ty.sl (Ty.i .i64)),(Ty.sl (Ty.st .ao)),(Ty.i .i64),(Ty.i .i64),Ty.str,(Ty.i .i64),Ty.str,(Ty.i .i64),Ty.str,(Ty.i .i64),(Ty.i .i64)]
 | .aj=>[(Ty.i .i64),(Ty.i .i64),(Ty.i .i64),(Ty.i .i64),(Ty.sl (Ty.i .i64)),(Ty.sl (Ty.st .ao)),(Ty.i .i64),(Ty.i .i64),Ty.str,(Ty.i .i64),Ty.str,(Ty.i .i64),Ty.str,(Ty.i .i64),Ty.str,(Ty.i .i64),(Ty.i .i64),Ty.str,(Ty.sl (Ty.st .ax))]
 | .Timer=>[(Ty.i .i64),(Ty.i .i64)]
 | .bf=>[(Ty.i .i64),(Ty.i .i64),(Ty.i .i64),(Ty.i .i64),(Ty.i .i64),(Ty.sl (Ty.i .i64)),(Ty.sl (Ty.st .ao)),Ty.str,(Ty.sl Ty.str),(Ty.sl Ty.str),(Ty.sl Ty.str),(Ty.sl (Ty.st .bR)),(Ty.i .i64),(Ty.i .i64),(Ty.i .i64),(Ty.i .i64),(Ty.sl (Ty.i .i64)),(Ty.sl (Ty.st .ao)),(Ty.i .i64),(Ty.i .i64),Ty.str,(Ty.i .i64),Ty.str,(Ty.i .i64),Ty.str,(Ty.i .i64),Ty.str,(Ty.i .i64),(Ty.i .i64),Ty.str,(Ty.sl (Ty.st .ax)),(Ty.i .i64),(Ty.i .i64),(Ty.i .i64),(Ty.i .i64),Ty.bool,Ty.str]
 | .my=>[(Ty.i .i64),(Ty.i .i64),(Ty.i .i64),(Ty.i .i64),(Ty.i .i64),(Ty.sl (Ty.i .i64)),(Ty.sl (Ty.st .ao)),(Ty.sl Ty.str),(Ty.sl Ty.str),(Ty.i .i64),(Ty.i .i64),(Ty.i .i64),(Ty.i .i64),(Ty.sl (Ty.i .i64)),(Ty.sl (Ty.st .ao)),(Ty.i .i64),(Ty.i .i64),Ty.str,(Ty.i .i64),Ty.str,(Ty.i .i64),Ty.str,(Ty.i .i64),(Ty.i .i64)]
 | .Src=>[(Ty.sl (Ty.i .i64)),(Ty.i .i64)]
 | .qP=>[(Ty.i .i64),(Ty.i .i64),(Ty.i .i64),(Ty.i .i64),(Ty.sl (Ty.i .i64)),(Ty.sl (Ty.st .ao)),(Ty.i .i64),(Ty.i .i64),Ty.str,(Ty.i .i64),Ty.str,(Ty.i .i64),Ty.str,(Ty.i .i64),Ty.str,(Ty.i .i64),(Ty.i .i64),Ty.str,(Ty.sl (Ty.st .ax))]
 | .nv=>[Ty.bool,(Ty.i .i64),(Ty.sl (Ty.i .i64)),(Ty.sl (Ty.st .ao))]
 | .Config=>[(Ty.sl (Ty.st .nv))]
 | .pU=>[(Ty.i .i64),(Ty.i .i64),(Ty.i .i64),(Ty.i .i64),(Ty.sl (Ty.i .i64)),(Ty.sl (Ty.st .ao)),(Ty.i .i64),(Ty.i .i64),Ty.str,(Ty.i .i64),Ty.str,(Ty.i .i64),Ty.str,(Ty.i .i64),(Ty.i .i64)]
 | .Seen=>[(Ty.i .i64),(Ty.sl (Ty.st .nv)),(Ty.sl (Ty.st .pU))]
 | .Claim=>[(Ty.i .i64),(Ty.i .i64)]
 | .Message=>[(Ty.i .i64),(Ty.i .i64),(Ty.i .i64),(Ty.sl (Ty.i .i64)),(Ty.sl (Ty.st .ao)),(Ty.sl (Ty.st .Claim)),(Ty.sl (Ty.st .Claim))]
 | .oI=>[(Ty.i .i64),(Ty.i .i64),(Ty.i .i64),(Ty.i .i64),Ty.str,(Ty.i .i64),Ty.str,(Ty.i .i64),Ty.str,(Ty.i .i64),Ty.str]
 | .ui=>[(Ty.i .i64),(Ty.i .i64)]
 | .k8=>[(Ty.i .i64),Ty.str,(Ty.i .i64),Ty.str]
 | .ou=>[(Ty.i .i64),(Ty.i .i64)]
def ke.toL:(n:ke)->n.den->xi n.leaves
 | .ao,(v:an)=>(v.aH,v.a8,v.aM,())
 | .bR,(v:aK)=>(v.aq,v.aN,v.ao.aH,v.ao.a8,v.ao.aM,v.de,v.bB,())
 | .aF,(v:aC)=>(v.aq,v.bf,v.Round,v.aN,v.ao.aH,v.ao.a8,v.ao.aM,v.oI,v.de,v.bB,v.bA,v.aB,())
 | .aa,(v:af)=>(v.ae,v.Value,())
 | .ax,(v:ai)=>(v.aq,v.bf,v.aN,v.ao.aH,v.ao.a8,v.ao.aM,v.bW,v.aa.ae,v.aa.Value,v.ak.ae,v.ak.Value,v.au.ae,v.au.Value,v.aQ,v.bg,())
 | .aj,(v:ab)=>(v.aq,v.bf,v.aN,v.ao.aH,v.ao.a8,v.ao.aM,v.aJ,v.aa.ae,v.aa.Value,v.ak.ae,v.ak.Value,v.au.ae,v.au.Value,v.ar.ae,v.ar.Value,v.aQ,v.bg,v.bh,v.aB,())
 | .Timer,(v:fU)=>(v.ae,v.Ce,())
 | .bf,(v:bS)=>(v.aF.aq,v.aF.bf,v.aF.Round,v.aF.aN,v.aF.ao.aH,v.aF.ao.a8,v.aF.ao.aM,v.aF.oI,v.aF.de,v.aF.bB,v.aF.bA,v.aF.aB,v.aj.aq,v.aj.bf,v.aj.aN,v.aj.ao.aH,v.aj.ao.a8,v.aj.ao.aM,v.aj.aJ,v.aj.aa.ae,v.aj.aa.Value,v.aj.ak.ae,v.aj.ak.Value,v.aj.au.ae,v.aj.au.Value,v.aj.ar.ae,v.aj.ar.Value,v.aj.aQ,v.aj.bg,v.aj.bh,v.aj.aB,v.Timer.ae,v.Timer.Ce,v.Round,v.Next,v.yx,v.Value,())
 | .my,(v:gU)=>(v.bW,v.bf,v.bR.aq,v.bR.aN,v.bR.ao.aH,v.bR.ao.a8,v.bR.ao.aM,v.bR.de,v.bR.bB,v.ax.aq,v.ax.bf,v.ax.aN,v.ax.ao.aH,v.ax.ao.a8,v.ax.ao.aM,v.ax.bW,v.ax.aa.ae,v.ax.aa.Value,v.ax.ak.ae,v.ax.ak.Value,v.ax.au.ae,v.ax.au.Value,v.ax.aQ,v.ax.bg,())
 | .Src,(v:nu)=>(v.L,v.At,())
 | .qP,(v:av)=>(v.aj.aq,v.aj.bf,v.aj.aN,v.aj.ao.aH,v.aj.ao.a8,v.aj.ao.aM,v.aj.aJ,v.aj.aa.ae,v.aj.aa.Value,v.aj.ak.ae,v.aj.ak.Value,v.aj.au.ae,v.aj.au.Value,v.aj.ar.ae,v.aj.ar.Value,v.aj.aQ,v.aj.bg,v.aj.bh,v.aj.aB,())
 | .nv,(v:aO)=>(v.dt,v.ao.aH,v.ao.a8,v.ao.aM,())
 | .Config,(v:aZ)=>(v.bH,())
 | .pU,(v:bc)=>(v.ax.aq,v.ax.bf,v.ax.aN,v.ax.ao.aH,v.ax.ao.a8,v.ax.ao.aM,v.ax.bW,v.ax.aa.ae,v.ax.aa.Value,v.ax.ak.ae,v.ax.ak.Value,v.ax.au.ae,v.ax.au.Value,v.ax.aQ,v.ax.bg,())
 | .Seen,(v:eN)=>(v.aq,v.View.bH,v.aB,())
 | .Claim,(v:jQ)=>(v.Ar,v.Value,())
 | .Message,(v:iw)=>(v.aq,v.aN,v.ao.aH,v.ao.a8,v.ao.aM,v.de,v.bB,())
 | .oI,(v:As)=>(v.aE,v.low,v.bU,v.aG.ae,v.aG.Value,v.dw.ae,v.dw.Value,v.bC.ae,v.bC.Value,v.c6.ae,v.c6.Value,())
 | .ui,(v:mw)=>(v.Pp,v.Pr,())
 | .k8,(v:mQ)=>(v.c0.ae,v.c0.Value,v.c1.ae,v.c1.Value,())
 | .ou,(v:rH)=>(v.c0,v.c1,())
def ke.R7:(n:ke)->xi n.leaves->n.den
 | .ao,v=>(an.mk v.1 v.2.1 v.2.2.1)
 | .bR,v=>(aK.mk v.1 v.2.1 (an.mk v.2.2.1 v.2.2.2.1 v.2.2.2.2.1) v.2.2.2.2.2.1 v.2.2.2.2.2.2.1)
 | .aF,v=>(aC.mk v.1 v.2.1 v.2.2.1 v.2.2.2.1 (an.mk v.2.2.2.2.1 v.2.2.2.2.2.1 v.2.2.2.2.2.2.1) v.2.2.2.2.2.2.2.1 v.2.2.2.2.2.2.2.2.1 v.2.2.2.2.2.2.2.2.2.1 v.2.2.2.2.2.2.2.2.2.2.1 v.2.2.2.2.2.2.2.2.2.2.2.1)
 | .aa,v=>(af.mk v.1 v.2.1)
 | .ax,v=>(ai.mk v.1 v.2.1 v.2.2.1 (an.mk v.2.2.2.1 v.2.2.2.2.1 v.2.2.2.2.2.1) v.2.2.2.2.2.2.1 (af.mk v.2.2.2.2.2.2.2.1 v.2.2.2.2.2.2.2.2.1) (af.mk v.2.2.2.2.2.2.2.2.2.1 v.2.2.2.2.2.2.2.2.2.2.1) (af.mk v.2.2.2.2.2.2.2.2.2.2.2.1 v.2.2.2.2.2.2.2.2.2.2.2.2.1) v.2.2.2.2.2.2.2.2.2.2.2.2.2.1 v.2.2.2.2.2.2.2.2.2.2.2.2.2.2.1)
 | .aj,v=>(ab.mk v.1 v.2.1 v.2.2.1 (an.mk v.2.2.2.1 v.2.2.2.2.1 v.2.2.2.2.2.1) v.2.2.2.2.2.2.1 (af.mk v.2.2.2.2.2.2.2.1 v.2.2.2.2.2.2.2.2.1) (af.mk v.2.2.2.2.2.2.2.2.2.1 v.2.2.2.2.2.2.2.2.2.2.1) (af.mk v.2.2.2.2.2.2.2.2.2.2.2.1 v.2.2.2.2.2.2.2.2.2.2.2.2.1) (af.mk v.2.2.2.2.2.2.2.2.2.2.2.2.2.1 v.2.2.2.2.2.2.2.2.2.2.2.2.2.2.1) v.2.2.2.2.2.2.2.2.2.2.2.2.2.2.2.1 v.2.2.2.2.2.2.2.2.2.2.2.2.2.2.2.2.1 v.2.2.2.2.2.2.2.2.2.2.2.2.2.2.2.2.2.1 v.2.2.2.2.2.2.2.2.2.2.2.2.2.2.2.2.2.2.1)
 | .Timer,v=>(fU.mk v.1 v.2.1)
 | .bf,v=>(bS.mk (aC.mk v.1 v.2.1 v.2.2.1 v.2.2.2.1 (an.mk v.2.2.2.2.1 v.2.2.2.2.2.1 v.2.2.2.2.2.2.1) v.2.2.2.2.2.2.2.1 v.2.2.2.2.2.2.2.2.1 v.2.2.2.2.2.2.2.2.2.1 v.2.2.2.2.2.2.2.2.2.2.1 v.2.2.2.2.2.2.2.2.2.2.2.1) (ab.mk v.2.2.2.2.2.2.2.2.2.2.2.2.1 v.2.2.2.2.2.2.2.2.2.2.2.2.2.1 v.2.2.2.2.2.2.2.2.2.2.2.2.2.2.1 (an.mk v.2.2.2.2.2.2.2.2.2.2.2.2.2.2.2.1 v.2.2.2.2.2.2.2.2.2.2.2.2.2.2.2.2.1 v.2.2.2.2.2.2.2.2.2.2.2.2.2.2.2.2.2.1) v.2.2.2.2.2.2.2.2.2.2.2.2.2.2.2.2.2.2.1 (af.mk v.2.2.2.2.2.2.2.2.2.2.2.2.2.2.2.2.2.2.2.1 v.2.2.2.2.2.2.2.2.2.2.2.2.2.2.2.2.2.2.2.2.1) (af.mk v.2.2.2.2.2.2.2.2.2.2.2.2.2.2.2.2.2.2.2.2.2.1 v.2.2.2.2.2.2.2.2.2.2.2.2.2.2.2.2.2.2.2.2.2.2.1) (af.mk v.2.2.2.2.2.2.2.2.2.2.2.2.2.2.2.2.2.2.2.2.2.2.2.1 v.2.2.2.2.2.2.2.2.2.2.2.2.2.2.2.2.2.2.2.2.2.2.2.2.1) (af.mk v.2.2.2.2.2.2.2.2.2.2.2.2.2.2.2.2.2.2.2.2.2.2.2.2.2.1 v.2.2.2.2.2.2.2.2.2.2.2.2.2.2.2.2.2.2.2.2.2.2.2.2.2.2.1) v.2.2.2.2.2.2.2.2.2.2.2.2.2.2.2.2.2.2.2.2.2.2.2.2.2.2.2.1 v.2.2.2.2.2.2.2.2.2.2.2.2.2.2.2.2.2.2.2.2.2.2.2.2.2.2.2.2.1 v.2.2.2.2.2.2.2.2.2.2.2.2.2.2.2.2.2.2.2.2.2.2.2.2.2.2.2.2.2.1 v.2.2.2.2.2.2.2.2.2.2.2.2.2.2.2.2.2.2.2.2.2.2.2.2.2.2.2.2.2.2.1) (fU.mk v.2.2.2.2.2.2.2.2.2.2.2.2.2.2.2.2.2.2.2.2.2.2.2.2.2.2.2.2.2.2.2.1 v.2.2.2.2.2.2.2.2.2.2.2.2.2.2.2.2.2.2.2.2.2.2.2.2.2.2.2.2.2.2.2.2.1) v.2.2.2.2.2.2.2.2.2.2.2.2.2.2.2.2.2.2.2.2.2.2.2.2.2.2.2.2.2.2.2.2.2.1 v.2.2.2.2.2.2.2.2.2.2.2.2.2.2.2.2.2.2.2.2.2.2.2.2.2.2.2.2.2.2.2.2.2.2.1 v.2.2.2.2.2.2.2.2.2.2.2.2.2.2.2.2.2.2.2.2.2.2.2.2.2.2.2.2.2.2.2.2.2.2.2.1 v.2.2.2.2.2.2.2.2.2.2.2.2.2.2.2.2.2.2.2.2.2.2.2.2.2.2.2.2.2.2.2.2.2.2.2.2.1)
 | .my,v=>(gU.mk v.1 v.2.1 (aK.mk v.2.2.1 v.2.2.2.1 (an.mk v.2.2.2.2.1 v.2.2.2.2.2.1 v.2.2.2.2.2.2.1) v.2.2.2.2.2.2.2.1 v.2.2.2.2.2.2.2.2.1) (ai.mk v.2.2.2.2.2.2.2.2.2.1 v.2.2.2.2.2.2.2.2.2.2.1 v.2.2.2.2.2.2.2.2.2.2.2.1 (an.mk v.2.2.2.2.2.2.2.2.2.2.2.2.1 v.2.2.2.2.2.2.2.2.2.2.2.2.2.1 v.2.2.2.2.2.2.2.2.2.2.2.2.2.2.1) v.2.2.2.2.2.2.2.2.2.2.2.2.2.2.2.1 (af.mk v.2.2.2.2.2.2.2.2.2.2.2.2.2.2.2.2.1 v.2.2.2.2.2.2.2.2.2.2.2.2.2.2.2.2.2.1) (af.mk v.2.2.2.2.2.2.2.2.2.2.2.2.2.2.2.2.2.2.1 v.2.2.2.2.2.2.2.2.2.2.2.2.2.2.2.2.2.2.2.1) (af.mk v.2.2.2.2.2.2.2.2.2.2.2.2.2.2.2.2.2.2.2.2.1 v.2.2.2.2.2.2.2.2.2.2.2.2.2.2.2.2.2.2.2.2.2.1) v.2.2.2.2.2.2.2.2.2.2.2.2.2.2.2.2.2.2.2.2.2.2.1 v.2.2.2.2.2.2.2.2.2.2.2.2.2.2.2.2.2.2.2.2.2.2.2.1))
 | .Src,v=>(nu.mk v.1 v.2.1)
 | .qP,v=>(av.mk (ab.mk v.1 v.2.1 v.2.2.1 (an.mk v.2.2.2.1 v.2.2.2.2.1 v.2.2.2.2.2.1) v.2.2.2.2.2.2.1 (af.mk v.2.2.2.2.2.2.2.1 v.2.2.2.2.2.2.2.2.1) (af.mk v.2.2.2.2.2.2.2.2.2.1 v.2.2.2.2.2.2.2.2.2.2.1) (af.mk v.2.2.2.2.2.2.2.2.2.2.2.1 v.2.2.2.2.2.2.2.2.2.2.2.2.1) (af.mk v.2.2.2.2.2.2.2.2.2.2.2.2.2.1 v.2.2.2.2.2.2.2.2.2.2.2.2.2.2.1) v.2.2.2.2.2.2.2.2.2.2.2.2.2.2.2.1 v.2.2.2.2.2.2.2.2.2.2.2.2.2.2.2.2.1 v.2.2.2.2.2.2.2.2.2.2.2.2.2.2.2.2.2.1 v.2.2.2.2.2.2.2.2.2.2.2.2.2.2.2.2.2.2.1))
 | .nv,v=>(aO.mk v.1 (an.mk v.2.1 v.2.2.1 v.2.2.2.1))
 | .Config,v=>(aZ.mk v.1)
 | .pU,v=>(bc.mk (ai.mk v.1 v.2.1 v.2.2.1 (an.mk v.2.2.2.1 v.2.2.2.2.1 v.2.2.2.2.2.1) v.2.2.2.2.2.2.1 (af.mk v.2.2.2.2.2.2.2.1 v.2.2.2.2.2.2.2.2.1) (af.mk v.2.2.2.2.2.2.2.2.2.1 v.2.2.2.2.2.2.2.2.2.2.1) (af.mk v.2.2.2.2.2.2.2.2.2.2.2.1 v.2.2.2.2.2.2.2.2.2.2.2.2.1) v.2.2.2.2.2.2.2.2.2.2.2.2.2.1 v.2.2.2.2.2.2.2.2.2.2.2.2.2.2.1))
 | .Seen,v=>(eN.mk v.1 (aZ.mk v.2.1) v.2.2.1)
 | .Claim,v=>(jQ.mk v.1 v.2.1)
 | .Message,v=>(iw.mk v.1 v.2.1 (an.mk v.2.2.1 v.2.2.2.1 v.2.2.2.2.1) v.2.2.2.2.2.1 v.2.2.2.2.2.2.1)
 | .oI,v=>(As.mk v.1 v.2.1 v.2.2.1 (af.mk v.2.2.2.1 v.2.2.2.2.1) (af.mk v.2.2.2.2.2.1 v.2.2.2.2.2.2.1) (af.mk v.2.2.2.2.2.2.2.1 v.2.2.2.2.2.2.2.2.1) (af.mk v.2.2.2.2.2.2.2.2.2.1 v.2.2.2.2.2.2.2.2.2.2.1))
 | .ui,v=>(mw.mk v.1 v.2.1)
 | .k8,v=>(mQ.mk (af.mk v.1 v.2.1) (af.mk v.2.2.1 v.2.2.2.1))
 | .ou,v=>(rH.mk v.1 v.2.1)
mutual
def fJ:an->List PV
 |⟨a0,a1,a2⟩=>[.int .i64 a0,.sl (a1.map (fun x=>[.int .i64 x])),.sl (sG a2)]
def sG:List an->List (List PV)
 |[]=>[]
 |x::l=>fJ x::sG l
end
theorem yC:∀(l:List an),sG l=l.map fJ
 |[]=>by rw[sG];rfl
 |x::l=>by rw[sG,yC l];rfl
def tJ(v:aK):List PV:=[.int .i64 v.aq,.int .i64 v.aN,.int .i64 v.ao.aH,.sl (v.ao.a8.map (fun x=>[.int .i64 x])),.sl (v.ao.aM.map fJ),.sl (v.de.map (fun x=>[.str x])),.sl (v.bB.map (fun x=>[.str x]))]
def H2(v:aC):List PV:=[.int .i64 v.aq,.int .i64 v.bf,.int .i64 v.Round,.int .i64 v.aN,.int .i64 v.ao.aH,.sl (v.ao.a8.map (fun x=>[.int .i64 x])),.sl (v.ao.aM.map fJ),.str v.oI,.sl (v.de.map (fun x=>[.str x])),.sl (v.bB.map (fun x=>[.str x])),.sl (v.bA.map (fun x=>[.str x])),.sl (v.aB.map tJ)]
def Mq(v:af):List PV:=[.int .i64 v.ae,.str v.Value]
def sH(v:ai):List PV:=[.int .i64 v.aq,.int .i64 v.bf,.int .i64 v.aN,.int .i64 v.ao.aH,.sl (v.ao.a8.map (fun x=>[.int .i64 x])),.sl (v.ao.aM.map fJ),.int .i64 v.bW,.int .i64 v.aa.ae,.str v.aa.Value,.int .i64 v.ak.ae,.str v.ak.Value,.int .i64 v.au.ae,.str v.au.Value,.int .i64 v.aQ,.int .i64 v.bg]
def KL(v:ab):List PV:=[.int .i64 v.aq,.int .i64 v.bf,.int .i64 v.aN,.int .i64 v.ao.aH,.sl (v.ao.a8.map (fun x=>[.int .i64 x])),.sl (v.ao.aM.map fJ),.int .i64 v.aJ,.int .i64 v.aa.ae,.str v.aa.Value,.int .i64 v.ak.ae,.str v.ak.Value,.int .i64 v.au.ae,.str v.au.Value,.int .i64 v.ar.ae,.str v.ar.Value,.int .i64 v.aQ,.int .i64 v.bg,.str v.bh,.sl (v.aB.map sH)]
def N0(v:fU):List PV:=[.int .i64 v.ae,.int .i64 v.Ce]
def PI(v:bS):List PV:=[.int .i64 v.aF.aq,.int .i64 v.aF.bf,.int .i64 v.aF.Round,.int .i64 v.aF.aN,.int .i64 v.aF.ao.aH,.sl (v.aF.ao.a8.map (fun x=>[.int .i64 x])),.sl (v.aF.ao.aM.map fJ),.str v.aF.oI,.sl (v.aF.de.map (fun x=>[.str x])),.sl (v.aF.bB.map (fun x=>[.str x])),.sl (v.aF.bA.map (fun x=>[.str x])),.sl (v.aF.aB.map tJ),.int .i64 v.aj.aq,.int .i64 v.aj.bf,.int .i64 v.aj.aN,.int .i64 v.aj.ao.aH,.sl (v.aj.ao.a8.map (fun x=>[.int .i64 x])),.sl (v.aj.ao.aM.map fJ),.int .i64 v.aj.aJ,.int .i64 v.aj.aa.ae,.str v.aj.aa.Value,.int .i64 v.aj.ak.ae,.str v.aj.ak.Value,.int .i64 v.aj.au.ae,.str v.aj.au.Value,.int .i64 v.aj.ar.ae,.str v.aj.ar.Value,.int .i64 v.aj.aQ,.int .i64 v.aj.bg,.str v.aj.bh,.sl (v.aj.aB.map sH),.int .i64 v.Timer.ae,.int .i64 v.Timer.Ce,.int .i64 v.Round,.int .i64 v.Next,.bool v.yx,.str v.Value]
def Mn(v:gU):List PV:=[.int .i64 v.bW,.int .i64 v.bf,.int .i64 v.bR.aq,.int .i64 v.bR.aN,.int .i64 v.bR.ao.aH,.sl (v.bR.ao.a8.map (fun x=>[.int .i64 x])),.sl (v.bR.ao.aM.map fJ),.sl (v.bR.de.map (fun x=>[.str x])),.sl (v.bR.bB.map (fun x=>[.str x])),.int .i64 v.ax.aq,.int .i64 v.ax.bf,.int .i64 v.ax.aN,.int .i64 v.ax.ao.aH,.sl (v.ax.ao.a8.map (fun x=>[.int .i64 x])),.sl (v.ax.ao.aM.map fJ),.int .i64 v.ax.bW,.int .i64 v.ax.aa.ae,.str v.ax.aa.Value,.int .i64 v.ax.ak.ae,.str v.ax.ak.Value,.int .i64 v.ax.au.ae,.str v.ax.au.Value,.int .i64 v.ax.aQ,.int .i64 v.ax.bg]
def SV(v:nu):List PV:=[.sl (v.L.map (fun x=>[.int .i64 x])),.int .i64 v.At]
def Mo(v:av):List PV:=[.int .i64 v.aj.aq,.int .i64 v.aj.bf,.int .i64 v.aj.aN,.int .i64 v.aj.ao.aH,.sl (v.aj.ao.a8.map (fun x=>[.int .i64 x])),.sl (v.aj.ao.aM.map fJ),.int .i64 v.aj.aJ,.int .i64 v.aj.aa.ae,.str v.aj.aa.Value,.int .i64 v.aj.ak.ae,.str v.aj.ak.Value,.int .i64 v.aj.au.ae,.str v.aj.au.Value,.int .i64 v.aj.ar.ae,.str v.aj.ar.Value,.int .i64 v.aj.aQ,.int .i64 v.aj.bg,.str v.aj.bh,.sl (v.aj.aB.map sH)]
def zH(v:aO):List PV:=[.bool v.dt,.int .i64 v.ao.aH,.sl (v.ao.a8.map (fun x=>[.int .i64 x])),.sl (v.ao.aM.map fJ)]
def Mp(v:aZ):List PV:=[.sl (v.bH.map zH)]
def Hg(v:bc):List PV:=[.int .i64 v.ax.aq,.int .i64 v.ax.bf,.int .i64 v.ax.aN,.int .i64 v.ax.ao.aH,.sl (v.ax.ao.a8.map (fun x=>[.int .i64 x])),.sl (v.ax.ao.aM.map fJ),.int .i64 v.ax.bW,.int .i64 v.ax.aa.ae,.str v.ax.aa.Value,.int .i64 v.ax.ak.ae,.str v.ax.ak.Value,.int .i64 v.ax.au.ae,.str v.ax.au.Value,.int .i64 v.ax.aQ,.int .i64 v.ax.bg]
def PJ(v:eN):List PV:=[.int .i64 v.aq,.sl (v.View.bH.map zH),.sl (v.aB.map Hg)]
def Bl(v:jQ):List PV:=[.int .i64 v.Ar,.int .i64 v.Value]
def KJ(v:iw):List PV:=[.int .i64 v.aq,.int .i64 v.aN,.int .i64 v.ao.aH,.sl (v.ao.a8.map (fun x=>[.int .i64 x])),.sl (v.ao.aM.map fJ),.sl (v.de.map Bl),.sl (v.bB.map Bl)]
def SX(v:As):List PV:=[.int .i64 v.aE,.int .i64 v.low,.int .i64 v.bU,.int .i64 v.aG.ae,.str v.aG.Value,.int .i64 v.dw.ae,.str v.dw.Value,.int .i64 v.bC.ae,.str v.bC.Value,.int .i64 v.c6.ae,.str v.c6.Value]
def PK(v:mw):List PV:=[.int .i64 v.Pp,.int .i64 v.Pr]
def Gu(v:mQ):List PV:=[.int .i64 v.c0.ae,.str v.c0.Value,.int .i64 v.c1.ae,.str v.c1.Value]
def KM(v:rH):List PV:=[.int .i64 v.c0,.int .i64 v.c1]
def ke.pv:(n:ke)->n.den->List PV
 | .ao,v=>fJ v
 | .bR,v=>tJ v
 | .aF,v=>H2 v
 | .aa,v=>Mq v
 | .ax,v=>sH v
 | .aj,v=>KL v
 | .Timer,v=>N0 v
 | .bf,v=>PI v
 | .my,v=>Mn v
 | .Src,v=>SV v
 | .qP,v=>Mo v
 | .nv,v=>zH v
 | .Config,v=>Mp v
 | .pU,v=>Hg v
 | .Seen,v=>PJ v
 | .Claim,v=>Bl v
 | .Message,v=>KJ v
 | .oI,v=>SX v
 | .ui,v=>PK v
 | .k8,v=>Gu v
 | .ou,v=>KM v
def Ty.isAgg:Ty->Bool
 | .st _=>true
 |_=>false
def RU(t:Ty)(cs:List PV):PV:=match t.isAgg with|true=> .agg cs|false=>cs.headD .any
def Ty.pv:(t:Ty)->t.den->List PV
 | .i k,n=>[.int k n]
 | .bool,b=>[.bool b]
 | .str,s=>[.str s]
 | .sl t,(xs:List t.den)=>[.sl (xs.map (Ty.pv t))]
 | .mp a b,(xs:List (a.den×b.den))=>[.fX (xs.map fun p=>RU a (Ty.pv a p.1)) (xs.map fun p=>RU b (Ty.pv b p.2))]
 | .st n,v=>n.pv v
def sN:(ls:List Ty)->xi ls->List PV
 |[],_=>[]
 |t::l,v=>t.pv v.1++sN l v.2
theorem ke.EZ:∀(n:ke) (v:n.den),n.pv v=sN n.leaves (n.toL v)
 | .ao,v=>by cases v;simp only[ke.pv,fJ,yC];rfl
 | .bR,v=>rfl
 | .aF,v=>rfl
 | .aa,v=>rfl
 | .ax,v=>rfl
 | .aj,v=>rfl
 | .Timer,v=>rfl
 | .bf,v=>rfl
 | .my,v=>rfl
 | .Src,v=>rfl
 | .qP,v=>rfl
 | .nv,v=>rfl
 | .Config,v=>rfl
 | .pU,v=>rfl
 | .Seen,v=>rfl
 | .Claim,v=>rfl
 | .Message,v=>rfl
 | .oI,v=>rfl
 | .ui,v=>rfl
 | .k8,v=>rfl
 | .ou,v=>rfl
def Ty.leaf:Ty->Bool
 | .st _=>false
 |_=>true
theorem ke.Cz:∀(n:ke),n.leaves.all Ty.leaf=true
 | .ao=>rfl
 | .bR=>rfl
 | .aF=>rfl
 | .aa=>rfl
 | .ax=>rfl
 | .aj=>rfl
 | .Timer=>rfl
 | .bf=>rfl
 | .my=>rfl
 | .Src=>rfl
 | .qP=>rfl
 | .nv=>rfl
 | .Config=>rfl
 | .pU=>rfl
 | .Seen=>rfl
 | .Claim=>rfl
 | .Message=>rfl
 | .oI=>rfl
 | .ui=>rfl
 | .k8=>rfl
 | .ou=>rfl
theorem ke.VU:∀(n:ke) (v:xi n.leaves),n.toL (n.R7 v)=v
 | .ao,v=>rfl
 | .bR,v=>rfl
 | .aF,v=>rfl
 | .aa,v=>rfl
 | .ax,v=>rfl
 | .aj,v=>rfl
 | .Timer,v=>rfl
 | .bf,v=>rfl
 | .my,v=>rfl
 | .Src,v=>rfl
 | .qP,v=>rfl
 | .nv,v=>rfl
 | .Config,v=>rfl
 | .pU,v=>rfl
 | .Seen,v=>rfl
 | .Claim,v=>rfl
 | .Message,v=>rfl
 | .oI,v=>rfl
 | .ui,v=>rfl
 | .k8,v=>rfl
 | .ou,v=>rfl
def Ty.MC:Ty->Bool
 | .sl _=>false
 | .mp _ _=>false
 |_=>true
@[reducible] def U:TU where
 Ty:=Ty
 LD:=Ty.LD
 den:=Ty.den
 pv:=Ty.pv
 size:=fun t=>match t with| .st n=>n.leaves.length|_=>1
 agg:=Ty.isAgg
 plain:=fun t=>match t with| .st n=>n.leaves.all Ty.MC|t=>t.MC
def zW:(t:Ty)->t.den->KV U
 | .i k,n=> .int k n
 | .bool,b=> .bool b
 | .str,s=> .str s
 | .sl t,(xs:List t.den)=> .sl t xs
 | .mp a b,(xs:List (a.den×b.den))=> .fX a b xs
 | .st _,_=> .any
def Cy:(ls:List Ty)->xi ls->List (KV U)
 |[],_=>[]
 |t::l,v=>zW t v.1::Cy l v.2
def Vh:(t:Ty)->t.den->List (KV U)
 | .st n,v=>Cy n.leaves (n.toL v)
 | .i k,v=>[zW (.i k) v]
 | .bool,v=>[zW .bool v]
 | .str,v=>[zW .str v]
 | .sl t,v=>[zW (.sl t) v]
 | .mp a b,v=>[zW (.mp a b) v]
def tY(lk:Lk U):(t:Ty)->KV U->Option t.den
 | .i k,x=>Rn k x
 | .bool,x=>BV x
 | .str,x=>Rl x
 | .sl t,x=>JU (U:=U) lk t x
 | .mp a b,x=>Rm (U:=U) a b x
 | .st _,_=>none
def uU(lk:Lk U):(ls:List Ty)->List (KV U)->Option (xi ls)
 |[],cs=>match cs with|[]=>some ()|_=>none
 |t::l,cs=>match cs with
  |c::cs=>(match tY lk t c with
   |some v=>(match uU lk l cs with|some vs=>some (v,vs)|none=>none)
   |none=>none)
  |[]=>none
def Es{α:Type}(f:KV U->Option α):List (KV U)->Option α
 |[x]=>f x
 |_=>none
def XE:(t:Ty)->Lk U->List (KV U)->Option t.den
 | .st n,lk,cs=>(match uU lk n.leaves cs with|some v=>some (n.R7 v)|none=>none)
 | .i k,lk,cs=>Es (tY lk (.i k)) cs
 | .bool,lk,cs=>Es (tY lk .bool) cs
 | .str,lk,cs=>Es (tY lk .str) cs
 | .sl t,lk,cs=>Es (tY lk (.sl t)) cs
 | .mp a b,lk,cs=>Es (tY lk (.mp a b)) cs
theorem P6:∀(t:Ty) (v:t.den),t.leaf=true->[(zW t v).pv]=t.pv v
 | .i k,v,_=>rfl
 | .bool,v,_=>rfl
 | .str,v,_=>rfl
 | .sl t,v,_=>rfl
 | .mp a b,v,_=>rfl
 | .st _,_,h=>by cases h
theorem Fm:∀(ls:List Ty) (v:xi ls),ls.all Ty.leaf=true->(Cy ls v).map KV.pv=sN ls v
 |[],_,_=>rfl
 |t::l,v,h=>by
  rw[Qq69,Qm]at h;rw[Cy,sN,QD,Fm l v.2 h.2,<-P6 t v.1 h.1];rfl
theorem pQ{lk:Lk U}:∀{t:Ty} {x:KV U} {v:t.den},tY lk t x=some v->fI lk [x] (t.pv v)
 | .i k,x,v,h=> .cons (T6 h) .nil
 | .bool,x,v,h=> .cons (T8 h) .nil
 | .str,x,v,h=> .cons (T3 h) .nil
 | .sl t,x,v,h=> .cons (T5 (U:=U) h) .nil
 | .mp a b,x,v,h=> .cons (T4 (U:=U) h) .nil
 | .st _,_,_,h=>by cases h
theorem fI.cg{lk:Lk U}{x:KV U}{ys:List PV}{xs:List (KV U)}{zs:List PV}(h:fI lk [x] ys)(k:fI lk xs zs):fI lk (x::xs) (ys++zs):=by
 cases h with
 |cons h1 h2=>cases h2 with|nil=>exact .cons h1 k
theorem BU{lk:Lk U}:∀{ls:List Ty} {cs:List (KV U)} {v:xi ls},uU lk ls cs=some v->fI lk cs (sN ls v)
 |[],[],_,_=> .nil
 |[],_::_,_,h=>by cases h
 |_::_,[],_,h=>by cases h
 |t::l,c::cs,v,h=>by
  rw[uU]at h;split at h
  ·rename_i v1 h1;split at h
   ·rename_i vs h2;injection h with h
    subst h;exact(pQ h1).cg (BU h2)
   ·cases h
  ·cases h
theorem yX{α:Type}{f:KV U->Option α}{cs:List (KV U)}{v:α}(h:Es f cs=some v):∃x,cs=[x]/\f x=some v:=by
 unfold Es at h;split at h
 ·exact⟨_,rfl,h⟩
 ·cases h
theorem NZ:∀(ls:List Ty) (v:xi ls),ls.all Ty.leaf=true->(sN ls v).length=ls.length
 |[],_,_=>rfl
 |t::l,v,h=>by
  rw[Qq69,Qm]at h
  have:(t.pv v.1).length=1:=by
   cases t with
   |st n=>cases h.1
   |_=>rfl
  rw[sN,QB,NZ l v.2 h.2,this,QE,Nat.add_comm]
theorem me:∀(t:Ty) (v:t.den),t.leaf=true->∀y∈t.pv v,y.fh=true/\(t.MC=true->y.plain=true)
 | .i k,v,_,y,h=>by simp only[Ty.pv,Q5]at h;subst h;exact⟨rfl,fun _=>rfl⟩
 | .bool,v,_,y,h=>by simp only[Ty.pv,Q5]at h;subst h;exact⟨rfl,fun _=>rfl⟩
 | .str,v,_,y,h=>by simp only[Ty.pv,Q5]at h;subst h;exact⟨rfl,fun _=>rfl⟩
 | .sl t,v,_,y,h=>by simp only[Ty.pv,Q5]at h;subst h;exact⟨rfl,fun h=>by cases h⟩
 | .mp a b,v,_,y,h=>by simp only[Ty.pv,Q5]at h;subst h;exact⟨rfl,fun h=>by cases h⟩
 | .st _,_,h,_,_=>by cases h
theorem yb:∀(ls:List Ty) (v:xi ls),ls.all Ty.leaf=true->∀y∈sN ls v,y.fh=true/\(ls.all Ty.MC=true->y.plain=true)
 |[],_,_,y,h=>by cases h
 |t::l,v,h,y,hy=>by
  rw[Qq69,Qm]at h;rw[sN,Qz]at hy;rcases hy with hy|hy
  ·obtain⟨h1,h2⟩:=me t v.1 h.1 y hy;exact⟨h1,fun hp=>by rw[Qq69,Qm]at hp;exact h2 hp.1⟩
  ·obtain⟨h1,h2⟩:=yb l v.2 h.2 y hy;exact⟨h1,fun hp=>by rw[Qq69,Qm]at hp;exact h2 hp.2⟩
def Gz:ke->Option (IntKind×IntKind)
 | .Timer=>some (.i64,.i64)
 | .Claim=>some (.i64,.i64)
 | .ui=>some (.i64,.i64)
 | .ou=>some (.i64,.i64)
 |_=>none
theorem CA:∀(n:ke) (k l:IntKind),Gz n=some (k,l)->∀v,∃a b,Vh (.st n) v=[.int k a,.int l b]
 | .Timer,_,_,h=>by injection h with h;injection h with h1 h2;subst h1 h2;exact fun v=>⟨_,_,rfl⟩
 | .Claim,_,_,h=>by injection h with h;injection h with h1 h2;subst h1 h2;exact fun v=>⟨_,_,rfl⟩
 | .ui,_,_,h=>by injection h with h;injection h with h1 h2;subst h1 h2;exact fun v=>⟨_,_,rfl⟩
 | .ou,_,_,h=>by injection h with h;injection h with h1 h2;subst h1 h2;exact fun v=>⟨_,_,rfl⟩
 | .ao,_,_,h=>by cases h
 | .bR,_,_,h=>by cases h
 | .aF,_,_,h=>by cases h
 | .aa,_,_,h=>by cases h
 | .ax,_,_,h=>by cases h
 | .aj,_,_,h=>by cases h
 | .bf,_,_,h=>by cases h
 | .my,_,_,h=>by cases h
 | .Src,_,_,h=>by cases h
 | .qP,_,_,h=>by cases h
 | .nv,_,_,h=>by cases h
 | .Config,_,_,h=>by cases h
 | .pU,_,_,h=>by cases h
 | .Seen,_,_,h=>by cases h
 | .Message,_,_,h=>by cases h
 | .oI,_,_,h=>by cases h
 | .k8,_,_,h=>by cases h
def VT:List (Nat×Ty):=[(3,(Ty.i .i64)),(4,Ty.bool),(9,Ty.str),(27,(Ty.st .ao)),(33,(Ty.st .aa)),(57,(Ty.st .bR)),(64,(Ty.st .ax)),(66,(Ty.st .my)),(175,(Ty.st .pU)),(191,(Ty.st .Message)),(214,(Ty.st .nv)),(258,(Ty.st .Claim))]
def NN(n:Nat):List (Nat×Ty)->Option Ty
 |[]=>none
 |(k,t)::l=>(match Nat.beq k n with|true=>some t|false=>NN n l)
@[reducible] def K:TK U where
 db:=Vh
 dec:=XE
 IG:=fun n=>NN n VT
 nq:=fun t v=>by
  cases t with
  |st n=>exact(Fm _ _ n.Cz).trans (n.EZ v).symm
  |_=>rfl
 jO:=fun t lk cs v h=>by
  cases t with
  |st n=>
   change (match uU lk n.leaves cs with|some v=>some (n.R7 v)|none=>none)=some v at h
   split at h
   ·rename_i u hu;injection h with h
    subst h;have:=BU hu
    change fI lk cs (n.pv (n.R7 u))
    rw[n.EZ,n.VU];exact this
   ·cases h
  |i k=>obtain⟨x,rfl,hx⟩:=yX h;exact pQ hx
  |bool=>obtain⟨x,rfl,hx⟩:=yX h;exact pQ hx
  |str=>obtain⟨x,rfl,hx⟩:=yX h;exact pQ hx
  |sl t=>obtain⟨x,rfl,hx⟩:=yX h;exact pQ hx
  |mp a b=>obtain⟨x,rfl,hx⟩:=yX h;exact pQ hx
 len:=fun t v=>by
  cases t with
  |st n=>exact(congrArg List.length (n.EZ v)).trans (NZ _ _ n.Cz)
  |_=>rfl
 fh:=fun t v y hy=>by
  cases t with
  |st n=>exact(yb _ (n.toL v) n.Cz y (Eq.mp (congrArg (y∈·) (n.EZ v)) hy)).1
  |i k=>exact(me (.i k) v rfl y hy).1
  |bool=>exact(me .bool v rfl y hy).1
  |str=>exact(me .str v rfl y hy).1
  |sl t=>exact(me (.sl t) v rfl y hy).1
  |mp a b=>exact(me (.mp a b) v rfl y hy).1
 one:=fun t h=>by
  cases t with
  |st n=>cases h
  |_=>rfl
 plain:=fun t h v y hy=>by
  cases t with
  |st n=>exact(yb _ (n.toL v) n.Cz y (Eq.mp (congrArg (y∈·) (n.EZ v)) hy)).2 h
  |i k=>exact(me (.i k) v rfl y hy).2 rfl
  |bool=>exact(me .bool v rfl y hy).2 rfl
  |str=>exact(me .str v rfl y hy).2 rfl
  |sl t=>cases h
  |mp a b=>cases h
 Gz:=fun t=>match t with| .st n=>Gz n|_=>none
 CA:=fun t k l h=>by
  cases t with
  |st n=>exact⟨rfl,CA n k l h⟩
  |_=>cases h
end
section
open Go.RowKit
theorem qQ{P:Program}(w:World)(dT sT ty elem:TypeId)(g o dLen dCap:Nat)(a:Addr)(sLen sCap:Nat)(cur:Array Value)(t:TypeId)(cs:List Value)(size n:Nat)
  (hu:P.underlying dT=some (.slice elem)) (hs:(P.info? elem).map (·.size)=some size)
  (hg:w.heap[g]?=some (.cells cur t (0,0))) (hn:n=Nat.min sLen dLen) (hcl:cs.length=n*size)
  (hsrc:∀(j:Nat) (v:Value),cs[j]?=some v->w.cell? (a.add j)=some v) (hfit:o+cs.length<=cur.size) (h1:∀v∈cs,v.oneCell'=true):
  (Builtin.copy_ #[dT,sT] ty #[.slice (some ⟨g,o,none⟩) dLen dCap,.slice (some a) sLen sCap]).run P w=
   .ok (goInt n) (w.setRow g (cur.toList.take o++cs++cur.toList.drop (o+cs.length)).toArray):=by
 have hl:=run_loadCells_list (P:=P) w a cs hsrc;have hst:=run_storeCells_at P g o t cs 0 cur w hg (by simpa using hfit) h1
 rw[hcl]at hl
 cases hq:P.info? elem with
 |none=>simp[hq]at hs
 |some i=>
  have hi:i.size=size:=by simpa[hq]using hs
  simp[Builtin.copy_,run_underlying hu,Builtin.lenOf,Builtin.firstCells,sizeOf,typeInfo,hq,hi,<-hn,hl,hst]
theorem K3{w:World}{a:Addr}{v:Value}(h:w.cell? a=some v):∃t n,w.shape? a.block=some (t,n+1):=by
 unfold World.cell? at h;unfold World.shape?;split at h
 ·rename_i c t fr hc;split at h
  ·cases h
  ·have hlt:=(Q8.1 h).1;exact⟨t,c.size - 1,by simp only[Qf,Prod.mk.injEq,true_and];omega⟩
 ·cases h
theorem DN{P:Program}(w:World)(tS tR e:TypeId)(ht:P.underlying tS=some (.slice e))(size:Nat)(hz:∀w,(Go.sizeOf e).run P w= .ok size w)
  (a b:Addr) (la ca lb cb:Nat) (hne:a.block≠b.block) {v:Value} (ha:w.cell? a=some v) {cur:Array Value} {t:TypeId} (hb:w.heap[b.block]?=some (.cells cur t (0,0))) (h0:cur.size≠0):
  (Extern.SlicesOverlaps.overlaps #[tS,tS] #[tR] #[.slice (some a) la ca,.slice (some b) lb cb]).run P w= .ok (.bool false) w:=by
 obtain⟨tA,kA,hsa⟩:=K3 ha;have hsb:w.shape? b.block=some (t,cur.size):=by simp[World.shape?,hb]
 have hfb:w.frozen? b=false:=by simp[World.frozen?,hb]
 have hfe:w.frozen? {block:=b.block,off:=cur.size}=false:=by simp[World.frozen?,hb]
 have hnb:(a.block !=b.block)=true:=by simpa using hne
 have hnb':(a.block==b.block)=false:=by simpa using hne
 obtain⟨kB,hkB⟩:∃kB,cur.size=kB+1:=⟨cur.size - 1,by omega⟩
 rw[hkB]at hsb hfe
 change Sem.run P (α:=Value) (do
  let some t:=(#[tS,tS]:Array TypeId)[0]?|stuck "slices.overlaps: no parameter types"
  let .slice elem <-underlying t|stuck "slices.overlaps: slice type expected"
  let size <-sizeOf elem
  match(some a:Option Addr),(some b:Option Addr)with
  |some a,some b=>
   if la=0\/lb=0\/size=0 then pure (Value.bool false)
   else if a.block !=b.block&&(<-frozen a)&&(<-frozen b)then unsupported .addressObserved
   else do
    if a.block !=b.block then do
     noView a;noView b
     if<-mayBeOne a b then return Value.bool ((<-choose (.extern "sameAddr.stringBytes" 2))==1)
    pure (Value.bool (a.block==b.block&&a.off<b.off+lb*size&&b.off<a.off+la*size))
  |_,_=>pure (Value.bool false)) w=_
 by_cases h0:la=0\/lb=0\/size=0
 ·simp[run_underlying ht,hz,h0]
 ·cases hfa:w.frozen? a<;>cases hfk:w.frozen? {block:=a.block,off:=kA+1}<;>
   simp[run_underlying ht,hz,h0,hnb,hnb',frozen,noView,viewAt,mayBeOne,stringish,shape,Sem.run,hsa,hsb,hfa,hfk,hfb,hfe]
theorem Pj(a:Addr):a.add 0=a:=by
 cases a with
 |mk b o s=>unfold Addr.add;split<;>simp_all
theorem Aq(a:Addr)(n:Nat):(a.add n).block=a.block:=by unfold Addr.add;split<;>rfl
def nj{α:Type}(l:List α)(o:Nat)(c:List α):List α:=l.take o++c++l.drop (o+c.length)
theorem zI{α:Type}{l:List α}{o:Nat}{c:List α}(h:o+c.length<=l.length):(nj l o c).length=l.length:=by simp[nj];omega
theorem Ms{α:Type}{l us ys:List α}{a:Nat}(h:a+us.length+ys.length<=l.length):nj (nj l a us) (a+us.length) ys=l.take a++us++ys++l.drop (a+us.length+ys.length):=by
 have h1:(l.take a++us).length=a+us.length:=by simp;omega
 have h2:(nj l a us).take (a+us.length)=l.take a++us:=by
  rw[nj,List.take_append_of_le_length (by omega),List.take_of_length_le (by omega)]
 have h3:(nj l a us).drop (a+us.length+ys.length)=l.drop (a+us.length+ys.length):=by
  rw[nj,<-List.drop_drop,<-h1,List.drop_left,List.drop_drop,h1]
 rw[nj,h2,h3]
theorem KN{α:Type}{l us ys:List α}{a:Nat}(h:a+us.length+ys.length<=l.length):nj (nj l (a+us.length) ys) a us=l.take a++us++ys++l.drop (a+us.length+ys.length):=by
 have h1:(l.take (a+us.length)).length=a+us.length:=by simp;omega
 have h2:(nj l (a+us.length) ys).take a=l.take a:=by
  rw[nj,QL,List.take_append_of_le_length (by omega),List.take_take,Nat.min_eq_left (by omega)]
 have h3:(nj l (a+us.length) ys).drop (a+us.length)=ys++l.drop (a+us.length+ys.length):=by
  conv=>lhs;rw[nj,QL]
  exact List.drop_left' h1
 rw[nj,h2,h3,QL,QL,QL]
theorem qz(w:World)(g:Nat)(cs:Array Value){b:Nat}(h:b≠g):(w.setRow g cs).heap[b]?=w.heap[b]?:=by
 simp only[World.setRow,Array.getElem?_modify];rw[Qs (fun e=>h e.symm)]
theorem Ha(w:World)(g:Nat)(cs:Array Value):Fr (some g) w (w.setRow g cs):=⟨rfl,rfl,rfl,by simp[World.setRow],fun b _ hb=>qz w g cs (fun e=>hb (by rw[e])),QI _⟩
theorem Fr.Wp(w:World)(rb:Option Nat):Fr rb w w.drew:=⟨rfl,rfl,rfl,QI _,fun _ _ _=>rfl,Nat.le_succ _⟩
theorem Fr.trans'{rb:Option Nat}{a b c:World}(h:Fr rb a b)(k:Fr rb b c):Fr rb a c:=⟨k.os.trans h.os,k.tape.trans h.tape,k.output.trans h.output,QK h.size k.size,fun i hi hne=>(k.block i (QJ hi h.size) hne).trans (h.block i hi hne),QK h.drawn k.drawn⟩
theorem DJ{w w':World}{v u:Value}{X:Nat->Prop}(hf:Fr (bF v) w w')(hu:∀b,bF u=some b->bF v=some b\/w.heap.size<=b):cZ w w' (Mv v X) (Mv u X):=by
 have key:∀b,b<w.heap.size->¬Mv v X b->w'.heap[b]?=w.heap[b]?/\¬Mv u X b:=fun b hlt hM=>⟨hf.block b hlt fun h=>hM (.inl h),by
  rintro(h|h)
  ·rcases hu _ h with h|h
   ·exact hM (.inl h)
   ·omega
  ·exact hM (.inr h)⟩
 refine⟨fun a x hc hM=> ?_,fun b es ck hb hM=> ?_⟩
 ·have hlt:a.block<w.heap.size:=by
   by_cases h:a.block<w.heap.size
   ·exact h
   ·have:w.heap[a.block]?=none:=by rw[Array.getElem?_eq_none_iff];omega
    simp[World.cell?,this]at hc
  obtain⟨h1,h2⟩:=key _ hlt hM;exact⟨(World.cell?_of_block h1).trans hc,h2⟩
 ·obtain⟨h1,h2⟩:=key b (Q8.1 hb).1 hM;exact⟨h1.trans hb,h2⟩
theorem IS{w:World}{M:Nat->Prop}{es:List (List PV)}{xs:List Value}(h:aP w M cv es.flatten xs)(h1:∀u∈es,u.all PV.one=true):∀x∈xs,x.oneCell'=true:=by
 intro x hx;obtain⟨q,hq,rfl⟩:=List.mem_iff_getElem.1 hx;have hl:q<es.flatten.length:=by rw[<-h.1];exact hq
 obtain⟨el,hel,hmem⟩:=List.mem_flatten.1 (Q0 hl);exact((h.2 q _ _ (Qv hl) (Qv hq)).one (QH.1 (h1 el hel) _ hmem)).1
structure RM (P:Program) (f S E I B ov k bytes:Nat):Prop where
 U2:0<k
 hS:P.underlying S=some (.slice E)
 hI:P.underlying I=some (.int .i64)
 U3:∃(i:TypeInfo) (z:Value),P.info? E=some i/\i.zero=some z/\z.cells.size=k/\i.size=k/\i.bytes=bytes
 xY:∀(x:Array Value) (w:World),(Extern.SlicesOverlaps.overlaps #[S,S] #[B] x).run P w= .ok (.bool false) w->(callFunc ov x).run P w= .ok (.value (.bool false)) w
 xE:∀(g n c i:Nat),i<=n->n<=c->c<=9223372036854775807->∀(u:Option Addr) (vc:Nat) (w:World),
  Calls P f #[.slice (some ⟨g,0,none⟩) n c,.int .i64 i,.slice u 0 vc] w fun e w'=>e= .returned (.slice (some ⟨g,0,none⟩) n c)/\w'=w
 zP:∀(u:Option Addr) (vc:Nat) (w:World),Calls P f #[.slice none 0 0,.int .i64 0,.slice u 0 vc] w fun e w'=>e= .returned (.slice none 0 0)/\w'=w
 F1:∀(g n c:Nat),n<=c->c<=9223372036854775807->∀(ad:Addr) (m vc:Nat),0<m->∀(w w1:World) (v1:Value),
  (∀ty,(Builtin.append_ #[S,S] ty #[.slice (some ⟨g,0,none⟩) n c,.slice (some ad) m vc]).run P w= .ok v1 w1)->
  Calls P f #[.slice (some ⟨g,0,none⟩) n c,.int .i64 n,.slice (some ad) m vc] w fun e w'=>e= .returned v1/\w'=w1
 wc:∀(ad:Addr) (m vc:Nat),0<m->∀(w w1:World) (v1:Value),
  (∀ty,(Builtin.append_ #[S,S] ty #[.slice none 0 0,.slice (some ad) m vc]).run P w= .ok v1 w1)->
  Calls P f #[.slice none 0 0,.int .i64 0,.slice (some ad) m vc] w fun e w'=>e= .returned v1/\w'=w1
 shift:∀(g n c i:Nat),i<n->c<=9223372036854775807->∀(ad:Addr) (m vc:Nat),0<m->n+m<=c->∀(w w1 w2:World),
  (∀lb cb,(callFunc ov #[.slice (some ad) m vc,.slice (some ⟨g,(i+m)*k,none⟩) lb cb]).run P w= .ok (.value (.bool false)) w)->
  (∀ty dc sc,(Builtin.copy_ #[S,S] ty #[.slice (some ⟨g,(i+m)*k,none⟩) (n+m - (i+m)) dc,.slice (some ⟨g,i*k,none⟩) (n+m - i) sc]).run P w.drew= .ok (goInt (n - i:Nat)) w1)->
  (∀ty dc,(Builtin.copy_ #[S,S] ty #[.slice (some ⟨g,i*k,none⟩) (n+m - i) dc,.slice (some ad) m vc]).run P w1= .ok (goInt m) w2)->
  Calls P f #[.slice (some ⟨g,0,none⟩) n c,.int .i64 i,.slice (some ad) m vc] w fun e w'=>e= .returned (.slice (some ⟨g,0,none⟩) (n+m) c)/\w'=w2
 grow:∀(g n c i:Nat),i<n->n<=c->c<=9223372036854775807->∀(ad:Addr) (m vc:Nat),0<m->c<n+m->∀(N G:Nat),n+m<=G->G<=9223372036854775807->∀(w w1 w2 w3:World),
  (∀ty,(Builtin.append_ #[S,I] ty #[.slice (some ⟨g,0,none⟩) i c,.int .i64 ((n:Int)+(m:Int) - (i:Int))]).run P w= .ok (.slice (some ⟨N,0,none⟩) (n+m) G) w1)->
  (∀ty dc,(Builtin.copy_ #[S,S] ty #[.slice (some ⟨N,i*k,none⟩) (n+m - i) dc,.slice (some ad) m vc]).run P w1= .ok (goInt m) w2)->
  (∀ty dc sc,(Builtin.copy_ #[S,S] ty #[.slice (some ⟨N,(i+m)*k,none⟩) (n+m - (i+m)) dc,.slice (some ⟨g,i*k,none⟩) (n - i) sc]).run P w2.drew= .ok (goInt (n - i:Nat)) w3)->
  Calls P f #[.slice (some ⟨g,0,none⟩) n c,.int .i64 i,.slice (some ad) m vc] w fun e w'=>e= .returned (.slice (some ⟨N,0,none⟩) (n+m) G)/\w'=w3
theorem TE{P:Program}{E k bytes:Nat}(h:(P.info? E).map (fun i=>(i.zero.map (·.cells.size),i.size,i.bytes))=some (some k,k,bytes)):∃(i:TypeInfo) (z:Value),P.info? E=some i/\i.zero=some z/\z.cells.size=k/\i.size=k/\i.bytes=bytes:=by
 rw[Qb]at h;obtain⟨i,h1,h2⟩:=h;injection h2 with h2 h3
 injection h3 with h3 h4
 rw[Qb]at h2;obtain⟨z,h5,h6⟩:=h2;exact⟨i,z,h1,h5,h6,h3,h4⟩
theorem TD{P:Program}{f S E I B ov k bytes:Nat}(H:RM P f S E I B ov k bytes){es vs:List (List PV)}{i:Nat}(hi:i<=es.length)(h1e:∀u∈es,u.all PV.one=true)(hvs:∀u∈vs,u.length=k/\u.all PV.one=true)
  (hmax:es.length+vs.length<=maxLen) (hby:(es.length+vs.length)*bytes<=140737488355328):EF P f E k es [.int .i64 i,.sl vs] (es.take i++vs++es.drop i):=by
 have hk0:=H.U2;intro w X hX v args hvX ⟨xs,hown,hke,hr⟩ hargs;obtain⟨a1,args,rfl,ha1,hargs⟩:=hargs.cons_inv;obtain⟨a2,args,rfl,ha2,hargs⟩:=hargs.cons_inv;obtain rfl:=hargs.lf;obtain rfl:=ha1.ec;obtain⟨inf,z,hi1,hi2,hi3,hi4,hi5⟩:=H.U3;have hsz:(P.info? E).map (·.size)=some k:=by rw[hi1];simp[hi4]
 have hmem:∀u∈es.take i++vs++es.drop i,u.length=k:=by
  intro u hu;rw[Qz,Qz]at hu;rcases hu with(hu|hu)|hu
  ·exact hke u (Q1 hu)
  ·exact(hvs u hu).1
  ·exact hke u (Q2 hu)
 have same:vs=[]->es.take i++vs++es.drop i=es:=fun h=>by rw[h];simp
 by_cases hm0:vs=[]
 ·rw[same hm0]
  have hz:∃u vc,a2= .slice u 0 vc:=by
   subst hm0;rcases ha2.yB with⟨h,_⟩|⟨ad,c,_,_,h,_⟩
   ·exact⟨_,_,h⟩
   ·exact⟨_,_,h⟩
  obtain⟨u,vc,rfl⟩:=hz
  have post:∀(e:Ending) (w':World),e= .returned v/\w'=w->∃u,e= .returned u/\s9 w' (Mv u X) E k u es/\(∀b,bF u=some b->bF v=some b\/w.heap.size<=b)/\Fr (bF v) w w':=by
   rintro e w' ⟨rfl,rfl⟩;exact⟨v,rfl,⟨xs,hown,hke,hr⟩,fun b hb=> .inl hb,Fr.refl _ _⟩
  rcases hown.2 with⟨rfl,h0⟩|⟨g,cap,cur,rfl,_,hg,hnc,hcm,hcs,htk⟩
  ·obtain rfl:i=0:=by omega
   exact(H.zP u vc w).mono fun e w' h=>post e w' h
  ·exact(H.xE g es.length cap i hi hnc (by simp only[maxLen]at hcm;omega) u vc w).mono fun e w' h=>post e w' h
 ·
  have hm:0<vs.length:=List.length_pos_iff.2 hm0;rcases ha2.yB with⟨_,h⟩|⟨ad,vc,k',us,rfl,hk',hru,hcu,_,_⟩
  ·exact absurd h hm0
  have hul:us.length=vs.length*k:=by rw[hru.1,mP vs k fun u hu=>(hvs u hu).1]
  have hone:=IS hru fun u hu=>(hvs u hu).2
  have hpos:0<us.length:=by rw[hul];exact Nat.mul_pos hm hk0
  obtain⟨c0,hc0⟩:∃c0,us[0]?=some c0:=⟨_,Qv hpos⟩;obtain⟨had,hadM⟩:=hcu 0 c0 hc0;have had:w.cell? ad=some c0:=by rw[Pj]at had;exact had
  have hcell:∀(j:Nat) (u:Value),us[j]?=some u->w.cell? (ad.add j)=some u:=fun j u hj=>(hcu j u hj).1
  have hadlt:ad.block<w.heap.size:=by
   by_cases h:ad.block<w.heap.size
   ·exact h
   ·have:w.heap[ad.block]?=none:=by rw[Array.getElem?_eq_none_iff];omega
    simp[World.cell?,this]at had
  have fin:∀(v1:Value) (w1:World),w1.ownsRow 0 E k v1 (es.length+vs.length) (xs++us)->w.grownBy w1 v.ownBlock->(v1.ownBlock=v.ownBlock\/v1.ownBlock=some w.heap.size)->(∃a n c,v= .slice a n c)->i=es.length->w.drawn<=w1.drawn->
    ∀(e:Ending) (w':World),e= .returned v1/\w'=w1->∃u,e= .returned u/\s9 w' (Mv u X) E k u (es.take i++vs++es.drop i)/\(∀b,bF u=some b->bF v=some b\/w.heap.size<=b)/\Fr (bF v) w w':=by
   rintro v1 w1 ho hgr hat ⟨a0,n0,c0,hv0⟩ hie hdr e w' ⟨rfl,rfl⟩;have hb0:v.ownBlock=bF v:=jL hv0
   have hb1:v1.ownBlock=bF v1:=by
    rcases ho.2 with⟨h,_⟩|⟨_,_,_,h,_⟩
    ·exact jL h
    ·exact jL h
   have hfr:Fr (bF v) w w':=⟨hgr.os,hgr.tape,hgr.output,hgr.size,fun b hb hne=>hgr.block b hb (fun h=>hne (by rw[<-hb0,<-h])),hdr⟩
   have hub:∀b,bF v1=some b->bF v=some b\/w.heap.size<=b:=fun b hb=>by
    rw[<-hb1]at hb;rcases hat with h|h
    ·exact .inl (by rw[<-hb0,<-h];exact hb)
    ·rw[h]at hb;injection hb with hb;exact .inr (by omega)
   have he:es.take i++vs++es.drop i=es++vs:=by subst hie;simp
   rw[he]at hmem ⊢;refine⟨v1,rfl,⟨xs++us,by rw[QB];exact ho,hmem,?_⟩,hub,hfr⟩
   rw[List.flatten_append];exact(hr.append hru).mono (DJ hfr hub) (cv.le _)
  rcases hown.2 with⟨rfl,h0⟩|⟨g,cap,cur,rfl,hb0,hg,hnc,hcm,hcs,htk⟩
  ·obtain rfl:i=0:=by omega
   obtain⟨v1,w1,r1,r2,r3,_,r5⟩:=run_append_own_at (P:=P) w 0 S 0 E inf z k bytes H.hS hi1 hi2 hi4 hi5 hi3 hk0 (.slice none 0 0) es.length xs hown ad vs.length vc us hul hcell hone hmax hby (QS _);exact(H.wc ad vs.length vc hm w w1 v1 fun ty=>r1).mono fun e w' h=>fin v1 w1 r2 r3 r5 ⟨_,_,_,rfl⟩ h0.symm (xe (P:=P) w 0 S 0 E inf z k bytes H.hS hi1 hi2 hi4 hi5 hk0 (.slice none 0 0) es.length xs hown ad vs.length vc us hul hcell hone hmax hby r1) e w' h
  ·have hcm':cap<=9223372036854775807:=by simp only[maxLen]at hcm;omega
   by_cases hie:i=es.length
   ·obtain⟨v1,w1,r1,r2,r3,_,r5⟩:=run_append_own_at (P:=P) w 0 S 0 E inf z k bytes H.hS hi1 hi2 hi4 hi5 hi3 hk0 _ es.length xs hown ad vs.length vc us hul hcell hone hmax hby (QS _);have:=H.F1 g es.length cap hnc hcm' ad vs.length vc hm w w1 v1 fun ty=>r1
    rw[<-hie]at this ⊢;exact this.mono fun e w' h=>fin v1 w1 r2 r3 r5 ⟨_,_,_,rfl⟩ hie (xe (P:=P) w 0 S 0 E inf z k bytes H.hS hi1 hi2 hi4 hi5 hk0 _ es.length xs hown ad vs.length vc us hul hcell hone hmax hby r1) e w' h
   ·have hin:i<es.length:=by omega
    have hM:∀b,Mv (.slice (some ⟨g,0,none⟩) es.length cap) X b->True:=fun _ _=>trivial
    have hne:ad.block≠g:=fun h=>hadM (.inl (by rw[h];rfl))
    have hglt:g<w.heap.size:=(Q8.1 hg).1;have hxl:xs.length=es.length*k:=hown.1;have hcl:es.length*k<=cur.toList.length:=by simpa[hcs]using Qq62 k hnc
    have hx1:=IS hr h1e;obtain⟨ys,hys⟩:∃ys,ys=xs.drop (i*k):=⟨_,rfl⟩;have hyl:ys.length=(es.length - i)*k:=by rw[hys,List.length_drop,hxl,Nat.sub_mul]
    have hy1:∀y∈ys,y.oneCell'=true:=fun y hy=>hx1 y (Q2 (hys▸hy))
    have hcx:∀(j:Nat) (u:Value),xs[j]?=some u->w.cell? ⟨g,j,none⟩=some u:=fun j u hj=>by
     refine mo hg ?_;rw[<-htk,Qq67]at hj;split at hj
     ·exact hj
     ·cases hj
    have hcy:∀(j:Nat) (u:Value),ys[j]?=some u->w.cell? ((⟨g,i*k,none⟩:Addr).add j)=some u:=fun j u hj=>by
     rw[add_mid];rw[hys,List.getElem?_drop]at hj;exact hcx _ u hj
    have hik:i*k+us.length=(i+vs.length)*k:=by rw[hul,Qq72]
    have htot:i*k+us.length+ys.length=(es.length+vs.length)*k:=by
     rw[hul,hyl,<-Qq72,<-Qq72];congr 1;omega
    have hres:aP w (Mv (.slice (some ⟨g,0,none⟩) es.length cap) X) cv (es.take i++vs++es.drop i).flatten (xs.take (i*k)++us++ys):=by
     rw[List.flatten_append,List.flatten_append,pd k i es hke,sZ k i es hke,hys];exact((hr.take _).append hru).append (hr.drop _)
    have hlen:(es.take i++vs++es.drop i).length=es.length+vs.length:=by simp;omega
    have htl:(xs.take (i*k)++us++ys).length=(es.length+vs.length)*k:=by
     rw[QB,QB,List.length_take,hxl,Nat.min_eq_left (Qq62 k hi)];exact htot
    by_cases hroom:es.length+vs.length<=cap
    ·
     have hfit:(es.length+vs.length)*k<=cur.toList.length:=by simpa[hcs]using Qq62 k hroom
     have r1:=qQ (P:=P) w.drew S S 0 E g ((i+vs.length)*k) (es.length+vs.length - (i+vs.length)) 0 ⟨g,i*k,none⟩ (es.length+vs.length - i) 0 cur E ys k (es.length - i) H.hS hsz hg
      (by simp only[Nat.min_def];split<;>omega) hyl hcy (by simp only[Array.length_toList]at hfit;omega) hy1
     obtain⟨cur1,hcur1⟩:∃cur1:Array Value,cur1=(nj cur.toList ((i+vs.length)*k) ys).toArray:=⟨_,rfl⟩;have hg1:(w.drew.setRow g cur1).heap[g]?=some (.cells cur1 E (0,0)):=setRow_heap w.drew g cur _ E _ hg
     have hl1:cur1.size=cap*k:=by
      rw[hcur1,List.size_toArray,zI (by rw[<-hik];omega),Array.length_toList,hcs]
     have r2:=qQ (P:=P) (w.drew.setRow g cur1) S S 0 E g (i*k) (es.length+vs.length - i) 0 ad vs.length vc cur1 E us k vs.length H.hS hsz hg1
      (by simp only[Nat.min_def];split<;>omega) hul (fun j u hj=>by rw[World.cell?_of_block (w:=w) (qz w.drew g cur1 (by rw[Aq];exact hne))];exact hcell j u hj)
      (by rw[hl1,<-hcs,<-Array.length_toList];omega) hone
     obtain⟨cur2,hcur2⟩:∃cur2:Array Value,cur2=(nj cur1.toList (i*k) us).toArray:=⟨_,rfl⟩;have hg2:((w.drew.setRow g cur1).setRow g cur2).heap[g]?=some (.cells cur2 E (0,0)):=setRow_heap _ g cur1 _ E _ hg1
     have hc2:cur2.toList=xs.take (i*k)++us++ys++cur.toList.drop ((es.length+vs.length)*k):=by
      rw[hcur2,hcur1,<-hik,KN (by omega),htot,<-htk,List.take_take,Nat.min_eq_left (Qq62 k hi)]
     have hC:cur.toList.length=cap*k:=(Array.length_toList (xs:=cur)).trans hcs;have hL1:cur1.toList.length=cap*k:=(Array.length_toList (xs:=cur1)).trans hl1;have hfr:Fr (some g) w ((w.drew.setRow g cur1).setRow g cur2):=(Fr.Wp w _).trans' ((Ha _ g _).trans' (Ha _ g _))
     have hcap0:cur.size≠0:=by
      have:0<cap:=by omega
      rw[hcs];exact Nat.ne_of_gt (Nat.mul_pos this hk0)
     refine(H.shift g es.length cap i hin hcm' ad vs.length vc hm hroom w (w.drew.setRow g cur1) ((w.drew.setRow g cur1).setRow g cur2) (fun lb cb=> ?_) (fun ty dc sc=> ?_) (fun ty dc=> ?_)).mono ?_
     ·exact H.xY _ w (DN w S B E H.hS k (fun w'=>by simp[Go.sizeOf,typeInfo,hi1,hi4]) ad ⟨g,(i+vs.length)*k,none⟩ vs.length vc lb cb hne had hg hcap0)
     ·rw[hcur1];exact r1
     ·rw[hcur2];exact r2
     ·rintro e w' ⟨rfl,rfl⟩;refine⟨_,rfl,⟨xs.take (i*k)++us++ys,⟨?_,.inr ⟨g,cap,cur2,by rw[hlen],hb0,hg2,by rw[hlen];exact hroom,hcm,?_,?_⟩⟩,hmem,hres.mono (@DJ w _ (.slice (some ⟨g,0,none⟩) es.length cap) (.slice (some ⟨g,0,none⟩) (es.length+vs.length) cap) X hfr fun b hb=> .inl hb) (cv.le _)⟩,fun b hb=> .inl hb,hfr⟩
      ·rw[htl,hlen]
      ·rw[hcur2,List.size_toArray,zI (by rw[hL1];omega),hL1]
      ·rw[hlen,hc2,<-htl,List.take_left' rfl]
    ·
     have hik2:i+(es.length+vs.length - i)=es.length+vs.length:=by omega
     have hold:(Builtin.firstCells inf.size i (.slice (some ⟨g,0,none⟩) i cap)).run P w.drew= .ok (xs.take (i*k)).toArray w.drew:=by
      rw[hi4];refine run_firstCells_some w.drew k i ⟨g,0,none⟩ i cap (xs.take (i*k)) (by rw[List.length_take,hxl];exact Nat.min_eq_left (Qq62 k hi)) fun j u hj=> ?_
      rw[add_mid,Nat.zero_add];rw[Qq67]at hj;split at hj
      ·exact hcx j u hj
      ·cases hj
     have hmax':es.length+vs.length<=9223372036854775807:=by simp only[maxLen]at hmax;omega
     have r0:=fun ty=>Lib.run_append_grow_zeros (P:=P) w S I ty E inf z .i64 .i64 H.hS H.hI hi1 hi2 (some ⟨g,0,none⟩) i cap (xs.take (i*k)) hold (es.length+vs.length - i) (by omega) (by omega) (by omega) (by omega)
      (by rw[hi5];have:=Qq62 bytes (show es.length+vs.length - i<=es.length+vs.length by omega);omega) (by rw[hi5,hik2];exact growslice_fits (by omega) hby)
     rw[hik2]at r0;obtain⟨G,hG⟩:∃G,G=grownCap w (es.length+vs.length) cap E:=⟨_,rfl⟩;have hGn:es.length+vs.length<=G:=by rw[hG];exact grownCap_ge w _ _ _
     have hGm:G<=maxLen:=by rw[hG];exact grownCap_le_maxLen w _ _ _ hmax
     have hG63:G<=9223372036854775807:=by simp only[maxLen]at hGm;omega
     rw[<-hG]at r0;obtain⟨row,hrow⟩:∃row:Array Value,row=(xs.take (i*k)).toArray++Builtin.zeroCells z.cells (es.length+vs.length - i)++Builtin.zeroCells z.cells (G - (es.length+vs.length)):=⟨_,rfl⟩;rw[<-hrow]at r0;have hrt:(xs.take (i*k)).length=i*k:=by rw[List.length_take,hxl];exact Nat.min_eq_left (Qq62 k hi)
     have hrl:row.size=G*k:=by
      rw[hrow,Array.size_append,Array.size_append,List.size_toArray,hrt,size_zeroCells,size_zeroCells,hi3,<-Qq72,<-Qq72];congr 1;omega
     have hrtake:row.toList.take (i*k)=xs.take (i*k):=by
      rw[hrow,Array.toList_append,Array.toList_append,QL];exact List.take_left' hrt
     have hN:(w.drew.alloc (.cells row E)).heap[w.heap.size]?=some (.cells row E (0,0)):=by
      show(w.heap.push (.cells row E))[w.heap.size]?=_;simp
     have hkeep:∀b,b<w.heap.size->(w.drew.alloc (.cells row E)).heap[b]?=w.heap[b]?:=fun b hb=>Below.heap_alloc w.drew _ b hb
     have hfit:(es.length+vs.length)*k<=row.size:=by rw[hrl];exact Qq62 k hGn
     have r1:=qQ (P:=P) (w.drew.alloc (.cells row E)) S S 0 E w.heap.size (i*k) (es.length+vs.length - i) 0 ad vs.length vc row E us k vs.length H.hS hsz hN
      (by simp only[Nat.min_def];split<;>omega) hul (fun j u hj=>by rw[World.cell?_of_block (w:=w) (hkeep _ (by rw[Aq];exact hadlt))];exact hcell j u hj) (by omega) hone
     have hR:row.toList.length=G*k:=(Array.length_toList (xs:=row)).trans hrl;obtain⟨cur1,hcur1⟩:∃cur1:Array Value,cur1=(nj row.toList (i*k) us).toArray:=⟨_,rfl⟩;have hl1:cur1.size=G*k:=by rw[hcur1,List.size_toArray,zI (by rw[hR];omega),hR]
     have hL1:cur1.toList.length=G*k:=(Array.length_toList (xs:=cur1)).trans hl1;have hg1:((w.drew.alloc (.cells row E)).setRow w.heap.size cur1).drew.heap[w.heap.size]?=some (.cells cur1 E (0,0)):=setRow_heap _ _ row _ E _ hN
     have r2:=qQ (P:=P) ((w.drew.alloc (.cells row E)).setRow w.heap.size cur1).drew S S 0 E w.heap.size ((i+vs.length)*k) (es.length+vs.length - (i+vs.length)) 0 ⟨g,i*k,none⟩ (es.length - i) 0 cur1 E ys k (es.length - i) H.hS hsz hg1
      (by simp only[Nat.min_def];split<;>omega) hyl (fun j u hj=>by
       rw[World.cell?_of_block (w:=w) (w':=((w.drew.alloc (.cells row E)).setRow w.heap.size cur1).drew) (((qz _ w.heap.size cur1 (by rw[Aq];exact Nat.ne_of_lt hglt)).trans (hkeep _ (by rw[Aq];exact hglt))))]
       exact hcy j u hj) (by rw[hl1,<-hrl,<-hik];omega) hy1
     obtain⟨cur2,hcur2⟩:∃cur2:Array Value,cur2=(nj cur1.toList ((i+vs.length)*k) ys).toArray:=⟨_,rfl⟩;obtain⟨w3,hw3⟩:∃w3,w3=((w.drew.alloc (.cells row E)).setRow w.heap.size cur1).drew.setRow w.heap.size cur2:=⟨_,rfl⟩;have hg2:w3.heap[w.heap.size]?=some (.cells cur2 E (0,0)):=by rw[hw3];exact setRow_heap _ _ cur1 _ E _ hg1
     have hc2:cur2.toList=xs.take (i*k)++us++ys++row.toList.drop ((es.length+vs.length)*k):=by
      rw[hcur2,hcur1,<-hik,Ms (by rw[hR];omega),htot,hrtake]
     have hfr:Fr (some g) w w3:=by
      rw[hw3];refine⟨rfl,rfl,rfl,by simp[World.setRow],fun b hb _=> ?_,by show w.drawn<=w.drawn+1+1;omega⟩
      rw[qz _ _ _ (Nat.ne_of_lt hb)];exact(qz _ w.heap.size cur1 (Nat.ne_of_lt hb)).trans (hkeep b hb)
     refine(H.grow g es.length cap i hin hnc hcm' ad vs.length vc hm (by omega) w.heap.size G hGn hG63 w (w.drew.alloc (.cells row E)) ((w.drew.alloc (.cells row E)).setRow w.heap.size cur1) w3 (fun ty=> ?_) (fun ty dc=> ?_) (fun ty dc sc=> ?_)).mono ?_
     ·have:=r0 ty;rw[show((es.length+vs.length - i:Nat):Int)=(es.length:Int)+(vs.length:Int) - (i:Int)by omega]at this
      exact this
     ·rw[hcur1];exact r1
     ·rw[hw3,hcur2];exact r2
     ·rintro e w' ⟨rfl,rfl⟩
      have hub:∀b,bF (.slice (some ⟨w.heap.size,0,none⟩) (es.length+vs.length) G)=some b->bF (.slice (some ⟨g,0,none⟩) es.length cap)=some b\/w.heap.size<=b:=fun b hb=>by
       injection hb with hb
       exact .inr (Nat.le_of_eq hb)
      refine⟨_,rfl,⟨xs.take (i*k)++us++ys,⟨?_,.inr ⟨w.heap.size,G,cur2,by rw[hlen],QS _,hg2,by rw[hlen];exact hGn,hGm,?_,?_⟩⟩,hmem,hres.mono (@DJ w _ (.slice (some ⟨g,0,none⟩) es.length cap) (.slice (some ⟨w.heap.size,0,none⟩) (es.length+vs.length) G) X hfr hub) (cv.le _)⟩,hub,hfr⟩
      ·rw[htl,hlen]
      ·rw[hcur2,List.size_toArray,zI (by rw[hL1,<-hik];omega),hL1]
      ·rw[hlen,hc2,<-htl,List.take_left' rfl]
end
end Go.TQ
end
noncomputable section
namespace Go.Proofs.YtjbfdglebjnelaaGreat
open Go.RowKit Go.TQ Go.Lib
namespace Jt
theorem zE:∀w:World,(Go.sizeOf 9).run Tryz.prog w= .ok 1 w:=fun _=>by kernel_rfl
set_option maxHeartbeats 4000000 in
set_option maxRecDepth 100000 in
theorem xE(g n c i:Nat)(hi:i<=n)(hc:n<=c)(hc63:c<=9223372036854775807)(u:Option Addr)(vc:Nat)(w:World):
  Calls Tryz.prog 224 #[.slice (some ⟨g,0,none⟩) n c,.int .i64 i,.slice u 0 vc] w fun e w'=>e= .returned (.slice (some ⟨g,0,none⟩) n c)/\w'=w:=by
 have zE:=zE;have uS:=run_underlying Tryz.underlying28
 go_enter Tryz.func224,Tryz.ntmps224
 go_wp2
 all_goals go_ret
 all_goals exact⟨rfl,rfl⟩
set_option maxHeartbeats 4000000 in
set_option maxRecDepth 100000 in
theorem zP(u:Option Addr)(vc:Nat)(w:World):
  Calls Tryz.prog 224 #[.slice none 0 0,.int .i64 0,.slice u 0 vc] w fun e w'=>e= .returned (.slice none 0 0)/\w'=w:=by
 have zE:=zE;have uS:=run_underlying Tryz.underlying28
 go_enter Tryz.func224,Tryz.ntmps224
 go_wp2
 all_goals go_ret
 all_goals exact⟨rfl,rfl⟩
set_option maxHeartbeats 4000000 in
set_option maxRecDepth 100000 in
theorem F1(g n c:Nat)(hc:n<=c)(hc63:c<=9223372036854775807)(ad:Addr)(m vc:Nat)(hm:0<m)(w w1:World)(v1:Value)
  (hr:∀ty,(Builtin.append_ #[28,28] ty #[.slice (some ⟨g,0,none⟩) n c,.slice (some ad) m vc]).run Tryz.prog w= .ok v1 w1):
  Calls Tryz.prog 224 #[.slice (some ⟨g,0,none⟩) n c,.int .i64 n,.slice (some ad) m vc] w fun e w'=>e= .returned v1/\w'=w1:=by
 have zE:=zE;have uS:=run_underlying Tryz.underlying28;have hz1:¬((m:Int)=0):=by omega
 go_enter Tryz.func224,Tryz.ntmps224
 go_wp2_with (at_builtin;refine Lib.wpList_append_run _ rfl _ _ _ _ rfl _ _ rfl rfl _ _ (hr _) ?_)
 all_goals go_ret
 all_goals exact⟨rfl,rfl⟩
set_option maxHeartbeats 4000000 in
set_option maxRecDepth 100000 in
theorem wc(ad:Addr)(m vc:Nat)(hm:0<m)(w w1:World)(v1:Value)
  (hr:∀ty,(Builtin.append_ #[28,28] ty #[.slice none 0 0,.slice (some ad) m vc]).run Tryz.prog w= .ok v1 w1):
  Calls Tryz.prog 224 #[.slice none 0 0,.int .i64 0,.slice (some ad) m vc] w fun e w'=>e= .returned v1/\w'=w1:=by
 have zE:=zE;have uS:=run_underlying Tryz.underlying28;have hz1:¬((m:Int)=0):=by omega
 go_enter Tryz.func224,Tryz.ntmps224
 go_wp2_with (at_builtin;refine Lib.wpList_append_run _ rfl _ _ _ _ rfl _ _ rfl rfl _ _ (hr _) ?_)
 all_goals go_ret
 all_goals exact⟨rfl,rfl⟩
set_option maxHeartbeats 4000000 in
set_option maxRecDepth 100000 in
theorem shift(g n c i:Nat)(hi:i<n)(hc63:c<=9223372036854775807)(ad:Addr)(m vc:Nat)(hm:0<m)(hroom:n+m<=c)(w w1 w2:World)
  (hov:∀lb cb,(callFunc 257 #[.slice (some ad) m vc,.slice (some ⟨g,(i+m)*1,none⟩) lb cb]).run Tryz.prog w= .ok (.value (.bool false)) w)
  (h1:∀ty dc sc,(Builtin.copy_ #[28,28] ty #[.slice (some ⟨g,(i+m)*1,none⟩) (n+m - (i+m)) dc,.slice (some ⟨g,i*1,none⟩) (n+m - i) sc]).run Tryz.prog w.drew= .ok (goInt (n - i:Nat)) w1)
  (h2:∀ty dc,(Builtin.copy_ #[28,28] ty #[.slice (some ⟨g,i*1,none⟩) (n+m - i) dc,.slice (some ad) m vc]).run Tryz.prog w1= .ok (goInt m) w2):
  Calls Tryz.prog 224 #[.slice (some ⟨g,0,none⟩) n c,.int .i64 i,.slice (some ad) m vc] w fun e w'=>e= .returned (.slice (some ⟨g,0,none⟩) (n+m) c)/\w'=w2:=by
 have zE:=zE;have uS:=run_underlying Tryz.underlying28;have hz1:¬((m:Int)=0):=by omega
 have hz2:¬((i:Int)=(n:Int)):=by omega
 have mixed:Tryz.prog.follows .mixedOrders=true:=by kernel_rfl
 have hw1:IntKind.i64.wrap ((i:Int)+(m:Int))=(i:Int)+(m:Int):=by rw[IntKind.wrap_i64];omega
 have hb1:(0:Int)<=(i:Int)+(m:Int):=by omega
 have hin:i<=n:=by omega
 have htn:((i:Int)+(m:Int)).toNat=i+m:=by omega
 have hb2:¬(c=i+m):=by omega
 have hb3:(i:Int)<=(n:Int)+(m:Int):=by omega
 have hb4:¬(c=i):=by omega
 simp only[Nat.mul_one]at hov h1 h2
 go_enter Tryz.func224,Tryz.ntmps224
 go_wp2_with (simp only[hov])
 go_region_law_o (refine step_copy_runI rfl _ _ 28 28 rfl _ _ (by simp[Act.eval,Act.put]) (by simp[Act.eval,Act.put]) (h1 _ _ _) ?_)
 go_wp2_with (at_builtin;refine wpList_copy_runI _ rfl _ _ 28 28 rfl _ _ rfl rfl (h2 _ _) ?_)
 go_ret
 exact⟨rfl,rfl⟩
set_option maxHeartbeats 4000000 in
set_option maxRecDepth 100000 in
theorem grow(g n c i:Nat)(hi:i<n)(hc:n<=c)(hc63:c<=9223372036854775807)(ad:Addr)(m vc:Nat)(hm:0<m)(hroom:c<n+m)(N G:Nat)(hGn:n+m<=G)(hG63:G<=9223372036854775807)(w w1 w2 w3:World)
  (hz:∀ty,(Builtin.append_ #[28,3] ty #[.slice (some ⟨g,0,none⟩) i c,.int .i64 ((n:Int)+(m:Int) - (i:Int))]).run Tryz.prog w= .ok (.slice (some ⟨N,0,none⟩) (n+m) G) w1)
  (h1:∀ty dc,(Builtin.copy_ #[28,28] ty #[.slice (some ⟨N,i*1,none⟩) (n+m - i) dc,.slice (some ad) m vc]).run Tryz.prog w1= .ok (goInt m) w2)
  (h2:∀ty dc sc,(Builtin.copy_ #[28,28] ty #[.slice (some ⟨N,(i+m)*1,none⟩) (n+m - (i+m)) dc,.slice (some ⟨g,i*1,none⟩) (n - i) sc]).run Tryz.prog w2.drew= .ok (goInt (n - i:Nat)) w3):
  Calls Tryz.prog 224 #[.slice (some ⟨g,0,none⟩) n c,.int .i64 i,.slice (some ad) m vc] w fun e w'=>e= .returned (.slice (some ⟨N,0,none⟩) (n+m) G)/\w'=w3:=by
 have zE:=zE;have uS:=run_underlying Tryz.underlying28;have hz1:¬((m:Int)=0):=by omega
 have hz2:¬((i:Int)=(n:Int)):=by omega
 have hz3:(c:Int)<(n:Int)+(m:Int):=by omega
 have mixed:Tryz.prog.follows .mixedOrders=true:=by kernel_rfl
 have hw1:IntKind.i64.wrap ((i:Int)+(m:Int))=(i:Int)+(m:Int):=by rw[IntKind.wrap_i64];omega
 have hb1:(0:Int)<=(i:Int)+(m:Int):=by omega
 have hin:i<=n:=by omega
 have htn:((i:Int)+(m:Int)).toNat=i+m:=by omega
 have hb3:(i:Int)<=(n:Int):=by omega
 have hGi:¬(G=i):=by omega
 have hGim:¬(G=i+m):=by omega
 have hci:¬(c=i):=by omega
 simp only[Nat.mul_one]at h1 h2
 go_enter Tryz.func224,Tryz.ntmps224
 go_wp2_with (first
  |(at_builtin;refine Lib.wpList_append_run _ rfl _ _ _ _ rfl _ _ rfl rfl _ _ (hz _) ?_)
  |(at_builtin;refine wpList_copy_runI _ rfl _ _ 28 28 rfl _ _ rfl rfl (h1 _ _) ?_))
 go_region_law_o (refine step_copy_runI rfl _ _ 28 28 rfl (.slice (some ⟨N,i+m,none⟩) (n+m - (i+m)) (G - (i+m))) (.slice (some ⟨g,i,none⟩) (n - i) (c - i)) (by simp[Act.eval,Act.put]) (by simp[Act.eval,Act.put]) (h2 3 (G - (i+m)) (c - i)) ?_)
 go_wp2
 go_ret
 exact⟨rfl,rfl⟩
theorem ways:RM Tryz.prog 224 28 9 3 4 257 1 16 where
 U2:=by decide
 hS:=Tryz.underlying28
 hI:=Tryz.underlying3
 U3:=TE (by kernel_rfl)
 xY:=fun x w h=>by
  rw[run_callFunc_extern Tryz.func257 (by kernel_rfl) (by kernel_rfl) (by kernel_rfl) (e:=Extern.SlicesOverlaps.overlaps #[28,28] #[4]) (by kernel_rfl),h]
  rfl
 xE:=xE
 zP:=zP
 F1:=F1
 wc:=wc
 shift:=shift
 grow:=grow
theorem enters:Go.TQ.Enters Tryz.prog 224:=⟨Tryz.f224,Tryz.func224,by kernel_rfl,by kernel_rfl⟩
end Jt
end Go.Proofs.YtjbfdglebjnelaaGreat
end
noncomputable section
namespace Go.TQ
section
def Jr{α:Type}(bytes:Nat)(s:List α)(i:Int)(v:List α):Option (List α):=bif decide (0<=i)&&decide (i<=((s.length:Nat):Int))&&bL bytes (s.length+v.length)then some (s.take i.toNat++v++s.drop i.toNat)else none
theorem pc{P:Program}{f S E I B ov k bytes:Nat}(H:RM P f S E I B ov k bytes)(hent:Enters P f){T:Ty}(hk:∀x:T.den,(T.pv x).length=k):
  di.Sound P (U:=U) (.cw f E k T [.ty (Ty.i .i64),.ty (Ty.sl T)] fun s a=>Jr bytes s a.1 a.2.1):=by
 refine⟨hent,fun xs a ys h=> ?_⟩
 suffices key:∀(i:Int) (v:List T.den) (ys:List T.den),Jr bytes xs i v=some ys->EF P f E k (xs.map T.pv) [.int .i64 i,.sl (v.map T.pv)] (ys.map T.pv)from key a.1 a.2.1 ys h
 clear h;intro i v ys h;unfold Jr at h
 cases hc:(decide (0<=i)&&decide (i<=((xs.length:Nat):Int))&&bL bytes (xs.length+v.length))with
 |false=>rw[hc]at h;cases h
 |true=>
  rw[hc]at h;injection h with h
  subst h;simp only[Qm,Qi]at hc;obtain⟨⟨h0,h1⟩,h2⟩:=hc;obtain⟨h3,h4⟩:=vT h2;have hone:∀x:T.den,(T.pv x).all PV.one=true:=fun x=>QH.2 fun y hy=>Jz (K.fh T x y hy)
  have:=TD H (es:=xs.map T.pv) (vs:=v.map T.pv) (i:=i.toNat) (by rw[QC];omega)
   (fun u hu=>by obtain⟨x,_,rfl⟩:=QP.1 hu;exact hone x) (fun u hu=>by obtain⟨x,_,rfl⟩:=QP.1 hu;exact⟨hk x,hone x⟩)
   (by rw[QC,QC];exact h4) (by rw[QC,QC];exact h3)
  rw[<-List.map_take,<-List.map_drop,<-List.map_append,<-List.map_append,show((i.toNat:Nat):Int)=i by omega]at this
  exact this
end
section
open Go.Proofs Go.Sort Go.RowKit Go.Lib
def sI:PV->Bool
 | .int _ _=>true
 | .str _=>true
 | .bool _=>true
 |_=>false
def l9:PV->Value
 | .int k n=> .int k n
 | .str s=> .string s
 | .bool b=> .bool b
 |_=>undef
theorem Bo{w:World}{M:Nat->Prop}{G:Gh}{x:PV}(h:sI x=true):aR w M G x (l9 x):=by
 cases x<;>first|exact .int _ _|exact .str _|exact .bool _|exact absurd h (by simp[sI])
theorem N4{w:World}{M:Nat->Prop}{G:Gh}{x:PV}{v:Value}(h:sI x=true)(hr:aR w M G x v):v=l9 x:=by
 cases x<;>first|(cases hr;rfl)|exact absurd h (by simp[sI])
theorem Hl{x:PV}(h:sI x=true):(l9 x).oneCell'=true:=by
 cases x<;>first|rfl|exact absurd h (by simp[sI])
theorem E2{w:World}{M:Nat->Prop}{G:Gh}:∀{xs:List PV} {vs:List Value},xs.all sI=true->aP w M G xs vs->vs=xs.map l9
 |[],vs,_,hr=>hr.lf
 |x::xs,vs,h,hr=>by
  obtain⟨v,vs',rfl,r1,r2⟩:=hr.cons_inv;rw[Qq69,Qm]at h;rw[QD,<-N4 h.1 r1,<-E2 h.2 r2]
theorem E0{w:World}{M:Nat->Prop}{G:Gh}:∀{xs:List PV},xs.all sI=true->aP w M G xs (xs.map l9)
 |[],_=> .nil
 |x::xs,h=>by
  rw[Qq69,Qm]at h;exact .cons (Bo h.1) (E0 h.2)
theorem TW{w w':World}(h:Fr none w w'):∃q os,w'=grow (w.drewN q) os:=by
 refine⟨w'.drawn - w.drawn,w'.heap.extract w.heap.size w'.heap.size,?_⟩;have hs:=h.size
 have hh:w'.heap=w.heap++w'.heap.extract w.heap.size w'.heap.size:=by
  apply Array.ext_getElem?;intro k;rw[Array.getElem?_append];split
  ·rename_i hk;exact h.block k hk (by simp)
  ·rename_i hk;rw[Array.getElem?_extract];split
   ·rw[show w.heap.size+(k - w.heap.size)=k by omega]
   ·exact Array.getElem?_eq_none (by omega)
 have h1:=h.os;have h2:=h.tape;have h3:=h.output;have h4:=h.drawn
 cases w' with|mk hp tp dr os out=>
 cases w with|mk hp' tp' dr' os' out'=>
 simp only at h1 h2 h3 h4 hh;subst h1 h2 h3;unfold grow World.drewN;simp only;rw[<-hh,show dr'+(dr - dr')=dr by omega]
theorem I0{w:World}{b n:Nat}{F:Array Value}{os:Array Obj}{cur:Array Value}{e:TypeId}{fr:Nat×Nat}(hb:w.heap[b]?=some (.cells cur e fr)):
  (grow (putRow id (Sort.ahead w n) b 0 F) os).heap[b]?=some (.cells (putCells id 0 F cur) e fr):=by
 have hlt:b<w.heap.size:=(Q8.1 hb).1;unfold grow putRow mapBlock Sort.ahead;simp only;rw[Array.getElem?_append_left (by simp;exact hlt),Array.getElem?_modify,Qr rfl,hb]
 rfl
theorem N1{w:World}{b n:Nat}{F:Array Value}{os:Array Obj}:Fr (some b) w (grow (putRow id (Sort.ahead w n) b 0 F) os):=by
 refine⟨rfl,rfl,rfl,?_,fun q hq hne=> ?_,Nat.le_add_right _ _⟩
 ·unfold grow putRow mapBlock Sort.ahead;simp only[Array.size_append,Array.size_modify];omega
 ·have hqb:¬b=q:=fun e=>hne (by rw[e])
  unfold grow putRow mapBlock Sort.ahead;simp only;rw[Array.getElem?_append_left (by simp;exact hq),Array.getElem?_modify,Qs hqb]
theorem Hh{F cur:Array Value}(h:F.size<=cur.size):(putCells id 0 F cur).toList=F.toList++cur.toList.drop F.size:=by
 apply List.ext_getElem?;intro i;rw[Array.getElem?_toList];unfold putCells;rw[Array.getElem?_mapIdx,List.getElem?_append];simp only[Array.length_toList,QS,true_and,Nat.zero_add,Nat.sub_zero,id]
 by_cases hi:i<F.size
 ·rw[Qr hi,Array.getElem?_toList,Array.getElem?_eq_getElem (show i<cur.size by omega),Array.getElem?_eq_getElem hi,Qe,Qr hi,getElem!_pos F i hi]
 ·rw[Qs hi,List.getElem?_drop,Array.getElem?_toList,show F.size+(i - F.size)=i by omega]
  cases cur[i]? with
  |none=>rfl
  |some y=>rw[Qe,Qs hi]
def Km(P:Program)(f k:Nat):Prop:=∀(α:Type) [Inhabited α] (db:α->List Value) (_:∀x,(db x).length=k) (_:∀x,∀v∈db x,v.oneCell'=true) (cf:α->α->Int) (_:Go.Sort.SWO (ltOf cf)) (g:Nat) (cb:Array Value) (bF off cap:Nat) (d:Array α) (w:World)
  (_:∀args w,(callFunc g args).run P w= .ok (.enter g args) w) (_:CmpLays P g cb db k cf bF off d.size w) (_:HoldsK db k w bF off d) (_:bF<w.heap.size) (_:d.size<4611686018427387904) (_:∀x y,(ltOf cf) x y=false->(ltOf cf) y x=false->x=y),
  Calls P f #[.slice (some ⟨bF,off,none⟩) d.size cap,.func (.func g) #[] cb] w fun e w'=>
   e= .returned (.tuple #[])/\∃n os,w'=sortWorldK db k w bF off n (d.toList.mergeSort fun x y=> !(ltOf cf) y x).toArray os
def Ga(P:Program)(f:Nat):Prop:=∀(α:Type) [Inhabited α] (db:α->Value) (_:OneCell db) (cf:α->α->Int) (_:Go.Sort.SWO (ltOf cf)) (g:Nat) (cb:Array Value) (bF off cap:Nat) (d:Array α) (w:World)
  (_:∀args w,(callFunc g args).run P w= .ok (.enter g args) w) (_:CmpLays1 P g cb db cf bF off d.size w) (_:Holds db w bF off d) (_:bF<w.heap.size) (_:d.size<4611686018427387904) (_:∀x y,(ltOf cf) x y=false->(ltOf cf) y x=false->x=y),
  Calls P f #[.slice (some ⟨bF,off,none⟩) d.size cap,.func (.func g) #[] cb] w fun e w'=>
   e= .returned (.tuple #[])/\∃n os,w'=sortWorld db w bF off n (d.toList.mergeSort fun x y=> !(ltOf cf) y x).toArray os
def B7(P:Program)(f:Nat):Prop:=∀(p:Option Addr) (cap:Nat) (fv:Value) (w:World),Calls P f #[.slice p 0 cap,fv] w fun e w'=>e= .returned (.tuple #[])/\w'=w
section
variable {P : Program} {α : Type} [Inhabited α] {pv : α -> List PV} {k : Nat}
def lT(pv:α->List PV)(x:α):List Value:=(pv x).map l9
def Kl(P:Program)(f g e k:Nat)(pv:α->List PV)(le:α->α->Bool):Prop:=
 ∀(w:World) (b cap:Nat) (xs:List α) (cur:Array Value),w.heap[b]?=some (.cells cur e (0,0))->xs.length<4611686018427387904->xs.length<=cap->cap<=maxLen->cur.size=cap*k->cur.toList.take (xs.length*k)=xs.flatMap (lT pv)->
  Calls P f #[.slice (some ⟨b,0,none⟩) xs.length cap,.func (.func g) #[] #[]] w fun en w'=>en= .returned (.tuple #[])/\
   ∃cur':Array Value,w'.heap[b]?=some (.cells cur' e (0,0))/\cur'.size=cur.size/\cur'.toList.take (xs.length*k)=(xs.mergeSort le).flatMap (lT pv)/\Fr (some b) w w'
theorem HE(hk:∀x,(pv x).length=k):∀xs:List α,(xs.flatMap (lT pv)).length=xs.length*k
 |[]=>by simp
 |x::xs=>by rw[List.flatMap_cons,QB,HE hk xs,lT,QC,hk,QE,Qq72,Nat.one_mul,Nat.add_comm]
theorem Lb{f g e:Nat}{le:α->α->Bool}(h0:B7 P f)(hs:Kl P f g e k pv le)(hk0:0<k)(hk:∀x,(pv x).length=k)(hp:∀x,(pv x).all sI=true)(xs:List α)(hsx:xs.length<4611686018427387904):
  Nx P f e k (xs.map pv) [.bj g []] (.c8 []) ((xs.mergeSort le).map pv):=by
 intro w X hX v vs hvX ⟨us,hown,hke,hr⟩ hargs;obtain⟨a1,args,rfl,ha1,hargs⟩:=hargs.cons_inv;obtain rfl:=hargs.lf;obtain⟨cs,rfl,hcs⟩:=ha1.sj;obtain rfl:=hcs.lf
 have hflat:∀l:List α,(l.map pv).flatten.map l9=l.flatMap (lT pv):=fun l=>by
  induction l with
  |nil=>rfl
  |cons x l ih=>rw[QD,List.flatten_cons,List.map_append,ih,List.flatMap_cons];rfl
 have hplain:∀l:List α,(l.map pv).flatten.all sI=true:=fun l=>by
  induction l with
  |nil=>rfl
  |cons x l ih=>rw[QD,List.flatten_cons,List.all_append,ih,hp x];rfl
 have hus:us=xs.flatMap (lT pv):=by rw[E2 (hplain xs) hr,hflat]
 have hms:(xs.mergeSort le).length=xs.length:=List.length_mergeSort xs
 have hkm:∀l:List α,∀u∈l.map pv,u.length=k:=fun l u hu=>by
  obtain⟨x,_,rfl⟩:=QP.1 hu;exact hk x
 have hlen:(xs.map pv).length=xs.length:=QC ..;have hlen2:((xs.mergeSort le).map pv).length=xs.length:=by rw[QC,hms]
 rw[hlen]at hown
 have hrep:∀w':World,aP w' (Mv v X) cv ((xs.mergeSort le).map pv).flatten ((xs.mergeSort le).flatMap (lT pv)):=fun w'=>by
  rw[<-hflat];exact E0 (hplain _)
 by_cases hx:xs=[]
 ·
  subst hx
  have hv:∃p cap,v= .slice p 0 cap:=by
   rcases hown.2 with⟨h1,_⟩|⟨b,cap,cur,h1,_⟩
   ·exact⟨none,0,h1⟩
   ·exact⟨_,cap,h1⟩
  obtain⟨p,cap,hv⟩:=hv;have:=h0 p cap (.func (.func g) #[] [].toArray) w;rw[<-hv]at this;refine this.mono fun en w' ⟨h1,h2⟩=> ?_
  subst h2;refine⟨_,h1,.c8 _ [] rfl (fun i x v h=>by simp at h),⟨us,?_,hkm _,?_⟩,Fr.refl _ _⟩
  ·rw[hlen2];exact hown
  ·rw[hus];have:=hrep w';rw[show([]:List α).mergeSort le=[]from by simp]at this ⊢
   exact this
 ·rcases hown.2 with⟨_,h2⟩|⟨b,cap,cur,rfl,hbase,hb,hn,hcap,hsz,htake⟩
  ·exact absurd (Qq66 h2) hx
  ·refine(hs w b cap xs cur hb hsx hn hcap hsz (by rw[htake,hus])).mono fun en w' ⟨h1,cur',h2,h3,h4,h5⟩=> ?_
   refine⟨_,h1,.c8 _ [] rfl (fun i x v h=>by simp at h),⟨(xs.mergeSort le).flatMap (lT pv),⟨?_,.inr ⟨b,cap,cur',by rw[hlen2],hbase,h2,by rw[hlen2];exact hn,hcap,by rw[h3];exact hsz,?_⟩⟩,hkm _,hrep w'⟩,h5⟩
   ·rw[HE hk,hms,hlen2]
   ·rw[hlen2];exact h4
theorem Du{db:α->List Value}(hk:∀x,(db x).length=k)(hk0:0<k):∀(l:List α) (t:Nat),t<l.length*k->(l.flatMap db)[t]?=(db l[t / k]!)[t % k]?
 |[],t,h=>by simp at h
 |x::l,t,h=>by
  rw[List.flatMap_cons]
  by_cases ht:t<k
  ·rw[List.getElem?_append_left (by rw[hk];exact ht),Nat.div_eq_of_lt ht,Nat.mod_eq_of_lt ht]
   rfl
  ·rw[List.getElem?_append_right (by rw[hk];omega),hk]
   have hl:t - k<l.length*k:=by rw[QE,Qq72,Nat.one_mul]at h;omega
   rw[Du hk hk0 l (t - k) hl,Nat.mod_eq_sub_mod (by omega:t>=k),show t / k=(t - k) / k+1 from Nat.div_eq_sub_div hk0 (by omega)]
   simp
theorem MP{db:α->List Value}(hk:∀x,(db x).length=k)(hk0:0<k)(l:List α):(flatK db k l.toArray).toList=l.flatMap db:=by
 have hlen:(l.flatMap db).length=l.length*k:=by
  induction l with
  |nil=>simp
  |cons x l ih=>rw[List.flatMap_cons,QB,ih,hk,QE,Qq72,Nat.one_mul,Nat.add_comm]
 apply List.ext_getElem?;intro t
 by_cases ht:t<l.length*k
 ·rw[Du hk hk0 l t ht];have hm:t % k<(db l[t / k]!).length:=by rw[hk];exact Nat.mod_lt _ hk0
  rw[Qv hm];unfold flatK;simp only[Array.toList_map,Array.toList_range,QT,List.size_toArray];rw[List.getElem?_range ht];simp only[Qe];congr 1;rw[show(l.toArray)[t / k]! =l[t / k]! by simp]
  exact getElem!_pos (db l[t / k]!) (t % k) hm
 ·rw[Qq71 (by rw[Array.length_toList,size_flatK,List.size_toArray];omega),Qq71 (by omega)]
def RR(P:Program)(g:Nat)(val:α->Value)(cf:α->α->Int):Prop:=∀(x y:α) (w:World),Calls P g #[val x,val y] w fun e w'=>e= .returned (.int .i64 (cf x y))/\∃q os,w'=grow (w.drewN q) os
theorem FB{w:World}{b e cap:Nat}{xs:List α}{cur:Array Value}{F:Array Value}(hb:w.heap[b]?=some (.cells cur e (0,0)))(hF:F.toList=cur.toList.take F.size):Holds id w b 0 F:=by
 intro j hj
 have hc:cur[j]?=some F[j]:=by
  have h1:F.toList[j]?=some F[j]:=by rw[Array.getElem?_toList];exact Array.getElem?_eq_getElem hj
  rw[hF,Qq67,Qr hj,Array.getElem?_toList]at h1;exact h1
 rw[getElem!_pos F j hj];refine⟨?_,?_⟩
 ·unfold World.cell?;simp only[Nat.zero_add,hb];simpa using hc
 ·unfold World.frozen?;simp only[hb];simp
theorem Xr{f g e:Nat}{cf:α->α->Int}(hS:Km P f k)(hk0:0<k)(hk:∀x,(pv x).length=k)(hp:∀x,(pv x).all sI=true)(hO:Go.Sort.SWO (ltOf cf))(hT:∀x y,(ltOf cf) x y=false->(ltOf cf) y x=false->x=y)
  (eg:∀args w,(callFunc g args).run P w= .ok (.enter g args) w) (hc:RR P g (fun x=> .agg (lT pv x).toArray) cf):Kl P f g e k pv fun x y=> !(ltOf cf) y x:=by
 intro w b cap xs cur hb hsx hn hcap hsz htake;have hlt:b<w.heap.size:=(Q8.1 hb).1;have hkE:∀x,(lT pv x).length=k:=fun x=>by rw[lT,QC,hk]
 have hflat:∀l:List α,(flatK (lT pv) k l.toArray).toList=l.flatMap (lT pv):=MP hkE hk0;have hcs:CmpLays P g #[] (lT pv) k cf b 0 xs.toArray.size w:=fun m os dk _ x y=>hc x y _
 have hH:HoldsK (lT pv) k w b 0 xs.toArray:=FB (xs:=xs) (cap:=cap) hb (by rw[hflat,size_flatK,List.size_toArray];exact htake.symm)
 have:=hS α (lT pv) hkE (fun x v hv=>by obtain⟨y,hy,rfl⟩:=QP.1 hv;exact Hl (QH.1 (hp x) y hy)) cf hO g #[] b 0 cap xs.toArray w eg hcs hH hlt (by rw[List.size_toArray];exact hsx) hT
 refine this.mono fun en w' ⟨h1,n,os,h2⟩=>⟨h1,?_⟩
 have hms:(xs.mergeSort fun x y=> !(ltOf cf) y x).length=xs.length:=List.length_mergeSort xs
 have hFs:(flatK (lT pv) k (xs.mergeSort fun x y=> !(ltOf cf) y x).toArray).size=xs.length*k:=by rw[size_flatK,List.size_toArray,hms]
 have hFc:(flatK (lT pv) k (xs.mergeSort fun x y=> !(ltOf cf) y x).toArray).size<=cur.size:=by rw[hFs,hsz];exact Qq62 k hn
 subst h2;refine⟨_,I0 hb,by unfold putCells;rw[Array.size_mapIdx],?_,N1⟩
 rw[Hh hFc,<-hFs,<-Array.length_toList,List.take_left,hflat]
theorem Xs{f g e:Nat}{cf:α->α->Int}{p1:α->PV}(hS:Ga P f)(hp:∀x,sI (p1 x)=true)(hO:Go.Sort.SWO (ltOf cf))(hT:∀x y,(ltOf cf) x y=false->(ltOf cf) y x=false->x=y)
  (eg:∀args w,(callFunc g args).run P w= .ok (.enter g args) w) (hc:RR P g (fun x=>l9 (p1 x)) cf):Kl P f g e 1 (fun x=>[p1 x]) fun x y=> !(ltOf cf) y x:=by
 intro w b cap xs cur hb hsx hn hcap hsz htake;have hlt:b<w.heap.size:=(Q8.1 hb).1
 have hflat:∀l:List α,(l.toArray.map fun x=>l9 (p1 x)).toList=l.flatMap (lT fun x=>[p1 x]):=fun l=>by
  induction l with
  |nil=>simp
  |cons x l ih=>
   rw[List.flatMap_cons,<-ih];simp[lT]
 have hcs:CmpLays1 P g #[] (fun x=>l9 (p1 x)) cf b 0 xs.toArray.size w:=fun m os dk _ x y=>hc x y _
 have hF:=FB (xs:=xs) (cap:=cap) (F:=xs.toArray.map fun x=>l9 (p1 x)) hb (by rw[hflat,Array.size_map,List.size_toArray,<-Nat.mul_one xs.length];exact htake.symm)
 have hH:Holds (fun x=>l9 (p1 x)) w b 0 xs.toArray:=by
  intro j hj;have h1:=hF j (by rw[Array.size_map];exact hj)
  rw[getElem!_pos _ j (by rw[Array.size_map];exact hj),Array.getElem_map]at h1
  rw[getElem!_pos _ j hj];exact h1
 have:=hS α (fun x=>l9 (p1 x)) (fun x=>Hl (hp x)) cf hO g #[] b 0 cap xs.toArray w eg hcs hH hlt (by rw[List.size_toArray];exact hsx) hT
 refine this.mono fun en w' ⟨h1,n,os,h2⟩=>⟨h1,?_⟩
 have hms:(xs.mergeSort fun x y=> !(ltOf cf) y x).length=xs.length:=List.length_mergeSort xs
 have hput:∀(W:World) (d:Array α),putRow (fun x=>l9 (p1 x)) W b 0 d=putRow id W b 0 (d.map fun x=>l9 (p1 x)):=fun W d=>by
  unfold putRow;congr 1
  funext c
  unfold putCells;apply Array.ext_getElem?;intro i;simp only[Array.getElem?_mapIdx,Array.size_map,QS,true_and,Nat.zero_add,Nat.sub_zero,id]
  cases c[i]? with
  |none=>rfl
  |some y=>
   simp only[Qe]
   by_cases hi:i<d.size
   ·rw[Qr hi,Qr hi,getElem!_pos d i hi,getElem!_pos _ i (by rw[Array.size_map];exact hi),Array.getElem_map]
   ·rw[Qs hi,Qs hi]
 unfold sortWorld at h2;rw[hput]at h2;have hFs:((xs.mergeSort fun x y=> !(ltOf cf) y x).toArray.map fun x=>l9 (p1 x)).size=xs.length*1:=by rw[Array.size_map,List.size_toArray,hms,Nat.mul_one]
 have hFc:((xs.mergeSort fun x y=> !(ltOf cf) y x).toArray.map fun x=>l9 (p1 x)).size<=cur.size:=by rw[hFs,hsz];exact Qq62 1 hn
 subst h2;refine⟨_,I0 hb,by unfold putCells;rw[Array.size_mapIdx],?_,N1⟩
 rw[Hh hFc,<-hFs,<-Array.length_toList,List.take_left,hflat]
end
theorem LL{P:Program}{g:Nat}{α:Type}{va:α->PV}{val:α->Value}{cf:α->α->Int}(hval:∀(x:α) (w:World) (M:Nat->Prop),aR w M cv (va x) (val x))(h:∀x y,VE P g false [] [va x,va y] (.int .i64 (cf x y)) []):RR P g val cf:=by
 intro x y w;have:=h x y w (fun _=>False) (fun b hb=>hb.elim) 0 0 [] [val x,val y] (fun e=>by cases e) (.cons (hval x w _) (.cons (hval y w _) .nil))
 refine this.mono fun en w' ⟨v,rvs,h1,h2,_,h4⟩=> ?_
 rw[h2.ec]at h1;exact⟨h1,TW h4⟩
end
section
open Go.Proofs Go.Sort
def BZ{α:Type}(c:α->α->Option Int)(x y:α):Int:=(c x y).getD 0
structure Sv {α:Type} (c:α->α->Option Int):Prop where
 some:∀x y,c x y=some (BZ c x y)
 ord:Go.Sort.SWO (ltOf (BZ c))
 WW:∀x y,ltOf (BZ c) x y=false->ltOf (BZ c) y x=false->x=y
open Classical in
 def vb{α:Type}(c:α->α->Option Int)(s:List α):Option (Unit×List α):=if Sv c/\s.length<4611686018427387904 then some ((),s.mergeSort fun x y=> !(ltOf (BZ c)) y x)else none
section
variable {P : Program} {f g e k : Nat} {T : Ty} {F : T.den × T.den × Unit -> Option Int} (hent : Enters P f) (h0 : B7 P f) (hgs : di.Sound P (U := U) (.fn g [.ty T, .ty T] (.one (Ty.i .i64)) F)) (hi : Inhabited T.den) (hp : ∀ x : T.den, (T.pv x).all sI = true)
 include hent h0 hgs hi hp
theorem VV(hS:Km P f k)(hk0:0<k)(hk:∀x:T.den,(T.pv x).length=k)(hv:∀x:T.den,cx (U:=U) T x= .agg (T.pv x)):
  di.Sound P (U:=U) (.rw f e k T [.bj g []] (.many []) fun s a=>vb (fun x y=>F (x,y,())) s):=by
 refine⟨hent,fun xs a r ys h=> ?_⟩
 have h:vb (fun x y=>F (x,y,())) xs=some (r,ys):=h
 unfold vb at h;split at h
 ·rename_i hc;injection h with h
  injection h with _ h2
  subst h2;refine Lb h0 (Xr hS hk0 hk hp hc.1.ord hc.1.WW (fun args w=>ni hgs.1 args) ?_) hk0 hk hp xs hc.2
  refine LL (va:=fun x=> .agg (T.pv x)) (fun x w M=> .agg _ _ (by rw[lT,QC]) fun i y v h1 h2=> ?_) fun x y=> ?_
  ·rw[lT,QT,h1]at h2;injection h2 with h2
   rw[<-h2];exact Bo (QH.1 (hp x) y (Q7 h1))
  ·have:=hgs.2 (x,y,()) _ (hc.1.some x y);rw[show fl (U:=U) [.ty T,.ty T] (x,y,())=[.agg (T.pv x),.agg (T.pv y)]by rw[<-hv x,<-hv y];rfl]at this
   exact this
 ·cases h
theorem Ma(hS:Ga P f)(hv:∀x:T.den,T.pv x=[cx (U:=U) T x]):
  di.Sound P (U:=U) (.rw f e 1 T [.bj g []] (.many []) fun s a=>vb (fun x y=>F (x,y,())) s):=by
 refine⟨hent,fun xs a r ys h=> ?_⟩
 have h:vb (fun x y=>F (x,y,())) xs=some (r,ys):=h
 unfold vb at h;split at h
 ·rename_i hc;injection h with h
  injection h with _ h2
  subst h2;have hp1:∀x:T.den,sI (cx (U:=U) T x)=true:=fun x=>by have:=hp x;rw[hv x]at this;simpa using this
  have hpv:(fun x:T.den=>T.pv x)=fun x=>[cx (U:=U) T x]:=funext hv
  have:=Lb (pv:=fun x:T.den=>[cx (U:=U) T x]) (e:=e) h0 (Xs hS hp1 hc.1.ord hc.1.WW (fun args w=>ni hgs.1 args) (LL (va:=fun x=>cx (U:=U) T x) (fun x w M=>Bo (hp1 x)) fun x y=>hgs.2 (x,y,()) _ (hc.1.some x y))) (by omega) (fun x=>rfl) (fun x=>by simpa using hp1 x) xs hc.2
  rw[<-hpv]at this;exact this
 ·cases h
end
end
end Go.TQ
end
noncomputable section
namespace Go.Proofs
open Go.Shelf
def zg:Go.Shelf.Ren:=⟨fun|6=>251|15=>288|14=>287|28=>327|29=>328|20=>319|21=>320|22=>321|23=>322|24=>323|25=>324|26=>325|27=>326|46=>353|47=>354|48=>355|49=>356|50=>357|57=>377|n=>n,fun|22=>28|24=>9|25=>97|3=>3|39=>160|0=>0|53=>229|55=>256|4=>4|46=>271|45=>270|50=>125|5=>5|9=>9|66=>292|70=>296|76=>308|77=>148|n=>n,fun|n=>n⟩
theorem F9:Go.Proofs.SlLaysF.n6 Tryz.prog zg:={
 mixed:=by kernel_rfl
 f6:=⟨Tryz.f251.name,by decide,Tryz.func251.trans (congrArg some (by kernel_rfl))⟩
 f14:=⟨Tryz.f287.name,by decide,Tryz.func287.trans (congrArg some (by kernel_rfl))⟩
 f15:=Tryz.func288.trans (congrArg some (by kernel_rfl))
 f20:=⟨Tryz.f319.name,by decide,Tryz.func319.trans (congrArg some (by kernel_rfl))⟩
 f21:=⟨Tryz.f320.name,by decide,Tryz.func320.trans (congrArg some (by kernel_rfl))⟩
 f22:=⟨Tryz.f321.name,by decide,Tryz.func321.trans (congrArg some (by kernel_rfl))⟩
 f23:=⟨Tryz.f322.name,by decide,Tryz.func322.trans (congrArg some (by kernel_rfl))⟩
 f24:=⟨Tryz.f323.name,by decide,Tryz.func323.trans (congrArg some (by kernel_rfl))⟩
 f25:=⟨Tryz.f324.name,by decide,Tryz.func324.trans (congrArg some (by kernel_rfl))⟩
 f26:=⟨Tryz.f325.name,by decide,Tryz.func325.trans (congrArg some (by kernel_rfl))⟩
 f27:=⟨Tryz.f326.name,by decide,Tryz.func326.trans (congrArg some (by kernel_rfl))⟩
 f28:=Tryz.func327.trans (congrArg some (by kernel_rfl))
 f29:=Tryz.func328.trans (congrArg some (by kernel_rfl))
 f46:=⟨Tryz.f353.name,by decide,Tryz.func353.trans (congrArg some (by kernel_rfl))⟩
 f47:=Tryz.func354.trans (congrArg some (by kernel_rfl))
 f48:=Tryz.func355.trans (congrArg some (by kernel_rfl))
 f49:=⟨Tryz.f356.name,by decide,Tryz.func356.trans (congrArg some (by kernel_rfl))⟩
 f50:=⟨Tryz.f357.name,by decide,Tryz.func357.trans (congrArg some (by kernel_rfl))⟩
 f57:=⟨Tryz.f377.name,by decide,Tryz.func377.trans (congrArg some (by kernel_rfl))⟩
 t0:=Tryz.underlying0
 a0:=Tryz.isAgg0
 z0:=Tryz.sizeOf0
 v0:=Tryz.zeroValue0
 t3:=Tryz.underlying3
 a3:=Tryz.isAgg3
 z3:=Tryz.sizeOf3
 v3:=Tryz.zeroValue3
 t4:=Tryz.underlying4
 a4:=Tryz.isAgg4
 z4:=Tryz.sizeOf4
 v4:=Tryz.zeroValue4
 t5:=Tryz.underlying5
 a5:=Tryz.isAgg5
 z5:=Tryz.sizeOf5
 v5:=Tryz.zeroValue5
 t9:=Tryz.underlying9
 a9:=Tryz.isAgg9
 z9:=Tryz.sizeOf9
 v9:=Tryz.zeroValue9
 t22:=Tryz.underlying28
 a22:=Tryz.isAgg28
 z22:=Tryz.sizeOf28
 v22:=Tryz.zeroValue28
 a24:=Tryz.isAgg9
 z24:=Tryz.sizeOf9
 t25:=Tryz.underlying97
 a25:=Tryz.isAgg97
 z25:=Tryz.sizeOf97
 v25:=Tryz.zeroValue97
 t39:=Tryz.underlying160
 a39:=Tryz.isAgg160
 z39:=Tryz.sizeOf160
 v39:=Tryz.zeroValue160
 t45:=Tryz.underlying270
 a45:=Tryz.isAgg270
 z45:=Tryz.sizeOf270
 v45:=Tryz.zeroValue270
 t46:=Tryz.underlying271
 a46:=Tryz.isAgg271
 z46:=Tryz.sizeOf271
 v46:=Tryz.zeroValue271
 t50:=Tryz.underlying125
 a50:=Tryz.isAgg125
 z50:=Tryz.sizeOf125
 v50:=Tryz.zeroValue125
 t53:=Tryz.underlying229
 a53:=Tryz.isAgg229
 z53:=Tryz.sizeOf229
 v53:=Tryz.zeroValue229
 t55:=Tryz.underlying256
 a55:=Tryz.isAgg256
 z55:=Tryz.sizeOf256
 v55:=Tryz.zeroValue256
 t66:=Tryz.underlying292
 a66:=Tryz.isAgg292
 z66:=Tryz.sizeOf292
 v66:=Tryz.zeroValue292
 t70:=Tryz.underlying296
 a70:=Tryz.isAgg296
 z70:=Tryz.sizeOf296
 v70:=Tryz.zeroValue296
 t76:=Tryz.underlying308
 a76:=Tryz.isAgg308
 z76:=Tryz.sizeOf308
 v76:=Tryz.zeroValue308
 t77:=Tryz.underlying148
 a77:=Tryz.isAgg148
 z77:=Tryz.sizeOf148
 v77:=Tryz.zeroValue148}
def GZ:Go.Shelf.Ren:=⟨fun|6=>378|15=>288|14=>387|28=>327|29=>328|20=>389|21=>390|22=>391|23=>392|24=>393|25=>394|26=>395|27=>396|46=>405|47=>354|48=>355|49=>406|50=>407|57=>411|n=>n,fun|22=>180|24=>33|25=>217|3=>3|39=>160|0=>0|53=>229|55=>256|4=>4|46=>271|45=>270|50=>125|5=>5|9=>9|66=>292|70=>296|76=>308|77=>148|n=>n,fun|n=>n⟩
theorem F8:Go.Proofs.SlLaysF0.n6 Tryz.prog GZ:={
 mixed:=by kernel_rfl
 f6:=⟨Tryz.f378.name,by decide,Tryz.func378.trans (congrArg some (by kernel_rfl))⟩
 f14:=⟨Tryz.f387.name,by decide,Tryz.func387.trans (congrArg some (by kernel_rfl))⟩
 f15:=Tryz.func288.trans (congrArg some (by kernel_rfl))
 f20:=⟨Tryz.f389.name,by decide,Tryz.func389.trans (congrArg some (by kernel_rfl))⟩
 f21:=⟨Tryz.f390.name,by decide,Tryz.func390.trans (congrArg some (by kernel_rfl))⟩
 f22:=⟨Tryz.f391.name,by decide,Tryz.func391.trans (congrArg some (by kernel_rfl))⟩
 f23:=⟨Tryz.f392.name,by decide,Tryz.func392.trans (congrArg some (by kernel_rfl))⟩
 f24:=⟨Tryz.f393.name,by decide,Tryz.func393.trans (congrArg some (by kernel_rfl))⟩
 f25:=⟨Tryz.f394.name,by decide,Tryz.func394.trans (congrArg some (by kernel_rfl))⟩
 f26:=⟨Tryz.f395.name,by decide,Tryz.func395.trans (congrArg some (by kernel_rfl))⟩
 f27:=⟨Tryz.f396.name,by decide,Tryz.func396.trans (congrArg some (by kernel_rfl))⟩
 f28:=Tryz.func327.trans (congrArg some (by kernel_rfl))
 f29:=Tryz.func328.trans (congrArg some (by kernel_rfl))
 f46:=⟨Tryz.f405.name,by decide,Tryz.func405.trans (congrArg some (by kernel_rfl))⟩
 f47:=Tryz.func354.trans (congrArg some (by kernel_rfl))
 f48:=Tryz.func355.trans (congrArg some (by kernel_rfl))
 f49:=⟨Tryz.f406.name,by decide,Tryz.func406.trans (congrArg some (by kernel_rfl))⟩
 f50:=⟨Tryz.f407.name,by decide,Tryz.func407.trans (congrArg some (by kernel_rfl))⟩
 f57:=⟨Tryz.f411.name,by decide,Tryz.func411.trans (congrArg some (by kernel_rfl))⟩
 t0:=Tryz.underlying0
 a0:=Tryz.isAgg0
 z0:=Tryz.sizeOf0
 v0:=Tryz.zeroValue0
 t3:=Tryz.underlying3
 a3:=Tryz.isAgg3
 z3:=Tryz.sizeOf3
 v3:=Tryz.zeroValue3
 t4:=Tryz.underlying4
 a4:=Tryz.isAgg4
 z4:=Tryz.sizeOf4
 v4:=Tryz.zeroValue4
 t5:=Tryz.underlying5
 a5:=Tryz.isAgg5
 z5:=Tryz.sizeOf5
 v5:=Tryz.zeroValue5
 t9:=Tryz.underlying9
 a9:=Tryz.isAgg9
 z9:=Tryz.sizeOf9
 v9:=Tryz.zeroValue9
 t22:=Tryz.underlying180
 a22:=Tryz.isAgg180
 z22:=Tryz.sizeOf180
 v22:=Tryz.zeroValue180
 t25:=Tryz.underlying217
 a25:=Tryz.isAgg217
 z25:=Tryz.sizeOf217
 v25:=Tryz.zeroValue217
 t39:=Tryz.underlying160
 a39:=Tryz.isAgg160
 z39:=Tryz.sizeOf160
 v39:=Tryz.zeroValue160
 t45:=Tryz.underlying270
 a45:=Tryz.isAgg270
 z45:=Tryz.sizeOf270
 v45:=Tryz.zeroValue270
 t46:=Tryz.underlying271
 a46:=Tryz.isAgg271
 z46:=Tryz.sizeOf271
 v46:=Tryz.zeroValue271
 t50:=Tryz.underlying125
 a50:=Tryz.isAgg125
 z50:=Tryz.sizeOf125
 v50:=Tryz.zeroValue125
 t53:=Tryz.underlying229
 a53:=Tryz.isAgg229
 z53:=Tryz.sizeOf229
 v53:=Tryz.zeroValue229
 t55:=Tryz.underlying256
 a55:=Tryz.isAgg256
 z55:=Tryz.sizeOf256
 v55:=Tryz.zeroValue256
 t66:=Tryz.underlying292
 a66:=Tryz.isAgg292
 z66:=Tryz.sizeOf292
 v66:=Tryz.zeroValue292
 t70:=Tryz.underlying296
 a70:=Tryz.isAgg296
 z70:=Tryz.sizeOf296
 v70:=Tryz.zeroValue296
 t76:=Tryz.underlying308
 a76:=Tryz.isAgg308
 z76:=Tryz.sizeOf308
 v76:=Tryz.zeroValue308
 t77:=Tryz.underlying148
 a77:=Tryz.isAgg148
 z77:=Tryz.sizeOf148
 v77:=Tryz.zeroValue148}
def zf:Go.Shelf.Ren:=⟨fun|6=>382|15=>288|14=>388|28=>327|29=>328|20=>397|21=>398|22=>399|23=>400|24=>401|25=>402|26=>403|27=>404|46=>408|47=>354|48=>355|49=>409|50=>410|57=>412|n=>n,fun|22=>22|24=>3|25=>59|3=>3|39=>160|0=>0|53=>229|55=>256|4=>4|46=>271|45=>270|50=>125|5=>5|9=>9|66=>292|70=>296|76=>308|77=>148|n=>n,fun|n=>n⟩
theorem F7:Go.Proofs.SlLaysF.n6 Tryz.prog zf:={
 mixed:=by kernel_rfl
 f6:=⟨Tryz.f382.name,by decide,Tryz.func382.trans (congrArg some (by kernel_rfl))⟩
 f14:=⟨Tryz.f388.name,by decide,Tryz.func388.trans (congrArg some (by kernel_rfl))⟩
 f15:=Tryz.func288.trans (congrArg some (by kernel_rfl))
 f20:=⟨Tryz.f397.name,by decide,Tryz.func397.trans (congrArg some (by kernel_rfl))⟩
 f21:=⟨Tryz.f398.name,by decide,Tryz.func398.trans (congrArg some (by kernel_rfl))⟩
 f22:=⟨Tryz.f399.name,by decide,Tryz.func399.trans (congrArg some (by kernel_rfl))⟩
 f23:=⟨Tryz.f400.name,by decide,Tryz.func400.trans (congrArg some (by kernel_rfl))⟩
 f24:=⟨Tryz.f401.name,by decide,Tryz.func401.trans (congrArg some (by kernel_rfl))⟩
 f25:=⟨Tryz.f402.name,by decide,Tryz.func402.trans (congrArg some (by kernel_rfl))⟩
 f26:=⟨Tryz.f403.name,by decide,Tryz.func403.trans (congrArg some (by kernel_rfl))⟩
 f27:=⟨Tryz.f404.name,by decide,Tryz.func404.trans (congrArg some (by kernel_rfl))⟩
 f28:=Tryz.func327.trans (congrArg some (by kernel_rfl))
 f29:=Tryz.func328.trans (congrArg some (by kernel_rfl))
 f46:=⟨Tryz.f408.name,by decide,Tryz.func408.trans (congrArg some (by kernel_rfl))⟩
 f47:=Tryz.func354.trans (congrArg some (by kernel_rfl))
 f48:=Tryz.func355.trans (congrArg some (by kernel_rfl))
 f49:=⟨Tryz.f409.name,by decide,Tryz.func409.trans (congrArg some (by kernel_rfl))⟩
 f50:=⟨Tryz.f410.name,by decide,Tryz.func410.trans (congrArg some (by kernel_rfl))⟩
 f57:=⟨Tryz.f412.name,by decide,Tryz.func412.trans (congrArg some (by kernel_rfl))⟩
 t0:=Tryz.underlying0
 a0:=Tryz.isAgg0
 z0:=Tryz.sizeOf0
 v0:=Tryz.zeroValue0
 t3:=Tryz.underlying3
 a3:=Tryz.isAgg3
 z3:=Tryz.sizeOf3
 v3:=Tryz.zeroValue3
 t4:=Tryz.underlying4
 a4:=Tryz.isAgg4
 z4:=Tryz.sizeOf4
 v4:=Tryz.zeroValue4
 t5:=Tryz.underlying5
 a5:=Tryz.isAgg5
 z5:=Tryz.sizeOf5
 v5:=Tryz.zeroValue5
 t9:=Tryz.underlying9
 a9:=Tryz.isAgg9
 z9:=Tryz.sizeOf9
 v9:=Tryz.zeroValue9
 t22:=Tryz.underlying22
 a22:=Tryz.isAgg22
 z22:=Tryz.sizeOf22
 v22:=Tryz.zeroValue22
 a24:=Tryz.isAgg3
 z24:=Tryz.sizeOf3
 t25:=Tryz.underlying59
 a25:=Tryz.isAgg59
 z25:=Tryz.sizeOf59
 v25:=Tryz.zeroValue59
 t39:=Tryz.underlying160
 a39:=Tryz.isAgg160
 z39:=Tryz.sizeOf160
 v39:=Tryz.zeroValue160
 t45:=Tryz.underlying270
 a45:=Tryz.isAgg270
 z45:=Tryz.sizeOf270
 v45:=Tryz.zeroValue270
 t46:=Tryz.underlying271
 a46:=Tryz.isAgg271
 z46:=Tryz.sizeOf271
 v46:=Tryz.zeroValue271
 t50:=Tryz.underlying125
 a50:=Tryz.isAgg125
 z50:=Tryz.sizeOf125
 v50:=Tryz.zeroValue125
 t53:=Tryz.underlying229
 a53:=Tryz.isAgg229
 z53:=Tryz.sizeOf229
 v53:=Tryz.zeroValue229
 t55:=Tryz.underlying256
 a55:=Tryz.isAgg256
 z55:=Tryz.sizeOf256
 v55:=Tryz.zeroValue256
 t66:=Tryz.underlying292
 a66:=Tryz.isAgg292
 z66:=Tryz.sizeOf292
 v66:=Tryz.zeroValue292
 t70:=Tryz.underlying296
 a70:=Tryz.isAgg296
 z70:=Tryz.sizeOf296
 v70:=Tryz.zeroValue296
 t76:=Tryz.underlying308
 a76:=Tryz.isAgg308
 z76:=Tryz.sizeOf308
 v76:=Tryz.zeroValue308
 t77:=Tryz.underlying148
 a77:=Tryz.isAgg148
 z77:=Tryz.sizeOf148
 v77:=Tryz.zeroValue148}
end Go.Proofs
namespace Go.Proofs.YtjbfdglebjnelaaGreat
open Go.TQ Go.Proofs
namespace wD
theorem enters:Go.TQ.Enters Tryz.prog 251:=⟨_,Tryz.func251,by kernel_rfl,by kernel_rfl⟩
theorem none:B7 Tryz.prog 251:=fun p cap fv w=>AnyF.slices_SortFunc_none (P:=Tryz.prog) (ρ:=zg) {F9 with} p cap fv w
theorem Ck:Ga Tryz.prog 251:=fun α _ db h1 cf hO g cb bF off cap d w eg hc hH hb hsz hT=>Any.slices_SortFunc_total F9 db h1 cf hO g cb bF off cap d w eg hc hH hb hsz hT
end wD
namespace EL
theorem enters:Go.TQ.Enters Tryz.prog 378:=⟨_,Tryz.func378,by kernel_rfl,by kernel_rfl⟩
theorem none:B7 Tryz.prog 378:=fun p cap fv w=>AnyF.slices_SortFunc_none F8 p cap fv w
theorem Ck:Km Tryz.prog 378 2:=fun α _ db hk h1 cf hO g cb bF off cap d w eg hc hH hb hsz hT=>AnyQ.slices_SortFunc_total F8 2 Tryz.isAgg33 Tryz.sizeOf33 db hk h1 cf hO g cb bF off cap d w eg hc hH hb hsz hT
end EL
namespace EK
theorem enters:Go.TQ.Enters Tryz.prog 382:=⟨_,Tryz.func382,by kernel_rfl,by kernel_rfl⟩
theorem none:B7 Tryz.prog 382:=fun p cap fv w=>AnyF.slices_SortFunc_none (P:=Tryz.prog) (ρ:=zf) {F7 with} p cap fv w
theorem Ck:Ga Tryz.prog 382:=fun α _ db h1 cf hO g cb bF off cap d w eg hc hH hb hsz hT=>Any.slices_SortFunc_total F7 db h1 cf hO g cb bF off cap d w eg hc hH hb hsz hT
end EK
end Go.Proofs.YtjbfdglebjnelaaGreat
namespace Go.Proofs.YtjbfdglebjnelaaGreat
open Go.TQ Tryz
@[reducible] def u1 {A0 B:Type} (F:A0->B) (a:A0×Unit):B:=F a.1
@[reducible] def u2 {A0 A1 B:Type} (F:A0->A1->B) (a:A0×A1×Unit):B:=F a.1 a.2.1
@[reducible] def u3 {A0 A1 A2 B:Type} (F:A0->A1->A2->B) (a:A0×A1×A2×Unit):B:=F a.1 a.2.1 a.2.2.1
@[reducible] def u4 {A0 A1 A2 A3 B:Type} (F:A0->A1->A2->A3->B) (a:A0×A1×A2×A3×Unit):B:=F a.1 a.2.1 a.2.2.1 a.2.2.2.1
@[reducible] def u5 {A0 A1 A2 A3 A4 B:Type} (F:A0->A1->A2->A3->A4->B) (a:A0×A1×A2×A3×A4×Unit):B:=F a.1 a.2.1 a.2.2.1 a.2.2.2.1 a.2.2.2.2.1
@[reducible] def u6 {A0 A1 A2 A3 A4 A5 B:Type} (F:A0->A1->A2->A3->A4->A5->B) (a:A0×A1×A2×A3×A4×A5×Unit):B:=F a.1 a.2.1 a.2.2.1 a.2.2.2.1 a.2.2.2.2.1 a.2.2.2.2.2.1
@[reducible] def zB:af:=af.mk 0 (ByteArray.mk #[])
def p_:Nat->Nat->NT U->NT U|0,_,x=>x|k+1,n,x=>match n % 2 with|0=> .l (p_ k (n / 2) x)|_=> .r (p_ k (n / 2) x)
@[reducible] def oR {A B:Type} (x:Option B):Option (A⊕B):=Option.map Sum.inr x
@[reducible] def y0:Ty:=Ty.i .i64
@[reducible] def y1:Ty:=Ty.bool
@[reducible] def y2:Ty:=Ty.st .aa
@[reducible] def y3:Ty:=Ty.str
@[reducible] def y4:Ty:=Ty.st .ao
@[reducible] def y5:Ty:=Ty.st .aF
@[reducible] def y6:Ty:=Ty.st .qP
@[reducible] def y7:Ty:=Ty.sl Ty.str
@[reducible] def y8:Ty:=Ty.sl (Ty.i .i64)
@[reducible] def y9:Ty:=Ty.st .aj
@[reducible] def y10:Ty:=Ty.st .Seen
@[reducible] def y11:Ty:=Ty.st .ax
@[reducible] def y12:Ty:=Ty.st .Config
@[reducible] def y13:Ty:=Ty.st .bf
@[reducible] def y14:Ty:=Ty.sl (Ty.st .ax)
@[reducible] def y15:Ty:=Ty.st .pU
@[reducible] def y16:Ty:=Ty.st .bR
@[reducible] def y17:Ty:=Ty.st .nv
@[reducible] def y19:Ty:=Ty.sl (Ty.st .bR)
@[reducible] def y26:Ty:=Ty.sl (Ty.st .aa)
@[reducible] def t8:cI U:= .ty y8
@[reducible] def t0:cI U:= .ty y0
@[reducible] def t7:cI U:= .ty y7
@[reducible] def t4:cI U:= .ty y4
@[reducible] def t2:cI U:= .ty y2
@[reducible] def t3:cI U:= .ty y3
@[reducible] def t11:cI U:= .ty y11
@[reducible] def t9:cI U:= .ty y9
@[reducible] def t5:cI U:= .ty y5
@[reducible] def t14:cI U:= .ty y14
@[reducible] def t12:cI U:= .ty y12
@[reducible] def t15:cI U:= .ty y15
@[reducible] def t10:cI U:= .ty y10
@[reducible] def q0:mV U:= .one y0
@[reducible] def q1:mV U:= .one y1
noncomputable def kf{f:FuncId}{fn:Func}(hf:prog.funcs[f]?=some fn)(sg:List (cI U))(r:mV U)(F:du sg->Option r.den)(hs:List Nat)(n:NT U)(G:List (KS U prog))(h1:(fn.body.bind (ay prog fn.ntmps hs))=some (eX (iU prog fn.ntmps hs fn) n).erase:=by kernel_rfl)(h2:jz prog fn.results.toList=some ((jz prog fn.results.toList).getD []):=by kernel_rfl)(h3:(fn.name== "runtime.NumGoroutine")=false:=by kernel_rfl)(hok:(eX (iU prog fn.ntmps hs fn) n).cU=true:=by kernel_rfl)(hlen:Nat.ble sg.length fn.ntmps=true:=by kernel_rfl)(hF:JG K (KS.ks G) (eX (iU prog fn.ntmps hs fn) n) ((jz prog fn.results.toList).getD []) sg r=F:=by kernel_rfl):KS U prog:=⟨.fn f sg r F,Xa (K:=K) _ _ _ G ⟨fn,hs,hf,rfl,h1,h2,h3⟩ hok (QG hlen) hF⟩
noncomputable def kr{f:FuncId}{fn:Func}(hf:prog.funcs[f]?=some fn)(pos:Nat)(R:Ty)(sg:List (cI U))(r:mV U)(F:U.den R->du sg->Option (r.den×U.den R))(hs:List Nat)(n:NT U)(G:List (KS U prog))(h1:(fn.body.bind (ay prog fn.ntmps hs))=some (eX (iU prog fn.ntmps hs fn) n).erase:=by kernel_rfl)(h2:jz prog fn.results.toList=some ((jz prog fn.results.toList).getD []):=by kernel_rfl)(h3:(fn.name== "runtime.NumGoroutine")=false:=by kernel_rfl)(hok:(eX (iU prog fn.ntmps hs fn) n).cU=true:=by kernel_rfl)(hlen:Nat.ble (1+sg.length) fn.ntmps=true:=by kernel_rfl)(hF:UL K (KS.ks G) (eX (iU prog fn.ntmps hs fn) n) ((jz prog fn.results.toList).getD []) pos R sg r=F:=by kernel_rfl):KS U prog:=⟨.rc f pos R sg r F,XP (K:=K) _ _ _ G ⟨fn,hs,hf,rfl,h1,h2,h3⟩ hok (QG hlen) hF⟩
def eT0(x:aC):aC:={x with ao:=(aw x.ao)}
theorem aC.e(x:aC):eT0 x=x:=by unfold eT0;simp only[an.eta,aC.eta]
def eT1(x:ai):ai:={x with ao:=(aw x.ao)}
theorem ai.e(x:ai):eT1 x=x:=by unfold eT1;simp only[an.eta,aC.e,ai.eta]
def eT2(x:ab):ab:={x with ao:=(aw x.ao)}
theorem ab.e(x:ab):eT2 x=x:=by unfold eT2;simp only[an.eta,aC.e,ai.e,ab.eta]
def eT3(x:bS):bS:={x with aF:=(eT0 x.aF),aj:=(eT2 x.aj)}
theorem bS.e(x:bS):eT3 x=x:=by unfold eT3;simp only[an.eta,aC.e,ai.e,ab.e,bS.eta]
theorem etas:(∀x:an,an.mk x.aH x.a8 x.aM=x)/\(∀x,eT0 x=x)/\(∀x,eT1 x=x)/\(∀x,eT2 x=x)/\(∀x,eT3 x=x):=⟨an.eta,aC.e,ai.e,ab.e,bS.e⟩
attribute [simp] etas
noncomputable def KE:SA U:=eX (iU prog 10 [] f7) .e
noncomputable def wg(a0:(List Int)):Option nu:=bif dO 0 (dp ((a0.length:Nat):Int) 800) (a0.length)then some (nu.mk ((a0.take (Int.toNat (dp ((a0.length:Nat):Int) 800))).drop (Int.toNat 0)) 0)else none
noncomputable def MI:KS U prog:=⟨.nw 7 [t8] (Ty.st .Src) fun a=>wg a.1,XV (K:=K) KE 10 2 [] (fk f7 [] func7)⟩
noncomputable def tc(s:nu)(a0:Int):Option (Int×nu):=bu (fun(v1:Bool×Unit)=>bif v1.1 then some (0,s)else(idx s.L (gf .i64 (aA .i64 s.At 1) 1)).bind fun x3=>if a0=0 then none else if a0=0 then none else some ((sC .i64 (aA .i64 (sC .i64 x3 a0) a0) a0),(nu.mk s.L (aA .i64 s.At 1)))) fun j2=>bif (decide (((s.L.length:Nat):Int)<=s.At))then j2 (true,())else j2 ((decide (a0<1)),())
def Jn:=kr func31 0 (Ty.st .Src) [t0] q0 (fun s a=>tc s a.1) [] (p_ 2 1 (.j ⟨[.val 18 y1],[0,1]⟩ .e)) []
def oJ(s:nu)(a0:(List ByteArray)):Option (ByteArray×nu):=(tc s ((a0.length:Nat):Int)).bind fun p1=>(idx a0 p1.1).bind fun x2=>some (x2,p1.2)
def Fq:=kr func32 0 (Ty.st .Src) [t7] (.one y3) (fun s a=>oJ s a.1) [] .e [Jn]
def nT(s:nu):Option (ByteArray×nu):=(oJ s [(ByteArray.mk #[97]),(ByteArray.mk #[98]),(ByteArray.mk #[99]),(ByteArray.mk #[97,97])]).bind fun p1=>some (p1.1,p1.2)
def D2:=kr func10 0 (Ty.st .Src) [] (.one y3) (fun s a=>nT s) [] .e [Fq]
noncomputable def Ih(rec:(an×Unit)->Option Int)(a0:an):Option Int:=aD (fun(v1:Int×Int×Unit)=>bif (decide (v1.2.1<((a0.aM.length:Nat):Int)))then(idx a0.aM v1.2.1).bind fun x2=>(rec ((aw x2),())).bind fun r3=>some (Sum.inl ((bn v1.1 r3),(aA .i64 v1.2.1 1),()))else oR (some (aA .i64 v1.1 1))) (0,0,())
noncomputable def H8:Nat->(an×Unit)->Option Int:=im (fun rec a=>Ih rec a.1)
def Ib(a0:an):Option Int:=H8 (SizeOf.sizeOf a0+1) (a0,())
noncomputable def Kx(rec:(an×Unit)->Option Int)(a0:an):Option Int:=aD (fun(v1:Int×Int×Unit)=>bif (decide (v1.2.1<((a0.aM.length:Nat):Int)))then(idx a0.aM v1.2.1).bind fun x2=>(rec ((aw x2),())).bind fun r3=>some (Sum.inl ((aA .i64 v1.1 r3),(aA .i64 v1.2.1 1),()))else oR (some v1.1)) ((aA .i64 ((a0.a8.length:Nat):Int) ((a0.aM.length:Nat):Int)),0,())
noncomputable def Ks:Nat->(an×Unit)->Option Int:=im (fun rec a=>Kx rec a.1)
def Kt(a0:an):Option Int:=Ks (SizeOf.sizeOf a0+1) (a0,())
noncomputable def kx(a0:Int):Option Bool:=(bif (decide (0<=a0))then some (decide (a0<=1023))else some false).bind fun b1=>some b1
def ot(a0:Int)(a1:Int):Option Bool:=(kx a0).bind fun r1=>(bif r1 then some (decide (0<=a1))else some false).bind fun b2=>(bif b2 then some (decide (a1<10))else some false).bind fun b3=>(bif b3 then if a1<0 then none else some (decide ((EA .i64 (vd .i64 a0 a1) 1)=1))else some false).bind fun b4=>some b4
def Nu(a0:(List Int)):Option (Int×Int×Unit):=aD (fun(v1:Int×Int×Unit)=>bif (decide (v1.2.1<((a0.length:Nat):Int)))then(idx a0 v1.2.1).bind fun x2=>(bif (decide (x2<0))then some true else some (decide (10<=x2))).bind fun b3=>bif b3 then oR (some (0,5,()))else(ot v1.1 x2).bind fun r4=>bif r4 then oR (some (0,6,()))else if x2<0 then none else some (Sum.inl ((n5 .i64 v1.1 (c7 .i64 1 x2)),(aA .i64 v1.2.1 1),()))else oR (some (v1.1,0,()))) (0,0,())
def Ig(rec:(an×Unit)->Option Int)(a0:an):Option Int:=(bif (decide (a0.aH<1))then some true else some (decide ((aA .i64 ((a0.a8.length:Nat):Int) ((a0.aM.length:Nat):Int))<a0.aH))).bind fun b1=>bif b1 then some 4 else aD (fun(v2:Int×Unit)=>bif (decide (v2.1<((a0.a8.length:Nat):Int)))then(idx a0.a8 v2.1).bind fun x3=>(bif (decide (x3<0))then some true else some (decide (10<=x3))).bind fun b4=>bif b4 then oR (some 5)else some (Sum.inl ((aA .i64 v2.1 1),()))else oR ((Nu a0.a8).bind fun r5=>bif (!decide (r5.2.1=0))then some r5.2.1 else aD (fun(v6:Int×Unit)=>bif (decide (v6.1<((a0.aM.length:Nat):Int)))then(idx a0.aM v6.1).bind fun x7=>(rec ((aw x7),())).bind fun r8=>bif (!decide (r8=0))then oR (some r8)else some (Sum.inl ((aA .i64 v6.1 1),()))else oR (some 0)) (0,()))) (0,())
noncomputable def H7:Nat->(an×Unit)->Option Int:=im (fun rec a=>Ig rec a.1)
def H9(a0:an):Option Int:=H7 (SizeOf.sizeOf a0+1) (a0,())
def Ia(a0:an):Option Int:=(Ib (aw a0)).bind fun r1=>(bif (decide (4<r1))then some true else(Kt (aw a0)).bind fun r2=>some (decide (200<r2))).bind fun b3=>bif b3 then some 3 else(H9 (aw a0)).bind fun r4=>some r4
def Ic(a0:Int):Option (List Int):=aD (fun(v1:Int×(List Int)×Unit)=>bif (decide (v1.1<10))then bu (fun(v2:(List Int)×Unit)=>some (Sum.inl ((aA .i64 v1.1 1),v2.1,()))) fun j3=>(ot a0 v1.1).bind fun r4=>bif r4 then bif bL 8 (v1.2.1.length+List.length [v1.1])then j3 ((v1.2.1++[v1.1]),())else none else j3 (v1.2.1,())else oR (some v1.2.1)) (0,([]:List Int),())
noncomputable def rK(a0:aZ):Option Int:=aD (fun(v1:Int×Int×Unit)=>bif (decide (v1.2.1<((a0.bH.length:Nat):Int)))then bu (fun(v2:Int×Unit)=>some (Sum.inl (v2.1,(aA .i64 v1.2.1 1),()))) fun j3=>(idx a0.bH v1.2.1).bind fun x4=>(bif (decide (v1.2.1<10))then some x4.dt else some false).bind fun b5=>bif b5 then if v1.2.1<0 then none else j3 ((n5 .i64 v1.1 (c7 .i64 1 v1.2.1)),())else j3 (v1.1,())else oR (some v1.1)) (0,0,())
def Dd(rec:(an×Int×Unit)->Option Bool)(a0:an)(a1:Int):Option Bool:=(kx a1).bind fun r1=>bif (!r1)then some false else aD (fun(v2:Int×Int×Unit)=>bif (decide (v2.2.1<((a0.a8.length:Nat):Int)))then bu (fun(v3:Int×Unit)=>some (Sum.inl (v3.1,(aA .i64 v2.2.1 1),()))) fun j4=>(idx a0.a8 v2.2.1).bind fun x5=>(ot a1 x5).bind fun r6=>bif r6 then j4 ((aA .i64 v2.1 1),())else j4 (v2.1,())else oR (aD (fun(v7:Int×Int×Unit)=>bif (decide (v7.2.1<((a0.aM.length:Nat):Int)))then bu (fun(v8:Int×Unit)=>some (Sum.inl (v8.1,(aA .i64 v7.2.1 1),()))) fun j9=>(idx a0.aM v7.2.1).bind fun x10=>(rec ((aw x10),a1,())).bind fun r11=>bif r11 then j9 ((aA .i64 v7.1 1),())else j9 (v7.1,())else oR (some (decide (a0.aH<=v7.1)))) (v2.1,0,()))) (0,0,())
noncomputable def Da:Nat->(an×Int×Unit)->Option Bool:=im (fun rec a=>Dd rec a.1 a.2.1)
def vF(a0:an)(a1:Int):Option Bool:=Da (SizeOf.sizeOf a0+SizeOf.sizeOf a1+1) (a0,a1,())
def G3(a0:aZ)(a1:Int)(a2:Int):Option Bool:=(kx a2).bind fun r1=>(bif (!r1)then some true else(rK a0).bind fun r2=>(ot r2 a1).bind fun r3=>some (!r3)).bind fun b4=>bif b4 then some false else(idx a0.bH a1).bind fun x5=>if a1<0 then none else(vF (aw x5.ao) (n5 .i64 (gf .i64 1023 a2) (c7 .i64 1 a1))).bind fun r6=>some (!r6)
def AW(a0:aZ)(a1:Int):Option (List Int):=(kx a1).bind fun r1=>bif (!r1)then some ([]:List Int)else(rK a0).bind fun r2=>aD (fun(v3:Int×Bool×(List Int)×Unit)=>bif v3.2.1 then(Ic v3.1).bind fun r4=>aD (fun(v5:Int×Bool×Int×(List Int)×Unit)=>bif (decide (v5.2.2.1<((r4.length:Nat):Int)))then(idx r4 v5.2.2.1).bind fun x6=>(idx a0.bH x6).bind fun x7=>(vF (aw x7.ao) v5.1).bind fun r8=>bif (!r8)then if x6<0 then none else bif bL 8 (v5.2.2.2.1.length+List.length [x6])then oR (some (Sum.inl ((gf .i64 v5.1 (c7 .i64 1 x6)),true,(v5.2.2.2.1++[x6]),())))else none else some (Sum.inl (v5.1,v5.2.1,(aA .i64 v5.2.2.1 1),v5.2.2.2.1,()))else oR (some (Sum.inl (v5.1,v5.2.1,v5.2.2.2.1,())))) (v3.1,false,0,v3.2.2.1,())else oR (some v3.2.2.1)) ((EA .i64 a1 r2),true,([]:List Int),())
def xm(a0:aZ)(a1:Int):Option Int:=(kx a1).bind fun r1=>bif (!r1)then some 0 else(rK a0).bind fun r2=>(AW a0 a1).bind fun r3=>aD (fun(v4:Int×Int×Unit)=>bif (decide (v4.2.1<((r3.length:Nat):Int)))then(idx r3 v4.2.1).bind fun x5=>if x5<0 then none else some (Sum.inl ((gf .i64 v4.1 (c7 .i64 1 x5)),(aA .i64 v4.2.1 1),()))else oR (some v4.1)) ((EA .i64 a1 r2),0,())
def Gd(a0:aZ)(a1:Int)(a2:Int)(a3:Int):Option Bool:=(kx a2).bind fun r1=>(bif (!r1)then some true else(kx a3).bind fun r2=>some (!r2)).bind fun b3=>bif b3 then some false else(G3 a0 a1 a3).bind fun r4=>(bif r4 then some true else(xm a0 (n5 .i64 a2 a3)).bind fun r5=>(ot r5 a1).bind fun r6=>some r6).bind fun b7=>some b7
def EE(a0:aZ)(a1:Int)(a2:Int):Option Bool:=(xm a0 a2).bind fun r1=>(ot r1 a1).bind fun r2=>some r2
noncomputable def nC(a0:Int):Option Int:=bif (decide (12<=a0))then some 12 else some (bn (aA .i64 a0 1) 1)
def Jm:=kf func26 [t0] q0 (u1 nC) [] .e []
noncomputable def lD(a0:af):Option Bool:=some (lN false a0.ae 0 a0.Value (ByteArray.mk #[]))
noncomputable def qY(a0:af):Option Bool:=(bif (decide (1<=a0.ae))then some (decide (a0.ae<=1000))else some false).bind fun b1=>(bif b1 then some true else some (decide (a0.ae=1000000))).bind fun b2=>(bif b2 then some (decide (1<=((ByteArray.size a0.Value:Nat):Int)))else some false).bind fun b3=>(bif b3 then some (decide (((ByteArray.size a0.Value:Nat):Int)<=200))else some false).bind fun b4=>some b4
noncomputable def Db(a0:ByteArray)(a1:ByteArray):Option Bool:=bif (!decide (((ByteArray.size a0:Nat):Int)=((ByteArray.size a1:Nat):Int)))then some (decide (((ByteArray.size a0:Nat):Int)<((ByteArray.size a1:Nat):Int)))else some (jn a0 a1)
def xl(a0:af)(a1:af):Option Bool:=bif (!decide (a0.ae=a1.ae))then some (decide (a0.ae<a1.ae))else(Db a0.Value a1.Value).bind fun r1=>some r1
noncomputable def mz(a0:af)(a1:af):Option Bool:=some (decide (a0.Value=a1.Value))
def zj(a0:af)(a1:af):Option Bool:=(lD a0).bind fun r1=>(bif (!r1)then(mz a0 a1).bind fun r2=>some r2 else some false).bind fun b3=>(bif b3 then some (decide (a1.ae<=a0.ae))else some false).bind fun b4=>some b4
def ED(a0:af)(a1:af)(a2:af):Option Bool:=(zj a0 a2).bind fun r1=>(bif r1 then some true else(zj a1 a2).bind fun r2=>some r2).bind fun b3=>(bif b3 then some true else(lD a1).bind fun r4=>(bif (!r4)then(xl a2 a1).bind fun r5=>some r5 else some false).bind fun b6=>some b6).bind fun b7=>some b7
def zk(a0:af)(a1:af):Option Bool:=(lD a0).bind fun r1=>(bif (!r1)then(mz a0 a1).bind fun r2=>some (!r2)else some false).bind fun b3=>(bif b3 then(xl a1 a0).bind fun r4=>some r4 else some false).bind fun b5=>some b5
def vn(a0:ai):Option Bool:=(bif (decide (a0.aq<0))then some true else some (decide (9<a0.aq))).bind fun b1=>(bif b1 then some true else some (decide (a0.bf<1))).bind fun b2=>(bif b2 then some true else some (decide (1000000<a0.bf))).bind fun b3=>(bif b3 then some true else some (decide (a0.aN<1))).bind fun b4=>(bif b4 then some true else some (decide (1000000<a0.aN))).bind fun b5=>(bif b5 then some true else(Ia (aw a0.ao)).bind fun r6=>some (!decide (r6=0))).bind fun b7=>(bif b7 then some true else(qY a0.aa).bind fun r8=>some (!r8)).bind fun b9=>bif b9 then some false else(lD a0.ak).bind fun r10=>bif (decide (a0.bW=1))then(bif (decide (1000<a0.aa.ae))then some true else(bif (!r10)then(qY a0.ak).bind fun r11=>some (!r11)else some false).bind fun b12=>some b12).bind fun b13=>bif b13 then some false else(lD a0.au).bind fun r14=>(bif (!r14)then(bif r10 then some true else(qY a0.au).bind fun r15=>some (!r15)).bind fun b16=>(bif b16 then some true else(xl a0.au a0.ak).bind fun r17=>some (!r17)).bind fun b18=>(bif b18 then some true else(mz a0.au a0.ak).bind fun r19=>some r19).bind fun b20=>some b20 else some false).bind fun b21=>bif b21 then some false else(bif (decide (a0.aQ<0))then some true else some (decide (a0.bg<a0.aQ))).bind fun b22=>(bif b22 then some true else some (decide (a0.aa.ae<a0.bg))).bind fun b23=>bif b23 then some false else(bif (decide (0<a0.bg))then(ED a0.ak a0.au (af.mk a0.bg a0.aa.Value)).bind fun r24=>some (!r24)else some false).bind fun b25=>bif b25 then some false else(bif (decide (a0.aQ=0))then some true else(zk a0.ak (af.mk a0.aQ a0.aa.Value)).bind fun r26=>(bif (!r26)then(zk a0.au (af.mk a0.aQ a0.aa.Value)).bind fun r27=>some (!r27)else some false).bind fun b28=>some b28).bind fun b29=>some b29 else bif (decide (a0.bW=2))then(bif (decide (a0.aa.ae<=1000))then(qY a0.ak).bind fun r30=>some r30 else some false).bind fun b31=>(bif b31 then(mz a0.ak a0.aa).bind fun r32=>some r32 else some false).bind fun b33=>(bif b33 then(lD a0.au).bind fun r34=>some r34 else some false).bind fun b35=>(bif b35 then some (decide (1<=a0.aQ))else some false).bind fun b36=>(bif b36 then some (decide (a0.aQ<=a0.bg))else some false).bind fun b37=>(bif b37 then some (decide (a0.bg<=a0.ak.ae))else some false).bind fun b38=>(bif b38 then some (decide (a0.bg<=1000))else some false).bind fun b39=>some b39 else bif (decide (a0.bW=3))then(bif r10 then(lD a0.au).bind fun r40=>some r40 else some false).bind fun b41=>(bif b41 then some (decide (1<=a0.aQ))else some false).bind fun b42=>(bif b42 then some (decide (a0.aQ<=a0.bg))else some false).bind fun b43=>(bif b43 then some (decide (a0.bg<=1000))else some false).bind fun b44=>some b44 else some false
noncomputable def DG(a0:(List ai))(a1:(List Bool)):Option Int:=aD (fun(v1:Int×Int×Unit)=>bif (decide (v1.2.1<((a0.length:Nat):Int)))then bu (fun(v2:Int×Unit)=>some (Sum.inl (v2.1,(aA .i64 v1.2.1 1),()))) fun j3=>(idx a0 v1.2.1).bind fun x4=>(bif (decide (v1.2.1<((a1.length:Nat):Int)))then(idx a1 v1.2.1).bind fun x5=>some x5 else some false).bind fun b6=>(bif b6 then some (decide (0<=x4.aq))else some false).bind fun b7=>(bif b7 then some (decide (x4.aq<=9))else some false).bind fun b8=>bif b8 then if(cj .u64 x4.aq)<0 then none else j3 ((n5 .i64 v1.1 (c7 .i64 1 (cj .u64 x4.aq))),())else j3 (v1.1,())else oR (some v1.1)) (0,0,())
def Cc(a0:Int)(a1:an)(a2:(List ai)):Option aZ:=bif decide ((10:Int)=10)&&decide ((0:Int)<=10)&&bL 64 (Int.toNat 10)then(bif (decide (a0<0))then some true else some (decide (9<a0))).bind fun b1=>bif b1 then some (aZ.mk (List.replicate (Int.toNat 10) (aO.mk false (an.mk 0 ([]:List Int) ([]:List an)))))else(idx (List.replicate (Int.toNat 10) (aO.mk false (an.mk 0 ([]:List Int) ([]:List an)))) a0).bind fun x2=>((List.replicate (Int.toNat 10) (aO.mk false (an.mk 0 ([]:List Int) ([]:List an))))[(Int.toNat a0)]?).bind fun x3=>aD (fun(v4:Int×aZ×(List aO)×Unit)=>bif (decide (v4.1<((a2.length:Nat):Int)))then bu (fun(v5:aZ×(List aO)×Unit)=>some (Sum.inl ((aA .i64 v4.1 1),(aZ.mk ([]:List aO)),v5.2.1,()))) fun j6=>(idx a2 v4.1).bind fun x7=>(vn (eT1 x7)).bind fun r8=>(bif r8 then(idx v4.2.2.1 x7.aq).bind fun x9=>(v4.2.2.1[(Int.toNat x7.aq)]?).bind fun x10=>(v4.2.2.1[(Int.toNat x7.aq)]?).bind fun x11=>some (!x11.dt)else some false).bind fun b12=>bif b12 then(idx v4.2.2.1 x7.aq).bind fun x13=>(v4.2.2.1[(Int.toNat x7.aq)]?).bind fun x14=>j6 ((aZ.mk ([]:List aO)),(v4.2.2.1.set (Int.toNat x7.aq) (aO.mk true (aw x7.ao))),())else j6 ((aZ.mk ([]:List aO)),v4.2.2.1,())else oR (some (aZ.mk v4.2.2.1))) (0,(aZ.mk ([]:List aO)),((List.replicate (Int.toNat 10) (aO.mk false (an.mk 0 ([]:List Int) ([]:List an)))).set (Int.toNat a0) (aO.mk true (aw a1))),())else none
def zi(a0:ai)(a1:ByteArray)(a2:Int)(a3:Int):Option Bool:=(vn (eT1 a0)).bind fun r1=>(bif (!r1)then some true else some (decide (a2<1))).bind fun b2=>(bif b2 then some true else some (decide (a3<a2))).bind fun b3=>(bif b3 then some true else some (decide (a0.bW=1))).bind fun b4=>(bif b4 then some true else some (!decide (a0.aa.Value=a1))).bind fun b5=>(bif b5 then some true else some (decide (a2<a0.aQ))).bind fun b6=>bif b6 then some false else(bif (decide (a0.bW=3))then some true else some (decide (a3<=a0.bg))).bind fun b7=>some b7
def AV(a0:ai)(a1:ByteArray)(a2:Int)(a3:Int):Option Bool:=(vn (eT1 a0)).bind fun r1=>(bif (!r1)then some true else some (decide (a2<1))).bind fun b2=>(bif b2 then some true else some (decide (a3<a2))).bind fun b3=>(bif b3 then some true else some (!decide (a0.aa.Value=a1))).bind fun b4=>(bif b4 then some true else some (decide (a0.aQ=0))).bind fun b5=>(bif b5 then some true else some (decide (a2<a0.aQ))).bind fun b6=>bif b6 then some false else(bif (!decide (a0.bW=1))then some true else some (decide (a3<=a0.bg))).bind fun b7=>some b7
def Cb(a0:(List ai))(a1:ByteArray)(a2:Int)(a3:Int):Option (Int×Int×Unit):=aD (fun(v1:Int×(List Bool)×(List Bool)×Unit)=>bif (decide (v1.1<((a0.length:Nat):Int)))then(idx a0 v1.1).bind fun x2=>(zi (eT1 x2) a1 a2 a3).bind fun r3=>(bif r3 then some true else(AV (eT1 x2) a1 a2 a3).bind fun r4=>some r4).bind fun b5=>bif bL 1 (v1.2.1.length+List.length [b5])then bif bL 1 (v1.2.2.1.length+List.length [r3])then some (Sum.inl ((aA .i64 v1.1 1),(v1.2.1++[b5]),(v1.2.2.1++[r3]),()))else none else none else oR ((DG a0 v1.2.1).bind fun r6=>(DG a0 v1.2.2.1).bind fun r7=>some (r6,r7,()))) (0,([]:List Bool),([]:List Bool),())
def Gc(a0:Int)(a1:an)(a2:(List ai))(a3:ByteArray)(a4:Int)(a5:Int):Option Bool:=(Cb a2 a3 a4 a5).bind fun r1=>(Cc a0 (aw a1) a2).bind fun r2=>(Gd r2 a0 r1.1 r1.2.1).bind fun r3=>some r3
def EC(a0:Int)(a1:an)(a2:(List ai))(a3:ByteArray)(a4:Int)(a5:Int):Option Bool:=(Cb a2 a3 a4 a5).bind fun r1=>(Cc a0 (aw a1) a2).bind fun r2=>(EE r2 a0 r1.2.1).bind fun r3=>some r3
noncomputable def Bf:SA U:=eX (iU prog 20 [] f147) (.r (.r (.l (.r (.l (.j ⟨[.val 3 y0,.val 9 y0],[7,8]⟩ .e))))))
noncomputable def gP(rec:(an×Unit)->Option Int)(a0:an):Option Int:=aD (fun(v1:Int×Int×Unit)=>bif (decide (v1.2.1<((a0.aM.length:Nat):Int)))then(idx a0.aM v1.2.1).bind fun x2=>(rec ((aw x2),())).bind fun r3=>some (Sum.inl ((bn v1.1 r3),(aA .i64 v1.2.1 1),()))else oR (some (aA .i64 v1.1 1))) (0,0,())
noncomputable def kG:Nat->(an×Unit)->Option Int:=im (fun rec a=>gP rec a.1)
def kI(a0:an):Option Int:=kG (SizeOf.sizeOf a0+1) (a0,())
noncomputable def CU:KS U prog:=⟨.fn 147 [t4] q0 fun a=>kI a.1,BM (K:=K) (A_s:=[t4]) (r:= .one y0) (B:=fun rec a=>gP rec a.1) Bf 20 [.tmp 2] [] (fk f147 [] func147) (hF:=fun a=>⟨_,rfl⟩)⟩
noncomputable def CO:SA U:=eX (iU prog 26 [] f148) (.r (.r (.l (.r (.l (.j ⟨[.val 3 y0,.val 16 y0],[14,15]⟩ .e))))))
noncomputable def iE(rec:(an×Unit)->Option Int)(a0:an):Option Int:=aD (fun(v1:Int×Int×Unit)=>bif (decide (v1.2.1<((a0.aM.length:Nat):Int)))then(idx a0.aM v1.2.1).bind fun x2=>(rec ((aw x2),())).bind fun r3=>some (Sum.inl ((aA .i64 v1.1 r3),(aA .i64 v1.2.1 1),()))else oR (some v1.1)) ((aA .i64 ((a0.a8.length:Nat):Int) ((a0.aM.length:Nat):Int)),0,())
noncomputable def lz:Nat->(an×Unit)->Option Int:=im (fun rec a=>iE rec a.1)
def lA(a0:an):Option Int:=lz (SizeOf.sizeOf a0+1) (a0,())
noncomputable def D1:KS U prog:=⟨.fn 148 [t4] q0 fun a=>lA a.1,BM (K:=K) (A_s:=[t4]) (r:= .one y0) (B:=fun rec a=>iE rec a.1) CO 26 [.tmp 2] [] (fk f148 [] func148) (hF:=fun a=>⟨_,rfl⟩)⟩
noncomputable def rJ(a0:Int):Option Bool:=(bif (decide (0<=a0))then some (decide (a0<10))else some false).bind fun b1=>some b1
def D0:=kf func207 [t0] q1 (u1 rJ) [] .e []
def jt(a0:Int):Option Bool:=(rJ a0).bind fun r1=>some (!r1)
def AO:=kf func206 [t0] q1 (u1 jt) [] .e [D0]
def iR(a0:(List Int)):Option Int:=aD (fun(v1:Int×Unit)=>bif (decide (v1.1<((a0.length:Nat):Int)))then(idx a0 v1.1).bind fun x2=>(jt x2).bind fun r3=>bif r3 then oR (some v1.1)else some (Sum.inl ((aA .i64 v1.1 1),()))else oR (some (-1:Int))) (0,())
def su:=kf func245 [t8,.bj 206 []] q0 (fun a=>iR a.1) [] (p_ 4 5 (.j ⟨[.val 8 y0],[0,1,7]⟩ .e)) [AO]
def eO(a0:(List Int)):Option Bool:=(iR a0).bind fun r1=>some (decide (0<=r1))
def qo:=kf func205 [t8,.bj 206 []] q1 (fun a=>eO a.1) [] .e [su]
noncomputable def td(a0:Int)(a1:Int):Option Bool:=(bif (decide (0<=a0))then if a1<0 then none else some (decide (a0<(c7 .i64 1 a1)))else some false).bind fun b1=>some b1
def Fs:=kf func266 [t0,t0] q1 (u2 td) [] .e []
def ep(a0:Int):Option Bool:=(td a0 10).bind fun r1=>some r1
def mh:=kf func231 [t0] q1 (u1 ep) [] .e [Fs]
def gw(a0:Int)(a1:Int):Option Bool:=(ep a0).bind fun r1=>(bif r1 then some (decide (0<=a1))else some false).bind fun b2=>(bif b2 then some (decide (a1<10))else some false).bind fun b3=>(bif b3 then if a1<0 then none else some (!decide ((EA .i64 a0 (c7 .i64 1 a1))=0))else some false).bind fun b4=>some b4
def kp:=kf func183 [t0,t0] q1 (u2 gw) [] .e [mh]
def te(a0:(List Int)):Option (Int×Int×Unit):=aD (fun(v1:Int×Int×Unit)=>bif (decide (v1.2.1<((a0.length:Nat):Int)))then(idx a0 v1.2.1).bind fun x2=>(bif (decide (x2<0))then some true else some (decide (10<=x2))).bind fun b3=>bif b3 then oR (some (0,5,()))else(gw v1.1 x2).bind fun r4=>bif r4 then oR (some (0,6,()))else if x2<0 then none else some (Sum.inl ((n5 .i64 v1.1 (c7 .i64 1 x2)),(aA .i64 v1.2.1 1),()))else oR (some (v1.1,0,()))) (0,0,())
def Jo:=kf func208 [t8] (.many [y0,y0]) (u1 te) [] (p_ 5 11 (.j ⟨[.val 4 y0,.val 9 y0],[7,8]⟩ .e)) [kp]
noncomputable def Be:SA U:=eX (iU prog 48 [] f149) (.r (.r (.r (.r (.l (.r (.l (.j ⟨[.val 38 y0],[36,37]⟩ .e))))))))
def gO(rec:(an×Unit)->Option Int)(a0:an):Option Int:=(bif (decide (a0.aH<1))then some true else some (decide ((aA .i64 ((a0.a8.length:Nat):Int) ((a0.aM.length:Nat):Int))<a0.aH))).bind fun b1=>bif b1 then some 4 else(eO a0.a8).bind fun r2=>bif r2 then some 5 else(te a0.a8).bind fun r3=>bif (!decide (r3.2.1=0))then some r3.2.1 else aD (fun(v4:Int×Unit)=>bif (decide (v4.1<((a0.aM.length:Nat):Int)))then(idx a0.aM v4.1).bind fun x5=>(rec ((aw x5),())).bind fun r6=>bif (!decide (r6=0))then oR (some r6)else some (Sum.inl ((aA .i64 v4.1 1),()))else oR (some 0)) (0,())
noncomputable def ji:Nat->(an×Unit)->Option Int:=im (fun rec a=>gO rec a.1)
def kH(a0:an):Option Int:=ji (SizeOf.sizeOf a0+1) (a0,())
noncomputable def CT:KS U prog:=⟨.fn 149 [t4] q0 fun a=>kH a.1,BM (K:=K) (A_s:=[t4]) (r:= .one y0) (B:=fun rec a=>gO rec a.1) Be 48 [.tmp 2] [qo,Jo] (fk f149 [] func149) (hF:=fun a=>⟨_,rfl⟩)⟩
def bP(a0:an):Option Int:=(kI (aw a0)).bind fun r1=>(bif (decide (4<r1))then some true else(lA (aw a0)).bind fun r2=>some (decide (200<r2))).bind fun b3=>bif b3 then some 3 else(kH (aw a0)).bind fun r4=>some r4
def eM:=kf func84 [t4] q0 (u1 bP) [] .e [CU,D1,CT]
noncomputable def aW(a0:af):Option Bool:=some (lN false a0.ae 0 a0.Value (ByteArray.mk #[]))
def bx:=kf func86 [t2] q1 (u1 aW) [] .e []
noncomputable def oL(a0:Int):Option Bool:=some (!decide (a0=a0))
def Fy:=kf func161 [t0] q1 (u1 oL) [] .e []
def dW(a0:Int)(a1:Int):Option Int:=(oL a0).bind fun r1=>(oL a1).bind fun r2=>bif r1 then bif r2 then some 0 else some (-1:Int)else bif r2 then some 1 else bif (decide (a0<a1))then some (-1:Int)else bif (decide (a1<a0))then some 1 else some 0
def kF:=kf func106 [t0,t0] q0 (u2 dW) [] .e [Fy]
noncomputable def mJ(a0:ByteArray):Option Bool:=some (!decide (a0=a0))
def BI:=kf func247 [t3] q1 (u1 mJ) [] .e []
def jg(a0:ByteArray)(a1:ByteArray):Option Int:=(mJ a0).bind fun r1=>(mJ a1).bind fun r2=>bif r1 then bif r2 then some 0 else some (-1:Int)else bif r2 then some 1 else bif (jn a0 a1)then some (-1:Int)else bif (!(jn a0 a1||decide (a0=a1)))then some 1 else some 0
def sV:=kf func215 [t3,t3] q0 (u2 jg) [] .e [BI]
noncomputable def jX(a0:(List Int)):Option Int:=aD (fun(v1:Int×Unit)=>bif (decide (v1.1<((a0.length:Nat):Int)))then(idx a0 v1.1).bind fun x2=>bif (!decide (x2=0))then oR (some x2)else some (Sum.inl ((aA .i64 v1.1 1),()))else oR (some 0)) (0,())
def sU:=kf func214 [t8] q0 (u1 jX) [] (p_ 5 11 (.j ⟨[.val 8 y0],[3,6,7]⟩ .e)) []
def ft(a0:ByteArray)(a1:ByteArray):Option Int:=(dW ((ByteArray.size a0:Nat):Int) ((ByteArray.size a1:Nat):Int)).bind fun r1=>(jg a0 a1).bind fun r2=>(jX [r1,r2]).bind fun r3=>some r3
def qi:=kf func284 [t3,t3] q0 (u2 ft) [] .e [kF,sV,sU]
def kR(a0:af)(a1:af):Option Int:=(dW a0.ae a1.ae).bind fun r1=>(ft a0.Value a1.Value).bind fun r2=>(jX [r1,r2]).bind fun r3=>some r3
def vz:=kf func246 [t2,t2] q0 (u2 kR) [] .e [kF,qi,sU]
def dj(a0:af)(a1:af):Option Bool:=(kR a0 a1).bind fun r1=>some (decide (r1<0))
def gB:=kf func209 [t2,t2] q1 (u2 dj) [] .e [vz]
noncomputable def bz(a0:af)(a1:af):Option Bool:=some (decide (a0.Value=a1.Value))
def cr:=kf func153 [t2,t2] q1 (u2 bz) [] .e []
noncomputable def fg(a0:af):Option Bool:=(bif (decide (1<=a0.ae))then some (decide (a0.ae<=1000))else some false).bind fun b1=>(bif b1 then some true else some (decide (a0.ae=1000000))).bind fun b2=>(bif b2 then some (decide (1<=((ByteArray.size a0.Value:Nat):Int)))else some false).bind fun b3=>(bif b3 then some (decide (((ByteArray.size a0.Value:Nat):Int)<=200))else some false).bind fun b4=>some b4
def ml:=kf func152 [t2] q1 (u1 fg) [] .e []
def jV(a0:af):Option Bool:=(fg a0).bind fun r1=>(bif r1 then some (decide (a0.ae<=1000))else some false).bind fun b2=>some b2
def uO:=kf func151 [t2] q1 (u1 jV) [] .e [ml]
def jf(a0:af):Option Bool:=(aW a0).bind fun r1=>(bif r1 then some true else(fg a0).bind fun r2=>some r2).bind fun b3=>some b3
def z8:=kf func210 [t2] q1 (u1 jf) [] .e [bx,ml]
noncomputable def lp(a0:ai)(a1:Int):Option af:=some (af.mk a1 a0.aa.Value)
def yR:=kf func211 [t11,t0] (.one y2) (u2 lp) [] .e []
def dm(a0:af)(a1:af):Option Bool:=(aW a0).bind fun r1=>(bif (!r1)then(bz a0 a1).bind fun r2=>some (!r2)else some false).bind fun b3=>(bif b3 then(dj a1 a0).bind fun r4=>some r4 else some false).bind fun b5=>some b5
def rB:=kf func212 [t2,t2] q1 (u2 dm) [] .e [bx,cr,gB]
def iD(a0:af)(a1:af):Option Bool:=(aW a0).bind fun r1=>(bif (!r1)then(bz a0 a1).bind fun r2=>some r2 else some false).bind fun b3=>(bif b3 then some (decide (a1.ae<=a0.ae))else some false).bind fun b4=>some b4
def rA:=kf func213 [t2,t2] q1 (u2 iD) [] .e [bx,cr]
def fq(a0:af)(a1:af)(a2:af):Option Bool:=(iD a0 a2).bind fun r1=>(bif r1 then some true else(iD a1 a2).bind fun r2=>some r2).bind fun b3=>(bif b3 then some true else(aW a1).bind fun r4=>(bif (!r4)then(dj a2 a1).bind fun r5=>some r5 else some false).bind fun b6=>some b6).bind fun b7=>some b7
def mm:=kf func154 [t2,t2,t2] q1 (u3 fq) [] .e [rA,bx,gB]
def k7(a0:ai):Option Bool:=(aW a0.au).bind fun r1=>(bif r1 then some true else(aW a0.ak).bind fun r2=>(bif (!r2)then(dj a0.au a0.ak).bind fun r3=>some r3 else some false).bind fun b4=>(bif b4 then(bz a0.au a0.ak).bind fun r5=>some (!r5)else some false).bind fun b6=>some b6).bind fun b7=>(jV a0.aa).bind fun r8=>(bif (!r8)then some true else(jf a0.ak).bind fun r9=>some (!r9)).bind fun b10=>(bif b10 then some true else(jf a0.au).bind fun r11=>some (!r11)).bind fun b12=>(bif b12 then some true else some (!b7)).bind fun b13=>(bif b13 then some true else some (decide (a0.aQ<0))).bind fun b14=>(bif b14 then some true else some (decide (a0.bg<a0.aQ))).bind fun b15=>(bif b15 then some true else some (decide (a0.aa.ae<a0.bg))).bind fun b16=>bif b16 then some false else(lp (eT1 a0) a0.aQ).bind fun r17=>bu (fun(v18:Bool×Unit)=>some v18.1) fun j19=>bif (decide (a0.bg=0))then bif (decide (a0.aQ=0))then j19 (true,())else(dm a0.ak r17).bind fun r20=>bif (!r20)then(dm a0.au r17).bind fun r21=>j19 ((!r21),())else j19 (false,())else(lp (eT1 a0) a0.bg).bind fun r22=>(fq a0.ak a0.au r22).bind fun r23=>bif r23 then bif (decide (a0.aQ=0))then j19 (true,())else(dm a0.ak r17).bind fun r24=>bif (!r24)then(dm a0.au r17).bind fun r25=>j19 ((!r25),())else j19 (false,())else j19 (false,())
def z7:=kf func150 [t11] q1 (u1 k7) [] (p_ 4 15 (.j ⟨[.val 2 y1],[]⟩ .e)) [bx,gB,cr,uO,z8,yR,rB,mm]
def dn(a0:ai):Option Bool:=(bif (decide (a0.aq<0))then some true else some (decide (10<=a0.aq))).bind fun b1=>(bif b1 then some true else some (decide (a0.bf<1))).bind fun b2=>(bif b2 then some true else some (decide (1000000<a0.bf))).bind fun b3=>(bif b3 then some true else some (decide (a0.aN<1))).bind fun b4=>(bif b4 then some true else some (decide (1000000<a0.aN))).bind fun b5=>(bif b5 then some true else(bP (aw a0.ao)).bind fun r6=>some (!decide (r6=0))).bind fun b7=>bif b7 then some false else(bif (decide (1<=a0.aQ))then some (decide (a0.aQ<=a0.bg))else some false).bind fun b8=>(bif b8 then some (decide (a0.bg<=1000))else some false).bind fun b9=>bif (decide (a0.bW=1))then(k7 (eT1 a0)).bind fun r10=>some r10 else bif (decide (a0.bW=2))then(jV a0.aa).bind fun r11=>(bif r11 then(fg a0.ak).bind fun r12=>some r12 else some false).bind fun b13=>(bif b13 then(bz a0.ak a0.aa).bind fun r14=>some r14 else some false).bind fun b15=>(bif b15 then(aW a0.au).bind fun r16=>some r16 else some false).bind fun b17=>(bif b17 then some b9 else some false).bind fun b18=>(bif b18 then some (decide (a0.bg<=a0.ak.ae))else some false).bind fun b19=>some b19 else bif (decide (a0.bW=3))then(fg a0.aa).bind fun r20=>(bif r20 then(aW a0.ak).bind fun r21=>some r21 else some false).bind fun b22=>(bif b22 then(aW a0.au).bind fun r23=>some r23 else some false).bind fun b24=>(bif b24 then some b9 else some false).bind fun b25=>some b25 else some false
def fL:=kf func88 [t11] q1 (u1 dn) [] .e [eM,z7,uO,ml,cr,bx]
def oK(a0:ab):Option Bool:=aD (fun(v1:Int×Unit)=>bif (decide (v1.1<((a0.aB.length:Nat):Int)))then(idx a0.aB v1.1).bind fun x2=>bu (fun(v3:Bool×Unit)=>bif v3.1 then oR (some false)else some (Sum.inl ((aA .i64 v1.1 1),()))) fun j4=>(dn (eT1 x2)).bind fun r5=>bif (!r5)then j4 (true,())else bif (!decide (x2.bf=a0.bf))then j4 (true,())else bif (decide (x2.aq=a0.aq))then j4 (true,())else bif (decide (0<v1.1))then(idx a0.aB (gf .i64 v1.1 1)).bind fun x6=>j4 ((decide (x2.aq<=x6.aq)),())else j4 (false,())else oR (some true)) (0,())
def Ft:=kf func85 [t9] q1 (u1 oK) [] (p_ 4 5 (.j ⟨[.val 8 y0],[1,6,7]⟩ (p_ 6 38 (.j ⟨[.val 45 y1],[1,6,7,8]⟩ .e)))) [fL]
noncomputable def tf(a0:ab):Option Bool:=(bif (decide (a0.aJ=1))then some (decide (a0.aN=0))else some false).bind fun b1=>(bif b1 then some (lN false a0.ak.ae 0 a0.ak.Value (ByteArray.mk #[]))else some false).bind fun b2=>(bif b2 then some (lN false a0.au.ae 0 a0.au.Value (ByteArray.mk #[]))else some false).bind fun b3=>(bif b3 then some (lN false a0.ar.ae 0 a0.ar.Value (ByteArray.mk #[]))else some false).bind fun b4=>(bif b4 then some (decide (a0.aQ=0))else some false).bind fun b5=>(bif b5 then some (decide (a0.bg=0))else some false).bind fun b6=>some b6
def Fu:=kf func87 [t9] q1 (u1 tf) [] .e []
def cY(a0:ab):Option ai:=bu (fun(v1:ai×Unit)=>some (eT1 v1.1)) fun j2=>bif (decide (a0.aJ=1))then(aW a0.ar).bind fun r3=>(bif (!r3)then(bz a0.ar a0.aa).bind fun r4=>some r4 else some false).bind fun b5=>bif b5 then j2 ({a0 with ao:=(aw a0.ao),bW:=a0.aJ,bg:=a0.ar.ae},())else j2 ({a0 with ao:=(aw a0.ao),bW:=a0.aJ,bg:=0},())else j2 ({a0 with ao:=(aw a0.ao),bW:=a0.aJ},())
def jh:=kf func89 [t9] (.one y11) (u1 cY) [] (p_ 2 3 (.j ⟨[.box 23 1 y11 []],[2,3]⟩ .e)) [bx,cr]
def lK(a0:ab):Option Bool:=(aW a0.ar).bind fun r1=>bif r1 then some true else(fg a0.ar).bind fun r2=>(bif (!r2)then some true else some (decide (1000<a0.ar.ae))).bind fun b3=>bif b3 then some false else(fq a0.ak a0.au a0.ar).bind fun r4=>(bif r4 then some true else(bif (!decide (a0.aJ=1))then(bz a0.ar a0.aa).bind fun r5=>some r5 else some false).bind fun b6=>some b6).bind fun b7=>some b7
def AQ:=kf func90 [t9] q1 (u1 lK) [] .e [bx,ml,mm,cr]
def gR(a0:ab):Option Bool:=(bif (decide (a0.aq<0))then some true else some (decide (10<=a0.aq))).bind fun b1=>(bif b1 then some true else some (decide (a0.bf<1))).bind fun b2=>(bif b2 then some true else some (decide (1000000<a0.bf))).bind fun b3=>(bif b3 then some true else some (decide (a0.aN<0))).bind fun b4=>(bif b4 then some true else some (decide (1000000<a0.aN))).bind fun b5=>(bif b5 then some true else(bP (aw a0.ao)).bind fun r6=>some (!decide (r6=0))).bind fun b7=>(bif b7 then some true else some (decide (200<((ByteArray.size a0.bh:Nat):Int)))).bind fun b8=>(bif b8 then some true else(oK (eT2 a0)).bind fun r9=>some (!r9)).bind fun b10=>bif b10 then some false else(aW a0.aa).bind fun r11=>bif r11 then(tf (eT2 a0)).bind fun r12=>some r12 else(cY (eT2 a0)).bind fun r13=>(dn (eT1 r13)).bind fun r14=>(bif r14 then(lK (eT2 a0)).bind fun r15=>some r15 else some false).bind fun b16=>(bif b16 then(bif (!decide (a0.aJ=1))then some true else some (decide (a0.bg=0))).bind fun b17=>some b17 else some false).bind fun b18=>(bif b18 then(bif (!(!decide (a0.aJ=1)))then some true else(aW a0.au).bind fun r19=>some r19).bind fun b20=>some b20 else some false).bind fun b21=>(bif b21 then(bif (!decide (a0.aJ=3))then some true else(aW a0.ak).bind fun r22=>some r22).bind fun b23=>some b23 else some false).bind fun b24=>some b24
def mi:=kf func41 [t9] q1 (u1 gR) [] .e [eM,Ft,bx,Fu,jh,fL,AQ]
def kN(a0:ab):Option (ByteArray×Bool×Unit):=(bif (!decide (a0.aJ=3))then some true else(gR (eT2 a0)).bind fun r1=>some (!r1)).bind fun b2=>bif b2 then some ((ByteArray.mk #[]),false,())else some (a0.aa.Value,true,())
def vw:=kf func40 [t9] (.many [y3,y1]) (u1 kN) [] .e [mi]
noncomputable def jk(a0:Int):Option Bool:=(bif (decide (0<=a0))then some (decide (a0<10))else some false).bind fun b1=>some b1
def qt:=kf func110 [t0] q1 (u1 jk) [] .e []
def nU(a0:aC):Option Bool:=(jk a0.aq).bind fun r1=>(bif r1 then some (decide (0<=a0.bf))else some false).bind fun b2=>(bif b2 then some (decide (a0.bf<=1000000))else some false).bind fun b3=>(bif b3 then some (decide (1<=a0.Round))else some false).bind fun b4=>(bif b4 then some (decide (a0.Round<=1000))else some false).bind fun b5=>(bif b5 then some (decide (1<=a0.aN))else some false).bind fun b6=>(bif b6 then some (decide (a0.aN<=1000000))else some false).bind fun b7=>some b7
def zY:=kf func91 [t5] q1 (u1 nU) [] .e [qt]
noncomputable def mC(a0:ByteArray):Option Bool:=(bif (decide (1<=((ByteArray.size a0:Nat):Int)))then some (decide (((ByteArray.size a0:Nat):Int)<=200))else some false).bind fun b1=>some b1
def uJ:=kf func155 [t3] q1 (u1 mC) [] .e []
def dE(a0:ByteArray)(a1:ByteArray):Option Int:=(dW ((ByteArray.size a0:Nat):Int) ((ByteArray.size a1:Nat):Int)).bind fun r1=>(jg a0 a1).bind fun r2=>(jX [r1,r2]).bind fun r3=>some r3
def kT:=kf func156 [t3,t3] q0 (u2 dE) [] .e [kF,sV,sU]
def fM(a0:(List ByteArray)):Option Bool:=aD (fun(v1:Int×Unit)=>bif (decide (v1.1<((a0.length:Nat):Int)))then(idx a0 v1.1).bind fun x2=>(mC x2).bind fun r3=>(bif (!r3)then some true else(bif (decide (0<v1.1))then(idx a0 (gf .i64 v1.1 1)).bind fun x4=>(dE x4 x2).bind fun r5=>some (decide (0<=r5))else some false).bind fun b6=>some b6).bind fun b7=>bif b7 then oR (some false)else some (Sum.inl ((aA .i64 v1.1 1),()))else oR (some (decide (((a0.length:Nat):Int)<=40)))) (0,())
def vr:=kf func92 [t7] q1 (u1 fM) [] (p_ 4 5 (.j ⟨[.val 7 y0],[0,5,6]⟩ .e)) [uJ,kT]
noncomputable def gE(a0:(List ByteArray))(a1:ByteArray):Option Int:=aD (fun(v1:Int×Unit)=>bif (decide (v1.1<((a0.length:Nat):Int)))then(idx a0 v1.1).bind fun x2=>bif (decide (a1=x2))then oR (some v1.1)else some (Sum.inl ((aA .i64 v1.1 1),()))else oR (some (-1:Int))) (0,())
def tP:=kf func216 [t7,t3] q0 (u2 gE) [] (p_ 4 5 (.j ⟨[.val 8 y0],[0,1,7]⟩ .e)) []
def iS(a0:(List ByteArray))(a1:ByteArray):Option Bool:=(gE a0 a1).bind fun r1=>some (decide (0<=r1))
def sv:=kf func158 [t7,t3] q1 (u2 iS) [] .e [tP]
def iC(a0:(List ByteArray))(a1:ByteArray):Option Bool:=(iS a0 a1).bind fun r1=>some r1
def rp:=kf func95 [t7,t3] q1 (u2 iC) [] .e [sv]
def kZ(a0:ByteArray)(a1:aC):Option Bool:=(iC a1.bB a0).bind fun r1=>some (!r1)
def zZ:=kf func94 [t3,.ref (t5)] q1 (u2 kZ) [] .e [rp]
def gm(a0:(List ByteArray))(a1:aC):Option Int:=aD (fun(v1:Int×Unit)=>bif (decide (v1.1<((a0.length:Nat):Int)))then(idx a0 v1.1).bind fun x2=>(kZ x2 (eT0 a1)).bind fun r3=>bif r3 then oR (some v1.1)else some (Sum.inl ((aA .i64 v1.1 1),()))else oR (some (-1:Int))) (0,())
def o7:=kf func157 [t7,.bj 94 [.ref (t5)]] q0 (fun a=>gm a.1 a.2.1.1) [] (p_ 4 5 (.j ⟨[.val 8 y0],[0,1,7]⟩ .e)) [zZ]
def dP(a0:(List ByteArray))(a1:aC):Option Bool:=(gm a0 (eT0 a1)).bind fun r1=>some (decide (0<=r1))
def n9:=kf func93 [t7,.bj 94 [.ref (t5)]] q1 (fun a=>dP a.1 a.2.1.1) [] .e [o7]
def mD(a0:aK):Option Bool:=(jk a0.aq).bind fun r1=>(bif r1 then some (decide (1<=a0.aN))else some false).bind fun b2=>(bif b2 then(bP (aw a0.ao)).bind fun r3=>some (decide (r3=0))else some false).bind fun b4=>(bif b4 then(fM a0.de).bind fun r5=>some r5 else some false).bind fun b6=>(bif b6 then(fM a0.bB).bind fun r7=>some r7 else some false).bind fun b8=>some b8
def BD:=kf func96 [.ty y16] q1 (u1 mD) [] .e [qt,eM,vr]
def jT(a0:aC):Option Bool:=(nU (eT0 a0)).bind fun r1=>(bif (!r1)then some true else(bP (aw a0.ao)).bind fun r2=>some (!decide (r2=0))).bind fun b3=>(bif b3 then some true else some (decide (200<((ByteArray.size a0.oI:Nat):Int)))).bind fun b4=>bif b4 then some false else(fM a0.de).bind fun r5=>(bif (!r5)then some true else(fM a0.bB).bind fun r6=>some (!r6)).bind fun b7=>(bif b7 then some true else(fM a0.bA).bind fun r8=>some (!r8)).bind fun b9=>bif b9 then some false else(dP a0.bA (eT0 a0)).bind fun r10=>bif r10 then some false else aD (fun(v11:Int×Unit)=>bif (decide (v11.1<((a0.aB.length:Nat):Int)))then(idx a0.aB v11.1).bind fun x12=>bu (fun(v13:Bool×Unit)=>bif v13.1 then oR (some false)else some (Sum.inl ((aA .i64 v11.1 1),()))) fun j14=>(mD {x12 with ao:=(aw x12.ao)}).bind fun r15=>bif (!r15)then j14 (true,())else bif (decide (x12.aq=a0.aq))then j14 (true,())else bif (decide (0<v11.1))then(idx a0.aB (gf .i64 v11.1 1)).bind fun x16=>j14 ((decide (x12.aq<=x16.aq)),())else j14 (false,())else oR (some true)) (0,())
def uM:=kf func42 [t5] q1 (u1 jT) [] (p_ 7 47 (.j ⟨[.val 43 y0],[1,41,42]⟩ (p_ 6 38 (.j ⟨[.val 73 y1],[1,41,42,43]⟩ .e)))) [zY,eM,vr,n9,BD]
noncomputable def mR(a0:(List Int))(a1:(List Int)):Option Bool:=bif (!decide (((a0.length:Nat):Int)=((a1.length:Nat):Int)))then some false else aD (fun(v1:Int×Unit)=>bif (decide (v1.1<((a0.length:Nat):Int)))then(idx a0 v1.1).bind fun x2=>(idx a1 v1.1).bind fun x3=>bif (!decide (x2=x3))then oR (some false)else some (Sum.inl ((aA .i64 v1.1 1),()))else oR (some true)) (0,())
def yd:=kf func97 [t8,t8] q1 (u2 mR) [] (p_ 5 11 (.j ⟨[.val 13 y0],[0,1,12]⟩ .e)) []
noncomputable def iF:SA U:=eX (iU prog 32 [] f98) (.r (.r (.l (.r (.l (.j ⟨[.val 17 y0],[1,2,15,16]⟩ .e))))))
noncomputable def cD(rec:(an×an×Unit)->Option Bool)(a0:(List an))(a1:(List an)):Option Bool:=bif (!decide (((a0.length:Nat):Int)=((a1.length:Nat):Int)))then some false else aD (fun(v1:Int×Unit)=>bif (decide (v1.1<((a0.length:Nat):Int)))then(idx a0 v1.1).bind fun x2=>(idx a1 v1.1).bind fun x3=>(rec ((aw x2),(aw x3),())).bind fun r4=>bif (!r4)then oR (some false)else some (Sum.inl ((aA .i64 v1.1 1),()))else oR (some true)) (0,())
noncomputable def iP(g:(an×an×Unit)->Option Bool)(h:di.Sound prog (U:=U) (.fn 43 [t4,t4] q1 g)):KS U prog:=⟨.fn 98 [.ty (Ty.sl (Ty.st .ao)),.ty (Ty.sl (Ty.st .ao)),.bj 43 []] q1 fun a=>cD g a.1 a.2.1,Xa (K:=K) iF 32 [.tmp 6] (⟨_,h⟩::[]) (fk f98 [] func98)⟩
noncomputable def CP:SA U:=eX (iU prog 24 [] f43) .e
def nZ(rec:(an×an×Unit)->Option Bool)(a0:an)(a1:an):Option Bool:=(bif (decide (a0.aH=a1.aH))then(mR a0.a8 a1.a8).bind fun r1=>some r1 else some false).bind fun b2=>(bif b2 then(cD rec a0.aM a1.aM).bind fun r3=>some r3 else some false).bind fun b4=>some b4
noncomputable def rI:Nat->(an×an×Unit)->Option Bool:=im (fun rec a=>nZ rec a.1 a.2.1)
def lB(a0:an)(a1:an):Option Bool:=rI (SizeOf.sizeOf a0+SizeOf.sizeOf a1+1) (a0,a1,())
noncomputable def ri:KS U prog:=⟨.fn 43 [t4,t4] q1 fun a=>lB a.1 a.2.1,Wm (K:=K) (A_s:=[t4,t4]) (r:= .one y1) (B:=fun rec a=>nZ rec a.1 a.2.1) CP 24 [.tmp 4] (fun g h=>[iP g h,yd]) (fk f43 [] func43) (hF:=fun a=>⟨_,rfl⟩)⟩
noncomputable def pY(a0:fU):Option Bool:=(bif (decide (0<=a0.ae))then some (decide (a0.ae<=1000000))else some false).bind fun b1=>(bif b1 then some (decide ((-1:Int)<=a0.Ce))else some false).bind fun b2=>(bif b2 then some (decide (a0.Ce<=212))else some false).bind fun b3=>some b3
def yJ:=kf func44 [.ty (Ty.st .Timer)] q1 (u1 pY) [] .e []
def nB(a0:bS):Option Bool:=(kN (eT2 a0.aj)).bind fun r1=>(gR (eT2 a0.aj)).bind fun r2=>(bif r2 then(jT (eT0 a0.aF)).bind fun r3=>some r3 else some false).bind fun b4=>(bif b4 then some (decide (a0.aF.aq=a0.aj.aq))else some false).bind fun b5=>(bif b5 then some (decide (a0.aF.bf=a0.aj.bf))else some false).bind fun b6=>(bif b6 then(lB (aw a0.aF.ao) (aw a0.aj.ao)).bind fun r7=>some r7 else some false).bind fun b8=>(bif b8 then(pY a0.Timer).bind fun r9=>some r9 else some false).bind fun b10=>(bif b10 then some (decide (1<=a0.Round))else some false).bind fun b11=>(bif b11 then some (decide (a0.Round<=1000))else some false).bind fun b12=>(bif b12 then some (decide (0<=a0.Next))else some false).bind fun b13=>(bif b13 then some (decide (a0.Next<=212))else some false).bind fun b14=>(bif b14 then some (xor false (decide (a0.yx=r1.2.1)))else some false).bind fun b15=>(bif b15 then some (decide (a0.Value=r1.1))else some false).bind fun b16=>some b16
def wP:=kf func13 [.ty y13] q1 (u1 nB) [] .e [vw,mi,uM,ri,yJ]
noncomputable def iA(a0:aC):Option aK:=some {a0 with ao:=(aw a0.ao)}
def rn:=kf func102 [t5] (.one y16) (u1 iA) [] .e []
noncomputable def hZ(a0:(List Int)):Option (List Int):=bif List.isEmpty a0 then both (some ([]:List Int)) (bif bL 8 (List.length ([]:List Int)+a0.length)then some (([]:List Int)++a0)else none)else bif bL 8 (List.length ([]:List Int)+a0.length)then some (([]:List Int)++a0)else none
def qF:=kf func159 [t8] (.one y8) (u1 hZ) [5] .e []
noncomputable def AL:SA U:=eX (iU prog 28 [] f160) (.r (.r (.l (.r (.l (.ps (.xX 3 2 27 3 y4) (.j ⟨[.val 15 y0,.box 8 1 y4 [(2,14,1)],.gz 14 1 27 3 y4],[2,3,13,14]⟩ .e)))))))
def u7(rec:(an×Unit)->Option an)(a0:an):Option an:=(hZ a0.a8).bind fun r1=>aD (fun(v2:Int×an×(List an)×Unit)=>bif (decide (v2.1<((a0.aM.length:Nat):Int)))then(idx a0.aM v2.1).bind fun x3=>(rec ((aw x3),())).bind fun r4=>bif bL 56 (v2.2.2.1.length+List.length [(aw r4)])then some (Sum.inl ((aA .i64 v2.1 1),(an.mk v2.2.1.aH v2.2.1.a8 ([]:List an)),(v2.2.2.1++[(aw r4)]),()))else none else oR (some (an.mk v2.2.1.aH v2.2.1.a8 v2.2.2.1))) (0,(an.mk a0.aH r1 ([]:List an)),([]:List an),())
noncomputable def B9:Nat->(an×Unit)->Option an:=im (fun rec a=>u7 rec a.1)
def jR(a0:an):Option an:=B9 (SizeOf.sizeOf a0+1) (a0,())
noncomputable def uK:KS U prog:=⟨.fn 160 [t4] (.one y4) fun a=>jR a.1,BM (K:=K) (A_s:=[t4]) (r:= .one y4) (B:=fun rec a=>u7 rec a.1) AL 28 [.cell 2 (some 3)] [qF] (fk f160 [] func160) (hF:=fun a=>⟨_,rfl⟩)⟩
noncomputable def tl:SA U:=eX (iU prog 8 [5] f100) (.r (.l (.r (.l (.l (.g [(1,.ps (.own 2 9 1 y3))]))))))
noncomputable def bl(a0:(List ByteArray)):Option (List ByteArray):=bif List.isEmpty a0 then both (some ([]:List ByteArray)) (bif bL 16 (List.length ([]:List ByteArray)+a0.length)then some (([]:List ByteArray)++a0)else none)else bif bL 16 (List.length ([]:List ByteArray)+a0.length)then some (([]:List ByteArray)++a0)else none
noncomputable def eU:KS U prog:=⟨.fw 100 [t7] 9 1 y3 fun a=>bl a.1,OI (K:=K) tl 8 [.tmp 2] [] (fk f100 [5] func100)⟩
def jd(a0:aK):Option aK:=(jR (aw a0.ao)).bind fun r1=>(bl a0.de).bind fun r2=>(bl a0.bB).bind fun r3=>some (aK.mk a0.aq a0.aN (aw r1) r2 r3)
def sQ:=kf func101 [.ty y16] (.one y16) (u1 jd) [] .e [uK,eU]
def rL(a0:aC):Option aK:=(iA (eT0 a0)).bind fun r1=>(jd {r1 with ao:=(aw r1.ao)}).bind fun r2=>some {r2 with ao:=(aw r2.ao)}
def D3:=kf func46 [t5] (.one y16) (u1 rL) [] .e [rn,sQ]
noncomputable def EO:SA U:=eX (iU prog 28 [] f99) (.r (.r (.l (.r (.l (.ps (.xX 3 2 27 3 y4) (.j ⟨[.val 15 y0,.box 8 1 y4 [(2,14,1)],.gz 14 1 27 3 y4],[2,3,13,14]⟩ .e)))))))
def qc(rec:(an×Unit)->Option an)(a0:an):Option an:=(hZ a0.a8).bind fun r1=>aD (fun(v2:Int×an×(List an)×Unit)=>bif (decide (v2.1<((a0.aM.length:Nat):Int)))then(idx a0.aM v2.1).bind fun x3=>(rec ((aw x3),())).bind fun r4=>bif bL 56 (v2.2.2.1.length+List.length [(aw r4)])then some (Sum.inl ((aA .i64 v2.1 1),(an.mk v2.2.1.aH v2.2.1.a8 ([]:List an)),(v2.2.2.1++[(aw r4)]),()))else none else oR (some (an.mk v2.2.1.aH v2.2.1.a8 v2.2.2.1))) (0,(an.mk a0.aH r1 ([]:List an)),([]:List an),())
noncomputable def pX:Nat->(an×Unit)->Option an:=im (fun rec a=>qc rec a.1)
def eZ(a0:an):Option an:=pX (SizeOf.sizeOf a0+1) (a0,())
noncomputable def lh:KS U prog:=⟨.fn 99 [t4] (.one y4) fun a=>eZ a.1,BM (K:=K) (A_s:=[t4]) (r:= .one y4) (B:=fun rec a=>qc rec a.1) EO 28 [.cell 2 (some 3)] [qF] (fk f99 [] func99) (hF:=fun a=>⟨_,rfl⟩)⟩
def jw(a0:aK):Option aK:=(eZ (aw a0.ao)).bind fun r1=>(bl a0.de).bind fun r2=>(bl a0.bB).bind fun r3=>some (aK.mk a0.aq a0.aN (aw r1) r2 r3)
def tx:=kf func45 [.ty y16] (.one y16) (u1 jw) [] .e [lh,eU]
def na(a0:ai):Option ai:=(eZ (aw a0.ao)).bind fun r1=>some {a0 with ao:=(aw r1)}
def C5:=kf func120 [t11] (.one y11) (u1 na) [] .e [lh]
noncomputable def ss:SA U:=eX (iU prog 22 [] f119) (.r (.r (.l (.r (.l (.ps (.own 5 64 15 y11) (.j ⟨[.val 10 y0,.own 5 5 1 64 15 y11],[1,8,9]⟩ .e)))))))
def eA(a0:(List ai)):Option (List ai):=aD (fun(v1:Int×(List ai)×Unit)=>bif (decide (v1.1<((a0.length:Nat):Int)))then(idx a0 v1.1).bind fun x2=>(na (eT1 x2)).bind fun r3=>bif bL 176 (v1.2.1.length+List.length [(eT1 r3)])then some (Sum.inl ((aA .i64 v1.1 1),(v1.2.1++[(eT1 r3)]),()))else none else oR (some v1.2.1)) (0,([]:List ai),())
noncomputable def mj:KS U prog:=⟨.fw 119 [t14,.bj 120 []] 64 15 y11 fun a=>eA a.1,OI (K:=K) ss 22 [.tmp 4] [C5] (fk f119 [] func119)⟩
def jD(a0:ab):Option ab:=(eZ (aw a0.ao)).bind fun r1=>(eA a0.aB).bind fun r2=>some {a0 with ao:=(aw r1),aB:=r2}
def rq:=kf func103 [t9] (.one y9) (u1 jD) [] .e [lh,mj]
def kM(a0:ab):Option (ai×Bool×Unit):=(aW a0.aa).bind fun r1=>(bif r1 then some true else(gR (eT2 a0)).bind fun r2=>some (!r2)).bind fun b3=>bif b3 then some ((ai.mk 0 0 0 (an.mk 0 ([]:List Int) ([]:List an)) 0 zB zB zB 0 0),false,())else(jD (eT2 a0)).bind fun r4=>(cY (eT2 r4)).bind fun r5=>some ((eT1 r5),true,())
def vu:=kf func47 [t9] (.many [y11,y1]) (u1 kM) [] .e [bx,mi,rq,jh]
def pZ(a0:bS):Option (List gU):=(nB (eT3 a0)).bind fun r1=>bif (!r1)then some ([]:List gU)else bu (fun(v2:(List gU)×Unit)=>bu (fun(v4:(List gU)×Unit)=>some v4.1) fun j5=>(kM (eT2 a0.aj)).bind fun r6=>bif r6.2.1 then bif bL 312 (v2.1.length+List.length [(gU.mk 2 a0.aj.bf (aK.mk 0 0 (an.mk 0 ([]:List Int) ([]:List an)) ([]:List ByteArray) ([]:List ByteArray)) (eT1 r6.1))])then j5 ((v2.1++[(gU.mk 2 a0.aj.bf (aK.mk 0 0 (an.mk 0 ([]:List Int) ([]:List an)) ([]:List ByteArray) ([]:List ByteArray)) (eT1 r6.1))]),())else none else j5 (v2.1,())) fun j3=>bif (!a0.yx)then(rL (eT0 a0.aF)).bind fun r7=>(jw {r7 with ao:=(aw r7.ao)}).bind fun r8=>bif bL 312 (List.length ([]:List gU)+List.length [(gU.mk 1 a0.aj.bf {r8 with ao:=(aw r8.ao)} (ai.mk 0 0 0 (an.mk 0 ([]:List Int) ([]:List an)) 0 zB zB zB 0 0))])then j3 ((([]:List gU)++[(gU.mk 1 a0.aj.bf {r8 with ao:=(aw r8.ao)} (ai.mk 0 0 0 (an.mk 0 ([]:List Int) ([]:List an)) 0 zB zB zB 0 0))]),())else none else j3 (([]:List gU),())
def GA:=kf func14 [.ty y13] (.one (Ty.sl (Ty.st .my))) (u1 pZ) [] (p_ 3 7 (.ps (.own 3 66 24 (Ty.st .my)) (.j ⟨[.own 3 6 1 66 24 (Ty.st .my)],[1]⟩ (.r (.j ⟨[.own 3 6 1 66 24 (Ty.st .my)],[]⟩ .e))))) [wP,D3,tx,vu]
noncomputable def mT(a0:Int)(a1:Int):Option an:=aD (fun(v1:Int×an×(List Int)×Unit)=>bif (decide (v1.1<a0))then bif bL 8 (v1.2.2.1.length+List.length [v1.1])then some (Sum.inl ((aA .i64 v1.1 1),(an.mk v1.2.1.aH ([]:List Int) v1.2.1.aM),(v1.2.2.1++[v1.1]),()))else none else oR (some (an.mk v1.2.1.aH v1.2.2.1 v1.2.1.aM))) (0,(an.mk a1 ([]:List Int) ([]:List an)),([]:List Int),())
def Ds:=kf func25 [t0,t0] (.one y4) (u2 mT) [] (p_ 5 11 (.ps (.xX 5 1 3 1 y0) (.j ⟨[.val 6 y0,.box 3 1 y4 [(1,6,1)],.gz 6 1 3 1 y0],[0,4,5]⟩ .e))) []
noncomputable def qX(a0:Int):Option Bool:=(bif (decide (0<=a0))then some (decide (a0<=200))else some false).bind fun b1=>some b1
def AE:=kf func54 [t0] q1 (u1 qX) [] .e []
def qZ(a0:Int)(a1:Int)(a2:an):Option (ab×Int×Unit):=(bif (decide (a0<0))then some true else some (decide (10<=a0))).bind fun b1=>bif b1 then some ((ab.mk 0 0 0 (an.mk 0 ([]:List Int) ([]:List an)) 0 zB zB zB zB 0 0 (ByteArray.mk #[]) ([]:List ai)),5,())else(bif (decide (a1<1))then some true else some (decide (1000000<a1))).bind fun b2=>bif b2 then some ((ab.mk 0 0 0 (an.mk 0 ([]:List Int) ([]:List an)) 0 zB zB zB zB 0 0 (ByteArray.mk #[]) ([]:List ai)),77,())else(bP (aw a2)).bind fun r3=>bif (!decide (r3=0))then some ((ab.mk 0 0 0 (an.mk 0 ([]:List Int) ([]:List an)) 0 zB zB zB zB 0 0 (ByteArray.mk #[]) ([]:List ai)),1,())else(eZ (aw a2)).bind fun r4=>some ((ab.mk a0 a1 0 (aw r4) 1 zB zB zB zB 0 0 (ByteArray.mk #[]) ([]:List ai)),0,())
def H5:=kf func55 [t0,t0,t4] (.many [y9,y0]) (u3 qZ) [] .e [eM,lh]
def ti(a0:an)(a1:Int)(a2:Int)(a3:Int):Option Int:=(bP (aw a0)).bind fun r1=>bif (!decide (r1=0))then some r1 else(bif (decide (a1<0))then some true else some (decide (10<=a1))).bind fun b2=>bif b2 then some 5 else(bif (decide (a2<0))then some true else some (decide (1000000<a2))).bind fun b3=>(bif b3 then some true else some (decide (a3<1))).bind fun b4=>(bif b4 then some true else some (decide (1000<a3))).bind fun b5=>bif b5 then some 1 else some 0
def Fv:=kf func249 [t4,t0,t0,t0] q0 (u4 ti) [] .e [eM]
noncomputable def jJ(a0:(List Int))(a1:Int):Option Int:=aD (fun(v1:Int×Unit)=>bif (decide (v1.1<((a0.length:Nat):Int)))then(idx a0 v1.1).bind fun x2=>bif (decide (a1=x2))then oR (some v1.1)else some (Sum.inl ((aA .i64 v1.1 1),()))else oR (some (-1:Int))) (0,())
def yc:=kf func376 [t8,t0] q0 (u2 jJ) [] (p_ 4 5 (.j ⟨[.val 8 y0],[0,1,7]⟩ .e)) []
def iM(a0:(List Int))(a1:Int):Option Bool:=(jJ a0 a1).bind fun r1=>some (decide (0<=r1))
def vU:=kf func352 [t8,t0] q1 (u2 iM) [] .e [yc]
noncomputable def CQ:SA U:=eX (iU prog 53 [] f318) (.r (.r (.r (.l (.r (.l (.j ⟨[.val 29 y0,.box 1 1 (Ty.st .ui) []],[1,4,6,27,28]⟩ .e)))))))
def n2(rec:(an×Int×Unit)->Option (mw×Bool×Unit))(a0:an)(a1:Int):Option (mw×Bool×Unit):=(iM a0.a8 a1).bind fun r1=>bif r1 then some ((mw.mk a0.aH (aA .i64 ((a0.a8.length:Nat):Int) ((a0.aM.length:Nat):Int))),true,())else aD (fun(v2:Int×mw×Unit)=>bif (decide (v2.1<((a0.aM.length:Nat):Int)))then(idx a0.aM v2.1).bind fun x3=>(rec ((aw x3),a1,())).bind fun r4=>bif r4.2.1 then oR (some ((mw.mk (zQ .i64 a0.aH r4.1.Pp) (zQ .i64 (aA .i64 ((a0.a8.length:Nat):Int) ((a0.aM.length:Nat):Int)) r4.1.Pr)),true,()))else some (Sum.inl ((aA .i64 v2.1 1),v2.2.1,()))else oR (some ((mw.mk 0 0),false,()))) (0,(mw.mk 0 0),())
noncomputable def xk:Nat->(an×Int×Unit)->Option (mw×Bool×Unit):=im (fun rec a=>n2 rec a.1 a.2.1)
def rM(a0:an)(a1:Int):Option (mw×Bool×Unit):=xk (SizeOf.sizeOf a0+SizeOf.sizeOf a1+1) (a0,a1,())
noncomputable def D4:KS U prog:=⟨.fn 318 [t4,t0] (.many [(Ty.st .ui),y1]) fun a=>rM a.1 a.2.1,BM (K:=K) (A_s:=[t4,t0]) (r:= .many [(Ty.st .ui),y1]) (B:=fun rec a=>n2 rec a.1 a.2.1) CQ 53 [.cell 4 (some 2),.tmp 5] [vU] (fk f318 [] func318) (hF:=fun a=>⟨_,rfl⟩)⟩
noncomputable def qa(a0:Int)(a1:Int)(a2:Int)(a3:Int):Option Int:=some (cj .u32 (vd .u64 (iu .u64 (zQ .u64 (iu .u64 (zQ .u64 (iu .u64 (aA .u64 (iu .u64 (iu .u64 (iu .u64 (c7 .u64 (cj .u64 a0) 56) (c7 .u64 (cj .u64 a1) 24)) (c7 .u64 (cj .u64 a2) 8)) (cj .u64 a3)) 11400714819323198485) (vd .u64 (aA .u64 (iu .u64 (iu .u64 (iu .u64 (c7 .u64 (cj .u64 a0) 56) (c7 .u64 (cj .u64 a1) 24)) (c7 .u64 (cj .u64 a2) 8)) (cj .u64 a3)) 11400714819323198485) 30)) 13787848793156543929) (vd .u64 (zQ .u64 (iu .u64 (aA .u64 (iu .u64 (iu .u64 (iu .u64 (c7 .u64 (cj .u64 a0) 56) (c7 .u64 (cj .u64 a1) 24)) (c7 .u64 (cj .u64 a2) 8)) (cj .u64 a3)) 11400714819323198485) (vd .u64 (aA .u64 (iu .u64 (iu .u64 (iu .u64 (c7 .u64 (cj .u64 a0) 56) (c7 .u64 (cj .u64 a1) 24)) (c7 .u64 (cj .u64 a2) 8)) (cj .u64 a3)) 11400714819323198485) 30)) 13787848793156543929) 27)) 10723151780598845931) (vd .u64 (zQ .u64 (iu .u64 (zQ .u64 (iu .u64 (aA .u64 (iu .u64 (iu .u64 (iu .u64 (c7 .u64 (cj .u64 a0) 56) (c7 .u64 (cj .u64 a1) 24)) (c7 .u64 (cj .u64 a2) 8)) (cj .u64 a3)) 11400714819323198485) (vd .u64 (aA .u64 (iu .u64 (iu .u64 (iu .u64 (c7 .u64 (cj .u64 a0) 56) (c7 .u64 (cj .u64 a1) 24)) (c7 .u64 (cj .u64 a2) 8)) (cj .u64 a3)) 11400714819323198485) 30)) 13787848793156543929) (vd .u64 (zQ .u64 (iu .u64 (aA .u64 (iu .u64 (iu .u64 (iu .u64 (c7 .u64 (cj .u64 a0) 56) (c7 .u64 (cj .u64 a1) 24)) (c7 .u64 (cj .u64 a2) 8)) (cj .u64 a3)) 11400714819323198485) (vd .u64 (aA .u64 (iu .u64 (iu .u64 (iu .u64 (c7 .u64 (cj .u64 a0) 56) (c7 .u64 (cj .u64 a1) 24)) (c7 .u64 (cj .u64 a2) 8)) (cj .u64 a3)) 11400714819323198485) 30)) 13787848793156543929) 27)) 10723151780598845931) 31)) 32))
def yQ:=kf func286 [t0,t0,t0,t0] (.one (Ty.i .u32)) (u4 qa) [] .e []
def gV(a0:an)(a1:Int)(a2:Int)(a3:Int)(a4:Int):Option Bool:=bif (decide (a4=a1))then some true else(rM (aw a0) a4).bind fun r1=>bu (fun(v2:Bool×Unit)=>some v2.1) fun j3=>bif r1.2.1 then(qa 1 a2 a3 a4).bind fun r4=>j3 ((decide ((zQ .u64 (cj .u64 r4) (cj .u64 r1.1.Pr))<(c7 .u64 (cj .u64 r1.1.Pp) 32))),())else j3 (false,())
def AT:=kf func285 [t4,t0,t0,t0,t0] q1 (u5 gV) [] (p_ 3 7 (.j ⟨[.val 10 y1],[]⟩ .e)) [D4,yQ]
def lF(a0:an)(a1:Int)(a2:Int)(a3:Int):Option Int:=aD (fun(v1:Int×Int×Int×Unit)=>bif (decide (v1.2.2.1<10))then bu (fun(v2:Int×Int×Unit)=>some (Sum.inl (v2.1,v2.2.1,(aA .i64 v1.2.2.1 1),()))) fun j3=>(gV (aw a0) a1 a2 a3 v1.2.2.1).bind fun r4=>bif (!r4)then j3 (v1.1,v1.2.1,())else(qa 2 a2 a3 v1.2.2.1).bind fun r5=>bif (decide (v1.2.1<=r5))then j3 (v1.2.2.1,r5,())else j3 (v1.1,v1.2.1,())else oR (some v1.1)) (a1,0,0,())
def D5:=kf func250 [t4,t0,t0,t0] q0 (u4 lF) [] (p_ 5 11 (.j ⟨[.val 9 y0,.val 10 (Ty.i .u32),.val 14 y0],[1,2,3,4]⟩ (p_ 3 6 (.j ⟨[.val 9 y0,.val 10 (Ty.i .u32)],[1,2,3,4,14]⟩ .e)))) [AT,yQ]
def mZ(a0:an)(a1:Int)(a2:Int)(a3:Int):Option (Int×Int×Unit):=(ti (aw a0) a1 a2 a3).bind fun r1=>bif (!decide (r1=0))then some (0,r1,())else aD (fun(v2:Int×Int×Unit)=>bif (decide (v2.2.1<a3))then(lF (aw a0) a1 a2 (aA .i64 v2.2.1 1)).bind fun r3=>if r3<0 then none else some (Sum.inl ((n5 .i64 v2.1 (c7 .i64 1 r3)),(aA .i64 v2.2.1 1),()))else oR (some (v2.1,0,()))) (0,0,())
def C2:=kf func218 [t4,t0,t0,t0] (.many [y0,y0]) (u4 mZ) [] (p_ 6 23 (.j ⟨[.val 11 y0,.val 22 y0],[1,2,4,21]⟩ .e)) [Fv,D5]
def mE(a0:Int):Option (List Int):=aD (fun(v1:Int×(List Int)×Unit)=>bif (decide (v1.1<10))then bu (fun(v2:(List Int)×Unit)=>some (Sum.inl ((aA .i64 v1.1 1),v2.1,()))) fun j3=>(gw a0 v1.1).bind fun r4=>bif r4 then bif bL 8 (v1.2.1.length+List.length [v1.1])then j3 ((v1.2.1++[v1.1]),())else none else j3 (v1.2.1,())else oR (some v1.2.1)) (0,([]:List Int),())
def xK:=kf func219 [t0] (.one y8) (u1 mE) [] (p_ 5 11 (.ps (.own 3 3 1 y0) (.j ⟨[.val 5 y0,.own 3 3 1 3 1 y0],[0]⟩ (p_ 3 6 (.j ⟨[.own 3 3 1 3 1 y0],[0,5]⟩ .e))))) [kp]
def dB(a0:(List ByteArray))(a1:ByteArray):Option (Int×Bool×Unit):=aD (fun(v1:Int×Int×Unit)=>bif (decide (v1.1<v1.2.1))then(idx a0 (cj .i64 (vd .u64 (cj .u64 (aA .i64 v1.1 v1.2.1)) 1))).bind fun x2=>(dE x2 a1).bind fun r3=>bif (decide (r3<0))then some (Sum.inl ((aA .i64 (cj .i64 (vd .u64 (cj .u64 (aA .i64 v1.1 v1.2.1)) 1)) 1),v1.2.1,()))else some (Sum.inl (v1.1,(cj .i64 (vd .u64 (cj .u64 (aA .i64 v1.1 v1.2.1)) 1)),()))else oR ((bif (decide (v1.1<((a0.length:Nat):Int)))then(idx a0 v1.1).bind fun x4=>(dE x4 a1).bind fun r5=>some (decide (r5=0))else some false).bind fun b6=>some (v1.1,b6,()))) (0,((a0.length:Nat):Int),())
def kE:=kf func223 [t7,t3,.bj 156 []] (.many [y0,y1]) (fun a=>dB a.1 a.2.1) [] (p_ 5 7 (.j ⟨[.val 9 y0,.val 10 y0],[0,1,2,8]⟩ .e)) [kT]
noncomputable def jm(s:List ByteArray)(a0:Int)(a1:List ByteArray):Option (List ByteArray):=Jr 16 s a0 a1
noncomputable def tn:KS U prog:=⟨.cw 224 9 1 y3 [t0,t7] fun s a=>jm s a.1 a.2.1,pc Jt.ways Jt.enters (fun _=>rfl)⟩
def iB(a0:(List ByteArray))(a1:ByteArray):Option (List ByteArray):=(dB a0 a1).bind fun r1=>(bif r1.2.1 then some true else some (decide (40<=((a0.length:Nat):Int)))).bind fun b2=>bif b2 then some a0 else(bl a0).bind fun r3=>(jm r3 r1.1 [a1]).bind fun r4=>some r4
def wR:=kf func168 [t7,t3] (.one y7) (u2 iB) [] .e [kE,eU,tn]
def gl(s:List ByteArray):Option (Unit×List ByteArray):=vb (fun x y=>dE x y) s
noncomputable def o6:KS U prog:=⟨.rw 251 9 1 y3 [.bj 156 []] (.many []) fun s a=>gl s,Ma wD.enters wD.none kT.s ⟨ByteArray.mk #[]⟩ (fun _=>rfl) wD.Ck (fun _=>rfl)⟩
noncomputable def so:SA U:=eX (iU prog 61 [] f252) (.r (.r (.l (.r (.l (.j ⟨[.val 3 y0,.own 0 0 0 9 1 y3],[]⟩ (.l (.r (.l (.l (.r (.l (.r (.b (.r (.l (.j ⟨[.val 3 y0,.val 5 y0,.own 0 0 0 9 1 y3],[4]⟩ (.l (.r (.j ⟨[.val 3 y0,.own 0 0 0 9 1 y3],[4,5]⟩ .e)))))) (.r (.l (.g [(4,.ps (.cut 2))])))))))))))))))))
noncomputable def eo(s:List ByteArray):Option (List ByteArray):=bif (decide (((s.length:Nat):Int)<2))then some s else aD (fun(v1:Int×(List ByteArray)×Unit)=>bif (decide (v1.1<((v1.2.1.length:Nat):Int)))then(idx v1.2.1 v1.1).bind fun x2=>(v1.2.1[(Int.toNat v1.1)]?).bind fun x3=>(idx v1.2.1 (gf .i64 v1.1 1)).bind fun x4=>(v1.2.1[(Int.toNat (gf .i64 v1.1 1))]?).bind fun x5=>bif (decide (x3=x5))then bif dO v1.1 ((v1.2.1.length):Int) (v1.2.1.length)then aD (fun(v6:Int×Int×(List ByteArray)×Unit)=>bif (decide (v6.2.1<((List.length ((v6.2.2.1.drop (Int.toNat v1.1)).take (Int.toNat ((v1.2.1.length):Int) - Int.toNat v1.1)):Nat):Int)))then bu (fun(v7:Int×(List ByteArray)×Unit)=>some (Sum.inl (v7.1,(aA .i64 v6.2.1 1),v7.2.1,()))) fun j8=>(idx ((v6.2.2.1.drop (Int.toNat v1.1)).take (Int.toNat ((v1.2.1.length):Int) - Int.toNat v1.1)) v6.2.1).bind fun x9=>(v6.2.2.1[((Int.toNat v1.1)+Int.toNat v6.2.1)]?).bind fun x10=>(idx ((v6.2.2.1.drop (Int.toNat v1.1)).take (Int.toNat ((v1.2.1.length):Int) - Int.toNat v1.1)) (gf .i64 v6.2.1 1)).bind fun x11=>(v6.2.2.1[((Int.toNat v1.1)+Int.toNat (gf .i64 v6.2.1 1))]?).bind fun x12=>bif (!decide (x10=x12))then(idx ((v6.2.2.1.drop (Int.toNat v1.1)).take (Int.toNat ((v1.2.1.length):Int) - Int.toNat v1.1)) v6.2.1).bind fun x13=>(v6.2.2.1[((Int.toNat v1.1)+Int.toNat v6.2.1)]?).bind fun x14=>(idx v6.2.2.1 v6.1).bind fun x15=>(v6.2.2.1[(Int.toNat v6.1)]?).bind fun x16=>j8 ((aA .i64 v6.1 1),(v6.2.2.1.set (Int.toNat v6.1) x14),())else j8 (v6.1,v6.2.2.1,())else oR (bif dO v6.1 ((v6.2.2.1.length):Int) (v6.2.2.1.length)then bif dO 0 v6.1 (List.length (v6.2.2.1.take (Int.toNat v6.1)++List.replicate (Int.toNat ((v6.2.2.1.length):Int) - Int.toNat v6.1) (ByteArray.mk #[])++v6.2.2.1.drop ((Int.toNat v6.1)+(Int.toNat ((v6.2.2.1.length):Int) - Int.toNat v6.1))))then oR (some ((v6.2.2.1.take (Int.toNat v6.1)++List.replicate (Int.toNat ((v6.2.2.1.length):Int) - Int.toNat v6.1) (ByteArray.mk #[])++v6.2.2.1.drop ((Int.toNat v6.1)+(Int.toNat ((v6.2.2.1.length):Int) - Int.toNat v6.1))).take (Int.toNat v6.1 - Int.toNat 0)))else none else none)) (v1.1,1,v1.2.1,())else none else some (Sum.inl ((aA .i64 v1.1 1),v1.2.1,()))else oR (some v1.2.1)) (1,s,())
noncomputable def mg:KS U prog:=⟨.cw 252 9 1 y3 [] fun s a=>eo s,JX (K:=K) so 61 [.tmp 2] [] (fk f252 [] func252)⟩
def lE(a0:(List aK)):Option (List ByteArray):=aD (fun(v1:Int×(List ByteArray)×Unit)=>bif (decide (v1.1<((a0.length:Nat):Int)))then(idx a0 v1.1).bind fun x2=>bif bL 16 (v1.2.1.length+x2.de.length)then bif bL 16 (List.length (v1.2.1++x2.de)+x2.bB.length)then some (Sum.inl ((aA .i64 v1.1 1),((v1.2.1++x2.de)++x2.bB),()))else none else none else oR ((gl v1.2.1).bind fun p3=>(eo p3.2).bind fun r4=>some r4)) (0,([]:List ByteArray),())
def wS:=kf func220 [.ty y19] (.one y7) (u1 lE) [] (p_ 5 11 (.ps (.own 3 9 1 y3) (.j ⟨[.val 8 y0,.own 3 5 1 9 1 y3],[6,7]⟩ .e))) [o6,mg]
def mB(a0:aC):Option (List ByteArray):=(mZ (aw a0.ao) a0.aq a0.bf a0.Round).bind fun r1=>(mE r1.1).bind fun r2=>aD (fun(v3:(List ByteArray)×Int×Unit)=>bif (decide (v3.2.1<((r2.length:Nat):Int)))then bu (fun(v4:(List ByteArray)×Unit)=>some (Sum.inl (v4.1,(aA .i64 v3.2.1 1),()))) fun j5=>(idx r2 v3.2.1).bind fun x6=>bif (decide (x6=a0.aq))then bu (fun(v7:(List ByteArray)×Unit)=>j5 (v7.1,())) fun j8=>bif (!decide (a0.oI=(ByteArray.mk #[])))then(iB v3.1 a0.oI).bind fun r9=>j8 (r9,())else j8 (v3.1,())else aD (fun(v10:(List ByteArray)×Int×Unit)=>bif (decide (v10.2.1<((a0.aB.length:Nat):Int)))then bu (fun(v11:(List ByteArray)×Unit)=>some (Sum.inl (v11.1,(aA .i64 v10.2.1 1),()))) fun j12=>(idx a0.aB v10.2.1).bind fun x13=>bif (!decide (x13.aq=x6))then j12 (v10.1,())else(lE [{x13 with ao:=(aw x13.ao)}]).bind fun r14=>aD (fun(v15:(List ByteArray)×Int×Unit)=>bif (decide (v15.2.1<((r14.length:Nat):Int)))then(idx r14 v15.2.1).bind fun x16=>(iB v15.1 x16).bind fun r17=>some (Sum.inl (r17,(aA .i64 v15.2.1 1),()))else oR (j12 (v15.1,()))) (v10.1,0,())else oR (j5 (v10.1,()))) (v3.1,0,())else oR (some v3.1)) (a0.de,0,())
def BB:=kf func165 [t5] (.one y7) (u1 mB) [] (p_ 6 23 (.j ⟨[.val 3 y7,.val 29 y0],[1,27,28]⟩ (p_ 3 6 (.j ⟨[.val 3 y7],[1,27,28,29]⟩ (p_ 3 4 (.b (p_ 2 1 (.j ⟨[.val 3 y7],[1,27,28,29]⟩ .e)) (p_ 2 1 (.j ⟨[.val 3 y7,.val 47 y0],[1,7,27,28,29,45,46]⟩ (p_ 3 6 (.j ⟨[.val 3 y7],[1,7,27,28,29,45,46,47]⟩ (p_ 6 28 (.j ⟨[.val 3 y7,.val 59 y0],[1,7,27,28,29,45,46,47,57,58]⟩ .e)))))))))))) [C2,xK,wR,wS]
noncomputable def nW(a0:Int):Option Bool:=(bif (decide (0<=a0))then some (decide (a0<10))else some false).bind fun b1=>some b1
def wU:=kf func255 [t0] q1 (u1 nW) [] .e []
noncomputable def zm(a0:jQ):Option Bool:=(bif (decide (0<=a0.Ar))then some (decide (a0.Ar<8))else some false).bind fun b1=>(bif b1 then some (decide (0<=a0.Value))else some false).bind fun b2=>(bif b2 then some (decide (a0.Value<=15))else some false).bind fun b3=>some b3
def GG:=kf func329 [.ty (Ty.st .Claim)] q1 (u1 zm) [] .e []
def xn(a0:jQ)(a1:jQ):Option Int:=(dW a0.Ar a1.Ar).bind fun r1=>(dW a0.Value a1.Value).bind fun r2=>(jX [r1,r2]).bind fun r3=>some r3
def D9:=kf func330 [.ty (Ty.st .Claim),.ty (Ty.st .Claim)] q0 (u2 xn) [] .e [kF,sU]
def uj(a0:(List jQ)):Option Bool:=aD (fun(v1:Int×Unit)=>bif (decide (v1.1<((a0.length:Nat):Int)))then(idx a0 v1.1).bind fun x2=>bu (fun(v3:Bool×Unit)=>bif v3.1 then oR (some false)else some (Sum.inl ((aA .i64 v1.1 1),()))) fun j4=>(zm x2).bind fun r5=>bif (!r5)then j4 (true,())else bif (decide (0<v1.1))then(idx a0 (gf .i64 v1.1 1)).bind fun x6=>(xn x6 x2).bind fun r7=>j4 ((decide (0<=r7)),())else j4 (false,())else oR (some true)) (0,())
def GH:=kf func289 [.ty (Ty.sl (Ty.st .Claim))] q1 (u1 uj) [] (p_ 4 5 (.j ⟨[.val 7 y0],[0,5,6]⟩ (p_ 6 38 (.j ⟨[.val 28 y1],[0,5,6,7]⟩ .e)))) [GG,D9]
def vI(a0:iw):Option Bool:=(nW a0.aq).bind fun r1=>(bif r1 then some (decide (1<=a0.aN))else some false).bind fun b2=>(bif b2 then(bP (aw a0.ao)).bind fun r3=>some (decide (r3=0))else some false).bind fun b4=>(bif b4 then(uj a0.de).bind fun r5=>some r5 else some false).bind fun b6=>(bif b6 then(uj a0.bB).bind fun r7=>some r7 else some false).bind fun b8=>some b8
def C4:=kf func253 [.ty (Ty.st .Message)] q1 (u1 vI) [] .e [wU,eM,GH]
noncomputable def AM:SA U:=eX (iU prog 28 [] f254) (.r (.r (.l (.r (.l (.ps (.xX 3 2 27 3 y4) (.j ⟨[.val 15 y0,.box 8 1 y4 [(1,6,1),(2,14,1)],.gz 6 1 3 1 y0,.gz 14 1 27 3 y4],[2,3,13,14]⟩ .e)))))))
noncomputable def j0(rec:(an×Unit)->Option an)(a0:an):Option an:=bif bL 8 (a0.a8.length)then aD (fun(v1:Int×an×(List Int)×(List an)×Unit)=>bif (decide (v1.1<((a0.aM.length:Nat):Int)))then(idx a0.aM v1.1).bind fun x2=>(rec ((aw x2),())).bind fun r3=>bif bL 56 (v1.2.2.2.1.length+List.length [(aw r3)])then some (Sum.inl ((aA .i64 v1.1 1),(an.mk v1.2.1.aH ([]:List Int) ([]:List an)),v1.2.2.1,(v1.2.2.2.1++[(aw r3)]),()))else none else oR (some (an.mk v1.2.1.aH v1.2.2.1 v1.2.2.2.1))) (0,(an.mk a0.aH ([]:List Int) ([]:List an)),a0.a8,([]:List an),())else none
noncomputable def pC:Nat->(an×Unit)->Option an:=im (fun rec a=>j0 rec a.1)
def mF(a0:an):Option an:=pC (SizeOf.sizeOf a0+1) (a0,())
noncomputable def BE:KS U prog:=⟨.fn 254 [t4] (.one y4) fun a=>mF a.1,BM (K:=K) (A_s:=[t4]) (r:= .one y4) (B:=fun rec a=>j0 rec a.1) AM 28 [.cell 2 (some 3)] [] (fk f254 [] func254) (hF:=fun a=>⟨_,rfl⟩)⟩
def nX(a0:Int)(a1:an)(a2:(List iw)):Option aZ:=bif decide ((10:Int)=10)&&decide ((0:Int)<=10)&&bL 64 (Int.toNat 10)then aD (fun(v1:Int×aZ×(List aO)×Unit)=>bif (decide (v1.1<((a2.length:Nat):Int)))then bu (fun(v2:aZ×(List aO)×Unit)=>some (Sum.inl ((aA .i64 v1.1 1),(aZ.mk ([]:List aO)),v2.2.1,()))) fun j3=>(idx a2 v1.1).bind fun x4=>(bif (!decide (x4.aq=a0))then(vI {x4 with ao:=(aw x4.ao)}).bind fun r5=>some r5 else some false).bind fun b6=>bif b6 then(mF (aw x4.ao)).bind fun r7=>(idx v1.2.2.1 x4.aq).bind fun x8=>(v1.2.2.1[(Int.toNat x4.aq)]?).bind fun x9=>j3 ((aZ.mk ([]:List aO)),(v1.2.2.1.set (Int.toNat x4.aq) (aO.mk true (aw r7))),())else j3 ((aZ.mk ([]:List aO)),v1.2.2.1,())else oR (bu (fun(v10:aZ×(List aO)×Unit)=>some (aZ.mk v10.2.1)) fun j11=>(nW a0).bind fun r12=>(bif r12 then(bP (aw a1)).bind fun r13=>some (decide (r13=0))else some false).bind fun b14=>bif b14 then(mF (aw a1)).bind fun r15=>(idx v1.2.2.1 a0).bind fun x16=>(v1.2.2.1[(Int.toNat a0)]?).bind fun x17=>j11 ((aZ.mk ([]:List aO)),(v1.2.2.1.set (Int.toNat a0) (aO.mk true (aw r15))),())else j11 ((aZ.mk ([]:List aO)),v1.2.2.1,()))) (0,(aZ.mk ([]:List aO)),(List.replicate (Int.toNat 10) (aO.mk false (an.mk 0 ([]:List Int) ([]:List an)))),())else none
def D6:=kf func221 [t0,t4,.ty (Ty.sl (Ty.st .Message))] (.one y12) (u3 nX) [] (p_ 2 3 (.b (p_ 2 1 (.j ⟨[.val 14 y0,.box 4 1 y12 [(0,2,1)],.gz 2 1 214 4 y17],[0,4,6,7,12,13]⟩ (p_ 3 6 (.j ⟨[.box 4 1 y12 [(0,2,1)],.gz 2 1 214 4 y17],[0,4,6,7,12,13,14]⟩ .e)))) (.j ⟨[.box 4 1 y12 [(0,2,1)],.gz 2 1 214 4 y17],[6,7]⟩ .e))) [C4,BE,wU,eM]
def mY(a0:aC):Option aZ:=aD (fun(v1:Int×(List iw)×Unit)=>bif (decide (v1.1<((a0.aB.length:Nat):Int)))then(idx a0.aB v1.1).bind fun x2=>bif bL 120 (v1.2.1.length+List.length [(iw.mk x2.aq x2.aN (aw x2.ao) ([]:List jQ) ([]:List jQ))])then some (Sum.inl ((aA .i64 v1.1 1),(v1.2.1++[(iw.mk x2.aq x2.aN (aw x2.ao) ([]:List jQ) ([]:List jQ))]),()))else none else oR ((nX a0.aq (aw a0.ao) v1.2.1).bind fun r3=>some r3)) (0,([]:List iw),())
def CX:=kf func166 [t5] (.one y12) (u1 mY) [] (p_ 2 3 (.b (p_ 2 1 (.ps (.own 3 191 7 (Ty.st .Message)) (.j ⟨[.val 9 y0,.own 3 7 1 191 7 (Ty.st .Message)],[1,2,7,8]⟩ .e))) (.l (.g [(0,.ps (.AG 3))])))) [D6]
noncomputable def lX:SA U:=eX (iU prog 8 [5] f107) (.r (.l (.r (.l (.l (.g [(1,.ps (.own 2 57 7 y16))]))))))
noncomputable def cq(a0:(List aK)):Option (List aK):=bif List.isEmpty a0 then both (some ([]:List aK)) (bif bL 120 (List.length ([]:List aK)+a0.length)then some (([]:List aK)++a0)else none)else bif bL 120 (List.length ([]:List aK)+a0.length)then some (([]:List aK)++a0)else none
noncomputable def gY:KS U prog:=⟨.fw 107 [.ty y19] 57 7 y16 fun a=>cq a.1,OI (K:=K) lX 8 [.tmp 2] [] (fk f107 [5] func107)⟩
def jv(a0:(List aK))(a1:ByteArray):Option (Int×Int×Unit):=aD (fun(v1:Int×Int×Int×Unit)=>bif (decide (v1.2.2.1<((a0.length:Nat):Int)))then bu (fun(v2:Int×Int×Unit)=>some (Sum.inl (v2.1,v2.2.1,(aA .i64 v1.2.2.1 1),()))) fun j3=>(idx a0 v1.2.2.1).bind fun x4=>bu (fun(v5:Int×Unit)=>(iC x4.bB a1).bind fun r7=>bif r7 then if x4.aq<0 then none else j3 (v5.1,(n5 .i64 v1.2.1 (c7 .i64 1 x4.aq)),())else j3 (v5.1,v1.2.1,())) fun j6=>(iC x4.de a1).bind fun r8=>bif r8 then if x4.aq<0 then none else j6 ((n5 .i64 v1.1 (c7 .i64 1 x4.aq)),())else j6 (v1.1,())else oR (some (v1.1,v1.2.1,()))) (0,0,0,())
def tt:=kf func169 [.ty y19,t3] (.many [y0,y0]) (u2 jv) [] (p_ 4 5 (.j ⟨[.val 4 y0,.val 5 y0,.val 10 y0],[1,8,9]⟩ (p_ 3 6 (.j ⟨[.val 4 y0,.val 5 y0],[1,8,9,10]⟩ (p_ 3 4 (.j ⟨[.val 4 y0],[1,5,7,8,9,10]⟩ .e)))))) [rp]
noncomputable def gn(a0:aZ):Option Int:=aD (fun(v1:Int×Int×Unit)=>bif (decide (v1.2.1<((a0.bH.length:Nat):Int)))then bu (fun(v2:Int×Unit)=>some (Sum.inl (v2.1,(aA .i64 v1.2.1 1),()))) fun j3=>(idx a0.bH v1.2.1).bind fun x4=>(bif x4.dt then some (decide (v1.2.1<10))else some false).bind fun b5=>bif b5 then if v1.2.1<0 then none else j3 ((n5 .i64 v1.1 (c7 .i64 1 v1.2.1)),())else j3 (v1.1,())else oR (some v1.1)) (0,0,())
def pa:=kf func267 [t12] q0 (u1 gn) [] (p_ 5 11 (.j ⟨[.val 3 y0,.val 9 y0],[7,8]⟩ (p_ 3 6 (.j ⟨[.val 3 y0],[7,8,9]⟩ .e)))) []
noncomputable def xT:SA U:=eX (iU prog 43 [] f290) (.r (.r (.r (.b (.r (.l (.j ⟨[.val 5 y0,.val 16 y0],[1,2,14,15]⟩ (.l (.r (.r (.j ⟨[.val 5 y0],[1,2,14,15,16]⟩ .e))))))) (.l (.r (.l (.j ⟨[.val 5 y0,.val 29 y0],[1,2,27,28]⟩ (.l (.r (.r (.j ⟨[.val 5 y0],[1,2,27,28,29]⟩ .e))))))))))))
def iJ(rec:(an×Int×Unit)->Option Bool)(a0:an)(a1:Int):Option Bool:=(ep a1).bind fun r1=>bif (!r1)then some false else aD (fun(v2:Int×Int×Unit)=>bif (decide (v2.2.1<((a0.a8.length:Nat):Int)))then bu (fun(v3:Int×Unit)=>some (Sum.inl (v3.1,(aA .i64 v2.2.1 1),()))) fun j4=>(idx a0.a8 v2.2.1).bind fun x5=>(gw a1 x5).bind fun r6=>bif r6 then j4 ((aA .i64 v2.1 1),())else j4 (v2.1,())else oR (aD (fun(v7:Int×Int×Unit)=>bif (decide (v7.2.1<((a0.aM.length:Nat):Int)))then bu (fun(v8:Int×Unit)=>some (Sum.inl (v8.1,(aA .i64 v7.2.1 1),()))) fun j9=>(idx a0.aM v7.2.1).bind fun x10=>(rec ((aw x10),a1,())).bind fun r11=>bif r11 then j9 ((aA .i64 v7.1 1),())else j9 (v7.1,())else oR (some (decide (a0.aH<=v7.1)))) (v2.1,0,()))) (0,0,())
noncomputable def ny:Nat->(an×Int×Unit)->Option Bool:=im (fun rec a=>iJ rec a.1 a.2.1)
def kg(a0:an)(a1:Int):Option Bool:=ny (SizeOf.sizeOf a0+SizeOf.sizeOf a1+1) (a0,a1,())
noncomputable def se:KS U prog:=⟨.fn 290 [t4,t0] q1 fun a=>kg a.1 a.2.1,BM (K:=K) (A_s:=[t4,t0]) (r:= .one y1) (B:=fun rec a=>iJ rec a.1 a.2.1) xT 43 [.tmp 4] [mh,kp] (fk f290 [] func290) (hF:=fun a=>⟨_,rfl⟩)⟩
def kQ(a0:aZ)(a1:Int)(a2:Int):Option Bool:=(ep a2).bind fun r1=>(bif (!r1)then some true else(gn a0).bind fun r2=>(gw r2 a1).bind fun r3=>some (!r3)).bind fun b4=>bif b4 then some false else(idx a0.bH a1).bind fun x5=>if a1<0 then none else(kg (aw x5.ao) (n5 .i64 (uf .i64 1023 a2) (c7 .i64 1 a1))).bind fun r6=>some (!r6)
def vx:=kf func256 [t12,t0,t0] q1 (u3 kQ) [] .e [mh,pa,kp,se]
def kP(a0:aZ)(a1:Int)(a2:Int):Option Bool:=(idx a0.bH a1).bind fun x1=>(kg (aw x1.ao) a2).bind fun r2=>some r2
def C9:=kf func304 [t12,t0,t0] q1 (u3 kP) [] .e [se]
def kO(a0:aZ)(a1:Int):Option (Int×Bool×Unit):=(mE a1).bind fun r1=>aD (fun(v2:Int×Unit)=>bif (decide (v2.1<((r1.length:Nat):Int)))then(idx r1 v2.1).bind fun x3=>(kP a0 x3 a1).bind fun r4=>bif (!r4)then oR (some (x3,true,()))else some (Sum.inl ((aA .i64 v2.1 1),()))else oR (some (0,false,()))) (0,())
def C8:=kf func268 [t12,t0] (.many [y0,y1]) (u2 kO) [] (p_ 4 5 (.j ⟨[.val 11 y0],[1,2,9,10]⟩ .e)) [xK,C9]
def oB(a0:aZ)(a1:Int):Option (Int×(List Int)×Unit):=(ep a1).bind fun r1=>bif (!r1)then some (0,([]:List Int),())else(gn a0).bind fun r2=>aD (fun(v3:Int×(List Int)×Unit)=>(kO a0 v3.1).bind fun r4=>bif (!r4.2.1)then oR (some (v3.1,v3.2.1,()))else bif bL 8 (v3.2.1.length+List.length [r4.1])then if r4.1<0 then none else some (Sum.inl ((uf .i64 v3.1 (c7 .i64 1 r4.1)),(v3.2.1++[r4.1]),()))else none) ((EA .i64 a1 r2),([]:List Int),())
def AU:=kf func232 [t12,t0] (.many [y0,y8]) (u2 oB) [] (p_ 5 15 (.ps (.own 6 3 1 y0) (.j ⟨[.val 1 y0,.own 6 12 1 3 1 y0],[2]⟩ .e))) [mh,pa,C8]
def gp(a0:aZ)(a1:Int):Option Int:=(oB a0 a1).bind fun r1=>some r1.1
def pb:=kf func184 [t12,t0] q0 (u2 gp) [] .e [AU]
def eL(a0:aZ)(a1:Int)(a2:Int)(a3:Int):Option Bool:=(ep a2).bind fun r1=>(bif (!r1)then some true else(ep a3).bind fun r2=>some (!r2)).bind fun b3=>bif b3 then some false else(kQ a0 a1 a3).bind fun r4=>(bif r4 then some true else(gp a0 (n5 .i64 a2 a3)).bind fun r5=>(gw r5 a1).bind fun r6=>some r6).bind fun b7=>some b7
def oy:=kf func222 [t12,t0,t0,t0] q1 (u4 eL) [] .e [mh,vx,pb,kp]
def kK(a0:aC)(a1:aZ):Option (ByteArray×Bool×Unit):=(cq a0.aB).bind fun r1=>(iA (eT0 a0)).bind fun r2=>bif bL 120 (r1.length+List.length [{r2 with ao:=(aw r2.ao)}])then(lE (r1++[{r2 with ao:=(aw r2.ao)}])).bind fun r3=>aD (fun(v4:Int×Unit)=>bif (decide (v4.1<((r3.length:Nat):Int)))then(idx r3 v4.1).bind fun x5=>(jv (r1++[{r2 with ao:=(aw r2.ao)}]) x5).bind fun r6=>(iC a0.bB x5).bind fun r7=>(bif (!r7)then some (decide (((a0.bB.length:Nat):Int)<40))else some false).bind fun b8=>(bif b8 then(eL a1 a0.aq r6.1 r6.2.1).bind fun r9=>some r9 else some false).bind fun b10=>bif b10 then oR (some (x5,true,()))else some (Sum.inl ((aA .i64 v4.1 1),()))else oR (some ((ByteArray.mk #[]),false,()))) (0,())else none
def CY:=kf func167 [t5,t12] (.many [y3,y1]) (u2 kK) [] (p_ 3 3 (.b (.g [(0,.ps (.AG 6))]) (.l (.j ⟨[.val 21 y0],[2,3,6,19,20]⟩ .e)))) [gY,rn,wS,tt,rp,oy]
def et(a0:aZ)(a1:Int)(a2:Int):Option Bool:=(gp a0 a2).bind fun r1=>(gw r1 a1).bind fun r2=>some r2
def nN:=kf func170 [t12,t0,t0] q1 (u3 et) [] .e [pb,kp]
def jc(a0:aC):Option aC:=bu (fun(v1:aC×Unit)=>(mY (eT0 v1.1)).bind fun r3=>(kK (eT0 v1.1) r3).bind fun r4=>aD (fun(v5:ByteArray×Bool×aC×Unit)=>bif v5.2.1 then(iB v5.2.2.1.bB v5.1).bind fun r6=>(kK {v5.2.2.1 with ao:=(aw v5.2.2.1.ao),bB:=r6} r3).bind fun r7=>some (Sum.inl (r7.1,r7.2.1,{v5.2.2.1 with ao:=(aw v5.2.2.1.ao),bB:=r6},()))else oR ((cq v5.2.2.1.aB).bind fun r8=>(iA (eT0 v5.2.2.1)).bind fun r9=>bif bL 120 (r8.length+List.length [{r9 with ao:=(aw r9.ao)}])then aD (fun(v10:Int×aC×Unit)=>bif (decide (v10.1<((v5.2.2.1.bB.length:Nat):Int)))then bu (fun(v11:aC×Unit)=>some (Sum.inl ((aA .i64 v10.1 1),(eT0 v11.1),()))) fun j12=>(idx v5.2.2.1.bB v10.1).bind fun x13=>(jv (r8++[{r9 with ao:=(aw r9.ao)}]) x13).bind fun r14=>(et r3 v10.2.1.aq r14.2.1).bind fun r15=>bif r15 then(iB v10.2.1.bA x13).bind fun r16=>j12 ({v10.2.1 with ao:=(aw v10.2.1.ao),bA:=r16},())else j12 ((eT0 v10.2.1),())else oR (some (eT0 v10.2.1))) (0,(eT0 v5.2.2.1),())else none)) (r4.1,r4.2.1,(eT0 v1.1),())) fun j2=>bif (decide (((a0.bA.length:Nat):Int)=0))then(mB (eT0 a0)).bind fun r17=>j2 ({a0 with ao:=(aw a0.ao),de:=r17},())else j2 ((eT0 a0),())
def sP:=kf func112 [t5] (.one y5) (u1 jc) [] (.r (.j ⟨[.box 0 1 y5 []],[1,2]⟩ (p_ 2 3 (.b (p_ 2 1 (.j ⟨[.val 4 y3,.val 5 y1,.box 0 1 y5 []],[1,2,3]⟩ .e)) (p_ 4 5 (.j ⟨[.val 48 y0,.box 0 1 y5 []],[1,2,3,6,46,47]⟩ (p_ 3 6 (.j ⟨[.box 0 1 y5 []],[1,2,3,6,46,47,48]⟩ .e)))))))) [BB,CX,CY,wR,gY,rn,tt,nN]
def jS(a0:aC):Option aC:=(jR (aw a0.ao)).bind fun r1=>(bl a0.de).bind fun r2=>(bl a0.bB).bind fun r3=>(bl a0.bA).bind fun r4=>aD (fun(v5:Int×aC×(List ByteArray)×(List ByteArray)×(List ByteArray)×(List aK)×Unit)=>bif (decide (v5.1<((a0.aB.length:Nat):Int)))then(idx a0.aB v5.1).bind fun x6=>(jd {x6 with ao:=(aw x6.ao)}).bind fun r7=>bif bL 120 (v5.2.2.2.2.2.1.length+List.length [{r7 with ao:=(aw r7.ao)}])then some (Sum.inl ((aA .i64 v5.1 1),{v5.2.1 with ao:=(aw v5.2.1.ao),de:=([]:List ByteArray),bB:=([]:List ByteArray),bA:=([]:List ByteArray),aB:=([]:List aK)},v5.2.2.1,v5.2.2.2.1,v5.2.2.2.2.1,(v5.2.2.2.2.2.1++[{r7 with ao:=(aw r7.ao)}]),()))else none else oR (some {v5.2.1 with ao:=(aw v5.2.1.ao),de:=v5.2.2.1,bB:=v5.2.2.2.1,bA:=v5.2.2.2.2.1,aB:=v5.2.2.2.2.2.1})) (0,{a0 with ao:=(aw r1),de:=([]:List ByteArray),bB:=([]:List ByteArray),bA:=([]:List ByteArray),aB:=([]:List aK)},r2,r3,r4,([]:List aK),())
def uL:=kf func111 [t5] (.one y5) (u1 jS) [] (p_ 7 47 (.ps (.xX 1 11 57 7 y16) (.j ⟨[.val 27 y0,.box 0 1 y5 [(8,7,1),(9,10,1),(10,13,1),(11,30,1)],.gz 7 1 9 1 y3,.gz 10 1 9 1 y3,.gz 13 1 9 1 y3,.gz 30 1 57 7 y16],[1,2,25,26]⟩ .e))) [uK,eU,sQ]
def jU(a0:Int)(a1:Int)(a2:an)(a3:ByteArray):Option (aC×Int×Unit):=(jk a0).bind fun r1=>bif (!r1)then some ((aC.mk 0 0 0 0 (an.mk 0 ([]:List Int) ([]:List an)) (ByteArray.mk #[]) ([]:List ByteArray) ([]:List ByteArray) ([]:List ByteArray) ([]:List aK)),5,())else(bif (decide (a1<0))then some true else some (decide (1000000<a1))).bind fun b2=>bif b2 then some ((aC.mk 0 0 0 0 (an.mk 0 ([]:List Int) ([]:List an)) (ByteArray.mk #[]) ([]:List ByteArray) ([]:List ByteArray) ([]:List ByteArray) ([]:List aK)),1,())else(bP (aw a2)).bind fun r3=>bif (!decide (r3=0))then some ((aC.mk 0 0 0 0 (an.mk 0 ([]:List Int) ([]:List an)) (ByteArray.mk #[]) ([]:List ByteArray) ([]:List ByteArray) ([]:List ByteArray) ([]:List aK)),r3,())else bif (decide (200<((ByteArray.size a3:Nat):Int)))then some ((aC.mk 0 0 0 0 (an.mk 0 ([]:List Int) ([]:List an)) (ByteArray.mk #[]) ([]:List ByteArray) ([]:List ByteArray) ([]:List ByteArray) ([]:List aK)),3,())else(jc (aC.mk a0 a1 1 1 (aw a2) a3 ([]:List ByteArray) ([]:List ByteArray) ([]:List ByteArray) ([]:List aK))).bind fun r4=>(jS (eT0 r4)).bind fun r5=>some ((eT0 r5),0,())
def BC:=kf func56 [t0,t0,t4,t3] (.many [y5,y0]) (u4 jU) [] .e [qt,eM,sP,uL]
noncomputable def og(a0:Int):Option Int:=some (aA .i64 (bn (dp a0 11) 0) 1)
def vi:=kf func58 [t0] q0 (u1 og) [] .e []
def ib(a0:(List ByteArray)):Option (ByteArray×Bool×Unit):=aD (fun(v1:ByteArray×Int×Unit)=>bif (decide (v1.2.1<((a0.length:Nat):Int)))then bu (fun(v2:ByteArray×Unit)=>some (Sum.inl (v2.1,(aA .i64 v1.2.1 1),()))) fun j3=>(idx a0 v1.2.1).bind fun x4=>(mC x4).bind fun r5=>(bif r5 then(dE x4 v1.1).bind fun r6=>some (decide (0<r6))else some false).bind fun b7=>bif b7 then j3 (x4,())else j3 (v1.1,())else oR (some (v1.1,(!decide (v1.1=(ByteArray.mk #[]))),()))) ((ByteArray.mk #[]),0,())
def yf:=kf func113 [t7] (.many [y3,y1]) (u1 ib) [] (p_ 5 11 (.j ⟨[.val 4 y3,.val 9 y0],[7,8]⟩ (p_ 3 6 (.j ⟨[.val 4 y3],[7,8,9]⟩ .e)))) [uJ,kT]
def jY(a0:(List af)):Option af:=aD (fun(v1:Int×af×Unit)=>bif (decide (v1.1<((a0.length:Nat):Int)))then bu (fun(v2:af×Unit)=>some (Sum.inl ((aA .i64 v1.1 1),v2.1,()))) fun j3=>(idx a0 v1.1).bind fun x4=>(bif (decide (v1.1=0))then some true else(dj v1.2.1 x4).bind fun r5=>some r5).bind fun b6=>bif b6 then j3 (x4,())else j3 (v1.2.1,())else oR (some v1.2.1)) (0,zB,())
def BJ:=kf func185 [.ty y26] (.one y2) (u1 jY) [] (p_ 5 11 (.j ⟨[.val 8 y0,.box 1 1 y2 []],[2,3,6,7]⟩ (p_ 3 6 (.j ⟨[.box 1 1 y2 []],[2,3,6,7,8]⟩ .e)))) [gB]
def dI(a0:av):Option ByteArray:=(aW a0.aj.ar).bind fun r1=>bif (!r1)then some a0.aj.ar.Value else bif (!decide (a0.aj.aJ=1))then some a0.aj.aa.Value else bif (!decide (a0.aj.bh=(ByteArray.mk #[])))then some a0.aj.bh else aD (fun(v2:Int×(List af)×Unit)=>bif (decide (v2.1<((a0.aj.aB.length:Nat):Int)))then(idx a0.aj.aB v2.1).bind fun x3=>bif bL 24 (v2.2.1.length+List.length [x3.aa])then some (Sum.inl ((aA .i64 v2.1 1),(v2.2.1++[x3.aa]),()))else none else oR ((jY v2.2.1).bind fun r4=>some r4.Value)) (0,([]:List af),())
def mO:=kf func124 [.ref (.ty y6)] (.one y3) (u1 dI) [] (p_ 6 23 (.ps (.own 3 33 2 y2) (.j ⟨[.val 51 y0,.own 3 31 1 33 2 y2],[49,50]⟩ .e))) [bx,BJ]
def lL(s:av)(a0:ByteArray):Option (Int×av):=(bif (decide (((ByteArray.size a0:Nat):Int)<1))then some true else some (decide (200<((ByteArray.size a0:Nat):Int)))).bind fun b1=>bif b1 then some (1,(av.mk (eT2 s.aj)))else bu (fun(v2:av×Unit)=>some (0,(av.mk (eT2 v2.1.aj)))) fun j3=>(aW s.aj.aa).bind fun r4=>bif r4 then(dI (av.mk {s.aj with ao:=(aw s.aj.ao),bh:=a0})).bind fun r5=>j3 ((av.mk {s.aj with ao:=(aw s.aj.ao),aa:=(af.mk 1 r5),bh:=a0}),())else j3 ((av.mk {s.aj with ao:=(aw s.aj.ao),bh:=a0}),())
def AS:=kr func171 0 y6 [.ref (t3)] q0 (fun s a=>lL s a.1) [] (p_ 3 7 (.j ⟨[.box 0 0 y6 []],[]⟩ .e)) [bx,mO]
def cz(s:av):Option ((Unit)×av):=(aW s.aj.aa).bind fun r1=>(bif (!r1)then some (decide (s.aj.aN=0))else some false).bind fun b2=>bif b2 then some ((()),(av.mk {s.aj with aN:=1,ao:=(aw s.aj.ao)}))else some ((()),(av.mk (eT2 s.aj)))
def qg:=kr func225 0 y6 [] (.many []) (fun s a=>cz s) [] .e [bx]
noncomputable def er(a0:av):Option As:=some (As.mk a0.aj.aJ a0.aj.aQ a0.aj.bg a0.aj.aa a0.aj.ak a0.aj.au a0.aj.ar)
def z1:=kf func259 [.ref (.ty y6)] (.one (Ty.st .oI)) (u1 er) [] .e []
noncomputable def nJ:SA U:=eX (iU prog 8 [5] f179) (.r (.l (.r (.l (.l (.g [(1,.ps (.own 2 64 15 y11))]))))))
noncomputable def cW(a0:(List ai)):Option (List ai):=bif List.isEmpty a0 then both (some ([]:List ai)) (bif bL 176 (List.length ([]:List ai)+a0.length)then some (([]:List ai)++a0)else none)else bif bL 176 (List.length ([]:List ai)+a0.length)then some (([]:List ai)++a0)else none
noncomputable def iZ:KS U prog:=⟨.fw 179 [t14] 64 15 y11 fun a=>cW a.1,OI (K:=K) nJ 8 [.tmp 2] [] (fk f179 [5] func179)⟩
def cu(s:av):Option ((List ai)×av):=(aW s.aj.aa).bind fun r1=>bif r1 then some (s.aj.aB,(av.mk (eT2 s.aj)))else(cW s.aj.aB).bind fun r2=>(cY (eT2 s.aj)).bind fun r3=>bif bL 176 (r2.length+List.length [(eT1 r3)])then some ((r2++[(eT1 r3)]),(av.mk (eT2 s.aj)))else none
def z6:=kr func293 0 y6 [] (.one y14) (fun s a=>cu s) [] .e [bx,iZ,jh]
theorem xo:∀s a q,(fun s a=>cu s:av->(Unit)->Option ((List ai)×av)) s a=some q->q.2=s:=by intro s a q h;simp only[cu,cond_eq_ite,etas,ai.eta,ab.eta,av.eta]at h;repeat' (first|(rw[Qc]at h;obtain⟨_,_,h⟩:=h)|(split at h)|(exact(congrArg Prod.snd (Option.some.inj h)).symm)|(cases h;done))
noncomputable def iH:KS U prog:=⟨.ro 293 0 y6 [] (.one y14) fun s a=>cu s,XO z6.s xo⟩
def nD(a0:Int)(a1:an)(a2:(List ai)):Option aZ:=bif decide ((10:Int)=10)&&decide ((0:Int)<=10)&&bL 64 (Int.toNat 10)then(bif (decide (a0<0))then some true else some (decide (10<=a0))).bind fun b1=>bif b1 then some (aZ.mk (List.replicate (Int.toNat 10) (aO.mk false (an.mk 0 ([]:List Int) ([]:List an)))))else(eZ (aw a1)).bind fun r2=>(idx (List.replicate (Int.toNat 10) (aO.mk false (an.mk 0 ([]:List Int) ([]:List an)))) a0).bind fun x3=>((List.replicate (Int.toNat 10) (aO.mk false (an.mk 0 ([]:List Int) ([]:List an))))[(Int.toNat a0)]?).bind fun x4=>aD (fun(v5:Int×aZ×(List aO)×Unit)=>bif (decide (v5.1<((a2.length:Nat):Int)))then bu (fun(v6:aZ×(List aO)×Unit)=>some (Sum.inl ((aA .i64 v5.1 1),(aZ.mk ([]:List aO)),v6.2.1,()))) fun j7=>(idx a2 v5.1).bind fun x8=>(dn (eT1 x8)).bind fun r9=>(bif r9 then(idx v5.2.2.1 x8.aq).bind fun x10=>(v5.2.2.1[(Int.toNat x8.aq)]?).bind fun x11=>(v5.2.2.1[(Int.toNat x8.aq)]?).bind fun x12=>some (!x12.dt)else some false).bind fun b13=>bif b13 then(eZ (aw x8.ao)).bind fun r14=>(idx v5.2.2.1 x8.aq).bind fun x15=>(v5.2.2.1[(Int.toNat x8.aq)]?).bind fun x16=>j7 ((aZ.mk ([]:List aO)),(v5.2.2.1.set (Int.toNat x8.aq) (aO.mk true (aw r14))),())else j7 ((aZ.mk ([]:List aO)),v5.2.2.1,())else oR (some (aZ.mk v5.2.2.1))) (0,(aZ.mk ([]:List aO)),((List.replicate (Int.toNat 10) (aO.mk false (an.mk 0 ([]:List Int) ([]:List an)))).set (Int.toNat a0) (aO.mk true (aw r2))),())else none
def yK:=kf func229 [t0,t4,t14] (.one y12) (u3 nD) [] (p_ 7 47 (.j ⟨[.val 28 y0,.box 4 1 y12 [(0,2,1)],.gz 2 1 214 4 y17],[6,7,26,27]⟩ (p_ 3 6 (.j ⟨[.box 4 1 y12 [(0,2,1)],.gz 2 1 214 4 y17],[6,7,26,27,28]⟩ .e)))) [lh,fL]
def mH(a0:(List ai)):Option (List bc):=aD (fun(v1:Int×(List bc)×Unit)=>bif (decide (v1.1<((a0.length:Nat):Int)))then bu (fun(v2:(List bc)×Unit)=>some (Sum.inl ((aA .i64 v1.1 1),v2.1,()))) fun j3=>(idx a0 v1.1).bind fun x4=>(dn (eT1 x4)).bind fun r5=>bif r5 then bif bL 176 (v1.2.1.length+List.length [(bc.mk (eT1 x4))])then j3 ((v1.2.1++[(bc.mk (eT1 x4))]),())else none else j3 (v1.2.1,())else oR (some v1.2.1)) (0,([]:List bc),())
def BH:=kf func230 [t14] (.one (Ty.sl (Ty.st .pU))) (u1 mH) [] (p_ 5 11 (.ps (.own 3 175 15 y15) (.j ⟨[.val 8 y0,.own 3 5 1 175 15 y15],[6,7]⟩ (p_ 3 6 (.j ⟨[.own 3 5 1 175 15 y15],[6,7,8]⟩ .e))))) [fL]
def dM(a0:Int)(a1:an)(a2:(List ai)):Option eN:=(nD a0 (aw a1) a2).bind fun r1=>(mH a2).bind fun r2=>some (eN.mk a0 r1 r2)
def lg:=kf func178 [t0,t4,t14] (.one y10) (u3 dM) [] .e [yK,BH]
def hY(a0:(List af)):Option Int:=aD (fun(v1:Int×Unit)=>bif (decide (v1.1<((a0.length:Nat):Int)))then(idx a0 v1.1).bind fun x2=>(aW x2).bind fun r3=>bif r3 then oR (some v1.1)else some (Sum.inl ((aA .i64 v1.1 1),()))else oR (some (-1:Int))) (0,())
def mN:=kf func380 [.ty y26,.bj 86 []] q0 (fun a=>hY a.1) [] (p_ 4 5 (.j ⟨[.val 8 y0],[0,1,7]⟩ .e)) [bx]
noncomputable def lP:SA U:=eX (iU prog 42 [] f359) (.r (.r (.r (.b (.r (.l (.j ⟨[.val 5 y0,.val 6 y0,.own 0 0 0 33 2 y2],[1]⟩ (.l (.r (.j ⟨[.val 5 y0,.own 0 0 0 33 2 y2],[1,6]⟩ .e)))))) (.r (.l (.g [(4,.ps (.cut 4))])))))))
def df(s:List af):Option (List af):=(hY s).bind fun r1=>bif (decide (r1=(-1:Int)))then some s else aD (fun(v2:Int×Int×(List af)×Unit)=>bif (decide (v2.2.1<((v2.2.2.1.length:Nat):Int)))then bu (fun(v3:Int×(List af)×Unit)=>some (Sum.inl (v3.1,(aA .i64 v2.2.1 1),v3.2.1,()))) fun j4=>(idx v2.2.2.1 v2.2.1).bind fun x5=>(v2.2.2.1[(Int.toNat v2.2.1)]?).bind fun x6=>(aW x6).bind fun r7=>bif (!r7)then(idx v2.2.2.1 v2.1).bind fun x8=>(v2.2.2.1[(Int.toNat v2.1)]?).bind fun x9=>j4 ((aA .i64 v2.1 1),(v2.2.2.1.set (Int.toNat v2.1) x6),())else j4 (v2.1,v2.2.2.1,())else oR (bif dO v2.1 ((v2.2.2.1.length):Int) (v2.2.2.1.length)then bif dO 0 v2.1 (List.length (v2.2.2.1.take (Int.toNat v2.1)++List.replicate (Int.toNat ((v2.2.2.1.length):Int) - Int.toNat v2.1) zB++v2.2.2.1.drop ((Int.toNat v2.1)+(Int.toNat ((v2.2.2.1.length):Int) - Int.toNat v2.1))))then some ((v2.2.2.1.take (Int.toNat v2.1)++List.replicate (Int.toNat ((v2.2.2.1.length):Int) - Int.toNat v2.1) zB++v2.2.2.1.drop ((Int.toNat v2.1)+(Int.toNat ((v2.2.2.1.length):Int) - Int.toNat v2.1))).take (Int.toNat v2.1 - Int.toNat 0))else none else none)) (r1,(aA .i64 r1 1),s,())
noncomputable def mf:KS U prog:=⟨.cw 359 33 2 y2 [.bj 86 []] fun s a=>df s,JX (K:=K) lP 42 [.tmp 4] [mN,bx] (fk f359 [] func359)⟩
def kj(a0:af)(a1:af):Option Int:=(kR a1 a0).bind fun r1=>some r1
def yS:=kf func360 [t2,t2] q0 (u2 kj) [] .e [vz]
def eB(s:List af):Option (Unit×List af):=vb (fun x y=>kj x y) s
noncomputable def mM:KS U prog:=⟨.rw 378 33 2 y2 [.bj 360 []] (.many []) fun s a=>eB s,VV EL.enters EL.none yS.s ⟨⟨0,ByteArray.mk #[]⟩⟩ (fun _=>rfl) EL.Ck (by decide) (fun _=>rfl) (fun _=>rfl)⟩
noncomputable def n4:SA U:=eX (iU prog 61 [] f379) (.r (.r (.l (.r (.l (.j ⟨[.val 3 y0,.own 0 0 0 33 2 y2],[]⟩ (.l (.r (.l (.l (.r (.l (.r (.b (.r (.l (.j ⟨[.val 3 y0,.val 5 y0,.own 0 0 0 33 2 y2],[4]⟩ (.l (.r (.j ⟨[.val 3 y0,.own 0 0 0 33 2 y2],[4,5]⟩ .e)))))) (.r (.l (.g [(4,.ps (.cut 2))])))))))))))))))))
noncomputable def fP(s:List af):Option (List af):=bif (decide (((s.length:Nat):Int)<2))then some s else aD (fun(v1:Int×(List af)×Unit)=>bif (decide (v1.1<((v1.2.1.length:Nat):Int)))then(idx v1.2.1 v1.1).bind fun x2=>(v1.2.1[(Int.toNat v1.1)]?).bind fun x3=>(idx v1.2.1 (gf .i64 v1.1 1)).bind fun x4=>(v1.2.1[(Int.toNat (gf .i64 v1.1 1))]?).bind fun x5=>bif (lN false x3.ae x5.ae x3.Value x5.Value)then bif dO v1.1 ((v1.2.1.length):Int) (v1.2.1.length)then aD (fun(v6:Int×Int×(List af)×Unit)=>bif (decide (v6.2.1<((List.length ((v6.2.2.1.drop (Int.toNat v1.1)).take (Int.toNat ((v1.2.1.length):Int) - Int.toNat v1.1)):Nat):Int)))then bu (fun(v7:Int×(List af)×Unit)=>some (Sum.inl (v7.1,(aA .i64 v6.2.1 1),v7.2.1,()))) fun j8=>(idx ((v6.2.2.1.drop (Int.toNat v1.1)).take (Int.toNat ((v1.2.1.length):Int) - Int.toNat v1.1)) v6.2.1).bind fun x9=>(v6.2.2.1[((Int.toNat v1.1)+Int.toNat v6.2.1)]?).bind fun x10=>(idx ((v6.2.2.1.drop (Int.toNat v1.1)).take (Int.toNat ((v1.2.1.length):Int) - Int.toNat v1.1)) (gf .i64 v6.2.1 1)).bind fun x11=>(v6.2.2.1[((Int.toNat v1.1)+Int.toNat (gf .i64 v6.2.1 1))]?).bind fun x12=>bif (lN true x10.ae x12.ae x10.Value x12.Value)then(idx ((v6.2.2.1.drop (Int.toNat v1.1)).take (Int.toNat ((v1.2.1.length):Int) - Int.toNat v1.1)) v6.2.1).bind fun x13=>(v6.2.2.1[((Int.toNat v1.1)+Int.toNat v6.2.1)]?).bind fun x14=>(idx v6.2.2.1 v6.1).bind fun x15=>(v6.2.2.1[(Int.toNat v6.1)]?).bind fun x16=>j8 ((aA .i64 v6.1 1),(v6.2.2.1.set (Int.toNat v6.1) x14),())else j8 (v6.1,v6.2.2.1,())else oR (bif dO v6.1 ((v6.2.2.1.length):Int) (v6.2.2.1.length)then bif dO 0 v6.1 (List.length (v6.2.2.1.take (Int.toNat v6.1)++List.replicate (Int.toNat ((v6.2.2.1.length):Int) - Int.toNat v6.1) zB++v6.2.2.1.drop ((Int.toNat v6.1)+(Int.toNat ((v6.2.2.1.length):Int) - Int.toNat v6.1))))then oR (some ((v6.2.2.1.take (Int.toNat v6.1)++List.replicate (Int.toNat ((v6.2.2.1.length):Int) - Int.toNat v6.1) zB++v6.2.2.1.drop ((Int.toNat v6.1)+(Int.toNat ((v6.2.2.1.length):Int) - Int.toNat v6.1))).take (Int.toNat v6.1 - Int.toNat 0)))else none else none)) (v1.1,1,v1.2.1,())else none else some (Sum.inl ((aA .i64 v1.1 1),v1.2.1,()))else oR (some v1.2.1)) (1,s,())
noncomputable def ox:KS U prog:=⟨.cw 379 33 2 y2 [] fun s a=>fP s,JX (K:=K) n4 61 [.tmp 2] [] (fk f379 [] func379)⟩
noncomputable def pI:SA U:=eX (iU prog 10 [] f358) .e
def dC(s:List af):Option (List af):=(eB s).bind fun p1=>(fP p1.2).bind fun r2=>some r2
noncomputable def qu:KS U prog:=⟨.cw 358 33 2 y2 [.bj 360 []] fun s a=>dC s,JX (K:=K) pI 10 [.tmp 4] [mM,ox] (fk f358 [] func358)⟩
def fQ(a0:(List ai)):Option (List af):=aD (fun(v1:Int×(List af)×Unit)=>bif (decide (v1.1<((a0.length:Nat):Int)))then bu (fun(v2:(List af)×Unit)=>some (Sum.inl ((aA .i64 v1.1 1),v2.1,()))) fun j3=>(idx a0 v1.1).bind fun x4=>(dn (eT1 x4)).bind fun r5=>bif (!r5)then j3 (v1.2.1,())else bif (decide (x4.bW=1))then bif bL 24 (v1.2.1.length+List.length [x4.aa,x4.ak,x4.au])then j3 ((v1.2.1++[x4.aa,x4.ak,x4.au]),())else none else bif (decide (x4.bW=2))then(lp (eT1 x4) 1000000).bind fun r6=>bif bL 24 (v1.2.1.length+List.length [x4.ak,r6])then j3 ((v1.2.1++[x4.ak,r6]),())else none else(lp (eT1 x4) 1000000).bind fun r7=>bif bL 24 (v1.2.1.length+List.length [r7])then j3 ((v1.2.1++[r7]),())else none else oR ((df v1.2.1).bind fun r8=>(dC r8).bind fun r9=>some r9)) (0,([]:List af),())
def tw:=kf func332 [t14] (.one y26) (u1 fQ) [] (p_ 5 11 (.ps (.own 3 33 2 y2) (.j ⟨[.val 8 y0,.own 3 5 1 33 2 y2],[6,7]⟩ (p_ 3 6 (.j ⟨[.own 3 5 1 33 2 y2],[6,7,8]⟩ .e))))) [fL,yR,mf,qu]
noncomputable def gK(a0:af):Option af:=bu (fun(v1:af×Unit)=>some v1.1) fun j2=>bif (decide (1000<=a0.ae))then j2 ((af.mk 1000000 a0.Value),())else j2 (a0,())
def CV:=kf func333 [t2] (.one y2) (u1 gK) [] (.r (.j ⟨[.box 0 1 y2 []],[1,2]⟩ .e)) []
noncomputable def kJ(a0:af):Option (af×Unit):=some (a0,())
def vq:=kf func336 [t2] (.fn (.bj 364 [.ref (t2)])) (fun a=>kJ a.1) [] .e []
def fW(a0:bc)(a1:af):Option Bool:=(aW a1).bind fun r1=>bif r1 then some false else bif (decide (a0.ax.bW=1))then(iD a0.ax.aa a1).bind fun r2=>some r2 else(bz a0.ax.aa a1).bind fun r3=>some r3
def sS:=kf func363 [t15,t2] q1 (u2 fW) [] .e [bx,rA,cr]
def mS(a0:bc)(a1:af):Option Bool:=(fW (bc.mk (eT1 a0.ax)) a1).bind fun r1=>some r1
def ye:=kf func362 [t15,.ref (t2)] q1 (u2 mS) [] .e [sS]
def fC(a0:bc)(a1:af):Option Bool:=(aW a1).bind fun r1=>bif r1 then some false else bif (decide (a0.ax.bW=1))then(fq a0.ax.ak a0.ax.au a1).bind fun r2=>some r2 else bif (decide (a0.ax.bW=2))then(iD a0.ax.ak a1).bind fun r3=>some r3 else(bz a0.ax.aa a1).bind fun r4=>some r4
def ru:=kf func365 [t15,t2] q1 (u2 fC) [] .e [bx,mm,rA,cr]
def ju(a0:bc)(a1:af):Option Bool:=(fC (bc.mk (eT1 a0.ax)) a1).bind fun r1=>some r1
def tr:=kf func364 [t15,.ref (t2)] q1 (u2 ju) [] .e [ru]
def gM(a0:bc)(a1:af)(a2:af):Option Bool:=(mS (bc.mk (eT1 a0.ax)) a1).bind fun r1=>(bif r1 then some true else(ju (bc.mk (eT1 a0.ax)) a2).bind fun r2=>some r2).bind fun b3=>some b3
def qq:=kf func381 [t15,.ref (.bj 362 [.ref (t2)]),.ref (.bj 364 [.ref (t2)])] q1 (fun a=>gM a.1 a.2.1.1 a.2.2.1.1) [] .e [ye,tr]
def ff(a0:eN)(a1:af)(a2:af):Option Int:=aD (fun(v1:Int×Int×Unit)=>bif (decide (v1.2.1<((a0.aB.length:Nat):Int)))then bu (fun(v2:Int×Unit)=>some (Sum.inl (v2.1,(aA .i64 v1.2.1 1),()))) fun j3=>(idx a0.aB v1.2.1).bind fun x4=>(gM (bc.mk (eT1 x4.ax)) a1 a2).bind fun r5=>bif r5 then if x4.ax.aq<0 then none else j3 ((n5 .i64 v1.1 (c7 .i64 1 x4.ax.aq)),())else j3 (v1.1,())else oR (some v1.1)) (0,0,())
def qH:=kf func180 [t10,.bj 381 [.ref (.bj 362 [.ref (t2)]),.ref (.bj 364 [.ref (t2)])]] q0 (fun a=>ff a.1 a.2.1.1.1 a.2.1.2.1.1) [] (p_ 5 11 (.j ⟨[.val 5 y0,.val 11 y0],[1,9,10]⟩ (p_ 3 6 (.j ⟨[.val 5 y0],[1,9,10,11]⟩ .e)))) [qq]
def gI(a0:eN)(a1:af):Option Int:=aD (fun(v1:Int×Int×Unit)=>bif (decide (v1.2.1<((a0.aB.length:Nat):Int)))then bu (fun(v2:Int×Unit)=>some (Sum.inl (v2.1,(aA .i64 v1.2.1 1),()))) fun j3=>(idx a0.aB v1.2.1).bind fun x4=>(ju (bc.mk (eT1 x4.ax)) a1).bind fun r5=>bif r5 then if x4.ax.aq<0 then none else j3 ((n5 .i64 v1.1 (c7 .i64 1 x4.ax.aq)),())else j3 (v1.1,())else oR (some v1.1)) (0,0,())
def qf:=kf func180 [t10,.bj 364 [.ref (t2)]] q0 (fun a=>gI a.1 a.2.1.1) [] (p_ 5 11 (.j ⟨[.val 5 y0,.val 11 y0],[1,9,10]⟩ (p_ 3 6 (.j ⟨[.val 5 y0],[1,9,10,11]⟩ .e)))) [tr]
def iz(a0:eN)(a1:af)(a2:af):Option Bool:=(ff a0 a1 a2).bind fun r1=>(gI a0 a2).bind fun r2=>(eL a0.View a0.aq r1 r2).bind fun r3=>some r3
def rl:=kf func361 [t10,.bj 362 [.ref (t2)],.bj 364 [.ref (t2)]] q1 (fun a=>iz a.1 a.2.1.1 a.2.2.1.1) [] .e [qH,qf,oy]
def fB(a0:eN)(a1:af):Option Bool:=(kJ a1).bind fun r1=>(iz a0 a1 r1.1).bind fun r2=>some r2
def zX:=kf func334 [t10,t2] q1 (u2 fB) [] .e [vq,rl]
def ll(a0:Int)(a1:an)(a2:(List ai))(a3:af)(a4:af)(a5:ByteArray):Option af:=(dM a0 (aw a1) a2).bind fun r1=>(fQ a2).bind fun r2=>aD (fun(v3:Int×af×Unit)=>bif (decide (v3.1<((r2.length:Nat):Int)))then(idx r2 v3.1).bind fun x4=>bu (fun(v5:Bool×Unit)=>bif v5.1 then oR (some x4)else some (Sum.inl ((aA .i64 v3.1 1),v3.2.1,()))) fun j6=>bif (decide (a5=(ByteArray.mk #[])))then(gK a3).bind fun r7=>(gK a4).bind fun r8=>(fq r7 r8 x4).bind fun r9=>bif (!r9)then(fB r1 x4).bind fun r10=>j6 (r10,())else j6 (false,())else bif (decide (x4.Value=a5))then(gK a3).bind fun r11=>(gK a4).bind fun r12=>(fq r11 r12 x4).bind fun r13=>bif (!r13)then(fB r1 x4).bind fun r14=>j6 (r14,())else j6 (false,())else j6 (false,())else oR (some zB)) (0,zB,())
def GB:=kf func292 [t0,t4,t14,t2,t2,t3] (.one y2) (u6 ll) [] (p_ 5 11 (.j ⟨[.val 23 y0,.box 3 1 y2 []],[5,9,10,12,13,21,22]⟩ (p_ 6 38 (.j ⟨[.val 48 y1],[5,9,10,12,13,15,21,22,23]⟩ .e)))) [lg,tw,CV,mm,zX]
def p6(a0:af)(a1:af)(a2:af):Option (af×af×Unit):=bu (fun(v1:af×af×af×Unit)=>some (a0,v1.1,())) fun j2=>(aW a2).bind fun r3=>bif r3 then j2 (a1,zB,zB,())else(aW a0).bind fun r4=>bif r4 then some (a2,a1,())else(dj a0 a2).bind fun r5=>bif r5 then bu (fun(v6:af×Unit)=>some (a2,v6.1,())) fun j7=>(bz a0 a2).bind fun r8=>bif (!r8)then j7 (a0,())else(bz a1 a2).bind fun r9=>bif r9 then j7 (zB,())else j7 (a1,())else(dj a2 a0).bind fun r10=>(bif r10 then(bz a0 a2).bind fun r11=>some (!r11)else some false).bind fun b12=>(bif b12 then(aW a1).bind fun r13=>(bif r13 then some true else(dj a1 a2).bind fun r14=>some r14).bind fun b15=>some b15 else some false).bind fun b16=>bif b16 then some (a0,a2,())else j2 (a1,zB,zB,())
def GC:=kf func294 [t2,t2,t2] (.many [y2,y2]) (u3 p6) [] (.r (.j ⟨[.box 1 1 y2 [],.box 3 1 y2 [],.box 4 1 y2 []],[3,4,6,7]⟩ (p_ 8 124 (.j ⟨[.box 1 1 y2 []],[3,4,5,6,7]⟩ .e)))) [bx,gB,cr]
def lI(a0:ByteArray)(a1:Int)(a2:af)(a3:af):Option Int:=aD (fun(v1:Int×Int×Unit)=>bif (decide (v1.2.1<((List.length [a2,a3]:Nat):Int)))then bu (fun(v2:Int×Unit)=>some (Sum.inl (v2.1,(aA .i64 v1.2.1 1),()))) fun j3=>(idx [a2,a3] v1.2.1).bind fun x4=>(fg x4).bind fun r5=>(bif (!r5)then some true else(dm x4 (af.mk v1.1 a0)).bind fun r6=>some (!r6)).bind fun b7=>bif b7 then j3 (v1.1,())else(dm x4 (af.mk x4.ae a0)).bind fun r8=>bif r8 then j3 ((aA .i64 x4.ae 1),())else j3 (x4.ae,())else oR (some v1.1)) ((bn a1 1),0,())
def wX:=kf func295 [t3,t0,t2,t2] q0 (u4 lI) [] (p_ 5 11 (.j ⟨[.val 9 y0,.val 18 y0],[0,16,17]⟩ (p_ 3 6 (.j ⟨[.val 9 y0],[0,16,17,18]⟩ .e)))) [ml,rB]
def iN(s:av):Option ((Unit)×av):=(aW s.aj.aa).bind fun r1=>(bif r1 then some true else some (decide (s.aj.aJ=3))).bind fun b2=>bif b2 then some ((()),(av.mk (eT2 s.aj)))else bu (fun(v3:ByteArray×Unit)=>(cu (av.mk (eT2 s.aj))).bind fun p5=>(ll s.aj.aq (aw s.aj.ao) p5.1 s.aj.ak s.aj.au v3.1).bind fun r6=>(aW r6).bind fun r7=>bif r7 then some ((()),(av.mk (eT2 s.aj)))else(p6 s.aj.ak s.aj.au (af.mk (dp r6.ae 1000) r6.Value)).bind fun r8=>(bif (decide (s.aj.aJ=1))then some (!decide (s.aj.aQ=0))else some false).bind fun b9=>bif b9 then(lI s.aj.aa.Value s.aj.aQ r8.1 r8.2.1).bind fun r10=>(cY {s.aj with ao:=(aw s.aj.ao),ak:=r8.1,au:=r8.2.1,aQ:=r10}).bind fun r11=>bif (decide (r11.bg<r10))then some ((()),(av.mk {s.aj with ao:=(aw s.aj.ao),ak:=r8.1,au:=r8.2.1,aQ:=0}))else some ((()),(av.mk {s.aj with ao:=(aw s.aj.ao),ak:=r8.1,au:=r8.2.1,aQ:=r10}))else some ((()),(av.mk {s.aj with ao:=(aw s.aj.ao),ak:=r8.1,au:=r8.2.1}))) fun j4=>bif (decide (s.aj.aJ=2))then j4 (s.aj.aa.Value,())else j4 ((ByteArray.mk #[]),())
def vV:=kr func260 0 y6 [] (.many []) (fun s a=>iN s) [] (p_ 2 3 (.j ⟨[.val 2 y3],[0]⟩ .e)) [bx,iH,GB,GC,wX,jh]
def dL(a0:eN)(a1:af):Option Bool:=(gI a0 a1).bind fun r1=>(et a0.View a0.aq r1).bind fun r2=>some r2
def tU:=kf func335 [t10,.bj 364 [.ref (t2)]] q1 (fun a=>dL a.1 a.2.1.1) [] .e [qf,nN]
def jj(a0:Int)(a1:an)(a2:(List ai))(a3:af):Option af:=(dM a0 (aw a1) a2).bind fun r1=>(fQ a2).bind fun r2=>aD (fun(v3:Int×af×Unit)=>bif (decide (v3.1<((r2.length:Nat):Int)))then(idx r2 v3.1).bind fun x4=>bu (fun(v5:Bool×Unit)=>bif v5.1 then oR (some x4)else some (Sum.inl ((aA .i64 v3.1 1),v3.2.1,()))) fun j6=>(dj a3 x4).bind fun r7=>bif r7 then bif (decide (x4.ae<=1000))then(kJ x4).bind fun r8=>(dL r1 r8.1).bind fun r9=>j6 (r9,())else j6 (false,())else j6 (false,())else oR (some zB)) (0,zB,())
def CW:=kf func296 [t0,t4,t14,t2] (.one y2) (u4 jj) [] (p_ 5 11 (.j ⟨[.val 19 y0,.box 2 1 y2 []],[7,8,9,17,18]⟩ (p_ 6 38 (.j ⟨[.val 36 y1],[7,8,9,11,17,18,19]⟩ .e)))) [lg,tw,gB,vq,tU]
def fZ(s:av)(a0:af):Option ((Unit)×av):=bu (fun(v1:av×Unit)=>some ((()),(av.mk {v1.1.aj with ao:=(aw v1.1.aj.ao),aa:=a0}))) fun j2=>(bz s.aj.aa a0).bind fun r3=>bif (!r3)then j2 ((av.mk {s.aj with ao:=(aw s.aj.ao),aQ:=0}),())else j2 ((av.mk (eT2 s.aj)),())
def nk:=kr func125 0 y6 [t2] (.many []) (fun s a=>fZ s a.1) [] (.r (.j ⟨[.box 0 0 y6 []],[0,3]⟩ .e)) [cr]
def kh(s:av):Option ((Unit)×av):=(aW s.aj.aa).bind fun r1=>(bif r1 then some true else some (!decide (s.aj.aJ=1))).bind fun b2=>bif b2 then some ((()),(av.mk (eT2 s.aj)))else(cu (av.mk (eT2 s.aj))).bind fun p3=>(jj s.aj.aq (aw s.aj.ao) p3.1 s.aj.ar).bind fun r4=>(aW r4).bind fun r5=>bif r5 then some ((()),(av.mk (eT2 s.aj)))else bu (fun(v6:av×Unit)=>bu (fun(v8:Bool×Unit)=>bif v8.1 then(lI r4.Value v6.1.aj.aa.ae v6.1.aj.ak v6.1.aj.au).bind fun r10=>bif (decide (r10<=r4.ae))then some ((()),(av.mk {v6.1.aj with ao:=(aw v6.1.aj.ao),aQ:=r10}))else some ((()),(av.mk (eT2 v6.1.aj)))else some ((()),(av.mk (eT2 v6.1.aj)))) fun j9=>bif (decide (v6.1.aj.aQ=0))then(bz v6.1.aj.aa r4).bind fun r11=>j9 (r11,())else j9 (false,())) fun j7=>(dj s.aj.aa r4).bind fun r12=>bif r12 then(fZ (av.mk {s.aj with ao:=(aw s.aj.ao),ar:=r4}) r4).bind fun p13=>j7 ((av.mk (eT2 p13.2.aj)),())else j7 ((av.mk {s.aj with ao:=(aw s.aj.ao),ar:=r4}),())
def yM:=kr func261 0 y6 [] (.many []) (fun s a=>kh s) [] (p_ 4 15 (.j ⟨[.box 0 0 y6 []],[0,2]⟩ (.r (.j ⟨[.val 67 y1],[0,2]⟩ .e)))) [bx,iH,CW,gB,nk,cr,wX]
def gk(s:List ByteArray):Option (Unit×List ByteArray):=vb (fun x y=>ft x y) s
noncomputable def o5:KS U prog:=⟨.rw 251 9 1 y3 [.bj 284 []] (.many []) fun s a=>gk s,Ma wD.enters wD.none qi.s ⟨ByteArray.mk #[]⟩ (fun _=>rfl) wD.Ck (fun _=>rfl)⟩
noncomputable def sq:SA U:=eX (iU prog 10 [] f366) .e
def eu(s:List ByteArray):Option (List ByteArray):=(gk s).bind fun p1=>(eo p1.2).bind fun r2=>some r2
noncomputable def sR:KS U prog:=⟨.cw 366 9 1 y3 [.bj 284 []] fun s a=>eu s,JX (K:=K) sq 10 [.tmp 4] [o5,mg] (fk f366 [] func366)⟩
def iI(a0:(List ai)):Option (List ByteArray):=aD (fun(v1:Int×(List ByteArray)×Unit)=>bif (decide (v1.1<((a0.length:Nat):Int)))then bu (fun(v2:(List ByteArray)×Unit)=>some (Sum.inl ((aA .i64 v1.1 1),v2.1,()))) fun j3=>(idx a0 v1.1).bind fun x4=>(dn (eT1 x4)).bind fun r5=>bif r5 then bif bL 16 (v1.2.1.length+List.length [x4.aa.Value])then j3 ((v1.2.1++[x4.aa.Value]),())else none else j3 (v1.2.1,())else oR ((eu v1.2.1).bind fun r6=>some r6)) (0,([]:List ByteArray),())
def BG:=kf func338 [t14] (.one y7) (u1 iI) [] (p_ 5 11 (.ps (.own 3 9 1 y3) (.j ⟨[.val 8 y0,.own 3 5 1 9 1 y3],[6,7]⟩ (p_ 3 6 (.j ⟨[.own 3 5 1 9 1 y3],[6,7,8]⟩ .e))))) [fL,sR]
def jb(s:List Int):Option (Unit×List Int):=vb (fun x y=>dW x y) s
noncomputable def sO:KS U prog:=⟨.rw 382 3 1 y0 [.bj 106 []] (.many []) fun s a=>jb s,Ma EK.enters EK.none kF.s ⟨Int.ofNat 0⟩ (fun _=>rfl) EK.Ck (fun _=>rfl)⟩
noncomputable def vM:SA U:=eX (iU prog 61 [] f383) (.r (.r (.l (.r (.l (.j ⟨[.val 3 y0,.own 0 0 0 3 1 y0],[]⟩ (.l (.r (.l (.l (.r (.l (.r (.b (.r (.l (.j ⟨[.val 3 y0,.val 5 y0,.own 0 0 0 3 1 y0],[4]⟩ (.l (.r (.j ⟨[.val 3 y0,.own 0 0 0 3 1 y0],[4,5]⟩ .e)))))) (.r (.l (.g [(4,.ps (.cut 2))])))))))))))))))))
noncomputable def lC(s:List Int):Option (List Int):=bif (decide (((s.length:Nat):Int)<2))then some s else aD (fun(v1:Int×(List Int)×Unit)=>bif (decide (v1.1<((v1.2.1.length:Nat):Int)))then(idx v1.2.1 v1.1).bind fun x2=>(v1.2.1[(Int.toNat v1.1)]?).bind fun x3=>(idx v1.2.1 (gf .i64 v1.1 1)).bind fun x4=>(v1.2.1[(Int.toNat (gf .i64 v1.1 1))]?).bind fun x5=>bif (decide (x3=x5))then bif dO v1.1 ((v1.2.1.length):Int) (v1.2.1.length)then aD (fun(v6:Int×Int×(List Int)×Unit)=>bif (decide (v6.2.1<((List.length ((v6.2.2.1.drop (Int.toNat v1.1)).take (Int.toNat ((v1.2.1.length):Int) - Int.toNat v1.1)):Nat):Int)))then bu (fun(v7:Int×(List Int)×Unit)=>some (Sum.inl (v7.1,(aA .i64 v6.2.1 1),v7.2.1,()))) fun j8=>(idx ((v6.2.2.1.drop (Int.toNat v1.1)).take (Int.toNat ((v1.2.1.length):Int) - Int.toNat v1.1)) v6.2.1).bind fun x9=>(v6.2.2.1[((Int.toNat v1.1)+Int.toNat v6.2.1)]?).bind fun x10=>(idx ((v6.2.2.1.drop (Int.toNat v1.1)).take (Int.toNat ((v1.2.1.length):Int) - Int.toNat v1.1)) (gf .i64 v6.2.1 1)).bind fun x11=>(v6.2.2.1[((Int.toNat v1.1)+Int.toNat (gf .i64 v6.2.1 1))]?).bind fun x12=>bif (!decide (x10=x12))then(idx ((v6.2.2.1.drop (Int.toNat v1.1)).take (Int.toNat ((v1.2.1.length):Int) - Int.toNat v1.1)) v6.2.1).bind fun x13=>(v6.2.2.1[((Int.toNat v1.1)+Int.toNat v6.2.1)]?).bind fun x14=>(idx v6.2.2.1 v6.1).bind fun x15=>(v6.2.2.1[(Int.toNat v6.1)]?).bind fun x16=>j8 ((aA .i64 v6.1 1),(v6.2.2.1.set (Int.toNat v6.1) x14),())else j8 (v6.1,v6.2.2.1,())else oR (bif dO v6.1 ((v6.2.2.1.length):Int) (v6.2.2.1.length)then bif dO 0 v6.1 (List.length (v6.2.2.1.take (Int.toNat v6.1)++List.replicate (Int.toNat ((v6.2.2.1.length):Int) - Int.toNat v6.1) 0++v6.2.2.1.drop ((Int.toNat v6.1)+(Int.toNat ((v6.2.2.1.length):Int) - Int.toNat v6.1))))then oR (some ((v6.2.2.1.take (Int.toNat v6.1)++List.replicate (Int.toNat ((v6.2.2.1.length):Int) - Int.toNat v6.1) 0++v6.2.2.1.drop ((Int.toNat v6.1)+(Int.toNat ((v6.2.2.1.length):Int) - Int.toNat v6.1))).take (Int.toNat v6.1 - Int.toNat 0)))else none else none)) (v1.1,1,v1.2.1,())else none else some (Sum.inl ((aA .i64 v1.1 1),v1.2.1,()))else oR (some v1.2.1)) (1,s,())
noncomputable def wQ:KS U prog:=⟨.cw 383 3 1 y0 [] fun s a=>lC s,JX (K:=K) vM 61 [.tmp 2] [] (fk f383 [] func383)⟩
noncomputable def tG:SA U:=eX (iU prog 10 [] f367) .e
def fp(s:List Int):Option (List Int):=(jb s).bind fun p1=>(lC p1.2).bind fun r2=>some r2
noncomputable def uN:KS U prog:=⟨.cw 367 3 1 y0 [.bj 106 []] fun s a=>fp s,JX (K:=K) tG 10 [.tmp 4] [sO,wQ] (fk f367 [] func367)⟩
def ez(a0:(List ai))(a1:ByteArray):Option (List Int):=aD (fun(v1:Int×(List Int)×Unit)=>bif (decide (v1.1<((a0.length:Nat):Int)))then bu (fun(v2:(List Int)×Unit)=>some (Sum.inl ((aA .i64 v1.1 1),v2.1,()))) fun j3=>(idx a0 v1.1).bind fun x4=>(dn (eT1 x4)).bind fun r5=>(bif r5 then some (decide (x4.aa.Value=a1))else some false).bind fun b6=>(bif b6 then some (!decide (x4.aQ=0))else some false).bind fun b7=>bif b7 then bif bL 8 (v1.2.1.length+List.length [x4.aQ,x4.bg])then j3 ((v1.2.1++[x4.aQ,x4.bg]),())else none else j3 (v1.2.1,())else oR ((fp v1.2.1).bind fun r8=>some r8)) (0,([]:List Int),())
def o9:=kf func339 [t14,t3] (.one y8) (u2 ez) [] (p_ 5 11 (.ps (.own 5 3 1 y0) (.j ⟨[.val 10 y0,.own 5 5 1 3 1 y0],[1,8,9]⟩ (p_ 3 6 (.j ⟨[.own 5 5 1 3 1 y0],[1,8,9,10]⟩ .e))))) [fL,uN]
def lH(a0:ByteArray)(a1:Int)(a2:af)(a3:af):Option Bool:=(dm a2 (af.mk a1 a0)).bind fun r1=>(bif r1 then some true else(dm a3 (af.mk a1 a0)).bind fun r2=>some r2).bind fun b3=>some b3
def wW:=kf func337 [t3,t0,.ref (t2),.ref (t2)] q1 (u4 lH) [] .e [rB]
noncomputable def lG(a0:ByteArray)(a1:Int)(a2:Int):Option (ByteArray×Int×Int×Unit):=some (a0,a1,a2,())
def wV:=kf func370 [t3,t0,t0] (.fn (.bj 385 [.ref (t3),.ref (t0),.ref (t0)])) (fun a=>lG a.1 a.2.1 a.2.2.1) [] .e []
noncomputable def ic(a0:bc)(a1:ByteArray)(a2:Int)(a3:Int):Option Bool:=(bif (decide (1<=a2))then some (decide (a2<=a3))else some false).bind fun b1=>(bif b1 then some (decide (a0.ax.aa.Value=a1))else some false).bind fun b2=>(bif b2 then some (decide (a0.ax.aQ<=a2))else some false).bind fun b3=>some b3
def qI:=kf func384 [t15,t3,t0,t0] q1 (u4 ic) [] .e []
def gd(a0:bc)(a1:ByteArray)(a2:Int)(a3:Int):Option Bool:=(ic (bc.mk (eT1 a0.ax)) a1 a2 a3).bind fun r1=>(bif r1 then(bif (!decide (a0.ax.bW=1))then some true else(bif (!decide (a0.ax.aQ=0))then some (decide (a3<=a0.ax.bg))else some false).bind fun b2=>some b2).bind fun b3=>some b3 else some false).bind fun b4=>some b4
def tq:=kf func369 [t15,t3,t0,t0] q1 (u4 gd) [] .e [qI]
def rN(a0:bc)(a1:ByteArray)(a2:Int)(a3:Int):Option Bool:=(gd (bc.mk (eT1 a0.ax)) a1 a2 a3).bind fun r1=>some r1
def D7:=kf func368 [t15,.ref (t3),.ref (t0),.ref (t0)] q1 (u4 rN) [] .e [tq]
def fF(a0:bc)(a1:ByteArray)(a2:Int)(a3:Int):Option Bool:=(ic (bc.mk (eT1 a0.ax)) a1 a2 a3).bind fun r1=>(bif r1 then(bif (decide (a0.ax.bW=3))then some true else(bif (decide (a0.ax.bW=2))then some (decide (a3<=a0.ax.bg))else some false).bind fun b2=>some b2).bind fun b3=>some b3 else some false).bind fun b4=>some b4
def sw:=kf func386 [t15,t3,t0,t0] q1 (u4 fF) [] .e [qI]
def jW(a0:bc)(a1:ByteArray)(a2:Int)(a3:Int):Option Bool:=(fF (bc.mk (eT1 a0.ax)) a1 a2 a3).bind fun r1=>some r1
def uQ:=kf func385 [t15,.ref (t3),.ref (t0),.ref (t0)] q1 (u4 jW) [] .e [sw]
def gL(a0:bc)(a1:ByteArray)(a2:Int)(a3:Int)(a4:ByteArray)(a5:Int)(a6:Int):Option Bool:=(rN (bc.mk (eT1 a0.ax)) a1 a2 a3).bind fun r1=>(bif r1 then some true else(jW (bc.mk (eT1 a0.ax)) a4 a5 a6).bind fun r2=>some r2).bind fun b3=>some b3
def qp:=kf func381 [t15,.ref (.bj 368 [.ref (t3),.ref (t0),.ref (t0)]),.ref (.bj 385 [.ref (t3),.ref (t0),.ref (t0)])] q1 (fun a=>gL a.1 a.2.1.1 a.2.1.2.1 a.2.1.2.2.1 a.2.2.1.1 a.2.2.1.2.1 a.2.2.1.2.2.1) [] .e [D7,uQ]
def fe(a0:eN)(a1:ByteArray)(a2:Int)(a3:Int)(a4:ByteArray)(a5:Int)(a6:Int):Option Int:=aD (fun(v1:Int×Int×Unit)=>bif (decide (v1.2.1<((a0.aB.length:Nat):Int)))then bu (fun(v2:Int×Unit)=>some (Sum.inl (v2.1,(aA .i64 v1.2.1 1),()))) fun j3=>(idx a0.aB v1.2.1).bind fun x4=>(gL (bc.mk (eT1 x4.ax)) a1 a2 a3 a4 a5 a6).bind fun r5=>bif r5 then if x4.ax.aq<0 then none else j3 ((n5 .i64 v1.1 (c7 .i64 1 x4.ax.aq)),())else j3 (v1.1,())else oR (some v1.1)) (0,0,())
def qG:=kf func180 [t10,.bj 381 [.ref (.bj 368 [.ref (t3),.ref (t0),.ref (t0)]),.ref (.bj 385 [.ref (t3),.ref (t0),.ref (t0)])]] q0 (fun a=>fe a.1 a.2.1.1.1 a.2.1.1.2.1 a.2.1.1.2.2.1 a.2.1.2.1.1 a.2.1.2.1.2.1 a.2.1.2.1.2.2.1) [] (p_ 5 11 (.j ⟨[.val 5 y0,.val 11 y0],[1,9,10]⟩ (p_ 3 6 (.j ⟨[.val 5 y0],[1,9,10,11]⟩ .e)))) [qp]
def gH(a0:eN)(a1:ByteArray)(a2:Int)(a3:Int):Option Int:=aD (fun(v1:Int×Int×Unit)=>bif (decide (v1.2.1<((a0.aB.length:Nat):Int)))then bu (fun(v2:Int×Unit)=>some (Sum.inl (v2.1,(aA .i64 v1.2.1 1),()))) fun j3=>(idx a0.aB v1.2.1).bind fun x4=>(jW (bc.mk (eT1 x4.ax)) a1 a2 a3).bind fun r5=>bif r5 then if x4.ax.aq<0 then none else j3 ((n5 .i64 v1.1 (c7 .i64 1 x4.ax.aq)),())else j3 (v1.1,())else oR (some v1.1)) (0,0,())
def qe:=kf func180 [t10,.bj 385 [.ref (t3),.ref (t0),.ref (t0)]] q0 (fun a=>gH a.1 a.2.1.1 a.2.1.2.1 a.2.1.2.2.1) [] (p_ 5 11 (.j ⟨[.val 5 y0,.val 11 y0],[1,9,10]⟩ (p_ 3 6 (.j ⟨[.val 5 y0],[1,9,10,11]⟩ .e)))) [uQ]
def iy(a0:eN)(a1:ByteArray)(a2:Int)(a3:Int)(a4:ByteArray)(a5:Int)(a6:Int):Option Bool:=(fe a0 a1 a2 a3 a4 a5 a6).bind fun r1=>(gH a0 a4 a5 a6).bind fun r2=>(eL a0.View a0.aq r1 r2).bind fun r3=>some r3
def rj:=kf func361 [t10,.bj 368 [.ref (t3),.ref (t0),.ref (t0)],.bj 385 [.ref (t3),.ref (t0),.ref (t0)]] q1 (fun a=>iy a.1 a.2.1.1 a.2.1.2.1 a.2.1.2.2.1 a.2.2.1.1 a.2.2.1.2.1 a.2.2.1.2.2.1) [] .e [qG,qe,oy]
def fG(a0:eN)(a1:ByteArray)(a2:Int)(a3:Int):Option Bool:=(lG a1 a2 a3).bind fun r1=>(iy a0 a1 a2 a3 r1.1 r1.2.1 r1.2.2.1).bind fun r2=>some r2
def nm:=kf func340 [t10,t3,t0,t0] q1 (u4 fG) [] .e [wV,rj]
noncomputable def bE(a0:(List Int)):Option ((List Int)×Unit):=some (a0,())
def eG:=kf func343 [t8] (.fn (.bj 371 [.ref (t8)])) (fun a=>bE a.1) [] .e []
def tV:KS U prog:=⟨.bk 371 1 none,(⟨f371,[],func371,rfl,by kernel_rfl,by kernel_rfl,by kernel_rfl⟩:ix prog 371 19 (xd 1 none) [])⟩
def kl(a0:Int)(a1:af)(a2:af)(a3:af)(a4:eN):Option Bool:=(lH a3.Value a0 a1 a2).bind fun r1=>(bif (!r1)then(fG a4 a3.Value a0 a3.ae).bind fun r2=>some r2 else some false).bind fun b3=>some b3
def yT:=kf func342 [t0,.ref (.bj 337 [.ref (t2),.ref (t2)]),.ref (t2),.ref (t10)] q1 (fun a=>kl a.1 a.2.1.1 a.2.1.2.1 a.2.2.1 a.2.2.2.1) [] .e [wW,nm]
def gS(a0:(List Int))(a1:Int)(a2:af)(a3:af)(a4:af)(a5:eN):Option Int:=bu (fun(v1:Int×Unit)=>some v1.1) fun j2=>(bE a0).bind fun r3=>kb (fun(m5:Nat) (e6:Int) (v4:Int×Unit)=>bif (decide (v4.1<=e6))then some (Sum.inl (v4.1,()))else(kl e6 a2 a3 a4 a5).bind fun r7=>bif (!r7)then oR (j2 (v4.1,()))else some (Sum.inl (e6,()))) (fun(v8:Int×Unit)=>j2 (v8.1,())) (List.reverse r3.1) (a1,())
def uP:=kf func341 [t8,t0,.bj 342 [.ref (.bj 337 [.ref (t2),.ref (t2)]),.ref (t2),.ref (t10)]] q0 (fun a=>gS a.1 a.2.1 a.2.2.1.1.1 a.2.2.1.1.2.1 a.2.2.1.2.1 a.2.2.1.2.2.1) [] (.r (.j ⟨[.box 0 1 y0 []],[4]⟩ (p_ 3 2 (.k ⟨[.box 0 1 y0 []],[4,5,10]⟩ 371 1 none y0 .e)))) [eG,tV,yT]
def nG(a0:Int)(a1:an)(a2:(List ai))(a3:af)(a4:af):Option (ByteArray×Int×Int×Bool×Unit):=(dM a0 (aw a1) a2).bind fun r1=>(iI a2).bind fun r2=>aD (fun(v3:Bool×Int×af×Unit)=>bif (decide (v3.2.1<((r2.length:Nat):Int)))then(idx r2 v3.2.1).bind fun x4=>(ez a2 x4).bind fun r5=>aD (fun(v6:Bool×Int×af×Unit)=>bif (decide (v6.2.1<((r5.length:Nat):Int)))then bu (fun(v7:Bool×af×Unit)=>some (Sum.inl (v7.1,(aA .i64 v6.2.1 1),v7.2.1,()))) fun j8=>(idx r5 v6.2.1).bind fun x9=>(dj v6.2.2.1 (af.mk x9 x4)).bind fun r10=>(bif r10 then(lH x4 x9 a3 a4).bind fun r11=>some (!r11)else some false).bind fun b12=>(bif b12 then(fG r1 x4 x9 x9).bind fun r13=>some r13 else some false).bind fun b14=>bif b14 then j8 (true,(af.mk x9 x4),())else j8 (v6.1,v6.2.2.1,())else oR (some (Sum.inl (v6.1,(aA .i64 v3.2.1 1),v6.2.2.1,())))) (v3.1,0,v3.2.2.1,())else oR (bif (!v3.1)then some ((ByteArray.mk #[]),0,0,false,())else(ez a2 v3.2.2.1.Value).bind fun r15=>(gS r15 v3.2.2.1.ae a3 a4 v3.2.2.1 r1).bind fun r16=>some (v3.2.2.1.Value,r16,v3.2.2.1.ae,true,()))) (false,0,zB,())
def GD:=kf func297 [t0,t4,t14,t2,t2] (.many [y3,y0,y0,y1]) (u5 nG) [] (p_ 7 47 (.j ⟨[.val 13 y1,.val 30 y0,.box 16 1 y2 []],[2,14,15,16,28,29]⟩ (p_ 8 102 (.j ⟨[.val 13 y1,.val 38 y0,.box 16 1 y2 []],[2,14,15,16,18,28,29,30,36,37]⟩ (p_ 3 6 (.j ⟨[.val 13 y1,.box 16 1 y2 []],[2,14,15,16,18,28,29,30,36,37,38]⟩ .e)))))) [lg,BG,o9,gB,wW,nm,uP]
def nf(a0:Int)(a1:eN)(a2:ByteArray)(a3:Int):Option Bool:=(fG a1 a2 a0 a3).bind fun r1=>some r1
def C7:=kf func344 [t0,.ref (t10),.ref (t3),.ref (t0)] q1 (u4 nf) [] .e [nm]
def ij(a0:(List Int))(a1:Int)(a2:eN)(a3:ByteArray)(a4:Int):Option Int:=bu (fun(v1:Int×Unit)=>some v1.1) fun j2=>(bE a0).bind fun r3=>kb (fun(m5:Nat) (e6:Int) (v4:Int×Unit)=>bif (decide (v4.1<=e6))then some (Sum.inl (v4.1,()))else(nf e6 a2 a3 a4).bind fun r7=>bif (!r7)then oR (j2 (v4.1,()))else some (Sum.inl (e6,()))) (fun(v8:Int×Unit)=>j2 (v8.1,())) (List.reverse r3.1) (a1,())
def yj:=kf func341 [t8,t0,.bj 344 [.ref (t10),.ref (t3),.ref (t0)]] q0 (fun a=>ij a.1 a.2.1 a.2.2.1.1 a.2.2.1.2.1 a.2.2.1.2.2.1) [] (.r (.j ⟨[.box 0 1 y0 []],[4]⟩ (p_ 3 2 (.k ⟨[.box 0 1 y0 []],[4,5,10]⟩ 371 1 none y0 .e)))) [eG,tV,C7]
def nc(a0:Int)(a1:eN)(a2:ByteArray)(a3:Int):Option Bool:=(fG a1 a2 a0 a3).bind fun r1=>some r1
def C6:=kf func345 [t0,.ref (t10),.ref (t3),.ref (t0)] q1 (u4 nc) [] .e [nm]
def fH(a0:(List Int))(a1:Int)(a2:eN)(a3:ByteArray)(a4:Int):Option Int:=bu (fun(v1:Int×Unit)=>some v1.1) fun j2=>(bE a0).bind fun r3=>kb (fun(m5:Nat) (e6:Int) (v4:Int×Unit)=>bif (decide (v4.1<=e6))then some (Sum.inl (v4.1,()))else(nc e6 a2 a3 a4).bind fun r7=>bif (!r7)then oR (j2 (v4.1,()))else some (Sum.inl (e6,()))) (fun(v8:Int×Unit)=>j2 (v8.1,())) (List.reverse r3.1) (a1,())
def yi:=kf func341 [t8,t0,.bj 345 [.ref (t10),.ref (t3),.ref (t0)]] q0 (fun a=>fH a.1 a.2.1 a.2.2.1.1 a.2.2.1.2.1 a.2.2.1.2.2.1) [] (.r (.j ⟨[.box 0 1 y0 []],[4]⟩ (p_ 3 2 (.k ⟨[.box 0 1 y0 []],[4,5,10]⟩ 371 1 none y0 .e)))) [eG,tV,C6]
def mI(a0:Int)(a1:an)(a2:(List ai))(a3:ByteArray)(a4:Int)(a5:Int):Option (Int×Int×Unit):=(dM a0 (aw a1) a2).bind fun r1=>(ez a2 a3).bind fun r2=>bu (fun(v3:Int×Int×Unit)=>(fH r2 v3.1 r1 a3 v3.2.1).bind fun r5=>some (r5,v3.2.1,())) fun j4=>(bE r2).bind fun r6=>kb (fun(m8:Nat) (e9:Int) (v7:Int×Int×Unit)=>(bif (decide (e9<=v7.2.1))then some true else(fG r1 a3 e9 e9).bind fun r10=>some (!r10)).bind fun b11=>bif b11 then some (Sum.inl (v7.1,v7.2.1,()))else(ij r2 e9 r1 a3 e9).bind fun r12=>bu (fun(v13:Int×Unit)=>oR (j4 (v13.1,e9,()))) fun j14=>(bif (decide (v7.2.1<(gf .i64 r12 1)))then some true else some (decide (r12<v7.1))).bind fun b15=>bif b15 then j14 (r12,())else j14 (v7.1,())) (fun(v16:Int×Int×Unit)=>j4 (v16.1,v16.2.1,())) (List.reverse r6.1) (a4,a5,())
def Fx:=kf func298 [t0,t4,t14,t3,t0,t0] (.many [y0,y0]) (u6 mI) [] (p_ 3 7 (.j ⟨[.box 2 1 y0 [],.box 3 1 y0 []],[9,10,11,14,15]⟩ (p_ 3 2 (.k ⟨[.box 2 1 y0 [],.box 3 1 y0 []],[9,10,11,14,15,27]⟩ 371 1 none y0 (p_ 4 13 (.j ⟨[.box 2 1 y0 []],[9,10,11,14,15,17,27]⟩ .e)))))) [lg,o9,eG,tV,nm,yj,yi]
def je(s:av):Option ((Unit)×av):=bif (decide (s.aj.aJ=1))then(cu (av.mk (eT2 s.aj))).bind fun p1=>(nG s.aj.aq (aw s.aj.ao) p1.1 s.aj.ak s.aj.au).bind fun r2=>bif (!r2.2.2.2.1)then some ((()),(av.mk (eT2 s.aj)))else bu (fun(v3:av×Unit)=>bu (fun(v5:av×Unit)=>some ((()),(av.mk {v5.1.aj with ao:=(aw v5.1.aj.ao),aJ:=2,au:=zB,ar:=(af.mk r2.2.2.1 r2.1),aQ:=r2.2.1,bg:=r2.2.2.1}))) fun j6=>bu (fun(v7:Bool×Unit)=>bif v7.1 then j6 ((av.mk {v3.1.aj with ao:=(aw v3.1.aj.ao),ak:=(af.mk r2.2.2.1 r2.1)}),())else j6 ((av.mk (eT2 v3.1.aj)),())) fun j8=>(dj v3.1.aj.ak (af.mk r2.2.2.1 r2.1)).bind fun r9=>bif r9 then j8 (true,())else(bz v3.1.aj.ak (af.mk r2.2.2.1 r2.1)).bind fun r10=>j8 ((!r10),())) fun j4=>bu (fun(v11:Bool×Unit)=>bif v11.1 then j4 ((av.mk {s.aj with ao:=(aw s.aj.ao),aa:=(af.mk (bn s.aj.aa.ae r2.2.2.1) r2.1)}),())else j4 ((av.mk (eT2 s.aj)),())) fun j12=>(dj s.aj.aa (af.mk r2.2.2.1 r2.1)).bind fun r13=>bif r13 then j12 (true,())else(bz s.aj.aa (af.mk r2.2.2.1 r2.1)).bind fun r14=>j12 ((!r14),())else bif (decide (s.aj.aJ=2))then(cu (av.mk (eT2 s.aj))).bind fun p15=>(mI s.aj.aq (aw s.aj.ao) p15.1 s.aj.aa.Value s.aj.aQ s.aj.bg).bind fun r16=>some ((()),(av.mk {s.aj with ao:=(aw s.aj.ao),aa:=(af.mk (bn s.aj.aa.ae r16.2.1) s.aj.aa.Value),ak:=(af.mk (bn s.aj.ak.ae r16.2.1) s.aj.aa.Value),ar:=(af.mk (bn s.aj.ar.ae r16.2.1) s.aj.aa.Value),aQ:=r16.1,bg:=r16.2.1}))else some ((()),(av.mk (eT2 s.aj)))
def wT:=kr func262 0 y6 [] (.many []) (fun s a=>je s) [180] (p_ 3 5 (.b (p_ 3 7 (.j ⟨[.box 0 0 y6 []],[0,3,4,6]⟩ (.b (.j ⟨[.val 65 y1],[0,2,3,4,6]⟩ .e) (.j ⟨[.box 0 0 y6 []],[0,3,4,6]⟩ (.l (.j ⟨[.val 96 y1],[0,3,4,6]⟩ .e)))))) (p_ 5 13 (.u 4 .e)))) [iH,GD,gB,cr,Fx]
def jC(a0:eN)(a1:ByteArray)(a2:Int)(a3:Int):Option Bool:=(gH a0 a1 a2 a3).bind fun r1=>(et a0.View a0.aq r1).bind fun r2=>some r2
def tT:=kf func335 [t10,.bj 385 [.ref (t3),.ref (t0),.ref (t0)]] q1 (fun a=>jC a.1 a.2.1.1 a.2.1.2.1 a.2.1.2.2.1) [] .e [qe,nN]
def ky(a0:eN)(a1:ByteArray)(a2:Int)(a3:Int):Option Bool:=(lG a1 a2 a3).bind fun r1=>(jC a0 r1.1 r1.2.1 r1.2.2.1).bind fun r2=>some r2
def AF:=kf func346 [t10,t3,t0,t0] q1 (u4 ky) [] .e [wV,tT]
end Go.Proofs.YtjbfdglebjnelaaGreat
end
